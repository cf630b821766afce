/- The layer E, part 22: a function's whole code; a call of it. No condition. -/
import Derived.Test.YtdcdmpgigmhhpaaE34
namespace Go.Proofs.Ytdcdmpgigmhhpaa.E
set_option linter.unusedSimpArgs false
set_option linter.unusedVariables false

def planPc (ops : Array Oper) : List (List Nat) :=
  (List.range ops.size).foldl (fun acc i => acc ++ [((preOf ops i).flatMap fun p => p :: acc.getD p []).eraseDups]) []

def planOrd (ops : Array Oper) (quiet : Nat → Bool) : Nat → List Nat → List Nat → List Nat
  | 0, _, done => done.reverse
  | fuel + 1, left, done =>
    let ready := left.filter fun i => (preOf ops i).all (done.contains ·)
    match ready.find? quiet with
    | some i => planOrd ops quiet fuel (left.erase i) (i :: done)
    | none => match ready with
      | i :: _ => planOrd ops quiet fuel (left.erase i) (i :: done)
      | [] => done.reverse

def planRe (pc : Nat → List Nat) (kind : Nat → Nat) : List Nat → List Nat → List (Nat × List Nat)
  | _, [] => []
  | seen, i :: rest => (i, if kind i == 2 then (seen.filter fun a => kind a == 1 && !(pc i).contains a) else []) :: planRe pc kind (i :: seen) rest

def compDraw (P : Program) (n : Nat) (ops : Array Oper) : Option (List EI) :=
  match mapAll (compG P n ops) ops.toList with
  | none => none
  | some gs =>
    let pcl := planPc ops
    let ord := planOrd ops (fun i => (gs.getD i default).act.kind < 2) ops.size (List.range ops.size) []
    let rel := planRe (fun i => pcl.getD i []) (fun i => (gs.getD i default).act.kind) [] ord
    if P.follows .mixedOrders && ((List.range ops.size).all (ord.contains ·) && (decide (ord.length ≤ ops.size) && chk ops (fun i => gs.getD i default) (fun i => (rel.lookup i).getD []) (fun i => pcl.getD i []) [] ord)) then
      some (ord.map (annI (fun i => gs.getD i default) fun i => (rel.lookup i).getD []))
    else none

theorem compI_all {P : Program} {n : Nat} {ops : Array Oper} {gs : List EG} (h : mapAll (compG P n ops) ops.toList = some gs) : ∀ is : List Nat, (∀ i, i ∈ is → i < ops.size) →
    compI P n ops is = some (is.map (annI (fun i => gs.getD i default) fun _ => []))
  | [], _ => rfl
  | i :: is, hi => by
    obtain ⟨g1, g2⟩ := mapAll_get h
    have hlt := hi i (by simp)
    have hg' : i < gs.length := by simpa [g1] using hlt
    have hg : gs[i]? = some gs[i] := List.getElem?_eq_getElem hg'
    obtain ⟨o, q1, q2⟩ := g2 i _ hg
    have ho : ops[i]? = some o := by simpa using q1
    simp only [compI, ho, q2]
    rw [compI_all h is (fun j hj => hi j (by simp [hj]))]
    simp only [List.map_cons, annI, List.map_nil, List.getD_eq_getElem?_getD, hg, Option.getD_some]

theorem goR_lt {m : Region.Mode} {ops : Array Oper} : ∀ (fuel tk : Nat) (listed : Array Bool), ∀ i, i ∈ goR m ops fuel tk listed → i < ops.size
  | 0, _, _, i, h => by simp [goR] at h
  | fuel + 1, tk, listed, i, h => by
    simp only [goR] at h
    split at h
    · rename_i j hj
      have := List.mem_of_getElem? hj
      rw [List.mem_filter, List.mem_range] at this
      rcases List.mem_cons.1 h with q | q
      · subst q; exact this.1
      · exact goR_lt fuel _ _ i q
    · simp at h

theorem draw_ok {P : Program} {n : Nat} {ops : Array Oper} {gs : List EG} (hgs : mapAll (compG P n ops) ops.toList = some gs) {re pc : Nat → List Nat} {ord : List Nat} (c1 : P.follows .mixedOrders = true)
    (c2 : ∀ x, x < ops.size → x ∈ ord) (c4 : ord.length ≤ ops.size) (c3 : chk ops (fun i => gs.getD i default) re pc [] ord = true) {Q : Post} {t : Nat → V} {hp : List Ob} (w : wpI P Q (ord.map (annI (fun i => gs.getD i default) re)) t hp) (tk : Nat) :
    ∃ l', compI P n ops (Region.schedule (P.follows .mixedOrders) ops tk) = some l' ∧ wpI P Q l' t hp := by
  have hs := chk_spec _ _ c3
  have hsch : Region.schedule (P.follows .mixedOrders) ops tk = goR .any ops ops.size tk (Array.replicate ops.size false) := by
    unfold Region.schedule Region.linearise
    rw [c1]
    simp only [Bool.true_or, if_true, go_eq, List.reverse_nil, List.nil_append]
  rw [hsch]
  have hrep : ∀ i, (Array.replicate ops.size false).getD i false = false := by
    intro i
    rw [Array.getD_eq_getD_getElem?, Array.getElem?_replicate]
    split <;> rfl
  have hv : Vd ops (fun i => gs.getD i default) re pc (fun i => (Array.replicate ops.size false).getD i false = true) ord := by
    intro A i B e
    obtain ⟨g1, g2, g3⟩ := hs A i B e
    have key : ∀ j, (j ∈ A ∨ j ∈ ([] : List Nat)) → (j ∈ A ∨ (Array.replicate ops.size false).getD j false = true) := fun j q => q.elim .inl (fun z => by simp at z)
    exact ⟨g1.1, ⟨g2.lt, fun p hp => key p (g2.pre p hp), fun j hj => ⟨key j (g2.pcs j hj).1, (g2.pcs j hj).2⟩, g2.quiet, fun r hr => key r (g2.res r hr)⟩, fun a ha => g3 a (.inl ha)⟩
  have hmem : ∀ i, i ∈ ord → i < ops.size := fun i hi => by
    obtain ⟨A, B, e⟩ := List.append_of_mem hi
    exact (hs A i B e).2.1.lt
  exact ⟨_, compI_all hgs _ (goR_lt _ _ _), draw_main ops.size tk _ ord t hp c4 (by simp) (fun i => ⟨fun q => ⟨hmem i q, hrep i⟩, fun q => c2 i q.1⟩) (fun i q => by rw [hrep] at q; cases q) hv w⟩

theorem compDraw_sound {P : Program} {n : Nat} {ops : Array Oper} {l : List EI} (h : compDraw P n ops = some l) {Q : Post} {t : Nat → V} {hp : List Ob} (w : wpI P Q l t hp) (tk : Nat) :
    ∃ l', compI P n ops (Region.schedule (P.follows .mixedOrders) ops tk) = some l' ∧ wpI P Q l' t hp := by
  unfold compDraw at h
  split at h
  · cases h
  · rename_i gs hgs
    simp only at h
    split at h
    · rename_i hc
      injection h with h; subst h
      simp only [Bool.and_eq_true, List.all_eq_true, List.mem_range, List.contains_eq_mem, decide_eq_true_eq] at hc
      obtain ⟨c1, c2, c4, c3⟩ := hc
      exact draw_ok hgs c1 c2 c4 c3 w tk
    · cases h

theorem mapAll_get' {α β : Type} {f : α → Option β} : ∀ {xs : List α} {ys : List β}, mapAll f xs = some ys → ∀ (i : Nat) (hi : i < xs.length), ∃ y, y ∈ ys ∧ f xs[i] = some y
  | [], ys, h, i, hi => by simp at hi
  | x :: xs, ys, h, i, hi => by
    simp only [mapAll] at h
    split at h
    · rename_i y ys' h1 h2
      injection h with h; subst h
      cases i with
      | zero => exact ⟨y, by simp, h1⟩
      | succ i =>
        obtain ⟨y', g1, g2⟩ := mapAll_get' h2 i (by simpa using hi)
        exact ⟨y', by simp [g1], by simpa using g2⟩
    · cases h

/-- What isn't covered: it must not be reached. -/
def badC : EC := .reg [⟨none, none, .bad, []⟩]

def comp (P : Program) (n : Nat) : Code → Option EC
  | .skip => some .skip
  | .region _ ops false => match compI P n ops (List.range ops.size) with
    | some l => some (.reg l)
    | none => some badC
  | .region _ ops true => match compDraw P n ops with
    | some l => some (.reg l)
    | none => match compDraws P n ops with
      | some ls => some (.draw ls)
      | none => if ops.size ≤ 8 then (mapAll (compI P n ops) (ordersOf P ops)).map .draw else some badC
  | .seq a b => match comp P n a, comp P n b with
    | some a, some b => some (.seq a b)
    | _, _ => none
  | .cond c a b => match cOpd n c, comp P n a, comp P n b with
    | some c, some a, some b => some (.cond c a b)
    | _, _, _ => none
  | .block id b => (comp P n b).map (.block id)
  | .loop b => (comp P n b).map .loop
  | .exit id => some (.exit id)
  | .ret => some .ret
  | _ => some badC

theorem badC_no {P : Program} {Q : Post} {t : Nat → V} {h : List Ob} (w : wpC P badC Q t h) : False := w

theorem up_post {n : Nat} {Q Q' : Post} {L : Loc} {w : World} {e : Exit} {a : Act} {w' : World} (u : up n Q L w e a w') (h : ∀ x t h', Q x t h' → Q' x t h') : up n Q' L w e a w' := by
  obtain ⟨x, t', h', L', h1, h2, rest⟩ := u
  exact ⟨x, t', h', L', h1, h _ _ _ h2, rest⟩

/-- What 'up' of a sequence's post comes to. -/
theorem up_then {n : Nat} {Q : Post} {next : (Nat → V) → List Ob → Prop} {L : Loc} {w : World} {e : Exit} {a : Act} {w' : World} {N : Act → World → Prop} {R : Exit → Act → World → Prop}
    (u : up n (thenQ next Q) L w e a w') (hn : ∀ t h L', next t h → TRel L' w' n t a.tmps → a.defers = [] → HRel L' h w' → Fr (Own L) w w' → Ext L w L' → N a w')
    (hr : e ≠ .normal → up n Q L w e a w' → R e a w') : Exit.then N R e a w' := by
  obtain ⟨x, t', h', L', rfl, h2, h3, h4, h5, h6, h7⟩ := u
  cases x with
  | normal => exact hn t' h' L' h2 h3 h4 h5 h6 h7
  | exit id => exact hr (by simp [EX.up]) ⟨.exit id, t', h', L', rfl, h2, h3, h4, h5, h6, h7⟩
  | ret => exact hr (by simp [EX.up]) ⟨.ret, t', h', L', rfl, h2, h3, h4, h5, h6, h7⟩

def WP (P : Program) (n : Nat) (c : Code) (Q : Post) (t : Nat → V) (h : List Ob) : Prop :=
  ∀ L w a, TRel L w n t a.tmps → a.defers = [] → HRel L h w → c.wp P (up n Q L w) a w

theorem wpC_loop {P : Program} {n : Nat} {c : Code} {Q : Post} (I : Nat → (Nat → V) → List Ob → Prop)
    (round : ∀ m t h, I m t h → WP P n c (thenQ (fun t' h' => ∃ m', m' < m ∧ I m' t' h') Q) t h) {m : Nat} {t : Nat → V} {h : List Ob} (h0 : I m t h) : WP P n (.loop c) Q t h := by
  intro L w a r hd H b k cs
  have key : ∀ m t h, I m t h → ∀ L w a, TRel L w n t a.tmps → a.defers = [] → HRel L h w →
      ∃ e a' w', up n Q L w e a' w' ∧ Arrives P (lone (b.at a (.code c :: .inLoop c :: k)) cs w) b k cs e a' w' := by
    intro m
    induction m using Nat.strongRecOn with
    | _ m ih =>
      intro t h hI L w a r hd H
      obtain ⟨e, a₁, w₁, hq, harr⟩ := round m t h hI L w a r hd H b (.inLoop c :: k) cs
      obtain ⟨x, t', h', L', rfl, h2, h3, h4, h5, h6, h7⟩ := hq
      cases x with
      | normal =>
        obtain ⟨m', hlt, hI'⟩ := h2
        obtain ⟨e₂, a₂, w₂, hq₂, harr₂⟩ := ih m' hlt t' h' hI' L' w₁ a₁ h3 h4 h5
        exact ⟨e₂, a₂, w₂, up_trans h6 h7 hq₂, .of_steps (Steps.trans harr (.one step_inLoop)) harr₂⟩
      | exit id => exact ⟨_, a₁, w₁, ⟨.exit id, t', h', L', rfl, h2, h3, h4, h5, h6, h7⟩, .pass (x := .inLoop c) rfl (fun _ _ => .inl (by simp [EX.up])) harr⟩
      | ret => exact ⟨_, a₁, w₁, ⟨.ret, t', h', L', rfl, h2, h3, h4, h5, h6, h7⟩, .pass (x := .inLoop c) rfl (fun _ _ => .inl (by simp [EX.up])) harr⟩
  obtain ⟨e, a', w', hq, harr⟩ := key m t h h0 L w a r hd H
  exact ⟨e, a', w', hq, .of_steps (.one step_loop) harr⟩

theorem comp_sound {P : Program} {n : Nat} : ∀ (c : Code) (x : EC), comp P n c = some x → ∀ (Q : Post) (t : Nat → V) (h : List Ob), wpC P x Q t h → WP P n c Q t h := by
  intro c
  induction c with
  | skip =>
    intro x hc Q t h hq L w a r hd H
    simp only [comp, Option.some.injEq] at hc
    subst hc
    exact wp_skip ⟨.normal, t, h, L, rfl, hq, r, hd, H, Fr.refl _ _, Ext.refl _ _⟩
  | region id ops draw =>
    intro x hc Q t h hq L w a r hd H
    cases draw with
    | false =>
      simp only [comp] at hc
      split at hc
      · rename_i l h1
        injection hc with hc; subst hc
        exact wp_region (wpI_sound _ l h1 t h hq L w a r hd H _ (fun _ _ _ u => u))
      · injection hc with hc; subst hc; exact (badC_no hq).elim
    | true =>
      have fr := fr_drew (Own L) w
      have ex := Ext.refl L w
      simp only [comp] at hc
      split at hc
      · rename_i l hl
        injection hc with hc; subst hc
        refine wp_region_draw (fun tk => ?_)
        obtain ⟨l', e1, e2⟩ := compDraw_sound hl hq tk
        exact wpI_sound _ l' e1 t h e2 L { w with drawn := w.drawn + 1 } a (r.step H fr ex) hd H.drew _ (fun _ _ _ u => up_trans fr ex u)
      · split at hc
        · rename_i ls hls
          injection hc with hc; subst hc
          refine wp_region_draw (fun tk => ?_)
          obtain ⟨l', e1, e2⟩ := compDraws_sound hls hq tk
          exact wpI_sound _ l' e1 t h e2 L { w with drawn := w.drawn + 1 } a (r.step H fr ex) hd H.drew _ (fun _ _ _ u => up_trans fr ex u)
        · split at hc
          · simp only [Option.map_eq_some_iff] at hc
            obtain ⟨ls, h1, rfl⟩ := hc
            refine wp_region_draw (fun tk => ?_)
            have hm := schedule_mem P ops tk
            obtain ⟨i, hlt, hi⟩ := List.mem_iff_getElem.1 hm
            obtain ⟨y, g3, g4⟩ := mapAll_get' h1 i hlt
            rw [← hi]
            exact wpI_sound _ y g4 t h (hq y g3) L { w with drawn := w.drawn + 1 } a (r.step H fr ex) hd H.drew _ (fun _ _ _ u => up_trans fr ex u)
          · injection hc with hc; subst hc; exact (badC_no hq).elim
  | seq c1 c2 ih1 ih2 =>
    intro x hc Q t h hq L w a r hd H
    simp only [comp] at hc
    split at hc
    · rename_i x1 x2 h1 h2
      injection hc with hc; subst hc
      refine wp_seq (wp_mono (ih1 x1 h1 _ t h hq L w a r hd H) (fun e a' w' u => ?_))
      exact up_then u (fun t' h' L' hn r' hd' H' fr ex => wp_mono (ih2 x2 h2 Q t' h' hn L' w' a' r' hd' H') (fun _ _ _ u' => up_trans fr ex u')) (fun _ u' => u')
    · cases hc
  | cond c c1 c2 ih1 ih2 =>
    intro x hc Q t h hq L w a r hd H
    simp only [comp] at hc
    split at hc
    · rename_i o x1 x2 h0 h1 h2
      injection hc with hc; subst hc
      have rc := cOpd_rep r h0
      simp only [wpC] at hq
      split at hq
      · rename_i q
        rw [q] at rc
        refine wp_cond_true ?_ (ih1 x1 h1 _ t h hq L w a r hd H)
        generalize a.eval c = z at rc
        cases rc; rfl
      · rename_i q
        rw [q] at rc
        refine wp_cond_false ?_ (ih2 x2 h2 _ t h hq L w a r hd H)
        generalize a.eval c = z at rc
        cases rc; rfl
      · exact hq.elim
    · cases hc
  | block id c ih =>
    intro x hc Q t h hq L w a r hd H
    simp only [comp, Option.map_eq_some_iff] at hc
    obtain ⟨x1, h1, rfl⟩ := hc
    refine wp_block (wp_mono (ih x1 h1 _ t h hq L w a r hd H) (fun e a' w' u => ?_))
    obtain ⟨x, t', h', L', rfl, h2, rest⟩ := u
    cases x with
    | normal => exact ⟨.normal, t', h', L', rfl, h2, rest⟩
    | exit j =>
      simp only [blockQ] at h2
      simp only [EX.up, Exit.inBlock]
      split
      · rename_i hj; rw [if_pos hj] at h2; exact ⟨.normal, t', h', L', rfl, h2, rest⟩
      · rename_i hj; rw [if_neg hj] at h2; exact ⟨.exit j, t', h', L', rfl, h2, rest⟩
    | ret => exact ⟨.ret, t', h', L', rfl, h2, rest⟩
  | loop c ih =>
    intro x hc Q t h hq
    simp only [comp, Option.map_eq_some_iff] at hc
    obtain ⟨x1, h1, rfl⟩ := hc
    obtain ⟨I, ⟨m, h0⟩, round⟩ := hq
    exact wpC_loop I (fun m t h hI => ih x1 h1 _ t h (round m t h hI)) h0
  | exit id =>
    intro x hc Q t h hq L w a r hd H
    simp only [comp, Option.some.injEq] at hc
    subst hc
    exact wp_exit ⟨.exit id, t, h, L, rfl, hq, r, hd, H, Fr.refl _ _, Ext.refl _ _⟩
  | ret =>
    intro x hc Q t h hq L w a r hd H
    simp only [comp, Option.some.injEq] at hc
    subst hc
    exact wp_ret ⟨.ret, t, h, L, rfl, hq, r, hd, H, Fr.refl _ _, Ext.refl _ _⟩
  | rangeFunc => intro x hc Q t h hq; simp only [comp, Option.some.injEq] at hc; subst hc; exact (badC_no hq).elim
  | scope => intro x hc Q t h hq; simp only [comp, Option.some.injEq] at hc; subst hc; exact (badC_no hq).elim
  | label => intro x hc Q t h hq; simp only [comp, Option.some.injEq] at hc; subst hc; exact (badC_no hq).elim
  | goto => intro x hc Q t h hq; simp only [comp, Option.some.injEq] at hc; subst hc; exact (badC_no hq).elim
  | refuse => intro x hc Q t h hq; simp only [comp, Option.some.injEq] at hc; subst hc; exact (badC_no hq).elim

/-! ### A function -/
inductive ERs where
  | t (i : Nat)
  | l1 (i : Nat)
  | ln (n i : Nat)
  deriving Inhabited, Repr

def ERs.ev (t : Nat → V) (h : List Ob) : ERs → Option V
  | .t i => some (t i)
  | .l1 i => evLoad1 h (t i)
  | .ln n i => evLoadN h n (t i)

structure EFn where
  n : Nat
  res : List ERs
  code : EC
  deriving Inhabited, Repr

def compRes (P : Program) (n : Nat) : ResultVar → Option ERs
  | .tmp t => if t < n then some (.t t) else none
  | .cell a t => if a < n then match P.info? t, P.underlying t with
      | some i, some _ => if isStruct P t then some (.ln i.size a) else some (.l1 a)
      | _, _ => none
    else none

def compF (P : Program) (fn : Func) : Option EFn := match fn.body with
  | none => none
  | some c => match comp P fn.ntmps c, mapAll (compRes P fn.ntmps) fn.results.toList with
    | some x, some rs => some ⟨fn.ntmps, rs, x⟩
    | _, _ => none

def env0 (args : List V) : Nat → V := fun i => args.getD i (.tup [])

def resK (rs : List ERs) (t : Nat → V) (h : List Ob) (K : V → Prop) : Prop := match mapAll (ERs.ev t h) rs with
  | none => False
  | some [v] => K v
  | some vs => K (.tup vs)

def ResFn (P : Program) (tm : Array Value) (g : ResultVar → Sem Value) : Prop :=
  (∀ t, g (.tmp t) = pure (tm.getD t undef)) ∧ ∀ a t, g (.cell a t) = (do loadVar t (← asAddr (tm.getD a undef)))

theorem run_loadVar1 {P : Program} {L : Loc} {w : World} {h : List Ob} (H : HRel L h w) {t : TypeId} {v c : V} {x : Value} (hu : (P.underlying t).isSome = true) (hs : isStruct P t = false) (r : Rep L w v x) (he : evLoad1 h v = some c) :
    ∃ y, (do loadVar t (← asAddr x) : Sem Value).run P w = .ok y w ∧ Rep L w c y := by
  unfold evLoad1 at he
  split at he
  · rename_i c' hc
    injection he with he; subst he
    obtain ⟨b, o, rfl, _, f, h1, h2⟩ := rdCells_spec H r hc
    refine ⟨f 0, ?_, h2 0 _ rfl⟩
    have := h1 0 (by omega)
    simp only [Nat.add_zero] at this
    simp only [asAddr, loadVar, Sem.run_bind, Sem.run_pure, Result.andThen_ok, run_isAgg w hu, hs, Bool.false_eq_true, if_false, run_load, this]
  · cases he

theorem run_loadVarN {P : Program} {L : Loc} {w : World} {h : List Ob} (H : HRel L h w) {t : TypeId} {i : TypeInfo} {v c : V} {x : Value} (hi : P.info? t = some i) (hu : (P.underlying t).isSome = true) (hs : isStruct P t = true) (r : Rep L w v x) (he : evLoadN h i.size v = some c) :
    ∃ y, (do loadVar t (← asAddr x) : Sem Value).run P w = .ok y w ∧ Rep L w c y := by
  unfold evLoadN at he
  simp only [Option.map_eq_some_iff] at he
  obtain ⟨cs, hc, rfl⟩ := he
  obtain ⟨b, o, rfl, hl, f, h1, h2⟩ := rdCells_spec H r hc
  refine ⟨.agg ((List.range i.size).map f).toArray, ?_, .agg _ (by simp [hl]) (fun k c hk => ?_)⟩
  · simp only [asAddr, loadVar, Sem.run_bind, Sem.run_pure, Result.andThen_ok, run_isAgg w hu, hs, if_true, run_sizeOf w hi, E.run_loadCells P w b o i.size f h1]
  · have hk' : k < i.size := by rw [← hl]; exact (List.getElem?_eq_some_iff.1 hk).1
    have := h2 k c hk
    rw [Array.getD_eq_getD_getElem?]
    simp [hk']; exact this

theorem run_resList {L : Loc} {w : World} {h : List Ob} (H : HRel L h w) {P : Program} {n : Nat} {t : Nat → V} {tm : Array Value} (r : TRel L w n t tm) {g : ResultVar → Sem Value} (hg : ResFn P tm g) :
    ∀ (rs : List ResultVar) (ss : List ERs) (vs : List V), mapAll (compRes P n) rs = some ss → mapAll (ERs.ev t h) ss = some vs →
    ∃ us : List Value, (rs.mapM g).run P w = .ok us w ∧ us.length = vs.length ∧ ∀ (k : Nat) (v : V), vs[k]? = some v → Rep L w v (us.getD k undef)
  | [], ss, vs, h1, h2 => by
    simp [mapAll] at h1; subst h1
    simp [mapAll] at h2; subst h2
    exact ⟨[], by simp, rfl, fun k s hk => by simp at hk⟩
  | x :: rs, ss, vs, h1, h2 => by
    simp only [mapAll] at h1
    split at h1
    · rename_i s ss' q1 q2
      injection h1 with h1; subst h1
      simp only [mapAll] at h2
      split at h2
      · rename_i v vs' p1 p2
        injection h2 with h2; subst h2
        obtain ⟨us, g1, g2, g3⟩ := run_resList H r hg rs ss' vs' q2 p2
        have one : ∃ y, (g x).run P w = .ok y w ∧ Rep L w v y := by
          cases x with
          | tmp j =>
            simp only [compRes] at q1
            split at q1
            · rename_i hj
              injection q1 with q1; subst q1
              simp only [ERs.ev, Option.some.injEq] at p1
              subst p1
              exact ⟨_, by rw [hg.1]; simp, r.2 j hj⟩
            · cases q1
          | cell j ty =>
            simp only [compRes] at q1
            split at q1
            · rename_i hj
              rw [hg.2]
              split at q1
              · rename_i i d hi hd
                have hu : (P.underlying ty).isSome = true := by rw [hd]; rfl
                split at q1
                · rename_i hs
                  injection q1 with q1; subst q1
                  exact run_loadVarN H hi hu hs (r.2 j hj) p1
                · rename_i hs
                  injection q1 with q1; subst q1
                  exact run_loadVar1 H hu (by simpa using hs) (r.2 j hj) p1
              · cases q1
            · cases q1
        obtain ⟨y, o1, o2⟩ := one
        refine ⟨y :: us, ?_, by simp [g2], fun k s hk => ?_⟩
        · rw [List.mapM_cons]
          simp only [Sem.run_bind, Sem.run_pure, Result.andThen_ok, o1, g1]
        · cases k with
          | zero => simp at hk; subst hk; exact o2
          | succ k => simp at hk; exact g3 k s hk
      · cases h2
    · cases h1

theorem run_results {L : Loc} {w : World} {h : List Ob} (H : HRel L h w) {P : Program} {fn : Func} {t : Nat → V} {tm : Array Value} (r : TRel L w fn.ntmps t tm) {ss : List ERs} (hs : mapAll (compRes P fn.ntmps) fn.results.toList = some ss) {K : V → Prop} (hk : resK ss t h K) :
    ∃ v y, (results fn tm).run P w = .ok y w ∧ Rep L w v y ∧ K v := by
  suffices hs : ∀ g : ResultVar → Sem Value, ResFn P tm g → ∃ v y, (do
      let vs ← fn.results.mapM g
      pure (if h : vs.size = 1 then vs[0] else .tuple vs) : Sem Value).run P w = .ok y w ∧ Rep L w v y ∧ K v from hs _ ⟨fun _ => rfl, fun _ _ => rfl⟩
  intro g hg
  unfold resK at hk
  cases hv : mapAll (ERs.ev t h) ss with
  | none => rw [hv] at hk; exact hk.elim
  | some vs =>
  obtain ⟨us, g1, g2, g3⟩ := run_resList H r hg _ ss vs hs hv
  rw [Array.mapM_eq_mapM_toList, map_eq_pure_bind, bind_assoc]
  rw [Sem.run_bind]
  rw [g1]
  simp only [Result.andThen_ok, pure_bind]
  by_cases h1 : us.length = 1
  · obtain ⟨u, rfl⟩ := List.length_eq_one_iff.1 h1
    obtain ⟨v, rfl⟩ := List.length_eq_one_iff.1 (g2.symm.trans h1)
    rw [hv] at hk
    exact ⟨v, u, by simp, g3 0 v rfl, hk⟩
  · have : ¬ us.toArray.size = 1 := by simpa using h1
    simp only [dif_neg this, Sem.run_pure]
    refine ⟨.tup vs, _, rfl, .tup us.toArray (by simp [g2]) (fun k c hk => ?_), ?_⟩
    · have := g3 k c hk
      simpa [Array.getD_eq_getD_getElem?, List.getD_eq_getElem?_getD] using this
    · rw [hv] at hk
      split at hk
      · exact hk.elim
      · rename_i v e; injection e with e; subst e; simp at g2; exact absurd g2 h1
      · rename_i vs' _ e; injection e with e; subst e; exact hk

theorem trel0 {L : Loc} {w : World} {args : List V} {xs : Array Value} (a : ARep L w args xs) {n : Nat} (h : args.length ≤ n) :
    TRel L w n (env0 args) (xs ++ Array.replicate (n - xs.size) undef) := by
  refine ⟨by simp [a.1]; omega, fun i hi => ?_⟩
  rw [Array.getD_eq_getD_getElem?, Array.getElem?_append, a.1]
  unfold env0
  split
  · rename_i q
    rw [List.getD_eq_getElem?_getD, List.getElem?_eq_getElem q, ← Array.getD_eq_getD_getElem?]
    exact a.2 i _ (List.getElem?_eq_getElem q)
  · rename_i q
    rw [List.getD_eq_getElem?_getD, List.getElem?_eq_none (by omega)]
    have : (Array.replicate (n - args.length) undef)[i - args.length]? = some undef := by
      rw [Array.getElem?_replicate, if_pos (by omega)]
    rw [this]
    exact undef_rep

/-- What the body must bring. -/
def endQ (rs : List ERs) (R : V → List Ob → Prop) : Post := fun x t h => match x with
  | .exit _ => False
  | _ => resK rs t h fun v => R v h

/-- A call comes to what the body's code brings. -/
theorem CE.of_body {P : Program} {f : FuncId} {fn : Func} {e : EFn} {args : List V} {h : List Ob} {R : V → List Ob → Prop} (hf : P.funcs[f]? = some fn) (hc : compF P fn = some e) (hn : args.length ≤ e.n)
    (hw : wpC P e.code (endQ e.res R) (env0 args) h) : CE P f args h R := by
  unfold compF at hc
  split at hc
  · cases hc
  · rename_i c hb
    split at hc
    · rename_i x rs h1 h2
      injection hc with hc; subst hc
      intro L w xs a H
      refine calls_of_wp hf hb ?_
      refine wp_mono (comp_sound c x h1 _ (env0 args) h hw L w _ (trel0 a hn) rfl H) (fun e a' w' u => ?_)
      obtain ⟨x, t', h', L', rfl, q, g3, g4, g5, g6, g7⟩ := u
      cases x with
      | exit => exact q.elim
      | normal =>
        obtain ⟨v, y, p1, p2, p3⟩ := run_results g5 g3 h2 q
        exact ⟨g4, y, p1, y, v, h', L', rfl, p3, p2, g5, g6, g7⟩
      | ret =>
        obtain ⟨v, y, p1, p2, p3⟩ := run_results g5 g3 h2 q
        exact ⟨g4, y, p1, y, v, h', L', rfl, p3, p2, g5, g6, g7⟩
    · cases hc

end Go.Proofs.Ytdcdmpgigmhhpaa.E
