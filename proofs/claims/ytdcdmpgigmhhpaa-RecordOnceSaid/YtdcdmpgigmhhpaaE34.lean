/- The layer E, part 34: a region whose order is drawn, where some operations that act stand in no fixed order: one order for each order of these. No condition. -/
import Derived.Test.YtdcdmpgigmhhpaaE21
namespace Go.Proofs.Ytdcdmpgigmhhpaa.E
set_option linter.unusedSimpArgs false
set_option linter.unusedVariables false

def chkP (n : Nat) (pre : Nat → List Nat) (cs : Nat → EG) (re pc : Nat → List Nat) : List Nat → List Nat → Bool
  | _, [] => true
  | seen, i :: rest => !seen.contains i && (decide (i < n) && ((pre i).all (seen.contains ·) && ((pc i).all (fun j => seen.contains j && (pre i).any (fun p => p == j || (pc p).contains j)) &&
      (((cs i).act.kind == 2 || (re i).isEmpty) && ((re i).all (seen.contains ·) && (seen.all (fun a => (pc i).contains a || okPair cs re pc a i) && chkP n pre cs re pc (i :: seen) rest))))))

structure Vp1 (n : Nat) (pr : Nat → List Nat) (cs : Nat → EG) (re pc : Nat → List Nat) (before : Nat → Prop) (i : Nat) : Prop where
  lt : i < n
  pre : ∀ p, p ∈ pr i → before p
  pcs : ∀ j, j ∈ pc i → before j ∧ ∃ p, p ∈ pr i ∧ (p = j ∨ j ∈ pc p)
  quiet : (cs i).act.kind < 2 → re i = []
  res : ∀ r, r ∈ re i → before r

theorem chkP_spec {n : Nat} {pre : Nat → List Nat} {cs : Nat → EG} {re pc : Nat → List Nat} : ∀ (C seen : List Nat), chkP n pre cs re pc seen C = true →
    ∀ A i B, C = A ++ i :: B → (i ∉ A ∧ i ∉ seen) ∧ Vp1 n pre cs re pc (fun j => j ∈ A ∨ j ∈ seen) i ∧ ∀ a, (a ∈ A ∨ a ∈ seen) → a ∈ pc i ∨ okPair cs re pc a i = true
  | [], seen, h, A, i, B, e => by cases A <;> simp at e
  | c :: C, seen, h, A, i, B, e => by
    simp only [chkP, Bool.and_eq_true, decide_eq_true_eq, Bool.not_eq_true', List.all_eq_true, Bool.or_eq_true, List.contains_eq_mem, decide_eq_false_iff_not, List.any_eq_true, beq_iff_eq, List.isEmpty_iff] at h
    obtain ⟨h1, h2, h3, h4, h5, h6, h7, h8⟩ := h
    cases A with
    | nil =>
      simp only [List.nil_append, List.cons.injEq] at e
      obtain ⟨rfl, rfl⟩ := e
      refine ⟨⟨by simp, h1⟩, ⟨h2, fun p hp => .inr (h3 p hp), fun j hj => ⟨.inr (h4 j hj).1, ?_⟩, fun hk => ?_, fun r hr => .inr (h6 r hr)⟩, fun a ha => ?_⟩
      · exact (h4 j hj).2
      · rcases h5 with q | q
        · omega
        · exact q
      · rcases ha with q | q
        · simp at q
        · exact h7 a q
    | cons a A =>
      simp only [List.cons_append, List.cons.injEq] at e
      obtain ⟨rfl, rfl⟩ := e
      obtain ⟨g1, g2, g3⟩ := chkP_spec _ (c :: seen) h8 A i B rfl
      have key : ∀ j, (j ∈ A ∨ j ∈ c :: seen) → (j ∈ c :: A ∨ j ∈ seen) := by
        intro j hj
        simp only [List.mem_cons] at hj ⊢
        rcases hj with q | q | q
        · exact .inl (.inr q)
        · exact .inl (.inl q)
        · exact .inr q
      have key' : ∀ j, (j ∈ c :: A ∨ j ∈ seen) → (j ∈ A ∨ j ∈ c :: seen) := by
        intro j hj
        simp only [List.mem_cons] at hj ⊢
        rcases hj with (q | q) | q
        · exact .inr (.inl q)
        · exact .inl q
        · exact .inr (.inr q)
      refine ⟨⟨fun q => ?_, fun q => g1.2 (by simp [q])⟩, ⟨g2.lt, fun p hp => key _ (g2.pre p hp), fun j hj => ⟨key _ (g2.pcs j hj).1, (g2.pcs j hj).2⟩, g2.quiet, fun r hr => key _ (g2.res r hr)⟩, fun a ha => g3 a (key' a ha)⟩
      rcases List.mem_cons.1 q with q | q
      · exact g1.2 (by simp [q])
      · exact g1.1 q

/-- An order keeps what is to be ahead. -/
def Resp (pre : Nat → List Nat) (listed : Nat → Prop) (l : List Nat) : Prop := ∀ X i Y, l = X ++ i :: Y → ∀ p, p ∈ pre i → p ∈ X ∨ listed p

section
variable {P : Program} {Q : Post} {n : Nat} {pre : Nat → List Nat} {cs : Nat → EG} {re pc : Nat → List Nat}

def Vp (n : Nat) (pre : Nat → List Nat) (cs : Nat → EG) (re pc : Nat → List Nat) (listed : Nat → Prop) (C : List Nat) : Prop :=
  ∀ A i B, C = A ++ i :: B → i ∉ A ∧ Vp1 n pre cs re pc (fun j => j ∈ A ∨ listed j) i ∧ ∀ a, a ∈ A → a ∈ pc i ∨ okPair cs re pc a i = true

theorem Vp.out {listed listed' : Nat → Prop} {A B : List Nat} {i : Nat} (v : Vp n pre cs re pc listed (A ++ i :: B)) (hl : ∀ j, listed j → listed' j) (hi : listed' i) : Vp n pre cs re pc listed' (A ++ B) := by
  intro A2 j B2 e
  have mk : ∀ A3 B3, A ++ i :: B = A3 ++ j :: B3 → (∀ x, x ∈ A3 → x = i ∨ x ∈ A2) → (∀ x, x ∈ A2 → x ∈ A3) → j ∉ A2 ∧ Vp1 n pre cs re pc (fun k => k ∈ A2 ∨ listed' k) j ∧ ∀ a, a ∈ A2 → a ∈ pc j ∨ okPair cs re pc a j = true := by
    intro A3 B3 e3 h1 h2
    obtain ⟨g1, g2, g3⟩ := v A3 j B3 e3
    have key : ∀ x, (x ∈ A3 ∨ listed x) → (x ∈ A2 ∨ listed' x) := by
      rintro x (q | q)
      · rcases h1 x q with rfl | z
        · exact .inr hi
        · exact .inl z
      · exact .inr (hl x q)
    exact ⟨fun q => g1 (h2 j q), ⟨g2.lt, fun p hp => key p (g2.pre p hp), fun k hk => ⟨key k (g2.pcs k hk).1, (g2.pcs k hk).2⟩, g2.quiet, fun r hr => key r (g2.res r hr)⟩, fun a ha => g3 a (h2 a ha)⟩
  rcases append_split e with ⟨X, h1, h2⟩ | ⟨X, h1, h2⟩
  · subst h1 h2
    exact mk A2 (X ++ i :: B) (by simp) (fun x hx => .inr hx) (fun x hx => hx)
  · subst h1 h2
    exact mk (A ++ i :: X) B2 (by simp) (fun x hx => by simp at hx ⊢; rcases hx with q | q | q <;> simp [q]) (fun x hx => by simp at hx ⊢; rcases hx with q | q <;> simp [q])

/-- From the one order to another one that keeps the same. -/
theorem draw_list : ∀ (l C : List Nat) (listed : Nat → Prop) (t : Nat → V) (h : List Ob), l.Nodup → (∀ i, i ∈ l ↔ i ∈ C) → (∀ i, i ∈ C → ¬ listed i) → (∀ i, listed i → ∀ j, j ∈ pc i → listed j) →
    Resp pre listed l → Vp n pre cs re pc listed C → wpI P Q (C.map (annI cs re)) t h → wpI P Q (l.map (annI cs fun _ => [])) t h
  | [], C, listed, t, h, _, hm, _, _, _, _, w => by
    cases C with
    | nil => exact w
    | cons c C => exact absurd ((hm c).2 (by simp)) (by simp)
  | i :: l, C, listed, t, h, hn, hm, hu, hpc, hr, v, w => by
    have hiC : i ∈ C := (hm i).1 (by simp)
    obtain ⟨A, B, rfl⟩ := List.append_of_mem hiC
    have hnd := nodup_of fun A i B e => (v A i B e).1
    obtain ⟨g1, g2, g3⟩ := v A i B rfl
    have hpre : ∀ p, p ∈ pre i → listed p := fun p hp => (hr [] i l rfl p hp).elim (fun q => by simp at q) (fun q => q)
    have unl : ∀ a, a ∈ A → ¬ listed a := fun a ha => hu a (by simp [ha])
    have hpci : ∀ j, j ∈ pc i → listed j := by
      intro j hj
      obtain ⟨p, hp, q⟩ := (g2.pcs j hj).2
      rcases q with rfl | q
      · exact hpre p hp
      · exact hpc p (hpre p hp) j q
    have hok : ∀ a, a ∈ A → okPair cs re pc a i = true := by
      intro a ha
      rcases g3 a ha with q | q
      · exact absurd (hpci a q) (unl a ha)
      · exact q
    have hA : A.Nodup := (List.nodup_append.1 hnd).1
    have st := move (P := P) (Q := Q) (cs := cs) (re := re) (i := i) g2.quiet A B t h (fun a ha => by
        obtain ⟨q1, q2, q3, q4, q5⟩ := okPair_spec (hok a ha)
        obtain ⟨X, Y, e⟩ := List.append_of_mem ha
        obtain ⟨_, u2, _⟩ := v X a (Y ++ i :: B) (by rw [e]; simp)
        exact ⟨q1, u2.quiet q1, q2, q3, q4⟩)
      (fun A1 b A2 e r hr' hne hrA => by
        have hb : b ∈ A := by rw [e]; simp
        obtain ⟨q1, q2, q3, q4, q5⟩ := okPair_spec (hok b hb)
        rcases q5 r hr' with q | q | q
        · exact absurd q hne
        · exfalso
          rcases g2.res r hr' with z | z
          · rw [e] at z
            have hrA1 : r ∈ A1 := by
              simp only [List.mem_append, List.mem_cons] at z
              rcases z with z | z | z
              · exact z
              · exact absurd z hne
              · exact absurd z hrA
            obtain ⟨X, Y, e'⟩ := List.append_of_mem hrA1
            obtain ⟨_, u2, _⟩ := v X r (Y ++ b :: A2 ++ i :: B) (by rw [e, e']; simp)
            rcases (u2.pcs b q).1 with y | y
            · rw [e, e'] at hA
              have : (X ++ r :: Y ++ b :: A2).Nodup := hA
              have := (List.nodup_append.1 this).2.2 b (by simp [y]) b (by simp)
              exact this rfl
            · exact unl b hb y
          · exact unl b hb (hpc r z b q)
        · exact q) hA w
    simp only [List.map_cons]
    rw [wpI_cons]
    refine step_mono (fun _ _ => rfl) st (fun v' h' k => ?_)
    rw [andRe_iff]
    refine ⟨fun g hg => by simp [annI] at hg, ?_⟩
    have hn' := List.nodup_cons.1 hn
    have hiA : i ∉ A := g1
    have hiB : i ∉ B := (List.nodup_cons.1 (List.nodup_append.1 hnd).2.1).1
    refine draw_list l (A ++ B) (fun j => j = i ∨ listed j) _ h' hn'.2 (fun j => ?_) (fun j hj q => ?_) (fun j hj k' hk' => ?_) (fun X j Y e p hp => ?_) (v.out (fun j hj => .inr hj) (.inl rfl)) k.2
    · have := hm j
      simp only [List.mem_append, List.mem_cons] at this ⊢
      constructor
      · intro q
        have hji : j ≠ i := by rintro rfl; exact hn'.1 q
        rcases this.1 (.inr q) with y | y | y
        · exact .inl y
        · exact absurd y hji
        · exact .inr y
      · intro q
        have hji : j ≠ i := by rintro rfl; exact q.elim hiA hiB
        rcases this.2 (q.elim .inl (fun z => .inr (.inr z))) with y | y
        · exact absurd y hji
        · exact y
    · rcases q with rfl | q
      · exact (List.mem_append.1 hj).elim hiA hiB
      · exact hu j (by simp only [List.mem_append, List.mem_cons] at hj ⊢; rcases hj with z | z <;> simp [z]) q
    · rcases hj with rfl | hj
      · exact .inr (hpci k' hk')
      · exact .inr (hpc j hj k' hk')
    · rcases hr (i :: X) j Y (by rw [e]; rfl) p hp with q | q
      · rcases List.mem_cons.1 q with q | q
        · exact .inr (.inl q)
        · exact .inl q
      · exact .inr (.inr q)
end

/-! ### A drawn order keeps what is to be ahead, and has all -/
theorem goR_spec {ops : Array Oper} : ∀ (fuel tk : Nat) (listed : Array Bool) (C : List Nat), C.length ≤ fuel → listed.size = ops.size → (∀ i, i ∈ C ↔ i < ops.size ∧ listed.getD i false = false) → C.Nodup →
    Resp (preOf ops) (fun i => listed.getD i false = true) C →
    (goR .any ops fuel tk listed).Nodup ∧ (∀ i, i ∈ goR .any ops fuel tk listed ↔ i ∈ C) ∧ Resp (preOf ops) (fun i => listed.getD i false = true) (goR .any ops fuel tk listed) := by
  intro fuel
  induction fuel with
  | zero =>
    intro tk listed C hf _ _ _ _
    cases C with
    | nil => exact ⟨by simp [goR], fun i => by simp [goR], fun X i Y e => by simp [goR] at e⟩
    | cons c C => simp at hf
  | succ fuel ih =>
    intro tk listed C hf hsz hC hnd hr
    have hmem : ∀ i, i ∈ ((List.range ops.size).filter fun i =>
      !listed.getD i true && ((ops[i]?).map (·.after.all fun e => !Region.binds .any e || listed.getD e.on false)).getD false) ↔
        i ∈ C ∧ ∀ p, p ∈ preOf ops i → listed.getD p false = true := by
      intro i
      rw [List.mem_filter, List.mem_range, hC]
      constructor
      · rintro ⟨h1, h2⟩
        simp only [Bool.and_eq_true, Bool.not_eq_true'] at h2
        obtain ⟨h2, h3⟩ := h2
        refine ⟨⟨h1, ?_⟩, fun p hp => ?_⟩
        · rw [Array.getD_eq_getD_getElem?, Array.getElem?_eq_getElem (by omega)] at h2 ⊢
          exact h2
        · unfold preOf at hp
          rw [Array.getElem?_eq_getElem h1] at hp h3
          simp only [List.mem_map, List.mem_filter] at hp
          obtain ⟨e, ⟨e1, e2⟩, rfl⟩ := hp
          simp only [Option.map_some, Option.getD_some, Array.all_eq_true_iff_forall_mem, Bool.or_eq_true, Bool.not_eq_true'] at h3
          rcases h3 e (by simpa using e1) with q | q
          · rw [e2] at q; cases q
          · exact q
      · rintro ⟨⟨h1, h2⟩, h3⟩
        refine ⟨h1, ?_⟩
        simp only [Bool.and_eq_true, Bool.not_eq_true']
        refine ⟨?_, ?_⟩
        · rw [Array.getD_eq_getD_getElem?, Array.getElem?_eq_getElem (by omega)] at h2 ⊢
          exact h2
        · rw [Array.getElem?_eq_getElem h1]
          simp only [Option.map_some, Option.getD_some, Array.all_eq_true_iff_forall_mem, Bool.or_eq_true, Bool.not_eq_true']
          intro e he
          cases hb : Region.binds .any e with
          | false => exact .inl rfl
          | true =>
            refine .inr (h3 e.on ?_)
            unfold preOf
            rw [Array.getElem?_eq_getElem h1]
            simp only [List.mem_map, List.mem_filter]
            exact ⟨e, ⟨by simpa using he, hb⟩, rfl⟩
    simp only [goR]
    generalize hrs : ((List.range ops.size).filter fun i =>
      !listed.getD i true && ((ops[i]?).map (·.after.all fun e => !Region.binds .any e || listed.getD e.on false)).getD false) = rs at hmem ⊢
    cases hrk : rs[tk % rs.length]? with
    | none =>
      simp only
      cases C with
      | nil => exact ⟨List.nodup_nil, fun i => by simp, fun X i Y e => by simp at e⟩
      | cons c C =>
        exfalso
        have hc : c ∈ rs := (hmem c).2 ⟨by simp, fun p hp => (hr [] c C rfl p hp).elim (fun q => by simp at q) (fun q => q)⟩
        have hl : 0 < rs.length := List.length_pos_of_mem hc
        rw [List.getElem?_eq_getElem (Nat.mod_lt _ hl)] at hrk
        cases hrk
    | some i =>
      simp only
      obtain ⟨hiC, hpre⟩ := (hmem i).1 (List.mem_of_getElem? hrk)
      obtain ⟨A, B, rfl⟩ := List.append_of_mem hiC
      have hil := (hC i).1 hiC
      have hget : ∀ j, (listed.setIfInBounds i true).getD j false = true ↔ j = i ∨ listed.getD j false = true := by
        intro j
        rw [Array.getD_eq_getD_getElem?, Array.getD_eq_getD_getElem?, Array.getElem?_setIfInBounds]
        split
        · rename_i q; subst q
          simp [hsz, hil.1]
        · rename_i q
          constructor
          · intro z; exact .inr z
          · rintro (z | z)
            · exact absurd z.symm q
            · exact z
      have hnd' := List.nodup_append.1 hnd
      have hiA : i ∉ A := fun q => hnd'.2.2 i q i (by simp) rfl
      have hiB : i ∉ B := (List.nodup_cons.1 hnd'.2.1).1
      obtain ⟨z1, z2, z3⟩ := ih (tk / rs.length) (listed.setIfInBounds i true) (A ++ B) (by simp only [List.length_append, List.length_cons] at hf ⊢; omega) (by simpa using hsz) (fun j => by
          have hf' : (listed.setIfInBounds i true).getD j false = false ↔ ¬ (j = i ∨ listed.getD j false = true) := by
            rw [← hget j]; simp
          rw [hf']
          have := hC j
          simp only [List.mem_append, List.mem_cons] at this ⊢
          constructor
          · intro q
            have hj : j ≠ i := by rintro rfl; exact q.elim hiA hiB
            obtain ⟨z1, z2⟩ := this.1 (q.elim .inl (fun z => .inr (.inr z)))
            exact ⟨z1, fun y => y.elim hj (fun y => by rw [z2] at y; cases y)⟩
          · rintro ⟨z1, z2⟩
            have z3 : listed.getD j false = false := by simpa using fun y => z2 (.inr y)
            rcases this.2 ⟨z1, z3⟩ with y | y | y
            · exact .inl y
            · exact absurd (.inl y) z2
            · exact .inr y) (by
          refine List.nodup_append.2 ⟨hnd'.1, (List.nodup_cons.1 hnd'.2.1).2, fun a ha b hb => hnd'.2.2 a ha b (by simp [hb])⟩) (fun X j Y e p hp => by
          show p ∈ X ∨ (listed.setIfInBounds i true).getD p false = true
          rw [hget]
          rcases append_split e with ⟨Z, h1, h2⟩ | ⟨Z, h1, h2⟩
          · subst h1 h2
            rcases hr X j (Z ++ i :: B) (by simp) p hp with q | q
            · exact .inl q
            · exact .inr (.inr q)
          · subst h1 h2
            rcases hr (A ++ i :: Z) j Y (by simp) p hp with q | q
            · simp only [List.mem_append, List.mem_cons] at q ⊢
              rcases q with q | q | q
              · exact .inl (.inl q)
              · exact .inr (.inl q)
              · exact .inl (.inr q)
            · exact .inr (.inr q))
      refine ⟨List.nodup_cons.2 ⟨fun q => ?_, z1⟩, fun j => ?_, fun X j Y e p hp => ?_⟩
      · exact (List.mem_append.1 ((z2 i).1 q)).elim hiA hiB
      · simp only [List.mem_cons, z2, List.mem_append]
        constructor
        · rintro (q | q | q)
          · exact .inr (.inl q)
          · exact .inl q
          · exact .inr (.inr q)
        · rintro (q | q | q)
          · exact .inr (.inl q)
          · exact .inl q
          · exact .inr (.inr q)
      · cases X with
        | nil =>
          simp only [List.nil_append, List.cons.injEq] at e
          obtain ⟨rfl, rfl⟩ := e
          exact .inr (hpre p hp)
        | cons x X =>
          simp only [List.cons_append, List.cons.injEq] at e
          obtain ⟨rfl, e⟩ := e
          rcases z3 X j Y e p hp with q | q
          · exact .inl (by simp [q])
          · replace q : (listed.setIfInBounds i true).getD p false = true := q
            rw [hget] at q
            rcases q with rfl | q
            · exact .inl (by simp)
            · exact .inr q

/-! ### The plans -/
def planPcP (pre : Nat → List Nat) (ord : List Nat) : List (Nat × List Nat) :=
  ord.foldl (fun acc i => (i, ((pre i).flatMap fun p => p :: (acc.lookup p).getD []).eraseDups) :: acc) []

def planOrdP (pre : Nat → List Nat) (quiet : Nat → Bool) : Nat → List Nat → List Nat → List Nat
  | 0, _, done => done.reverse
  | fuel + 1, left, done =>
    let ready := left.filter fun i => (pre i).all (done.contains ·)
    match ready.find? quiet with
    | some i => planOrdP pre quiet fuel (left.erase i) (i :: done)
    | none => match ready with
      | i :: _ => planOrdP pre quiet fuel (left.erase i) (i :: done)
      | [] => done.reverse

def planReP (pc : Nat → List Nat) (kind : Nat → Nat) : List Nat → List Nat → List (Nat × List Nat)
  | _, [] => []
  | seen, i :: rest => (i, if kind i == 2 then (seen.filter fun a => kind a == 1 && !(pc i).contains a) else []) :: planReP pc kind (i :: seen) rest

def sigsOf (bef : Nat → List Nat) : Nat → List Nat → List (List Nat)
  | 0, _ => [[]]
  | _ + 1, [] => [[]]
  | f + 1, l => l.flatMap fun i => if l.all (fun j => !(bef i).contains j) then (sigsOf bef f (l.erase i)).map (i :: ·) else []

def preS (pre : Nat → List Nat) (lo : Nat → Bool) (sig : List Nat) (i : Nat) : List Nat := pre i ++ (if lo i then sig.takeWhile (fun j => !(j == i)) else [])

def topoB (pre : Nat → List Nat) : List Nat → List Nat → Bool
  | _, [] => true
  | seen, i :: rest => !seen.contains i && ((pre i).all (seen.contains ·) && topoB pre (i :: seen) rest)

theorem topoB_spec {pre : Nat → List Nat} : ∀ (C seen : List Nat), topoB pre seen C = true → C.Nodup ∧ (∀ i, i ∈ C → i ∉ seen) ∧ Resp pre (· ∈ seen) C
  | [], seen, _ => ⟨List.nodup_nil, fun i h => by simp at h, fun X i Y e => by simp at e⟩
  | c :: C, seen, h => by
    simp only [topoB, Bool.and_eq_true, Bool.not_eq_true', List.all_eq_true, List.contains_eq_mem, decide_eq_false_iff_not, decide_eq_true_eq] at h
    obtain ⟨h1, h2, h3⟩ := h
    obtain ⟨g1, g2, g3⟩ := topoB_spec C (c :: seen) h3
    refine ⟨List.nodup_cons.2 ⟨fun q => g2 c q (by simp), g1⟩, fun i hi => ?_, fun X i Y e p hp => ?_⟩
    · rcases List.mem_cons.1 hi with rfl | hi
      · exact h1
      · exact fun q => g2 i hi (by simp [q])
    · cases X with
      | nil =>
        simp only [List.nil_append, List.cons.injEq] at e
        obtain ⟨rfl, rfl⟩ := e
        exact .inr (h2 p hp)
      | cons x X =>
        simp only [List.cons_append, List.cons.injEq] at e
        obtain ⟨rfl, e⟩ := e
        rcases g3 X i Y e p hp with q | q
        · exact .inl (by simp [q])
        · rcases List.mem_cons.1 q with rfl | q
          · exact .inl (by simp)
          · exact .inr q

theorem sigs_mem {bef : Nat → List Nat} : ∀ (s l : List Nat) (f : Nat), s.length ≤ f → s.Nodup → l.Nodup → (∀ i, i ∈ s ↔ i ∈ l) → (∀ X i Y, s = X ++ i :: Y → ∀ j, j ∈ bef i → j ∈ l → j ∈ X) → s ∈ sigsOf bef f l
  | [], l, f, _, _, _, hm, _ => by
    have : l = [] := by
      cases l with
      | nil => rfl
      | cons a l => exact absurd ((hm a).2 (by simp)) (by simp)
    subst this
    cases f <;> simp [sigsOf]
  | i :: s, l, 0, hf, _, _, _, _ => by simp at hf
  | i :: s, [], f + 1, _, _, _, hm, _ => by exact absurd ((hm i).1 (by simp)) (by simp)
  | i :: s, a :: l, f + 1, hf, hs, hl, hm, hr => by
    have hil : i ∈ a :: l := (hm i).1 (by simp)
    have hs' := List.nodup_cons.1 hs
    simp only [sigsOf, List.mem_flatMap]
    refine ⟨i, hil, ?_⟩
    have hall : (a :: l).all (fun j => !(bef i).contains j) = true := by
      simp only [List.all_eq_true, Bool.not_eq_true', List.contains_eq_mem, decide_eq_false_iff_not]
      intro j hj q
      have := hr [] i s rfl j q hj
      simp at this
    rw [if_pos hall, List.mem_map]
    refine ⟨s, sigs_mem s ((a :: l).erase i) f (by simpa using hf) hs'.2 (hl.erase i) (fun j => ?_) (fun X k Y e j hj hjl => ?_), rfl⟩
    · rw [hl.mem_erase_iff]
      have := hm j
      simp only [List.mem_cons] at this ⊢
      constructor
      · intro q
        exact ⟨by rintro rfl; exact hs'.1 q, this.1 (.inr q)⟩
      · rintro ⟨q1, q2⟩
        exact (this.2 q2).resolve_left q1
    · rw [hl.mem_erase_iff] at hjl
      have := hr (i :: X) k Y (by rw [e]; rfl) j hj hjl.2
      exact (List.mem_cons.1 this).resolve_left hjl.1

theorem split_unique {i : Nat} : ∀ {A A' B B' : List Nat}, A ++ i :: B = A' ++ i :: B' → i ∉ A → i ∉ A' → A = A'
  | [], [], _, _, _, _, _ => rfl
  | [], a :: A', _, _, e, _, h => by simp at e; exact absurd (by simp [e.1]) h
  | a :: A, [], _, _, e, h, _ => by simp at e; exact absurd (by simp [e.1]) h
  | a :: A, a' :: A', B, B', e, h, h' => by
    simp only [List.cons_append, List.cons.injEq] at e
    obtain ⟨rfl, e⟩ := e
    rw [split_unique e (fun q => h (by simp [q])) (fun q => h' (by simp [q]))]

theorem takeWhile_ne {i : Nat} : ∀ {A B : List Nat}, i ∉ A → (A ++ i :: B).takeWhile (fun j => !(j == i)) = A
  | [], B, _ => by simp
  | a :: A, B, h => by
    have ha : a ≠ i := fun q => h (by simp [q])
    simp only [List.cons_append, List.takeWhile_cons]
    have : (!(a == i)) = true := by simpa using ha
    rw [this]
    simp only [if_true]
    rw [takeWhile_ne (fun q => h (by simp [q]))]

/-- What is ahead by steps is ahead. -/
theorem bef_mem {pre bef : Nat → List Nat} (hb : ∀ i j, j ∈ bef i → ∃ p, p ∈ pre i ∧ (p = j ∨ j ∈ bef p)) {l : List Nat} (hr : Resp pre (fun _ => False) l) : ∀ (m : Nat) (X : List Nat) (i : Nat) (Y : List Nat), X.length ≤ m → l = X ++ i :: Y → ∀ j, j ∈ bef i → j ∈ X
  | m, X, i, Y, hm, e, j, hj => by
    obtain ⟨p, hp, q⟩ := hb i j hj
    have hpX : p ∈ X := (hr X i Y e p hp).elim (fun z => z) (fun z => z.elim)
    rcases q with rfl | q
    · exact hpX
    · obtain ⟨X1, X2, e1⟩ := List.append_of_mem hpX
      cases m with
      | zero => simp at hm; subst hm; simp at hpX
      | succ m =>
        have := bef_mem hb hr m X1 p (X2 ++ i :: Y) (by rw [e1] at hm; simp at hm; omega) (by rw [e, e1]; simp) j q
        rw [e1]; simp [this]

/-- A plan, looked over. -/
def planChk (n : Nat) (pr : Nat → List Nat) (cs : Nat → EG) (ord : List Nat) (re pc : Nat → List Nat) : Option (List EI) :=
  if (List.range n).all (ord.contains ·) && chkP n pr cs re pc [] ord then some (ord.map (annI cs re)) else none

theorem planChk_ok {P : Program} {Q : Post} {n : Nat} {pre : Nat → List Nat} {cs : Nat → EG} {sig : List Nat} {ord : List Nat} {re pc : Nat → List Nat} {l : List EI}
    (h : planChk n (preS pre (fun i => (cs i).act.kind == 2) sig) cs ord re pc = some l) {t : Nat → V} {hp : List Ob} (w : wpI P Q l t hp)
    {s : List Nat} (hs : s.Nodup) (hm : ∀ i, i ∈ s ↔ i < n) (hr : Resp pre (fun _ => False) s) (hsig : sig = s.filter fun i => (cs i).act.kind == 2) : wpI P Q (s.map (annI cs fun _ => [])) t hp := by
  unfold planChk at h
  split at h
  · rename_i hc
    injection h with h; subst h
    simp only [Bool.and_eq_true, List.all_eq_true, List.mem_range, List.contains_eq_mem, decide_eq_true_eq] at hc
    obtain ⟨c1, c2⟩ := hc
    have sp := chkP_spec _ _ c2
    refine draw_list (n := n) (pre := preS pre (fun i => (cs i).act.kind == 2) sig) (re := re) (pc := pc) s ord (fun _ => False) t hp hs (fun i => ?_) (fun _ _ q => q) (fun _ q => q.elim) ?_ (fun A i B e => ?_) w
    · rw [hm]
      refine ⟨c1 i, fun q => ?_⟩
      obtain ⟨A, B, e⟩ := List.append_of_mem q
      exact (sp A i B e).2.1.lt
    · intro X i Y e p hp
      rcases List.mem_append.1 hp with q | q
      · exact hr X i Y e p q
      · left
        split at q
        · rename_i hlo
          have hiX : i ∉ X := by
            rw [e] at hs
            exact fun z => (List.nodup_append.1 hs).2.2 i z i (by simp) rfl
          have : sig = X.filter (fun i => (cs i).act.kind == 2) ++ i :: Y.filter (fun i => (cs i).act.kind == 2) := by
            rw [hsig, e, List.filter_append, List.filter_cons, if_pos hlo]
          rw [this, takeWhile_ne (fun z => hiX (List.mem_filter.1 z).1)] at q
          exact (List.mem_filter.1 q).1
        · simp at q
    · obtain ⟨g1, g2, g3⟩ := sp A i B e
      have key : ∀ j, (j ∈ A ∨ j ∈ ([] : List Nat)) → (j ∈ A ∨ False) := fun j q => q.elim .inl (fun z => by simp at z)
      exact ⟨g1.1, ⟨g2.lt, fun p hp => key p (g2.pre p hp), fun j hj => ⟨key j (g2.pcs j hj).1, (g2.pcs j hj).2⟩, g2.quiet, fun r hr => key r (g2.res r hr)⟩, fun a ha => g3 a (.inl ha)⟩
  · cases h

/-- The plan for one order of what acts. -/
def planOne (n : Nat) (pre : Nat → List Nat) (cs : Nat → EG) (sig : List Nat) : Option (List EI) :=
  let pr := preS pre (fun i => (cs i).act.kind == 2) sig
  let ord := planOrdP pr (fun i => (cs i).act.kind < 2) n (List.range n) []
  let pcl := planPcP pr ord
  let pc := fun i => (pcl.lookup i).getD []
  let rel := planReP pc (fun i => (cs i).act.kind) [] ord
  planChk n pr cs ord (fun i => (rel.lookup i).getD []) pc

theorem planOne_ok {P : Program} {Q : Post} {n : Nat} {pre : Nat → List Nat} {cs : Nat → EG} {sig : List Nat} {l : List EI} (h : planOne n pre cs sig = some l) {t : Nat → V} {hp : List Ob} (w : wpI P Q l t hp)
    {s : List Nat} (hs : s.Nodup) (hm : ∀ i, i ∈ s ↔ i < n) (hr : Resp pre (fun _ => False) s) (hsig : sig = s.filter fun i => (cs i).act.kind == 2) : wpI P Q (s.map (annI cs fun _ => [])) t hp :=
  planChk_ok h w hs hm hr hsig

def compDraws (P : Program) (n : Nat) (ops : Array Oper) : Option (List (List EI)) :=
  match mapAll (compG P n ops) ops.toList with
  | none => none
  | some gs =>
    let cs := fun i => gs.getD i default
    let pre := preOf ops
    let ord := planOrdP pre (fun _ => true) ops.size (List.range ops.size) []
    let bl := planPcP pre ord
    let bef := fun i => (bl.lookup i).getD []
    let louds := (List.range ops.size).filter fun i => (cs i).act.kind == 2
    let sigs := sigsOf bef louds.length louds
    if P.follows .mixedOrders && (decide (ord.length ≤ ops.size) && (ord.all (fun i => decide (i < ops.size)) && ((List.range ops.size).all (ord.contains ·) && (topoB pre [] ord &&
        (bl.all (fun p => p.2.all fun j => (pre p.1).any fun q => q == j || (bef q).contains j) && decide (sigs.length ≤ 24)))))) then
      mapAll (planOne ops.size pre cs) sigs
    else none

theorem compI_all' {P : Program} {n : Nat} {ops : Array Oper} {gs : List EG} (h : mapAll (compG P n ops) ops.toList = some gs) : ∀ is : List Nat, (∀ i, i ∈ is → i < ops.size) →
    compI P n ops is = some (is.map (annI (fun i => gs.getD i default) fun _ => []))
  | [], _ => rfl
  | i :: is, hi => by
    obtain ⟨g1, g2⟩ := mapAll_get h
    have hlt := hi i (by simp)
    have hg' : i < gs.length := by simpa [g1] using hlt
    have hg : gs[i]? = some gs[i] := List.getElem?_eq_getElem hg'
    obtain ⟨o, q1, q2⟩ := g2 i _ hg
    have ho : ops[i]? = some o := by simpa using q1
    simp only [compI, ho, q2]
    rw [compI_all' h is (fun j hj => hi j (by simp [hj]))]
    simp only [List.map_cons, annI, List.map_nil, List.getD_eq_getElem?_getD, hg, Option.getD_some]

theorem mapAll_mem {α β : Type} {f : α → Option β} : ∀ {xs : List α} {ys : List β}, mapAll f xs = some ys → ∀ x, x ∈ xs → ∃ y, y ∈ ys ∧ f x = some y
  | [], _, _, x, hx => by simp at hx
  | a :: xs, ys, h, x, hx => by
    simp only [mapAll] at h
    split at h
    · rename_i y ys' h1 h2
      injection h with h; subst h
      rcases List.mem_cons.1 hx with rfl | hx
      · exact ⟨y, by simp, h1⟩
      · obtain ⟨z, g1, g2⟩ := mapAll_mem h2 x hx
        exact ⟨z, by simp [g1], g2⟩
    · cases h

theorem lookup_mem' {l : List (Nat × List Nat)} {i j : Nat} (h : j ∈ (l.lookup i).getD []) : ∃ p, p ∈ l ∧ p.1 = i ∧ j ∈ p.2 := by
  induction l with
  | nil => simp at h
  | cons p l ih =>
    obtain ⟨a, b⟩ := p
    rw [List.lookup_cons] at h
    split at h
    · rename_i q
      have : i = a := by simpa using q
      exact ⟨(a, b), by simp, this.symm, by simpa using h⟩
    · obtain ⟨p, g1, g2⟩ := ih h
      exact ⟨p, by simp [g1], g2⟩

theorem draws_core {P : Program} {Q : Post} {n : Nat} {ops : Array Oper} {cs : Nat → EG} {ord : List Nat} {bl : List (Nat × List Nat)} {ls : List (List EI)}
    (hI : ∀ is : List Nat, (∀ i, i ∈ is → i < ops.size) → compI P n ops is = some (is.map (annI cs fun _ => []))) (c1 : P.follows .mixedOrders = true) (c2 : ord.length ≤ ops.size) (c3 : ∀ i, i ∈ ord → i < ops.size) (c4 : ∀ i, i < ops.size → i ∈ ord)
    (c5 : topoB (preOf ops) [] ord = true) (c6 : ∀ p, p ∈ bl → ∀ j, j ∈ p.2 → ∃ q, q ∈ preOf ops p.1 ∧ (q = j ∨ j ∈ (bl.lookup q).getD []))
    (h : mapAll (planOne ops.size (preOf ops) cs) (sigsOf (fun i => (bl.lookup i).getD []) ((List.range ops.size).filter fun i => (cs i).act.kind == 2).length ((List.range ops.size).filter fun i => (cs i).act.kind == 2)) = some ls)
    {t : Nat → V} {hp : List Ob} (w : ∀ l, l ∈ ls → wpI P Q l t hp) (tk : Nat) : ∃ l', compI P n ops (Region.schedule (P.follows .mixedOrders) ops tk) = some l' ∧ wpI P Q l' t hp := by
  obtain ⟨t1, _, t3⟩ := topoB_spec _ _ c5
  have hsch : Region.schedule (P.follows .mixedOrders) ops tk = goR .any ops ops.size tk (Array.replicate ops.size false) := by
    unfold Region.schedule Region.linearise
    rw [c1]
    simp only [Bool.true_or, if_true, go_eq, List.reverse_nil, List.nil_append]
  rw [hsch]
  have hrep : ∀ i, (Array.replicate ops.size false).getD i false = false := by
    intro i
    rw [Array.getD_eq_getD_getElem?, Array.getElem?_replicate]
    split <;> rfl
  obtain ⟨g1, g2, g3⟩ := goR_spec (ops := ops) ops.size tk (Array.replicate ops.size false) ord c2 (by simp) (fun i => ⟨fun q => ⟨c3 i q, hrep i⟩, fun q => c4 i q.1⟩) t1 (fun X i Y e p hp => (t3 X i Y e p hp).elim .inl (fun q => by simp at q))
  generalize goR .any ops ops.size tk (Array.replicate ops.size false) = s at g1 g2 g3 ⊢
  have hm : ∀ i, i ∈ s ↔ i < ops.size := fun i => by rw [g2]; exact ⟨c3 i, c4 i⟩
  have hr : Resp (preOf ops) (fun _ => False) s := fun X i Y e p hp => (g3 X i Y e p hp).elim .inl (fun q => by
    replace q : (Array.replicate ops.size false).getD p false = true := q
    rw [hrep] at q; cases q)
  have hb : ∀ i j, j ∈ (bl.lookup i).getD [] → ∃ p, p ∈ preOf ops i ∧ (p = j ∨ j ∈ (bl.lookup p).getD []) := by
    intro i j hj
    obtain ⟨p, p1, p2, p3⟩ := lookup_mem' hj
    obtain ⟨q, q1, q2⟩ := c6 p p1 j p3
    rw [p2] at q1
    exact ⟨q, q1, q2⟩
  generalize hlo : (fun i => (cs i).act.kind == 2) = lo at h
  have hsig : s.filter lo ∈ sigsOf (fun i => (bl.lookup i).getD []) ((List.range ops.size).filter lo).length ((List.range ops.size).filter lo) := by
    have hnr : ((List.range ops.size).filter lo).Nodup := List.nodup_range.filter _
    have hmm : ∀ i, i ∈ s.filter lo ↔ i ∈ (List.range ops.size).filter lo := fun i => by
      simp only [List.mem_filter, List.mem_range, hm]
    refine sigs_mem _ _ _ ?_ (g1.filter _) hnr hmm (fun X i Y e j hj hjl => ?_)
    · have hp := (List.perm_ext_iff_of_nodup (g1.filter lo) hnr).2 hmm
      exact Nat.le_of_eq hp.length_eq
    · have hmi : i ∈ s.filter lo := by rw [e]; simp
      obtain ⟨his, hlo'⟩ := List.mem_filter.1 hmi
      obtain ⟨A, B, eA⟩ := List.append_of_mem his
      have hiA : i ∉ A := by
        rw [eA] at g1
        exact fun z => (List.nodup_append.1 g1).2.2 i z i (by simp) rfl
      have hjA := bef_mem hb hr A.length A i B (Nat.le_refl _) eA j hj
      have hiX : i ∉ X := by
        have := g1.filter lo
        rw [e] at this
        exact fun z => (List.nodup_append.1 this).2.2 i z i (by simp) rfl
      have e2 : s.filter lo = A.filter lo ++ i :: B.filter lo := by
        rw [eA, List.filter_append, List.filter_cons, if_pos hlo']
      rw [e2] at e
      rw [← split_unique e (fun z => hiA (List.mem_filter.1 z).1) hiX]
      exact List.mem_filter.2 ⟨hjA, (List.mem_filter.1 hjl).2⟩
  obtain ⟨l, l1, l2⟩ := mapAll_mem h _ hsig
  exact ⟨_, hI _ (fun i hi => (hm i).1 hi), planOne_ok l2 (w l l1) g1 hm hr (by rw [hlo])⟩

theorem compDraws_sound {P : Program} {n : Nat} {ops : Array Oper} {ls : List (List EI)} (h : compDraws P n ops = some ls) {Q : Post} {t : Nat → V} {hp : List Ob} (w : ∀ l, l ∈ ls → wpI P Q l t hp) (tk : Nat) :
    ∃ l', compI P n ops (Region.schedule (P.follows .mixedOrders) ops tk) = some l' ∧ wpI P Q l' t hp := by
  unfold compDraws at h
  split at h
  · cases h
  · rename_i gs hgs
    simp only at h
    split at h
    · rename_i hc
      have hI := compI_all' hgs
      generalize planOrdP (preOf ops) (fun _ => true) ops.size (List.range ops.size) [] = ord at h hc
      generalize planPcP (preOf ops) ord = bl at h hc
      rw [Bool.and_eq_true] at hc; obtain ⟨c1, hc⟩ := hc
      rw [Bool.and_eq_true] at hc; obtain ⟨c2, hc⟩ := hc
      rw [Bool.and_eq_true] at hc; obtain ⟨c3, hc⟩ := hc
      rw [Bool.and_eq_true] at hc; obtain ⟨c4, hc⟩ := hc
      rw [Bool.and_eq_true] at hc; obtain ⟨c5, hc⟩ := hc
      rw [Bool.and_eq_true] at hc; obtain ⟨c6, hc⟩ := hc
      refine draws_core (cs := fun i => gs.getD i default) hI c1 (of_decide_eq_true c2) (fun i hi => ?_) (fun i hi => ?_) c5 (fun p hp j hj => ?_) h w tk
      · exact of_decide_eq_true (List.all_eq_true.1 c3 i hi)
      · have := List.all_eq_true.1 c4 i (List.mem_range.2 hi)
        simpa using this
      · have := List.all_eq_true.1 (List.all_eq_true.1 c6 p hp) j hj
        obtain ⟨q, q1, q2⟩ := List.any_eq_true.1 this
        refine ⟨q, q1, ?_⟩
        rw [Bool.or_eq_true] at q2
        rcases q2 with q2 | q2
        · exact .inl (by simpa using q2)
        · exact .inr (by simpa using q2)
    · cases h

end Go.Proofs.Ytdcdmpgigmhhpaa.E
