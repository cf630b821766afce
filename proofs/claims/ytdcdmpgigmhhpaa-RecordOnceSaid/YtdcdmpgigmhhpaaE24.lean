/- The layer E, part 24: code run by evaluation; what that says. No condition. -/
import Derived.Test.YtdcdmpgigmhhpaaE22
namespace Go.Proofs.Ytdcdmpgigmhhpaa.E
set_option linter.unusedSimpArgs false
set_option linter.unusedVariables false

mutual
def V.beq : V → V → Bool
  | .int k n, .int k' n' => decide (k = k') && decide (n = n')
  | .bool b, .bool b' => decide (b = b')
  | .str l, .str l' => decide (l = l')
  | .nilp, .nilp => true
  | .ptr a b c, .ptr a' b' c' => decide (a = a') && decide (b = b') && decide (c = c')
  | .ref e j, .ref e' j' => V.beq e e' && decide (j = j')
  | .nils, .nils => true
  | .hsl a b c, .hsl a' b' c' => decide (a = a') && decide (b = b') && decide (c = c')
  | .sl es, .sl es' => V.beqs es es'
  | .esl, .esl => true
  | .nilm, .nilm => true
  | .mp i, .mp i' => decide (i = i')
  | .fn f cs, .fn f' cs' => decide (f = f') && V.beqs cs cs'
  | .nilf, .nilf => true
  | .agg cs, .agg cs' => V.beqs cs cs'
  | .tup cs, .tup cs' => V.beqs cs cs'
  | .junk, .junk => true
  | _, _ => false
def V.beqs : List V → List V → Bool
  | [], [] => true
  | x :: xs, y :: ys => V.beq x y && V.beqs xs ys
  | _, _ => false
end
mutual
theorem V.beq_eq : ∀ x y : V, V.beq x y = true → x = y
  | .int k n, y, h => by cases y <;> simp_all [V.beq]
  | .bool b, y, h => by cases y <;> simp_all [V.beq]
  | .str l, y, h => by cases y <;> simp_all [V.beq]
  | .nilp, y, h => by cases y <;> simp_all [V.beq]
  | .ptr a b c, y, h => by cases y <;> simp_all [V.beq]
  | .ref e j, y, h => by
    cases y <;> simp [V.beq] at h
    obtain ⟨h1, rfl⟩ := h
    rw [V.beq_eq _ _ h1]
  | .nils, y, h => by cases y <;> simp_all [V.beq]
  | .hsl a b c, y, h => by cases y <;> simp_all [V.beq]
  | .sl es, y, h => by cases y <;> simp [V.beq] at h; rw [V.beqs_eq _ _ h]
  | .esl, y, h => by cases y <;> simp_all [V.beq]
  | .nilm, y, h => by cases y <;> simp_all [V.beq]
  | .mp i, y, h => by cases y <;> simp_all [V.beq]
  | .fn f cs, y, h => by
    cases y <;> simp [V.beq] at h
    obtain ⟨rfl, h1⟩ := h
    rw [V.beqs_eq _ _ h1]
  | .nilf, y, h => by cases y <;> simp_all [V.beq]
  | .agg cs, y, h => by cases y <;> simp [V.beq] at h; rw [V.beqs_eq _ _ h]
  | .tup cs, y, h => by cases y <;> simp [V.beq] at h; rw [V.beqs_eq _ _ h]
  | .junk, y, h => by cases y <;> simp_all [V.beq]
theorem V.beqs_eq : ∀ x y : List V, V.beqs x y = true → x = y
  | [], y, h => by cases y <;> simp_all [V.beqs]
  | x :: xs, y, h => by
    cases y <;> simp [V.beqs] at h
    obtain ⟨h1, h2⟩ := h
    rw [V.beq_eq _ _ h1, V.beqs_eq _ _ h2]
end

abbrev CallF := FuncId → List V → List Ob → Option (V × List Ob)

def evA (F : CallF) (x : EA) (t : Nat → V) (h : List Ob) : Option (V × List Ob) := match x with
  | .op o => evOp o t h
  | .call f args => F f (args.map (·.get t)) h
  | .callv fv args => match fv.get t with
    | .fn f caps => F f (args.map (·.get t) ++ caps) h
    | _ => none
  | .nextM x => match evNextM h (x.get t) with
    | some [p] => some p
    | _ => none
  | .bad => none

def reckB (g : EG) (t : Nat → V) (h : List Ob) : Bool := match g.dst with
  | some d => match evG g t h with
    | some v => V.beq v (t d)
    | none => false
  | none => false

def evI (F : CallF) : List EI → (Nat → V) → List Ob → Option ((Nat → V) × List Ob)
  | [], t, h => some (t, h)
  | i :: rest, t, h => match wantE t i.guard with
    | some true => match evA F i.act t h with
      | some (v, h') => match i.re.all fun g => reckB g (putT t i.dst v) h' with
        | true => evI F rest (putT t i.dst v) h'
        | false => none
      | none => none
    | some false => match i.re.all fun g => reckB g (putT t i.dst (.tup [])) h with
      | true => evI F rest (putT t i.dst (.tup [])) h
      | false => none
    | none => none

def loopN (body : (Nat → V) → List Ob → Option (EX × (Nat → V) × List Ob)) : Nat → (Nat → V) → List Ob → Option (EX × (Nat → V) × List Ob)
  | 0, _, _ => none
  | k + 1, t, h => match body t h with
    | some (.normal, t', h') => loopN body k t' h'
    | r => r

def evC (F : CallF) (lf : Nat) : EC → (Nat → V) → List Ob → Option (EX × (Nat → V) × List Ob)
  | .skip, t, h => some (.normal, t, h)
  | .reg l, t, h => match evI F l t h with
    | some (t', h') => some (.normal, t', h')
    | none => none
  | .draw _, _, _ => none
  | .seq x y, t, h => match evC F lf x t h with
    | some (.normal, t', h') => evC F lf y t' h'
    | r => r
  | .cond c x y, t, h => match c.get t with
    | .bool true => evC F lf x t h
    | .bool false => evC F lf y t h
    | _ => none
  | .block id x, t, h => match evC F lf x t h with
    | some (.exit j, t', h') => if j = id then some (.normal, t', h') else some (.exit j, t', h')
    | r => r
  | .loop x, t, h => loopN (evC F lf x) lf t h
  | .exit id, t, h => some (.exit id, t, h)
  | .ret, t, h => some (.ret, t, h)

def resE (rs : List ERs) (t : Nat → V) (h : List Ob) : Option V := match mapAll (ERs.ev t h) rs with
  | none => none
  | some [v] => some v
  | some vs => some (.tup vs)

/-- A function, by so many calls inside one another and so many rounds. -/
def evF (tab : FuncId → Option EFn) (lf : Nat) : Nat → CallF
  | 0, _, _, _ => none
  | k + 1, f, args, h => match tab f with
    | none => none
    | some e => if args.length ≤ e.n then match evC (evF tab lf k) lf e.code (env0 args) h with
        | some (.exit _, _, _) => none
        | some (_, t, h') => match resE e.res t h' with
          | some v => some (v, h')
          | none => none
        | none => none
      else none

/-! ### What it says -/
def OkF (P : Program) (F : CallF) : Prop := ∀ f args h v h', F f args h = some (v, h') → entersB P f = true ∧ CE P f args h fun v2 h2 => v2 = v ∧ h2 = h'

theorem evA_ok {P : Program} {F : CallF} (ok : OkF P F) {x : EA} {t : Nat → V} {h h' : List Ob} {v : V} (e : evA F x t h = some (v, h')) {K : V → List Ob → Prop} (k : K v h') : wpA P x t h K := by
  cases x with
  | op o =>
    simp only [evA] at e
    simp only [wpA, e, ifSome_some]
    exact k
  | call f args => exact (ok _ _ _ _ _ e).2.mono (fun v2 h2 ⟨q1, q2⟩ => by subst q1; subst q2; exact k)
  | callv fv args =>
    simp only [evA] at e
    simp only [wpA]
    split at e
    · rename_i f caps hf
      rw [hf]
      obtain ⟨q1, q2⟩ := ok _ _ _ _ _ e
      exact ⟨q1, q2.mono (fun v2 h2 ⟨r1, r2⟩ => by subst r1; subst r2; exact k)⟩
    · cases e
  | nextM y =>
    simp only [evA] at e
    simp only [wpA]
    split at e
    · rename_i p hp
      rw [hp]
      injection e with e
      intro q hq
      rw [List.mem_singleton.1 hq, e]; exact k
    · cases e
  | bad => cases e

theorem reckB_ok {gs : List EG} {t : Nat → V} {h : List Ob} (e : (gs.all fun g => reckB g t h) = true) {K : Prop} (k : K) : andRe gs t h K := by
  induction gs with
  | nil => exact k
  | cons g gs ih =>
    simp only [List.all_cons, Bool.and_eq_true] at e
    refine ⟨?_, ih e.2⟩
    have := e.1
    unfold reckB at this
    unfold reck
    split at this
    · rename_i d hd
      split at this
      · rename_i v hv
        rw [hd]
        simp only
        rw [hv, V.beq_eq _ _ this]
      · cases this
    · cases this

theorem evI_ok {P : Program} {F : CallF} (ok : OkF P F) {Q : Post} : ∀ (l : List EI) (t t' : Nat → V) (h h' : List Ob), evI F l t h = some (t', h') → Q .normal t' h' → wpI P Q l t h
  | [], t, t', h, h', e, q => by
    simp only [evI, Option.some.injEq, Prod.mk.injEq] at e
    obtain ⟨rfl, rfl⟩ := e
    exact q
  | i :: rest, t, t', h, h', e, q => by
    simp only [evI] at e
    simp only [wpI]
    split at e
    · rename_i hw
      rw [hw]
      split at e
      · rename_i v h1 ha
        split at e
        · rename_i hr
          exact evA_ok (K := fun v h' => andRe i.re (putT t i.dst v) h' (wpI P Q rest (putT t i.dst v) h')) ok ha (reckB_ok hr (evI_ok ok rest _ _ _ _ e q))
        · cases e
      · cases e
    · rename_i hw
      rw [hw]
      split at e
      · rename_i hr
        exact reckB_ok hr (evI_ok ok rest _ _ _ _ e q)
      · cases e
    · cases e

theorem evC_ok {P : Program} {F : CallF} (ok : OkF P F) {lf : Nat} : ∀ (c : EC) (Q : Post) (t : Nat → V) (h : List Ob) (x : EX) (t' : Nat → V) (h' : List Ob), evC F lf c t h = some (x, t', h') → Q x t' h' → wpC P c Q t h := by
  intro c
  induction c with
  | skip => intro Q t h x t' h' e q; simp only [evC, Option.some.injEq, Prod.mk.injEq] at e; obtain ⟨rfl, rfl, rfl⟩ := e; exact q
  | reg l =>
    intro Q t h x t' h' e q
    simp only [evC] at e
    split at e
    · rename_i t1 h1 he
      simp only [Option.some.injEq, Prod.mk.injEq] at e; obtain ⟨rfl, rfl, rfl⟩ := e
      exact evI_ok ok l _ _ _ _ he q
    · cases e
  | draw => intro Q t h x t' h' e q; cases e
  | seq a b iha ihb =>
    intro Q t h x t' h' e q
    simp only [evC] at e
    split at e
    · rename_i t1 h1 he
      exact iha _ _ _ _ _ _ he (ihb _ _ _ _ _ _ e q)
    · rename_i hne
      refine iha _ _ _ _ _ _ e ?_
      cases x with
      | normal => exact absurd e (hne _ _)
      | exit => exact q
      | ret => exact q
  | cond c a b iha ihb =>
    intro Q t h x t' h' e q
    simp only [evC] at e
    simp only [wpC]
    split at e
    · rename_i hc; rw [hc]; exact iha _ _ _ _ _ _ e q
    · rename_i hc; rw [hc]; exact ihb _ _ _ _ _ _ e q
    · cases e
  | block id a ih =>
    intro Q t h x t' h' e q
    simp only [evC] at e
    split at e
    · rename_i j t1 h1 he
      refine ih _ _ _ _ _ _ he ?_
      simp only [blockQ]
      split at e
      · rename_i hj
        simp only [Option.some.injEq, Prod.mk.injEq] at e; obtain ⟨rfl, rfl, rfl⟩ := e
        rw [if_pos hj]; exact q
      · rename_i hj
        simp only [Option.some.injEq, Prod.mk.injEq] at e; obtain ⟨rfl, rfl, rfl⟩ := e
        rw [if_neg hj]; exact q
    · rename_i hne
      refine ih _ _ _ _ _ _ e ?_
      cases x with
      | normal => exact q
      | exit j => exact absurd e (hne _ _ _)
      | ret => exact q
  | loop a ih =>
    intro Q t h x t' h' e q
    simp only [evC] at e
    simp only [wpC]
    refine ⟨fun m t h => loopN (evC F lf a) m t h = some (x, t', h'), ⟨lf, e⟩, fun m t h hm => ?_⟩
    cases m with
    | zero => simp [loopN] at hm
    | succ m =>
      simp only [loopN] at hm
      split at hm
      · rename_i t1 h1 he
        exact ih _ _ _ _ _ _ he ⟨m, Nat.lt_succ_self m, hm⟩
      · rename_i hne
        refine ih _ _ _ _ _ _ hm ?_
        cases x with
        | normal => exact absurd hm (hne _ _)
        | exit => exact q
        | ret => exact q
  | exit id => intro Q t h x t' h' e q; simp only [evC, Option.some.injEq, Prod.mk.injEq] at e; obtain ⟨rfl, rfl, rfl⟩ := e; exact q
  | ret => intro Q t h x t' h' e q; simp only [evC, Option.some.injEq, Prod.mk.injEq] at e; obtain ⟨rfl, rfl, rfl⟩ := e; exact q

theorem resK_of {rs : List ERs} {t : Nat → V} {h : List Ob} {v : V} (e : resE rs t h = some v) {K : V → Prop} (k : K v) : resK rs t h K := by
  unfold resE at e
  unfold resK
  cases hm : mapAll (ERs.ev t h) rs with
  | none => rw [hm] at e; cases e
  | some vs =>
    rw [hm] at e
    match vs, e with
    | [], e => injection e with e; subst e; exact k
    | [u], e => injection e with e; subst e; exact k
    | u :: u' :: us, e => injection e with e; subst e; exact k

/-- The functions of a table are the program's. -/
def TabOk (P : Program) (tab : FuncId → Option EFn) : Prop := ∀ f e, tab f = some e → ∃ fn, P.funcs[f]? = some fn ∧ compF P fn = some e ∧ entersB P f = true

theorem evF_ok {P : Program} {tab : FuncId → Option EFn} (T : TabOk P tab) (lf : Nat) : ∀ k, OkF P (evF tab lf k)
  | 0, f, args, h, v, h', e => by cases e
  | k + 1, f, args, h, v, h', e => by
    simp only [evF] at e
    split at e
    · cases e
    · rename_i ef hf
      obtain ⟨fn, g1, g2, g3⟩ := T f ef hf
      split at e
      · rename_i hn
        split at e
        · cases e
        · rename_i x t1 h1 hne he
          split at e
          · rename_i v' hr
            injection e with e; injection e with e1 e2; subst e1; subst e2
            refine ⟨g3, CE.of_body g1 g2 hn (evC_ok (evF_ok T lf k) _ _ _ _ _ _ _ he ?_)⟩
            cases x with
            | exit j => exact absurd rfl (hne j)
            | normal => exact resK_of hr ⟨rfl, rfl⟩
            | ret => exact resK_of hr ⟨rfl, rfl⟩
          · cases e
        · cases e
      · cases e

end Go.Proofs.Ytdcdmpgigmhhpaa.E
