/- The layer E, part 28: evaluation in which the comparisons of named functions are answered ahead, each answer being a condition. No condition. -/
import Derived.Test.YtdcdmpgigmhhpaaE27
namespace Go.Proofs.Ytdcdmpgigmhhpaa.E
set_option linter.unusedSimpArgs false
set_option linter.unusedVariables false

/-- The answers that are left, and what was asked so far. -/
structure Oc where
  left : List Bool
  asked : List (Option V × Bool)
  deriving Inhabited

def Oc.holds (o : Oc) : Prop := ∀ p, p ∈ o.asked → p.1 = some (.bool p.2)

abbrev CallO := FuncId → List V → List Ob → Oc → Option (V × List Ob × Oc)

def isCmp : BinOp → Bool
  | .eql | .neq | .lss | .leq | .gtr | .geq => true
  | _ => false

def evAO (F : CallO) (ask : Bool) (x : EA) (t : Nat → V) (h : List Ob) (o : Oc) : Option (V × List Ob × Oc) := match x with
  | .op (.bin op x y) => match ask && isCmp op, o.left with
    | true, b :: bs => some (.bool b, h, ⟨bs, (evBin op (x.get t) (y.get t), b) :: o.asked⟩)
    | true, [] => none
    | false, _ => match evOp (.bin op x y) t h with
      | some (v, h') => some (v, h', o)
      | none => none
  | .op e => match evOp e t h with
    | some (v, h') => some (v, h', o)
    | none => none
  | .call f args => F f (args.map (·.get t)) h o
  | .callv fv args => match fv.get t with
    | .fn f caps => F f (args.map (·.get t) ++ caps) h o
    | _ => none
  | .nextM x => match evNextM h (x.get t) with
    | some [(v, h')] => some (v, h', o)
    | _ => none
  | .bad => none

def evIO (F : CallO) (ask : Bool) : List EI → (Nat → V) → List Ob → Oc → Option ((Nat → V) × List Ob × Oc)
  | [], t, h, o => some (t, h, o)
  | i :: rest, t, h, o => match wantE t i.guard with
    | some true => match evAO F ask i.act t h o with
      | some (v, h', o') => match i.re.all fun g => reckB g (putT t i.dst v) h' with
        | true => evIO F ask rest (putT t i.dst v) h' o'
        | false => none
      | none => none
    | some false => match i.re.all fun g => reckB g (putT t i.dst (.tup [])) h with
      | true => evIO F ask rest (putT t i.dst (.tup [])) h o
      | false => none
    | none => none

def loopO (body : (Nat → V) → List Ob → Oc → Option (EX × (Nat → V) × List Ob × Oc)) : Nat → (Nat → V) → List Ob → Oc → Option (EX × (Nat → V) × List Ob × Oc)
  | 0, _, _, _ => none
  | k + 1, t, h, o => match body t h o with
    | some (.normal, t', h', o') => loopO body k t' h' o'
    | r => r

def evCO (F : CallO) (ask : Bool) (lf : Nat) : EC → (Nat → V) → List Ob → Oc → Option (EX × (Nat → V) × List Ob × Oc)
  | .skip, t, h, o => some (.normal, t, h, o)
  | .reg l, t, h, o => match evIO F ask l t h o with
    | some (t', h', o') => some (.normal, t', h', o')
    | none => none
  | .draw _, _, _, _ => none
  | .seq x y, t, h, o => match evCO F ask lf x t h o with
    | some (.normal, t', h', o') => evCO F ask lf y t' h' o'
    | r => r
  | .cond c x y, t, h, o => match c.get t with
    | .bool true => evCO F ask lf x t h o
    | .bool false => evCO F ask lf y t h o
    | _ => none
  | .block id x, t, h, o => match evCO F ask lf x t h o with
    | some (.exit j, t', h', o') => if j = id then some (.normal, t', h', o') else some (.exit j, t', h', o')
    | r => r
  | .loop x, t, h, o => loopO (evCO F ask lf x) lf t h o
  | .exit id, t, h, o => some (.exit id, t, h, o)
  | .ret, t, h, o => some (.ret, t, h, o)

def evFO (tab : FuncId → Option EFn) (asks : FuncId → Bool) (lf : Nat) : Nat → CallO
  | 0, _, _, _, _ => none
  | k + 1, f, args, h, o => match tab f with
    | none => none
    | some e => if args.length ≤ e.n then match evCO (evFO tab asks lf k) (asks f) lf e.code (env0 args) h o with
        | some (.exit _, _, _, _) => none
        | some (_, t, h', o') => match resE e.res t h' with
          | some v => some (v, h', o')
          | none => none
        | none => none
      else none

/-- What was asked before is asked still. -/
def OkO (P : Program) (F : CallO) : Prop := ∀ f args h o v h' o', F f args h o = some (v, h', o') → (∀ p, p ∈ o.asked → p ∈ o'.asked) ∧ (o'.holds → entersB P f = true ∧ CE P f args h fun v2 h2 => v2 = v ∧ h2 = h')

theorem evAO_ok {P : Program} {F : CallO} (ok : OkO P F) {ask : Bool} {x : EA} {t : Nat → V} {h h' : List Ob} {v : V} {o o' : Oc} (e : evAO F ask x t h o = some (v, h', o')) :
    (∀ p, p ∈ o.asked → p ∈ o'.asked) ∧ (o'.holds → ∀ {K : V → List Ob → Prop}, K v h' → wpA P x t h K) := by
  have plain : ∀ q : EOp, (match evOp q t h with | some (v, h') => some (v, h', o) | none => none) = some (v, h', o') → (∀ p, p ∈ o.asked → p ∈ o'.asked) ∧ (o'.holds → ∀ {K : V → List Ob → Prop}, K v h' → wpA P (.op q) t h K) := by
    intro q e
    cases he : evOp q t h with
    | none => rw [he] at e; cases e
    | some p =>
      obtain ⟨v1, h1⟩ := p
      rw [he] at e
      injection e with e; injection e with e1 e2; injection e2 with e2 e3
      subst e1; subst e2; subst e3
      exact ⟨fun p hp => hp, fun _ K k => by simp only [wpA, he, ifSome_some]; exact k⟩
  cases x with
  | op q =>
    cases q with
    | bin op x y =>
      simp only [evAO] at e
      split at e
      · rename_i b bs ha hl
        injection e with e; injection e with e1 e2; injection e2 with e2 e3
        subst e1; subst e2; subst e3
        refine ⟨fun p hp => by simp [hp], fun hh K k => ?_⟩
        have := hh (evBin op (x.get t) (y.get t), b) (by simp)
        simp only at this
        simp only [wpA, evOp, this, Option.map_some, ifSome_some]
        exact k
      · cases e
      · exact plain _ e
    | _ => exact plain _ e
  | call f args =>
    obtain ⟨g1, g2⟩ := ok _ _ _ _ _ _ _ e
    exact ⟨g1, fun hh K k => (g2 hh).2.mono (fun v2 h2 ⟨r1, r2⟩ => by subst r1; subst r2; exact k)⟩
  | callv fv args =>
    simp only [evAO] at e
    split at e
    · rename_i f caps hf
      obtain ⟨g1, g2⟩ := ok _ _ _ _ _ _ _ e
      refine ⟨g1, fun hh K k => ?_⟩
      simp only [wpA]
      rw [hf]
      exact ⟨(g2 hh).1, (g2 hh).2.mono (fun v2 h2 ⟨r1, r2⟩ => by subst r1; subst r2; exact k)⟩
    · cases e
  | nextM y =>
    simp only [evAO] at e
    split at e
    · rename_i v1 h1 hp
      injection e with e; injection e with e1 e2; injection e2 with e2 e3
      subst e1; subst e2; subst e3
      refine ⟨fun p hp => hp, fun _ K k => ?_⟩
      simp only [wpA]
      rw [hp]
      intro q hq
      rw [List.mem_singleton.1 hq]; exact k
    · cases e
  | bad => cases e

theorem evIO_ok {P : Program} {F : CallO} (ok : OkO P F) {ask : Bool} : ∀ (l : List EI) (t t' : Nat → V) (h h' : List Ob) (o o' : Oc), evIO F ask l t h o = some (t', h', o') →
    (∀ p, p ∈ o.asked → p ∈ o'.asked) ∧ (o'.holds → ∀ {Q : Post}, Q .normal t' h' → wpI P Q l t h)
  | [], t, t', h, h', o, o', e => by
    simp only [evIO, Option.some.injEq, Prod.mk.injEq] at e
    obtain ⟨rfl, rfl, rfl⟩ := e
    exact ⟨fun p hp => hp, fun _ Q q => q⟩
  | i :: rest, t, t', h, h', o, o', e => by
    simp only [evIO] at e
    split at e
    · rename_i hw
      split at e
      · rename_i v h1 o1 ha
        split at e
        · rename_i hr
          obtain ⟨a1, a2⟩ := evAO_ok ok ha
          obtain ⟨g1, g2⟩ := evIO_ok ok rest _ _ _ _ _ _ e
          refine ⟨fun p hp => g1 p (a1 p hp), fun hh Q q => ?_⟩
          simp only [wpI]
          rw [hw]
          exact a2 (fun p hp => hh p (g1 p hp)) (K := fun v h' => andRe i.re (putT t i.dst v) h' (wpI P Q rest (putT t i.dst v) h')) (reckB_ok hr (g2 hh q))
        · cases e
      · cases e
    · rename_i hw
      split at e
      · rename_i hr
        obtain ⟨g1, g2⟩ := evIO_ok ok rest _ _ _ _ _ _ e
        refine ⟨g1, fun hh Q q => ?_⟩
        simp only [wpI]
        rw [hw]
        exact reckB_ok hr (g2 hh q)
      · cases e
    · cases e

theorem evCO_ok {P : Program} {F : CallO} (ok : OkO P F) {ask : Bool} {lf : Nat} : ∀ (c : EC) (t : Nat → V) (h : List Ob) (o : Oc) (x : EX) (t' : Nat → V) (h' : List Ob) (o' : Oc), evCO F ask lf c t h o = some (x, t', h', o') →
    (∀ p, p ∈ o.asked → p ∈ o'.asked) ∧ (o'.holds → ∀ (Q : Post), Q x t' h' → wpC P c Q t h) := by
  intro c
  induction c with
  | skip => intro t h o x t' h' o' e; simp only [evCO, Option.some.injEq, Prod.mk.injEq] at e; obtain ⟨rfl, rfl, rfl, rfl⟩ := e; exact ⟨fun p hp => hp, fun _ Q q => q⟩
  | reg l =>
    intro t h o x t' h' o' e
    simp only [evCO] at e
    split at e
    · rename_i t1 h1 o1 he
      simp only [Option.some.injEq, Prod.mk.injEq] at e; obtain ⟨rfl, rfl, rfl, rfl⟩ := e
      obtain ⟨g1, g2⟩ := evIO_ok ok l _ _ _ _ _ _ he
      exact ⟨g1, fun hh Q q => g2 hh q⟩
    · cases e
  | draw => intro t h o x t' h' o' e; cases e
  | seq a b iha ihb =>
    intro t h o x t' h' o' e
    simp only [evCO] at e
    split at e
    · rename_i t1 h1 o1 he
      obtain ⟨a1, a2⟩ := iha _ _ _ _ _ _ _ he
      obtain ⟨b1, b2⟩ := ihb _ _ _ _ _ _ _ e
      exact ⟨fun p hp => b1 p (a1 p hp), fun hh Q q => a2 (fun p hp => hh p (b1 p hp)) _ (b2 hh Q q)⟩
    · rename_i hne
      obtain ⟨a1, a2⟩ := iha _ _ _ _ _ _ _ e
      refine ⟨a1, fun hh Q q => a2 hh _ ?_⟩
      cases x with
      | normal => exact absurd e (hne _ _ _)
      | exit => exact q
      | ret => exact q
  | cond c a b iha ihb =>
    intro t h o x t' h' o' e
    simp only [evCO] at e
    split at e
    · rename_i hc
      obtain ⟨a1, a2⟩ := iha _ _ _ _ _ _ _ e
      exact ⟨a1, fun hh Q q => by simp only [wpC]; rw [hc]; exact a2 hh Q q⟩
    · rename_i hc
      obtain ⟨a1, a2⟩ := ihb _ _ _ _ _ _ _ e
      exact ⟨a1, fun hh Q q => by simp only [wpC]; rw [hc]; exact a2 hh Q q⟩
    · cases e
  | block id a ih =>
    intro t h o x t' h' o' e
    simp only [evCO] at e
    split at e
    · rename_i j t1 h1 o1 he
      obtain ⟨a1, a2⟩ := ih _ _ _ _ _ _ _ he
      split at e
      · rename_i hj
        simp only [Option.some.injEq, Prod.mk.injEq] at e; obtain ⟨rfl, rfl, rfl, rfl⟩ := e
        exact ⟨a1, fun hh Q q => a2 hh _ (by simp only [blockQ]; rw [if_pos hj]; exact q)⟩
      · rename_i hj
        simp only [Option.some.injEq, Prod.mk.injEq] at e; obtain ⟨rfl, rfl, rfl, rfl⟩ := e
        exact ⟨a1, fun hh Q q => a2 hh _ (by simp only [blockQ]; rw [if_neg hj]; exact q)⟩
    · rename_i hne
      obtain ⟨a1, a2⟩ := ih _ _ _ _ _ _ _ e
      refine ⟨a1, fun hh Q q => a2 hh _ ?_⟩
      cases x with
      | normal => exact q
      | exit j => exact absurd e (hne _ _ _ _)
      | ret => exact q
  | loop a ih =>
    intro t h o x t' h' o' e
    simp only [evCO] at e
    have mono : ∀ m t h o, loopO (evCO F ask lf a) m t h o = some (x, t', h', o') → ∀ p, p ∈ o.asked → p ∈ o'.asked := by
      intro m
      induction m with
      | zero => intro t h o e; simp [loopO] at e
      | succ m ihm =>
        intro t h o e
        simp only [loopO] at e
        split at e
        · rename_i t1 h1 o1 he
          exact fun p hp => ihm _ _ _ e p ((ih _ _ _ _ _ _ _ he).1 p hp)
        · exact (ih _ _ _ _ _ _ _ e).1
    refine ⟨mono lf t h o e, fun hh Q q => ?_⟩
    simp only [wpC]
    refine ⟨fun m t h => ∃ o, loopO (evCO F ask lf a) m t h o = some (x, t', h', o'), ⟨lf, o, e⟩, fun m t h ⟨o, hm⟩ => ?_⟩
    cases m with
    | zero => simp [loopO] at hm
    | succ m =>
      simp only [loopO] at hm
      split at hm
      · rename_i t1 h1 o1 he
        exact (ih _ _ _ _ _ _ _ he).2 (fun p hp => hh p (mono m _ _ _ hm p hp)) _ ⟨m, Nat.lt_succ_self m, o1, hm⟩
      · rename_i hne
        refine (ih _ _ _ _ _ _ _ hm).2 hh _ ?_
        cases x with
        | normal => exact absurd hm (hne _ _ _)
        | exit => exact q
        | ret => exact q
  | exit id => intro t h o x t' h' o' e; simp only [evCO, Option.some.injEq, Prod.mk.injEq] at e; obtain ⟨rfl, rfl, rfl, rfl⟩ := e; exact ⟨fun p hp => hp, fun _ Q q => q⟩
  | ret => intro t h o x t' h' o' e; simp only [evCO, Option.some.injEq, Prod.mk.injEq] at e; obtain ⟨rfl, rfl, rfl, rfl⟩ := e; exact ⟨fun p hp => hp, fun _ Q q => q⟩

theorem evFO_ok {P : Program} {tab : FuncId → Option EFn} (T : TabOk P tab) (asks : FuncId → Bool) (lf : Nat) : ∀ k, OkO P (evFO tab asks lf k)
  | 0, f, args, h, o, v, h', o', e => by cases e
  | k + 1, f, args, h, o, v, h', o', e => by
    simp only [evFO] at e
    split at e
    · cases e
    · rename_i ef hf
      obtain ⟨fn, g1, g2, g3⟩ := T f ef hf
      split at e
      · rename_i hn
        split at e
        · cases e
        · rename_i x t1 h1 o1 hne he
          obtain ⟨a1, a2⟩ := evCO_ok (evFO_ok T asks lf k) _ _ _ _ _ _ _ _ he
          split at e
          · rename_i v' hr
            injection e with e; injection e with e1 e2; injection e2 with e2 e3; subst e1; subst e2; subst e3
            refine ⟨a1, fun hh => ⟨g3, CE.of_body g1 g2 hn (a2 hh _ ?_)⟩⟩
            cases x with
            | exit j => exact absurd rfl (hne j)
            | normal => exact resK_of hr ⟨rfl, rfl⟩
            | ret => exact resK_of hr ⟨rfl, rfl⟩
          · cases e
        · cases e
      · cases e

/-- A call that evaluation brings to an end, where the answers are right. -/
theorem ce_of_asked {P : Program} {tab : FuncId → Option EFn} (T : TabOk P tab) {asks : FuncId → Bool} {lf k : Nat} {f : FuncId} {args : List V} {h : List Ob} {bs : List Bool} {v : V} {cs : List (Option V × Bool)}
    (e : (evFO tab asks lf k f args h ⟨bs, []⟩).map (fun r => (r.1, r.2.2.asked)) = some (v, cs)) (hc : ∀ p, p ∈ cs → p.1 = some (.bool p.2)) : CE P f args h fun r _ => r = v := by
  simp only [Option.map_eq_some_iff] at e
  obtain ⟨⟨r, h', o'⟩, e1, e2⟩ := e
  injection e2 with e2 e3
  exact ((evFO_ok T asks lf k f args h _ r h' o' e1).2 (fun p hp => hc p (e3 ▸ hp))).2.mono fun r2 h2 q => q.1.trans e2

end Go.Proofs.Ytdcdmpgigmhhpaa.E
