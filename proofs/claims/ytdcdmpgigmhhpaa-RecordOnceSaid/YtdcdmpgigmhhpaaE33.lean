/- The layer E, part 33: a piece of code run by evaluation where not all is known: what single operations bring is answered, each answer being a condition; of the temporaries only those are told that are asked for. No condition. -/
import Derived.Test.YtdcdmpgigmhhpaaE32
namespace Go.Proofs.Ytdcdmpgigmhhpaa.E
set_option linter.unusedSimpArgs false
set_option linter.unusedVariables false


/-- What is known of the temporaries: the newest first. -/
abbrev Kn := List (Nat × V)

def Kn.get (t : Nat → V) : Kn → Nat → V
  | [], i => t i
  | (d, v) :: l, i => match i.beq d with
    | true => v
    | false => Kn.get t l i

def Kn.set : Kn → Nat → V → Kn
  | [], d, v => [(d, v)]
  | (d', v') :: l, d, v => match d.beq d' with
    | true => (d, v) :: l
    | false => (d', v') :: Kn.set l d v

theorem Kn.get_set (t : Nat → V) : ∀ (l : Kn) (d : Nat) (v : V) (j : Nat), (l.set d v).get t j = if j = d then v else l.get t j
  | [], d, v, j => by
    simp only [Kn.set, Kn.get]
    split
    · rename_i h; rw [beqT] at h; rw [if_pos h]
    · rename_i h; rw [beqF] at h; rw [if_neg h]
  | (d', v') :: l, d, v, j => by
    simp only [Kn.set]
    split
    · rename_i h
      rw [beqT] at h; subst h
      simp only [Kn.get]
      split
      · rename_i h1; rw [beqT] at h1; rw [if_pos h1]
      · rename_i h1; rw [beqF] at h1; rw [if_neg h1]
    · rename_i h
      rw [beqF] at h
      simp only [Kn.get]
      split
      · rename_i h1; rw [beqT] at h1; rw [if_neg (by omega)]
      · rw [Kn.get_set t l]

theorem Kn.set_eq (t : Nat → V) (l : Kn) (d : Nat) (v : V) : (l.set d v).get t = upd (l.get t) d v := by
  funext j
  rw [Kn.get_set]; rfl

def putK (l : Kn) (dst : Option Nat) (v : V) : Kn := match dst with
  | some d => l.set d v
  | none => l

theorem putK_eq (t : Nat → V) (l : Kn) (dst : Option Nat) (v : V) : (putK l dst v).get t = putT (l.get t) dst v := by
  cases dst with
  | none => rfl
  | some d => exact Kn.set_eq t l d v

/-- A call comes to just this. -/
def CD (P : Program) (f : FuncId) (args : List V) (h : List Ob) (v : V) (h' : List Ob) : Prop := entersB P f = true ∧ CE P f args h fun v2 h2 => v2 = v ∧ h2 = h'

/-- The answers that are left, and the conditions so far. -/
structure An where
  left : List (V × List Ob)
  cs : List Prop

def An.ok (a : An) : Prop := ∀ p, p ∈ a.cs → p

def evAY (P : Program) (sum : Sums) (ask : Bool) (x : EA) (t : Nat → V) (h : List Ob) (a : An) : Option (V × List Ob × An) := match x with
  | .op e => match ask with
    | true => match a.left with
      | p :: ps => some (p.1, p.2, ⟨ps, (evOp e t h = some p) :: a.cs⟩)
      | [] => none
    | false => match evOq e t h with
      | some p => some (p.1, p.2, a)
      | none => none
  | .call f args => match ask with
    | true => match a.left with
      | p :: ps => some (p.1, p.2, ⟨ps, CD P f (args.map (·.get t)) h p.1 p.2 :: a.cs⟩)
      | [] => none
    | false => match sum f (args.map (·.get t)) h with
      | some p => some (p.1, p.2, a)
      | none => none
  | .callv fv args => match fv.get t with
    | .fn f caps => match ask with
      | true => match a.left with
        | p :: ps => some (p.1, p.2, ⟨ps, CD P f (args.map (·.get t) ++ caps) h p.1 p.2 :: a.cs⟩)
        | [] => none
      | false => match sum f (args.map (·.get t) ++ caps) h with
        | some p => some (p.1, p.2, a)
        | none => none
    | _ => none
  | _ => none

def asked (asks : List Nat) (dst : Option Nat) : Bool := match dst with
  | some d => asks.any (Nat.beq d)
  | none => asks.any (Nat.beq 9999)

def evIY (P : Program) (sum : Sums) (asks : List Nat) (t : Nat → V) : List EI → Kn → List Ob → An → Option (Kn × List Ob × An)
  | [], E, h, a => some (E, h, a)
  | i :: rest, E, h, a => match wantE (E.get t) i.guard with
    | some true => match evAY P sum (asked asks i.dst) i.act (E.get t) h a with
      | some (v, h', a') => match i.re.all fun g => reckB g ((putK E i.dst v).get t) h' with
        | true => evIY P sum asks t rest (putK E i.dst v) h' a'
        | false => none
      | none => none
    | some false => match i.re.all fun g => reckB g ((putK E i.dst (.tup [])).get t) h with
      | true => evIY P sum asks t rest (putK E i.dst (.tup [])) h a
      | false => none
    | none => none

def loopY (body : Kn → List Ob → An → Option (EX × Kn × List Ob × An)) : Nat → Kn → List Ob → An → Option (EX × Kn × List Ob × An)
  | 0, _, _, _ => none
  | k + 1, E, h, a => match body E h a with
    | some (.normal, E', h', a') => loopY body k E' h' a'
    | r => r

def evCY (P : Program) (sum : Sums) (asks : List Nat) (lf : Nat) (t : Nat → V) : EC → Kn → List Ob → An → Option (EX × Kn × List Ob × An)
  | .skip, E, h, a => some (.normal, E, h, a)
  | .reg l, E, h, a => match evIY P sum asks t l E h a with
    | some (E', h', a') => some (.normal, E', h', a')
    | none => none
  | .draw _, _, _, _ => none
  | .seq x y, E, h, a => match evCY P sum asks lf t x E h a with
    | some (.normal, E', h', a') => evCY P sum asks lf t y E' h' a'
    | r => r
  | .cond c x y, E, h, a => match c.get (E.get t) with
    | .bool true => evCY P sum asks lf t x E h a
    | .bool false => evCY P sum asks lf t y E h a
    | _ => none
  | .block id x, E, h, a => match evCY P sum asks lf t x E h a with
    | some (.exit j, E', h', a') => if j = id then some (.normal, E', h', a') else some (.exit j, E', h', a')
    | r => r
  | .loop x, E, h, a => loopY (evCY P sum asks lf t x) lf E h a
  | .exit id, E, h, a => some (.exit id, E, h, a)
  | .ret, E, h, a => some (.ret, E, h, a)

/-- What is asked of a run: how it ends, some temporaries, memory, the conditions. -/
def tellY (ds : List Nat) (t : Nat → V) (r : Option (EX × Kn × List Ob × An)) : Option (EX × List V × List Ob × List Prop) := match r with
  | some (x, E, h, a) => some (x, ds.map (E.get t), h, a.cs)
  | none => none

theorem CD.wp {P : Program} {f : FuncId} {args : List V} {h h' : List Ob} {v : V} (c : CD P f args h v h') {K : V → List Ob → Prop} (k : K v h') : CE P f args h K := c.2.mono (fun v2 h2 ⟨r1, r2⟩ => by subst r1; subst r2; exact k)

theorem evAY_ok {P : Program} {sum : Sums} (S : OkS P sum) {ask : Bool} {x : EA} {t : Nat → V} {h h' : List Ob} {v : V} {a a' : An} (e : evAY P sum ask x t h a = some (v, h', a')) :
    (∀ p, p ∈ a.cs → p ∈ a'.cs) ∧ (a'.ok → ∀ {K : V → List Ob → Prop}, K v h' → wpA P x t h K) := by
  cases x with
  | op q =>
    simp only [evAY] at e
    split at e
    · split at e
      · rename_i p ps hl
        injection e with e; injection e with e1 e2; injection e2 with e2 e3
        subst e1; subst e2; subst e3
        refine ⟨fun p hp => by simp [hp], fun ok K k => ?_⟩
        have := ok (evOp q t h = some p) (by simp)
        simp only [wpA, this]
        exact k
      · cases e
    · rw [evOq_eq] at e
      split at e
      · rename_i p hp
        injection e with e; injection e with e1 e2; injection e2 with e2 e3
        subst e1; subst e2; subst e3
        exact ⟨fun p hp => hp, fun _ K k => by simp only [wpA, hp]; exact k⟩
      · cases e
  | call f args =>
    simp only [evAY] at e
    split at e
    · split at e
      · rename_i p ps hl
        injection e with e; injection e with e1 e2; injection e2 with e2 e3
        subst e1; subst e2; subst e3
        refine ⟨fun p hp => by simp [hp], fun ok K k => ?_⟩
        have := ok (CD P f (args.map (·.get t)) h p.1 p.2) (by simp)
        simp only [wpA]
        exact this.wp k
      · cases e
    · split at e
      · rename_i p hp
        injection e with e; injection e with e1 e2; injection e2 with e2 e3
        subst e1; subst e2; subst e3
        refine ⟨fun p hp => hp, fun _ K k => (S _ _ _ _ _ hp).2.mono (fun v2 h2 ⟨r1, r2⟩ => by subst r1; subst r2; exact k)⟩
      · cases e
  | callv fv args =>
    simp only [evAY] at e
    split at e
    · rename_i f caps hf
      split at e
      · split at e
        · rename_i p ps hl
          injection e with e; injection e with e1 e2; injection e2 with e2 e3
          subst e1; subst e2; subst e3
          refine ⟨fun p hp => by simp [hp], fun ok K k => ?_⟩
          have := ok (CD P f (args.map (·.get t) ++ caps) h p.1 p.2) (by simp)
          simp only [wpA]
          rw [hf]
          exact ⟨this.1, this.wp k⟩
        · cases e
      · split at e
        · rename_i p hp
          injection e with e; injection e with e1 e2; injection e2 with e2 e3
          subst e1; subst e2; subst e3
          refine ⟨fun p hp => hp, fun _ K k => ?_⟩
          simp only [wpA]
          rw [hf]
          obtain ⟨g1, g2⟩ := S _ _ _ _ _ hp
          exact ⟨g1, g2.mono (fun v2 h2 ⟨r1, r2⟩ => by subst r1; subst r2; exact k)⟩
        · cases e
    · cases e
  | nextM y => cases e
  | bad => cases e

theorem evIY_ok {P : Program} {sum : Sums} (S : OkS P sum) {asks : List Nat} {t : Nat → V} : ∀ (l : List EI) (E E' : Kn) (h h' : List Ob) (a a' : An), evIY P sum asks t l E h a = some (E', h', a') →
    (∀ p, p ∈ a.cs → p ∈ a'.cs) ∧ (a'.ok → ∀ {Q : Post}, Q .normal (E'.get t) h' → wpI P Q l (E.get t) h)
  | [], E, E', h, h', a, a', e => by
    simp only [evIY, Option.some.injEq, Prod.mk.injEq] at e
    obtain ⟨rfl, rfl, rfl⟩ := e
    exact ⟨fun p hp => hp, fun _ Q q => q⟩
  | i :: rest, E, E', h, h', a, a', e => by
    simp only [evIY] at e
    split at e
    · rename_i hw
      split at e
      · rename_i v h1 a1 ha
        split at e
        · rename_i hr
          obtain ⟨b1, b2⟩ := evAY_ok S ha
          obtain ⟨g1, g2⟩ := evIY_ok S rest _ _ _ _ _ _ e
          refine ⟨fun p hp => g1 p (b1 p hp), fun ok Q q => ?_⟩
          simp only [wpI]
          rw [hw]
          refine b2 (fun p hp => ok p (g1 p hp)) (K := fun v h' => andRe i.re (putT (E.get t) i.dst v) h' (wpI P Q rest (putT (E.get t) i.dst v) h')) ?_
          rw [← putK_eq]
          exact reckB_ok hr (g2 ok q)
        · cases e
      · cases e
    · rename_i hw
      split at e
      · rename_i hr
        obtain ⟨g1, g2⟩ := evIY_ok S rest _ _ _ _ _ _ e
        refine ⟨g1, fun ok Q q => ?_⟩
        simp only [wpI]
        rw [hw]
        simp only
        rw [← putK_eq]
        exact reckB_ok hr (g2 ok q)
      · cases e
    · cases e

theorem evCY_ok {P : Program} {sum : Sums} (S : OkS P sum) {asks : List Nat} {lf : Nat} {t : Nat → V} : ∀ (c : EC) (E : Kn) (h : List Ob) (a : An) (x : EX) (E' : Kn) (h' : List Ob) (a' : An), evCY P sum asks lf t c E h a = some (x, E', h', a') →
    (∀ p, p ∈ a.cs → p ∈ a'.cs) ∧ (a'.ok → ∀ (Q : Post), Q x (E'.get t) h' → wpC P c Q (E.get t) h) := by
  intro c
  induction c with
  | skip => intro E h a x E' h' a' e; simp only [evCY, Option.some.injEq, Prod.mk.injEq] at e; obtain ⟨rfl, rfl, rfl, rfl⟩ := e; exact ⟨fun p hp => hp, fun _ Q q => q⟩
  | reg l =>
    intro E h a x E' h' a' e
    simp only [evCY] at e
    split at e
    · rename_i E1 h1 a1 he
      simp only [Option.some.injEq, Prod.mk.injEq] at e; obtain ⟨rfl, rfl, rfl, rfl⟩ := e
      obtain ⟨g1, g2⟩ := evIY_ok S l _ _ _ _ _ _ he
      exact ⟨g1, fun ok Q q => g2 ok q⟩
    · cases e
  | draw => intro E h a x E' h' a' e; cases e
  | seq u v ihu ihv =>
    intro E h a x E' h' a' e
    simp only [evCY] at e
    split at e
    · rename_i E1 h1 a1 he
      obtain ⟨u1, u2⟩ := ihu _ _ _ _ _ _ _ he
      obtain ⟨v1, v2⟩ := ihv _ _ _ _ _ _ _ e
      exact ⟨fun p hp => v1 p (u1 p hp), fun ok Q q => u2 (fun p hp => ok p (v1 p hp)) _ (v2 ok Q q)⟩
    · rename_i hne
      obtain ⟨u1, u2⟩ := ihu _ _ _ _ _ _ _ e
      refine ⟨u1, fun ok Q q => u2 ok _ ?_⟩
      cases x with
      | normal => exact absurd e (hne _ _ _)
      | exit => exact q
      | ret => exact q
  | cond c u v ihu ihv =>
    intro E h a x E' h' a' e
    simp only [evCY] at e
    split at e
    · rename_i hc
      obtain ⟨u1, u2⟩ := ihu _ _ _ _ _ _ _ e
      exact ⟨u1, fun ok Q q => by simp only [wpC]; rw [hc]; exact u2 ok Q q⟩
    · rename_i hc
      obtain ⟨u1, u2⟩ := ihv _ _ _ _ _ _ _ e
      exact ⟨u1, fun ok Q q => by simp only [wpC]; rw [hc]; exact u2 ok Q q⟩
    · cases e
  | block id u ih =>
    intro E h a x E' h' a' e
    simp only [evCY] at e
    split at e
    · rename_i j E1 h1 a1 he
      obtain ⟨u1, u2⟩ := ih _ _ _ _ _ _ _ he
      split at e
      · rename_i hj
        simp only [Option.some.injEq, Prod.mk.injEq] at e; obtain ⟨rfl, rfl, rfl, rfl⟩ := e
        exact ⟨u1, fun ok Q q => u2 ok _ (by simp only [blockQ]; rw [if_pos hj]; exact q)⟩
      · rename_i hj
        simp only [Option.some.injEq, Prod.mk.injEq] at e; obtain ⟨rfl, rfl, rfl, rfl⟩ := e
        exact ⟨u1, fun ok Q q => u2 ok _ (by simp only [blockQ]; rw [if_neg hj]; exact q)⟩
    · rename_i hne
      obtain ⟨u1, u2⟩ := ih _ _ _ _ _ _ _ e
      refine ⟨u1, fun ok Q q => u2 ok _ ?_⟩
      cases x with
      | normal => exact q
      | exit j => exact absurd e (hne _ _ _ _)
      | ret => exact q
  | loop u ih =>
    intro E h a x E' h' a' e
    simp only [evCY] at e
    have mono : ∀ m E h a, loopY (evCY P sum asks lf t u) m E h a = some (x, E', h', a') → ∀ p, p ∈ a.cs → p ∈ a'.cs := by
      intro m
      induction m with
      | zero => intro E h a e; simp [loopY] at e
      | succ m ihm =>
        intro E h a e
        simp only [loopY] at e
        split at e
        · rename_i E1 h1 a1 he
          exact fun p hp => ihm _ _ _ e p ((ih _ _ _ _ _ _ _ he).1 p hp)
        · exact (ih _ _ _ _ _ _ _ e).1
    refine ⟨mono lf E h a e, fun ok Q q => ?_⟩
    simp only [wpC]
    refine ⟨fun m t' h => ∃ E a, t' = E.get t ∧ loopY (evCY P sum asks lf t u) m E h a = some (x, E', h', a'), ⟨lf, E, a, rfl, e⟩, fun m t' h ⟨E, a, ht, hm⟩ => ?_⟩
    subst ht
    cases m with
    | zero => simp [loopY] at hm
    | succ m =>
      simp only [loopY] at hm
      split at hm
      · rename_i E1 h1 a1 he
        exact (ih _ _ _ _ _ _ _ he).2 (fun p hp => ok p (mono m _ _ _ hm p hp)) _ ⟨m, Nat.lt_succ_self m, E1, a1, rfl, hm⟩
      · rename_i hne
        refine (ih _ _ _ _ _ _ _ hm).2 ok _ ?_
        cases x with
        | normal => exact absurd hm (hne _ _ _)
        | exit => exact q
        | ret => exact q
  | exit id => intro E h a x E' h' a' e; simp only [evCY, Option.some.injEq, Prod.mk.injEq] at e; obtain ⟨rfl, rfl, rfl, rfl⟩ := e; exact ⟨fun p hp => hp, fun _ Q q => q⟩
  | ret => intro E h a x E' h' a' e; simp only [evCY, Option.some.injEq, Prod.mk.injEq] at e; obtain ⟨rfl, rfl, rfl, rfl⟩ := e; exact ⟨fun p hp => hp, fun _ Q q => q⟩

/-- What is known is so. -/
def Kn.holds (t : Nat → V) : Kn → Prop
  | [] => True
  | (d, v) :: l => t d = v ∧ Kn.holds t l

theorem Kn.get_of {t : Nat → V} : ∀ {l : Kn}, l.holds t → l.get t = t
  | [], _ => rfl
  | (d, v) :: l, h => by
    funext j
    simp only [Kn.get]
    split
    · rename_i q; rw [beqT] at q; subst q; exact h.1.symm
    · rw [Kn.get_of h.2]

/-! ### Runs: a piece of code comes to just this -/
def Runs (P : Program) (c : EC) (t : Nat → V) (h : List Ob) (x : EX) (t' : Nat → V) (h' : List Ob) : Prop := ∀ Q : Post, Q x t' h' → wpC P c Q t h

/-- A piece of code, run. 'E': what is known ahead; 'ds', 'vs': what is wanted behind. -/
theorem runs_of {P : Program} {sum : Sums} (S : OkS P sum) {asks : List Nat} {lf : Nat} {c : EC} {t : Nat → V} {h h' : List Ob} (E : Kn) (hE : E.holds t) {as : List (V × List Ob)} {ds : List Nat} {vs : List V} {x : EX} {cs : List Prop}
    (e : tellY ds t (evCY P sum asks lf t c E h ⟨as, []⟩) = some (x, vs, h', cs)) (hc : ∀ p, p ∈ cs → p) : ∃ t', Runs P c t h x t' h' ∧ ds.map t' = vs := by
  unfold tellY at e
  split at e
  · rename_i x1 E1 h1 a1 he
    injection e with e; injection e with e1 e2; injection e2 with e2 e3; injection e3 with e3 e4
    subst e1; subst e3
    refine ⟨E1.get t, fun Q q => ?_, e2⟩
    have := (evCY_ok S c E h _ _ _ _ _ he).2 (fun p hp => hc p (e4 ▸ hp)) Q q
    rwa [Kn.get_of hE] at this
  · cases e

theorem ands_nil : ∀ p, p ∈ ([] : List Prop) → p := fun p h => by cases h
theorem ands_cons {x : Prop} {l : List Prop} (h : x) (g : ∀ p, p ∈ l → p) : ∀ p, p ∈ x :: l → p :=
  fun p hp => (List.mem_cons.1 hp).elim (fun q => by subst q; exact h) (g p)

theorem Runs.seq {P : Program} {a b : EC} {t t1 t2 : Nat → V} {h h1 h2 : List Ob} {x : EX} (r : Runs P a t h .normal t1 h1) (s : Runs P b t1 h1 x t2 h2) : Runs P (.seq a b) t h x t2 h2 :=
  fun Q q => r _ (s Q q)

theorem Runs.stop {P : Program} {a b : EC} {t t1 : Nat → V} {h h1 : List Ob} {x : EX} (r : Runs P a t h x t1 h1) (hx : x ≠ .normal) : Runs P (.seq a b) t h x t1 h1 :=
  fun Q q => r _ (by cases x with | normal => exact absurd rfl hx | exit j => exact q | ret => exact q)

/-- How a block ends. -/
def inB (id : Nat) : EX → EX
  | .exit j => if j = id then .normal else .exit j
  | x => x

theorem Runs.block {P : Program} {a : EC} {id : Nat} {t t1 : Nat → V} {h h1 : List Ob} {x : EX} (r : Runs P a t h x t1 h1) : Runs P (.block id a) t h (inB id x) t1 h1 :=
  fun Q q => r _ (by
    cases x with
    | normal => exact q
    | ret => exact q
    | exit j =>
      simp only [blockQ]
      simp only [inB] at q
      split
      · rename_i hj; rw [if_pos hj] at q; exact q
      · rename_i hj; rw [if_neg hj] at q; exact q)

theorem Runs.round {P : Program} {a : EC} {t t1 t2 : Nat → V} {h h1 h2 : List Ob} {x : EX} (r : Runs P a t h .normal t1 h1) (s : Runs P (.loop a) t1 h1 x t2 h2) : Runs P (.loop a) t h x t2 h2 := by
  intro Q q
  have w := s Q q
  simp only [wpC] at w ⊢
  obtain ⟨I, ⟨m, hm⟩, hr⟩ := w
  refine ⟨fun k t' h' => I k t' h' ∨ (k = m + 1 ∧ t' = t ∧ h' = h), ⟨m + 1, .inr ⟨rfl, rfl, rfl⟩⟩, ?_⟩
  rintro k t' h' (hi | ⟨rfl, rfl, rfl⟩)
  · refine wpC_mono _ _ _ _ _ (fun x t h g => ?_) (hr k t' h' hi)
    cases x with
    | normal =>
      obtain ⟨m', g1, g2⟩ := g
      exact ⟨m', g1, .inl g2⟩
    | exit j => exact g
    | ret => exact g
  · exact r _ ⟨m, Nat.lt_succ_self m, .inl hm⟩

theorem Runs.last {P : Program} {a : EC} {t t1 : Nat → V} {h h1 : List Ob} {x : EX} (r : Runs P a t h x t1 h1) (hx : x ≠ .normal) : Runs P (.loop a) t h x t1 h1 := by
  intro Q q
  simp only [wpC]
  refine ⟨fun k t' h' => t' = t ∧ h' = h, ⟨0, rfl, rfl⟩, ?_⟩
  rintro m t' h' ⟨rfl, rfl⟩
  exact r _ (by cases x with | normal => exact absurd rfl hx | exit j => exact q | ret => exact q)

/-- A loop comes to an end. -/
theorem runs_loop {P : Program} {a : EC} {Inv : Nat → (Nat → V) → List Ob → Prop} {End : EX → (Nat → V) → List Ob → Prop}
    (round : ∀ m t h, Inv m t h → (∃ t' h' m', m' < m ∧ Runs P a t h .normal t' h' ∧ Inv m' t' h') ∨ (∃ x t' h', x ≠ .normal ∧ Runs P a t h x t' h' ∧ End x t' h')) :
    ∀ (m : Nat) (t : Nat → V) (h : List Ob), Inv m t h → ∃ x t' h', x ≠ .normal ∧ Runs P (.loop a) t h x t' h' ∧ End x t' h' := by
  intro m
  induction m using Nat.strongRecOn with
  | _ m ih =>
    intro t h hi
    rcases round m t h hi with ⟨t1, h1, m1, g1, g2, g3⟩ | ⟨x, t1, h1, g1, g2, g3⟩
    · obtain ⟨x, t2, h2, q0, q1, q2⟩ := ih m1 g1 t1 h1 g3
      exact ⟨x, t2, h2, q0, g2.round q1, q2⟩
    · exact ⟨x, t1, h1, g1, g2.last g1, g3⟩

/-- The counted loop comes to its end, or is left. -/
theorem runs_rangeL {P : Program} {b c ti tn tc ts : Nat} {body : EC} (d1 : ti ≠ tn) (d2 : tc ≠ ti) (d3 : tc ≠ tn) (d4 : ts ≠ ti) (d5 : ts ≠ tn) {N : Nat} (hN : N ≤ 9223372036854775807) (Inv : Nat → (Nat → V) → List Ob → Prop) (End : EX → (Nat → V) → List Ob → Prop)
    {t : Nat → V} {h : List Ob} (k0 : Nat) (ht : t ti = .int .i64 k0) (hn : t tn = .int .i64 N) (hk : k0 ≤ N) (hinv : Inv k0 t h)
    (round : ∀ k t h, k < N → t ti = .int .i64 k → t tn = .int .i64 N → Inv k t h →
      (∃ x t' h', (x = .normal ∨ x = .exit c) ∧ Runs P body (upd t tc (.bool true)) h x t' h' ∧ t' ti = .int .i64 k ∧ t' tn = .int .i64 N ∧ Inv (k + 1) (upd (upd t' ts (.int .i64 ((k + 1 : Nat) : Int))) ti (.int .i64 ((k + 1 : Nat) : Int))) h') ∨
      (∃ x t' h', x ≠ .normal ∧ x ≠ .exit c ∧ Runs P body (upd t tc (.bool true)) h x t' h' ∧ End x t' h'))
    (done : ∀ t h, t ti = .int .i64 N → t tn = .int .i64 N → Inv N t h → End (.exit b) (upd t tc (.bool false)) h) :
    ∃ x t' h', Runs P (rangeL b c ti tn tc ts body) t h (inB b x) t' h' ∧ End x t' h' := by
  have key := runs_loop (P := P) (a := .seq (.reg [⟨some tc, none, .op (.bin .lss (.t ti) (.t tn)), []⟩]) (.seq (.cond (.t tc) .skip (.exit b)) (.seq (.block c body) (.reg [⟨some ts, none, .op (.bin .add (.t ti) (.c (.int .i64 1))), []⟩, ⟨some ti, none, .op (.mv (.t ts)), []⟩]))))
    (Inv := fun m t h => ∃ k, k ≤ N ∧ m = N - k ∧ t ti = .int .i64 k ∧ t tn = .int .i64 N ∧ Inv k t h) (End := End) ?_ (N - k0) t h ⟨k0, hk, rfl, ht, hn, hinv⟩
  · obtain ⟨x, t', h', _, r, e⟩ := key
    exact ⟨x, t', h', Runs.block r, e⟩
  · rintro m t h ⟨k, hk, rfl, ht, hn, hi⟩
    have hcmp : evOp (.bin .lss (.t ti) (.t tn)) t h = some (.bool (decide ((k : Int) < N)), h) := by
      simp only [evOp, EO.get, ht, hn]; rfl
    have r1 : Runs P (.reg [⟨some tc, none, .op (.bin .lss (.t ti) (.t tn)), []⟩]) t h .normal (upd t tc (.bool (decide ((k : Int) < N)))) h := by
      intro Q q
      simp only [wpC, wpI, wantE, wpA, hcmp, ifSome_some, andRe, putT]
      exact q
    have htc : EO.get (upd t tc (.bool (decide ((k : Int) < N)))) (.t tc) = .bool (decide ((k : Int) < N)) := by simp [EO.get, upd]
    by_cases hlt : k < N
    · have hd : decide ((k : Int) < N) = true := by simpa using hlt
      rw [hd] at r1 htc
      have r2 : Runs P (.cond (.t tc) .skip (.exit b)) (upd t tc (.bool true)) h .normal (upd t tc (.bool true)) h := by
        intro Q q
        simp only [wpC, htc]
        exact q
      rcases round k t h hlt ht hn hi with ⟨x, t', h', hx, g1, g2, g3, g4⟩ | ⟨x, t', h', hx1, hx2, g1, g2⟩
      · left
        have r3 : Runs P (.block c body) (upd t tc (.bool true)) h .normal t' h' := by
          have := g1.block (id := c)
          rcases hx with rfl | rfl
          · exact this
          · simpa [inB] using this
        have hadd : evOp (.bin .add (.t ti) (.c (.int .i64 1))) t' h' = some (.int .i64 ((k + 1 : Nat) : Int), h') := by
          simp only [evOp, EO.get, g2, evBin, evInt, if_true, Option.map_some]
          rw [wrap_i64 (by omega) (by omega)]
          rfl
        have hmv : evOp (.mv (.t ts)) (upd t' ts (.int .i64 ((k + 1 : Nat) : Int))) h' = some (.int .i64 ((k + 1 : Nat) : Int), h') := by
          simp [evOp, EO.get, upd]
        have r4 : Runs P (.reg [⟨some ts, none, .op (.bin .add (.t ti) (.c (.int .i64 1))), []⟩, ⟨some ti, none, .op (.mv (.t ts)), []⟩]) t' h' .normal (upd (upd t' ts (.int .i64 ((k + 1 : Nat) : Int))) ti (.int .i64 ((k + 1 : Nat) : Int))) h' := by
          intro Q q
          simp only [wpC, wpI, wantE, wpA, hadd, hmv, ifSome_some, andRe, putT]
          exact q
        refine ⟨_, h', N - (k + 1), by omega, r1.seq (r2.seq (r3.seq r4)), k + 1, by omega, rfl, by simp [upd], ?_, g4⟩
        simp only [upd]
        rw [if_neg (fun q => d1 q.symm), if_neg (fun q => d5 q.symm)]
        exact g3
      · right
        have r3 : Runs P (.block c body) (upd t tc (.bool true)) h x t' h' := by
          have := g1.block (id := c)
          cases x with
          | normal => exact absurd rfl hx1
          | ret => exact this
          | exit j =>
            have hj : j ≠ c := fun q => hx2 (by rw [q])
            simpa [inB, hj] using this
        exact ⟨x, t', h', hx1, r1.seq (r2.seq (r3.stop hx1)), g2⟩
    · right
      have hd : decide ((k : Int) < N) = false := by
        rw [decide_eq_false_iff_not]; omega
      rw [hd] at r1 htc
      have r2 : Runs P (.cond (.t tc) .skip (.exit b)) (upd t tc (.bool false)) h (.exit b) (upd t tc (.bool false)) h := by
        intro Q q
        simp only [wpC, htc]
        exact q
      have hkN : k = N := by omega
      subst hkN
      exact ⟨.exit b, _, h, by simp, r1.seq (r2.stop (by simp)), done t h ht hn hi⟩

/-- A call, from its body's run. -/
theorem CD.of_runs {P : Program} {f : FuncId} {fn : Func} {e : EFn} {args : List V} {h h' : List Ob} {x : EX} {t' : Nat → V} {v : V} (hf : P.funcs[f]? = some fn) (hc : compF P fn = some e) (hen : entersB P f = true) (hn : args.length ≤ e.n)
    (r : Runs P e.code (env0 args) h x t' h') (hx : x = .normal ∨ x = .ret) (hv : resE e.res t' h' = some v) : CD P f args h v h' := by
  refine ⟨hen, CE.of_body hf hc hn (r _ ?_)⟩
  rcases hx with rfl | rfl
  · exact resK_of hv ⟨rfl, rfl⟩
  · exact resK_of hv ⟨rfl, rfl⟩

theorem OkS.of_CD {P : Program} {sum : Sums} (h : ∀ f args hp v h', sum f args hp = some (v, h') → CD P f args hp v h') : OkS P sum := h

/-- With no memory of its own, and nothing of it in what comes back: with whatever memory. -/
theorem CD.pure {P : Program} {f : FuncId} {args : List V} {v : V} {h' : List Ob} (c : CD P f args [] v h') (ha : noIds args = true) (hv : bare v = true) (h : List Ob) : CD P f args h v h :=
  ⟨c.1, (CE.pure (R := fun u => u = v) (c.2.mono fun u h2 q => ⟨q.1, by rw [q.1]; exact hv⟩) ha h).mono fun u h2 q => q⟩

end Go.Proofs.Ytdcdmpgigmhhpaa.E
