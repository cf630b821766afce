/- The layer E, part 36: a function's code read as a Lean function over what is known: parts that are summed up elsewhere stand as functions; that what it comes to is what the code comes to. No condition. -/
import Derived.Test.YtdcdmpgigmhhpaaE35
namespace Go.Proofs.Ytdcdmpgigmhhpaa.E
set_option linter.unusedSimpArgs false
set_option linter.unusedVariables false

/-- What kind of value is awaited. -/
inductive Sh where
  | any
  | int (k : IntKind)
  | bool
  | str
  | agg (l : List Sh)
  | tup (l : List Sh)

def cB {R : Type} (b : Bool) (x y : Option R) : Option R := match b with
  | true => x
  | false => y
def bind1 {α R : Type} (o : Option α) (k : α → Option R) : Option R := match o with
  | some v => k v
  | none => none
theorem bind1_inv {α R : Type} {o : Option α} {k : α → Option R} {r : R} (h : bind1 o k = some r) : ∃ v, o = some v ∧ k v = some r := by
  cases o with
  | none => cases h
  | some p => exact ⟨p, rfl, h⟩
def bind2 {R : Type} (o : Option (V × List Ob)) (k : V → List Ob → Option R) : Option R := match o with
  | some p => k p.1 p.2
  | none => none
def bind3 {R : Type} (o : Option (EX × List V × List Ob)) (k : EX → List V → List Ob → Option R) : Option R := match o with
  | some p => k p.1 p.2.1 p.2.2
  | none => none
def castInt {R : Type} (k : IntKind) (v : V) (f : Int → Option R) : Option R := match v with
  | .int k' n => cB (decide (k' = k)) (f n) none
  | _ => none
def castBool {R : Type} (v : V) (f : Bool → Option R) : Option R := match v with
  | .bool b => f b
  | _ => none
def castStr {R : Type} (v : V) (f : List UInt8 → Option R) : Option R := match v with
  | .str l => f l
  | _ => none
def castAgg {R : Type} (v : V) (f : List V → Option R) : Option R := match v with
  | .agg l => f l
  | _ => none
def castTup {R : Type} (v : V) (f : List V → Option R) : Option R := match v with
  | .tup l => f l
  | _ => none
def castCons {R : Type} (l : List V) (f : V → List V → Option R) : Option R := match l with
  | v :: vs => f v vs
  | [] => none
def castNil {R : Type} (l : List V) (r : Option R) : Option R := match l with
  | [] => r
  | _ :: _ => none

mutual
def castC {R : Type} : Sh → V → (V → Option R) → Option R
  | .any, v, f => f v
  | .int k, v, f => castInt k v fun n => f (.int k n)
  | .bool, v, f => castBool v fun b => f (.bool b)
  | .str, v, f => castStr v fun l => f (.str l)
  | .agg ss, v, f => castAgg v fun l => castL ss l fun l' => f (.agg l')
  | .tup ss, v, f => castTup v fun l => castL ss l fun l' => f (.tup l')
def castL {R : Type} : List Sh → List V → (List V → Option R) → Option R
  | [], l, f => castNil l (f [])
  | s :: ss, l, f => castCons l fun v vs => castC s v fun v' => castL ss vs fun vs' => f (v' :: vs')
end

theorem cB_inv {R : Type} {b : Bool} {x y : Option R} {r : R} (h : cB b x y = some r) : (b = true ∧ x = some r) ∨ (b = false ∧ y = some r) := by
  cases b
  · exact .inr ⟨rfl, h⟩
  · exact .inl ⟨rfl, h⟩
theorem bind2_inv {R : Type} {o : Option (V × List Ob)} {k : V → List Ob → Option R} {r : R} (h : bind2 o k = some r) : ∃ v h', o = some (v, h') ∧ k v h' = some r := by
  cases o with
  | none => cases h
  | some p => exact ⟨p.1, p.2, rfl, h⟩
theorem bind3_inv {R : Type} {o : Option (EX × List V × List Ob)} {k : EX → List V → List Ob → Option R} {r : R} (h : bind3 o k = some r) : ∃ x v h', o = some (x, v, h') ∧ k x v h' = some r := by
  cases o with
  | none => cases h
  | some p => exact ⟨p.1, p.2.1, p.2.2, rfl, h⟩
theorem castInt_inv {R : Type} {k : IntKind} {v : V} {f : Int → Option R} {r : R} (h : castInt k v f = some r) : ∃ n, v = .int k n ∧ f n = some r := by
  cases v with
  | int k' n =>
    rcases cB_inv (show cB (decide (k' = k)) (f n) none = some r from h) with ⟨q, e⟩ | ⟨_, e⟩
    · exact ⟨n, by rw [of_decide_eq_true q], e⟩
    · cases e
  | _ => cases h
theorem castBool_inv {R : Type} {v : V} {f : Bool → Option R} {r : R} (h : castBool v f = some r) : ∃ n, v = .bool n ∧ f n = some r := by
  unfold castBool at h
  split at h
  · exact ⟨_, rfl, h⟩
  · cases h
theorem castStr_inv {R : Type} {v : V} {f : List UInt8 → Option R} {r : R} (h : castStr v f = some r) : ∃ n, v = .str n ∧ f n = some r := by
  unfold castStr at h
  split at h
  · exact ⟨_, rfl, h⟩
  · cases h
theorem castAgg_inv {R : Type} {v : V} {f : List V → Option R} {r : R} (h : castAgg v f = some r) : ∃ n, v = .agg n ∧ f n = some r := by
  unfold castAgg at h
  split at h
  · exact ⟨_, rfl, h⟩
  · cases h
theorem castTup_inv {R : Type} {v : V} {f : List V → Option R} {r : R} (h : castTup v f = some r) : ∃ n, v = .tup n ∧ f n = some r := by
  unfold castTup at h
  split at h
  · exact ⟨_, rfl, h⟩
  · cases h
theorem castCons_inv {R : Type} {l : List V} {f : V → List V → Option R} {r : R} (h : castCons l f = some r) : ∃ v vs, l = v :: vs ∧ f v vs = some r := by
  cases l with
  | nil => cases h
  | cons v vs => exact ⟨v, vs, rfl, h⟩
theorem castNil_inv {R : Type} {l : List V} {o : Option R} {r : R} (h : castNil l o = some r) : l = [] ∧ o = some r := by
  cases l with
  | nil => exact ⟨rfl, h⟩
  | cons v vs => cases h

mutual
theorem castC_inv {R : Type} : ∀ {s : Sh} {v : V} {f : V → Option R} {r : R}, castC s v f = some r → f v = some r
  | .any, v, f, r, h => by simpa only [castC] using h
  | .int k, v, f, r, h => by
    simp only [castC] at h
    obtain ⟨n, e, h⟩ := castInt_inv h; rw [e]; exact h
  | .bool, v, f, r, h => by
    simp only [castC] at h
    obtain ⟨n, rfl, h⟩ := castBool_inv h; exact h
  | .str, v, f, r, h => by
    simp only [castC] at h
    obtain ⟨n, rfl, h⟩ := castStr_inv h; exact h
  | .agg ss, v, f, r, h => by
    simp only [castC] at h
    obtain ⟨n, rfl, h⟩ := castAgg_inv h
    exact castL_inv (f := fun l => f (.agg l)) h
  | .tup ss, v, f, r, h => by
    simp only [castC] at h
    obtain ⟨n, rfl, h⟩ := castTup_inv h
    exact castL_inv (f := fun l => f (.tup l)) h
theorem castL_inv {R : Type} : ∀ {ss : List Sh} {l : List V} {f : List V → Option R} {r : R}, castL ss l f = some r → f l = some r
  | [], l, f, r, h => by
    simp only [castL] at h
    obtain ⟨rfl, h⟩ := castNil_inv h; exact h
  | s :: ss, l, f, r, h => by
    simp only [castL] at h
    obtain ⟨v, vs, rfl, h⟩ := castCons_inv h
    have := castC_inv h
    exact castL_inv (f := fun vs' => f (v :: vs')) this
end

/-! ### What is known -/
def Kn.find : Kn → Nat → Option V
  | [], _ => none
  | (d, v) :: l, i => match i.beq d with
    | true => some v
    | false => Kn.find l i
def Kn.tot (E : Kn) : Nat → V := Kn.get (fun _ => .junk) E
def Kn.hold (E : Kn) (t : Nat → V) : Prop := ∀ i v, E.find i = some v → t i = v
def Kn.without : Kn → List Nat → Kn
  | [], _ => []
  | (d, v) :: l, ds => match ds.any (Nat.beq d) with
    | true => Kn.without l ds
    | false => (d, v) :: Kn.without l ds
def Kn.puts : Kn → List Nat → List V → Kn
  | E, d :: ds, v :: vs => Kn.puts (E.set d v) ds vs
  | E, _, _ => E

theorem Kn.find_tot : ∀ {E : Kn} {i : Nat} {v : V}, E.find i = some v → E.tot i = v
  | [], i, v, h => by cases h
  | (d, u) :: l, i, v, h => by
    simp only [Kn.find] at h
    simp only [Kn.tot, Kn.get]
    split at h
    · rename_i q; rw [q]; injection h
    · rename_i q; rw [q]; exact Kn.find_tot h
theorem Kn.find_some : ∀ {E : Kn} {i : Nat}, (E.find i).isSome = true → E.find i = some (E.tot i)
  | E, i, h => by
    obtain ⟨v, hv⟩ := Option.isSome_iff_exists.1 h
    rw [hv, Kn.find_tot hv]
theorem Kn.find_set : ∀ (E : Kn) (d : Nat) (v : V) (j : Nat), (E.set d v).find j = if j = d then some v else E.find j
  | [], d, v, j => by
    simp only [Kn.set, Kn.find]
    split
    · rename_i h; rw [beqT] at h; rw [if_pos h]
    · rename_i h; rw [beqF] at h; rw [if_neg h]
  | (d', v') :: l, d, v, j => by
    simp only [Kn.set]
    split
    · rename_i h
      rw [beqT] at h; subst h
      simp only [Kn.find]
      split
      · rename_i h1; rw [beqT] at h1; rw [if_pos h1]
      · rename_i h1; rw [beqF] at h1; rw [if_neg h1]
    · rename_i h
      rw [beqF] at h
      simp only [Kn.find]
      split
      · rename_i h1; rw [beqT] at h1; rw [if_neg (by omega)]
      · rw [Kn.find_set l]
theorem Kn.find_without : ∀ (E : Kn) (ds : List Nat) (j : Nat) (v : V), (E.without ds).find j = some v → j ∉ ds ∧ E.find j = some v
  | [], ds, j, v, h => by cases h
  | (d, u) :: l, ds, j, v, h => by
    simp only [Kn.without] at h
    split at h
    · rename_i q
      obtain ⟨g1, g2⟩ := Kn.find_without l ds j v h
      refine ⟨g1, ?_⟩
      simp only [Kn.find]
      split
      · rename_i z
        rw [beqT] at z; subst z
        rw [List.any_eq_true] at q
        obtain ⟨x, q1, q2⟩ := q
        rw [beqT] at q2; subst q2
        exact absurd q1 g1
      · exact g2
    · rename_i q
      simp only [Kn.find] at h ⊢
      split at h
      · rename_i z
        refine ⟨fun q1 => ?_, h⟩
        rw [beqT] at z; subst z
        rw [Bool.eq_false_iff] at q
        exact q (List.any_eq_true.2 ⟨_, q1, beqT.2 rfl⟩)
      · exact Kn.find_without l ds j v h

theorem Kn.hold_set {E : Kn} {t : Nat → V} (h : E.hold t) (d : Nat) (v : V) : (E.set d v).hold (upd t d v) := by
  intro i u hu
  rw [Kn.find_set] at hu
  unfold upd
  split at hu
  · rename_i q; rw [if_pos q]; injection hu
  · rename_i q; rw [if_neg q]; exact h i u hu
theorem Kn.hold_set_same {E : Kn} {t : Nat → V} (h : E.hold t) {d : Nat} {v : V} (hd : t d = v) : (E.set d v).hold t := by
  intro i u hu
  rw [Kn.find_set] at hu
  split at hu
  · rename_i q; subst q; injection hu with hu; subst hu; exact hd
  · exact h i u hu
theorem Kn.hold_putK {E : Kn} {t : Nat → V} (h : E.hold t) (d : Option Nat) (v : V) : (putK E d v).hold (putT t d v) := by
  cases d with
  | none => exact h
  | some d => exact Kn.hold_set h d v
theorem Kn.hold_puts {t : Nat → V} : ∀ {ds : List Nat} {vs : List V} {E : Kn}, E.hold t → ds.map t = vs → (E.puts ds vs).hold t
  | [], vs, E, h, q => by subst q; exact h
  | d :: ds, vs, E, h, q => by
    subst q
    simp only [List.map_cons, Kn.puts]
    exact Kn.hold_puts (Kn.hold_set_same h rfl) rfl
theorem Kn.hold_zip {t : Nat → V} : ∀ (ds : List Nat), Kn.hold (ds.zip (ds.map t)) t
  | [], i, v, h => by cases h
  | d :: ds, i, v, h => by
    simp only [List.map_cons, List.zip_cons_cons, Kn.find] at h
    split at h
    · rename_i q; rw [beqT] at q; subst q; injection h
    · exact Kn.hold_zip ds i v h

def EO.known (E : Kn) : EO → Bool
  | .t i => (E.find i).isSome
  | .c _ => true
theorem EO.known_get {E : Kn} {t : Nat → V} (h : E.hold t) {x : EO} (k : x.known E = true) : x.get t = x.get E.tot := by
  cases x with
  | t i => exact h i _ (Kn.find_some k)
  | c v => rfl
theorem EO.known_map {E : Kn} {t : Nat → V} (h : E.hold t) : ∀ {xs : List EO}, xs.all (EO.known E) = true → xs.map (·.get t) = xs.map (·.get E.tot)
  | [], _ => rfl
  | x :: xs, k => by
    simp only [List.all_cons, Bool.and_eq_true] at k
    simp only [List.map_cons, EO.known_get h k.1, EO.known_map h k.2]

def knows (E : Kn) (e : EOp) : Bool := e.rd.all fun i => (E.find i).isSome
theorem evOq_known {E : Kn} {t : Nat → V} (hE : E.hold t) {e : EOp} (k : knows E e = true) (h : List Ob) : evOp e t h = evOq e E.tot h := by
  rw [evOq_eq]
  exact evOp_congr (fun i hi => hE i _ (Kn.find_some (List.all_eq_true.1 k i hi))) h

/-- An operation on values; one that only looks. -/
def ev (e : EOp) (h : List Ob) : Option (V × List Ob) := evOq e (fun _ => .junk) h
def er (e : EOp) (h : List Ob) : Option V := (ev e h).map Prod.fst
/-- It leaves memory as it is. -/
def isRo : EOp → Bool
  | .alloc _ _ => false
  | .box _ _ => false
  | .bslice _ _ _ _ => false
  | .store _ _ _ => false
  | .toBytes _ => false
  | .mkslice _ _ _ _ => false
  | .app _ _ _ _ => false
  | .copy _ _ _ => false
  | .mkmap => false
  | .mapupd _ _ _ _ => false
  | .delete _ _ _ => false
  | .appZ _ _ _ _ _ => false
  | .rangeS _ => false
  | .rangeM _ => false
  | .nextS _ => false
  | .clearL _ _ _ => false
  | _ => true
theorem map_same {o : Option V} {h h' : List Ob} {v : V} (e : (o.map fun v => (v, h)) = some (v, h')) : h' = h := by
  cases o with
  | none => cases e
  | some u => injection e with e; injection e with _ e; exact e.symm
theorem isRo_ok {e : EOp} {t : Nat → V} {h h' : List Ob} {v : V} (hr : isRo e = true) (q : evOp e t h = some (v, h')) : h' = h := by
  cases e <;> first | (cases hr; done) | skip
  case build z ps =>
    simp only [evOp] at q
    generalize fillV z _ = o at q
    cases o with
    | none => cases q
    | some u => injection q with q; injection q with _ q; exact q.symm
  case lenL x =>
    simp only [evOp] at q
    generalize evLenL h _ = o at q
    cases o with
    | none => cases q
    | some u => injection q with q; injection q with _ q; exact q.symm
  case lenM x =>
    simp only [evOp] at q
    generalize evLenM h _ = o at q
    cases o with
    | none => cases q
    | some u => injection q with q; injection q with _ q; exact q.symm
  case capL x =>
    simp only [evOp] at q
    generalize evCap _ = o at q
    cases o with
    | none => cases q
    | some u => injection q with q; injection q with _ q; exact q.symm
  case eq neg T x y =>
    simp only [evOp] at q
    generalize evEq h T _ _ = o at q
    cases o with
    | none => cases q
    | some u => injection q with q; injection q with _ q; exact q.symm
  all_goals
    simp only [evOp] at q
    repeat' split at q
    all_goals first
      | (cases q; done)
      | exact map_same q
      | (injection q with q; injection q with _ q; exact q.symm)

/-! ### The code with its parts -/
abbrev CallS := FuncId → List V → List Ob → Option (V × List Ob)
abbrev CallVS := V → List V → List Ob → Option (V × List Ob)
abbrev SubR := Option (EX × List V × List Ob)
abbrev Outs := List (EX × List Nat × List Sh)
structure Sig where
  call : CallS
  cv : CallVS
  sub : Nat → List V → List Ob → SubR

noncomputable def reP {R : Type} (p : Prop) (o : Option R) : Option R := @ite _ p (Classical.propDecidable p) o none
theorem reP_inv {R : Type} {p : Prop} {o : Option R} {r : R} (h : reP p o = some r) : p ∧ o = some r := by
  unfold reP at h
  split at h
  · rename_i q; exact ⟨q, h⟩
  · cases h
theorem reP_pos {R : Type} {p : Prop} (o : Option R) (h : p) : reP p o = o := by
  unfold reP; rw [if_pos h]

def wantK (E : Kn) : Option (Nat × Bool) → Option Bool
  | none => some true
  | some (s, q) => match E.find s with
    | some (.bool true) => some q
    | some (.bool false) => some (!q)
    | some (.tup []) => some false
    | _ => none
theorem wantK_ok {E : Kn} {t : Nat → V} (hE : E.hold t) {g : Option (Nat × Bool)} {b : Bool} (h : wantK E g = some b) : wantE t g = some b := by
  cases g with
  | none => exact h
  | some p =>
    obtain ⟨s, q⟩ := p
    simp only [wantK] at h
    split at h
    · rename_i e; injection h with h; subst h; simp only [wantE, hE s _ e]; cases q <;> rfl
    · rename_i e; injection h with h; subst h; simp only [wantE, hE s _ e]; cases q <;> rfl
    · rename_i e; injection h with h; subst h; simp only [wantE, hE s _ e]
    · cases h

noncomputable def reK {R : Type} (E : Kn) (h : List Ob) : List EG → Option R → Option R
  | [], r => r
  | g :: gs, r => match g.act, g.dst with
    | .op e, some d => match wantK E g.guard with
      | some true => match knows E e, (E.find d).isSome with
        | true, true => reP ((evOq e E.tot h).map Prod.fst = some (E.tot d)) (reK E h gs r)
        | _, _ => none
      | some false => match E.find d with
        | some (.tup []) => reK E h gs r
        | _ => none
      | none => none
    | _, _ => none

noncomputable def actK {R : Type} (σ : Sig) (x : EA) (E : Kn) (h : List Ob) (k : V → List Ob → Option R) : Option R := match x with
  | .op e => match knows E e with
    | true => match isRo e with
      | true => bind1 ((evOq e E.tot h).map Prod.fst) fun v => k v h
      | false => bind2 (evOq e E.tot h) k
    | false => none
  | .call f args => match args.all (EO.known E) with
    | true => bind2 (σ.call f (args.map (·.get E.tot)) h) k
    | false => none
  | .callv fv args => match (fv :: args).all (EO.known E) with
    | true => bind2 (σ.cv (fv.get E.tot) (args.map (·.get E.tot)) h) k
    | false => none
  | _ => none

def castD {R : Type} (A : List (Nat × Sh)) (d : Option Nat) (v : V) (k : V → Option R) : Option R := match d with
  | none => k v
  | some d => match A.lookup d with
    | some s => castC s v k
    | none => k v

noncomputable def evIK {R : Type} (A : List (Nat × Sh)) (σ : Sig) : List EI → Kn → List Ob → (Kn → List Ob → Option R) → Option R
  | [], E, h, k => k E h
  | i :: rest, E, h, k => match i.guard with
    | none => actK σ i.act E h fun v h' => castD A i.dst v fun v' => reK (putK E i.dst v') h' i.re (evIK A σ rest (putK E i.dst v') h' k)
    | some (s, q) => match (E.find s).isSome with
      | false => none
      | true => match E.tot s with
        | .bool b => cB b
            (match q with
              | true => actK σ i.act (E.set s (.bool true)) h fun v h' => castD A i.dst v fun v' => reK (putK (E.set s (.bool true)) i.dst v') h' i.re (evIK A σ rest (putK (E.set s (.bool true)) i.dst v') h' k)
              | false => reK (putK (E.set s (.bool true)) i.dst (.tup [])) h i.re (evIK A σ rest (putK (E.set s (.bool true)) i.dst (.tup [])) h k))
            (match q with
              | false => actK σ i.act (E.set s (.bool false)) h fun v h' => castD A i.dst v fun v' => reK (putK (E.set s (.bool false)) i.dst v') h' i.re (evIK A σ rest (putK (E.set s (.bool false)) i.dst v') h' k)
              | true => reK (putK (E.set s (.bool false)) i.dst (.tup [])) h i.re (evIK A σ rest (putK (E.set s (.bool false)) i.dst (.tup [])) h k))
        | .tup [] => reK (putK E i.dst (.tup [])) h i.re (evIK A σ rest (putK E i.dst (.tup [])) h k)
        | _ => none

def pickX {R : Type} : Outs → EX → (EX → List Nat → List Sh → Option R) → Option R
  | [], _, _ => none
  | o :: os, x, f => cB (decide (x = o.1)) (f o.1 o.2.1 o.2.2) (pickX os x f)
def outOf : Outs → EX → Option (List Nat)
  | [], _ => none
  | o :: os, x => if x = o.1 then some o.2.1 else outOf os x
theorem pickX_inv {R : Type} : ∀ {os : Outs} {x : EX} {f : EX → List Nat → List Sh → Option R} {r : R}, pickX os x f = some r → ∃ ds shs, outOf os x = some ds ∧ f x ds shs = some r
  | [], x, f, r, h => by cases h
  | o :: os, x, f, r, h => by
    simp only [pickX] at h
    rcases cB_inv h with ⟨q, h⟩ | ⟨q, h⟩
    · have q := of_decide_eq_true q
      refine ⟨o.2.1, o.2.2, ?_, by rw [q]; exact h⟩
      simp only [outOf]; rw [if_pos q]
    · have q := of_decide_eq_false q
      obtain ⟨ds, shs, g1, g2⟩ := pickX_inv h
      refine ⟨ds, shs, ?_, g2⟩
      simp only [outOf]; rw [if_neg q]; exact g1

inductive KC where
  | skip
  | reg (l : List EI)
  | seq (x y : KC)
  | cond (c : EO) (x y : KC)
  | block (id : Nat) (x : KC)
  | exit (id : Nat)
  | ret
  | draw (ls : List (List EI))
  | sub (i : Nat) (c : EC) (ins : List Nat) (outs : Outs)

def KC.er : KC → EC
  | .skip => .skip
  | .reg l => .reg l
  | .seq x y => .seq x.er y.er
  | .cond c x y => .cond c x.er y.er
  | .block id x => .block id x.er
  | .exit id => .exit id
  | .ret => .ret
  | .draw ls => .draw ls
  | .sub _ c _ _ => c

def asgI : List EI → List Nat
  | [] => []
  | i :: l => match i.dst with
    | some d => d :: asgI l
    | none => asgI l
def asgC : EC → List Nat
  | .reg l => asgI l
  | .draw ls => ls.flatMap asgI
  | .seq x y => asgC x ++ asgC y
  | .cond _ x y => asgC x ++ asgC y
  | .block _ x => asgC x
  | .loop x => asgC x
  | _ => []

def condK {R : Type} (c : EO) (E : Kn) (a b : Kn → Option R) : Option R := match c with
  | .t s => match (E.find s).isSome with
    | true => match E.tot s with
      | .bool q => cB q (a (E.set s (.bool true))) (b (E.set s (.bool false)))
      | _ => none
    | false => none
  | .c v => match v with
    | .bool true => a E
    | .bool false => b E
    | _ => none

/-- The other orders come to the same. -/
noncomputable def altK {R : Type} (A : List (Nat × Sh)) (σ : Sig) (E : Kn) (h : List Ob) (ds : List Nat) (out : List V × List Ob) : List (List EI) → Option R → Option R
  | [], r => r
  | l :: ls, r => reP ((evIK A σ l E h fun E' h' => match ds.all fun d => (E'.find d).isSome with
    | true => some (ds.map E'.tot, h')
    | false => none) = some out) (altK A σ E h ds out ls r)

noncomputable def evCK {R : Type} (A : List (Nat × Sh)) (σ : Sig) : KC → Kn → List Ob → (EX → Kn → List Ob → Option R) → Option R
  | .skip, E, h, k => k .normal E h
  | .reg l, E, h, k => evIK A σ l E h (k .normal)
  | .seq x y, E, h, k => evCK A σ x E h fun ex E h => match ex with
    | .normal => evCK A σ y E h k
    | .exit j => k (.exit j) E h
    | .ret => k .ret E h
  | .cond c x y, E, h, k => condK c E (fun E => evCK A σ x E h k) (fun E => evCK A σ y E h k)
  | .block id x, E, h, k => evCK A σ x E h fun ex E h => k (inB id ex) E h
  | .exit id, E, h, k => k (.exit id) E h
  | .ret, E, h, k => k .ret E h
  | .draw ls, E, h, k => match ls with
    | [] => none
    | l :: rest => evIK A σ l E h fun E' h' => match (asgI l).all (fun d => (E'.find d).isSome), rest.all (fun l' => (asgI l').all fun d => (asgI l).any (Nat.beq d)) with
      | true, true => altK A σ E h (asgI l) ((asgI l).map E'.tot, h') rest (k .normal E' h')
      | _, _ => none
  | .sub i c ins outs, E, h, k => match ins.all fun d => (E.find d).isSome with
    | true => bind3 (σ.sub i (ins.map E.tot) h) fun x vs h' => pickX outs x fun x' ds shs => castL shs vs fun vs' => k x' ((E.without (asgC c)).puts ds vs') h'
    | false => none

/-! ### That it is so -/
def SubOk (P : Program) (c : EC) (ins : List Nat) (outs : Outs) (f : List V → List Ob → SubR) : Prop :=
  ∀ t h x vs h', f (ins.map t) h = some (x, vs, h') → ∃ t' ds, Runs P c t h x t' h' ∧ outOf outs x = some ds ∧ ds.map t' = vs ∧ ∀ j, j ∉ asgC c → t' j = t j

def CallOk (P : Program) (f : CallS) : Prop := ∀ g args h v h', f g args h = some (v, h') → CD P g args h v h'
def CvOk (P : Program) (f : CallVS) : Prop := ∀ u args h v h', f u args h = some (v, h') → ∃ g caps, u = .fn g caps ∧ CD P g (args ++ caps) h v h'

def KC.ok (P : Program) (σ : Sig) : KC → Prop
  | .seq x y => x.ok P σ ∧ y.ok P σ
  | .cond _ x y => x.ok P σ ∧ y.ok P σ
  | .block _ x => x.ok P σ
  | .sub i c ins outs => SubOk P c ins outs (σ.sub i)
  | _ => True

theorem actK_inv {P : Program} {R : Type} {σ : Sig} (hc : CallOk P σ.call) (hv : CvOk P σ.cv) {x : EA} {E : Kn} {h : List Ob} {k : V → List Ob → Option R} {r : R} (e : actK σ x E h k = some r) {t : Nat → V} (hE : E.hold t) :
    ∃ v h', (∀ {K : V → List Ob → Prop}, K v h' → wpA P x t h K) ∧ k v h' = some r := by
  cases x with
  | op q =>
    simp only [actK] at e
    split at e
    · rename_i hk
      split at e
      · rename_i hr
        obtain ⟨v, e1, e2⟩ := bind1_inv e
        obtain ⟨⟨v', h'⟩, e3, e4⟩ := Option.map_eq_some_iff.1 e1
        subst e4
        have e5 := evOq_known hE hk h
        rw [e3] at e5
        have := isRo_ok hr e5
        subst this
        refine ⟨v', h', fun K => ?_, e2⟩
        simp only [wpA, e5]
        exact K
      · obtain ⟨v, h', e1, e2⟩ := bind2_inv e
        refine ⟨v, h', fun K => ?_, e2⟩
        simp only [wpA, evOq_known hE hk, e1]
        exact K
    · cases e
  | call f args =>
    simp only [actK] at e
    split at e
    · rename_i hk
      obtain ⟨v, h', e1, e2⟩ := bind2_inv e
      refine ⟨v, h', fun K => ?_, e2⟩
      simp only [wpA]
      rw [← EO.known_map hE hk] at e1
      exact (hc _ _ _ _ _ e1).wp K
    · cases e
  | callv fv args =>
    simp only [actK] at e
    split at e
    · rename_i hk
      obtain ⟨v, h', e1, e2⟩ := bind2_inv e
      refine ⟨v, h', fun K => ?_, e2⟩
      simp only [List.all_cons, Bool.and_eq_true] at hk
      rw [← EO.known_map hE hk.2, ← EO.known_get hE hk.1] at e1
      obtain ⟨g, caps, g1, g2⟩ := hv _ _ _ _ _ e1
      simp only [wpA, g1]
      exact ⟨g2.1, g2.wp K⟩
    · cases e
  | nextM y => cases e
  | bad => cases e

theorem reK_inv {R : Type} {E : Kn} {h : List Ob} {t : Nat → V} (hE : E.hold t) : ∀ {gs : List EG} {o : Option R} {r : R}, reK E h gs o = some r → o = some r ∧ ∀ K : Prop, K → andRe gs t h K
  | [], o, r, e => ⟨e, fun K k => k⟩
  | g :: gs, o, r, e => by
    simp only [reK] at e
    split at e
    · rename_i e1 d ha hd
      split at e
      · rename_i hw
        have hw := wantK_ok hE hw
        split at e
        · rename_i hk hdk
          obtain ⟨p, e⟩ := reP_inv e
          obtain ⟨g1, g2⟩ := reK_inv hE e
          refine ⟨g1, fun K k => ?_⟩
          simp only [andRe, reck, hd]
          refine ⟨?_, g2 K k⟩
          simp only [evG, hw, ha, evOq_known hE hk]
          rw [p, hE d _ (Kn.find_some hdk)]
        · cases e
      · rename_i hw
        have hw := wantK_ok hE hw
        split at e
        · rename_i hk
          obtain ⟨g1, g2⟩ := reK_inv hE e
          refine ⟨g1, fun K k => ?_⟩
          simp only [andRe, reck, hd]
          refine ⟨?_, g2 K k⟩
          simp only [evG, hw, hE d _ hk]
        · cases e
      · cases e
    · cases e

theorem castD_inv {R : Type} {A : List (Nat × Sh)} {d : Option Nat} {v : V} {k : V → Option R} {r : R} (e : castD A d v k = some r) : k v = some r := by
  unfold castD at e
  split at e
  · exact e
  · split at e
    · exact castC_inv e
    · exact e

theorem asgI_put {t : Nat → V} {d : Option Nat} {v : V} {j : Nat} (h : ∀ x, d = some x → j ≠ x) : putT t d v j = t j := by
  cases d with
  | none => rfl
  | some d => simp only [putT, upd]; rw [if_neg (h d rfl)]

theorem evIK_inv {P : Program} {R : Type} {A : List (Nat × Sh)} {σ : Sig} (hc : CallOk P σ.call) (hv : CvOk P σ.cv) : ∀ {l : List EI} {E : Kn} {h : List Ob} {k : Kn → List Ob → Option R} {r : R}, evIK A σ l E h k = some r → ∀ {t : Nat → V}, E.hold t →
    ∃ t' E' h', (∀ Q : Post, Q .normal t' h' → wpI P Q l t h) ∧ E'.hold t' ∧ (∀ j, j ∉ asgI l → t' j = t j) ∧ k E' h' = some r
  | [], E, h, k, r, e, t, hE => ⟨t, E, h, fun Q q => q, hE, fun _ _ => rfl, e⟩
  | i :: rest, E, h, k, r, e, t, hE => by
    have yes : ∀ {E : Kn}, E.hold t → wantE t i.guard = some true →
        (actK σ i.act E h fun v h' => castD A i.dst v fun v' => reK (putK E i.dst v') h' i.re (evIK A σ rest (putK E i.dst v') h' k)) = some r →
        ∃ t' E' h', (∀ Q : Post, Q .normal t' h' → wpI P Q (i :: rest) t h) ∧ E'.hold t' ∧ (∀ j, j ∉ asgI (i :: rest) → t' j = t j) ∧ k E' h' = some r := by
      intro E hE hw e
      obtain ⟨v, h1, g1, e⟩ := actK_inv hc hv e hE
      have e := castD_inv e
      have hE1 := Kn.hold_putK hE i.dst v
      obtain ⟨e, g2⟩ := reK_inv hE1 e
      obtain ⟨t', E', h', q1, q2, q3, q4⟩ := evIK_inv hc hv e hE1
      refine ⟨t', E', h', fun Q q => ?_, q2, fun j hj => ?_, q4⟩
      · simp only [wpI, hw]
        exact g1 (g2 _ (q1 Q q))
      · simp only [asgI] at hj
        split at hj
        · rename_i d hd
          simp only [List.mem_cons, not_or] at hj
          rw [q3 j hj.2]
          exact asgI_put (fun x hx => by rw [hd] at hx; injection hx with hx; subst hx; exact hj.1)
        · rename_i hd
          rw [q3 j hj]
          exact asgI_put (fun x hx => by rw [hd] at hx; cases hx)
    have no : ∀ {E : Kn}, E.hold t → wantE t i.guard = some false →
        reK (putK E i.dst (.tup [])) h i.re (evIK A σ rest (putK E i.dst (.tup [])) h k) = some r →
        ∃ t' E' h', (∀ Q : Post, Q .normal t' h' → wpI P Q (i :: rest) t h) ∧ E'.hold t' ∧ (∀ j, j ∉ asgI (i :: rest) → t' j = t j) ∧ k E' h' = some r := by
      intro E hE hw e
      have hE1 := Kn.hold_putK hE i.dst (.tup [])
      obtain ⟨e, g2⟩ := reK_inv hE1 e
      obtain ⟨t', E', h', q1, q2, q3, q4⟩ := evIK_inv hc hv e hE1
      refine ⟨t', E', h', fun Q q => ?_, q2, fun j hj => ?_, q4⟩
      · simp only [wpI, hw]
        exact g2 _ (q1 Q q)
      · simp only [asgI] at hj
        split at hj
        · rename_i d hd
          simp only [List.mem_cons, not_or] at hj
          rw [q3 j hj.2]
          exact asgI_put (fun x hx => by rw [hd] at hx; injection hx with hx; subst hx; exact hj.1)
        · rename_i hd
          rw [q3 j hj]
          exact asgI_put (fun x hx => by rw [hd] at hx; cases hx)
    simp only [evIK] at e
    split at e
    · rename_i hg
      exact yes hE (by rw [hg]; rfl) e
    · rename_i s q hg
      split at e
      · cases e
      · rename_i hs
        split at e
        · rename_i b hb
          have hts : t s = .bool b := by rw [hE s _ (Kn.find_some hs), hb]
          rcases cB_inv e with ⟨rfl, e⟩ | ⟨rfl, e⟩
          · cases q
            · exact no (Kn.hold_set_same hE hts) (by rw [hg]; simp only [wantE, hts]; rfl) e
            · exact yes (Kn.hold_set_same hE hts) (by rw [hg]; simp only [wantE, hts]; rfl) e
          · cases q
            · exact yes (Kn.hold_set_same hE hts) (by rw [hg]; simp only [wantE, hts]; rfl) e
            · exact no (Kn.hold_set_same hE hts) (by rw [hg]; simp only [wantE, hts]; rfl) e
        · rename_i hb
          have hts : t s = .tup [] := by rw [hE s _ (Kn.find_some hs), hb]
          exact no hE (by rw [hg]; simp only [wantE, hts]) e
        · cases e

theorem altK_inv {P : Program} {R : Type} {A : List (Nat × Sh)} {σ : Sig} (hc : CallOk P σ.call) (hv : CvOk P σ.cv) {E : Kn} {h : List Ob} {ds : List Nat} {t t' : Nat → V} {h' : List Ob} (hE : E.hold t) (out : ∀ j, j ∉ ds → t' j = t j) :
    ∀ {ls : List (List EI)} {o : Option R} {r : R}, (∀ l, l ∈ ls → ∀ d, d ∈ asgI l → d ∈ ds) → altK A σ E h ds (ds.map t', h') ls o = some r → o = some r ∧ ∀ l, l ∈ ls → ∀ Q : Post, Q .normal t' h' → wpI P Q l t h
  | [], o, r, _, e => ⟨e, fun l hl => by cases hl⟩
  | l :: ls, o, r, hs, e => by
    simp only [altK] at e
    obtain ⟨p, e⟩ := reP_inv e
    obtain ⟨g1, g2⟩ := altK_inv hc hv hE out (fun l hl => hs l (List.mem_cons_of_mem _ hl)) e
    refine ⟨g1, fun l' hl' => ?_⟩
    rcases List.mem_cons.1 hl' with rfl | hl'
    · intro Q q
      obtain ⟨t2, E2, h2, q1, q2, q3, q4⟩ := evIK_inv hc hv p hE
      split at q4
      · rename_i hk
        injection q4 with q4; injection q4 with q4 q5; subst q5
        refine q1 Q ?_
        have : t2 = t' := by
          funext j
          by_cases hj : j ∈ ds
          · have h1 : t2 j = E2.tot j := q2 j _ (Kn.find_some (List.all_eq_true.1 hk j hj))
            rw [h1]
            have := List.map_inj_left.1 q4 j hj
            exact this
          · rw [out j hj, q3 j (fun q => hj (hs _ hl' j q))]
        rw [this]; exact q
      · cases q4
    · exact g2 l' hl'

theorem evCK_inv {P : Program} {R : Type} {A : List (Nat × Sh)} {σ : Sig} (hc : CallOk P σ.call) (hv : CvOk P σ.cv) : ∀ {c : KC} {E : Kn} {h : List Ob} {k : EX → Kn → List Ob → Option R} {r : R}, c.ok P σ → evCK A σ c E h k = some r → ∀ {t : Nat → V}, E.hold t →
    ∃ x t' E' h', Runs P c.er t h x t' h' ∧ E'.hold t' ∧ (∀ j, j ∉ asgC c.er → t' j = t j) ∧ k x E' h' = some r := by
  intro c
  induction c with
  | skip => intro E h k r ok e t hE; exact ⟨.normal, t, E, h, fun Q q => q, hE, fun _ _ => rfl, e⟩
  | reg l =>
    intro E h k r ok e t hE
    simp only [evCK] at e
    obtain ⟨t', E', h', q1, q2, q3, q4⟩ := evIK_inv hc hv e hE
    exact ⟨.normal, t', E', h', q1, q2, q3, q4⟩
  | seq a b iha ihb =>
    intro E h k r ok e t hE
    simp only [evCK] at e
    obtain ⟨x, t1, E1, h1, q1, q2, q3, q4⟩ := iha ok.1 e hE
    cases x with
    | normal =>
      obtain ⟨x, t2, E2, h2, p1, p2, p3, p4⟩ := ihb ok.2 q4 q2
      refine ⟨x, t2, E2, h2, q1.seq p1, p2, fun j hj => ?_, p4⟩
      simp only [KC.er, asgC, List.mem_append, not_or] at hj
      rw [p3 j hj.2, q3 j hj.1]
    | exit j => exact ⟨_, t1, E1, h1, q1.stop (by simp), q2, fun j hj => q3 j (fun q => hj (by simp [KC.er, asgC, q])), q4⟩
    | ret => exact ⟨_, t1, E1, h1, q1.stop (by simp), q2, fun j hj => q3 j (fun q => hj (by simp [KC.er, asgC, q])), q4⟩
  | cond c a b iha ihb =>
    intro E h k r ok e t hE
    have ya : ∀ {E : Kn}, E.hold t → c.get t = .bool true → evCK A σ a E h k = some r → ∃ x t' E' h', Runs P (KC.cond c a b).er t h x t' h' ∧ E'.hold t' ∧ (∀ j, j ∉ asgC (KC.cond c a b).er → t' j = t j) ∧ k x E' h' = some r := by
      intro E hE hb e
      obtain ⟨x, t1, E1, h1, q1, q2, q3, q4⟩ := iha ok.1 e hE
      refine ⟨x, t1, E1, h1, fun Q q => ?_, q2, fun j hj => q3 j (fun q => hj (by simp [KC.er, asgC, q])), q4⟩
      simp only [KC.er, wpC, hb]
      exact q1 Q q
    have yb : ∀ {E : Kn}, E.hold t → c.get t = .bool false → evCK A σ b E h k = some r → ∃ x t' E' h', Runs P (KC.cond c a b).er t h x t' h' ∧ E'.hold t' ∧ (∀ j, j ∉ asgC (KC.cond c a b).er → t' j = t j) ∧ k x E' h' = some r := by
      intro E hE hb e
      obtain ⟨x, t1, E1, h1, q1, q2, q3, q4⟩ := ihb ok.2 e hE
      refine ⟨x, t1, E1, h1, fun Q q => ?_, q2, fun j hj => q3 j (fun q => hj (by simp [KC.er, asgC, q])), q4⟩
      simp only [KC.er, wpC, hb]
      exact q1 Q q
    simp only [evCK, condK] at e
    split at e
    · rename_i s
      split at e
      · rename_i hs
        split at e
        · rename_i q hq
          have hts : t s = .bool q := by rw [hE s _ (Kn.find_some hs), hq]
          rcases cB_inv e with ⟨rfl, e⟩ | ⟨rfl, e⟩
          · exact ya (Kn.hold_set_same hE hts) hts e
          · exact yb (Kn.hold_set_same hE hts) hts e
        · cases e
      · cases e
    · split at e
      · exact ya hE rfl e
      · exact yb hE rfl e
      · cases e
  | block id a iha =>
    intro E h k r ok e t hE
    simp only [evCK] at e
    obtain ⟨x, t1, E1, h1, q1, q2, q3, q4⟩ := iha ok e hE
    exact ⟨_, t1, E1, h1, q1.block, q2, q3, q4⟩
  | exit id => intro E h k r ok e t hE; exact ⟨.exit id, t, E, h, fun Q q => q, hE, fun _ _ => rfl, e⟩
  | ret => intro E h k r ok e t hE; exact ⟨.ret, t, E, h, fun Q q => q, hE, fun _ _ => rfl, e⟩
  | draw ls =>
    intro E h k r ok e t hE
    simp only [evCK] at e
    split at e
    · cases e
    · rename_i l rest
      obtain ⟨t', E', h', q1, q2, q3, q4⟩ := evIK_inv hc hv e hE
      split at q4
      · rename_i hk hs
        have hm : (asgI l).map E'.tot = (asgI l).map t' := List.map_congr_left fun d hd => (q2 d _ (Kn.find_some (List.all_eq_true.1 hk d hd))).symm
        rw [hm] at q4
        obtain ⟨g1, g2⟩ := altK_inv hc hv hE q3 (fun l' hl' d hd => by
          have := List.all_eq_true.1 (List.all_eq_true.1 hs l' hl') d hd
          rw [List.any_eq_true] at this
          obtain ⟨x, x1, x2⟩ := this
          rw [beqT] at x2; subst x2; exact x1) q4
        refine ⟨.normal, t', E', h', fun Q q => ?_, q2, fun j hj => q3 j (fun q => hj ?_), g1⟩
        · simp only [KC.er, wpC]
          intro l' hl'
          rcases List.mem_cons.1 hl' with rfl | hl'
          · exact q1 Q q
          · exact g2 l' hl' Q q
        · simp only [KC.er, asgC, List.mem_flatMap]
          exact ⟨l, by simp, q⟩
      · cases q4
  | sub i c ins outs =>
    intro E h k r ok e t hE
    simp only [evCK] at e
    split at e
    · rename_i hk
      obtain ⟨x, vs, h1, e1, e⟩ := bind3_inv e
      obtain ⟨ds, shs, g1, e⟩ := pickX_inv e
      have e := castL_inv e
      have hm : ins.map E.tot = ins.map t := List.map_congr_left fun d hd => (hE d _ (Kn.find_some (List.all_eq_true.1 hk d hd))).symm
      rw [hm] at e1
      obtain ⟨t1, ds', q1, q2, q3, q4⟩ := ok t h x vs h1 e1
      rw [g1] at q2; injection q2 with q2; subst q2
      refine ⟨x, t1, _, h1, q1, Kn.hold_puts (fun j v hj => ?_) q3, q4, e⟩
      obtain ⟨z1, z2⟩ := Kn.find_without _ _ _ _ hj
      rw [q4 j z1]
      exact hE j v z2
    · cases e

/-! ### Parts, loops, functions -/
def endK (outs : Outs) (x : EX) (E : Kn) (h : List Ob) : SubR := match outOf outs x with
  | some ds => match ds.all fun d => (E.find d).isSome with
    | true => some (x, ds.map E.tot, h)
    | false => none
  | none => none
def endL (ins : List Nat) (shs : List Sh) (outs : Outs) (g : List V → List Ob → SubR) (x : EX) (E : Kn) (h : List Ob) : SubR := match x with
  | .normal => match ins.all fun d => (E.find d).isSome with
    | true => castL shs (ins.map E.tot) fun vs => g vs h
    | false => none
  | .exit j => endK outs (.exit j) E h
  | .ret => endK outs .ret E h

theorem endK_inv {outs : Outs} {x y : EX} {E : Kn} {h h' : List Ob} {vs : List V} (e : endK outs x E h = some (y, vs, h')) {t : Nat → V} (hE : E.hold t) : ∃ ds, y = x ∧ h' = h ∧ outOf outs x = some ds ∧ ds.map t = vs := by
  unfold endK at e
  split at e
  · rename_i ds hds
    split at e
    · rename_i hk
      injection e with e; injection e with e1 e2; injection e2 with e2 e3
      refine ⟨ds, e1.symm, e3.symm, hds, ?_⟩
      rw [← e2]
      exact List.map_congr_left fun d hd => hE d _ (Kn.find_some (List.all_eq_true.1 hk d hd))
    · cases e
  · cases e

theorem SubOk.of {P : Program} {A : List (Nat × Sh)} {σ : Sig} {c : KC} {ins : List Nat} {outs : Outs} {f : List V → List Ob → SubR} (hc : CallOk P σ.call) (hv : CvOk P σ.cv) (ok : c.ok P σ)
    (e : ∀ vs h r, f vs h = some r → evCK A σ c (ins.zip vs) h (endK outs) = some r) : SubOk P c.er ins outs f := by
  intro t h x vs h' q
  obtain ⟨y, t', E', h1, q1, q2, q3, q4⟩ := evCK_inv hc hv ok (e _ _ _ q) (Kn.hold_zip ins)
  obtain ⟨ds, rfl, rfl, g1, g2⟩ := endK_inv q4 q2
  exact ⟨t', ds, q1, g1, g2, q3⟩

theorem SubOk.loop {P : Program} {A : List (Nat × Sh)} {σ : Sig} {c : KC} {ins : List Nat} {shs : List Sh} {outs : Outs} {G : Nat → List V → List Ob → SubR} (hc : CallOk P σ.call) (hv : CvOk P σ.cv) (ok : c.ok P σ)
    (h0 : ∀ vs h r, G 0 vs h = some r → False) (e : ∀ n vs h r, G (n + 1) vs h = some r → evCK A σ c (ins.zip vs) h (endL ins shs outs (G n)) = some r) : ∀ n, SubOk P (.loop c.er) ins outs (G n)
  | 0 => fun t h x vs h' q => (h0 _ _ _ q).elim
  | n + 1 => by
    intro t h x vs h' q
    obtain ⟨y, t', E', h1, q1, q2, q3, q4⟩ := evCK_inv hc hv ok (e _ _ _ _ q) (Kn.hold_zip ins)
    cases y with
    | normal =>
      simp only [endL] at q4
      split at q4
      · rename_i hk
        have q4 := castL_inv q4
        have hm : ins.map E'.tot = ins.map t' := List.map_congr_left fun d hd => (q2 d _ (Kn.find_some (List.all_eq_true.1 hk d hd))).symm
        rw [hm] at q4
        obtain ⟨t2, ds, p1, p2, p3, p4⟩ := SubOk.loop hc hv ok h0 e n t' h1 x vs h' q4
        exact ⟨t2, ds, q1.round p1, p2, p3, fun j hj => by rw [p4 j hj]; exact q3 j hj⟩
      · cases q4
    | exit j =>
      obtain ⟨ds, rfl, rfl, g1, g2⟩ := endK_inv q4 q2
      exact ⟨t', ds, q1.last (by simp), g1, g2, q3⟩
    | ret =>
      obtain ⟨ds, rfl, rfl, g1, g2⟩ := endK_inv q4 q2
      exact ⟨t', ds, q1.last (by simp), g1, g2, q3⟩

def resK1 (E : Kn) (h : List Ob) : ERs → Option V
  | .t i => E.find i
  | .l1 i => match (E.find i).isSome with
    | true => evLoad1 h (E.tot i)
    | false => none
  | .ln n i => match (E.find i).isSome with
    | true => evLoadN h n (E.tot i)
    | false => none
def resLK {R : Type} (E : Kn) (h : List Ob) : List ERs → (List V → Option R) → Option R
  | [], k => k []
  | r :: rs, k => bind1 (resK1 E h r) fun v => resLK E h rs fun vs => k (v :: vs)
def tupV : List V → V
  | [v] => v
  | vs => .tup vs
def endF (rs : List ERs) (x : EX) (E : Kn) (h : List Ob) : Option (V × List Ob) := match x with
  | .normal => resLK E h rs fun vs => some (tupV vs, h)
  | .ret => resLK E h rs fun vs => some (tupV vs, h)
  | .exit _ => none

theorem resLK_inv {R : Type} {E : Kn} {h : List Ob} {t : Nat → V} (hE : E.hold t) : ∀ {rs : List ERs} {k : List V → Option R} {r : R}, resLK E h rs k = some r → ∃ vs, mapAll (ERs.ev t h) rs = some vs ∧ k vs = some r
  | [], k, r, e => ⟨[], rfl, e⟩
  | a :: rs, k, r, e => by
    simp only [resLK] at e
    obtain ⟨v, e1, e⟩ := bind1_inv e
    obtain ⟨vs, g1, g2⟩ := resLK_inv hE e
    refine ⟨v :: vs, ?_, g2⟩
    have : ERs.ev t h a = some v := by
      cases a with
      | t i => simp only [resK1] at e1; simp only [ERs.ev]; rw [hE i v e1]
      | l1 i =>
        simp only [resK1] at e1
        split at e1
        · rename_i q; simp only [ERs.ev]; rw [hE i _ (Kn.find_some q)]; exact e1
        · cases e1
      | ln n i =>
        simp only [resK1] at e1
        split at e1
        · rename_i q; simp only [ERs.ev]; rw [hE i _ (Kn.find_some q)]; exact e1
        · cases e1
    simp only [mapAll, this, g1]

def entryK (args : List V) : Kn := (List.range args.length).zip args
theorem entry_hold (args : List V) : (entryK args).hold (env0 args) := by
  have : entryK args = (List.range args.length).zip ((List.range args.length).map (env0 args)) := by
    unfold entryK
    congr 1
    apply List.ext_getElem
    · simp
    · intro i h1 h2
      simp [env0, List.getElem?_eq_getElem h1]
  rw [this]
  exact Kn.hold_zip _

theorem CD.ofK {P : Program} {f : FuncId} {fn : Func} {e : EFn} {A : List (Nat × Sh)} {σ : Sig} {c : KC} {args : List V} {h h' : List Ob} {v : V} (hf : P.funcs[f]? = some fn) (hcf : compF P fn = some e) (hen : entersB P f = true) (hn : args.length ≤ e.n)
    (hcode : c.er = e.code) (hc : CallOk P σ.call) (hv : CvOk P σ.cv) (ok : c.ok P σ) (q : evCK A σ c (entryK args) h (endF e.res) = some (v, h')) : CD P f args h v h' := by
  obtain ⟨x, t', E', h1, q1, q2, q3, q4⟩ := evCK_inv hc hv ok q (entry_hold args)
  have fin : ∀ y, (y = .normal ∨ y = .ret) → x = y → (resLK E' h1 e.res fun vs => some (tupV vs, h1)) = some (v, h') → CD P f args h v h' := by
    intro y hy hx r
    subst hx
    obtain ⟨vs, g1, g2⟩ := resLK_inv q2 r
    injection g2 with g2; injection g2 with g2 g3; subst g3
    refine CD.of_runs hf hcf hen hn (hcode ▸ q1) hy ?_
    unfold resE
    rw [g1, ← g2]
    match vs with
    | [] => rfl
    | [w] => rfl
    | w :: u :: us => rfl
  cases x with
  | normal => exact fin _ (.inl rfl) rfl q4
  | ret => exact fin _ (.inr rfl) rfl q4
  | exit j => cases q4

def callN : CallS := fun _ _ _ => none
def callC (g : FuncId) (w : List V → List Ob → Option (V × List Ob)) (f : CallS) : CallS := fun i args h => match Nat.beq i g with
  | true => w args h
  | false => f i args h
def cvN : CallVS := fun _ _ _ => none
def cvC (g : FuncId) (w : List V → List Ob → Option (V × List Ob)) (f : CallVS) : CallVS := fun u args h => match u with
  | .fn i caps => match Nat.beq i g with
    | true => w (args ++ caps) h
    | false => f (.fn i caps) args h
  | u => f u args h
def subN : Nat → List V → List Ob → SubR := fun _ _ _ => none
def subC (g : Nat) (w : List V → List Ob → SubR) (f : Nat → List V → List Ob → SubR) : Nat → List V → List Ob → SubR := fun i args h => match Nat.beq i g with
  | true => w args h
  | false => f i args h
theorem callN_ok {P : Program} : CallOk P callN := fun _ _ _ _ _ h => by cases h
theorem cvN_ok {P : Program} : CvOk P cvN := fun _ _ _ _ _ h => by cases h
theorem callC_ok {P : Program} {g : FuncId} {w : List V → List Ob → Option (V × List Ob)} {f : CallS} (hw : ∀ args h v h', w args h = some (v, h') → CD P g args h v h') (hf : CallOk P f) : CallOk P (callC g w f) := by
  intro i args h v h' e
  simp only [callC] at e
  split at e
  · rename_i q
    rw [beqT] at q; subst q; exact hw _ _ _ _ e
  · exact hf _ _ _ _ _ e
theorem cvC_ok {P : Program} {g : FuncId} {w : List V → List Ob → Option (V × List Ob)} {f : CallVS} (hw : ∀ args h v h', w args h = some (v, h') → CD P g args h v h') (hf : CvOk P f) : CvOk P (cvC g w f) := by
  intro u args h v h' e
  simp only [cvC] at e
  split at e
  · rename_i i caps
    split at e
    · rename_i q
      rw [beqT] at q; subst q; exact ⟨i, caps, rfl, hw _ _ _ _ e⟩
    · exact hf _ _ _ _ _ e
  · exact hf _ _ _ _ _ e

end Go.Proofs.Ytdcdmpgigmhhpaa.E
