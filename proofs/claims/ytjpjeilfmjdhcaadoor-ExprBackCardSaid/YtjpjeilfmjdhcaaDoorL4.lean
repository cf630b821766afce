/- The layer E, its parts in one file: values and memory, operations, code, and what it comes to. No condition. -/
import Derived.Test.YtjpjeilfmjdhcaaDoorL3
import Derived.SizedLaws
import Derived.KernelRfl
/- The layer E, part 36: a function's code read as a Lean function over what is known: parts that are summed up elsewhere stand as functions; that what it comes to is what the code comes to. No condition. -/
namespace Go.Proofs.YtjpjeilfmjdhcaaDoor.E
set_option linter.unusedSimpArgs false
set_option linter.unusedVariables false
/-- What kind of value is awaited. -/
inductive Sh where
  | any
  | int (k:IntKind)
  | bool
  | str
  | agg (l:List Sh)
  | tup (l:List Sh)
def cB {R:Type} (b:Bool) (x y:Option R):Option R := match b with
  | true => x
  | false => y
def bind1 {α R:Type} (o:Option α) (k : α → Option R):Option R := match o with
  | some v => k v
  | none => none
theorem bind1_inv {α R:Type} {o:Option α} {k : α → Option R} {r:R} (h:bind1 o k = some r):∃ v,o = some v ∧ k v = some r := by
  cases o with
  | none => cases h
  | some p => exact ⟨p,rfl,h⟩
def bind2 {R:Type} (o:Option (V × List Ob)) (k:V → List Ob → Option R):Option R := match o with
  | some p => k p.1 p.2
  | none => none
def bind3 {R:Type} (o:Option (EX × List V × List Ob)) (k:EX → List V → List Ob → Option R):Option R := match o with
  | some p => k p.1 p.2.1 p.2.2
  | none => none
def castInt {R:Type} (k:IntKind) (v:V) (f:Int → Option R):Option R := match v with
  | .int k' n => cB (decide (k' = k)) (f n) none
  | _ => none
def castBool {R:Type} (v:V) (f:Bool → Option R):Option R := match v with
  | .bool b => f b
  | _ => none
def castStr {R:Type} (v:V) (f:List UInt8 → Option R):Option R := match v with
  | .str l => f l
  | _ => none
def castAgg {R:Type} (v:V) (f:List V → Option R):Option R := match v with
  | .agg l => f l
  | _ => none
def castTup {R:Type} (v:V) (f:List V → Option R):Option R := match v with
  | .tup l => f l
  | _ => none
def castCons {R:Type} (l:List V) (f:V → List V → Option R):Option R := match l with
  | v :: vs => f v vs
  | [] => none
def castNil {R:Type} (l:List V) (r:Option R):Option R := match l with
  | [] => r
  | _ :: _ => none
mutual
def castC {R:Type}:Sh → V → (V → Option R) → Option R
  | .any,v,f => f v
  | .int k,v,f => castInt k v fun n => f (.int k n)
  | .bool,v,f => castBool v fun b => f (.bool b)
  | .str,v,f => castStr v fun l => f (.str l)
  | .agg ss,v,f => castAgg v fun l => castL ss l fun l' => f (.agg l')
  | .tup ss,v,f => castTup v fun l => castL ss l fun l' => f (.tup l')
def castL {R:Type}:List Sh → List V → (List V → Option R) → Option R
  | [],l,f => castNil l (f [])
  | s :: ss,l,f => castCons l fun v vs => castC s v fun v' => castL ss vs fun vs' => f (v' :: vs')
end
theorem cB_inv {R:Type} {b:Bool} {x y:Option R} {r:R} (h:cB b x y = some r):(b = true ∧ x = some r) ∨ (b = false ∧ y = some r) := by
  cases b
  · exact .inr ⟨rfl,h⟩
  · exact .inl ⟨rfl,h⟩
theorem bind2_inv {R:Type} {o:Option (V × List Ob)} {k:V → List Ob → Option R} {r:R} (h:bind2 o k = some r):∃ v h',o = some (v,h') ∧ k v h' = some r := by
  cases o with
  | none => cases h
  | some p => exact ⟨p.1,p.2,rfl,h⟩
theorem bind3_inv {R:Type} {o:Option (EX × List V × List Ob)} {k:EX → List V → List Ob → Option R} {r:R} (h:bind3 o k = some r):∃ x v h',o = some (x,v,h') ∧ k x v h' = some r := by
  cases o with
  | none => cases h
  | some p => exact ⟨p.1,p.2.1,p.2.2,rfl,h⟩
theorem castInt_inv {R:Type} {k:IntKind} {v:V} {f:Int → Option R} {r:R} (h:castInt k v f = some r):∃ n,v = .int k n ∧ f n = some r := by
  cases v with
  | int k' n =>
    rcases cB_inv (show cB (decide (k' = k)) (f n) none = some r from h) with ⟨q,e⟩ | ⟨_,e⟩
    · exact ⟨n,by rw [of_decide_eq_true q],e⟩
    · cases e
  | _ => cases h
theorem castBool_inv {R:Type} {v:V} {f:Bool → Option R} {r:R} (h:castBool v f = some r):∃ n,v = .bool n ∧ f n = some r := by
  unfold castBool at h
  split at h
  · exact ⟨_,rfl,h⟩
  · cases h
theorem castStr_inv {R:Type} {v:V} {f:List UInt8 → Option R} {r:R} (h:castStr v f = some r):∃ n,v = .str n ∧ f n = some r := by
  unfold castStr at h
  split at h
  · exact ⟨_,rfl,h⟩
  · cases h
theorem castAgg_inv {R:Type} {v:V} {f:List V → Option R} {r:R} (h:castAgg v f = some r):∃ n,v = .agg n ∧ f n = some r := by
  unfold castAgg at h
  split at h
  · exact ⟨_,rfl,h⟩
  · cases h
theorem castTup_inv {R:Type} {v:V} {f:List V → Option R} {r:R} (h:castTup v f = some r):∃ n,v = .tup n ∧ f n = some r := by
  unfold castTup at h
  split at h
  · exact ⟨_,rfl,h⟩
  · cases h
theorem castCons_inv {R:Type} {l:List V} {f:V → List V → Option R} {r:R} (h:castCons l f = some r):∃ v vs,l = v :: vs ∧ f v vs = some r := by
  cases l with
  | nil => cases h
  | cons v vs => exact ⟨v,vs,rfl,h⟩
theorem castNil_inv {R:Type} {l:List V} {o:Option R} {r:R} (h:castNil l o = some r):l = [] ∧ o = some r := by
  cases l with
  | nil => exact ⟨rfl,h⟩
  | cons v vs => cases h
mutual
theorem castC_inv {R:Type}:∀ {s:Sh} {v:V} {f:V → Option R} {r:R},castC s v f = some r → f v = some r
  | .any,v,f,r,h => by simpa only [castC] using h
  | .int k,v,f,r,h => by
    simp only [castC] at h
    obtain ⟨n,e,h⟩ := castInt_inv h; rw [e]; exact h
  | .bool,v,f,r,h => by
    simp only [castC] at h
    obtain ⟨n,rfl,h⟩ := castBool_inv h; exact h
  | .str,v,f,r,h => by
    simp only [castC] at h
    obtain ⟨n,rfl,h⟩ := castStr_inv h; exact h
  | .agg ss,v,f,r,h => by
    simp only [castC] at h
    obtain ⟨n,rfl,h⟩ := castAgg_inv h
    exact castL_inv (f := fun l => f (.agg l)) h
  | .tup ss,v,f,r,h => by
    simp only [castC] at h
    obtain ⟨n,rfl,h⟩ := castTup_inv h
    exact castL_inv (f := fun l => f (.tup l)) h
theorem castL_inv {R:Type}:∀ {ss:List Sh} {l:List V} {f:List V → Option R} {r:R},castL ss l f = some r → f l = some r
  | [],l,f,r,h => by
    simp only [castL] at h
    obtain ⟨rfl,h⟩ := castNil_inv h; exact h
  | s :: ss,l,f,r,h => by
    simp only [castL] at h
    obtain ⟨v,vs,rfl,h⟩ := castCons_inv h
    have := castC_inv h
    exact castL_inv (f := fun vs' => f (v :: vs')) this
end
/-! ### What is known -/
def Kn.find:Kn → Nat → Option V
  | [],_ => none
  | (d,v) :: l,i => match i.beq d with
    | true => some v
    | false => Kn.find l i
def Kn.tot (E:Kn):Nat → V := Kn.get (fun _ => .junk) E
def Kn.hold (E:Kn) (t:Nat → V):Prop := ∀ i v,E.find i = some v → t i = v
def Kn.without:Kn → List Nat → Kn
  | [],_ => []
  | (d,v) :: l,ds => match ds.any (Nat.beq d) with
    | true => Kn.without l ds
    | false => (d,v) :: Kn.without l ds
def Kn.puts:Kn → List Nat → List V → Kn
  | E,d :: ds,v :: vs => Kn.puts (E.set d v) ds vs
  | E,_,_ => E
theorem Kn.find_tot:∀ {E:Kn} {i:Nat} {v:V},E.find i = some v → E.tot i = v
  | [],i,v,h => by cases h
  | (d,u) :: l,i,v,h => by
    simp only [Kn.find] at h
    simp only [Kn.tot,Kn.get]
    split at h
    · rename_i q
      first
      | (injection h; done)
      | (rw [q]; injection h)
    · rename_i q
      first
      | exact Kn.find_tot h
      | (rw [q]; exact Kn.find_tot h)
theorem Kn.find_some:∀ {E:Kn} {i:Nat},(E.find i).isSome = true → E.find i = some (E.tot i)
  | E,i,h => by
    obtain ⟨v,hv⟩ := Option.isSome_iff_exists.1 h
    rw [hv,Kn.find_tot hv]
theorem Kn.find_set:∀ (E:Kn) (d:Nat) (v:V) (j:Nat),(E.set d v).find j = if j = d then some v else E.find j
  | [],d,v,j => by
    simp only [Kn.set,Kn.find]
    split
    · rename_i h; rw [beqT] at h; rw [if_pos h]
    · rename_i h; rw [beqF] at h; rw [if_neg h]
  | (d',v') :: l,d,v,j => by
    simp only [Kn.set]
    split
    · rename_i h
      rw [beqT] at h; subst h
      simp only [Kn.find]
      split
      · rename_i h1; rw [beqT] at h1; rw [if_pos h1]
      · rename_i h1; rw [beqF] at h1; rw [if_neg h1]
    · rename_i h
      rw [beqF] at h
      simp only [Kn.find]
      split
      · rename_i h1; rw [beqT] at h1; rw [if_neg (by omega)]
      · rw [Kn.find_set l]
theorem Kn.find_without:∀ (E:Kn) (ds:List Nat) (j:Nat) (v:V),(E.without ds).find j = some v → j ∉ ds ∧ E.find j = some v
  | [],ds,j,v,h => by cases h
  | (d,u) :: l,ds,j,v,h => by
    simp only [Kn.without] at h
    split at h
    · rename_i q
      obtain ⟨g1,g2⟩ := Kn.find_without l ds j v h
      refine ⟨g1,?_⟩
      simp only [Kn.find]
      split
      · rename_i z
        rw [beqT] at z; subst z
        rw [List.any_eq_true] at q
        obtain ⟨x,q1,q2⟩ := q
        rw [beqT] at q2; subst q2
        exact absurd q1 g1
      · exact g2
    · rename_i q
      simp only [Kn.find] at h ⊢
      split at h
      · rename_i z
        refine ⟨fun q1 => ?_,h⟩
        rw [beqT] at z; subst z
        rw [Bool.eq_false_iff] at q
        exact q (List.any_eq_true.2 ⟨_,q1,beqT.2 rfl⟩)
      · exact Kn.find_without l ds j v h
theorem Kn.hold_set {E:Kn} {t:Nat → V} (h:E.hold t) (d:Nat) (v:V):(E.set d v).hold (upd t d v) := by
  intro i u hu
  rw [Kn.find_set] at hu
  unfold upd
  split at hu
  · rename_i q; rw [if_pos q]; injection hu
  · rename_i q; rw [if_neg q]; exact h i u hu
theorem Kn.hold_set_same {E:Kn} {t:Nat → V} (h:E.hold t) {d:Nat} {v:V} (hd:t d = v):(E.set d v).hold t := by
  intro i u hu
  rw [Kn.find_set] at hu
  split at hu
  · rename_i q; subst q; injection hu with hu; subst hu; exact hd
  · exact h i u hu
theorem Kn.hold_putK {E:Kn} {t:Nat → V} (h:E.hold t) (d:Option Nat) (v:V):(putK E d v).hold (putT t d v) := by
  cases d with
  | none => exact h
  | some d => exact Kn.hold_set h d v
theorem Kn.hold_puts {t:Nat → V}:∀ {ds:List Nat} {vs:List V} {E:Kn},E.hold t → ds.map t = vs → (E.puts ds vs).hold t
  | [],vs,E,h,q => by subst q; exact h
  | d :: ds,vs,E,h,q => by
    subst q
    simp only [List.map_cons,Kn.puts]
    exact Kn.hold_puts (Kn.hold_set_same h rfl) rfl
theorem Kn.hold_zip {t:Nat → V}:∀ (ds:List Nat),Kn.hold (ds.zip (ds.map t)) t
  | [],i,v,h => by cases h
  | d :: ds,i,v,h => by
    simp only [List.map_cons,List.zip_cons_cons,Kn.find] at h
    split at h
    · rename_i q; rw [beqT] at q; subst q; injection h
    · exact Kn.hold_zip ds i v h
def EO.known (E:Kn):EO → Bool
  | .t i => (E.find i).isSome
  | .c _ => true
theorem EO.known_get {E:Kn} {t:Nat → V} (h:E.hold t) {x:EO} (k:x.known E = true):x.get t = x.get E.tot := by
  cases x with
  | t i => exact h i _ (Kn.find_some k)
  | c v => rfl
theorem EO.known_map {E:Kn} {t:Nat → V} (h:E.hold t):∀ {xs:List EO},xs.all (EO.known E) = true → xs.map (·.get t) = xs.map (·.get E.tot)
  | [],_ => rfl
  | x :: xs,k => by
    simp only [List.all_cons,Bool.and_eq_true] at k
    simp only [List.map_cons,EO.known_get h k.1,EO.known_map h k.2]
def knows (E:Kn) (e:EOp):Bool := e.rd.all fun i => (E.find i).isSome
theorem evOq_known {E:Kn} {t:Nat → V} (hE:E.hold t) {e:EOp} (k:knows E e = true) (h:List Ob):evOp e t h = evOq e E.tot h := by
  rw [evOq_eq]
  exact evOp_congr (fun i hi => hE i _ (Kn.find_some (List.all_eq_true.1 k i hi))) h
/-- An operation on values; one that only looks. -/
def ev (e:EOp) (h:List Ob):Option (V × List Ob) := evOq e (fun _ => .junk) h
def er (e:EOp) (h:List Ob):Option V := (ev e h).map Prod.fst
/-- It leaves memory as it is. -/
def isRo:EOp → Bool
  | .alloc _ _ => false
  | .box _ _ => false
  | .bslice _ _ _ _ => false
  | .store _ _ _ => false
  | .toBytes _ => false
  | .mkslice _ _ _ _ => false
  | .app _ _ _ _ => false
  | .copy _ _ _ => false
  | .mkmap => false
  | .mapupd _ _ _ _ => false
  | .delete _ _ _ => false
  | .appZ _ _ _ _ _ => false
  | .rangeS _ => false
  | .rangeM _ => false
  | .nextS _ => false
  | .clearL _ _ _ => false
  | _ => true
theorem map_same {o:Option V} {h h':List Ob} {v:V} (e:(o.map fun v => (v,h)) = some (v,h')):h' = h := by
  cases o with
  | none => cases e
  | some u => injection e with e; injection e with _ e; exact e.symm
theorem isRo_ok {e:EOp} {t:Nat → V} {h h':List Ob} {v:V} (hr:isRo e = true) (q:evOp e t h = some (v,h')):h' = h := by
  cases e <;> first | (cases hr; done) | skip
  case build z ps =>
    simp only [evOp] at q
    generalize fillV z _ = o at q
    cases o with
    | none => cases q
    | some u => injection q with q; injection q with _ q; exact q.symm
  case lenL x =>
    simp only [evOp] at q
    generalize evLenL h _ = o at q
    cases o with
    | none => cases q
    | some u => injection q with q; injection q with _ q; exact q.symm
  case lenM x =>
    simp only [evOp] at q
    generalize evLenM h _ = o at q
    cases o with
    | none => cases q
    | some u => injection q with q; injection q with _ q; exact q.symm
  case capL x =>
    simp only [evOp] at q
    generalize evCap _ = o at q
    cases o with
    | none => cases q
    | some u => injection q with q; injection q with _ q; exact q.symm
  case eq neg T x y =>
    simp only [evOp] at q
    generalize evEq h T _ _ = o at q
    cases o with
    | none => cases q
    | some u => injection q with q; injection q with _ q; exact q.symm
  all_goals
    simp only [evOp] at q
    repeat' split at q
    all_goals first
      | (cases q; done)
      | exact map_same q
      | (injection q with q; injection q with _ q; exact q.symm)
/-! ### The code with its parts -/
abbrev CallS := FuncId → List V → List Ob → Option (V × List Ob)
abbrev CallVS := V → List V → List Ob → Option (V × List Ob)
abbrev SubR := Option (EX × List V × List Ob)
abbrev Outs := List (EX × List Nat × List Sh)
structure Sig where
  call:CallS
  cv:CallVS
  sub:Nat → List V → List Ob → SubR
noncomputable def reP {R:Type} (p:Prop) (o:Option R):Option R := @ite _ p (Classical.propDecidable p) o none
theorem reP_inv {R:Type} {p:Prop} {o:Option R} {r:R} (h:reP p o = some r):p ∧ o = some r := by
  unfold reP at h
  split at h
  · rename_i q; exact ⟨q,h⟩
  · cases h
theorem reP_pos {R:Type} {p:Prop} (o:Option R) (h:p):reP p o = o := by
  unfold reP; rw [if_pos h]
def wantK (E:Kn):Option (Nat × Bool) → Option Bool
  | none => some true
  | some (s,q) => match E.find s with
    | some (.bool true) => some q
    | some (.bool false) => some (!q)
    | some (.tup []) => some false
    | _ => none
theorem wantK_ok {E:Kn} {t:Nat → V} (hE:E.hold t) {g:Option (Nat × Bool)} {b:Bool} (h:wantK E g = some b):wantE t g = some b := by
  cases g with
  | none => exact h
  | some p =>
    obtain ⟨s,q⟩ := p
    simp only [wantK] at h
    split at h
    · rename_i e; injection h with h; subst h; simp only [wantE,hE s _ e]; cases q <;> rfl
    · rename_i e; injection h with h; subst h; simp only [wantE,hE s _ e]; cases q <;> rfl
    · rename_i e; injection h with h; subst h; simp only [wantE,hE s _ e]
    · cases h
noncomputable def reK {R:Type} (E:Kn) (h:List Ob):List EG → Option R → Option R
  | [],r => r
  | g :: gs,r => match g.act,g.dst with
    | .op e,some d => match wantK E g.guard with
      | some true => match knows E e,(E.find d).isSome with
        | true,true => reP ((evOq e E.tot h).map Prod.fst = some (E.tot d)) (reK E h gs r)
        | _,_ => none
      | some false => match E.find d with
        | some (.tup []) => reK E h gs r
        | _ => none
      | none => none
    | _,_ => none
/-- What comes next in a map, if it is one thing alone. -/
def one2 {R:Type} (o:Option (List (V × List Ob))) (k:V → List Ob → Option R):Option R := match o with
  | some [p] => k p.1 p.2
  | _ => none
theorem one2_inv {R:Type} {o:Option (List (V × List Ob))} {k:V → List Ob → Option R} {r:R} (e:one2 o k = some r):∃ v h,o = some [(v,h)] ∧ k v h = some r := by
  unfold one2 at e
  split at e
  · rename_i p
    exact ⟨p.1,p.2,rfl,e⟩
  · cases e
noncomputable def actK {R:Type} (σ : Sig) (x:EA) (E:Kn) (h:List Ob) (k:V → List Ob → Option R):Option R := match x with
  | .op e => match knows E e with
    | true => match isRo e with
      | true => bind1 ((evOq e E.tot h).map Prod.fst) fun v => k v h
      | false => bind2 (evOq e E.tot h) k
    | false => none
  | .call f args => match args.all (EO.known E) with
    | true => bind2 (σ.call f (args.map (·.get E.tot)) h) k
    | false => none
  | .callv fv args => match (fv :: args).all (EO.known E) with
    | true => bind2 (σ.cv (fv.get E.tot) (args.map (·.get E.tot)) h) k
    | false => none
  | .nextM x => match EO.known E x with
    | true => one2 (evNextM h (x.get E.tot)) k
    | false => none
  | _ => none
def castD {R:Type} (A:List (Nat × Sh)) (d:Option Nat) (v:V) (k:V → Option R):Option R := match d with
  | none => k v
  | some d => match A.lookup d with
    | some s => castC s v k
    | none => k v
noncomputable def evIK {R:Type} (A:List (Nat × Sh)) (σ : Sig):List EI → Kn → List Ob → (Kn → List Ob → Option R) → Option R
  | [],E,h,k => k E h
  | i :: rest,E,h,k => match i.guard with
    | none => actK σ i.act E h fun v h' => castD A i.dst v fun v' => reK (putK E i.dst v') h' i.re (evIK A σ rest (putK E i.dst v') h' k)
    | some (s,q) => match (E.find s).isSome with
      | false => none
      | true => match E.tot s with
        | .bool b => cB b
            (match q with
              | true => actK σ i.act (E.set s (.bool true)) h fun v h' => castD A i.dst v fun v' => reK (putK (E.set s (.bool true)) i.dst v') h' i.re (evIK A σ rest (putK (E.set s (.bool true)) i.dst v') h' k)
              | false => reK (putK (E.set s (.bool true)) i.dst (.tup [])) h i.re (evIK A σ rest (putK (E.set s (.bool true)) i.dst (.tup [])) h k))
            (match q with
              | false => actK σ i.act (E.set s (.bool false)) h fun v h' => castD A i.dst v fun v' => reK (putK (E.set s (.bool false)) i.dst v') h' i.re (evIK A σ rest (putK (E.set s (.bool false)) i.dst v') h' k)
              | true => reK (putK (E.set s (.bool false)) i.dst (.tup [])) h i.re (evIK A σ rest (putK (E.set s (.bool false)) i.dst (.tup [])) h k))
        | .tup [] => reK (putK E i.dst (.tup [])) h i.re (evIK A σ rest (putK E i.dst (.tup [])) h k)
        | _ => none
def pickX {R:Type}:Outs → EX → (EX → List Nat → List Sh → Option R) → Option R
  | [],_,_ => none
  | o :: os,x,f => cB (decide (x = o.1)) (f o.1 o.2.1 o.2.2) (pickX os x f)
def outOf:Outs → EX → Option (List Nat)
  | [],_ => none
  | o :: os,x => if x = o.1 then some o.2.1 else outOf os x
theorem pickX_inv {R:Type}:∀ {os:Outs} {x:EX} {f:EX → List Nat → List Sh → Option R} {r:R},pickX os x f = some r → ∃ ds shs,outOf os x = some ds ∧ f x ds shs = some r
  | [],x,f,r,h => by cases h
  | o :: os,x,f,r,h => by
    simp only [pickX] at h
    rcases cB_inv h with ⟨q,h⟩ | ⟨q,h⟩
    · have q := of_decide_eq_true q
      refine ⟨o.2.1,o.2.2,?_,by rw [q]; exact h⟩
      simp only [outOf]; rw [if_pos q]
    · have q := of_decide_eq_false q
      obtain ⟨ds,shs,g1,g2⟩ := pickX_inv h
      refine ⟨ds,shs,?_,g2⟩
      simp only [outOf]; rw [if_neg q]; exact g1
inductive KC where
  | skip
  | reg (l:List EI)
  | seq (x y:KC)
  | cond (c:EO) (x y:KC)
  | block (id:Nat) (x:KC)
  | exit (id:Nat)
  | ret
  | draw (ls:List (List EI))
  | sub (i:Nat) (c:EC) (ins:List Nat) (outs:Outs)
def KC.er:KC → EC
  | .skip => .skip
  | .reg l => .reg l
  | .seq x y => .seq x.er y.er
  | .cond c x y => .cond c x.er y.er
  | .block id x => .block id x.er
  | .exit id => .exit id
  | .ret => .ret
  | .draw ls => .draw ls
  | .sub _ c _ _ => c
def asgI:List EI → List Nat
  | [] => []
  | i :: l => match i.dst with
    | some d => d :: asgI l
    | none => asgI l
def asgC:EC → List Nat
  | .reg l => asgI l
  | .draw ls => ls.flatMap asgI
  | .seq x y => asgC x ++ asgC y
  | .cond _ x y => asgC x ++ asgC y
  | .block _ x => asgC x
  | .loop x => asgC x
  | _ => []
def condK {R:Type} (c:EO) (E:Kn) (a b:Kn → Option R):Option R := match c with
  | .t s => match (E.find s).isSome with
    | true => match E.tot s with
      | .bool q => cB q (a (E.set s (.bool true))) (b (E.set s (.bool false)))
      | _ => none
    | false => none
  | .c v => match v with
    | .bool true => a E
    | .bool false => b E
    | _ => none
/-- The other orders come to the same. -/
noncomputable def altK {R:Type} (A:List (Nat × Sh)) (σ : Sig) (E:Kn) (h:List Ob) (ds:List Nat) (out:List V × List Ob):List (List EI) → Option R → Option R
  | [],r => r
  | l :: ls,r => reP ((evIK A σ l E h fun E' h' => match ds.all fun d => (E'.find d).isSome with
    | true => some (ds.map E'.tot,h')
    | false => none) = some out) (altK A σ E h ds out ls r)
noncomputable def evCK {R:Type} (A:List (Nat × Sh)) (σ : Sig):KC → Kn → List Ob → (EX → Kn → List Ob → Option R) → Option R
  | .skip,E,h,k => k .normal E h
  | .reg l,E,h,k => evIK A σ l E h (k .normal)
  | .seq x y,E,h,k => evCK A σ x E h fun ex E h => match ex with
    | .normal => evCK A σ y E h k
    | .exit j => k (.exit j) E h
    | .ret => k .ret E h
  | .cond c x y,E,h,k => condK c E (fun E => evCK A σ x E h k) (fun E => evCK A σ y E h k)
  | .block id x,E,h,k => evCK A σ x E h fun ex E h => k (inB id ex) E h
  | .exit id,E,h,k => k (.exit id) E h
  | .ret,E,h,k => k .ret E h
  | .draw ls,E,h,k => match ls with
    | [] => none
    | l :: rest => evIK A σ l E h fun E' h' => match (asgI l).all (fun d => (E'.find d).isSome),rest.all (fun l' => (asgI l').all fun d => (asgI l).any (Nat.beq d)) with
      | true,true => altK A σ E h (asgI l) ((asgI l).map E'.tot,h') rest (k .normal E' h')
      | _,_ => none
  | .sub i c ins outs,E,h,k => match ins.all fun d => (E.find d).isSome with
    | true => bind3 (σ.sub i (ins.map E.tot) h) fun x vs h' => pickX outs x fun x' ds shs => castL shs vs fun vs' => k x' ((E.without (asgC c)).puts ds vs') h'
    | false => none
/-! ### That it is so -/
def SubOk (P:Program) (c:EC) (ins:List Nat) (outs:Outs) (f:List V → List Ob → SubR):Prop :=
  ∀ t h x vs h',f (ins.map t) h = some (x,vs,h') → ∃ t' ds,Runs P c t h x t' h' ∧ outOf outs x = some ds ∧ ds.map t' = vs ∧ ∀ j,j ∉ asgC c → t' j = t j
def CallOk (P:Program) (f:CallS):Prop := ∀ g args h v h',f g args h = some (v,h') → CD P g args h v h'
def CvOk (P:Program) (f:CallVS):Prop := ∀ u args h v h',f u args h = some (v,h') → ∃ g caps,(u = .fn g caps ∧ CD P g (args ++ caps) h v h') ∨ (u = .bm g caps ∧ CD P g (caps ++ args) h v h')
def KC.ok (P:Program) (σ : Sig):KC → Prop
  | .seq x y => x.ok P σ ∧ y.ok P σ
  | .cond _ x y => x.ok P σ ∧ y.ok P σ
  | .block _ x => x.ok P σ
  | .sub i c ins outs => SubOk P c ins outs (σ.sub i)
  | _ => True
theorem actK_inv {P:Program} {R:Type} {σ : Sig} (hc:CallOk P σ.call) (hv:CvOk P σ.cv) {x:EA} {E:Kn} {h:List Ob} {k:V → List Ob → Option R} {r:R} (e:actK σ x E h k = some r) {t:Nat → V} (hE:E.hold t) :
    ∃ v h',(∀ {K:V → List Ob → Prop},K v h' → wpA P x t h K) ∧ k v h' = some r := by
  cases x with
  | op q =>
    simp only [actK] at e
    split at e
    · rename_i hk
      split at e
      · rename_i hr
        obtain ⟨v,e1,e2⟩ := bind1_inv e
        obtain ⟨⟨v',h'⟩,e3,e4⟩ := Option.map_eq_some_iff.1 e1
        subst e4
        have e5 := evOq_known hE hk h
        rw [e3] at e5
        have := isRo_ok hr e5
        subst this
        refine ⟨v',h',fun K => ?_,e2⟩
        simp only [wpA,e5]
        exact K
      · obtain ⟨v,h',e1,e2⟩ := bind2_inv e
        refine ⟨v,h',fun K => ?_,e2⟩
        simp only [wpA,evOq_known hE hk,e1]
        exact K
    · cases e
  | call f args =>
    simp only [actK] at e
    split at e
    · rename_i hk
      obtain ⟨v,h',e1,e2⟩ := bind2_inv e
      refine ⟨v,h',fun K => ?_,e2⟩
      simp only [wpA]
      rw [← EO.known_map hE hk] at e1
      exact (hc _ _ _ _ _ e1).wp K
    · cases e
  | callv fv args =>
    simp only [actK] at e
    split at e
    · rename_i hk
      obtain ⟨v,h',e1,e2⟩ := bind2_inv e
      refine ⟨v,h',fun K => ?_,e2⟩
      simp only [List.all_cons,Bool.and_eq_true] at hk
      rw [← EO.known_map hE hk.2,← EO.known_get hE hk.1] at e1
      obtain ⟨g,caps,⟨g1,g2⟩ | ⟨g1,g2⟩⟩ := hv _ _ _ _ _ e1
      · simp only [wpA,g1]
        exact ⟨g2.1,g2.wp K⟩
      · simp only [wpA,g1]
        exact ⟨g2.1,g2.wp K⟩
    · cases e
  | nextM y =>
    simp only [actK] at e
    split at e
    · rename_i hk
      obtain ⟨v,h',e1,e2⟩ := one2_inv e
      refine ⟨v,h',fun K => ?_,e2⟩
      rw [← EO.known_get hE hk] at e1
      simp only [wpA,e1]
      intro p hp
      simp only [List.mem_cons,List.not_mem_nil,or_false] at hp
      subst hp
      exact K
    · cases e
  | bad => cases e
theorem reK_inv {R:Type} {E:Kn} {h:List Ob} {t:Nat → V} (hE:E.hold t):∀ {gs:List EG} {o:Option R} {r:R},reK E h gs o = some r → o = some r ∧ ∀ K:Prop,K → andRe gs t h K
  | [],o,r,e => ⟨e,fun K k => k⟩
  | g :: gs,o,r,e => by
    simp only [reK] at e
    split at e
    · rename_i e1 d ha hd
      split at e
      · rename_i hw
        have hw := wantK_ok hE hw
        split at e
        · rename_i hk hdk
          obtain ⟨p,e⟩ := reP_inv e
          obtain ⟨g1,g2⟩ := reK_inv hE e
          refine ⟨g1,fun K k => ?_⟩
          simp only [andRe,reck,hd]
          refine ⟨?_,g2 K k⟩
          simp only [evG,hw,ha,evOq_known hE hk]
          rw [p,hE d _ (Kn.find_some hdk)]
        · cases e
      · rename_i hw
        have hw := wantK_ok hE hw
        split at e
        · rename_i hk
          obtain ⟨g1,g2⟩ := reK_inv hE e
          refine ⟨g1,fun K k => ?_⟩
          simp only [andRe,reck,hd]
          refine ⟨?_,g2 K k⟩
          simp only [evG,hw,hE d _ hk]
        · cases e
      · cases e
    · cases e
theorem castD_inv {R:Type} {A:List (Nat × Sh)} {d:Option Nat} {v:V} {k:V → Option R} {r:R} (e:castD A d v k = some r):k v = some r := by
  unfold castD at e
  split at e
  · exact e
  · split at e
    · exact castC_inv e
    · exact e
theorem asgI_put {t:Nat → V} {d:Option Nat} {v:V} {j:Nat} (h:∀ x,d = some x → j ≠ x):putT t d v j = t j := by
  cases d with
  | none => rfl
  | some d => simp only [putT,upd]; rw [if_neg (h d rfl)]
theorem evIK_inv {P:Program} {R:Type} {A:List (Nat × Sh)} {σ : Sig} (hc:CallOk P σ.call) (hv:CvOk P σ.cv):∀ {l:List EI} {E:Kn} {h:List Ob} {k:Kn → List Ob → Option R} {r:R},evIK A σ l E h k = some r → ∀ {t:Nat → V},E.hold t →
    ∃ t' E' h',(∀ Q:Post,Q .normal t' h' → wpI P Q l t h) ∧ E'.hold t' ∧ (∀ j,j ∉ asgI l → t' j = t j) ∧ k E' h' = some r
  | [],E,h,k,r,e,t,hE => ⟨t,E,h,fun Q q => q,hE,fun _ _ => rfl,e⟩
  | i :: rest,E,h,k,r,e,t,hE => by
    have yes:∀ {E:Kn},E.hold t → wantE t i.guard = some true →
        (actK σ i.act E h fun v h' => castD A i.dst v fun v' => reK (putK E i.dst v') h' i.re (evIK A σ rest (putK E i.dst v') h' k)) = some r →
        ∃ t' E' h',(∀ Q:Post,Q .normal t' h' → wpI P Q (i :: rest) t h) ∧ E'.hold t' ∧ (∀ j,j ∉ asgI (i :: rest) → t' j = t j) ∧ k E' h' = some r := by
      intro E hE hw e
      obtain ⟨v,h1,g1,e⟩ := actK_inv hc hv e hE
      have e := castD_inv e
      have hE1 := Kn.hold_putK hE i.dst v
      obtain ⟨e,g2⟩ := reK_inv hE1 e
      obtain ⟨t',E',h',q1,q2,q3,q4⟩ := evIK_inv hc hv e hE1
      refine ⟨t',E',h',fun Q q => ?_,q2,fun j hj => ?_,q4⟩
      · simp only [wpI,hw]
        exact g1 (g2 _ (q1 Q q))
      · simp only [asgI] at hj
        split at hj
        · rename_i d hd
          simp only [List.mem_cons,not_or] at hj
          rw [q3 j hj.2]
          exact asgI_put (fun x hx => by rw [hd] at hx; injection hx with hx; subst hx; exact hj.1)
        · rename_i hd
          rw [q3 j hj]
          exact asgI_put (fun x hx => by rw [hd] at hx; cases hx)
    have no:∀ {E:Kn},E.hold t → wantE t i.guard = some false →
        reK (putK E i.dst (.tup [])) h i.re (evIK A σ rest (putK E i.dst (.tup [])) h k) = some r →
        ∃ t' E' h',(∀ Q:Post,Q .normal t' h' → wpI P Q (i :: rest) t h) ∧ E'.hold t' ∧ (∀ j,j ∉ asgI (i :: rest) → t' j = t j) ∧ k E' h' = some r := by
      intro E hE hw e
      have hE1 := Kn.hold_putK hE i.dst (.tup [])
      obtain ⟨e,g2⟩ := reK_inv hE1 e
      obtain ⟨t',E',h',q1,q2,q3,q4⟩ := evIK_inv hc hv e hE1
      refine ⟨t',E',h',fun Q q => ?_,q2,fun j hj => ?_,q4⟩
      · simp only [wpI,hw]
        exact g2 _ (q1 Q q)
      · simp only [asgI] at hj
        split at hj
        · rename_i d hd
          simp only [List.mem_cons,not_or] at hj
          rw [q3 j hj.2]
          exact asgI_put (fun x hx => by rw [hd] at hx; injection hx with hx; subst hx; exact hj.1)
        · rename_i hd
          rw [q3 j hj]
          exact asgI_put (fun x hx => by rw [hd] at hx; cases hx)
    simp only [evIK] at e
    split at e
    · rename_i hg
      exact yes hE (by rw [hg]; rfl) e
    · rename_i s q hg
      split at e
      · cases e
      · rename_i hs
        split at e
        · rename_i b hb
          have hts:t s = .bool b := by rw [hE s _ (Kn.find_some hs),hb]
          rcases cB_inv e with ⟨rfl,e⟩ | ⟨rfl,e⟩
          · cases q
            · exact no (Kn.hold_set_same hE hts) (by rw [hg]; simp only [wantE,hts]; rfl) e
            · exact yes (Kn.hold_set_same hE hts) (by rw [hg]; simp only [wantE,hts]; rfl) e
          · cases q
            · exact yes (Kn.hold_set_same hE hts) (by rw [hg]; simp only [wantE,hts]; rfl) e
            · exact no (Kn.hold_set_same hE hts) (by rw [hg]; simp only [wantE,hts]; rfl) e
        · rename_i hb
          have hts:t s = .tup [] := by rw [hE s _ (Kn.find_some hs),hb]
          exact no hE (by rw [hg]; simp only [wantE,hts]) e
        · cases e
theorem altK_inv {P:Program} {R:Type} {A:List (Nat × Sh)} {σ : Sig} (hc:CallOk P σ.call) (hv:CvOk P σ.cv) {E:Kn} {h:List Ob} {ds:List Nat} {t t':Nat → V} {h':List Ob} (hE:E.hold t) (out:∀ j,j ∉ ds → t' j = t j) :
    ∀ {ls:List (List EI)} {o:Option R} {r:R},(∀ l,l ∈ ls → ∀ d,d ∈ asgI l → d ∈ ds) → altK A σ E h ds (ds.map t',h') ls o = some r → o = some r ∧ ∀ l,l ∈ ls → ∀ Q:Post,Q .normal t' h' → wpI P Q l t h
  | [],o,r,_,e => ⟨e,fun l hl => by cases hl⟩
  | l :: ls,o,r,hs,e => by
    simp only [altK] at e
    obtain ⟨p,e⟩ := reP_inv e
    obtain ⟨g1,g2⟩ := altK_inv hc hv hE out (fun l hl => hs l (List.mem_cons_of_mem _ hl)) e
    refine ⟨g1,fun l' hl' => ?_⟩
    rcases List.mem_cons.1 hl' with rfl | hl'
    · intro Q q
      obtain ⟨t2,E2,h2,q1,q2,q3,q4⟩ := evIK_inv hc hv p hE
      split at q4
      · rename_i hk
        injection q4 with q4; injection q4 with q4 q5; subst q5
        refine q1 Q ?_
        have:t2 = t' := by
          funext j
          by_cases hj:j ∈ ds
          · have h1:t2 j = E2.tot j := q2 j _ (Kn.find_some (List.all_eq_true.1 hk j hj))
            rw [h1]
            have := List.map_inj_left.1 q4 j hj
            exact this
          · rw [out j hj,q3 j (fun q => hj (hs _ hl' j q))]
        rw [this]; exact q
      · cases q4
    · exact g2 l' hl'
theorem evCK_inv {P:Program} {R:Type} {A:List (Nat × Sh)} {σ : Sig} (hc:CallOk P σ.call) (hv:CvOk P σ.cv):∀ {c:KC} {E:Kn} {h:List Ob} {k:EX → Kn → List Ob → Option R} {r:R},c.ok P σ → evCK A σ c E h k = some r → ∀ {t:Nat → V},E.hold t →
    ∃ x t' E' h',Runs P c.er t h x t' h' ∧ E'.hold t' ∧ (∀ j,j ∉ asgC c.er → t' j = t j) ∧ k x E' h' = some r := by
  intro c
  induction c with
  | skip => intro E h k r ok e t hE; exact ⟨.normal,t,E,h,fun Q q => q,hE,fun _ _ => rfl,e⟩
  | reg l =>
    intro E h k r ok e t hE
    simp only [evCK] at e
    obtain ⟨t',E',h',q1,q2,q3,q4⟩ := evIK_inv hc hv e hE
    exact ⟨.normal,t',E',h',q1,q2,q3,q4⟩
  | seq a b iha ihb =>
    intro E h k r ok e t hE
    simp only [evCK] at e
    obtain ⟨x,t1,E1,h1,q1,q2,q3,q4⟩ := iha ok.1 e hE
    cases x with
    | normal =>
      obtain ⟨x,t2,E2,h2,p1,p2,p3,p4⟩ := ihb ok.2 q4 q2
      refine ⟨x,t2,E2,h2,q1.seq p1,p2,fun j hj => ?_,p4⟩
      simp only [KC.er,asgC,List.mem_append,not_or] at hj
      rw [p3 j hj.2,q3 j hj.1]
    | exit j => exact ⟨_,t1,E1,h1,q1.stop (by simp),q2,fun j hj => q3 j (fun q => hj (by simp [KC.er,asgC,q])),q4⟩
    | ret => exact ⟨_,t1,E1,h1,q1.stop (by simp),q2,fun j hj => q3 j (fun q => hj (by simp [KC.er,asgC,q])),q4⟩
  | cond c a b iha ihb =>
    intro E h k r ok e t hE
    have ya:∀ {E:Kn},E.hold t → c.get t = .bool true → evCK A σ a E h k = some r → ∃ x t' E' h',Runs P (KC.cond c a b).er t h x t' h' ∧ E'.hold t' ∧ (∀ j,j ∉ asgC (KC.cond c a b).er → t' j = t j) ∧ k x E' h' = some r := by
      intro E hE hb e
      obtain ⟨x,t1,E1,h1,q1,q2,q3,q4⟩ := iha ok.1 e hE
      refine ⟨x,t1,E1,h1,fun Q q => ?_,q2,fun j hj => q3 j (fun q => hj (by simp [KC.er,asgC,q])),q4⟩
      simp only [KC.er,wpC,hb]
      exact q1 Q q
    have yb:∀ {E:Kn},E.hold t → c.get t = .bool false → evCK A σ b E h k = some r → ∃ x t' E' h',Runs P (KC.cond c a b).er t h x t' h' ∧ E'.hold t' ∧ (∀ j,j ∉ asgC (KC.cond c a b).er → t' j = t j) ∧ k x E' h' = some r := by
      intro E hE hb e
      obtain ⟨x,t1,E1,h1,q1,q2,q3,q4⟩ := ihb ok.2 e hE
      refine ⟨x,t1,E1,h1,fun Q q => ?_,q2,fun j hj => q3 j (fun q => hj (by simp [KC.er,asgC,q])),q4⟩
      simp only [KC.er,wpC,hb]
      exact q1 Q q
    simp only [evCK,condK] at e
    split at e
    · rename_i s
      split at e
      · rename_i hs
        split at e
        · rename_i q hq
          have hts:t s = .bool q := by rw [hE s _ (Kn.find_some hs),hq]
          rcases cB_inv e with ⟨rfl,e⟩ | ⟨rfl,e⟩
          · exact ya (Kn.hold_set_same hE hts) hts e
          · exact yb (Kn.hold_set_same hE hts) hts e
        · cases e
      · cases e
    · split at e
      · exact ya hE rfl e
      · exact yb hE rfl e
      · cases e
  | block id a iha =>
    intro E h k r ok e t hE
    simp only [evCK] at e
    obtain ⟨x,t1,E1,h1,q1,q2,q3,q4⟩ := iha ok e hE
    exact ⟨_,t1,E1,h1,q1.block,q2,q3,q4⟩
  | exit id => intro E h k r ok e t hE; exact ⟨.exit id,t,E,h,fun Q q => q,hE,fun _ _ => rfl,e⟩
  | ret => intro E h k r ok e t hE; exact ⟨.ret,t,E,h,fun Q q => q,hE,fun _ _ => rfl,e⟩
  | draw ls =>
    intro E h k r ok e t hE
    simp only [evCK] at e
    split at e
    · cases e
    · rename_i l rest
      obtain ⟨t',E',h',q1,q2,q3,q4⟩ := evIK_inv hc hv e hE
      split at q4
      · rename_i hk hs
        have hm:(asgI l).map E'.tot = (asgI l).map t' := List.map_congr_left fun d hd => (q2 d _ (Kn.find_some (List.all_eq_true.1 hk d hd))).symm
        rw [hm] at q4
        obtain ⟨g1,g2⟩ := altK_inv hc hv hE q3 (fun l' hl' d hd => by
          have := List.all_eq_true.1 (List.all_eq_true.1 hs l' hl') d hd
          rw [List.any_eq_true] at this
          obtain ⟨x,x1,x2⟩ := this
          rw [beqT] at x2; subst x2; exact x1) q4
        refine ⟨.normal,t',E',h',fun Q q => ?_,q2,fun j hj => q3 j (fun q => hj ?_),g1⟩
        · simp only [KC.er,wpC]
          intro l' hl'
          rcases List.mem_cons.1 hl' with rfl | hl'
          · exact q1 Q q
          · exact g2 l' hl' Q q
        · simp only [KC.er,asgC,List.mem_flatMap]
          exact ⟨l,by simp,q⟩
      · cases q4
  | sub i c ins outs =>
    intro E h k r ok e t hE
    simp only [evCK] at e
    split at e
    · rename_i hk
      obtain ⟨x,vs,h1,e1,e⟩ := bind3_inv e
      obtain ⟨ds,shs,g1,e⟩ := pickX_inv e
      have e := castL_inv e
      have hm:ins.map E.tot = ins.map t := List.map_congr_left fun d hd => (hE d _ (Kn.find_some (List.all_eq_true.1 hk d hd))).symm
      rw [hm] at e1
      obtain ⟨t1,ds',q1,q2,q3,q4⟩ := ok t h x vs h1 e1
      rw [g1] at q2; injection q2 with q2; subst q2
      refine ⟨x,t1,_,h1,q1,Kn.hold_puts (fun j v hj => ?_) q3,q4,e⟩
      obtain ⟨z1,z2⟩ := Kn.find_without _ _ _ _ hj
      rw [q4 j z1]
      exact hE j v z2
    · cases e
/-! ### Parts, loops, functions -/
def endK (outs:Outs) (x:EX) (E:Kn) (h:List Ob):SubR := match outOf outs x with
  | some ds => match ds.all fun d => (E.find d).isSome with
    | true => some (x,ds.map E.tot,h)
    | false => none
  | none => none
def endL (ins:List Nat) (shs:List Sh) (outs:Outs) (g:List V → List Ob → SubR) (x:EX) (E:Kn) (h:List Ob):SubR := match x with
  | .normal => match ins.all fun d => (E.find d).isSome with
    | true => castL shs (ins.map E.tot) fun vs => g vs h
    | false => none
  | .exit j => endK outs (.exit j) E h
  | .ret => endK outs .ret E h
theorem endK_inv {outs:Outs} {x y:EX} {E:Kn} {h h':List Ob} {vs:List V} (e:endK outs x E h = some (y,vs,h')) {t:Nat → V} (hE:E.hold t):∃ ds,y = x ∧ h' = h ∧ outOf outs x = some ds ∧ ds.map t = vs := by
  unfold endK at e
  split at e
  · rename_i ds hds
    split at e
    · rename_i hk
      injection e with e; injection e with e1 e2; injection e2 with e2 e3
      refine ⟨ds,e1.symm,e3.symm,hds,?_⟩
      rw [← e2]
      exact List.map_congr_left fun d hd => hE d _ (Kn.find_some (List.all_eq_true.1 hk d hd))
    · cases e
  · cases e
theorem SubOk.of {P:Program} {A:List (Nat × Sh)} {σ : Sig} {c:KC} {ins:List Nat} {outs:Outs} {f:List V → List Ob → SubR} (hc:CallOk P σ.call) (hv:CvOk P σ.cv) (ok:c.ok P σ)
    (e:∀ vs h r,f vs h = some r → evCK A σ c (ins.zip vs) h (endK outs) = some r):SubOk P c.er ins outs f := by
  intro t h x vs h' q
  obtain ⟨y,t',E',h1,q1,q2,q3,q4⟩ := evCK_inv hc hv ok (e _ _ _ q) (Kn.hold_zip ins)
  obtain ⟨ds,rfl,rfl,g1,g2⟩ := endK_inv q4 q2
  exact ⟨t',ds,q1,g1,g2,q3⟩
theorem SubOk.loop {P:Program} {A:List (Nat × Sh)} {σ : Sig} {c:KC} {ins:List Nat} {shs:List Sh} {outs:Outs} {G:Nat → List V → List Ob → SubR} (hc:CallOk P σ.call) (hv:CvOk P σ.cv) (ok:c.ok P σ)
    (h0:∀ vs h r,G 0 vs h = some r → False) (e:∀ n vs h r,G (n + 1) vs h = some r → evCK A σ c (ins.zip vs) h (endL ins shs outs (G n)) = some r):∀ n,SubOk P (.loop c.er) ins outs (G n)
  | 0 => fun t h x vs h' q => (h0 _ _ _ q).elim
  | n + 1 => by
    intro t h x vs h' q
    obtain ⟨y,t',E',h1,q1,q2,q3,q4⟩ := evCK_inv hc hv ok (e _ _ _ _ q) (Kn.hold_zip ins)
    cases y with
    | normal =>
      simp only [endL] at q4
      split at q4
      · rename_i hk
        have q4 := castL_inv q4
        have hm:ins.map E'.tot = ins.map t' := List.map_congr_left fun d hd => (q2 d _ (Kn.find_some (List.all_eq_true.1 hk d hd))).symm
        rw [hm] at q4
        obtain ⟨t2,ds,p1,p2,p3,p4⟩ := SubOk.loop hc hv ok h0 e n t' h1 x vs h' q4
        exact ⟨t2,ds,q1.round p1,p2,p3,fun j hj => by rw [p4 j hj]; exact q3 j hj⟩
      · cases q4
    | exit j =>
      obtain ⟨ds,rfl,rfl,g1,g2⟩ := endK_inv q4 q2
      exact ⟨t',ds,q1.last (by simp),g1,g2,q3⟩
    | ret =>
      obtain ⟨ds,rfl,rfl,g1,g2⟩ := endK_inv q4 q2
      exact ⟨t',ds,q1.last (by simp),g1,g2,q3⟩
def resK1 (E:Kn) (h:List Ob):ERs → Option V
  | .t i => E.find i
  | .l1 i => match (E.find i).isSome with
    | true => evLoad1 h (E.tot i)
    | false => none
  | .ln n i => match (E.find i).isSome with
    | true => evLoadN h n (E.tot i)
    | false => none
def resLK {R:Type} (E:Kn) (h:List Ob):List ERs → (List V → Option R) → Option R
  | [],k => k []
  | r :: rs,k => bind1 (resK1 E h r) fun v => resLK E h rs fun vs => k (v :: vs)
def tupV:List V → V
  | [v] => v
  | vs => .tup vs
def endF (rs:List ERs) (x:EX) (E:Kn) (h:List Ob):Option (V × List Ob) := match x with
  | .normal => resLK E h rs fun vs => some (tupV vs,h)
  | .ret => resLK E h rs fun vs => some (tupV vs,h)
  | .exit _ => none
theorem resLK_inv {R:Type} {E:Kn} {h:List Ob} {t:Nat → V} (hE:E.hold t):∀ {rs:List ERs} {k:List V → Option R} {r:R},resLK E h rs k = some r → ∃ vs,mapAll (ERs.ev t h) rs = some vs ∧ k vs = some r
  | [],k,r,e => ⟨[],rfl,e⟩
  | a :: rs,k,r,e => by
    simp only [resLK] at e
    obtain ⟨v,e1,e⟩ := bind1_inv e
    obtain ⟨vs,g1,g2⟩ := resLK_inv hE e
    refine ⟨v :: vs,?_,g2⟩
    have:ERs.ev t h a = some v := by
      cases a with
      | t i => simp only [resK1] at e1; simp only [ERs.ev]; rw [hE i v e1]
      | l1 i =>
        simp only [resK1] at e1
        split at e1
        · rename_i q; simp only [ERs.ev]; rw [hE i _ (Kn.find_some q)]; exact e1
        · cases e1
      | ln n i =>
        simp only [resK1] at e1
        split at e1
        · rename_i q; simp only [ERs.ev]; rw [hE i _ (Kn.find_some q)]; exact e1
        · cases e1
    simp only [mapAll,this,g1]
def entryK (args:List V):Kn := (List.range args.length).zip args
theorem entry_hold (args:List V):(entryK args).hold (env0 args) := by
  have:entryK args = (List.range args.length).zip ((List.range args.length).map (env0 args)) := by
    unfold entryK
    congr 1
    apply List.ext_getElem
    · simp
    · intro i h1 h2
      simp [env0,List.getElem?_eq_getElem h1]
  rw [this]
  exact Kn.hold_zip _
theorem CD.ofK {P:Program} {f:FuncId} {fn:Func} {e:EFn} {A:List (Nat × Sh)} {σ : Sig} {c:KC} {args:List V} {h h':List Ob} {v:V} (hf:P.funcs[f]? = some fn) (hcf:compF P fn = some e) (hen:entersB P f = true) (hn:args.length ≤ e.n)
    (hcode:c.er = e.code) (hc:CallOk P σ.call) (hv:CvOk P σ.cv) (ok:c.ok P σ) (q:evCK A σ c (entryK args) h (endF e.res) = some (v,h')):CD P f args h v h' := by
  obtain ⟨x,t',E',h1,q1,q2,q3,q4⟩ := evCK_inv hc hv ok q (entry_hold args)
  have fin:∀ y,(y = .normal ∨ y = .ret) → x = y → (resLK E' h1 e.res fun vs => some (tupV vs,h1)) = some (v,h') → CD P f args h v h' := by
    intro y hy hx r
    subst hx
    obtain ⟨vs,g1,g2⟩ := resLK_inv q2 r
    injection g2 with g2; injection g2 with g2 g3; subst g3
    refine CD.of_runs hf hcf hen hn (hcode ▸ q1) hy ?_
    unfold resE
    rw [g1,← g2]
    match vs with
    | [] => rfl
    | [w] => rfl
    | w :: u :: us => rfl
  cases x with
  | normal => exact fin _ (.inl rfl) rfl q4
  | ret => exact fin _ (.inr rfl) rfl q4
  | exit j => cases q4
def callN:CallS := fun _ _ _ => none
def callC (g:FuncId) (w:List V → List Ob → Option (V × List Ob)) (f:CallS):CallS := fun i args h => match Nat.beq i g with
  | true => w args h
  | false => f i args h
def cvN:CallVS := fun _ _ _ => none
def cvC (g:FuncId) (w:List V → List Ob → Option (V × List Ob)) (f:CallVS):CallVS := fun u args h => match u with
  | .fn i caps => match Nat.beq i g with
    | true => w (args ++ caps) h
    | false => f (.fn i caps) args h
  | .bm i caps => match Nat.beq i g with
    | true => w (caps ++ args) h
    | false => f (.bm i caps) args h
  | u => f u args h
theorem callN_ok {P:Program}:CallOk P callN := fun _ _ _ _ _ h => by cases h
theorem cvN_ok {P:Program}:CvOk P cvN := fun _ _ _ _ _ h => by cases h
theorem callC_ok {P:Program} {g:FuncId} {w:List V → List Ob → Option (V × List Ob)} {f:CallS} (hw:∀ args h v h',w args h = some (v,h') → CD P g args h v h') (hf:CallOk P f):CallOk P (callC g w f) := by
  intro i args h v h' e
  simp only [callC] at e
  split at e
  · rename_i q
    rw [beqT] at q; subst q; exact hw _ _ _ _ e
  · exact hf _ _ _ _ _ e
theorem cvC_ok {P:Program} {g:FuncId} {w:List V → List Ob → Option (V × List Ob)} {f:CallVS} (hw:∀ args h v h',w args h = some (v,h') → CD P g args h v h') (hf:CvOk P f):CvOk P (cvC g w f) := by
  intro u args h v h' e
  simp only [cvC] at e
  split at e
  · rename_i i caps
    split at e
    · rename_i q
      rw [beqT] at q; subst q; exact ⟨i,caps,.inl ⟨rfl,hw _ _ _ _ e⟩⟩
    · exact hf _ _ _ _ _ e
  · rename_i i caps
    split at e
    · rename_i q
      rw [beqT] at q; subst q; exact ⟨i,caps,.inr ⟨rfl,hw _ _ _ _ e⟩⟩
    · exact hf _ _ _ _ _ e
  · exact hf _ _ _ _ _ e
end Go.Proofs.YtjpjeilfmjdhcaaDoor.E
/- The layer E, part 37: reasoning about the Lean functions of the code: what a result must be, slices by what they hold, what memory keeps. No condition. -/
namespace Go.Proofs.YtjpjeilfmjdhcaaDoor.E
set_option linter.unusedSimpArgs false
set_option linter.unusedVariables false
/-- It comes to something that is so. -/
def To {R:Type} (o:Option R) (Q:R → Prop):Prop := ∃ r,o = some r ∧ Q r
/-- A call comes to a value and memory that are so. -/
def To2 (o:Option (V × List Ob)) (Q:V → List Ob → Prop):Prop := ∃ v h,o = some (v,h) ∧ Q v h
def To3 (o:SubR) (Q:EX → List V → List Ob → Prop):Prop := ∃ x vs h,o = some (x,vs,h) ∧ Q x vs h
theorem To.some {R:Type} {r:R} {Q:R → Prop} (h:Q r):To (some r) Q := ⟨r,rfl,h⟩
theorem To2.some {v:V} {h:List Ob} {Q:V → List Ob → Prop} (q:Q v h):To2 (some (v,h)) Q := ⟨v,h,rfl,q⟩
theorem To3.some {x:EX} {vs:List V} {h:List Ob} {Q:EX → List V → List Ob → Prop} (q:Q x vs h):To3 (some (x,vs,h)) Q := ⟨x,vs,h,rfl,q⟩
theorem To2.to {o:Option (V × List Ob)} {Q:V → List Ob → Prop} (h:To2 o Q):To o fun p => Q p.1 p.2 := by
  obtain ⟨v,h1,e,q⟩ := h; exact ⟨_,e,q⟩
theorem To.mono {R:Type} {o:Option R} {Q Q':R → Prop} (h:To o Q) (g:∀ r,Q r → Q' r):To o Q' := by
  obtain ⟨r,e,q⟩ := h; exact ⟨r,e,g r q⟩
theorem To2.mono {o:Option (V × List Ob)} {Q Q':V → List Ob → Prop} (h:To2 o Q) (g:∀ v h,Q v h → Q' v h):To2 o Q' := by
  obtain ⟨v,h1,e,q⟩ := h; exact ⟨v,h1,e,g _ _ q⟩
theorem To3.mono {o:SubR} {Q Q':EX → List V → List Ob → Prop} (h:To3 o Q) (g:∀ x vs h,Q x vs h → Q' x vs h):To3 o Q' := by
  obtain ⟨x,v,h1,e,q⟩ := h; exact ⟨x,v,h1,e,g _ _ _ q⟩
theorem To.bind2 {R:Type} {o:Option (V × List Ob)} {k:V → List Ob → Option R} {Q:V → List Ob → Prop} {T:R → Prop} (a:To2 o Q) (b:∀ v h,Q v h → To (k v h) T):To (bind2 o k) T := by
  obtain ⟨v,h,e,q⟩ := a; rw [e]; exact b v h q
theorem To.bind3 {R:Type} {o:SubR} {k:EX → List V → List Ob → Option R} {Q:EX → List V → List Ob → Prop} {T:R → Prop} (a:To3 o Q) (b:∀ x v h,Q x v h → To (k x v h) T):To (bind3 o k) T := by
  obtain ⟨x,v,h,e,q⟩ := a; rw [e]; exact b x v h q
theorem To2.bind2 {o:Option (V × List Ob)} {k:V → List Ob → Option (V × List Ob)} {Q T:V → List Ob → Prop} (a:To2 o Q) (b:∀ v h,Q v h → To2 (k v h) T):To2 (bind2 o k) T := by
  obtain ⟨v,h,e,q⟩ := a; rw [e]; exact b v h q
theorem To2.bind3 {o:SubR} {k:EX → List V → List Ob → Option (V × List Ob)} {Q:EX → List V → List Ob → Prop} {T:V → List Ob → Prop} (a:To3 o Q) (b:∀ x v h,Q x v h → To2 (k x v h) T):To2 (bind3 o k) T := by
  obtain ⟨x,v,h,e,q⟩ := a; rw [e]; exact b x v h q
theorem To3.bind2 {o:Option (V × List Ob)} {k:V → List Ob → SubR} {Q:V → List Ob → Prop} {T:EX → List V → List Ob → Prop} (a:To2 o Q) (b:∀ v h,Q v h → To3 (k v h) T):To3 (bind2 o k) T := by
  obtain ⟨v,h,e,q⟩ := a; rw [e]; exact b v h q
theorem To3.bind3 {o:SubR} {k:EX → List V → List Ob → SubR} {Q T:EX → List V → List Ob → Prop} (a:To3 o Q) (b:∀ x v h,Q x v h → To3 (k x v h) T):To3 (bind3 o k) T := by
  obtain ⟨x,v,h,e,q⟩ := a; rw [e]; exact b x v h q
@[simp] theorem bind1_some {α R:Type} (v : α) (k : α → Option R):bind1 (some v) k = k v := rfl
@[simp] theorem bind2_some {R:Type} (v:V) (h:List Ob) (k:V → List Ob → Option R):bind2 (some (v,h)) k = k v h := rfl
@[simp] theorem bind3_some {R:Type} (x:EX) (v:List V) (h:List Ob) (k:EX → List V → List Ob → Option R):bind3 (some (x,v,h)) k = k x v h := rfl
@[simp] theorem castInt_int {R:Type} (k:IntKind) (n:Int) (f:Int → Option R):castInt k (.int k n) f = f n := by simp [castInt,cB]
@[simp] theorem castBool_bool {R:Type} (b:Bool) (f:Bool → Option R):castBool (.bool b) f = f b := rfl
@[simp] theorem castStr_str {R:Type} (l:List UInt8) (f:List UInt8 → Option R):castStr (.str l) f = f l := rfl
@[simp] theorem castAgg_agg {R:Type} (l:List V) (f:List V → Option R):castAgg (.agg l) f = f l := rfl
@[simp] theorem castTup_tup {R:Type} (l:List V) (f:List V → Option R):castTup (.tup l) f = f l := rfl
@[simp] theorem castCons_cons {R:Type} (v:V) (l:List V) (f:V → List V → Option R):castCons (v :: l) f = f v l := rfl
@[simp] theorem castNil_nil {R:Type} (r:Option R):castNil [] r = r := rfl
@[simp] theorem cB_true {R:Type} (x y:Option R):cB true x y = x := rfl
@[simp] theorem cB_false {R:Type} (x y:Option R):cB false x y = y := rfl
/-! ### Slices by what they hold -/
def idsOf:V → List Nat
  | .hsl id _ _ => [id]
  | _ => []
/-- The slice 'v' holds 'es', each of so many cells. -/
structure Sl (sz:Nat) (h:List Ob) (v:V) (es:List V):Prop where
  c:conts h sz v = some es
  ns:∀ l,v ≠ .str l
/-- It may be appended to. -/
def Ap (v:V):Prop := v = .nils ∨ v = .esl ∨ ∃ id off len,v = .hsl id off len
/-- Memory, but for these rows, is as it was. -/
structure Kp (h h':List Ob) (ids:List Nat):Prop where
  len:h.length ≤ h'.length
  same:∀ j,j < h.length → j ∉ ids → h'[j]? = h[j]?
theorem Kp.refl (h:List Ob) (ids:List Nat):Kp h h ids := ⟨Nat.le_refl _,fun _ _ _ => rfl⟩
theorem Kp.mono {h h':List Ob} {A B:List Nat} (k:Kp h h' A) (s:∀ j,j ∈ A → j < h.length → j ∈ B):Kp h h' B := ⟨k.len,fun j hj hn => k.same j hj (fun q => hn (s j q hj))⟩
theorem Kp.trans {h h1 h2:List Ob} {A B C:List Nat} (k:Kp h h1 A) (l:Kp h1 h2 B) (sa:∀ j,j ∈ A → j < h.length → j ∈ C) (sb:∀ j,j ∈ B → j < h.length → j ∈ C):Kp h h2 C :=
  ⟨Nat.le_trans k.len l.len,fun j hj hn => (l.same j (Nat.lt_of_lt_of_le hj k.len) (fun q => hn (sb j q hj))).trans (k.same j hj (fun q => hn (sa j q hj)))⟩
theorem Sl.lt {sz:Nat} {h:List Ob} {v:V} {es:List V} (s:Sl sz h v es) {id:Nat} (hi:id ∈ idsOf v):id < h.length := by
  cases v <;> simp only [idsOf,List.not_mem_nil,List.mem_cons,or_false] at hi
  subst hi
  have := s.c
  simp only [conts] at this
  split at this
  · rename_i e
    exact (List.getElem?_eq_some_iff.1 e).1
  · cases this
theorem Sl.keep {sz:Nat} {h h':List Ob} {v:V} {es:List V} {A:List Nat} (s:Sl sz h v es) (k:Kp h h' A) (d:∀ id,id ∈ idsOf v → id ∉ A):Sl sz h' v es := by
  refine ⟨?_,s.ns⟩
  have c := s.c
  cases v <;> first | exact c | skip
  rename_i id off len
  have hl := s.lt (id := id) (by simp [idsOf])
  simp only [conts] at c ⊢
  rw [k.same id hl (d id (by simp [idsOf]))]
  exact c
theorem Sl.len {sz:Nat} {h:List Ob} {v:V} {es:List V} (s:Sl sz h v es):evLenL h v = some es.length := len_of s.c s.ns
theorem Sl.nils (sz:Nat) (h:List Ob):Sl sz h .nils [] := ⟨rfl,fun l q => by cases q⟩
theorem Sl.esl (sz:Nat) (h:List Ob):Sl sz h .esl [] := ⟨rfl,fun l q => by cases q⟩
theorem Sl.sl {sz:Nat} {h:List Ob} {es:List V} (hs:headOk sz es = true):Sl sz h (.sl es) es := ⟨by simp [conts,hs],fun l q => by cases q⟩
theorem Ap.nils:Ap .nils := .inl rfl
theorem Ap.hsl (id off len:Nat):Ap (.hsl id off len) := .inr (.inr ⟨id,off,len,rfl⟩)
theorem Ap.ns {v:V} (a:Ap v):∀ l,v ≠ .str l := by
  rcases a with rfl | rfl | ⟨a,b,c,rfl⟩ <;> simp
theorem er_lenL {sz:Nat} {h:List Ob} {v:V} {es:List V} (s:Sl sz h v es):er (.lenL (.c v)) h = some (.int .i64 es.length) := by
  simp [er,ev,evOq,x_lenL,EO.get,s.len]
/-- Reading at a place. -/
theorem Sl.at1 {h:List Ob} {v:V} {es:List V} (s:Sl 1 h v es) {k:Int} {e:V} (hk:0 ≤ k) (he:es[k.toNat]? = some e) (hc:e.cells = [e]) :
    ∃ a,er (.iaddrL 1 (.c v) (.c (.int .i64 k))) h = some a ∧ er (.load1 (.c a)) h = some e := by
  obtain ⟨a,h1,h2⟩ := read_at s.c s.ns he hc
  have hk2:((k.toNat:Nat):Int) = k := Int.toNat_of_nonneg hk
  rw [hk2] at h1
  exact ⟨a,by simp [er,ev,evOq,x_iaddrL,EO.get,h1],by simp [er,ev,evOq,x_load1,EO.get,h2]⟩
theorem Sl.hslNew {sz:Nat} (h:List Ob) (es:List V):Sl sz (h ++ [.row es sz]) (.hsl h.length 0 es.length) es :=
  ⟨by simp [conts],fun l q => by cases q⟩
/-- Appending. -/
theorem app_to {sz bytes:Nat} {h:List Ob} {b y:V} {es fs:List V} (sb:Sl sz h b es) (a:Ap b) (hy:conts h sz y = some fs) (hr:(es.length + fs.length) * bytes ≤ roomMax) :
    To2 (ev (.app sz bytes (.c b) (.c y)) h) fun v h' => Sl sz h' v (es ++ fs) ∧ Ap v ∧ Kp h h' (idsOf b) ∧ (∀ j,j ∈ idsOf v → j ∈ idsOf b ∨ h.length ≤ j) := by
  have new:∀ (h0:List Ob),h0.length = h.length → (∀ j,j < h.length → j ∉ idsOf b → h0[j]? = h[j]?) → ∀ gs:List V,gs = es ++ fs →
      To2 (some (V.hsl h.length 0 gs.length,h0 ++ [Ob.row gs sz])) fun v h' => Sl sz h' v (es ++ fs) ∧ Ap v ∧ Kp h h' (idsOf b) ∧ (∀ j,j ∈ idsOf v → j ∈ idsOf b ∨ h.length ≤ j) := by
    intro h0 hl hk gs hg
    subst hg
    refine To2.some ⟨?_,Ap.hsl _ _ _,⟨?_,?_⟩,?_⟩
    · have := Sl.hslNew (sz := sz) h0 (es ++ fs)
      rwa [hl] at this
    · simp [hl]
    · intro j hj hn
      rw [List.getElem?_append_left (by omega)]
      exact hk j hj hn
    · intro j hj
      simp only [idsOf,List.mem_cons,List.not_mem_nil,or_false] at hj
      subst hj; exact .inr (Nat.le_refl _)
  have e0:ev (.app sz bytes (.c b) (.c y)) h = evApp h sz bytes b fs := by
    simp only [ev,evOq,x_app,EO.get,contsW_of hy,Option.bind_some]
  rw [e0]
  rcases a with rfl | rfl | ⟨id,off,len,rfl⟩
  · have:es = [] := by have := sb.c; simp [conts] at this; exact this
    subst this
    simp only [evApp]
    split
    · rename_i h0
      have:fs = [] := List.eq_nil_of_length_eq_zero h0
      subst this
      exact To2.some ⟨Sl.nils _ _,.inl rfl,Kp.refl _ _,fun j hj => by cases hj⟩
    · rw [if_pos (by simpa using hr)]
      exact new h rfl (fun _ _ _ => rfl) fs rfl
  · have:es = [] := by have := sb.c; simp [conts] at this; exact this
    subst this
    simp only [evApp]
    split
    · rename_i h0
      have:fs = [] := List.eq_nil_of_length_eq_zero h0
      subst this
      exact To2.some ⟨Sl.esl _ _,.inr (.inl rfl),Kp.refl _ _,fun j hj => by cases hj⟩
    · rw [if_pos (by simpa using hr)]
      exact new h rfl (fun _ _ _ => rfl) fs rfl
  · have c := sb.c
    simp only [conts] at c
    split at c
    · rename_i ds s hob
      split at c
      · rename_i hh
        obtain ⟨rfl,hin⟩ := hh
        injection c with c
        have hlen:es.length = len := by rw [← c]; simp only [List.length_take,List.length_drop]; omega
        simp only [evApp,hob]
        rw [if_pos ⟨trivial,hin,by rw [← hlen]; exact hr⟩,c]
        have := new (h.set id (oldOb off len ds s h.length)) (by simp) (fun j hj hn => by
          rw [List.getElem?_set_ne (by intro q; subst q; exact hn (by simp [idsOf]))]) (es ++ fs) rfl
        rw [show len + fs.length = (es ++ fs).length by simp [hlen]]
        exact this
      · cases c
    · cases c
/-- A slice that is written out. -/
theorem bslice_to {sz len:Nat} {z:V} {ps:List (Nat × V)} {h:List Ob} {es:List V} (h1:len * sz ≤ 16777216) (h2:ps.all (fun p => decide (p.1 < len) && plainV sz p.2) = true) (h3:setAll (List.replicate len z) ps = es) (h4:es.length = len) :
    To2 (ev (.bslice sz z len (ps.map fun p => (p.1,.c p.2))) h) fun v h' => v = .hsl h.length 0 len ∧ h' = h ++ [.row es sz] ∧ Sl sz h' v es ∧ Ap v ∧ Kp h h' [] ∧ (∀ j,j ∈ idsOf v → h.length ≤ j) := by
  have:ev (.bslice sz z len (ps.map fun p => (p.1,.c p.2))) h = some (.hsl h.length 0 len,h ++ [.row es sz]) := by
    simp only [ev,evOq,x_bslice,List.map_map,evBslice']
    have e:(ps.map ((fun p:Nat × EO => (p.1,EO.get (fun _ => V.junk) p.2)) ∘ fun p:Nat × V => (p.1,EO.c p.2))) = ps := by
      conv => rhs; rw [← List.map_id ps]
      rfl
    rw [e,if_pos ⟨h1,h2⟩,h3]
  rw [this]
  refine To2.some ⟨rfl,rfl,?_,Ap.hsl _ _ _,⟨by simp,fun j hj _ => by rw [List.getElem?_append_left hj]⟩,fun j hj => by simp [idsOf] at hj; omega⟩
  rw [← h4]; exact Sl.hslNew h es
/-! ### Bytes -/
def bv (ms:List Int):List V := ms.map (V.int .u8)
@[simp] theorem bv_length (ms:List Int):(bv ms).length = ms.length := by simp [bv]
def by8 (ms:List Int):List UInt8 := ms.map fun n => UInt8.ofNat n.toNat
theorem bytesOf_bv:∀ ms:List Int,mapAll byteOf (bv ms) = some (by8 ms)
  | [] => rfl
  | m :: ms => by
    have := bytesOf_bv ms
    simp only [bv] at this
    simp only [bv,List.map_cons,mapAll,this]; rfl
theorem er_toStr {h:List Ob} {v:V} {ms:List Int} (s:Sl 1 h v (bv ms)):er (.toStr (.c v)) h = some (.str (by8 ms)) := by
  have:evToStr h v = some (.str (by8 ms)) := by
    unfold evToStr
    split
    · rename_i l; exact absurd rfl (s.ns l)
    · rw [s.c]; simp [bytesOf_bv]
  simp [er,ev,evOq,x_toStr,EO.get,this]
/-! ### Numbers -/
theorem wrap_u64 (n:Int):IntKind.u64.wrap n = n % 18446744073709551616 := by simp [IntKind.wrap,IntKind.signed,IntKind.bits]
/-! ### New slices -/
/-- A new slice. -/
abbrev New (h:List Ob) (es:List V) (v:V) (h':List Ob):Prop := Sl 1 h' v es ∧ Ap v ∧ Kp h h' [] ∧ (∀ j,j ∈ idsOf v → h.length ≤ j)
abbrev Beh (b:V) (h:List Ob) (es:List V) (v:V) (h':List Ob):Prop := Sl 1 h' v es ∧ Ap v ∧ Kp h h' (idsOf b) ∧ (∀ j,j ∈ idsOf v → j ∈ idsOf b ∨ h.length ≤ j)
theorem New.beh {h h1 h2:List Ob} {a b:V} {es fs:List V} (n:New h es a h1) (q:Beh a h1 fs b h2):New h fs b h2 := by
  obtain ⟨s1,a1,k1,f1⟩ := n
  obtain ⟨s2,a2,k2,f2⟩ := q
  refine ⟨s2,a2,k1.trans k2 (fun j hj => by cases hj) (fun j hj hlt => by have := f1 j hj; omega),fun j hj => ?_⟩
  rcases f2 j hj with q | q
  · exact f1 j q
  · have := k1.len; omega
theorem New.keep {h h1 h2:List Ob} {v:V} {es:List V} (n:New h es v h1) (k:Kp h1 h2 []):New h es v h2 :=
  ⟨n.1.keep k (fun _ _ q => by cases q),n.2.1,n.2.2.1.trans k (fun j hj => by cases hj) (fun j hj => by cases hj),n.2.2.2⟩
theorem New.after {h0 h h':List Ob} {v:V} {es:List V} (k:Kp h0 h []) (n:New h es v h'):New h0 es v h' :=
  ⟨n.1,n.2.1,k.trans n.2.2.1 (fun j hj => by cases hj) (fun j hj => by cases hj),fun j hj => Nat.le_trans k.len (n.2.2.2 j hj)⟩
theorem Kp.tr {h h1 h2:List Ob} (k:Kp h h1 []) (l:Kp h1 h2 []):Kp h h2 [] := k.trans l (fun j hj => by cases hj) (fun j hj => by cases hj)
theorem Sl.kp {sz:Nat} {h h':List Ob} {v:V} {es:List V} (s:Sl sz h v es) (k:Kp h h' []):Sl sz h' v es := s.keep k (fun _ _ q => by cases q)
theorem Beh.new {h h':List Ob} {es:List V} {v:V} (q:Beh .nils h es v h'):New h es v h' :=
  ⟨q.1,q.2.1,q.2.2.1,fun j hj => (q.2.2.2 j hj).elim (fun z => by cases z) id⟩
theorem Sl.plain {h:List Ob} {v:V} {es:List V} (s:Sl 1 h v es):plainV 1 v = true := by
  cases v <;> first | rfl | (have := s.c; simp [conts] at this)
theorem Sl.cells {h:List Ob} {v:V} {es:List V} (s:Sl 1 h v es):v.cells = [v] := by
  cases v <;> first | rfl | (have := s.c; simp [conts] at this)
/-! ### Parts of slices -/
theorem getC (t:Nat → V) (v:V):(EO.c v).get t = v := rfl
@[simp] theorem by8_length (a:List Int):(by8 a).length = a.length := by simp [by8]
theorem er_addS {h:List Ob} {a b:List UInt8} (hl:a.length + b.length < 9223372036854775808):er (.bin .add (.c (.str a)) (.c (.str b))) h = some (.str (a ++ b)) := by
  simp only [er,ev,evOq,x_bin,getC,evBin,evStr]
  rw [if_pos hl]; rfl
end Go.Proofs.YtjpjeilfmjdhcaaDoor.E
/- The layer E, part 38: bytes, numbers among a claim's data, as the functions take them. No condition. -/
namespace Go.Proofs.YtjpjeilfmjdhcaaDoor.E
set_option linter.unusedSimpArgs false
set_option linter.unusedVariables false
variable {H:Type}
theorem dV_i64 {P:Program} {d:DataW H} {t:TypeId} {vs:List V} (hu:P.underlying t = some (.int .i64)) (h:dV P d t = some vs):∃ n,vs = [.int .i64 n] ∧ -9223372036854775808 ≤ n ∧ n < 9223372036854775808 := by
  obtain ⟨n,rfl,l1,l2⟩ := dV_int' hu h
  refine ⟨n,rfl,?_⟩
  exact ⟨l1,Int.lt_of_le_of_lt l2 (by decide)⟩
end Go.Proofs.YtjpjeilfmjdhcaaDoor.E
/- The layer E, part 39: structs that are pointed to, slices of structs. No condition. -/
namespace Go.Proofs.YtjpjeilfmjdhcaaDoor.E
set_option linter.unusedSimpArgs false
set_option linter.unusedVariables false
/-- A struct lies there. -/
def St (h:List Ob) (id:Nat) (cs:List V):Prop := h[id]? = some (.row [.agg cs] cs.length)
theorem St.lt {h:List Ob} {id:Nat} {cs:List V} (s:St h id cs):id < h.length := (List.getElem?_eq_some_iff.1 s).1
theorem St.alive {h:List Ob} {id:Nat} {cs:List V} (s:St h id cs):aliveB h id = true := by
  unfold St at s
  simp [aliveB,s]
theorem St.keep {h h':List Ob} {id:Nat} {cs:List V} {A:List Nat} (s:St h id cs) (k:Kp h h' A) (hn:id ∉ A):St h' id cs := by
  unfold St
  rw [k.same id s.lt hn]; exact s
theorem St.kp {h h':List Ob} {id:Nat} {cs:List V} (s:St h id cs) (k:Kp h h' []):St h' id cs := s.keep k (fun q => by cases q)
theorem St.nilck {h:List Ob} {id:Nat} {cs:List V} (s:St h id cs) (i j:Nat):er (.nilck (.c (.ptr id i j))) h = some (.ptr id i j) := by
  simp [er,ev,evOq,x_nilck,getC,evNilck,s.alive]
theorem St.faddr {h:List Ob} {id:Nat} {cs:List V} (s:St h id cs) (off i j:Nat):er (.faddr off (.c (.ptr id i j))) h = some (.ptr id i (j + off)) := by
  simp [er,ev,evOq,x_faddr,getC,s.alive]
theorem St.load1 {h:List Ob} {id:Nat} {cs:List V} (s:St h id cs) {j:Nat} {c:V} (hj:cs[j]? = some c):er (.load1 (.c (.ptr id 0 j))) h = some c := by
  unfold St at s
  have hlt:j < cs.length := (List.getElem?_eq_some_iff.1 hj).1
  have e:(List.drop j cs).take 1 = [c] := by
    rw [List.drop_eq_getElem_cons hlt]
    have := (List.getElem?_eq_some_iff.1 hj).2
    simp [this]
  simp only [er,ev,evOq,x_load1,getC,evLoad1,rdCells,s,List.getElem?_cons_zero,Option.map_some,V.cells]
  rw [if_pos (by omega),e]
  rfl
theorem St.loadN {h:List Ob} {id:Nat} {cs:List V} (s:St h id cs):evLoadN h cs.length (.ptr id 0 0) = some (.agg cs) := by
  unfold St at s
  simp only [evLoadN,rdCells,s,List.getElem?_cons_zero,Option.map_some,V.cells]
  rw [if_pos (by omega)]
  simp
theorem St.loadN' {h:List Ob} {id n:Nat} {cs:List V} (s:St h id cs) (hn:cs.length = n):er (.loadN n (.c (.ptr id 0 0))) h = some (.agg cs) := by
  subst hn
  simp [er,ev,evOq,x_loadN,getC,s.loadN]
theorem set_at:∀ (cs:List V) (j:Nat) (x:V),j < cs.length → cs.take j ++ [x] ++ cs.drop (j + 1) = cs.set j x
  | c :: cs,0,x,_ => by simp
  | c :: cs,j + 1,x,h => by
    have := set_at cs j x (by simpa using h)
    simpa using this
theorem St.set {h:List Ob} {id:Nat} {cs ds:List V} (s:St h id cs) (hl:ds.length = cs.length):St (h.set id (.row [.agg ds] cs.length)) id ds := by
  unfold St
  rw [hl]
  exact List.getElem?_set_self s.lt
theorem Kp.set (h:List Ob) (id:Nat) (o:Ob):Kp h (h.set id o) [id] := ⟨by simp,fun j hj hn => by rw [List.getElem?_set_ne (by intro q; subst q; exact hn (by simp))]⟩
theorem St.store1 {h:List Ob} {id:Nat} {cs:List V} (s:St h id cs) {j:Nat} {x:V} (hj:j < cs.length) (hc:x.cells = [x] ∧ x.scalar = true) :
    To2 (ev (.store 1 (.c (.ptr id 0 j)) (.c x)) h) fun _ h' => St h' id (cs.set j x) ∧ Kp h h' [id] := by
  have e:ev (.store 1 (.c (.ptr id 0 j)) (.c x)) h = some (.tup [],h.set id (.row [.agg (cs.set j x)] cs.length)) := by
    have s' := s
    unfold St at s'
    have ew:wrCells h (.ptr id 0 j) [x] = some (h.set id (.row [.agg (cs.set j x)] cs.length)) := by
      simp only [wrCells,s',List.length_cons,List.length_nil,List.getElem?_cons_zero,Option.map_some,putCells,List.set_cons_zero]
      rw [if_pos (by omega),set_at cs j x hj]
    have es:evStore h 1 (.ptr id 0 j) x = some (h.set id (.row [.agg (cs.set j x)] cs.length)) := by
      unfold evStore
      split
      · simp [V.scalar] at hc
      · simp [V.scalar] at hc
      · rw [hc.1,if_pos (by simp [hc.2]),ew]
    simp only [ev,evOq,x_store,getC,es,Option.map_some]
  rw [e]
  exact To2.some ⟨s.set (by simp),Kp.set _ _ _⟩
theorem St.storeN {h:List Ob} {id:Nat} {cs ds:List V} (s:St h id cs) (hl:ds.length = cs.length) (h0:0 < cs.length) (hs:ds.all V.scalar = true) {n:Nat} (hn:cs.length = n) :
    To2 (ev (.store n (.c (.ptr id 0 0)) (.c (.agg ds))) h) fun _ h' => St h' id ds ∧ Kp h h' [id] := by
  subst hn
  have e:ev (.store cs.length (.c (.ptr id 0 0)) (.c (.agg ds))) h = some (.tup [],h.set id (.row [.agg ds] cs.length)) := by
    have s' := s
    unfold St at s'
    have es:evStore h cs.length (.ptr id 0 0) (.agg ds) = some (h.set id (.row [.agg ds] cs.length)) := by
      have q:evStore h cs.length (.ptr id 0 0) (.agg ds) = wrCells h (.ptr id 0 0) ds := if_pos ⟨hl,hs,h0⟩
      rw [q]
      simp only [wrCells,s',List.getElem?_cons_zero,Option.map_some,putCells,List.set_cons_zero]
      rw [if_pos (by omega)]
      simp [hl]
    simp only [ev,evOq,x_store,getC,es,Option.map_some]
  rw [e]
  exact To2.some ⟨s.set hl,Kp.set _ _ _⟩
theorem alloc_to {h:List Ob} {cs:List V} (hs:cs.all V.scalar = true):To2 (ev (.alloc false (.agg cs)) h) fun v h' => v = .ptr h.length 0 0 ∧ St h' h.length cs ∧ Kp h h' [] := by
  have e:ev (.alloc false (.agg cs)) h = some (.ptr h.length 0 0,h ++ [.row [.agg cs] cs.length]) := by
    simp only [ev,evOq,x_alloc,evBox,boxOf,V.cells,hs,if_true]
    rfl
  rw [e]
  exact To2.some ⟨rfl,by simp [St],by simp,fun j hj _ => by rw [List.getElem?_append_left hj]⟩
theorem box_to {h:List Ob} {cs:List V} (hs:cs.all V.scalar = true):To2 (ev (.box false (.c (.agg cs))) h) fun v h' => v = .ptr h.length 0 0 ∧ St h' h.length cs ∧ Kp h h' [] := by
  have e:ev (.box false (.c (.agg cs))) h = some (.ptr h.length 0 0,h ++ [.row [.agg cs] cs.length]) := by
    simp only [ev,evOq,x_box,getC,evBox,boxOf,V.cells,hs,if_true]
    rfl
  rw [e]
  exact To2.some ⟨rfl,by simp [St],by simp,fun j hj _ => by rw [List.getElem?_append_left hj]⟩
theorem Sl.sc {h:List Ob} {v:V} {es:List V} (s:Sl 1 h v es):v.cells = [v] ∧ v.scalar = true := by
  cases v <;> first | exact ⟨rfl,rfl⟩ | (have := s.c; simp [conts] at this)
/-- An element of a slice of structs. -/
theorem Sl.atN {n:Nat} {h:List Ob} {v:V} {es:List V} (s:Sl n h v es) {k:Int} {cs:List V} (hk:0 ≤ k) (he:es[k.toNat]? = some (.agg cs)) (hc:cs.length = n) (h0:0 < n) :
    ∃ a,er (.iaddrL n (.c v) (.c (.int .i64 k))) h = some a ∧ er (.loadN n (.c a)) h = some (.agg cs) := by
  subst hc
  have c := s.c
  cases v with
  | nils => simp [conts] at c; subst c; simp at he
  | esl => simp [conts] at c; subst c; simp at he
  | sl fs =>
    simp only [conts] at c
    split at c
    · injection c with c; subst c
      refine ⟨.ref (.agg cs) 0,?_,?_⟩
      · simp [er,ev,evOq,x_iaddrL,getC,evIaddrL,hk,he,V.cells]
      · simp [er,ev,evOq,x_loadN,getC,evLoadN,rdCells,V.cells]
    · cases c
  | hsl id off len =>
    simp only [conts] at c
    split at c
    · rename_i fs q hob
      split at c
      · rename_i hh
        obtain ⟨rfl,hin⟩ := hh
        injection c with c
        rw [← c,List.getElem?_take] at he
        split at he
        · rename_i hlt
          rw [List.getElem?_drop] at he
          refine ⟨.ptr id (off + k.toNat) 0,?_,?_⟩
          · simp only [er,ev,evOq,x_iaddrL,getC,evIaddrL,hob]
            rw [if_pos ⟨hk,by omega⟩]
            simp
          · simp only [er,ev,evOq,x_loadN,getC,evLoadN,rdCells,hob]
            rw [if_pos (by omega),he]
            simp [V.cells]
        · cases he
      · cases c
    · cases c
  | str l => exact absurd rfl (s.ns l)
  | _ => simp [conts] at c
end Go.Proofs.YtjpjeilfmjdhcaaDoor.E
/- The layer E, part 40: maps from ints to true; copies into slices. No condition. -/
namespace Go.Proofs.YtjpjeilfmjdhcaaDoor.E
set_option linter.unusedSimpArgs false
set_option linter.unusedVariables false
/-- The map 'v' has just these keys, each with true. -/
def Mp (h:List Ob) (v:V) (ks:List Int):Prop := (v = .nilm ∧ ks = []) ∨ ∃ id ents clock,v = .mp id ∧ h[id]? = some (.map ents clock) ∧ ents.map (fun e => (e.1,e.2.1)) = ks.map fun k => (V.int .i64 k,V.bool true)
def idsM:V → List Nat
  | .mp id => [id]
  | _ => []
theorem Mp.lt {h:List Ob} {v:V} {ks:List Int} (s:Mp h v ks) {j:Nat} (hj:j ∈ idsM v):j < h.length := by
  rcases s with ⟨rfl,-⟩ | ⟨id,ents,clock,rfl,q,-⟩
  · cases hj
  · simp [idsM] at hj; subst hj
    exact (List.getElem?_eq_some_iff.1 q).1
theorem Mp.keep {h h':List Ob} {v:V} {ks:List Int} {A:List Nat} (s:Mp h v ks) (k:Kp h h' A) (hn:∀ j,j ∈ idsM v → j ∉ A):Mp h' v ks := by
  have lt := fun j => Mp.lt s (j := j)
  rcases s with ⟨rfl,rfl⟩ | ⟨id,ents,clock,rfl,q,r⟩
  · exact .inl ⟨rfl,rfl⟩
  · refine .inr ⟨id,ents,clock,rfl,?_,r⟩
    rw [k.same id (lt id (by simp [idsM])) (hn id (by simp [idsM]))]; exact q
theorem Mp.kp {h h':List Ob} {v:V} {ks:List Int} (s:Mp h v ks) (k:Kp h h' []):Mp h' v ks := s.keep k (fun j hj q => by cases q)
theorem Mp.sc {h:List Ob} {v:V} {ks:List Int} (s:Mp h v ks):v.cells = [v] ∧ v.scalar = true := by
  rcases s with ⟨rfl,-⟩ | ⟨id,ents,clock,rfl,q,-⟩ <;> exact ⟨rfl,rfl⟩
theorem Mp.len {h:List Ob} {v:V} {ks:List Int} (s:Mp h v ks):er (.lenM (.c v)) h = some (.int .i64 ks.length) := by
  rcases s with ⟨rfl,rfl⟩ | ⟨id,ents,clock,rfl,q,r⟩
  · rfl
  · have := congrArg List.length r
    simp only [List.length_map] at this
    simp [er,ev,evOq,x_lenM,EO.get,evLenM,q,this]
end Go.Proofs.YtjpjeilfmjdhcaaDoor.E
/- The layer E, part 41: copies into a part of a slice; fields of a slice's structs; arrays in a struct. No condition. -/
namespace Go.Proofs.YtjpjeilfmjdhcaaDoor.E
set_option linter.unusedSimpArgs false
set_option linter.unusedVariables false
/-- An element of a slice of structs: its fields. -/
theorem Sl.atF {n:Nat} {h:List Ob} {v:V} {es:List V} (s:Sl n h v es) {k:Int} {cs:List V} (hk:0 ≤ k) (he:es[k.toNat]? = some (.agg cs)) (hc:cs.length = n) (h0:0 < n) (hs:cs.all V.scalar = true) :
    ∃ a,er (.iaddrL n (.c v) (.c (.int .i64 k))) h = some a ∧ ∀ (o:Nat) (x:V),cs[o]? = some x → ∃ b,er (.faddr o (.c a)) h = some b ∧ er (.load1 (.c b)) h = some x := by
  subst hc
  have c := s.c
  have one:∀ (o:Nat) (x:V),cs[o]? = some x → o + 1 ≤ cs.length ∧ (List.drop o cs).take 1 = [x] := by
    intro o x ho
    have hlt := (List.getElem?_eq_some_iff.1 ho).1
    refine ⟨by omega,?_⟩
    rw [List.drop_eq_getElem_cons hlt]
    have := (List.getElem?_eq_some_iff.1 ho).2
    simp [this]
  cases v with
  | nils => simp [conts] at c; subst c; simp at he
  | esl => simp [conts] at c; subst c; simp at he
  | sl fs =>
    simp only [conts] at c
    split at c
    · injection c with c; subst c
      refine ⟨.ref (.agg cs) 0,?_,fun o x ho => ⟨.ref (.agg cs) o,?_,?_⟩⟩
      · simp [er,ev,evOq,x_iaddrL,getC,evIaddrL,hk,he,V.cells]
      · simp [er,ev,evOq,x_faddr,getC]
      · obtain ⟨o1,o2⟩ := one o x ho
        have e:rdCells h 1 (.ref (.agg cs) o) = some [x] := by
          have q:rdCells h 1 (.ref (.agg cs) o) = if o + 1 ≤ cs.length then some ((cs.drop o).take 1) else none := rfl
          rw [q,if_pos o1,o2]
        simp only [er,ev,evOq,x_load1,getC,evLoad1,e]
        rfl
    · cases c
  | hsl id off len =>
    simp only [conts] at c
    split at c
    · rename_i fs q hob
      split at c
      · rename_i hh
        obtain ⟨rfl,hin⟩ := hh
        injection c with c
        rw [← c,List.getElem?_take] at he
        split at he
        · rename_i hlt
          rw [List.getElem?_drop] at he
          refine ⟨.ptr id (off + k.toNat) 0,?_,fun o x ho => ⟨.ptr id (off + k.toNat) o,?_,?_⟩⟩
          · simp only [er,ev,evOq,x_iaddrL,getC,evIaddrL,hob]
            rw [if_pos ⟨hk,by omega⟩]
            simp
          · simp [er,ev,evOq,x_faddr,getC,aliveB,hob]
          · obtain ⟨o1,o2⟩ := one o x ho
            simp only [er,ev,evOq,x_load1,getC,evLoad1,rdCells,hob,he,Option.map_some,V.cells]
            rw [if_pos o1,o2]
            rfl
        · cases he
      · cases c
    · cases c
  | str l => exact absurd rfl (s.ns l)
  | _ => simp [conts] at c
/-- An array that is a part of a struct. -/
theorem St.iaddrA {h:List Ob} {id:Nat} {cs:List V} (s:St h id cs) {n sz:Nat} {k:Nat} (hk:k < n) (hz:cs.length ≠ sz) (j:Nat):er (.iaddrA n sz (.c (.ptr id 0 j)) (.c (.int .i64 (k:Int)))) h = some (.ptr id 0 (j + k * sz)) := by
  unfold St at s
  simp only [er,ev,evOq,x_iaddrA,getC,evIaddrA,s]
  rw [if_pos ⟨by omega,by omega⟩,if_neg (fun q => hz q.1)]
  simp
end Go.Proofs.YtjpjeilfmjdhcaaDoor.E
/- The layer E, part 42: an element of a slice put anew; a variable that was captured. No condition. -/
namespace Go.Proofs.YtjpjeilfmjdhcaaDoor.E
set_option linter.unusedSimpArgs false
set_option linter.unusedVariables false
/-- A variable of its own. -/
def Sc (h:List Ob) (id:Nat) (v:V):Prop := h[id]? = some (.row [v] 1)
theorem Sc.lt {h:List Ob} {id:Nat} {v:V} (s:Sc h id v):id < h.length := (List.getElem?_eq_some_iff.1 s).1
theorem Sc.keep {h h':List Ob} {id:Nat} {v:V} {A:List Nat} (s:Sc h id v) (k:Kp h h' A) (hn:id ∉ A):Sc h' id v := by
  show h'[id]? = _
  rw [k.same id s.lt hn]; exact s
theorem Sc.kp {h h':List Ob} {id:Nat} {v:V} (s:Sc h id v) (k:Kp h h' []):Sc h' id v := s.keep k (fun q => by cases q)
theorem Sc.load1 {h:List Ob} {id:Nat} {v:V} (s:Sc h id v) (hc:v.cells = [v]):er (.load1 (.c (.ptr id 0 0))) h = some v := by
  unfold Sc at s
  simp only [er,ev,evOq,x_load1,getC,evLoad1,rdCells,s,List.getElem?_cons_zero,Option.map_some,hc]
  rw [if_pos (by omega)]
  rfl
theorem boxOf_sc {v:V} (hs:v.scalar = true):boxOf false v = some ([v],1) := by
  cases v <;> first | rfl | (simp [V.scalar] at hs)
theorem scbox_to {h:List Ob} {v:V} (hs:v.scalar = true):To2 (ev (.box false (.c v)) h) fun p h' => p = .ptr h.length 0 0 ∧ Sc h' h.length v ∧ Kp h h' [] := by
  have e:ev (.box false (.c v)) h = some (.ptr h.length 0 0,h ++ [.row [v] 1]) := by
    simp only [ev,evOq,x_box,getC,evBox,boxOf_sc hs,Option.map_some]
  rw [e]
  exact To2.some ⟨rfl,by simp [Sc],by simp,fun j hj _ => by rw [List.getElem?_append_left hj]⟩
end Go.Proofs.YtjpjeilfmjdhcaaDoor.E
/- The layer E, part 43: strings: their bytes, parts, characters one by one. No condition. -/
namespace Go.Proofs.YtjpjeilfmjdhcaaDoor.E
set_option linter.unusedSimpArgs false
set_option linter.unusedVariables false
/-- The character at the beginning of bytes, and how many it has. -/
def dc (t:List UInt8):Nat × Nat := Utf8.decode ⟨t.toArray⟩ 0
def byteAt (t:List UInt8) (k:Nat):Nat := (t[k]?.getD 0).toNat
theorem get_byteAt (t:List UInt8) (k:Nat):((⟨t.toArray⟩:ByteArray).get! k).toNat = byteAt t k := by
  unfold byteAt
  show ((t.toArray)[k]!).toNat = _
  rw [getElem!_def]
  by_cases h:k < t.length
  · simp [h]
  · simp [h]; rfl
theorem dec_eq (t:List UInt8) (i:Nat):Utf8.decode ⟨t.toArray⟩ i =
    (let at' (k:Nat):Nat := byteAt t (i + k)
     let cont (k:Nat):Bool := i + k < t.length && at' k / 64 == 2
     let b0 := at' 0
     if b0 < 0x80 then (b0,1)
     else if b0 / 32 == 6 && cont 1 then
       let c := (b0 % 32) * 64 + at' 1 % 64
       if c ≥ 0x80 then (c,2) else (Utf8.runeError,1)
     else if b0 / 16 == 14 && cont 1 && cont 2 then
       let c := (b0 % 16) * 4096 + (at' 1 % 64) * 64 + at' 2 % 64
       if c ≥ 0x800 && Utf8.valid c then (c,3) else (Utf8.runeError,1)
     else if b0 / 8 == 30 && cont 1 && cont 2 && cont 3 then
       let c := (b0 % 8) * 262144 + (at' 1 % 64) * 4096 + (at' 2 % 64) * 64 + at' 3 % 64
       if c ≥ 0x10000 && Utf8.valid c then (c,4) else (Utf8.runeError,1)
     else (Utf8.runeError,1)) := by
  unfold Utf8.decode
  simp only [get_byteAt]
  rfl
theorem byteAt_drop (t:List UInt8) (i k:Nat):byteAt (t.drop i) k = byteAt t (i + k) := by
  unfold byteAt; rw [List.getElem?_drop]
theorem dec_drop (t:List UInt8) (i:Nat):Utf8.decode ⟨t.toArray⟩ i = dc (t.drop i) := by
  unfold dc
  have c:∀ k,decide (0 + k < (t.drop i).length) = decide (i + k < t.length) := fun k => by
    rw [List.length_drop]; exact decide_eq_decide.2 (by omega)
  rw [dec_eq,dec_eq]
  simp only [byteAt_drop,Nat.zero_add,Nat.add_zero] at c ⊢
  simp only [c]
theorem dc_width (t:List UInt8) (h:t ≠ []):1 ≤ (dc t).2 ∧ (dc t).2 ≤ t.length := by
  have hl:0 < t.length := List.length_pos_iff.2 h
  unfold dc
  rw [dec_eq]
  simp only [Nat.zero_add]
  split
  · exact ⟨Nat.le_refl _,hl⟩
  · split
    · rename_i q
      simp only [Bool.and_eq_true,decide_eq_true_eq] at q
      split
      · exact ⟨by simp only; omega,by simp only; omega⟩
      · exact ⟨Nat.le_refl _,hl⟩
    · split
      · rename_i q
        simp only [Bool.and_eq_true,decide_eq_true_eq] at q
        split
        · exact ⟨by simp only; omega,by simp only; omega⟩
        · exact ⟨Nat.le_refl _,hl⟩
      · split
        · rename_i q
          simp only [Bool.and_eq_true,decide_eq_true_eq] at q
          split
          · exact ⟨by simp only; omega,by simp only; omega⟩
          · exact ⟨Nat.le_refl _,hl⟩
        · exact ⟨Nat.le_refl _,hl⟩
theorem dc_ascii {b:UInt8} {t:List UInt8} (h:b.toNat < 128):dc (b :: t) = (b.toNat,1) := by
  unfold dc
  rw [dec_eq]
  simp only [Nat.zero_add,byteAt,List.getElem?_cons_zero,Option.getD_some]
  rw [if_pos h]
/-- How far a string has been gone along. -/
def Si (h:List Ob) (id:Nat) (s:List UInt8) (pos:Nat):Prop := h[id]? = some (.siter s pos)
theorem Si.lt {h:List Ob} {id:Nat} {s:List UInt8} {pos:Nat} (q:Si h id s pos):id < h.length := (List.getElem?_eq_some_iff.1 q).1
theorem Si.keep {h h':List Ob} {id:Nat} {s:List UInt8} {pos:Nat} {A:List Nat} (q:Si h id s pos) (k:Kp h h' A) (hn:id ∉ A):Si h' id s pos := by
  show h'[id]? = _
  rw [k.same id q.lt hn]; exact q
theorem rangeS_to (h:List Ob) (s:List UInt8):To2 (ev (.rangeS (.c (.str s))) h) fun v h' => v = .ptr h.length 0 0 ∧ Si h' h.length s 0 ∧ Kp h h' [] := by
  have e:ev (.rangeS (.c (.str s))) h = some (.ptr h.length 0 0,h ++ [.siter s 0]) := rfl
  rw [e]
  exact To2.some ⟨rfl,by simp [Si],by simp,fun j hj _ => by rw [List.getElem?_append_left hj]⟩
theorem nextS_to {h:List Ob} {id:Nat} {s:List UInt8} {pos:Nat} (q:Si h id s pos) (hp:pos < s.length):To2 (ev (.nextS (.c (.ptr id 0 0))) h) fun v h' => v = .tup [.bool true,.int .i64 (pos:Int),.int .i32 ((dc (s.drop pos)).1:Int)] ∧ Si h' id s (pos + (dc (s.drop pos)).2) ∧ Kp h h' [id] := by
  have hid := q.lt
  unfold Si at q
  have e:ev (.nextS (.c (.ptr id 0 0))) h = some (.tup [.bool true,.int .i64 (pos:Int),.int .i32 ((dc (s.drop pos)).1:Int)],h.set id (.siter s (pos + (dc (s.drop pos)).2))) := by
    simp only [ev,evOq,x_nextS,getC,evNextS,q,if_pos hp,dec_drop]
  rw [e]
  exact To2.some ⟨rfl,List.getElem?_set_self hid,Kp.set _ _ _⟩
theorem nextS_end {h:List Ob} {id:Nat} {s:List UInt8} {pos:Nat} (q:Si h id s pos) (hp:s.length ≤ pos):ev (.nextS (.c (.ptr id 0 0))) h = some (.tup [.bool false],h) := by
  unfold Si at q
  simp only [ev,evOq,x_nextS,getC,evNextS,q]
  rw [if_neg (by omega)]
theorem er_ext {h:List Ob} {k:Nat} {vs:List V} {v:V} (hv:vs[k]? = some v):er (.ext k (.c (.tup vs))) h = some v := by
  simp [er,ev,evOq,x_ext,getC,evExt,hv]
theorem er_idxS {h:List Ob} {s:List UInt8} {k:Nat} {b:UInt8} (hb:s[k]? = some b):er (.idxS (.c (.str s)) (.c (.int .i64 (k:Int)))) h = some (.int .u8 b.toNat) := by
  simp [er,ev,evOq,x_idxS,getC,evIdxS,hb]
theorem er_slcS_from {h:List Ob} {s:List UInt8} {a:Nat} (h1:a ≤ s.length):er (.slcS (.c (.str s)) (some (.c (.int .i64 (a:Int)))) none) h = some (.str (s.drop a)) := by
  have e:∀ n:Nat,∀ d,bndV (some (V.int .i64 (n:Int))) d = some n := fun n d => by simp only [bndV]; rw [if_pos (by omega),Int.toNat_natCast]
  have e2:∀ d,bndV none d = some d := fun d => rfl
  simp only [er,ev,evOq,x_slcS,getC,evSlcS,Option.map_some,Option.map_none,e,e2]
  rw [if_pos ⟨h1,Nat.le_refl _⟩,List.take_of_length_le (by simp)]
  rfl
theorem er_slcS_to {h:List Ob} {s:List UInt8} {b:Nat} (h2:b ≤ s.length):er (.slcS (.c (.str s)) none (some (.c (.int .i64 (b:Int))))) h = some (.str (s.take b)) := by
  have e:∀ n:Nat,∀ d,bndV (some (V.int .i64 (n:Int))) d = some n := fun n d => by simp only [bndV]; rw [if_pos (by omega),Int.toNat_natCast]
  have e2:∀ d,bndV none d = some d := fun d => rfl
  simp only [er,ev,evOq,x_slcS,getC,evSlcS,Option.map_some,Option.map_none,e,e2]
  rw [if_pos ⟨Nat.zero_le _,h2⟩]
  simp
end Go.Proofs.YtjpjeilfmjdhcaaDoor.E
/- The layer E, part 44: how much a claim's data weigh. No condition. -/
namespace Go.Proofs.YtjpjeilfmjdhcaaDoor.E
set_option linter.unusedSimpArgs false
set_option linter.unusedVariables false
variable {H:Type}
theorem wt_param {P:Program} {ts:List TypeId} {ds:List (DataW H)} (hsz:(DataW.weightsEach P ts ds).all (· ≤ reachBytes) = true) {j:Nat} {t:TypeId} {d:DataW H} (ht:ts[j]? = some t) (hd:ds[j]? = some d):∀ n ∈ d.weights P t,n ≤ reachBytes := fun n hn => by
  have := List.all_eq_true.1 hsz n (DataW.weights_mem_each ht hd n hn)
  simpa using this
theorem str_sized {P:Program} {t:TypeId} {d:DataW H} {s:List UInt8} (hu:P.underlying t = some .string) (h:dV P d t = some [.str s]) (hw:∀ n ∈ d.weights P t,n ≤ reachBytes):s.length ≤ 140737488351232 := by
  cases d <;> simp [dV,hu] at h
  rename_i l
  cases l <;> simp at h
  rename_i b
  obtain ⟨-,rfl⟩ := h
  have := hw b.length (by simp [DataW.weights])
  have hr:reachBytes = 140737488351232 := by decide
  omega
end Go.Proofs.YtjpjeilfmjdhcaaDoor.E
/- The layer E, part 45: copies of any length; what is made; numbers shifted; a string's bytes. No condition. -/
namespace Go.Proofs.YtjpjeilfmjdhcaaDoor.E
set_option linter.unusedSimpArgs false
set_option linter.unusedVariables false
end Go.Proofs.YtjpjeilfmjdhcaaDoor.E
/- The layer E, part 46: a function whose order is open: what it says for each of its orders. No condition. -/
namespace Go.Proofs.YtjpjeilfmjdhcaaDoor.E
set_option linter.unusedSimpArgs false
set_option linter.unusedVariables false
/-- Both. -/
def andO:Option Prop → Option Prop → Option Prop
  | some p,some q => some (p ∧ q)
  | _,_ => none
/-- It says so. -/
def ToP (o:Option Prop):Prop := ∃ p,o = some p ∧ p
theorem ToP.some {p:Prop} (h:p):ToP (some p) := ⟨p,rfl,h⟩
theorem ToP.and {a b:Option Prop} (h:ToP a) (g:ToP b):ToP (andO a b) := by
  obtain ⟨p,rfl,hp⟩ := h
  obtain ⟨q,rfl,hq⟩ := g
  exact ⟨_,rfl,hp,hq⟩
theorem ToP.bind2 {o:Option (V × List Ob)} {k:V → List Ob → Option Prop} {Q:V → List Ob → Prop} (a:To2 o Q) (b:∀ v h,Q v h → ToP (k v h)):ToP (bind2 o k) := by
  obtain ⟨v,h,rfl,q⟩ := a
  exact b v h q
theorem ToP.bind3 {o:SubR} {k:EX → List V → List Ob → Option Prop} {Q:EX → List V → List Ob → Prop} (a:To3 o Q) (b:∀ x v h,Q x v h → ToP (k x v h)):ToP (bind3 o k) := by
  obtain ⟨x,v,h,rfl,q⟩ := a
  exact b x v h q
end Go.Proofs.YtjpjeilfmjdhcaaDoor.E
/- The layer E, part 47: whole rows; a row to which was appended is read again. No condition. -/
namespace Go.Proofs.YtjpjeilfmjdhcaaDoor.E
set_option linter.unusedVariables false
set_option linter.unusedSimpArgs false
/-- A whole row of its own. -/
def Wh (sz:Nat) (h:List Ob) (v:V) (es:List V):Prop := ∃ id,v = .hsl id 0 es.length ∧ h[id]? = some (.row es sz)
theorem Wh.sl {sz:Nat} {h:List Ob} {v:V} {es:List V} (w:Wh sz h v es):Sl sz h v es := by
  obtain ⟨id,rfl,hid⟩ := w
  refine ⟨?_,fun l q => by cases q⟩
  simp [conts,hid]
theorem Wh.ap {sz:Nat} {h:List Ob} {v:V} {es:List V} (w:Wh sz h v es):Ap v := by
  obtain ⟨id,rfl,hid⟩ := w
  exact Ap.hsl _ _ _
theorem Wh.keep {sz:Nat} {h h':List Ob} {v:V} {es:List V} {A:List Nat} (w:Wh sz h v es) (k:Kp h h' A) (d:∀ j,j ∈ idsOf v → j ∉ A):Wh sz h' v es := by
  obtain ⟨id,rfl,hid⟩ := w
  exact ⟨id,rfl,by rw [k.same id ((List.getElem?_eq_some_iff.1 hid).1) (d id (by simp [idsOf]))]; exact hid⟩
/-- What it was, ahead of an append. -/
def Was (sz:Nat) (h:List Ob) (v:V) (es:List V):Prop := ∃ id n fs,v = .hsl id 0 es.length ∧ h[id]? = some (.was es sz n) ∧ h[n]? = some (.row fs sz) ∧ V.beqs (fs.take es.length) es = true
theorem Was.c {sz:Nat} {h:List Ob} {v:V} {es:List V} (w:Was sz h v es):contsW h sz v = some es := by
  obtain ⟨id,n,fs,rfl,h1,h2,h3⟩ := w
  simp [contsW,h1,h2,h3]
theorem Was.kp {sz:Nat} {h h':List Ob} {v:V} {es:List V} (w:Was sz h v es) (k:Kp h h' []):Was sz h' v es := by
  obtain ⟨id,n,fs,rfl,h1,h2,h3⟩ := w
  exact ⟨id,n,fs,rfl,by rw [k.same id ((List.getElem?_eq_some_iff.1 h1).1) (by simp)]; exact h1,by rw [k.same n ((List.getElem?_eq_some_iff.1 h2).1) (by simp)]; exact h2,h3⟩
end Go.Proofs.YtjpjeilfmjdhcaaDoor.E
/- The layer E, part 48: functions printed short: what is awaited of a list of values, parts and calls with their proofs in one. No condition. -/
namespace Go.Proofs.YtjpjeilfmjdhcaaDoor.E
set_option linter.unusedVariables false
mutual
def curS:Sh → Type → Type
  | .any,R => V → R
  | .int _,R => Int → R
  | .bool,R => Bool → R
  | .str,R => List UInt8 → R
  | .agg ss,R => curL ss R
  | .tup ss,R => curL ss R
def curL:List Sh → Type → Type
  | [],R => R
  | s :: ss,R => curS s (curL ss R)
end
mutual
def wS {R:Type}:(s:Sh) → (X:Type) → curS s X → V → (X → Option R) → Option R
  | .any,X,f,v,k => k (f v)
  | .int i,X,f,v,k => castInt i v fun n => k (f n)
  | .bool,X,f,v,k => castBool v fun n => k (f n)
  | .str,X,f,v,k => castStr v fun n => k (f n)
  | .agg ss,X,f,v,k => castAgg v fun l => wL ss X f l k
  | .tup ss,X,f,v,k => castTup v fun l => wL ss X f l k
def wL {R:Type}:(ss:List Sh) → (X:Type) → curL ss X → List V → (X → Option R) → Option R
  | [],X,f,l,k => castNil l (k f)
  | s :: ss,X,f,l,k => castCons l fun v vs => wS s (curL ss X) f v fun g => wL ss X g vs k
end
mutual
def AllS:(s:Sh) → (X:Type) → (V → X → Prop) → curS s X → Prop
  | .any,X,P,f => ∀ v,P v (f v)
  | .int i,X,P,f => ∀ n,P (.int i n) (f n)
  | .bool,X,P,f => ∀ n,P (.bool n) (f n)
  | .str,X,P,f => ∀ n,P (.str n) (f n)
  | .agg ss,X,P,f => AllL ss X (fun l => P (.agg l)) f
  | .tup ss,X,P,f => AllL ss X (fun l => P (.tup l)) f
def AllL:(ss:List Sh) → (X:Type) → (List V → X → Prop) → curL ss X → Prop
  | [],X,P,f => P [] f
  | s :: ss,X,P,f => AllS s (curL ss X) (fun v g => AllL ss X (fun vs => P (v :: vs)) g) f
end
mutual
theorem wS_inv {R:Type}:∀ (s:Sh) (X:Type) (P:V → X → Prop) (f:curS s X) (v:V) (k:X → Option R) (r:R),AllS s X P f → wS s X f v k = some r → ∃ g,P v g ∧ k g = some r
  | .any,X,P,f,v,k,r,a,e => by
    simp only [wS] at e; simp only [AllS] at a
    exact ⟨_,a v,e⟩
  | .int i,X,P,f,v,k,r,a,e => by
    simp only [wS] at e; simp only [AllS] at a
    obtain ⟨n,rfl,e2⟩ := castInt_inv e
    exact ⟨_,a n,e2⟩
  | .bool,X,P,f,v,k,r,a,e => by
    simp only [wS] at e; simp only [AllS] at a
    obtain ⟨n,rfl,e⟩ := castBool_inv e
    exact ⟨_,a n,e⟩
  | .str,X,P,f,v,k,r,a,e => by
    simp only [wS] at e; simp only [AllS] at a
    obtain ⟨n,rfl,e⟩ := castStr_inv e
    exact ⟨_,a n,e⟩
  | .agg ss,X,P,f,v,k,r,a,e => by
    simp only [wS] at e; simp only [AllS] at a
    obtain ⟨n,rfl,e⟩ := castAgg_inv e
    exact wL_inv ss X _ f n k r a e
  | .tup ss,X,P,f,v,k,r,a,e => by
    simp only [wS] at e; simp only [AllS] at a
    obtain ⟨n,rfl,e⟩ := castTup_inv e
    exact wL_inv ss X _ f n k r a e
theorem wL_inv {R:Type}:∀ (ss:List Sh) (X:Type) (P:List V → X → Prop) (f:curL ss X) (l:List V) (k:X → Option R) (r:R),AllL ss X P f → wL ss X f l k = some r → ∃ g,P l g ∧ k g = some r
  | [],X,P,f,l,k,r,a,e => by
    simp only [wL] at e; simp only [AllL] at a
    obtain ⟨rfl,e⟩ := castNil_inv e
    exact ⟨_,a,e⟩
  | s :: ss,X,P,f,l,k,r,a,e => by
    simp only [wL] at e; simp only [AllL] at a
    obtain ⟨v,vs,rfl,e⟩ := castCons_inv e
    obtain ⟨g,p,e⟩ := wS_inv s _ _ f v _ r a e
    exact wL_inv ss X _ g vs k r p e
end
/-- A function of values as one of a list. -/
def wG {R:Type} (ts:List Sh) (f:curL ts (List Ob → Option R)) (vs:List V) (h:List Ob):Option R := wL ts (List Ob → Option R) f vs fun g => g h
theorem wG_inv {R:Type} {ts:List Sh} {f:curL ts (List Ob → Option R)} {P:List V → (List Ob → Option R) → Prop} (a:AllL ts _ P f) {vs:List V} {h:List Ob} {r:R} (e:wG ts f vs h = some r):∃ g,P vs g ∧ g h = some r := wL_inv ts _ P f vs _ r a e
mutual
theorem AllS_all:∀ (s:Sh) (X:Type) (P:V → X → Prop) (f:curS s X),(∀ v g,P v g) → AllS s X P f
  | .any,X,P,f,a => fun v => a _ _
  | .int i,X,P,f,a => fun v => a _ _
  | .bool,X,P,f,a => fun v => a _ _
  | .str,X,P,f,a => fun v => a _ _
  | .agg ss,X,P,f,a => AllL_all ss X _ f fun v g => a _ g
  | .tup ss,X,P,f,a => AllL_all ss X _ f fun v g => a _ g
theorem AllL_all:∀ (ss:List Sh) (X:Type) (P:List V → X → Prop) (f:curL ss X),(∀ v g,P v g) → AllL ss X P f
  | [],X,P,f,a => a _ _
  | s :: ss,X,P,f,a => AllS_all s _ _ f fun v g => AllL_all ss X _ g fun vs g => a _ g
end
theorem wL_len {R:Type}:∀ (ss:List Sh) (X:Type) (f:curL ss X) (l:List V) (k:X → Option R) (r:R),wL ss X f l k = some r → l.length = ss.length
  | [],X,f,l,k,r,e => by
    simp only [wL] at e
    obtain ⟨rfl,e⟩ := castNil_inv e
    rfl
  | s :: ss,X,f,l,k,r,e => by
    simp only [wL] at e
    obtain ⟨v,vs,rfl,e⟩ := castCons_inv e
    obtain ⟨g,_,e⟩ := wS_inv s _ (fun _ _ => True) f v _ r (AllS_all s _ _ f fun _ _ => trivial) e
    rw [List.length_cons,List.length_cons,wL_len ss X g vs k r e]
/-- A part, with what it comes to. -/
structure Pt (P:Program) where
  code:EC
  ins:List Nat
  outs:Outs
  f:List V → List Ob → SubR
  ok:SubOk P code ins outs f
/-- Calls, with what they come to. -/
structure Cx (P:Program) where
  call:CallS
  cv:CallVS
  okc:CallOk P call
  okv:CvOk P cv
def WOk (P:Program) (g:FuncId) (w:List V → List Ob → Option (V × List Ob)):Prop := ∀ args h v h',w args h = some (v,h') → CD P g args h v h'
def Cx.o {P:Program}:Cx P := ⟨callN,cvN,callN_ok,cvN_ok⟩
def Cx.c {P:Program} (x:Cx P) {g:FuncId} {w:List V → List Ob → Option (V × List Ob)} (ok:WOk P g w):Cx P := ⟨callC g w x.call,x.cv,callC_ok ok x.okc,x.okv⟩
def Cx.r {P:Program} (x:Cx P) {rc:CallS} (hrc:CallOk P rc):Cx P := ⟨rc,x.cv,hrc,x.okv⟩
def Cx.v {P:Program} (x:Cx P) {cv:CallVS} (hcv:CvOk P cv):Cx P := ⟨x.call,cv,x.okc,hcv⟩
inductive KT where
  | skip
  | reg (l:List EI)
  | seq (x y:KT)
  | cond (c:EO) (x y:KT)
  | block (id:Nat) (x:KT)
  | exit (id:Nat)
  | ret
  | draw (ls:List (List EI))
  | sub (i:Nat)
def nthP {P:Program}:List (Pt P) → Nat → Option (Pt P)
  | [],_ => none
  | p :: _,0 => some p
  | _ :: ps,i + 1 => nthP ps i
def subP {P:Program}:List (Pt P) → Nat → List V → List Ob → SubR
  | [],_ => fun _ _ => none
  | p :: _,0 => p.f
  | _ :: ps,i + 1 => subP ps i
def KT.kc {P:Program} (ps:List (Pt P)):KT → KC
  | .skip => .skip
  | .reg l => .reg l
  | .seq x y => .seq (x.kc ps) (y.kc ps)
  | .cond c x y => .cond c (x.kc ps) (y.kc ps)
  | .block i x => .block i (x.kc ps)
  | .exit i => .exit i
  | .ret => .ret
  | .draw l => .draw l
  | .sub i => match nthP ps i with
    | some p => .sub i p.code p.ins p.outs
    | none => .skip
def Cx.sig {P:Program} (x:Cx P) (ps:List (Pt P)):Sig := ⟨x.call,x.cv,subP ps⟩
theorem nthP_ok {P:Program}:∀ {ps:List (Pt P)} {i:Nat} {p:Pt P},nthP ps i = some p → SubOk P p.code p.ins p.outs (subP ps i)
  | [],i,p,e => by cases e
  | q :: ps,0,p,e => by
    injection e with e; subst e; exact q.ok
  | q :: ps,i + 1,p,e => nthP_ok (ps := ps) e
theorem KT.ok {P:Program} (x:Cx P) (ps:List (Pt P)):∀ k:KT,(k.kc ps).ok P (x.sig ps)
  | .skip => trivial
  | .reg l => trivial
  | .seq a b => ⟨KT.ok x ps a,KT.ok x ps b⟩
  | .cond c a b => ⟨KT.ok x ps a,KT.ok x ps b⟩
  | .block i a => KT.ok x ps a
  | .exit i => trivial
  | .ret => trivial
  | .draw l => trivial
  | .sub i => by
    simp only [KT.kc]
    split
    · rename_i p q
      exact nthP_ok q
    · trivial
def Pt.of {P:Program} (A:List (Nat × Sh)) (x:Cx P) (ps:List (Pt P)) (k:KT) (ts:List Sh) (ins:List Nat) (outs:Outs) (S:curL ts (List Ob → SubR))
    (q:AllL ts _ (fun vs g => ∀ h,evCK A (x.sig ps) (k.kc ps) (ins.zip vs) h (endK outs) = g h) S):Pt P :=
  ⟨(k.kc ps).er,ins,outs,wG ts S,SubOk.of x.okc x.okv (k.ok x ps) fun vs h r e => by
    obtain ⟨g,p,e⟩ := wG_inv q e
    rw [p h]; exact e⟩
theorem Pt.loop_ok {P:Program} {A:List (Nat × Sh)} {x:Cx P} {ps:List (Pt P)} {k:KT} {ts:List Sh} {ins:List Nat} {outs:Outs} {B:curL ts (List Ob → SubR) → curL ts (List Ob → SubR)} {L:Nat → curL ts (List Ob → SubR)}
    (q0:AllL ts _ (fun _ g => ∀ h,g h = none) (L 0)) (qS:∀ n,L (n + 1) = B (L n))
    (q:∀ self,AllL ts _ (fun vs g => ∀ h,evCK A (x.sig ps) (k.kc ps) (ins.zip vs) h (endL ins ts outs (wG ts self)) = g h) (B self)) (n:Nat):SubOk P (.loop (k.kc ps).er) ins outs (wG ts (L n)) := by
  refine SubOk.loop (A := A) (σ := x.sig ps) (c := k.kc ps) (shs := ts) (G := fun n => wG ts (L n)) x.okc x.okv (k.ok x ps) (fun vs h r e => ?_) (fun n vs h r e => ?_) n
  · obtain ⟨g,p,e⟩ := wG_inv q0 e
    rw [p h] at e; cases e
  · rw [qS n] at e
    obtain ⟨g,p,e⟩ := wG_inv (q (L n)) e
    rw [p h]; exact e
def Pt.loop {P:Program} (A:List (Nat × Sh)) (x:Cx P) (ps:List (Pt P)) (k:KT) (ts:List Sh) (ins:List Nat) (outs:Outs) (B:curL ts (List Ob → SubR) → curL ts (List Ob → SubR)) (L:Nat → curL ts (List Ob → SubR))
    (q0:AllL ts _ (fun _ g => ∀ h,g h = none) (L 0)) (qS:∀ n,L (n + 1) = B (L n))
    (q:∀ self,AllL ts _ (fun vs g => ∀ h,evCK A (x.sig ps) (k.kc ps) (ins.zip vs) h (endL ins ts outs (wG ts self)) = g h) (B self)) (n:Nat):Pt P :=
  ⟨.loop (k.kc ps).er,ins,outs,wG ts (L n),Pt.loop_ok q0 qS q n⟩
theorem FOk {P:Program} {f:FuncId} {fn:Func} (n:Nat) (res:List ERs) (A:List (Nat × Sh)) (x:Cx P) (ps:List (Pt P)) (k:KT) (ts:List Sh) (F:curL ts (List Ob → Option (V × List Ob))) (hf:P.funcs[f]? = some fn)
    (hcf:compF P fn = some ⟨n,res,(k.kc ps).er⟩) (hen:entersB P f = true) (hn:Nat.ble ts.length n = true)
    (q:AllL ts _ (fun vs g => ∀ h,evCK A (x.sig ps) (k.kc ps) (entryK vs) h (endF res) = g h) F):WOk P f (wG ts F) := by
  intro args h v h' e0
  obtain ⟨g,p,e⟩ := wG_inv q e0
  have hl:args.length = ts.length := wL_len ts _ F args _ _ e0
  exact CD.ofK (A := A) (σ := x.sig ps) (c := k.kc ps) hf hcf hen (by rw [hl]; exact Nat.le_of_ble_eq_true hn) rfl x.okc x.okv (k.ok x ps) ((p h).trans e)
end Go.Proofs.YtjpjeilfmjdhcaaDoor.E
/-! ### Short words for code -/
namespace Go.Proofs.YtjpjeilfmjdhcaaDoor.E
instance {n:Nat}:OfNat EO n := ⟨.t n⟩
namespace K
def ci (n:Int):EO := .c (.int .i64 n)
def c8 (n:Int):EO := .c (.int .u8 n)
def cT:EO := .c (.bool true)
def cF:EO := .c (.bool false)
def Sa:Sh := .any
def Sb:Sh := .bool
def Ss:Sh := .str
def Si:Sh := .int .i64
def o (d:Nat) (x:EOp):EI := ⟨some d,none,.op x,[]⟩
def oT (d g:Nat) (x:EOp):EI := ⟨some d,some (g,true),.op x,[]⟩
def oF (d g:Nat) (x:EOp):EI := ⟨some d,some (g,false),.op x,[]⟩
def on (x:EOp):EI := ⟨none,none,.op x,[]⟩
def mv (d:Nat) (x:EO):EI := o d (.mv x)
def fa (d n:Nat) (x:EO):EI := o d (.faddr n x)
def l1 (d:Nat) (x:EO):EI := o d (.load1 x)
def ln (d n:Nat) (x:EO):EI := o d (.loadN n x)
def nk (d:Nat) (x:EO):EI := o d (.nilck x)
def st (n:Nat) (p x:EO):EI := on (.store n p x)
def ca (d f:Nat) (xs:List EO):EI := ⟨some d,none,.call f xs,[]⟩
def caT (d g f:Nat) (xs:List EO):EI := ⟨some d,some (g,true),.call f xs,[]⟩
def caF (d g f:Nat) (xs:List EO):EI := ⟨some d,some (g,false),.call f xs,[]⟩
def cw (d:Nat) (x:EO) (xs:List EO):EI := ⟨some d,none,.callv x xs,[]⟩
def mkZ (s:Sh) (r:List (Nat × Sh)):List Nat → List (Nat × Sh)
  | [] => r
  | d :: ds => (d,s) :: mkZ s r ds
def mkA:List (Sh × List Nat) → List (Nat × Sh)
  | [] => []
  | (s,ds) :: l => mkZ s (mkA l) ds
def sq:List KT → KT
  | [] => .skip
  | [a] => a
  | a :: b :: l => .seq a (sq (b :: l))
end K
end Go.Proofs.YtjpjeilfmjdhcaaDoor.E
/- The layer E, part 49: contracts that leave what lies there; variables of the program that hold known numbers (pins); into a claim's walk with these. No condition. -/
namespace Go.Proofs.YtjpjeilfmjdhcaaDoor.E
open Go.RowKit
set_option linter.unusedVariables false
set_option linter.unusedSimpArgs false
set_option linter.unnecessarySimpa false
theorem arep2 {L:Loc} {w:World} {u v:V} {xs:Array Value} (a:ARep L w [u,v] xs):∃ x y,xs = #[x,y] ∧ Rep L w u x ∧ Rep L w v y := by
  obtain ⟨h1,h2⟩ := a
  obtain ⟨l⟩ := xs
  match l,h1,h2 with
  | [x,y],_,h2 => exact ⟨x,y,rfl,h2 0 u rfl,h2 1 v rfl⟩
theorem arep3 {L:Loc} {w:World} {u v t:V} {xs:Array Value} (a:ARep L w [u,v,t] xs):∃ x y z,xs = #[x,y,z] ∧ Rep L w u x ∧ Rep L w v y ∧ Rep L w t z := by
  obtain ⟨h1,h2⟩ := a
  obtain ⟨l⟩ := xs
  match l,h1,h2 with
  | [x,y,z],_,h2 => exact ⟨x,y,z,rfl,h2 0 u rfl,h2 1 v rfl,h2 2 t rfl⟩
theorem fr_below {w w':World} (b:Below w.heap.size w w'):Fr (Own L0) w w' := ⟨b.os,b.tape,b.output,b.size,fun k hk _ => b.block k hk,fun k hk => by
  unfold bsz
  rw [b.block k hk]⟩
/-- What comes of a contract that leaves what lies there. -/
theorem ce_of_below {P:Program} {f:FuncId} {args:List V} {h:List Ob} {l:List UInt8} (c:∀ L w xs,ARep L w args xs → HRel L h w → Calls P f xs w fun e w' => e = .returned (.string ⟨l.toArray⟩) ∧ Below w.heap.size w w') :
    CE P f args h fun v h' => v = .str l ∧ h' = h := by
  intro L w xs a H
  refine (c L w xs a H).mono ?_
  rintro e w' ⟨rfl,b⟩
  have fr := fr_below b
  exact ⟨_,.str l,h,L,rfl,⟨rfl,rfl⟩,.str l,H.kept fr,fr.mono (fun b hb => (own0 b hb).elim),Ext.refl L w⟩
/-- Pins: the variable's number, its kind, what it holds, its type. -/
abbrev Pin := Nat × IntKind × List Int × TypeId
def pins (ps:List Pin):List Ob := ps.map fun p => .pin p.1 p.2.1 p.2.2.1 p.2.2.2
def locP (ps:List Pin):Loc := ⟨fun i => (ps[i]?).map fun p => (p.1,0,0),ps.length⟩
def PinsOk (w:World) (ps:List Pin):Prop := (ps.map (·.1)).Nodup ∧ ∀ p,p ∈ ps → w.heap[p.1]? = some (.cells (p.2.2.1.map fun z => Value.int p.2.1 z).toArray p.2.2.2 (0,0))
theorem locP_at {ps:List Pin} {i:Nat} {q:Nat × Nat × Nat} (h:(locP ps).at_ i = some q):∃ p,ps[i]? = some p ∧ q = (p.1,0,0) := by
  simp only [locP,Option.map_eq_some_iff] at h
  obtain ⟨p,h1,h2⟩ := h
  exact ⟨p,h1,h2.symm⟩
theorem hrel_pins {w:World} {ps:List Pin} (h:PinsOk w ps):HRel (locP ps) (pins ps) w where
  len := by simp [locP,pins]
  obs := fun id ob ho => by
    simp only [pins,List.getElem?_map,Option.map_eq_some_iff] at ho
    obtain ⟨p,h1,rfl⟩ := ho
    exact ⟨0,0,by simp [locP,h1],h.2 p (List.mem_of_getElem? h1)⟩
  lt := fun id p hp => by
    obtain ⟨q,h1,-⟩ := locP_at hp
    exact (List.getElem?_eq_some_iff.1 h1).1
  mem := fun id b base sz hp => by
    obtain ⟨q,h1,h2⟩ := locP_at hp
    injection h2 with h2 h3
    have h4 := h.2 q (List.mem_of_getElem? h1)
    rw [h2]
    exact (Array.getElem?_eq_some_iff.1 h4).1
  inj := fun i j b p q h1 h2 => by
    obtain ⟨x,g1,g2⟩ := locP_at h1
    obtain ⟨y,g3,g4⟩ := locP_at h2
    injection g2 with g2 _
    injection g4 with g4 _
    refine .inl ?_
    have e1:(ps.map (·.1))[i]? = some b := by simp [g1,g2]
    have e2:(ps.map (·.1))[j]? = some b := by simp [g3,g4]
    exact (List.getElem?_inj (List.getElem?_eq_some_iff.1 e1).1 h.1).1 (e1.trans e2.symm)
  old := fun id es sz nid hx => by
    simp only [pins,List.getElem?_map,Option.map_eq_some_iff] at hx
    obtain ⟨p,_,h2⟩ := hx
    cases h2
theorem pins_at {ps:List Pin} {p:Pin} (hp:p ∈ ps):∃ i:Nat,(pins ps)[i]? = some (Ob.pin p.1 p.2.1 p.2.2.1 p.2.2.2) := by
  obtain ⟨i,hi⟩ := List.getElem?_of_mem hp
  exact ⟨i,by simp [pins,hi]⟩
/-- One that says yes or no, with pins that stand behind it as ahead of it. -/
theorem calls_boolP {P:Program} {f:FuncId} {args:List V} {xs:Array Value} {w:World} {b:Bool} {ps:List Pin} (hp:PinsOk w ps)
    (c:CE P f args (pins ps) fun v h' => v = .bool b ∧ Kp (pins ps) h' []) (a:ARep (locP ps) w args xs) :
    Calls P f xs w fun e w' => e = .returned (.bool b) ∧ Below w.heap.size w w' :=
  (c (locP ps) w xs a (hrel_pins hp)).mono fun e w' ⟨x,v,h',L',h1,⟨h2,h3⟩,h4,h5,h6,h7⟩ => ⟨by subst h2; cases h4; exact h1,h6.os,h6.tape,h6.output,h6.size,fun k hk => by
    by_cases q:∃ p,p ∈ ps ∧ p.1 = k
    · obtain ⟨p,hm,rfl⟩ := q
      obtain ⟨i,hi⟩ := pins_at hm
      have hi':h'[i]? = some (Ob.pin p.1 p.2.1 p.2.2.1 p.2.2.2) := by
        rw [h3.same i (List.getElem?_eq_some_iff.1 hi).1 (by simp)]; exact hi
      obtain ⟨base,sz,-,hb⟩ := h5.obs i _ hi'
      rw [hb,hp.2 p hm]
    · exact h6.block k hk (fun ⟨id,r,hr⟩ => by
        obtain ⟨p,g1,g2⟩ := locP_at hr
        injection g2 with g2 _
        exact q ⟨p,List.mem_of_getElem? g1,g2.symm⟩)⟩
theorem er_iaddrL_eq {h:List Ob} {n:Nat} {v:V} {z:Int}:er (.iaddrL n (.c v) (.c (.int .i64 z))) h = evIaddrL h n v z := by
  simp only [er,ev,evOq,x_iaddrL,getC]
  cases evIaddrL h n v z <;> rfl
theorem er_loadN_eq {h:List Ob} {n:Nat} {v:V}:er (.loadN n (.c v)) h = evLoadN h n v := by
  simp only [er,ev,evOq,x_loadN,getC]
  cases evLoadN h n v <;> rfl
/-- An element's address, and what lies there, stay. -/
theorem iaddr_keep {h g:List Ob} {n:Nat} {pv a c:V} {es:List V} {z:Int} (s:Sl n h pv es) (k:Kp h g []) (b1:er (.iaddrL n (.c pv) (.c (.int .i64 z))) h = some a) (b2:er (.loadN n (.c a)) h = some c) :
    er (.iaddrL n (.c pv) (.c (.int .i64 z))) g = some a ∧ er (.loadN n (.c a)) g = some c := by
  rw [er_iaddrL_eq] at b1 ⊢
  rw [er_loadN_eq] at b2 ⊢
  cases pv with
  | sl fs =>
    refine ⟨b1,?_⟩
    simp only [evIaddrL] at b1
    have:∃ e,a = .ref e 0 := by
      by_cases q:0 ≤ z
      · rw [if_pos q] at b1
        cases hf:fs[z.toNat]? with
        | none => rw [hf] at b1; cases b1
        | some e =>
          rw [hf] at b1
          simp only [Option.bind_some] at b1
          by_cases r:e.cells.length = n
          · rw [if_pos r] at b1
            injection b1 with b1
            exact ⟨e,b1.symm⟩
          · rw [if_neg r] at b1; cases b1
      · rw [if_neg q] at b1; cases b1
    obtain ⟨e,rfl⟩ := this
    exact b2
  | hsl id off len =>
    have hid:id < h.length := s.lt (by simp [idsOf])
    have hs:g[id]? = h[id]? := k.same id hid (by simp)
    simp only [evIaddrL] at b1 ⊢
    rw [hs]
    refine ⟨b1,?_⟩
    have:∃ i,a = .ptr id i 0 := by
      split at b1
      · split at b1
        · split at b1
          · injection b1 with b1
            exact ⟨_,b1.symm⟩
          · cases b1
        · cases b1
      · cases b1
    obtain ⟨i,rfl⟩ := this
    simp only [evLoadN,rdCells] at b2 ⊢
    rw [hs]
    exact b2
  | _ => simp [evIaddrL] at b1
/-! ### Data that lies in no block of numbers -/
def isStr:V → Bool
  | .str _ => true
  | _ => false
def headS:List V → Bool
  | [] => true
  | e :: _ => e.cells.any isStr
mutual
/-- Of each slice that is not empty the first element holds a string. -/
def strV:V → Bool
  | .int .. | .bool _ | .str _ | .nilp | .nils | .esl | .nilm | .nilf => true
  | .sl es => headS es && strVs es
  | .agg cs => strVs cs
  | .tup cs => strVs cs
  | _ => false
def strVs:List V → Bool
  | [] => true
  | v :: vs => strV v && strVs vs
end
theorem strVs_get:∀ {vs:List V} {k:Nat} {v:V},strVs vs = true → vs[k]? = some v → strV v = true
  | [],k,v,_,h => by simp at h
  | u :: us,0,v,h,hk => by simp [strVs] at h hk; subst hk; exact h.1
  | u :: us,k + 1,v,h,hk => by simp [strVs] at h hk; exact strVs_get h.2 hk
theorem strVs_of:∀ {vs:List V},(∀ v,v ∈ vs → strV v = true) → strVs vs = true
  | [],_ => by simp [strVs]
  | v :: vs,h => by simp [strVs,h v,strVs_of (vs := vs) (fun u hu => h u (List.mem_cons_of_mem _ hu))]
theorem cells_strV {e:V} (h:strV e = true) {k:Nat} {c:V} (hk:e.cells[k]? = some c):strV c = true := by
  cases e <;> first
    | (simp only [V.cells] at hk; exact strVs_get (by simpa [strV] using h) hk)
    | (simp only [V.cells] at hk; cases k <;> simp at hk <;> subst hk <;> exact h)
theorem rep_str {L:Loc} {w:World} (hL:∀ b,Own L b → ∀ (o:Nat) s,w.cell? ⟨b,o,none⟩ ≠ some (.string s)) {v:V} {x:Value} (r:Rep L0 w v x):strV v = true → Rep L w v x := by
  induction r with
  | int k n => exact fun _ => .int k n
  | bool b => exact fun _ => .bool b
  | str l => exact fun _ => .str l
  | nilp => exact fun _ => .nilp
  | nils => exact fun _ => .nils
  | @sl es sz b o cap f ho hb hcap hs hc hr ih =>
    intro h
    cases es with
    | nil => exact .sl0 ⟨b,o,none⟩ cap
    | cons e es =>
      have h2:headS (e :: es) = true ∧ strVs (e :: es) = true := by simpa [strV] using h
      refine .sl f (fun own => ?_) hb hcap hs hc (fun i j e' c h1 h3 => ih i j e' c h1 h3 (cells_strV (strVs_get h2.2 h1) h3))
      have h4:e.cells.any isStr = true := h2.1
      rw [List.any_eq_true] at h4
      obtain ⟨c,hm,hcs⟩ := h4
      obtain ⟨j,hj⟩ := List.getElem?_of_mem hm
      cases c <;> simp [isStr] at hcs
      rename_i l
      have q1 := hc 0 j e (.str l) rfl hj
      have q2 := hr 0 j e (.str l) rfl hj
      generalize f 0 j = y at q1 q2
      cases q2
      exact hL b own _ _ q1
  | sl0 a cap => exact fun _ => .sl0 a cap
  | esl a => exact fun _ => .esl a
  | nilm => exact fun _ => .nilm
  | nilf => exact fun _ => .nilf
  | agg vs hl hr ih => exact fun h => .agg vs hl (fun k c hk => ih k c hk (strVs_get (by simpa [strV] using h) hk))
  | tup vs hl hr ih => exact fun h => .tup vs hl (fun k c hk => ih k c hk (strVs_get (by simpa [strV] using h) hk))
  | _ => exact fun h => by simp [strV] at h
theorem pins_nostr {w:World} {ps:List Pin} (h:PinsOk w ps):∀ b,Own (locP ps) b → ∀ (o:Nat) s,w.cell? ⟨b,o,none⟩ ≠ some (.string s) := by
  intro b ⟨id,q,hq⟩ o s hc
  obtain ⟨p,g1,g2⟩ := locP_at hq
  injection g2 with g2 _
  have hb := h.2 p (List.mem_of_getElem? g1)
  rw [← g2] at hb
  simp [World.cell?,hb] at hc
end Go.Proofs.YtjpjeilfmjdhcaaDoor.E
