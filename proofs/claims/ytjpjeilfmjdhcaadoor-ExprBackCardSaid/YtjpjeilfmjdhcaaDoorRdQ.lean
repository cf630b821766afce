/- The reader of expressions walked: what each step gives; operands. No condition. -/
import Derived.Test.YtjpjeilfmjdhcaaDoorRdP
namespace Go.Proofs.YtjpjeilfmjdhcaaDoor.Rd
open Go Go.Proofs.YtjpjeilfmjdhcaaDoor.E
open Go.Proofs.YtjpjeilfmjdhcaaDoor.Ln
open Go.Proofs.YtjpjeilfmjdhcaaDoor.Ex
open Go.Proofs.YtjpjeilfmjdhcaaDoor.Pr
set_option maxRecDepth 100000
set_option linter.unusedVariables false
set_option linter.unusedSimpArgs false
/-- An expression was read. -/
def XQ (h:List Ob) (r:Nat) (wv:V) (ws:List Wd) (p:X × RS) (v:V) (h':List Ob):Prop :=
  Rd h' r wv ws p.2 ∧ Kp h h' [r] ∧ ∃ n pv ps,p.1 = .mk n ps ∧ v = .agg (aC n pv) ∧ Ex (fun j => h.length ≤ j) h' (.agg (aC n pv)) (.mk n ps)
theorem ex_sc {I:Nat → Prop} {h:List Ob} {n m:Nd} {pv:V} {ps:List X} (e:Ex I h (.agg (aC n pv)) (.mk m ps)):(aC n pv).all V.scalar = true := by
  obtain ⟨es,s,-,-,-⟩ := e.inv
  exact aC_sc s
/-- What was read is handed back. -/
theorem fin8 {h h1:List Ob} {I:Nat → Prop} {n:Nd} {pv:V} {ps:List X} {r:Nat} {wv:V} {ws:List Wd} {s0 s:RS} {cs:List V} (q0:Rd h r wv ws s0) (h8:cs.length = 8) (hx:St h1 h.length cs) (q:Rd h1 r wv ws s) (k:Kp h h1 [r]) (e:Ex I h1 (.agg (aC n pv)) (.mk n ps)) (hI:∀ j,I j → h.length < j) :
    To2 (bind2 (ev (.store 8 (.c (.ptr h.length 0 0)) (.c (.agg (aC n pv)))) h1) fun _ h2 => bind1 (evLoadN h2 8 (.ptr h.length 0 0)) fun r1 => some (r1,h2)) (XQ h r wv ws (.mk n ps,s)) := by
  refine To2.bind2 (hx.storeN (ds := aC n pv) (by rw [h8]; rfl) (by omega) (ex_sc e) (n := 8) h8) ?_
  rintro u h2 ⟨st2,k2⟩
  have hl:(aC n pv).length = 8 := rfl
  simp only [show evLoadN h2 8 (.ptr h.length 0 0) = some (.agg (aC n pv)) from st2.loadN,bind1_some]
  refine To2.some ⟨⟨q.st.keep k2 (fun z => by simp at z; have := q0.lt; omega),q.sl.keep k2 (fun j hj z => by simp at z; have := q0.sl.lt hj; omega),q.nr,q.le,q.few⟩,?_,n,pv,ps,rfl,rfl,?_⟩
  · exact k.trans k2 (fun j hj _ => hj) (fun j hj hlt => by simp at hj; omega)
  · refine (e.keep k2 (fun j hj z => ?_)).mono (fun j _ z => Nat.le_of_lt (hI j z))
    simp at hj
    have := hI j z
    omega
/-- An expression in a variable of its own. -/
theorem put8 {h:List Ob} {n:Nd} {pv:V} {K:V → List Ob → Option (V × List Ob)} {Q:V → List Ob → Prop} (hs:(aC n pv).all V.scalar = true) (hK:∀ h2,St h2 h.length (aC n pv) → Kp h h2 [] → To2 (K (.ptr h.length 0 0) h2) Q) :
    To2 (bind2 (ev (.alloc false (.agg zC)) h) fun x h_1 => bind2 (ev (.store 8 (.c x) (.c (.agg (aC n pv)))) h_1) fun _ h_2 => K x h_2) Q := by
  refine To2.bind2 (alloc_to (cs := zC) rfl) ?_
  rintro x h1 ⟨rfl,st,k1⟩
  refine To2.bind2 (st.storeN (ds := aC n pv) rfl (by simp) hs (n := 8) rfl) ?_
  rintro u h2 ⟨st2,k2⟩
  exact hK h2 st2 (k1.trans k2 (fun j hj => by cases hj) (fun j hj hlt => by simp at hj; omega))
/-- Parts, written out. -/
theorem part1 {I:Nat → Prop} {h:List Ob} {n:Nd} {pv:V} {ps:List X} (e:Ex I h (.agg (aC n pv)) (.mk n ps)) {m:Nd}:To2 (ev (.bslice 8 (.agg zC) 1 [(0,.c (.agg (aC n pv)))]) h) fun v h' => v.cells = [v] ∧ v.scalar = true ∧ Kp h h' [] ∧ Ex (fun j => I j ∨ h.length ≤ j) h' (.agg (aC m v)) (.mk m [.mk n ps]) := by
  have sc := ex_sc e
  refine (bslice_to (sz := 8) (z := .agg zC) (len := 1) (ps := [(0,.agg (aC n pv))]) (es := [.agg (aC n pv)]) (by decide) (by
    have h1:plainV 8 (.agg (aC n pv)) = true := by
      simp only [plainV,V.cells,sc,Bool.and_true]; rfl
    simp only [List.all_cons,List.all_nil,h1]; rfl) rfl rfl).mono ?_
  rintro v h' ⟨-,-,sv,av,kv,fv⟩
  refine ⟨(scN sv).1,(scN sv).2,kv,.mk sv (fun j hj => .inr (fv j hj)) rfl ?_⟩
  intro i e' p he hp
  cases i with
  | zero =>
    simp only [List.getElem?_cons_zero,Option.some.injEq] at he hp
    subst he; subst hp
    exact (e.kp kv).mono fun j _ z => .inl z
  | succ i => simp at he
theorem part2 {I J:Nat → Prop} {h:List Ob} {n n':Nd} {pv pv':V} {ps ps':List X} (e:Ex I h (.agg (aC n pv)) (.mk n ps)) (e':Ex J h (.agg (aC n' pv')) (.mk n' ps')) {m:Nd} :
    To2 (ev (.bslice 8 (.agg zC) 2 [(0,.c (.agg (aC n pv))),(1,.c (.agg (aC n' pv')))]) h) fun v h' => v.cells = [v] ∧ v.scalar = true ∧ Kp h h' [] ∧ Ex (fun j => I j ∨ J j ∨ h.length ≤ j) h' (.agg (aC m v)) (.mk m [.mk n ps,.mk n' ps']) := by
  have sc := ex_sc e
  have sc' := ex_sc e'
  refine (bslice_to (sz := 8) (z := .agg zC) (len := 2) (ps := [(0,.agg (aC n pv)),(1,.agg (aC n' pv'))]) (es := [.agg (aC n pv),.agg (aC n' pv')]) (by decide) (by
    have h1:plainV 8 (.agg (aC n pv)) = true := by
      simp only [plainV,V.cells,sc,Bool.and_true]; rfl
    have h2:plainV 8 (.agg (aC n' pv')) = true := by
      simp only [plainV,V.cells,sc',Bool.and_true]; rfl
    simp only [List.all_cons,List.all_nil,h1,h2]; rfl) rfl rfl).mono ?_
  rintro v h' ⟨-,-,sv,av,kv,fv⟩
  refine ⟨(scN sv).1,(scN sv).2,kv,.mk sv (fun j hj => .inr (.inr (fv j hj))) rfl ?_⟩
  intro i x p he hp
  match i with
  | 0 =>
    simp only [List.getElem?_cons_zero,Option.some.injEq] at he hp
    subst he; subst hp
    exact (e.kp kv).mono fun j _ z => .inl z
  | 1 =>
    simp only [List.getElem?_cons_succ,List.getElem?_cons_zero,Option.some.injEq] at he hp
    subst he; subst hp
    exact (e'.kp kv).mono fun j _ z => .inr (.inl z)
  | i + 2 => simp at he
/-- A node is built. -/
theorem build_op {h:List Ob} {k:Int} {op:List UInt8} {v:V} (hc:v.cells = [v]) (hs:v.scalar = true):er (.build [(.int .i64 0),(.str []),(.int .i64 0),(.int .i64 0),(.str []),(.str []),(.str []),.nils] [(0,(1,(.c (.int .i64 k)))),(1,(1,(.c (.str op)))),(7,(1,(.c v)))]) h = some (.agg (aC ⟨k,op,0,0,[],[],[]⟩ v)) := by
  have:fillV [(.int .i64 k),(.str op),(.int .i64 0),(.int .i64 0),(.str []),(.str []),(.str []),.nils] [(7,1,v)] = some (aC ⟨k,op,0,0,[],[],[]⟩ v) := by
    cases v <;> first | rfl | (simp [V.scalar] at hs)
  simp only [er,ev,evOq,x_build,List.map_cons,List.map_nil,getC]
  rw [show fillV [(.int .i64 0),(.str []),(.int .i64 0),(.int .i64 0),(.str []),(.str []),(.str []),.nils] [(0,1,.int .i64 k),(1,1,.str op),(7,1,v)] = fillV [(.int .i64 k),(.str op),(.int .i64 0),(.int .i64 0),(.str []),(.str []),(.str []),.nils] [(7,1,v)] from rfl,this]
  rfl
theorem ex0 {I:Nat → Prop} {h:List Ob} {n:Nd}:Ex I h (.agg (aC n .nils)) (.mk n []) := .mk (Sl.nils _ _) (fun j hj => by cases hj) rfl (fun i e p he => by simp at he)
theorem reP_of {R:Type} {p:Prop} {o:Option R} (hp:p):reP p o = o := by unfold reP; exact if_pos hp
end Go.Proofs.YtjpjeilfmjdhcaaDoor.Rd
