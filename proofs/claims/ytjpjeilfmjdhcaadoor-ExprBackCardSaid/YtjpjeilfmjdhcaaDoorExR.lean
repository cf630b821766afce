/- Expressions: whether one has what its kind has; both functions. No condition. -/
import Derived.Test.YtjpjeilfmjdhcaaDoorExP
import Derived.Test.YtjpjeilfmjdhcaaDoorLnS
namespace Go.Proofs.YtjpjeilfmjdhcaaDoor.Ex
open Go Go.Proofs.YtjpjeilfmjdhcaaDoor.E
open Go.Proofs.YtjpjeilfmjdhcaaDoor.Ln
set_option maxRecDepth 100000
set_option linter.unusedVariables false
set_option linter.unusedSimpArgs false
def strs (l:List (List UInt8)):List V := l.map .str
theorem strs_len (l:List (List UInt8)):(strs l).length = l.length := by simp [strs]
def inP (s:List UInt8) (l:List (List UInt8)):Bool := l.any fun x => s == x
theorem idxL (lf:Nat) {h:List Ob} {lv:V} {l:List (List UInt8)} {s:List UInt8} (sl:Sl 1 h lv (strs l)) (hl:l.length ≤ 1000):∀ (m i f:Nat),l.length = i + m → m < f → (inP s (l.drop i) = true ∧ ∃ j:Nat,L67_0 lf f lv s l.length i h = some (.ret,[.int .i64 (j:Int)],h)) ∨ (inP s (l.drop i) = false ∧ L67_0 lf f lv s l.length i h = some (.exit 0,[],h)) := by
  intro m
  induction m with
  | zero =>
    intro i f hm hf
    obtain ⟨f,rfl⟩:∃ g,f = g + 1 := ⟨f - 1,by omega⟩
    have hd:decide ((i:Int) < (l.length:Int)) = false := decide_eq_false (by omega)
    have hn:l.drop i = [] := List.drop_of_length_le (by omega)
    simp only [L67_0,B67_0,hd,cB_false,hn,inP,List.any_nil,Bool.false_eq_true,false_and,false_or,true_and]
  | succ m ih =>
    intro i f hm hf
    obtain ⟨f,rfl⟩:∃ g,f = g + 1 := ⟨f - 1,by omega⟩
    have hlt:i < l.length := by omega
    have hd:decide ((i:Int) < (l.length:Int)) = true := decide_eq_true (by omega)
    have w1:IntKind.i64.wrap ((i:Int) + 1) = ((i + 1:Nat):Int) := by rw [wrap_i64 (by omega) (by omega)]; omega
    obtain ⟨a,a1,a2⟩ := sl.at1 (k := (i:Int)) (e := .str l[i]) (by omega) (by simp [strs,hlt]) rfl
    have ih' := ih (i + 1) f (by omega) (by omega)
    simp only [L67_0,B67_0,hd,cB_true,a1,a2,bind1_some,castStr_str,w1]
    rw [List.drop_eq_getElem_cons hlt]
    simp only [inP,List.any_cons]
    cases c:(s == l[i]) with
    | true => exact .inl ⟨rfl,i,rfl⟩
    | false =>
      simp only [cB_false,Bool.false_or]
      exact ih'
theorem cont73 {lf:Nat} {h:List Ob} {lv:V} {l:List (List UInt8)} {s:List UInt8} (sl:Sl 1 h lv (strs l)) (hl:l.length ≤ 1000) (hf:1000 < lf):F58 lf lv s h = some (.bool (inP s l),h) := by
  have := idxL lf (s := s) sl hl l.length 0 lf (by omega) (by omega)
  have z:((0:Nat):Int) = 0 := rfl
  rw [z,List.drop_zero] at this
  simp only [F58,F67,er_lenL sl,strs_len,bind1_some,castInt_int]
  rcases this with ⟨h1,j,h2⟩ | ⟨h1,h2⟩
  · rw [h2,h1,bind3_some]
    have hj:decide ((j:Int) ≥ 0) = true := decide_eq_true (by omega)
    simp only [show decide (EX.ret = EX.exit 0) = false from rfl,cB_false,decide_true,cB_true,castCons_cons,castInt_int,castNil_nil,bind2_some,hj]
  · rw [h2,h1,bind3_some]
    rfl
def fV (k n:Int) (s:List UInt8):Bool := if k = 0 then (n == 0 && s == []) else if k = 1 then s == [] else if k = 2 then (n == 0 && decide (s.length ≤ 100)) else false
theorem fV114 {lf:Nat} {h:List Ob} (k n:Int) (s:List UInt8):To2 (F45 lf k n s h) fun v h' => v = .bool (fV k n s) ∧ Kp h h' [] := by
  simp only [F45]
  refine To2.bind2 (box_to (cs := [.int .i64 k,.int .i64 n,.str s]) rfl) ?_
  rintro p h1 ⟨rfl,st,k1⟩
  have fa := fun o => st.faddr o 0 0
  have l0:er (.load1 (.c (.ptr h.length 0 0))) h1 = some (.int .i64 k) := st.load1 rfl
  have l1:er (.load1 (.c (.ptr h.length 0 1))) h1 = some (.int .i64 n) := st.load1 rfl
  have l2:er (.load1 (.c (.ptr h.length 0 2))) h1 = some (.str s) := st.load1 rfl
  have ll:er (.loadN 3 (.c (.ptr h.length 0 0))) h1 = some (.agg [.int .i64 k,.int .i64 n,.str s]) := st.loadN' rfl
  have eb:er (.build [(.int .i64 0),(.int .i64 0),(.str [])] []) h1 = some (.agg [.int .i64 0,.int .i64 0,.str []]) := rfl
  simp only [Nat.zero_add] at fa
  simp only [fa,l0,l1,l2,ll,eb,bind1_some,castInt_int,castStr_str,castAgg_agg,castCons_cons,castNil_nil,eqV3,castBool_bool]
  unfold fV
  have e2:decide ((s.length:Int) ≤ 100) = decide (s.length ≤ 100) := decide_eq_decide.2 (by omega)
  by_cases c0:k = 0
  · have e:(k == 0) = true := by simp [c0]
    rw [e,cB_true,if_pos c0,Bool.true_and]
    exact To2.some ⟨rfl,k1⟩
  · have e:(k == 0) = false := by simp [c0]
    rw [e,cB_false,if_neg c0]
    by_cases c1:k = 1
    · have e:(k == 1) = true := by simp [c1]
      rw [e,cB_true,if_pos c1]
      exact To2.some ⟨rfl,k1⟩
    · have e:(k == 1) = false := by simp [c1]
      rw [e,cB_false,if_neg c1]
      by_cases c2:k = 2
      · have e:(k == 2) = true := by simp [c2]
        rw [e,cB_true,if_pos c2,e2]
        cases (n == 0) <;> exact To2.some ⟨rfl,k1⟩
      · have e:(k == 2) = false := by simp [c2]
        rw [e,cB_false,if_neg c2]
        exact To2.some ⟨rfl,k1⟩
def ops4:List (List UInt8) := [[79,82],[65,78,68],[61],[60,62],[60],[60,61],[62],[62,61],[43],[45],[42]]
def aggs:List (List UInt8) := [[67,79,85,78,84],[83,85,77],[77,73,78],[77,65,88]]
theorem level115 (lf:Nat) (op:List UInt8) (h:List Ob):∃ m:Int,F22 lf op h = some (.int .i64 m,h) ∧ (m != 7) = inP op ops4 := by
  simp only [inP,ops4,List.any_cons,List.any_nil,Bool.or_false]
  unfold F22 S22_0
  cases (op == [79,82]) with
  | true => exact ⟨0,rfl,rfl⟩
  | false =>
    cases (op == [65,78,68]) with
    | true => exact ⟨1,rfl,rfl⟩
    | false =>
      cases (op == [61]) with
      | true => exact ⟨3,rfl,rfl⟩
      | false =>
        cases (op == [60,62]) with
        | true => exact ⟨3,rfl,rfl⟩
        | false =>
          cases (op == [60]) with
          | true => exact ⟨3,rfl,rfl⟩
          | false =>
            cases (op == [60,61]) with
            | true => exact ⟨3,rfl,rfl⟩
            | false =>
              cases (op == [62]) with
              | true => exact ⟨3,rfl,rfl⟩
              | false =>
                cases (op == [62,61]) with
                | true => exact ⟨3,rfl,rfl⟩
                | false =>
                  cases (op == [43]) with
                  | true => exact ⟨4,rfl,rfl⟩
                  | false =>
                    cases (op == [45]) with
                    | true => exact ⟨4,rfl,rfl⟩
                    | false =>
                      cases (op == [42]) with
                      | true => exact ⟨5,rfl,rfl⟩
                      | false => exact ⟨7,rfl,rfl⟩
theorem agg116 {lf:Nat} (hf:1000 < lf) {h:List Ob} (op:List UInt8):To2 (F47 lf op h) fun v h' => v = .bool (inP op aggs) ∧ Kp h h' [] := by
  simp only [F47]
  refine To2.bind2 (bslice_to (ps := [(0,.str [67,79,85,78,84]),(1,.str [83,85,77]),(2,.str [77,73,78]),(3,.str [77,65,88])]) (es := strs aggs) (by decide) rfl rfl rfl) ?_
  rintro x h1 ⟨-,-,sx,-,k1,-⟩
  rw [cont73 sx (by decide) hf,bind2_some,castBool_bool]
  exact To2.some ⟨rfl,k1⟩
def nameP (s:List UInt8):Bool := namedP s && !kwP s
def plainB (n:Nd):Bool := n.tb == [] && n.cl == []
def zeroB (n:Nd):Bool := n.vk == 0 && (n.vn == 0 && n.vs == [])
/-- What a kind has. -/
def shB (n:Nd) (l:Nat):Bool :=
  if n.k = 1 then decide (l = 0) && (plainB n && (n.op == [] && (fV n.vk n.vn n.vs && decide (n.vn ≥ 0))))
  else if n.k = 2 then decide (l = 0) && (zeroB n && (n.op == [] && (nameP n.cl && (n.tb == [] || nameP n.tb))))
  else if n.k = 3 then decide (l = 1) && (plainB n && (zeroB n && inP n.op [[78,79,84],[45]]))
  else if n.k = 4 then decide (l = 2) && (plainB n && (zeroB n && inP n.op ops4))
  else if n.k = 5 then decide (l = 1) && (plainB n && (zeroB n && inP n.op [[73,83,32,78,85,76,76],[73,83,32,78,79,84,32,78,85,76,76]]))
  else if n.k = 6 then plainB n && (zeroB n && (inP n.op aggs && (decide (l = 1) || (decide (l = 0) && n.op == [67,79,85,78,84]))))
  else false
theorem int_eq (l m:Nat):((l:Int) == (m:Int)) = decide (l = m) := by
  by_cases q:l = m
  · simp [q]
  · have:(l:Int) ≠ (m:Int) := by omega
    simp [q,this]
/-- Names fit. -/
def nOk (n:Nd):Prop := n.tb.length ≤ 1000000000000000 ∧ n.cl.length ≤ 1000000000000000
theorem name24' {lf:Nat} {s:List UInt8} {h:List Ob} (hf:300 < lf) (hf2:s.length < lf) (hs:s.length ≤ 1000000000000000):To2 (F46 lf s h) fun v h' => v = .bool (nameP s) ∧ Kp h h' [] := by
  simp only [F46]
  refine To2.bind2 (named58 hf2 (by omega)) ?_
  rintro v h1 ⟨rfl,k1⟩
  rw [castBool_bool]
  unfold nameP
  cases namedP s with
  | false => exact To2.some ⟨rfl,k1⟩
  | true =>
    simp only [cB_true,kw26,bind2_some,castBool_bool,Bool.true_and]
    exact To2.some ⟨rfl,k1⟩
end Go.Proofs.YtjpjeilfmjdhcaaDoor.Ex
