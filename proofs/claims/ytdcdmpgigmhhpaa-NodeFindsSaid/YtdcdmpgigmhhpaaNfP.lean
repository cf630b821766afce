/- NodeFinds: the law's answer for every input. No condition. -/
import Derived.Test.YtdcdmpgigmhhpaaNfs
import Derived.Test.YtdcdmpgigmhhpaaNdS
namespace Go.Proofs.Ytdcdmpgigmhhpaa.Nf
open Go Go.Proofs.Ytdcdmpgigmhhpaa.E
open Go.Proofs.Ytdcdmpgigmhhpaa.Va Go.Proofs.Ytdcdmpgigmhhpaa.Nd
set_option maxRecDepth 100000
set_option linter.unusedVariables false
set_option linter.unusedSimpArgs false

theorem start {lf : Nat} (hf : 2000000 < lf) {h : List Ob} {K W D : V} {n : N} {id : Nat} (st : St h id (nC n K W D)) (s : NR h K W D n) :
    To3 (S8_0 lf (.ptr id 0 0) h) fun x vs h' => Kp h h' [] ∧ ((x = .ret ∧ vs = [.bool true]) ∨ (x = .normal ∧ vs = [] ∧ n.keys.length ≤ 300 ∧ n.vals.length ≤ 300 ∧ n.kids.length ≤ 300 ∧ (∀ k, k ∈ n.keys → k.length ≤ 1000) ∧ ∀ k, k ∈ n.vals → k.length ≤ 1000)) := by
  simp only [S8_0]
  refine To3.bind2 (awake32 hf) ?_
  rintro u h1 ⟨rfl, k1⟩
  have lN := (st.kp k1).loadN' (n := 4) rfl
  simp only [castBool_bool, Bool.not_true, cB_false, lN, nC, bind1_some, castAgg_agg, castCons_cons, castNil_nil]
  refine To3.bind2 (few33 (by omega) (s.kp k1)) ?_
  rintro u h2 ⟨k2, ⟨rfl, q⟩ | rfl⟩
  · simp only [castBool_bool, Bool.not_true, cB_false]
    exact To3.some ⟨k1.tr k2, .inr ⟨rfl, rfl, q⟩⟩
  · simp only [castBool_bool, Bool.not_false, cB_true]
    refine To3.bind2 (awake32 hf) ?_
    rintro u h3 ⟨rfl, k3⟩
    simp only [castBool_bool]
    exact To3.some ⟨(k1.tr k2).tr k3, .inl ⟨rfl, rfl⟩⟩
theorem small_of {n : N} (q : n.keys.length ≤ 300 ∧ n.vals.length ≤ 300 ∧ n.kids.length ≤ 300 ∧ (∀ k, k ∈ n.keys → k.length ≤ 1000) ∧ ∀ k, k ∈ n.vals → k.length ≤ 1000) : small n :=
  ⟨by omega, by omega, by omega, fun k hk => by have := q.2.2.2.1 k hk; omega, fun k hk => by have := q.2.2.2.2 k hk; omega⟩

theorem law8 {lf : Nat} (hf : 2000000 < lf) {h : List Ob} {K W D y : V} {n : N} {key : List Int} (s : NR h K W D n) (sy : Sl 1 h y (bv key)) : To2 (F8 lf n.leaf K W D y h) fun v _ => v = .bool true := by
  simp only [F8]
  refine To2.bind2 s.box ?_
  rintro p h1 ⟨rfl, st, k1⟩
  refine To2.bind3 (start hf st (s.kp k1)) ?_
  rintro x vs h2 ⟨k2, ⟨rfl, rfl⟩ | ⟨rfl, rfl, q⟩⟩
  · simp only [decide_true, cB_true, castCons_cons, castBool_bool, castNil_nil]
    exact To2.some rfl
  · have sm := small_of q
    have lN := (st.kp k2).loadN' (n := 4) rfl
    have s2 := s.kp (k1.tr k2)
    simp only [show decide (EX.normal = EX.ret) = false from rfl, decide_true, cB_true, cB_false, castNil_nil, lN, nC, bind1_some, castAgg_agg, castCons_cons, castBool_bool]
    refine To2.bind2 (find34 hf s2 sm (sy.kp (k1.tr k2))) ?_
    rintro v h3 ⟨rfl, k3⟩
    have lN3 := (st.kp (k2.tr k3)).loadN' (n := 4) rfl
    simp only [findR, castTup_tup, castCons_cons, castInt_int, castBool_bool, castNil_nil, lN3, nC, bind1_some, castAgg_agg]
    refine To2.bind2 (find35 hf (s2.kp k3) sm (sy.kp ((k1.tr k2).tr k3))) ?_
    rintro v h4 ⟨rfl, k4⟩
    simp only [findR, castTup_tup, castCons_cons, castInt_int, castBool_bool, castNil_nil, beq_self_eq_true, cB_true]
    exact To2.some rfl

theorem shape {H : Type} {d0 d1 : DataW H} {u0 u1 : List V} (h0 : dV Try.prog d0 54 = some u0) (h1 : dV Try.prog d1 22 = some u1) :
    ∃ y1, u1 = [y1] ∧ CE Try.prog 8 [.agg u0, y1] [] fun v _ => v = .bool true := by
  obtain ⟨n, K, W, D, rfl, s, -, -⟩ := dV_node Try.underlying54 rfl Try.underlying4 Try.underlying51 Try.underlying51 Try.underlying52 Try.underlying22 Try.underlying5 Try.underlying3 h0
  obtain ⟨y, key, rfl, sy, -, -, -, -⟩ := dV_bytes Try.underlying22 Try.underlying5 h1
  obtain ⟨v, h', e, q⟩ := law8 (lf := 2000001) (h := []) (by omega) (s []) (sy [])
  exact ⟨_, rfl, (F8_ok _ _ _ _ _ _ _ _ _ e).2.mono fun v2 h2 z => by rw [z.1]; exact q⟩
end Go.Proofs.Ytdcdmpgigmhhpaa.Nf
