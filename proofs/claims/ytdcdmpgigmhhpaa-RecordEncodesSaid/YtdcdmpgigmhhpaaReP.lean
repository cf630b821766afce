/- RecordEncodes: the law's answer for every input. No condition. -/
import Derived.Test.YtdcdmpgigmhhpaaRes
import Derived.Test.YtdcdmpgigmhhpaaRcT
namespace Go.Proofs.Ytdcdmpgigmhhpaa.Re
open Go Go.Proofs.Ytdcdmpgigmhhpaa.E
open Go.Proofs.Ytdcdmpgigmhhpaa.Va Go.Proofs.Ytdcdmpgigmhhpaa.Rc
set_option maxRecDepth 100000
set_option linter.unusedVariables false
set_option linter.unusedSimpArgs false

theorem start {lf : Nat} (hf : 1000 < lf) {h : List Ob} {v : V} {row : List R} (s : Sl 3 h v (rows row)) :
    To3 (S9_1 lf v h) fun x vs h' => Kp h h' [] ∧ ((x = .ret ∧ vs = [.bool true] ∧ row.length > 1000) ∨ (x = .normal ∧ vs = [] ∧ row.length ≤ 1000)) := by
  simp only [S9_1]
  refine To3.bind2 (awake36 hf) ?_
  rintro u h1 ⟨rfl, k1⟩
  simp only [castBool_bool, Bool.not_true, cB_false, er_lenL (s.kp k1), rows_len, bind1_some, castInt_int]
  by_cases c : row.length > 1000
  · have d : decide ((row.length : Int) > 1000) = true := decide_eq_true (by omega)
    simp only [d, cB_true]
    refine To3.bind2 (awake36 hf) ?_
    rintro u h2 ⟨rfl, k2⟩
    simp only [castBool_bool]
    exact To3.some ⟨k1.tr k2, .inl ⟨rfl, rfl, c⟩⟩
  · have d : decide ((row.length : Int) > 1000) = false := decide_eq_false (by omega)
    simp only [d, cB_false]
    exact To3.some ⟨k1, .inr ⟨rfl, rfl, by omega⟩⟩

theorem law9 {lf : Nat} (hf : 3000 < lf) {h : List Ob} {v : V} {row : List R} (s : Sl 3 h v (rows row)) (hi : ∀ r, r ∈ row → inR r) : To2 (F9 lf v h) fun u _ => u = .bool true := by
  simp only [F9]
  refine To2.bind3 (start (by omega) s) ?_
  rintro x vs h1 ⟨k1, ⟨rfl, rfl, -⟩ | ⟨rfl, rfl, hl⟩⟩
  · simp only [decide_true, cB_true, castCons_cons, castBool_bool, castNil_nil]
    exact To2.some rfl
  · simp only [show decide (EX.normal = EX.ret) = false from rfl, decide_true, cB_true, cB_false, castNil_nil]
    refine To2.bind2 (enc37 (s.kp k1) (by omega) (by omega) hi) ?_
    rintro u h2 ⟨b, rfl, nb⟩
    simp only [castTup_tup, castCons_cons, castInt_int, castNil_nil]
    have k2 := k1.tr nb.2.2.1
    refine To2.bind2 (enc38 (s.kp k2) (by omega) (by omega) hi) ?_
    rintro u h3 ⟨c, rfl, nc⟩
    simp only [castTup_tup, castCons_cons, castInt_int, castNil_nil]
    have k3 := k2.tr nc.2.2.1
    have sb := nb.1.kp nc.2.2.1
    have hS : S9_0 lf b (encR row).2 c (encR row).2 h3 = some (.normal, [], h3) := by
      simp only [S9_0, er_toStr sb, er_toStr nc.1, bind1_some, castStr_str, beq_self_eq_true, Bool.not_true, cB_false, bne_self_eq_false]
    simp only [hS, bind3_some, show decide (EX.normal = EX.ret) = false from rfl, decide_true, cB_true, cB_false, castNil_nil]
    by_cases c : (encR row).2 = 0
    · obtain ⟨g1, g2, g3⟩ := encR_ok c
      rw [g2] at sb
      refine To2.bind2 (dec39 sb (encB_byt g1) (by omega) (by omega) (.inr (by omega))) ?_
      rintro u h4 ⟨w, rfl, sw, k4, -⟩
      have hd : decR (encB row) = (row, 0) := by
        have := decP_of g1 hi (by omega) []
        rw [List.append_nil] at this
        simp [decR, this, g3]
      rw [hd] at sw
      have sw : Sl 3 h4 w (rows row) := sw
      simp only [hd, castTup_tup, castCons_cons, castInt_int, castNil_nil, c, bne_self_eq_false, cB_false, beq_self_eq_true, cB_true]
      refine To2.bind2 (same40 sw (s.kp (k3.tr k4)) (by omega) (by omega)) ?_
      rintro u h5 rfl
      simp only [castBool_bool]
      exact To2.some rfl
    · have he := encR_e row c
      rw [he] at sb
      refine To2.bind2 (dec39 sb (by intro m hm; cases hm) (by simp) (by simp; omega) (.inr (by simp))) ?_
      rintro u h4 ⟨w, rfl, sw, k4, -⟩
      have hc : ((encR row).2 != 0) = true := by simp [c]
      simp only [castTup_tup, castCons_cons, castInt_int, castNil_nil, hc, cB_true]
      exact To2.some rfl

theorem shape {H : Type} {d0 : DataW H} {u0 : List V} (h0 : dV Try.prog d0 61 = some u0) :
    ∃ y0, u0 = [y0] ∧ CE Try.prog 9 [y0] [] fun v _ => v = .bool true := by
  obtain ⟨y, row, rfl, s, -, hi, hl⟩ := dV_rows Try.underlying61 Try.underlying91 rfl Try.underlying3 Try.underlying2 Try.underlying9 h0
  obtain ⟨v, h', e, q⟩ := law9 (lf := 3001) (h := []) (by omega) (s []) hi
  exact ⟨_, rfl, (F9_ok _ _ _ _ _ e).2.mono fun v2 h2 z => by rw [z.1]; exact q⟩
end Go.Proofs.Ytdcdmpgigmhhpaa.Re
