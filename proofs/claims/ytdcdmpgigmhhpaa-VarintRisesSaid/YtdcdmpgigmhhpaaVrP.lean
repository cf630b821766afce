/- VarintRises: the law's answer for every input. No condition. -/
import Derived.Test.YtdcdmpgigmhhpaaVrs
import Derived.Test.YtdcdmpgigmhhpaaVaQ
import Derived.Test.YtdcdmpgigmhhpaaE38
namespace Go.Proofs.Ytdcdmpgigmhhpaa.Vr
open Go Go.Proofs.Ytdcdmpgigmhhpaa.E
open Go.Proofs.Ytdcdmpgigmhhpaa.Va
set_option maxRecDepth 100000
set_option linter.unusedVariables false
set_option linter.unusedSimpArgs false

theorem awake14 {lf : Nat} (hf : 20 < lf) {h : List Ob} : To2 (F14 lf h) fun v h' => v = .bool true ∧ Kp h h' [] := by
  simp only [F14]
  refine To2.bind2 (bslice_to (ps := [(0, .int .u8 5)]) (es := bv [5]) (by decide) rfl rfl rfl) ?_
  rintro x h1 ⟨-, -, sx, -, kx, -⟩
  rw [take15 sx (by intro m hm; simp at hm; omega) (by simp) (by simp; omega)]
  have : takeF [5] 0 0 = (5, 1, 0) := by decide
  simp only [bind2_some, this, tk, castTup_tup, castCons_cons, castInt_int, castNil_nil]
  exact To2.some ⟨rfl, kx⟩

theorem law5 {lf : Nat} (hf : 20 < lf) {h : List Ob} {n m c : Int} (hn : 0 ≤ n ∧ n < 18446744073709551616) (hm : 0 ≤ m ∧ m < 18446744073709551616) (hc : 0 ≤ c ∧ c < 18446744073709551616) :
    To2 (F5 lf n m c h) fun v _ => v = .bool true := by
  obtain ⟨n, rfl⟩ := Int.eq_ofNat_of_zero_le hn.1
  obtain ⟨m, rfl⟩ := Int.eq_ofNat_of_zero_le hm.1
  obtain ⟨c, rfl⟩ := Int.eq_ofNat_of_zero_le hc.1
  have hr : roomMax = 70368744177664 := rfl
  have hmax : (if (m : Int) > (n : Int) then (m : Int) else (n : Int)) = ((max n m : Nat) : Int) := by split <;> omega
  simp only [F5]
  refine To2.bind2 (awake14 hf) ?_
  rintro v h1 ⟨rfl, k1⟩
  simp only [castBool_bool, Bool.not_true, cB_false, hmax]
  refine To2.bind2 (app26 (bs := []) hf (Sl.nils 1 h1) (by omega) (by simp; omega)) ?_
  intro x h2 nx
  refine To2.bind2 (app26 (bs := []) hf (Sl.nils 1 h2) (n := max n m) (by omega) (by simp; omega)) ?_
  intro y h3 ny
  simp only [List.nil_append] at nx ny
  have sx := nx.1.kp ny.2.2.1
  have sy := ny.1
  have lx := numB_len n
  have px := numB_pos n
  have ly := numB_len (max n m)
  have hl : ((numB n).length : Int) ≠ 0 := by omega
  have c0 : (((numB n).length : Int) == 0) = false := beq_eq_false_iff_ne.2 hl
  have ew : IntKind.u64.wrap ((numB n).length : Int) = ((numB n).length : Int) := by rw [wrap_u64]; omega
  have er1 : er (.bin .rem (.c (.int .u64 (c : Int))) (.c (.int .u64 ((numB n).length : Int)))) h3 = some (.int .u64 ((c % (numB n).length : Nat) : Int)) := by
    simp only [er, ev, evOq, x_bin, getC, evBin, if_true, evInt]
    rw [if_neg hl, Int.tmod_eq_emod_of_nonneg hc.1]
    rfl
  have hlt : c % (numB n).length < (numB n).length := Nat.mod_lt _ px
  obtain ⟨z, ez, sz, -⟩ := slc_to (lo := none) (hi := some (.c (.int .u64 ((c % (numB n).length : Nat) : Int)))) (a := 0) (b := c % (numB n).length) sx bv_cells rfl (by simp only [Option.map_some, getC, bndV]; rw [if_pos (by omega), Int.toNat_natCast]) (by omega) (by rw [bv_length]; omega)
  rw [List.drop_zero, bv_take, Nat.sub_zero] at sz
  simp only [er_lenL sx, bv_length, bind1_some, castInt_int, c0, cB_false, ew, er1, ez]
  rw [take15 sz (fun x hx => numB_byt n x (List.mem_of_mem_take hx)) (by simp; omega) (by simp; omega), takeF_cut n _ hlt]
  have c1 : decide (((numB n).length : Int) ≤ ((numB (max n m)).length : Int)) = true := decide_eq_true (Int.ofNat_le.2 (numB_mono (Nat.le_max_left n m)))
  have c2 : decide (((numB (max n m)).length : Int) ≤ 10) = true := decide_eq_true (by omega)
  have c3 : ((by8 (numB n) == by8 (numB (max n m))) == decide ((n : Int) ≥ (m : Int))) = true := by
    by_cases q : m ≤ n
    · have : max n m = n := by omega
      rw [this, decide_eq_true (by omega)]; simp
    · rw [decide_eq_false (by omega), beq_iff_eq, beq_eq_false_iff_ne]
      intro e
      have := numB_inj (by omega) (by omega) (by8_inj (numB_byt _) (numB_byt _) e)
      omega
  simp only [bind2_some, tk, castTup_tup, castCons_cons, castInt_int, castNil_nil, er_lenL sx, er_lenL sy, bv_length, bind1_some, c1, c2, cB_true, er_toStr sx, er_toStr sy, castStr_str, c3]
  exact To2.some rfl

theorem shape {H : Type} {d0 d1 d2 : DataW H} {u0 u1 u2 : List V} (h0 : dV Try.prog d0 24 = some u0) (h1 : dV Try.prog d1 24 = some u1) (h2 : dV Try.prog d2 37 = some u2) :
    ∃ y0 y1 y2, u0 = [y0] ∧ u1 = [y1] ∧ u2 = [y2] ∧ CE Try.prog 5 [y0, y1, y2] [] fun v _ => v = .bool true := by
  obtain ⟨n, rfl, l1⟩ := dV_u64 Try.underlying24 h0
  obtain ⟨m, rfl, l2⟩ := dV_u64 Try.underlying24 h1
  obtain ⟨c, rfl, l3⟩ := dV_u64 Try.underlying37 h2
  obtain ⟨v, h', e, q⟩ := law5 (lf := 21) (h := []) (by omega) l1 l2 l3
  exact ⟨_, _, _, rfl, rfl, rfl, (F5_ok _ _ _ _ _ _ _ e).2.mono fun v2 h2 z => by rw [z.1]; exact q⟩
end Go.Proofs.Ytdcdmpgigmhhpaa.Vr
