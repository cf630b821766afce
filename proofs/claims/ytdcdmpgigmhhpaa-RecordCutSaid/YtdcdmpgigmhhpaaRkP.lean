/- RecordCut: the law's answer for every input. No condition. -/
import Derived.Test.YtdcdmpgigmhhpaaRks
import Derived.Test.YtdcdmpgigmhhpaaRcT
import Derived.SizedLaws
namespace Go.Proofs.Ytdcdmpgigmhhpaa.Rk
open Go Go.Proofs.Ytdcdmpgigmhhpaa.E
open Go.Proofs.Ytdcdmpgigmhhpaa.Va Go.Proofs.Ytdcdmpgigmhhpaa.Rc
set_option maxRecDepth 100000
set_option linter.unusedVariables false
set_option linter.unusedSimpArgs false

theorem start {lf : Nat} (hf : 1000 < lf) {h : List Ob} {v : V} {row : List R} (s : Sl 3 h v (rows row)) :
    To3 (S11_1 lf v h) fun x vs h' => Kp h h' [] ∧ ((x = .ret ∧ vs = [.bool true] ∧ row.length > 1000) ∨ (x = .normal ∧ vs = [] ∧ row.length ≤ 1000)) := by
  simp only [S11_1]
  refine To3.bind2 (awake36 hf) ?_
  rintro u h1 ⟨rfl, k1⟩
  simp only [castBool_bool, Bool.not_true, cB_false, er_lenL (s.kp k1), rows_len, bind1_some, castInt_int]
  by_cases c : row.length > 1000
  · have d : decide ((row.length : Int) > 1000) = true := decide_eq_true (by omega)
    simp only [d, cB_true]
    refine To3.bind2 (awake36 hf) ?_
    rintro u h2 ⟨rfl, k2⟩
    simp only [castBool_bool]
    exact To3.some ⟨k1.tr k2, .inl ⟨rfl, rfl, c⟩⟩
  · have d : decide ((row.length : Int) > 1000) = false := decide_eq_false (by omega)
    simp only [d, cB_false]
    exact To3.some ⟨k1, .inr ⟨rfl, rfl, by omega⟩⟩

theorem s11 {lf : Nat} {h : List Ob} {b : V} {row : List R} (sb : Sl 1 h b (bv (encR row).1)) : S11_0 lf b (encR row).2 h = some (if (encR row).2 = 0 then (.normal, [], h) else (.ret, [.bool true], h)) := by
  unfold S11_0
  by_cases c : (encR row).2 = 0
  · obtain ⟨g1, g2, g3⟩ := encR_ok c
    rw [if_pos c]
    have hb : (((encR row).2) != 0) = false := by simp [c]
    have hl : (((encR row).1.length : Int) == 0) = false := by rw [g2]; have := encB_len row; exact beq_eq_false_iff_ne.2 (by omega)
    simp only [hb, cB_false, er_lenL sb, bv_length, bind1_some, castInt_int, hl]
  · rw [if_neg c]
    have hb : (((encR row).2) != 0) = true := by simp [c]
    simp only [hb, cB_true]

theorem law11 {lf : Nat} {h : List Ob} {v m : V} {row : List R} {cut : Int} {mo : List Int} (hf : 3000 + mo.length < lf) (ha : 0 ≤ cut ∧ cut < 18446744073709551616) (s : Sl 3 h v (rows row)) (hi : ∀ r, r ∈ row → inR r)
    (sm : Sl 1 h m (bv mo)) (hmo : Byt mo) (lm : mo.length ≤ 140737488351232) : To2 (F11 lf v cut m h) fun u _ => u = .bool true := by
  have hr : roomMax = 140737488355328 := rfl
  simp only [F11]
  refine To2.bind3 (start (by omega) s) ?_
  rintro x vs h1 ⟨k1, ⟨rfl, rfl, -⟩ | ⟨rfl, rfl, hl⟩⟩
  · simp only [decide_true, cB_true, castCons_cons, castBool_bool, castNil_nil]
    exact To2.some rfl
  · simp only [show decide (EX.normal = EX.ret) = false from rfl, decide_true, cB_true, cB_false, castNil_nil]
    refine To2.bind2 (enc37 (s.kp k1) (by omega) (by omega) hi) ?_
    rintro u h2 ⟨b, rfl, nb⟩
    simp only [castTup_tup, castCons_cons, castInt_int, castNil_nil, s11 nb.1]
    by_cases c : (encR row).2 = 0
    · obtain ⟨g1, g2, g3⟩ := encR_ok c
      have lb := encB_len row
      rw [g2] at nb
      have ew : IntKind.u64.wrap ((encB row).length : Int) = ((encB row).length : Int) := by rw [wrap_u64]; omega
      have hne : ((encB row).length : Int) ≠ 0 := by omega
      have er1 : er (.bin .rem (.c (.int .u64 cut)) (.c (.int .u64 ((encB row).length : Int)))) h2 = some (.int .u64 ((cut.toNat % (encB row).length : Nat) : Int)) := by
        simp only [er, ev, evOq, x_bin, getC, evBin, if_true, evInt]
        rw [if_neg hne, Int.tmod_eq_emod_of_nonneg ha.1]
        have : cut % ((encB row).length : Int) = ((cut.toNat % (encB row).length : Nat) : Int) := by
          rw [Int.natCast_emod, Int.toNat_of_nonneg ha.1]
        rw [this]; rfl
      have hlt : cut.toNat % (encB row).length < (encB row).length := Nat.mod_lt _ (by omega)
      generalize cut.toNat % (encB row).length = i at er1 hlt
      have hby := encB_byt g1
      obtain ⟨z, ez, sz, iz⟩ := slc_to (lo := none) (hi := some (.c (.int .u64 (i : Int)))) (a := 0) (b := i) nb.1 bv_cells rfl (by simp only [Option.map_some, getC, bndV]; rw [if_pos (by omega), Int.toNat_natCast]) (by omega) (by rw [bv_length]; omega)
      rw [List.drop_zero, bv_take, Nat.sub_zero] at sz
      simp only [if_pos c, bind3_some, show decide (EX.normal = EX.ret) = false from rfl, decide_true, cB_true, cB_false, castNil_nil, er_lenL nb.1, bv_length, bind1_some, castInt_int, ew, er1, ez]
      refine To2.bind2 (dec39 sz (Byt.take hby i) (by simp; omega) (by simp; omega) (.inr (by simp; omega))) ?_
      rintro u h3 ⟨w, rfl, sw, k3, -⟩
      simp only [castTup_tup, castCons_cons, castInt_int, castNil_nil]
      have hP := decP_of g1 hi (by omega)
      have hR1 : decR ((encB row).take i) = ([], 2) := by
        unfold decR
        split
        · rename_i row' q
          exfalso
          obtain ⟨e1, e2, e3⟩ := decP_back (Byt.take hby i) q
          rw [List.append_nil] at e1
          have l2 := encB_len row'
          have q1 := decP_of e2 e3 (by rw [← e1] at l2; simp at l2; omega) ((encB row).drop i)
          rw [← e1, List.take_append_drop] at q1
          have q2 := hP []
          rw [List.append_nil, q1] at q2
          injection q2 with q2; injection q2 with q2 q3
          have := congrArg List.length q3
          simp at this
          omega
        · rfl
      refine To2.bind2 (bslice_to (ps := []) (es := bv []) (by decide) rfl rfl rfl) ?_
      rintro x4 h4 ⟨-, -, s4, a4, k4, f4⟩
      have sb4 := (nb.1.kp k3).kp k4
      refine To2.bind2 (app_to s4 a4 sb4.c (by simp; omega)) ?_
      intro x5 h5 q5
      have n5 : New h3 _ x5 h5 := New.beh ⟨s4, a4, k4, f4⟩ q5
      have sm5 := (sm.kp ((k1.tr nb.2.2.1).tr k3)).kp n5.2.2.1
      refine To2.bind2 (app_to n5.1 n5.2.1 sm5.c (by simp; omega)) ?_
      intro x6 h6 q6
      have n6 := New.beh n5 q6
      have s6 : Sl 1 h6 x6 (bv (encB row ++ mo)) := by simpa [bv] using n6.1
      have ht : (takeF (encB row ++ mo) 0 0).1 = row.length := by
        unfold encB
        rw [List.append_assoc, takeF_num _ (by omega)]
      refine To2.bind2 (dec39 s6 (fun m hm => (List.mem_append.1 hm).elim (hby m) (hmo m)) (by simp; omega) (by simp; omega) (.inl (by rw [ht]; omega))) ?_
      rintro u h7 ⟨w7, rfl, sw7, k7, -⟩
      have sm7 := (sm.kp ((k1.tr nb.2.2.1).tr k3)).kp (n6.2.2.1.tr k7)
      have hR2 : (decR (encB row ++ mo)).2 = if mo.length = 0 then 0 else 2 := by
        unfold decR
        rw [hP mo]
        cases mo with
        | nil => simp [g3]
        | cons x mo => simp
      simp only [castTup_tup, castCons_cons, castInt_int, castNil_nil, hR1, beq_self_eq_true, cB_true, er_lenL sm7, bv_length, bind1_some, hR2]
      refine To2.some ?_
      by_cases z0 : mo.length = 0
      · simp [z0]
      · have d : decide ((mo.length : Int) > 0) = true := decide_eq_true (by omega)
        simp only [z0, if_false, d]
        rfl
    · simp only [if_neg c, bind3_some, decide_true, cB_true, castCons_cons, castBool_bool, castNil_nil]
      exact To2.some rfl

theorem shape {H : Type} {d0 d1 d2 : DataW H} {u0 u1 u2 : List V} (hsz : (DataW.weightsEach Try.prog [61, 37, 22] [d0, d1, d2]).all (· ≤ reachBytes) = true) (h0 : dV Try.prog d0 61 = some u0) (h1 : dV Try.prog d1 37 = some u1) (h2 : dV Try.prog d2 22 = some u2) :
    ∃ y0 y1 y2, u0 = [y0] ∧ u1 = [y1] ∧ u2 = [y2] ∧ CE Try.prog 11 [y0, y1, y2] [] fun v _ => v = .bool true := by
  obtain ⟨y, row, rfl, s, -, hi, hl⟩ := dV_rows Try.underlying61 Try.underlying91 rfl Try.underlying3 Try.underlying2 Try.underlying9 h0
  obtain ⟨a, rfl, la⟩ := dV_u64 Try.underlying37 h1
  obtain ⟨m, ms, rfl, sm, -, hm, lm, -⟩ := dV_bytes Try.underlying22 Try.underlying5 h2
  have lm' := bytes_sized hsz (j := 2) rfl rfl Try.underlying22 (by kernel_rfl) h2 sm
  obtain ⟨v, h', e, q⟩ := law11 (lf := 3001 + ms.length) (h := []) (by omega) la (s []) hi (sm []) hm lm'
  exact ⟨_, _, _, rfl, rfl, rfl, (F11_ok _ _ _ _ _ _ _ e).2.mono fun v2 h2 z => by rw [z.1]; exact q⟩
end Go.Proofs.Ytdcdmpgigmhhpaa.Rk
