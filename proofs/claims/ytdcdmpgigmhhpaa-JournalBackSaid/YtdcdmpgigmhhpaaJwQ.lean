/- JournalWrites: records; the law's answer for every input. No condition. -/
import Derived.Test.YtdcdmpgigmhhpaaJwP
namespace Go.Proofs.Ytdcdmpgigmhhpaa.Jw
open Go Go.Proofs.Ytdcdmpgigmhhpaa.E
set_option maxRecDepth 100000
set_option linter.unusedVariables false
set_option linter.unusedSimpArgs false

def RecQ (h : List Ob) (salt n : Int) (ds : List Int) (v : V) (h' : List Ob) : Prop :=
  if n < 0 ∨ n > 10000 ∨ ds.length ≠ 512 then v = .tup [.nils, .int .i64 1] ∧ h' = h else ∃ x, v = .tup [x, .int .i64 0] ∧ New h (bv (recB salt n ds)) x h'

theorem rec22 {lf : Nat} (hf : 1000 < lf) {h : List Ob} {salt n : Int} {d : V} {ds : List Int} (h0 : 0 ≤ salt) (sd : Sl 1 h d (bv ds)) : To2 (F22 lf salt n d h) (RecQ h salt n ds) := by
  unfold RecQ
  by_cases hc : n < 0 ∨ n > 10000 ∨ ds.length ≠ 512
  · simp only [if_pos hc]
    have : S22_0 lf n d h = some (.ret, [V.nils, .int .i64 1], h) := by
      unfold S22_0
      by_cases c1 : n < 0
      · simp [c1]
      · by_cases c2 : n > 10000
        · simp [c1, c2]
        · have c3 : ds.length ≠ 512 := by omega
          have c4 : ((ds.length : Int) != 512) = true := by simp; omega
          simp only [er_lenL sd, bv_length, c1, c2, decide_false, cB_false, bind1_some, castInt_int, c4, cB_true]
    simp only [F22, this, bind3_some, decide_true, cB_true, castCons_cons, castNil_nil, castInt_int]
    exact To2.some ⟨rfl, rfl⟩
  · simp only [if_neg hc]
    have c1 : ¬ n < 0 := by omega
    have c2 : ¬ n > 10000 := by omega
    have c3 : ds.length = 512 := by omega
    have : S22_0 lf n d h = some (.normal, [], h) := by
      unfold S22_0
      have c4 : ((ds.length : Int) != 512) = false := by simp; omega
      simp only [er_lenL sd, bv_length, c1, c2, decide_false, cB_false, bind1_some, castInt_int, c4]
    have e1 : IntKind.u64.wrap n = n := by rw [wrap_u64]; omega
    simp only [F22, this, bind3_some, show decide (EX.normal = EX.ret) = false from rfl, decide_true, cB_true, cB_false, castNil_nil, e1]
    refine To2.bind2 (put49 (k := 4) (ms := []) (by omega) (by decide) (by omega) (Sl.nils 1 h) Ap.nils (by simp)) ?_
    intro x1 h1 q1
    have n1 := Beh.new q1
    have sd1 := sd.kp n1.2.2.1
    refine To2.bind2 (app_to n1.1 n1.2.1 sd1.c (by simp [roomMax, c3])) ?_
    intro x2 h2 q2
    have n2 := n1.beh q2
    have s2 : Sl 1 h2 x2 (bv (putB n 4 ++ ds)) := by simpa only [bv_append, List.nil_append] using n2.1
    refine To2.bind2 (put49 (k := 8) (ms := []) h0 (by decide) (by omega) (Sl.nils 1 h2) Ap.nils (by simp)) ?_
    intro y3 h3 r3
    have m3 := Beh.new r3
    have s3 := s2.keep m3.2.2.1 (fun _ _ q => by cases q)
    refine To2.bind2 (app_to m3.1 m3.2.1 s3.c (by simp [roomMax, c3])) ?_
    intro y4 h4 r4
    have m4 := m3.beh r4
    have t4 : Sl 1 h4 y4 (bv (putB salt 8 ++ (putB n 4 ++ ds))) := by simpa only [bv_append, List.nil_append] using m4.1
    rw [sum24 t4 (by simp; omega) (by simp; omega)]
    have hr := sumB_range (putB salt 8 ++ (putB n 4 ++ ds))
    have e3 : IntKind.u64.wrap (sumB (putB salt 8 ++ (putB n 4 ++ ds))) = sumB (putB salt 8 ++ (putB n 4 ++ ds)) := by rw [wrap_u64]; omega
    simp only [bind2_some, castInt_int, e3]
    have n4 : New h (bv (putB n 4 ++ ds)) x2 h4 := New.keep ⟨s2, n2.2.1, n2.2.2.1, n2.2.2.2⟩ m4.2.2.1
    refine To2.bind2 (put49 (k := 4) (by omega) (by decide) (by omega) n4.1 n4.2.1 (by simp; omega)) ?_
    intro x5 h5 q5
    have n5 := n4.beh q5
    refine To2.bind2 (pad50 (n := 576) n5.1 n5.2.1 (by simp; omega) (by decide)) ?_
    intro x6 h6 q6
    have n6 := n5.beh q6
    refine To2.some ⟨x6, rfl, ?_⟩
    have : 576 - ((putB n 4 ++ ds) ++ putB (sumB (putB salt 8 ++ (putB n 4 ++ ds))) 4).length = 56 := by simp [c3]
    rw [this] at n6
    exact n6

theorem rec23 {lf : Nat} (hf : 1000 < lf) {h : List Ob} {salt n : Int} {d : V} {ds : List Int} (h0 : 0 ≤ salt) (hs : salt < 18446744073709551616) (sd : Sl 1 h d (bv ds)) (hid : idsOf d = []) : To2 (F23 lf salt n d h) (RecQ h salt n ds) := by
  unfold RecQ
  by_cases hc : n < 0 ∨ n > 10000 ∨ ds.length ≠ 512
  · simp only [if_pos hc]
    have : S23_0 lf n d h = some (.ret, [V.nils, .int .i64 1], h) := by
      unfold S23_0
      by_cases c1 : n < 0
      · simp [c1]
      · by_cases c2 : n > 10000
        · simp [c1, c2]
        · have c3 : ds.length ≠ 512 := by omega
          have c4 : ((ds.length : Int) != 512) = true := by simp; omega
          simp only [er_lenL sd, bv_length, c1, c2, decide_false, cB_false, bind1_some, castInt_int, c4, cB_true]
    simp only [F23, this, bind3_some, decide_true, cB_true, castCons_cons, castNil_nil, castInt_int]
    exact To2.some ⟨rfl, rfl⟩
  · simp only [if_neg hc]
    have c1 : ¬ n < 0 := by omega
    have c2 : ¬ n > 10000 := by omega
    have c3 : ds.length = 512 := by omega
    have : S23_0 lf n d h = some (.normal, [], h) := by
      unfold S23_0
      have c4 : ((ds.length : Int) != 512) = false := by simp; omega
      simp only [er_lenL sd, bv_length, c1, c2, decide_false, cB_false, bind1_some, castInt_int, c4]
    have e1 : IntKind.u32.wrap n = n := by rw [wrap_u32]; omega
    simp only [F23, this, bind3_some, show decide (EX.normal = EX.ret) = false from rfl, decide_true, cB_true, cB_false, castNil_nil, e1]
    refine To2.bind2 (four52 (by omega)) ?_
    intro x1 h1 n1
    have sd1 := sd.keep n1.2.2.1 (fun _ q => by rw [hid] at q; cases q)
    refine To2.bind2 (app_to n1.1 n1.2.1 sd1.c (by simp [roomMax, c3])) ?_
    intro x2 h2 q2
    have n2 := New.beh n1 q2
    have s2 : Sl 1 h2 x2 (bv (putB n 4 ++ ds)) := by simpa only [bv_append, List.nil_append] using n2.1
    refine To2.bind2 (eight51 h0 hs) ?_
    intro y3 h3 m3
    have s3 := s2.keep m3.2.2.1 (fun _ _ q => by cases q)
    refine To2.bind2 (app_to m3.1 m3.2.1 s3.c (by simp [roomMax, c3])) ?_
    intro y4 h4 r4
    have m4 := New.beh m3 r4
    have t4 : Sl 1 h4 y4 (bv (putB salt 8 ++ (putB n 4 ++ ds))) := by simpa only [bv_append, List.nil_append] using m4.1
    rw [sum25 t4 (by simp; omega) (by simp; omega)]
    have hr := sumB_range (putB salt 8 ++ (putB n 4 ++ ds))
    simp only [bind2_some, castInt_int]
    have n4 : New h (bv (putB n 4 ++ ds)) x2 h4 := New.keep ⟨s2, n2.2.1, n2.2.2.1, n2.2.2.2⟩ m4.2.2.1
    refine To2.bind2 (four52 (by omega)) ?_
    intro y5 h5 m5
    have n5 := n4.keep m5.2.2.1
    refine To2.bind2 (app_to n5.1 n5.2.1 m5.1.c (by simp [roomMax, c3])) ?_
    intro x5 h6 q5
    have n6 := n5.beh q5
    have s6 : Sl 1 h6 x5 (bv ((putB n 4 ++ ds) ++ putB (sumB (putB salt 8 ++ (putB n 4 ++ ds))) 4)) := by simpa only [bv_append] using n6.1
    refine To2.bind2 (pad53 (n := 576) s6 n6.2.1 (by simp; omega) (by decide)) ?_
    intro x6 h7 q6
    have n7 := n6.beh q6
    refine To2.some ⟨x6, rfl, ?_⟩
    have : 576 - ((putB n 4 ++ ds) ++ putB (sumB (putB salt 8 ++ (putB n 4 ++ ds))) 4).length = 56 := by simp [c3]
    rw [this] at n7
    exact n7

theorem awake19 {lf : Nat} (hf : 1000 < lf) {h : List Ob} : To2 (F19 lf h) fun v h' => v = .bool true ∧ Kp h h' [] := by
  simp only [F19]
  refine To2.bind2 (head20 hf (by decide)) ?_
  intro v h1 q
  unfold HeadQ at q
  rw [if_neg (by decide)] at q
  obtain ⟨x, rfl, n⟩ := q
  have hl : ((bv (headB 1 2 0)).length : Int) = 64 := by simp [headB]
  simp only [castTup_tup, castCons_cons, castInt_int, castNil_nil, er_lenL n.1, bind1_some, hl]
  rw [sum24 (ms := []) (Sl.nils 1 h1) (by simp) (by simp; omega)]
  exact To2.some ⟨rfl, n.2.2.1⟩

def headR (salt p r : Int) : Int × List Int := if p < 0 ∨ p > 10000 ∨ r < 0 ∨ r > 10000 then (1, []) else (0, headB salt p r)
def recR (salt n : Int) (ds : List Int) : Int × List Int := if n < 0 ∨ n > 10000 ∨ ds.length ≠ 512 then (1, []) else (0, recB salt n ds)
theorem HeadQ.out {h h' : List Ob} {salt p r : Int} {v : V} (q : HeadQ h salt p r v h') : ∃ x, v = .tup [x, .int .i64 (headR salt p r).1] ∧ Sl 1 h' x (bv (headR salt p r).2) ∧ Kp h h' [] := by
  unfold HeadQ at q
  unfold headR
  by_cases hc : p < 0 ∨ p > 10000 ∨ r < 0 ∨ r > 10000
  · rw [if_pos hc] at q
    simp only [if_pos hc]
    obtain ⟨rfl, rfl⟩ := q
    exact ⟨_, rfl, Sl.nils _ _, Kp.refl _ _⟩
  · rw [if_neg hc] at q
    simp only [if_neg hc]
    obtain ⟨x, rfl, z⟩ := q
    exact ⟨x, rfl, z.1, z.2.2.1⟩
theorem RecQ.out {h h' : List Ob} {salt n : Int} {ds : List Int} {v : V} (q : RecQ h salt n ds v h') : ∃ x, v = .tup [x, .int .i64 (recR salt n ds).1] ∧ Sl 1 h' x (bv (recR salt n ds).2) ∧ Kp h h' [] := by
  unfold RecQ at q
  unfold recR
  by_cases hc : n < 0 ∨ n > 10000 ∨ ds.length ≠ 512
  · rw [if_pos hc] at q
    simp only [if_pos hc]
    obtain ⟨rfl, rfl⟩ := q
    exact ⟨_, rfl, Sl.nils _ _, Kp.refl _ _⟩
  · rw [if_neg hc] at q
    simp only [if_neg hc]
    obtain ⟨x, rfl, z⟩ := q
    exact ⟨x, rfl, z.1, z.2.2.1⟩

theorem law4 {lf : Nat} (hf : 1000 < lf) {h : List Ob} {b d : V} {bs ds : List Int} {salt p r n : Int} (h0 : 0 ≤ salt) (hs : salt < 18446744073709551616) (sb : Sl 1 h b (bv bs)) (ib : idsOf b = []) (sd : Sl 1 h d (bv ds)) (id : idsOf d = []) (hl : bs.length ≤ 9223372036854775807) (hl2 : bs.length < lf) :
    To2 (F4 lf b salt p r n d h) fun v _ => v = .bool true := by
  have no : ∀ {x : V} {j : Nat}, idsOf x = [] → j ∈ idsOf x → j ∉ ([] : List Nat) := fun _ _ q => by cases q
  simp only [F4]
  refine To2.bind2 (awake19 hf) ?_
  rintro v h1 ⟨rfl, k1⟩
  simp only [castBool_bool, Bool.not_true, cB_false]
  refine To2.bind2 (head20 hf h0) ?_
  intro v2 h2 q2
  obtain ⟨x, rfl, sx, k2⟩ := q2.out
  simp only [castTup_tup, castCons_cons, castInt_int, castNil_nil]
  refine To2.bind2 (head21 hf h0 hs) ?_
  intro v3 h3 q3
  obtain ⟨y, rfl, sy, k3⟩ := q3.out
  simp only [castTup_tup, castCons_cons, castInt_int, castNil_nil]
  have k03 : Kp h h3 [] := (k1.trans k2 (C := []) (fun _ q => by cases q) (fun _ q => by cases q)).trans k3 (fun _ q => by cases q) (fun _ q => by cases q)
  have sd3 := sd.keep k03 (fun _ _ q => by cases q)
  refine To2.bind2 (rec22 hf h0 sd3) ?_
  intro v4 h4 q4
  obtain ⟨z, rfl, sz, k4⟩ := q4.out
  simp only [castTup_tup, castCons_cons, castInt_int, castNil_nil]
  have sd4 := sd3.keep k4 (fun _ _ q => by cases q)
  refine To2.bind2 (rec23 hf h0 hs sd4 id) ?_
  intro v5 h5 q5
  obtain ⟨w, rfl, sw, k5⟩ := q5.out
  simp only [castTup_tup, castCons_cons, castInt_int, castNil_nil]
  have sb5 := ((sb.keep k03 (fun _ _ q => by cases q)).keep k4 (fun _ _ q => by cases q)).keep k5 (fun _ _ q => by cases q)
  have sx5 := (((sx.keep k3 (fun _ _ q => by cases q))).keep k4 (fun _ _ q => by cases q)).keep k5 (fun _ _ q => by cases q)
  have sy5 := (sy.keep k4 (fun _ _ q => by cases q)).keep k5 (fun _ _ q => by cases q)
  have sz5 := sz.keep k5 (fun _ _ q => by cases q)
  rw [sum24 sb5 hl hl2]
  simp only [bind2_some, castInt_int]
  rw [sum25 sb5 hl hl2]
  simp only [bind2_some, castInt_int, beq_self_eq_true, cB_true, er_toStr sx5, er_toStr sy5, er_toStr sz5, er_toStr sw, bind1_some, castStr_str]
  exact To2.some rfl
end Go.Proofs.Ytdcdmpgigmhhpaa.Jw
