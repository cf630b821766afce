/- DiskParted: the law's answer for every input. No condition. -/
import Derived.Test.YtbjphicipgneaaaDkW
namespace Go.Proofs.Ytbjphicipgneaaa.Dk
open Go Go.Proofs.Ytbjphicipgneaaa.E
set_option maxRecDepth 100000
set_option linter.unusedVariables false
set_option linter.unusedSimpArgs false

theorem start3 {lf : Nat} (hf : 3000000 < lf) {h : List Ob} {v b : V} {ops : List OpI} {ms : List Int} (s : ∀ h, Sl 6 h v (rowsO ops)) (ok : ∀ o, o ∈ ops → okO o) (sb : ∀ h, Sl 1 h b (bv ms)) (hfo : ops.length < lf) :
    To3 (S3_3 lf v b h) fun x vs h' => Kp h h' [] ∧ ((x = .ret ∧ vs = [.bool true]) ∨ (x = .normal ∧ vs = [] ∧ total ops ≤ 20000 ∧ ops.length ≤ 100 ∧ ms.length ≤ 5000)) := by
  simp only [S3_3]
  refine To3.bind2 (awake10 hf) ?_
  rintro u h1 ⟨rfl, k1⟩
  simp only [castBool_bool, Bool.not_true, cB_false]
  refine To3.bind2 (few11 (s h1) ok hfo) ?_
  rintro u h2 ⟨rfl, ⟨rfl, t, l⟩ | rfl⟩
  · simp only [castBool_bool, Bool.not_true, cB_false, er_lenL (sb _), bv_length, bind1_some, castInt_int]
    by_cases q : (ms.length : Int) > 5000
    · have e : decide ((ms.length : Int) > 5000) = true := decide_eq_true q
      simp only [e, cB_true]
      refine To3.bind2 (awake10 hf) ?_
      rintro u h3 ⟨rfl, k3⟩
      simp only [castBool_bool]
      exact To3.some ⟨k1.tr k3, .inl ⟨rfl, rfl⟩⟩
    · have e : decide ((ms.length : Int) > 5000) = false := decide_eq_false q
      simp only [e, cB_false]
      exact To3.some ⟨k1, .inr ⟨rfl, rfl, t, l, by omega⟩⟩
  · simp only [castBool_bool, Bool.not_false, cB_true]
    refine To3.bind2 (awake10 hf) ?_
    rintro u h3 ⟨rfl, k3⟩
    simp only [castBool_bool]
    exact To3.some ⟨k1.tr k3, .inl ⟨rfl, rfl⟩⟩
theorem cut3 {lf : Nat} {h : List Ob} {b : V} {ms : List Int} {cut : Int} (sb : Sl 1 h b (bv ms)) (hl : ms.length ≤ 5000) (hc : 0 ≤ cut ∧ cut < 18446744073709551616) : ∃ k : Nat, k ≤ ms.length ∧ S3_2 lf b cut 0 h = some (.normal, [.int .i64 (k : Int)], h) := by
  simp only [S3_2, er_lenL sb, bv_length, bind1_some, castInt_int]
  by_cases q : (ms.length : Int) > 0
  · have e : decide ((ms.length : Int) > 0) = true := decide_eq_true q
    have w1 : IntKind.i64.wrap ((ms.length : Int) + 1) = ((ms.length + 1 : Nat) : Int) := by rw [wrap_i64 (by omega) (by omega)]; omega
    have w2 : IntKind.u64.wrap ((ms.length + 1 : Nat) : Int) = ((ms.length + 1 : Nat) : Int) := by rw [wrap_u64]; omega
    have hne : ((ms.length + 1 : Nat) : Int) ≠ 0 := by omega
    have er1 : er (.bin .rem (.c (.int .u64 cut)) (.c (.int .u64 ((ms.length + 1 : Nat) : Int)))) h = some (.int .u64 ((cut.toNat % (ms.length + 1) : Nat) : Int)) := by
      simp only [er, ev, evOq, x_bin, getC, evBin, if_true, evInt]
      rw [if_neg hne, Int.tmod_eq_emod_of_nonneg hc.1]
      have : cut % ((ms.length + 1 : Nat) : Int) = ((cut.toNat % (ms.length + 1) : Nat) : Int) := by
        rw [Int.natCast_emod, Int.toNat_of_nonneg hc.1]
      rw [this]; rfl
    have hlt : cut.toNat % (ms.length + 1) < ms.length + 1 := Nat.mod_lt _ (by omega)
    have w3 : IntKind.i64.wrap ((cut.toNat % (ms.length + 1) : Nat) : Int) = ((cut.toNat % (ms.length + 1) : Nat) : Int) := wrap_i64 (by omega) (by omega)
    simp only [e, cB_true, w1, w2, er1, bind1_some, castInt_int, w3]
    exact ⟨_, by omega, rfl⟩
  · have e : decide ((ms.length : Int) > 0) = false := decide_eq_false q
    simp only [e, cB_false]
    exact ⟨0, by omega, rfl⟩

theorem fin3 {lf : Nat} {h : List Ob} {i j : Nat} {w1 w2 : DV} {c : DC} {e1 f : Int} (t : Two h i j w1 w2 c c) (la : c.a.length ≤ 1000000) (he : e1 = f) : To2 (
bind2 (F15 lf (.ptr i 0 0) (0) h) fun v3 h_8 =>
castInt .i64 v3 fun x116 =>
bind2 (F14 lf (.ptr i 0 0) (0) (0) x116 h_8) fun v4 h_9 =>
castTup v4 fun l2 =>
castCons l2 fun x117_0 l3 =>
castCons l3 fun c2 l4 =>
castInt .i64 c2 fun x117_1 =>
castNil l4 (
bind2 (F15 lf (.ptr j 0 0) (0) h_9) fun v5 h_10 =>
castInt .i64 v5 fun x123 =>
bind2 (F14 lf (.ptr j 0 0) (0) (0) x123 h_10) fun v6 h_11 =>
castTup v6 fun l5 =>
castCons l5 fun x124_0 l6 =>
castCons l6 fun c3 l7 =>
castInt .i64 c3 fun x124_1 =>
castNil l7 (
cB (e1 == f) (
bind1 (er (.toStr (.c x117_0)) h_11) fun v7 =>
castStr v7 fun x132 =>
bind1 (er (.toStr (.c x124_0)) h_11) fun v8 =>
castStr v8 fun x134 =>
cB (x132 == x134) (
bind2 (F16 lf (.ptr i 0 0) h_11) fun v9 h_12 =>
castInt .i64 v9 fun x139 =>
bind2 (F16 lf (.ptr j 0 0) h_12) fun v10 h_13 =>
castInt .i64 v10 fun x141 =>
cB (x139 == x141) (
bind2 (F17 lf (.ptr i 0 0) h_13) fun v11 h_14 =>
castInt .i64 v11 fun x146 =>
bind2 (F17 lf (.ptr j 0 0) h_14) fun v12 h_15 =>
castInt .i64 v12 fun x148 =>
some ((.bool (x146 == x148)), h_15)) (
some ((.bool false), h_13))) (
some ((.bool false), h_11))) (
some ((.bool false), h_11))))) fun u _ => u = .bool true := by
  subst he
  simp only [size15_0 t.d, bind2_some, castInt_int]
  refine To2.bind2 (read14_0 (m := c.a.length) t.d (Nat.le_refl _) la) ?_
  rintro u h1 ⟨y, rfl, ny⟩
  have t1 := t.kp ny.2.2.1
  simp only [castTup_tup, castCons_cons, castInt_int, castNil_nil, size15_0 t1.e, bind2_some]
  refine To2.bind2 (read14_0 (m := c.a.length) t1.e (Nat.le_refl _) la) ?_
  rintro u h2 ⟨z, rfl, nz⟩
  have t2 := t1.kp nz.2.2.1
  have sy := ny.1.kp nz.2.2.1
  simp only [castTup_tup, castCons_cons, castInt_int, castNil_nil, beq_self_eq_true, cB_true, er_toStr sy, er_toStr nz.1, bind1_some, castStr_str, uns16 t2.d, uns16 t2.e, left17 t2.d, left17 t2.e, bind2_some]
  exact To2.some rfl
theorem goN {R : Type} {A B C : Option R} : cB (decide (EX.normal = EX.ret)) A (cB (decide (EX.normal = EX.normal)) (castNil [] B) C) = B := rfl
theorem goC {R : Type} {m : Int} {G : Int → Option R} {C : Option R} : cB (decide (EX.normal = EX.normal)) (castCons [.int .i64 m] fun c1 l1 => castInt .i64 c1 fun f => castNil l1 (G f)) C = G m := rfl
theorem law3 {lf : Nat} (hf : 3000000 < lf) {h : List Ob} {v b : V} {ops : List OpI} {ms : List Int} {at_ cut : Int} (s : ∀ h, Sl 6 h v (rowsO ops)) (ok : ∀ o, o ∈ ops → okO o) (sb : ∀ h, Sl 1 h b (bv ms)) (hfo : ops.length < lf) (ha : 0 ≤ at_ ∧ at_ < 65536) (hc : 0 ≤ cut ∧ cut < 18446744073709551616) :
    To2 (F3 lf v at_ b cut h) fun u _ => u = .bool true := by
  obtain ⟨n, rfl⟩ := Int.eq_ofNat_of_zero_le ha.1
  have wa : IntKind.i64.wrap (n : Int) = n := wrap_i64 (by omega) (by omega)
  simp only [F3]
  generalize hR : (1073741824 : Int) = R
  have hroom : 0 ≤ R := by omega
  refine To2.bind3 (start3 hf s ok sb hfo) ?_
  rintro x vs h1 ⟨k1, ⟨rfl, rfl⟩ | ⟨rfl, rfl, ht, hlo, hlm⟩⟩
  · simp only [decide_true, cB_true, castCons_cons, castBool_bool, castNil_nil]
    exact To2.some rfl
  · rw [goN]
    refine To2.bind2 (new12 hroom) ?_
    rintro p h2 ⟨rfl, d2, k2⟩
    refine To2.bind2 (new12 hroom) ?_
    rintro p h3 ⟨rfl, d3, k3⟩
    have t3 : Two h3 h1.length h2.length _ _ _ _ := ⟨d2.kp k3, d3, fun x hx hy => by
      simp only [foot, idsOf, idsM, List.append_nil, List.mem_cons, List.not_mem_nil, or_false] at hx hy
      have := d2.st.lt; omega⟩
    simp only [er_lenL (s h3), show (rowsO ops).length = ops.length by simp [rowsO], bind1_some, castInt_int]
    have hL := scriptL lf hf s ok hlo ops.length 0 lf h3 _ _ _ (by omega) hfo t3 hR.symm (by simpa using ht)
    have z : ((0 : Nat) : Int) = 0 := rfl
    rw [z] at hL
    refine To2.bind3 hL ?_
    rintro x vs h4 ⟨rfl, rfl, w1, w2, c, t4, hr, hs⟩
    simp only [decide_true, cB_true, castNil_nil]
    obtain ⟨k, hk, eS⟩ := cut3 (lf := lf) (cut := cut) (sb h4) hlm hc
    simp only [eS, bind3_some, decide_true, cB_true, castCons_cons, castInt_int, castNil_nil, wa]
    refine To2.bind2 (write13_0 hf t4.d (sb h4) (fun x hx => absurd hx (inp_ids sb x)) (by omega) (by omega) (by omega) ⟨by omega, by omega⟩) ?_
    rintro u h5 ⟨w1', rfl, d5, k5, f5⟩
    have t5 := t4.left d5 k5 f5
    obtain ⟨y, ey, sy, iy⟩ := slc_to (lo := none) (hi := some (.c (.int .i64 (k : Int)))) (a := 0) (b := k) (sb h5) bv_cells rfl (by simp only [Option.map_some, getC, bndV]; rw [if_pos (by omega), Int.toNat_natCast]) (by omega) (by rw [bv_length]; omega)
    have e4 : ((bv ms).drop 0).take (k - 0) = bv (ms.take k) := by simp [bv, List.map_take]
    rw [e4] at sy
    simp only [castInt_int, ey, bind1_some]
    refine To2.bind2 (write13_0 hf t5.e sy (fun x hx => absurd (iy x hx) (inp_ids sb x)) (by omega) (by omega) (by simp; omega) ⟨by simp; omega, by omega⟩) ?_
    rintro u h6 ⟨w2', rfl, d6, k6, f6⟩
    have t6 := t5.right d6 k6 f6
    rw [show ∀ {R : Type} (m : Int) (G : Int → Option R), castInt .i64 (.int .i64 m) G = G m from fun m G => rfl]
    have z1 := (wrD_size c 0 n (ms.take k)).1
    have z2 := (wrD_size c 0 n ms).1
    simp only [wrD, if_true, List.length_take] at z1 z2
    refine To2.bind3 (Q := fun x vs h7 => x = .normal ∧ ∃ w2', vs = [.int .i64 (wrF c.a c.ta n ms).1] ∧ Two h7 h1.length h2.length w1' w2' { c with a := (wrF c.a c.ta n ms).2.1, ta := (wrF c.a c.ta n ms).2.2 } { c with a := (wrF c.a c.ta n ms).2.1, ta := (wrF c.a c.ta n ms).2.2 }) ?_ ?_
    · by_cases q : n ≤ c.a.length
      · obtain ⟨p1, p2⟩ := parted (ta := c.ta) q hk
        obtain ⟨y2, ey2, sy2, iy2⟩ := slc_to (lo := some (.c (.int .i64 (k : Int)))) (hi := none) (a := k) (b := ms.length) (sb h6) bv_cells (by simp only [Option.map_some, getC, bndV]; rw [if_pos (by omega), Int.toNat_natCast]) (by simp [bndV]) (by omega) (by simp)
        have e5 : ((bv ms).drop k).take (ms.length - k) = bv (ms.drop k) := by
          rw [List.take_of_length_le (by simp)]; simp [bv, List.map_drop]
        rw [e5] at sy2
        have w3 : IntKind.i64.wrap ((n : Int) + (k : Int)) = (n : Int) + k := wrap_i64 (by omega) (by omega)
        simp only [p1, S3_1, show ((0 : Int) == 0) = true from rfl, cB_true, ey2, bind1_some, wa, w3]
        refine To3.bind2 (write13_0 hf t6.e sy2 (fun x hx => absurd (iy2 x hx) (inp_ids sb x)) (by simp only; omega) (by simp only; omega) (by simp; omega) ⟨by simp only [List.length_drop]; omega, by simp only; omega⟩) ?_
        rintro u h7 ⟨w3', rfl, d7, k7, f7⟩
        simp only [p2] at d7 ⊢
        exact To3.some ⟨rfl, w3', rfl, t6.right d7 k7 f7⟩
      · have g1 := wrF_bad (a := c.a) (ta := c.ta) (ms := ms.take k) (at_ := (n : Int)) (by omega)
        have g2 := wrF_bad (a := c.a) (ta := c.ta) (ms := ms) (at_ := (n : Int)) (by omega)
        simp only [g1, g2, S3_1, show ((1 : Int) == 0) = false from rfl, cB_false] at t6 ⊢
        exact To3.some ⟨rfl, w2', rfl, t6⟩
    · rintro x vs h7 ⟨rfl, w2', rfl, t7⟩
      rw [goC]
      exact fin3 t7 (by simp only; omega) rfl
end Go.Proofs.Ytbjphicipgneaaa.Dk
