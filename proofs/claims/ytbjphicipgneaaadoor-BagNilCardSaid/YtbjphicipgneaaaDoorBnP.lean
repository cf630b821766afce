/- BagNil: rows; a value that is formed; bytes in which each nought stands as two. No condition. -/
import Derived.Test.YtbjphicipgneaaaDoorBns
import Derived.Test.YtbjphicipgneaaaDoorL4
namespace Go.Proofs.YtbjphicipgneaaaDoor.Bn
open Go Go.Proofs.YtbjphicipgneaaaDoor.E
set_option maxRecDepth 100000
set_option linter.unusedVariables false
set_option linter.unusedSimpArgs false

structure R where
  k : Int
  n : Int
  s : List UInt8
abbrev rC (r : R) : List V := [.int .i64 r.k, .int .i64 r.n, .str r.s]
def rows (rs : List R) : List V := rs.map fun r => .agg (rC r)
theorem rows_len (rs : List R) : (rows rs).length = rs.length := by simp [rows]
def fP (r : R) : Bool := if r.k = 0 then (r.n == 0 && r.s == []) else if r.k = 1 then r.s == [] else if r.k = 2 then (r.n == 0 && decide (r.s.length ≤ 100)) else false
theorem eqR (n : Int) (s : List UInt8) (h : List Ob) : er (.eq false (.struct 3 [(0, .i), (1, .i), (2, .s)]) (.c (.agg [.int .i64 0, .int .i64 n, .str s])) (.c (.agg [.int .i64 0, .int .i64 0, .str []]))) h = some (.bool (n == 0 && s == [])) := by
  simp [er, ev, evOq, x_eq, getC, evEq, eqAt, eqLeaves, V.cells]
  cases (n == 0) <;> cases s.isEmpty <;> rfl
theorem formed25 {lf : Nat} {h : List Ob} (r : R) : To2 (F25 lf r.k r.n r.s h) fun v h' => v = .bool (fP r) ∧ Kp h h' [] := by
  simp only [F25]
  refine To2.bind2 (box_to (cs := rC r) rfl) ?_
  rintro p h1 ⟨rfl, st, k1⟩
  have f0 := st.faddr 0 0 0
  have f1 := st.faddr 1 0 0
  have f2 := st.faddr 2 0 0
  have l0 : er (.load1 (.c (.ptr h.length 0 0))) h1 = some (.int .i64 r.k) := st.load1 rfl
  have l1 : er (.load1 (.c (.ptr h.length 0 1))) h1 = some (.int .i64 r.n) := st.load1 rfl
  have l2 : er (.load1 (.c (.ptr h.length 0 2))) h1 = some (.str r.s) := st.load1 rfl
  have ll : er (.loadN 3 (.c (.ptr h.length 0 0))) h1 = some (.agg (rC r)) := st.loadN' rfl
  have eb : er (.build [(.int .i64 0), (.int .i64 0), (.str [])] []) h1 = some (.agg [.int .i64 0, .int .i64 0, .str []]) := rfl
  simp only [Nat.zero_add] at f0 f1 f2
  simp only [f0, f1, f2, l0, l1, l2, ll, eb, bind1_some, castInt_int, castStr_str, castAgg_agg, castCons_cons, castNil_nil]
  unfold fP
  by_cases c0 : r.k = 0
  · have e : (r.k == 0) = true := by simp [c0]
    rw [e, cB_true, if_pos c0, c0, eqR, bind1_some, castBool_bool]
    exact To2.some ⟨rfl, k1⟩
  · have e : (r.k == 0) = false := by simp [c0]
    rw [e, cB_false, if_neg c0]
    by_cases c1 : r.k = 1
    · have e : (r.k == 1) = true := by simp [c1]
      rw [e, cB_true, if_pos c1]
      exact To2.some ⟨rfl, k1⟩
    · have e : (r.k == 1) = false := by simp [c1]
      rw [e, cB_false, if_neg c1]
      by_cases c2 : r.k = 2
      · have e : (r.k == 2) = true := by simp [c2]
        rw [e, cB_true, if_pos c2]
        by_cases c3 : r.n = 0
        · have e : (r.n == 0) = true := by simp [c3]
          have e2 : decide ((r.s.length : Int) ≤ 100) = decide (r.s.length ≤ 100) := decide_eq_decide.2 (by omega)
          rw [e, cB_true, e2, Bool.true_and]
          exact To2.some ⟨rfl, k1⟩
        · have e : (r.n == 0) = false := by simp [c3]
          rw [e, cB_false, Bool.false_and]
          exact To2.some ⟨rfl, k1⟩
      · have e : (r.k == 2) = false := by simp [c2]
        rw [e, cB_false, if_neg c2]
        exact To2.some ⟨rfl, k1⟩

/-! ### bytes.ReplaceAll of noughts -/
theorem idx_found : ∀ (l : List UInt8) (c : UInt8), 0 < Lib.countByte l c → 0 ≤ Lib.indexByte l c ∧ (Lib.indexByte l c).toNat < l.length ∧ Lib.countByte (l.drop ((Lib.indexByte l c).toNat + 1)) c = Lib.countByte l c - 1
  | [], c, h => by simp [Lib.countByte] at h
  | b :: l, c, h => by
    unfold Lib.indexByte
    by_cases q : (b == c) = true
    · rw [if_pos q]
      have qe : b = c := by simpa using q
      refine ⟨Int.le_refl _, by simp, ?_⟩
      simp [Lib.countByte, List.count_cons, qe]
    · rw [if_neg q]
      have hc : Lib.countByte (b :: l) c = Lib.countByte l c := by
        unfold Lib.countByte
        rw [List.count_cons, if_neg q]; omega
      rw [hc] at h
      obtain ⟨h1, h2, h3⟩ := idx_found l c h
      have hne : ¬ (Lib.indexByte l c == -1) = true := by
        simp only [beq_iff_eq]; omega
      rw [if_neg hne, hc]
      refine ⟨by omega, by simp only [List.length_cons]; omega, ?_⟩
      have : (Lib.indexByte l c + 1).toNat + 1 = ((Lib.indexByte l c).toNat + 1) + 1 := by omega
      rw [this, List.drop_succ_cons]
      exact h3
theorem by8_drop (ms : List Int) (k : Nat) : (by8 ms).drop k = by8 (ms.drop k) := by simp [by8, List.map_drop]
theorem by8_len (ms : List Int) : (by8 ms).length = ms.length := by simp [by8]
theorem index47 {lf : Nat} {h : List Ob} {v o : V} {ms : List Int} (s : Sl 1 h v (bv ms)) (so : Sl 1 h o (bv [0])) : F47 lf v o h = some (.int .i64 (Lib.indexByte (by8 ms) 0), h) := by
  obtain ⟨a, a1, a2⟩ := so.at1 (k := 0) (e := .int .u8 0) (by omega) rfl rfl
  have e0 : (((bv [0]).length : Int) == 0) = false := rfl
  have e1 : (((bv [0]).length : Int) == 1) = true := rfl
  have e2 : ((0 : Int).toNat).toUInt8 = 0 := rfl
  simp only [F47, F59, er_lenL so, bind1_some, castInt_int, e0, e1, cB_false, cB_true, a1, a2, er_idxBL s, e2, bind2_some]

theorem replL (lf : Nat) {h0 : List Ob} {sv ov nv : V} {ms : List Int} {n : Nat} (hn : n = Lib.countByte (by8 ms) 0) (hl : ms.length ≤ 100) (hn2 : n ≤ 100) (s : Sl 1 h0 sv (bv ms)) (so : Sl 1 h0 ov (bv [0])) (sn : Sl 1 h0 nv (bv [0, 255])) :
    ∀ (m i start f : Nat) (h : List Ob) (tv : V) (ts : List Int), n = i + m → m < f → start ≤ ms.length → Lib.countByte ((by8 ms).drop start) 0 = m → ts.length = ms.length + n → New h0 (bv ts) tv h →
      To3 (L31_0 lf f sv ov nv tv ((start + i : Nat) : Int) start n i h) fun x vs h' => x = .exit 0 ∧ ∃ start' : Nat, vs = [.int .i64 ((start' + n : Nat) : Int), .int .i64 (start' : Int)] ∧ start' ≤ ms.length ∧ ∃ ts', ts'.length = ts.length ∧ New h0 (bv ts') tv h' := by
  intro m
  induction m with
  | zero =>
    intro i start f h tv ts hi hf hst hc hts nt
    obtain ⟨f, rfl⟩ : ∃ g, f = g + 1 := ⟨f - 1, by omega⟩
    have hd : decide ((i : Int) < (n : Int)) = false := decide_eq_false (by omega)
    have hin : i = n := by omega
    simp only [L31_0, B31_0, hd, cB_false]
    exact To3.some ⟨rfl, start, by rw [hin], hst, ts, rfl, nt⟩
  | succ m ih =>
    intro i start f h tv ts hi hf hst hc hts nt
    obtain ⟨f, rfl⟩ : ∃ g, f = g + 1 := ⟨f - 1, by omega⟩
    have hd : decide ((i : Int) < (n : Int)) = true := decide_eq_true (by omega)
    obtain ⟨h1, h2, h3⟩ := idx_found ((by8 ms).drop start) 0 (by omega)
    have kp := nt.2.2.1
    have s1 := s.kp kp
    have so1 := so.kp kp
    have sn1 := sn.kp kp
    obtain ⟨y, ey, sy, -⟩ := slc_to (lo := some (.c (.int .i64 (start : Int)))) (hi := none) (a := start) (b := ms.length) s1 bv_cells (by simp only [Option.map_some, getC, bndV]; rw [if_pos (by omega), Int.toNat_natCast]) (by simp [bndV]) hst (by simp)
    have e4 : ((bv ms).drop start).take (ms.length - start) = bv (ms.drop start) := by
      rw [List.take_of_length_le (by simp)]; simp [bv, List.map_drop]
    rw [e4] at sy
    rw [by8_drop] at h1 h2 h3
    generalize hj : (Lib.indexByte (by8 (ms.drop start)) 0).toNat = j at h2 h3
    have hji : Lib.indexByte (by8 (ms.drop start)) 0 = (j : Int) := by omega
    rw [by8_len, List.length_drop] at h2
    have w1 : IntKind.i64.wrap ((start : Int) + (j : Int)) = ((start + j : Nat) : Int) := by rw [wrap_i64 (by omega) (by omega)]; omega
    have w2 : IntKind.i64.wrap (((start + i : Nat) : Int) + (j : Int)) = ((start + i + j : Nat) : Int) := by rw [wrap_i64 (by omega) (by omega)]; omega
    have w3 : IntKind.i64.wrap (((start + i + j : Nat) : Int) + 2) = ((start + j + 1 + (i + 1) : Nat) : Int) := by rw [wrap_i64 (by omega) (by omega)]; omega
    have w4 : IntKind.i64.wrap (((start + j : Nat) : Int) + 1) = ((start + j + 1 : Nat) : Int) := by rw [wrap_i64 (by omega) (by omega)]; omega
    have w5 : IntKind.i64.wrap ((i : Int) + 1) = ((i + 1 : Nat) : Int) := by rw [wrap_i64 (by omega) (by omega)]; omega
    obtain ⟨u, eu, su, -⟩ := slc_to (lo := some (.c (.int .i64 (start : Int)))) (hi := some (.c (.int .i64 ((start + j : Nat) : Int)))) (a := start) (b := start + j) s1 bv_cells (by simp only [Option.map_some, getC, bndV]; rw [if_pos (by omega), Int.toNat_natCast]) (by simp only [Option.map_some, getC, bndV]; rw [if_pos (by omega), Int.toNat_natCast]) (by omega) (by simp; omega)
    have e5 : ((bv ms).drop start).take (start + j - start) = bv ((ms.drop start).take j) := by
      rw [show start + j - start = j by omega]; simp [bv, List.map_drop, List.map_take]
    rw [e5] at su
    have hcnt : Lib.countByte ((by8 ms).drop (start + j + 1)) 0 = m := by
      rw [by8_drop]
      rw [by8_drop, List.drop_drop] at h3
      rw [show start + j + 1 = start + (j + 1) by omega, h3]
      rw [by8_drop] at hc; omega
    have hmn : m < n := by omega
    obtain ⟨z1, ez1, tz1⟩ := copyAt (at_ := start + i) nt.1 nt.2.1 su.c (by simp; omega)
    simp only [L31_0, B31_0, hd, cB_true, ey, bind1_some, index47 sy so1, bind2_some, castInt_int, hji, w1, eu, ez1]
    refine To3.bind2 tz1 ?_
    rintro r h4 ⟨rfl, st2, k2⟩
    have hlu : (bv ((ms.drop start).take j)).length = j := by simp; omega
    have hts1 : ∃ ts1 : List Int, ts1.length = ts.length ∧ (bv ts).take (start + i) ++ bv ((ms.drop start).take j) ++ (bv ts).drop (start + i + (bv ((ms.drop start).take j)).length) = bv ts1 := by
      refine ⟨ts.take (start + i) ++ (ms.drop start).take j ++ ts.drop (start + i + j), by simp; omega, ?_⟩
      rw [hlu, bv_take, bv_drop, bv_append, bv_append]
    obtain ⟨ts1, hl1, e6⟩ := hts1
    rw [e6] at st2
    have n2 : New h0 (bv ts1) tv h4 := ⟨st2, nt.2.1, kp.trans k2 (fun j hj => by cases hj) (fun j hj hlt => by have := nt.2.2.2 j hj; omega), nt.2.2.2⟩
    have kp4 := n2.2.2.1
    have sn4 := sn.kp kp4
    obtain ⟨z2, ez2, tz2⟩ := copyAt (at_ := start + i + j) n2.1 n2.2.1 sn4.c (by simp; omega)
    rw [hlu]
    simp only [castInt_int, w2, ez2, bind1_some]
    refine To3.bind2 tz2 ?_
    rintro r h5 ⟨rfl, st3, k3⟩
    have hts2 : ∃ ts2 : List Int, ts2.length = ts.length ∧ (bv ts1).take (start + i + j) ++ bv [0, 255] ++ (bv ts1).drop (start + i + j + (bv [0, 255]).length) = bv ts2 := by
      refine ⟨ts1.take (start + i + j) ++ [0, 255] ++ ts1.drop (start + i + j + 2), by simp; omega, ?_⟩
      rw [show (bv [0, 255]).length = 2 from rfl, bv_take, bv_drop, bv_append, bv_append]
    obtain ⟨ts2, hl2, e7⟩ := hts2
    rw [e7] at st3
    have n3 : New h0 (bv ts2) tv h5 := ⟨st3, nt.2.1, kp4.trans k3 (fun j hj => by cases hj) (fun j hj hlt => by have := nt.2.2.2 j hj; omega), nt.2.2.2⟩
    have so5 := so.kp n3.2.2.1
    simp only [castInt_int, er_lenL so5, bind1_some, show (((bv [0, 255]).length : Nat) : Int) = 2 from rfl, show (((bv [0]).length : Nat) : Int) = 1 from rfl, w3, w4, w5]
    refine (ih (i + 1) (start + j + 1) f h5 tv ts2 (by omega) (by omega) (by omega) hcnt (by omega) n3).mono ?_
    rintro x vs h6 ⟨rfl, st', rfl, q1, ts', q2, q3⟩
    exact ⟨rfl, st', rfl, q1, ts', by omega, q3⟩

theorem count_le (l : List UInt8) (c : UInt8) : Lib.countByte l c ≤ l.length := List.count_le_length
theorem repl26 {lf : Nat} {h : List Ob} {sv ov nv : V} {ms : List Int} (hf : 200 < lf) (hl : ms.length ≤ 100) (s : Sl 1 h sv (bv ms)) (so : Sl 1 h ov (bv [0])) (sn : Sl 1 h nv (bv [0, 255])) :
    To2 (F26 lf sv ov nv h) fun v h' => Kp h h' [] ∧ ∃ os : List Int, os.length ≤ 200 ∧ Sl 1 h' v (bv os) := by
  have hcl := count_le (by8 ms) 0
  rw [by8_len] at hcl
  obtain ⟨a, a1, a2⟩ := so.at1 (k := 0) (e := .int .u8 0) (by omega) rfl rfl
  have e0 : (((bv [0]).length : Int) == 0) = false := rfl
  have e1 : (((bv [0]).length : Int) == 1) = true := rfl
  have e2 : ((0 : Int).toNat).toUInt8 = 0 := rfl
  generalize hm : Lib.countByte (by8 ms) 0 = n at hcl
  have eC : F46 lf sv ov h = some (.int .i64 (n : Int), h) := by
    simp only [F46, er_lenL so, bind1_some, castInt_int, e0, e1, cB_false, cB_true, a1, a2, er_cntBL s, e2, hm]
  have eS4 : S31_4 lf sv ov (-1) 0 h = some (.normal, [.int .i64 (n : Int)], h) := by
    simp only [S31_4, show ((-1 : Int) != 0) = true from rfl, cB_true, eC, bind2_some, castInt_int]
  simp only [F26, F31, eS4, bind3_some, decide_true, cB_true, castCons_cons, castInt_int, castNil_nil]
  by_cases z : n = 0
  · have ez : ((n : Int) == 0) = true := by simp [z]
    have hr : roomMax = 140737488355328 := rfl
    simp only [ez, cB_true]
    refine To2.bind2 (Q := fun v h' => Kp h h' [] ∧ Sl 1 h' v (bv ms)) (To2.bind2 (app_to (bytes := 1) (Sl.nils 1 h) Ap.nils s.c (by rw [bv_length, hr]; simp; omega)) ?_) ?_
    · rintro x h1 ⟨sx, ax, k1, fx⟩
      exact To2.some ⟨k1, by simpa using sx⟩
    · rintro x h1 ⟨k1, sx⟩
      exact To2.some ⟨k1, ms, by omega, sx⟩
  · have ez : ((n : Int) == 0) = false := by
      have : (n : Int) ≠ 0 := by omega
      simpa using this
    have eS3 : S31_3 lf (-1) (n : Int) h = some (.normal, [.int .i64 (n : Int)], h) := rfl
    have w1 : IntKind.i64.wrap (2 - 1) = 1 := by decide
    have w2 : IntKind.i64.wrap ((n : Int) * 1) = n := by rw [Int.mul_one]; exact wrap_i64 (by omega) (by omega)
    have w3 : IntKind.i64.wrap ((ms.length : Int) + (n : Int)) = ((ms.length + n : Nat) : Int) := by rw [wrap_i64 (by omega) (by omega)]; omega
    have l2 : (((bv [0, 255]).length : Nat) : Int) = 2 := rfl
    have l1 : (((bv [0]).length : Nat) : Int) = 1 := rfl
    simp only [ez, cB_false, eS3, bind3_some, decide_true, cB_true, castCons_cons, castInt_int, castNil_nil, er_lenL s, er_lenL so, er_lenL sn, bind1_some, bv_length, List.length_cons, List.length_nil, Nat.zero_add, Nat.reduceAdd, Int.natCast_one, w1, w2, w3, show ((2 : Nat) : Int) = 2 from rfl, show ((1 : Nat) : Int) = 1 from rfl]
    refine To2.bind2 (Q := fun v h' => Kp h h' [] ∧ ∃ os : List Int, os.length ≤ 200 ∧ Sl 1 h' v (bv os)) ?_ ?_
    · refine To2.bind2 (mk_to (n := ((ms.length + n : Nat) : Int)) (by omega) (by omega)) ?_
      rintro t h1 ⟨st, at', k1, ft⟩
      have ets : List.replicate (((ms.length + n : Nat) : Int)).toNat (V.int .u8 0) = bv (List.replicate (ms.length + n) 0) := by
        rw [Int.toNat_natCast]; simp [bv]
      rw [ets] at st
      have n1 : New h (bv (List.replicate (ms.length + n) 0)) t h1 := ⟨st, at', k1, ft⟩
      have hL := replL lf hm.symm hl (by omega) s so sn n 0 0 lf h1 t (List.replicate (ms.length + n) 0) (by omega) (by omega) (by omega) (by simpa using hm) (by simp) n1
      have z0 : ((0 : Nat) : Int) = 0 := rfl
      simp only [Nat.add_zero, z0] at hL
      have eS2 : S31_2 lf sv ov nv (n : Int) t 0 0 h1 = bind3 (L31_0 lf lf sv ov nv t 0 0 (n : Int) 0 h1) fun ex vs h_ =>
          cB (decide (ex = (.exit 0))) (
          castCons vs fun c l =>
          castInt .i64 c fun w1 =>
          castCons l fun c1 l1 =>
          castInt .i64 c1 fun start1 =>
          castNil l1 (
          some (.normal, [(.int .i64 w1), (.int .i64 start1)], h_))) (
          none) := by
        have so1 := so.kp k1
        simp only [S31_2, er_lenL so1, bind1_some, castInt_int, l1, show decide ((1 : Int) > 0) = true from rfl, cB_true]
      rw [eS2]
      refine To2.bind3 (Q := fun x vs h' => x = .normal ∧ ∃ start' : Nat, vs = [.int .i64 ((start' + n : Nat) : Int), .int .i64 (start' : Int)] ∧ start' ≤ ms.length ∧ ∃ ts' : List Int, ts'.length = ms.length + n ∧ New h (bv ts') t h') (To3.bind3 hL ?_) ?_
      · rintro x vs h2 ⟨rfl, st', rfl, q1, ts', q2, q3⟩
        simp only [decide_true, cB_true, castCons_cons, castInt_int, castNil_nil]
        exact To3.some ⟨rfl, st', rfl, q1, ts', by simpa using q2, q3⟩
      · rintro x vs h2 ⟨rfl, st', rfl, q1, ts', q2, q3⟩
        have s2 := s.kp q3.2.2.1
        obtain ⟨y, ey, sy, -⟩ := slc_to (lo := some (.c (.int .i64 (st' : Int)))) (hi := none) (a := st') (b := ms.length) s2 bv_cells (by simp only [Option.map_some, getC, bndV]; rw [if_pos (by omega), Int.toNat_natCast]) (by simp [bndV]) q1 (by simp)
        have e4 : ((bv ms).drop st').take (ms.length - st') = bv (ms.drop st') := by
          rw [List.take_of_length_le (by simp)]; simp [bv, List.map_drop]
        rw [e4] at sy
        obtain ⟨z1, ez1, tz1⟩ := copyAt (at_ := st' + n) q3.1 q3.2.1 sy.c (by simp; omega)
        simp only [decide_true, cB_true, castCons_cons, castInt_int, castNil_nil, ez1, ey, bind1_some]
        refine To2.bind2 tz1 ?_
        rintro r h3 ⟨rfl, st3, k3⟩
        have hts1 : ∃ ts1 : List Int, ts1.length = ms.length + n ∧ (bv ts').take (st' + n) ++ bv (ms.drop st') ++ (bv ts').drop (st' + n + (bv (ms.drop st')).length) = bv ts1 := by
          refine ⟨ts'.take (st' + n) ++ ms.drop st' ++ ts'.drop (st' + n + (ms.length - st')), by simp; omega, ?_⟩
          rw [bv_length, List.length_drop, bv_take, bv_drop, bv_append, bv_append]
        obtain ⟨ts1, hl1, e6⟩ := hts1
        rw [e6] at st3
        have w4 : IntKind.i64.wrap (((st' + n : Nat) : Int) + (((bv (ms.drop st')).length : Nat) : Int)) = ((ms.length + n : Nat) : Int) := by
          rw [bv_length, List.length_drop, wrap_i64 (by omega) (by omega)]; omega
        obtain ⟨o, eo, so', -⟩ := slc_to (lo := some (.c (.int .i64 (0 : Int)))) (hi := some (.c (.int .i64 ((ms.length + n : Nat) : Int)))) (a := 0) (b := ms.length + n) st3 bv_cells rfl (by simp only [Option.map_some, getC, bndV]; rw [if_pos (by omega), Int.toNat_natCast]) (by omega) (by simp; omega)
        have e7 : ((bv ts1).drop 0).take (ms.length + n - 0) = bv ts1 := by
          rw [List.drop_zero, List.take_of_length_le (by simp; omega)]
        rw [e7] at so'
        simp only [castInt_int, w4, eo, bind1_some]
        exact To2.some ⟨q3.2.2.1.trans k3 (fun j hj => by cases hj) (fun j hj hlt => by have := q3.2.2.2 j hj; omega), ts1, by omega, so'⟩
    · rintro v h1 ⟨k1, os, q1, q2⟩
      exact To2.some ⟨k1, os, q1, q2⟩
end Go.Proofs.YtbjphicipgneaaaDoor.Bn
