/- DiskKeeps: the law's answer for every input. No condition. -/
import Derived.Test.YtbjphicipgneaaaKpQ
namespace Go.Proofs.Ytbjphicipgneaaa.Kp
open Go Go.Proofs.Ytbjphicipgneaaa.E
open Go.Proofs.Ytbjphicipgneaaa.Dk
set_option maxRecDepth 100000
set_option linter.unusedVariables false
set_option linter.unusedSimpArgs false

theorem start4 {lf : Nat} (hf : 3000000 < lf) {h : List Ob} {v b : V} {ops : List OpI} {kes : List Int} (s : ∀ h, Sl 6 h v (rowsO ops)) (ok : ∀ o, o ∈ ops → okO o) (sb : ∀ h, Sl 1 h b (iv kes)) (hfo : ops.length < lf) :
    To3 (S4_2 lf v b h) fun x vs h' => Kp h h' [] ∧ ((x = .ret ∧ vs = [.bool true]) ∨ (x = .normal ∧ vs = [] ∧ total ops ≤ 20000 ∧ ops.length ≤ 100)) := by
  simp only [S4_2]
  refine To3.bind2 (awake10 hf) ?_
  rintro u h1 ⟨rfl, k1⟩
  simp only [castBool_bool, Bool.not_true, cB_false]
  refine To3.bind2 (few11 (s h1) ok hfo) ?_
  rintro u h2 ⟨rfl, ⟨rfl, t, l⟩ | rfl⟩
  · simp only [castBool_bool, Bool.not_true, cB_false, er_lenL (sb _), iv_len, bind1_some, castInt_int]
    by_cases q : (kes.length : Int) > 200
    · have e : decide ((kes.length : Int) > 200) = true := decide_eq_true q
      simp only [e, cB_true]
      refine To3.bind2 (awake10 hf) ?_
      rintro u h3 ⟨rfl, k3⟩
      simp only [castBool_bool]
      exact To3.some ⟨k1.tr k3, .inl ⟨rfl, rfl⟩⟩
    · have e : decide ((kes.length : Int) > 200) = false := decide_eq_false q
      simp only [e, cB_false]
      exact To3.some ⟨k1, .inr ⟨rfl, rfl, t, l⟩⟩
  · simp only [castBool_bool, Bool.not_false, cB_true]
    refine To3.bind2 (awake10 hf) ?_
    rintro u h3 ⟨rfl, k3⟩
    simp only [castBool_bool]
    exact To3.some ⟨k1.tr k3, .inl ⟨rfl, rfl⟩⟩

theorem script4 (lf : Nat) (hf0 : 3000000 < lf) {v : V} {ops : List OpI} {i : Nat} (s : ∀ h, Sl 6 h v (rowsO ops)) (ok : ∀ o, o ∈ ops → okO o) (hops : ops.length ≤ 100) : ∀ (m k f : Nat) (h : List Ob) (w : DV) (c : DC), ops.length = k + m → m < f → Dk h i w c → c.room = 1073741824 → c.a.length + c.b.length + total (ops.drop k) ≤ 20000 →
    To3 (L4_0 lf f v (.ptr i 0 0) ops.length k h) fun x vs h' => x = .exit 0 ∧ vs = [] ∧ ∃ w' c', Dk h' i w' c' ∧ c'.room = 1073741824 ∧ c'.a.length + c'.b.length ≤ 20000 := by
  intro m
  induction m with
  | zero =>
    intro k f h w c hk hf t hr hs
    obtain ⟨f, rfl⟩ : ∃ g, f = g + 1 := ⟨f - 1, by omega⟩
    have hd : decide ((k : Int) < (ops.length : Int)) = false := decide_eq_false (by omega)
    simp only [L4_0, B4_0, hd, cB_false]
    exact To3.some ⟨rfl, rfl, w, c, t, hr, by omega⟩
  | succ m ih =>
    intro k f h w c hk hf t hr hs
    obtain ⟨f, rfl⟩ : ∃ g, f = g + 1 := ⟨f - 1, by omega⟩
    have hlt : k < ops.length := by omega
    have hd : decide ((k : Int) < (ops.length : Int)) = true := decide_eq_true (by omega)
    have oko := ok _ (List.getElem_mem hlt)
    obtain ⟨a, a1, a2⟩ := (s h).atN (k := (k : Int)) (cs := cO ops[k]) (by omega) (by simp [rowsO, hlt]) rfl (by decide)
    have hw1 : IntKind.i64.wrap ((k : Int) + 1) = ((k + 1 : Nat) : Int) := by rw [wrap_i64 (by omega) (by omega)]; omega
    rw [List.drop_eq_getElem_cons hlt] at hs
    simp only [total, List.map_cons, List.sum_cons] at hs
    simp only [L4_0, B4_0, hd, cB_true, a1, a2, bind1_some, castAgg_agg, castCons_cons, castInt_int, castNil_nil, hw1]
    refine To3.bind2 (alloc_to (cs := [.int .i64 0, .int .i64 0, .int .i64 0, .int .i64 0, .nils, .nils]) rfl) ?_
    rintro p h1 ⟨rfl, st1, k1⟩
    refine To3.bind2 (st1.storeN (ds := cO ops[k]) rfl (by simp) (okO_sc oko) rfl) ?_
    rintro u h2 ⟨st2, k2⟩
    have k12 : Kp h h2 [] := k1.trans k2 (fun j hj => by cases hj) (fun j hj hl => by simp at hj; omega)
    have t2 := t.kp k12
    have f0 := st2.faddr 0 0 0
    have f1 := st2.faddr 1 0 0
    have f2 := st2.faddr 2 0 0
    have f4 := st2.faddr 4 0 0
    have l0 : er (.load1 (.c (.ptr h.length 0 0))) h2 = some (.int .i64 ops[k].k) := st2.load1 rfl
    have l1 : er (.load1 (.c (.ptr h.length 0 1))) h2 = some (.int .i64 ops[k].f) := st2.load1 rfl
    have l2 : er (.load1 (.c (.ptr h.length 0 2))) h2 = some (.int .i64 ops[k].a) := st2.load1 rfl
    have l4 : er (.load1 (.c (.ptr h.length 0 4))) h2 = some ops[k].bV := st2.load1 rfl
    simp only [Nat.zero_add] at f0 f1 f2 f4
    simp only [f0, f1, f2, f4, l0, l1, l2, l4, bind1_some, castInt_int]
    by_cases q : ops[k].k = 1
    · have e : (ops[k].k == 1) = true := by simp [q]
      simp only [e, cB_true]
      refine To3.bind2 (write13 hf0 t2 (oko.1 h2) (fun x hx => absurd hx (inp_ids oko.1 x)) (by omega) (by omega) (by omega) ⟨by omega, by omega⟩) ?_
      rintro u h3 ⟨w3, rfl, d3, k3, f3⟩
      have hsz := wrD_size c ops[k].f ops[k].a ops[k].bs
      simp only [castInt_int]
      exact ih (k + 1) f h3 w3 _ (by omega) (by omega) d3 (by rw [hsz.2]; exact hr) (by simp only [total]; omega)
    · have e : (ops[k].k == 1) = false := by simp [q]
      simp only [e, cB_false]
      exact ih (k + 1) f h2 w c (by omega) (by omega) t2 hr (by simp only [total]; omega)

theorem sync4 {lf : Nat} {h : List Ob} {id : Nat} {w : DV} {c : DC} (d : Dk h id w c) (la : c.a.length ≤ 100000) (lb : c.b.length ≤ 100000) :
    To3 (S4_1 lf (.ptr id 0 0) h) fun x vs h' => x = .normal ∧ vs = [] ∧ ∃ w', Dk h' id w' { c with ka := c.a, ta := [], kb := c.b, tb := [] } := by
  simp only [S4_1]
  refine To3.bind2 (sync18_0 d (by omega)) ?_
  rintro u h1 ⟨rfl, w1, d1, k1, f1⟩
  simp only [castInt_int, bne_self_eq_false, cB_false]
  refine To3.bind2 (sync18_1 d1 (by simp only; omega)) ?_
  rintro u h2 ⟨rfl, w2, d2, k2, f2⟩
  have e0 : (IntKind.i64.wrap (((([] : List Int).length : Nat) : Int) + ((([] : List Int).length : Nat) : Int)) != 0) = false := by decide
  simp only [castInt_int, bne_self_eq_false, cB_false, uns16 d2, bind2_some, e0]
  exact To3.some ⟨rfl, rfl, w2, d2⟩

theorem tch_one {n : Nat} {s e : Int} (h1 : s * 64 < e) (h2 : e ≤ (s + 1) * 64) : tch (n + 2) s e [] = [s] := by
  simp only [tch]
  rw [if_pos h1, if_neg (by omega)]
  rfl
theorem wrF_one {a : List Int} {m : Int} : wrF a [] (a.length : Int) [m] = (0, a ++ [m], [((a.length / 64 : Nat) : Int)]) := by
  unfold wrF
  rw [if_neg (by omega), if_neg (by simp), Int.toNat_natCast, List.take_of_length_le (Nat.le_refl _), List.drop_of_length_le (by simp), List.append_nil]
  have e : tch (a.length + [m].length + 1) ((a.length : Int) / 64) ((a.length : Int) + ([m].length : Int)) [] = [((a.length / 64 : Nat) : Int)] := by
    rw [show a.length + [m].length + 1 = a.length + 2 from rfl, tch_one (by simp; omega) (by simp; omega)]
    simp
  rw [e]

theorem fin4 {lf : Nat} {h : List Ob} {id : Nat} {w : DV} {c : DC} {ya yb : V} {A B : List Int} (d : Dk h id w c) (sa : Sl 1 h ya (bv A)) (sb : Sl 1 h yb (bv B)) (hb : c.b = B) (lb : B.length ≤ 100000) (l1 : A.length ≤ c.a.length) (l2 : c.a.length ≤ 100001) (ht : c.a.take (A.length / 64 * 64) = A.take (A.length / 64 * 64)) : To2 (
bind1 (er (.lenL (.c ya)) h) fun v7 =>
castInt .i64 v7 fun x91 =>
bind1 (er (.lenL (.c ya)) h) fun v8 =>
castInt .i64 v8 fun x93 =>
bind2 (F14 lf (.ptr id 0 0) (0) (0) (IntKind.i64.wrap (x91 - (Int.tmod x93 (64)))) h) fun v9 h_11 =>
castTup v9 fun l6 =>
castCons l6 fun x96_0 l7 =>
castCons l7 fun c2 l8 =>
castInt .i64 c2 fun x96_1 =>
castNil l8 (
bind2 (F15 lf (.ptr id 0 0) (1) h_11) fun v10 h_12 =>
castInt .i64 v10 fun x102 =>
bind2 (F14 lf (.ptr id 0 0) (1) (0) x102 h_12) fun v11 h_13 =>
castTup v11 fun l9 =>
castCons l9 fun x103_0 l10 =>
castCons l10 fun c3 l11 =>
castInt .i64 c3 fun x103_1 =>
castNil l11 (
cB (x96_1 == (0)) (
cB (x103_1 == (0)) (
bind1 (er (.toStr (.c x96_0)) h_13) fun v12 =>
castStr v12 fun x114 =>
bind1 (er (.lenL (.c ya)) h_13) fun v13 =>
castInt .i64 v13 fun x117 =>
bind1 (er (.lenL (.c ya)) h_13) fun v14 =>
castInt .i64 v14 fun x119 =>
bind1 (er (.slcL 1 (.c ya) none (some (.c (.int .i64 (IntKind.i64.wrap (x117 - (Int.tmod x119 (64))))))) none) h_13) fun x122 =>
bind1 (er (.toStr (.c x122)) h_13) fun v15 =>
castStr v15 fun x123 =>
cB (x114 == x123) (
bind1 (er (.toStr (.c x103_0)) h_13) fun v16 =>
castStr v16 fun x128 =>
bind1 (er (.toStr (.c yb)) h_13) fun v17 =>
castStr v17 fun x130 =>
cB (x128 == x130) (
bind1 (er (.lenL (.c ya)) h_13) fun v18 =>
castInt .i64 v18 fun x137 =>
bind2 (F15 lf (.ptr id 0 0) (0) h_13) fun v19 h_14 =>
castInt .i64 v19 fun x135 =>
reP (er (.lenL (.c ya)) h_14 = some (.int .i64 x137)) (
some ((.bool (decide (x135 ≥ x137))), h_14))) (
some ((.bool false), h_13))) (
some ((.bool false), h_13))) (
some ((.bool false), h_13))) (
some ((.bool false), h_13))))) fun u _ => u = .bool true := by
  subst hb
  have w1 : IntKind.i64.wrap ((A.length : Int) - Int.tmod (A.length : Int) 64) = ((A.length / 64 * 64 : Nat) : Int) := by
    rw [Int.tmod_eq_emod_of_nonneg (by omega), wrap_i64 (by omega) (by omega)]; omega
  simp only [er_lenL sa, bv_length, bind1_some, castInt_int, w1]
  refine To2.bind2 (read14_0 (m := A.length / 64 * 64) d (by omega) (by omega)) ?_
  rintro u h1 ⟨y, rfl, ny⟩
  have d1 := d.kp ny.2.2.1
  simp only [castTup_tup, castCons_cons, castInt_int, castNil_nil, size15_1 d1, bind2_some]
  refine To2.bind2 (read14_1 (m := c.b.length) d1 (Nat.le_refl _) (by omega)) ?_
  rintro u h2 ⟨z, rfl, nz⟩
  have d2 := d1.kp nz.2.2.1
  have sy := ny.1.kp nz.2.2.1
  have sa2 := (sa.kp ny.2.2.1).kp nz.2.2.1
  have sb2 := (sb.kp ny.2.2.1).kp nz.2.2.1
  obtain ⟨y2, ey2, sy2, -⟩ := slc_to (lo := none) (hi := some (.c (.int .i64 ((A.length / 64 * 64 : Nat) : Int)))) (a := 0) (b := A.length / 64 * 64) sa2 bv_cells rfl (by simp only [Option.map_some, getC, bndV]; rw [if_pos (by omega), Int.toNat_natCast]) (by omega) (by rw [bv_length]; omega)
  have e4 : ((bv A).drop 0).take (A.length / 64 * 64 - 0) = bv (A.take (A.length / 64 * 64)) := by simp [bv, List.map_take]
  rw [e4] at sy2
  rw [List.take_of_length_le (Nat.le_refl _)] at nz
  rw [ht] at sy
  simp only [castTup_tup, castCons_cons, castInt_int, castNil_nil, beq_self_eq_true, cB_true, er_toStr sy, er_lenL sa2, bv_length, bind1_some, castStr_str, w1, ey2, er_toStr sy2, er_toStr nz.1, er_toStr sb2, size15_0 d2, bind2_some]
  rw [reP_pos _ trivial]
  exact To2.some (by rw [decide_eq_true (by omega)])

theorem law4 {lf : Nat} (hf : 3000000 < lf) {h : List Ob} {v b : V} {ops : List OpI} {kes : List Int} (s : ∀ h, Sl 6 h v (rowsO ops)) (ok : ∀ o, o ∈ ops → okO o) (sb : ∀ h, Sl 1 h b (iv kes)) (hfo : ops.length < lf) :
    To2 (F4 lf v b h) fun u _ => u = .bool true := by
  simp only [F4]
  generalize hR : (1073741824 : Int) = R
  have hroom : 0 ≤ R := by omega
  refine To2.bind3 (start4 hf s ok sb hfo) ?_
  rintro x vs h1 ⟨k1, ⟨rfl, rfl⟩ | ⟨rfl, rfl, ht, hlo⟩⟩
  · simp only [decide_true, cB_true, castCons_cons, castBool_bool, castNil_nil]
    exact To2.some rfl
  · rw [goN]
    refine To2.bind2 (new12 hroom) ?_
    rintro p h2 ⟨rfl, d2, k2⟩
    simp only [er_lenL (s h2), show (rowsO ops).length = ops.length by simp [rowsO], bind1_some, castInt_int]
    have hL := script4 lf hf s ok hlo ops.length 0 lf h2 _ _ (by omega) hfo d2 hR.symm (by simpa using ht)
    have z : ((0 : Nat) : Int) = 0 := rfl
    rw [z] at hL
    refine To2.bind3 hL ?_
    rintro x vs h3 ⟨rfl, rfl, w3, c, d3, hr, hs⟩
    simp only [decide_true, cB_true, castNil_nil]
    refine To2.bind3 (sync4 d3 (by omega) (by omega)) ?_
    rintro x vs h4 ⟨rfl, rfl, w4, d4⟩
    rw [goN]
    simp only [size15_0 d4, bind2_some, castInt_int]
    refine To2.bind2 (read14_0 (m := c.a.length) d4 (Nat.le_refl _) (by simp only; omega)) ?_
    rintro u h5 ⟨ya, rfl, ny⟩
    have d5 := d4.kp ny.2.2.1
    simp only [castTup_tup, castCons_cons, castInt_int, castNil_nil, size15_1 d5, bind2_some]
    refine To2.bind2 (read14_1 (m := c.b.length) d5 (Nat.le_refl _) (by simp only; omega)) ?_
    rintro u h6 ⟨yb, rfl, nz⟩
    have d6 := d5.kp nz.2.2.1
    have sa6 := ny.1.kp nz.2.2.1
    have sb6 := nz.1
    simp only [List.take_of_length_le (Nat.le_refl _)] at sa6 sb6
    have fa6 : ∀ j, j ∈ idsOf ya → j ∉ foot h1.length w4 := fun j hj q => by
      have := ny.2.2.2 j hj; have := d4.lt q; omega
    have fb6 : ∀ j, j ∈ idsOf yb → j ∉ foot h1.length w4 := fun j hj q => by
      have := nz.2.2.2 j hj; have := d5.lt q; omega
    simp only [castTup_tup, castCons_cons, castInt_int, castNil_nil, er_lenL sa6, bv_length, bind1_some]
    refine To2.bind2 (bslice_to (ps := [(0, .int .u8 120)]) (es := bv [120]) (by decide) rfl rfl rfl) ?_
    rintro x h7 ⟨rfl, -, sx, -, k7, fx⟩
    have d7 := d6.kp k7
    rw [er_strish sx, bind1_some]
    refine To2.bind2 (write13_0 hf (at_ := (c.a.length : Int)) (ms := [120]) d7 sx (fun j hj q => by have := fx j hj; have := d6.lt q; omega) (by simp only; omega) (by simp only; omega) (by simp) ⟨by simp only [List.length_cons, List.length_nil]; omega, by simp only; omega⟩) ?_
    rintro u h8 ⟨w8, rfl, d8, k8, f8⟩
    simp only [wrF_one] at d8
    have e1 : (wrF c.a [] (c.a.length : Int) [120]).1 = 0 := by rw [wrF_one]
    simp only [e1, castInt_int, bne_self_eq_false, cB_false]
    have sa8 := (sa6.kp k7).keep k8 fa6
    have sb8 := (sb6.kp k7).keep k8 fb6
    have la6 : ∀ j, j ∈ idsOf ya → j < h7.length := fun j hj => by have := sa6.lt hj; have := k7.len; omega
    have lb6 : ∀ j, j ∈ idsOf yb → j < h7.length := fun j hj => by have := sb6.lt hj; have := k7.len; omega
    refine To2.bind2 (crash19 hf d8 sb (by simp) (by simp only; omega) rfl (by simp only; omega) (by simp only; omega) rfl) ?_
    rintro u h9 ⟨w9, O, d9, k9, f9, o1, o2, o3⟩
    have sa9 := sa8.keep k9 (fun j hj q => (f8 j q).elim (fa6 j hj) (fun z => by have := la6 j hj; omega))
    have sb9 := sb8.keep k9 (fun j hj q => (f8 j q).elim (fb6 j hj) (fun z => by have := lb6 j hj; omega))
    exact fin4 d9 sa9 sb9 rfl (by omega) o1 (by simp only at o2 ⊢; omega) o3

theorem shape {H : Type} {d0 d1 : DataW H} {u0 u1 : List V} (hsz : (DataW.weightsEach Try.prog [22, 30] [d0, d1]).all (· ≤ reachBytes) = true) (h0 : dV Try.prog d0 22 = some u0) (h1 : dV Try.prog d1 30 = some u1) :
    ∃ y0 y1, u0 = [y0] ∧ u1 = [y1] ∧ CE Try.prog 4 [y0, y1] [] fun v _ => v = .bool true := by
  obtain ⟨v, ops, rfl, sv, ov, lv⟩ := dV_ops Try.underlying22 Try.underlying32 rfl Try.underlying3 Try.underlying24 Try.underlying5 (by kernel_rfl) Try.underlying30 Try.underlying3 (weights_param hsz (j := 0) rfl rfl) h0
  obtain ⟨k, kes, rfl, sk, -, -⟩ := dV_ints Try.underlying30 Try.underlying3 h1
  obtain ⟨u, h', e, q⟩ := law4 (lf := 3000001 + ops.length) (h := []) (by omega) sv ov sk (by omega)
  exact ⟨_, _, rfl, rfl, (F4_ok _ _ _ _ _ _ e).2.mono fun v2 h2 z => by rw [z.1]; exact q⟩
end Go.Proofs.Ytbjphicipgneaaa.Kp
