/- Disks: writing. No condition. -/
import Derived.Test.YtbjphicipgneaaaDkR
namespace Go.Proofs.Ytbjphicipgneaaa.Dk
open Go Go.Proofs.Ytbjphicipgneaaa.E
set_option maxRecDepth 100000
set_option linter.unusedVariables false
set_option linter.unusedSimpArgs false

/-- What writing does. -/
def wrF (a ta : List Int) (at_ : Int) (ms : List Int) : Int × List Int × List Int :=
  if at_ < 0 ∨ at_ > a.length then (1, a, ta) else if ms = [] then (0, a, ta) else
    (0, a.take at_.toNat ++ ms ++ a.drop (at_.toNat + ms.length), tch (at_.toNat + ms.length + 1) (at_ / 64) (at_ + ms.length) ta)
theorem wr_eq {a ms : List Int} {n g : Nat} (hn : n ≤ a.length) (hg : g = n + ms.length - a.length) : (bv a ++ List.replicate g (V.int .u8 0)).take n ++ bv ms ++ (bv a ++ List.replicate g (V.int .u8 0)).drop (n + ms.length) = bv (a.take n ++ ms ++ a.drop (n + ms.length)) := by
  have e1 : (bv a ++ List.replicate g (V.int .u8 0)).take n = bv (a.take n) := by
    rw [List.take_append_of_le_length (by simpa using hn)]; simp [bv, List.map_take]
  have e2 : (bv a ++ List.replicate g (V.int .u8 0)).drop (n + ms.length) = bv (a.drop (n + ms.length)) := by
    by_cases q : n + ms.length ≤ a.length
    · have : g = 0 := by omega
      subst this
      simp [bv, List.map_drop]
    · rw [List.drop_eq_nil_of_le (by simp; omega), List.drop_eq_nil_of_le (by omega)]; rfl
  rw [e1, e2]; simp [bv]
theorem leftC_eq {c : DC} (ha : c.a.length ≤ 100000) (hb : c.b.length ≤ 100000) (hr : (c.a.length : Int) + c.b.length ≤ c.room ∧ c.room ≤ 2147483648) : leftC c = c.room - c.a.length - c.b.length := by
  unfold leftC
  rw [wrap_i64 (n := c.room - (c.a.length : Int)) (by omega) (by omega), wrap_i64 (by omega) (by omega)]
  split <;> omega


theorem mk13_0 {lf : Nat} {h : List Ob} {id : Nat} {w : DV} {c : DC} (d : Dk h id w c) : To3 (S13_1 lf (.ptr id 0 0) h) fun x vs h' => x = .normal ∧ vs = [] ∧ ∃ t, t ≠ .nilm ∧ Dk h' id { w with t0 := t } c ∧ Kp h h' [id] ∧ ∀ j, j ∈ foot id { w with t0 := t } → j ∈ foot id w ∨ h.length ≤ j := by
  have nk := d.st.nilck 0 0
  have fa := d.st.faddr 2 0 0
  have l : er (.load1 (.c (.ptr id 0 2))) h = some w.t0 := d.st.load1 rfl
  simp only [Nat.reduceAdd] at fa
  rcases d.m0 with ⟨q, e⟩ | ⟨mi, ents, clock, q, hob, r⟩
  · have eqm : er (.eq false .map (.c w.t0) (.c V.nilm)) h = some (.bool true) := by rw [q]; rfl
    simp only [S13_1, nk, fa, l, bind1_some, eqm, castBool_bool, cB_true]
    refine To3.bind2 (mkmap_to h) ?_
    rintro v h1 ⟨rfl, m1, k1⟩
    have d1 := d.kp k1
    have nk1 := d1.st.nilck 0 0
    have fa1 := d1.st.faddr 2 0 0
    simp only [Nat.reduceAdd] at fa1
    simp only [nk1, fa1, bind1_some]
    refine To3.bind2 (d1.st.store1 (j := 2) (x := .mp h.length) (by simp) m1.sc) ?_
    rintro u h2 ⟨st2, k2⟩
    have hlt := d.st.lt
    have k12 : Kp h h2 [id] := k1.trans k2 (fun j hj => by cases hj) (fun j hj _ => hj)
    have p := d.put_t0 (v := .mp h.length) (x := c.ta) (h' := h2) st2 (k12.mono (fun j hj _ => by simp at hj; simp [hj])) (by rw [e]; exact m1.keep k2 (fun j hj q => by simp [idsM] at hj q; omega)) (fun j hj => by
      right; simp [idsM] at hj; omega)
    exact To3.some ⟨rfl, rfl, _, by simp, p.1, k12, p.2⟩
  · have eqm : er (.eq false .map (.c w.t0) (.c V.nilm)) h = some (.bool false) := by
      rw [q]; simp [er, ev, evOq, x_eq, getC, evEq, isNil, aliveB, hob]
    simp only [S13_1, nk, fa, l, bind1_some, eqm, castBool_bool, cB_false]
    exact To3.some ⟨rfl, rfl, w.t0, by rw [q]; simp, d, Kp.refl _ _, fun j hj => .inl hj⟩


theorem write13_0 {lf : Nat} (hf : 3000000 < lf) {h : List Ob} {id : Nat} {w : DV} {c : DC} {b : V} {at_ : Int} {ms : List Int} (d : Dk h id w c) (sb : Sl 1 h b (bv ms)) (hb : ∀ j, j ∈ idsOf b → j ∉ foot id w) (la : c.a.length ≤ 100000) (lb : c.b.length ≤ 100000) (hl : ms.length ≤ 100000) (hr : (c.a.length : Int) + c.b.length + ms.length ≤ c.room ∧ c.room ≤ 2147483648) :
    To2 (F13 lf (.ptr id 0 0) 0 at_ b h) fun v h' => ∃ w', v = .int .i64 (wrF c.a c.ta at_ ms).1 ∧ Dk h' id w' { c with a := (wrF c.a c.ta at_ ms).2.1, ta := (wrF c.a c.ta at_ ms).2.2 } ∧ Kp h h' (foot id w) ∧ ∀ j, j ∈ foot id w' → j ∈ foot id w ∨ h.length ≤ j := by
  have hrm : roomMax = 140737488355328 := rfl
  have nk := d.st.nilck 0 0
  have fa := d.st.faddr 0 0 0
  have l : er (.load1 (.c (.ptr id 0 0))) h = some w.v0 := d.st.load1 rfl
  simp only [Nat.reduceAdd, Nat.add_zero] at fa
  have hS4 : S13_4 lf at_ (.ptr id 0 0) 0 h = some (if at_ < 0 ∨ at_ > c.a.length then (.ret, [.int .i64 1], h) else (.normal, [], h)) := by
    simp only [S13_4, bne_self_eq_false, cB_false]
    by_cases q : at_ < 0
    · have e : decide (at_ < 0) = true := decide_eq_true q
      rw [if_pos (.inl q)]
      simp only [e, cB_true]
    · have e : decide (at_ < 0) = false := decide_eq_false q
      simp only [e, cB_false, nk, fa, l, bind1_some, er_lenL d.s0, bv_length, castInt_int]
      by_cases q2 : at_ > (c.a.length : Int)
      · have e : decide (at_ > (c.a.length : Int)) = true := decide_eq_true q2
        rw [if_pos (.inr q2)]
        simp only [e, cB_true]
      · have e : decide (at_ > (c.a.length : Int)) = false := decide_eq_false q2
        rw [if_neg (by omega)]
        simp only [e, cB_false]
  simp only [F13, find50_0 d, bind2_some, castTup_tup, castCons_cons, castInt_int, castNil_nil, hS4]
  by_cases q : at_ < 0 ∨ at_ > c.a.length
  · have hw : wrF c.a c.ta at_ ms = (1, c.a, c.ta) := by unfold wrF; rw [if_pos q]
    rw [hw]
    simp only [if_pos q, bind3_some, decide_true, cB_true, castCons_cons, castInt_int, castNil_nil]
    exact To2.some ⟨w, rfl, d, Kp.refl _ _, fun j hj => .inl hj⟩
  · have hS3 : S13_3 lf (.ptr id 0 0) at_ b (.ptr id 0 0) h = some (.normal, [], h) := by
      have w1 : IntKind.i64.wrap (at_ + (ms.length : Int)) = at_ + ms.length := wrap_i64 (by omega) (by omega)
      have w2 : IntKind.i64.wrap (at_ + (ms.length : Int) - (c.a.length : Int)) = at_ + ms.length - c.a.length := wrap_i64 (by omega) (by omega)
      simp only [S13_3, er_lenL sb, bv_length, nk, fa, l, bind1_some, er_lenL d.s0, castInt_int, w1, w2]
      by_cases g : at_ + (ms.length : Int) - (c.a.length : Int) > 0
      · have e : decide (at_ + (ms.length : Int) - (c.a.length : Int) > 0) = true := decide_eq_true g
        have e2 : decide (at_ + (ms.length : Int) - (c.a.length : Int) > leftC c) = false := decide_eq_false (by rw [leftC_eq la lb ⟨by omega, hr.2⟩]; omega)
        simp only [e, e2, cB_true, cB_false, left17 d, bind2_some, castInt_int]
      · have e : decide (at_ + (ms.length : Int) - (c.a.length : Int) > 0) = false := decide_eq_false g
        simp only [e, cB_false]
    have hS2 : S13_2 lf (.ptr id 0 0) b h = some (if ms = [] then (.ret, [.int .i64 0], h) else (.normal, [], h)) := by
      simp only [S13_2, change51 d, bind2_some, castInt_int, bne_self_eq_false, cB_false, er_lenL sb, bv_length, bind1_some]
      by_cases g : ms = []
      · subst g; rfl
      · have : ((ms.length : Int) == 0) = false := beq_eq_false_iff_ne.2 (fun z => g (List.eq_nil_of_length_eq_zero (by omega)))
        rw [if_neg g]
        simp only [this, cB_false]
    simp only [if_neg q, hS3, hS2, bind3_some, show decide (EX.normal = EX.ret) = false from rfl, decide_true, cB_true, cB_false, castNil_nil]
    by_cases g : ms = []
    · have hw : wrF c.a c.ta at_ ms = (0, c.a, c.ta) := by unfold wrF; rw [if_neg q, if_pos g]
      rw [hw]
      simp only [if_pos g, bind3_some, decide_true, cB_true, castCons_cons, castInt_int, castNil_nil]
      exact To2.some ⟨w, rfl, d, Kp.refl _ _, fun j hj => .inl hj⟩
    · have hw : wrF c.a c.ta at_ ms = (0, c.a.take at_.toNat ++ ms ++ c.a.drop (at_.toNat + ms.length), tch (at_.toNat + ms.length + 1) (at_ / 64) (at_ + ms.length) c.ta) := by unfold wrF; rw [if_neg q, if_neg g]
      rw [hw]
      obtain ⟨n, rfl⟩ := Int.eq_ofNat_of_zero_le (show 0 ≤ at_ by omega)
      have hpos : 0 < ms.length := List.length_pos_iff.2 g
      simp only [Int.toNat_natCast]
      have w1 : IntKind.i64.wrap ((n : Int) + (ms.length : Int)) = n + ms.length := wrap_i64 (by omega) (by omega)
      have w2 : IntKind.i64.wrap ((n : Int) + (ms.length : Int) - (c.a.length : Int)) = n + ms.length - c.a.length := wrap_i64 (by omega) (by omega)
      have hgrow : (if (n : Int) + (ms.length : Int) - (c.a.length : Int) > 0 then (n : Int) + (ms.length : Int) - (c.a.length : Int) else 0) = ((n + ms.length - c.a.length : Nat) : Int) := by
        split <;> omega
      simp only [if_neg g, bind3_some, show decide (EX.normal = EX.ret) = false from rfl, decide_true, cB_true, cB_false, castNil_nil, nk, fa, l, bind1_some, er_lenL sb, er_lenL d.s0, bv_length, castInt_int, w1, w2, hgrow]
      refine To2.bind2 (appZ_to (n := ((n + ms.length - c.a.length : Nat) : Int)) d.s0 d.a0 (by omega) (by simp [hrm]; omega)) ?_
      rintro x h1 ⟨sx, ax, k1, fx⟩
      rw [Int.toNat_natCast] at sx
      have st1 := d.st.keep k1 (fun z => d.id_out (j := id) (by simp only [z, true_or, or_true]) rfl)
      have nk1 := st1.nilck 0 0
      have fa1 := st1.faddr 0 0 0
      simp only [Nat.reduceAdd, Nat.add_zero] at fa1
      simp only [nk1, fa1, bind1_some]
      have hidx : ∀ j, j ∈ idsOf x → j ≠ id := fun j hj => (fx j hj).elim (fun z => d.id_out (by simp only [z, true_or, or_true])) (fun z => by have := d.st.lt; omega)
      refine To2.bind2 (st1.store1 (j := 0) (x := x) (by simp) sx.sc) ?_
      rintro u h2 ⟨st2, k2⟩
      have sx2 := sx.keep k2 (fun j hj z => hidx j hj (by simpa using z))
      have k12 : Kp h h2 (id :: idsOf w.v0) := k1.trans k2 (fun j hj _ => List.mem_cons_of_mem _ hj) (fun j hj _ => by simp at hj; simp [hj])
      have hvf : ∀ j, j ∈ id :: idsOf w.v0 → j ∈ foot id w := fun j hj => by
        simp only [foot, List.mem_cons, List.mem_append] at hj ⊢
        rcases hj with z | z <;> simp only [z, true_or, or_true]
      have sb2 := sb.keep k12 (fun j hj z => hb j hj (hvf j z))
      have nk2 := st2.nilck 0 0
      have fa2 := st2.faddr 0 0 0
      have l2 : er (.load1 (.c (.ptr id 0 0))) h2 = some x := st2.load1 rfl
      simp only [Nat.reduceAdd, Nat.add_zero] at fa2
      obtain ⟨z, ez, tz⟩ := copyIn (at_ := n) sx2 ax sb2.c (by simpa using hpos) (by simp; omega)
      simp only [nk2, fa2, l2, ez, bind1_some]
      refine To2.bind2 tz ?_
      rintro r h3 ⟨rfl, sx3, k3⟩
      have e3 := wr_eq (a := c.a) (ms := ms) (n := n) (g := n + ms.length - c.a.length) (by omega) rfl
      rw [bv_length, e3] at sx3
      have st3 := st2.keep k3 (fun z => hidx id z rfl)
      have k13 : Kp h h3 (id :: idsOf w.v0) := k12.trans k3 (fun j hj _ => hj) (fun j hj hlt => by
        rcases fx j hj with z | z
        · exact List.mem_cons_of_mem _ z
        · omega)
      obtain ⟨d3, f3⟩ := d.put_v0 (v := x) (x := c.a.take n ++ ms ++ c.a.drop (n + ms.length)) (h' := h3) st3 k13 sx3 ax fx
      simp only [castInt_int]
      refine To2.bind3 (mk13_0 d3) ?_
      rintro ex vs h4 ⟨rfl, rfl, t, tn, d4, k4, f4⟩
      simp only [decide_true, cB_true, castNil_nil]
      have ediv : IntKind.i64.wrap (Int.tdiv (n : Int) 64) = (n : Int) / 64 := by
        rw [Int.tdiv_eq_ediv_of_nonneg (by omega), wrap_i64 (by omega) (by omega)]
      rw [ediv]
      have k14 : Kp h h4 (foot id w) := k13.trans k4 (fun j hj _ => hvf j hj) (fun j hj _ => by simp at hj; simp [hj, foot])
      have sb4 := sb.keep k14 (fun j hj z => hb j hj z)
      have f14 : ∀ j, j ∈ foot id { { w with v0 := x } with t0 := t } → j ∈ foot id w ∨ h.length ≤ j := fun j hj => (f4 j hj).elim (f3 j) (fun z => .inr (by have := k13.len; omega))
      have htf : ∀ j, j ∈ idsM t → j ∈ foot id { { w with v0 := x } with t0 := t } := fun j hj => by simp only [foot, List.mem_cons, List.mem_append, hj, true_or, or_true]
      refine To2.bind3 (touchL lf (j := 0) (t := t) (b := b) (at_ := (n : Int)) (ms := ms) (ks := c.ta) rfl tn (fun z => d4.id_out (j := id) (by simp only [z, true_or, or_true]) rfl) (fun j hj z => ?_) ⟨by omega, by omega⟩ (by omega) (n + ms.length + 1) lf ((n : Int) / 64) h4 (by omega) (by omega) (by omega) (by omega) (by omega) d4.st d4.m0 sb4) ?_
      · rcases f14 j (htf j z) with y | y
        · exact hb j hj y
        · have := sb.lt hj; omega
      · rintro ex vs h5 ⟨rfl, rfl, m5, k5⟩
        simp only [decide_true, cB_true, castNil_nil]
        obtain ⟨d5, f5⟩ := d4.put_t0 (v := t) (x := tch (n + ms.length + 1) ((n : Int) / 64) ((n : Int) + ms.length) c.ta) (h' := h5) (d4.st.keep k5 (fun z => d4.id_out (j := id) (by simp only [z, true_or, or_true]) rfl)) (k5.mono (fun j hj _ => List.mem_cons_of_mem _ hj)) m5 (fun j hj => .inl hj)
        refine To2.some ⟨_, rfl, d5, k14.trans k5 (fun j hj _ => hj) (fun j hj hlt => ?_), fun j hj => ?_⟩
        · rcases f14 j (htf j hj) with y | y
          · exact y
          · omega
        · rcases f5 j hj with y | y
          · exact f14 j y
          · exact .inr (by have := k14.len; omega)


theorem mk13_1 {lf : Nat} {h : List Ob} {id : Nat} {w : DV} {c : DC} (d : Dk h id w c) : To3 (S13_1 lf (.ptr id 0 3) h) fun x vs h' => x = .normal ∧ vs = [] ∧ ∃ t, t ≠ .nilm ∧ Dk h' id { w with t1 := t } c ∧ Kp h h' [id] ∧ ∀ j, j ∈ foot id { w with t1 := t } → j ∈ foot id w ∨ h.length ≤ j := by
  have nk := d.st.nilck 0 3
  have fa := d.st.faddr 2 0 3
  have l : er (.load1 (.c (.ptr id 0 5))) h = some w.t1 := d.st.load1 rfl
  simp only [Nat.reduceAdd] at fa
  rcases d.m1 with ⟨q, e⟩ | ⟨mi, ents, clock, q, hob, r⟩
  · have eqm : er (.eq false .map (.c w.t1) (.c V.nilm)) h = some (.bool true) := by rw [q]; rfl
    simp only [S13_1, nk, fa, l, bind1_some, eqm, castBool_bool, cB_true]
    refine To3.bind2 (mkmap_to h) ?_
    rintro v h1 ⟨rfl, m1, k1⟩
    have d1 := d.kp k1
    have nk1 := d1.st.nilck 0 3
    have fa1 := d1.st.faddr 2 0 3
    simp only [Nat.reduceAdd] at fa1
    simp only [nk1, fa1, bind1_some]
    refine To3.bind2 (d1.st.store1 (j := 5) (x := .mp h.length) (by simp) m1.sc) ?_
    rintro u h2 ⟨st2, k2⟩
    have hlt := d.st.lt
    have k12 : Kp h h2 [id] := k1.trans k2 (fun j hj => by cases hj) (fun j hj _ => hj)
    have p := d.put_t1 (v := .mp h.length) (x := c.tb) (h' := h2) st2 (k12.mono (fun j hj _ => by simp at hj; simp [hj])) (by rw [e]; exact m1.keep k2 (fun j hj q => by simp [idsM] at hj q; omega)) (fun j hj => by
      right; simp [idsM] at hj; omega)
    exact To3.some ⟨rfl, rfl, _, by simp, p.1, k12, p.2⟩
  · have eqm : er (.eq false .map (.c w.t1) (.c V.nilm)) h = some (.bool false) := by
      rw [q]; simp [er, ev, evOq, x_eq, getC, evEq, isNil, aliveB, hob]
    simp only [S13_1, nk, fa, l, bind1_some, eqm, castBool_bool, cB_false]
    exact To3.some ⟨rfl, rfl, w.t1, by rw [q]; simp, d, Kp.refl _ _, fun j hj => .inl hj⟩


theorem write13_1 {lf : Nat} (hf : 3000000 < lf) {h : List Ob} {id : Nat} {w : DV} {c : DC} {b : V} {at_ : Int} {ms : List Int} (d : Dk h id w c) (sb : Sl 1 h b (bv ms)) (hb : ∀ j, j ∈ idsOf b → j ∉ foot id w) (la : c.a.length ≤ 100000) (lb : c.b.length ≤ 100000) (hl : ms.length ≤ 100000) (hr : (c.a.length : Int) + c.b.length + ms.length ≤ c.room ∧ c.room ≤ 2147483648) :
    To2 (F13 lf (.ptr id 0 0) 1 at_ b h) fun v h' => ∃ w', v = .int .i64 (wrF c.b c.tb at_ ms).1 ∧ Dk h' id w' { c with b := (wrF c.b c.tb at_ ms).2.1, tb := (wrF c.b c.tb at_ ms).2.2 } ∧ Kp h h' (foot id w) ∧ ∀ j, j ∈ foot id w' → j ∈ foot id w ∨ h.length ≤ j := by
  have hrm : roomMax = 140737488355328 := rfl
  have nk := d.st.nilck 0 3
  have fa := d.st.faddr 0 0 3
  have l : er (.load1 (.c (.ptr id 0 3))) h = some w.v1 := d.st.load1 rfl
  simp only [Nat.reduceAdd, Nat.add_zero] at fa
  have hS4 : S13_4 lf at_ (.ptr id 0 3) 0 h = some (if at_ < 0 ∨ at_ > c.b.length then (.ret, [.int .i64 1], h) else (.normal, [], h)) := by
    simp only [S13_4, bne_self_eq_false, cB_false]
    by_cases q : at_ < 0
    · have e : decide (at_ < 0) = true := decide_eq_true q
      rw [if_pos (.inl q)]
      simp only [e, cB_true]
    · have e : decide (at_ < 0) = false := decide_eq_false q
      simp only [e, cB_false, nk, fa, l, bind1_some, er_lenL d.s1, bv_length, castInt_int]
      by_cases q2 : at_ > (c.b.length : Int)
      · have e : decide (at_ > (c.b.length : Int)) = true := decide_eq_true q2
        rw [if_pos (.inr q2)]
        simp only [e, cB_true]
      · have e : decide (at_ > (c.b.length : Int)) = false := decide_eq_false q2
        rw [if_neg (by omega)]
        simp only [e, cB_false]
  simp only [F13, find50_1 d, bind2_some, castTup_tup, castCons_cons, castInt_int, castNil_nil, hS4]
  by_cases q : at_ < 0 ∨ at_ > c.b.length
  · have hw : wrF c.b c.tb at_ ms = (1, c.b, c.tb) := by unfold wrF; rw [if_pos q]
    rw [hw]
    simp only [if_pos q, bind3_some, decide_true, cB_true, castCons_cons, castInt_int, castNil_nil]
    exact To2.some ⟨w, rfl, d, Kp.refl _ _, fun j hj => .inl hj⟩
  · have hS3 : S13_3 lf (.ptr id 0 0) at_ b (.ptr id 0 3) h = some (.normal, [], h) := by
      have w1 : IntKind.i64.wrap (at_ + (ms.length : Int)) = at_ + ms.length := wrap_i64 (by omega) (by omega)
      have w2 : IntKind.i64.wrap (at_ + (ms.length : Int) - (c.b.length : Int)) = at_ + ms.length - c.b.length := wrap_i64 (by omega) (by omega)
      simp only [S13_3, er_lenL sb, bv_length, nk, fa, l, bind1_some, er_lenL d.s1, castInt_int, w1, w2]
      by_cases g : at_ + (ms.length : Int) - (c.b.length : Int) > 0
      · have e : decide (at_ + (ms.length : Int) - (c.b.length : Int) > 0) = true := decide_eq_true g
        have e2 : decide (at_ + (ms.length : Int) - (c.b.length : Int) > leftC c) = false := decide_eq_false (by rw [leftC_eq la lb ⟨by omega, hr.2⟩]; omega)
        simp only [e, e2, cB_true, cB_false, left17 d, bind2_some, castInt_int]
      · have e : decide (at_ + (ms.length : Int) - (c.b.length : Int) > 0) = false := decide_eq_false g
        simp only [e, cB_false]
    have hS2 : S13_2 lf (.ptr id 0 0) b h = some (if ms = [] then (.ret, [.int .i64 0], h) else (.normal, [], h)) := by
      simp only [S13_2, change51 d, bind2_some, castInt_int, bne_self_eq_false, cB_false, er_lenL sb, bv_length, bind1_some]
      by_cases g : ms = []
      · subst g; rfl
      · have : ((ms.length : Int) == 0) = false := beq_eq_false_iff_ne.2 (fun z => g (List.eq_nil_of_length_eq_zero (by omega)))
        rw [if_neg g]
        simp only [this, cB_false]
    simp only [if_neg q, hS3, hS2, bind3_some, show decide (EX.normal = EX.ret) = false from rfl, decide_true, cB_true, cB_false, castNil_nil]
    by_cases g : ms = []
    · have hw : wrF c.b c.tb at_ ms = (0, c.b, c.tb) := by unfold wrF; rw [if_neg q, if_pos g]
      rw [hw]
      simp only [if_pos g, bind3_some, decide_true, cB_true, castCons_cons, castInt_int, castNil_nil]
      exact To2.some ⟨w, rfl, d, Kp.refl _ _, fun j hj => .inl hj⟩
    · have hw : wrF c.b c.tb at_ ms = (0, c.b.take at_.toNat ++ ms ++ c.b.drop (at_.toNat + ms.length), tch (at_.toNat + ms.length + 1) (at_ / 64) (at_ + ms.length) c.tb) := by unfold wrF; rw [if_neg q, if_neg g]
      rw [hw]
      obtain ⟨n, rfl⟩ := Int.eq_ofNat_of_zero_le (show 0 ≤ at_ by omega)
      have hpos : 0 < ms.length := List.length_pos_iff.2 g
      simp only [Int.toNat_natCast]
      have w1 : IntKind.i64.wrap ((n : Int) + (ms.length : Int)) = n + ms.length := wrap_i64 (by omega) (by omega)
      have w2 : IntKind.i64.wrap ((n : Int) + (ms.length : Int) - (c.b.length : Int)) = n + ms.length - c.b.length := wrap_i64 (by omega) (by omega)
      have hgrow : (if (n : Int) + (ms.length : Int) - (c.b.length : Int) > 0 then (n : Int) + (ms.length : Int) - (c.b.length : Int) else 0) = ((n + ms.length - c.b.length : Nat) : Int) := by
        split <;> omega
      simp only [if_neg g, bind3_some, show decide (EX.normal = EX.ret) = false from rfl, decide_true, cB_true, cB_false, castNil_nil, nk, fa, l, bind1_some, er_lenL sb, er_lenL d.s1, bv_length, castInt_int, w1, w2, hgrow]
      refine To2.bind2 (appZ_to (n := ((n + ms.length - c.b.length : Nat) : Int)) d.s1 d.a1 (by omega) (by simp [hrm]; omega)) ?_
      rintro x h1 ⟨sx, ax, k1, fx⟩
      rw [Int.toNat_natCast] at sx
      have st1 := d.st.keep k1 (fun z => d.id_out (j := id) (by simp only [z, true_or, or_true]) rfl)
      have nk1 := st1.nilck 0 3
      have fa1 := st1.faddr 0 0 3
      simp only [Nat.reduceAdd, Nat.add_zero] at fa1
      simp only [nk1, fa1, bind1_some]
      have hidx : ∀ j, j ∈ idsOf x → j ≠ id := fun j hj => (fx j hj).elim (fun z => d.id_out (by simp only [z, true_or, or_true])) (fun z => by have := d.st.lt; omega)
      refine To2.bind2 (st1.store1 (j := 3) (x := x) (by simp) sx.sc) ?_
      rintro u h2 ⟨st2, k2⟩
      have sx2 := sx.keep k2 (fun j hj z => hidx j hj (by simpa using z))
      have k12 : Kp h h2 (id :: idsOf w.v1) := k1.trans k2 (fun j hj _ => List.mem_cons_of_mem _ hj) (fun j hj _ => by simp at hj; simp [hj])
      have hvf : ∀ j, j ∈ id :: idsOf w.v1 → j ∈ foot id w := fun j hj => by
        simp only [foot, List.mem_cons, List.mem_append] at hj ⊢
        rcases hj with z | z <;> simp only [z, true_or, or_true]
      have sb2 := sb.keep k12 (fun j hj z => hb j hj (hvf j z))
      have nk2 := st2.nilck 0 3
      have fa2 := st2.faddr 0 0 3
      have l2 : er (.load1 (.c (.ptr id 0 3))) h2 = some x := st2.load1 rfl
      simp only [Nat.reduceAdd, Nat.add_zero] at fa2
      obtain ⟨z, ez, tz⟩ := copyIn (at_ := n) sx2 ax sb2.c (by simpa using hpos) (by simp; omega)
      simp only [nk2, fa2, l2, ez, bind1_some]
      refine To2.bind2 tz ?_
      rintro r h3 ⟨rfl, sx3, k3⟩
      have e3 := wr_eq (a := c.b) (ms := ms) (n := n) (g := n + ms.length - c.b.length) (by omega) rfl
      rw [bv_length, e3] at sx3
      have st3 := st2.keep k3 (fun z => hidx id z rfl)
      have k13 : Kp h h3 (id :: idsOf w.v1) := k12.trans k3 (fun j hj _ => hj) (fun j hj hlt => by
        rcases fx j hj with z | z
        · exact List.mem_cons_of_mem _ z
        · omega)
      obtain ⟨d3, f3⟩ := d.put_v1 (v := x) (x := c.b.take n ++ ms ++ c.b.drop (n + ms.length)) (h' := h3) st3 k13 sx3 ax fx
      simp only [castInt_int]
      refine To2.bind3 (mk13_1 d3) ?_
      rintro ex vs h4 ⟨rfl, rfl, t, tn, d4, k4, f4⟩
      simp only [decide_true, cB_true, castNil_nil]
      have ediv : IntKind.i64.wrap (Int.tdiv (n : Int) 64) = (n : Int) / 64 := by
        rw [Int.tdiv_eq_ediv_of_nonneg (by omega), wrap_i64 (by omega) (by omega)]
      rw [ediv]
      have k14 : Kp h h4 (foot id w) := k13.trans k4 (fun j hj _ => hvf j hj) (fun j hj _ => by simp at hj; simp [hj, foot])
      have sb4 := sb.keep k14 (fun j hj z => hb j hj z)
      have f14 : ∀ j, j ∈ foot id { { w with v1 := x } with t1 := t } → j ∈ foot id w ∨ h.length ≤ j := fun j hj => (f4 j hj).elim (f3 j) (fun z => .inr (by have := k13.len; omega))
      have htf : ∀ j, j ∈ idsM t → j ∈ foot id { { w with v1 := x } with t1 := t } := fun j hj => by simp only [foot, List.mem_cons, List.mem_append, hj, true_or, or_true]
      refine To2.bind3 (touchL lf (j := 3) (t := t) (b := b) (at_ := (n : Int)) (ms := ms) (ks := c.tb) rfl tn (fun z => d4.id_out (j := id) (by simp only [z, true_or, or_true]) rfl) (fun j hj z => ?_) ⟨by omega, by omega⟩ (by omega) (n + ms.length + 1) lf ((n : Int) / 64) h4 (by omega) (by omega) (by omega) (by omega) (by omega) d4.st d4.m1 sb4) ?_
      · rcases f14 j (htf j z) with y | y
        · exact hb j hj y
        · have := sb.lt hj; omega
      · rintro ex vs h5 ⟨rfl, rfl, m5, k5⟩
        simp only [decide_true, cB_true, castNil_nil]
        obtain ⟨d5, f5⟩ := d4.put_t1 (v := t) (x := tch (n + ms.length + 1) ((n : Int) / 64) ((n : Int) + ms.length) c.tb) (h' := h5) (d4.st.keep k5 (fun z => d4.id_out (j := id) (by simp only [z, true_or, or_true]) rfl)) (k5.mono (fun j hj _ => List.mem_cons_of_mem _ hj)) m5 (fun j hj => .inl hj)
        refine To2.some ⟨_, rfl, d5, k14.trans k5 (fun j hj _ => hj) (fun j hj hlt => ?_), fun j hj => ?_⟩
        · rcases f14 j (htf j hj) with y | y
          · exact y
          · omega
        · rcases f5 j hj with y | y
          · exact f14 j y
          · exact .inr (by have := k14.len; omega)

end Go.Proofs.Ytbjphicipgneaaa.Dk
