/- Disks: writing to any file; reading. No condition. -/
import Derived.Test.YtbjphicipgneaaaDkS
namespace Go.Proofs.Ytbjphicipgneaaa.Dk
open Go Go.Proofs.Ytbjphicipgneaaa.E
set_option maxRecDepth 100000
set_option linter.unusedVariables false
set_option linter.unusedSimpArgs false

def wrD (c : DC) (n at_ : Int) (ms : List Int) : DC := if n = 0 then { c with a := (wrF c.a c.ta at_ ms).2.1, ta := (wrF c.a c.ta at_ ms).2.2 } else if n = 1 then { c with b := (wrF c.b c.tb at_ ms).2.1, tb := (wrF c.b c.tb at_ ms).2.2 } else c
def wrE (c : DC) (n at_ : Int) (ms : List Int) : Int := if n = 0 then (wrF c.a c.ta at_ ms).1 else if n = 1 then (wrF c.b c.tb at_ ms).1 else 1
theorem write13 {lf : Nat} (hf : 3000000 < lf) {h : List Ob} {id : Nat} {w : DV} {c : DC} {b : V} {n at_ : Int} {ms : List Int} (d : Dk h id w c) (sb : Sl 1 h b (bv ms)) (hb : ∀ j, j ∈ idsOf b → j ∉ foot id w) (la : c.a.length ≤ 100000) (lb : c.b.length ≤ 100000) (hl : ms.length ≤ 100000) (hr : (c.a.length : Int) + c.b.length + ms.length ≤ c.room ∧ c.room ≤ 2147483648) :
    To2 (F13 lf (.ptr id 0 0) n at_ b h) fun v h' => ∃ w', v = .int .i64 (wrE c n at_ ms) ∧ Dk h' id w' (wrD c n at_ ms) ∧ Kp h h' (foot id w) ∧ ∀ j, j ∈ foot id w' → j ∈ foot id w ∨ h.length ≤ j := by
  unfold wrE wrD
  by_cases q0 : n = 0
  · subst q0
    simp only [if_true]
    exact write13_0 hf d sb hb la lb hl hr
  · by_cases q1 : n = 1
    · subst q1
      simp only [if_neg q0, if_true]
      exact write13_1 hf d sb hb la lb hl hr
    · simp only [if_neg q0, if_neg q1]
      have hS : S13_4 lf at_ .nilp 1 h = some (.ret, [.int .i64 1], h) := rfl
      simp only [F13, find50_n d (n := n) (by omega), bind2_some, castTup_tup, castCons_cons, castInt_int, castNil_nil, hS, bind3_some, decide_true, cB_true]
      exact To2.some ⟨w, rfl, d, Kp.refl _ _, fun j hj => .inl hj⟩


theorem read14_0 {lf : Nat} {h : List Ob} {id : Nat} {w : DV} {c : DC} {m : Nat} (d : Dk h id w c) (hm : m ≤ c.a.length) (hl : c.a.length ≤ 1000000) : To2 (F14 lf (.ptr id 0 0) 0 0 (m : Int) h) fun v h' => ∃ y, v = .tup [y, .int .i64 0] ∧ New h (bv (c.a.take m)) y h' := by
  have nk := d.st.nilck 0 0
  have fa := d.st.faddr 0 0 0
  have l : er (.load1 (.c (.ptr id 0 0))) h = some w.v0 := d.st.load1 rfl
  simp only [Nat.reduceAdd, Nat.add_zero] at fa
  have w1 : IntKind.i64.wrap ((c.a.length : Int) - 0) = c.a.length := by rw [wrap_i64 (by omega) (by omega)]; omega
  have w2 : IntKind.i64.wrap (0 + (m : Int)) = m := by rw [wrap_i64 (by omega) (by omega)]; omega
  have e1 : decide ((m : Int) < 0) = false := decide_eq_false (by omega)
  have e2 : decide ((0 : Int) > (c.a.length : Int)) = false := decide_eq_false (by omega)
  have e3 : decide ((m : Int) > (c.a.length : Int)) = false := decide_eq_false (by omega)
  have hS : S14_0 lf 0 (m : Int) (.ptr id 0 0) 0 h = some (.normal, [], h) := by
    simp only [S14_0, bne_self_eq_false, cB_false, show decide ((0 : Int) < 0) = false from rfl, e1, nk, fa, l, bind1_some, er_lenL d.s0, bv_length, castInt_int, e2, w1, e3]
  obtain ⟨z, ez, sz, iz⟩ := slc_to (lo := some (.c (.int .i64 0))) (hi := some (.c (.int .i64 (m : Int)))) (a := 0) (b := m) d.s0 bv_cells rfl (by simp only [Option.map_some, getC, bndV]; rw [if_pos (by omega), Int.toNat_natCast]) (by omega) (by rw [bv_length]; omega)
  have e4 : ((bv c.a).drop 0).take (m - 0) = bv (c.a.take m) := by simp [bv, List.map_take]
  rw [e4] at sz
  simp only [F14, find50_0 d, bind2_some, castTup_tup, castCons_cons, castInt_int, castNil_nil, hS, bind3_some, show decide (EX.normal = EX.ret) = false from rfl, decide_true, cB_true, cB_false, nk, fa, l, bind1_some, w2, ez]
  refine To2.bind2 (clone52 sz (by simp; omega)) ?_
  rintro y h1 ny
  exact To2.some ⟨y, rfl, ny⟩


theorem read14_1 {lf : Nat} {h : List Ob} {id : Nat} {w : DV} {c : DC} {m : Nat} (d : Dk h id w c) (hm : m ≤ c.b.length) (hl : c.b.length ≤ 1000000) : To2 (F14 lf (.ptr id 0 0) 1 0 (m : Int) h) fun v h' => ∃ y, v = .tup [y, .int .i64 0] ∧ New h (bv (c.b.take m)) y h' := by
  have nk := d.st.nilck 0 3
  have fa := d.st.faddr 0 0 3
  have l : er (.load1 (.c (.ptr id 0 3))) h = some w.v1 := d.st.load1 rfl
  simp only [Nat.reduceAdd, Nat.add_zero] at fa
  have w1 : IntKind.i64.wrap ((c.b.length : Int) - 0) = c.b.length := by rw [wrap_i64 (by omega) (by omega)]; omega
  have w2 : IntKind.i64.wrap (0 + (m : Int)) = m := by rw [wrap_i64 (by omega) (by omega)]; omega
  have e1 : decide ((m : Int) < 0) = false := decide_eq_false (by omega)
  have e2 : decide ((0 : Int) > (c.b.length : Int)) = false := decide_eq_false (by omega)
  have e3 : decide ((m : Int) > (c.b.length : Int)) = false := decide_eq_false (by omega)
  have hS : S14_0 lf 0 (m : Int) (.ptr id 0 3) 0 h = some (.normal, [], h) := by
    simp only [S14_0, bne_self_eq_false, cB_false, show decide ((0 : Int) < 0) = false from rfl, e1, nk, fa, l, bind1_some, er_lenL d.s1, bv_length, castInt_int, e2, w1, e3]
  obtain ⟨z, ez, sz, iz⟩ := slc_to (lo := some (.c (.int .i64 0))) (hi := some (.c (.int .i64 (m : Int)))) (a := 0) (b := m) d.s1 bv_cells rfl (by simp only [Option.map_some, getC, bndV]; rw [if_pos (by omega), Int.toNat_natCast]) (by omega) (by rw [bv_length]; omega)
  have e4 : ((bv c.b).drop 0).take (m - 0) = bv (c.b.take m) := by simp [bv, List.map_take]
  rw [e4] at sz
  simp only [F14, find50_1 d, bind2_some, castTup_tup, castCons_cons, castInt_int, castNil_nil, hS, bind3_some, show decide (EX.normal = EX.ret) = false from rfl, decide_true, cB_true, cB_false, nk, fa, l, bind1_some, w2, ez]
  refine To2.bind2 (clone52 sz (by simp; omega)) ?_
  rintro y h1 ny
  exact To2.some ⟨y, rfl, ny⟩

end Go.Proofs.Ytbjphicipgneaaa.Dk
