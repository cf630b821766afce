/- Numbers in bytes: the reference's writing, and signed ones. No condition. -/
import Derived.Test.YtdcdmpgigmhhpaaVaQ
namespace Go.Proofs.Ytdcdmpgigmhhpaa.Va
open Go Go.Proofs.Ytdcdmpgigmhhpaa.E
set_option maxRecDepth 100000
set_option linter.unusedVariables false
set_option linter.unusedSimpArgs false

theorem num27L (lf : Nat) : ∀ (k f n : Nat) (h : List Ob) (out : V) (suf : List Int), n < 128 ^ k → n < 18446744073709551616 → k < f → k ≤ 20 → Sl 1 h out (bv suf) → Ap out → suf.length + k ≤ 1000 →
    To3 (L27_0 lf f n out h) fun x vs h' => ∃ v, x = .exit 0 ∧ vs = [v] ∧ Sl 1 h' v (bv (hiF k n ++ suf)) ∧ Ap v ∧ Kp h h' [] ∧ (v = out ∨ ∀ j, j ∈ idsOf v → h.length ≤ j) := by
  intro k
  induction k with
  | zero =>
    intro f n h out suf hn big hf hk s a hl
    obtain ⟨f, rfl⟩ : ∃ g, f = g + 1 := ⟨f - 1, by omega⟩
    have : n = 0 := by simpa using hn
    subst this
    simp only [L27_0, B27_0, show decide (((0 : Nat) : Int) > 0) = false from rfl, cB_false]
    exact To3.some ⟨out, rfl, rfl, by simpa [hiF] using s, a, Kp.refl _ _, .inl rfl⟩
  | succ k ih =>
    intro f n h out suf hn big hf hk s a hl
    obtain ⟨f, rfl⟩ : ∃ g, f = g + 1 := ⟨f - 1, by omega⟩
    by_cases c : n = 0
    · subst c
      simp only [L27_0, B27_0, show decide (((0 : Nat) : Int) > 0) = false from rfl, cB_false]
      exact To3.some ⟨out, rfl, rfl, by simpa [hiF] using s, a, Kp.refl _ _, .inl rfl⟩
    · have hd1 : decide ((n : Int) > 0) = true := decide_eq_true (by omega)
      have hb : bits .or .u8 (IntKind.u8.wrap (bits .and .u64 (n : Int) 127)) 128 = ((n % 128 + 128 : Nat) : Int) := by
        rw [u64_and_127 _ (by omega) (by omega), wrap_u8, u8_or_128 _ (by omega) (by omega)]; omega
      simp only [L27_0, B27_0, hd1, cB_true, hb, fdiv7]
      refine To3.bind2 (bslice_to (ps := [(0, .int .u8 ((n % 128 + 128 : Nat) : Int))]) (es := bv [((n % 128 + 128 : Nat) : Int)]) (by decide) rfl rfl rfl) ?_
      rintro x h1 ⟨-, -, sx, ax, kx, fx⟩
      have so := s.kp kx
      refine To3.bind2 (app_to sx ax so.c (by simp [roomMax]; omega)) ?_
      intro y h2 qy
      have ny : New h _ y h2 := New.beh ⟨sx, ax, kx, fx⟩ qy
      rw [← bv_append] at ny
      refine (ih f (n / 128) h2 y _ (by rw [Nat.pow_succ] at hn; omega) (by omega) (by omega) (by omega) ny.1 ny.2.1 (by simp; omega)).mono ?_
      rintro x vs h3 ⟨v, rfl, rfl, sv, av, kv, fv⟩
      refine ⟨v, rfl, rfl, ?_, av, ny.2.2.1.tr kv, .inr fun j hj => ?_⟩
      · simpa only [hiF, if_neg c, List.append_assoc, List.cons_append, List.nil_append] using sv
      · rcases fv with rfl | fv
        · exact ny.2.2.2 j hj
        · exact Nat.le_trans ny.2.2.1.len (fv j hj)

theorem num27 {lf : Nat} (hf : 20 < lf) {h : List Ob} {n : Nat} (hn : n < 18446744073709551616) : To2 (F27 lf n h) (New h (bv (numB n))) := by
  have hb : IntKind.u8.wrap (bits .and .u64 (n : Int) 127) = ((n % 128 : Nat) : Int) := by rw [u64_and_127 _ (by omega) (by omega), wrap_u8]; omega
  simp only [F27, hb, fdiv7]
  refine To2.bind2 (bslice_to (ps := [(0, .int .u8 ((n % 128 : Nat) : Int))]) (es := bv [((n % 128 : Nat) : Int)]) (by decide) rfl rfl rfl) ?_
  rintro x h1 ⟨-, -, sx, ax, kx, fx⟩
  refine To2.bind3 (num27L lf 9 lf (n / 128) h1 x _ (by omega) (by omega) (by omega) (by decide) sx ax (by simp)) ?_
  rintro y vs h2 ⟨v, rfl, rfl, sv, av, kv, fv⟩
  simp only [decide_true, cB_true, castCons_cons, castNil_nil]
  refine To2.some ⟨sv, av, kx.tr kv, fun j hj => ?_⟩
  rcases fv with rfl | fv
  · exact fx j hj
  · exact Nat.le_trans kx.len (fv j hj)

/-- A signed number as one without a sign. -/
def zig (s : Int) : Nat := if s < 0 then (-2 * s - 1).toNat else (2 * s).toNat
theorem zig_lt {s : Int} (h0 : -9223372036854775808 ≤ s) (h1 : s < 9223372036854775808) : zig s < 18446744073709551616 := by unfold zig; split <;> omega
theorem xor0_u64 (x : Int) (h0 : 0 ≤ x) (h1 : x < 18446744073709551616) : bits .xor .u64 x 0 = x := by
  have e : (BitVec.ofInt IntKind.u64.bits 0) = 0#(IntKind.u64.bits) := by simp
  simp only [bits, e, BitVec.xor_zero]
  simp only [BitVec.toNat_ofInt, wrap_u64]
  show ((x % ((2 ^ 64 : Nat) : Int)).toNat : Int) % 18446744073709551616 = x
  have : ((2 ^ 64 : Nat) : Int) = 18446744073709551616 := by decide
  omega
theorem xorN_u64 (x : Int) (h0 : 0 ≤ x) (h1 : x < 18446744073709551616) : bits .xor .u64 x 18446744073709551615 = 18446744073709551615 - x := by
  have e : (BitVec.ofInt IntKind.u64.bits 18446744073709551615) = BitVec.allOnes (IntKind.u64.bits) := by decide
  simp only [bits, e, BitVec.xor_allOnes]
  simp only [BitVec.toNat_not, BitVec.toNat_ofInt, wrap_u64]
  show ((2 ^ 64 - 1 - (x % ((2 ^ 64 : Nat) : Int)).toNat : Nat) : Int) % 18446744073709551616 = 18446744073709551615 - x
  have : ((2 ^ 64 : Nat) : Int) = 18446744073709551616 := by decide
  omega
theorem xor0_i64 (x : Int) (h0 : 0 ≤ x) (h1 : x < 9223372036854775808) : bits .xor .i64 x 0 = x := by
  have e : (BitVec.ofInt IntKind.i64.bits 0) = 0#(IntKind.i64.bits) := by simp
  simp only [bits, e, BitVec.xor_zero]
  simp only [BitVec.toNat_ofInt, IntKind.wrap_i64]
  show ((x % ((2 ^ 64 : Nat) : Int)).toNat + 9223372036854775808 : Int) % 18446744073709551616 - 9223372036854775808 = x
  have : ((2 ^ 64 : Nat) : Int) = 18446744073709551616 := by decide
  omega
theorem xorN_i64 (x : Int) (h0 : 0 ≤ x) (h1 : x < 9223372036854775808) : bits .xor .i64 x (-1) = -x - 1 := by
  have e : (BitVec.ofInt IntKind.i64.bits (-1)) = BitVec.allOnes (IntKind.i64.bits) := by decide
  simp only [bits, e, BitVec.xor_allOnes]
  simp only [BitVec.toNat_not, BitVec.toNat_ofInt, IntKind.wrap_i64]
  show (((2 ^ 64 - 1 - (x % ((2 ^ 64 : Nat) : Int)).toNat : Nat) : Int) + 9223372036854775808 : Int) % 18446744073709551616 - 9223372036854775808 = -x - 1
  have : ((2 ^ 64 : Nat) : Int) = 18446744073709551616 := by decide
  omega
theorem u64_and_1 (x : Int) (h0 : 0 ≤ x) (h1 : x < 18446744073709551616) : bits .and .u64 x 1 = x % 2 := bits_mask .u64 64 (by decide) wraps_u64 1 (by decide) x h0 h1

theorem sig28 {lf : Nat} (hf : 20 < lf) {h : List Ob} {s : Int} (h0 : -9223372036854775808 ≤ s) (h1 : s < 9223372036854775808) : To2 (F28 lf s h) (New h (bv (numB (zig s)))) := by
  simp only [F28]
  by_cases c : s < 0
  · have e : IntKind.u64.wrap (IntKind.u64.wrap (IntKind.u64.wrap (IntKind.i64.wrap (0 - IntKind.i64.wrap (s + 1))) * 2) + 1) = (zig s : Int) := by
      unfold zig
      rw [wrap_i64 (n := s + 1) (by omega) (by omega), wrap_i64 (n := 0 - (s + 1)) (by omega) (by omega)]
      simp only [wrap_u64, c, if_true]
      omega
    simp only [c, decide_true, cB_true, e]
    refine To2.bind2 (num27 hf (zig_lt h0 h1)) ?_
    intro v h2 q
    exact To2.some q
  · have e : IntKind.u64.wrap (IntKind.u64.wrap s * 2) = (zig s : Int) := by
      unfold zig
      simp only [wrap_u64, c, if_false]
      omega
    simp only [c, decide_false, cB_false, e]
    refine To2.bind2 (num27 hf (zig_lt h0 h1)) ?_
    intro v h2 q
    exact To2.some q

theorem sig29 {lf : Nat} (hf : 20 < lf) {h : List Ob} {b : V} {bs : List Int} (sb : Sl 1 h b (bv bs)) {s : Int} (h0 : -9223372036854775808 ≤ s) (h1 : s < 9223372036854775808) (hl : bs.length + 10 ≤ roomMax) : To2 (F29 lf b s h) (New h (bv (bs ++ numB (zig s)))) := by
  have e : bits .xor .u64 (IntKind.u64.wrap (IntKind.u64.wrap s * 2 ^ 1)) (IntKind.u64.wrap (Int.fdiv s (2 ^ 63))) = (zig s : Int) := by
    have fd : Int.fdiv s (2 ^ 63) = s / 9223372036854775808 := Int.fdiv_eq_ediv_of_nonneg _ (by decide)
    rw [fd]
    unfold zig
    by_cases c : s < 0
    · have e1 : IntKind.u64.wrap (s / 9223372036854775808) = 18446744073709551615 := by rw [wrap_u64]; omega
      rw [e1, xorN_u64 _ (by rw [wrap_u64]; omega) (by rw [wrap_u64]; omega)]
      simp only [wrap_u64, c, if_true]
      omega
    · have e1 : IntKind.u64.wrap (s / 9223372036854775808) = 0 := by rw [wrap_u64]; omega
      rw [e1, xor0_u64 _ (by rw [wrap_u64]; omega) (by rw [wrap_u64]; omega)]
      simp only [wrap_u64, c, if_false]
      omega
  simp only [F29, e]
  refine To2.bind2 (app26 hf sb (zig_lt h0 h1) hl) ?_
  intro v h2 q
  exact To2.some q

/-- The signed number of one without a sign. -/
def zag (n : Int) : Int := if n % 2 = 1 then -(n / 2) - 1 else n / 2
theorem zag_zig (s : Int) : zag (zig s : Int) = s := by unfold zag zig; split <;> split <;> omega
theorem takeF_range : ∀ (ms : List Int) (i : Nat) (n : Int), Byt ms → 0 ≤ n → n < 18446744073709551616 → 0 ≤ (takeF ms i n).1 ∧ (takeF ms i n).1 < 18446744073709551616
  | [], i, n, hb, h0, h1 => by simp [takeF]
  | m :: ms, i, n, hb, h0, h1 => by
    have := hb m (by simp)
    rw [takeF_cons]
    split
    · simp
    · split
      · simp only; omega
      · exact takeF_range ms _ _ (fun x hx => hb x (by simp [hx])) (by omega) (by omega)
theorem take17 {lf : Nat} {h : List Ob} {v : V} {ms : List Int} (s : Sl 1 h v (bv ms)) (hb : Byt ms) (hl : ms.length ≤ 9223372036854775807) (hf : ms.length < lf) : F17 lf v h = some (.tup [.int .i64 (zag (takeF ms 0 0).1), .int .i64 (takeF ms 0 0).2.1, .int .i64 (takeF ms 0 0).2.2], h) := by
  obtain ⟨l0, l1⟩ := takeF_range ms 0 0 hb (by decide) (by decide)
  simp only [F17, take15 s hb hl hf, bind2_some, tk, castTup_tup, castCons_cons, castInt_int, castNil_nil]
  generalize (takeF ms 0 0).1 = n at l0 l1
  have e : bits .xor .i64 (IntKind.i64.wrap (Int.fdiv n (2 ^ 1))) (IntKind.i64.wrap (0 - IntKind.i64.wrap (bits .and .u64 n 1))) = zag n := by
    have fd : Int.fdiv n (2 ^ 1) = n / 2 := Int.fdiv_eq_ediv_of_nonneg _ (by decide)
    rw [fd, u64_and_1 n l0 l1, wrap_i64 (n := n / 2) (by omega) (by omega)]
    unfold zag
    by_cases c : n % 2 = 1
    · rw [if_pos c, c, show IntKind.i64.wrap (0 - IntKind.i64.wrap 1) = -1 from by decide, xorN_i64 _ (by omega) (by omega)]
    · have c0 : n % 2 = 0 := by omega
      rw [if_neg c, c0, show IntKind.i64.wrap (0 - IntKind.i64.wrap 0) = 0 from by decide, xor0_i64 _ (by omega) (by omega)]
  rw [e]
end Go.Proofs.Ytdcdmpgigmhhpaa.Va
