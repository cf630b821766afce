/- VarintTakes over the printed functions: of any bytes the package's Take and TakeSigned and the reference's give the same number, length and error. No condition beyond the statement's own. -/
import Derived.Test.YtdcdmpgigmhhpaaPVarintTakesx1
namespace Go.Proofs.Ytdcdmpgigmhhpaa.Pure
open Go.RowKit Go.Proofs.Ytdcdmpgigmhhpaa.PVarintTakes Go.Proofs.YtdcdmpgigmhhpaaW.PrintWords Go.Proofs.YtdcdmpgigmhhpaaW.PrintLast

theorem xor_zero_i64 (x : Int) (h0 : 0 ≤ x) (h1 : x < 9223372036854775808) : Go.bits .xor .i64 x 0 = x := by
  have e : (BitVec.ofInt IntKind.i64.bits 0) = 0#(IntKind.i64.bits) := by simp
  simp only [Go.bits, e, BitVec.xor_zero]
  simp only [BitVec.toNat_ofInt, IntKind.wrap_i64]
  show ((x % ((2 ^ 64 : Nat) : Int)).toNat + 9223372036854775808 : Int) % 18446744073709551616 - 9223372036854775808 = x
  have : ((2 ^ 64 : Nat) : Int) = 18446744073709551616 := by decide
  omega

theorem xor_ones_i64 (x : Int) (h0 : 0 ≤ x) (h1 : x < 9223372036854775808) : Go.bits .xor .i64 x (-1) = -x - 1 := by
  have e : (BitVec.ofInt IntKind.i64.bits (-1)) = BitVec.allOnes (IntKind.i64.bits) := by decide
  simp only [Go.bits, e, BitVec.xor_allOnes]
  simp only [BitVec.toNat_not, BitVec.toNat_ofInt, IntKind.wrap_i64]
  show (((2 ^ 64 - 1 - (x % ((2 ^ 64 : Nat) : Int)).toNat : Nat) : Int) + 9223372036854775808 : Int) % 18446744073709551616 - 9223372036854775808 = -x - 1
  have : ((2 ^ 64 : Nat) : Int) = 18446744073709551616 := by decide
  omega

theorem and_one (E : Int) (h0 : 0 ≤ E) (h1 : E < 18446744073709551616) : Go.bits .and .u64 E 1 = E % 2 := by
  obtain ⟨n, rfl⟩ := Int.eq_ofNat_of_zero_le h0
  have h := bits_and_u64_nat n 1 (by omega) (by omega)
  rw [show ((1 : Nat) : Int) = 1 from rfl] at h
  rw [h, Nat.and_one_is_mod]
  omega

/-- What is known of an answer. -/
def Fine (r : Int × Int × Int) : Prop := (0 ≤ r.1 ∧ r.1 < 18446744073709551616) ∧ (r = (0, 0, 2) ∨ r.2.2 = 0)

theorem bits_or_range (a b : Int) : 0 ≤ Go.bits .or .u64 a b ∧ Go.bits .or .u64 a b < 18446744073709551616 := by
  simp only [Go.bits, IntKind.wrap_u64]
  omega

theorem takes (l : List Int) (hl : l.length ≤ 140737488355328) (d : Nat) : ∀ (k : Nat) (n i : Int), 0 ≤ n → n < 18446744073709551616 → 0 ≤ i → i ≤ l.length → (l.length : Int) - i = d → 2 * d < k →
    ∃ r, varint_Take.l0 k n l (l.length : Int) i = some r ∧ wainscotref01_Take.l0 k l n (l.length : Int) i = some r ∧ Fine r := by
  have bad : Fine (0, 0, 2) := ⟨⟨by decide, by decide⟩, .inl rfl⟩
  induction d with
  | zero =>
    intro k n i hn hn' h0 h1 hd hk
    obtain ⟨k, rfl⟩ : ∃ m, k = m + 1 := ⟨k - 1, by omega⟩
    refine ⟨(0, 0, 2), ?_, ?_, bad⟩
    · simp only [varint_Take.l0]; rw [if_neg (by omega)]
    · simp only [wainscotref01_Take.l0]; rw [if_neg (by omega)]
  | succ d ih =>
    intro k n i hn hn' h0 h1 hd hk
    obtain ⟨k, rfl⟩ : ∃ m, k = m + 2 := ⟨k - 2, by omega⟩
    have hlt : i < (l.length : Int) := by omega
    have hw : wrap64 (i + 1) = i + 1 := by unfold wrap64; omega
    -- the second half of a round
    have step : ∀ b : Bool, ∃ r, varint_Take.j1 (k + 1) n i (rd l i) l (l.length : Int) i b = some r ∧ wainscotref01_Take.j1 (k + 1) l n i (l.length : Int) i b = some r ∧ Fine r := by
      intro b
      cases b with
      | true => exact ⟨(0, 0, 2), by simp only [varint_Take.j1, if_true], by simp only [wainscotref01_Take.j1, if_true], bad⟩
      | false =>
        by_cases hc : rd l i < 128
        · refine ⟨(Go.bits .or .u64 (IntKind.u64.wrap (n * 128)) (IntKind.u64.wrap (Go.bits .and .u8 (rd l i) 127)), wrap64 (i + 1), 0), ?_, ?_, ?_⟩
          · simp only [varint_Take.j1]; rw [if_neg (by simp), if_pos hc]
          · simp only [wainscotref01_Take.j1]; rw [if_neg (by simp), if_pos h0, if_pos hlt, if_pos hc]
          · exact ⟨bits_or_range _ _, .inr rfl⟩
        · obtain ⟨r, e1, e2, e3⟩ := ih k (Go.bits .or .u64 (IntKind.u64.wrap (n * 128)) (IntKind.u64.wrap (Go.bits .and .u8 (rd l i) 127))) (i + 1) (bits_or_range _ _).1 (bits_or_range _ _).2 (by omega) (by omega) (by omega) (by omega)
          refine ⟨r, ?_, ?_, e3⟩
          · simp only [varint_Take.j1]; rw [if_neg (by simp), if_neg hc, hw]; exact e1
          · simp only [wainscotref01_Take.j1]; rw [if_neg (by simp), if_pos h0, if_pos hlt, if_neg hc, hw]; exact e2
    have hb : ((n / 144115188075855872) != 0) = (decide (n > 144115188075855871)) := by
      by_cases hx : n > 144115188075855871
      · rw [decide_eq_true hx, bne_iff_ne]; omega
      · rw [decide_eq_false hx]; have : n / 144115188075855872 = 0 := by omega
        rw [this]; rfl
    simp only [varint_Take.l0, wainscotref01_Take.l0]
    rw [if_pos hlt, if_pos h0, if_pos hlt, if_pos hlt]
    by_cases c1 : i = 10
    · rw [if_pos c1, if_pos c1]; exact step true
    · rw [if_neg c1, if_neg c1]
      by_cases c2 : i = 0
      · subst c2
        rw [if_pos rfl, if_pos rfl, if_pos hlt]
        by_cases c3 : rd l 0 = 128
        · rw [if_pos c3, if_pos c3]; exact step true
        · rw [if_neg c3, if_neg c3, hb]; exact step _
      · rw [if_neg c2, if_neg c2, hb]; exact step _

theorem take5 (m : Nat) : varint_Take.l0 (m + 3) 0 [5] (([5] : List Int).length : Int) 0 = some (5, 1, 0) := by kernel_rfl

theorem none_signed : (some (Go.bits .xor .i64 (wrap64 (0 / 2)) (wrap64 (-(wrap64 (Go.bits .and .u64 0 1)))), (0 : Int), (2 : Int))) = some (0, 0, 2) := by kernel_rfl

theorem VarintTakes : wainscotlaw02_VarintTakes.Pure := by
  intro l _ hl _
  obtain ⟨r, e1, e2, ⟨h0, h1⟩, h2⟩ := takes l (by omega) l.length (2 * l.length + 3) 0 0 (by decide) (by decide) (by decide) (by omega) (by omega) (by omega)
  obtain ⟨r', e3, _, _⟩ := takes [5] (by decide) 1 (2 * l.length + 3) 0 0 (by decide) (by decide) (by decide) (by decide) (by decide) (by omega)
  refine ⟨2 * l.length + 3, ?_⟩
  have ha : wainscotlaw02_awake.f (2 * l.length + 3) = some true := by
    unfold wainscotlaw02_awake.f varint_Take.f
    have : varint_Take.l0 (2 * l.length + 3) 0 [5] (([5] : List Int).length : Int) 0 = some (5, 1, 0) := by
      exact take5 _
    rw [this]
    rfl
  have f1 : varint_Take.f (2 * l.length + 3) l = some r := e1
  have f2 : wainscotref01_Take.f (2 * l.length + 3) l = some r := e2
  obtain ⟨n, j, e⟩ := r
  have hs : ∃ s : Int × Int × Int, varint_TakeSigned.f (2 * l.length + 3) l = some s ∧ wainscotref01_TakeSigned.f (2 * l.length + 3) l = some s := by
    unfold varint_TakeSigned.f wainscotref01_TakeSigned.f
    rw [f1, f2]
    simp only [Option.bind_some]
    rcases h2 with h2 | h2
    · obtain ⟨rfl, rfl, rfl⟩ : n = 0 ∧ j = 0 ∧ e = 2 := by simpa using h2
      exact ⟨(0, 0, 2), none_signed, rfl⟩
    · have h3 : e = 0 := h2
      subst h3
      simp only at h0 h1
      rw [if_pos rfl]
      have ea : Go.bits .and .u64 n 1 = n % 2 := and_one n h0 h1
      have et : Int.tmod n 2 = n % 2 := Int.tmod_eq_emod_of_nonneg h0
      have ed : Int.tdiv n 2 = n / 2 := Int.tdiv_eq_ediv_of_nonneg h0
      have ew : IntKind.u64.wrap (n / 2) = n / 2 := by rw [IntKind.wrap_u64]; omega
      have ew2 : wrap64 (n / 2) = n / 2 := by unfold wrap64; omega
      have ew3 : wrap64 (-(n / 2)) = -(n / 2) := by unfold wrap64; omega
      have ew4 : wrap64 (-(n / 2) - 1) = -(n / 2) - 1 := by unfold wrap64; omega
      rw [ea, et, ed, ew, ew2, ew3, ew4]
      by_cases c : n % 2 = 1
      · rw [if_pos c, c, show wrap64 (-(wrap64 1)) = -1 from by unfold wrap64; rfl, xor_ones_i64 _ (by omega) (by omega)]
        exact ⟨_, rfl, rfl⟩
      · have c0 : n % 2 = 0 := by omega
        rw [if_neg c, c0, show wrap64 (-(wrap64 0)) = 0 from by unfold wrap64; rfl, xor_zero_i64 _ (by omega) (by omega)]
        exact ⟨_, rfl, rfl⟩
  obtain ⟨⟨a, b, c⟩, s1, s2⟩ := hs
  unfold wainscotlaw02_VarintTakes.f
  rw [ha, f1, f2, s1, s2]
  simp

end Go.Proofs.Ytdcdmpgigmhhpaa.Pure
