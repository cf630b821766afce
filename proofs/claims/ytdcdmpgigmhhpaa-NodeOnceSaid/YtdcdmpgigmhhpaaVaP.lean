/- Numbers in bytes: what the two ways of writing and the one of reading come to. No condition. -/
import Derived.Test.YtdcdmpgigmhhpaaVas
import Derived.Test.YtdcdmpgigmhhpaaL3
import Derived.Laws.BitsLemmas
import Derived.Lib.EndianBits
namespace Go.Proofs.Ytdcdmpgigmhhpaa.Va
open Go Go.Proofs.Ytdcdmpgigmhhpaa.E
set_option maxRecDepth 100000
set_option linter.unusedVariables false
set_option linter.unusedSimpArgs false

/-- The bytes ahead of the last: so many at most. -/
def hiF : Nat → Nat → List Int
  | 0, _ => []
  | k + 1, m => if m = 0 then [] else hiF k (m / 128) ++ [((m % 128 + 128 : Nat) : Int)]
def numB (n : Nat) : List Int := hiF 9 (n / 128) ++ [((n % 128 : Nat) : Int)]
theorem hiF_zero (k : Nat) : hiF k 0 = [] := by cases k <;> simp [hiF]
theorem hiF_len : ∀ k m, (hiF k m).length ≤ k
  | 0, m => by simp [hiF]
  | k + 1, m => by
    simp only [hiF]
    split
    · simp
    · simp; exact hiF_len k _
theorem numB_len (n : Nat) : (numB n).length ≤ 10 := by simp [numB]; exact hiF_len 9 _
theorem numB_pos (n : Nat) : 0 < (numB n).length := by simp [numB]
theorem hiF_byt : ∀ k m, ∀ x, x ∈ hiF k m → 128 ≤ x ∧ x ≤ 255
  | 0, m, x, h => by simp [hiF] at h
  | k + 1, m, x, h => by
    simp only [hiF] at h
    split at h
    · simp at h
    · rcases List.mem_append.1 h with h | h
      · exact hiF_byt k _ x h
      · simp at h; omega
theorem numB_byt (n : Nat) : Byt (numB n) := by
  intro x h
  rcases List.mem_append.1 h with h | h
  · have := hiF_byt 9 _ x h; omega
  · simp at h; omega

theorem u8_or_128 (x : Int) (h0 : 0 ≤ x) (h1 : x < 256) : bits .or .u8 x 128 = x % 128 + 128 := by
  obtain ⟨n, rfl⟩ := Int.eq_ofNat_of_zero_le h0
  have h := (bits_nat .u8 8 (by decide) wraps_u8 n 128 (by omega) (by decide)).2
  have e : ((128 : Nat) : Int) = 128 := rfl
  rw [e] at h
  rw [h]
  have key : ∀ x : Fin 256, x.val ||| 128 = x.val % 128 + 128 := by decide
  have := key ⟨n, by omega⟩
  simp only at this
  rw [this]; omega
theorem u64_and_127 (x : Int) (h0 : 0 ≤ x) (h1 : x < 18446744073709551616) : bits .and .u64 x 127 = x % 128 := bits_mask .u64 64 (by decide) wraps_u64 7 (by decide) x h0 h1
theorem u8_and_127 (x : Int) (h0 : 0 ≤ x) (h1 : x < 256) : bits .and .u8 x 127 = x % 128 := bits_mask .u8 8 (by decide) wraps_u8 7 (by decide) x h0 h1
theorem u64_or_7 (x y : Int) (h0 : 0 ≤ x) (h1 : x < 144115188075855872) (h2 : 0 ≤ y) (h3 : y < 128) : bits .or .u64 (x * 128) y = x * 128 + y :=
  bits_join .u64 64 (by decide) wraps_u64 7 (x * 128) y (by omega) (by omega) (by omega) h2 h3 (by omega)
theorem fdiv7 (n : Nat) : Int.fdiv (n : Int) (2 ^ 7) = ((n / 128 : Nat) : Int) := by
  rw [Int.fdiv_eq_ediv_of_nonneg _ (by decide)]; simp

/-! ### Reading -/
def takeF : List Int → Nat → Int → Int × Int × Int
  | [], _, _ => (0, 0, 2)
  | m :: ms, i, n => if i = 10 ∨ (i = 0 ∧ m = 128) ∨ 144115188075855872 ≤ n then (0, 0, 2) else
      if m < 128 then (n * 128 + m % 128, ((i + 1 : Nat) : Int), 0) else takeF ms (i + 1) (n * 128 + m % 128)

theorem take15S (lf : Nat) (h : List Ob) (n c : Int) (i : Nat) (h0 : 0 ≤ n) : S15_0 lf n i c h = if i = 10 ∨ (i = 0 ∧ c = 128) ∨ 144115188075855872 ≤ n then some (.exit 0, [], h) else some (.normal, [], h) := by
  have e : Int.fdiv n (2 ^ 57) = n / 144115188075855872 := Int.fdiv_eq_ediv_of_nonneg _ (by decide)
  have e2 : (n / 144115188075855872 != 0) = decide (144115188075855872 ≤ n) := by
    by_cases q : 144115188075855872 ≤ n
    · rw [decide_eq_true q, bne_iff_ne]; omega
    · rw [decide_eq_false q]; have : n / 144115188075855872 = 0 := by omega
      rw [this]; rfl
  simp only [S15_0, e, e2]
  by_cases c1 : i = 10
  · subst c1; simp
  · have d1 : ((i : Int) == 10) = false := by simp; omega
    by_cases c2 : i = 0
    · subst c2
      by_cases c3 : c = 128
      · subst c3; simp
      · have d3 : (c == 128) = false := by simp [c3]
        by_cases c4 : 144115188075855872 ≤ n <;> simp [c3, c4, d3]
    · have d2 : ((i : Int) == 0) = false := by simp; omega
      by_cases c4 : 144115188075855872 ≤ n <;> simp [c1, c2, c4, d1, d2]

def tk (r : Int × Int × Int) : List V := [.int .u64 r.1, .int .i64 r.2.1, .int .i64 r.2.2]
theorem take15L (lf : Nat) {h : List Ob} {v : V} {ms : List Int} (s : Sl 1 h v (bv ms)) (hb : Byt ms) (hl : ms.length ≤ 9223372036854775807) : ∀ (m k f : Nat) (n : Int), ms.length = k + m → m < f → 0 ≤ n → n < 18446744073709551616 →
    (L15_1 lf f n v ms.length k h = some (.exit 0, [], h) ∧ takeF (ms.drop k) k n = (0, 0, 2)) ∨ L15_1 lf f n v ms.length k h = some (.ret, tk (takeF (ms.drop k) k n), h) := by
  intro m
  induction m with
  | zero =>
    intro k f n hk hf h0 h1
    obtain ⟨f, rfl⟩ : ∃ g, f = g + 1 := ⟨f - 1, by omega⟩
    have e : ms.drop k = [] := List.drop_of_length_le (by omega)
    have hd : decide ((k : Int) < (ms.length : Int)) = false := decide_eq_false (by omega)
    left
    simp only [L15_1, B15_1, hd, cB_false, e, takeF]
    exact ⟨trivial, trivial⟩
  | succ m ih =>
    intro k f n hk hf h0 h1
    obtain ⟨f, rfl⟩ : ∃ g, f = g + 1 := ⟨f - 1, by omega⟩
    have hlt : k < ms.length := by omega
    have hd : decide ((k : Int) < (ms.length : Int)) = true := decide_eq_true (by omega)
    obtain ⟨a, a1, a2⟩ := s.at1 (k := (k : Int)) (e := .int .u8 ms[k]) (by omega) (bv_get (by simp [hlt])) rfl
    have hw : IntKind.i64.wrap ((k : Int) + 1) = ((k + 1 : Nat) : Int) := by rw [wrap_i64 (by omega) (by omega)]; simp
    have hm := hb ms[k] (List.getElem_mem hlt)
    rw [List.drop_eq_getElem_cons hlt]
    simp only [L15_1, B15_1, hd, cB_true, a1, a2, bind1_some, castInt_int, take15S lf h n _ k h0, takeF]
    by_cases c : k = 10 ∨ (k = 0 ∧ ms[k] = 128) ∨ 144115188075855872 ≤ n
    · left
      simp only [if_pos c, bind3_some, decide_true, cB_true, castNil_nil]
      exact ⟨trivial, trivial⟩
    · have hn : n < 144115188075855872 := by omega
      have e1 : IntKind.u64.wrap (n * 2 ^ 7) = n * 128 := by rw [wrap_u64]; omega
      have e2 : IntKind.u64.wrap (bits .and .u8 ms[k] 127) = ms[k] % 128 := by rw [u8_and_127 _ hm.1 (by omega), wrap_u64]; omega
      have e3 : bits .or .u64 (n * 128) (ms[k] % 128) = n * 128 + ms[k] % 128 := u64_or_7 _ _ h0 hn (by omega) (by omega)
      simp only [if_neg c, bind3_some, show decide (EX.normal = EX.exit 0) = false from rfl, decide_true, cB_true, cB_false, castNil_nil, e1, e2, e3, hw]
      by_cases q : ms[k] < 128
      · right
        simp only [q, decide_true, cB_true, if_true]
        rfl
      · simp only [q, decide_false, cB_false, if_false]
        exact ih (k + 1) f _ (by omega) (by omega) (by omega) (by omega)

theorem take15 {lf : Nat} {h : List Ob} {v : V} {ms : List Int} (s : Sl 1 h v (bv ms)) (hb : Byt ms) (hl : ms.length ≤ 9223372036854775807) (hf : ms.length < lf) : F15 lf v h = some (.tup (tk (takeF ms 0 0)), h) := by
  have := take15L lf s hb hl ms.length 0 lf 0 (by omega) hf (by decide) (by decide)
  simp only [F15, er_lenL s, bv_length, bind1_some, castInt_int]
  have z : ((0 : Nat) : Int) = 0 := rfl
  rw [List.drop_zero, z] at this
  rcases this with ⟨e1, e2⟩ | e1
  · rw [e1, e2]
    rfl
  · rw [e1]
    rfl

theorem takeF_cons (m : Int) (ms : List Int) (i : Nat) (n : Int) : takeF (m :: ms) i n = if i = 10 ∨ (i = 0 ∧ m = 128) ∨ 144115188075855872 ≤ n then (0, 0, 2) else
      if m < 128 then (n * 128 + m % 128, ((i + 1 : Nat) : Int), 0) else takeF ms (i + 1) (n * 128 + m % 128) := rfl
theorem takeF_hi : ∀ (k m : Nat) (r : List Int), m ≠ 0 → m < 128 ^ k → k ≤ 10 → m / 128 < 144115188075855872 → takeF (hiF k m ++ r) 0 0 = takeF r (hiF k m).length m
  | 0, m, r, h0, h1, hk, hm => by simp at h1; exact absurd h1 h0
  | k + 1, m, r, h0, h1, hk, hm => by
    simp only [hiF, if_neg h0]
    rw [List.append_assoc]
    by_cases c : m / 128 = 0
    · rw [c, hiF_zero]
      simp only [List.nil_append, List.cons_append, List.length_append, List.length_nil, List.length_cons]
      rw [takeF_cons]
      have q1 : ¬ ((0 = 10) ∨ ((0 : Nat) = 0 ∧ ((m % 128 + 128 : Nat) : Int) = 128) ∨ (144115188075855872 : Int) ≤ 0) := by omega
      have q2 : ¬ (((m % 128 + 128 : Nat) : Int) < 128) := by omega
      rw [if_neg q1, if_neg q2]
      congr 1; omega
    · rw [takeF_hi k (m / 128) _ c (by rw [Nat.pow_succ] at h1; omega) (by omega) (by omega)]
      simp only [List.cons_append, List.nil_append, List.length_append, List.length_cons, List.length_nil]
      rw [takeF_cons]
      have hl := hiF_len k (m / 128)
      have q1 : ¬ ((hiF k (m / 128)).length = 10 ∨ ((hiF k (m / 128)).length = 0 ∧ ((m % 128 + 128 : Nat) : Int) = 128) ∨ (144115188075855872 : Int) ≤ ((m / 128 : Nat) : Int)) := by
        have : (hiF k (m / 128)).length ≠ 0 := by
          cases k with
          | zero => simp at h1; omega
          | succ k => simp only [hiF, if_neg c]; simp
        omega
      have q2 : ¬ (((m % 128 + 128 : Nat) : Int) < 128) := by omega
      rw [if_neg q1, if_neg q2]
      congr 1; omega

theorem takeF_num (n : Nat) (hn : n < 18446744073709551616) (r : List Int) : takeF (numB n ++ r) 0 0 = ((n : Int), ((numB n).length : Int), 0) := by
  unfold numB
  rw [List.append_assoc]
  by_cases c : n / 128 = 0
  · rw [c, hiF_zero]
    simp only [List.nil_append, List.cons_append, List.length_append, List.length_nil, List.length_cons]
    rw [takeF_cons]
    have q1 : ¬ ((0 = 10) ∨ ((0 : Nat) = 0 ∧ ((n % 128 : Nat) : Int) = 128) ∨ (144115188075855872 : Int) ≤ 0) := by omega
    have q2 : ((n % 128 : Nat) : Int) < 128 := by omega
    rw [if_neg q1, if_pos q2]
    simp only [Prod.mk.injEq, and_true]
    omega
  · rw [takeF_hi 9 _ _ c (by omega) (by decide) (by omega)]
    simp only [List.cons_append, List.nil_append, List.length_append, List.length_cons, List.length_nil]
    rw [takeF_cons]
    have hl := hiF_len 9 (n / 128)
    have q1 : ¬ ((hiF 9 (n / 128)).length = 10 ∨ ((hiF 9 (n / 128)).length = 0 ∧ ((n % 128 : Nat) : Int) = 128) ∨ (144115188075855872 : Int) ≤ ((n / 128 : Nat) : Int)) := by omega
    have q2 : ((n % 128 : Nat) : Int) < 128 := by omega
    rw [if_neg q1, if_pos q2]
    simp only [Prod.mk.injEq, and_true]
    omega

theorem takeF_big : ∀ (ms : List Int) (i : Nat) (n : Int), (∀ m, m ∈ ms → 128 ≤ m) → takeF ms i n = (0, 0, 2)
  | [], i, n, h => rfl
  | m :: ms, i, n, h => by
    simp only [takeF]
    split
    · rfl
    · rw [if_neg (by have := h m (by simp); omega)]
      exact takeF_big ms _ _ (fun x hx => h x (by simp [hx]))
theorem takeF_cut (n k : Nat) (hk : k < (numB n).length) : takeF ((numB n).take k) 0 0 = (0, 0, 2) := by
  refine takeF_big _ _ _ fun m hm => ?_
  have : (numB n).take k = (hiF 9 (n / 128)).take k := by
    unfold numB
    rw [List.take_append_of_le_length]
    simp [numB] at hk; omega
  rw [this] at hm
  exact (hiF_byt 9 _ m (List.mem_of_mem_take hm)).1

theorem hiF_mono : ∀ (k m m' : Nat), m ≤ m' → (hiF k m).length ≤ (hiF k m').length
  | 0, m, m', h => by simp [hiF]
  | k + 1, m, m', h => by
    simp only [hiF]
    split
    · simp
    · rw [if_neg (by omega)]
      simp
      exact hiF_mono k _ _ (Nat.div_le_div_right h)
theorem numB_mono {n m : Nat} (h : n ≤ m) : (numB n).length ≤ (numB m).length := by
  simp [numB]; exact hiF_mono 9 _ _ (Nat.div_le_div_right h)
theorem numB_inj {n m : Nat} (hn : n < 18446744073709551616) (hm : m < 18446744073709551616) (h : numB n = numB m) : n = m := by
  have h1 := takeF_num n hn []
  have h2 := takeF_num m hm []
  rw [h] at h1
  rw [h1] at h2
  simp only [Prod.mk.injEq] at h2
  omega
end Go.Proofs.Ytdcdmpgigmhhpaa.Va
