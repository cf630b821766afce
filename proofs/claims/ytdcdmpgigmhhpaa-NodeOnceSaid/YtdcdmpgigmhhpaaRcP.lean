/- Rows in bytes: what is meant by a row's bytes, and that only these are read. No condition. -/
import Derived.Test.YtdcdmpgigmhhpaaVaR
namespace Go.Proofs.Ytdcdmpgigmhhpaa.Rc
open Go Go.Proofs.Ytdcdmpgigmhhpaa.E
open Go.Proofs.Ytdcdmpgigmhhpaa.Va
set_option maxRecDepth 100000
set_option linter.unusedVariables false
set_option linter.unusedSimpArgs false

structure R where
  k : Int
  n : Int
  s : List UInt8
  deriving DecidableEq
def sB (s : List UInt8) : List Int := s.map fun b => (b.toNat : Int)
theorem sB_byt (s : List UInt8) : Byt (sB s) := by
  intro m hm
  simp only [sB, List.mem_map] at hm
  obtain ⟨b, _, rfl⟩ := hm
  have := b.toNat_lt
  omega
@[simp] theorem sB_len (s : List UInt8) : (sB s).length = s.length := by simp [sB]
theorem by8_sB (s : List UInt8) : by8 (sB s) = s := by
  simp only [by8, sB, List.map_map]
  conv => rhs; rw [← List.map_id s]
  apply List.map_congr_left
  intro b _
  simp
theorem sB_by8 {ms : List Int} (h : Byt ms) : sB (by8 ms) = ms := by
  simp only [by8, sB, List.map_map]
  conv => rhs; rw [← List.map_id ms]
  apply List.map_congr_left
  intro b hb
  have := h b hb
  simp only [Function.comp, UInt8.toNat_ofNat', id]
  omega
def fine (r : R) : Bool := (r.k == 0 && r.n == 0 && r.s == []) || (r.k == 1 && r.s == []) || (r.k == 2 && r.n == 0 && decide (r.s.length ≤ 100))
def inR (r : R) : Prop := -9223372036854775808 ≤ r.n ∧ r.n < 9223372036854775808
def encT (r : R) : List Int := if r.k = 1 then numB (zig r.n) else if r.k = 2 then numB r.s.length ++ sB r.s else []
def encV (r : R) : List Int := r.k % 256 :: encT r
/-- So many bytes at most. -/
def encL : List R → List Int → Option (List Int)
  | [], b => some b
  | r :: rs, b => if (b ++ encV r).length > 140 then none else encL rs (b ++ encV r)
def encR (row : List R) : List Int × Int := if row.all fine then (match encL row (numB row.length) with | some b => (b, 0) | none => ([], 14)) else ([], 1)
def encB (row : List R) : List Int := numB row.length ++ row.flatMap encV

theorem encL_some : ∀ (row : List R) (b c : List Int), encL row b = some c → c = b ++ row.flatMap encV ∧ (b.length ≤ 140 → c.length ≤ 140)
  | [], b, c, h => by simp [encL] at h; subst h; simp
  | r :: rs, b, c, h => by
    simp only [encL] at h
    split at h
    · cases h
    · rename_i q
      obtain ⟨g1, g2⟩ := encL_some rs _ _ h
      refine ⟨by rw [g1]; simp, fun _ => g2 (by omega)⟩
theorem encL_le : ∀ (row : List R) (b : List Int), (b ++ row.flatMap encV).length ≤ 140 → encL row b = some (b ++ row.flatMap encV)
  | [], b, h => by simp [encL]
  | r :: rs, b, h => by
    simp only [encL]
    rw [if_neg (by simp only [List.flatMap_cons, List.length_append] at h ⊢; omega)]
    rw [encL_le rs _ (by simpa using h)]
    simp

/-! ### Reading -/
def valP : List Int → Option (R × List Int)
  | [] => none
  | k :: b => if k = 0 then some (⟨0, 0, []⟩, b) else if k = 1 then
      (let t := takeF b 0 0; if t.2.2 = 0 then some (⟨1, zag t.1, []⟩, b.drop t.2.1.toNat) else none) else if k = 2 then
      (let t := takeF b 0 0; if t.2.2 = 0 then (let c := b.drop t.2.1.toNat; if t.1 > min c.length 100 then none else some (⟨2, 0, by8 (c.take t.1.toNat)⟩, c.drop t.1.toNat)) else none) else none
def decN : Nat → List Int → Option (List R × List Int)
  | 0, b => some ([], b)
  | n + 1, b => match valP b with
    | none => none
    | some (v, c) => match decN n c with
      | none => none
      | some (vs, d) => some (v :: vs, d)
def decP (b : List Int) : Option (List R × List Int) := if (takeF b 0 0).2.2 = 0 then decN (takeF b 0 0).1.toNat (b.drop (takeF b 0 0).2.1.toNat) else none

theorem takeF_e : ∀ (ms : List Int) (i : Nat) (n : Int), (takeF ms i n).2.2 = 0 → i < (takeF ms i n).2.1 ∧ (takeF ms i n).2.1 ≤ i + ms.length
  | [], i, n, h => by simp [takeF] at h
  | m :: ms, i, n, h => by
    rw [takeF_cons] at h ⊢
    split
    · rename_i q; rw [if_pos q] at h; simp at h
    · rename_i q
      rw [if_neg q] at h
      split
      · simp only [List.length_cons]; omega
      · rename_i q2
        rw [if_neg q2] at h
        have := takeF_e ms (i + 1) _ h
        simp only [List.length_cons]; omega
/-- What is read are just the number's bytes. -/
theorem hiF_more (k n : Nat) (h : n < 128 ^ k) : hiF (k + 1) n = hiF k n := by
  induction k generalizing n with
  | zero => have : n = 0 := by simpa using h
            subst this; simp [hiF]
  | succ k ih =>
    by_cases c : n = 0
    · subst c; simp [hiF]
    · rw [hiF, if_neg c, ih (n / 128) (by rw [Nat.pow_succ] at h; omega)]
      rw [hiF, if_neg c]
theorem takeF_back : ∀ (ms pre : List Int) (n : Nat), Byt ms → pre = hiF 10 n → (pre.length = 0 ↔ n = 0) → n < 18446744073709551616 → (takeF ms pre.length n).2.2 = 0 →
    pre ++ ms = numB (takeF ms pre.length n).1.toNat ++ ms.drop ((takeF ms pre.length n).2.1.toNat - pre.length)
  | [], pre, n, hb, hp, hz, hn, h => by simp [takeF] at h
  | m :: ms, pre, n, hb, hp, hz, hn, h => by
    have hm := hb m (by simp)
    rw [takeF_cons] at h ⊢
    by_cases q : pre.length = 10 ∨ (pre.length = 0 ∧ m = 128) ∨ (144115188075855872 : Int) ≤ n
    · rw [if_pos q] at h; simp at h
    · rw [if_neg q] at h
      rw [if_neg q]
      have hn' : n < 144115188075855872 := by omega
      by_cases q2 : m < 128
      · rw [if_pos q2]
        have e1 : ((n : Int) * 128 + m % 128).toNat = n * 128 + m.toNat := by omega
        simp only [e1]
        have e2 : (((pre.length + 1 : Nat) : Int).toNat - pre.length) = 1 := by omega
        rw [e2]
        have e3 : numB (n * 128 + m.toNat) = pre ++ [m] := by
          unfold numB
          have d1 : (n * 128 + m.toNat) / 128 = n := by omega
          have d2 : (n * 128 + m.toNat) % 128 = m.toNat := by omega
          rw [d1, d2, hp, hiF_more 9 n (by omega)]
          congr 2
          omega
        rw [e3]
        simp
      · rw [if_neg q2] at h
        rw [if_neg q2]
        have e1 : (n : Int) * 128 + m % 128 = ((n * 128 + (m % 128).toNat : Nat) : Int) := by omega
        have e0 : n * 128 + (m % 128).toNat ≠ 0 := by
          by_cases c : pre.length = 0
          · have := hz.1 c
            subst this
            have : m ≠ 128 := fun e => q (.inr (.inl ⟨c, e⟩))
            omega
          · have : n ≠ 0 := fun e => c (hz.2 e)
            omega
        have e2 : hiF 10 (n * 128 + (m % 128).toNat) = pre ++ [m] := by
          rw [hiF, if_neg e0]
          have d1 : (n * 128 + (m % 128).toNat) / 128 = n := by omega
          have d2 : (n * 128 + (m % 128).toNat) % 128 = (m % 128).toNat := by omega
          rw [d1, d2, hp, hiF_more 9 n (by omega)]
          congr 2
          omega
        rw [e1] at h ⊢
        have hl : (pre ++ [m]).length = pre.length + 1 := by simp
        have := takeF_back ms (pre ++ [m]) (n * 128 + (m % 128).toNat) (fun x hx => hb x (by simp [hx])) e2.symm (by simp only [hl]; omega) (by omega) (by rw [hl]; exact h)
        rw [hl] at this
        have hlt := takeF_e ms (pre.length + 1) _ h
        have e4 : (takeF ms (pre.length + 1) ((n * 128 + (m % 128).toNat : Nat) : Int)).2.1.toNat - pre.length = ((takeF ms (pre.length + 1) ((n * 128 + (m % 128).toNat : Nat) : Int)).2.1.toNat - (pre.length + 1)) + 1 := by omega
        rw [e4, List.drop_succ_cons, ← this]
        simp
theorem take_back {ms : List Int} (hb : Byt ms) (h : (takeF ms 0 0).2.2 = 0) : ms = numB (takeF ms 0 0).1.toNat ++ ms.drop (takeF ms 0 0).2.1.toNat := by
  have := takeF_back ms [] 0 hb (by simp [hiF]) (by simp) (by decide) h
  simpa using this
theorem Byt.drop {ms : List Int} (h : Byt ms) (k : Nat) : Byt (ms.drop k) := fun m hm => h m (List.mem_of_mem_drop hm)
theorem Byt.take {ms : List Int} (h : Byt ms) (k : Nat) : Byt (ms.take k) := fun m hm => h m (List.mem_of_mem_take hm)
theorem take_of {n : Nat} (hn : n < 18446744073709551616) (r : List Int) : takeF (numB n ++ r) 0 0 = ((n : Int), ((numB n).length : Int), 0) := takeF_num n hn r
theorem zig_zag {n : Int} (h0 : 0 ≤ n) : zig (zag n) = n.toNat := by unfold zig zag; split <;> split <;> omega
theorem zag_in {n : Int} (h0 : 0 ≤ n) (h1 : n < 18446744073709551616) : -9223372036854775808 ≤ zag n ∧ zag n < 9223372036854775808 := by unfold zag; split <;> omega

theorem valP_of {r : R} (hf : fine r = true) (hi : inR r) (rest : List Int) : valP (encV r ++ rest) = some (r, rest) := by
  obtain ⟨k, n, s⟩ := r
  simp only [fine, Bool.or_eq_true, Bool.and_eq_true, beq_iff_eq, decide_eq_true_eq] at hf
  unfold inR at hi
  simp only at hi
  rcases hf with (⟨⟨rfl, rfl⟩, rfl⟩ | ⟨rfl, rfl⟩) | ⟨⟨rfl, rfl⟩, hs⟩
  · simp [encV, encT, valP]
  · have e : encV ⟨1, n, []⟩ ++ rest = 1 :: (numB (zig n) ++ rest) := by simp [encV, encT]
    rw [e]
    simp only [valP, takeF_num (zig n) (zig_lt hi.1 hi.2), zag_zig, Int.toNat_natCast, if_true, List.drop_left]
    simp
  · have e : encV ⟨2, 0, s⟩ ++ rest = 2 :: (numB s.length ++ (sB s ++ rest)) := by simp [encV, encT]
    rw [e]
    have hl : s.length < 18446744073709551616 := by omega
    simp only [valP, takeF_num s.length hl, Int.toNat_natCast, if_true, List.drop_left]
    rw [if_neg (by decide), if_neg (by decide), if_neg (by simp; omega)]
    have e1 : (sB s ++ rest).take s.length = sB s := by rw [← sB_len s, List.take_left]
    have e2 : (sB s ++ rest).drop s.length = rest := by rw [← sB_len s, List.drop_left]
    rw [e1, e2, by8_sB]
theorem decN_of : ∀ (row : List R) (rest : List Int), row.all fine = true → (∀ r, r ∈ row → inR r) → decN row.length (row.flatMap encV ++ rest) = some (row, rest)
  | [], rest, _, _ => rfl
  | r :: rs, rest, hf, hi => by
    simp only [List.all_cons, Bool.and_eq_true] at hf
    simp only [List.length_cons, List.flatMap_cons, List.append_assoc, decN, valP_of hf.1 (hi r (by simp)), decN_of rs rest hf.2 (fun x hx => hi x (by simp [hx]))]
theorem decP_of {row : List R} (hf : row.all fine = true) (hi : ∀ r, r ∈ row → inR r) (hl : row.length < 18446744073709551616) (rest : List Int) : decP (encB row ++ rest) = some (row, rest) := by
  unfold decP encB
  rw [List.append_assoc, takeF_num _ hl]
  simp only [if_true, Int.toNat_natCast, List.drop_left]
  exact decN_of row rest hf hi

theorem valP_back {b c : List Int} {r : R} (hb : Byt b) (h : valP b = some (r, c)) : b = encV r ++ c ∧ fine r = true ∧ inR r := by
  cases b with
  | nil => cases h
  | cons k b =>
    have hb' : Byt b := fun x hx => hb x (by simp [hx])
    simp only [valP] at h
    split at h
    · rename_i hk
      injection h with h; injection h with h1 h2; subst h1; subst h2; subst hk
      simp [encV, encT, fine, inR]
    · split at h
      · rename_i hk
        split at h
        · rename_i ht
          injection h with h; injection h with h1 h2; subst h1; subst hk
          obtain ⟨l0, l1⟩ := takeF_range b 0 0 hb' (by decide) (by decide)
          have e := take_back hb' ht
          refine ⟨?_, by simp [fine], zag_in l0 l1⟩
          simp only [encV, encT, if_true, zig_zag l0, ← h2]
          simpa using e
        · cases h
      · split at h
        · rename_i hk
          split at h
          · rename_i ht
            split at h
            · cases h
            · rename_i hc
              injection h with h; injection h with h1 h2; subst h1; subst hk
              obtain ⟨l0, l1⟩ := takeF_range b 0 0 hb' (by decide) (by decide)
              have e := take_back hb' ht
              have hlen : (takeF b 0 0).1.toNat ≤ (b.drop (takeF b 0 0).2.1.toNat).length := by omega
              have hl2 : (by8 ((b.drop (takeF b 0 0).2.1.toNat).take (takeF b 0 0).1.toNat)).length = (takeF b 0 0).1.toNat := by rw [by8_length, List.length_take]; omega
              refine ⟨?_, ?_, by simp [inR]⟩
              · simp only [encV, encT]
                rw [if_neg (by decide), if_pos trivial, hl2, sB_by8 (Byt.take (Byt.drop hb' _) _), ← h2]
                have : (2 : Int) % 256 = 2 := by decide
                rw [this]
                simp only [List.cons_append, List.append_assoc, List.take_append_drop, ← e]
              · simp only [fine, hl2]
                simp; omega
          · cases h
        · cases h
theorem decN_back : ∀ (n : Nat) (b c : List Int) (row : List R), Byt b → decN n b = some (row, c) → b = row.flatMap encV ++ c ∧ row.all fine = true ∧ (∀ r, r ∈ row → inR r) ∧ row.length = n
  | 0, b, c, row, hb, h => by simp [decN] at h; obtain ⟨rfl, rfl⟩ := h; simp
  | n + 1, b, c, row, hb, h => by
    simp only [decN] at h
    split at h
    · cases h
    · rename_i v d hv
      split at h
      · cases h
      · rename_i vs e he
        injection h with h; injection h with h1 h2; subst h1; subst h2
        obtain ⟨g1, g2, g3⟩ := valP_back hb hv
        have hd : Byt d := fun x hx => hb x (by rw [g1]; simp [hx])
        obtain ⟨k1, k2, k3, k4⟩ := decN_back n d _ vs hd he
        refine ⟨by rw [g1]; simp [← k1], by simp [g2, k2], fun r hr => ?_, by simp [k4]⟩
        rcases List.mem_cons.1 hr with rfl | hr
        · exact g3
        · exact k3 r hr
theorem decP_back {b c : List Int} {row : List R} (hb : Byt b) (h : decP b = some (row, c)) : b = encB row ++ c ∧ row.all fine = true ∧ (∀ r, r ∈ row → inR r) := by
  unfold decP at h
  split at h
  · rename_i ht
    obtain ⟨g1, g2, g3, g4⟩ := decN_back _ _ _ _ (Byt.drop hb _) h
    refine ⟨?_, g2, g3⟩
    have e := take_back hb ht
    unfold encB
    rw [g4, List.append_assoc, ← g1]
    exact e
  · cases h
theorem encB_byt {row : List R} (hf : row.all fine = true) : Byt (encB row) := by
  intro m hm
  unfold encB at hm
  rcases List.mem_append.1 hm with hm | hm
  · exact numB_byt _ m hm
  · rw [List.mem_flatMap] at hm
    obtain ⟨r, hr, hm⟩ := hm
    simp only [encV, List.mem_cons] at hm
    rcases hm with rfl | hm
    · omega
    · unfold encT at hm
      split at hm
      · exact numB_byt _ m hm
      · split at hm
        · rcases List.mem_append.1 hm with hm | hm
          · exact numB_byt _ m hm
          · exact sB_byt _ m hm
        · cases hm
end Go.Proofs.Ytdcdmpgigmhhpaa.Rc
