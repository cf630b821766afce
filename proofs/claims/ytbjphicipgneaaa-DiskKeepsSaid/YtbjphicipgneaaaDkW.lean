/- DiskParted: the plain law. No condition. -/
import Derived.Test.YtbjphicipgneaaaDkV
namespace Go.Proofs.Ytbjphicipgneaaa.Dk
open Go Go.Proofs.Ytbjphicipgneaaa.E
set_option maxRecDepth 100000
set_option linter.unusedVariables false
set_option linter.unusedSimpArgs false

theorem addKey_mem (ks : List Int) (k : Int) : k ∈ addKey ks k := by
  unfold addKey; split
  · assumption
  · simp
theorem addKey_idem (ks : List Int) (k : Int) : addKey (addKey ks k) k = addKey ks k := by
  have := addKey_mem ks k
  exact if_pos this
theorem tch_done {n : Nat} {s e : Int} {ks : List Int} (h : ¬ s * 64 < e) : tch n s e ks = ks := by
  cases n with
  | zero => rfl
  | succ n => simp only [tch, if_neg h]
theorem tch_fuel : ∀ (n m : Nat) (s e : Int) (ks : List Int), e ≤ (s + n) * 64 → e ≤ (s + m) * 64 → tch n s e ks = tch m s e ks
  | 0, m, s, e, ks, h1, h2 => by
    have : ¬ s * 64 < e := by omega
    rw [tch_done this, tch_done this]
  | n + 1, 0, s, e, ks, h1, h2 => by
    have : ¬ s * 64 < e := by omega
    rw [tch_done this, tch_done this]
  | n + 1, m + 1, s, e, ks, h1, h2 => by
    simp only [tch]
    split
    · exact tch_fuel n m (s + 1) e _ (by omega) (by omega)
    · rfl
theorem tch_split (m e : Int) (hme : m < e) (hm : 0 ≤ m) : ∀ (M N N' : Nat) (s : Int) (ks : List Int), s ≤ m / 64 → m ≤ (s + M) * 64 → e ≤ (m / 64 + N) * 64 → e ≤ (s + N') * 64 → tch N (m / 64) e (tch M s m ks) = tch N' s e ks := by
  intro M
  induction M with
  | zero =>
    intro N N' s ks h1 h2 h3 h4
    have : s = m / 64 := by omega
    subst this
    simp only [tch]
    exact tch_fuel _ _ _ _ _ h3 h4
  | succ M ih =>
    intro N N' s ks h1 h2 h3 h4
    by_cases q : s = m / 64
    · by_cases g : s * 64 < m
      · have e1 : tch (M + 1) s m ks = addKey ks s := by
          simp only [tch, if_pos g]
          exact tch_done (by omega)
        rw [e1, ← q]
        obtain ⟨N, rfl⟩ : ∃ n, N = n + 1 := ⟨N - 1, by omega⟩
        obtain ⟨N', rfl⟩ : ∃ n, N' = n + 1 := ⟨N' - 1, by omega⟩
        have ge : s * 64 < e := by omega
        simp only [tch, if_pos ge, addKey_idem]
        exact tch_fuel _ _ _ _ _ (by omega) (by omega)
      · rw [tch_done g, ← q]
        exact tch_fuel _ _ _ _ _ (by omega) h4
    · have g : s * 64 < m := by omega
      have ge : s * 64 < e := by omega
      obtain ⟨N', rfl⟩ : ∃ n, N' = n + 1 := ⟨N' - 1, by omega⟩
      simp only [tch, if_pos g, if_pos ge]
      exact ih N N' (s + 1) _ (by omega) (by omega) h3 (by omega)

theorem wrF_bad {a ta ms : List Int} {at_ : Int} (h : at_ > a.length) : wrF a ta at_ ms = (1, a, ta) := by
  unfold wrF; rw [if_pos (.inr h)]
theorem wrF_nil {a ta : List Int} {at_ : Int} (h0 : 0 ≤ at_) (h : at_ ≤ a.length) : wrF a ta at_ [] = (0, a, ta) := by
  unfold wrF; rw [if_neg (by omega), if_pos rfl]
theorem parted {a ta ms : List Int} {n k : Nat} (hn : n ≤ a.length) (hk : k ≤ ms.length) :
    (wrF a ta n (ms.take k)).1 = 0 ∧ wrF (wrF a ta n (ms.take k)).2.1 (wrF a ta n (ms.take k)).2.2 ((n : Int) + k) (ms.drop k) = wrF a ta n ms := by
  by_cases q : k = 0
  · subst q
    rw [List.take_zero, wrF_nil (by omega) (by omega), List.drop_zero]
    exact ⟨rfl, by simp⟩
  · have hne : ms.take k ≠ [] := fun z => by have := congrArg List.length z; simp at this; rcases this with z | z; exact q z; subst z; simp at hk; exact q hk
    have lt : (ms.take k).length = k := by simp; omega
    have e : wrF a ta n (ms.take k) = (0, a.take n ++ ms.take k ++ a.drop (n + k), tch (n + k + 1) ((n : Int) / 64) ((n : Int) + k) ta) := by
      unfold wrF; rw [if_neg (by omega), if_neg hne]; simp only [Int.toNat_natCast, lt]
    rw [e]
    refine ⟨rfl, ?_⟩
    simp only
    have lp : (a.take n ++ ms.take k ++ a.drop (n + k)).length = n + k + (a.length - (n + k)) := by simp; omega
    have hm : ms ≠ [] := by rintro rfl; simp at hk; exact q hk
    have e2 : wrF a ta n ms = (0, a.take n ++ ms ++ a.drop (n + ms.length), tch (n + ms.length + 1) ((n : Int) / 64) ((n : Int) + ms.length) ta) := by
      unfold wrF; rw [if_neg (by omega), if_neg hm]; simp only [Int.toNat_natCast]
    rw [e2]
    by_cases g : k = ms.length
    · subst g
      rw [List.drop_length, wrF_nil (by omega) (by rw [lp]; omega), List.take_length]
    · have hd : ms.drop k ≠ [] := fun z => by have := congrArg List.length z; simp at this; omega
      have ld : (ms.drop k).length = ms.length - k := by simp
      have en : ((n : Int) + (k : Int)).toNat = n + k := by omega
      unfold wrF
      rw [if_neg (by rw [lp]; omega), if_neg hd, en, ld]
      have l2 : (a.take n ++ ms.take k).length = n + k := by simp; omega
      have t1 : (a.take n ++ ms.take k ++ a.drop (n + k)).take (n + k) = a.take n ++ ms.take k := List.take_left' l2
      have t2 : (a.take n ++ ms.take k ++ a.drop (n + k)).drop (n + k + (ms.length - k)) = a.drop (n + ms.length) := by
        rw [← List.drop_drop, List.drop_left' l2, List.drop_drop]
        congr 1; omega
      rw [t1, t2]
      have e3 : a.take n ++ ms.take k ++ ms.drop k = a.take n ++ ms := by rw [List.append_assoc, List.take_append_drop]
      rw [e3]
      have e4 : (n : Int) + (k : Int) + ((ms.length - k : Nat) : Int) = (n : Int) + ms.length := by omega
      rw [e4]
      rw [tch_split ((n : Int) + k) ((n : Int) + ms.length) (by omega) (by omega) (n + k + 1) _ (n + ms.length + 1) ((n : Int) / 64) ta (by omega) (by omega) (by omega) (by omega)]
end Go.Proofs.Ytbjphicipgneaaa.Dk
