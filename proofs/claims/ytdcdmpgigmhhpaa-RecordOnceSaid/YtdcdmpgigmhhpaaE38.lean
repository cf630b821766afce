/- The layer E, part 38: bytes, numbers among a claim's data, as the functions take them. No condition. -/
import Derived.Test.YtdcdmpgigmhhpaaE37
import Derived.Test.YtdcdmpgigmhhpaaE26
import Derived.SizedLaws
namespace Go.Proofs.Ytdcdmpgigmhhpaa.E
set_option linter.unusedSimpArgs false
set_option linter.unusedVariables false
variable {H : Type}

theorem elems_bytes {P : Program} {e : TypeId} (he : P.underlying e = some (.int .u8)) : ∀ {ds : List (DataW H)} {es : List V}, dVs P ds e = some es → ∃ ms, es = bv ms ∧ Byt ms
  | [], es, h => by simp [dVs] at h; subst h; exact ⟨[], rfl, fun m hm => by cases hm⟩
  | d :: ds, es, h => by
    simp only [dVs] at h
    split at h
    · rename_i cs es' h1 h2
      injection h with h; subst h
      obtain ⟨ms, rfl, hb⟩ := elems_bytes he h2
      obtain ⟨n, rfl, l1, l2⟩ := dV_int' he h1
      have hag : isAggT P e = false := by simp [isAggT, he]
      refine ⟨n :: ms, by simp [elemV, hag, bv], fun m hm => ?_⟩
      rcases List.mem_cons.1 hm with rfl | hm
      · exact ⟨l1, l2⟩
      · exact hb m hm
    · cases h

/-- Bytes. -/
theorem dV_bytes {P : Program} {d : DataW H} {t e : TypeId} {vs : List V} (hu : P.underlying t = some (.slice e)) (he : P.underlying e = some (.int .u8)) (h : dV P d t = some vs) :
    ∃ v ms, vs = [v] ∧ (∀ h, Sl 1 h v (bv ms)) ∧ idsOf v = [] ∧ Byt ms ∧ ms.length ≤ 9223372036854775807 ∧ (v = .nils ∧ ms = [] ∨ v = .sl (bv ms)) := by
  rcases dV_slice' hu h with rfl | ⟨elems, sp, es, rfl, h1, rfl, h2⟩
  · exact ⟨_, [], rfl, fun h => Sl.nils 1 h, rfl, fun m hm => by simp at hm, by simp, .inl ⟨rfl, rfl⟩⟩
  · obtain ⟨ms, rfl, hb⟩ := elems_bytes he h1
    refine ⟨_, ms, rfl, fun h => Sl.sl (headOk_bv ms), rfl, hb, ?_, .inr rfl⟩
    rw [bv_length] at h2
    refine Nat.le_trans h2 ?_
    decide

theorem dV_u64 {P : Program} {d : DataW H} {t : TypeId} {vs : List V} (hu : P.underlying t = some (.int .u64)) (h : dV P d t = some vs) : ∃ n, vs = [.int .u64 n] ∧ 0 ≤ n ∧ n < 18446744073709551616 := by
  obtain ⟨n, rfl, l1, l2⟩ := dV_int' hu h
  refine ⟨n, rfl, ?_⟩
  exact ⟨l1, Int.lt_of_le_of_lt l2 (by decide)⟩
theorem dV_u8 {P : Program} {d : DataW H} {t : TypeId} {vs : List V} (hu : P.underlying t = some (.int .u8)) (h : dV P d t = some vs) : ∃ n, vs = [.int .u8 n] ∧ 0 ≤ n ∧ n < 256 := by
  obtain ⟨n, rfl, l1, l2⟩ := dV_int' hu h
  refine ⟨n, rfl, ?_⟩
  exact ⟨l1, Int.lt_of_le_of_lt l2 (by decide)⟩
theorem dV_i64 {P : Program} {d : DataW H} {t : TypeId} {vs : List V} (hu : P.underlying t = some (.int .i64)) (h : dV P d t = some vs) : ∃ n, vs = [.int .i64 n] ∧ -9223372036854775808 ≤ n ∧ n < 9223372036854775808 := by
  obtain ⟨n, rfl, l1, l2⟩ := dV_int' hu h
  refine ⟨n, rfl, ?_⟩
  exact ⟨l1, Int.lt_of_le_of_lt l2 (by decide)⟩
/-- How many bytes a slice may have. -/
theorem bytes_sized {P : Program} {ts : List TypeId} {ds : List (DataW H)} (hsz : (DataW.weightsEach P ts ds).all (· ≤ reachBytes) = true) {j : Nat} {t e : TypeId} {d : DataW H} (ht : ts[j]? = some t) (hd : ds[j]? = some d)
    (hu : P.underlying t = some (.slice e)) (hb : P.bytesOf e = 1) {v : V} {ms : List Int} (h : dV P d t = some [v]) (s : ∀ h, Sl 1 h v (bv ms)) : ms.length ≤ 140737488351232 := by
  rcases dV_slice' hu h with q | ⟨elems, sp, es, rfl, h1, q, h2⟩
  · injection q with q; subst q
    have := (s []).c
    simp only [conts] at this
    injection this with this
    have := congrArg List.length this
    simp at this
    omega
  · injection q with q; subst q
    have c := (s []).c
    simp only [conts] at c
    split at c
    · injection c with c
      have := sized_slice hsz ht hd hu
      rw [hb] at this
      have hl := dVs_length h1
      have := congrArg List.length c
      rw [bv_length] at this
      have hr : reachBytes = 140737488351232 := by decide
      omega
    · cases c
end Go.Proofs.Ytdcdmpgigmhhpaa.E
