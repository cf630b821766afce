/- The layer E, part 35: slices of plain values, read by place. No condition. -/
import Derived.Test.YtdcdmpgigmhhpaaE33
namespace Go.Proofs.Ytdcdmpgigmhhpaa.E
set_option linter.unusedSimpArgs false
set_option linter.unusedVariables false

/-- What stands at a place of a slice. -/
theorem read_at {h : List Ob} {v : V} {es : List V} (hc : conts h 1 v = some es) (hv : ∀ l, v ≠ .str l) {k : Nat} {e : V} (he : es[k]? = some e) (hs : e.cells = [e]) :
    ∃ a, evIaddrL h 1 v (k : Int) = some a ∧ evLoad1 h a = some e := by
  unfold conts at hc
  split at hc
  · injection hc with hc; subst hc; simp at he
  · injection hc with hc; subst hc; simp at he
  · split at hc
    · injection hc with hc; subst hc
      refine ⟨.ref e 0, ?_, ?_⟩
      · simp [evIaddrL, he, hs]
      · simp [evLoad1, rdCells, hs]
    · cases hc
  · rename_i id off len
    split at hc
    · rename_i es0 s hob
      split at hc
      · rename_i hh
        obtain ⟨rfl, hin⟩ := hh
        injection hc with hc; subst hc
        have hk : k < len ∧ es0[off + k]? = some e := by
          rw [List.getElem?_take] at he
          split at he
          · rename_i q
            rw [List.getElem?_drop] at he
            exact ⟨q, he⟩
          · cases he
        refine ⟨.ptr id (off + k) 0, ?_, ?_⟩
        · simp only [evIaddrL, hob, Int.toNat_natCast]
          rw [if_pos ⟨Int.natCast_nonneg _, by omega⟩]
          rfl
        · simp [evLoad1, rdCells, hob, hk.2, hs]
      · cases hc
    · cases hc
  · exact absurd rfl (hv _)
  · cases hc

theorem len_of {h : List Ob} {v : V} {es : List V} {sz : Nat} (hc : conts h sz v = some es) (hv : ∀ l, v ≠ .str l) : evLenL h v = some es.length := by
  unfold conts at hc
  split at hc
  · injection hc with hc; subst hc; rfl
  · injection hc with hc; subst hc; rfl
  · split at hc
    · injection hc with hc; subst hc; rfl
    · cases hc
  · rename_i id off len
    split at hc
    · rename_i es0 s hob
      split at hc
      · rename_i hh
        injection hc with hc; subst hc
        have hlen : ((es0.drop off).take len).length = len := by simp only [List.length_take, List.length_drop]; omega
        simp [evLenL, aliveB, hob, hlen]
      · cases hc
    · cases hc
  · exact absurd rfl (hv _)
  · cases hc

end Go.Proofs.Ytdcdmpgigmhhpaa.E
