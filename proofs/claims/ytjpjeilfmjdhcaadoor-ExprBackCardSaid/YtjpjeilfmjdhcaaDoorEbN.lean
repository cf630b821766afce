/- How long, and how many, a text's words are. No condition. -/
import Derived.Test.YtjpjeilfmjdhcaaDoorLoP
import Derived.Test.YtjpjeilfmjdhcaaDoorPrU
namespace Go.Proofs.YtjpjeilfmjdhcaaDoor.Eb
open Go Go.Proofs.YtjpjeilfmjdhcaaDoor.E
open Go.Proofs.YtjpjeilfmjdhcaaDoor.Ln
open Go.Proofs.YtjpjeilfmjdhcaaDoor.Lo
open Go.Proofs.YtjpjeilfmjdhcaaDoor.Pr
set_option maxRecDepth 100000
set_option linter.unusedVariables false
set_option linter.unusedSimpArgs false
theorem addP_mem {ok:Bool} {w v:Wd} {ws:List Wd} {e:Int} (h:v ∈ (addP ok w ws e).1):v ∈ ws ∨ (ok = true ∧ v = w) := by
  unfold addP at h
  split at h
  · exact .inl h
  · split at h
    · exact .inl h
    · rename_i h1 h2
      simp only [List.mem_append,List.mem_singleton] at h
      rcases h with h | h
      · exact .inl h
      · exact .inr ⟨by simpa using h1,h⟩
theorem wordP_short {r:Int} {t:List UInt8} {ws:List Wd} {e:Int} (ht:t.length ≤ 4000) (h:Short 5000 ws):Short 5000 (wordP r t ws e).2.1 := by
  have tk:∀ n,(t.take n).length ≤ 5000 := fun n => by rw [List.length_take]; omega
  intro v hv
  unfold wordP at hv
  split at hv
  · split at hv
    · rename_i b n hq
      rcases addP_mem hv with q | ⟨q,rfl⟩
      · exact h v q
      · have := of_decide_eq_true q
        simp only; omega
    · exact h v hv
  · split at hv
    · rcases addP_mem hv with q | ⟨q,rfl⟩
      · exact h v q
      · exact tk _
    · split at hv
      · rcases addP_mem hv with q | ⟨q,rfl⟩
        · exact h v q
        · exact tk _
      · rcases addP_mem hv with q | ⟨q,rfl⟩
        · exact h v q
        · exact tk _
theorem stepP_short {t:List UInt8} {sk:Nat} {nt:Bool} {ws:List Wd} (ht:t.length ≤ 4000) (h:Short 5000 ws):Short 5000 (stepP t sk nt ws).2.2.1 := by
  unfold stepP
  split
  · split <;> exact h
  · split
    · exact h
    · split
      · exact h
      · split
        · exact h
        · split
          · exact h
          · exact wordP_short ht h
theorem scan_short:∀ (m:Nat) (t:List UInt8) (sk:Nat) (nt:Bool) (ws:List Wd) (e:Int) (y:List Wd) (e':Int),t.length ≤ 4000 → Short 5000 ws → scan m t sk nt ws e = (some y,e') → Short 5000 y := by
  have fin:∀ {ws:List Wd} {e:Int} {y:List Wd} {e':Int},Short 5000 ws → finP ws e = (some y,e') → Short 5000 y := by
    intro ws e y e' hl h
    unfold finP at h
    split at h
    · injection h with h1 h2
      injection h1 with h1
      rw [← h1]; exact hl
    · cases h
  intro m
  induction m with
  | zero => intro t sk nt ws e y e' ht hl h; exact fin hl h
  | succ m ih =>
    intro t sk nt ws e y e' ht hl h
    rw [scan] at h
    split at h
    · exact fin hl h
    · split at h
      · cases h
      · exact ih _ _ _ _ _ _ _ (by rw [List.length_drop]; omega) (stepP_short ht hl) h
theorem wordsP_short {s:List UInt8} {y:List Wd} {e:Int} (h:wordsP s = (some y,e)):Short 5000 y := by
  unfold wordsP at h
  split at h
  · cases h
  · exact scan_short _ _ _ _ _ _ _ _ (by omega) (fun w hw => by cases hw) h
theorem scan_len:∀ (m:Nat) (t:List UInt8) (sk:Nat) (nt:Bool) (ws:List Wd) (e:Int) (y:List Wd) (e':Int),ws.length ≤ 600 → scan m t sk nt ws e = (some y,e') → y.length ≤ 600 := by
  have fin:∀ {ws:List Wd} {e:Int} {y:List Wd} {e':Int},ws.length ≤ 600 → finP ws e = (some y,e') → y.length ≤ 600 := by
    intro ws e y e' hl h
    unfold finP at h
    split at h
    · injection h with h1 h2
      injection h1 with h1
      rw [← h1]; exact hl
    · cases h
  intro m
  induction m with
  | zero => intro t sk nt ws e y e' hl h; exact fin hl h
  | succ m ih =>
    intro t sk nt ws e y e' hl h
    rw [scan] at h
    split at h
    · exact fin hl h
    · split at h
      · cases h
      · exact ih _ _ _ _ _ _ _ (stepP_len t sk nt ws hl) h
theorem wordsP_len {s:List UInt8} {y:List Wd} {e:Int} (h:wordsP s = (some y,e)):y.length ≤ 600 := by
  unfold wordsP at h
  split at h
  · cases h
  · exact scan_len _ _ _ _ _ _ _ _ (by simp) h
end Go.Proofs.YtjpjeilfmjdhcaaDoor.Eb
