/- Blanks and remarks around a text of words; how long words are. No condition. -/
import Derived.Test.YtjpjeilfmjdhcaaLoP
import Derived.Test.YtjpjeilfmjdhcaaPrU
namespace Go.Proofs.Ytjpjeilfmjdhcaa.Ps
open Go Go.Proofs.Ytjpjeilfmjdhcaa.E
open Go.Proofs.Ytjpjeilfmjdhcaa.Ln
open Go.Proofs.Ytjpjeilfmjdhcaa.Lo
open Go.Proofs.Ytjpjeilfmjdhcaa.Pr
set_option maxRecDepth 100000
set_option linter.unusedVariables false
set_option linter.unusedSimpArgs false
theorem addP_mem {ok:Bool} {w v:Wd} {ws:List Wd} {e:Int} (h:v ∈ (addP ok w ws e).1):v ∈ ws ∨ (ok = true ∧ v = w) := by
  unfold addP at h
  split at h
  · exact .inl h
  · split at h
    · exact .inl h
    · rename_i h1 h2
      simp only [List.mem_append,List.mem_singleton] at h
      rcases h with h | h
      · exact .inl h
      · exact .inr ⟨by simpa using h1,h⟩
theorem wordP_short {r:Int} {t:List UInt8} {ws:List Wd} {e:Int} (ht:t.length ≤ 4000) (h:Short 5000 ws):Short 5000 (wordP r t ws e).2.1 := by
  have tk:∀ n,(t.take n).length ≤ 5000 := fun n => by rw [List.length_take]; omega
  intro v hv
  unfold wordP at hv
  split at hv
  · split at hv
    · rename_i b n hq
      rcases addP_mem hv with q | ⟨q,rfl⟩
      · exact h v q
      · have := of_decide_eq_true q
        simp only; omega
    · exact h v hv
  · split at hv
    · rcases addP_mem hv with q | ⟨q,rfl⟩
      · exact h v q
      · exact tk _
    · split at hv
      · rcases addP_mem hv with q | ⟨q,rfl⟩
        · exact h v q
        · exact tk _
      · rcases addP_mem hv with q | ⟨q,rfl⟩
        · exact h v q
        · exact tk _
theorem stepP_short {t:List UInt8} {sk:Nat} {nt:Bool} {ws:List Wd} (ht:t.length ≤ 4000) (h:Short 5000 ws):Short 5000 (stepP t sk nt ws).2.2.1 := by
  unfold stepP
  split
  · split <;> exact h
  · split
    · exact h
    · split
      · exact h
      · split
        · exact h
        · split
          · exact h
          · exact wordP_short ht h
theorem scan_short:∀ (m:Nat) (t:List UInt8) (sk:Nat) (nt:Bool) (ws:List Wd) (e:Int) (y:List Wd) (e':Int),t.length ≤ 4000 → Short 5000 ws → scan m t sk nt ws e = (some y,e') → Short 5000 y := by
  have fin:∀ {ws:List Wd} {e:Int} {y:List Wd} {e':Int},Short 5000 ws → finP ws e = (some y,e') → Short 5000 y := by
    intro ws e y e' hl h
    unfold finP at h
    split at h
    · injection h with h1 h2
      injection h1 with h1
      rw [← h1]; exact hl
    · cases h
  intro m
  induction m with
  | zero => intro t sk nt ws e y e' ht hl h; exact fin hl h
  | succ m ih =>
    intro t sk nt ws e y e' ht hl h
    rw [scan] at h
    split at h
    · exact fin hl h
    · split at h
      · cases h
      · exact ih _ _ _ _ _ _ _ (by rw [List.length_drop]; omega) (stepP_short ht hl) h
theorem wordsP_short {s:List UInt8} {y:List Wd} {e:Int} (h:wordsP s = (some y,e)):Short 5000 y := by
  unfold wordsP at h
  split at h
  · cases h
  · exact scan_short _ _ _ _ _ _ _ _ (by omega) (fun w hw => by cases hw) h
theorem scan_len:∀ (m:Nat) (t:List UInt8) (sk:Nat) (nt:Bool) (ws:List Wd) (e:Int) (y:List Wd) (e':Int),ws.length ≤ 600 → scan m t sk nt ws e = (some y,e') → y.length ≤ 600 := by
  have fin:∀ {ws:List Wd} {e:Int} {y:List Wd} {e':Int},ws.length ≤ 600 → finP ws e = (some y,e') → y.length ≤ 600 := by
    intro ws e y e' hl h
    unfold finP at h
    split at h
    · injection h with h1 h2
      injection h1 with h1
      rw [← h1]; exact hl
    · cases h
  intro m
  induction m with
  | zero => intro t sk nt ws e y e' hl h; exact fin hl h
  | succ m ih =>
    intro t sk nt ws e y e' hl h
    rw [scan] at h
    split at h
    · exact fin hl h
    · split at h
      · cases h
      · exact ih _ _ _ _ _ _ _ (stepP_len t sk nt ws hl) h
theorem wordsP_len {s:List UInt8} {y:List Wd} {e:Int} (h:wordsP s = (some y,e)):y.length ≤ 600 := by
  unfold wordsP at h
  split at h
  · cases h
  · exact scan_len _ _ _ _ _ _ _ _ (by simp) h
/-! ### Blanks and remarks -/
/-- A remark to the end. -/
theorem scanE {ws:List Wd}:∀ (m:Nat) (note:List UInt8) (sk:Nat),note.length ≤ m → 10 ∉ note → scan m note sk true ws 0 = (some ws,0) := by
  intro m
  induction m with
  | zero =>
    intro note sk h1 h2
    rfl
  | succ m ih =>
    intro note sk h1 h2
    cases note with
    | nil => rfl
    | cons a t =>
      have ha:a ≠ 10 := fun q => h2 (by rw [q]; simp)
      have e:stepP (a :: t) sk true ws = (1,true,(ws,0)) := by
        unfold stepP
        rw [if_pos rfl,if_neg (dc_not10 ha)]
      have hw := dc_width (a :: t) (by simp)
      rw [scan,if_neg (by simp),if_neg (by simp),e]
      refine ih _ _ (by rw [List.length_drop]; simp at h1 ⊢; omega) (fun q => h2 (List.mem_of_mem_drop q))
theorem first {ws:List Wd} {note b:List UInt8} (hn:10 ∉ note) (m:Nat) (hm:(45 :: 45 :: (note ++ 10 :: b)).length ≤ m):scan m (45 :: 45 :: (note ++ 10 :: b)) 0 false ws 0 = scan b.length b 0 false ws 0 := by
  simp only [List.length_cons,List.length_append] at hm
  obtain ⟨m,rfl⟩:∃ k,m = note.length + (k + 1 + b.length) + 2 := ⟨m - note.length - 3 - b.length,by omega⟩
  have e2:scan (note.length + (m + 1 + b.length) + 1 + 1) (45 :: 45 :: (note ++ 10 :: b)) 0 false ws 0 = scan (note.length + (m + 1 + b.length) + 1) (45 :: (note ++ 10 :: b)) 0 true ws 0 := by
    have e:∀ u,stepP (45 :: 45 :: u) 0 false ws = (1,true,(ws,0)) := fun u => by
      unfold stepP
      rw [dc_ascii (b := 45) (by decide),if_neg (by decide),if_neg (by decide),if_neg (by decide),if_pos (by unfold preP; rw [decide_eq_true (by simp)]; rfl)]
    rw [step_ascii (by decide),e]; rfl
  have e3:scan (note.length + (m + 1 + b.length) + 1) (45 :: (note ++ 10 :: b)) 0 true ws 0 = scan (note.length + (m + 1 + b.length)) (note ++ 10 :: b) 0 true ws 0 := by
    have e:∀ u,stepP (45 :: u) 0 true ws = (1,true,(ws,0)) := fun u => by
      unfold stepP
      rw [dc_ascii (b := 45) (by decide),if_pos rfl,if_neg (by decide)]
    rw [step_ascii (by decide),e]; rfl
  have e4 := scanN (ws := ws) (R := b) note.length note (m + 1 + b.length) (Nat.le_refl _) hn (by simp; omega)
  have e5:scan (m + 1 + b.length) (10 :: b) 0 true ws 0 = scan (m + b.length) b 0 false ws 0 := by
    have e:∀ u,stepP (10 :: u) 0 true ws = (0,false,(ws,0)) := fun u => by
      unfold stepP
      rw [dc_ascii (b := 10) (by decide),if_pos rfl,if_pos (by decide)]
    rw [show m + 1 + b.length = (m + b.length) + 1 by omega,step_ascii (by decide),e]; rfl
  rw [show note.length + (m + 1 + b.length) + 2 = note.length + (m + 1 + b.length) + 1 + 1 from rfl,e2,e3,e4,e5]
  exact scan_fuel _ _ _ _ _ _ _ (by omega) (Nat.le_refl _)
theorem last {ws:List Wd} {note:List UInt8} (hn:10 ∉ note) (nt:Bool) (m:Nat) (hm:(10 :: 32 :: 45 :: 45 :: note).length ≤ m):scan m (10 :: 32 :: 45 :: 45 :: note) 0 nt ws 0 = (some ws,0) := by
  simp only [List.length_cons] at hm
  obtain ⟨m,rfl⟩:∃ k,m = k + 4 := ⟨m - 4,by omega⟩
  have e1:scan (m + 3 + 1) (10 :: 32 :: 45 :: 45 :: note) 0 nt ws 0 = scan (m + 3) (32 :: 45 :: 45 :: note) 0 false ws 0 := by
    cases nt with
    | false => exact blank_step (.inl rfl)
    | true =>
      have e:∀ u,stepP (10 :: u) 0 true ws = (0,false,(ws,0)) := fun u => by
        unfold stepP
        rw [dc_ascii (b := 10) (by decide),if_pos rfl,if_pos (by decide)]
      rw [step_ascii (by decide),e]; rfl
  have e2:scan (m + 2 + 1) (32 :: 45 :: 45 :: note) 0 false ws 0 = scan (m + 2) (45 :: 45 :: note) 0 false ws 0 := blank_step (.inr (.inr rfl))
  have e3:scan (m + 1 + 1) (45 :: 45 :: note) 0 false ws 0 = scan (m + 1) (45 :: note) 0 true ws 0 := by
    have e:∀ u,stepP (45 :: 45 :: u) 0 false ws = (1,true,(ws,0)) := fun u => by
      unfold stepP
      rw [dc_ascii (b := 45) (by decide),if_neg (by decide),if_neg (by decide),if_neg (by decide),if_pos (by unfold preP; rw [decide_eq_true (by simp)]; rfl)]
    rw [step_ascii (by decide),e]; rfl
  rw [show m + 4 = m + 3 + 1 from rfl,e1,e2,e3]
  exact scanE _ _ _ (by simp; omega) (by simp; exact hn)
theorem two {m:Nat} {t:List UInt8} {sk:Nat} {nt:Bool} {ws:List Wd} {e e':Int} {y:List Wd}:scan m t sk nt ws e = (some y,e') → e' = 0 := by
  induction m generalizing t sk nt ws e with
  | zero =>
    intro h
    rw [scan,finP] at h
    split at h
    · injection h with h1 h2; exact h2.symm
    · cases h
  | succ m ih =>
    intro h
    rw [scan] at h
    split at h
    · rw [finP] at h
      split at h
      · injection h with h1 h2; exact h2.symm
      · cases h
    · split at h
      · cases h
      · exact ih h
theorem blanks {note b:List UInt8} {x:List Wd} {e:Int} (hb:b.length ≤ 1500) (hl:note.length ≤ 1000) (hn:10 ∉ note) (hx:wordsP b = (some x,e)):wordsP ([32,9,10,45,45] ++ note ++ [10] ++ b ++ [10,32,45,45] ++ note) = (some x,0) := by
  unfold wordsP at hx ⊢
  rw [if_neg (by omega)] at hx
  obtain rfl := two hx
  have hcat:[32,9,10,45,45] ++ note ++ [10] ++ b ++ [10,32,45,45] ++ note = 32 :: 9 :: 10 :: 45 :: 45 :: (note ++ 10 :: (b ++ 10 :: (32 :: 45 :: 45 :: note))) := by simp
  rw [hcat]
  have hlen:(32 :: 9 :: 10 :: 45 :: 45 :: (note ++ 10 :: (b ++ 10 :: (32 :: 45 :: 45 :: note)))).length = (45 :: 45 :: (note ++ 10 :: (b ++ 10 :: (32 :: 45 :: 45 :: note)))).length + 1 + 1 + 1 := rfl
  rw [if_neg (by simp; omega),hlen,blank_step (.inr (.inr rfl)),blank_step (.inr (.inl rfl)),blank_step (.inl rfl),first hn _ (Nat.le_refl _)]
  obtain ⟨nt',hA⟩ := scanA _ _ _ _ _ _ _ (Nat.le_refl _) (Nat.zero_le _) hx
  have hlen2:(b ++ 10 :: (32 :: 45 :: 45 :: note)).length = b.length + (10 :: (32 :: 45 :: 45 :: note)).length := by simp
  rw [hlen2,hA _ _ (Nat.le_refl _)]
  exact last hn nt' _ (Nat.le_refl _)
end Go.Proofs.Ytjpjeilfmjdhcaa.Ps
