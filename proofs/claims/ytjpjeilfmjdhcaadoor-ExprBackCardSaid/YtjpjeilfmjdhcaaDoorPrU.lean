/- What is read of words fits. No condition. -/
import Derived.Test.YtjpjeilfmjdhcaaDoorPrS
namespace Go.Proofs.YtjpjeilfmjdhcaaDoor.Pr
open Go Go.Proofs.YtjpjeilfmjdhcaaDoor.E
open Go.Proofs.YtjpjeilfmjdhcaaDoor.Ln
open Go.Proofs.YtjpjeilfmjdhcaaDoor.Ex
set_option maxRecDepth 100000
set_option linter.unusedVariables false
set_option linter.unusedSimpArgs false
theorem wz_mono {w:Nat}:∀ {k m:Nat} {x:X},Wz w k x → k ≤ m → Wz w m x
  | k + 1,m + 1,.mk n ps,d,h => ⟨d.1,fun p hp => wz_mono (d.2 p hp) (by omega)⟩
  | k + 1,0,.mk n ps,d,h => by omega
def Gd (w:Nat) (x:X):Prop := ∃ d,Wz w d x
theorem gd0 {w:Nat} {n:Nd} (h1:n.tb.length ≤ w) (h2:n.cl.length ≤ w):Gd w (.mk n []) := ⟨1,⟨h1,h2,Nat.zero_le _⟩,fun p hp => by cases hp⟩
theorem gd1 {w:Nat} {n:Nd} {x:X} (h1:n.tb.length ≤ w) (h2:n.cl.length ≤ w) (hw:2 ≤ w) (g:Gd w x):Gd w (.mk n [x]) := by
  obtain ⟨d,hd⟩ := g
  exact ⟨d + 1,⟨h1,h2,by simp; omega⟩,fun p hp => by simp at hp; subst hp; exact hd⟩
theorem gd2 {w:Nat} {n:Nd} {x y:X} (h1:n.tb.length ≤ w) (h2:n.cl.length ≤ w) (hw:2 ≤ w) (g:Gd w x) (g':Gd w y):Gd w (.mk n [x,y]) := by
  obtain ⟨d,hd⟩ := g
  obtain ⟨d',hd'⟩ := g'
  refine ⟨max d d' + 1,⟨h1,h2,by simp; omega⟩,fun p hp => ?_⟩
  simp at hp
  rcases hp with rfl | rfl
  · exact wz_mono hd (by omega)
  · exact wz_mono hd' (by omega)
/-- All texts of words are so short. -/
def Short (W:Nat) (ws:List Wd):Prop := ∀ w,w ∈ ws → w.s.length ≤ W
theorem next_mem {ws:List Wd} {k:Int} {s:RS} {w:Wd} (h:nextP ws k s = some w):w ∈ ws := by
  unfold nextP at h
  split at h
  · split at h
    · rename_i w' hw
      split at h
      · injection h with h; subst h; exact List.mem_of_getElem? hw
      · cases h
    · cases h
  · cases h
theorem nameR_short {W:Nat} {ws:List Wd} (hw:Short W ws) (s:RS):(nameR ws s).1.length ≤ W := by
  unfold nameR
  split
  · rename_i w h
    split
    · simp
    · exact hw w (next_mem h)
  · simp
theorem loopP_gd {W:Nat} {ws:List Wd} (h2:2 ≤ W) {rb:PM X} (hb:∀ s,Gd W (rb s).1) (of:Nat):∀ (f:Nat) (x:X) (s:RS),Gd W x → Gd W (loopP ws rb of f x s).1
  | 0,x,s,g => g
  | f + 1,x,s,g => by
    unfold loopP
    split
    · exact loopP_gd h2 hb of f _ _ (gd2 (by simp) (by simp) h2 g (hb _))
    · exact g
theorem cmpP_gd {W:Nat} {ws:List Wd} (h2:2 ≤ W) {rb:PM X} (hb:∀ s,Gd W (rb s).1) (s:RS):Gd W (cmpP ws rb s).1 := by
  unfold cmpP
  split
  · exact gd2 (by simp) (by simp) h2 (hb _) (hb _)
  · split
    · exact hb _
    · split
      · exact gd1 (by simp) (by simp) h2 (hb _)
      · exact gd1 (by simp) (by simp) h2 (hb _)
theorem aggP_gd {W:Nat} {ws:List Wd} (h2:2 ≤ W) {rb:PM X} (hb:∀ s,Gd W (rb s).1) (op:List UInt8) (s:RS):Gd W (aggP ws rb op s).1 := by
  simp only [aggP]
  split
  · split
    · exact gd0 (by simp) (by simp)
    · exact gd1 (by simp) (by simp) h2 (hb _)
  · exact gd1 (by simp) (by simp) h2 (hb _)
theorem colP_gd {W:Nat} {ws:List Wd} (hw:Short W ws) (s:RS):Gd W (colP ws s).1 := by
  simp only [colP]
  split
  · exact gd0 (nameR_short hw _) (nameR_short hw _)
  · exact gd0 (by simp) (nameR_short hw _)
theorem atomP_gd {W:Nat} {ws:List Wd} (h2:2 ≤ W) (hw:Short W ws) {rb:PM X} (hb:∀ s,Gd W (rb s).1) (s:RS):Gd W (atomP ws rb s).1 := by
  simp only [atomP]
  split
  · exact hb _
  · split
    · exact gd0 (by simp) (by simp)
    · split
      · exact gd0 (by simp) (by simp)
      · split
        · exact gd0 (by simp) (by simp)
        · split
          · split
            · exact aggP_gd h2 hb _ _
            · exact colP_gd hw _
          · exact colP_gd hw _
theorem zX_gd (W:Nat):Gd W zX := gd0 (by simp [zNd]) (by simp [zNd])
theorem aheadP_gd {W:Nat} {ws:List Wd} (h2:2 ≤ W) (hw:Short W ws) {rb:PM X} (hb:∀ s,Gd W (rb s).1):∀ (f:Nat) (s:RS),Gd W (aheadP ws rb f s).1
  | 0,s => zX_gd W
  | f + 1,s => by
    simp only [aheadP]
    split
    · exact gd1 (by simp) (by simp) h2 (aheadP_gd h2 hw hb f _)
    · exact atomP_gd h2 hw hb _
theorem binP_gd {W:Nat} {ws:List Wd} (h2:2 ≤ W) (hw:Short W ws):∀ (f of:Nat) (s:RS),Gd W (binP ws f of s).1
  | 0,of,s => zX_gd W
  | f + 1,of,s => by
    simp only [binP]
    split
    · split
      · exact gd1 (by simp) (by simp) h2 (binP_gd h2 hw f 2 _)
      · exact cmpP_gd h2 (binP_gd h2 hw f 4) _
    · split
      · exact aheadP_gd h2 hw (binP_gd h2 hw f 0) _ _
      · exact loopP_gd h2 (binP_gd h2 hw f (of + 1)) of _ _ _ (binP_gd h2 hw f (of + 1) s)
end Go.Proofs.YtjpjeilfmjdhcaaDoor.Pr
