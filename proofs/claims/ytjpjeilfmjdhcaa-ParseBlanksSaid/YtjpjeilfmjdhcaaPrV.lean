/- The reader of statements never goes back. No condition. -/
import Derived.Test.YtjpjeilfmjdhcaaPrT
namespace Go.Proofs.Ytjpjeilfmjdhcaa.Pr
open Go Go.Proofs.Ytjpjeilfmjdhcaa.E
open Go.Proofs.Ytjpjeilfmjdhcaa.Ln
open Go.Proofs.Ytjpjeilfmjdhcaa.Ex
set_option maxRecDepth 100000
set_option linter.unusedVariables false
set_option linter.unusedSimpArgs false
theorem exprP_mono (ws:List Wd):Mono (exprP ws) := by
  intro s
  simp only [exprP]
  split
  · exact binP_mono ws _ 0 s
  · exact binP_mono ws _ 0 s
theorem asP_mono (ws:List Wd) (n:List UInt8):Mono (asP ws n) := by
  intro s
  simp only [asP]
  split
  · exact Nat.le_trans (haveP_mono ws _ _) (nameR_mono ws _)
  · exact haveP_mono ws _ _
theorem itemP_mono (ws:List Wd):Mono (itemP ws) := fun s => Nat.le_trans (exprP_mono ws s) (asP_mono ws [] _)
theorem orderP_mono (ws:List Wd):Mono (orderP ws) := by
  intro s
  simp only [orderP]
  have h1 := exprP_mono ws s
  have h2 := haveP_mono ws [65,83,67] (exprP ws s).2
  split
  · exact Nat.le_trans h1 h2
  · exact Nat.le_trans h1 (Nat.le_trans h2 (haveP_mono ws _ _))
theorem assignP_mono (ws:List Wd):Mono (assignP ws) := fun s => Nat.le_trans (nameR_mono ws s) (Nat.le_trans (wantP_mono ws _ _) (exprP_mono ws _))
theorem kindP_mono (ws:List Wd):Mono (kindP ws) := by
  intro s
  simp only [kindP]
  have h1 := haveP_mono ws [73,78,84] s
  have h2 := haveP_mono ws [84,69,88,84] (haveP ws [73,78,84] s).2
  split
  · exact h1
  · split
    · exact Nat.le_trans h1 h2
    · rw [failP_i]; exact Nat.le_trans h1 h2
theorem columnP_mono (ws:List Wd):Mono (columnP ws) := by
  intro s
  simp only [columnP]
  have h1 := nameR_mono ws s
  have h2 := kindP_mono ws (nameR ws s).2
  have h3 := haveP_mono ws [78,79,84] (kindP ws (nameR ws s).2).2
  refine Nat.le_trans ?_ (haveP_mono ws _ _)
  split
  · exact Nat.le_trans h1 (Nat.le_trans h2 (Nat.le_trans h3 (wantP_mono ws _ _)))
  · exact Nat.le_trans h1 (Nat.le_trans h2 h3)
theorem moreP_mono {α : Type} {ws:List Wd} {m:PM α} (hm:Mono m):∀ (f:Nat) (acc:List α) (s:RS),s.i ≤ (moreP ws m f acc s).2.i
  | 0,acc,s => Nat.le_refl _
  | f + 1,acc,s => by
    simp only [moreP]
    have h1 := haveP_mono ws [44] s
    split
    · exact Nat.le_trans h1 (Nat.le_trans (hm _) (moreP_mono hm f _ _))
    · exact h1
theorem listP_mono {α : Type} {ws:List Wd} {m:PM α} (hm:Mono m):Mono (listP ws m) := fun s => Nat.le_trans (hm s) (moreP_mono hm _ _ _)
theorem groupP_mono {α : Type} {ws:List Wd} {m:PM α} (hm:Mono m):Mono (groupP ws m) := fun s => Nat.le_trans (wantP_mono ws _ s) (Nat.le_trans (listP_mono hm _) (wantP_mono ws _ _))
end Go.Proofs.Ytjpjeilfmjdhcaa.Pr
