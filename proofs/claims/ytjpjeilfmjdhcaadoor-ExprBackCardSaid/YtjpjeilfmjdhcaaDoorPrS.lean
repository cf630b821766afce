/- The reader of expressions, as plain functions: what is read of words. No condition. -/
import Derived.Test.YtjpjeilfmjdhcaaDoorExT
namespace Go.Proofs.YtjpjeilfmjdhcaaDoor.Pr
open Go Go.Proofs.YtjpjeilfmjdhcaaDoor.E
open Go.Proofs.YtjpjeilfmjdhcaaDoor.Ln
open Go.Proofs.YtjpjeilfmjdhcaaDoor.Ex
set_option maxRecDepth 100000
set_option linter.unusedVariables false
set_option linter.unusedSimpArgs false
/-- Where the reader is, and its error. -/
structure RS where
  i:Nat
  e:Int
deriving DecidableEq
abbrev PM (α : Type) := RS → α × RS
def zNd:Nd := ⟨0,[],0,0,[],[],[]⟩
def zX:X := .mk zNd []
def litI (n:Int):X := .mk ⟨1,[],1,n,[],[],[]⟩ []
def litT (t:List UInt8):X := .mk ⟨1,[],2,0,t,[],[]⟩ []
def litN:X := .mk ⟨1,[],0,0,[],[],[]⟩ []
def colX (t c:List UInt8):X := .mk ⟨2,[],0,0,[],t,c⟩ []
def unX (op:List UInt8) (x:X):X := .mk ⟨3,op,0,0,[],[],[]⟩ [x]
def binX (op:List UInt8) (x y:X):X := .mk ⟨4,op,0,0,[],[],[]⟩ [x,y]
def tstX (op:List UInt8) (x:X):X := .mk ⟨5,op,0,0,[],[],[]⟩ [x]
def aggX (op:List UInt8) (ps:List X):X := .mk ⟨6,op,0,0,[],[],[]⟩ ps
def levelP (op:List UInt8):Nat := if (op == [79,82]) = true then 0 else if (op == [65,78,68]) = true then 1 else if (op == [61]) = true then 3 else if (op == [60,62]) = true then 3 else if (op == [60]) = true then 3 else if (op == [60,61]) = true then 3 else
  if (op == [62]) = true then 3 else if (op == [62,61]) = true then 3 else if (op == [43]) = true then 4 else if (op == [45]) = true then 4 else if (op == [42]) = true then 5 else 7
def adv (s:RS):RS := ⟨s.i + 1,s.e⟩
def failP (s:RS):RS := if s.e = 0 then ⟨s.i,3⟩ else s
def nextP (ws:List Wd) (k:Int) (s:RS):Option Wd := if s.e = 0 then (match ws[s.i]? with
  | some w => if w.k = k then some w else none
  | none => none) else none
def haveP (ws:List Wd) (t:List UInt8) (s:RS):Bool × RS := match nextP ws (if kwP t = true then 1 else 4) s with
  | some w => if w.s = t then (true,adv s) else (false,s)
  | none => (false,s)
def want1 (ws:List Wd) (s:RS) (t:List UInt8):RS := if (haveP ws t s).1 = true then (haveP ws t s).2 else failP s
def wantP (ws:List Wd) (ts:List (List UInt8)) (s:RS):RS := ts.foldl (want1 ws) s
def nameR (ws:List Wd) (s:RS):List UInt8 × RS := match nextP ws 1 s with
  | some w => if kwP w.s = true then ([],failP s) else (w.s,adv s)
  | none => ([],failP s)
def opW (ws:List Wd) (s:RS):Option Wd := match nextP ws 4 s with
  | some w => some w
  | none => nextP ws 1 s
def opP (ws:List Wd) (of:Nat) (s:RS):Option (List UInt8) × RS := match opW ws s with
  | some w => if levelP w.s = of then (some w.s,adv s) else (none,s)
  | none => (none,s)
def loopP (ws:List Wd) (rb:PM X) (of:Nat):Nat → X → PM X
  | 0,x,s => (x,s)
  | f + 1,x,s => match opP ws of s with
    | (some op,s1) => loopP ws rb of f (binX op x (rb s1).1) (rb s1).2
    | (none,s1) => (x,s1)
def cmpP (ws:List Wd) (rb:PM X) (s:RS):X × RS := match opP ws 3 (rb s).2 with
  | (some op,s1) => (binX op (rb s).1 (rb s1).1,(rb s1).2)
  | (none,s1) => if (haveP ws [73,83] s1).1 = false then ((rb s).1,(haveP ws [73,83] s1).2) else
      if (haveP ws [78,79,84] (haveP ws [73,83] s1).2).1 = true then
        (tstX [73,83,32,78,79,84,32,78,85,76,76] (rb s).1,wantP ws [[78,85,76,76]] (haveP ws [78,79,84] (haveP ws [73,83] s1).2).2)
      else (tstX [73,83,32,78,85,76,76] (rb s).1,wantP ws [[78,85,76,76]] (haveP ws [78,79,84] (haveP ws [73,83] s1).2).2)
def aggP (ws:List Wd) (rb:PM X) (op:List UInt8) (s:RS):X × RS :=
  let s1 := wantP ws [[40]] (adv s)
  if op = [67,79,85,78,84] then
    let h := haveP ws [42] s1
    if h.1 = true then (aggX op [],wantP ws [[41]] h.2) else (aggX op [(rb h.2).1],wantP ws [[41]] (rb h.2).2)
  else (aggX op [(rb s1).1],wantP ws [[41]] (rb s1).2)
def colP (ws:List Wd) (s:RS):X × RS :=
  let n := nameR ws s
  let d := haveP ws [46] n.2
  if d.1 = true then (colX n.1 (nameR ws d.2).1,(nameR ws d.2).2) else (colX [] n.1,d.2)
def atomP (ws:List Wd) (rb:PM X) (s:RS):X × RS :=
  let h := haveP ws [40] s
  if h.1 = true then ((rb h.2).1,wantP ws [[41]] (rb h.2).2) else
  match nextP ws 2 h.2 with
  | some w => (litI w.n,adv h.2)
  | none => match nextP ws 3 h.2 with
    | some w => (litT w.s,adv h.2)
    | none =>
      let g := haveP ws [78,85,76,76] h.2
      if g.1 = true then (litN,g.2) else
      match nextP ws 1 g.2 with
      | some w => if inP w.s aggs = true then aggP ws rb w.s g.2 else colP ws g.2
      | none => colP ws g.2
def aheadP (ws:List Wd) (rb:PM X):Nat → PM X
  | 0,s => (zX,s)
  | f + 1,s => if (haveP ws [45] s).1 = true then (unX [45] (aheadP ws rb f (haveP ws [45] s).2).1,(aheadP ws rb f (haveP ws [45] s).2).2) else atomP ws rb (haveP ws [45] s).2
def binP (ws:List Wd):Nat → Nat → PM X
  | 0,_,s => (zX,s)
  | f + 1,of,s => if of = 2 then
      (if (haveP ws [78,79,84] s).1 = true then (unX [78,79,84] (binP ws f 2 (haveP ws [78,79,84] s).2).1,(binP ws f 2 (haveP ws [78,79,84] s).2).2) else cmpP ws (binP ws f 4) (haveP ws [78,79,84] s).2)
    else if of = 6 then aheadP ws (binP ws f 0) (ws.length + 1) s
    else loopP ws (binP ws f (of + 1)) of (ws.length + 1) (binP ws f (of + 1) s).1 (binP ws f (of + 1) s).2
/-! ### It never goes back -/
theorem haveP_mono (ws:List Wd) (t:List UInt8) (s:RS):s.i ≤ (haveP ws t s).2.i := by
  unfold haveP
  split
  · split
    · simp [adv]
    · exact Nat.le_refl _
  · exact Nat.le_refl _
theorem haveP_i {ws:List Wd} {t:List UInt8} {s:RS} (h:(haveP ws t s).1 = true):(haveP ws t s).2 = adv s ∧ s.i < ws.length := by
  unfold haveP at h ⊢
  cases hn:nextP ws (if kwP t = true then 1 else 4) s with
  | none => rw [hn] at h; cases h
  | some w =>
    rw [hn] at h
    simp only at h ⊢
    by_cases z:w.s = t
    · rw [if_pos z]
      refine ⟨rfl,?_⟩
      unfold nextP at hn
      split at hn
      · split at hn
        · rename_i w' hw; exact (List.getElem?_eq_some_iff.1 hw).1
        · cases hn
      · cases hn
    · rw [if_neg z] at h; cases h
theorem haveP_no {ws:List Wd} {t:List UInt8} {s:RS} (h:(haveP ws t s).1 = false):(haveP ws t s).2 = s := by
  unfold haveP at h ⊢
  cases hn:nextP ws (if kwP t = true then 1 else 4) s with
  | none => rfl
  | some w =>
    rw [hn] at h
    simp only at h ⊢
    by_cases z:w.s = t
    · rw [if_pos z] at h; cases h
    · rw [if_neg z]
theorem failP_i (s:RS):(failP s).i = s.i := by unfold failP; split <;> rfl
theorem wantP_mono (ws:List Wd):∀ (ts:List (List UInt8)) (s:RS),s.i ≤ (wantP ws ts s).i
  | [],s => Nat.le_refl _
  | t :: ts,s => by
    refine Nat.le_trans ?_ (wantP_mono ws ts (want1 ws s t))
    unfold want1
    split
    · exact haveP_mono ws t s
    · rw [failP_i]; exact Nat.le_refl _
theorem nameR_mono (ws:List Wd) (s:RS):s.i ≤ (nameR ws s).2.i := by
  unfold nameR
  split
  · split
    · rw [failP_i]; exact Nat.le_refl _
    · simp [adv]
  · rw [failP_i]; exact Nat.le_refl _
theorem opP_some {ws:List Wd} {of:Nat} {s s1:RS} {op:List UInt8} (h:opP ws of s = (some op,s1)):s1 = adv s := by
  unfold opP at h
  split at h
  · split at h
    · simp only [Prod.mk.injEq] at h; exact h.2.symm
    · simp at h
  · simp at h
theorem opP_none {ws:List Wd} {of:Nat} {s s1:RS} (h:opP ws of s = (none,s1)):s1 = s := by
  unfold opP at h
  split at h
  · split at h
    · simp at h
    · simp only [Prod.mk.injEq] at h; exact h.2.symm
  · simp only [Prod.mk.injEq] at h; exact h.2.symm
def Mono {α : Type} (m:PM α):Prop := ∀ s,s.i ≤ (m s).2.i
theorem loopP_mono {ws:List Wd} {rb:PM X} (hb:Mono rb) (of:Nat):∀ (f:Nat) (x:X) (s:RS),s.i ≤ (loopP ws rb of f x s).2.i
  | 0,x,s => Nat.le_refl _
  | f + 1,x,s => by
    unfold loopP
    split
    · rename_i op s1 h
      rw [opP_some h]
      refine Nat.le_trans ?_ (loopP_mono hb of f _ _)
      refine Nat.le_trans ?_ (hb _)
      simp [adv]
    · rename_i s1 h
      rw [opP_none h]; exact Nat.le_refl _
theorem cmpP_mono {ws:List Wd} {rb:PM X} (hb:Mono rb):Mono (cmpP ws rb) := by
  intro s
  unfold cmpP
  have h0 := hb s
  split
  · rename_i op s1 h
    rw [opP_some h]
    refine Nat.le_trans h0 (Nat.le_trans ?_ (hb _))
    simp [adv]
  · rename_i s1 h
    rw [opP_none h]
    have h1 := haveP_mono ws [73,83] (rb s).2
    split
    · exact Nat.le_trans h0 h1
    · have h2 := haveP_mono ws [78,79,84] (haveP ws [73,83] (rb s).2).2
      have h3 := wantP_mono ws [[78,85,76,76]] (haveP ws [78,79,84] (haveP ws [73,83] (rb s).2).2).2
      split <;> exact Nat.le_trans h0 (Nat.le_trans h1 (Nat.le_trans h2 h3))
theorem aggP_mono {ws:List Wd} {rb:PM X} (hb:Mono rb) (op:List UInt8):Mono (aggP ws rb op) := by
  intro s
  have h1:s.i ≤ (wantP ws [[40]] (adv s)).i := Nat.le_trans (by simp [adv]) (wantP_mono ws [[40]] (adv s))
  have h2 := haveP_mono ws [42] (wantP ws [[40]] (adv s))
  simp only [aggP]
  split
  · split
    · exact Nat.le_trans h1 (Nat.le_trans h2 (wantP_mono ws _ _))
    · exact Nat.le_trans h1 (Nat.le_trans h2 (Nat.le_trans (hb _) (wantP_mono ws _ _)))
  · exact Nat.le_trans h1 (Nat.le_trans (hb _) (wantP_mono ws _ _))
theorem colP_mono (ws:List Wd):Mono (colP ws) := by
  intro s
  simp only [colP]
  have h1 := nameR_mono ws s
  have h2 := haveP_mono ws [46] (nameR ws s).2
  split
  · exact Nat.le_trans h1 (Nat.le_trans h2 (nameR_mono ws _))
  · exact Nat.le_trans h1 h2
theorem atomP_mono {ws:List Wd} {rb:PM X} (hb:Mono rb):Mono (atomP ws rb) := by
  intro s
  simp only [atomP]
  have h1 := haveP_mono ws [40] s
  have h2 := haveP_mono ws [78,85,76,76] (haveP ws [40] s).2
  split
  · exact Nat.le_trans h1 (Nat.le_trans (hb _) (wantP_mono ws _ _))
  · split
    · refine Nat.le_trans h1 ?_; simp [adv]
    · split
      · refine Nat.le_trans h1 ?_; simp [adv]
      · split
        · exact Nat.le_trans h1 h2
        · split
          · split
            · exact Nat.le_trans h1 (Nat.le_trans h2 (aggP_mono hb _ _))
            · exact Nat.le_trans h1 (Nat.le_trans h2 (colP_mono ws _))
          · exact Nat.le_trans h1 (Nat.le_trans h2 (colP_mono ws _))
theorem aheadP_mono {ws:List Wd} {rb:PM X} (hb:Mono rb):∀ f,Mono (aheadP ws rb f)
  | 0 => fun s => Nat.le_refl _
  | f + 1 => fun s => by
    simp only [aheadP]
    have h1 := haveP_mono ws [45] s
    split
    · exact Nat.le_trans h1 (aheadP_mono hb f _)
    · exact Nat.le_trans h1 (atomP_mono hb _)
theorem binP_mono (ws:List Wd):∀ f of,Mono (binP ws f of)
  | 0,of => fun s => Nat.le_refl _
  | f + 1,of => fun s => by
    simp only [binP]
    have h1 := haveP_mono ws [78,79,84] s
    split
    · split
      · exact Nat.le_trans h1 (binP_mono ws f 2 _)
      · exact Nat.le_trans h1 (cmpP_mono (binP_mono ws f 4) _)
    · split
      · exact aheadP_mono (binP_mono ws f 0) _ s
      · exact Nat.le_trans (binP_mono ws f (of + 1) s) (loopP_mono (binP_mono ws f (of + 1)) of _ _ _)
end Go.Proofs.YtjpjeilfmjdhcaaDoor.Pr
