/- ExprBack, the plain law: the words of a whole expression's text. No condition. -/
import Derived.Test.YtjpjeilfmjdhcaaDoorEbQ
namespace Go.Proofs.YtjpjeilfmjdhcaaDoor.Eb
open Go Go.Proofs.YtjpjeilfmjdhcaaDoor.E
open Go.Proofs.YtjpjeilfmjdhcaaDoor.Ln
open Go.Proofs.YtjpjeilfmjdhcaaDoor.Ex
open Go.Proofs.YtjpjeilfmjdhcaaDoor.Pr
open Go.Proofs.YtjpjeilfmjdhcaaDoor.Lo
set_option maxRecDepth 100000
set_option linter.unusedVariables false
set_option linter.unusedSimpArgs false
abbrev kNot:List UInt8 := [78,79,84]
abbrev kIs:List UInt8 := [73,83]
abbrev kNull:List UInt8 := [78,85,76,76]
abbrev kCount:List UInt8 := [67,79,85,78,84]
/-- The level of a node. -/
def lvP (n:Nd):Nat := if n.k = 3 then (if n.op = kNot then 2 else 6) else if n.k = 4 then levelP n.op else if n.k = 5 then 3 else 7
def lftP (o:Nat):Nat := if o = 3 then 4 else o
def trimP (s:List UInt8):List UInt8 := if s.head? = some 46 then s.drop 1 else s
def rawT (f:X → Nat → List UInt8) (n:Nd) (ps:List X):List UInt8 :=
  if n.k = 1 then (if n.vk = 1 then decP n.vn.toNat else if n.vk = 2 then quoteP n.vs else kNull)
  else if n.k = 2 then trimP (n.tb ++ 46 :: n.cl)
  else if n.k = 3 then (if n.op = kNot then kNot ++ 32 :: f (ps.getD 0 zX) 2 else 45 :: f (ps.getD 0 zX) 7)
  else if n.k = 4 then f (ps.getD 0 zX) (lftP (levelP n.op)) ++ (32 :: (n.op ++ (32 :: f (ps.getD 1 zX) (levelP n.op + 1))))
  else if n.k = 5 then f (ps.getD 0 zX) 4 ++ (32 :: n.op)
  else n.op ++ (40 :: ((if ps = [] then [42] else f (ps.getD 0 zX) 0) ++ [41]))
def wrT (o l:Nat) (s:List UInt8):List UInt8 := if o < l then 40 :: (s ++ [41]) else s
def txtB:Nat → X → Nat → List UInt8
  | 0,_,_ => []
  | d + 1,.mk n ps,l => wrT (lvP n) l (rawT (txtB d) n ps)
abbrev wLp:Wd := ⟨4,[40],0⟩
abbrev wRp:Wd := ⟨4,[41],0⟩
abbrev wIs:Wd := ⟨1,kIs,0⟩
abbrev wNot:Wd := ⟨1,kNot,0⟩
abbrev wNull:Wd := ⟨1,kNull,0⟩
abbrev wMinus:Wd := ⟨4,[45],0⟩
def rawK (f:X → Nat → List Wd) (n:Nd) (ps:List X):List Wd :=
  if n.k = 1 then (if n.vk = 1 then [⟨2,decP n.vn.toNat,n.vn⟩] else if n.vk = 2 then [⟨3,n.vs,0⟩] else [wNull])
  else if n.k = 2 then (if n.tb = [] then [⟨1,n.cl,0⟩] else [⟨1,n.tb,0⟩,⟨4,[46],0⟩,⟨1,n.cl,0⟩])
  else if n.k = 3 then (if n.op = kNot then wNot :: f (ps.getD 0 zX) 2 else wMinus :: f (ps.getD 0 zX) 7)
  else if n.k = 4 then f (ps.getD 0 zX) (lftP (levelP n.op)) ++ (opWd n.op :: f (ps.getD 1 zX) (levelP n.op + 1))
  else if n.k = 5 then f (ps.getD 0 zX) 4 ++ (if n.op = [73,83,32,78,85,76,76] then [wIs,wNull] else [wIs,wNot,wNull])
  else ⟨1,n.op,0⟩ :: wLp :: ((if ps = [] then [⟨4,[42],0⟩] else f (ps.getD 0 zX) 0) ++ [wRp])
def wrK (o l:Nat) (s:List Wd):List Wd := if o < l then wLp :: (s ++ [wRp]) else s
def tokB:Nat → X → Nat → List Wd
  | 0,_,_ => []
  | d + 1,.mk n ps,l => wrK (lvP n) l (rawK (tokB d) n ps)
/-- Formed, with numbers that fit. -/
inductive Fm:Nat → X → Prop
  | int {d:Nat} {v:Nat} (h:v ≤ 9223372036854775807):Fm (d + 1) (litI v)
  | txt {d:Nat} {s:List UInt8} (h:s.length ≤ 100):Fm (d + 1) (litT s)
  | nul {d:Nat}:Fm (d + 1) litN
  | col {d:Nat} {t c:List UInt8} (h:nameP c = true) (h2:t = [] ∨ nameP t = true):Fm (d + 1) (colX t c)
  | neg {d:Nat} {p:X} (h:Fm d p):Fm (d + 1) (unX [45] p)
  | no {d:Nat} {p:X} (h:Fm d p):Fm (d + 1) (unX kNot p)
  | bin {d:Nat} {op:List UInt8} {p q:X} (h:inP op ops4 = true) (hp:Fm d p) (hq:Fm d q):Fm (d + 1) (binX op p q)
  | isn {d:Nat} {p:X} (h:Fm d p):Fm (d + 1) (tstX [73,83,32,78,85,76,76] p)
  | isnn {d:Nat} {p:X} (h:Fm d p):Fm (d + 1) (tstX [73,83,32,78,79,84,32,78,85,76,76] p)
  | agg {d:Nat} {op:List UInt8} {p:X} (h:inP op aggs = true) (hp:Fm d p):Fm (d + 1) (aggX op [p])
  | cnt {d:Nat}:Fm (d + 1) (aggX kCount [])
theorem name_facts {s:List UInt8} (h:nameP s = true):namedP s = true ∧ kwP s = false := by
  unfold nameP at h
  simpa using h
theorem trim_nil (c:List UInt8):trimP ([] ++ 46 :: c) = c := rfl
theorem named_head {s:List UInt8} (h:namedP s = true):∃ a t,s = a :: t ∧ a ≠ 46 ∧ a ≠ 45 := by
  obtain ⟨hne,hl,-⟩ := named_facts h
  cases s with
  | nil => exact absurd rfl hne
  | cons a t =>
    refine ⟨a,t,rfl,?_,?_⟩
    · rintro rfl
      rw [dc_ascii (by decide)] at hl
      exact absurd hl (by decide)
    · rintro rfl
      rw [dc_ascii (by decide)] at hl
      exact absurd hl (by decide)
theorem trim_ne {t c:List UInt8} (h:namedP t = true):trimP (t ++ 46 :: c) = t ++ 46 :: c := by
  obtain ⟨a,u,rfl,ha,-⟩ := named_head h
  unfold trimP
  rw [List.cons_append,List.head?_cons,if_neg (by simpa using ha)]
theorem ops_level {op:List UInt8} (h:inP op ops4 = true):levelP op ≠ 7 ∧ levelP op ≠ 2 ∧ levelP op ≤ 5 := by
  simp only [inP,ops4,List.any_cons,List.any_nil,Bool.or_false,Bool.or_eq_true,beq_iff_eq] at h
  rcases h with rfl | rfl | rfl | rfl | rfl | rfl | rfl | rfl | rfl | rfl | rfl <;> decide
theorem named_ops {op:List UInt8} (h:inP op aggs = true):namedP op = true := by
  simp only [inP,aggs,List.any_cons,List.any_nil,Bool.or_false,Bool.or_eq_true,beq_iff_eq] at h
  rcases h with rfl | rfl | rfl | rfl <;> kernel_rfl
theorem fw_sp {R:List UInt8}:Fw (32 :: R) := .inr (.inl ⟨R,rfl⟩)
theorem fw_rp {R:List UInt8}:Fw (41 :: R) := .inr (.inr ⟨R,rfl⟩)
/-! ### One step -/
section
variable (f:X → Nat → List UInt8) (g:X → Nat → List Wd)
end
/-- A text that binds as atoms do does not begin with '-'. -/
theorem txt_head {d:Nat} {x:X} (h:Fm d x):∃ a t,txtB d x 7 = a :: t ∧ a ≠ 45 := by
  have par:∀ {n:Nd} {ps:List X} {d:Nat},lvP n < 7 → ∃ a t,txtB (d + 1) (.mk n ps) 7 = a :: t ∧ a ≠ 45 := fun {n ps d} q => ⟨40,rawT (txtB d) n ps ++ [41],by rw [txtB,wrT,if_pos q],by decide⟩
  cases h with
  | @int d v h =>
    have hd:Dg (decP v) := decF_dg 20 v
    have hne:decP v ≠ [] := decF_ne 19 v
    have e:txtB (d + 1) (litI v) 7 = decP v := by
      show decP (Int.toNat (v:Int)) = _
      rw [Int.toNat_natCast]
    rw [e]
    cases e2:decP v with
    | nil => exact absurd e2 hne
    | cons a t =>
      refine ⟨a,t,rfl,?_⟩
      rintro rfl
      have := hd 45 (by rw [e2]; simp)
      exact absurd this (by decide)
  | txt h => exact ⟨39,_,rfl,by decide⟩
  | nul => exact ⟨78,_,rfl,by decide⟩
  | @col d t c h h2 =>
    have e:txtB (d + 1) (colX t c) 7 = trimP (t ++ 46 :: c) := rfl
    rw [e]
    rcases h2 with rfl | h2
    · rw [trim_nil]
      obtain ⟨a,u,rfl,-,ha⟩ := named_head (name_facts h).1
      exact ⟨a,u,rfl,ha⟩
    · rw [trim_ne (name_facts h2).1]
      obtain ⟨a,u,rfl,-,ha⟩ := named_head (name_facts h2).1
      exact ⟨a,_,rfl,ha⟩
  | neg h => exact par (by decide)
  | no h => exact par (by decide)
  | @bin d op p q h hp hq =>
    refine par ?_
    have := (ops_level h).2.2
    show levelP op < 7
    omega
  | isn h => exact par (by decide)
  | isnn h => exact par (by decide)
  | @agg d op p h hp =>
    obtain ⟨a,u,rfl,-,ha⟩ := named_head (named_ops h)
    exact ⟨a,_,rfl,ha⟩
  | cnt => exact ⟨67,_,rfl,by decide⟩
theorem piece_raw (d:Nat) (IH:∀ x l R,Fm d x → Fw R → Piece (txtB d x l) (tokB d x l) R) {n:Nd} {ps:List X} (h:Fm (d + 1) (.mk n ps)) {R:List UInt8} (hR:Fw R):Piece (rawT (txtB d) n ps) (rawK (tokB d) n ps) R := by
  generalize hx:X.mk n ps = x at h
  generalize hd:d + 1 = d1 at h
  cases h with
  | @int d' v h =>
    injection hx with e1 e2; subst e1; subst e2
    have := Piece.num (R := R) h hR.nx
    have e:(Int.toNat (v:Int)) = v := Int.toNat_natCast v
    show Piece (decP (Int.toNat (v:Int))) [⟨2,decP (Int.toNat (v:Int)),(v:Int)⟩] R
    rw [e]; exact this
  | txt h =>
    injection hx with e1 e2; subst e1; subst e2
    exact Piece.quote h hR
  | nul =>
    injection hx with e1 e2; subst e1; subst e2
    exact Piece.name (by kernel_rfl) hR.nx
  | @col d' t c h h2 =>
    injection hx with e1 e2; subst e1; subst e2
    show Piece (trimP (t ++ 46 :: c)) (if t = [] then [⟨1,c,0⟩] else [⟨1,t,0⟩,⟨4,[46],0⟩,⟨1,c,0⟩]) R
    rcases h2 with rfl | h2
    · rw [trim_nil,if_pos rfl]
      exact Piece.name (name_facts h).1 hR.nx
    · have ht := (name_facts h2).1
      rw [trim_ne ht,if_neg (named_facts ht).1]
      exact Piece.app (Piece.name ht (.cons (by decide) (by decide) (by decide))) (Piece.cons Piece.dot (Piece.name (name_facts h).1 hR.nx))
  | @neg d' p h =>
    injection hx with e1 e2; subst e1; subst e2
    obtain rfl:d = d' := by omega
    obtain ⟨a,t,e,ha⟩ := txt_head h
    refine Piece.cons (Piece.minus ?_) (IH p 7 R h hR)
    intro R' z
    have z:txtB d p 7 ++ R = 45 :: R' := z
    rw [e] at z
    injection z with z1 z2
    exact ha z1
  | @no d' p h =>
    injection hx with e1 e2; subst e1; subst e2
    obtain rfl:d = d' := by omega
    exact Piece.app (Piece.name (by kernel_rfl) Nx.sp) (Piece.cons (ys := []) Piece.blank (IH p 2 R h hR))
  | @bin d' op p q h hp hq =>
    injection hx with e1 e2; subst e1; subst e2
    obtain rfl:d = d' := by omega
    exact Piece.app (IH p _ _ hp fw_sp) (Piece.cons (ys := []) Piece.blank (Piece.app (ys := [opWd op]) (Piece.op h) (Piece.cons (ys := []) Piece.blank (IH q _ R hq hR))))
  | @isn d' p h =>
    injection hx with e1 e2; subst e1; subst e2
    obtain rfl:d = d' := by omega
    refine Piece.app (IH p 4 _ h fw_sp) (Piece.cons (ys := []) Piece.blank ?_)
    exact Piece.app (p := kIs) (q := 32 :: kNull) (ys := [wIs]) (zs := [wNull]) (Piece.name (by kernel_rfl) Nx.sp) (Piece.cons (ys := []) Piece.blank (Piece.name (by kernel_rfl) hR.nx))
  | @isnn d' p h =>
    injection hx with e1 e2; subst e1; subst e2
    obtain rfl:d = d' := by omega
    refine Piece.app (IH p 4 _ h fw_sp) (Piece.cons (ys := []) Piece.blank ?_)
    exact Piece.app (p := kIs) (q := 32 :: (kNot ++ 32 :: kNull)) (ys := [wIs]) (zs := [wNot,wNull]) (Piece.name (by kernel_rfl) Nx.sp) (Piece.cons (ys := []) Piece.blank
      (Piece.app (p := kNot) (q := 32 :: kNull) (ys := [wNot]) (zs := [wNull]) (Piece.name (by kernel_rfl) Nx.sp) (Piece.cons (ys := []) Piece.blank (Piece.name (by kernel_rfl) hR.nx))))
  | @agg d' op p h hp =>
    injection hx with e1 e2; subst e1; subst e2
    obtain rfl:d = d' := by omega
    exact Piece.app (ys := [⟨1,op,0⟩]) (Piece.name (named_ops h) (.cons (by decide) (by decide) (by decide))) (Piece.cons Piece.lp (Piece.app (IH p 0 _ hp fw_rp) Piece.rp))
  | cnt =>
    injection hx with e1 e2; subst e1; subst e2
    exact Piece.app (p := kCount) (ys := [⟨1,kCount,0⟩]) (Piece.name (by kernel_rfl) (.cons (by decide) (by decide) (by decide))) (Piece.cons Piece.lp (Piece.app (p := [42]) (ys := [⟨4,[42],0⟩]) Piece.star Piece.rp))
theorem piece_all:∀ (d:Nat) (x:X) (l:Nat) (R:List UInt8),Fm d x → Fw R → Piece (txtB d x l) (tokB d x l) R
  | 0,x,l,R,h,hR => by cases h
  | d + 1,.mk n ps,l,R,h,hR => by
    rw [txtB,tokB,wrT,wrK]
    split
    · exact Piece.cons Piece.lp (Piece.app (piece_raw d (piece_all d) h fw_rp) Piece.rp)
    · exact piece_raw d (piece_all d) h hR
/-- The words of an expression's text. -/
theorem words_txt {d:Nat} {x:X} (h:Fm d x):wordsP (txtB d x 0) = (some (tokB d x 0),0) ∨ wordsP (txtB d x 0) = (none,5) := by
  unfold wordsP
  split
  · exact .inr rfl
  · have := piece_all d x 0 [] h (.inl rfl) [] (by simp)
    rw [List.append_nil,List.nil_append] at this
    rw [this]
    split
    · exact .inl rfl
    · exact .inr rfl
end Go.Proofs.YtjpjeilfmjdhcaaDoor.Eb
