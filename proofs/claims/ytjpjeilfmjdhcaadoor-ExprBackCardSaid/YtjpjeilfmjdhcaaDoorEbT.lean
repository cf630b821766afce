/- ExprBack, the plain law: each expression's words are read as it. No condition. -/
import Derived.Test.YtjpjeilfmjdhcaaDoorEbS
namespace Go.Proofs.YtjpjeilfmjdhcaaDoor.Eb
open Go Go.Proofs.YtjpjeilfmjdhcaaDoor.E
open Go.Proofs.YtjpjeilfmjdhcaaDoor.Ln
open Go.Proofs.YtjpjeilfmjdhcaaDoor.Ex
open Go.Proofs.YtjpjeilfmjdhcaaDoor.Pr
open Go.Proofs.YtjpjeilfmjdhcaaDoor.Lo
set_option maxRecDepth 100000
set_option linter.unusedVariables false
set_option linter.unusedSimpArgs false
def efP (o l:Nat):Nat := if o < l then 7 else o
def bsP (v:Nat):Nat := if v = 7 then 6 else if v = 3 then 2 else v
def lvX:X → Nat
  | .mk n ps => lvP n
theorem ef_ge (o l:Nat) (h:l ≤ 7):l ≤ efP o l := by
  unfold efP
  split <;> omega
theorem bs_ge {v L:Nat} (h:L ≤ v) (h6:L ≤ 6) (h3:L ≠ 3):L ≤ bsP v := by
  unfold bsP
  split
  · exact h6
  · split <;> omega
theorem level_le (op:List UInt8):levelP op ≤ 7 := by
  unfold levelP
  repeat' split
  all_goals omega
theorem ef7 (x:X):efP (lvX x) 7 = 7 := by
  obtain ⟨n,ps⟩ := x
  have:lvP n ≤ 7 := by
    unfold lvP
    have := level_le n.op
    repeat' split
    all_goals omega
  show (if lvP n < 7 then 7 else lvP n) = 7
  split <;> omega
structure All (ws:List Wd) (x:X) (ts:List Wd) (v:Nat):Prop where
  at7:v = 7 → (∀ f,8 * ts.length ≤ f → Rdx ws (atomP ws (binP ws f 0)) x ts 7) ∧ NotHd ts [45]
  no:3 ≤ v → NotHd ts kNot
  star:NotHd ts [42]
  good:∀ L f,L ≤ bsP v → L ≠ 3 → 8 * ts.length + 7 - L ≤ f → Good ws f L x ts
theorem All.use {ws:List Wd} {x:X} {ts:List Wd} {o l L f:Nat} (a:All ws x ts (efP o l)) (hl:l ≤ 7) (h:L ≤ l) (h6:L ≤ 6) (h3:L ≠ 3) (hf:8 * ts.length + 7 - L ≤ f):Good ws f L x ts :=
  a.good L f (bs_ge (Nat.le_trans h (ef_ge o l hl)) h6 h3) h3 hf
theorem All.of_atom {ws:List Wd} {x:X} {ts:List Wd} (h:∀ f,8 * ts.length ≤ f → Rdx ws (atomP ws (binP ws f 0)) x ts 7) (h1:NotHd ts [45]) (h2:NotHd ts kNot) (h3:NotHd ts [42]):All ws x ts 7 where
  at7 := fun _ => ⟨h,h1⟩
  no := fun _ => h2
  star := h3
  good := fun L f hL hL3 hf => by
    refine down (w := 6) (B := 8 * ts.length) (by decide) (by decide) (fun _ => h2) (fun f hf => ?_) (6 - L) L f (by have:L ≤ 6 := hL; omega) hL3 hf
    obtain ⟨f,rfl⟩:∃ g,f = g + 1 := ⟨f - 1,by omega⟩
    refine ⟨fun z => by rcases z with z | z | z | z <;> omega,fun i rest e s => ?_⟩
    rw [binP,if_neg (by decide),if_pos rfl,aheadP,h1.no e]
    simp only [Bool.false_eq_true,if_false]
    exact h f (by omega) i rest e (s.mono (by decide))
theorem All.of_base {ws:List Wd} {x:X} {ts:List Wd} {v:Nat} (h7:v < 7) (h1:3 ≤ v → NotHd ts kNot) (h2:NotHd ts [42]) (base:∀ f,8 * ts.length + 7 - bsP v ≤ f → Good ws f (bsP v) x ts):All ws x ts v where
  at7 := fun z => by omega
  no := h1
  star := h2
  good := fun L f hL hL3 hf => by
    have hb:bsP v ≤ 6 ∧ bsP v ≠ 3 ∧ (4 ≤ bsP v → 3 ≤ v) := by
      unfold bsP
      split
      · omega
      · split <;> omega
    exact down (w := bsP v) (B := 8 * ts.length) hb.1 hb.2.1 (fun z => h1 (hb.2.2 z)) base (bsP v - L) L f (by omega) hL3 hf
theorem NotHd.app {ts us:List Wd} {t:List UInt8} (h:NotHd ts t):NotHd (ts ++ us) t := by
  obtain ⟨w,r,rfl,hw⟩ := h
  exact ⟨w,r ++ us,rfl,hw⟩
theorem NotHd.k {k n:Int} {s:List UInt8} {r:List Wd} {t:List UInt8} (h:k ≠ kdP t):NotHd (⟨k,s,n⟩ :: r) t := ⟨⟨k,s,n⟩,r,rfl,.inl h⟩
theorem NotHd.s {w:Wd} {r:List Wd} {t:List UInt8} (h:w.s ≠ t):NotHd (w :: r) t := ⟨w,r,rfl,.inr h⟩
/-- In ( ). -/
theorem All.paren {ws:List Wd} {x:X} {ts:List Wd} {v:Nat} (a:All ws x ts v):All ws x (wLp :: (ts ++ [wRp])) 7 := by
  refine All.of_atom (fun f hf => ?_) (.s (by decide)) (.s (by decide)) (.s (by decide))
  intro i rest e s
  simp only [List.length_cons,List.length_append,List.length_nil] at hf ⊢
  rw [List.cons_append,List.append_assoc] at e
  have h0:haveP ws [40] ⟨i,0⟩ = (true,⟨i + 1,0⟩) := have_yes (n := 0) e
  have e1 := (left_cons e).2.1
  have h1 := (a.good 0 f (Nat.zero_le _) (by decide) (by omega)).2 (i + 1) _ e1 Stp.rp
  have e2 := left_app e1
  have h2:wantP ws [[41]] ⟨i + 1 + ts.length,0⟩ = ⟨i + 1 + ts.length + 1,0⟩ := want_yes (n := 0) e2
  simp only [atomP,h0,if_true,h1,h2]
  rw [show i + 1 + ts.length + 1 = i + (ts.length + (0 + 1) + 1) by omega]
theorem agg_kw {op:List UInt8} (h:inP op aggs = true):kwP op = true ∧ op ≠ kNull ∧ op ≠ kNot ∧ op ≠ [40] ∧ op ≠ [42] ∧ op ≠ [45] := by
  simp only [inP,aggs,List.any_cons,List.any_nil,Bool.or_false,Bool.or_eq_true,beq_iff_eq] at h
  rcases h with rfl | rfl | rfl | rfl <;> decide
theorem name_ne {c t:List UInt8} (h:kwP c = false) (h2:kwP t = true):c ≠ t := by
  rintro rfl
  rw [h] at h2; cases h2
theorem name_no {c:List UInt8} (h:kwP c = false):inP c aggs = false := by
  cases e:inP c aggs with
  | false => rfl
  | true => rw [(agg_kw e).1] at h; cases h
theorem nameR_yes {ws r:List Wd} {c:List UInt8} {n:Int} {i:Nat} (h:kwP c = false) (e:ws.drop i = ⟨1,c,n⟩ :: r):nameR ws ⟨i,0⟩ = (c,⟨i + 1,0⟩) := by
  unfold nameR
  rw [nx_cons e,if_pos rfl]
  simp only [h,Bool.false_eq_true,if_false]
  rfl
/-- An atom that begins with a name or keyword. -/
theorem atom_word {ws r:List Wd} {c:List UInt8} {n:Int} {i:Nat} {rb:PM X} (e:ws.drop i = ⟨1,c,n⟩ :: r) (h:c ≠ kNull):atomP ws rb ⟨i,0⟩ = if inP c aggs = true then aggP ws rb c ⟨i,0⟩ else colP ws ⟨i,0⟩ := by
  have h0:haveP ws [40] ⟨i,0⟩ = (false,⟨i,0⟩) := have_no (fun w' r' e' => by
    rw [e] at e'; injection e' with e1 e2; subst e1; exact .inl (by show (1:Int) ≠ kdP [40]; decide))
  have h1:haveP ws [78,85,76,76] ⟨i,0⟩ = (false,⟨i,0⟩) := have_no (fun w' r' e' => by
    rw [e] at e'; injection e' with e1 e2; subst e1; exact .inr h)
  have n1:nextP ws 1 ⟨i,0⟩ = some ⟨1,c,n⟩ := by rw [nx_cons e,if_pos rfl]
  have n2:nextP ws 2 ⟨i,0⟩ = none := by rw [nx_cons e,if_neg (show ¬ (1:Int) = 2 by decide)]
  have n3:nextP ws 3 ⟨i,0⟩ = none := by rw [nx_cons e,if_neg (show ¬ (1:Int) = 3 by decide)]
  simp only [atomP,h0,h1,n1,n2,n3,Bool.false_eq_true,if_false]
theorem all_raw {ws:List Wd} (d:Nat) (IH:∀ (p:X) (l:Nat),l ≤ 7 → Fm d p → All ws p (tokB d p l) (efP (lvX p) l)) {n:Nd} {ps:List X} (h:Fm (d + 1) (.mk n ps)):All ws (.mk n ps) (rawK (tokB d) n ps) (lvP n) := by
  generalize hx:X.mk n ps = x at h
  generalize hd:d + 1 = d1 at h
  cases h with
  | @int d' v h =>
    injection hx with e1 e2; subst e1; subst e2
    refine All.of_atom (fun f hf => ?_) (.k (by decide)) (.k (by decide)) (.k (by decide))
    intro i rest e s
    have e:ws.drop i = ⟨2,decP (Int.toNat (v:Int)),(v:Int)⟩ :: rest := e
    have h0:haveP ws [40] ⟨i,0⟩ = (false,⟨i,0⟩) := have_no (fun w' r' e' => by
      rw [e] at e'; injection e' with e1 e2; subst e1; exact .inl (by show (2:Int) ≠ kdP [40]; decide))
    have n2:nextP ws 2 ⟨i,0⟩ = some ⟨2,decP (Int.toNat (v:Int)),(v:Int)⟩ := by rw [nx_cons e,if_pos rfl]
    simp only [atomP,h0,n2,Bool.false_eq_true,if_false]
    rfl
  | @txt d' t h =>
    injection hx with e1 e2; subst e1; subst e2
    refine All.of_atom (fun f hf => ?_) (.k (by decide)) (.k (by decide)) (.k (by decide))
    intro i rest e s
    have e:ws.drop i = ⟨3,t,0⟩ :: rest := e
    have h0:haveP ws [40] ⟨i,0⟩ = (false,⟨i,0⟩) := have_no (fun w' r' e' => by
      rw [e] at e'; injection e' with e1 e2; subst e1; exact .inl (by show (3:Int) ≠ kdP [40]; decide))
    have n2:nextP ws 2 ⟨i,0⟩ = none := by rw [nx_cons e,if_neg (show ¬ (3:Int) = 2 by decide)]
    have n3:nextP ws 3 ⟨i,0⟩ = some ⟨3,t,0⟩ := by rw [nx_cons e,if_pos rfl]
    simp only [atomP,h0,n2,n3,Bool.false_eq_true,if_false]
    rfl
  | nul =>
    injection hx with e1 e2; subst e1; subst e2
    refine All.of_atom (fun f hf => ?_) (.k (by decide)) (.s (by decide)) (.k (by decide))
    intro i rest e s
    have e:ws.drop i = wNull :: rest := e
    have h0:haveP ws [40] ⟨i,0⟩ = (false,⟨i,0⟩) := have_no (fun w' r' e' => by
      rw [e] at e'; injection e' with e1 e2; subst e1; exact .inl (by show (1:Int) ≠ kdP [40]; decide))
    have h1:haveP ws [78,85,76,76] ⟨i,0⟩ = (true,⟨i + 1,0⟩) := have_yes (n := 0) e
    have n2:nextP ws 2 ⟨i,0⟩ = none := by rw [nx_cons e,if_neg (by decide)]
    have n3:nextP ws 3 ⟨i,0⟩ = none := by rw [nx_cons e,if_neg (by decide)]
    simp only [atomP,h0,h1,n2,n3,Bool.false_eq_true,if_false,if_true]
    rfl
  | @col d' t c h h2 =>
    injection hx with e1 e2; subst e1; subst e2
    have kc := (name_facts h).2
    rcases h2 with rfl | h2
    · show All ws (colX [] c) [⟨1,c,0⟩] 7
      refine All.of_atom (fun f hf => ?_) (.k (by decide)) (.s (name_ne kc (by decide))) (.k (by decide))
      intro i rest e s
      have e:ws.drop i = ⟨1,c,0⟩ :: rest := e
      have e1 := (left_cons e).2.1
      have hdot:haveP ws [46] ⟨i + 1,0⟩ = (false,⟨i + 1,0⟩) := have_no (fun w r ew => by
        rw [e1] at ew
        rcases s w r ew with rfl | ⟨h1,h2,h3⟩ | ⟨rfl,h2⟩
        · exact .inr (by decide)
        · refine .inr (fun z => ?_)
          rw [z] at h2
          exact absurd h2 (by decide)
        · exact .inl (by decide))
      rw [atom_word e (name_ne kc (by decide)),name_no kc]
      simp only [Bool.false_eq_true,if_false,colP,nameR_yes kc e,hdot]
      rfl
    · have kt := (name_facts h2).2
      have ht := (named_facts (name_facts h2).1).1
      have er:rawK (tokB d) ⟨2,[],0,0,[],t,c⟩ [] = [⟨1,t,0⟩,⟨4,[46],0⟩,⟨1,c,0⟩] := by
        show (if t = [] then _ else _) = _
        rw [if_neg ht]
      rw [er]
      refine All.of_atom (fun f hf => ?_) (.k (by decide)) (.s (name_ne kt (by decide))) (.k (by decide))
      intro i rest e s
      have e:ws.drop i = ⟨1,t,0⟩ :: ⟨4,[46],0⟩ :: ⟨1,c,0⟩ :: rest := e
      have e1 := (left_cons e).2.1
      have e2 := (left_cons e1).2.1
      have hdot:haveP ws [46] ⟨i + 1,0⟩ = (true,⟨i + 1 + 1,0⟩) := have_yes (n := 0) e1
      rw [atom_word e (name_ne kt (by decide)),name_no kt]
      simp only [Bool.false_eq_true,if_false,if_true,colP,nameR_yes kt e,hdot,nameR_yes kc e2]
      rfl
  | @neg d' p h =>
    injection hx with e1 e2; subst e1; subst e2
    obtain rfl:d = d' := by omega
    have a := IH p 7 (by decide) h
    have a7 := a.at7 (ef7 p)
    show All ws (unX [45] p) (wMinus :: tokB d p 7) 6
    refine All.of_base (by decide) (fun _ => .s (by decide)) (.s (by decide)) (fun f hf => ?_)
    simp only [List.length_cons,show bsP 6 = 6 from rfl] at hf ⊢
    obtain ⟨f,rfl⟩:∃ g,f = g + 1 := ⟨f - 1,by omega⟩
    refine ⟨fun z => by rcases z with z | z | z | z <;> omega,fun i rest e s => ?_⟩
    rw [List.cons_append] at e
    have h0:haveP ws [45] ⟨i,0⟩ = (true,⟨i + 1,0⟩) := have_yes (n := 0) e
    have e1 := (left_cons e).2.1
    have hlt := (left_cons e).2.2
    obtain ⟨g,hg⟩:∃ g,ws.length = g + 1 := ⟨ws.length - 1,by omega⟩
    have h1 := a7.2.no e1
    have h2 := a7.1 f (by omega) (i + 1) rest e1 (s.mono (by decide))
    rw [binP,if_neg (by decide),if_pos rfl,hg,aheadP,h0]
    simp only [if_true]
    rw [aheadP,h1]
    simp only [Bool.false_eq_true,if_false,h2]
    rw [List.length_cons,show i + 1 + (tokB d p 7).length = i + ((tokB d p 7).length + 1) by omega]
  | @no d' p h =>
    injection hx with e1 e2; subst e1; subst e2
    obtain rfl:d = d' := by omega
    have a := IH p 2 (by decide) h
    show All ws (unX kNot p) (wNot :: tokB d p 2) 2
    refine All.of_base (by decide) (fun z => by omega) (.s (by decide)) (fun f hf => ?_)
    simp only [List.length_cons,show bsP 2 = 2 from rfl] at hf ⊢
    obtain ⟨f,rfl⟩:∃ g,f = g + 1 := ⟨f - 1,by omega⟩
    refine ⟨fun z => by rcases z with z | z | z | z <;> omega,fun i rest e s => ?_⟩
    rw [List.cons_append] at e
    have h0:haveP ws kNot ⟨i,0⟩ = (true,⟨i + 1,0⟩) := have_yes (n := 0) e
    have e1 := (left_cons e).2.1
    have h1 := (a.use (f := f) (by decide) (Nat.le_refl 2) (by decide) (by decide) (by omega)).2 (i + 1) rest e1 s
    rw [binP,if_pos rfl,h0]
    simp only [if_true,h1]
    rw [List.length_cons,show i + 1 + (tokB d p 2).length = i + ((tokB d p 2).length + 1) by omega]
  | @bin d' op p q h hp hq =>
    injection hx with e1 e2; subst e1; subst e2
    obtain rfl:d = d' := by omega
    have ho := ops_level h
    show All ws (binX op p q) (tokB d p (lftP (levelP op)) ++ (opWd op :: tokB d q (levelP op + 1))) (levelP op)
    generalize hlv:levelP op = o at ho ⊢
    by_cases c3:o = 3
    · subst c3
      have a := IH p 4 (by decide) hp
      have b := IH q 4 (by decide) hq
      show All ws (binX op p q) (tokB d p 4 ++ (opWd op :: tokB d q 4)) 3
      have hn:NotHd (tokB d p 4) kNot := a.no (Nat.le_trans (by decide) (ef_ge (lvX p) 4 (by decide)))
      refine All.of_base (by decide) (fun _ => hn.app) a.star.app (fun f hf => ?_)
      simp only [List.length_append,List.length_cons,show bsP 3 = 2 from rfl] at hf ⊢
      obtain ⟨f,rfl⟩:∃ g,f = g + 1 := ⟨f - 1,by omega⟩
      refine ⟨fun z => by rcases z with z | z | z | z <;> omega,fun i rest e s => ?_⟩
      rw [List.append_assoc,List.cons_append] at e
      have h0 := hn.no e
      have h1 := (a.use (f := f) (by decide) (Nat.le_refl 4) (by decide) (by decide) (by omega)).2 i _ e (Stp.op h (by rw [hlv]; decide))
      have e1 := left_app e
      have h2 := opP_yes e1
      rw [hlv] at h2
      have e2 := (left_cons e1).2.1
      have h3 := (b.use (f := f) (by decide) (Nat.le_refl 4) (by decide) (by decide) (by omega)).2 _ _ e2 (s.mono (by decide))
      rw [binP,if_pos rfl,h0]
      simp only [Bool.false_eq_true,if_false,cmpP,h1,h2,h3]
      rw [List.length_append,List.length_cons,show i + (tokB d p 4).length + 1 + (tokB d q 4).length = i + ((tokB d p 4).length + ((tokB d q 4).length + 1)) by omega]
    · have hl:lftP o = o := by unfold lftP; rw [if_neg c3]
      have hL:isLp o := by unfold isLp; omega
      rw [hl]
      have a := IH p o (by omega) hp
      have b := IH q (o + 1) (by omega) hq
      have hb:bsP o = o := by unfold bsP; rw [if_neg (by omega),if_neg c3]
      refine All.of_base (by omega) (fun z => NotHd.app (a.no (Nat.le_trans z (ef_ge (lvX p) o (by omega))))) a.star.app (fun f hf => ?_)
      rw [hb] at hf ⊢
      simp only [List.length_append,List.length_cons] at hf
      have main:Lp ws f o (binX op p q) (tokB d p o ++ (opWd op :: tokB d q (o + 1))) := fun i rest e s => by
        rw [List.append_assoc,List.cons_append] at e
        obtain ⟨m,hm,h1⟩ := (a.use (f := f) (by omega) (Nat.le_refl o) (by omega) c3 (by omega)).1 hL i _ e (Stp.op h (by omega))
        have e1 := left_app e
        have h2 := opP_yes e1
        rw [hlv] at h2
        have e2 := (left_cons e1).2.1
        have hlen := (left_cons e1).2.2
        obtain ⟨m,rfl⟩:∃ j,m = j + 1 := ⟨m - 1,by omega⟩
        have h3 := (b.use (f := f - 1) (by omega) (Nat.le_refl (o + 1)) (by omega) (by omega) (by omega)).2 _ _ e2 s
        refine ⟨m,by simp only [List.length_append,List.length_cons]; omega,?_⟩
        rw [h1,loopP,h2]
        simp only [h3]
        rw [List.length_append,List.length_cons,show i + (tokB d p o).length + 1 + (tokB d q (o + 1)).length = i + ((tokB d p o).length + ((tokB d q (o + 1)).length + 1)) by omega]
      exact ⟨fun _ => main,lp_rd hL main⟩
  | @isn d' p h =>
    injection hx with e1 e2; subst e1; subst e2
    obtain rfl:d = d' := by omega
    have a := IH p 4 (by decide) h
    show All ws (tstX [73,83,32,78,85,76,76] p) (tokB d p 4 ++ [wIs,wNull]) 3
    have hn:NotHd (tokB d p 4) kNot := a.no (Nat.le_trans (by decide) (ef_ge (lvX p) 4 (by decide)))
    refine All.of_base (by decide) (fun _ => hn.app) a.star.app (fun f hf => ?_)
    simp only [List.length_append,List.length_cons,List.length_nil,show bsP 3 = 2 from rfl] at hf ⊢
    obtain ⟨f,rfl⟩:∃ g,f = g + 1 := ⟨f - 1,by omega⟩
    refine ⟨fun z => by rcases z with z | z | z | z <;> omega,fun i rest e s => ?_⟩
    rw [List.append_assoc,List.cons_append,List.cons_append,List.nil_append] at e
    have h0 := hn.no e
    have sIs:Stp 4 (wIs :: wNull :: rest) := fun w r e => by
      injection e with e1 e2
      exact .inr (.inr ⟨e1.symm,Nat.le_refl _⟩)
    have h1 := (a.use (f := f) (by decide) (Nat.le_refl 4) (by decide) (by decide) (by omega)).2 i _ e sIs
    have e1 := left_app e
    have h2:opP ws 3 ⟨i + (tokB d p 4).length,0⟩ = (none,⟨i + (tokB d p 4).length,0⟩) := by
      unfold opP opW
      rw [nx_cons e1,nx_cons e1,if_neg (by decide),if_pos rfl]
      rfl
    have h3:haveP ws [73,83] ⟨i + (tokB d p 4).length,0⟩ = (true,⟨i + (tokB d p 4).length + 1,0⟩) := have_yes (n := 0) e1
    have e2 := (left_cons e1).2.1
    have h4:haveP ws [78,79,84] ⟨i + (tokB d p 4).length + 1,0⟩ = (false,⟨i + (tokB d p 4).length + 1,0⟩) := have_no (fun w' r' e' => by
      rw [e2] at e'; injection e' with e1 e2; subst e1; exact .inr (by decide))
    have h5:wantP ws [[78,85,76,76]] ⟨i + (tokB d p 4).length + 1,0⟩ = ⟨i + (tokB d p 4).length + 1 + 1,0⟩ := want_yes (n := 0) e2
    rw [binP,if_pos rfl,h0]
    simp only [Bool.false_eq_true,if_false,cmpP,h1,h2,h3,h4,h5,Bool.true_eq_false]
    rw [List.length_append]
    rfl
  | @isnn d' p h =>
    injection hx with e1 e2; subst e1; subst e2
    obtain rfl:d = d' := by omega
    have a := IH p 4 (by decide) h
    show All ws (tstX [73,83,32,78,79,84,32,78,85,76,76] p) (tokB d p 4 ++ [wIs,wNot,wNull]) 3
    have hn:NotHd (tokB d p 4) kNot := a.no (Nat.le_trans (by decide) (ef_ge (lvX p) 4 (by decide)))
    refine All.of_base (by decide) (fun _ => hn.app) a.star.app (fun f hf => ?_)
    simp only [List.length_append,List.length_cons,List.length_nil,show bsP 3 = 2 from rfl] at hf ⊢
    obtain ⟨f,rfl⟩:∃ g,f = g + 1 := ⟨f - 1,by omega⟩
    refine ⟨fun z => by rcases z with z | z | z | z <;> omega,fun i rest e s => ?_⟩
    rw [List.append_assoc,List.cons_append,List.cons_append,List.cons_append,List.nil_append] at e
    have h0 := hn.no e
    have sIs:Stp 4 (wIs :: wNot :: wNull :: rest) := fun w r e => by
      injection e with e1 e2
      exact .inr (.inr ⟨e1.symm,Nat.le_refl _⟩)
    have h1 := (a.use (f := f) (by decide) (Nat.le_refl 4) (by decide) (by decide) (by omega)).2 i _ e sIs
    have e1 := left_app e
    have h2:opP ws 3 ⟨i + (tokB d p 4).length,0⟩ = (none,⟨i + (tokB d p 4).length,0⟩) := by
      unfold opP opW
      rw [nx_cons e1,nx_cons e1,if_neg (by decide),if_pos rfl]
      rfl
    have h3:haveP ws [73,83] ⟨i + (tokB d p 4).length,0⟩ = (true,⟨i + (tokB d p 4).length + 1,0⟩) := have_yes (n := 0) e1
    have e2 := (left_cons e1).2.1
    have h4:haveP ws [78,79,84] ⟨i + (tokB d p 4).length + 1,0⟩ = (true,⟨i + (tokB d p 4).length + 1 + 1,0⟩) := have_yes (n := 0) e2
    have e3 := (left_cons e2).2.1
    have h5:wantP ws [[78,85,76,76]] ⟨i + (tokB d p 4).length + 1 + 1,0⟩ = ⟨i + (tokB d p 4).length + 1 + 1 + 1,0⟩ := want_yes (n := 0) e3
    rw [binP,if_pos rfl,h0]
    simp only [Bool.false_eq_true,if_false,if_true,cmpP,h1,h2,h3,h4,h5,Bool.true_eq_false]
    rw [List.length_append]
    rfl
  | @agg d' op p h hp =>
    injection hx with e1 e2; subst e1; subst e2
    obtain rfl:d = d' := by omega
    obtain ⟨k1,k2,k3,k4,k5,k6⟩ := agg_kw h
    have a := IH p 0 (by decide) hp
    show All ws (aggX op [p]) (⟨1,op,0⟩ :: wLp :: (tokB d p 0 ++ [wRp])) 7
    refine All.of_atom (fun f hf => ?_) (.s k6) (.s k3) (.s k5)
    intro i rest e s
    simp only [List.length_append,List.length_cons,List.length_nil] at hf ⊢
    rw [List.cons_append,List.cons_append,List.append_assoc] at e
    have e1 := (left_cons e).2.1
    have e2 := (left_cons e1).2.1
    have h0:wantP ws [[40]] (adv ⟨i,0⟩) = ⟨i + 1 + 1,0⟩ := want_yes (n := 0) e1
    have h1 := a.star.no e2
    have h2 := (a.use (f := f) (by decide) (Nat.le_refl 0) (by decide) (by decide) (by omega)).2 _ _ e2 Stp.rp
    have e3 := left_app e2
    have h3:wantP ws [[41]] ⟨i + 1 + 1 + (tokB d p 0).length,0⟩ = ⟨i + 1 + 1 + (tokB d p 0).length + 1,0⟩ := want_yes (n := 0) e3
    rw [atom_word e k2,if_pos h]
    simp only [aggP,h0]
    rw [show i + ((tokB d p 0).length + (0 + 1) + 1 + 1) = i + 1 + 1 + (tokB d p 0).length + 1 by omega]
    by_cases c:op = [67,79,85,78,84]
    · rw [if_pos c,h1]
      simp only [Bool.false_eq_true,if_false,h2,h3]
    · rw [if_neg c]
      simp only [h2,h3]
  | cnt =>
    injection hx with e1 e2; subst e1; subst e2
    show All ws (aggX kCount []) [⟨1,kCount,0⟩,wLp,⟨4,[42],0⟩,wRp] 7
    refine All.of_atom (fun f hf => ?_) (.k (by decide)) (.s (by decide)) (.k (by decide))
    intro i rest e s
    simp only [List.cons_append,List.nil_append] at e
    have e1 := (left_cons e).2.1
    have e2 := (left_cons e1).2.1
    have e3 := (left_cons e2).2.1
    have h0:wantP ws [[40]] (adv ⟨i,0⟩) = ⟨i + 1 + 1,0⟩ := want_yes (n := 0) e1
    have h1:haveP ws [42] ⟨i + 1 + 1,0⟩ = (true,⟨i + 1 + 1 + 1,0⟩) := have_yes (n := 0) e2
    have h3:wantP ws [[41]] ⟨i + 1 + 1 + 1,0⟩ = ⟨i + 1 + 1 + 1 + 1,0⟩ := want_yes (n := 0) e3
    rw [atom_word e (by decide),if_pos (by decide)]
    simp only [aggP,h0,h1,h3,if_true]
    rfl
theorem all_ok {ws:List Wd}:∀ (d:Nat) (x:X) (l:Nat),l ≤ 7 → Fm d x → All ws x (tokB d x l) (efP (lvX x) l)
  | 0,x,l,hl,h => by cases h
  | d + 1,.mk n ps,l,hl,h => by
    have a:All ws (.mk n ps) (rawK (tokB d) n ps) (lvP n) := all_raw d (fun p l hl h => all_ok d p l hl h) h
    rw [tokB,wrK]
    show All ws (.mk n ps) _ (efP (lvP n) l)
    unfold efP
    split
    · exact a.paren
    · exact a
/-! ### Formed, in both ways -/
/-- Numbers fit. -/
def Vz:Nat → X → Prop
  | 0,_ => False
  | k + 1,.mk n ps => n.vn ≤ 9223372036854775807 ∧ ∀ p,p ∈ ps → Vz k p
theorem fm_of:∀ (m k:Nat) (x:X),frmB m x = true → Vz k x → Fm m x
  | 0,k,x,h,hv => by simp [frmB] at h
  | m + 1,0,x,h,hv => hv.elim
  | m + 1,k + 1,.mk n ps,h,hv => by
    obtain ⟨nk,nop,nvk,nvn,nvs,ntb,ncl⟩ := n
    have hf:(shB ⟨nk,nop,nvk,nvn,nvs,ntb,ncl⟩ ps.length && ps.all (frmB m)) = true := h
    rw [Bool.and_eq_true,List.all_eq_true] at hf
    obtain ⟨hs,hp⟩ := hf
    have sub:∀ p,p ∈ ps → Fm m p := fun p hq => fm_of m k p (hp p hq) (hv.2 p hq)
    have h1:nvn ≤ 9223372036854775807 := hv.1
    unfold shB at hs
    simp only [plainB,zeroB] at hs
    have one:ps.length = 1 → ∃ p,ps = [p] ∧ Fm m p := fun q => by
      match ps,q with
      | [p],_ => exact ⟨p,rfl,sub p (by simp)⟩
    have two:ps.length = 2 → ∃ p q,ps = [p,q] ∧ Fm m p ∧ Fm m q := fun q => by
      match ps,q with
      | [p,r],_ => exact ⟨p,r,rfl,sub p (by simp),sub r (by simp)⟩
    by_cases c1:nk = 1
    · subst c1
      simp only [if_true,Bool.and_eq_true,decide_eq_true_eq,beq_iff_eq] at hs
      obtain ⟨hl,⟨rfl,rfl⟩,rfl,hfv,h0⟩ := hs
      obtain rfl := List.eq_nil_of_length_eq_zero hl
      unfold fV at hfv
      by_cases v0:nvk = 0
      · subst v0
        simp only [if_true,Bool.and_eq_true,beq_iff_eq] at hfv
        obtain ⟨rfl,rfl⟩ := hfv
        exact .nul
      · rw [if_neg v0] at hfv
        by_cases v1:nvk = 1
        · subst v1
          simp only [if_true,beq_iff_eq] at hfv
          subst hfv
          obtain ⟨v,rfl⟩ := Int.eq_ofNat_of_zero_le h0
          exact .int (by omega)
        · rw [if_neg v1] at hfv
          by_cases v2:nvk = 2
          · subst v2
            simp only [if_true,Bool.and_eq_true,beq_iff_eq,decide_eq_true_eq] at hfv
            obtain ⟨rfl,hle⟩ := hfv
            exact .txt hle
          · rw [if_neg v2] at hfv; cases hfv
    · rw [if_neg c1] at hs
      by_cases c2:nk = 2
      · subst c2
        simp only [if_true,Bool.and_eq_true,decide_eq_true_eq,beq_iff_eq,Bool.or_eq_true] at hs
        obtain ⟨hl,⟨rfl,rfl,rfl⟩,rfl,hn,ht⟩ := hs
        obtain rfl := List.eq_nil_of_length_eq_zero hl
        exact .col hn ht
      · rw [if_neg c2] at hs
        by_cases c3:nk = 3
        · subst c3
          simp only [if_true,Bool.and_eq_true,decide_eq_true_eq,beq_iff_eq] at hs
          obtain ⟨hl,⟨rfl,rfl⟩,⟨rfl,rfl,rfl⟩,hi⟩ := hs
          obtain ⟨p,rfl,hpf⟩ := one hl
          simp only [inP,List.any_cons,List.any_nil,Bool.or_false,Bool.or_eq_true,beq_iff_eq] at hi
          rcases hi with rfl | rfl
          · exact .no hpf
          · exact .neg hpf
        · rw [if_neg c3] at hs
          by_cases c4:nk = 4
          · subst c4
            simp only [if_true,Bool.and_eq_true,decide_eq_true_eq,beq_iff_eq] at hs
            obtain ⟨hl,⟨rfl,rfl⟩,⟨rfl,rfl,rfl⟩,hi⟩ := hs
            obtain ⟨p,q,rfl,hpf,hqf⟩ := two hl
            exact .bin hi hpf hqf
          · rw [if_neg c4] at hs
            by_cases c5:nk = 5
            · subst c5
              simp only [if_true,Bool.and_eq_true,decide_eq_true_eq,beq_iff_eq] at hs
              obtain ⟨hl,⟨rfl,rfl⟩,⟨rfl,rfl,rfl⟩,hi⟩ := hs
              obtain ⟨p,rfl,hpf⟩ := one hl
              simp only [inP,List.any_cons,List.any_nil,Bool.or_false,Bool.or_eq_true,beq_iff_eq] at hi
              rcases hi with rfl | rfl
              · exact .isn hpf
              · exact .isnn hpf
            · rw [if_neg c5] at hs
              by_cases c6:nk = 6
              · subst c6
                simp only [if_true,Bool.and_eq_true,decide_eq_true_eq,beq_iff_eq,Bool.or_eq_true] at hs
                obtain ⟨⟨rfl,rfl⟩,⟨rfl,rfl,rfl⟩,hi,hl⟩ := hs
                rcases hl with hl | ⟨hl,rfl⟩
                · obtain ⟨p,rfl,hpf⟩ := one hl
                  exact .agg hi hpf
                · obtain rfl := List.eq_nil_of_length_eq_zero hl
                  exact .cnt
              · rw [if_neg c6] at hs; cases hs
/-- What the reader makes of a formed expression's words. -/
theorem expr_back {x:X} {k:Nat} (h:frmB 8 x = true) (hv:Vz k x):exprP (tokB 8 x 0) ⟨0,0⟩ = (x,⟨(tokB 8 x 0).length,0⟩) := by
  have hf := fm_of 8 k x h hv
  have a := all_ok (ws := tokB 8 x 0) 8 x 0 (by decide) hf
  have := (a.use (f := 10 * (tokB 8 x 0).length + 10) (by decide) (Nat.le_refl 0) (by decide) (by decide) (by omega)).2 0 [] (by simp) .nil
  rw [Nat.zero_add] at this
  simp only [exprP,this]
  rw [if_neg]
  rw [h]
  simp
end Go.Proofs.YtjpjeilfmjdhcaaDoor.Eb
