/- The reader of statements walked: what is dropped, turned, taken out, put in and made. No condition. -/
import Derived.Test.YtjpjeilfmjdhcaaStV
namespace Go.Proofs.Ytjpjeilfmjdhcaa.St
open Go Go.Proofs.Ytjpjeilfmjdhcaa.E
open Go.Proofs.Ytjpjeilfmjdhcaa.Ln
open Go.Proofs.Ytjpjeilfmjdhcaa.Ex
open Go.Proofs.Ytjpjeilfmjdhcaa.Pr
open Go.Proofs.Ytjpjeilfmjdhcaa.Rd
set_option maxRecDepth 100000
set_option linter.unusedVariables false
set_option linter.unusedSimpArgs false
theorem mem49 {lf:Nat} {h:List Ob} {r2 r:Nat} {wv:V} {ws:List Wd} {s:RS} (q:Pd h r2 r wv ws s):To2 (F49 lf (.ptr r 0 0) h) (PQ rStr h r2 r wv ws (nameR ws s)) := by
  refine (name49 q.rd).mono ?_
  rintro v h' ⟨rfl,d,k⟩
  exact ⟨q.up k d,k,rfl⟩
abbrev aN (k:Int) (name on:List UInt8) (un:Bool) (c2 c3 c4 c5:V):List V := aM k name on un .nils c2 c3 c4 c5 false false .nils .nils .nils .nils .nils 0
theorem buildN (h:List Ob) (k:Int) (n:List UInt8):er (.build [(.int .i64 0),(.str []),(.str []),(.bool false),.nils,.nils,.nils,.nils,.nils,(.bool false),(.bool false),.nils,.nils,.nils,.nils,.nils,(.int .i64 0)] [(0,(1,(.c (.int .i64 k)))),(1,(1,(.c (.str n))))]) h = some (.agg (aN k n [] false .nils .nils .nils .nils)) := rfl
theorem remove30 {lf:Nat} (hf:5000000 < lf) {h:List Ob} {r2 r:Nat} {wv:V} {ws:List Wd} (hsh:Short 5000 ws) {s:RS} (q:Pd h r2 r wv ws s):To2 (F30 lf (.ptr r2 0 0) h) (PQ rM h r2 r wv ws (removeP ws s)) := by
  have rlt := q.rd.lt
  obtain ⟨N,hN⟩:∃ p,p = nameR ws (wantP ws [[70,82,79,77]] s) := ⟨_,rfl⟩
  obtain ⟨W,hW⟩:∃ p,p = whereP ws N.2 := ⟨_,rfl⟩
  have hsp:removeP ws s = ({ zS with k := 9,name := N.1,wh := W.1 },W.2) := by subst hW hN; rfl
  rw [hsp]
  simp only [F30]
  refine To2.bind2 (alloc_to (cs := zM) rfl) ?_
  rintro x2 h1 ⟨rfl,sx,k1⟩
  have l1:h.length < h1.length := sx.lt
  have q1 := q.kp k1
  simp only [q1.st.nilck,q1.st.faddr,q1.at0,bind1_some]
  refine want_to (by omega) q1.rd (l := [[70,82,79,77]]) (ps := [(0,.str [70,82,79,77])]) rfl (by decide) rfl rfl fun h2 d2 k2 => ?_
  have q2 := q1.up k2 d2
  simp only [q2.st.nilck,q2.st.faddr,q2.at0,bind1_some]
  refine To2.bind2 (name49 q2.rd) ?_
  rintro v h3 ⟨rfl,d3,k3⟩
  rw [← hN] at d3 ⊢
  have q3 := q2.up k3 d3
  have k13 := Kp.rr k2 k3
  have l3 := k13.len
  simp only [castStr_str,buildN,bind1_some]
  refine putN (n := 17) (zs := zM) (ds := aN 9 N.1 [] false .nils .nils .nils .nils) rfl rfl rfl (by decide) rfl fun h4 sm k4 => ?_
  have q4 := q3.kp k4
  have l4:h3.length < h4.length := sm.lt
  refine To2.bind2 (where60 hf hsh q4) ?_
  rintro w h5 ⟨q5,k5,L5⟩
  rw [← hW] at q5 L5
  have sm5 := sm.keep k5 (fun z => by simp at z; omega)
  have l5 := k5.len
  simp only [sm5.faddr,bind1_some]
  refine To2.bind2 (sm5.store1 (j := 0 + 8) (x := w) (by simp) (LR.sc L5)) ?_
  rintro u h6 ⟨sm6,k6⟩
  have sm6':St h6 h3.length (aN 9 N.1 [] false .nils .nils .nils w) := sm6
  have q6 := Pd.apart q q5 k6 (fun j hj => by simp at hj; omega)
  have L6 := (rL 8 rEx).mono ((rL 8 rEx).keep L5 k6 (fun j hj z => by simp at hj; omega)) (J := fun j => h.length < j) (fun j _ z => by omega)
  have sx6 := (((sx.keep k13 (fun z => by simp at z; omega)).kp k4).keep k5 (fun z => by simp at z; omega)).keep k6 (fun z => by simp at z; omega)
  have k06:Kp h h6 [r] := (Kp.to k1 (Kp.rr (Kp.ro k13 k4) k5)).trans k6 (fun j hj _ => hj) (fun j hj hlt => by simp at hj; omega)
  simp only [sm6'.loadN' (n := 17) rfl,bind1_some]
  exact finP (T := rM) (n := 17) (ds := aN 9 N.1 [] false .nils .nils .nils w) (cs := zM) (x := { zS with k := 9,name := N.1,wh := W.1 }) q sx6 rfl rfl (by decide) (aM_sc rfl rfl rfl rfl (LR.sc L6).2 rfl rfl rfl rfl rfl) q6 k06
    ⟨_,_,_,_,_,_,_,_,_,_,rfl,LR.nils _ _ _ _,LR.nils _ _ _ _,LR.nils _ _ _ _,LR.nils _ _ _ _,L6,LR.nils _ _ _ _,LR.nils _ _ _ _,LR.nils _ _ _ _,LR.nils _ _ _ _,LR.nils _ _ _ _⟩
theorem update29 {lf:Nat} (hf:5000000 < lf) {h:List Ob} {r2 r:Nat} {wv:V} {ws:List Wd} (hsh:Short 5000 ws) {s:RS} (q:Pd h r2 r wv ws s):To2 (F29 lf (.ptr r2 0 0) h) (PQ rM h r2 r wv ws (updateP ws s)) := by
  have rlt := q.rd.lt
  obtain ⟨N,hN⟩:∃ p,p = nameR ws s := ⟨_,rfl⟩
  obtain ⟨A,hA⟩:∃ p,p = listP ws (assignP ws) (wantP ws [[83,69,84]] N.2) := ⟨_,rfl⟩
  obtain ⟨W,hW⟩:∃ p,p = whereP ws A.2 := ⟨_,rfl⟩
  have hsp:updateP ws s = ({ zS with k := 8,name := N.1,sets := A.1,wh := W.1 },W.2) := by subst hW hA hN; rfl
  rw [hsp]
  simp only [F29]
  refine To2.bind2 (alloc_to (cs := zM) rfl) ?_
  rintro x2 h1 ⟨rfl,sx,k1⟩
  have l1:h.length < h1.length := sx.lt
  have q1 := q.kp k1
  simp only [q1.st.nilck,q1.st.faddr,q1.at0,bind1_some]
  refine To2.bind2 (name49 q1.rd) ?_
  rintro v h3 ⟨rfl,d3,k13⟩
  rw [← hN] at d3 ⊢
  have q3 := q1.up k13 d3
  have l3 := k13.len
  simp only [castStr_str,buildN,bind1_some]
  refine putN (n := 17) (zs := zM) (ds := aN 8 N.1 [] false .nils .nils .nils .nils) rfl rfl rfl (by decide) rfl fun h4 sm k4 => ?_
  have q4 := q3.kp k4
  have l4:h3.length < h4.length := sm.lt
  simp only [q4.st.nilck,q4.st.faddr,q4.at0,bind1_some]
  refine want_to (by omega) q4.rd (l := [[83,69,84]]) (ps := [(0,.str [83,69,84])]) rfl (by decide) rfl rfl fun h5 d5 k5 => ?_
  have q5 := q4.up k5 d5
  have sm5 := sm.keep k5 (fun z => by simp at z; omega)
  have l5 := k5.len
  refine To2.bind2 (list58 (m := assignP ws) (by omega) (assignP_mono ws) q5 (fun h' s' d k => show To2 (F59 lf (.ptr r2 0 0) h') _ from assign59 hf hsh d)) ?_
  rintro a h6 ⟨q6,k6,L6⟩
  rw [← hA] at q6 L6
  have sm6 := sm5.keep k6 (fun z => by simp at z; omega)
  have l6 := k6.len
  simp only [sm6.faddr,bind1_some]
  refine To2.bind2 (sm6.store1 (j := 0 + 7) (x := a) (by simp) (LR.sc L6)) ?_
  rintro u h7 ⟨sm7,k7⟩
  have q7 := Pd.apart q q6 k7 (fun j hj => by simp at hj; omega)
  have L7 := (rL 9 rAs).keep L6 k7 (fun j hj z => by simp at hj; omega)
  have l7 := k7.len
  refine To2.bind2 (where60 hf hsh q7) ?_
  rintro w h8 ⟨q8,k8,L8⟩
  rw [← hW] at q8 L8
  have sm8 := sm7.keep k8 (fun z => by simp at z; omega)
  have La8 := (rL 9 rAs).keep L7 k8 (fun j hj z => by simp at hj; omega)
  have l8 := k8.len
  simp only [sm8.faddr,bind1_some]
  refine To2.bind2 (sm8.store1 (j := 0 + 8) (x := w) (by simp) (LR.sc L8)) ?_
  rintro u h9 ⟨sm9,k9⟩
  have sm9':St h9 h3.length (aN 8 N.1 [] false .nils .nils a w) := sm9
  have q9 := Pd.apart q q8 k9 (fun j hj => by simp at hj; omega)
  have Lw9 := (rL 8 rEx).mono ((rL 8 rEx).keep L8 k9 (fun j hj z => by simp at hj; omega)) (J := fun j => h.length < j) (fun j _ z => by omega)
  have La9 := (rL 9 rAs).mono ((rL 9 rAs).keep La8 k9 (fun j hj z => by simp at hj; omega)) (J := fun j => h.length < j) (fun j _ z => by omega)
  have kq:Kp h4 h9 [r,h3.length] := by
    have a1:Kp h4 h6 [r,h3.length] := (Kp.rr k5 k6).mono (fun j hj _ => by simp at hj; simp [hj])
    have a2:Kp h6 h7 [r,h3.length] := k7.mono (fun j hj _ => by simp at hj; simp [hj])
    have a3:Kp h7 h8 [r,h3.length] := k8.mono (fun j hj _ => by simp at hj; simp [hj])
    have a4:Kp h8 h9 [r,h3.length] := k9.mono (fun j hj _ => by simp at hj; simp [hj])
    exact Kp.rr (Kp.rr a1 a2) (Kp.rr a3 a4)
  have sx9 := ((sx.keep k13 (fun z => by simp at z; omega)).kp k4).keep kq (fun z => by simp at z; omega)
  have k09:Kp h h9 [r] := (Kp.to k1 (Kp.ro k13 k4)).trans kq (fun j hj _ => hj) (fun j hj hlt => by simp at hj; rcases hj with rfl | rfl; simp; omega)
  simp only [sm9'.loadN' (n := 17) rfl,bind1_some]
  exact finP (T := rM) (n := 17) (ds := aN 8 N.1 [] false .nils .nils a w) (cs := zM) (x := { zS with k := 8,name := N.1,sets := A.1,wh := W.1 }) q sx9 rfl rfl (by decide) (aM_sc rfl rfl rfl (LR.sc La9).2 (LR.sc Lw9).2 rfl rfl rfl rfl rfl) q9 k09
    ⟨_,_,_,_,_,_,_,_,_,_,rfl,LR.nils _ _ _ _,LR.nils _ _ _ _,LR.nils _ _ _ _,La9,Lw9,LR.nils _ _ _ _,LR.nils _ _ _ _,LR.nils _ _ _ _,LR.nils _ _ _ _,LR.nils _ _ _ _⟩
theorem row55 {lf:Nat} (hf:5000000 < lf) {h:List Ob} {r2 r id:Nat} {wv:V} {ws:List Wd} (hsh:Short 5000 ws) {s:RS} (q:Pd h r2 r wv ws s) (sc:Sc h id (.ptr r2 0 0)):To2 (F55 lf (.ptr id 0 0) h) (PQ (rL 8 rEx) h r2 r wv ws (groupP ws (exprP ws) s)) := by
  simp only [F55,sc.load1 rfl,bind1_some,q.st.nilck,q.st.faddr,q.at0]
  refine To2.bind2 (group56 (m := exprP ws) (by omega) (exprP_mono ws) q (fun h' s' d k => show To2 (F57 lf (.ptr r 0 0) h') _ from mem57 hf hsh d)) ?_
  rintro v h' p
  exact To2.some p
theorem insert28 {lf:Nat} (hf:5000000 < lf) {h:List Ob} {r2 r:Nat} {wv:V} {ws:List Wd} (hsh:Short 5000 ws) {s:RS} (q:Pd h r2 r wv ws s):To2 (F28 lf (.ptr r2 0 0) h) (PQ rM h r2 r wv ws (insertP ws s)) := by
  have rlt := q.rd.lt
  obtain ⟨N,hN⟩:∃ p,p = nameR ws (wantP ws [[73,78,84,79]] s) := ⟨_,rfl⟩
  obtain ⟨A,hA⟩:∃ p,p = listP ws (groupP ws (exprP ws)) (wantP ws [[86,65,76,85,69,83]] N.2) := ⟨_,rfl⟩
  have hsp:insertP ws s = ({ zS with k := 7,name := N.1,rows := A.1 },A.2) := by subst hA hN; rfl
  rw [hsp]
  simp only [F28]
  refine To2.bind2 (scbox_to (v := .ptr r2 0 0) rfl) ?_
  rintro x1 g1 ⟨rfl,sb,kb⟩
  have qb := q.kp kb
  have lb:h.length < g1.length := sb.lt
  refine To2.bind2 (alloc_to (cs := zM) rfl) ?_
  rintro x2 h1 ⟨rfl,sx,k1⟩
  have l1:g1.length < h1.length := sx.lt
  have q1 := qb.kp k1
  have sb1 := sb.kp k1
  have kb1 := kb.tr k1
  simp only [sb1.load1 rfl,q1.st.nilck,q1.st.faddr,q1.at0,bind1_some]
  refine want_to (by omega) q1.rd (l := [[73,78,84,79]]) (ps := [(0,.str [73,78,84,79])]) rfl (by decide) rfl rfl fun h2 d2 k2 => ?_
  have q2 := q1.up k2 d2
  have sb2 := sb1.keep k2 (fun z => by simp at z; omega)
  simp only [sb2.load1 rfl,q2.st.nilck,q2.st.faddr,q2.at0,bind1_some]
  refine To2.bind2 (name49 q2.rd) ?_
  rintro v h3 ⟨rfl,d3,k3⟩
  rw [← hN] at d3 ⊢
  have q3 := q2.up k3 d3
  have sb3 := sb2.keep k3 (fun z => by simp at z; omega)
  have k13 := Kp.rr k2 k3
  have l3 := k13.len
  simp only [castStr_str,buildN,bind1_some]
  refine putN (n := 17) (zs := zM) (ds := aN 7 N.1 [] false .nils .nils .nils .nils) rfl rfl rfl (by decide) rfl fun h4 sm k4 => ?_
  have q4 := q3.kp k4
  have sb4 := sb3.kp k4
  have l4:h3.length < h4.length := sm.lt
  simp only [sb4.load1 rfl,q4.st.nilck,q4.st.faddr,q4.at0,bind1_some]
  refine want_to (by omega) q4.rd (l := [[86,65,76,85,69,83]]) (ps := [(0,.str [86,65,76,85,69,83])]) rfl (by decide) rfl rfl fun h5 d5 k5 => ?_
  have q5 := q4.up k5 d5
  have sm5 := sm.keep k5 (fun z => by simp at z; omega)
  have sb5 := sb4.keep k5 (fun z => by simp at z; omega)
  have l5 := k5.len
  simp only [sb5.load1 rfl,bind1_some]
  refine To2.bind2 (list54 (m := groupP ws (exprP ws)) (by omega) (groupP_mono (exprP_mono ws)) q5 (fun h' s' d k => show To2 (F55 lf (.ptr h.length 0 0) h') _ from row55 hf hsh d (sb5.keep k (fun z => by simp at z; omega)))) ?_
  rintro a h6 ⟨q6,k6,L6⟩
  rw [← hA] at q6 L6
  have sm6 := sm5.keep k6 (fun z => by simp at z; omega)
  have l6 := k6.len
  simp only [sm6.faddr,bind1_some]
  refine To2.bind2 (sm6.store1 (j := 0 + 6) (x := a) (by simp) (LR.sc L6)) ?_
  rintro u h7 ⟨sm7,k7⟩
  have sm7':St h7 h3.length (aN 7 N.1 [] false .nils a .nils .nils) := sm7
  have q7 := Pd.apart q q6 k7 (fun j hj => by simp at hj; omega)
  have L7 := (rL 1 (rL 8 rEx)).mono ((rL 1 (rL 8 rEx)).keep L6 k7 (fun j hj z => by simp at hj; omega)) (J := fun j => g1.length < j) (fun j _ z => by omega)
  have sx7 := (((sx.keep k13 (fun z => by simp at z; omega)).kp k4).keep (Kp.rr k5 k6) (fun z => by simp at z; omega)).keep k7 (fun z => by simp at z; omega)
  have k17:Kp g1 h7 [r] := (Kp.to k1 (Kp.rr (Kp.ro k13 k4) (Kp.rr k5 k6))).trans k7 (fun j hj _ => hj) (fun j hj hlt => by simp at hj; omega)
  simp only [sm7'.loadN' (n := 17) rfl,bind1_some]
  refine (finP (T := rM) (n := 17) (ds := aN 7 N.1 [] false .nils a .nils .nils) (cs := zM) (x := { zS with k := 7,name := N.1,rows := A.1 }) qb sx7 rfl rfl (by decide) (aM_sc rfl rfl (LR.sc L7).2 rfl rfl rfl rfl rfl rfl rfl) q7 k17
    ⟨_,_,_,_,_,_,_,_,_,_,rfl,LR.nils _ _ _ _,LR.nils _ _ _ _,L7,LR.nils _ _ _ _,LR.nils _ _ _ _,LR.nils _ _ _ _,LR.nils _ _ _ _,LR.nils _ _ _ _,LR.nils _ _ _ _,LR.nils _ _ _ _⟩).mono ?_
  rintro v g ⟨p1,p2,p3⟩
  exact ⟨p1,Kp.to kb p2,rM.mono p3 (fun j _ z => by omega)⟩
theorem drop27L {lf:Nat} (hf:10 < lf) {h h0:List Ob} {r2 r x2:Nat} {wv lv:V} {ws:List Wd} {s s0:RS} (q0:Pd h0 r2 r wv ws s0) (hx:h0.length ≤ x2) (q:Pd h r2 r wv ws s) (sl:Sl 1 h lv (strs [[84,65,66,76,69],[73,78,68,69,88]])) (hlv:∀ j,j ∈ idsOf lv → j ≠ r) (sx:St h x2 zM) :
    To3 (L27_0 lf lf (.ptr r2 0 0) (.ptr x2 0 0) lv 2 0 h) fun x vs h' => vs = [] ∧ Kp h h' [r,x2] ∧
      ((x = .ret ∧ ∃ k n t,dropP ws s = ({ zS with k := k,name := n },t) ∧ St h' x2 (aN k n [] false .nils .nils .nils .nils) ∧ Pd h' r2 r wv ws t) ∨
       (x = .exit 0 ∧ ∃ t,dropP ws s = ({ zS with k := 6,name := (nameR ws (wantP ws [[86,73,69,87]] t)).1 },(nameR ws (wantP ws [[86,73,69,87]] t)).2) ∧ Pd h' r2 r wv ws t ∧ St h' x2 zM)) := by
  have rlt := q0.rd.lt
  have one:∀ {g g':List Ob},Kp g g' [r] → Kp g g' [r,x2] := fun k => k.mono (fun j hj _ => by simp at hj; simp [hj])
  have two:∀ {g g':List Ob},Kp g g' [x2] → Kp g g' [r,x2] := fun k => k.mono (fun j hj _ => by simp at hj; simp [hj])
  obtain ⟨g,rfl⟩:∃ g,lf = g + 3 := ⟨lf - 3,by omega⟩
  have d1:decide ((0:Int) < 2) = true := rfl
  have d2:decide ((1:Int) < 2) = true := rfl
  have d3:decide ((2:Int) < 2) = false := rfl
  have w1:IntKind.i64.wrap ((0:Int) + 1) = 1 := by decide
  have w2:IntKind.i64.wrap ((1:Int) + 1) = 2 := by decide
  have w4:IntKind.i64.wrap ((4:Int) + 0) = 4 := by decide
  have w5:IntKind.i64.wrap ((4:Int) + 1) = 5 := by decide
  obtain ⟨a,a1,a2⟩ := sl.at1 (k := 0) (e := .str [84,65,66,76,69]) (by decide) rfl rfl
  obtain ⟨A,hA⟩:∃ p,p = haveP ws [84,65,66,76,69] s := ⟨_,rfl⟩
  obtain ⟨v1,h1,e1,rfl,r1,k1⟩ := have10 (lf := g + 3) [84,65,66,76,69] q.rd
  rw [← hA] at e1 r1
  have q1 := q.up k1 r1
  have sx1 := sx.keep k1 (fun z => by simp at z; omega)
  simp only [L27_0,B27_0,d1,cB_true,a1,a2,bind1_some,castStr_str,q.st.nilck,q.st.faddr,q.at0,e1,bind2_some,castBool_bool]
  cases hp:A.1 with
  | true =>
    obtain ⟨v2,h2,e2,rfl,r2',k2⟩ := name49 (lf := g + 3) q1.rd
    have q2 := q1.up k2 r2'
    have sx2 := sx1.keep k2 (fun z => by simp at z; omega)
    simp only [cB_true,q1.st.nilck,q1.st.faddr,q1.at0,bind1_some,e2,bind2_some,castStr_str,w4,buildN]
    refine To3.bind2 (sx2.storeN (ds := aN 4 (nameR ws A.2).1 [] false .nils .nils .nils .nils) rfl (by simp) rfl (n := 17) rfl) ?_
    rintro u h3 ⟨sx3,k3⟩
    refine To3.some ⟨rfl,Kp.rr (one (Kp.rr k1 k2)) (two k3),.inl ⟨rfl,4,(nameR ws A.2).1,(nameR ws A.2).2,?_,sx3,Pd.apart q0 q2 k3 (fun j hj => by simp at hj; omega)⟩⟩
    simp only [dropP,← hA,hp,if_true]
  | false =>
    obtain ⟨B,hB⟩:∃ p,p = haveP ws [73,78,68,69,88] A.2 := ⟨_,rfl⟩
    have sl1 := sl.keep k1 (fun j hj z => hlv j hj (by simpa using z))
    obtain ⟨b,b1,b2⟩ := sl1.at1 (k := 1) (e := .str [73,78,68,69,88]) (by decide) rfl rfl
    obtain ⟨v2,h2,e2,rfl,r2',k2⟩ := have10 (lf := g + 3) [73,78,68,69,88] q1.rd
    rw [← hB] at e2 r2'
    have q2 := q1.up k2 r2'
    have sx2 := sx1.keep k2 (fun z => by simp at z; omega)
    simp only [cB_false,w1,d2,cB_true,b1,b2,bind1_some,castStr_str,q1.st.nilck,q1.st.faddr,q1.at0,e2,bind2_some,castBool_bool]
    cases hp2:B.1 with
    | true =>
      obtain ⟨v3,h3,e3,rfl,r3,k3⟩ := name49 (lf := g + 3) q2.rd
      have q3 := q2.up k3 r3
      have sx3 := sx2.keep k3 (fun z => by simp at z; omega)
      simp only [cB_true,q2.st.nilck,q2.st.faddr,q2.at0,bind1_some,e3,bind2_some,castStr_str,w5,buildN]
      refine To3.bind2 (sx3.storeN (ds := aN 5 (nameR ws B.2).1 [] false .nils .nils .nils .nils) rfl (by simp) rfl (n := 17) rfl) ?_
      rintro u h4 ⟨sx4,k4⟩
      refine To3.some ⟨rfl,Kp.rr (one (Kp.rr (Kp.rr k1 k2) k3)) (two k4),.inl ⟨rfl,5,(nameR ws B.2).1,(nameR ws B.2).2,?_,sx4,Pd.apart q0 q3 k4 (fun j hj => by simp at hj; omega)⟩⟩
      simp only [dropP,← hA,hp,Bool.false_eq_true,if_false,← hB,hp2,if_true]
    | false =>
      simp only [cB_false,w2,d3]
      refine To3.some ⟨rfl,one (Kp.rr k1 k2),.inr ⟨rfl,B.2,?_,q2,sx2⟩⟩
      simp only [dropP,← hA,hp,Bool.false_eq_true,if_false,← hB,hp2]
theorem drop27 {lf:Nat} (hf:1000 < lf) {h:List Ob} {r2 r:Nat} {wv:V} {ws:List Wd} {s:RS} (q:Pd h r2 r wv ws s):To2 (F27 lf (.ptr r2 0 0) h) (PQ rM h r2 r wv ws (dropP ws s)) := by
  have rlt := q.rd.lt
  simp only [F27]
  refine To2.bind2 (alloc_to (cs := zM) rfl) ?_
  rintro x2 h1 ⟨rfl,sx,k1⟩
  have l1:h.length < h1.length := sx.lt
  have q1 := q.kp k1
  refine To2.bind2 (bslice_to (sz := 1) (z := .str []) (ps := [(0,.str [84,65,66,76,69]),(1,.str [73,78,68,69,88])]) (es := strs [[84,65,66,76,69],[73,78,68,69,88]]) (len := 2) (by decide) (by decide) rfl rfl) ?_
  rintro lv h2 ⟨-,-,sl,-,k2,fl⟩
  have q2 := q1.kp k2
  have e2:((strs [[84,65,66,76,69],[73,78,68,69,88]]).length:Int) = 2 := rfl
  simp only [er_lenL sl,bind1_some,castInt_int,e2]
  have k12 := k1.tr k2
  refine To2.bind3 (drop27L (by omega) q (Nat.le_refl _) q2 sl (fun j hj z => by have := fl j hj; omega) (sx.kp k2)) ?_
  rintro x vs h3 ⟨rfl,k3,⟨rfl,kd,n,t,hd,sx3,q3⟩ | ⟨rfl,t,hd,q3,sx3⟩⟩
  · have dn:decide (EX.ret = EX.exit 0) = false := rfl
    simp only [dn,cB_false,decide_true,cB_true,castNil_nil,show evLoadN h3 17 (.ptr h.length 0 0) = some (.agg (aN kd n [] false .nils .nils .nils .nils)) from sx3.loadN,bind1_some]
    rw [hd]
    exact To2.some ⟨q3,k12.trans k3 (fun j hj => by cases hj) (fun j hj hlt => by simp at hj; rcases hj with rfl | rfl; simp; omega),rM0 (on := []) (un := false)⟩
  · have k03:Kp h h3 [r] := k12.trans k3 (fun j hj => by cases hj) (fun j hj hlt => by simp at hj; rcases hj with rfl | rfl; simp; omega)
    simp only [decide_true,cB_true,castNil_nil,q3.st.nilck,q3.st.faddr,q3.at0,bind1_some]
    refine want_to (by omega) q3.rd (l := [[86,73,69,87]]) (ps := [(0,.str [86,73,69,87])]) rfl (by decide) rfl rfl fun h4 d4 k4 => ?_
    have q4 := q3.up k4 d4
    have sx4 := sx3.keep k4 (fun z => by simp at z; omega)
    simp only [q4.st.nilck,q4.st.faddr,q4.at0,bind1_some]
    refine To2.bind2 (name49 q4.rd) ?_
    rintro v h5 ⟨rfl,d5,k5⟩
    have sx5 := sx4.keep k5 (fun z => by simp at z; omega)
    simp only [castStr_str,buildN,bind1_some]
    rw [hd]
    exact finP (T := rM) (n := 17) (ds := aN 6 _ [] false .nils .nils .nils .nils) (cs := zM) q sx5 rfl rfl (by decide) rfl (q4.up k5 d5) (Kp.rr (Kp.rr k03 k4) k5) (rM0 (on := []) (un := false))
end Go.Proofs.Ytjpjeilfmjdhcaa.St
