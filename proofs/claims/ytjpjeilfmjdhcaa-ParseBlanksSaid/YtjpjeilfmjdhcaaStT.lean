/- The reader of statements walked: a query. No condition. -/
import Derived.Test.YtjpjeilfmjdhcaaStS
import Derived.Test.YtjpjeilfmjdhcaaPrV
namespace Go.Proofs.Ytjpjeilfmjdhcaa.St
open Go Go.Proofs.Ytjpjeilfmjdhcaa.E
open Go.Proofs.Ytjpjeilfmjdhcaa.Ln
open Go.Proofs.Ytjpjeilfmjdhcaa.Ex
open Go.Proofs.Ytjpjeilfmjdhcaa.Pr
open Go.Proofs.Ytjpjeilfmjdhcaa.Rd
set_option maxRecDepth 100000
set_option linter.unusedVariables false
set_option linter.unusedSimpArgs false
def rQ:RR Qy where
  R := fun I h v q => ∃ a b c d e,v = .agg (aQ q.dis q.star a b c d e q.lim) ∧ LR 9 rIt I h a q.items ∧ LR 10 rSr I h b q.srcs ∧ LR 8 rEx I h c q.wh ∧ LR 8 rEx I h d q.gr ∧ LR 9 rOd I h e q.od
  keep := by
    rintro I h h' v x A ⟨a,b,c,d,e,rfl,t1,t2,t3,t4,t5⟩ k dd
    exact ⟨a,b,c,d,e,rfl,(rL 9 rIt).keep t1 k dd,(rL 10 rSr).keep t2 k dd,(rL 8 rEx).keep t3 k dd,(rL 8 rEx).keep t4 k dd,(rL 9 rOd).keep t5 k dd⟩
  mono := by
    rintro I J h v x ⟨a,b,c,d,e,rfl,t1,t2,t3,t4,t5⟩ dd
    exact ⟨a,b,c,d,e,rfl,(rL 9 rIt).mono t1 dd,(rL 10 rSr).mono t2 dd,(rL 8 rEx).mono t3 dd,(rL 8 rEx).mono t4 dd,(rL 9 rOd).mono t5 dd⟩
/-- An expression as a member. -/
theorem mem57 {lf:Nat} (hf:5000000 < lf) {h:List Ob} {r2 r:Nat} {wv:V} {ws:List Wd} (hsh:Short 5000 ws) {s:RS} (q:Pd h r2 r wv ws s):To2 (F57 lf (.ptr r 0 0) h) (PQ rEx h r2 r wv ws (exprP ws s)) := by
  refine (expr57 hf hsh q.rd).mono ?_
  rintro v h' ⟨d,k,n,pv,ps,hx,rfl,e⟩
  exact ⟨q.up k d,k,n,pv,ps,hx,rfl,e⟩
theorem aQ_sc {dis star:Bool} {a b c d e:V} {lim:Int} (ha:a.scalar = true) (hb:b.scalar = true) (hc:c.scalar = true) (hd:d.scalar = true) (he:e.scalar = true):(aQ dis star a b c d e lim).all V.scalar = true := by
  simp only [List.all_cons,List.all_nil,ha,hb,hc,hd,he]; rfl
/-- Is all told, or what? -/
theorem star31 {lf:Nat} (hf:5000000 < lf) {h:List Ob} {r2 r qd:Nat} {wv:V} {ws:List Wd} (hsh:Short 5000 ws) {s:RS} {dis:Bool} {H0:List Ob} {s0:RS} (q0:Pd H0 r2 r wv ws s0) (hqd:H0.length ≤ qd) (q:Pd h r2 r wv ws s) (sq:St h qd (aQ dis false .nils .nils .nils .nils .nils (-1))) (hl:qd < h.length) (hH:H0.length ≤ h.length) :
    To3 (S31_3 lf (.ptr r2 0 0) (.ptr qd 0 0) h) fun x vs h' => x = .normal ∧ vs = [] ∧ ∃ it,St h' qd (aQ dis (haveP ws [42] s).1 it .nils .nils .nils .nils (-1)) ∧ LR 9 rIt (fun j => qd < j) h' it (itemsP ws (haveP ws [42] s).1 (haveP ws [42] s).2).1 ∧ Pd h' r2 r wv ws (itemsP ws (haveP ws [42] s).1 (haveP ws [42] s).2).2 ∧ Kp h h' [r,qd] := by
  have rlt := q0.rd.lt
  have one:∀ {g g':List Ob},Kp g g' [r] → Kp g g' [r,qd] := fun k => k.mono (fun j hj _ => by simp at hj; simp [hj])
  have two:∀ {g g':List Ob},Kp g g' [qd] → Kp g g' [r,qd] := fun k => k.mono (fun j hj _ => by simp at hj; simp [hj])
  simp only [S31_3,q.st.nilck,q.st.faddr,q.at0,bind1_some]
  refine To3.bind2 (have10 [42] q.rd) ?_
  rintro v h1 ⟨rfl,d1,k1⟩
  have q1 := q.up k1 d1
  have sq1 := sq.keep k1 (fun z => by simp at z; omega)
  simp only [castBool_bool,sq1.faddr,bind1_some]
  refine To3.bind2 (sq1.store1 (j := 0 + 1) (x := .bool (haveP ws [42] s).1) (by simp) ⟨rfl,rfl⟩) ?_
  rintro u h2 ⟨sq2,k2⟩
  have sq2':St h2 qd (aQ dis (haveP ws [42] s).1 .nils .nils .nils .nils .nils (-1)) := sq2
  have q2 := Pd.apart q0 q1 k2 (fun j hj => by simp at hj; omega)
  have k02:Kp h h2 [r,qd] := (one k1).trans (two k2) (fun j hj _ => hj) (fun j hj _ => hj)
  simp only [sq2'.faddr,sq2'.load1 (j := 0 + 1) (c := .bool (haveP ws [42] s).1) rfl,bind1_some,castBool_bool]
  generalize (haveP ws [42] s).2 = s1 at q2
  cases hp:(haveP ws [42] s).1 with
  | true =>
    rw [hp] at sq2'
    simp only [Bool.not_true,cB_false]
    exact To3.some ⟨rfl,rfl,.nils,sq2',LR.nils _ _ _ _,q2,k02⟩
  | false =>
    rw [hp] at sq2'
    simp only [Bool.not_false,cB_true]
    have l2 := k02.len
    refine To3.bind2 (list61 (m := itemP ws) (by omega) (itemP_mono ws) q2 (fun h' s' d k => show To2 (F62 lf (.ptr r2 0 0) h') _ from item62 hf hsh d)) ?_
    rintro v h3 ⟨q3,k3,L3⟩
    have sq3 := sq2'.keep k3 (fun z => by simp at z; omega)
    simp only [sq3.faddr,bind1_some]
    refine To3.bind2 (sq3.store1 (j := 0 + 2) (x := v) (by simp) (LR.sc L3)) ?_
    rintro u h4 ⟨sq4,k4⟩
    refine To3.some ⟨rfl,rfl,v,sq4,?_,Pd.apart q0 q3 k4 (fun j hj => by simp at hj; omega),(k02.trans (one k3) (fun j hj _ => hj) (fun j hj _ => hj)).trans (two k4) (fun j hj _ => hj) (fun j hj _ => hj)⟩
    exact (rL 9 rIt).mono ((rL 9 rIt).keep L3 k4 (fun j hj z => by simp at hj; omega)) (fun j _ z => by omega)
theorem group31 {lf:Nat} (hf:5000000 < lf) {h:List Ob} {r2 r qd:Nat} {wv:V} {ws:List Wd} (hsh:Short 5000 ws) {s:RS} {dis star:Bool} {a b c:V} {lim:Int} {H0:List Ob} {s0:RS} (q0:Pd H0 r2 r wv ws s0) (hqd:H0.length ≤ qd) (q:Pd h r2 r wv ws s) (sq:St h qd (aQ dis star a b c .nils .nils lim)) (hl:qd < h.length) :
    To3 (S31_2 lf (.ptr r2 0 0) (.ptr qd 0 0) h) fun x vs h' => x = .normal ∧ vs = [] ∧ ∃ it,St h' qd (aQ dis star a b c it .nils lim) ∧ LR 8 rEx (fun j => qd < j) h' it (groupByP ws s).1 ∧ Pd h' r2 r wv ws (groupByP ws s).2 ∧ Kp h h' [r,qd] := by
  have rlt := q0.rd.lt
  have one:∀ {g g':List Ob},Kp g g' [r] → Kp g g' [r,qd] := fun k => k.mono (fun j hj _ => by simp at hj; simp [hj])
  have two:∀ {g g':List Ob},Kp g g' [qd] → Kp g g' [r,qd] := fun k => k.mono (fun j hj _ => by simp at hj; simp [hj])
  simp only [S31_2,q.st.nilck,q.st.faddr,q.at0,bind1_some]
  refine To3.bind2 (have10 [71,82,79,85,80] q.rd) ?_
  rintro v h1 ⟨rfl,d1,k1⟩
  have q1 := q.up k1 d1
  have sq1 := sq.keep k1 (fun z => by simp at z; omega)
  have l1 := k1.len
  simp only [castBool_bool,groupByP]
  cases hp:(haveP ws [71,82,79,85,80] s).1 with
  | false =>
    simp only [cB_false,Bool.false_eq_true,if_false]
    exact To3.some ⟨rfl,rfl,.nils,sq1,LR.nils _ _ _ _,q1,one k1⟩
  | true =>
    simp only [cB_true,if_true,q1.st.nilck,q1.st.faddr,q1.at0,bind1_some]
    obtain ⟨x47,h5,ev5,r5⟩ := bslice_to (h := h1) (sz := 1) (z := .str []) (ps := [(0,.str [66,89])]) (es := strs [[66,89]]) (len := 1) (by decide) (by decide) rfl rfl
    obtain ⟨-,-,sl5,-,k5,f5⟩ := r5
    simp only [List.map_cons,List.map_nil] at ev5
    have q5 := q1.kp k5
    obtain ⟨x',vs',h6,ev6,rfl,rfl,d6,k6⟩ := want52L lf sl5 (fun j hj z => by have := f5 j hj; have := q1.rd.lt; omega) (by decide) 1 0 lf h5 (haveP ws [71,82,79,85,80] s).2 rfl (by omega) (Kp.refl _ _) q5.rd
    have ew:F52 lf (.ptr r 0 0) x47 h5 = some (.tup [],h6) := by
      have e1:((strs [[66,89]]).length:Int) = ((1:Nat):Int) := rfl
      simp only [F52,er_lenL sl5,bind1_some,castInt_int,e1]
      have e2:L52_0 lf lf (.ptr r 0 0) x47 ((1:Nat):Int) 0 h5 = some (.exit 0,[],h6) := ev6
      simp only [e2,bind3_some,decide_true,cB_true,castNil_nil]
    have d6':Rd h6 r wv ws (wantP ws [[66,89]] (haveP ws [71,82,79,85,80] s).2) := d6
    have q6 := q5.up k6 d6'
    have sq6 := (sq1.kp k5).keep k6 (fun z => by simp at z; omega)
    have k16:Kp h h6 [r] := Kp.rr (Kp.ro k1 k5) k6
    have l6 := k16.len
    simp only [ev5,bind2_some,ew,q6.st.nilck,q6.st.faddr,q6.at0,bind1_some]
    refine To3.bind2 (list64 (m := exprP ws) (by omega) (exprP_mono ws) q6 (fun h' s' d k => show To2 (F57 lf (.ptr r 0 0) h') _ from mem57 hf hsh d)) ?_
    rintro v h7 ⟨q7,k7,L7⟩
    have sq7 := sq6.keep k7 (fun z => by simp at z; omega)
    simp only [sq7.faddr,bind1_some]
    refine To3.bind2 (sq7.store1 (j := 0 + 5) (x := v) (by simp) (LR.sc L7)) ?_
    rintro u h8 ⟨sq8,k8⟩
    refine To3.some ⟨rfl,rfl,v,sq8,?_,Pd.apart q0 q7 k8 (fun j hj => by simp at hj; omega),(one (Kp.rr k16 k7)).trans (two k8) (fun j hj _ => hj) (fun j hj _ => hj)⟩
    exact (rL 8 rEx).mono ((rL 8 rEx).keep L7 k8 (fun j hj z => by simp at hj; omega)) (fun j _ z => by omega)
theorem order31 {lf:Nat} (hf:5000000 < lf) {h:List Ob} {r2 r qd:Nat} {wv:V} {ws:List Wd} (hsh:Short 5000 ws) {s:RS} {dis star:Bool} {a b c d:V} {lim:Int} {H0:List Ob} {s0:RS} (q0:Pd H0 r2 r wv ws s0) (hqd:H0.length ≤ qd) (q:Pd h r2 r wv ws s) (sq:St h qd (aQ dis star a b c d .nils lim)) (hl:qd < h.length) :
    To3 (S31_1 lf (.ptr r2 0 0) (.ptr qd 0 0) h) fun x vs h' => x = .normal ∧ vs = [] ∧ ∃ it,St h' qd (aQ dis star a b c d it lim) ∧ LR 9 rOd (fun j => qd < j) h' it (orderByP ws s).1 ∧ Pd h' r2 r wv ws (orderByP ws s).2 ∧ Kp h h' [r,qd] := by
  have rlt := q0.rd.lt
  have one:∀ {g g':List Ob},Kp g g' [r] → Kp g g' [r,qd] := fun k => k.mono (fun j hj _ => by simp at hj; simp [hj])
  have two:∀ {g g':List Ob},Kp g g' [qd] → Kp g g' [r,qd] := fun k => k.mono (fun j hj _ => by simp at hj; simp [hj])
  simp only [S31_1,q.st.nilck,q.st.faddr,q.at0,bind1_some]
  refine To3.bind2 (have10 [79,82,68,69,82] q.rd) ?_
  rintro v h1 ⟨rfl,d1,k1⟩
  have q1 := q.up k1 d1
  have sq1 := sq.keep k1 (fun z => by simp at z; omega)
  have l1 := k1.len
  simp only [castBool_bool,orderByP]
  cases hp:(haveP ws [79,82,68,69,82] s).1 with
  | false =>
    simp only [cB_false,Bool.false_eq_true,if_false]
    exact To3.some ⟨rfl,rfl,.nils,sq1,LR.nils _ _ _ _,q1,one k1⟩
  | true =>
    simp only [cB_true,if_true,q1.st.nilck,q1.st.faddr,q1.at0,bind1_some]
    obtain ⟨x47,h5,ev5,r5⟩ := bslice_to (h := h1) (sz := 1) (z := .str []) (ps := [(0,.str [66,89])]) (es := strs [[66,89]]) (len := 1) (by decide) (by decide) rfl rfl
    obtain ⟨-,-,sl5,-,k5,f5⟩ := r5
    simp only [List.map_cons,List.map_nil] at ev5
    have q5 := q1.kp k5
    obtain ⟨x',vs',h6,ev6,rfl,rfl,d6,k6⟩ := want52L lf sl5 (fun j hj z => by have := f5 j hj; have := q1.rd.lt; omega) (by decide) 1 0 lf h5 (haveP ws [79,82,68,69,82] s).2 rfl (by omega) (Kp.refl _ _) q5.rd
    have ew:F52 lf (.ptr r 0 0) x47 h5 = some (.tup [],h6) := by
      have e1:((strs [[66,89]]).length:Int) = ((1:Nat):Int) := rfl
      simp only [F52,er_lenL sl5,bind1_some,castInt_int,e1]
      have e2:L52_0 lf lf (.ptr r 0 0) x47 ((1:Nat):Int) 0 h5 = some (.exit 0,[],h6) := ev6
      simp only [e2,bind3_some,decide_true,cB_true,castNil_nil]
    have d6':Rd h6 r wv ws (wantP ws [[66,89]] (haveP ws [79,82,68,69,82] s).2) := d6
    have q6 := q5.up k6 d6'
    have sq6 := (sq1.kp k5).keep k6 (fun z => by simp at z; omega)
    have k16:Kp h h6 [r] := Kp.rr (Kp.ro k1 k5) k6
    have l6 := k16.len
    simp only [ev5,bind2_some,ew]
    refine To3.bind2 (list65 (m := orderP ws) (by omega) (orderP_mono ws) q6 (fun h' s' d k => show To2 (F66 lf (.ptr r2 0 0) h') _ from order66 hf hsh d)) ?_
    rintro v h7 ⟨q7,k7,L7⟩
    have sq7 := sq6.keep k7 (fun z => by simp at z; omega)
    simp only [sq7.faddr,bind1_some]
    refine To3.bind2 (sq7.store1 (j := 0 + 6) (x := v) (by simp) (LR.sc L7)) ?_
    rintro u h8 ⟨sq8,k8⟩
    refine To3.some ⟨rfl,rfl,v,sq8,?_,Pd.apart q0 q7 k8 (fun j hj => by simp at hj; omega),(one (Kp.rr k16 k7)).trans (two k8) (fun j hj _ => hj) (fun j hj _ => hj)⟩
    exact (rL 9 rOd).mono ((rL 9 rOd).keep L7 k8 (fun j hj z => by simp at hj; omega)) (fun j _ z => by omega)
end Go.Proofs.Ytjpjeilfmjdhcaa.St
