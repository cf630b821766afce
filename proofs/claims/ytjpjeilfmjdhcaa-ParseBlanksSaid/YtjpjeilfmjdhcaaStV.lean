/- The reader of statements walked: columns; what is made, dropped, put in, turned and taken out. No condition. -/
import Derived.Test.YtjpjeilfmjdhcaaStU
import Derived.Test.YtjpjeilfmjdhcaaL4
namespace Go.Proofs.Ytjpjeilfmjdhcaa.St
open Go Go.Proofs.Ytjpjeilfmjdhcaa.E
open Go.Proofs.Ytjpjeilfmjdhcaa.Ln
open Go.Proofs.Ytjpjeilfmjdhcaa.Ex
open Go.Proofs.Ytjpjeilfmjdhcaa.Pr
open Go.Proofs.Ytjpjeilfmjdhcaa.Rd
set_option maxRecDepth 100000
set_option linter.unusedVariables false
set_option linter.unusedSimpArgs false
abbrev aM (k:Int) (name on:List UInt8) (un:Bool) (c1 c2 c3 c4 c5:V) (dis star:Bool) (a b c d e:V) (lim:Int):List V := [.int .i64 k,.str name,.str on,.bool un,c1,c2,c3,c4,c5,.bool dis,.bool star,a,b,c,d,e,.int .i64 lim]
abbrev zM:List V := aM 0 [] [] false .nils .nils .nils .nils .nils false false .nils .nils .nils .nils .nils 0
def rM:RR Sm where
  R := fun I h v m => ∃ c1 c2 c3 c4 c5 a b c d e,v = .agg (aM m.k m.name m.on m.un c1 c2 c3 c4 c5 m.q.dis m.q.star a b c d e m.q.lim) ∧ LR 4 rCl I h c1 m.cols ∧ LR 1 rStr I h c2 m.keys ∧ LR 1 (rL 8 rEx) I h c3 m.rows ∧ LR 9 rAs I h c4 m.sets ∧ LR 8 rEx I h c5 m.wh ∧
    LR 9 rIt I h a m.q.items ∧ LR 10 rSr I h b m.q.srcs ∧ LR 8 rEx I h c m.q.wh ∧ LR 8 rEx I h d m.q.gr ∧ LR 9 rOd I h e m.q.od
  keep := by
    rintro I h h' v x A ⟨c1,c2,c3,c4,c5,a,b,c,d,e,rfl,u1,u2,u3,u4,u5,t1,t2,t3,t4,t5⟩ k dd
    exact ⟨c1,c2,c3,c4,c5,a,b,c,d,e,rfl,(rL 4 rCl).keep u1 k dd,(rL 1 rStr).keep u2 k dd,(rL 1 (rL 8 rEx)).keep u3 k dd,(rL 9 rAs).keep u4 k dd,(rL 8 rEx).keep u5 k dd,(rL 9 rIt).keep t1 k dd,(rL 10 rSr).keep t2 k dd,(rL 8 rEx).keep t3 k dd,(rL 8 rEx).keep t4 k dd,(rL 9 rOd).keep t5 k dd⟩
  mono := by
    rintro I J h v x ⟨c1,c2,c3,c4,c5,a,b,c,d,e,rfl,u1,u2,u3,u4,u5,t1,t2,t3,t4,t5⟩ dd
    exact ⟨c1,c2,c3,c4,c5,a,b,c,d,e,rfl,(rL 4 rCl).mono u1 dd,(rL 1 rStr).mono u2 dd,(rL 1 (rL 8 rEx)).mono u3 dd,(rL 9 rAs).mono u4 dd,(rL 8 rEx).mono u5 dd,(rL 9 rIt).mono t1 dd,(rL 10 rSr).mono t2 dd,(rL 8 rEx).mono t3 dd,(rL 8 rEx).mono t4 dd,(rL 9 rOd).mono t5 dd⟩
theorem aM_sc {k:Int} {name on:List UInt8} {un:Bool} {c1 c2 c3 c4 c5:V} {dis star:Bool} {a b c d e:V} {lim:Int} (h1:c1.scalar = true) (h2:c2.scalar = true) (h3:c3.scalar = true) (h4:c4.scalar = true) (h5:c5.scalar = true) (ha:a.scalar = true) (hb:b.scalar = true) (hc:c.scalar = true) (hd:d.scalar = true) (he:e.scalar = true) :
    (aM k name on un c1 c2 c3 c4 c5 dis star a b c d e lim).all V.scalar = true := by
  simp only [List.all_cons,List.all_nil,h1,h2,h3,h4,h5,ha,hb,hc,hd,he]; rfl
/-- A statement with nothing but names. -/
theorem rM0 {I:Nat → Prop} {h:List Ob} {k:Int} {name on:List UInt8} {un:Bool}:rM.R I h (.agg (aM k name on un .nils .nils .nils .nils .nils false false .nils .nils .nils .nils .nils 0)) { zS with k := k,name := name,on := on,un := un } :=
  ⟨_,_,_,_,_,_,_,_,_,_,rfl,LR.nils _ _ _ _,LR.nils _ _ _ _,LR.nils _ _ _ _,LR.nils _ _ _ _,LR.nils _ _ _ _,LR.nils _ _ _ _,LR.nils _ _ _ _,LR.nils _ _ _ _,LR.nils _ _ _ _,LR.nils _ _ _ _⟩
abbrev aCl (n:List UInt8) (k:Int) (nn un:Bool):List V := [.str n,.int .i64 k,.bool nn,.bool un]
theorem kind51 {lf:Nat} (hf:1000 < lf) {h:List Ob} {r2 r cd:Nat} {wv:V} {ws:List Wd} {s:RS} {n:List UInt8} {H0:List Ob} {s0:RS} (q0:Pd H0 r2 r wv ws s0) (hcd:H0.length ≤ cd) (q:Pd h r2 r wv ws s) (sc:St h cd (aCl n 0 false false)) (hl:cd < h.length) :
    To3 (S51_1 lf (.ptr r2 0 0) (.ptr cd 0 0) h) fun x vs h' => x = .normal ∧ vs = [] ∧ St h' cd (aCl n (kindP ws s).1 false false) ∧ Pd h' r2 r wv ws (kindP ws s).2 ∧ Kp h h' [r,cd] := by
  have rlt := q0.rd.lt
  have one:∀ {g g':List Ob},Kp g g' [r] → Kp g g' [r,cd] := fun k => k.mono (fun j hj _ => by simp at hj; simp [hj])
  have two:∀ {g g':List Ob},Kp g g' [cd] → Kp g g' [r,cd] := fun k => k.mono (fun j hj _ => by simp at hj; simp [hj])
  have oo:∀ {g g' g'':List Ob},Kp g g' [r,cd] → Kp g' g'' [r,cd] → Kp g g'' [r,cd] := fun k l => k.trans l (fun j hj _ => hj) (fun j hj _ => hj)
  simp only [S51_1,q.st.nilck,q.st.faddr,q.at0,bind1_some]
  refine To3.bind2 (have10 [73,78,84] q.rd) ?_
  rintro v h1 ⟨rfl,d1,k1⟩
  have q1 := q.up k1 d1
  have sc1 := sc.keep k1 (fun z => by simp at z; omega)
  simp only [castBool_bool,kindP]
  cases hp:(haveP ws [73,78,84] s).1 with
  | true =>
    simp only [cB_true,if_true,sc1.faddr,bind1_some]
    refine To3.bind2 (sc1.store1 (j := 0 + 1) (x := .int .i64 1) (by simp) ⟨rfl,rfl⟩) ?_
    rintro u h2 ⟨sc2,k2⟩
    exact To3.some ⟨rfl,rfl,sc2,Pd.apart q0 q1 k2 (fun j hj => by simp at hj; omega),oo (one k1) (two k2)⟩
  | false =>
    simp only [cB_false,Bool.false_eq_true,if_false,q1.st.nilck,q1.st.faddr,q1.at0,bind1_some]
    refine To3.bind2 (have10 [84,69,88,84] q1.rd) ?_
    rintro v h2 ⟨rfl,d2,k2⟩
    have q2 := q1.up k2 d2
    have sc2 := sc1.keep k2 (fun z => by simp at z; omega)
    simp only [castBool_bool]
    cases hp2:(haveP ws [84,69,88,84] (haveP ws [73,78,84] s).2).1 with
    | true =>
      simp only [cB_true,if_true,sc2.faddr,bind1_some]
      refine To3.bind2 (sc2.store1 (j := 0 + 1) (x := .int .i64 2) (by simp) ⟨rfl,rfl⟩) ?_
      rintro u h3 ⟨sc3,k3⟩
      exact To3.some ⟨rfl,rfl,sc3,Pd.apart q0 q2 k3 (fun j hj => by simp at hj; omega),oo (one (Kp.rr k1 k2)) (two k3)⟩
    | false =>
      simp only [cB_false,Bool.false_eq_true,if_false,q2.st.nilck,q2.st.faddr,q2.at0,bind1_some]
      refine To3.bind2 (fail12 q2.rd) ?_
      rintro v h3 ⟨rfl,d3,k3⟩
      exact To3.some ⟨rfl,rfl,sc2.keep k3 (fun z => by simp at z; omega),q2.up k3 d3,one (Kp.rr (Kp.rr k1 k2) k3)⟩
def nnP (ws:List Wd) (s:RS):RS := if (haveP ws [78,79,84] s).1 = true then wantP ws [[78,85,76,76]] (haveP ws [78,79,84] s).2 else (haveP ws [78,79,84] s).2
theorem null51 {lf:Nat} (hf:1000 < lf) {h:List Ob} {r2 r cd:Nat} {wv:V} {ws:List Wd} {s:RS} {n:List UInt8} {kd:Int} {H0:List Ob} {s0:RS} (q0:Pd H0 r2 r wv ws s0) (hcd:H0.length ≤ cd) (q:Pd h r2 r wv ws s) (sc:St h cd (aCl n kd false false)) (hl:cd < h.length) :
    To3 (S51_0 lf (.ptr r2 0 0) (.ptr cd 0 0) h) fun x vs h' => x = .normal ∧ vs = [] ∧ St h' cd (aCl n kd (haveP ws [78,79,84] s).1 false) ∧ Pd h' r2 r wv ws (nnP ws s) ∧ Kp h h' [r,cd] := by
  have rlt := q0.rd.lt
  have one:∀ {g g':List Ob},Kp g g' [r] → Kp g g' [r,cd] := fun k => k.mono (fun j hj _ => by simp at hj; simp [hj])
  have two:∀ {g g':List Ob},Kp g g' [cd] → Kp g g' [r,cd] := fun k => k.mono (fun j hj _ => by simp at hj; simp [hj])
  have oo:∀ {g g' g'':List Ob},Kp g g' [r,cd] → Kp g' g'' [r,cd] → Kp g g'' [r,cd] := fun k l => k.trans l (fun j hj _ => hj) (fun j hj _ => hj)
  simp only [S51_0,q.st.nilck,q.st.faddr,q.at0,bind1_some]
  refine To3.bind2 (have10 [78,79,84] q.rd) ?_
  rintro v h1 ⟨rfl,d1,k1⟩
  have q1 := q.up k1 d1
  have sc1 := sc.keep k1 (fun z => by simp at z; omega)
  simp only [castBool_bool,sc1.faddr,bind1_some]
  refine To3.bind2 (sc1.store1 (j := 0 + 2) (x := .bool (haveP ws [78,79,84] s).1) (by simp) ⟨rfl,rfl⟩) ?_
  rintro u h2 ⟨sc2,k2⟩
  have sc2':St h2 cd (aCl n kd (haveP ws [78,79,84] s).1 false) := sc2
  have q2 := Pd.apart q0 q1 k2 (fun j hj => by simp at hj; omega)
  have k02 := oo (one k1) (two k2)
  have l1 := k1.len
  have l2 := k2.len
  simp only [sc2'.faddr,sc2'.load1 (j := 0 + 2) (c := .bool (haveP ws [78,79,84] s).1) rfl,bind1_some,castBool_bool]
  unfold nnP
  cases hp:(haveP ws [78,79,84] s).1 with
  | false =>
    rw [hp] at sc2'
    simp only [cB_false,Bool.false_eq_true,if_false]
    exact To3.some ⟨rfl,rfl,sc2',q2,k02⟩
  | true =>
    rw [hp] at sc2'
    simp only [cB_true,if_true,q2.st.nilck,q2.st.faddr,q2.at0,bind1_some]
    obtain ⟨x47,h5,ev5,r5⟩ := bslice_to (h := h2) (sz := 1) (z := .str []) (ps := [(0,.str [78,85,76,76])]) (es := strs [[78,85,76,76]]) (len := 1) (by decide) (by decide) rfl rfl
    obtain ⟨-,-,sl5,-,k5,f5⟩ := r5
    simp only [List.map_cons,List.map_nil] at ev5
    have q5 := q2.kp k5
    obtain ⟨x',vs',h6,ev6,rfl,rfl,d6,k6⟩ := want52L lf sl5 (fun j hj z => by have := f5 j hj; have := q2.rd.lt; omega) (by decide) 1 0 lf h5 (haveP ws [78,79,84] s).2 rfl (by omega) (Kp.refl _ _) q5.rd
    have ew:F52 lf (.ptr r 0 0) x47 h5 = some (.tup [],h6) := by
      have e1:((strs [[78,85,76,76]]).length:Int) = ((1:Nat):Int) := rfl
      simp only [F52,er_lenL sl5,bind1_some,castInt_int,e1]
      have e2:L52_0 lf lf (.ptr r 0 0) x47 ((1:Nat):Int) 0 h5 = some (.exit 0,[],h6) := ev6
      simp only [e2,bind3_some,decide_true,cB_true,castNil_nil]
    have d6':Rd h6 r wv ws (wantP ws [[78,85,76,76]] (haveP ws [78,79,84] s).2) := d6
    simp only [ev5,bind2_some,ew]
    exact To3.some ⟨rfl,rfl,(sc2'.kp k5).keep k6 (fun z => by simp at z; omega),q5.up k6 d6',oo k02 (one (Kp.to k5 k6))⟩
theorem column51 {lf:Nat} (hf:1000 < lf) {h:List Ob} {r2 r:Nat} {wv:V} {ws:List Wd} {s:RS} (q:Pd h r2 r wv ws s):To2 (F51 lf (.ptr r2 0 0) h) (PQ rCl h r2 r wv ws (columnP ws s)) := by
  have rlt := q.rd.lt
  obtain ⟨N,hN⟩:∃ p,p = nameR ws s := ⟨_,rfl⟩
  obtain ⟨KD,hKD⟩:∃ p,p = kindP ws N.2 := ⟨_,rfl⟩
  obtain ⟨UN,hUN⟩:∃ p,p = haveP ws [85,78,73,81,85,69] (nnP ws KD.2) := ⟨_,rfl⟩
  have hsp:columnP ws s = (⟨N.1,KD.1,(haveP ws [78,79,84] KD.2).1,UN.1⟩,UN.2) := by subst hUN hKD hN; rfl
  rw [hsp]
  simp only [F51]
  refine To2.bind2 (alloc_to (cs := aCl [] 0 false false) rfl) ?_
  rintro x2 h1 ⟨rfl,sx,k1⟩
  have l1:h.length < h1.length := sx.lt
  have q1 := q.kp k1
  simp only [q1.st.nilck,q1.st.faddr,q1.at0,bind1_some]
  refine To2.bind2 (name49 q1.rd) ?_
  rintro v h2 ⟨rfl,d2,k2⟩
  rw [← hN] at d2 ⊢
  have q2 := q1.up k2 d2
  have l2 := k2.len
  have b1:er (.build [(.str []),(.int .i64 0),(.bool false),(.bool false)] [(0,(1,(.c (.str N.1))))]) h2 = some (.agg (aCl N.1 0 false false)) := rfl
  simp only [castStr_str,b1,bind1_some,castAgg_agg,castCons_cons,castInt_int,castBool_bool,castNil_nil]
  refine putN (zs := aCl [] 0 false false) (ds := aCl N.1 0 false false) rfl rfl rfl (by decide) rfl fun h3 sc k3 => ?_
  have q3 := q2.kp k3
  have l3:h2.length < h3.length := sc.lt
  have sx3 := (sx.keep k2 (fun z => by simp at z; omega)).kp k3
  have k03:Kp h h3 [r] := Kp.ro (Kp.to k1 k2) k3
  have oo:∀ {g g' g'':List Ob},Kp g g' [r,h2.length] → Kp g' g'' [r,h2.length] → Kp g g'' [r,h2.length] := fun k l => k.trans l (fun j hj _ => hj) (fun j hj _ => hj)
  refine To2.bind3 (kind51 hf q (by omega) q3 sc l3) ?_
  rintro x vs h4 ⟨rfl,rfl,sc4,q4,k4⟩
  rw [← hKD] at sc4 q4
  have l4 := k4.len
  simp only [decide_true,cB_true,castNil_nil]
  refine To2.bind3 (null51 hf q (by omega) q4 sc4 (by omega)) ?_
  rintro x vs h5 ⟨rfl,rfl,sc5,q5,k5⟩
  have l5 := k5.len
  simp only [decide_true,cB_true,castNil_nil,q5.st.nilck,q5.st.faddr,q5.at0,bind1_some]
  refine To2.bind2 (have10 [85,78,73,81,85,69] q5.rd) ?_
  rintro v h6 ⟨rfl,d6,k6⟩
  rw [← hUN] at d6 ⊢
  have q6 := q5.up k6 d6
  have sc6 := sc5.keep k6 (fun z => by simp at z; omega)
  have l6 := k6.len
  simp only [castBool_bool,sc6.faddr,bind1_some]
  refine To2.bind2 (sc6.store1 (j := 0 + 3) (x := .bool UN.1) (by simp) ⟨rfl,rfl⟩) ?_
  rintro u h7 ⟨sc7,k7⟩
  have sc7':St h7 h2.length (aCl N.1 KD.1 (haveP ws [78,79,84] KD.2).1 UN.1) := sc7
  have q7 := Pd.apart q q6 k7 (fun j hj => by simp at hj; omega)
  have k37:Kp h3 h7 [r,h2.length] := oo (oo (oo k4 k5) (k6.mono (fun j hj _ => by simp at hj; simp [hj]))) (k7.mono (fun j hj _ => by simp at hj; simp [hj]))
  have sx7 := sx3.keep k37 (fun z => by simp at z; omega)
  simp only [sc7'.loadN' (n := 4) rfl,bind1_some,castAgg_agg,castCons_cons,castInt_int,castStr_str,castBool_bool,castNil_nil]
  exact finP (T := rCl) (n := 4) (ds := aCl N.1 KD.1 (haveP ws [78,79,84] KD.2).1 UN.1) (cs := aCl [] 0 false false) (x := ⟨N.1,KD.1,(haveP ws [78,79,84] KD.2).1,UN.1⟩) q sx7 rfl rfl (by decide) rfl q7 (k03.trans k37 (fun j hj _ => hj) (fun j hj hlt => by simp at hj; rcases hj with rfl | rfl; simp; omega)) rfl
end Go.Proofs.Ytjpjeilfmjdhcaa.St
