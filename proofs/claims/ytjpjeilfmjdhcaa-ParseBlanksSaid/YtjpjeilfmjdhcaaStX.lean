/- The reader of statements walked: what is made; a whole statement. No condition. -/
import Derived.Test.YtjpjeilfmjdhcaaStW
namespace Go.Proofs.Ytjpjeilfmjdhcaa.St
open Go Go.Proofs.Ytjpjeilfmjdhcaa.E
open Go.Proofs.Ytjpjeilfmjdhcaa.Ln
open Go.Proofs.Ytjpjeilfmjdhcaa.Ex
open Go.Proofs.Ytjpjeilfmjdhcaa.Pr
open Go.Proofs.Ytjpjeilfmjdhcaa.Rd
set_option maxRecDepth 100000
set_option linter.unusedVariables false
set_option linter.unusedSimpArgs false
theorem build_cols {h:List Ob} {k:Int} {n:List UInt8} {v:V} (hc:v.cells = [v]) (hs:v.scalar = true):er (.build [(.int .i64 0),(.str []),(.str []),(.bool false),.nils,.nils,.nils,.nils,.nils,(.bool false),(.bool false),.nils,.nils,.nils,.nils,.nils,(.int .i64 0)] [(0,(1,(.c (.int .i64 k)))),(1,(1,(.c (.str n)))),(4,(1,(.c v)))]) h = some (.agg (aM k n [] false v .nils .nils .nils .nils false false .nils .nils .nils .nils .nils 0)) := by
  have:fillV (aM k n [] false .nils .nils .nils .nils .nils false false .nils .nils .nils .nils .nils 0) [(4,1,v)] = some (aM k n [] false v .nils .nils .nils .nils false false .nils .nils .nils .nils .nils 0) := by
    cases v <;> first | rfl | (simp [V.scalar] at hs)
  simp only [er,ev,evOq,x_build,List.map_cons,List.map_nil,getC]
  rw [show fillV [(.int .i64 0),(.str []),(.str []),(.bool false),.nils,.nils,.nils,.nils,.nils,(.bool false),(.bool false),.nils,.nils,.nils,.nils,.nils,(.int .i64 0)] [(0,1,.int .i64 k),(1,1,.str n),(4,1,v)] = fillV (aM k n [] false .nils .nils .nils .nils .nils false false .nils .nils .nils .nils .nils 0) [(4,1,v)] from rfl,this]
  rfl
theorem rM_cols {I:Nat → Prop} {h:List Ob} {k:Int} {name:List UInt8} {v:V} {cs:List Cl} (L:LR 4 rCl I h v cs):rM.R I h (.agg (aM k name [] false v .nils .nils .nils .nils false false .nils .nils .nils .nils .nils 0)) { zS with k := k,name := name,cols := cs } :=
  ⟨_,_,_,_,_,_,_,_,_,_,rfl,L,LR.nils _ _ _ _,LR.nils _ _ _ _,LR.nils _ _ _ _,LR.nils _ _ _ _,LR.nils _ _ _ _,LR.nils _ _ _ _,LR.nils _ _ _ _,LR.nils _ _ _ _,LR.nils _ _ _ _⟩
theorem rM_keys {I:Nat → Prop} {h:List Ob} {k:Int} {name on:List UInt8} {un:Bool} {v:V} {cs:List (List UInt8)} (L:LR 1 rStr I h v cs):rM.R I h (.agg (aN k name on un v .nils .nils .nils)) { zS with k := k,name := name,on := on,un := un,keys := cs } :=
  ⟨_,_,_,_,_,_,_,_,_,_,rfl,LR.nils _ _ _ _,L,LR.nils _ _ _ _,LR.nils _ _ _ _,LR.nils _ _ _ _,LR.nils _ _ _ _,LR.nils _ _ _ _,LR.nils _ _ _ _,LR.nils _ _ _ _,LR.nils _ _ _ _⟩
theorem rM_q {I:Nat → Prop} {h:List Ob} {k:Int} {name:List UInt8} {dis star:Bool} {a b c d e:V} {lim:Int} {q:Qy} (hd:q.dis = dis) (hst:q.star = star) (hl:q.lim = lim) (t1:LR 9 rIt I h a q.items) (t2:LR 10 rSr I h b q.srcs) (t3:LR 8 rEx I h c q.wh) (t4:LR 8 rEx I h d q.gr) (t5:LR 9 rOd I h e q.od) :
    rM.R I h (.agg (aM k name [] false .nils .nils .nils .nils .nils dis star a b c d e lim)) { zS with k := k,name := name,q := q } := by
  subst hd; subst hst; subst hl
  exact ⟨_,_,_,_,_,_,_,_,_,_,rfl,LR.nils _ _ _ _,LR.nils _ _ _ _,LR.nils _ _ _ _,LR.nils _ _ _ _,LR.nils _ _ _ _,t1,t2,t3,t4,t5⟩
theorem create26 {lf:Nat} (hf:5000000 < lf) {h:List Ob} {r2 r:Nat} {wv:V} {ws:List Wd} (hsh:Short 5000 ws) {s:RS} (q:Pd h r2 r wv ws s):To2 (F26 lf (.ptr r2 0 0) h) (PQ rM h r2 r wv ws (createP ws s)) := by
  have rlt := q.rd.lt
  obtain ⟨A,hA⟩:∃ p,p = haveP ws [84,65,66,76,69] s := ⟨_,rfl⟩
  simp only [F26]
  refine To2.bind2 (alloc_to (cs := zM) rfl) ?_
  rintro x2 h1 ⟨rfl,sx,k1⟩
  have l1:h.length < h1.length := sx.lt
  have q1 := q.kp k1
  simp only [q1.st.nilck,q1.st.faddr,q1.at0,bind1_some]
  refine To2.bind2 (have10 [84,65,66,76,69] q1.rd) ?_
  rintro v h2 ⟨rfl,d2,k2⟩
  rw [← hA] at d2 ⊢
  have q2 := q1.up k2 d2
  have sx2 := sx.keep k2 (fun z => by simp at z; omega)
  have l2 := k2.len
  have k02 := Kp.to k1 k2
  simp only [castBool_bool]
  cases hp:A.1 with
  | true =>
    obtain ⟨N,hN⟩:∃ p,p = nameR ws A.2 := ⟨_,rfl⟩
    obtain ⟨C,hC⟩:∃ p,p = groupP ws (columnP ws) N.2 := ⟨_,rfl⟩
    have hsp:createP ws s = ({ zS with k := 1,name := N.1,cols := C.1 },C.2) := by subst hC hN; simp only [createP,← hA,hp,if_true]
    rw [hsp]
    simp only [cB_true,q2.st.nilck,q2.st.faddr,q2.at0,bind1_some]
    refine To2.bind2 (name49 q2.rd) ?_
    rintro v h3 ⟨rfl,d3,k3⟩
    rw [← hN] at d3 ⊢
    have q3 := q2.up k3 d3
    have l3 := k3.len
    simp only [castStr_str]
    refine To2.bind2 (group50 (m := columnP ws) (by omega) (columnP_mono ws) q3 (fun h' s' d k => show To2 (F51 lf (.ptr r2 0 0) h') _ from column51 (by omega) d)) ?_
    rintro c h4 ⟨q4,k4,L4⟩
    rw [← hC] at q4 L4
    simp only [build_cols (LR.sc L4).1 (LR.sc L4).2,bind1_some]
    have sx4 := sx2.keep (Kp.rr k3 k4) (fun z => by simp at z; omega)
    exact finP (T := rM) (n := 17) (ds := aM 1 N.1 [] false c .nils .nils .nils .nils false false .nils .nils .nils .nils .nils 0) (cs := zM) q sx4 rfl rfl (by decide) (aM_sc (LR.sc L4).2 rfl rfl rfl rfl rfl rfl rfl rfl rfl) q4 (Kp.rr k02 (Kp.rr k3 k4)) (rM_cols ((rL 4 rCl).mono L4 (fun j _ z => by omega)))
  | false =>
    obtain ⟨B,hB⟩:∃ p,p = haveP ws [77,65,84,69,82,73,65,76,73,90,69,68] A.2 := ⟨_,rfl⟩
    simp only [cB_false,q2.st.nilck,q2.st.faddr,q2.at0,bind1_some]
    refine To2.bind2 (have10 [77,65,84,69,82,73,65,76,73,90,69,68] q2.rd) ?_
    rintro v h3 ⟨rfl,d3,k3⟩
    rw [← hB] at d3 ⊢
    have q3 := q2.up k3 d3
    have sx3 := sx2.keep k3 (fun z => by simp at z; omega)
    have l3 := k3.len
    have k03 := Kp.rr k02 k3
    simp only [castBool_bool]
    cases hp2:B.1 with
    | true =>
      obtain ⟨N,hN⟩:∃ p,p = nameR ws (wantP ws [[86,73,69,87]] B.2) := ⟨_,rfl⟩
      obtain ⟨Q,hQ⟩:∃ p,p = queryP ws (wantP ws [[65,83],[83,69,76,69,67,84]] N.2) := ⟨_,rfl⟩
      have hsp:createP ws s = ({ zS with k := 3,name := N.1,q := Q.1 },Q.2) := by subst hQ hN; simp only [createP,← hA,hp,Bool.false_eq_true,if_false,← hB,hp2,if_true]
      rw [hsp]
      simp only [cB_true,q3.st.nilck,q3.st.faddr,q3.at0,bind1_some]
      refine want_to (by omega) q3.rd (l := [[86,73,69,87]]) (ps := [(0,.str [86,73,69,87])]) rfl (by decide) rfl rfl fun h4 d4 k4 => ?_
      have q4 := q3.up k4 d4
      simp only [q4.st.nilck,q4.st.faddr,q4.at0,bind1_some]
      refine To2.bind2 (name49 q4.rd) ?_
      rintro v h5 ⟨rfl,d5,k5⟩
      rw [← hN] at d5 ⊢
      have q5 := q4.up k5 d5
      have k35 := Kp.rr k4 k5
      have sx5 := sx3.keep k35 (fun z => by simp at z; omega)
      have l5 := k35.len
      simp only [castStr_str,buildN,bind1_some]
      refine putN (n := 17) (zs := zM) (ds := aN 3 N.1 [] false .nils .nils .nils .nils) rfl rfl rfl (by decide) rfl fun h6 sm k6 => ?_
      have q6 := q5.kp k6
      have l6:h5.length < h6.length := sm.lt
      simp only [q6.st.nilck,q6.st.faddr,q6.at0,bind1_some]
      refine want_to (by omega) q6.rd (l := [[65,83],[83,69,76,69,67,84]]) (ps := [(0,.str [65,83]),(1,.str [83,69,76,69,67,84])]) rfl (by decide) rfl rfl fun h7 d7 k7 => ?_
      have q7 := q6.up k7 d7
      have sm7 := sm.keep k7 (fun z => by simp at z; omega)
      have l7 := k7.len
      refine To2.bind2 (query31 hf hsh q7) ?_
      rintro v h8 ⟨q8,k8,t8⟩
      rw [← hQ] at q8 t8
      obtain ⟨a,b,c,d,e,rfl,t1,t2,t3,t4,t5⟩ := id t8
      have sm8 := sm7.keep k8 (fun z => by simp at z; omega)
      have l8 := k8.len
      have qs := aQ_sc (dis := Q.1.dis) (star := Q.1.star) (lim := Q.1.lim) (LR.sc t1).2 (LR.sc t2).2 (LR.sc t3).2 (LR.sc t4).2 (LR.sc t5).2
      simp only [castAgg_agg,castCons_cons,castInt_int,castBool_bool,castNil_nil,sm8.faddr,bind1_some]
      refine To2.bind2 (St.storeP sm8 (j := 0 + 9) (n := 8) (ds := aQ Q.1.dis Q.1.star a b c d e Q.1.lim) rfl (by simp) (by decide) qs) ?_
      rintro u h9 ⟨sm9,k9⟩
      have sm9':St h9 h5.length (aM 3 N.1 [] false .nils .nils .nils .nils .nils Q.1.dis Q.1.star a b c d e Q.1.lim) := sm9
      have q9 := Pd.apart q q8 k9 (fun j hj => by simp at hj; omega)
      have kk:Kp h5 h8 [r] := Kp.to k6 (Kp.rr k7 k8)
      have sx9 := (sx5.keep kk (fun z => by simp at z; omega)).keep k9 (fun z => by simp at z; omega)
      have k09:Kp h h9 [r] := (Kp.rr (Kp.rr k03 k35) kk).trans k9 (fun j hj _ => hj) (fun j hj hlt => by simp at hj; omega)
      have t9 := rQ.mono (rQ.keep t8 k9 (fun j hj z => by simp at hj; omega)) (J := fun j => h.length < j) (fun j _ z => by omega)
      obtain ⟨a',b',c',d',e',he,u1,u2,u3,u4,u5⟩ := t9
      simp only [V.agg.injEq,List.cons.injEq,and_true,true_and] at he
      obtain ⟨rfl,rfl,rfl,rfl,rfl⟩ := he
      simp only [sm9'.loadN' (n := 17) rfl,bind1_some]
      exact finP (T := rM) (n := 17) (ds := aM 3 N.1 [] false .nils .nils .nils .nils .nils Q.1.dis Q.1.star a b c d e Q.1.lim) (cs := zM) q sx9 rfl rfl (by decide) (aM_sc rfl rfl rfl rfl rfl (LR.sc u1).2 (LR.sc u2).2 (LR.sc u3).2 (LR.sc u4).2 (LR.sc u5).2) q9 k09 (rM_q rfl rfl rfl u1 u2 u3 u4 u5)
    | false =>
      obtain ⟨U,hU⟩:∃ p,p = haveP ws [85,78,73,81,85,69] B.2 := ⟨_,rfl⟩
      obtain ⟨N,hN⟩:∃ p,p = nameR ws (wantP ws [[73,78,68,69,88]] U.2) := ⟨_,rfl⟩
      obtain ⟨O,hO⟩:∃ p,p = nameR ws (wantP ws [[79,78]] N.2) := ⟨_,rfl⟩
      obtain ⟨G,hG⟩:∃ p,p = groupP ws (nameR ws) O.2 := ⟨_,rfl⟩
      have hsp:createP ws s = ({ zS with k := 2,un := U.1,name := N.1,on := O.1,keys := G.1 },G.2) := by subst hG hO hN hU; simp only [createP,← hA,hp,Bool.false_eq_true,if_false,← hB,hp2]
      rw [hsp]
      simp only [cB_false,q3.st.nilck,q3.st.faddr,q3.at0,bind1_some]
      refine To2.bind2 (have10 [85,78,73,81,85,69] q3.rd) ?_
      rintro v h4 ⟨rfl,d4,k4⟩
      rw [← hU] at d4 ⊢
      have q4 := q3.up k4 d4
      have sx4 := sx3.keep k4 (fun z => by simp at z; omega)
      have l4 := k4.len
      have b1:er (.build [(.int .i64 0),(.str []),(.str []),(.bool false),.nils,.nils,.nils,.nils,.nils,(.bool false),(.bool false),.nils,.nils,.nils,.nils,.nils,(.int .i64 0)] [(0,(1,(.c (.int .i64 (2))))),(3,(1,(.c (.bool U.1))))]) h4 = some (.agg (aN 2 [] [] U.1 .nils .nils .nils .nils)) := rfl
      simp only [castBool_bool,b1,bind1_some]
      refine putN (n := 17) (zs := zM) (ds := aN 2 [] [] U.1 .nils .nils .nils .nils) rfl rfl rfl (by decide) rfl fun h5 sm k5 => ?_
      have q5 := q4.kp k5
      have l5:h4.length < h5.length := sm.lt
      have one:∀ {g g':List Ob},Kp g g' [r] → Kp g g' [r,h4.length] := fun k => k.mono (fun j hj _ => by simp at hj; simp [hj])
      have two:∀ {g g':List Ob},Kp g g' [h4.length] → Kp g g' [r,h4.length] := fun k => k.mono (fun j hj _ => by simp at hj; simp [hj])
      simp only [q5.st.nilck,q5.st.faddr,q5.at0,bind1_some]
      refine want_to (by omega) q5.rd (l := [[73,78,68,69,88]]) (ps := [(0,.str [73,78,68,69,88])]) rfl (by decide) rfl rfl fun h6 d6 k6 => ?_
      have q6 := q5.up k6 d6
      simp only [q6.st.nilck,q6.st.faddr,q6.at0,bind1_some]
      refine To2.bind2 (name49 q6.rd) ?_
      rintro v h7 ⟨rfl,d7,k7⟩
      rw [← hN] at d7 ⊢
      have q7 := q6.up k7 d7
      have sm7 := sm.keep (Kp.rr k6 k7) (fun z => by simp at z; omega)
      simp only [castStr_str,sm7.faddr,bind1_some]
      refine To2.bind2 (sm7.store1 (j := 0 + 1) (x := .str N.1) (by simp) ⟨rfl,rfl⟩) ?_
      rintro u h8 ⟨sm8,k8⟩
      have q8 := Pd.apart q q7 k8 (fun j hj => by simp at hj; omega)
      have k58:Kp h5 h8 [r,h4.length] := Kp.rr (one (Kp.rr k6 k7)) (two k8)
      simp only [q8.st.nilck,q8.st.faddr,q8.at0,bind1_some]
      refine want_to (by omega) q8.rd (l := [[79,78]]) (ps := [(0,.str [79,78])]) rfl (by decide) rfl rfl fun h9 d9 k9 => ?_
      have q9 := q8.up k9 d9
      simp only [q9.st.nilck,q9.st.faddr,q9.at0,bind1_some]
      refine To2.bind2 (name49 q9.rd) ?_
      rintro v h10 ⟨rfl,d10,k10⟩
      rw [← hO] at d10 ⊢
      have q10 := q9.up k10 d10
      have sm10 := sm8.keep (Kp.rr k9 k10) (fun z => by simp at z; omega)
      simp only [castStr_str,sm10.faddr,bind1_some]
      refine To2.bind2 (sm10.store1 (j := 0 + 2) (x := .str O.1) (by simp) ⟨rfl,rfl⟩) ?_
      rintro u h11 ⟨sm11,k11⟩
      have q11 := Pd.apart q q10 k11 (fun j hj => by simp at hj; omega)
      have k511:Kp h5 h11 [r,h4.length] := Kp.rr k58 (Kp.rr (one (Kp.rr k9 k10)) (two k11))
      have l11 := k511.len
      simp only [q11.st.nilck,q11.st.faddr,q11.at0,bind1_some]
      refine To2.bind2 (group53 (m := nameR ws) (by omega) (nameR_mono ws) q11 (fun h' s' d k => show To2 (F49 lf (.ptr r 0 0) h') _ from mem49 d)) ?_
      rintro g h12 ⟨q12,k12,L12⟩
      rw [← hG] at q12 L12
      have sm12 := sm11.keep k12 (fun z => by simp at z; omega)
      simp only [sm12.faddr,bind1_some]
      refine To2.bind2 (sm12.store1 (j := 0 + 5) (x := g) (by simp) (LR.sc L12)) ?_
      rintro u h13 ⟨sm13,k13⟩
      have sm13':St h13 h4.length (aN 2 N.1 O.1 U.1 g .nils .nils .nils) := sm13
      have q13 := Pd.apart q q12 k13 (fun j hj => by simp at hj; omega)
      have L13 := (rL 1 rStr).mono ((rL 1 rStr).keep L12 k13 (fun j hj z => by simp at hj; omega)) (J := fun j => h.length < j) (fun j _ z => by omega)
      have k513:Kp h5 h13 [r,h4.length] := Kp.rr k511 (Kp.rr (one k12) (two k13))
      have sx13 := (sx4.kp k5).keep k513 (fun z => by simp at z; omega)
      have k013:Kp h h13 [r] := (Kp.ro (Kp.rr k03 k4) k5).trans k513 (fun j hj _ => hj) (fun j hj hlt => by simp at hj; rcases hj with rfl | rfl; simp; omega)
      simp only [sm13'.loadN' (n := 17) rfl,bind1_some]
      exact finP (T := rM) (n := 17) (ds := aN 2 N.1 O.1 U.1 g .nils .nils .nils) (cs := zM) q sx13 rfl rfl (by decide) (aM_sc rfl (LR.sc L13).2 rfl rfl rfl rfl rfl rfl rfl rfl) q13 k013 (rM_keys L13)
end Go.Proofs.Ytjpjeilfmjdhcaa.St
