/- The reader of statements walked: a whole statement. No condition. -/
import Derived.Test.YtjpjeilfmjdhcaaStX
namespace Go.Proofs.Ytjpjeilfmjdhcaa.St
open Go Go.Proofs.Ytjpjeilfmjdhcaa.E
open Go.Proofs.Ytjpjeilfmjdhcaa.Ln
open Go.Proofs.Ytjpjeilfmjdhcaa.Ex
open Go.Proofs.Ytjpjeilfmjdhcaa.Pr
open Go.Proofs.Ytjpjeilfmjdhcaa.Rd
set_option maxRecDepth 100000
set_option linter.unusedVariables false
set_option linter.unusedSimpArgs false
/-- What was read is handed on. -/
theorem passM {h h1 h2:List Ob} {r2 r:Nat} {wv:V} {ws:List Wd} {s0:RS} {p:Sm × RS} {v:V} (q0:Pd h r2 r wv ws s0) (hl:h.length < h1.length) (k:Kp h h1 [r]) (sx:St h2 h.length zM) (t:PQ rM h1 r2 r wv ws p v h2) :
    To2 (bind2 (ev (.store 17 (.c (.ptr h.length 0 0)) (.c v)) h2) fun _ h3 => bind1 (evLoadN h3 17 (.ptr h.length 0 0)) fun r1 => some (r1,h3)) (PQ rM h r2 r wv ws p) := by
  obtain ⟨q2,k2,t2⟩ := t
  obtain ⟨c1,c2,c3,c4,c5,a,b,c,d,e,rfl,u1,u2,u3,u4,u5,t1,t2',t3,t4,t5⟩ := id t2
  exact finP (T := rM) (n := 17) (ds := aM p.1.k p.1.name p.1.on p.1.un c1 c2 c3 c4 c5 p.1.q.dis p.1.q.star a b c d e p.1.q.lim) (cs := zM) (x := p.1) q0 sx rfl rfl (by decide) (aM_sc (LR.sc u1).2 (LR.sc u2).2 (LR.sc u3).2 (LR.sc u4).2 (LR.sc u5).2 (LR.sc t1).2 (LR.sc t2').2 (LR.sc t3).2 (LR.sc t4).2 (LR.sc t5).2) q2 (Kp.rr k k2) (rM.mono t2 (fun j _ z => by omega))
theorem last9L {lf:Nat} (hf:10 < lf) {h h0:List Ob} {r2 r x2:Nat} {wv lv:V} {ws:List Wd} {s s0:RS} (q0:Pd h0 r2 r wv ws s0) (hx:h0.length ≤ x2) (q:Pd h r2 r wv ws s) (sl:Sl 1 h lv (strs [[66,69,71,73,78],[67,79,77,77,73,84],[82,79,76,76,66,65,67,75]])) (hlv:∀ j,j ∈ idsOf lv → j ≠ r) (sx:St h x2 zM) :
    To3 (L9_0 lf lf (.ptr r2 0 0) (.ptr x2 0 0) lv 3 0 h) fun x vs h' => vs = [] ∧ Kp h h' [r,x2] ∧
      ((x = .ret ∧ ∃ k t,lastP ws s = ({ zS with k := k },t) ∧ St h' x2 (aN k [] [] false .nils .nils .nils .nils) ∧ Pd h' r2 r wv ws t) ∨
       (x = .exit 1 ∧ ∃ t,lastP ws s = (zS,failP t) ∧ Pd h' r2 r wv ws t ∧ St h' x2 zM)) := by
  have rlt := q0.rd.lt
  have one:∀ {g g':List Ob},Kp g g' [r] → Kp g g' [r,x2] := fun k => k.mono (fun j hj _ => by simp at hj; simp [hj])
  have two:∀ {g g':List Ob},Kp g g' [x2] → Kp g g' [r,x2] := fun k => k.mono (fun j hj _ => by simp at hj; simp [hj])
  obtain ⟨g,rfl⟩:∃ g,lf = g + 4 := ⟨lf - 4,by omega⟩
  have bk:∀ (hh:List Ob) (k:Int),er (.build [(.int .i64 0),(.str []),(.str []),(.bool false),.nils,.nils,.nils,.nils,.nils,(.bool false),(.bool false),.nils,.nils,.nils,.nils,.nils,(.int .i64 0)] [(0,(1,(.c (.int .i64 k))))]) hh = some (.agg (aN k [] [] false .nils .nils .nils .nils)) := fun _ _ => rfl
  have d1:decide ((0:Int) < 3) = true := rfl
  have d2:decide ((1:Int) < 3) = true := rfl
  have d3:decide ((2:Int) < 3) = true := rfl
  have d4:decide ((3:Int) < 3) = false := rfl
  have w1:IntKind.i64.wrap ((0:Int) + 1) = 1 := by decide
  have w2:IntKind.i64.wrap ((1:Int) + 1) = 2 := by decide
  have w3:IntKind.i64.wrap ((2:Int) + 1) = 3 := by decide
  have v1:IntKind.i64.wrap ((11:Int) + 0) = 11 := by decide
  have v2:IntKind.i64.wrap ((11:Int) + 1) = 12 := by decide
  have v3:IntKind.i64.wrap ((11:Int) + 2) = 13 := by decide
  obtain ⟨a,a1,a2⟩ := sl.at1 (k := 0) (e := .str [66,69,71,73,78]) (by decide) rfl rfl
  obtain ⟨A,hA⟩:∃ p,p = haveP ws [66,69,71,73,78] s := ⟨_,rfl⟩
  obtain ⟨_,h1,e1,rfl,r1,k1⟩ := have10 (lf := g + 4) [66,69,71,73,78] q.rd
  rw [← hA] at e1 r1
  have q1 := q.up k1 r1
  have sx1 := sx.keep k1 (fun z => by simp at z; omega)
  simp only [L9_0,B9_0,d1,cB_true,a1,a2,bind1_some,castStr_str,q.st.nilck,q.st.faddr,q.at0,e1,bind2_some,castBool_bool]
  cases hp:A.1 with
  | true =>
    simp only [cB_true,v1,bk,bind1_some]
    refine To3.bind2 (sx1.storeN (ds := aN 11 [] [] false .nils .nils .nils .nils) rfl (by simp) rfl (n := 17) rfl) ?_
    rintro u h3 ⟨sx3,k3⟩
    refine To3.some ⟨rfl,Kp.rr (one k1) (two k3),.inl ⟨rfl,11,A.2,?_,sx3,Pd.apart q0 q1 k3 (fun j hj => by simp at hj; omega)⟩⟩
    simp only [lastP,← hA,hp,if_true]
  | false =>
    obtain ⟨B,hB⟩:∃ p,p = haveP ws [67,79,77,77,73,84] A.2 := ⟨_,rfl⟩
    have sl1 := sl.keep k1 (fun j hj z => hlv j hj (by simpa using z))
    obtain ⟨b,b1,b2⟩ := sl1.at1 (k := 1) (e := .str [67,79,77,77,73,84]) (by decide) rfl rfl
    obtain ⟨_,h2,e2,rfl,r2',k2⟩ := have10 (lf := g + 4) [67,79,77,77,73,84] q1.rd
    rw [← hB] at e2 r2'
    have q2 := q1.up k2 r2'
    have sx2 := sx1.keep k2 (fun z => by simp at z; omega)
    simp only [cB_false,w1,d2,cB_true,b1,b2,bind1_some,castStr_str,q1.st.nilck,q1.st.faddr,q1.at0,e2,bind2_some,castBool_bool]
    cases hp2:B.1 with
    | true =>
      simp only [cB_true,v2,bk,bind1_some]
      refine To3.bind2 (sx2.storeN (ds := aN 12 [] [] false .nils .nils .nils .nils) rfl (by simp) rfl (n := 17) rfl) ?_
      rintro u h4 ⟨sx4,k4⟩
      refine To3.some ⟨rfl,Kp.rr (one (Kp.rr k1 k2)) (two k4),.inl ⟨rfl,12,B.2,?_,sx4,Pd.apart q0 q2 k4 (fun j hj => by simp at hj; omega)⟩⟩
      simp only [lastP,← hA,hp,Bool.false_eq_true,if_false,← hB,hp2,if_true]
    | false =>
      obtain ⟨C,hC⟩:∃ p,p = haveP ws [82,79,76,76,66,65,67,75] B.2 := ⟨_,rfl⟩
      have sl2 := sl1.keep k2 (fun j hj z => hlv j hj (by simpa using z))
      obtain ⟨c,c1,c2⟩ := sl2.at1 (k := 2) (e := .str [82,79,76,76,66,65,67,75]) (by decide) rfl rfl
      obtain ⟨_,h3,e3,rfl,r3',k3⟩ := have10 (lf := g + 4) [82,79,76,76,66,65,67,75] q2.rd
      rw [← hC] at e3 r3'
      have q3 := q2.up k3 r3'
      have sx3 := sx2.keep k3 (fun z => by simp at z; omega)
      simp only [cB_false,w2,d3,cB_true,c1,c2,bind1_some,castStr_str,q2.st.nilck,q2.st.faddr,q2.at0,e3,bind2_some,castBool_bool]
      cases hp3:C.1 with
      | true =>
        simp only [cB_true,v3,bk,bind1_some]
        refine To3.bind2 (sx3.storeN (ds := aN 13 [] [] false .nils .nils .nils .nils) rfl (by simp) rfl (n := 17) rfl) ?_
        rintro u h4 ⟨sx4,k4⟩
        refine To3.some ⟨rfl,Kp.rr (one (Kp.rr (Kp.rr k1 k2) k3)) (two k4),.inl ⟨rfl,13,C.2,?_,sx4,Pd.apart q0 q3 k4 (fun j hj => by simp at hj; omega)⟩⟩
        simp only [lastP,← hA,hp,Bool.false_eq_true,if_false,← hB,hp2,← hC,hp3,if_true]
      | false =>
        simp only [cB_false,w3,d4]
        refine To3.some ⟨rfl,one (Kp.rr (Kp.rr k1 k2) k3),.inr ⟨rfl,C.2,?_,q3,sx3⟩⟩
        simp only [lastP,← hA,hp,Bool.false_eq_true,if_false,← hB,hp2,← hC,hp3]
theorem statement9 {lf:Nat} (hf:5000000 < lf) {h:List Ob} {r2 r:Nat} {wv:V} {ws:List Wd} (hsh:Short 5000 ws) {s:RS} (q:Pd h r2 r wv ws s):To2 (F9 lf (.ptr r2 0 0) h) (PQ rM h r2 r wv ws (statementP ws s)) := by
  have rlt := q.rd.lt
  obtain ⟨A,hA⟩:∃ p,p = haveP ws [67,82,69,65,84,69] s := ⟨_,rfl⟩
  simp only [F9]
  refine To2.bind2 (alloc_to (cs := zM) rfl) ?_
  rintro x2 h1 ⟨rfl,sx,k1⟩
  have l1:h.length < h1.length := sx.lt
  have q1 := q.kp k1
  simp only [q1.st.nilck,q1.st.faddr,q1.at0,bind1_some]
  refine To2.bind2 (have10 [67,82,69,65,84,69] q1.rd) ?_
  rintro v h2 ⟨rfl,d2,k2⟩
  rw [← hA] at d2 ⊢
  have q2 := q1.up k2 d2
  have sx2 := sx.keep k2 (fun z => by simp at z; omega)
  have l2 := k2.len
  have k02 := Kp.to k1 k2
  simp only [castBool_bool]
  cases hp1:A.1 with
  | true =>
    have hsp:statementP ws s = createP ws A.2 := by simp only [statementP,← hA,hp1,if_true]
    rw [hsp]
    simp only [cB_true]
    refine To2.bind2 (create26 hf hsh q2) ?_
    rintro v g t
    exact passM q (by omega) k02 (sx2.keep t.2.1 (fun z => by simp at z; omega)) t
  | false =>
  obtain ⟨B,hB⟩:∃ p,p = haveP ws [68,82,79,80] A.2 := ⟨_,rfl⟩
  simp only [cB_false,q2.st.nilck,q2.st.faddr,q2.at0,bind1_some]
  refine To2.bind2 (have10 [68,82,79,80] q2.rd) ?_
  rintro v h3 ⟨rfl,d3,k3⟩
  rw [← hB] at d3 ⊢
  have q3 := q2.up k3 d3
  have sx3 := sx2.keep k3 (fun z => by simp at z; omega)
  have l3 := k3.len
  have k03 := Kp.rr k02 k3
  simp only [castBool_bool]
  cases hp2:B.1 with
  | true =>
    have hsp:statementP ws s = dropP ws B.2 := by simp only [statementP,← hA,hp1,Bool.false_eq_true,if_false,← hB,hp2,if_true]
    rw [hsp]
    simp only [cB_true]
    refine To2.bind2 (drop27 (by omega) q3) ?_
    rintro v g t
    exact passM q (by omega) k03 (sx3.keep t.2.1 (fun z => by simp at z; omega)) t
  | false =>
  obtain ⟨C,hC⟩:∃ p,p = haveP ws [73,78,83,69,82,84] B.2 := ⟨_,rfl⟩
  simp only [cB_false,q3.st.nilck,q3.st.faddr,q3.at0,bind1_some]
  refine To2.bind2 (have10 [73,78,83,69,82,84] q3.rd) ?_
  rintro v h4 ⟨rfl,d4,k4⟩
  rw [← hC] at d4 ⊢
  have q4 := q3.up k4 d4
  have sx4 := sx3.keep k4 (fun z => by simp at z; omega)
  have l4 := k4.len
  have k04 := Kp.rr k03 k4
  simp only [castBool_bool]
  cases hp3:C.1 with
  | true =>
    have hsp:statementP ws s = insertP ws C.2 := by simp only [statementP,← hA,hp1,Bool.false_eq_true,if_false,← hB,hp2,← hC,hp3,if_true]
    rw [hsp]
    simp only [cB_true]
    refine To2.bind2 (insert28 hf hsh q4) ?_
    rintro v g t
    exact passM q (by omega) k04 (sx4.keep t.2.1 (fun z => by simp at z; omega)) t
  | false =>
  obtain ⟨D,hD⟩:∃ p,p = haveP ws [85,80,68,65,84,69] C.2 := ⟨_,rfl⟩
  simp only [cB_false,q4.st.nilck,q4.st.faddr,q4.at0,bind1_some]
  refine To2.bind2 (have10 [85,80,68,65,84,69] q4.rd) ?_
  rintro v h5 ⟨rfl,d5,k5⟩
  rw [← hD] at d5 ⊢
  have q5 := q4.up k5 d5
  have sx5 := sx4.keep k5 (fun z => by simp at z; omega)
  have l5 := k5.len
  have k05 := Kp.rr k04 k5
  simp only [castBool_bool]
  cases hp4:D.1 with
  | true =>
    have hsp:statementP ws s = updateP ws D.2 := by simp only [statementP,← hA,hp1,Bool.false_eq_true,if_false,← hB,hp2,← hC,hp3,← hD,hp4,if_true]
    rw [hsp]
    simp only [cB_true]
    refine To2.bind2 (update29 hf hsh q5) ?_
    rintro v g t
    exact passM q (by omega) k05 (sx5.keep t.2.1 (fun z => by simp at z; omega)) t
  | false =>
  obtain ⟨E,hE⟩:∃ p,p = haveP ws [68,69,76,69,84,69] D.2 := ⟨_,rfl⟩
  simp only [cB_false,q5.st.nilck,q5.st.faddr,q5.at0,bind1_some]
  refine To2.bind2 (have10 [68,69,76,69,84,69] q5.rd) ?_
  rintro v h6 ⟨rfl,d6,k6⟩
  rw [← hE] at d6 ⊢
  have q6 := q5.up k6 d6
  have sx6 := sx5.keep k6 (fun z => by simp at z; omega)
  have l6 := k6.len
  have k06 := Kp.rr k05 k6
  simp only [castBool_bool]
  cases hp5:E.1 with
  | true =>
    have hsp:statementP ws s = removeP ws E.2 := by simp only [statementP,← hA,hp1,Bool.false_eq_true,if_false,← hB,hp2,← hC,hp3,← hD,hp4,← hE,hp5,if_true]
    rw [hsp]
    simp only [cB_true]
    refine To2.bind2 (remove30 hf hsh q6) ?_
    rintro v g t
    exact passM q (by omega) k06 (sx6.keep t.2.1 (fun z => by simp at z; omega)) t
  | false =>
  obtain ⟨G,hG⟩:∃ p,p = haveP ws [83,69,76,69,67,84] E.2 := ⟨_,rfl⟩
  simp only [cB_false,q6.st.nilck,q6.st.faddr,q6.at0,bind1_some]
  refine To2.bind2 (have10 [83,69,76,69,67,84] q6.rd) ?_
  rintro v h7 ⟨rfl,d7,k7⟩
  rw [← hG] at d7 ⊢
  have q7 := q6.up k7 d7
  have sx7 := sx6.keep k7 (fun z => by simp at z; omega)
  have l7 := k7.len
  have k07 := Kp.rr k06 k7
  simp only [castBool_bool]
  cases hp6:G.1 with
  | true =>
    have hsp:statementP ws s = ({ zS with k := 10,q := (queryP ws G.2).1 },(queryP ws G.2).2) := by simp only [statementP,← hA,hp1,Bool.false_eq_true,if_false,← hB,hp2,← hC,hp3,← hD,hp4,← hE,hp5,← hG,hp6,if_true]
    rw [hsp]
    simp only [cB_true]
    refine To2.bind2 (query31 hf hsh q7) ?_
    rintro v h8 ⟨q8,k8,t8⟩
    obtain ⟨a,b,c,d,e,rfl,t1,t2,t3,t4,t5⟩ := rQ.mono t8 (J := fun j => h.length < j) (fun j _ z => by omega)
    have b1:er (.build [(.int .i64 0),(.str []),(.str []),(.bool false),.nils,.nils,.nils,.nils,.nils,(.bool false),(.bool false),.nils,.nils,.nils,.nils,.nils,(.int .i64 0)] [(0,(1,(.c (.int .i64 (10))))),(9,(8,(.c (.agg (aQ (queryP ws G.2).1.dis (queryP ws G.2).1.star a b c d e (queryP ws G.2).1.lim)))))]) h8 = some (.agg (aM 10 [] [] false .nils .nils .nils .nils .nils (queryP ws G.2).1.dis (queryP ws G.2).1.star a b c d e (queryP ws G.2).1.lim)) := rfl
    simp only [castAgg_agg,castCons_cons,castInt_int,castBool_bool,castNil_nil,b1,bind1_some]
    exact finP (T := rM) (n := 17) (ds := aM 10 [] [] false .nils .nils .nils .nils .nils (queryP ws G.2).1.dis (queryP ws G.2).1.star a b c d e (queryP ws G.2).1.lim) (cs := zM) q (sx7.keep k8 (fun z => by simp at z; omega)) rfl rfl (by decide) (aM_sc rfl rfl rfl rfl rfl (LR.sc t1).2 (LR.sc t2).2 (LR.sc t3).2 (LR.sc t4).2 (LR.sc t5).2) q8 (Kp.rr k07 k8) (rM_q rfl rfl rfl t1 t2 t3 t4 t5)
  | false =>
    have hsp:statementP ws s = lastP ws G.2 := by simp only [statementP,← hA,hp1,Bool.false_eq_true,if_false,← hB,hp2,← hC,hp3,← hD,hp4,← hE,hp5,← hG,hp6]
    rw [hsp]
    simp only [cB_false]
    refine To2.bind2 (bslice_to (sz := 1) (z := .str []) (ps := [(0,.str [66,69,71,73,78]),(1,.str [67,79,77,77,73,84]),(2,.str [82,79,76,76,66,65,67,75])]) (es := strs [[66,69,71,73,78],[67,79,77,77,73,84],[82,79,76,76,66,65,67,75]]) (len := 3) (by decide) (by decide) rfl rfl) ?_
    rintro lv h8 ⟨-,-,sl,-,k8,fl⟩
    have q8 := q7.kp k8
    have e3:((strs [[66,69,71,73,78],[67,79,77,77,73,84],[82,79,76,76,66,65,67,75]]).length:Int) = 3 := rfl
    simp only [er_lenL sl,bind1_some,castInt_int,e3]
    refine To2.bind3 (last9L (by omega) q (Nat.le_refl _) q8 sl (fun j hj z => by have := fl j hj; omega) (sx7.kp k8)) ?_
    rintro x vs h9 ⟨rfl,k9,⟨rfl,kd,t,hd,sx9,q9⟩ | ⟨rfl,t,hd,q9,sx9⟩⟩
    · have dn:decide (EX.ret = EX.exit 1) = false := rfl
      simp only [dn,cB_false,decide_true,cB_true,castNil_nil,show evLoadN h9 17 (.ptr h.length 0 0) = some (.agg (aN kd [] [] false .nils .nils .nils .nils)) from sx9.loadN,bind1_some]
      rw [hd]
      exact To2.some ⟨q9,(Kp.ro k07 k8).trans k9 (fun j hj _ => hj) (fun j hj hlt => by simp at hj; rcases hj with rfl | rfl; simp; omega),rM0 (name := []) (on := []) (un := false)⟩
    · have k09:Kp h h9 [r] := (Kp.ro k07 k8).trans k9 (fun j hj _ => hj) (fun j hj hlt => by simp at hj; rcases hj with rfl | rfl; simp; omega)
      simp only [decide_true,cB_true,castNil_nil,q9.st.nilck,q9.st.faddr,q9.at0,bind1_some]
      refine To2.bind2 (fail12 q9.rd) ?_
      rintro v h10 ⟨rfl,d10,k10⟩
      have b0:er (.build [(.int .i64 0),(.str []),(.str []),(.bool false),.nils,.nils,.nils,.nils,.nils,(.bool false),(.bool false),.nils,.nils,.nils,.nils,.nils,(.int .i64 0)] []) h10 = some (.agg zM) := rfl
      simp only [b0,bind1_some]
      rw [hd]
      exact finP (T := rM) (n := 17) (ds := zM) (cs := zM) (x := zS) q (sx9.keep k10 (fun z => by simp at z; omega)) rfl rfl (by decide) rfl (q9.up k10 d10) (Kp.rr k09 k10) (rM0 (k := 0) (name := []) (on := []) (un := false))
end Go.Proofs.Ytjpjeilfmjdhcaa.St
