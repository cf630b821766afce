/- The reader of statements walked: a whole query. No condition. -/
import Derived.Test.YtjpjeilfmjdhcaaStT
namespace Go.Proofs.Ytjpjeilfmjdhcaa.St
open Go Go.Proofs.Ytjpjeilfmjdhcaa.E
open Go.Proofs.Ytjpjeilfmjdhcaa.Ln
open Go.Proofs.Ytjpjeilfmjdhcaa.Ex
open Go.Proofs.Ytjpjeilfmjdhcaa.Pr
open Go.Proofs.Ytjpjeilfmjdhcaa.Rd
set_option maxRecDepth 100000
set_option linter.unusedVariables false
set_option linter.unusedSimpArgs false
theorem query31 {lf:Nat} (hf:5000000 < lf) {h:List Ob} {r2 r:Nat} {wv:V} {ws:List Wd} (hsh:Short 5000 ws) {s:RS} (q:Pd h r2 r wv ws s):To2 (F31 lf (.ptr r2 0 0) h) (PQ rQ h r2 r wv ws (queryP ws s)) := by
  have rlt := q.rd.lt
  have hfew := q.rd.few
  obtain ⟨D,hD⟩:∃ p,p = haveP ws [68,73,83,84,73,78,67,84] s := ⟨_,rfl⟩
  obtain ⟨B,hB⟩:∃ p,p = haveP ws [42] D.2 := ⟨_,rfl⟩
  obtain ⟨IT,hIT⟩:∃ p,p = itemsP ws B.1 B.2 := ⟨_,rfl⟩
  obtain ⟨SR,hSR⟩:∃ p,p = sourceP ws (wantP ws [[70,82,79,77]] IT.2) := ⟨_,rfl⟩
  obtain ⟨JN,hJN⟩:∃ p,p = joinsP ws (ws.length + 1) [SR.1] SR.2 := ⟨_,rfl⟩
  obtain ⟨WH,hWH⟩:∃ p,p = whereP ws JN.2 := ⟨_,rfl⟩
  obtain ⟨GR,hGR⟩:∃ p,p = groupByP ws WH.2 := ⟨_,rfl⟩
  obtain ⟨OD,hOD⟩:∃ p,p = orderByP ws GR.2 := ⟨_,rfl⟩
  obtain ⟨LM,hLM⟩:∃ p,p = limitP ws OD.2 := ⟨_,rfl⟩
  have hsp:queryP ws s = (⟨D.1,B.1,IT.1,JN.1,WH.1,GR.1,OD.1,LM.1⟩,LM.2) := by subst hLM hOD hGR hWH hJN hSR hIT hB hD; rfl
  rw [hsp]
  simp only [F31]
  refine To2.bind2 (alloc_to (cs := aQ false false .nils .nils .nils .nils .nils 0) rfl) ?_
  rintro x2 h1 ⟨rfl,sx,k1⟩
  have l1:h.length < h1.length := sx.lt
  have b1:∀ hh:List Ob,er (.build [(.bool false),(.bool false),.nils,.nils,.nils,.nils,.nils,(.int .i64 0)] [(7,(1,(.c (.int .i64 (-1)))))]) hh = some (.agg (aQ false false .nils .nils .nils .nils .nils (-1))) := fun _ => rfl
  simp only [b1,bind1_some,castAgg_agg,castCons_cons,castInt_int,castBool_bool,castNil_nil]
  refine putN (zs := aQ false false .nils .nils .nils .nils .nils 0) (ds := aQ false false .nils .nils .nils .nils .nils (-1)) rfl rfl rfl (by decide) rfl fun h2 sq k2 => ?_
  have k12 := k1.tr k2
  have q2 := q.kp k12
  have sx2 := sx.kp k2
  have l2:h1.length < h2.length := sq.lt
  have one:∀ {g g':List Ob},Kp g g' [r] → Kp g g' [r,h1.length] := fun k => k.mono (fun j hj _ => by simp at hj; simp [hj])
  have two:∀ {g g':List Ob},Kp g g' [h1.length] → Kp g g' [r,h1.length] := fun k => k.mono (fun j hj _ => by simp at hj; simp [hj])
  have oo:∀ {g g' g'':List Ob},Kp g g' [r,h1.length] → Kp g' g'' [r,h1.length] → Kp g g'' [r,h1.length] := fun k l => k.trans l (fun j hj _ => hj) (fun j hj _ => hj)
  simp only [q2.st.nilck,q2.st.faddr,q2.at0,bind1_some]
  refine To2.bind2 (have10 [68,73,83,84,73,78,67,84] q2.rd) ?_
  rintro v h3 ⟨rfl,d3,k3⟩
  rw [← hD] at d3 ⊢
  have q3 := q2.up k3 d3
  have sq3 := sq.keep k3 (fun z => by simp at z; omega)
  simp only [castBool_bool,sq3.faddr,bind1_some]
  refine To2.bind2 (sq3.store1 (j := 0 + 0) (x := .bool D.1) (by simp) ⟨rfl,rfl⟩) ?_
  rintro u h4 ⟨sq4,k4⟩
  have sq4':St h4 h1.length (aQ D.1 false .nils .nils .nils .nils .nils (-1)) := sq4
  have q4 := Pd.apart q q3 k4 (fun j hj => by simp at hj; omega)
  have k24:Kp h2 h4 [r,h1.length] := oo (one k3) (two k4)
  have l4 := k24.len
  refine To2.bind3 (star31 hf hsh q (by omega) q4 sq4' (by omega) (by omega)) ?_
  rintro x vs h5 ⟨rfl,rfl,it,sq5,Li5,q5,k5⟩
  rw [← hB] at sq5 Li5 q5
  rw [← hIT] at Li5 q5
  have k25 := oo k24 k5
  have l5 := k5.len
  simp only [decide_true,cB_true,castNil_nil,q5.st.nilck,q5.st.faddr,q5.at0,bind1_some]
  refine want_to (by omega) q5.rd (l := [[70,82,79,77]]) (ps := [(0,.str [70,82,79,77])]) rfl (by decide) rfl rfl fun h6 d6 k6 => ?_
  have q6 := q5.up k6 d6
  have sq6 := sq5.keep k6 (fun z => by simp at z; omega)
  have Li6 := (rL 9 rIt).keep Li5 k6 (fun j hj z => by simp at hj; omega)
  have l6 := k6.len
  refine To2.bind2 (source63 q6) ?_
  rintro v h7 ⟨q7,k7,t7⟩
  rw [← hSR] at q7 t7
  obtain ⟨n0,pv0,ps0,hx0,rfl,e0⟩ := id t7
  have sq7 := sq6.keep k7 (fun z => by simp at z; omega)
  have Li7 := (rL 9 rIt).keep Li6 k7 (fun j hj z => by simp at hj; omega)
  have k27 := oo k25 (oo (one k6) (one k7))
  have l7 := k7.len
  simp only [castAgg_agg,castCons_cons,castInt_int,castStr_str,castNil_nil]
  refine first_to (T := rSr) (I := fun j => h6.length ≤ j ∧ j < h7.length) (x := SR.1) (by decide) (by decide) (rSr.mono t7 (fun j hj z => ⟨z,hj⟩)) (fun j z => z.2) (plain_agg rfl (by simp only [List.all_cons,List.all_nil,pvS e0]; rfl)) fun sv h8 L8 k8 => ?_
  have sq8 := sq7.kp k8
  have l8 := k8.len
  simp only [sq8.faddr,bind1_some]
  refine To2.bind2 (sq8.store1 (j := 0 + 3) (x := sv) (by simp) (LR.sc L8)) ?_
  rintro u h9 ⟨sq9,k9⟩
  have q9 := Pd.apart q (q7.kp k8) k9 (fun j hj => by simp at hj; omega)
  have Ls9 := (rL 10 rSr).keep L8 k9 (fun j hj z => by simp at hj; rcases z with z | z <;> omega)
  have k69:Kp h6 h9 [r,h1.length] := oo (one (Kp.ro k7 k8)) (two k9)
  have q6' := q6
  refine To2.bind3 (loop31 lf hf hsh q6' (by omega) (by omega) (fun z => by have := q.st.lt; omega) (fun j hj z => by have := q.rd.sl.lt hj; omega) ws.length lf (ws.length + 1) h9 _ sv _ (by omega) (by omega) (by omega) q9 k69 sq9 ((rL 10 rSr).mono Ls9 (fun j hj z => by rcases z with z | z <;> omega)) (by simp)) ?_
  rintro x vs h10 ⟨rfl,rfl,sv',sq10,Ls10,q10,k610⟩
  rw [← hJN] at Ls10 q10
  have Li10 := (rL 9 rIt).keep Li6 k610 (fun j hj z => by simp at hj; omega)
  have k210 := oo (oo k25 (one k6)) k610
  have l10 := k610.len
  simp only [decide_true,cB_true,castNil_nil]
  refine To2.bind2 (where60 hf hsh q10) ?_
  rintro wV h11 ⟨q11,k11,Lw11⟩
  rw [← hWH] at q11 Lw11
  have sq11 := sq10.keep k11 (fun z => by simp at z; omega)
  have l11 := k11.len
  simp only [sq11.faddr,bind1_some]
  refine To2.bind2 (sq11.store1 (j := 0 + 4) (x := wV) (by simp) (LR.sc Lw11)) ?_
  rintro u h12 ⟨sq12,k12'⟩
  have q12 := Pd.apart q q11 k12' (fun j hj => by simp at hj; omega)
  have k1012 := oo (one k11) (two k12')
  have l12 := k12'.len
  have Li12 := (rL 9 rIt).keep Li10 k1012 (fun j hj z => by simp at hj; omega)
  have Ls12 := (rL 10 rSr).keep Ls10 k1012 (fun j hj z => by simp at hj; omega)
  have Lw12 := (rL 8 rEx).keep Lw11 k12' (fun j hj z => by simp at hj; omega)
  refine To2.bind3 (group31 hf hsh q (by omega) q12 sq12 (by omega)) ?_
  rintro x vs h13 ⟨rfl,rfl,gV,sq13,Lg13,q13,k13⟩
  rw [← hGR] at Lg13 q13
  have Li13 := (rL 9 rIt).keep Li12 k13 (fun j hj z => by simp at hj; omega)
  have Ls13 := (rL 10 rSr).keep Ls12 k13 (fun j hj z => by simp at hj; omega)
  have Lw13 := (rL 8 rEx).keep Lw12 k13 (fun j hj z => by simp at hj; omega)
  have l13 := k13.len
  simp only [decide_true,cB_true,castNil_nil]
  refine To2.bind3 (order31 hf hsh q (by omega) q13 sq13 (by omega)) ?_
  rintro x vs h14 ⟨rfl,rfl,oV,sq14,Lo14,q14,k14⟩
  rw [← hOD] at Lo14 q14
  have Li14 := (rL 9 rIt).keep Li13 k14 (fun j hj z => by simp at hj; omega)
  have Ls14 := (rL 10 rSr).keep Ls13 k14 (fun j hj z => by simp at hj; omega)
  have Lw14 := (rL 8 rEx).keep Lw13 k14 (fun j hj z => by simp at hj; omega)
  have Lg14 := (rL 8 rEx).keep Lg13 k14 (fun j hj z => by simp at hj; omega)
  have l14 := k14.len
  have k214 := oo (oo (oo k210 k1012) k13) k14
  simp only [decide_true,cB_true,castNil_nil,q14.st.nilck,q14.st.faddr,q14.at0,bind1_some]
  refine To2.bind2 (have10 [76,73,77,73,84] q14.rd) ?_
  rintro v h15 ⟨rfl,d15,k15⟩
  have q15 := q14.up k15 d15
  have sq15 := sq14.keep k15 (fun z => by simp at z; omega)
  have Li15 := (rL 9 rIt).keep Li14 k15 (fun j hj z => by simp at hj; omega)
  have Ls15 := (rL 10 rSr).keep Ls14 k15 (fun j hj z => by simp at hj; omega)
  have Lw15 := (rL 8 rEx).keep Lw14 k15 (fun j hj z => by simp at hj; omega)
  have Lg15 := (rL 8 rEx).keep Lg14 k15 (fun j hj z => by simp at hj; omega)
  have Lo15 := (rL 9 rOd).keep Lo14 k15 (fun j hj z => by simp at hj; omega)
  have l15 := k15.len
  have k215 := oo k214 (one k15)
  have kx:∀ {g:List Ob},Kp h2 g [r,h1.length] → Kp h g [r] := fun k => k12.trans k (fun j hj => by cases hj) (fun j hj hlt => by simp at hj; rcases hj with rfl | rfl; simp; omega)
  have xk:∀ {g:List Ob},Kp h2 g [r,h1.length] → St g h.length (aQ false false .nils .nils .nils .nils .nils 0) := fun k => sx2.keep k (fun z => by simp at z; omega)
  have up:∀ (j:Nat),h1.length < j → h.length < j := fun j z => by omega
  have aw:∀ {v:V} {xs:List X} {g:List Ob},LR 8 rEx (fun j => h10.length ≤ j) g v xs → LR 8 rEx (fun j => h.length < j) g v xs := fun L => (rL 8 rEx).mono L (fun j _ z => by omega)
  have as_:∀ {v:V} {xs:List Sr} {g:List Ob},LR 10 rSr (fun j => h6.length ≤ j) g v xs → LR 10 rSr (fun j => h.length < j) g v xs := fun L => (rL 10 rSr).mono L (fun j _ z => by omega)
  simp only [castBool_bool]
  have lt15:h1.length < h15.length := by omega
  -- what is handed back
  have fin:∀ (g:List Ob) (lim:Int) (t:RS),St g h1.length (aQ D.1 B.1 it sv' wV gV oV lim) → Pd g r2 r wv ws t → Kp h15 g [r,h1.length] →
      To2 (bind2 (ev (.store 8 (.c (.ptr h.length 0 0)) (.c (.agg (aQ D.1 B.1 it sv' wV gV oV lim)))) g) fun _ g2 => bind1 (evLoadN g2 8 (.ptr h.length 0 0)) fun r1 => some (r1,g2)) (PQ rQ h r2 r wv ws (⟨D.1,B.1,IT.1,JN.1,WH.1,GR.1,OD.1,lim⟩,t)) := by
    intro g lim t sg qg kg
    have Li := (rL 9 rIt).mono ((rL 9 rIt).keep Li15 kg (fun j hj z => by simp at hj; omega)) (J := fun j => h.length < j) (fun j _ z => by omega)
    have Ls := (rL 10 rSr).mono ((rL 10 rSr).keep Ls15 kg (fun j hj z => by simp at hj; omega)) (J := fun j => h.length < j) (fun j _ z => by omega)
    have Lw := (rL 8 rEx).mono ((rL 8 rEx).keep Lw15 kg (fun j hj z => by simp at hj; omega)) (J := fun j => h.length < j) (fun j _ z => by omega)
    have Lg := (rL 8 rEx).mono ((rL 8 rEx).keep Lg15 kg (fun j hj z => by simp at hj; omega)) (J := fun j => h.length < j) (fun j _ z => by omega)
    have Lo := (rL 9 rOd).mono ((rL 9 rOd).keep Lo15 kg (fun j hj z => by simp at hj; omega)) (J := fun j => h.length < j) (fun j _ z => by omega)
    have k2g := oo k215 kg
    exact finP (T := rQ) (n := 8) (ds := aQ D.1 B.1 it sv' wV gV oV lim) (cs := aQ false false .nils .nils .nils .nils .nils 0) (x := ⟨D.1,B.1,IT.1,JN.1,WH.1,GR.1,OD.1,lim⟩) q (xk k2g) rfl rfl (by decide) (aQ_sc (LR.sc Li).2 (LR.sc Ls).2 (LR.sc Lw).2 (LR.sc Lg).2 (LR.sc Lo).2) qg (kx k2g) ⟨it,sv',wV,gV,oV,rfl,Li,Ls,Lw,Lg,Lo⟩
  cases hp:(haveP ws [76,73,77,73,84] OD.2).1 with
  | true =>
    have hl:LM = numR ws (haveP ws [76,73,77,73,84] OD.2).2 := by rw [hLM]; simp only [limitP,hp,if_true]
    simp only [cB_true,q15.st.nilck,q15.st.faddr,q15.at0,bind1_some]
    refine To2.bind2 (num67 q15.rd) ?_
    rintro v h16 ⟨rfl,d16,k16⟩
    rw [← hl] at d16 ⊢
    have q16 := q15.up k16 d16
    have sq16 := sq15.keep k16 (fun z => by simp at z; omega)
    simp only [castInt_int,sq16.faddr,bind1_some]
    refine To2.bind2 (sq16.store1 (j := 0 + 7) (x := .int .i64 LM.1) (by simp) ⟨rfl,rfl⟩) ?_
    rintro u h17 ⟨sq17,k17⟩
    have q17 := Pd.apart q q16 k17 (fun j hj => by simp at hj; omega)
    have sq17':St h17 h1.length (aQ D.1 B.1 it sv' wV gV oV LM.1) := sq17
    simp only [sq17'.loadN' (n := 8) rfl,bind1_some,castAgg_agg,castCons_cons,castInt_int,castBool_bool,castNil_nil]
    exact fin h17 LM.1 LM.2 sq17' q17 (oo (one k16) (two k17))
  | false =>
    have hl:LM = (-1,(haveP ws [76,73,77,73,84] OD.2).2) := by rw [hLM]; simp only [limitP,hp,Bool.false_eq_true,if_false]
    simp only [cB_false,sq15.loadN' (n := 8) rfl,bind1_some,castAgg_agg,castCons_cons,castInt_int,castBool_bool,castNil_nil]
    rw [hl]
    exact fin h15 (-1) _ sq15 q15 (Kp.refl _ _)
end Go.Proofs.Ytjpjeilfmjdhcaa.St
