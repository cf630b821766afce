/- The reader of statements walked: a text's statement, or its error. No condition. -/
import Derived.Test.YtjpjeilfmjdhcaaPsQ
namespace Go.Proofs.Ytjpjeilfmjdhcaa.Ps
open Go Go.Proofs.Ytjpjeilfmjdhcaa.E
open Go.Proofs.Ytjpjeilfmjdhcaa.Ln
open Go.Proofs.Ytjpjeilfmjdhcaa.Ex
open Go.Proofs.Ytjpjeilfmjdhcaa.Pr
open Go.Proofs.Ytjpjeilfmjdhcaa.Rd
open Go.Proofs.Ytjpjeilfmjdhcaa.St
set_option maxRecDepth 100000
set_option linter.unusedVariables false
set_option linter.unusedSimpArgs false
theorem moreP_len {α : Type} {ws:List Wd} {m:PM α}:∀ (f:Nat) (acc:List α) (s:RS),(moreP ws m f acc s).1.length ≤ acc.length + f
  | 0,acc,s => Nat.le_refl _
  | f + 1,acc,s => by
    simp only [moreP]
    split
    · refine Nat.le_trans (moreP_len f _ _) ?_
      simp; omega
    · simp
theorem rows_few (ws:List Wd) (s:RS):(statementP ws s).1.rows.length ≤ ws.length + 2 := by
  have h1:∀ t,(createP ws t).1.rows = [] := fun t => by simp only [createP]; split; rfl; split <;> rfl
  have h2:∀ t,(dropP ws t).1.rows = [] := fun t => by simp only [dropP]; split; rfl; split <;> rfl
  have h3:∀ t,(insertP ws t).1.rows.length ≤ ws.length + 2 := fun t => by
    simp only [insertP,listP]
    refine Nat.le_trans (moreP_len _ _ _) ?_
    simp; omega
  have h6:∀ t,(lastP ws t).1.rows = [] := fun t => by simp only [lastP]; split; rfl; split; rfl; split <;> rfl
  simp only [statementP]
  split
  · rw [h1]; simp
  · split
    · rw [h2]; simp
    · split
      · exact h3 _
      · split
        · simp only [updateP]; simp [zS]
        · split
          · simp only [removeP]; simp [zS]
          · split
            · simp [zS]
            · rw [h6]; simp
theorem read5 {lf:Nat} (hf:5000000 < lf) {h:List Ob} (text:List UInt8):To2 (F5 lf text h) fun v h' => Kp h h' [] ∧ ∃ V,v = .tup [V,.int .i64 (readP text).2] ∧ rM.R (fun j => h.length ≤ j) h' V (readP text).1 := by
  have bz:∀ hh:List Ob,er (.build [(.int .i64 0),(.str []),(.str []),(.bool false),.nils,.nils,.nils,.nils,.nils,(.bool false),(.bool false),.nils,.nils,.nils,.nils,.nils,(.int .i64 0)] []) hh = some (.agg zM) := fun _ => rfl
  simp only [F5]
  refine To2.bind2 (alloc_to (cs := zM) rfl) ?_
  rintro x2 h1 ⟨rfl,sx,k1⟩
  have l1:h.length < h1.length := sx.lt
  refine To2.bind2 (words21 (by omega)) ?_
  rintro v h2 ⟨k2,hw⟩
  have sx2 := sx.kp k2
  have k12 := k1.tr k2
  have l2 := k2.len
  -- what is handed back
  have fin:∀ (g:List Ob) (ds:List V) (m:Sm) (er_:Int),St g h.length zM → Kp h g [] → ds.length = 17 → ds.all V.scalar = true → rM.R (fun j => h.length < j) g (.agg ds) m → ∀ er',er' = er_ →
      To2 (bind2 (ev (.store 17 (.c (.ptr h.length 0 0)) (.c (.agg ds))) g) fun _ g2 => bind1 (evLoadN g2 17 (.ptr h.length 0 0)) fun r => some ((.tup [r,(.int .i64 er')]),g2)) fun v h' => Kp h h' [] ∧ ∃ V,v = .tup [V,.int .i64 er_] ∧ rM.R (fun j => h.length ≤ j) h' V m := by
    intro g ds m er_ sg kg hl hs t er' he
    subst he
    refine To2.bind2 (sg.storeN (ds := ds) (by rw [hl]; rfl) (by simp) hs (n := 17) rfl) ?_
    rintro u g2 ⟨sg2,kg2⟩
    have hld:evLoadN g2 17 (.ptr h.length 0 0) = some (.agg ds) := by
      have := sg2.loadN
      rwa [hl] at this
    simp only [hld,bind1_some]
    refine To2.some ⟨kg.trans kg2 (fun j hj => by cases hj) (fun j hj hlt => by simp at hj; omega),_,rfl,?_⟩
    exact rM.mono (rM.keep t kg2 (fun j hj z => by simp at hj; omega)) (fun j _ z => Nat.le_of_lt z)
  cases hwp:wordsP text with
  | mk o e =>
    rw [hwp] at hw
    cases o with
    | none =>
      obtain ⟨rfl,he⟩ := hw
      have hne:(e != 0) = true := by simpa using he
      have hsp:readP text = (zS,e) := by unfold readP; rw [hwp]
      rw [hsp]
      simp only [castTup_tup,castCons_cons,castInt_int,castNil_nil,hne,cB_true,bz,bind1_some]
      exact fin h2 zM zS e sx2 k12 rfl rfl (rM0 (k := 0) (name := []) (on := []) (un := false)) e rfl
    | some ws =>
      obtain ⟨wv,rfl,sl,-,fw⟩ := hw
      have hsp:readP text = readW ws := by unfold readP; rw [hwp]
      rw [hsp]
      have hfew := wordsP_len hwp
      have hsh := wordsP_short hwp
      have b0:((0:Int) != 0) = false := by decide
      simp only [castTup_tup,castCons_cons,castInt_int,castNil_nil,b0,cB_false]
      -- the reader
      have wsc:wv.cells = [wv] ∧ wv.scalar = true := scN sl
      have br:er (.build [.nils,(.int .i64 0),(.int .i64 0)] [(0,(1,(.c wv)))]) h2 = some (.agg [wv,.int .i64 0,.int .i64 0]) := by
        have:fillV [.nils,(.int .i64 0),(.int .i64 0)] [(0,1,wv)] = some [wv,.int .i64 0,.int .i64 0] := by
          obtain ⟨-,h9⟩ := wsc
          cases wv <;> first | rfl | (simp [V.scalar] at h9)
        simp only [er,ev,evOq,x_build,List.map_cons,List.map_nil,getC,this]; rfl
      obtain ⟨r1,h3,e3,rfl,st3,k3⟩ := box_to (h := h2) (cs := [wv,.int .i64 0,.int .i64 0]) (by simp [wsc.2]; exact rfl)
      have f8:F8 lf wv h2 = some (.ptr h2.length 0 0,h3) := by
        simp only [F8,br,bind1_some,castAgg_agg,castCons_cons,castInt_int,castNil_nil,e3,bind2_some]
      have l3:h2.length < h3.length := st3.lt
      have bp:er (.build [.nilp] [(0,(1,(.c (.ptr h2.length 0 0))))]) h3 = some (.agg [.ptr h2.length 0 0]) := rfl
      simp only [f8,bind2_some,bp,bind1_some,castAgg_agg,castCons_cons,castNil_nil]
      refine To2.bind2 (box_to (cs := [.ptr h2.length 0 0]) rfl) ?_
      rintro r2 h4 ⟨rfl,st4,k4⟩
      have l4:h3.length < h4.length := st4.lt
      have rd4:Rd h4 h2.length wv ws ⟨0,0⟩ := ⟨st3.kp k4,(sl.kp k3).kp k4,fun z => by have := sl.lt z; omega,Nat.zero_le _,hfew⟩
      have q4:Pd h4 h3.length h2.length wv ws ⟨0,0⟩ := ⟨rd4,st4,by omega⟩
      have k14:Kp h h4 [] := (k12.tr k3).tr k4
      refine To2.bind2 (statement9 hf hsh q4) ?_
      rintro v h5 ⟨q5,k5,t5⟩
      obtain ⟨P,hP⟩:∃ p,p = statementP ws ⟨0,0⟩ := ⟨_,rfl⟩
      rw [← hP] at q5 t5
      have k15:Kp h h5 [] := k14.trans k5 (fun j hj => by cases hj) (fun j hj hlt => by simp at hj; omega)
      have sx5 := (((sx2.kp k3).kp k4).keep k5 (fun z => by simp at z; omega))
      have l5 := k5.len
      have hrow:P.1.rows.length ≤ 1000000 := by rw [hP]; have := rows_few ws ⟨0,0⟩; omega
      have t5c := t5
      obtain ⟨c1,c2,c3,c4,c5,a,b,c,d,e',rfl,u1,u2,u3,u4,u5,t1,t2,t3,t4,tt5⟩ := t5c
      have dsc := aM_sc (k := P.1.k) (name := P.1.name) (on := P.1.on) (un := P.1.un) (dis := P.1.q.dis) (star := P.1.q.star) (lim := P.1.q.lim) (LR.sc u1).2 (LR.sc u2).2 (LR.sc u3).2 (LR.sc u4).2 (LR.sc u5).2 (LR.sc t1).2 (LR.sc t2).2 (LR.sc t3).2 (LR.sc t4).2 (LR.sc tt5).2
      refine putN (n := 17) (zs := zM) (ds := aM P.1.k P.1.name P.1.on P.1.un c1 c2 c3 c4 c5 P.1.q.dis P.1.q.star a b c d e' P.1.q.lim) rfl rfl rfl (by decide) dsc fun h6 sm k6 => ?_
      have q6 := q5.kp k6
      have l6:h5.length < h6.length := sm.lt
      have t6 := rM.keep t5 k6 (fun j hj => by cases hj)
      simp only [q6.st.nilck,q6.st.faddr,q6.at0,bind1_some]
      refine To2.bind2 (have10 [59] q6.rd) ?_
      rintro v h7 ⟨rfl,d7,k7⟩
      obtain ⟨E,hE⟩:∃ p,p = haveP ws [59] P.2 := ⟨_,rfl⟩
      rw [← hE] at d7 ⊢
      have q7 := q6.up k7 d7
      simp only [castBool_bool]
      have key:To3 (S5_0 lf (.ptr h3.length 0 0) h7) fun x vs h' => x = .normal ∧ vs = [] ∧ Pd h' h3.length h2.length wv ws (endP ws P.2) ∧ Kp h7 h' [h2.length] := by
        simp only [S5_0,q7.st.nilck,q7.st.faddr,q7.at0,bind1_some,done11 q7.rd,bind2_some,castBool_bool,endP,← hE]
        by_cases z:E.2.i = ws.length
        · simp only [decide_eq_true z,Bool.not_true,cB_false,if_pos z]
          exact To3.some ⟨rfl,rfl,q7,Kp.refl _ _⟩
        · simp only [decide_eq_false z,Bool.not_false,cB_true,if_neg z]
          refine To3.bind2 (fail12 q7.rd) ?_
          rintro v h8 ⟨rfl,d8,k8⟩
          exact To3.some ⟨rfl,rfl,q7.up k8 d8,k8⟩
      refine To2.bind3 key ?_
      rintro x vs h8 ⟨rfl,rfl,q8,k8⟩
      have k68 := Kp.rr k7 k8
      have l8 := k68.len
      have sx8 := (sx5.kp k6).keep k68 (fun z => by simp at z; omega)
      have sm8 := sm.keep k68 (fun z => by simp at z; omega)
      have t8 := rM.mono (rM.keep t6 k68 (fun j hj z => by simp at hj; omega)) (J := fun j => h.length < j) (fun j _ z => by omega)
      have k18:Kp h h8 [] := (k15.tr k6).trans k68 (fun j hj => by cases hj) (fun j hj hlt => by simp at hj; omega)
      simp only [decide_true,cB_true,castNil_nil,q8.st.nilck,q8.st.faddr,q8.at0,bind1_some,err13 q8.rd,bind2_some,castInt_int]
      by_cases z:(endP ws P.2).e = 0
      · have z0:((endP ws P.2).e != 0) = false := by rw [z]; rfl
        simp only [z0,cB_false,sm8.loadN' (n := 17) rfl,bind1_some]
        refine To2.bind2 (long14 t8 hrow (by omega)) ?_
        rintro bv h9 ⟨rfl,k9⟩
        have sx9 := sx8.kp k9
        have sm9 := sm8.kp k9
        have t9 := rM.keep t8 k9 (fun j hj => by cases hj)
        have k19 := k18.tr k9
        simp only [castBool_bool]
        cases hlg:longP P.1 with
        | true =>
          have hr:readW ws = (zS,5) := by simp only [readW,← hP,z,ne_eq,not_true_eq_false,if_false,hlg,if_true]
          rw [hr]
          simp only [cB_true,bz,bind1_some]
          exact fin h9 zM zS 5 sx9 k19 rfl rfl (rM0 (k := 0) (name := []) (on := []) (un := false)) 5 rfl
        | false =>
          have hr:readW ws = (P.1,0) := by simp only [readW,← hP,z,ne_eq,not_true_eq_false,if_false,hlg,Bool.false_eq_true]
          rw [hr]
          simp only [cB_false,sm9.loadN' (n := 17) rfl,bind1_some]
          exact fin h9 _ P.1 0 sx9 k19 rfl dsc t9 0 rfl
      · have z0:((endP ws P.2).e != 0) = true := by simpa using z
        have hr:readW ws = (zS,(endP ws P.2).e) := by simp only [readW,← hP]; rw [if_pos z]
        rw [hr]
        simp only [z0,cB_true,bz,bind1_some,q8.st.nilck,q8.st.faddr,q8.at0,err13 q8.rd,bind2_some,castInt_int]
        exact fin h8 zM zS (endP ws P.2).e sx8 k18 rfl rfl (rM0 (k := 0) (name := []) (on := []) (un := false)) _ rfl
end Go.Proofs.Ytjpjeilfmjdhcaa.Ps
