/- The reader of expressions walked: operands. No condition. -/
import Derived.Test.YtjpjeilfmjdhcaaDoorRdS
namespace Go.Proofs.YtjpjeilfmjdhcaaDoor.Rd
open Go Go.Proofs.YtjpjeilfmjdhcaaDoor.E
open Go.Proofs.YtjpjeilfmjdhcaaDoor.Ln
open Go.Proofs.YtjpjeilfmjdhcaaDoor.Ex
open Go.Proofs.YtjpjeilfmjdhcaaDoor.Pr
set_option maxRecDepth 100000
set_option linter.unusedVariables false
set_option linter.unusedSimpArgs false
theorem word_to3 {h:List Ob} {w:Wd} {K:V → List Ob → SubR} {Q:EX → List V → List Ob → Prop} (hK:∀ h2,St h2 h.length (cW w) → Kp h h2 [] → To3 (K (.ptr h.length 0 0) h2) Q) :
    To3 (bind2 (ev (.alloc false (.agg [(.int .i64 0),(.str []),(.int .i64 0)])) h) fun x h_1 => bind2 (ev (.store 3 (.c x) (.c (.agg [(.int .i64 w.k),(.str w.s),(.int .i64 w.n)]))) h_1) fun _ h_2 => K x h_2) Q := by
  refine To3.bind2 (alloc_to (cs := cW zW) rfl) ?_
  rintro x h1 ⟨rfl,st,k1⟩
  refine To3.bind2 (st.storeN (ds := cW w) rfl (by simp) rfl (n := 3) rfl) ?_
  rintro u h2 ⟨st2,k2⟩
  exact hK h2 st2 (k1.trans k2 (fun j hj => by cases hj) (fun j hj hlt => by simp at hj; omega))
/-- A deeper call reads a function over a column. -/
abbrev AggR (lf k f r:Nat) (wv:V) (ws:List Wd):Prop := ∀ (h:List Ob) (s:RS) (w:Wd),Rd h r wv ws s → ws[s.i]? = some w → 10 * (ws.length - s.i) ≤ f + 2 → To2 (R25 lf k 65 [.ptr r 0 0] h) (XQ h r wv ws (aggP ws (binP ws f 0) w.s s))
theorem atom84 (lf k fb r:Nat) (hf:1000 < lf) {wv:V} {ws:List Wd} (hb:BinR lf k fb r wv ws) (ha:AggR lf k fb r wv ws) {h:List Ob} {s:RS} (q:Rd h r wv ws s) (hn:10 * (ws.length - s.i) ≤ fb + 2):To2 (F57 lf (R25 lf k) (.ptr r 0 0) h) (XQ h r wv ws (atomP ws (binP ws fb 0) s)) := by
  have hrl := q.lt
  have hvl:∀ j,j ∈ idsOf wv → j < h.length := fun j hj => q.sl.lt hj
  simp only [F57]
  refine To2.bind2 (alloc_to (cs := zC) rfl) ?_
  rintro x2 h1 ⟨rfl,sx,k1⟩
  have l1:h.length < h1.length := sx.lt
  refine To2.bind2 (have10 [40] (q.kp k1)) ?_
  rintro v h2 ⟨rfl,q2,k2⟩
  have sx2 := sx.keep k2 (fun z => by simp at z; omega)
  have k02 := Kp.to k1 k2
  have l2:h1.length ≤ h2.length := k2.len
  simp only [castBool_bool]
  cases hp:(haveP ws [40] s).1 with
  | true =>
    obtain ⟨hs,hlt⟩ := haveP_i hp
    have hi:s.i < (haveP ws [40] s).2.i := by rw [hs]; simp [adv]
    have hle2 := q2.le
    have hsp:atomP ws (binP ws fb 0) s = ((binP ws fb 0 (haveP ws [40] s).2).1,wantP ws [[41]] (binP ws fb 0 (haveP ws [40] s).2).2) := by simp only [atomP,hp,if_true]
    rw [hsp]
    simp only [cB_true]
    refine To2.bind2 (bin_at hb 0 rfl (by decide) q2 (by omega)) ?_
    rintro v h3 ⟨q3,k3,n,pv,ps,hpx,rfl,e3⟩
    have sx3 := sx2.keep k3 (fun z => by simp at z; omega)
    have l3:h2.length ≤ h3.length := k3.len
    simp only [castAgg_agg,castCons_cons,castInt_int,castStr_str,castNil_nil]
    refine put8 (ex_sc e3) fun h4 se k4 => ?_
    have e4 := e3.kp k4
    have l4:h3.length < h4.length := se.lt
    refine want_to hf (q3.kp k4) (l := [[41]]) (ps := [(0,.str [41])]) rfl (by decide) rfl rfl fun h5 q5 k5 => ?_
    have se5 := se.keep k5 (fun z => by simp at z; omega)
    have sx5 := (sx3.kp k4).keep k5 (fun z => by simp at z; omega)
    have e5 := e4.keep k5 (fun j hj z => by simp at hj; omega)
    simp only [se5.loadN' (n := 8) rfl,bind1_some,castAgg_agg,castCons_cons,castInt_int,castStr_str,castNil_nil]
    rw [hpx]
    exact fin8 (cs := zC) (n := n) (pv := pv) (ps := ps) q rfl sx5 q5 (Kp.rr (Kp.ro (Kp.rr k02 k3) k4) k5) e5 (fun j z => by omega)
  | false =>
    simp only [cB_false]
    refine To2.bind2 (next33 2 q2) ?_
    rintro v h3 ⟨rfl,k3⟩
    simp only [castTup_tup,castCons_cons,castAgg_agg,castInt_int,castStr_str,castBool_bool,castNil_nil]
    refine word_to fun h4 sw k4 => ?_
    have k34 := k3.tr k4
    have q4 := q2.kp k34
    have sx4 := sx2.kp k34
    have k04 := Kp.ro k02 k34
    have l4:h2.length ≤ h3.length := k3.len
    cases h2n:nextP ws 2 (haveP ws [40] s).2 with
    | some w =>
      rw [h2n,Option.getD_some] at sw
      simp only [Option.isSome_some,cB_true,q4.st.nilck,q4.st.faddr,q4.at1,bind1_some,castInt_int]
      refine To2.bind2 (q4.adv_to (next_i h2n).1) ?_
      rintro u h5 ⟨q5,k5⟩
      have sw5 := sw.keep k5 (fun z => by simp at z; omega)
      have sx5 := sx4.keep k5 (fun z => by simp at z; omega)
      have b1:er (.build [(.int .i64 0),(.int .i64 0),(.str [])] [(0,(1,(.c (.int .i64 (1))))),(1,(1,(.c (.int .i64 w.n))))]) h5 = some (.agg [.int .i64 1,.int .i64 w.n,.str []]) := rfl
      have b2:er (.build [(.int .i64 0),(.str []),(.int .i64 0),(.int .i64 0),(.str []),(.str []),(.str []),.nils] [(0,(1,(.c (.int .i64 (1))))),(2,(3,(.c (.agg [(.int .i64 1),(.int .i64 w.n),(.str [])]))))]) h5 = some (.agg (aC ⟨1,[],1,w.n,[],[],[]⟩ .nils)) := rfl
      simp only [sw5.faddr,sw5.load1 (j := 0 + 2) (c := .int .i64 w.n) rfl,bind1_some,castInt_int,b1,b2,castAgg_agg,castCons_cons,castStr_str,castNil_nil]
      have hsp:atomP ws (binP ws fb 0) s = (litI w.n,adv (haveP ws [40] s).2) := by simp only [atomP,hp,Bool.false_eq_true,if_false,h2n]
      rw [hsp]
      exact fin8 (cs := zC) (n := ⟨1,[],1,w.n,[],[],[]⟩) (pv := .nils) (ps := []) (I := fun j => h.length < j) q rfl sx5 q5 (Kp.rr k04 k5) ex0 (fun j z => z)
    | none =>
      simp only [Option.isSome_none,cB_false]
      refine To2.bind2 (next33 3 q4) ?_
      rintro v h5 ⟨rfl,k5⟩
      simp only [castTup_tup,castCons_cons,castAgg_agg,castInt_int,castStr_str,castBool_bool,castNil_nil]
      refine word_to fun h6 sv k6 => ?_
      have k56 := k5.tr k6
      have q6 := q4.kp k56
      have sx6 := sx4.kp k56
      have k06 := Kp.ro k04 k56
      have l6:h4.length ≤ h5.length := k5.len
      have l34:h3.length ≤ h4.length := k4.len
      cases h3n:nextP ws 3 (haveP ws [40] s).2 with
      | some w =>
        rw [h3n,Option.getD_some] at sv
        simp only [Option.isSome_some,cB_true,q6.st.nilck,q6.st.faddr,q6.at1,bind1_some,castInt_int]
        refine To2.bind2 (q6.adv_to (next_i h3n).1) ?_
        rintro u h7 ⟨q7,k7⟩
        have sv7 := sv.keep k7 (fun z => by simp at z; omega)
        have sx7 := sx6.keep k7 (fun z => by simp at z; omega)
        have b1:er (.build [(.int .i64 0),(.int .i64 0),(.str [])] [(0,(1,(.c (.int .i64 (2))))),(2,(1,(.c (.str w.s))))]) h7 = some (.agg [.int .i64 2,.int .i64 0,.str w.s]) := rfl
        have b2:er (.build [(.int .i64 0),(.str []),(.int .i64 0),(.int .i64 0),(.str []),(.str []),(.str []),.nils] [(0,(1,(.c (.int .i64 (1))))),(2,(3,(.c (.agg [(.int .i64 2),(.int .i64 0),(.str w.s)]))))]) h7 = some (.agg (aC ⟨1,[],2,0,w.s,[],[]⟩ .nils)) := rfl
        simp only [sv7.faddr,sv7.load1 (j := 0 + 1) (c := .str w.s) rfl,bind1_some,castInt_int,b1,b2,castAgg_agg,castCons_cons,castStr_str,castNil_nil]
        have hsp:atomP ws (binP ws fb 0) s = (litT w.s,adv (haveP ws [40] s).2) := by simp only [atomP,hp,Bool.false_eq_true,if_false,h2n,h3n]
        rw [hsp]
        exact fin8 (cs := zC) (n := ⟨1,[],2,0,w.s,[],[]⟩) (pv := .nils) (ps := []) (I := fun j => h.length < j) q rfl sx7 q7 (Kp.rr k06 k7) ex0 (fun j z => z)
      | none =>
        simp only [Option.isSome_none,cB_false]
        refine To2.bind2 (have10 [78,85,76,76] q6) ?_
        rintro v h7 ⟨rfl,q7,k7⟩
        have sx7 := sx6.keep k7 (fun z => by simp at z; omega)
        have k07 := Kp.rr k06 k7
        have l67:h6.length ≤ h7.length := k7.len
        have l56:h5.length ≤ h6.length := k6.len
        simp only [castBool_bool]
        cases hg:(haveP ws [78,85,76,76] (haveP ws [40] s).2).1 with
        | true =>
          have b1:er (.build [(.int .i64 0),(.str []),(.int .i64 0),(.int .i64 0),(.str []),(.str []),(.str []),.nils] [(0,(1,(.c (.int .i64 (1)))))]) h7 = some (.agg (aC ⟨1,[],0,0,[],[],[]⟩ .nils)) := rfl
          have hsp:atomP ws (binP ws fb 0) s = (litN,(haveP ws [78,85,76,76] (haveP ws [40] s).2).2) := by simp only [atomP,hp,Bool.false_eq_true,if_false,h2n,h3n,hg,if_true]
          rw [hsp]
          simp only [cB_true,b1,bind1_some,castAgg_agg,castCons_cons,castInt_int,castStr_str,castNil_nil]
          exact fin8 (cs := zC) (n := ⟨1,[],0,0,[],[],[]⟩) (pv := .nils) (ps := []) (I := fun j => h.length < j) q rfl sx7 q7 k07 ex0 (fun j z => z)
        | false =>
          simp only [cB_false]
          -- is it a function over a column?
          have isA:To3 (S57_0 lf (R25 lf k) (.ptr r 0 0) (.ptr h.length 0 0) h7) fun x vs h' => vs = [] ∧ Kp h h' [r] ∧
              ((x = .ret ∧ ∃ w n pv ps,nextP ws 1 (haveP ws [78,85,76,76] (haveP ws [40] s).2).2 = some w ∧ inP w.s aggs = true ∧ (aggP ws (binP ws fb 0) w.s (haveP ws [78,85,76,76] (haveP ws [40] s).2).2).1 = .mk n ps ∧ Rd h' r wv ws (aggP ws (binP ws fb 0) w.s (haveP ws [78,85,76,76] (haveP ws [40] s).2).2).2 ∧ St h' h.length (aC n pv) ∧ Ex (fun j => h.length < j) h' (.agg (aC n pv)) (.mk n ps)) ∨
               (x = .normal ∧ (∀ w,nextP ws 1 (haveP ws [78,85,76,76] (haveP ws [40] s).2).2 = some w → inP w.s aggs = false) ∧ Rd h' r wv ws (haveP ws [78,85,76,76] (haveP ws [40] s).2).2 ∧ St h' h.length zC)) := by
            simp only [S57_0]
            refine To3.bind2 (next33 1 q7) ?_
            rintro v h8 ⟨rfl,k8⟩
            simp only [castTup_tup,castCons_cons,castAgg_agg,castInt_int,castStr_str,castBool_bool,castNil_nil]
            refine word_to3 fun h9 su k9 => ?_
            have k89 := k8.tr k9
            have q9 := q7.kp k89
            have sx9 := sx7.kp k89
            have k09 := Kp.ro k07 k89
            cases h1n:nextP ws 1 (haveP ws [78,85,76,76] (haveP ws [40] s).2).2 with
            | none =>
              simp only [Option.isSome_none,cB_false]
              exact To3.some ⟨rfl,k09,.inr ⟨rfl,(fun w z => nomatch z),q9,sx9⟩⟩
            | some w =>
              rw [h1n,Option.getD_some] at su
              simp only [Option.isSome_some,cB_true,su.faddr,su.load1 (j := 0 + 1) (c := .str w.s) rfl,bind1_some,castStr_str]
              refine To3.bind2 (agg116 hf w.s) ?_
              rintro v h10 ⟨rfl,k10⟩
              simp only [castBool_bool]
              have q10 := q9.kp k10
              have sx10 := sx9.kp k10
              have k010 := Kp.ro k09 k10
              cases hag:inP w.s aggs with
              | false =>
                simp only [cB_false]
                exact To3.some ⟨rfl,k010,.inr ⟨rfl,(fun w' z => by injection z with z; subst z; exact hag),q10,sx10⟩⟩
              | true =>
                simp only [cB_true]
                have hle10 := haveP_mono ws [78,85,76,76] (haveP ws [40] s).2
                have hle11 := haveP_mono ws [40] s
                refine To3.bind2 (ha h10 _ w q10 (next_i h1n).2.2.1 (by omega)) ?_
                rintro v h11 ⟨q11,k11,n,pv,ps,hpx,rfl,e11⟩
                have sx11 := sx10.keep k11 (fun z => by simp at z; omega)
                have l11:h.length < h10.length := sx10.lt
                simp only [castAgg_agg,castCons_cons,castInt_int,castStr_str,castNil_nil]
                refine To3.bind2 (sx11.storeN (ds := aC n pv) rfl (by simp) (ex_sc e11) (n := 8) rfl) ?_
                rintro u h12 ⟨sx12,k12⟩
                refine To3.some ⟨rfl,(Kp.rr k010 k11).trans k12 (fun j hj _ => hj) (fun j hj hlt => by simp at hj; omega),.inl ⟨rfl,w,n,pv,ps,rfl,hag,hpx,?_,sx12,?_⟩⟩
                · exact ⟨q11.st.keep k12 (fun z => by simp at z; omega),q11.sl.keep k12 (fun j hj z => by simp at z; have := hvl j hj; omega),q11.nr,q11.le,q11.few⟩
                · exact (e11.mono (fun j _ z => by omega)).keep k12 (fun j hj z => by simp at hj; omega)
          refine To2.bind3 isA ?_
          rintro x vs h8 ⟨rfl,k08,⟨rfl,w,n,pv,ps,h1n,hag,hpx,q8,sx8,e8⟩ | ⟨rfl,hno,q8,sx8⟩⟩
          · have hsp:atomP ws (binP ws fb 0) s = aggP ws (binP ws fb 0) w.s (haveP ws [78,85,76,76] (haveP ws [40] s).2).2 := by simp only [atomP,hp,Bool.false_eq_true,if_false,h2n,h3n,hg,h1n,hag,if_true]
            rw [hsp]
            simp only [decide_true,cB_true,castNil_nil,show evLoadN h8 8 (.ptr h.length 0 0) = some (.agg (aC n pv)) from sx8.loadN,bind1_some]
            exact To2.some ⟨q8,k08,n,pv,ps,hpx,rfl,e8.mono fun j _ z => Nat.le_of_lt z⟩
          · have dn:decide (EX.normal = EX.ret) = false := rfl
            have l8:h.length < h8.length := sx8.lt
            simp only [dn,cB_false,decide_true,cB_true,castNil_nil]
            have hcol:(match nextP ws 1 (haveP ws [78,85,76,76] (haveP ws [40] s).2).2 with
                | some w => if inP w.s aggs = true then aggP ws (binP ws fb 0) w.s (haveP ws [78,85,76,76] (haveP ws [40] s).2).2 else colP ws (haveP ws [78,85,76,76] (haveP ws [40] s).2).2
                | none => colP ws (haveP ws [78,85,76,76] (haveP ws [40] s).2).2) = colP ws (haveP ws [78,85,76,76] (haveP ws [40] s).2).2 := by
              cases h1n:nextP ws 1 (haveP ws [78,85,76,76] (haveP ws [40] s).2).2 with
              | none => rfl
              | some w => simp only [hno w h1n,Bool.false_eq_true,if_false]
            have hsp:atomP ws (binP ws fb 0) s = colP ws (haveP ws [78,85,76,76] (haveP ws [40] s).2).2 := by
              simp only [atomP,hp,Bool.false_eq_true,if_false,h2n,h3n,hg]
              exact hcol
            rw [hsp]
            clear hcol hsp
            generalize (haveP ws [78,85,76,76] (haveP ws [40] s).2).2 = t at q8
            refine To2.bind2 (name49 q8) ?_
            rintro v h9 ⟨rfl,q9,k9⟩
            have sx9 := sx8.keep k9 (fun z => by simp at z; omega)
            have k09 := Kp.rr k08 k9
            have l9:h8.length ≤ h9.length := k9.len
            have b1:er (.build [(.int .i64 0),(.str []),(.int .i64 0),(.int .i64 0),(.str []),(.str []),(.str []),.nils] [(0,(1,(.c (.int .i64 (2))))),(6,(1,(.c (.str (nameR ws t).1))))]) h9 = some (.agg (aC ⟨2,[],0,0,[],[],(nameR ws t).1⟩ .nils)) := rfl
            simp only [castStr_str,b1,bind1_some,castAgg_agg,castCons_cons,castInt_int,castNil_nil]
            refine put8 (n := ⟨2,[],0,0,[],[],(nameR ws t).1⟩) (pv := .nils) rfl fun h10 se k10 => ?_
            have q10 := q9.kp k10
            have sx10 := sx9.kp k10
            have k010 := Kp.ro k09 k10
            refine To2.bind2 (have10 [46] q10) ?_
            rintro v h11 ⟨rfl,q11,k11⟩
            have se11 := se.keep k11 (fun z => by simp at z; omega)
            have sx11 := sx10.keep k11 (fun z => by simp at z; omega)
            have k011 := Kp.rr k010 k11
            simp only [castBool_bool,colP]
            cases hd:(haveP ws [46] (nameR ws t).2).1 with
            | false =>
              simp only [cB_false,Bool.false_eq_true,if_false,se11.loadN' (n := 8) rfl,bind1_some,castAgg_agg,castCons_cons,castInt_int,castStr_str,castNil_nil]
              exact fin8 (cs := zC) (n := ⟨2,[],0,0,[],[],(nameR ws t).1⟩) (pv := .nils) (ps := []) (I := fun j => h.length < j) q rfl sx11 q11 k011 ex0 (fun j z => z)
            | true =>
              obtain ⟨v,h12,ev12,rfl,q12,k12⟩ := name49 (lf := lf) q11
              have se12 := se11.keep k12 (fun z => by simp at z; omega)
              have sx12 := sx11.keep k12 (fun z => by simp at z; omega)
              simp only [cB_true,if_true,se11.faddr,se11.load1 (j := 0 + 6) (c := .str (nameR ws t).1) rfl,bind1_some,castStr_str,ev12,bind2_some,se12.faddr,se12.load1 (j := 0 + 6) (c := .str (nameR ws t).1) rfl,reP_of]
              refine To2.bind2 (se12.store1 (j := 0 + 5) (x := .str (nameR ws t).1) (by simp) ⟨rfl,rfl⟩) ?_
              rintro u h13 ⟨se13,k13⟩
              simp only [se13.faddr,bind1_some]
              refine To2.bind2 (se13.store1 (j := 0 + 6) (x := .str (nameR ws (haveP ws [46] (nameR ws t).2).2).1) (by simp) ⟨rfl,rfl⟩) ?_
              rintro u h14 ⟨se14,k14⟩
              have k1214 := k13.trans k14 (C := [h9.length]) (fun j hj _ => hj) (fun j hj _ => hj)
              have sx14 := sx12.keep k1214 (fun z => by simp at z; omega)
              have q14:Rd h14 r wv ws (nameR ws (haveP ws [46] (nameR ws t).2).2).2 := ⟨q12.st.keep k1214 (fun z => by simp at z; omega),q12.sl.keep k1214 (fun j hj z => by simp at z; have := hvl j hj; omega),q12.nr,q12.le,q12.few⟩
              have se14':St h14 h9.length (aC ⟨2,[],0,0,[],(nameR ws t).1,(nameR ws (haveP ws [46] (nameR ws t).2).2).1⟩ .nils) := se14
              simp only [se14'.loadN' (n := 8) rfl,bind1_some,castAgg_agg,castCons_cons,castInt_int,castStr_str,castNil_nil]
              exact fin8 (cs := zC) (n := ⟨2,[],0,0,[],(nameR ws t).1,(nameR ws (haveP ws [46] (nameR ws t).2).2).1⟩) (pv := .nils) (ps := []) (I := fun j => h.length < j) q rfl sx14 q14 ((Kp.rr k011 k12).trans k1214 (fun j hj _ => hj) (fun j hj hlt => by simp at hj; omega)) ex0 (fun j z => z)
end Go.Proofs.YtjpjeilfmjdhcaaDoor.Rd
