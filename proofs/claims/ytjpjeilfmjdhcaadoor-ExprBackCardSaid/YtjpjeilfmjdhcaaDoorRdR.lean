/- The reader of expressions walked: chains of operators, comparisons. No condition. -/
import Derived.Test.YtjpjeilfmjdhcaaDoorRdQ
namespace Go.Proofs.YtjpjeilfmjdhcaaDoor.Rd
open Go Go.Proofs.YtjpjeilfmjdhcaaDoor.E
open Go.Proofs.YtjpjeilfmjdhcaaDoor.Ln
open Go.Proofs.YtjpjeilfmjdhcaaDoor.Ex
open Go.Proofs.YtjpjeilfmjdhcaaDoor.Pr
set_option maxRecDepth 100000
set_option linter.unusedVariables false
set_option linter.unusedSimpArgs false
/-- A deeper call reads what it should. -/
abbrev BinR (lf k f r:Nat) (wv:V) (ws:List Wd):Prop := ∀ (of:Nat) (h:List Ob) (s:RS),of ≤ 6 → Rd h r wv ws s → 10 * (ws.length - s.i) + 8 ≤ f + of →
  To2 (R25 lf k 25 [.ptr r 0 0,.int .i64 (of:Int)] h) (XQ h r wv ws (binP ws f of s))
theorem bin_at {lf k f r:Nat} {wv:V} {ws:List Wd} (hb:BinR lf k f r wv ws) {x:Int} (of:Nat) (hx:x = (of:Int)) {h:List Ob} {s:RS} (h6:of ≤ 6) (q:Rd h r wv ws s) (hn:10 * (ws.length - s.i) + 8 ≤ f + of) :
    To2 (R25 lf k 25 [.ptr r 0 0,.int .i64 x] h) (XQ h r wv ws (binP ws f of s)) := by subst hx; exact hb of h s h6 q hn
theorem op_at {lf:Nat} {h:List Ob} {r:Nat} {wv:V} {ws:List Wd} {s:RS} {x:Int} (of:Nat) (hx:x = (of:Int)) (q:Rd h r wv ws s):To2 (F44 lf (.ptr r 0 0) x h) fun v h' => v = .tup [.str ((opP ws of s).1.getD []),.bool (opP ws of s).1.isSome] ∧ Rd h' r wv ws (opP ws of s).2 ∧ Kp h h' [r] := by subst hx; exact op79 of q
theorem loop73 (lf k fb r:Nat) {wv:V} {ws:List Wd} (hb:BinR lf k fb r wv ws) {of:Nat} (hof:of + 1 ≤ 6) {h0:List Ob} {x4 eid:Nat} (hx4:h0.length ≤ x4) (hr:r < x4) (hwv:∀ j,j ∈ idsOf wv → j < x4) (hxe:x4 < eid) :
    ∀ (m f g:Nat) (h:List Ob) (s:RS) (n:Nd) (pv:V) (ps:List X) (cs:List V),ws.length - s.i ≤ m → m < f → m < g → 10 * (ws.length - s.i) + 8 ≤ fb + (of + 1) → Rd h r wv ws s → Kp h0 h [r] → cs.length = 8 → St h x4 cs → St h eid (aC n pv) → Ex (fun j => x4 < j ∧ j ≠ eid) h (.agg (aC n pv)) (.mk n ps) →
    To3 (L25_1 lf (R25 lf k) f (.ptr r 0 0) (of:Int) (.ptr x4 0 0) (.ptr eid 0 0) h) fun x vs h' => x = .ret ∧ vs = [] ∧ ∃ n' pv' ps',(loopP ws (binP ws fb (of + 1)) of g (.mk n ps) s).1 = .mk n' ps' ∧ St h' x4 (aC n' pv') ∧ Ex (fun j => x4 < j) h' (.agg (aC n' pv')) (.mk n' ps') ∧ Rd h' r wv ws (loopP ws (binP ws fb (of + 1)) of g (.mk n ps) s).2 ∧ Kp h0 h' [r] := by
  intro m
  induction m with
  | zero =>
    intro f g h s n pv ps cs hm hf hg hnd q k0 h8 sx se e
    obtain ⟨f,rfl⟩:∃ f',f = f' + 1 := ⟨f - 1,by omega⟩
    obtain ⟨g,rfl⟩:∃ g',g = g' + 1 := ⟨g - 1,by omega⟩
    simp only [L25_1,B25_1]
    refine To3.bind2 (op79 of q) ?_
    rintro v h1 ⟨rfl,q1,k1⟩
    cases ho:opP ws of s with
    | mk o s1 =>
      rw [ho] at q1
      cases o with
      | some op =>
        exfalso
        have := opP_some ho
        have h2 := q1.le
        rw [this] at h2
        simp only [adv] at h2
        omega
      | none =>
        have hs1 := opP_none ho
        subst hs1
        simp only [loopP,ho,castTup_tup,castCons_cons,castStr_str,castBool_bool,castNil_nil,Option.isSome_none,Bool.not_false,cB_true]
        have se1 := se.keep k1 (fun z => by simp at z; omega)
        have sx1 := sx.keep k1 (fun z => by simp at z; omega)
        have e1 := e.keep k1 (fun j hj z => by simp at hj; omega)
        simp only [se1.loadN' (n := 8) rfl,bind1_some,castAgg_agg,castCons_cons,castInt_int,castStr_str,castNil_nil]
        refine To3.bind2 (sx1.storeN (ds := aC n pv) (by rw [h8]; rfl) (by omega) (ex_sc e) (n := 8) h8) ?_
        rintro u h2 ⟨sx2,k2⟩
        refine To3.some ⟨rfl,rfl,n,pv,ps,rfl,sx2,?_,?_,?_⟩
        · exact (e1.keep k2 (fun j hj z => by simp at hj; omega)).mono fun j _ z => z.1
        · exact ⟨q1.st.keep k2 (fun z => by simp at z; omega),q1.sl.keep k2 (fun j hj z => by simp at z; have := hwv j hj; omega),q1.nr,q1.le,q1.few⟩
        · exact (Kp.rr k0 k1).trans k2 (fun j hj _ => hj) (fun j hj hlt => by simp at hj; omega)
  | succ m ih =>
    intro f g h s n pv ps cs hm hf hg hnd q k0 h8 sx se e
    obtain ⟨f,rfl⟩:∃ f',f = f' + 1 := ⟨f - 1,by omega⟩
    obtain ⟨g,rfl⟩:∃ g',g = g' + 1 := ⟨g - 1,by omega⟩
    simp only [L25_1,B25_1]
    refine To3.bind2 (op79 of q) ?_
    rintro v h1 ⟨rfl,q1,k1⟩
    have se1 := se.keep k1 (fun z => by simp at z; omega)
    have sx1 := sx.keep k1 (fun z => by simp at z; omega)
    have e1 := e.keep k1 (fun j hj z => by simp at hj; omega)
    cases ho:opP ws of s with
    | mk o s1 =>
      rw [ho] at q1
      cases o with
      | none =>
        have hs1 := opP_none ho
        subst hs1
        simp only [loopP,ho,castTup_tup,castCons_cons,castStr_str,castBool_bool,castNil_nil,Option.isSome_none,Bool.not_false,cB_true]
        simp only [se1.loadN' (n := 8) rfl,bind1_some,castAgg_agg,castCons_cons,castInt_int,castStr_str,castNil_nil]
        refine To3.bind2 (sx1.storeN (ds := aC n pv) (by rw [h8]; rfl) (by omega) (ex_sc e) (n := 8) h8) ?_
        rintro u h2 ⟨sx2,k2⟩
        refine To3.some ⟨rfl,rfl,n,pv,ps,rfl,sx2,?_,?_,?_⟩
        · exact (e1.keep k2 (fun j hj z => by simp at hj; omega)).mono fun j _ z => z.1
        · exact ⟨q1.st.keep k2 (fun z => by simp at z; omega),q1.sl.keep k2 (fun j hj z => by simp at z; have := hwv j hj; omega),q1.nr,q1.le,q1.few⟩
        · exact (Kp.rr k0 k1).trans k2 (fun j hj _ => hj) (fun j hj hlt => by simp at hj; omega)
      | some op =>
        have hs1 := opP_some ho
        subst hs1
        have wof:IntKind.i64.wrap ((of:Int) + 1) = ((of + 1:Nat):Int) := by rw [wrap_i64 (by omega) (by omega)]; simp
        have hle := q1.le
        simp only [adv] at hle
        simp only [loopP,ho,castTup_tup,castCons_cons,castStr_str,castBool_bool,castNil_nil,Option.isSome_some,Option.getD_some,Bool.not_true,cB_false,wof]
        simp only [se1.loadN' (n := 8) rfl,bind1_some,castAgg_agg,castCons_cons,castInt_int,castStr_str,castNil_nil]
        refine To3.bind2 (hb (of + 1) h1 (adv s) hof q1 (by simp only [adv]; omega)) ?_
        rintro v h2 ⟨q2,k2,n2,pv2,ps2,hp2,rfl,e2⟩
        have l1:eid < h1.length := se1.lt
        have se2 := se1.keep k2 (fun z => by simp at z; omega)
        have sx2 := sx1.keep k2 (fun z => by simp at z; omega)
        have e12 := e1.keep k2 (fun j hj z => by simp at hj; omega)
        simp only [castAgg_agg,castCons_cons,castInt_int,castStr_str,castNil_nil,se2.loadN' (n := 8) rfl,reP_of]
        refine To3.bind2 (part2 e12 e2 (m := ⟨4,op,0,0,[],[],[]⟩)) ?_
        rintro y h3 ⟨yc,ys,k3,e3⟩
        simp only [build_op yc ys,bind1_some,castAgg_agg,castCons_cons,castInt_int,castStr_str,castNil_nil]
        have se3 := se2.kp k3
        refine To3.bind2 (se3.storeN (ds := aC ⟨4,op,0,0,[],[],[]⟩ y) rfl (by simp) (ex_sc e3) (n := 8) rfl) ?_
        rintro u h4 ⟨se4,k4⟩
        have sx4 := (sx2.kp k3).keep k4 (fun z => by simp at z; omega)
        have q3 := q2.kp k3
        have q4:Rd h4 r wv ws (binP ws fb (of + 1) (adv s)).2 := ⟨q3.st.keep k4 (fun z => by simp at z; omega),q3.sl.keep k4 (fun j hj z => by simp at z; have := hwv j hj; omega),q3.nr,q3.le,q3.few⟩
        have l2:h1.length ≤ h2.length := k2.len
        have e4:Ex (fun j => x4 < j ∧ j ≠ eid) h4 (.agg (aC ⟨4,op,0,0,[],[],[]⟩ y)) (.mk ⟨4,op,0,0,[],[],[]⟩ [.mk n ps,.mk n2 ps2]) := by
          refine (e3.mono (fun j _ z => ?_)).keep k4 (fun j hj z => by simp at hj; omega)
          rcases z with z | z | z <;> omega
        have mono := binP_mono ws fb (of + 1) (adv s)
        simp only [adv] at mono
        rw [hp2]
        have k04:Kp h0 h4 [r] := (Kp.ro (Kp.rr (Kp.rr k0 k1) k2) k3).trans k4 (fun j hj _ => hj) (fun j hj hlt => by simp at hj; omega)
        exact ih f g h4 _ _ y _ cs (by simp only [adv] at *; omega) (by omega) (by omega) (by simp only [adv] at *; omega) q4 k04 h8 sx4 se4 e4
theorem cmp77 (lf k fb r:Nat) (hf:1000 < lf) {wv:V} {ws:List Wd} (hb:BinR lf k fb r wv ws) {h:List Ob} {s:RS} (q:Rd h r wv ws s) (hn:10 * (ws.length - s.i) + 8 ≤ fb + 4):To2 (F42 lf (R25 lf k) (.ptr r 0 0) h) (XQ h r wv ws (cmpP ws (binP ws fb 4) s)) := by
  have hrl := q.lt
  have hvl:∀ j,j ∈ idsOf wv → j < h.length := fun j hj => q.sl.lt hj
  simp only [F42]
  refine To2.bind2 (alloc_to (cs := zC) rfl) ?_
  rintro x2 h1 ⟨rfl,sx,k1⟩
  have q1 := q.kp k1
  have l1:h.length < h1.length := sx.lt
  refine To2.bind2 (bin_at hb 4 rfl (by decide) q1 hn) ?_
  rintro v h2 ⟨q2,k2,n,pv,ps,hp,rfl,e2⟩
  simp only [castAgg_agg,castCons_cons,castInt_int,castStr_str,castNil_nil]
  have sx2 := sx.keep k2 (fun z => by simp at z; omega)
  have l2:h1.length ≤ h2.length := k2.len
  have mono := binP_mono ws fb 4 s
  refine put8 (ex_sc e2) fun h3 se k3 => ?_
  have q3 := q2.kp k3
  have sx3 := sx2.kp k3
  have e3 := e2.kp k3
  have k03:Kp h h3 [r] := Kp.ro (Kp.to k1 k2) k3
  have l3:h2.length < h3.length := se.lt
  refine To2.bind2 (op_at 3 rfl q3) ?_
  rintro v h4 ⟨rfl,q4,k4⟩
  have se4 := se.keep k4 (fun z => by simp at z; omega)
  have sx4 := sx3.keep k4 (fun z => by simp at z; omega)
  have e4 := e3.keep k4 (fun j hj z => by simp at hj; omega)
  have l4:h3.length ≤ h4.length := k4.len
  have k04 := Kp.rr k03 k4
  unfold cmpP
  cases ho:opP ws 3 (binP ws fb 4 s).2 with
  | mk o s1 =>
    rw [ho] at q4
    cases o with
    | some op =>
      have hs1 := opP_some ho
      subst hs1
      have hle := q4.le
      simp only [adv] at hle
      simp only [castTup_tup,castCons_cons,castStr_str,castBool_bool,castNil_nil,Option.isSome_some,Option.getD_some,cB_true,se4.loadN' (n := 8) rfl,bind1_some,castAgg_agg,castInt_int]
      refine To2.bind2 (bin_at hb 4 rfl (by decide) q4 (by simp only [adv]; omega)) ?_
      rintro v h5 ⟨q5,k5,n2,pv2,ps2,hp2,rfl,e5⟩
      have se5 := se4.keep k5 (fun z => by simp at z; omega)
      have sx5 := sx4.keep k5 (fun z => by simp at z; omega)
      have e45 := e4.keep k5 (fun j hj z => by simp at hj; omega)
      simp only [castAgg_agg,castCons_cons,castInt_int,castStr_str,castNil_nil,se5.loadN' (n := 8) rfl,reP_of]
      refine To2.bind2 (part2 e45 e5 (m := ⟨4,op,0,0,[],[],[]⟩)) ?_
      rintro y h6 ⟨yc,ys,k6,e6⟩
      have l5:h4.length ≤ h5.length := k5.len
      simp only [build_op yc ys,bind1_some,castAgg_agg,castCons_cons,castInt_int,castStr_str,castNil_nil]
      rw [hp,hp2]
      show To2 _ (XQ h r wv ws (X.mk ⟨4,op,0,0,[],[],[]⟩ [.mk n ps,.mk n2 ps2],(binP ws fb 4 (adv (binP ws fb 4 s).2)).2))
      exact fin8 (cs := zC) (n := ⟨4,op,0,0,[],[],[]⟩) (pv := y) (ps := [.mk n ps,.mk n2 ps2]) q rfl (sx5.kp k6) (q5.kp k6) (Kp.ro (Kp.rr k04 k5) k6) e6 (fun j z => by rcases z with z | z | z <;> omega)
    | none =>
      have hs1 := opP_none ho
      subst hs1
      simp only [castTup_tup,castCons_cons,castStr_str,castBool_bool,castNil_nil,Option.isSome_none,cB_false]
      refine To2.bind2 (have10 [73,83] q4) ?_
      rintro v h5 ⟨rfl,q5,k5⟩
      have se5 := se4.keep k5 (fun z => by simp at z; omega)
      have sx5 := sx4.keep k5 (fun z => by simp at z; omega)
      have e5 := e4.keep k5 (fun j hj z => by simp at hj; omega)
      have l5:h4.length ≤ h5.length := k5.len
      have k05 := Kp.rr k04 k5
      simp only [castBool_bool]
      by_cases hi:(haveP ws [73,83] (binP ws fb 4 s).2).1 = false
      · simp only [hi,Bool.not_false,cB_true,if_true,se5.loadN' (n := 8) rfl,bind1_some,castAgg_agg,castCons_cons,castInt_int,castStr_str,castNil_nil]
        rw [hp]
        exact fin8 (cs := zC) (n := n) (pv := pv) (ps := ps) q rfl sx5 q5 k05 e5 (fun j z => by omega)
      · have hi':(haveP ws [73,83] (binP ws fb 4 s).2).1 = true := by simpa using hi
        simp only [hi',Bool.not_true,cB_false,Bool.true_eq_false,if_false,S42_0]
        obtain ⟨v,h6,ev6,rfl,q6,k6⟩ := have10 (lf := lf) [78,79,84] q5
        have se6 := se5.keep k6 (fun z => by simp at z; omega)
        have sx6 := sx5.keep k6 (fun z => by simp at z; omega)
        have e6 := e5.keep k6 (fun j hj z => by simp at hj; omega)
        have l6:h5.length ≤ h6.length := k6.len
        have k06 := Kp.rr k05 k6
        have fin:∀ op:List UInt8,To2 (bind2 (ev (.bslice 1 (.str []) 1 [(0,(.c (.str [78,85,76,76])))]) h6) fun x28 h_7 =>
            bind2 (F56 lf (.ptr r 0 0) x28 h_7) fun x29 h_8 =>
            bind1 (er (.loadN 8 (.c (.ptr h2.length 0 0))) h_8) fun v3 =>
            castAgg v3 fun l13 => castCons l13 fun c10 l14 => castInt .i64 c10 fun x31_0 => castCons l14 fun c11 l15 => castStr c11 fun x31_1 => castCons l15 fun c12 l16 => castInt .i64 c12 fun x31_2 =>
            castCons l16 fun c13 l17 => castInt .i64 c13 fun x31_3 => castCons l17 fun c14 l18 => castStr c14 fun x31_4 => castCons l18 fun c15 l19 => castStr c15 fun x31_5 => castCons l19 fun c16 l20 => castStr c16 fun x31_6 =>
            castCons l20 fun x31_7 l21 => castNil l21 (
            bind2 (ev (.bslice 8 (.agg [(.int .i64 0),(.str []),(.int .i64 0),(.int .i64 0),(.str []),(.str []),(.str []),.nils]) 1 [(0,(.c (.agg [(.int .i64 x31_0),(.str x31_1),(.int .i64 x31_2),(.int .i64 x31_3),(.str x31_4),(.str x31_5),(.str x31_6),x31_7])))]) h_8) fun x32 h_9 =>
            bind1 (er (.build [(.int .i64 0),(.str []),(.int .i64 0),(.int .i64 0),(.str []),(.str []),(.str []),.nils] [(0,(1,(.c (.int .i64 (5))))),(1,(1,(.c (.str op)))),(7,(1,(.c x32)))]) h_9) fun v4 =>
            castAgg v4 fun l22 => castCons l22 fun c17 l23 => castInt .i64 c17 fun x33_0 => castCons l23 fun c18 l24 => castStr c18 fun x33_1 => castCons l24 fun c19 l25 => castInt .i64 c19 fun x33_2 =>
            castCons l25 fun c20 l26 => castInt .i64 c20 fun x33_3 => castCons l26 fun c21 l27 => castStr c21 fun x33_4 => castCons l27 fun c22 l28 => castStr c22 fun x33_5 => castCons l28 fun c23 l29 => castStr c23 fun x33_6 =>
            castCons l29 fun x33_7 l30 => castNil l30 (
            bind2 (ev (.store 8 (.c (.ptr h.length 0 0)) (.c (.agg [(.int .i64 x33_0),(.str x33_1),(.int .i64 x33_2),(.int .i64 x33_3),(.str x33_4),(.str x33_5),(.str x33_6),x33_7]))) h_9) fun u1 h_10 =>
            bind1 (evLoadN h_10 8 (.ptr h.length 0 0)) fun r1 => some (r1,h_10))))
            (XQ h r wv ws (tstX op (.mk n ps),wantP ws [[78,85,76,76]] (haveP ws [78,79,84] (haveP ws [73,83] (binP ws fb 4 s).2).2).2)) := by
          intro op
          refine want_to hf q6 (l := [[78,85,76,76]]) (ps := [(0,.str [78,85,76,76])]) rfl (by decide) rfl rfl fun h7 q7 k7 => ?_
          have se7 := se6.keep k7 (fun z => by simp at z; omega)
          have sx7 := sx6.keep k7 (fun z => by simp at z; omega)
          have e7 := e6.keep k7 (fun j hj z => by simp at hj; omega)
          have l7:h6.length ≤ h7.length := k7.len
          simp only [se7.loadN' (n := 8) rfl,bind1_some,castAgg_agg,castCons_cons,castInt_int,castStr_str,castNil_nil]
          refine To2.bind2 (part1 e7 (m := ⟨5,op,0,0,[],[],[]⟩)) ?_
          rintro y h8 ⟨yc,ys,k8,e8⟩
          simp only [build_op yc ys,bind1_some,castAgg_agg,castCons_cons,castInt_int,castStr_str,castNil_nil]
          exact fin8 (cs := zC) (n := ⟨5,op,0,0,[],[],[]⟩) (pv := y) (ps := [.mk n ps]) q rfl (sx7.kp k8) (q7.kp k8) (Kp.ro (Kp.rr k06 k7) k8) e8 (fun j z => by rcases z with z | z <;> omega)
        rw [hp]
        by_cases hj:(haveP ws [78,79,84] (haveP ws [73,83] (binP ws fb 4 s).2).2).1 = true
        · simp only [ev6,bind2_some,castBool_bool,hj,cB_true,bind3_some,decide_true,castCons_cons,castStr_str,castNil_nil,if_true]
          exact fin _
        · have hj':(haveP ws [78,79,84] (haveP ws [73,83] (binP ws fb 4 s).2).2).1 = false := by simpa using hj
          simp only [ev6,bind2_some,castBool_bool,hj',cB_false,bind3_some,decide_true,cB_true,castCons_cons,castStr_str,castNil_nil,Bool.false_eq_true,if_false]
          exact fin _
end Go.Proofs.YtjpjeilfmjdhcaaDoor.Rd
