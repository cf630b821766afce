/- ExprBack: the law's body. No condition. -/
import Derived.Test.YtjpjeilfmjdhcaaDoorEbX
namespace Go.Proofs.YtjpjeilfmjdhcaaDoor.Eb
open Go Go.Proofs.YtjpjeilfmjdhcaaDoor.E
open Go.Proofs.YtjpjeilfmjdhcaaDoor.Ln
open Go.Proofs.YtjpjeilfmjdhcaaDoor.Ex
open Go.Proofs.YtjpjeilfmjdhcaaDoor.Pr
open Go.Proofs.YtjpjeilfmjdhcaaDoor.Rd
open Go.Proofs.YtjpjeilfmjdhcaaDoor.Lb
set_option maxRecDepth 100000
set_option linter.unusedVariables false
set_option linter.unusedSimpArgs false
/-- A formed expression's text is read as it, or is too long. -/
theorem back {x:X} {k:Nat} (h:frmB 8 x = true) (hv:Vz k x):parseP (txtB 8 x 0) = (x,0) ∨ parseP (txtB 8 x 0) = (zX,5) := by
  unfold parseP
  rcases words_txt (fm_of 8 k x h hv) with e | e
  · refine .inl ?_
    rw [e]
    have he:doneX (tokB 8 x 0) ⟨(tokB 8 x 0).length,0⟩ = ⟨(tokB 8 x 0).length,0⟩ := by
      unfold doneX
      rw [if_pos rfl,if_pos rfl]
    simp only [parseW,expr_back h hv,he,ne_eq,not_true_eq_false,if_false]
  · exact .inr (by rw [e])
theorem head3 {lf w:Nat} (hf:5000000 < lf) (hw:w < lf) (hw2:w ≤ 4611686018427387904) {k:Nat} (hk:k ≤ lf) {n:Nd} {pv:V} {ps:List X} {h:List Ob} {ie:Nat} {I:Nat → Prop}
    (zx:Fz w k (.mk n ps)) (st:St h ie (aC n pv)) (ex:Ex I h (.agg (aC n pv)) (.mk n ps)) :
    To3 (S3_0 lf (.ptr ie 0 0) h) fun x vs h' => Kp h h' [] ∧ (x = .ret ∧ vs = [.bool true] ∨ x = .normal ∧ vs = []) := by
  simp only [S3_0]
  refine To3.bind2 (awake4 hf) ?_
  rintro v h1 ⟨rfl,k1⟩
  have l1:er (.loadN 8 (.c (.ptr ie 0 0))) h1 = some (.agg (aC n pv)) := (st.kp k1).loadN' rfl
  simp only [castBool_bool,Bool.not_true,cB_false,l1,bind1_some,castAgg_agg,castCons_cons,castInt_int,castStr_str,castNil_nil]
  refine To3.bind2 (small44 hw hw2 hk zx (ex.kp k1)) ?_
  rintro v h2 ⟨⟨b,rfl⟩,k2⟩
  rw [castBool_bool]
  cases b with
  | false =>
    rw [Bool.not_false,cB_true]
    refine To3.bind2 (awake4 hf) ?_
    rintro v h3 ⟨rfl,k3⟩
    rw [castBool_bool]
    exact To3.some ⟨(k1.tr k2).tr k3,.inl ⟨rfl,rfl⟩⟩
  | true =>
    rw [Bool.not_true,cB_false]
    exact To3.some ⟨k1.tr k2,.inr ⟨rfl,rfl⟩⟩
theorem law3 {lf w wz d m k:Nat} (hf:5000000 < lf) (hw:w < lf) (hw2:w * 112 ≤ 140737488355328) (hz:wz < lf) (hz2:wz ≤ 1000000000000000) (hk:k ≤ lf) {I:Nat → Prop} {n:Nd} {pv:V} {ps:List X} {h:List Ob}
    (zx:Fz w k (.mk n ps)) (hd:Wz wz d (.mk n ps)) (hv:Vz m (.mk n ps)) (ex:Ex I h (.agg (aC n pv)) (.mk n ps)) (pin:PinH h) :
    To2 (F3 lf n.k n.op n.vk n.vn n.vs n.tb n.cl pv h) fun v h' => v = .bool true ∧ Kp h h' [] := by
  have zx1:Fz w (lf + 1) (.mk n ps) := zx.mono (by omega)
  simp only [F3]
  refine To2.bind2 (box_to (cs := aC n pv) (ex_sc ex)) ?_
  rintro v h1 ⟨rfl,st,k1⟩
  refine To2.bind3 (head3 hf hw (by omega) hk zx st (ex.kp k1)) ?_
  rintro x vs h2 ⟨k2,⟨rfl,rfl⟩ | ⟨rfl,rfl⟩⟩
  · simp only [decide_true,cB_true,castCons_cons,castBool_bool,castNil_nil]
    exact To2.some ⟨rfl,k1.tr k2⟩
  · have st2 := st.kp k2
    have ex2 := (ex.kp k1).kp k2
    have k02 := k1.tr k2
    have l2:er (.loadN 8 (.c (.ptr h.length 0 0))) h2 = some (.agg (aC n pv)) := st2.loadN' rfl
    simp only [show decide (EX.normal = EX.ret) = false from rfl,cB_false,decide_true,cB_true,castNil_nil,l2,bind1_some,castAgg_agg,castCons_cons,castInt_int,castStr_str]
    refine To2.bind2 (th_all lf w hw hw2 (I := I) lf _ zx1 n pv ps h2 rfl ex2) ?_
    rintro v h3 ⟨⟨qv,rfl,y3⟩,k3⟩
    simp only [castAgg_agg,castCons_cons,castInt_int,castStr_str,castNil_nil]
    have k03 := k02.tr k3
    refine To2.bind2 (print6 (by omega) hz hz2 hd hv y3 (pin.kp k03)) ?_
    rintro v h4 ⟨rfl,k4⟩
    have k04 := k03.tr k4
    simp only [castTup_tup,castCons_cons,castStr_str,castInt_int,castNil_nil,printP]
    cases hfr:frmB 8 (.mk n ps) with
    | false =>
      simp only [Bool.false_eq_true,if_false]
      exact To2.some ⟨rfl,k04⟩
    | true =>
      have e0:((0:Int) != 0) = false := by decide
      simp only [if_true,e0,cB_false]
      refine To2.bind2 (parse8 hf _) ?_
      rintro v h5 ⟨k5,n',pv',ps',rfl,hx,ex5⟩
      have k05 := k04.tr k5
      simp only [castTup_tup,castCons_cons,castAgg_agg,castInt_int,castStr_str,castNil_nil]
      refine put8 (ex_sc ex5) fun h6 sx k6 => ?_
      have k06 := k05.tr k6
      rcases back hfr hv with hb | hb
      · rw [hb] at hx ⊢
        injection hx with hn hps
        subst hn; subst hps
        have e5:((0:Int) == 5) = false := by decide
        have lx:er (.loadN 8 (.c (.ptr h5.length 0 0))) h6 = some (.agg (aC n pv')) := sx.loadN' rfl
        have st6 := ((((st2.kp k3).kp k4).kp k5).kp k6)
        have ex6 := (((ex2.kp k3).kp k4).kp k5).kp k6
        have le:er (.loadN 8 (.c (.ptr h.length 0 0))) h6 = some (.agg (aC n pv)) := st6.loadN' rfl
        simp only [e5,cB_false,beq_self_eq_true,cB_true,lx,le,bind1_some,castAgg_agg,castCons_cons,castInt_int,castStr_str,castNil_nil]
        refine To2.bind2 (th_all lf w hw hw2 (I := I) lf _ zx1 n pv ps h6 rfl ex6) ?_
        rintro v h7 ⟨⟨qv7,rfl,y7⟩,k7⟩
        have lx7:er (.loadN 8 (.c (.ptr h5.length 0 0))) h7 = some (.agg (aC n pv')) := (sx.kp k7).loadN' rfl
        simp only [castAgg_agg,castCons_cons,castInt_int,castStr_str,castNil_nil]
        rw [reP_pos _ lx7]
        refine To2.bind2 (same48 lf w hw (by omega) lf _ _ zx1 n n pv' qv7 ps ps h7 rfl rfl ((ex5.kp k6).kp k7) y7) ?_
        rintro v h8 ⟨rfl,k8⟩
        rw [castBool_bool,eqB_self _ _ zx1.dp]
        exact To2.some ⟨rfl,(k06.tr k7).tr k8⟩
      · rw [hb]
        have e5:((5:Int) == 5) = true := by decide
        simp only [e5,cB_true]
        exact To2.some ⟨rfl,k06⟩
end Go.Proofs.YtjpjeilfmjdhcaaDoor.Eb
