/- The reader of expressions walked: an expression that comes next, formed or too deep. No condition. -/
import Derived.Test.YtjpjeilfmjdhcaaDoorRdU
import Derived.Test.YtjpjeilfmjdhcaaDoorPrT
namespace Go.Proofs.YtjpjeilfmjdhcaaDoor.Rd
open Go Go.Proofs.YtjpjeilfmjdhcaaDoor.E
open Go.Proofs.YtjpjeilfmjdhcaaDoor.Ln
open Go.Proofs.YtjpjeilfmjdhcaaDoor.Ex
open Go.Proofs.YtjpjeilfmjdhcaaDoor.Pr
set_option maxRecDepth 100000
set_option linter.unusedVariables false
set_option linter.unusedSimpArgs false
theorem form_at {lf w:Nat} (hf:1000 < lf) (hw:w < lf) (hw2:w ≤ 1000000000000000) {I:Nat → Prop} {n:Nd} {pv:V} {ps:List X} {h:List Ob} {m:Int} (hm:m = ((8:Nat):Int)) (g:Gd w (.mk n ps)) (e:Ex I h (.agg (aC n pv)) (.mk n ps)) :
    To2 (F19 lf (R19 lf lf) n.k n.op n.vk n.vn n.vs n.tb n.cl pv m h) fun v h' => v = .bool (frmB 8 (.mk n ps)) ∧ Kp h h' [] := by
  subst hm
  obtain ⟨d,hd⟩ := g
  exact forms_all lf w hf hw hw2 8 lf (by decide) (by omega) d _ n pv ps h hd rfl e
theorem expr57 {lf r:Nat} (hf:5000000 < lf) {wv:V} {ws:List Wd} (hsh:Short 5000 ws) {h:List Ob} {s:RS} (q:Rd h r wv ws s):To2 (F15 lf (.ptr r 0 0) h) (XQ h r wv ws (exprP ws s)) := by
  have hrl := q.lt
  have hvl:∀ j,j ∈ idsOf wv → j < h.length := fun j hj => q.sl.lt hj
  have hfew := q.few
  simp only [F15]
  refine To2.bind2 (alloc_to (cs := zC) rfl) ?_
  rintro x2 h1 ⟨rfl,sx,k1⟩
  have l1:h.length < h1.length := sx.lt
  have q1 := q.kp k1
  have hC:(ws.length + 10) * (10 * ws.length + 10) ≤ lf + 1 := by
    have:(ws.length + 10) * (10 * ws.length + 10) ≤ 610 * 6010 := Nat.mul_le_mul (by omega) (by omega)
    omega
  have hb := bin_at (binR_all lf r (by omega) (wv := wv) (ws := ws) (10 * ws.length + 10) (lf + 1) hC) (x := 0) 0 rfl (by decide) q1 (by omega)
  refine To2.bind2 (show To2 (F25 lf (R25 lf lf) (.ptr r 0 0) 0 h1) _ from hb) ?_
  rintro v h2 ⟨q2,k2,n,pv,ps,hp,rfl,e2⟩
  have sx2 := sx.keep k2 (fun z => by simp at z; omega)
  have l2:h1.length ≤ h2.length := k2.len
  have k02 := Kp.to k1 k2
  have gd := binP_gd (W := 5000) (by decide) hsh (10 * ws.length + 10) 0 s
  rw [hp] at gd
  simp only [castAgg_agg,castCons_cons,castInt_int,castStr_str,castNil_nil]
  refine put8 (ex_sc e2) fun h3 se k3 => ?_
  have q3 := q2.kp k3
  have sx3 := sx2.kp k3
  have e3 := e2.kp k3
  have k03 := Kp.ro k02 k3
  have l3:h2.length < h3.length := se.lt
  have key:To3 (S15_0 lf (.ptr r 0 0) (.ptr h2.length 0 0) h3) fun x vs h' => x = .normal ∧ vs = [] ∧ Rd h' r wv ws (exprP ws s).2 ∧ (exprP ws s).1 = .mk n ps ∧ Kp h3 h' [r] := by
    simp only [S15_0,q3.st.nilck,q3.st.faddr,q3.at2,bind1_some,castInt_int,exprP]
    by_cases z:(binP ws (10 * ws.length + 10) 0 s).2.e = 0
    · have e0:((binP ws (10 * ws.length + 10) 0 s).2.e == 0) = true := by rw [z]; rfl
      simp only [e0,cB_true,se.loadN' (n := 8) rfl,bind1_some,castAgg_agg,castCons_cons,castInt_int,castStr_str,castNil_nil]
      refine To3.bind2 (form_at (w := 5000) (by omega) (by omega) (by decide) rfl gd e3) ?_
      rintro v h4 ⟨rfl,k4⟩
      have q4 := q3.kp k4
      rw [hp]
      cases hfr:frmB 8 (.mk n ps) with
      | true =>
        simp only [castBool_bool,Bool.not_true,cB_false,Bool.true_eq_false,and_false,if_false]
        exact To3.some ⟨rfl,rfl,q4,hp,k4.mono (fun j hj => by cases hj)⟩
      | false =>
        simp only [castBool_bool,Bool.not_false,cB_true,q4.st.nilck,q4.st.faddr,bind1_some,z,and_self,if_true]
        refine To3.bind2 (q4.err_to 4) ?_
        rintro u h5 ⟨q5,k5⟩
        exact To3.some ⟨rfl,rfl,q5,trivial,Kp.to k4 k5⟩
    · have e0:((binP ws (10 * ws.length + 10) 0 s).2.e == 0) = false := by simpa using z
      have hz:¬ ((binP ws (10 * ws.length + 10) 0 s).2.e = 0 ∧ frmB 8 (binP ws (10 * ws.length + 10) 0 s).1 = false) := fun y => z y.1
      simp only [e0,cB_false]
      rw [if_neg hz]
      exact To3.some ⟨rfl,rfl,q3,hp,Kp.refl _ _⟩
  refine To2.bind3 key ?_
  rintro x vs h4 ⟨rfl,rfl,q4,hpe,k4⟩
  have se4 := se.keep k4 (fun z => by simp at z; omega)
  have sx4 := sx3.keep k4 (fun z => by simp at z; omega)
  have e4 := e3.keep k4 (fun j hj z => by simp at hj; omega)
  simp only [decide_true,cB_true,castNil_nil,se4.loadN' (n := 8) rfl,bind1_some,castAgg_agg,castCons_cons,castInt_int,castStr_str]
  have hsp:exprP ws s = (.mk n ps,(exprP ws s).2) := by rw [← hpe]
  rw [hsp]
  exact fin8 (cs := zC) (n := n) (pv := pv) (ps := ps) q rfl sx4 q4 (Kp.rr k03 k4) e4 (fun j z => by omega)
end Go.Proofs.YtjpjeilfmjdhcaaDoor.Rd
