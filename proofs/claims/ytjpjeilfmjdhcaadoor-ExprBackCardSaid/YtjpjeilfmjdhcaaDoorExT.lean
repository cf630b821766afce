/- Expressions: whether one is formed, by both functions. No condition. -/
import Derived.Test.YtjpjeilfmjdhcaaDoorExS
namespace Go.Proofs.YtjpjeilfmjdhcaaDoor.Ex
open Go Go.Proofs.YtjpjeilfmjdhcaaDoor.E
open Go.Proofs.YtjpjeilfmjdhcaaDoor.Ln
set_option maxRecDepth 100000
set_option linter.unusedVariables false
set_option linter.unusedSimpArgs false
/-- All names that are there fit. -/
def Wz (w:Nat):Nat → X → Prop
  | 0,_ => False
  | k + 1,.mk n ps => (n.tb.length ≤ w ∧ n.cl.length ≤ w ∧ ps.length ≤ w) ∧ ∀ p,p ∈ ps → Wz w k p
def frmB:Nat → X → Bool
  | 0,_ => false
  | m + 1,.mk n ps => shB n ps.length && ps.all (frmB m)
abbrev Forms (lf w k m:Nat) (I:Nat → Prop):Prop := ∀ (d:Nat) (x:X) (n:Nd) (pv:V) (ps:List X) (h:List Ob),Wz w d x → x = .mk n ps → Ex I h (.agg (aC n pv)) x →
  To2 (F19 lf (R19 lf k) n.k n.op n.vk n.vn n.vs n.tb n.cl pv (m:Int) h) fun v h' => v = .bool (frmB m x) ∧ Kp h h' []
theorem loop117 (lf k w m:Nat) (hm8:m ≤ 8) {I:Nat → Prop} {h0:List Ob} {mp:Nat} {pv:V} {es:List V} {ps:List X} {d:Nat} (s:Sl 8 h0 pv es) (hl:es.length = ps.length) (hp:∀ (i:Nat) (e:V) (p:X),es[i]? = some e → ps[i]? = some p → Ex I h0 e p) (hd:∀ p,p ∈ ps → Wz w d p)
    (sc:Sc h0 mp (.int .i64 ((m + 1:Nat):Int))) (hw:ps.length ≤ 4611686018427387904) (IH:Forms lf w k m I) :
    ∀ (r i f:Nat) (h:List Ob),ps.length = i + r → r < f → Kp h0 h [] → To3 (L48_0 lf (cv19 lf (R19 lf (k + 2))) f pv (.fn 28 [.ptr mp 0 0]) ps.length i h) fun x vs h' => Kp h0 h' [] ∧ if (ps.drop i).all (frmB m) = true then x = .exit 0 ∧ vs = [] else x = .ret ∧ ∃ j:Nat,vs = [.int .i64 (j:Int)] := by
  intro r
  induction r with
  | zero =>
    intro i f h hm hf kp
    obtain ⟨f,rfl⟩:∃ g,f = g + 1 := ⟨f - 1,by omega⟩
    have hd:decide ((i:Int) < (ps.length:Int)) = false := decide_eq_false (by omega)
    have hn:ps.drop i = [] := List.drop_of_length_le (by omega)
    simp only [L48_0,B48_0,hd,cB_false]
    refine To3.some ⟨kp,?_⟩
    rw [hn,List.all_nil,if_pos rfl]
    exact ⟨rfl,rfl⟩
  | succ r ih =>
    intro i f h hm hf kp
    obtain ⟨f,rfl⟩:∃ g,f = g + 1 := ⟨f - 1,by omega⟩
    have hlt:i < ps.length := by omega
    have hdd:decide ((i:Int) < (ps.length:Int)) = true := decide_eq_true (by omega)
    have w1:IntKind.i64.wrap ((i:Int) + 1) = ((i + 1:Nat):Int) := by rw [wrap_i64 (by omega) (by omega)]; omega
    obtain ⟨a,n1,pv1,ps1,e1,a1,a2,x1,c1⟩ := Ex.at (s.kp kp) hl (fun i e p g1 g2 => (hp i e p g1 g2).kp kp) hlt
    have ecv:∀ h5,cv19 lf (R19 lf (k + 2)) (.fn 28 [.ptr mp 0 0]) [.agg (aC n1 pv1)] h5 = F28 lf (R19 lf (k + 1)) n1.k n1.op n1.vk n1.vn n1.vs n1.tb n1.cl pv1 (.ptr mp 0 0) h5 := fun h5 => rfl
    simp only [L48_0,B48_0,hdd,cB_true,a1,a2,bind1_some,castAgg_agg,castCons_cons,castInt_int,castStr_str,castNil_nil,w1,ecv]
    have h102:To2 (F28 lf (R19 lf (k + 1)) n1.k n1.op n1.vk n1.vn n1.vs n1.tb n1.cl pv1 (.ptr mp 0 0) h) fun v h' => v = .bool (!(frmB m ps[i])) ∧ Kp h h' [] := by
      simp only [F28]
      refine To2.bind2 (box_to (cs := aC n1 pv1) (by simp [c1]; exact ⟨rfl,rfl,rfl,rfl,rfl,rfl,rfl⟩)) ?_
      rintro v h1 ⟨rfl,st,k1⟩
      have ll:er (.loadN 8 (.c (.ptr h.length 0 0))) h1 = some (.agg (aC n1 pv1)) := st.loadN' rfl
      have lm := ((sc.kp kp).kp k1).load1 rfl
      have w2:IntKind.i64.wrap (((m + 1:Nat):Int) - 1) = (m:Int) := by rw [wrap_i64 (by omega) (by omega)]; omega
      have erc:∀ h5,R19 lf (k + 1) 19 [.agg (aC n1 pv1),.int .i64 (m:Int)] h5 = F19 lf (R19 lf k) n1.k n1.op n1.vk n1.vn n1.vs n1.tb n1.cl pv1 (m:Int) h5 := fun h5 => rfl
      simp only [ll,lm,bind1_some,castAgg_agg,castCons_cons,castInt_int,castStr_str,castNil_nil,w2,erc]
      refine To2.bind2 (IH d ps[i] n1 pv1 ps1 h1 (hd _ (List.getElem_mem hlt)) e1 (e1 ▸ x1.kp k1)) ?_
      rintro v h2 ⟨rfl,k2⟩
      rw [castBool_bool]
      exact To2.some ⟨rfl,k1.tr k2⟩
    refine To3.bind2 h102 ?_
    rintro v h5 ⟨rfl,k5⟩
    have kp5 := kp.tr k5
    rw [castBool_bool]
    cases hE:frmB m ps[i] with
    | false =>
      simp only [Bool.not_false,cB_true]
      refine To3.some ⟨kp5,?_⟩
      rw [List.drop_eq_getElem_cons hlt,List.all_cons,hE,Bool.false_and,if_neg (by decide)]
      exact ⟨rfl,i,rfl⟩
    | true =>
      simp only [Bool.not_true,cB_false]
      rw [List.drop_eq_getElem_cons hlt,List.all_cons,hE,Bool.true_and]
      exact ih (i + 1) f h5 (by omega) (by omega) kp5
theorem forms_step (lf w k m:Nat) (hf:1000 < lf) (hw:w < lf) (hw2:w ≤ 1000000000000000) (hm8:m + 1 ≤ 8) {I:Nat → Prop} (IH:Forms lf w k m I):Forms lf w (k + 2) (m + 1) I := by
  intro d x n pv ps h hd hx ex
  subst hx
  obtain ⟨es,s,hi,hl,hp⟩ := ex.inv
  obtain ⟨d,rfl⟩:∃ e,d = e + 1 := by
    cases d with
    | zero => exact absurd hd (by simp [Wz])
    | succ d => exact ⟨d,rfl⟩
  obtain ⟨⟨hd1,hd2,hd3⟩,hd4⟩ := hd
  simp only [F19]
  refine To2.bind2 (box_to (cs := aC n pv) (aC_sc s)) ?_
  rintro v h1 ⟨rfl,st1,k1⟩
  refine To2.bind2 (scbox_to (v := .int .i64 ((m + 1:Nat):Int)) rfl) ?_
  rintro v h2 ⟨rfl,sc2,k2⟩
  have st2 := st1.kp k2
  have lm := sc2.load1 rfl
  have ll:er (.loadN 8 (.c (.ptr h.length 0 0))) h2 = some (.agg (aC n pv)) := st2.loadN' rfl
  have hpos:decide (((m + 1:Nat):Int) > 0) = true := decide_eq_true (by omega)
  have kk := k1.tr k2
  simp only [lm,bind1_some,castInt_int,hpos,cB_true,ll,castAgg_agg,castCons_cons,castStr_str,castNil_nil]
  refine To2.bind2 (shaped100 hf (s.kp kk) hl (by omega) (by omega) ⟨by omega,by omega⟩) ?_
  rintro v h3 ⟨rfl,k3⟩
  have kk3 := kk.tr k3
  rw [castBool_bool]
  have efr:frmB (m + 1) (.mk n ps) = (shB n ps.length && ps.all (frmB m)) := rfl
  rw [efr]
  cases hS:shB n ps.length with
  | false => exact To2.some ⟨rfl,kk3⟩
  | true =>
    have st3 := st2.kp k3
    have fa := st3.faddr 7 0 0
    have l7:er (.load1 (.c (.ptr h.length 0 7))) h3 = some pv := st3.load1 rfl
    have la := er_lenL (s.kp kk3)
    rw [hl] at la
    simp only [Nat.zero_add] at fa
    simp only [cB_true,fa,l7,bind1_some,F27,F48,la,castInt_int,Bool.true_and]
    have hL := loop117 lf k w m (by omega) (s.kp kk3) hl (fun i e p g1 g2 => (hp i e p g1 g2).kp kk3) hd4 (sc2.kp k3) (by omega) IH ps.length 0 lf h3 (by omega) (by omega) (Kp.refl _ _)
    have z:((0:Nat):Int) = 0 := rfl
    rw [z,List.drop_zero] at hL
    refine To2.bind2 (Q := fun v h' => v = .bool (!(ps.all (frmB m))) ∧ Kp h h' []) (To2.bind2 (Q := fun v h' => (∃ j:Int,v = .int .i64 j ∧ decide (j ≥ 0) = !(ps.all (frmB m))) ∧ Kp h h' []) (To2.bind3 hL ?_) ?_) ?_
    · rintro x vs h4 ⟨k4,r⟩
      have kk4 := kk3.tr k4
      cases hA:ps.all (frmB m) with
      | true =>
        rw [hA,if_pos rfl] at r
        obtain ⟨rfl,rfl⟩ := r
        simp only [decide_true,cB_true,castNil_nil]
        exact To2.some ⟨⟨-1,rfl,rfl⟩,kk4⟩
      | false =>
        rw [hA,if_neg (by decide)] at r
        obtain ⟨rfl,j,rfl⟩ := r
        simp only [show decide (EX.ret = EX.exit 0) = false from rfl,cB_false,decide_true,cB_true,castCons_cons,castInt_int,castNil_nil]
        exact To2.some ⟨⟨j,rfl,decide_eq_true (by omega)⟩,kk4⟩
    · rintro v h4 ⟨⟨j,rfl,hj⟩,k4⟩
      rw [castInt_int,hj]
      exact To2.some ⟨rfl,k4⟩
    · rintro v h4 ⟨rfl,k4⟩
      rw [castBool_bool,Bool.not_not]
      exact To2.some ⟨rfl,k4⟩
theorem forms_zero (lf w k:Nat) {I:Nat → Prop}:Forms lf w k 0 I := by
  intro d x n pv ps h hd hx ex
  subst hx
  obtain ⟨es,s,hi,hl,hp⟩ := ex.inv
  simp only [F19]
  refine To2.bind2 (box_to (cs := aC n pv) (aC_sc s)) ?_
  rintro v h1 ⟨rfl,st1,k1⟩
  refine To2.bind2 (scbox_to (v := .int .i64 ((0:Nat):Int)) rfl) ?_
  rintro v h2 ⟨rfl,sc2,k2⟩
  have lm := sc2.load1 rfl
  have hpos:decide (((0:Nat):Int) > 0) = false := by decide
  simp only [lm,bind1_some,castInt_int,hpos,cB_false]
  exact To2.some ⟨rfl,k1.tr k2⟩
theorem forms_all (lf w:Nat) (hf:1000 < lf) (hw:w < lf) (hw2:w ≤ 1000000000000000) {I:Nat → Prop}:∀ (m k:Nat),m ≤ 8 → 2 * m ≤ k → Forms lf w k m I
  | 0,k,_,_ => forms_zero lf w k
  | m + 1,k,h8,hk => by
    obtain ⟨k,rfl⟩:∃ j,k = j + 2 := ⟨k - 2,by omega⟩
    exact forms_step lf w k m hf hw hw2 h8 (forms_all lf w hf hw hw2 m k (by omega) (by omega))
/-! ### The document's -/
end Go.Proofs.YtjpjeilfmjdhcaaDoor.Ex
