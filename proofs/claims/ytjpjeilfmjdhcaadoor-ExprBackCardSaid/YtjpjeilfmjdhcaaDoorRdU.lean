/- The reader of expressions walked: all levels; a whole expression. No condition. -/
import Derived.Test.YtjpjeilfmjdhcaaDoorRdT
namespace Go.Proofs.YtjpjeilfmjdhcaaDoor.Rd
open Go Go.Proofs.YtjpjeilfmjdhcaaDoor.E
open Go.Proofs.YtjpjeilfmjdhcaaDoor.Ln
open Go.Proofs.YtjpjeilfmjdhcaaDoor.Ex
open Go.Proofs.YtjpjeilfmjdhcaaDoor.Pr
set_option maxRecDepth 100000
set_option linter.unusedVariables false
set_option linter.unusedSimpArgs false
theorem aggR (lf k fb r:Nat) (hf:1000 < lf) {wv:V} {ws:List Wd} (hb:BinR lf k fb r wv ws):AggR lf (k + 1) fb r wv ws := by
  intro h s w q hw hn
  exact agg90 lf k fb r hf hb q hw hn
theorem ahead78 (lf K fb r:Nat) (hf:1000 < lf) {wv:V} {ws:List Wd} (hb:∀ k,K ≤ k → BinR lf k fb r wv ws):∀ (m g k:Nat) (h:List Ob) (s:RS),ws.length - s.i ≤ m → m < g → K + m + 3 ≤ k → Rd h r wv ws s → 10 * (ws.length - s.i) ≤ fb + 2 →
    To2 (F43 lf (R25 lf k) (.ptr r 0 0) h) (XQ h r wv ws (aheadP ws (binP ws fb 0) g s)) := by
  intro m
  induction m with
  | zero =>
    intro g k h s hm hg hk q hn
    obtain ⟨g,rfl⟩:∃ g',g = g' + 1 := ⟨g - 1,by omega⟩
    obtain ⟨k,rfl⟩:∃ k',k = k' + 2 := ⟨k - 2,by omega⟩
    have hrl := q.lt
    have hvl:∀ j,j ∈ idsOf wv → j < h.length := fun j hj => q.sl.lt hj
    simp only [F43]
    refine To2.bind2 (alloc_to (cs := zC) rfl) ?_
    rintro x2 h1 ⟨rfl,sx,k1⟩
    have l1:h.length < h1.length := sx.lt
    refine To2.bind2 (have10 [45] (q.kp k1)) ?_
    rintro v h2 ⟨rfl,q2,k2⟩
    have sx2 := sx.keep k2 (fun z => by simp at z; omega)
    have k02 := Kp.to k1 k2
    cases hp:(haveP ws [45] s).1 with
    | true =>
      have := haveP_i hp
      omega
    | false =>
      have hs := haveP_no hp
      simp only [castBool_bool,cB_false,aheadP,hp,Bool.false_eq_true,if_false]
      rw [hs] at q2 ⊢
      refine To2.bind2 (show To2 (R25 lf (k + 2) 57 [.ptr r 0 0] h2) _ from atom84 lf (k + 1) fb r hf (hb _ (by omega)) (aggR lf k fb r hf (hb _ (by omega))) q2 hn) ?_
      rintro v h3 ⟨q3,k3,n,pv,ps,hpx,rfl,e3⟩
      have sx3 := sx2.keep k3 (fun z => by simp at z; omega)
      have l2:h1.length ≤ h2.length := k2.len
      simp only [castAgg_agg,castCons_cons,castInt_int,castStr_str,castNil_nil]
      have hsp:atomP ws (binP ws fb 0) s = (.mk n ps,(atomP ws (binP ws fb 0) s).2) := by rw [← hpx]
      rw [hsp]
      exact fin8 (cs := zC) (n := n) (pv := pv) (ps := ps) q rfl sx3 q3 (Kp.rr k02 k3) e3 (fun j z => by omega)
  | succ m ih =>
    intro g k h s hm hg hk q hn
    obtain ⟨g,rfl⟩:∃ g',g = g' + 1 := ⟨g - 1,by omega⟩
    obtain ⟨k,rfl⟩:∃ k',k = k' + 2 := ⟨k - 2,by omega⟩
    have hrl := q.lt
    have hvl:∀ j,j ∈ idsOf wv → j < h.length := fun j hj => q.sl.lt hj
    simp only [F43]
    refine To2.bind2 (alloc_to (cs := zC) rfl) ?_
    rintro x2 h1 ⟨rfl,sx,k1⟩
    have l1:h.length < h1.length := sx.lt
    refine To2.bind2 (have10 [45] (q.kp k1)) ?_
    rintro v h2 ⟨rfl,q2,k2⟩
    have sx2 := sx.keep k2 (fun z => by simp at z; omega)
    have k02 := Kp.to k1 k2
    have l2:h1.length ≤ h2.length := k2.len
    cases hp:(haveP ws [45] s).1 with
    | true =>
      obtain ⟨hs,hlt⟩ := haveP_i hp
      have hi:(haveP ws [45] s).2.i = s.i + 1 := by rw [hs]; rfl
      simp only [castBool_bool,cB_true,aheadP,hp,if_true]
      refine To2.bind2 (show To2 (R25 lf (k + 2) 43 [.ptr r 0 0] h2) _ from ih g (k + 1) h2 _ (by omega) (by omega) (by omega) q2 (by omega)) ?_
      rintro v h3 ⟨q3,k3,n,pv,ps,hpx,rfl,e3⟩
      have sx3 := sx2.keep k3 (fun z => by simp at z; omega)
      simp only [castAgg_agg,castCons_cons,castInt_int,castStr_str,castNil_nil]
      refine To2.bind2 (part1 e3 (m := ⟨3,[45],0,0,[],[],[]⟩)) ?_
      rintro y h4 ⟨yc,ys,k4,e4⟩
      have l3:h2.length ≤ h3.length := k3.len
      simp only [build_op yc ys,bind1_some,castAgg_agg,castCons_cons,castInt_int,castStr_str,castNil_nil]
      rw [hpx]
      exact fin8 (cs := zC) (n := ⟨3,[45],0,0,[],[],[]⟩) (pv := y) (ps := [.mk n ps]) q rfl (sx3.kp k4) (q3.kp k4) (Kp.ro (Kp.rr k02 k3) k4) e4 (fun j z => by rcases z with z | z <;> omega)
    | false =>
      have hs := haveP_no hp
      simp only [castBool_bool,cB_false,aheadP,hp,Bool.false_eq_true,if_false]
      rw [hs] at q2 ⊢
      refine To2.bind2 (show To2 (R25 lf (k + 2) 57 [.ptr r 0 0] h2) _ from atom84 lf (k + 1) fb r hf (hb _ (by omega)) (aggR lf k fb r hf (hb _ (by omega))) q2 hn) ?_
      rintro v h3 ⟨q3,k3,n,pv,ps,hpx,rfl,e3⟩
      have sx3 := sx2.keep k3 (fun z => by simp at z; omega)
      simp only [castAgg_agg,castCons_cons,castInt_int,castStr_str,castNil_nil]
      have hsp:atomP ws (binP ws fb 0) s = (.mk n ps,(atomP ws (binP ws fb 0) s).2) := by rw [← hpx]
      rw [hsp]
      exact fin8 (cs := zC) (n := n) (pv := pv) (ps := ps) q rfl sx3 q3 (Kp.rr k02 k3) e3 (fun j z => by omega)
theorem bin73 (lf K fb r:Nat) (hf:1000 < lf) {wv:V} {ws:List Wd} (hb:∀ k,K ≤ k → BinR lf k fb r wv ws) {k:Nat} (hk:K + ws.length + 5 ≤ k) {of:Nat} (h6:of ≤ 6) {h:List Ob} {s:RS} (q:Rd h r wv ws s) (hn:10 * (ws.length - s.i) + 8 ≤ fb + 1 + of) :
    To2 (F25 lf (R25 lf k) (.ptr r 0 0) (of:Int) h) (XQ h r wv ws (binP ws (fb + 1) of s)) := by
  have hrl := q.lt
  have hvl:∀ j,j ∈ idsOf wv → j < h.length := fun j hj => q.sl.lt hj
  have hfew := q.few
  obtain ⟨k,rfl⟩:∃ k',k = k' + 1 := ⟨k - 1,by omega⟩
  simp only [F25]
  refine To2.bind2 (alloc_to (cs := zC) rfl) ?_
  rintro x2 h1 ⟨rfl,sx,k1⟩
  have l1:h.length < h1.length := sx.lt
  have q1 := q.kp k1
  by_cases c2:of = 2
  · subst c2
    obtain ⟨v,h2,ev2,rfl,q2,k2⟩ := have10 (lf := lf) [78,79,84] q1
    have sx2 := sx.keep k2 (fun z => by simp at z; omega)
    have k02 := Kp.to k1 k2
    have l2:h1.length ≤ h2.length := k2.len
    have e2:(((2:Nat):Int) == 2) = true := rfl
    simp only [S25_0,e2,cB_true,ev2,bind2_some,castBool_bool,bind3_some,decide_true,castCons_cons,castNil_nil]
    cases hp:(haveP ws [78,79,84] s).1 with
    | true =>
      obtain ⟨hs,hlt⟩ := haveP_i hp
      have hi:(haveP ws [78,79,84] s).2.i = s.i + 1 := by rw [hs]; rfl
      have hsp:binP ws (fb + 1) 2 s = (unX [78,79,84] (binP ws fb 2 (haveP ws [78,79,84] s).2).1,(binP ws fb 2 (haveP ws [78,79,84] s).2).2) := by simp only [binP,hp,if_true]
      rw [hsp]
      simp only [cB_true]
      refine To2.bind2 (bin_at (hb (k + 1) (by omega)) 2 rfl (by decide) q2 (by omega)) ?_
      rintro v h3 ⟨q3,k3,n,pv,ps,hpx,rfl,e3⟩
      have sx3 := sx2.keep k3 (fun z => by simp at z; omega)
      simp only [castAgg_agg,castCons_cons,castInt_int,castStr_str,castNil_nil]
      refine To2.bind2 (part1 e3 (m := ⟨3,[78,79,84],0,0,[],[],[]⟩)) ?_
      rintro y h4 ⟨yc,ys,k4,e4⟩
      have l3:h2.length ≤ h3.length := k3.len
      simp only [build_op yc ys,bind1_some,castAgg_agg,castCons_cons,castInt_int,castStr_str,castNil_nil]
      rw [hpx]
      exact fin8 (cs := zC) (n := ⟨3,[78,79,84],0,0,[],[],[]⟩) (pv := y) (ps := [.mk n ps]) q rfl (sx3.kp k4) (q3.kp k4) (Kp.ro (Kp.rr k02 k3) k4) e4 (fun j z => by rcases z with z | z <;> omega)
    | false =>
      have hs := haveP_no hp
      have hsp:binP ws (fb + 1) 2 s = cmpP ws (binP ws fb 4) s := by simp only [binP,hp,Bool.false_eq_true,if_false,if_true]; rw [hs]
      rw [hsp]
      rw [hs] at q2
      simp only [cB_false]
      refine To2.bind2 (show To2 (R25 lf (k + 1) 42 [.ptr r 0 0] h2) _ from cmp77 lf k fb r hf (hb k (by omega)) q2 (by omega)) ?_
      rintro v h3 ⟨q3,k3,n,pv,ps,hpx,rfl,e3⟩
      have sx3 := sx2.keep k3 (fun z => by simp at z; omega)
      simp only [castAgg_agg,castCons_cons,castInt_int,castStr_str,castNil_nil]
      have hs2:cmpP ws (binP ws fb 4) s = (.mk n ps,(cmpP ws (binP ws fb 4) s).2) := by rw [← hpx]
      rw [hs2]
      exact fin8 (cs := zC) (n := n) (pv := pv) (ps := ps) q rfl sx3 q3 (Kp.rr k02 k3) e3 (fun j z => by omega)
  · have e2:(((of:Nat):Int) == 2) = false := by rw [beq_eq_false_iff_ne]; omega
    simp only [S25_0,e2,cB_false,bind3_some,decide_true,cB_true,castCons_cons,castBool_bool,castNil_nil]
    by_cases c6:of = 6
    · subst c6
      have e6:(((6:Nat):Int) == 6) = true := rfl
      have hsp:binP ws (fb + 1) 6 s = aheadP ws (binP ws fb 0) (ws.length + 1) s := by simp only [binP,if_true]; rfl
      rw [hsp]
      simp only [e6,cB_true]
      refine To2.bind2 (show To2 (R25 lf (k + 1) 43 [.ptr r 0 0] h1) _ from ahead78 lf K fb r hf hb ws.length (ws.length + 1) k h1 s (by omega) (by omega) (by omega) q1 (by omega)) ?_
      rintro v h3 ⟨q3,k3,n,pv,ps,hpx,rfl,e3⟩
      have sx3 := sx.keep k3 (fun z => by simp at z; omega)
      simp only [castAgg_agg,castCons_cons,castInt_int,castStr_str,castNil_nil]
      have hs2:aheadP ws (binP ws fb 0) (ws.length + 1) s = (.mk n ps,(aheadP ws (binP ws fb 0) (ws.length + 1) s).2) := by rw [← hpx]
      rw [hs2]
      exact fin8 (cs := zC) (n := n) (pv := pv) (ps := ps) q rfl sx3 q3 (Kp.to k1 k3) e3 (fun j z => by omega)
    · have e6:(((of:Nat):Int) == 6) = false := by rw [beq_eq_false_iff_ne]; omega
      have wof:IntKind.i64.wrap ((of:Int) + 1) = ((of + 1:Nat):Int) := by rw [wrap_i64 (by omega) (by omega)]; simp
      have hsp:binP ws (fb + 1) of s = loopP ws (binP ws fb (of + 1)) of (ws.length + 1) (binP ws fb (of + 1) s).1 (binP ws fb (of + 1) s).2 := by simp only [binP,if_neg c2,if_neg c6]
      rw [hsp]
      simp only [e6,cB_false,wof]
      refine To2.bind2 (hb (k + 1) (by omega) (of + 1) h1 s (by omega) q1 (by omega)) ?_
      rintro v h3 ⟨q3,k3,n,pv,ps,hpx,rfl,e3⟩
      have sx3 := sx.keep k3 (fun z => by simp at z; omega)
      have l3:h1.length ≤ h3.length := k3.len
      simp only [castAgg_agg,castCons_cons,castInt_int,castStr_str,castNil_nil]
      have mono := binP_mono ws fb (of + 1) s
      refine put8 (ex_sc e3) fun h4 se k4 => ?_
      have hex:Ex (fun j => h.length < j ∧ j ≠ h3.length) h4 (.agg (aC n pv)) (.mk n ps) := by
        refine (e3.mono (J := fun j => h.length < j ∧ j ≠ h3.length) (fun j hj z => ⟨by omega,by omega⟩)).kp k4
      rw [hpx]
      have key := loop73 lf (k + 1) fb r (hb (k + 1) (by omega)) (of := of) (by omega) (h0 := h) (x4 := h.length) (eid := h3.length) (Nat.le_refl _) hrl hvl (by omega) ws.length lf (ws.length + 1) h4 (binP ws fb (of + 1) s).2 n pv ps zC (by omega) (by omega) (by omega) (by omega) (q3.kp k4) (Kp.ro (Kp.to k1 k3) k4) rfl (sx3.kp k4) se hex
      refine To2.bind3 key ?_
      rintro x vs h5 ⟨rfl,rfl,n',pv',ps',hp5,sx5,e5,q5,k5⟩
      simp only [decide_true,cB_true,castNil_nil,show evLoadN h5 8 (.ptr h.length 0 0) = some (.agg (aC n' pv')) from sx5.loadN,bind1_some]
      exact To2.some ⟨q5,k5,n',pv',ps',hp5,rfl,e5.mono fun j _ z => Nat.le_of_lt z⟩
theorem binR_all (lf r:Nat) (hf:1000 < lf) {wv:V} {ws:List Wd}:∀ (f k:Nat),(ws.length + 10) * f ≤ k → BinR lf k f r wv ws
  | 0,k,hk => fun of h s h6 q hn => by omega
  | f + 1,k,hk => fun of h s h6 q hn => by
    have hm:(ws.length + 10) * (f + 1) = (ws.length + 10) * f + (ws.length + 10) := Nat.mul_succ _ _
    obtain ⟨k,rfl⟩:∃ k',k = k' + 1 := ⟨k - 1,by omega⟩
    exact bin73 lf ((ws.length + 10) * f) f r hf (fun k' hk' => binR_all lf r hf f k' hk') (by omega) h6 q hn
end Go.Proofs.YtjpjeilfmjdhcaaDoor.Rd
