/- The reader of statements walked: what a query reads of. No condition. -/
import Derived.Test.YtjpjeilfmjdhcaaStR
namespace Go.Proofs.Ytjpjeilfmjdhcaa.St
open Go Go.Proofs.Ytjpjeilfmjdhcaa.E
open Go.Proofs.Ytjpjeilfmjdhcaa.Ln
open Go.Proofs.Ytjpjeilfmjdhcaa.Ex
open Go.Proofs.Ytjpjeilfmjdhcaa.Pr
open Go.Proofs.Ytjpjeilfmjdhcaa.Rd
set_option maxRecDepth 100000
set_option linter.unusedVariables false
set_option linter.unusedSimpArgs false
abbrev aQ (dis star:Bool) (a b c d e:V) (lim:Int):List V := [.bool dis,.bool star,a,b,c,d,e,.int .i64 lim]
theorem loop31 (lf:Nat) (hf:5000000 < lf) {H0:List Ob} {r2 r qd:Nat} {wv:V} {ws:List Wd} (hsh:Short 5000 ws) {s0:RS} (q0:Pd H0 r2 r wv ws s0) (hqd:qd < H0.length) (hqr:qd ≠ r) (hq2:qd ≠ r2) (hqw:∀ j,j ∈ idsOf wv → j ≠ qd) {dis star:Bool} {it:V} {lim:Int} :
    ∀ (d f g:Nat) (h:List Ob) (s:RS) (sv:V) (acc:List Sr),ws.length - s.i ≤ d → d < f → d < g → Pd h r2 r wv ws s → Kp H0 h [r,qd] → St h qd (aQ dis star it sv .nils .nils .nils lim) → LR 10 rSr (fun j => H0.length ≤ j) h sv acc → acc.length ≤ s.i + 1 →
    To3 (L31_0 lf f (.ptr r2 0 0) (.ptr qd 0 0) h) fun x vs h' => x = .exit 0 ∧ vs = [] ∧ ∃ sv',St h' qd (aQ dis star it sv' .nils .nils .nils lim) ∧ LR 10 rSr (fun j => H0.length ≤ j) h' sv' (joinsP ws g acc s).1 ∧ Pd h' r2 r wv ws (joinsP ws g acc s).2 ∧ Kp H0 h' [r,qd] := by
  have rlt := q0.rd.lt
  have one:∀ {g g':List Ob},Kp g g' [r] → Kp g g' [r,qd] := fun k => k.mono (fun j hj _ => by simp at hj; simp [hj])
  intro d
  induction d with
  | zero =>
    intro f g h s sv acc hd hf' hg q k sq L hl
    obtain ⟨f,rfl⟩:∃ f',f = f' + 1 := ⟨f - 1,by omega⟩
    obtain ⟨g,rfl⟩:∃ g',g = g' + 1 := ⟨g - 1,by omega⟩
    simp only [L31_0,B31_0,q.st.nilck,q.st.faddr,q.at0,bind1_some]
    refine To3.bind2 (have10 [74,79,73,78] q.rd) ?_
    rintro v h1 ⟨rfl,d1,k1⟩
    cases hp:(haveP ws [74,79,73,78] s).1 with
    | true => have := haveP_i hp; omega
    | false =>
      simp only [castBool_bool,cB_false,joinsP,hp,Bool.false_eq_true,if_false]
      exact To3.some ⟨rfl,rfl,sv,sq.keep k1 (fun z => by simp at z; exact hqr z),(rL 10 rSr).keep L k1 (fun j hj z => by simp at hj; omega),q.up k1 d1,k.trans (one k1) (fun j hj _ => hj) (fun j hj _ => hj)⟩
  | succ d ih =>
    intro f g h s sv acc hd hf' hg q k sq L hl
    obtain ⟨f,rfl⟩:∃ f',f = f' + 1 := ⟨f - 1,by omega⟩
    obtain ⟨g,rfl⟩:∃ g',g = g' + 1 := ⟨g - 1,by omega⟩
    simp only [L31_0,B31_0,q.st.nilck,q.st.faddr,q.at0,bind1_some]
    refine To3.bind2 (have10 [74,79,73,78] q.rd) ?_
    rintro v h1 ⟨rfl,d1,k1⟩
    have q1 := q.up k1 d1
    have sq1 := sq.keep k1 (fun z => by simp at z; exact hqr z)
    have L1 := (rL 10 rSr).keep L k1 (fun j hj z => by simp at hj; omega)
    have hfew := q.rd.few
    cases hp:(haveP ws [74,79,73,78] s).1 with
    | false =>
      simp only [castBool_bool,cB_false,joinsP,hp,Bool.false_eq_true,if_false]
      exact To3.some ⟨rfl,rfl,sv,sq1,L1,q1,k.trans (one k1) (fun j hj _ => hj) (fun j hj _ => hj)⟩
    | true =>
      obtain ⟨hs,hlt⟩ := haveP_i hp
      have hi:(haveP ws [74,79,73,78] s).2.i = s.i + 1 := by rw [hs]; rfl
      simp only [castBool_bool,cB_true,joinsP,hp,if_true]
      generalize (haveP ws [74,79,73,78] s).2 = s1 at q1 hi
      refine To3.bind2 (source63 q1) ?_
      rintro v h2 ⟨q2,k2,n0,pv0,ps0,hx0,rfl,e0⟩
      have l1 := k1.len
      have l2 := k2.len
      have hH := k.len
      simp only [castAgg_agg,castCons_cons,castInt_int,castStr_str,castNil_nil]
      refine To3.bind2 (alloc_to (cs := aS [] [] zNd .nils) rfl) ?_
      rintro x h3 ⟨rfl,sx3,k3⟩
      refine To3.bind2 (sx3.storeN (ds := aS (sourceP ws s1).1.t (sourceP ws s1).1.n n0 pv0) rfl (by simp) (by simp only [List.all_cons,List.all_nil,pvS e0]; rfl) (n := 10) rfl) ?_
      rintro u h4 ⟨sx4,k4⟩
      have k24:Kp h2 h4 [] := k3.trans k4 (fun j hj => by cases hj) (fun j hj hlt => by simp at hj; omega)
      have q4 := q2.kp k24
      have l4:h2.length < h4.length := sx4.lt
      simp only [q4.st.nilck,q4.st.faddr,q4.at0,bind1_some]
      obtain ⟨x47,h5,ev5,r5⟩ := bslice_to (h := h4) (sz := 1) (z := .str []) (ps := [(0,.str [79,78])]) (es := strs [[79,78]]) (len := 1) (by decide) (by decide) rfl rfl
      obtain ⟨-,-,sl5,-,k5,f5⟩ := r5
      simp only [List.map_cons,List.map_nil] at ev5
      have q5 := q4.kp k5
      obtain ⟨x',vs',h6,ev6,rfl,rfl,d6,k6⟩ := want52L lf sl5 (fun j hj z => by have := f5 j hj; omega) (by decide) 1 0 lf h5 (sourceP ws s1).2 rfl (by omega) (Kp.refl _ _) q5.rd
      have ew:F52 lf (.ptr r 0 0) x47 h5 = some (.tup [],h6) := by
        have e1:((strs [[79,78]]).length:Int) = ((1:Nat):Int) := rfl
        simp only [F52,er_lenL sl5,bind1_some,castInt_int,e1]
        have e2:L52_0 lf lf (.ptr r 0 0) x47 ((1:Nat):Int) 0 h5 = some (.exit 0,[],h6) := ev6
        simp only [e2,bind3_some,decide_true,cB_true,castNil_nil]
      have d6':Rd h6 r wv ws (wantP ws [[79,78]] (sourceP ws s1).2) := d6
      have q6 := q5.up k6 d6'
      have sx6 := (sx4.kp k5).keep k6 (fun z => by simp at z; omega)
      simp only [ev5,bind2_some,ew,q6.st.nilck,q6.st.faddr,q6.at0,bind1_some]
      refine To3.bind2 (expr57 hf hsh q6.rd) ?_
      rintro v h7 ⟨d7,k7,n,pv,ps,hx,rfl,e7⟩
      have q7 := q6.up k7 d7
      have sx7 := sx6.keep k7 (fun z => by simp at z; omega)
      have l5 := k5.len
      have l6 := k6.len
      have l7 := k7.len
      simp only [castAgg_agg,castCons_cons,castInt_int,castStr_str,castNil_nil,sx7.faddr,bind1_some]
      refine To3.bind2 (St.storeP sx7 (j := 0 + 2) (n := 8) (ds := aC n pv) rfl (by simp) (by decide) (ex_sc e7)) ?_
      rintro u h8 ⟨sx8,k8⟩
      have sx8':St h8 h2.length (aS (sourceP ws s1).1.t (sourceP ws s1).1.n n pv) := sx8
      have q8 := Pd.apart q0 q7 k8 (fun j hj => by simp at hj; omega)
      have e8 := e7.keep k8 (fun j hj z => by simp at hj; omega)
      have k28:Kp h1 h8 [r] := by
        have a:Kp h1 h7 [r] := Kp.rr (Kp.rr (Kp.ro (Kp.ro k2 k24) k5) k6) k7
        exact a.trans k8 (fun j hj _ => hj) (fun j hj hlt => by simp at hj; omega)
      have sq8 := sq1.keep k28 (fun z => by simp at z; exact hqr z)
      have L8 := (rL 10 rSr).keep L1 k28 (fun j hj z => by simp at hj; omega)
      have svs:sv.cells = [sv] := (LR.sc L).1
      simp only [sq8.faddr,sq8.load1 (j := 0 + 3) (c := sv) rfl,sx8'.loadN' (n := 10) rfl,bind1_some,castAgg_agg,castCons_cons,castInt_int,castStr_str,castNil_nil]
      have t8:rSr.R (fun j => h6.length ≤ j) h8 (.agg (aS (sourceP ws s1).1.t (sourceP ws s1).1.n n pv)) (joinP ws s1).1 := ⟨n,pv,ps,hx,rfl,e8⟩
      have l8 := k8.len
      refine push_to3 (J := fun j => h6.length ≤ j) (by decide) (by decide) (by decide) L8 t8 (fun j hj z => ⟨by omega,fun y => by have := (LR.lt L y).1; omega⟩) (fun j hj => by omega) (by omega) (plain_agg rfl (by simp only [List.all_cons,List.all_nil,pvS e7]; rfl)) fun w h9 L9 k9 => ?_
      have ha:∀ j,j ∈ idsOf sv → H0.length ≤ j := fun j hj => (LR.lt L hj).2
      have sq9 := sq8.keep k9 (fun z => by have := ha _ z; omega)
      have q9 := Pd.apart q0 q8 k9 ha
      simp only [sq9.faddr,bind1_some]
      refine To3.bind2 (sq9.store1 (j := 0 + 3) (x := w) (by simp) (LR.sc L9)) ?_
      rintro u h10 ⟨sq10,k10⟩
      have q10:Pd h10 r2 r wv ws (joinP ws s1).2 := ⟨⟨q9.rd.st.keep k10 (fun z => by simp at z; exact hqr z.symm),q9.rd.sl.keep k10 (fun j hj z => by simp at z; exact hqw j hj z),q9.rd.nr,q9.rd.le,q9.rd.few⟩,q9.st.keep k10 (fun z => by simp at z; exact hq2 z.symm),q9.ne⟩
      have L10 := (rL 10 rSr).keep L9 k10 (fun j hj z => by simp at hj; omega)
      have k010:Kp H0 h10 [r,qd] := by
        have a:Kp H0 h8 [r,qd] := k.trans (one (Kp.rr k1 k28)) (fun j hj _ => hj) (fun j hj _ => hj)
        exact (a.trans k9 (C := [r,qd]) (fun j hj _ => hj) (fun j hj hlt => by have := ha j hj; omega)).trans k10 (fun j hj _ => hj) (fun j hj _ => by simp at hj; simp [hj])
      have mono:s1.i ≤ (joinP ws s1).2.i := by
        have a1:s1.i ≤ (sourceP ws s1).2.i := by
          have b1 := nameR_mono ws s1
          have b2:(nameR ws s1).2.i ≤ (asP ws (nameR ws s1).1 (nameR ws s1).2).2.i := by
            simp only [asP]
            split
            · exact Nat.le_trans (haveP_mono ws _ _) (nameR_mono ws _)
            · exact haveP_mono ws _ _
          exact Nat.le_trans b1 b2
        have a2 := wantP_mono ws [[79,78]] (sourceP ws s1).2
        have a3:(wantP ws [[79,78]] (sourceP ws s1).2).i ≤ (exprP ws (wantP ws [[79,78]] (sourceP ws s1).2)).2.i := by
          simp only [exprP]
          split
          · exact binP_mono ws _ 0 _
          · exact binP_mono ws _ 0 _
        exact Nat.le_trans a1 (Nat.le_trans a2 a3)
      exact ih f g h10 _ w _ (by omega) (by omega) (by omega) q10 k010 sq10 L10 (by simp; omega)
end Go.Proofs.Ytjpjeilfmjdhcaa.St
