/- Alike: two lists that stand for the same. Printed by my own tool. No condition. -/
import Derived.Test.YtjpjeilfmjdhcaaPsR
namespace Go.Proofs.Ytjpjeilfmjdhcaa.Ps
open Go Go.Proofs.Ytjpjeilfmjdhcaa.E
open Go.Proofs.Ytjpjeilfmjdhcaa.Ln
open Go.Proofs.Ytjpjeilfmjdhcaa.Ex
open Go.Proofs.Ytjpjeilfmjdhcaa.Pr
open Go.Proofs.Ytjpjeilfmjdhcaa.Rd
open Go.Proofs.Ytjpjeilfmjdhcaa.St
set_option maxRecDepth 100000
set_option linter.unusedVariables false
set_option linter.unusedSimpArgs false
theorem putN3 {h:List Ob} {n:Nat} {zs ds:List V} {K:V → List Ob → SubR} {Q:EX → List V → List Ob → Prop} (hz:zs.all V.scalar = true) (hzl:zs.length = n) (hd:ds.length = n) (h0:0 < n) (hs:ds.all V.scalar = true) (hK:∀ h2,St h2 h.length ds → Kp h h2 [] → To3 (K (.ptr h.length 0 0) h2) Q) :
    To3 (bind2 (ev (.alloc false (.agg zs)) h) fun x h_1 => bind2 (ev (.store n (.c x) (.c (.agg ds))) h_1) fun _ h_2 => K x h_2) Q := by
  refine To3.bind2 (alloc_to hz) ?_
  rintro x h1 ⟨rfl,st,k1⟩
  refine To3.bind2 (st.storeN (ds := ds) (by omega) (by omega) hs (n := n) hzl) ?_
  rintro u h2 ⟨st2,k2⟩
  exact hK h2 st2 (k1.trans k2 (fun j hj => by cases hj) (fun j hj hlt => by simp at hj; omega))
theorem LR.elem {α : Type} {sz:Nat} {T:RR α} {I:Nat → Prop} {h:List Ob} {v:V} {xs:List α} (l:LR sz T I h v xs):∃ es,Sl sz h v es ∧ es.length = xs.length ∧ ∀ (i:Nat) (hi:i < xs.length),∃ e,es[i]? = some e ∧ T.R I h e xs[i] := by
  obtain ⟨es,s,-,-,hl,he⟩ := l
  refine ⟨es,s,hl,fun i hi => ?_⟩
  have hie:i < es.length := by omega
  exact ⟨es[i],List.getElem?_eq_getElem hie,T.mono (he i es[i] xs[i] (List.getElem?_eq_getElem hie) (List.getElem?_eq_getElem hi)) (fun j _ z => z.1)⟩
theorem nokp {α : Type} {T:RR α} {I:Nat → Prop} {h h':List Ob} {v:V} {x : α} (t:T.R I h v x) (k:Kp h h' []):T.R I h' v x := T.keep t k (fun j hj => by cases hj)
theorem same17L (lf:Nat) {cv:CallVS} {eq:V} {I J:Nat → Prop} {h0:List Ob} {a b:V} {xs:List X} (La:LR 8 rEx I h0 a xs) (Lb:LR 8 rEx J h0 b xs) (hl:xs.length ≤ 1000000000)
    (hm:∀ (h:List Ob) (va vb:V) (x:X),x ∈ xs → rEx.R I h va x → rEx.R J h vb x → To2 (cv eq [va,vb] h) fun v h' => v = .bool true ∧ Kp h h' []) :
    ∀ (m i f:Nat) (h:List Ob),xs.length = i + m → m < f → Kp h0 h [] → To3 (L17_0 lf cv f b eq a xs.length i h) fun x vs h' => x = .exit 0 ∧ vs = [] ∧ Kp h0 h' [] := by
  intro m
  induction m with
  | zero =>
    intro i f h hm' hf k
    obtain ⟨f,rfl⟩:∃ g,f = g + 1 := ⟨f - 1,by omega⟩
    have hd:decide ((i:Int) < (xs.length:Int)) = false := decide_eq_false (by omega)
    simp only [L17_0,B17_0,hd,cB_false]
    exact To3.some ⟨rfl,rfl,k⟩
  | succ m ih =>
    intro i f h hm' hf k
    obtain ⟨f,rfl⟩:∃ g,f = g + 1 := ⟨f - 1,by omega⟩
    have hi:i < xs.length := by omega
    have hd:decide ((i:Int) < (xs.length:Int)) = true := decide_eq_true (by omega)
    have hw:IntKind.i64.wrap ((i:Int) + 1) = ((i + 1:Nat):Int) := by rw [wrap_i64 (by omega) (by omega)]; simp
    obtain ⟨es,sa,la,ea⟩ := LR.elem ((rL 8 rEx).keep La k (fun j hj => by cases hj))
    obtain ⟨e,e1,t⟩ := ea i hi
    obtain ⟨n,pv,ps,hx,rfl,x1⟩ := id t
    obtain ⟨p,p1,p2⟩ := sa.atN (k := (i:Int)) (cs := aC n pv) (by omega) (by simpa using e1) rfl (by decide)
    simp only [L17_0,B17_0,hd,cB_true,p1,p2,bind1_some,castAgg_agg,castCons_cons,castInt_int,castStr_str,castBool_bool,castNil_nil]
    refine putN3 (n := 8) (zs := zC) (ds := aC n pv) rfl rfl rfl (by decide) (by simp only [List.all_cons,List.all_nil,pvS x1]; rfl) fun h1 s1 k1 => ?_
    obtain ⟨fs,sb,lb,eb⟩ := LR.elem ((rL 8 rEx).keep Lb (k.tr k1) (fun j hj => by cases hj))
    obtain ⟨g,g1,t'⟩ := eb i hi
    obtain ⟨n2,pv2,ps2,hx2,rfl,x2⟩ := id t'
    obtain ⟨r,r1,r2⟩ := sb.atN (k := (i:Int)) (cs := aC n2 pv2) (by omega) (by simpa using g1) rfl (by decide)
    simp only [r1,r2,bind1_some,castAgg_agg,castCons_cons,castInt_int,castStr_str,castBool_bool,castNil_nil]
    refine putN3 (n := 8) (zs := zC) (ds := aC n2 pv2) rfl rfl rfl (by decide) (by simp only [List.all_cons,List.all_nil,pvS x2]; rfl) fun h2 s2 k2 => ?_
    simp only [(s1.kp k2).loadN' (n := 8) rfl,s2.loadN' (n := 8) rfl,bind1_some,castAgg_agg,castCons_cons,castInt_int,castStr_str,castBool_bool,castNil_nil]
    refine To3.bind2 (hm h2 _ _ xs[i] (List.getElem_mem hi) (nokp (nokp t k1) k2) (nokp t' k2)) ?_
    rintro v h3 ⟨rfl,k3⟩
    simp only [castBool_bool,Bool.not_true,cB_false,hw]
    exact ih (i + 1) f h3 (by omega) (by omega) (((k.tr k1).tr k2).tr k3)
theorem same34L (lf:Nat) {cv:CallVS} {eq:V} {I J:Nat → Prop} {h0:List Ob} {a b:V} {xs:List It} (La:LR 9 rIt I h0 a xs) (Lb:LR 9 rIt J h0 b xs) (hl:xs.length ≤ 1000000000)
    (hm:∀ (h:List Ob) (va vb:V) (x:It),x ∈ xs → rIt.R I h va x → rIt.R J h vb x → To2 (cv eq [va,vb] h) fun v h' => v = .bool true ∧ Kp h h' []) :
    ∀ (m i f:Nat) (h:List Ob),xs.length = i + m → m < f → Kp h0 h [] → To3 (L34_0 lf cv f b eq a xs.length i h) fun x vs h' => x = .exit 0 ∧ vs = [] ∧ Kp h0 h' [] := by
  intro m
  induction m with
  | zero =>
    intro i f h hm' hf k
    obtain ⟨f,rfl⟩:∃ g,f = g + 1 := ⟨f - 1,by omega⟩
    have hd:decide ((i:Int) < (xs.length:Int)) = false := decide_eq_false (by omega)
    simp only [L34_0,B34_0,hd,cB_false]
    exact To3.some ⟨rfl,rfl,k⟩
  | succ m ih =>
    intro i f h hm' hf k
    obtain ⟨f,rfl⟩:∃ g,f = g + 1 := ⟨f - 1,by omega⟩
    have hi:i < xs.length := by omega
    have hd:decide ((i:Int) < (xs.length:Int)) = true := decide_eq_true (by omega)
    have hw:IntKind.i64.wrap ((i:Int) + 1) = ((i + 1:Nat):Int) := by rw [wrap_i64 (by omega) (by omega)]; simp
    obtain ⟨es,sa,la,ea⟩ := LR.elem ((rL 9 rIt).keep La k (fun j hj => by cases hj))
    obtain ⟨e,e1,t⟩ := ea i hi
    obtain ⟨n,pv,ps,hx,rfl,x1⟩ := id t
    obtain ⟨p,p1,p2⟩ := sa.atN (k := (i:Int)) (cs := aI n pv (.str xs[i].n)) (by omega) (by simpa using e1) rfl (by decide)
    simp only [L34_0,B34_0,hd,cB_true,p1,p2,bind1_some,castAgg_agg,castCons_cons,castInt_int,castStr_str,castBool_bool,castNil_nil]
    refine putN3 (n := 9) (zs := (aI zNd .nils (.str []))) (ds := aI n pv (.str xs[i].n)) rfl rfl rfl (by decide) (by simp only [List.all_cons,List.all_nil,pvS x1]; rfl) fun h1 s1 k1 => ?_
    obtain ⟨fs,sb,lb,eb⟩ := LR.elem ((rL 9 rIt).keep Lb (k.tr k1) (fun j hj => by cases hj))
    obtain ⟨g,g1,t'⟩ := eb i hi
    obtain ⟨n2,pv2,ps2,hx2,rfl,x2⟩ := id t'
    obtain ⟨r,r1,r2⟩ := sb.atN (k := (i:Int)) (cs := aI n2 pv2 (.str xs[i].n)) (by omega) (by simpa using g1) rfl (by decide)
    simp only [r1,r2,bind1_some,castAgg_agg,castCons_cons,castInt_int,castStr_str,castBool_bool,castNil_nil]
    refine putN3 (n := 9) (zs := (aI zNd .nils (.str []))) (ds := aI n2 pv2 (.str xs[i].n)) rfl rfl rfl (by decide) (by simp only [List.all_cons,List.all_nil,pvS x2]; rfl) fun h2 s2 k2 => ?_
    simp only [(s1.kp k2).loadN' (n := 9) rfl,s2.loadN' (n := 9) rfl,bind1_some,castAgg_agg,castCons_cons,castInt_int,castStr_str,castBool_bool,castNil_nil]
    refine To3.bind2 (hm h2 _ _ xs[i] (List.getElem_mem hi) (nokp (nokp t k1) k2) (nokp t' k2)) ?_
    rintro v h3 ⟨rfl,k3⟩
    simp only [castBool_bool,Bool.not_true,cB_false,hw]
    exact ih (i + 1) f h3 (by omega) (by omega) (((k.tr k1).tr k2).tr k3)
theorem same36L (lf:Nat) {cv:CallVS} {eq:V} {I J:Nat → Prop} {h0:List Ob} {a b:V} {xs:List Sr} (La:LR 10 rSr I h0 a xs) (Lb:LR 10 rSr J h0 b xs) (hl:xs.length ≤ 1000000000)
    (hm:∀ (h:List Ob) (va vb:V) (x:Sr),x ∈ xs → rSr.R I h va x → rSr.R J h vb x → To2 (cv eq [va,vb] h) fun v h' => v = .bool true ∧ Kp h h' []) :
    ∀ (m i f:Nat) (h:List Ob),xs.length = i + m → m < f → Kp h0 h [] → To3 (L36_0 lf cv f b eq a xs.length i h) fun x vs h' => x = .exit 0 ∧ vs = [] ∧ Kp h0 h' [] := by
  intro m
  induction m with
  | zero =>
    intro i f h hm' hf k
    obtain ⟨f,rfl⟩:∃ g,f = g + 1 := ⟨f - 1,by omega⟩
    have hd:decide ((i:Int) < (xs.length:Int)) = false := decide_eq_false (by omega)
    simp only [L36_0,B36_0,hd,cB_false]
    exact To3.some ⟨rfl,rfl,k⟩
  | succ m ih =>
    intro i f h hm' hf k
    obtain ⟨f,rfl⟩:∃ g,f = g + 1 := ⟨f - 1,by omega⟩
    have hi:i < xs.length := by omega
    have hd:decide ((i:Int) < (xs.length:Int)) = true := decide_eq_true (by omega)
    have hw:IntKind.i64.wrap ((i:Int) + 1) = ((i + 1:Nat):Int) := by rw [wrap_i64 (by omega) (by omega)]; simp
    obtain ⟨es,sa,la,ea⟩ := LR.elem ((rL 10 rSr).keep La k (fun j hj => by cases hj))
    obtain ⟨e,e1,t⟩ := ea i hi
    obtain ⟨n,pv,ps,hx,rfl,x1⟩ := id t
    obtain ⟨p,p1,p2⟩ := sa.atN (k := (i:Int)) (cs := aS xs[i].t xs[i].n n pv) (by omega) (by simpa using e1) rfl (by decide)
    simp only [L36_0,B36_0,hd,cB_true,p1,p2,bind1_some,castAgg_agg,castCons_cons,castInt_int,castStr_str,castBool_bool,castNil_nil]
    refine putN3 (n := 10) (zs := (aS [] [] zNd .nils)) (ds := aS xs[i].t xs[i].n n pv) rfl rfl rfl (by decide) (by simp only [List.all_cons,List.all_nil,pvS x1]; rfl) fun h1 s1 k1 => ?_
    obtain ⟨fs,sb,lb,eb⟩ := LR.elem ((rL 10 rSr).keep Lb (k.tr k1) (fun j hj => by cases hj))
    obtain ⟨g,g1,t'⟩ := eb i hi
    obtain ⟨n2,pv2,ps2,hx2,rfl,x2⟩ := id t'
    obtain ⟨r,r1,r2⟩ := sb.atN (k := (i:Int)) (cs := aS xs[i].t xs[i].n n2 pv2) (by omega) (by simpa using g1) rfl (by decide)
    simp only [r1,r2,bind1_some,castAgg_agg,castCons_cons,castInt_int,castStr_str,castBool_bool,castNil_nil]
    refine putN3 (n := 10) (zs := (aS [] [] zNd .nils)) (ds := aS xs[i].t xs[i].n n2 pv2) rfl rfl rfl (by decide) (by simp only [List.all_cons,List.all_nil,pvS x2]; rfl) fun h2 s2 k2 => ?_
    simp only [(s1.kp k2).loadN' (n := 10) rfl,s2.loadN' (n := 10) rfl,bind1_some,castAgg_agg,castCons_cons,castInt_int,castStr_str,castBool_bool,castNil_nil]
    refine To3.bind2 (hm h2 _ _ xs[i] (List.getElem_mem hi) (nokp (nokp t k1) k2) (nokp t' k2)) ?_
    rintro v h3 ⟨rfl,k3⟩
    simp only [castBool_bool,Bool.not_true,cB_false,hw]
    exact ih (i + 1) f h3 (by omega) (by omega) (((k.tr k1).tr k2).tr k3)
theorem same38L (lf:Nat) {cv:CallVS} {eq:V} {I J:Nat → Prop} {h0:List Ob} {a b:V} {xs:List Od} (La:LR 9 rOd I h0 a xs) (Lb:LR 9 rOd J h0 b xs) (hl:xs.length ≤ 1000000000)
    (hm:∀ (h:List Ob) (va vb:V) (x:Od),x ∈ xs → rOd.R I h va x → rOd.R J h vb x → To2 (cv eq [va,vb] h) fun v h' => v = .bool true ∧ Kp h h' []) :
    ∀ (m i f:Nat) (h:List Ob),xs.length = i + m → m < f → Kp h0 h [] → To3 (L38_0 lf cv f b eq a xs.length i h) fun x vs h' => x = .exit 0 ∧ vs = [] ∧ Kp h0 h' [] := by
  intro m
  induction m with
  | zero =>
    intro i f h hm' hf k
    obtain ⟨f,rfl⟩:∃ g,f = g + 1 := ⟨f - 1,by omega⟩
    have hd:decide ((i:Int) < (xs.length:Int)) = false := decide_eq_false (by omega)
    simp only [L38_0,B38_0,hd,cB_false]
    exact To3.some ⟨rfl,rfl,k⟩
  | succ m ih =>
    intro i f h hm' hf k
    obtain ⟨f,rfl⟩:∃ g,f = g + 1 := ⟨f - 1,by omega⟩
    have hi:i < xs.length := by omega
    have hd:decide ((i:Int) < (xs.length:Int)) = true := decide_eq_true (by omega)
    have hw:IntKind.i64.wrap ((i:Int) + 1) = ((i + 1:Nat):Int) := by rw [wrap_i64 (by omega) (by omega)]; simp
    obtain ⟨es,sa,la,ea⟩ := LR.elem ((rL 9 rOd).keep La k (fun j hj => by cases hj))
    obtain ⟨e,e1,t⟩ := ea i hi
    obtain ⟨n,pv,ps,hx,rfl,x1⟩ := id t
    obtain ⟨p,p1,p2⟩ := sa.atN (k := (i:Int)) (cs := aI n pv (.bool xs[i].d)) (by omega) (by simpa using e1) rfl (by decide)
    simp only [L38_0,B38_0,hd,cB_true,p1,p2,bind1_some,castAgg_agg,castCons_cons,castInt_int,castStr_str,castBool_bool,castNil_nil]
    refine putN3 (n := 9) (zs := (aI zNd .nils (.bool false))) (ds := aI n pv (.bool xs[i].d)) rfl rfl rfl (by decide) (by simp only [List.all_cons,List.all_nil,pvS x1]; rfl) fun h1 s1 k1 => ?_
    obtain ⟨fs,sb,lb,eb⟩ := LR.elem ((rL 9 rOd).keep Lb (k.tr k1) (fun j hj => by cases hj))
    obtain ⟨g,g1,t'⟩ := eb i hi
    obtain ⟨n2,pv2,ps2,hx2,rfl,x2⟩ := id t'
    obtain ⟨r,r1,r2⟩ := sb.atN (k := (i:Int)) (cs := aI n2 pv2 (.bool xs[i].d)) (by omega) (by simpa using g1) rfl (by decide)
    simp only [r1,r2,bind1_some,castAgg_agg,castCons_cons,castInt_int,castStr_str,castBool_bool,castNil_nil]
    refine putN3 (n := 9) (zs := (aI zNd .nils (.bool false))) (ds := aI n2 pv2 (.bool xs[i].d)) rfl rfl rfl (by decide) (by simp only [List.all_cons,List.all_nil,pvS x2]; rfl) fun h2 s2 k2 => ?_
    simp only [(s1.kp k2).loadN' (n := 9) rfl,s2.loadN' (n := 9) rfl,bind1_some,castAgg_agg,castCons_cons,castInt_int,castStr_str,castBool_bool,castNil_nil]
    refine To3.bind2 (hm h2 _ _ xs[i] (List.getElem_mem hi) (nokp (nokp t k1) k2) (nokp t' k2)) ?_
    rintro v h3 ⟨rfl,k3⟩
    simp only [castBool_bool,Bool.not_true,cB_false,hw]
    exact ih (i + 1) f h3 (by omega) (by omega) (((k.tr k1).tr k2).tr k3)
theorem same21L (lf:Nat) {cv:CallVS} {eq:V} {I J:Nat → Prop} {h0:List Ob} {a b:V} {xs:List Asg} (La:LR 9 rAs I h0 a xs) (Lb:LR 9 rAs J h0 b xs) (hl:xs.length ≤ 1000000000)
    (hm:∀ (h:List Ob) (va vb:V) (x:Asg),x ∈ xs → rAs.R I h va x → rAs.R J h vb x → To2 (cv eq [va,vb] h) fun v h' => v = .bool true ∧ Kp h h' []) :
    ∀ (m i f:Nat) (h:List Ob),xs.length = i + m → m < f → Kp h0 h [] → To3 (L21_0 lf cv f b eq a xs.length i h) fun x vs h' => x = .exit 0 ∧ vs = [] ∧ Kp h0 h' [] := by
  intro m
  induction m with
  | zero =>
    intro i f h hm' hf k
    obtain ⟨f,rfl⟩:∃ g,f = g + 1 := ⟨f - 1,by omega⟩
    have hd:decide ((i:Int) < (xs.length:Int)) = false := decide_eq_false (by omega)
    simp only [L21_0,B21_0,hd,cB_false]
    exact To3.some ⟨rfl,rfl,k⟩
  | succ m ih =>
    intro i f h hm' hf k
    obtain ⟨f,rfl⟩:∃ g,f = g + 1 := ⟨f - 1,by omega⟩
    have hi:i < xs.length := by omega
    have hd:decide ((i:Int) < (xs.length:Int)) = true := decide_eq_true (by omega)
    have hw:IntKind.i64.wrap ((i:Int) + 1) = ((i + 1:Nat):Int) := by rw [wrap_i64 (by omega) (by omega)]; simp
    obtain ⟨es,sa,la,ea⟩ := LR.elem ((rL 9 rAs).keep La k (fun j hj => by cases hj))
    obtain ⟨e,e1,t⟩ := ea i hi
    obtain ⟨n,pv,ps,hx,rfl,x1⟩ := id t
    obtain ⟨p,p1,p2⟩ := sa.atN (k := (i:Int)) (cs := aA xs[i].c n pv) (by omega) (by simpa using e1) rfl (by decide)
    simp only [L21_0,B21_0,hd,cB_true,p1,p2,bind1_some,castAgg_agg,castCons_cons,castInt_int,castStr_str,castBool_bool,castNil_nil]
    refine putN3 (n := 9) (zs := (aA [] zNd .nils)) (ds := aA xs[i].c n pv) rfl rfl rfl (by decide) (by simp only [List.all_cons,List.all_nil,pvS x1]; rfl) fun h1 s1 k1 => ?_
    obtain ⟨fs,sb,lb,eb⟩ := LR.elem ((rL 9 rAs).keep Lb (k.tr k1) (fun j hj => by cases hj))
    obtain ⟨g,g1,t'⟩ := eb i hi
    obtain ⟨n2,pv2,ps2,hx2,rfl,x2⟩ := id t'
    obtain ⟨r,r1,r2⟩ := sb.atN (k := (i:Int)) (cs := aA xs[i].c n2 pv2) (by omega) (by simpa using g1) rfl (by decide)
    simp only [r1,r2,bind1_some,castAgg_agg,castCons_cons,castInt_int,castStr_str,castBool_bool,castNil_nil]
    refine putN3 (n := 9) (zs := (aA [] zNd .nils)) (ds := aA xs[i].c n2 pv2) rfl rfl rfl (by decide) (by simp only [List.all_cons,List.all_nil,pvS x2]; rfl) fun h2 s2 k2 => ?_
    simp only [(s1.kp k2).loadN' (n := 9) rfl,s2.loadN' (n := 9) rfl,bind1_some,castAgg_agg,castCons_cons,castInt_int,castStr_str,castBool_bool,castNil_nil]
    refine To3.bind2 (hm h2 _ _ xs[i] (List.getElem_mem hi) (nokp (nokp t k1) k2) (nokp t' k2)) ?_
    rintro v h3 ⟨rfl,k3⟩
    simp only [castBool_bool,Bool.not_true,cB_false,hw]
    exact ih (i + 1) f h3 (by omega) (by omega) (((k.tr k1).tr k2).tr k3)
theorem same19L (lf:Nat) {cv:CallVS} {eq:V} {I J:Nat → Prop} {h0:List Ob} {a b:V} {xs:List (List X)} (La:LR 1 (rL 8 rEx) I h0 a xs) (Lb:LR 1 (rL 8 rEx) J h0 b xs) (hl:xs.length ≤ 1000000000)
    (hm:∀ (h:List Ob) (va vb:V) (x:List X),x ∈ xs → LR 8 rEx I h va x → LR 8 rEx J h vb x → To2 (cv eq [va,vb] h) fun v h' => v = .bool true ∧ Kp h h' []) :
    ∀ (m i f:Nat) (h:List Ob),xs.length = i + m → m < f → Kp h0 h [] → To3 (L19_0 lf cv f b eq a xs.length i h) fun x vs h' => x = .exit 0 ∧ vs = [] ∧ Kp h0 h' [] := by
  intro m
  induction m with
  | zero =>
    intro i f h hm' hf k
    obtain ⟨f,rfl⟩:∃ g,f = g + 1 := ⟨f - 1,by omega⟩
    have hd:decide ((i:Int) < (xs.length:Int)) = false := decide_eq_false (by omega)
    simp only [L19_0,B19_0,hd,cB_false]
    exact To3.some ⟨rfl,rfl,k⟩
  | succ m ih =>
    intro i f h hm' hf k
    obtain ⟨f,rfl⟩:∃ g,f = g + 1 := ⟨f - 1,by omega⟩
    have hi:i < xs.length := by omega
    have hd:decide ((i:Int) < (xs.length:Int)) = true := decide_eq_true (by omega)
    have hw:IntKind.i64.wrap ((i:Int) + 1) = ((i + 1:Nat):Int) := by rw [wrap_i64 (by omega) (by omega)]; simp
    obtain ⟨es,sa,la,ea⟩ := LR.elem ((rL 1 (rL 8 rEx)).keep La k (fun j hj => by cases hj))
    obtain ⟨e,e1,t⟩ := ea i hi
    obtain ⟨p,p1,p2⟩ := sa.at1 (k := (i:Int)) (e := e) (by omega) (by simpa using e1) (LR.sc t).1
    obtain ⟨fs,sb,lb,eb⟩ := LR.elem ((rL 1 (rL 8 rEx)).keep Lb k (fun j hj => by cases hj))
    obtain ⟨g,g1,t'⟩ := eb i hi
    obtain ⟨r,r1,r2⟩ := sb.at1 (k := (i:Int)) (e := g) (by omega) (by simpa using g1) (LR.sc t').1
    simp only [L19_0,B19_0,hd,cB_true,p1,p2,r1,r2,bind1_some]
    refine To3.bind2 (hm h _ _ xs[i] (List.getElem_mem hi) t t') ?_
    rintro v h3 ⟨rfl,k3⟩
    simp only [castBool_bool,Bool.not_true,cB_false,hw]
    exact ih (i + 1) f h3 (by omega) (by omega) (k.tr k3)
theorem eqC4 (x:Cl) (h:List Ob):er (.eq true (.struct 4 [(0,.s),(1,.i),(2,.b),(3,.b)]) (.c (.agg [.str x.n,.int .i64 x.k,.bool x.nn,.bool x.un])) (.c (.agg [.str x.n,.int .i64 x.k,.bool x.nn,.bool x.un]))) h = some (.bool false) := by
  simp [er,ev,evOq,x_eq,getC,evEq,eqAt,eqLeaves,V.cells]
theorem same15L (lf:Nat) {I J:Nat → Prop} {h:List Ob} {a b:V} {xs:List Cl} (La:LR 4 rCl I h a xs) (Lb:LR 4 rCl J h b xs) (hl:xs.length ≤ 1000000000):∀ (m i f:Nat),xs.length = i + m → m < f → L15_0 lf f a b xs.length i h = some (.exit 0,[],h) := by
  intro m
  induction m with
  | zero =>
    intro i f hm' hf
    obtain ⟨f,rfl⟩:∃ g,f = g + 1 := ⟨f - 1,by omega⟩
    have hd:decide ((i:Int) < (xs.length:Int)) = false := decide_eq_false (by omega)
    simp only [L15_0,B15_0,hd,cB_false]
  | succ m ih =>
    intro i f hm' hf
    obtain ⟨f,rfl⟩:∃ g,f = g + 1 := ⟨f - 1,by omega⟩
    have hi:i < xs.length := by omega
    have hd:decide ((i:Int) < (xs.length:Int)) = true := decide_eq_true (by omega)
    have hw:IntKind.i64.wrap ((i:Int) + 1) = ((i + 1:Nat):Int) := by rw [wrap_i64 (by omega) (by omega)]; simp
    obtain ⟨es,sa,la,ea⟩ := LR.elem La
    obtain ⟨e,e1,t⟩ := ea i hi
    have he:e = .agg [.str xs[i].n,.int .i64 xs[i].k,.bool xs[i].nn,.bool xs[i].un] := t
    subst he
    obtain ⟨p,p1,p2⟩ := sa.atN (k := (i:Int)) (cs := [.str xs[i].n,.int .i64 xs[i].k,.bool xs[i].nn,.bool xs[i].un]) (by omega) (by simpa using e1) rfl (by decide)
    obtain ⟨fs,sb,lb,eb⟩ := LR.elem Lb
    obtain ⟨g,g1,t'⟩ := eb i hi
    have hg:g = .agg [.str xs[i].n,.int .i64 xs[i].k,.bool xs[i].nn,.bool xs[i].un] := t'
    subst hg
    obtain ⟨r,r1,r2⟩ := sb.atN (k := (i:Int)) (cs := [.str xs[i].n,.int .i64 xs[i].k,.bool xs[i].nn,.bool xs[i].un]) (by omega) (by simpa using g1) rfl (by decide)
    simp only [L15_0,B15_0,hd,cB_true,p1,p2,r1,r2,bind1_some,castAgg_agg,castCons_cons,castInt_int,castStr_str,castBool_bool,castNil_nil,eqC4,cB_false,hw]
    exact ih (i + 1) f (by omega) (by omega)
theorem same16L (lf:Nat) {I J:Nat → Prop} {h:List Ob} {a b:V} {xs:List (List UInt8)} (La:LR 1 rStr I h a xs) (Lb:LR 1 rStr J h b xs) (hl:xs.length ≤ 1000000000):∀ (m i f:Nat),xs.length = i + m → m < f → L16_0 lf f a b xs.length i h = some (.exit 0,[],h) := by
  intro m
  induction m with
  | zero =>
    intro i f hm' hf
    obtain ⟨f,rfl⟩:∃ g,f = g + 1 := ⟨f - 1,by omega⟩
    have hd:decide ((i:Int) < (xs.length:Int)) = false := decide_eq_false (by omega)
    simp only [L16_0,B16_0,hd,cB_false]
  | succ m ih =>
    intro i f hm' hf
    obtain ⟨f,rfl⟩:∃ g,f = g + 1 := ⟨f - 1,by omega⟩
    have hi:i < xs.length := by omega
    have hd:decide ((i:Int) < (xs.length:Int)) = true := decide_eq_true (by omega)
    have hw:IntKind.i64.wrap ((i:Int) + 1) = ((i + 1:Nat):Int) := by rw [wrap_i64 (by omega) (by omega)]; simp
    obtain ⟨es,sa,la,ea⟩ := LR.elem La
    obtain ⟨e,e1,t⟩ := ea i hi
    have he:e = .str xs[i] := t
    subst he
    obtain ⟨p,p1,p2⟩ := sa.at1 (k := (i:Int)) (e := .str xs[i]) (by omega) (by simpa using e1) rfl
    obtain ⟨fs,sb,lb,eb⟩ := LR.elem Lb
    obtain ⟨g,g1,t'⟩ := eb i hi
    have hg:g = .str xs[i] := t'
    subst hg
    obtain ⟨r,r1,r2⟩ := sb.at1 (k := (i:Int)) (e := .str xs[i]) (by omega) (by simpa using g1) rfl
    have hq:(xs[i] == xs[i]) = true := beq_self_eq_true _
    simp only [L16_0,B16_0,hd,cB_true,p1,p2,r1,r2,bind1_some,castStr_str,hq,Bool.not_true,cB_false,hw]
    exact ih (i + 1) f (by omega) (by omega)
theorem same17 {lf:Nat} {cv:CallVS} {eq:V} {I J:Nat → Prop} {h:List Ob} {a b:V} {xs:List X} (La:LR 8 rEx I h a xs) (Lb:LR 8 rEx J h b xs) (hl:xs.length ≤ 1000000000) (hf:xs.length < lf)
    (hm:∀ (h:List Ob) (va vb:V) (x:X),x ∈ xs → rEx.R I h va x → rEx.R J h vb x → To2 (cv eq [va,vb] h) fun v h' => v = .bool true ∧ Kp h h' []):To2 (F17 lf cv a b eq h) fun v h' => v = .bool true ∧ Kp h h' [] := by
  have b0:((xs.length:Int) != (xs.length:Int)) = false := by simp
  simp only [F17,LR.len La,LR.len Lb,bind1_some,castInt_int,b0,cB_false]
  refine To2.bind3 (same17L lf La Lb hl hm xs.length 0 lf h (by omega) (by omega) (Kp.refl _ _)) ?_
  rintro x vs h1 ⟨rfl,rfl,k1⟩
  simp only [decide_true,cB_true,castNil_nil]
  exact To2.some ⟨rfl,k1⟩
theorem same34 {lf:Nat} {cv:CallVS} {eq:V} {I J:Nat → Prop} {h:List Ob} {a b:V} {xs:List It} (La:LR 9 rIt I h a xs) (Lb:LR 9 rIt J h b xs) (hl:xs.length ≤ 1000000000) (hf:xs.length < lf)
    (hm:∀ (h:List Ob) (va vb:V) (x:It),x ∈ xs → rIt.R I h va x → rIt.R J h vb x → To2 (cv eq [va,vb] h) fun v h' => v = .bool true ∧ Kp h h' []):To2 (F34 lf cv a b eq h) fun v h' => v = .bool true ∧ Kp h h' [] := by
  have b0:((xs.length:Int) != (xs.length:Int)) = false := by simp
  simp only [F34,LR.len La,LR.len Lb,bind1_some,castInt_int,b0,cB_false]
  refine To2.bind3 (same34L lf La Lb hl hm xs.length 0 lf h (by omega) (by omega) (Kp.refl _ _)) ?_
  rintro x vs h1 ⟨rfl,rfl,k1⟩
  simp only [decide_true,cB_true,castNil_nil]
  exact To2.some ⟨rfl,k1⟩
theorem same36 {lf:Nat} {cv:CallVS} {eq:V} {I J:Nat → Prop} {h:List Ob} {a b:V} {xs:List Sr} (La:LR 10 rSr I h a xs) (Lb:LR 10 rSr J h b xs) (hl:xs.length ≤ 1000000000) (hf:xs.length < lf)
    (hm:∀ (h:List Ob) (va vb:V) (x:Sr),x ∈ xs → rSr.R I h va x → rSr.R J h vb x → To2 (cv eq [va,vb] h) fun v h' => v = .bool true ∧ Kp h h' []):To2 (F36 lf cv a b eq h) fun v h' => v = .bool true ∧ Kp h h' [] := by
  have b0:((xs.length:Int) != (xs.length:Int)) = false := by simp
  simp only [F36,LR.len La,LR.len Lb,bind1_some,castInt_int,b0,cB_false]
  refine To2.bind3 (same36L lf La Lb hl hm xs.length 0 lf h (by omega) (by omega) (Kp.refl _ _)) ?_
  rintro x vs h1 ⟨rfl,rfl,k1⟩
  simp only [decide_true,cB_true,castNil_nil]
  exact To2.some ⟨rfl,k1⟩
theorem same38 {lf:Nat} {cv:CallVS} {eq:V} {I J:Nat → Prop} {h:List Ob} {a b:V} {xs:List Od} (La:LR 9 rOd I h a xs) (Lb:LR 9 rOd J h b xs) (hl:xs.length ≤ 1000000000) (hf:xs.length < lf)
    (hm:∀ (h:List Ob) (va vb:V) (x:Od),x ∈ xs → rOd.R I h va x → rOd.R J h vb x → To2 (cv eq [va,vb] h) fun v h' => v = .bool true ∧ Kp h h' []):To2 (F38 lf cv a b eq h) fun v h' => v = .bool true ∧ Kp h h' [] := by
  have b0:((xs.length:Int) != (xs.length:Int)) = false := by simp
  simp only [F38,LR.len La,LR.len Lb,bind1_some,castInt_int,b0,cB_false]
  refine To2.bind3 (same38L lf La Lb hl hm xs.length 0 lf h (by omega) (by omega) (Kp.refl _ _)) ?_
  rintro x vs h1 ⟨rfl,rfl,k1⟩
  simp only [decide_true,cB_true,castNil_nil]
  exact To2.some ⟨rfl,k1⟩
theorem same21 {lf:Nat} {cv:CallVS} {eq:V} {I J:Nat → Prop} {h:List Ob} {a b:V} {xs:List Asg} (La:LR 9 rAs I h a xs) (Lb:LR 9 rAs J h b xs) (hl:xs.length ≤ 1000000000) (hf:xs.length < lf)
    (hm:∀ (h:List Ob) (va vb:V) (x:Asg),x ∈ xs → rAs.R I h va x → rAs.R J h vb x → To2 (cv eq [va,vb] h) fun v h' => v = .bool true ∧ Kp h h' []):To2 (F21 lf cv a b eq h) fun v h' => v = .bool true ∧ Kp h h' [] := by
  have b0:((xs.length:Int) != (xs.length:Int)) = false := by simp
  simp only [F21,LR.len La,LR.len Lb,bind1_some,castInt_int,b0,cB_false]
  refine To2.bind3 (same21L lf La Lb hl hm xs.length 0 lf h (by omega) (by omega) (Kp.refl _ _)) ?_
  rintro x vs h1 ⟨rfl,rfl,k1⟩
  simp only [decide_true,cB_true,castNil_nil]
  exact To2.some ⟨rfl,k1⟩
theorem same19 {lf:Nat} {cv:CallVS} {eq:V} {I J:Nat → Prop} {h:List Ob} {a b:V} {xs:List (List X)} (La:LR 1 (rL 8 rEx) I h a xs) (Lb:LR 1 (rL 8 rEx) J h b xs) (hl:xs.length ≤ 1000000000) (hf:xs.length < lf)
    (hm:∀ (h:List Ob) (va vb:V) (x:(List X)),x ∈ xs → LR 8 rEx I h va x → LR 8 rEx J h vb x → To2 (cv eq [va,vb] h) fun v h' => v = .bool true ∧ Kp h h' []):To2 (F19 lf cv a b eq h) fun v h' => v = .bool true ∧ Kp h h' [] := by
  have b0:((xs.length:Int) != (xs.length:Int)) = false := by simp
  simp only [F19,LR.len La,LR.len Lb,bind1_some,castInt_int,b0,cB_false]
  refine To2.bind3 (same19L lf La Lb hl hm xs.length 0 lf h (by omega) (by omega) (Kp.refl _ _)) ?_
  rintro x vs h1 ⟨rfl,rfl,k1⟩
  simp only [decide_true,cB_true,castNil_nil]
  exact To2.some ⟨rfl,k1⟩
theorem same15 {lf:Nat} {I J:Nat → Prop} {h:List Ob} {a b:V} {xs:List Cl} (La:LR 4 rCl I h a xs) (Lb:LR 4 rCl J h b xs) (hl:xs.length ≤ 1000000000) (hf:xs.length < lf):F15 lf a b h = some (.bool true,h) := by
  have b0:((xs.length:Int) != (xs.length:Int)) = false := by simp
  have e:L15_0 lf lf a b xs.length 0 h = some (.exit 0,[],h) := same15L lf La Lb hl xs.length 0 lf (by omega) (by omega)
  simp only [F15,LR.len La,LR.len Lb,bind1_some,castInt_int,b0,cB_false,e,bind3_some,decide_true,cB_true,castNil_nil]
theorem same16 {lf:Nat} {I J:Nat → Prop} {h:List Ob} {a b:V} {xs:List (List UInt8)} (La:LR 1 rStr I h a xs) (Lb:LR 1 rStr J h b xs) (hl:xs.length ≤ 1000000000) (hf:xs.length < lf):F16 lf a b h = some (.bool true,h) := by
  have b0:((xs.length:Int) != (xs.length:Int)) = false := by simp
  have e:L16_0 lf lf a b xs.length 0 h = some (.exit 0,[],h) := same16L lf La Lb hl xs.length 0 lf (by omega) (by omega)
  simp only [F16,LR.len La,LR.len Lb,bind1_some,castInt_int,b0,cB_false,e,bind3_some,decide_true,cB_true,castNil_nil]
end Go.Proofs.Ytjpjeilfmjdhcaa.Ps
