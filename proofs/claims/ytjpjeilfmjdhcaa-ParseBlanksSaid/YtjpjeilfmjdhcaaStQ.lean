/- The reader of statements walked: lists with commas between, in ( ) or not. Printed by my own tool. No condition. -/
import Derived.Test.YtjpjeilfmjdhcaaStP
namespace Go.Proofs.Ytjpjeilfmjdhcaa.St
open Go Go.Proofs.Ytjpjeilfmjdhcaa.E
open Go.Proofs.Ytjpjeilfmjdhcaa.Ln
open Go.Proofs.Ytjpjeilfmjdhcaa.Ex
open Go.Proofs.Ytjpjeilfmjdhcaa.Pr
open Go.Proofs.Ytjpjeilfmjdhcaa.Rd
set_option maxRecDepth 100000
set_option linter.unusedVariables false
set_option linter.unusedSimpArgs false
theorem pvS {I:Nat → Prop} {h:List Ob} {n m:Nd} {pv:V} {ps:List X} (e:Ex I h (.agg (aC n pv)) (.mk m ps)):pv.scalar = true := by
  obtain ⟨es,s,-,-,-⟩ := e.inv
  exact (scN s).2
theorem plain1 {v:V} (hc:v.cells = [v]) (hs:v.scalar = true):plainV 1 v = true := by
  cases v <;> first | rfl | (simp [V.scalar] at hs)
theorem LR.lt {α : Type} {sz:Nat} {T:RR α} {I:Nat → Prop} {h:List Ob} {v:V} {xs:List α} (l:LR sz T I h v xs) {j:Nat} (hj:j ∈ idsOf v):j < h.length ∧ I j := by
  obtain ⟨es,s,a,i,-⟩ := l
  exact ⟨s.lt hj,i j hj⟩
/-- The reader's memory is apart from a list's. -/
theorem Pd.apart {h0 h h':List Ob} {r2 r:Nat} {wv:V} {ws:List Wd} {s0 s:RS} (q0:Pd h0 r2 r wv ws s0) (q:Pd h r2 r wv ws s) {A:List Nat} (k:Kp h h' A) (ha:∀ j,j ∈ A → h0.length ≤ j):Pd h' r2 r wv ws s :=
  ⟨⟨q.rd.st.keep k (fun z => by have := ha _ z; have := q0.rd.lt; omega),q.rd.sl.keep k (fun j hj z => by have := ha _ z; have := q0.rd.sl.lt hj; omega),q.rd.nr,q.rd.le,q.rd.few⟩,q.st.keep k (fun z => by have := ha _ z; have := q0.st.lt; omega),q.ne⟩
theorem list71L (lf:Nat) {H0:List Ob} {r2 r:Nat} {wv:V} {ws:List Wd} {s0:RS} {cv:CallVS} {member:V} {m:PM Cl} (hmono:Mono m) (q0:Pd H0 r2 r wv ws s0) (hm:∀ (h:List Ob) (s:RS),Pd h r2 r wv ws s → Kp H0 h [r] → To2 (cv member [] h) (PQ rCl h r2 r wv ws (m s))) :
    ∀ (d f g:Nat) (h:List Ob) (s:RS) (out:V) (acc:List Cl),ws.length - s.i ≤ d → d < f → d < g → Pd h r2 r wv ws s → Kp H0 h [r] → LR 4 rCl (fun j => H0.length ≤ j) h out acc → acc.length ≤ s.i + 1 →
    To3 (L71_0 lf cv f (.ptr r2 0 0) member out h) fun x vs h' => x = .exit 0 ∧ ∃ out',vs = [out'] ∧ LR 4 rCl (fun j => H0.length ≤ j) h' out' (moreP ws m g acc s).1 ∧ Pd h' r2 r wv ws (moreP ws m g acc s).2 ∧ Kp H0 h' [r] := by
  intro d
  induction d with
  | zero =>
    intro f g h s out acc hd hf hg q k L hl
    obtain ⟨f,rfl⟩:∃ f',f = f' + 1 := ⟨f - 1,by omega⟩
    obtain ⟨g,rfl⟩:∃ g',g = g' + 1 := ⟨g - 1,by omega⟩
    simp only [L71_0,B71_0,q.st.nilck,q.st.faddr,q.at0,bind1_some]
    refine To3.bind2 (have10 [44] q.rd) ?_
    rintro v h1 ⟨rfl,d1,k1⟩
    cases hp:(haveP ws [44] s).1 with
    | true => have := haveP_i hp; omega
    | false =>
      simp only [castBool_bool,cB_false,moreP,hp,Bool.false_eq_true,if_false]
      exact To3.some ⟨rfl,out,rfl,(rL 4 rCl).keep L k1 (fun j hj z => by simp at hj; have := q0.rd.lt; omega),q.up k1 d1,Kp.rr k k1⟩
  | succ d ih =>
    intro f g h s out acc hd hf hg q k L hl
    obtain ⟨f,rfl⟩:∃ f',f = f' + 1 := ⟨f - 1,by omega⟩
    obtain ⟨g,rfl⟩:∃ g',g = g' + 1 := ⟨g - 1,by omega⟩
    simp only [L71_0,B71_0,q.st.nilck,q.st.faddr,q.at0,bind1_some]
    refine To3.bind2 (have10 [44] q.rd) ?_
    rintro v h1 ⟨rfl,d1,k1⟩
    have q1 := q.up k1 d1
    have k01 := Kp.rr k k1
    have rlt := q0.rd.lt
    have L1 := (rL 4 rCl).keep L k1 (fun j hj z => by simp at hj; omega)
    cases hp:(haveP ws [44] s).1 with
    | false =>
      simp only [castBool_bool,cB_false,moreP,hp,Bool.false_eq_true,if_false]
      exact To3.some ⟨rfl,out,rfl,L1,q1,k01⟩
    | true =>
      obtain ⟨hs,hlt⟩ := haveP_i hp
      have hi:(haveP ws [44] s).2.i = s.i + 1 := by rw [hs]; rfl
      have hmo := hmono (haveP ws [44] s).2
      have hfew := q.rd.few
      simp only [castBool_bool,cB_true,moreP,hp,if_true]
      refine To3.bind2 (hm h1 _ q1 k01) ?_
      rintro v h2 ⟨q2,k2,t2⟩
      have hv:v = .agg [.str (m (haveP ws [44] s).2).1.n,.int .i64 (m (haveP ws [44] s).2).1.k,.bool (m (haveP ws [44] s).2).1.nn,.bool (m (haveP ws [44] s).2).1.un] := t2
      subst hv
      have L2 := (rL 4 rCl).keep L1 k2 (fun j hj z => by simp at hj; omega)
      have l1:h.length ≤ h1.length := k1.len
      simp only [castAgg_agg,castCons_cons,castInt_int,castStr_str,castBool_bool,castNil_nil]
      refine push_to3 (J := fun j => h1.length ≤ j) (by decide) (by decide) (by decide) L2 t2 (fun j hj z => ⟨Nat.le_trans k01.len z,fun y => by have := (LR.lt L y).1; omega⟩) (fun j hj => Nat.le_trans (Kp.rr k01 k2).len hj) (by omega) (plain_agg rfl rfl) fun w h3 L3 k3 => ?_
      have ha:∀ j,j ∈ idsOf out → H0.length ≤ j := fun j hj => (LR.lt L hj).2
      exact ih f g h3 _ w _ (by omega) (by omega) (by omega) (Pd.apart q0 q2 k3 ha) ((Kp.rr k01 k2).trans k3 (fun j hj _ => hj) (fun j hj hlt => by have := ha j hj; omega)) L3 (by simp; omega)
theorem list71 {lf:Nat} (hf:1000 < lf) {h:List Ob} {r2 r:Nat} {wv:V} {ws:List Wd} {s:RS} {cv:CallVS} {member:V} {m:PM Cl} (hmono:Mono m) (q:Pd h r2 r wv ws s) (hm:∀ (h':List Ob) (s:RS),Pd h' r2 r wv ws s → Kp h h' [r] → To2 (cv member [] h') (PQ rCl h' r2 r wv ws (m s))) :
    To2 (F71 lf cv (.ptr r2 0 0) member h) (PQ (rL 4 rCl) h r2 r wv ws (listP ws m s)) := by
  simp only [F71]
  refine To2.bind2 (hm h s q (Kp.refl _ _)) ?_
  rintro v h1 ⟨q1,k1,t2⟩
  have hv:v = .agg [.str (m s).1.n,.int .i64 (m s).1.k,.bool (m s).1.nn,.bool (m s).1.un] := t2
  subst hv
  have hfew := q.rd.few
  simp only [castAgg_agg,castCons_cons,castInt_int,castStr_str,castBool_bool,castNil_nil]
  refine first_to (T := rCl) (I := fun j => h.length ≤ j ∧ j < h1.length) (x := (m s).1) (by decide) (by decide) (rCl.mono t2 (fun j hj z => ⟨z,hj⟩)) (fun j z => z.2) (plain_agg rfl rfl) fun y h2 L2 k2 => ?_
  have l1 := k1.len
  have L3 := (rL 4 rCl).mono L2 (J := fun j => h.length ≤ j) (fun j hj z => by rcases z with z | z; exact z.1; omega)
  have hmo := hmono s
  refine To2.bind3 (list71L lf hmono q hm ws.length lf (ws.length + 1) h2 (m s).2 y [(m s).1] (by omega) (by omega) (by omega) (q1.kp k2) (Kp.ro k1 k2) L3 (by simp)) ?_
  rintro x vs h3 ⟨rfl,out,rfl,L4,q4,k4⟩
  simp only [decide_true,cB_true,castCons_cons,castNil_nil]
  exact To2.some ⟨q4,k4,L4⟩
theorem list72L (lf:Nat) {H0:List Ob} {r2 r:Nat} {wv:V} {ws:List Wd} {s0:RS} {cv:CallVS} {member:V} {m:PM (List UInt8)} (hmono:Mono m) (q0:Pd H0 r2 r wv ws s0) (hm:∀ (h:List Ob) (s:RS),Pd h r2 r wv ws s → Kp H0 h [r] → To2 (cv member [] h) (PQ rStr h r2 r wv ws (m s))) :
    ∀ (d f g:Nat) (h:List Ob) (s:RS) (out:V) (acc:List (List UInt8)),ws.length - s.i ≤ d → d < f → d < g → Pd h r2 r wv ws s → Kp H0 h [r] → LR 1 rStr (fun j => H0.length ≤ j) h out acc → acc.length ≤ s.i + 1 →
    To3 (L72_0 lf cv f (.ptr r2 0 0) member out h) fun x vs h' => x = .exit 0 ∧ ∃ out',vs = [out'] ∧ LR 1 rStr (fun j => H0.length ≤ j) h' out' (moreP ws m g acc s).1 ∧ Pd h' r2 r wv ws (moreP ws m g acc s).2 ∧ Kp H0 h' [r] := by
  intro d
  induction d with
  | zero =>
    intro f g h s out acc hd hf hg q k L hl
    obtain ⟨f,rfl⟩:∃ f',f = f' + 1 := ⟨f - 1,by omega⟩
    obtain ⟨g,rfl⟩:∃ g',g = g' + 1 := ⟨g - 1,by omega⟩
    simp only [L72_0,B72_0,q.st.nilck,q.st.faddr,q.at0,bind1_some]
    refine To3.bind2 (have10 [44] q.rd) ?_
    rintro v h1 ⟨rfl,d1,k1⟩
    cases hp:(haveP ws [44] s).1 with
    | true => have := haveP_i hp; omega
    | false =>
      simp only [castBool_bool,cB_false,moreP,hp,Bool.false_eq_true,if_false]
      exact To3.some ⟨rfl,out,rfl,(rL 1 rStr).keep L k1 (fun j hj z => by simp at hj; have := q0.rd.lt; omega),q.up k1 d1,Kp.rr k k1⟩
  | succ d ih =>
    intro f g h s out acc hd hf hg q k L hl
    obtain ⟨f,rfl⟩:∃ f',f = f' + 1 := ⟨f - 1,by omega⟩
    obtain ⟨g,rfl⟩:∃ g',g = g' + 1 := ⟨g - 1,by omega⟩
    simp only [L72_0,B72_0,q.st.nilck,q.st.faddr,q.at0,bind1_some]
    refine To3.bind2 (have10 [44] q.rd) ?_
    rintro v h1 ⟨rfl,d1,k1⟩
    have q1 := q.up k1 d1
    have k01 := Kp.rr k k1
    have rlt := q0.rd.lt
    have L1 := (rL 1 rStr).keep L k1 (fun j hj z => by simp at hj; omega)
    cases hp:(haveP ws [44] s).1 with
    | false =>
      simp only [castBool_bool,cB_false,moreP,hp,Bool.false_eq_true,if_false]
      exact To3.some ⟨rfl,out,rfl,L1,q1,k01⟩
    | true =>
      obtain ⟨hs,hlt⟩ := haveP_i hp
      have hi:(haveP ws [44] s).2.i = s.i + 1 := by rw [hs]; rfl
      have hmo := hmono (haveP ws [44] s).2
      have hfew := q.rd.few
      simp only [castBool_bool,cB_true,moreP,hp,if_true]
      refine To3.bind2 (hm h1 _ q1 k01) ?_
      rintro v h2 ⟨q2,k2,t2⟩
      have hv:v = .str (m (haveP ws [44] s).2).1 := t2
      subst hv
      have L2 := (rL 1 rStr).keep L1 k2 (fun j hj z => by simp at hj; omega)
      have l1:h.length ≤ h1.length := k1.len
      simp only [castAgg_agg,castCons_cons,castInt_int,castStr_str,castBool_bool,castNil_nil]
      refine push_to3 (J := fun j => h1.length ≤ j) (by decide) (by decide) (by decide) L2 t2 (fun j hj z => ⟨Nat.le_trans k01.len z,fun y => by have := (LR.lt L y).1; omega⟩) (fun j hj => Nat.le_trans (Kp.rr k01 k2).len hj) (by omega) rfl fun w h3 L3 k3 => ?_
      have ha:∀ j,j ∈ idsOf out → H0.length ≤ j := fun j hj => (LR.lt L hj).2
      exact ih f g h3 _ w _ (by omega) (by omega) (by omega) (Pd.apart q0 q2 k3 ha) ((Kp.rr k01 k2).trans k3 (fun j hj _ => hj) (fun j hj hlt => by have := ha j hj; omega)) L3 (by simp; omega)
theorem list72 {lf:Nat} (hf:1000 < lf) {h:List Ob} {r2 r:Nat} {wv:V} {ws:List Wd} {s:RS} {cv:CallVS} {member:V} {m:PM (List UInt8)} (hmono:Mono m) (q:Pd h r2 r wv ws s) (hm:∀ (h':List Ob) (s:RS),Pd h' r2 r wv ws s → Kp h h' [r] → To2 (cv member [] h') (PQ rStr h' r2 r wv ws (m s))) :
    To2 (F72 lf cv (.ptr r2 0 0) member h) (PQ (rL 1 rStr) h r2 r wv ws (listP ws m s)) := by
  simp only [F72]
  refine To2.bind2 (hm h s q (Kp.refl _ _)) ?_
  rintro v h1 ⟨q1,k1,t2⟩
  have hv:v = .str (m s).1 := t2
  subst hv
  have hfew := q.rd.few
  simp only [castAgg_agg,castCons_cons,castInt_int,castStr_str,castBool_bool,castNil_nil]
  refine first_to (T := rStr) (I := fun j => h.length ≤ j ∧ j < h1.length) (x := (m s).1) (by decide) (by decide) (rStr.mono t2 (fun j hj z => ⟨z,hj⟩)) (fun j z => z.2) rfl fun y h2 L2 k2 => ?_
  have l1 := k1.len
  have L3 := (rL 1 rStr).mono L2 (J := fun j => h.length ≤ j) (fun j hj z => by rcases z with z | z; exact z.1; omega)
  have hmo := hmono s
  refine To2.bind3 (list72L lf hmono q hm ws.length lf (ws.length + 1) h2 (m s).2 y [(m s).1] (by omega) (by omega) (by omega) (q1.kp k2) (Kp.ro k1 k2) L3 (by simp)) ?_
  rintro x vs h3 ⟨rfl,out,rfl,L4,q4,k4⟩
  simp only [decide_true,cB_true,castCons_cons,castNil_nil]
  exact To2.some ⟨q4,k4,L4⟩
theorem list64L (lf:Nat) {H0:List Ob} {r2 r:Nat} {wv:V} {ws:List Wd} {s0:RS} {cv:CallVS} {member:V} {m:PM X} (hmono:Mono m) (q0:Pd H0 r2 r wv ws s0) (hm:∀ (h:List Ob) (s:RS),Pd h r2 r wv ws s → Kp H0 h [r] → To2 (cv member [] h) (PQ rEx h r2 r wv ws (m s))) :
    ∀ (d f g:Nat) (h:List Ob) (s:RS) (out:V) (acc:List X),ws.length - s.i ≤ d → d < f → d < g → Pd h r2 r wv ws s → Kp H0 h [r] → LR 8 rEx (fun j => H0.length ≤ j) h out acc → acc.length ≤ s.i + 1 →
    To3 (L64_0 lf cv f (.ptr r2 0 0) member out h) fun x vs h' => x = .exit 0 ∧ ∃ out',vs = [out'] ∧ LR 8 rEx (fun j => H0.length ≤ j) h' out' (moreP ws m g acc s).1 ∧ Pd h' r2 r wv ws (moreP ws m g acc s).2 ∧ Kp H0 h' [r] := by
  intro d
  induction d with
  | zero =>
    intro f g h s out acc hd hf hg q k L hl
    obtain ⟨f,rfl⟩:∃ f',f = f' + 1 := ⟨f - 1,by omega⟩
    obtain ⟨g,rfl⟩:∃ g',g = g' + 1 := ⟨g - 1,by omega⟩
    simp only [L64_0,B64_0,q.st.nilck,q.st.faddr,q.at0,bind1_some]
    refine To3.bind2 (have10 [44] q.rd) ?_
    rintro v h1 ⟨rfl,d1,k1⟩
    cases hp:(haveP ws [44] s).1 with
    | true => have := haveP_i hp; omega
    | false =>
      simp only [castBool_bool,cB_false,moreP,hp,Bool.false_eq_true,if_false]
      exact To3.some ⟨rfl,out,rfl,(rL 8 rEx).keep L k1 (fun j hj z => by simp at hj; have := q0.rd.lt; omega),q.up k1 d1,Kp.rr k k1⟩
  | succ d ih =>
    intro f g h s out acc hd hf hg q k L hl
    obtain ⟨f,rfl⟩:∃ f',f = f' + 1 := ⟨f - 1,by omega⟩
    obtain ⟨g,rfl⟩:∃ g',g = g' + 1 := ⟨g - 1,by omega⟩
    simp only [L64_0,B64_0,q.st.nilck,q.st.faddr,q.at0,bind1_some]
    refine To3.bind2 (have10 [44] q.rd) ?_
    rintro v h1 ⟨rfl,d1,k1⟩
    have q1 := q.up k1 d1
    have k01 := Kp.rr k k1
    have rlt := q0.rd.lt
    have L1 := (rL 8 rEx).keep L k1 (fun j hj z => by simp at hj; omega)
    cases hp:(haveP ws [44] s).1 with
    | false =>
      simp only [castBool_bool,cB_false,moreP,hp,Bool.false_eq_true,if_false]
      exact To3.some ⟨rfl,out,rfl,L1,q1,k01⟩
    | true =>
      obtain ⟨hs,hlt⟩ := haveP_i hp
      have hi:(haveP ws [44] s).2.i = s.i + 1 := by rw [hs]; rfl
      have hmo := hmono (haveP ws [44] s).2
      have hfew := q.rd.few
      simp only [castBool_bool,cB_true,moreP,hp,if_true]
      refine To3.bind2 (hm h1 _ q1 k01) ?_
      rintro v h2 ⟨q2,k2,t2⟩
      obtain ⟨n,pv,ps,hx,rfl,e2⟩ := id t2
      have L2 := (rL 8 rEx).keep L1 k2 (fun j hj z => by simp at hj; omega)
      have l1:h.length ≤ h1.length := k1.len
      simp only [castAgg_agg,castCons_cons,castInt_int,castStr_str,castBool_bool,castNil_nil]
      refine push_to3 (J := fun j => h1.length ≤ j) (by decide) (by decide) (by decide) L2 t2 (fun j hj z => ⟨Nat.le_trans k01.len z,fun y => by have := (LR.lt L y).1; omega⟩) (fun j hj => Nat.le_trans (Kp.rr k01 k2).len hj) (by omega) (plain_agg rfl (ex_sc e2)) fun w h3 L3 k3 => ?_
      have ha:∀ j,j ∈ idsOf out → H0.length ≤ j := fun j hj => (LR.lt L hj).2
      exact ih f g h3 _ w _ (by omega) (by omega) (by omega) (Pd.apart q0 q2 k3 ha) ((Kp.rr k01 k2).trans k3 (fun j hj _ => hj) (fun j hj hlt => by have := ha j hj; omega)) L3 (by simp; omega)
theorem list64 {lf:Nat} (hf:1000 < lf) {h:List Ob} {r2 r:Nat} {wv:V} {ws:List Wd} {s:RS} {cv:CallVS} {member:V} {m:PM X} (hmono:Mono m) (q:Pd h r2 r wv ws s) (hm:∀ (h':List Ob) (s:RS),Pd h' r2 r wv ws s → Kp h h' [r] → To2 (cv member [] h') (PQ rEx h' r2 r wv ws (m s))) :
    To2 (F64 lf cv (.ptr r2 0 0) member h) (PQ (rL 8 rEx) h r2 r wv ws (listP ws m s)) := by
  simp only [F64]
  refine To2.bind2 (hm h s q (Kp.refl _ _)) ?_
  rintro v h1 ⟨q1,k1,t2⟩
  obtain ⟨n,pv,ps,hx,rfl,e2⟩ := id t2
  have hfew := q.rd.few
  simp only [castAgg_agg,castCons_cons,castInt_int,castStr_str,castBool_bool,castNil_nil]
  refine first_to (T := rEx) (I := fun j => h.length ≤ j ∧ j < h1.length) (x := (m s).1) (by decide) (by decide) (rEx.mono t2 (fun j hj z => ⟨z,hj⟩)) (fun j z => z.2) (plain_agg rfl (ex_sc e2)) fun y h2 L2 k2 => ?_
  have l1 := k1.len
  have L3 := (rL 8 rEx).mono L2 (J := fun j => h.length ≤ j) (fun j hj z => by rcases z with z | z; exact z.1; omega)
  have hmo := hmono s
  refine To2.bind3 (list64L lf hmono q hm ws.length lf (ws.length + 1) h2 (m s).2 y [(m s).1] (by omega) (by omega) (by omega) (q1.kp k2) (Kp.ro k1 k2) L3 (by simp)) ?_
  rintro x vs h3 ⟨rfl,out,rfl,L4,q4,k4⟩
  simp only [decide_true,cB_true,castCons_cons,castNil_nil]
  exact To2.some ⟨q4,k4,L4⟩
theorem list54L (lf:Nat) {H0:List Ob} {r2 r:Nat} {wv:V} {ws:List Wd} {s0:RS} {cv:CallVS} {member:V} {m:PM (List X)} (hmono:Mono m) (q0:Pd H0 r2 r wv ws s0) (hm:∀ (h:List Ob) (s:RS),Pd h r2 r wv ws s → Kp H0 h [r] → To2 (cv member [] h) (PQ (rL 8 rEx) h r2 r wv ws (m s))) :
    ∀ (d f g:Nat) (h:List Ob) (s:RS) (out:V) (acc:List (List X)),ws.length - s.i ≤ d → d < f → d < g → Pd h r2 r wv ws s → Kp H0 h [r] → LR 1 (rL 8 rEx) (fun j => H0.length ≤ j) h out acc → acc.length ≤ s.i + 1 →
    To3 (L54_0 lf cv f (.ptr r2 0 0) member out h) fun x vs h' => x = .exit 0 ∧ ∃ out',vs = [out'] ∧ LR 1 (rL 8 rEx) (fun j => H0.length ≤ j) h' out' (moreP ws m g acc s).1 ∧ Pd h' r2 r wv ws (moreP ws m g acc s).2 ∧ Kp H0 h' [r] := by
  intro d
  induction d with
  | zero =>
    intro f g h s out acc hd hf hg q k L hl
    obtain ⟨f,rfl⟩:∃ f',f = f' + 1 := ⟨f - 1,by omega⟩
    obtain ⟨g,rfl⟩:∃ g',g = g' + 1 := ⟨g - 1,by omega⟩
    simp only [L54_0,B54_0,q.st.nilck,q.st.faddr,q.at0,bind1_some]
    refine To3.bind2 (have10 [44] q.rd) ?_
    rintro v h1 ⟨rfl,d1,k1⟩
    cases hp:(haveP ws [44] s).1 with
    | true => have := haveP_i hp; omega
    | false =>
      simp only [castBool_bool,cB_false,moreP,hp,Bool.false_eq_true,if_false]
      exact To3.some ⟨rfl,out,rfl,(rL 1 (rL 8 rEx)).keep L k1 (fun j hj z => by simp at hj; have := q0.rd.lt; omega),q.up k1 d1,Kp.rr k k1⟩
  | succ d ih =>
    intro f g h s out acc hd hf hg q k L hl
    obtain ⟨f,rfl⟩:∃ f',f = f' + 1 := ⟨f - 1,by omega⟩
    obtain ⟨g,rfl⟩:∃ g',g = g' + 1 := ⟨g - 1,by omega⟩
    simp only [L54_0,B54_0,q.st.nilck,q.st.faddr,q.at0,bind1_some]
    refine To3.bind2 (have10 [44] q.rd) ?_
    rintro v h1 ⟨rfl,d1,k1⟩
    have q1 := q.up k1 d1
    have k01 := Kp.rr k k1
    have rlt := q0.rd.lt
    have L1 := (rL 1 (rL 8 rEx)).keep L k1 (fun j hj z => by simp at hj; omega)
    cases hp:(haveP ws [44] s).1 with
    | false =>
      simp only [castBool_bool,cB_false,moreP,hp,Bool.false_eq_true,if_false]
      exact To3.some ⟨rfl,out,rfl,L1,q1,k01⟩
    | true =>
      obtain ⟨hs,hlt⟩ := haveP_i hp
      have hi:(haveP ws [44] s).2.i = s.i + 1 := by rw [hs]; rfl
      have hmo := hmono (haveP ws [44] s).2
      have hfew := q.rd.few
      simp only [castBool_bool,cB_true,moreP,hp,if_true]
      refine To3.bind2 (hm h1 _ q1 k01) ?_
      rintro v h2 ⟨q2,k2,t2⟩
      have L2 := (rL 1 (rL 8 rEx)).keep L1 k2 (fun j hj z => by simp at hj; omega)
      have l1:h.length ≤ h1.length := k1.len
      refine push_to3 (J := fun j => h1.length ≤ j) (by decide) (by decide) (by decide) L2 t2 (fun j hj z => ⟨Nat.le_trans k01.len z,fun y => by have := (LR.lt L y).1; omega⟩) (fun j hj => Nat.le_trans (Kp.rr k01 k2).len hj) (by omega) (plain1 (LR.sc t2).1 (LR.sc t2).2) fun w h3 L3 k3 => ?_
      have ha:∀ j,j ∈ idsOf out → H0.length ≤ j := fun j hj => (LR.lt L hj).2
      exact ih f g h3 _ w _ (by omega) (by omega) (by omega) (Pd.apart q0 q2 k3 ha) ((Kp.rr k01 k2).trans k3 (fun j hj _ => hj) (fun j hj hlt => by have := ha j hj; omega)) L3 (by simp; omega)
theorem list54 {lf:Nat} (hf:1000 < lf) {h:List Ob} {r2 r:Nat} {wv:V} {ws:List Wd} {s:RS} {cv:CallVS} {member:V} {m:PM (List X)} (hmono:Mono m) (q:Pd h r2 r wv ws s) (hm:∀ (h':List Ob) (s:RS),Pd h' r2 r wv ws s → Kp h h' [r] → To2 (cv member [] h') (PQ (rL 8 rEx) h' r2 r wv ws (m s))) :
    To2 (F54 lf cv (.ptr r2 0 0) member h) (PQ (rL 1 (rL 8 rEx)) h r2 r wv ws (listP ws m s)) := by
  simp only [F54]
  refine To2.bind2 (hm h s q (Kp.refl _ _)) ?_
  rintro v h1 ⟨q1,k1,t2⟩
  have hfew := q.rd.few
  refine first_to (T := (rL 8 rEx)) (I := fun j => h.length ≤ j ∧ j < h1.length) (x := (m s).1) (by decide) (by decide) ((rL 8 rEx).mono t2 (fun j hj z => ⟨z,hj⟩)) (fun j z => z.2) (plain1 (LR.sc t2).1 (LR.sc t2).2) fun y h2 L2 k2 => ?_
  have l1 := k1.len
  have L3 := (rL 1 (rL 8 rEx)).mono L2 (J := fun j => h.length ≤ j) (fun j hj z => by rcases z with z | z; exact z.1; omega)
  have hmo := hmono s
  refine To2.bind3 (list54L lf hmono q hm ws.length lf (ws.length + 1) h2 (m s).2 y [(m s).1] (by omega) (by omega) (by omega) (q1.kp k2) (Kp.ro k1 k2) L3 (by simp)) ?_
  rintro x vs h3 ⟨rfl,out,rfl,L4,q4,k4⟩
  simp only [decide_true,cB_true,castCons_cons,castNil_nil]
  exact To2.some ⟨q4,k4,L4⟩
theorem list58L (lf:Nat) {H0:List Ob} {r2 r:Nat} {wv:V} {ws:List Wd} {s0:RS} {cv:CallVS} {member:V} {m:PM Asg} (hmono:Mono m) (q0:Pd H0 r2 r wv ws s0) (hm:∀ (h:List Ob) (s:RS),Pd h r2 r wv ws s → Kp H0 h [r] → To2 (cv member [] h) (PQ rAs h r2 r wv ws (m s))) :
    ∀ (d f g:Nat) (h:List Ob) (s:RS) (out:V) (acc:List Asg),ws.length - s.i ≤ d → d < f → d < g → Pd h r2 r wv ws s → Kp H0 h [r] → LR 9 rAs (fun j => H0.length ≤ j) h out acc → acc.length ≤ s.i + 1 →
    To3 (L58_0 lf cv f (.ptr r2 0 0) member out h) fun x vs h' => x = .exit 0 ∧ ∃ out',vs = [out'] ∧ LR 9 rAs (fun j => H0.length ≤ j) h' out' (moreP ws m g acc s).1 ∧ Pd h' r2 r wv ws (moreP ws m g acc s).2 ∧ Kp H0 h' [r] := by
  intro d
  induction d with
  | zero =>
    intro f g h s out acc hd hf hg q k L hl
    obtain ⟨f,rfl⟩:∃ f',f = f' + 1 := ⟨f - 1,by omega⟩
    obtain ⟨g,rfl⟩:∃ g',g = g' + 1 := ⟨g - 1,by omega⟩
    simp only [L58_0,B58_0,q.st.nilck,q.st.faddr,q.at0,bind1_some]
    refine To3.bind2 (have10 [44] q.rd) ?_
    rintro v h1 ⟨rfl,d1,k1⟩
    cases hp:(haveP ws [44] s).1 with
    | true => have := haveP_i hp; omega
    | false =>
      simp only [castBool_bool,cB_false,moreP,hp,Bool.false_eq_true,if_false]
      exact To3.some ⟨rfl,out,rfl,(rL 9 rAs).keep L k1 (fun j hj z => by simp at hj; have := q0.rd.lt; omega),q.up k1 d1,Kp.rr k k1⟩
  | succ d ih =>
    intro f g h s out acc hd hf hg q k L hl
    obtain ⟨f,rfl⟩:∃ f',f = f' + 1 := ⟨f - 1,by omega⟩
    obtain ⟨g,rfl⟩:∃ g',g = g' + 1 := ⟨g - 1,by omega⟩
    simp only [L58_0,B58_0,q.st.nilck,q.st.faddr,q.at0,bind1_some]
    refine To3.bind2 (have10 [44] q.rd) ?_
    rintro v h1 ⟨rfl,d1,k1⟩
    have q1 := q.up k1 d1
    have k01 := Kp.rr k k1
    have rlt := q0.rd.lt
    have L1 := (rL 9 rAs).keep L k1 (fun j hj z => by simp at hj; omega)
    cases hp:(haveP ws [44] s).1 with
    | false =>
      simp only [castBool_bool,cB_false,moreP,hp,Bool.false_eq_true,if_false]
      exact To3.some ⟨rfl,out,rfl,L1,q1,k01⟩
    | true =>
      obtain ⟨hs,hlt⟩ := haveP_i hp
      have hi:(haveP ws [44] s).2.i = s.i + 1 := by rw [hs]; rfl
      have hmo := hmono (haveP ws [44] s).2
      have hfew := q.rd.few
      simp only [castBool_bool,cB_true,moreP,hp,if_true]
      refine To3.bind2 (hm h1 _ q1 k01) ?_
      rintro v h2 ⟨q2,k2,t2⟩
      obtain ⟨n,pv,ps,hx,rfl,e2⟩ := id t2
      have L2 := (rL 9 rAs).keep L1 k2 (fun j hj z => by simp at hj; omega)
      have l1:h.length ≤ h1.length := k1.len
      simp only [castAgg_agg,castCons_cons,castInt_int,castStr_str,castBool_bool,castNil_nil]
      refine push_to3 (J := fun j => h1.length ≤ j) (by decide) (by decide) (by decide) L2 t2 (fun j hj z => ⟨Nat.le_trans k01.len z,fun y => by have := (LR.lt L y).1; omega⟩) (fun j hj => Nat.le_trans (Kp.rr k01 k2).len hj) (by omega) (plain_agg rfl (by simp only [List.all_cons,List.all_nil,pvS e2]; rfl)) fun w h3 L3 k3 => ?_
      have ha:∀ j,j ∈ idsOf out → H0.length ≤ j := fun j hj => (LR.lt L hj).2
      exact ih f g h3 _ w _ (by omega) (by omega) (by omega) (Pd.apart q0 q2 k3 ha) ((Kp.rr k01 k2).trans k3 (fun j hj _ => hj) (fun j hj hlt => by have := ha j hj; omega)) L3 (by simp; omega)
theorem list58 {lf:Nat} (hf:1000 < lf) {h:List Ob} {r2 r:Nat} {wv:V} {ws:List Wd} {s:RS} {cv:CallVS} {member:V} {m:PM Asg} (hmono:Mono m) (q:Pd h r2 r wv ws s) (hm:∀ (h':List Ob) (s:RS),Pd h' r2 r wv ws s → Kp h h' [r] → To2 (cv member [] h') (PQ rAs h' r2 r wv ws (m s))) :
    To2 (F58 lf cv (.ptr r2 0 0) member h) (PQ (rL 9 rAs) h r2 r wv ws (listP ws m s)) := by
  simp only [F58]
  refine To2.bind2 (hm h s q (Kp.refl _ _)) ?_
  rintro v h1 ⟨q1,k1,t2⟩
  obtain ⟨n,pv,ps,hx,rfl,e2⟩ := id t2
  have hfew := q.rd.few
  simp only [castAgg_agg,castCons_cons,castInt_int,castStr_str,castBool_bool,castNil_nil]
  refine first_to (T := rAs) (I := fun j => h.length ≤ j ∧ j < h1.length) (x := (m s).1) (by decide) (by decide) (rAs.mono t2 (fun j hj z => ⟨z,hj⟩)) (fun j z => z.2) (plain_agg rfl (by simp only [List.all_cons,List.all_nil,pvS e2]; rfl)) fun y h2 L2 k2 => ?_
  have l1 := k1.len
  have L3 := (rL 9 rAs).mono L2 (J := fun j => h.length ≤ j) (fun j hj z => by rcases z with z | z; exact z.1; omega)
  have hmo := hmono s
  refine To2.bind3 (list58L lf hmono q hm ws.length lf (ws.length + 1) h2 (m s).2 y [(m s).1] (by omega) (by omega) (by omega) (q1.kp k2) (Kp.ro k1 k2) L3 (by simp)) ?_
  rintro x vs h3 ⟨rfl,out,rfl,L4,q4,k4⟩
  simp only [decide_true,cB_true,castCons_cons,castNil_nil]
  exact To2.some ⟨q4,k4,L4⟩
theorem list61L (lf:Nat) {H0:List Ob} {r2 r:Nat} {wv:V} {ws:List Wd} {s0:RS} {cv:CallVS} {member:V} {m:PM It} (hmono:Mono m) (q0:Pd H0 r2 r wv ws s0) (hm:∀ (h:List Ob) (s:RS),Pd h r2 r wv ws s → Kp H0 h [r] → To2 (cv member [] h) (PQ rIt h r2 r wv ws (m s))) :
    ∀ (d f g:Nat) (h:List Ob) (s:RS) (out:V) (acc:List It),ws.length - s.i ≤ d → d < f → d < g → Pd h r2 r wv ws s → Kp H0 h [r] → LR 9 rIt (fun j => H0.length ≤ j) h out acc → acc.length ≤ s.i + 1 →
    To3 (L61_0 lf cv f (.ptr r2 0 0) member out h) fun x vs h' => x = .exit 0 ∧ ∃ out',vs = [out'] ∧ LR 9 rIt (fun j => H0.length ≤ j) h' out' (moreP ws m g acc s).1 ∧ Pd h' r2 r wv ws (moreP ws m g acc s).2 ∧ Kp H0 h' [r] := by
  intro d
  induction d with
  | zero =>
    intro f g h s out acc hd hf hg q k L hl
    obtain ⟨f,rfl⟩:∃ f',f = f' + 1 := ⟨f - 1,by omega⟩
    obtain ⟨g,rfl⟩:∃ g',g = g' + 1 := ⟨g - 1,by omega⟩
    simp only [L61_0,B61_0,q.st.nilck,q.st.faddr,q.at0,bind1_some]
    refine To3.bind2 (have10 [44] q.rd) ?_
    rintro v h1 ⟨rfl,d1,k1⟩
    cases hp:(haveP ws [44] s).1 with
    | true => have := haveP_i hp; omega
    | false =>
      simp only [castBool_bool,cB_false,moreP,hp,Bool.false_eq_true,if_false]
      exact To3.some ⟨rfl,out,rfl,(rL 9 rIt).keep L k1 (fun j hj z => by simp at hj; have := q0.rd.lt; omega),q.up k1 d1,Kp.rr k k1⟩
  | succ d ih =>
    intro f g h s out acc hd hf hg q k L hl
    obtain ⟨f,rfl⟩:∃ f',f = f' + 1 := ⟨f - 1,by omega⟩
    obtain ⟨g,rfl⟩:∃ g',g = g' + 1 := ⟨g - 1,by omega⟩
    simp only [L61_0,B61_0,q.st.nilck,q.st.faddr,q.at0,bind1_some]
    refine To3.bind2 (have10 [44] q.rd) ?_
    rintro v h1 ⟨rfl,d1,k1⟩
    have q1 := q.up k1 d1
    have k01 := Kp.rr k k1
    have rlt := q0.rd.lt
    have L1 := (rL 9 rIt).keep L k1 (fun j hj z => by simp at hj; omega)
    cases hp:(haveP ws [44] s).1 with
    | false =>
      simp only [castBool_bool,cB_false,moreP,hp,Bool.false_eq_true,if_false]
      exact To3.some ⟨rfl,out,rfl,L1,q1,k01⟩
    | true =>
      obtain ⟨hs,hlt⟩ := haveP_i hp
      have hi:(haveP ws [44] s).2.i = s.i + 1 := by rw [hs]; rfl
      have hmo := hmono (haveP ws [44] s).2
      have hfew := q.rd.few
      simp only [castBool_bool,cB_true,moreP,hp,if_true]
      refine To3.bind2 (hm h1 _ q1 k01) ?_
      rintro v h2 ⟨q2,k2,t2⟩
      obtain ⟨n,pv,ps,hx,rfl,e2⟩ := id t2
      have L2 := (rL 9 rIt).keep L1 k2 (fun j hj z => by simp at hj; omega)
      have l1:h.length ≤ h1.length := k1.len
      simp only [castAgg_agg,castCons_cons,castInt_int,castStr_str,castBool_bool,castNil_nil]
      refine push_to3 (J := fun j => h1.length ≤ j) (by decide) (by decide) (by decide) L2 t2 (fun j hj z => ⟨Nat.le_trans k01.len z,fun y => by have := (LR.lt L y).1; omega⟩) (fun j hj => Nat.le_trans (Kp.rr k01 k2).len hj) (by omega) (plain_agg rfl (by simp only [List.all_cons,List.all_nil,pvS e2]; rfl)) fun w h3 L3 k3 => ?_
      have ha:∀ j,j ∈ idsOf out → H0.length ≤ j := fun j hj => (LR.lt L hj).2
      exact ih f g h3 _ w _ (by omega) (by omega) (by omega) (Pd.apart q0 q2 k3 ha) ((Kp.rr k01 k2).trans k3 (fun j hj _ => hj) (fun j hj hlt => by have := ha j hj; omega)) L3 (by simp; omega)
theorem list61 {lf:Nat} (hf:1000 < lf) {h:List Ob} {r2 r:Nat} {wv:V} {ws:List Wd} {s:RS} {cv:CallVS} {member:V} {m:PM It} (hmono:Mono m) (q:Pd h r2 r wv ws s) (hm:∀ (h':List Ob) (s:RS),Pd h' r2 r wv ws s → Kp h h' [r] → To2 (cv member [] h') (PQ rIt h' r2 r wv ws (m s))) :
    To2 (F61 lf cv (.ptr r2 0 0) member h) (PQ (rL 9 rIt) h r2 r wv ws (listP ws m s)) := by
  simp only [F61]
  refine To2.bind2 (hm h s q (Kp.refl _ _)) ?_
  rintro v h1 ⟨q1,k1,t2⟩
  obtain ⟨n,pv,ps,hx,rfl,e2⟩ := id t2
  have hfew := q.rd.few
  simp only [castAgg_agg,castCons_cons,castInt_int,castStr_str,castBool_bool,castNil_nil]
  refine first_to (T := rIt) (I := fun j => h.length ≤ j ∧ j < h1.length) (x := (m s).1) (by decide) (by decide) (rIt.mono t2 (fun j hj z => ⟨z,hj⟩)) (fun j z => z.2) (plain_agg rfl (by simp only [List.all_cons,List.all_nil,pvS e2]; rfl)) fun y h2 L2 k2 => ?_
  have l1 := k1.len
  have L3 := (rL 9 rIt).mono L2 (J := fun j => h.length ≤ j) (fun j hj z => by rcases z with z | z; exact z.1; omega)
  have hmo := hmono s
  refine To2.bind3 (list61L lf hmono q hm ws.length lf (ws.length + 1) h2 (m s).2 y [(m s).1] (by omega) (by omega) (by omega) (q1.kp k2) (Kp.ro k1 k2) L3 (by simp)) ?_
  rintro x vs h3 ⟨rfl,out,rfl,L4,q4,k4⟩
  simp only [decide_true,cB_true,castCons_cons,castNil_nil]
  exact To2.some ⟨q4,k4,L4⟩
theorem list65L (lf:Nat) {H0:List Ob} {r2 r:Nat} {wv:V} {ws:List Wd} {s0:RS} {cv:CallVS} {member:V} {m:PM Od} (hmono:Mono m) (q0:Pd H0 r2 r wv ws s0) (hm:∀ (h:List Ob) (s:RS),Pd h r2 r wv ws s → Kp H0 h [r] → To2 (cv member [] h) (PQ rOd h r2 r wv ws (m s))) :
    ∀ (d f g:Nat) (h:List Ob) (s:RS) (out:V) (acc:List Od),ws.length - s.i ≤ d → d < f → d < g → Pd h r2 r wv ws s → Kp H0 h [r] → LR 9 rOd (fun j => H0.length ≤ j) h out acc → acc.length ≤ s.i + 1 →
    To3 (L65_0 lf cv f (.ptr r2 0 0) member out h) fun x vs h' => x = .exit 0 ∧ ∃ out',vs = [out'] ∧ LR 9 rOd (fun j => H0.length ≤ j) h' out' (moreP ws m g acc s).1 ∧ Pd h' r2 r wv ws (moreP ws m g acc s).2 ∧ Kp H0 h' [r] := by
  intro d
  induction d with
  | zero =>
    intro f g h s out acc hd hf hg q k L hl
    obtain ⟨f,rfl⟩:∃ f',f = f' + 1 := ⟨f - 1,by omega⟩
    obtain ⟨g,rfl⟩:∃ g',g = g' + 1 := ⟨g - 1,by omega⟩
    simp only [L65_0,B65_0,q.st.nilck,q.st.faddr,q.at0,bind1_some]
    refine To3.bind2 (have10 [44] q.rd) ?_
    rintro v h1 ⟨rfl,d1,k1⟩
    cases hp:(haveP ws [44] s).1 with
    | true => have := haveP_i hp; omega
    | false =>
      simp only [castBool_bool,cB_false,moreP,hp,Bool.false_eq_true,if_false]
      exact To3.some ⟨rfl,out,rfl,(rL 9 rOd).keep L k1 (fun j hj z => by simp at hj; have := q0.rd.lt; omega),q.up k1 d1,Kp.rr k k1⟩
  | succ d ih =>
    intro f g h s out acc hd hf hg q k L hl
    obtain ⟨f,rfl⟩:∃ f',f = f' + 1 := ⟨f - 1,by omega⟩
    obtain ⟨g,rfl⟩:∃ g',g = g' + 1 := ⟨g - 1,by omega⟩
    simp only [L65_0,B65_0,q.st.nilck,q.st.faddr,q.at0,bind1_some]
    refine To3.bind2 (have10 [44] q.rd) ?_
    rintro v h1 ⟨rfl,d1,k1⟩
    have q1 := q.up k1 d1
    have k01 := Kp.rr k k1
    have rlt := q0.rd.lt
    have L1 := (rL 9 rOd).keep L k1 (fun j hj z => by simp at hj; omega)
    cases hp:(haveP ws [44] s).1 with
    | false =>
      simp only [castBool_bool,cB_false,moreP,hp,Bool.false_eq_true,if_false]
      exact To3.some ⟨rfl,out,rfl,L1,q1,k01⟩
    | true =>
      obtain ⟨hs,hlt⟩ := haveP_i hp
      have hi:(haveP ws [44] s).2.i = s.i + 1 := by rw [hs]; rfl
      have hmo := hmono (haveP ws [44] s).2
      have hfew := q.rd.few
      simp only [castBool_bool,cB_true,moreP,hp,if_true]
      refine To3.bind2 (hm h1 _ q1 k01) ?_
      rintro v h2 ⟨q2,k2,t2⟩
      obtain ⟨n,pv,ps,hx,rfl,e2⟩ := id t2
      have L2 := (rL 9 rOd).keep L1 k2 (fun j hj z => by simp at hj; omega)
      have l1:h.length ≤ h1.length := k1.len
      simp only [castAgg_agg,castCons_cons,castInt_int,castStr_str,castBool_bool,castNil_nil]
      refine push_to3 (J := fun j => h1.length ≤ j) (by decide) (by decide) (by decide) L2 t2 (fun j hj z => ⟨Nat.le_trans k01.len z,fun y => by have := (LR.lt L y).1; omega⟩) (fun j hj => Nat.le_trans (Kp.rr k01 k2).len hj) (by omega) (plain_agg rfl (by simp only [List.all_cons,List.all_nil,pvS e2]; rfl)) fun w h3 L3 k3 => ?_
      have ha:∀ j,j ∈ idsOf out → H0.length ≤ j := fun j hj => (LR.lt L hj).2
      exact ih f g h3 _ w _ (by omega) (by omega) (by omega) (Pd.apart q0 q2 k3 ha) ((Kp.rr k01 k2).trans k3 (fun j hj _ => hj) (fun j hj hlt => by have := ha j hj; omega)) L3 (by simp; omega)
theorem list65 {lf:Nat} (hf:1000 < lf) {h:List Ob} {r2 r:Nat} {wv:V} {ws:List Wd} {s:RS} {cv:CallVS} {member:V} {m:PM Od} (hmono:Mono m) (q:Pd h r2 r wv ws s) (hm:∀ (h':List Ob) (s:RS),Pd h' r2 r wv ws s → Kp h h' [r] → To2 (cv member [] h') (PQ rOd h' r2 r wv ws (m s))) :
    To2 (F65 lf cv (.ptr r2 0 0) member h) (PQ (rL 9 rOd) h r2 r wv ws (listP ws m s)) := by
  simp only [F65]
  refine To2.bind2 (hm h s q (Kp.refl _ _)) ?_
  rintro v h1 ⟨q1,k1,t2⟩
  obtain ⟨n,pv,ps,hx,rfl,e2⟩ := id t2
  have hfew := q.rd.few
  simp only [castAgg_agg,castCons_cons,castInt_int,castStr_str,castBool_bool,castNil_nil]
  refine first_to (T := rOd) (I := fun j => h.length ≤ j ∧ j < h1.length) (x := (m s).1) (by decide) (by decide) (rOd.mono t2 (fun j hj z => ⟨z,hj⟩)) (fun j z => z.2) (plain_agg rfl (by simp only [List.all_cons,List.all_nil,pvS e2]; rfl)) fun y h2 L2 k2 => ?_
  have l1 := k1.len
  have L3 := (rL 9 rOd).mono L2 (J := fun j => h.length ≤ j) (fun j hj z => by rcases z with z | z; exact z.1; omega)
  have hmo := hmono s
  refine To2.bind3 (list65L lf hmono q hm ws.length lf (ws.length + 1) h2 (m s).2 y [(m s).1] (by omega) (by omega) (by omega) (q1.kp k2) (Kp.ro k1 k2) L3 (by simp)) ?_
  rintro x vs h3 ⟨rfl,out,rfl,L4,q4,k4⟩
  simp only [decide_true,cB_true,castCons_cons,castNil_nil]
  exact To2.some ⟨q4,k4,L4⟩
theorem group50 {lf:Nat} (hf:1000 < lf) {h:List Ob} {r2 r:Nat} {wv:V} {ws:List Wd} {s:RS} {cv:CallVS} {member:V} {m:PM Cl} (hmono:Mono m) (q:Pd h r2 r wv ws s) (hm:∀ (h':List Ob) (s:RS),Pd h' r2 r wv ws s → Kp h h' [r] → To2 (cv member [] h') (PQ rCl h' r2 r wv ws (m s))) :
    To2 (F50 lf cv (.ptr r2 0 0) member h) (PQ (rL 4 rCl) h r2 r wv ws (groupP ws m s)) := by
  simp only [F50,q.st.nilck,q.st.faddr,q.at0,bind1_some]
  refine want_to hf q.rd (l := [[40]]) (ps := [(0,.str [40])]) rfl (by decide) rfl rfl fun h1 d1 k1 => ?_
  have q1 := q.up k1 d1
  refine To2.bind2 (list71 hf hmono q1 (fun h' s d k => hm h' s d (Kp.rr k1 k))) ?_
  rintro v h2 ⟨q2,k2,L2⟩
  simp only [q2.st.nilck,q2.st.faddr,q2.at0,bind1_some]
  refine want_to hf q2.rd (l := [[41]]) (ps := [(0,.str [41])]) rfl (by decide) rfl rfl fun h3 d3 k3 => ?_
  have rlt := q1.rd.lt
  have l1 := k1.len
  exact To2.some ⟨q2.up k3 d3,Kp.rr (Kp.rr k1 k2) k3,(rL 4 rCl).mono ((rL 4 rCl).keep L2 k3 (fun j hj z => by simp at hj; omega)) (fun j hj z => by omega)⟩
theorem group53 {lf:Nat} (hf:1000 < lf) {h:List Ob} {r2 r:Nat} {wv:V} {ws:List Wd} {s:RS} {cv:CallVS} {member:V} {m:PM (List UInt8)} (hmono:Mono m) (q:Pd h r2 r wv ws s) (hm:∀ (h':List Ob) (s:RS),Pd h' r2 r wv ws s → Kp h h' [r] → To2 (cv member [] h') (PQ rStr h' r2 r wv ws (m s))) :
    To2 (F53 lf cv (.ptr r2 0 0) member h) (PQ (rL 1 rStr) h r2 r wv ws (groupP ws m s)) := by
  simp only [F53,q.st.nilck,q.st.faddr,q.at0,bind1_some]
  refine want_to hf q.rd (l := [[40]]) (ps := [(0,.str [40])]) rfl (by decide) rfl rfl fun h1 d1 k1 => ?_
  have q1 := q.up k1 d1
  refine To2.bind2 (list72 hf hmono q1 (fun h' s d k => hm h' s d (Kp.rr k1 k))) ?_
  rintro v h2 ⟨q2,k2,L2⟩
  simp only [q2.st.nilck,q2.st.faddr,q2.at0,bind1_some]
  refine want_to hf q2.rd (l := [[41]]) (ps := [(0,.str [41])]) rfl (by decide) rfl rfl fun h3 d3 k3 => ?_
  have rlt := q1.rd.lt
  have l1 := k1.len
  exact To2.some ⟨q2.up k3 d3,Kp.rr (Kp.rr k1 k2) k3,(rL 1 rStr).mono ((rL 1 rStr).keep L2 k3 (fun j hj z => by simp at hj; omega)) (fun j hj z => by omega)⟩
theorem group56 {lf:Nat} (hf:1000 < lf) {h:List Ob} {r2 r:Nat} {wv:V} {ws:List Wd} {s:RS} {cv:CallVS} {member:V} {m:PM X} (hmono:Mono m) (q:Pd h r2 r wv ws s) (hm:∀ (h':List Ob) (s:RS),Pd h' r2 r wv ws s → Kp h h' [r] → To2 (cv member [] h') (PQ rEx h' r2 r wv ws (m s))) :
    To2 (F56 lf cv (.ptr r2 0 0) member h) (PQ (rL 8 rEx) h r2 r wv ws (groupP ws m s)) := by
  simp only [F56,q.st.nilck,q.st.faddr,q.at0,bind1_some]
  refine want_to hf q.rd (l := [[40]]) (ps := [(0,.str [40])]) rfl (by decide) rfl rfl fun h1 d1 k1 => ?_
  have q1 := q.up k1 d1
  refine To2.bind2 (list64 hf hmono q1 (fun h' s d k => hm h' s d (Kp.rr k1 k))) ?_
  rintro v h2 ⟨q2,k2,L2⟩
  simp only [q2.st.nilck,q2.st.faddr,q2.at0,bind1_some]
  refine want_to hf q2.rd (l := [[41]]) (ps := [(0,.str [41])]) rfl (by decide) rfl rfl fun h3 d3 k3 => ?_
  have rlt := q1.rd.lt
  have l1 := k1.len
  exact To2.some ⟨q2.up k3 d3,Kp.rr (Kp.rr k1 k2) k3,(rL 8 rEx).mono ((rL 8 rEx).keep L2 k3 (fun j hj z => by simp at hj; omega)) (fun j hj z => by omega)⟩
end Go.Proofs.Ytjpjeilfmjdhcaa.St
