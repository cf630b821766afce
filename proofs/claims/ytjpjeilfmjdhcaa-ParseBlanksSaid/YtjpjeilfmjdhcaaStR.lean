/- The reader of statements walked: members: names with another name, sources, what is told, orders, columns, assignments. No condition. -/
import Derived.Test.YtjpjeilfmjdhcaaStQ
namespace Go.Proofs.Ytjpjeilfmjdhcaa.St
open Go Go.Proofs.Ytjpjeilfmjdhcaa.E
open Go.Proofs.Ytjpjeilfmjdhcaa.Ln
open Go.Proofs.Ytjpjeilfmjdhcaa.Ex
open Go.Proofs.Ytjpjeilfmjdhcaa.Pr
open Go.Proofs.Ytjpjeilfmjdhcaa.Rd
set_option maxRecDepth 100000
set_option linter.unusedVariables false
set_option linter.unusedSimpArgs false
/-- A struct in a variable of its own. -/
theorem putN {h:List Ob} {n:Nat} {zs ds:List V} {K:V → List Ob → Option (V × List Ob)} {Q:V → List Ob → Prop} (hz:zs.all V.scalar = true) (hzl:zs.length = n) (hd:ds.length = n) (h0:0 < n) (hs:ds.all V.scalar = true) (hK:∀ h2,St h2 h.length ds → Kp h h2 [] → To2 (K (.ptr h.length 0 0) h2) Q) :
    To2 (bind2 (ev (.alloc false (.agg zs)) h) fun x h_1 => bind2 (ev (.store n (.c x) (.c (.agg ds))) h_1) fun _ h_2 => K x h_2) Q := by
  refine To2.bind2 (alloc_to hz) ?_
  rintro x h1 ⟨rfl,st,k1⟩
  refine To2.bind2 (st.storeN (ds := ds) (by omega) (by omega) hs (n := n) hzl) ?_
  rintro u h2 ⟨st2,k2⟩
  exact hK h2 st2 (k1.trans k2 (fun j hj => by cases hj) (fun j hj hlt => by simp at hj; omega))
/-- A struct is handed back. -/
theorem finP {α : Type} {T:RR α} {h h1:List Ob} {n:Nat} {cs ds:List V} {r2 r:Nat} {wv:V} {ws:List Wd} {s0 s:RS} {x : α} (q0:Pd h r2 r wv ws s0) (hx:St h1 h.length cs) (hc:cs.length = n) (hd:ds.length = n) (h0:0 < n) (hs:ds.all V.scalar = true) (q:Pd h1 r2 r wv ws s) (k:Kp h h1 [r]) (t:T.R (fun j => h.length < j) h1 (.agg ds) x) :
    To2 (bind2 (ev (.store n (.c (.ptr h.length 0 0)) (.c (.agg ds))) h1) fun _ h2 => bind1 (evLoadN h2 n (.ptr h.length 0 0)) fun r1 => some (r1,h2)) (PQ T h r2 r wv ws (x,s)) := by
  refine To2.bind2 (hx.storeN (ds := ds) (by omega) (by omega) hs (n := n) hc) ?_
  rintro u h2 ⟨st2,k2⟩
  subst hd
  simp only [show evLoadN h2 ds.length (.ptr h.length 0 0) = some (.agg ds) from st2.loadN,bind1_some]
  refine To2.some ⟨Pd.apart q0 q k2 (fun j hj => by simp at hj; omega),k.trans k2 (fun j hj _ => hj) (fun j hj hlt => by simp at hj; omega),?_⟩
  exact T.mono (T.keep t k2 (fun j hj z => by simp at hj; omega)) (fun j _ z => Nat.le_of_lt z)
theorem as75 {lf:Nat} {h:List Ob} {r2 r:Nat} {wv:V} {ws:List Wd} {s:RS} (n:List UInt8) (q:Pd h r2 r wv ws s):To2 (F75 lf (.ptr r2 0 0) n h) fun v h' => v = .str (asP ws n s).1 ∧ Pd h' r2 r wv ws (asP ws n s).2 ∧ Kp h h' [r] := by
  simp only [F75,q.st.nilck,q.st.faddr,q.at0,bind1_some]
  refine To2.bind2 (have10 [65,83] q.rd) ?_
  rintro v h1 ⟨rfl,d1,k1⟩
  have q1 := q.up k1 d1
  simp only [castBool_bool,asP]
  cases hp:(haveP ws [65,83] s).1 with
  | false =>
    simp only [cB_false,Bool.false_eq_true,if_false]
    exact To2.some ⟨rfl,q1,k1⟩
  | true =>
    simp only [cB_true,if_true,q1.st.nilck,q1.st.faddr,q1.at0,bind1_some]
    refine To2.bind2 (name49 q1.rd) ?_
    rintro v h2 ⟨rfl,d2,k2⟩
    simp only [castStr_str]
    exact To2.some ⟨rfl,q1.up k2 d2,Kp.rr k1 k2⟩
theorem where60 {lf:Nat} (hf:5000000 < lf) {h:List Ob} {r2 r:Nat} {wv:V} {ws:List Wd} (hsh:Short 5000 ws) {s:RS} (q:Pd h r2 r wv ws s):To2 (F60 lf (.ptr r2 0 0) h) (PQ (rL 8 rEx) h r2 r wv ws (whereP ws s)) := by
  simp only [F60,q.st.nilck,q.st.faddr,q.at0,bind1_some]
  refine To2.bind2 (have10 [87,72,69,82,69] q.rd) ?_
  rintro v h1 ⟨rfl,d1,k1⟩
  have q1 := q.up k1 d1
  simp only [castBool_bool,whereP]
  cases hp:(haveP ws [87,72,69,82,69] s).1 with
  | false =>
    simp only [Bool.not_false,cB_true,Bool.false_eq_true,if_false]
    exact To2.some ⟨q1,k1,LR.nils _ _ _ _⟩
  | true =>
    simp only [Bool.not_true,cB_false,if_true,q1.st.nilck,q1.st.faddr,q1.at0,bind1_some]
    refine To2.bind2 (expr57 hf hsh q1.rd) ?_
    rintro v h2 ⟨d2,k2,n,pv,ps,hx,rfl,e2⟩
    simp only [castAgg_agg,castCons_cons,castInt_int,castStr_str,castNil_nil]
    have t:rEx.R (fun j => h1.length ≤ j) h2 (.agg (aC n pv)) (exprP ws (haveP ws [87,72,69,82,69] s).2).1 := ⟨n,pv,ps,hx,rfl,e2⟩
    refine first_to (T := rEx) (I := fun j => h1.length ≤ j ∧ j < h2.length) (by decide) (by decide) (rEx.mono t (fun j hj z => ⟨z,hj⟩)) (fun j z => z.2) (plain_agg rfl (ex_sc e2)) fun y h3 L3 k3 => ?_
    have l1 := k1.len
    have l2 := k2.len
    exact To2.some ⟨(q1.up k2 d2).kp k3,Kp.ro (Kp.rr k1 k2) k3,(rL 8 rEx).mono L3 (fun j hj z => by rcases z with z | z <;> omega)⟩
theorem source63 {lf:Nat} {h:List Ob} {r2 r:Nat} {wv:V} {ws:List Wd} {s:RS} (q:Pd h r2 r wv ws s):To2 (F63 lf (.ptr r2 0 0) h) (PQ rSr h r2 r wv ws (sourceP ws s)) := by
  simp only [F63]
  refine To2.bind2 (alloc_to (cs := aS [] [] zNd .nils) rfl) ?_
  rintro x2 h1 ⟨rfl,sx,k1⟩
  have q1 := q.kp k1
  have rlt := q.rd.lt
  simp only [q1.st.nilck,q1.st.faddr,q1.at0,bind1_some]
  refine To2.bind2 (name49 q1.rd) ?_
  rintro v h2 ⟨rfl,d2,k2⟩
  have q2 := q1.up k2 d2
  simp only [castStr_str]
  refine To2.bind2 (as75 (nameR ws s).1 q2) ?_
  rintro v h3 ⟨rfl,q3,k3⟩
  have b1:er (.build [(.str []),(.str []),(.int .i64 0),(.str []),(.int .i64 0),(.int .i64 0),(.str []),(.str []),(.str []),.nils] [(0,(1,(.c (.str (nameR ws s).1)))),(1,(1,(.c (.str (asP ws (nameR ws s).1 (nameR ws s).2).1))))]) h3 = some (.agg (aS (nameR ws s).1 (asP ws (nameR ws s).1 (nameR ws s).2).1 zNd .nils)) := rfl
  simp only [castStr_str,b1,bind1_some,castAgg_agg,castCons_cons,castInt_int,castNil_nil]
  have sx3 := sx.keep (Kp.rr k2 k3) (fun z => by simp at z; omega)
  exact finP (T := rSr) (ds := aS (nameR ws s).1 (asP ws (nameR ws s).1 (nameR ws s).2).1 zNd .nils) (cs := aS [] [] zNd .nils) (x := ⟨(nameR ws s).1,(asP ws (nameR ws s).1 (nameR ws s).2).1,zX⟩) q sx3 rfl rfl (by decide) rfl q3 (Kp.to k1 (Kp.rr k2 k3)) ⟨zNd,.nils,[],rfl,rfl,ex0⟩
theorem item62 {lf:Nat} (hf:5000000 < lf) {h:List Ob} {r2 r:Nat} {wv:V} {ws:List Wd} (hsh:Short 5000 ws) {s:RS} (q:Pd h r2 r wv ws s):To2 (F62 lf (.ptr r2 0 0) h) (PQ rIt h r2 r wv ws (itemP ws s)) := by
  simp only [F62]
  refine To2.bind2 (alloc_to (cs := aI zNd .nils (.str [])) rfl) ?_
  rintro x2 h1 ⟨rfl,sx,k1⟩
  have q1 := q.kp k1
  have rlt := q.rd.lt
  have l1:h.length < h1.length := sx.lt
  simp only [q1.st.nilck,q1.st.faddr,q1.at0,bind1_some]
  refine To2.bind2 (expr57 hf hsh q1.rd) ?_
  rintro v h2 ⟨d2,k2,n,pv,ps,hx,rfl,e2⟩
  have q2 := q1.up k2 d2
  simp only [castAgg_agg,castCons_cons,castInt_int,castStr_str,castNil_nil]
  refine put8 (ex_sc e2) fun h3 se k3 => ?_
  have l2 := k2.len
  simp only [se.loadN' (n := 8) rfl,bind1_some,castAgg_agg,castCons_cons,castInt_int,castStr_str,castNil_nil]
  refine To2.bind2 (as75 [] (q2.kp k3)) ?_
  rintro v h4 ⟨rfl,q4,k4⟩
  have se4 := se.keep k4 (fun z => by simp at z; omega)
  have b1:er (.build [(.int .i64 0),(.str []),(.int .i64 0),(.int .i64 0),(.str []),(.str []),(.str []),.nils,(.str [])] [(0,(8,(.c (.agg (aC n pv))))),(8,(1,(.c (.str (asP ws [] (exprP ws s).2).1))))]) h4 = some (.agg (aI n pv (.str (asP ws [] (exprP ws s).2).1))) := rfl
  simp only [castStr_str,se4.loadN' (n := 8) rfl,reP_of,b1,bind1_some,castAgg_agg,castCons_cons,castInt_int,castNil_nil]
  have sx4 := ((sx.keep k2 (fun z => by simp at z; omega)).kp k3).keep k4 (fun z => by simp at z; omega)
  have k24:Kp h1 h4 [r] := Kp.rr (Kp.ro k2 k3) k4
  exact finP (T := rIt) (ds := aI n pv (.str (asP ws [] (exprP ws s).2).1)) (cs := aI zNd .nils (.str [])) (x := ⟨(exprP ws s).1,(asP ws [] (exprP ws s).2).1⟩) q sx4 rfl rfl (by decide) (by simp only [List.all_cons,List.all_nil,pvS e2]; rfl) q4 (Kp.to k1 k24)
    ⟨n,pv,ps,hx,rfl,((e2.kp k3).keep k4 (fun j hj z => by simp at hj; omega)).mono (fun j _ z => by omega)⟩
theorem order66 {lf:Nat} (hf:5000000 < lf) {h:List Ob} {r2 r:Nat} {wv:V} {ws:List Wd} (hsh:Short 5000 ws) {s:RS} (q:Pd h r2 r wv ws s):To2 (F66 lf (.ptr r2 0 0) h) (PQ rOd h r2 r wv ws (orderP ws s)) := by
  simp only [F66]
  refine To2.bind2 (alloc_to (cs := aI zNd .nils (.bool false)) rfl) ?_
  rintro x2 h1 ⟨rfl,sx,k1⟩
  have q1 := q.kp k1
  have rlt := q.rd.lt
  have l1:h.length < h1.length := sx.lt
  simp only [q1.st.nilck,q1.st.faddr,q1.at0,bind1_some]
  refine To2.bind2 (expr57 hf hsh q1.rd) ?_
  rintro v h2 ⟨d2,k2,n,pv,ps,hx,rfl,e2⟩
  have q2 := q1.up k2 d2
  simp only [castAgg_agg,castCons_cons,castInt_int,castStr_str,castNil_nil]
  refine put8 (ex_sc e2) fun h3 se k3 => ?_
  have l2 := k2.len
  have q3 := q2.kp k3
  simp only [se.loadN' (n := 8) rfl,bind1_some,castAgg_agg,castCons_cons,castInt_int,castStr_str,castNil_nil,q3.st.nilck,q3.st.faddr,q3.at0]
  refine To2.bind2 (have10 [65,83,67] q3.rd) ?_
  rintro v h4 ⟨rfl,d4,k4⟩
  have q4 := q3.up k4 d4
  have se4 := se.keep k4 (fun z => by simp at z; omega)
  have sx4 := ((sx.keep k2 (fun z => by simp at z; omega)).kp k3).keep k4 (fun z => by simp at z; omega)
  have k24:Kp h1 h4 [r] := Kp.rr (Kp.ro k2 k3) k4
  have e4 := (e2.kp k3).keep k4 (fun j hj z => by simp at hj; omega)
  simp only [castBool_bool,se4.loadN' (n := 8) rfl,reP_of]
  cases hp:(haveP ws [65,83,67] (exprP ws s).2).1 with
  | true =>
    have hsp:orderP ws s = (⟨(exprP ws s).1,false⟩,(haveP ws [65,83,67] (exprP ws s).2).2) := by simp only [orderP,hp,if_true]
    rw [hsp]
    have b1:er (.build [(.int .i64 0),(.str []),(.int .i64 0),(.int .i64 0),(.str []),(.str []),(.str []),.nils,(.bool false)] [(0,(8,(.c (.agg (aC n pv))))),(8,(1,(.c (.bool false))))]) h4 = some (.agg (aI n pv (.bool false))) := rfl
    simp only [Bool.not_true,cB_false,se4.loadN' (n := 8) rfl,reP_of,b1,bind1_some,castAgg_agg,castCons_cons,castInt_int,castStr_str,castBool_bool,castNil_nil]
    exact finP (T := rOd) (ds := aI n pv (.bool false)) (cs := aI zNd .nils (.bool false)) (x := ⟨(exprP ws s).1,false⟩) q sx4 rfl rfl (by decide) (by simp only [List.all_cons,List.all_nil,pvS e2]; rfl) q4 (Kp.to k1 k24) ⟨n,pv,ps,hx,rfl,e4.mono (fun j _ z => by omega)⟩
  | false =>
    have hsp:orderP ws s = (⟨(exprP ws s).1,(haveP ws [68,69,83,67] (haveP ws [65,83,67] (exprP ws s).2).2).1⟩,(haveP ws [68,69,83,67] (haveP ws [65,83,67] (exprP ws s).2).2).2) := by simp only [orderP,hp,Bool.false_eq_true,if_false]
    rw [hsp]
    simp only [Bool.not_false,cB_true,q4.st.nilck,q4.st.faddr,q4.at0,bind1_some]
    refine To2.bind2 (have10 [68,69,83,67] q4.rd) ?_
    rintro v h5 ⟨rfl,d5,k5⟩
    have q5 := q4.up k5 d5
    have se5 := se4.keep k5 (fun z => by simp at z; omega)
    have sx5 := sx4.keep k5 (fun z => by simp at z; omega)
    have e5 := e4.keep k5 (fun j hj z => by simp at hj; omega)
    have b1:er (.build [(.int .i64 0),(.str []),(.int .i64 0),(.int .i64 0),(.str []),(.str []),(.str []),.nils,(.bool false)] [(0,(8,(.c (.agg (aC n pv))))),(8,(1,(.c (.bool (haveP ws [68,69,83,67] (haveP ws [65,83,67] (exprP ws s).2).2).1))))]) h5 = some (.agg (aI n pv (.bool (haveP ws [68,69,83,67] (haveP ws [65,83,67] (exprP ws s).2).2).1))) := rfl
    simp only [castBool_bool,se5.loadN' (n := 8) rfl,reP_of,b1,bind1_some,castAgg_agg,castCons_cons,castInt_int,castStr_str,castNil_nil]
    exact finP (T := rOd) (ds := aI n pv (.bool (haveP ws [68,69,83,67] (haveP ws [65,83,67] (exprP ws s).2).2).1)) (cs := aI zNd .nils (.bool false)) (x := ⟨(exprP ws s).1,(haveP ws [68,69,83,67] (haveP ws [65,83,67] (exprP ws s).2).2).1⟩) q sx5 rfl rfl (by decide) (by simp only [List.all_cons,List.all_nil,pvS e2]; rfl) q5 (Kp.to k1 (Kp.rr k24 k5)) ⟨n,pv,ps,hx,rfl,e5.mono (fun j _ z => by omega)⟩
theorem assign59 {lf:Nat} (hf:5000000 < lf) {h:List Ob} {r2 r:Nat} {wv:V} {ws:List Wd} (hsh:Short 5000 ws) {s:RS} (q:Pd h r2 r wv ws s):To2 (F59 lf (.ptr r2 0 0) h) (PQ rAs h r2 r wv ws (assignP ws s)) := by
  simp only [F59]
  refine To2.bind2 (alloc_to (cs := aA [] zNd .nils) rfl) ?_
  rintro x2 h1 ⟨rfl,sx,k1⟩
  have q1 := q.kp k1
  have rlt := q.rd.lt
  have l1:h.length < h1.length := sx.lt
  simp only [q1.st.nilck,q1.st.faddr,q1.at0,bind1_some]
  refine To2.bind2 (name49 q1.rd) ?_
  rintro v h2 ⟨rfl,d2,k2⟩
  have q2 := q1.up k2 d2
  have b1:er (.build [(.str []),(.int .i64 0),(.str []),(.int .i64 0),(.int .i64 0),(.str []),(.str []),(.str []),.nils] [(0,(1,(.c (.str (nameR ws s).1))))]) h2 = some (.agg (aA (nameR ws s).1 zNd .nils)) := rfl
  simp only [castStr_str,b1,bind1_some,castAgg_agg,castCons_cons,castInt_int,castNil_nil]
  refine putN (zs := aA [] zNd .nils) (ds := aA (nameR ws s).1 zNd .nils) rfl rfl rfl (by decide) rfl fun h3 sa k3 => ?_
  have l2 := k2.len
  have q3 := q2.kp k3
  simp only [q3.st.nilck,q3.st.faddr,q3.at0,bind1_some]
  refine want_to (by omega) q3.rd (l := [[61]]) (ps := [(0,.str [61])]) rfl (by decide) rfl rfl fun h4 d4 k4 => ?_
  have q4 := q3.up k4 d4
  simp only [q4.st.nilck,q4.st.faddr,q4.at0,bind1_some]
  refine To2.bind2 (expr57 hf hsh q4.rd) ?_
  rintro v h5 ⟨d5,k5,n,pv,ps,hx,rfl,e5⟩
  have q5 := q4.up k5 d5
  have sa5 := sa.keep (Kp.rr k4 k5) (fun z => by simp at z; omega)
  simp only [castAgg_agg,castCons_cons,castInt_int,castStr_str,castNil_nil,sa5.faddr,bind1_some]
  refine To2.bind2 (St.storeP sa5 (j := 0 + 1) (n := 8) (ds := aC n pv) rfl (by simp) (by decide) (ex_sc e5)) ?_
  rintro u h6 ⟨sa6,k6⟩
  have sa6':St h6 h2.length (aA (nameR ws s).1 n pv) := sa6
  have l3:h2.length < h3.length := sa.lt
  have l4 := k4.len
  have l5 := k5.len
  have q6 := Pd.apart q q5 k6 (fun j hj => by simp at hj; omega)
  have sx5 := ((sx.keep k2 (fun z => by simp at z; omega)).kp k3).keep (Kp.rr k4 k5) (fun z => by simp at z; omega)
  have sx6 := sx5.keep k6 (fun z => by simp at z; omega)
  have e6 := e5.keep k6 (fun j hj z => by simp at hj; omega)
  have k16:Kp h h6 [r] := (Kp.to k1 (Kp.rr (Kp.rr (Kp.ro k2 k3) k4) k5)).trans k6 (fun j hj _ => hj) (fun j hj hlt => by simp at hj; omega)
  simp only [sa6'.loadN' (n := 9) rfl,bind1_some,castAgg_agg,castCons_cons,castInt_int,castStr_str,castNil_nil]
  exact finP (T := rAs) (ds := aA (nameR ws s).1 n pv) (cs := aA [] zNd .nils) (x := ⟨(nameR ws s).1,(exprP ws (wantP ws [[61]] (nameR ws s).2)).1⟩) q sx6 rfl rfl (by decide) (by simp only [List.all_cons,List.all_nil,pvS e5]; rfl) q6 k16 ⟨n,pv,ps,hx,rfl,e6.mono (fun j _ z => by omega)⟩
end Go.Proofs.Ytjpjeilfmjdhcaa.St
