/- The reader of expressions walked: words that come next, signs and keywords, names, numbers, operators. No condition. -/
import Derived.Test.YtjpjeilfmjdhcaaDoorRds
import Derived.Test.YtjpjeilfmjdhcaaDoorPrS
import Derived.Test.YtjpjeilfmjdhcaaDoorLnR
import Derived.Test.YtjpjeilfmjdhcaaDoorLnS
namespace Go.Proofs.YtjpjeilfmjdhcaaDoor.Rd
open Go Go.Proofs.YtjpjeilfmjdhcaaDoor.E
open Go.Proofs.YtjpjeilfmjdhcaaDoor.Ln
open Go.Proofs.YtjpjeilfmjdhcaaDoor.Ex
open Go.Proofs.YtjpjeilfmjdhcaaDoor.Pr
set_option maxRecDepth 100000
set_option linter.unusedVariables false
set_option linter.unusedSimpArgs false
/-- A reader's memory. -/
structure Rd (h:List Ob) (r:Nat) (wv:V) (ws:List Wd) (s:RS):Prop where
  st:St h r [wv,.int .i64 s.i,.int .i64 s.e]
  sl:Sl 3 h wv (rowsW ws)
  nr:r ∉ idsOf wv
  le:s.i ≤ ws.length
  few:ws.length ≤ 600
theorem Rd.kp {h h':List Ob} {r:Nat} {wv:V} {ws:List Wd} {s:RS} (q:Rd h r wv ws s) (k:Kp h h' []):Rd h' r wv ws s := ⟨q.st.kp k,q.sl.kp k,q.nr,q.le,q.few⟩
theorem Rd.at0 {h:List Ob} {r:Nat} {wv:V} {ws:List Wd} {s:RS} (q:Rd h r wv ws s):er (.load1 (.c (.ptr r 0 (0 + 0)))) h = some wv := q.st.load1 (j := 0) (c := wv) rfl
theorem Rd.at1 {h:List Ob} {r:Nat} {wv:V} {ws:List Wd} {s:RS} (q:Rd h r wv ws s):er (.load1 (.c (.ptr r 0 (0 + 1)))) h = some (.int .i64 s.i) := q.st.load1 (j := 1) (c := .int .i64 s.i) rfl
theorem Rd.at2 {h:List Ob} {r:Nat} {wv:V} {ws:List Wd} {s:RS} (q:Rd h r wv ws s):er (.load1 (.c (.ptr r 0 (0 + 2)))) h = some (.int .i64 s.e) := q.st.load1 (j := 2) (c := .int .i64 s.e) rfl
/-- It goes on by a word. -/
theorem Rd.adv_to {h:List Ob} {r:Nat} {wv:V} {ws:List Wd} {s:RS} (q:Rd h r wv ws s) (hl:s.i < ws.length):To2 (ev (.store 1 (.c (.ptr r 0 (0 + 1))) (.c (.int .i64 (IntKind.i64.wrap ((s.i:Int) + 1))))) h) fun _ h' => Rd h' r wv ws (adv s) ∧ Kp h h' [r] := by
  have w:IntKind.i64.wrap ((s.i:Int) + 1) = ((s.i + 1:Nat):Int) := by have := q.few; rw [wrap_i64 (by omega) (by omega)]; simp
  rw [w]
  refine (q.st.store1 (j := 0 + 1) (x := .int .i64 ((s.i + 1:Nat):Int)) (by simp) ⟨rfl,rfl⟩).mono ?_
  rintro u h' ⟨st,k⟩
  exact ⟨⟨st,q.sl.keep k (fun j hj z => by simp at z; subst z; exact q.nr hj),q.nr,by show s.i + 1 ≤ _; omega,q.few⟩,k⟩
theorem Rd.err_to {h:List Ob} {r:Nat} {wv:V} {ws:List Wd} {s:RS} (q:Rd h r wv ws s) (x:Int):To2 (ev (.store 1 (.c (.ptr r 0 (0 + 2))) (.c (.int .i64 x))) h) fun _ h' => Rd h' r wv ws ⟨s.i,x⟩ ∧ Kp h h' [r] := by
  refine (q.st.store1 (j := 0 + 2) (x := .int .i64 x) (by simp) ⟨rfl,rfl⟩).mono ?_
  rintro u h' ⟨st,k⟩
  exact ⟨⟨st,q.sl.keep k (fun j hj z => by simp at z; subst z; exact q.nr hj),q.nr,q.le,q.few⟩,k⟩
theorem Rd.lt {h:List Ob} {r:Nat} {wv:V} {ws:List Wd} {s:RS} (q:Rd h r wv ws s):r < h.length := q.st.lt
theorem done11 {lf:Nat} {h:List Ob} {r:Nat} {wv:V} {ws:List Wd} {s:RS} (q:Rd h r wv ws s):F16 lf (.ptr r 0 0) h = some (.bool (decide (s.i = ws.length)),h) := by
  have e:((s.i:Int) == (ws.length:Int)) = decide (s.i = ws.length) := by
    by_cases z:s.i = ws.length
    · rw [z]; simp
    · rw [decide_eq_false z,beq_eq_false_iff_ne]; omega
  simp only [F16,q.st.nilck,q.st.faddr,q.at0,q.at1,bind1_some,castInt_int,er_lenL q.sl,rowsW_len,e]
theorem fail12 {lf:Nat} {h:List Ob} {r:Nat} {wv:V} {ws:List Wd} {s:RS} (q:Rd h r wv ws s):To2 (F17 lf (.ptr r 0 0) h) fun v h' => v = .tup [] ∧ Rd h' r wv ws (failP s) ∧ Kp h h' [r] := by
  simp only [F17,q.st.nilck,q.st.faddr,q.at2,bind1_some,castInt_int]
  unfold failP
  by_cases z:s.e = 0
  · have:(s.e == 0) = true := by rw [z]; rfl
    simp only [this,cB_true,if_pos z]
    refine To2.bind2 (q.err_to 3) ?_
    rintro u h' ⟨q1,k1⟩
    exact To2.some ⟨rfl,q1,k1⟩
  · have:(s.e == 0) = false := by simpa using z
    simp only [this,cB_false,if_neg z]
    exact To2.some ⟨rfl,q,Kp.refl _ _⟩
def zW:Wd := ⟨0,[],0⟩
theorem next_i {ws:List Wd} {k:Int} {s:RS} {w:Wd} (h:nextP ws k s = some w):s.i < ws.length ∧ s.e = 0 ∧ ws[s.i]? = some w ∧ w.k = k := by
  unfold nextP at h
  split at h
  · rename_i e0
    split at h
    · rename_i w' hw
      split at h
      · rename_i hk
        injection h with h; subst h
        exact ⟨(List.getElem?_eq_some_iff.1 hw).1,e0,hw,hk⟩
      · cases h
    · cases h
  · cases h
theorem next33 {lf:Nat} {h:List Ob} {r:Nat} {wv:V} {ws:List Wd} {s:RS} (k:Int) (q:Rd h r wv ws s):To2 (F55 lf (.ptr r 0 0) k h) fun v h' => v = .tup [.agg (cW ((nextP ws k s).getD zW)),.bool (nextP ws k s).isSome] ∧ Kp h h' [] := by
  have key:∀ {h1:List Ob},Rd h1 r wv ws s → S55_0 lf (.ptr r 0 0) k h1 = some (.normal,[.bool (nextP ws k s).isNone],h1) := by
    intro h1 q1
    simp only [S55_0,q1.st.nilck,q1.st.faddr,q1.at2,bind1_some,castInt_int]
    unfold nextP
    by_cases z:s.e = 0
    · have:(s.e != 0) = false := by rw [z]; rfl
      simp only [this,cB_false,done11 q1,bind2_some,castBool_bool,if_pos z]
      by_cases y:s.i = ws.length
      · have:ws[s.i]? = none := by rw [List.getElem?_eq_none_iff]; omega
        simp only [decide_eq_true y,cB_true,this]
        rfl
      · have hl:s.i < ws.length := by have := q1.le; omega
        have hw:ws[s.i]? = some ws[s.i] := List.getElem?_eq_getElem hl
        obtain ⟨a,a1,a2⟩ := q1.sl.atF (k := (s.i:Int)) (cs := cW ws[s.i]) (by omega) (by simp [rowsW,hl]) rfl (by decide) rfl
        obtain ⟨b,b1,b2⟩ := a2 0 (.int .i64 ws[s.i].k) rfl
        simp only [decide_eq_false y,cB_false,q1.st.nilck,q1.st.faddr,q1.at0,q1.at1,bind1_some,castInt_int,a1,b1,b2,hw]
        by_cases x:ws[s.i].k = k
        · have:(ws[s.i].k != k) = false := by simp [x]
          simp only [this,if_pos x]; rfl
        · have:(ws[s.i].k != k) = true := by simpa using x
          simp only [this,if_neg x]; rfl
    · have:(s.e != 0) = true := by simpa using z
      simp only [this,cB_true,if_neg z]
      rfl
  simp only [F55]
  refine To2.bind2 (alloc_to (cs := cW zW) rfl) ?_
  rintro x4 h1 ⟨rfl,st,k1⟩
  have q1 := q.kp k1
  simp only [key q1,bind3_some,decide_true,cB_true,castCons_cons,castBool_bool,castNil_nil]
  cases hn:nextP ws k s with
  | none =>
    have eb:er (.build [(.int .i64 0),(.str []),(.int .i64 0)] []) h1 = some (.agg (cW zW)) := rfl
    simp only [Option.isNone_none,cB_true,eb,bind1_some,castAgg_agg,castCons_cons,castInt_int,castStr_str,castNil_nil]
    refine To2.bind2 (st.storeN (ds := cW zW) rfl (by simp) rfl (n := 3) rfl) ?_
    rintro u h2 ⟨st2,k2⟩
    simp only [show evLoadN h2 3 (.ptr h.length 0 0) = some (.agg (cW zW)) from st2.loadN,bind1_some]
    exact To2.some ⟨rfl,k1.trans k2 (fun j hj => by cases hj) (fun j hj hlt => by simp at hj; omega)⟩
  | some w =>
    obtain ⟨hl,-,hw,-⟩ := next_i hn
    obtain ⟨a,a1,a2⟩ := q1.sl.atN (k := (s.i:Int)) (cs := cW w) (by omega) (by simp [rowsW,hw]) rfl (by decide)
    simp only [Option.isNone_some,cB_false,q1.st.nilck,q1.st.faddr,q1.at0,q1.at1,bind1_some,castInt_int,a1,a2,castAgg_agg,castCons_cons,castStr_str,castNil_nil]
    refine To2.bind2 (st.storeN (ds := cW w) rfl (by simp) rfl (n := 3) rfl) ?_
    rintro u h2 ⟨st2,k2⟩
    simp only [show evLoadN h2 3 (.ptr h.length 0 0) = some (.agg (cW w)) from st2.loadN,bind1_some]
    exact To2.some ⟨rfl,k1.trans k2 (fun j hj => by cases hj) (fun j hj hlt => by simp at hj; omega)⟩
/-- A word of its own, in a variable. -/
theorem word_to {h:List Ob} {w:Wd} {K:V → List Ob → Option (V × List Ob)} {Q:V → List Ob → Prop} (hK:∀ h2,St h2 h.length (cW w) → Kp h h2 [] → To2 (K (.ptr h.length 0 0) h2) Q) :
    To2 (bind2 (ev (.alloc false (.agg [(.int .i64 0),(.str []),(.int .i64 0)])) h) fun x h_1 => bind2 (ev (.store 3 (.c x) (.c (.agg [(.int .i64 w.k),(.str w.s),(.int .i64 w.n)]))) h_1) fun _ h_2 => K x h_2) Q := by
  refine To2.bind2 (alloc_to (cs := cW zW) rfl) ?_
  rintro x h1 ⟨rfl,st,k1⟩
  refine To2.bind2 (st.storeN (ds := cW w) rfl (by simp) rfl (n := 3) rfl) ?_
  rintro u h2 ⟨st2,k2⟩
  exact hK h2 st2 (k1.trans k2 (fun j hj => by cases hj) (fun j hj hlt => by simp at hj; omega))
theorem kind10 (lf:Nat) (t:List UInt8) (h:List Ob):S41_1 lf t 4 h = some (.normal,[.int .i64 (if kwP t = true then 1 else 4)],h) := by
  simp only [S41_1,kw26,bind2_some,castBool_bool]
  cases kwP t <;> rfl
theorem Kp.to {h h1 h2:List Ob} {A:List Nat} (k:Kp h h1 []) (l:Kp h1 h2 A):Kp h h2 A := k.trans l (fun j hj => by cases hj) (fun j hj _ => hj)
theorem Kp.ro {h h1 h2:List Ob} {A:List Nat} (k:Kp h h1 A) (l:Kp h1 h2 []):Kp h h2 A := k.trans l (fun j hj _ => hj) (fun j hj => by cases hj)
theorem Kp.rr {h h1 h2:List Ob} {A:List Nat} (k:Kp h h1 A) (l:Kp h1 h2 A):Kp h h2 A := k.trans l (fun j hj _ => hj) (fun j hj _ => hj)
theorem have10 {lf:Nat} {h:List Ob} {r:Nat} {wv:V} {ws:List Wd} {s:RS} (t:List UInt8) (q:Rd h r wv ws s):To2 (F41 lf (.ptr r 0 0) t h) fun v h' => v = .bool (haveP ws t s).1 ∧ Rd h' r wv ws (haveP ws t s).2 ∧ Kp h h' [r] := by
  simp only [F41,kind10,bind3_some,decide_true,cB_true,castCons_cons,castInt_int,castNil_nil]
  refine To2.bind2 (next33 _ q) ?_
  rintro v h1 ⟨rfl,k1⟩
  simp only [castTup_tup,castCons_cons,castAgg_agg,castInt_int,castStr_str,castBool_bool,castNil_nil]
  refine word_to fun h2 st k2 => ?_
  have k12 := k1.tr k2
  have q2 := q.kp k12
  unfold haveP
  cases hn:nextP ws (if kwP t = true then 1 else 4) s with
  | none =>
    simp only [S41_0,hn,Option.isSome_none,cB_false,bind3_some,decide_true,cB_true,castCons_cons,castBool_bool,castNil_nil]
    exact To2.some ⟨rfl,q2,k12.mono (fun j hj => by cases hj)⟩
  | some w =>
    simp only [hn,Option.getD_some] at st
    simp only [S41_0,hn,Option.isSome_some,cB_true,Option.getD_some,st.faddr,st.load1 (j := 0 + 1) (c := .str w.s) rfl,bind1_some,castStr_str,bind3_some,decide_true,castCons_cons,castBool_bool,castNil_nil]
    by_cases z:w.s = t
    · have:(w.s == t) = true := by rw [z]; exact beq_self_eq_true _
      simp only [this,cB_true,if_pos z,q2.st.nilck,q2.st.faddr,q2.at1,bind1_some,castInt_int]
      refine To2.bind2 (q2.adv_to (next_i hn).1) ?_
      rintro u h3 ⟨q3,k3⟩
      exact To2.some ⟨rfl,q3,Kp.to k12 k3⟩
    · have:(w.s == t) = false := by simpa using z
      simp only [this,cB_false,if_neg z]
      exact To2.some ⟨rfl,q2,k12.mono (fun j hj => by cases hj)⟩
theorem want52L (lf:Nat) {h0:List Ob} {r:Nat} {wv lv:V} {ws:List Wd} {l:List (List UInt8)} (sl:Sl 1 h0 lv (strs l)) (hr:∀ j,j ∈ idsOf lv → j ≠ r) (hl:l.length ≤ 1000):∀ (m i f:Nat) (h:List Ob) (s:RS),l.length = i + m → m < f → Kp h0 h [r] → Rd h r wv ws s →
    To3 (L56_0 lf f (.ptr r 0 0) lv l.length i h) fun x vs h' => x = .exit 0 ∧ vs = [] ∧ Rd h' r wv ws (wantP ws (l.drop i) s) ∧ Kp h0 h' [r] := by
  intro m
  induction m with
  | zero =>
    intro i f h s hk hf k q
    obtain ⟨f,rfl⟩:∃ g,f = g + 1 := ⟨f - 1,by omega⟩
    have hd:decide ((i:Int) < (l.length:Int)) = false := decide_eq_false (by omega)
    simp only [L56_0,B56_0,hd,cB_false]
    rw [List.drop_of_length_le (by omega)]
    exact To3.some ⟨rfl,rfl,q,k⟩
  | succ m ih =>
    intro i f h s hk hf k q
    obtain ⟨f,rfl⟩:∃ g,f = g + 1 := ⟨f - 1,by omega⟩
    have hi:i < l.length := by omega
    have hd:decide ((i:Int) < (l.length:Int)) = true := decide_eq_true (by omega)
    have sh:Sl 1 h lv (strs l) := sl.keep k (fun j hj z => hr j hj (by simpa using z))
    obtain ⟨a,a1,a2⟩ := sh.at1 (k := (i:Int)) (e := .str l[i]) (by omega) (by simp [strs,hi]) rfl
    have hw:IntKind.i64.wrap ((i:Int) + 1) = ((i + 1:Nat):Int) := by rw [wrap_i64 (by omega) (by omega)]; simp
    simp only [L56_0,B56_0,hd,cB_true,a1,a2,bind1_some,castStr_str,hw]
    refine To3.bind2 (have10 l[i] q) ?_
    rintro v h1 ⟨rfl,q1,k1⟩
    simp only [castBool_bool]
    rw [List.drop_eq_getElem_cons hi]
    have e1:wantP ws (l[i] :: l.drop (i + 1)) s = wantP ws (l.drop (i + 1)) (want1 ws s l[i]) := rfl
    rw [e1]
    unfold want1
    by_cases z:(haveP ws l[i] s).1 = true
    · simp only [z,Bool.not_true,cB_false,if_true]
      exact ih (i + 1) f h1 _ (by omega) (by omega) (Kp.rr k k1) q1
    · simp only [Bool.not_eq_true] at z
      simp only [z,Bool.not_false,cB_true,Bool.false_eq_true,if_false]
      refine To3.bind2 (fail12 q1) ?_
      rintro v h2 ⟨rfl,q2,k2⟩
      have:(haveP ws l[i] s).2 = s := by
        unfold haveP at z ⊢
        split
        · rename_i w hn
          rw [hn] at z
          simp only at z ⊢
          split
          · rename_i y; rw [if_pos y] at z; cases z
          · rfl
        · rfl
      rw [this] at q2
      exact ih (i + 1) f h2 _ (by omega) (by omega) (Kp.rr (Kp.rr k k1) k2) q2
/-- Signs and keywords, written out, that must come next. -/
theorem want_to {lf:Nat} (hf:1000 < lf) {h:List Ob} {r:Nat} {wv:V} {ws:List Wd} {s:RS} (q:Rd h r wv ws s) {l:List (List UInt8)} {n:Nat} {ps:List (Nat × V)} {K:V → List Ob → Option (V × List Ob)} {Q:V → List Ob → Prop}
    (hn:l.length = n) (hn2:n ≤ 1000) (h2:ps.all (fun p => decide (p.1 < n) && plainV 1 p.2) = true) (h3:setAll (List.replicate n (.str [])) ps = strs l) (hK:∀ h',Rd h' r wv ws (wantP ws l s) → Kp h h' [r] → To2 (K (.tup []) h') Q) :
    To2 (bind2 (ev (.bslice 1 (.str []) n (ps.map fun p => (p.1,.c p.2))) h) fun x h_1 => bind2 (F56 lf (.ptr r 0 0) x h_1) K) Q := by
  refine To2.bind2 (bslice_to (es := strs l) (by omega) h2 h3 (by rw [strs_len,hn])) ?_
  rintro x h1 ⟨-,-,sx,-,k1,fx⟩
  have q1 := q.kp k1
  simp only [F56,er_lenL sx,strs_len,bind1_some,castInt_int]
  have hr:∀ j,j ∈ idsOf x → j ≠ r := fun j hj z => by have := fx j hj; have := q.lt; omega
  have key := want52L lf sx hr (by omega) l.length 0 lf h1 s (by omega) (by omega) (Kp.refl _ _) q1
  obtain ⟨x',vs,h2',e,rfl,rfl,q2,k2⟩ := key
  simp only [show L56_0 lf lf (.ptr r 0 0) x l.length 0 h1 = _ from e,bind3_some,decide_true,cB_true,castNil_nil,bind2_some]
  exact hK h2' (by simpa using q2) (Kp.to k1 k2)
theorem name49 {lf:Nat} {h:List Ob} {r:Nat} {wv:V} {ws:List Wd} {s:RS} (q:Rd h r wv ws s):To2 (F66 lf (.ptr r 0 0) h) fun v h' => v = .str (nameR ws s).1 ∧ Rd h' r wv ws (nameR ws s).2 ∧ Kp h h' [r] := by
  simp only [F66]
  refine To2.bind2 (next33 _ q) ?_
  rintro v h1 ⟨rfl,k1⟩
  simp only [castTup_tup,castCons_cons,castAgg_agg,castInt_int,castStr_str,castBool_bool,castNil_nil]
  refine word_to fun h2 st k2 => ?_
  have k12 := k1.tr k2
  have q2 := q.kp k12
  unfold nameR
  cases hn:nextP ws 1 s with
  | none =>
    simp only [S66_0,hn,Option.isSome_none,Bool.not_false,cB_true]
    obtain ⟨v,h3,e,rfl,q3,k3⟩ := fail12 (lf := lf) q2
    simp only [e,bind2_some,bind3_some,decide_true,cB_true,castCons_cons,castStr_str,castNil_nil]
    exact To2.some ⟨rfl,q3,Kp.to k12 k3⟩
  | some w =>
    simp only [hn,Option.getD_some] at st
    simp only [S66_0,hn,Option.isSome_some,Bool.not_true,cB_false,Option.getD_some,st.faddr,st.load1 (j := 0 + 1) (c := .str w.s) rfl,bind1_some,castStr_str,kw26,bind2_some,castBool_bool]
    cases hk:kwP w.s with
    | true =>
      simp only [cB_true,if_true]
      obtain ⟨v,h3,e,rfl,q3,k3⟩ := fail12 (lf := lf) q2
      simp only [e,bind2_some,bind3_some,decide_true,cB_true,castCons_cons,castStr_str,castNil_nil]
      exact To2.some ⟨rfl,q3,Kp.to k12 k3⟩
    | false =>
      simp only [cB_false,bind3_some,show decide (EX.normal = EX.ret) = false from rfl,decide_true,cB_true,castNil_nil,q2.st.nilck,q2.st.faddr,q2.at1,bind1_some,castInt_int]
      refine To2.bind2 (q2.adv_to (next_i hn).1) ?_
      rintro u h3 ⟨q3,k3⟩
      have st3:St h3 h1.length (cW w) := st.keep k3 (fun z => by simp at z; have := q.lt; have := k1.len; omega)
      simp only [st3.faddr,st3.load1 (j := 0 + 1) (c := .str w.s) rfl,bind1_some,castStr_str]
      exact To2.some ⟨rfl,q3,Kp.to k12 k3⟩
theorem level85 (lf:Nat) (op:List UInt8) (h:List Ob):F22 lf op h = some (.int .i64 ((levelP op:Nat):Int),h) := by
  unfold F22 S22_0 levelP
  cases (op == [79,82]) with
  | true => rfl
  | false =>
    cases (op == [65,78,68]) with
    | true => rfl
    | false =>
      cases (op == [61]) with
      | true => rfl
      | false =>
        cases (op == [60,62]) with
        | true => rfl
        | false =>
          cases (op == [60]) with
          | true => rfl
          | false =>
            cases (op == [60,61]) with
            | true => rfl
            | false =>
              cases (op == [62]) with
              | true => rfl
              | false =>
                cases (op == [62,61]) with
                | true => rfl
                | false =>
                  cases (op == [43]) with
                  | true => rfl
                  | false =>
                    cases (op == [45]) with
                    | true => rfl
                    | false =>
                      cases (op == [42]) with
                      | true => rfl
                      | false =>
                        rfl
theorem wOf_to {lf:Nat} {h:List Ob} {r:Nat} {wv:V} {ws:List Wd} {s:RS} (q:Rd h r wv ws s) {id:Nat} {cs:List V} (hid:id ≠ r) (hv:∀ j,j ∈ idsOf wv → j ≠ id) (st:St h id cs) (ok:Bool) (w0:Wd) (hw0:cs = cW w0) (ho:ok = (nextP ws 4 s).isSome) (hw:w0 = (nextP ws 4 s).getD zW) :
    To3 (S44_1 lf (.ptr r 0 0) (.ptr id 0 0) ok h) fun x vs h' => x = .normal ∧ vs = [.bool (opW ws s).isSome] ∧ St h' id (cW ((opW ws s).getD zW)) ∧ Rd h' r wv ws s ∧ Kp h h' [id] := by
  subst hw0
  unfold opW
  cases hn:nextP ws 4 s with
  | some w =>
    rw [hn] at ho hw
    subst ho
    simp only [Option.getD_some] at hw
    subst hw
    simp only [S44_1,Option.isSome_some,Bool.not_true,cB_false]
    exact To3.some ⟨rfl,rfl,st,q,Kp.refl _ _⟩
  | none =>
    rw [hn] at ho hw
    subst ho
    simp only [S44_1,Option.isSome_none,Bool.not_false,cB_true]
    refine To3.bind2 (next33 _ q) ?_
    rintro v h1 ⟨rfl,k1⟩
    simp only [castTup_tup,castCons_cons,castAgg_agg,castInt_int,castStr_str,castBool_bool,castNil_nil]
    have q1 := q.kp k1
    refine To3.bind2 ((st.kp k1).storeN (ds := cW ((nextP ws 1 s).getD zW)) rfl (by simp) rfl (n := 3) rfl) ?_
    rintro u h2 ⟨st2,k2⟩
    have q2:Rd h2 r wv ws s := ⟨q1.st.keep k2 (fun z => by simp at z; exact hid z.symm),q1.sl.keep k2 (fun j hj z => by simp at z; exact hv j hj z),q1.nr,q1.le,q1.few⟩
    exact To3.some ⟨rfl,rfl,st2,q2,Kp.to k1 k2⟩
theorem opW_i {ws:List Wd} {s:RS} {w:Wd} (h:opW ws s = some w):s.i < ws.length ∧ s.e = 0 := by
  unfold opW at h
  split at h
  · rename_i w' hn
    exact ⟨(next_i hn).1,(next_i hn).2.1⟩
  · exact ⟨(next_i h).1,(next_i h).2.1⟩
theorem op79 {lf:Nat} {h:List Ob} {r:Nat} {wv:V} {ws:List Wd} {s:RS} (of:Nat) (q:Rd h r wv ws s):To2 (F44 lf (.ptr r 0 0) (of:Int) h) fun v h' => v = .tup [.str ((opP ws of s).1.getD []),.bool (opP ws of s).1.isSome] ∧ Rd h' r wv ws (opP ws of s).2 ∧ Kp h h' [r] := by
  simp only [F44]
  refine To2.bind2 (next33 _ q) ?_
  rintro v h1 ⟨rfl,k1⟩
  simp only [castTup_tup,castCons_cons,castAgg_agg,castInt_int,castStr_str,castBool_bool,castNil_nil]
  have q1 := q.kp k1
  refine word_to fun h2 st k2 => ?_
  have q2 := q1.kp k2
  refine To2.bind3 (wOf_to q2 (by have := q1.lt; omega) (fun j hj => by have := q1.sl.lt hj; omega) st _ _ rfl rfl rfl) ?_
  rintro x vs h3 ⟨rfl,rfl,st3,q3,k3⟩
  have k13:Kp h h3 [] := (k1.tr k2).trans k3 (fun j hj => by cases hj) (fun j hj hlt => by simp at hj; have := k1.len; omega)
  simp only [decide_true,cB_true,castCons_cons,castBool_bool,castNil_nil]
  unfold opP
  cases hn:opW ws s with
  | none =>
    simp only [hn,Option.isSome_none,S44_0,Bool.not_false,cB_true,bind3_some,decide_true,castCons_cons,castStr_str,castBool_bool,castNil_nil]
    exact To2.some ⟨rfl,q3,k13.mono (fun j hj => by cases hj)⟩
  | some w =>
    rw [hn,Option.getD_some] at st3
    simp only [hn,Option.isSome_some,S44_0,Bool.not_true,cB_false,st3.faddr,st3.load1 (j := 0 + 1) (c := .str w.s) rfl,bind1_some,castStr_str,level85,bind2_some,castInt_int]
    by_cases z:levelP w.s = of
    · have:(((levelP w.s:Nat):Int) != (of:Int)) = false := by rw [z]; simp
      simp only [this,cB_false,bind3_some,show decide (EX.normal = EX.ret) = false from rfl,decide_true,cB_true,castNil_nil,q3.st.nilck,q3.st.faddr,q3.at1,bind1_some,castInt_int,if_pos z]
      refine To2.bind2 (q3.adv_to (opW_i hn).1) ?_
      rintro u h4 ⟨q4,k4⟩
      have st4:St h4 h1.length (cW w) := st3.keep k4 (fun y => by simp at y; have := q1.lt; omega)
      simp only [st4.faddr,st4.load1 (j := 0 + 1) (c := .str w.s) rfl,bind1_some,castStr_str]
      exact To2.some ⟨rfl,q4,Kp.to k13 k4⟩
    · have:(((levelP w.s:Nat):Int) != (of:Int)) = true := by rw [bne_iff_ne]; omega
      simp only [this,cB_true,bind3_some,decide_true,castCons_cons,castStr_str,castBool_bool,castNil_nil,if_neg z]
      exact To2.some ⟨rfl,q3,k13.mono (fun j hj => by cases hj)⟩
end Go.Proofs.YtjpjeilfmjdhcaaDoor.Rd
