/- The reader of expressions walked: functions over a column, operands. No condition. -/
import Derived.Test.YtjpjeilfmjdhcaaDoorRdR
namespace Go.Proofs.YtjpjeilfmjdhcaaDoor.Rd
open Go Go.Proofs.YtjpjeilfmjdhcaaDoor.E
open Go.Proofs.YtjpjeilfmjdhcaaDoor.Ln
open Go.Proofs.YtjpjeilfmjdhcaaDoor.Ex
open Go.Proofs.YtjpjeilfmjdhcaaDoor.Pr
set_option maxRecDepth 100000
set_option linter.unusedVariables false
set_option linter.unusedSimpArgs false
theorem iaddr_kp {sz:Nat} {h h':List Ob} {v:V} {es:List V} (s:Sl sz h v es) (k:Kp h h' []) (n:Int):er (.iaddrL sz (.c v) (.c (.int .i64 n))) h' = er (.iaddrL sz (.c v) (.c (.int .i64 n))) h := by
  cases v with
  | hsl i o l =>
    have hsame := k.same i (s.lt (by simp [idsOf])) (by simp)
    simp only [er,ev,evOq,x_iaddrL,getC,evIaddrL,hsame]
    split
    · cases h[i]? with
      | none => rfl
      | some o => cases o <;> first | rfl | (simp only; split <;> rfl)
    · rfl
  | sl fs =>
    simp only [er,ev,evOq,x_iaddrL,getC,evIaddrL,Option.map_map]
    rfl
  | _ => rfl
theorem faddr_same {a b b':V} {h h':List Ob} {o:Nat} (e1:er (.faddr o (.c a)) h = some b) (e2:er (.faddr o (.c a)) h' = some b'):b = b' := by
  cases a <;> simp [er,ev,evOq,x_faddr,getC] at e1 e2
  · exact e1.2.symm.trans e2.2
  · exact e1.symm.trans e2
/-- A field, read again. -/
theorem Sl.atF2 {n:Nat} {h h':List Ob} {v:V} {es:List V} (s:Sl n h v es) (k:Kp h h' []) {i:Int} {cs:List V} (hk:0 ≤ i) (he:es[i.toNat]? = some (.agg cs)) (hc:cs.length = n) (h0:0 < n) (hs:cs.all V.scalar = true) {o:Nat} {x:V} (hx:cs[o]? = some x) :
    ∃ a b,er (.iaddrL n (.c v) (.c (.int .i64 i))) h = some a ∧ er (.faddr o (.c a)) h = some b ∧ er (.load1 (.c b)) h = some x ∧ er (.iaddrL n (.c v) (.c (.int .i64 i))) h' = some a ∧ er (.faddr o (.c a)) h' = some b ∧ er (.load1 (.c b)) h' = some x := by
  obtain ⟨a,a1,a2⟩ := s.atF hk he hc h0 hs
  obtain ⟨b,b1,b2⟩ := a2 o x hx
  obtain ⟨a',c1,c2⟩ := (s.kp k).atF hk he hc h0 hs
  obtain ⟨b',d1,d2⟩ := c2 o x hx
  have e := iaddr_kp s k i
  rw [c1,a1] at e
  injection e with e
  subst e
  have := faddr_same b1 d1
  subst this
  exact ⟨_,_,a1,b1,b2,c1,d1,d2⟩
theorem agg90 (lf k fb r:Nat) (hf:1000 < lf) {wv:V} {ws:List Wd} (hb:BinR lf k fb r wv ws) {h:List Ob} {s:RS} {w:Wd} (q:Rd h r wv ws s) (hw:ws[s.i]? = some w) (hn:10 * (ws.length - s.i) ≤ fb + 2):To2 (F65 lf (R25 lf k) (.ptr r 0 0) h) (XQ h r wv ws (aggP ws (binP ws fb 0) w.s s)) := by
  have hrl := q.lt
  have hvl:∀ j,j ∈ idsOf wv → j < h.length := fun j hj => q.sl.lt hj
  have hlt := (List.getElem?_eq_some_iff.1 hw).1
  simp only [F65]
  refine To2.bind2 (alloc_to (cs := zC) rfl) ?_
  rintro x2 h1 ⟨rfl,sx,k1⟩
  have q1 := q.kp k1
  have l1:h.length < h1.length := sx.lt
  have eb:∀ hh:List Ob,er (.build [(.int .i64 0),(.str []),(.int .i64 0),(.int .i64 0),(.str []),(.str []),(.str []),.nils] [(0,(1,(.c (.int .i64 (6))))),(1,(1,(.c (.str w.s))))]) hh = some (.agg (aC ⟨6,w.s,0,0,[],[],[]⟩ .nils)) := fun _ => rfl
  obtain ⟨e,h2,ev2,rfl,se,k2⟩ := alloc_to (h := h1) (cs := zC) rfl
  obtain ⟨a,b,a1,a2,a3,a4,a5,a6⟩ := Sl.atF2 q1.sl k2 (i := (s.i:Int)) (cs := cW w) (by omega) (by simp [rowsW,hw]) rfl (by decide) rfl (o := 1) (x := .str w.s) rfl
  have q2 := q1.kp k2
  simp only [q1.st.nilck,q1.st.faddr,q1.at0,q1.at1,bind1_some,castInt_int,a1,a2,a3,castStr_str,eb,castAgg_agg,castCons_cons,castNil_nil,ev2,bind2_some,a4,a5,a6,q2.st.nilck,q2.st.faddr,q2.at0,q2.at1,reP_of]
  refine To2.bind2 (se.storeN (ds := aC ⟨6,w.s,0,0,[],[],[]⟩ .nils) rfl (by simp) rfl (n := 8) rfl) ?_
  rintro u h3 ⟨se3,k3⟩
  have l2:h1.length < h2.length := se.lt
  have k23:Kp h1 h3 [] := k2.trans k3 (fun j hj => by cases hj) (fun j hj hlt => by simp at hj; omega)
  have q3 := q1.kp k23
  have sx3 := sx.kp k23
  simp only [q3.st.nilck,q3.st.faddr,q3.at1,bind1_some,castInt_int]
  refine To2.bind2 (q3.adv_to hlt) ?_
  rintro u h4 ⟨q4,k4⟩
  have se4 := se3.keep k4 (fun z => by simp at z; omega)
  have sx4 := sx3.keep k4 (fun z => by simp at z; omega)
  have k04:Kp h h4 [r] := Kp.to (k1.tr k23) k4
  have l4:h1.length ≤ h4.length := (Kp.to k23 k4).len
  refine want_to hf q4 (l := [[40]]) (ps := [(0,.str [40])]) rfl (by decide) rfl rfl fun h5 q5 k5 => ?_
  have se5 := se4.keep k5 (fun z => by simp at z; omega)
  have sx5 := sx4.keep k5 (fun z => by simp at z; omega)
  have k05 := Kp.rr k04 k5
  have l5:h4.length ≤ h5.length := k5.len
  have mono5:s.i + 1 ≤ (wantP ws [[40]] (adv s)).i := wantP_mono ws [[40]] (adv s)
  have hle5 := q5.le
  -- what stands in ( )
  have inner:To3 (S65_1 lf (R25 lf k) (.ptr r 0 0) (.ptr h1.length 0 0) h5) fun x vs h' => x = .normal ∧ vs = [] ∧ Kp h h' [r] ∧ St h' h.length zC ∧ h5.length ≤ h'.length ∧ ∃ pv ps s1,aggP ws (binP ws fb 0) w.s s = (.mk ⟨6,w.s,0,0,[],[],[]⟩ ps,wantP ws [[41]] s1) ∧ Rd h' r wv ws s1 ∧ St h' h1.length (aC ⟨6,w.s,0,0,[],[],[]⟩ pv) ∧ Ex (fun j => h1.length < j) h' (.agg (aC ⟨6,w.s,0,0,[],[],[]⟩ pv)) (.mk ⟨6,w.s,0,0,[],[],[]⟩ ps) := by
    -- an expression stands there
    have deep:∀ (g:List Ob) (s1:RS),Rd g r wv ws s1 → Kp h g [r] → St g h1.length (aC ⟨6,w.s,0,0,[],[],[]⟩ .nils) → St g h.length zC → h5.length ≤ g.length → s.i < s1.i → aggP ws (binP ws fb 0) w.s s = (aggX w.s [(binP ws fb 0 s1).1],wantP ws [[41]] (binP ws fb 0 s1).2) →
        To3 (bind2 (R25 lf k 25 [.ptr r 0 0,.int .i64 0] g) fun v h_1 =>
          castAgg v fun l1 => castCons l1 fun c1 l2 => castInt .i64 c1 fun x35_0 => castCons l2 fun c2 l3 => castStr c2 fun x35_1 => castCons l3 fun c3 l4 => castInt .i64 c3 fun x35_2 => castCons l4 fun c4 l5 => castInt .i64 c4 fun x35_3 =>
          castCons l5 fun c5 l6 => castStr c5 fun x35_4 => castCons l6 fun c6 l7 => castStr c6 fun x35_5 => castCons l7 fun c7 l8 => castStr c7 fun x35_6 => castCons l8 fun x35_7 l9 => castNil l9 (
          bind2 (ev (.bslice 8 (.agg [(.int .i64 0),(.str []),(.int .i64 0),(.int .i64 0),(.str []),(.str []),(.str []),.nils]) 1 [(0,(.c (.agg [(.int .i64 x35_0),(.str x35_1),(.int .i64 x35_2),(.int .i64 x35_3),(.str x35_4),(.str x35_5),(.str x35_6),x35_7])))]) h_1) fun x36 h_2 =>
          bind1 (er (.faddr 7 (.c (.ptr h1.length 0 0))) h_2) fun x37 =>
          bind2 (ev (.store 1 (.c x37) (.c x36)) h_2) fun u h_3 =>
          some (.normal,[],h_3))) fun x vs h' => x = .normal ∧ vs = [] ∧ Kp h h' [r] ∧ St h' h.length zC ∧ h5.length ≤ h'.length ∧ ∃ pv ps s1,aggP ws (binP ws fb 0) w.s s = (.mk ⟨6,w.s,0,0,[],[],[]⟩ ps,wantP ws [[41]] s1) ∧ Rd h' r wv ws s1 ∧ St h' h1.length (aC ⟨6,w.s,0,0,[],[],[]⟩ pv) ∧ Ex (fun j => h1.length < j) h' (.agg (aC ⟨6,w.s,0,0,[],[],[]⟩ pv)) (.mk ⟨6,w.s,0,0,[],[],[]⟩ ps) := by
      intro g s1 qg kg sg xg lg hi hp
      have hle := qg.le
      have sgl := sg.lt
      refine To3.bind2 (bin_at hb 0 rfl (by decide) qg (by omega)) ?_
      rintro v g2 ⟨q6,k6,n,pv,ps,hpx,rfl,e6⟩
      have sg6 := sg.keep k6 (fun z => by simp at z; omega)
      have xg6 := xg.keep k6 (fun z => by simp at z; omega)
      have l6:g.length ≤ g2.length := k6.len
      simp only [castAgg_agg,castCons_cons,castInt_int,castStr_str,castNil_nil]
      refine To3.bind2 (part1 e6 (m := ⟨6,w.s,0,0,[],[],[]⟩)) ?_
      rintro y g3 ⟨yc,ys,k7,e7⟩
      have sg7 := sg6.kp k7
      simp only [sg7.faddr,bind1_some]
      refine To3.bind2 (sg7.store1 (j := 0 + 7) (x := y) (by simp) ⟨yc,ys⟩) ?_
      rintro u g4 ⟨sg8,k8⟩
      have l7:g2.length ≤ g3.length := k7.len
      have l8:g3.length ≤ g4.length := k8.len
      have kall:Kp h g4 [r] := (Kp.ro (Kp.rr kg k6) k7).trans k8 (fun j hj _ => hj) (fun j hj hlt => by simp at hj; omega)
      have q7 := q6.kp k7
      refine To3.some ⟨rfl,rfl,kall,(xg6.kp k7).keep k8 (fun z => by simp at z; omega),by omega,y,[.mk n ps],(binP ws fb 0 s1).2,?_,?_,sg8,?_⟩
      · rw [hp,hpx]; rfl
      · exact ⟨q7.st.keep k8 (fun z => by simp at z; omega),q7.sl.keep k8 (fun j hj z => by simp at z; have := hvl j hj; omega),q7.nr,q7.le,q7.few⟩
      · refine (e7.mono (fun j _ z => ?_)).keep k8 (fun j hj z => by simp at hj; omega)
        rcases z with z | z <;> omega
    simp only [S65_1,S65_0,se5.faddr,se5.load1 (j := 0 + 1) (c := .str w.s) rfl,bind1_some,castStr_str]
    by_cases hc:w.s = [67,79,85,78,84]
    · have:(w.s == [67,79,85,78,84]) = true := by rw [hc]; rfl
      obtain ⟨v,h6,ev6,rfl,q6,k6⟩ := have10 (lf := lf) [42] q5
      have se6 := se5.keep k6 (fun z => by simp at z; omega)
      have sx6 := sx5.keep k6 (fun z => by simp at z; omega)
      have k06 := Kp.rr k05 k6
      have m6 := haveP_mono ws [42] (wantP ws [[40]] (adv s))
      simp only [this,Bool.not_true,cB_false,ev6,bind2_some,castBool_bool,bind3_some,decide_true,cB_true,castCons_cons,castNil_nil]
      cases hh:(haveP ws [42] (wantP ws [[40]] (adv s))).1 with
      | true =>
        simp only [Bool.not_true,cB_false]
        refine To3.some ⟨rfl,rfl,k06,sx6,k6.len,.nils,[],(haveP ws [42] (wantP ws [[40]] (adv s))).2,?_,q6,se6,ex0⟩
        simp only [aggP,if_pos hc,hh,if_true]; rfl
      | false =>
        simp only [Bool.not_false,cB_true]
        refine deep h6 _ q6 k06 se6 sx6 k6.len (by omega) ?_
        simp only [aggP,if_pos hc,hh,Bool.false_eq_true,if_false]
    · have:(w.s == [67,79,85,78,84]) = false := by simpa using hc
      simp only [this,Bool.not_false,cB_true,bind3_some,decide_true,castCons_cons,castBool_bool,castNil_nil]
      refine deep h5 _ q5 k05 se5 sx5 (Nat.le_refl _) (by omega) ?_
      simp only [aggP,if_neg hc]
  refine To2.bind3 inner ?_
  rintro x vs h6 ⟨rfl,rfl,k06,sx6,l6,pv,ps,s1,hp,q6,se6,e6⟩
  simp only [decide_true,cB_true,castNil_nil]
  refine want_to hf q6 (l := [[41]]) (ps := [(0,.str [41])]) rfl (by decide) rfl rfl fun h7 q7 k7 => ?_
  have se7 := se6.keep k7 (fun z => by simp at z; omega)
  have sx7 := sx6.keep k7 (fun z => by simp at z; omega)
  have e7 := e6.keep k7 (fun j hj z => by simp at hj; omega)
  simp only [se7.loadN' (n := 8) rfl,bind1_some,castAgg_agg,castCons_cons,castInt_int,castStr_str,castNil_nil]
  rw [hp]
  exact fin8 (cs := zC) (n := ⟨6,w.s,0,0,[],[],[]⟩) (pv := pv) (ps := ps) q rfl sx7 q7 (Kp.rr k06 k7) e7 (fun j z => by omega)
end Go.Proofs.YtjpjeilfmjdhcaaDoor.Rd
