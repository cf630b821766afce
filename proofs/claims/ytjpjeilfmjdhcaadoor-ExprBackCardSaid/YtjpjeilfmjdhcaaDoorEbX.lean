/- ExprBack: the printer's and the reader's calls walked. No condition. -/
import Derived.Test.YtjpjeilfmjdhcaaDoorEbW
import Derived.Test.YtjpjeilfmjdhcaaDoorEbN
namespace Go.Proofs.YtjpjeilfmjdhcaaDoor.Eb
open Go Go.Proofs.YtjpjeilfmjdhcaaDoor.E
open Go.Proofs.YtjpjeilfmjdhcaaDoor.Ln
open Go.Proofs.YtjpjeilfmjdhcaaDoor.Ex
open Go.Proofs.YtjpjeilfmjdhcaaDoor.Pr
open Go.Proofs.YtjpjeilfmjdhcaaDoor.Rd
open Go.Proofs.YtjpjeilfmjdhcaaDoor.Lb
set_option maxRecDepth 100000
set_option linter.unusedVariables false
set_option linter.unusedSimpArgs false
theorem formed11 {lf w d:Nat} (hf:1000 < lf) (hw:w < lf) (hw2:w ≤ 1000000000000000) {I:Nat → Prop} {n:Nd} {pv:V} {ps:List X} {h:List Ob} (hd:Wz w d (.mk n ps)) (ex:Ex I h (.agg (aC n pv)) (.mk n ps)) :
    To2 (F11 lf n.k n.op n.vk n.vn n.vs n.tb n.cl pv h) fun v h' => v = .bool (frmB 8 (.mk n ps)) ∧ Kp h h' [] := by
  simp only [F11]
  refine To2.bind2 (box_to (cs := aC n pv) (ex_sc ex)) ?_
  rintro v h1 ⟨rfl,st,k1⟩
  have ll:er (.loadN 8 (.c (.ptr h.length 0 0))) h1 = some (.agg (aC n pv)) := st.loadN' rfl
  simp only [ll,bind1_some,castAgg_agg,castCons_cons,castInt_int,castStr_str,castNil_nil]
  refine To2.bind2 (forms_all lf w hf hw hw2 8 lf (by decide) (by omega) d _ n pv ps h1 hd rfl (ex.kp k1)) ?_
  rintro v h2 ⟨rfl,k2⟩
  rw [castBool_bool]
  exact To2.some ⟨rfl,k1.tr k2⟩
/-- What the printer answers. -/
def printP (x:X):List UInt8 × Int := if frmB 8 x = true then (txtB 8 x 0,0) else ([],1)
theorem print6 {lf w d m:Nat} (hf:1000 < lf) (hw:w < lf) (hw2:w ≤ 1000000000000000) {I:Nat → Prop} {n:Nd} {pv:V} {ps:List X} {h:List Ob} (hd:Wz w d (.mk n ps)) (hv:Vz m (.mk n ps)) (ex:Ex I h (.agg (aC n pv)) (.mk n ps)) (pin:PinH h) :
    To2 (F6 lf n.k n.op n.vk n.vn n.vs n.tb n.cl pv h) fun v h' => v = .tup [.str (printP (.mk n ps)).1,.int .i64 (printP (.mk n ps)).2] ∧ Kp h h' [] := by
  simp only [F6]
  refine To2.bind2 (box_to (cs := aC n pv) (ex_sc ex)) ?_
  rintro v h1 ⟨rfl,st,k1⟩
  have ll:er (.loadN 8 (.c (.ptr h.length 0 0))) h1 = some (.agg (aC n pv)) := st.loadN' rfl
  simp only [ll,bind1_some,castAgg_agg,castCons_cons,castInt_int,castStr_str,castNil_nil]
  refine To2.bind2 (formed11 hf hw hw2 hd (ex.kp k1)) ?_
  rintro v h2 ⟨rfl,k2⟩
  rw [castBool_bool]
  unfold printP
  cases hfr:frmB 8 (.mk n ps) with
  | false =>
    simp only [Bool.not_false,cB_true,Bool.false_eq_true,if_false]
    exact To2.some ⟨rfl,k1.tr k2⟩
  | true =>
    have l2:er (.loadN 8 (.c (.ptr h.length 0 0))) h2 = some (.agg (aC n pv)) := (st.kp k2).loadN' rfl
    simp only [Bool.not_true,cB_false,if_true,l2,bind1_some,castAgg_agg,castCons_cons,castInt_int,castStr_str,castNil_nil]
    refine To2.bind2 (txt_all lf 8 lf _ (by decide) (by omega) (fm_of 8 m _ hfr hv) n pv ps h2 0 I rfl ((ex.kp k1).kp k2) ((pin.kp k1).kp k2) (by decide)) ?_
    rintro v h3 ⟨rfl,k3⟩
    rw [castStr_str]
    exact To2.some ⟨rfl,(k1.tr k2).tr k3⟩
/-- What the reader answers. -/
def doneX (ws:List Wd) (s:RS):RS := if s.e = 0 then (if s.i = ws.length then s else failP s) else s
def parseW (ws:List Wd):X × Int := if (doneX ws (exprP ws ⟨0,0⟩).2).e ≠ 0 then (zX,(doneX ws (exprP ws ⟨0,0⟩).2).e) else ((exprP ws ⟨0,0⟩).1,0)
def parseP (t:List UInt8):X × Int := match wordsP t with
  | (some ws,_) => parseW ws
  | (none,e) => (zX,e)
theorem zEx (I:Nat → Prop) (h:List Ob):Ex I h (.agg (aC zNd .nils)) zX := Ex.mk (n := zNd) (es := []) (ps := []) (Sl.nils 8 h) (fun j hj => by cases hj) rfl (fun i e p q => by simp at q)
theorem parse8 {lf:Nat} (hf:5000000 < lf) {h:List Ob} (text:List UInt8):To2 (F8 lf text h) fun v h' => Kp h h' [] ∧ ∃ n pv ps,v = .tup [.agg (aC n pv),.int .i64 (parseP text).2] ∧ (parseP text).1 = .mk n ps ∧ Ex (fun j => h.length ≤ j) h' (.agg (aC n pv)) (.mk n ps) := by
  have bz:∀ hh:List Ob,er (.build [(.int .i64 0),(.str []),(.int .i64 0),(.int .i64 0),(.str []),(.str []),(.str []),.nils] []) hh = some (.agg (aC zNd .nils)) := fun _ => rfl
  simp only [F8]
  refine To2.bind2 (alloc_to (cs := zC) rfl) ?_
  rintro x2 h1 ⟨rfl,sx,k1⟩
  have l1:h.length < h1.length := sx.lt
  refine To2.bind2 (words21 (by omega)) ?_
  rintro v h2 ⟨k2,hw⟩
  have sx2 := sx.kp k2
  have k12 := k1.tr k2
  have l2 := k2.len
  -- what is handed back
  have fin:∀ (g:List Ob) (n:Nd) (pv:V) (ps:List X) (e:Int) (K:List Ob → Option (V × List Ob)),St g h.length zC → Kp h g [] → Ex (fun j => h.length < j) g (.agg (aC n pv)) (.mk n ps) →
      (∀ g2,Kp g g2 [h.length] → evLoadN g2 8 (.ptr h.length 0 0) = some (.agg (aC n pv)) → K g2 = some (.tup [.agg (aC n pv),.int .i64 e],g2)) →
      To2 (bind2 (ev (.store 8 (.c (.ptr h.length 0 0)) (.c (.agg (aC n pv)))) g) fun _ g2 => K g2) fun v h' => Kp h h' [] ∧ ∃ n' pv' ps',v = .tup [.agg (aC n' pv'),.int .i64 e] ∧ X.mk n ps = .mk n' ps' ∧ Ex (fun j => h.length ≤ j) h' (.agg (aC n' pv')) (.mk n' ps') := by
    intro g n pv ps e K sg kg ex hK
    refine To2.bind2 (sg.storeN (ds := aC n pv) rfl (by simp) (ex_sc ex) (n := 8) rfl) ?_
    rintro u g2 ⟨sg2,kg2⟩
    rw [hK g2 kg2 sg2.loadN]
    exact To2.some ⟨kg.trans kg2 (fun j hj => by cases hj) (fun j hj hlt => by simp at hj; omega),n,pv,ps,rfl,rfl,(ex.keep kg2 (fun j hj z => by simp at hj; omega)).mono (fun j _ z => Nat.le_of_lt z)⟩
  cases hwp:wordsP text with
  | mk o e =>
    rw [hwp] at hw
    cases o with
    | none =>
      obtain ⟨rfl,he⟩ := hw
      have hne:(e != 0) = true := by simpa using he
      have hsp:parseP text = (zX,e) := by unfold parseP; rw [hwp]
      rw [hsp]
      simp only [castTup_tup,castCons_cons,castInt_int,castNil_nil,hne,cB_true,bz,bind1_some,castAgg_agg,castStr_str]
      exact fin h2 zNd .nils [] e _ sx2 k12 (zEx _ _) (fun g2 kg hl => by rw [hl,bind1_some])
    | some ws =>
      obtain ⟨wv,rfl,sl,-,fw⟩ := hw
      have hsp:parseP text = parseW ws := by unfold parseP; rw [hwp]
      rw [hsp]
      have hfew := wordsP_len hwp
      have hsh := wordsP_short hwp
      have b0:((0:Int) != 0) = false := by decide
      simp only [castTup_tup,castCons_cons,castInt_int,castNil_nil,b0,cB_false]
      have wsc:wv.cells = [wv] ∧ wv.scalar = true := scN sl
      have br:er (.build [.nils,(.int .i64 0),(.int .i64 0)] [(0,(1,(.c wv)))]) h2 = some (.agg [wv,.int .i64 0,.int .i64 0]) := by
        have:fillV [.nils,(.int .i64 0),(.int .i64 0)] [(0,1,wv)] = some [wv,.int .i64 0,.int .i64 0] := by
          obtain ⟨-,h9⟩ := wsc
          cases wv <;> first | rfl | (simp [V.scalar] at h9)
        simp only [er,ev,evOq,x_build,List.map_cons,List.map_nil,getC,this]; rfl
      obtain ⟨r1,h3,e3,rfl,st3,k3⟩ := box_to (h := h2) (cs := [wv,.int .i64 0,.int .i64 0]) (by simp [wsc.2]; exact rfl)
      have f8:F14 lf wv h2 = some (.ptr h2.length 0 0,h3) := by
        simp only [F14,br,bind1_some,castAgg_agg,castCons_cons,castInt_int,castNil_nil,e3,bind2_some]
      have l3:h2.length < h3.length := st3.lt
      have rd3:Rd h3 h2.length wv ws ⟨0,0⟩ := ⟨st3,sl.kp k3,fun z => by have := sl.lt z; omega,Nat.zero_le _,hfew⟩
      have k13:Kp h h3 [] := k12.tr k3
      simp only [f8,bind2_some]
      refine To2.bind2 (expr57 hf hsh rd3) ?_
      rintro v h4 ⟨q4,k4,n,pv,ps,hp,rfl,e4⟩
      have k14:Kp h h4 [] := k13.trans k4 (fun j hj => by cases hj) (fun j hj hlt => by simp at hj; omega)
      have sx4 := (sx2.kp k3).keep k4 (fun z => by simp at z; omega)
      have l4 := k4.len
      simp only [castAgg_agg,castCons_cons,castInt_int,castStr_str,castNil_nil]
      refine put8 (ex_sc e4) fun h5 se k5 => ?_
      have q5 := q4.kp k5
      have e5 := e4.kp k5
      have l5:h4.length < h5.length := se.lt
      obtain ⟨P,hP⟩:∃ p,p = exprP ws ⟨0,0⟩ := ⟨_,rfl⟩
      rw [← hP] at q5 hp
      have key:To3 (S8_0 lf (.ptr h2.length 0 0) h5) fun x vs h' => x = .normal ∧ vs = [] ∧ Rd h' h2.length wv ws (doneX ws P.2) ∧ Kp h5 h' [h2.length] := by
        simp only [S8_0,q5.st.nilck,q5.st.faddr,q5.at2,bind1_some,castInt_int,doneX]
        by_cases z:P.2.e = 0
        · have e0:(P.2.e == 0) = true := by rw [z]; rfl
          simp only [e0,cB_true,done11 q5,bind2_some,castBool_bool,if_pos z]
          by_cases y:P.2.i = ws.length
          · simp only [decide_eq_true y,Bool.not_true,cB_false,if_pos y]
            exact To3.some ⟨rfl,rfl,q5,Kp.refl _ _⟩
          · simp only [decide_eq_false y,Bool.not_false,cB_true,if_neg y]
            refine To3.bind2 (fail12 q5) ?_
            rintro v h8 ⟨rfl,d8,k8⟩
            exact To3.some ⟨rfl,rfl,d8,k8⟩
        · have e0:(P.2.e == 0) = false := by simpa using z
          simp only [e0,cB_false,if_neg z]
          exact To3.some ⟨rfl,rfl,q5,Kp.refl _ _⟩
      refine To2.bind3 key ?_
      rintro x vs h6 ⟨rfl,rfl,q6,k6⟩
      have sx6 := (sx4.kp k5).keep k6 (fun z => by simp at z; omega)
      have se6 := se.keep k6 (fun z => by simp at z; omega)
      have e6 := (e5.keep k6 (fun j hj z => by simp at hj; omega)).mono (J := fun j => h.length < j) (fun j _ z => by omega)
      have k16:Kp h h6 [] := (k14.tr k5).trans k6 (fun j hj => by cases hj) (fun j hj hlt => by simp at hj; omega)
      simp only [decide_true,cB_true,castNil_nil,q6.st.nilck,q6.st.faddr,q6.at2,bind1_some,castInt_int,parseW,← hP]
      by_cases z:(doneX ws P.2).e = 0
      · have z0:((doneX ws P.2).e != 0) = false := by rw [z]; rfl
        have zn:¬ (doneX ws P.2).e ≠ 0 := fun y => y z
        simp only [z0,cB_false,if_neg zn,se6.loadN' (n := 8) rfl,bind1_some,castAgg_agg,castCons_cons,castInt_int,castStr_str,castNil_nil]
        rw [hp]
        exact fin h6 n pv ps 0 _ sx6 k16 e6 (fun g2 kg hl => by rw [hl,bind1_some])
      · have z0:((doneX ws P.2).e != 0) = true := by simpa using z
        simp only [z0,cB_true,if_pos z,bz,bind1_some,castAgg_agg,castCons_cons,castInt_int,castStr_str,castNil_nil,q6.st.nilck,q6.st.faddr,q6.at2]
        refine fin h6 zNd .nils [] _ _ sx6 k16 (zEx _ _) (fun g2 kg hl => ?_)
        have q7:Rd g2 h2.length wv ws (doneX ws P.2) := ⟨q6.st.keep kg (by simp; omega),q6.sl.keep kg (fun j hj y => by have := fw j hj; have := sl.lt hj; simp at y; omega),q6.nr,q6.le,q6.few⟩
        rw [reP_pos _ q7.at2,reP_pos _ (q7.st.faddr 2 0 0),reP_pos _ (q7.st.nilck 0 0),hl,bind1_some]
theorem awakeP:parseP [97,32,43,32,49] = (binX [43] (colX [] [97]) (litI 1),0) := by kernel_rfl
theorem awake4 {lf:Nat} (hf:5000000 < lf) {h:List Ob}:To2 (F4 lf h) fun v h' => v = .bool true ∧ Kp h h' [] := by
  simp only [F4]
  refine To2.bind2 (parse8 hf _) ?_
  rintro v h1 ⟨k1,n,pv,ps,rfl,hx,ex⟩
  rw [awakeP] at hx ⊢
  simp only [binX] at hx
  injection hx with hn hps
  have nk:n.k = 4 := by rw [← hn]
  have nop:n.op = [43] := by rw [← hn]
  have npl:ps.length = 2 := by rw [← hps]; rfl
  clear hn hps
  simp only [castTup_tup,castCons_cons,castAgg_agg,castInt_int,castStr_str,castNil_nil]
  refine put8 (ex_sc ex) fun h2 st k2 => ?_
  obtain ⟨es,s,hi,hl,hp⟩ := (ex.kp k2).inv
  have fa := fun o => st.faddr o 0 0
  have l0:er (.load1 (.c (.ptr h1.length 0 0))) h2 = some (.int .i64 n.k) := st.load1 rfl
  have l1:er (.load1 (.c (.ptr h1.length 0 1))) h2 = some (.str n.op) := st.load1 rfl
  have l7:er (.load1 (.c (.ptr h1.length 0 7))) h2 = some pv := st.load1 rfl
  have ll := er_lenL s
  rw [hl,npl] at ll
  rw [nk] at l0
  rw [nop] at l1
  simp only [Nat.zero_add] at fa
  have e2:(((2:Nat):Int) == 2) = true := rfl
  simp only [beq_self_eq_true,cB_true,fa,l0,l1,l7,ll,bind1_some,castInt_int,castStr_str,e2]
  exact To2.some ⟨rfl,k1.tr k2⟩
end Go.Proofs.YtjpjeilfmjdhcaaDoor.Eb
