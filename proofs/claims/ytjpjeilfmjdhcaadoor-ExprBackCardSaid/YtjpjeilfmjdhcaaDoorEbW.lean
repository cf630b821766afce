/- ExprBack: the printer walked: values, quoted texts, an expression's text. No condition. -/
import Derived.Test.YtjpjeilfmjdhcaaDoorEbU
import Derived.Test.YtjpjeilfmjdhcaaDoorEbV
import Derived.Test.YtjpjeilfmjdhcaaDoorRdV
namespace Go.Proofs.YtjpjeilfmjdhcaaDoor.Eb
open Go Go.Proofs.YtjpjeilfmjdhcaaDoor.E
open Go.Proofs.YtjpjeilfmjdhcaaDoor.Ln
open Go.Proofs.YtjpjeilfmjdhcaaDoor.Ex
open Go.Proofs.YtjpjeilfmjdhcaaDoor.Pr
open Go.Proofs.YtjpjeilfmjdhcaaDoor.Rd
open Go.Proofs.YtjpjeilfmjdhcaaDoor.Lb
set_option maxRecDepth 100000
set_option linter.unusedVariables false
set_option linter.unusedSimpArgs false
/-- The variables that are read hold what they held. -/
def PinH (h:List Ob):Prop := (∃ e,h[0]? = some (pinT e)) ∧ ∃ m e,h[1]? = some (pinM m e)
theorem PinH.kp {h h':List Ob} (p:PinH h) (k:Kp h h' []):PinH h' := by
  obtain ⟨⟨e,a⟩,m,e',b⟩ := p
  exact ⟨⟨e,(k.same 0 (List.getElem?_eq_some_iff.1 a).1 (by simp)).trans a⟩,m,e',(k.same 1 (List.getElem?_eq_some_iff.1 b).1 (by simp)).trans b⟩
theorem fmt29 {lf:Nat} {n:Int} {h:List Ob} (p:PinH h) (h0:0 ≤ n) (h1:n ≤ 9223372036854775807):F29 lf n 10 h = some (.str (decP n.toNat),h) := by
  unfold F29
  rw [if_pos ⟨rfl,by omega,h1,p.1⟩,itoa_dec h0 h1]
theorem rep50 {lf:Nat} {s:List UInt8} {h:List Ob} (p:PinH h) (hs:s.length ≤ 100):F50 lf s [39] [39,39] h = some (.str (dblP s),h) := by
  unfold F50
  rw [if_pos ⟨rfl,rfl,by omega,p.2⟩,all_dbl]
theorem quote30 {lf:Nat} {s:List UInt8} {h:List Ob} (p:PinH h) (hs:s.length ≤ 100):F30 lf s h = some (.str (quoteP s),h) := by
  have := dbl_len s
  simp only [F30,rep50 p hs,bind2_some,castStr_str,bind1_some]
  rw [er_addS (by simp; omega),bind1_some,castStr_str,er_addS (by simp; omega),bind1_some,castStr_str]
  rfl
theorem lit20 {lf:Nat} {h:List Ob} (p:PinH h) {k n:Int} {s:List UInt8} (h0:0 ≤ n) (h1:n ≤ 9223372036854775807) (hs:s.length ≤ 100) :
    To2 (F20 lf k n s h) fun v h' => v = .str (if k = 1 then decP n.toNat else if k = 2 then quoteP s else kNull) ∧ Kp h h' [] := by
  simp only [F20]
  refine To2.bind2 (box_to (cs := [.int .i64 k,.int .i64 n,.str s]) rfl) ?_
  rintro v g ⟨rfl,st,k1⟩
  have pg := p.kp k1
  have fa := fun o => st.faddr o 0 0
  have l0:er (.load1 (.c (.ptr h.length 0 0))) g = some (.int .i64 k) := st.load1 rfl
  have l1:er (.load1 (.c (.ptr h.length 0 1))) g = some (.int .i64 n) := st.load1 rfl
  have l2:er (.load1 (.c (.ptr h.length 0 2))) g = some (.str s) := st.load1 rfl
  simp only [Nat.zero_add] at fa
  simp only [fa,l0,l1,l2,bind1_some,castInt_int,castStr_str]
  by_cases c1:k = 1
  · have e:(k == 1) = true := by simp [c1]
    simp only [e,cB_true,fmt29 pg h0 h1,bind2_some,castStr_str,if_pos c1]
    exact To2.some ⟨rfl,k1⟩
  · have e:(k == 1) = false := by simp [c1]
    simp only [e,cB_false,if_neg c1]
    by_cases c2:k = 2
    · have e:(k == 2) = true := by simp [c2]
      simp only [e,cB_true,quote30 pg hs,bind2_some,castStr_str,if_pos c2]
      exact To2.some ⟨rfl,k1⟩
    · have e:(k == 2) = false := by simp [c2]
      simp only [e,cB_false,if_neg c2]
      exact To2.some ⟨rfl,k1⟩
theorem pre32 (lf:Nat) (s p:List UInt8) (h:List Ob):F32 lf s p h = some (.bool (preP s p),h) := by
  unfold F32 preP
  by_cases q:p.length ≤ s.length
  · have e:decide ((s.length:Int) ≥ (p.length:Int)) = true := decide_eq_true (by omega)
    simp only [e,cB_true,er_slcS_to q,bind1_some,castStr_str,bind2_some,castBool_bool,decide_eq_true q,Bool.true_and]
  · have e:decide ((s.length:Int) ≥ (p.length:Int)) = false := decide_eq_false (by omega)
    simp only [e,cB_false,bind2_some,castBool_bool,decide_eq_false q,Bool.false_and]
theorem trim21 (lf:Nat) (s:List UInt8) (h:List Ob):F21 lf s [46] h = some (.str (trimP s),h) := by
  cases s with
  | nil =>
    have:preP [] [46] = false := rfl
    simp only [F21,F31,pre32,bind2_some,castBool_bool,this,cB_false,castStr_str]
    rfl
  | cons a t =>
    have e:preP (a :: t) [46] = (a == 46) := by
      unfold preP
      simp
    simp only [F21,F31,pre32,bind2_some,castBool_bool,e]
    by_cases c:a = 46
    · subst c
      simp only [beq_self_eq_true,cB_true]
      rw [er_slcS_from (a := ([46]:List UInt8).length) (by simp),bind1_some,castStr_str,bind2_some,castStr_str]
      rfl
    · have e2:(a == 46) = false := by simpa using c
      simp only [e2,cB_false,bind2_some,castStr_str]
      unfold trimP
      rw [List.head?_cons,if_neg (by simpa using c)]
theorem left12 (lf:Nat) (rc:CallS) (o:Nat) (h:List Ob) (h7:o ≤ 7):S12_0 lf rc o o h = some (.normal,[.int .i64 ((lftP o:Nat):Int)],h) := by
  unfold S12_0 lftP
  by_cases c:o = 3
  · subst c
    rfl
  · have e:((o:Int) == 3) = false := by
      have:(o:Int) ≠ 3 := by omega
      simpa using this
    rw [e,cB_false,if_neg c]
abbrev Txt (lf k d:Nat) (x:X):Prop := ∀ (n:Nd) (pv:V) (ps:List X) (h:List Ob) (l:Nat) (I:Nat → Prop),x = .mk n ps → Ex I h (.agg (aC n pv)) x → PinH h → l ≤ 7 →
  To2 (F12 lf (R12 lf k) n.k n.op n.vk n.vn n.vs n.tb n.cl pv (l:Int) h) fun v h' => v = .str (txtB d x l) ∧ Kp h h' []
/-- A part's text, as it is called for. -/
theorem part12 {lf k d:Nat} {p:X} (IH:Txt lf k d p) {n:Nd} {pv:V} {ps:List X} {h:List Ob} {l:Nat} {z:Int} {I:Nat → Prop} (e:p = .mk n ps) (ex:Ex I h (.agg (aC n pv)) p) (pin:PinH h) (hl:l ≤ 7) (hz:z = (l:Int)) :
    To2 (R12 lf (k + 1) 12 [(.agg [(.int .i64 n.k),(.str n.op),(.int .i64 n.vk),(.int .i64 n.vn),(.str n.vs),(.str n.tb),(.str n.cl),pv]),(.int .i64 z)] h) fun v h' => v = .str (txtB d p l) ∧ Kp h h' [] := by
  subst hz
  exact IH n pv ps h l I e ex pin hl
theorem raw12 (lf k d:Nat) (hd:d ≤ 7) (IH:∀ p,Fm d p → Txt lf k d p) {n:Nd} {ps:List X} (hf:Fm (d + 1) (.mk n ps)) {pv:V} {h:List Ob} {ie:Nat} {I:Nat → Prop} (st:St h ie (aC n pv)) (ex:Ex I h (.agg (aC n pv)) (.mk n ps)) (pin:PinH h) :
    To3 (S12_1 lf (R12 lf (k + 1)) (.ptr ie 0 0) 7 [] h) fun x vs h' => x = .normal ∧ vs = [.int .i64 ((lvP n:Nat):Int),.str (rawT (txtB d) n ps)] ∧ Kp h h' [] := by
  obtain ⟨es,s,hi,hl,hp⟩ := ex.inv
  have fa := fun o => st.faddr o 0 0
  have l0:er (.load1 (.c (.ptr ie 0 0))) h = some (.int .i64 n.k) := st.load1 rfl
  have l1:er (.load1 (.c (.ptr ie 0 1))) h = some (.str n.op) := st.load1 rfl
  have l2:er (.loadN 3 (.c (.ptr ie 0 2))) h = some (.agg [.int .i64 n.vk,.int .i64 n.vn,.str n.vs]) := loadP st (by simp) (by decide)
  have l5:er (.load1 (.c (.ptr ie 0 5))) h = some (.str n.tb) := st.load1 rfl
  have l6:er (.load1 (.c (.ptr ie 0 6))) h = some (.str n.cl) := st.load1 rfl
  have l7:er (.load1 (.c (.ptr ie 0 7))) h = some pv := st.load1 rfl
  have ll := er_lenL s
  rw [hl] at ll
  simp only [Nat.zero_add] at fa
  have hb := bnd_le (d := d) (by omega)
  have q12:((2:Int) == 1) = false := rfl
  have q31:((3:Int) == 1) = false := rfl
  have q32:((3:Int) == 2) = false := rfl
  have q41:((4:Int) == 1) = false := rfl
  have q42:((4:Int) == 2) = false := rfl
  have q43:((4:Int) == 3) = false := rfl
  have q51:((5:Int) == 1) = false := rfl
  have q52:((5:Int) == 2) = false := rfl
  have q53:((5:Int) == 3) = false := rfl
  have q54:((5:Int) == 4) = false := rfl
  have q61:((6:Int) == 1) = false := rfl
  have q62:((6:Int) == 2) = false := rfl
  have q63:((6:Int) == 3) = false := rfl
  have q64:((6:Int) == 4) = false := rfl
  have q65:((6:Int) == 5) = false := rfl
  have at0:∀ {g:List Ob} (kg:Kp h g []) (h0:0 < ps.length),∃ a n1 qv qs,ps[0] = .mk n1 qs ∧ er (.iaddrL 8 (.c pv) (.c (.int .i64 0))) g = some a ∧ er (.loadN 8 (.c a)) g = some (.agg (aC n1 qv)) ∧ Ex I g (.agg (aC n1 qv)) (.mk n1 qs) ∧ qv.scalar = true := fun {g} kg h0 => by
    have := Ex.at (s.kp kg) hl (fun i e p g1 g2 => (hp i e p g1 g2).kp kg) (i := 0) h0
    exact this
  generalize hx:X.mk n ps = x at hf
  generalize hd1:d + 1 = d1 at hf
  cases hf with
  | @int d' v hv =>
    injection hx with e1 e2; subst e1; subst e2
    simp only [S12_1,fa,l0,l2,bind1_some,castInt_int,beq_self_eq_true,cB_true,castAgg_agg,castCons_cons,castStr_str,castNil_nil]
    refine To3.bind2 (lit20 pin (by omega) (by omega) (by simp)) ?_
    rintro v g ⟨rfl,k1⟩
    rw [castStr_str]
    exact To3.some ⟨rfl,rfl,k1⟩
  | @txt d' t ht =>
    injection hx with e1 e2; subst e1; subst e2
    simp only [S12_1,fa,l0,l2,bind1_some,castInt_int,beq_self_eq_true,cB_true,castAgg_agg,castCons_cons,castStr_str,castNil_nil]
    refine To3.bind2 (lit20 pin (by omega) (by omega) ht) ?_
    rintro v g ⟨rfl,k1⟩
    rw [castStr_str]
    exact To3.some ⟨rfl,rfl,k1⟩
  | nul =>
    injection hx with e1 e2; subst e1; subst e2
    simp only [S12_1,fa,l0,l2,bind1_some,castInt_int,beq_self_eq_true,cB_true,castAgg_agg,castCons_cons,castStr_str,castNil_nil]
    refine To3.bind2 (lit20 pin (by omega) (by omega) (by simp)) ?_
    rintro v g ⟨rfl,k1⟩
    rw [castStr_str]
    exact To3.some ⟨rfl,rfl,k1⟩
  | @col d' t c hc ht =>
    injection hx with e1 e2; subst e1; subst e2
    have hc' := named_len (name_facts hc).1
    have ht':t.length ≤ 64 := by
      rcases ht with rfl | ht
      · simp
      · exact named_len (name_facts ht).1
    simp only [S12_1,fa,l0,l5,l6,bind1_some,castInt_int,q12,cB_false,beq_self_eq_true,cB_true,castStr_str]
    rw [er_addS (by simp; omega),bind1_some,castStr_str,er_addS (by simp; omega),bind1_some,castStr_str,trim21,bind2_some,castStr_str]
    refine To3.some ⟨rfl,?_,Kp.refl _ _⟩
    rw [List.append_assoc]
    rfl
  | @neg d' p hq =>
    injection hx with e1 e2; subst e1; subst e2
    obtain rfl:d = d' := by omega
    obtain ⟨a,n1,qv,qs,ep,a1,a2,x1,c1⟩ := at0 (Kp.refl _ _) (by simp)
    have ep:p = .mk n1 qs := ep
    have e0:(([45]:List UInt8) == [78,79,84]) = false := by decide
    simp only [S12_1,fa,l0,l1,l7,a1,a2,bind1_some,castInt_int,q31,q32,cB_false,beq_self_eq_true,cB_true,castStr_str,e0,castAgg_agg,castCons_cons,castNil_nil]
    refine To3.bind2 (part12 (IH p hq) (l := 7) ep (ep ▸ x1) pin (by decide) rfl) ?_
    rintro v g ⟨rfl,k1⟩
    have hlen := txt_len d p 7 hq
    rw [castStr_str,er_addS (by simp; omega),bind1_some,castStr_str]
    exact To3.some ⟨rfl,rfl,k1⟩
  | @no d' p hq =>
    injection hx with e1 e2; subst e1; subst e2
    obtain rfl:d = d' := by omega
    obtain ⟨a,n1,qv,qs,ep,a1,a2,x1,c1⟩ := at0 (Kp.refl _ _) (by simp)
    have ep:p = .mk n1 qs := ep
    simp only [S12_1,fa,l0,l1,l7,a1,a2,bind1_some,castInt_int,q31,q32,cB_false,beq_self_eq_true,cB_true,castStr_str,castAgg_agg,castCons_cons,castNil_nil]
    refine To3.bind2 (part12 (IH p hq) (l := 2) ep (ep ▸ x1) pin (by decide) rfl) ?_
    rintro v g ⟨rfl,k1⟩
    have hlen := txt_len d p 2 hq
    rw [castStr_str,er_addS (by simp; omega),bind1_some,castStr_str]
    exact To3.some ⟨rfl,rfl,k1⟩
  | @bin d' op p q ho hq1 hq2 =>
    injection hx with e1 e2; subst e1; subst e2
    obtain rfl:d = d' := by omega
    obtain ⟨a,n1,qv,qs,ep,a1,a2,x1,c1⟩ := at0 (Kp.refl _ _) (by simp)
    have ep:p = .mk n1 qs := ep
    obtain ⟨b,n2,rv,rs,eq,b1,b2,y1,c2⟩ := Ex.at s hl hp (i := 1) (by simp)
    have eq:q = .mk n2 rs := eq
    have b1:er (.iaddrL 8 (.c pv) (.c (.int .i64 1))) h = some b := b1
    have h5 := (ops_level ho).2.2
    have h3 := ops_len ho
    have hlf:lftP (levelP op) ≤ 7 := by unfold lftP; split <;> omega
    simp only [S12_1,fa,l0,l1,l7,a1,a2,bind1_some,castInt_int,q41,q42,q43,cB_false,beq_self_eq_true,cB_true,castStr_str,level85,bind2_some,left12 _ _ _ _ (show levelP op ≤ 7 by omega),bind3_some,decide_true,castAgg_agg,castCons_cons,castNil_nil,b1,b2]
    refine To3.bind2 (part12 (IH p hq1) (l := lftP (levelP op)) ep (ep ▸ x1) pin hlf rfl) ?_
    rintro v g ⟨rfl,k1⟩
    have st2 := st.kp k1
    have fa2 := fun o => st2.faddr o 0 0
    have m1:er (.load1 (.c (.ptr ie 0 1))) g = some (.str op) := st2.load1 rfl
    have m7:er (.load1 (.c (.ptr ie 0 7))) g = some pv := st2.load1 rfl
    obtain ⟨b',n2',rv',rs',eq',b1',b2',y1',c2'⟩ := Ex.at (s.kp k1) hl (fun i e p g1 g2 => (hp i e p g1 g2).kp k1) (i := 1) (by simp)
    have b1':er (.iaddrL 8 (.c pv) (.c (.int .i64 1))) g = some b' := b1'
    simp only [Nat.zero_add] at fa2
    have hbb:er (.iaddrL 8 (.c pv) (.c (.int .i64 1))) g = some b ∧ er (.loadN 8 (.c b)) g = some (.agg (aC n2 rv)) := iaddr_keep s k1 b1 b2
    have hlen1 := txt_len d p (lftP (levelP op)) hq1
    have w1:IntKind.i64.wrap (((levelP op:Nat):Int) + 1) = ((levelP op + 1:Nat):Int) := by rw [wrap_i64 (by omega) (by omega)]; omega
    rw [castStr_str,reP_pos _ hbb.2,reP_pos _ hbb.1,reP_pos _ m7,reP_pos _ (fa2 7),reP_pos _ m1,reP_pos _ (fa2 1),er_addS (by simp; omega),bind1_some,castStr_str,er_addS (by simp; omega),bind1_some,castStr_str,er_addS (by simp; omega),bind1_some,castStr_str,w1]
    refine To3.bind2 (part12 (IH q hq2) (l := levelP op + 1) eq (eq ▸ y1.kp k1) (pin.kp k1) (by omega) rfl) ?_
    rintro v g2 ⟨rfl,k2⟩
    have st3 := st2.kp k2
    have fa3 := fun o => st3.faddr o 0 0
    have o1:er (.load1 (.c (.ptr ie 0 1))) g2 = some (.str op) := st3.load1 rfl
    simp only [Nat.zero_add] at fa3
    have hlen2 := txt_len d q (levelP op + 1) hq2
    rw [castStr_str,reP_pos _ o1,reP_pos _ (fa3 1),er_addS (by simp; omega),bind1_some,castStr_str]
    refine To3.some ⟨rfl,?_,k1.tr k2⟩
    have:txtB d p (lftP (levelP op)) ++ [32] ++ op ++ [32] ++ txtB d q (levelP op + 1) = txtB d p (lftP (levelP op)) ++ (32 :: (op ++ (32 :: txtB d q (levelP op + 1)))) := by simp
    rw [this]
    rfl
  | @isn d' p hq =>
    injection hx with e1 e2; subst e1; subst e2
    obtain rfl:d = d' := by omega
    obtain ⟨a,n1,qv,qs,ep,a1,a2,x1,c1⟩ := at0 (Kp.refl _ _) (by simp)
    have ep:p = .mk n1 qs := ep
    simp only [S12_1,fa,l0,l1,l7,a1,a2,bind1_some,castInt_int,q51,q52,q53,q54,cB_false,beq_self_eq_true,cB_true,castStr_str,castAgg_agg,castCons_cons,castNil_nil]
    refine To3.bind2 (part12 (IH p hq) (l := 4) ep (ep ▸ x1) pin (by decide) rfl) ?_
    rintro v g ⟨rfl,k1⟩
    have st2 := st.kp k1
    have fa2 := fun o => st2.faddr o 0 0
    have m1:er (.load1 (.c (.ptr ie 0 1))) g = some (.str [73,83,32,78,85,76,76]) := st2.load1 rfl
    simp only [Nat.zero_add] at fa2
    have hlen := txt_len d p 4 hq
    rw [castStr_str,reP_pos _ m1,reP_pos _ (fa2 1),er_addS (by simp; omega),bind1_some,castStr_str,er_addS (by simp; omega),bind1_some,castStr_str]
    refine To3.some ⟨rfl,?_,k1⟩
    rw [List.append_assoc]
    rfl
  | @isnn d' p hq =>
    injection hx with e1 e2; subst e1; subst e2
    obtain rfl:d = d' := by omega
    obtain ⟨a,n1,qv,qs,ep,a1,a2,x1,c1⟩ := at0 (Kp.refl _ _) (by simp)
    have ep:p = .mk n1 qs := ep
    simp only [S12_1,fa,l0,l1,l7,a1,a2,bind1_some,castInt_int,q51,q52,q53,q54,cB_false,beq_self_eq_true,cB_true,castStr_str,castAgg_agg,castCons_cons,castNil_nil]
    refine To3.bind2 (part12 (IH p hq) (l := 4) ep (ep ▸ x1) pin (by decide) rfl) ?_
    rintro v g ⟨rfl,k1⟩
    have st2 := st.kp k1
    have fa2 := fun o => st2.faddr o 0 0
    have m1:er (.load1 (.c (.ptr ie 0 1))) g = some (.str [73,83,32,78,79,84,32,78,85,76,76]) := st2.load1 rfl
    simp only [Nat.zero_add] at fa2
    have hlen := txt_len d p 4 hq
    rw [castStr_str,reP_pos _ m1,reP_pos _ (fa2 1),er_addS (by simp; omega),bind1_some,castStr_str,er_addS (by simp; omega),bind1_some,castStr_str]
    refine To3.some ⟨rfl,?_,k1⟩
    rw [List.append_assoc]
    rfl
  | @agg d' op p ho hq =>
    injection hx with e1 e2; subst e1; subst e2
    obtain rfl:d = d' := by omega
    obtain ⟨a,n1,qv,qs,ep,a1,a2,x1,c1⟩ := at0 (Kp.refl _ _) (by simp)
    have ep:p = .mk n1 qs := ep
    have hg:decide ((([p]:List X).length:Int) > 0) = true := decide_eq_true (by simp)
    have h3 := aggs_len ho
    simp only [S12_1,fa,l0,l1,l7,ll,a1,a2,bind1_some,castInt_int,q61,q62,q63,q64,q65,cB_false,beq_self_eq_true,cB_true,castStr_str,hg,castAgg_agg,castCons_cons,castNil_nil]
    refine To3.bind2 (part12 (IH p hq) (l := 0) ep (ep ▸ x1) pin (by decide) rfl) ?_
    rintro v g ⟨rfl,k1⟩
    have st2 := st.kp k1
    have fa2 := fun o => st2.faddr o 0 0
    have m1:er (.load1 (.c (.ptr ie 0 1))) g = some (.str op) := st2.load1 rfl
    simp only [Nat.zero_add] at fa2
    have hlen := txt_len d p 0 hq
    rw [castStr_str,fa2,bind1_some,m1,bind1_some,castStr_str,er_addS (by simp; omega),bind1_some,castStr_str,er_addS (by simp; omega),bind1_some,castStr_str,er_addS (by simp; omega),bind1_some,castStr_str]
    refine To3.some ⟨rfl,?_,k1⟩
    have:op ++ [40] ++ txtB d p 0 ++ [41] = op ++ (40 :: (txtB d p 0 ++ [41])) := by simp
    rw [this]
    rfl
  | cnt =>
    injection hx with e1 e2; subst e1; subst e2
    have hg:decide ((([]:List X).length:Int) > 0) = false := by decide
    simp only [S12_1,fa,l0,l1,l7,ll,bind1_some,castInt_int,q61,q62,q63,q64,q65,cB_false,beq_self_eq_true,cB_true,castStr_str,hg]
    rw [er_addS (by simp),bind1_some,castStr_str,er_addS (by simp),bind1_some,castStr_str,er_addS (by simp),bind1_some,castStr_str]
    exact To3.some ⟨rfl,rfl,Kp.refl _ _⟩
theorem txt_step (lf k d:Nat) (hd:d ≤ 7) (IH:∀ p,Fm d p → Txt lf k d p) {x:X} (hx:Fm (d + 1) x):Txt lf (k + 1) (d + 1) x := by
  intro n pv ps h l I e ex pin hl
  subst e
  simp only [F12]
  refine To2.bind2 (box_to (cs := aC n pv) (ex_sc ex)) ?_
  rintro v h1 ⟨rfl,st,k1⟩
  refine To2.bind3 (raw12 lf k d hd IH hx st (ex.kp k1) (pin.kp k1)) ?_
  rintro x vs h2 ⟨rfl,rfl,k2⟩
  have hr := raw_len d (txt_len d) hx
  have hb := bnd_le (d := d) (by omega)
  simp only [decide_true,cB_true,castCons_cons,castInt_int,castStr_str,castNil_nil,txtB,wrT]
  by_cases c:lvP n < l
  · rw [decide_eq_true (by omega),cB_true,if_pos c,er_addS (by simp; omega),bind1_some,castStr_str,er_addS (by simp; omega),bind1_some,castStr_str]
    exact To2.some ⟨rfl,k1.tr k2⟩
  · rw [decide_eq_false (by omega),cB_false,if_neg c]
    exact To2.some ⟨rfl,k1.tr k2⟩
theorem txt_all (lf:Nat):∀ (d k:Nat) (x:X),d ≤ 8 → d ≤ k → Fm d x → Txt lf k d x
  | 0,k,x,_,_,h => by cases h
  | d + 1,0,x,_,hk,h => by omega
  | d + 1,k + 1,x,h8,hk,h => txt_step lf k d (by omega) (fun p hp => txt_all lf d k p (by omega) (by omega) hp) h
end Go.Proofs.YtjpjeilfmjdhcaaDoor.Eb
