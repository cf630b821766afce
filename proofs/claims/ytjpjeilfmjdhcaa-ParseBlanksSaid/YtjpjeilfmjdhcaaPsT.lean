/- Alike: two statements that stand for the same. No condition. -/
import Derived.Test.YtjpjeilfmjdhcaaPsS
namespace Go.Proofs.Ytjpjeilfmjdhcaa.Ps
open Go Go.Proofs.Ytjpjeilfmjdhcaa.E
open Go.Proofs.Ytjpjeilfmjdhcaa.Ln
open Go.Proofs.Ytjpjeilfmjdhcaa.Ex
open Go.Proofs.Ytjpjeilfmjdhcaa.Pr
open Go.Proofs.Ytjpjeilfmjdhcaa.Rd
open Go.Proofs.Ytjpjeilfmjdhcaa.St
set_option maxRecDepth 100000
set_option linter.unusedVariables false
set_option linter.unusedSimpArgs false
/-- All that a statement has fits. -/
structure GM (w D N:Nat) (m:Sm):Prop where
  rows:∀ r,r ∈ m.rows → ∀ x,x ∈ r → Fz w D x
  sets:∀ a,a ∈ m.sets → Fz w D a.e
  wh:∀ x,x ∈ m.wh → Fz w D x
  items:∀ a,a ∈ m.q.items → Fz w D a.e
  srcs:∀ a,a ∈ m.q.srcs → Fz w D a.on
  qwh:∀ x,x ∈ m.q.wh → Fz w D x
  gr:∀ x,x ∈ m.q.gr → Fz w D x
  od:∀ a,a ∈ m.q.od → Fz w D a.e
  n1:m.cols.length ≤ N
  n2:m.keys.length ≤ N
  n3:m.rows.length ≤ N
  n4:m.sets.length ≤ N
  n5:m.wh.length ≤ N
  n6:m.q.items.length ≤ N
  n7:m.q.srcs.length ≤ N
  n8:m.q.wh.length ≤ N
  n9:m.q.gr.length ≤ N
  n10:m.q.od.length ≤ N
  n11:∀ r,r ∈ m.rows → r.length ≤ N
theorem sameX {lf w D:Nat} (hw:w < lf) (hw2:w ≤ 4611686018427387904) (hD:D ≤ lf) {I J:Nat → Prop} {h:List Ob} {n:Nd} {pv qv:V} {ps:List X} (hz:Fz w D (.mk n ps)) (x1:Ex I h (.agg (aC n pv)) (.mk n ps)) (x2:Ex J h (.agg (aC n qv)) (.mk n ps)) :
    To2 (F18 lf (R18 lf lf) n.k n.op n.vk n.vn n.vs n.tb n.cl pv n.k n.op n.vk n.vn n.vs n.tb n.cl qv h) fun v h' => v = .bool true ∧ Kp h h' [] := by
  have hz':Fz w (lf + 1) (.mk n ps) := hz.mono (by omega)
  refine (same48 lf w hw hw2 lf _ _ hz' n n pv qv ps ps h rfl rfl x1 x2).mono ?_
  rintro v h' ⟨rfl,k⟩
  exact ⟨by rw [eqB_self _ _ hz'.dp],k⟩
theorem mk_inj {n n2:Nd} {ps ps2:List X} {x:X} (h1:x = .mk n ps) (h2:x = .mk n2 ps2):n2 = n ∧ ps2 = ps := by
  rw [h1] at h2
  injection h2 with a b
  exact ⟨a.symm,b.symm⟩
/-- Two expressions. -/
theorem memX {lf w D:Nat} (hw:w < lf) (hw2:w ≤ 4611686018427387904) (hD:D ≤ lf) {I J:Nat → Prop} {h:List Ob} {va vb:V} {x:X} (hz:Fz w D x) (t:rEx.R I h va x) (t':rEx.R J h vb x):To2 (W18 lf (R18 lf lf) [va,vb] h) fun v h' => v = .bool true ∧ Kp h h' [] := by
  obtain ⟨n,pv,ps,h1,rfl,x1⟩ := t
  obtain ⟨n2,pv2,ps2,h2,rfl,x2⟩ := t'
  obtain ⟨rfl,rfl⟩ := mk_inj h1 h2
  subst h1
  exact sameX hw hw2 hD hz x1 x2
theorem same20 {lf w D:Nat} (hw:w < lf) (hw2:w ≤ 4611686018427387904) (hD:D ≤ lf) {I J:Nat → Prop} {h:List Ob} {a b:V} {xs:List X} (La:LR 8 rEx I h a xs) (Lb:LR 8 rEx J h b xs) (hl:xs.length ≤ 1000000000) (hf:xs.length < lf) (hz:∀ x,x ∈ xs → Fz w D x):To2 (F20 lf a b h) fun v h' => v = .bool true ∧ Kp h h' [] := by
  simp only [F20]
  refine To2.bind2 (same17 La Lb hl hf (fun h va vb x hx t t' => show To2 (W18 lf (R18 lf lf) [va,vb] h) _ from memX hw hw2 hD (hz x hx) t t')) ?_
  rintro v h1 ⟨rfl,k1⟩
  simp only [castBool_bool]
  exact To2.some ⟨rfl,k1⟩
theorem mem22 {lf w D:Nat} (hw:w < lf) (hw2:w ≤ 4611686018427387904) (hD:D ≤ lf) {I J:Nat → Prop} {h:List Ob} {va vb:V} {x:Asg} (hz:Fz w D x.e) (t:rAs.R I h va x) (t':rAs.R J h vb x):To2 (W22 lf [va,vb] h) fun v h' => v = .bool true ∧ Kp h h' [] := by
  obtain ⟨n,pv,ps,h1,rfl,x1⟩ := t
  obtain ⟨n2,pv2,ps2,h2,rfl,x2⟩ := t'
  obtain ⟨rfl,rfl⟩ := mk_inj h1 h2
  rw [h1] at hz
  show To2 (F22 lf x.c n2.k n2.op n2.vk n2.vn n2.vs n2.tb n2.cl pv x.c n2.k n2.op n2.vk n2.vn n2.vs n2.tb n2.cl pv2 h) _
  simp only [F22]
  refine To2.bind2 (box_to (cs := aA x.c n2 pv) (by simp only [List.all_cons,List.all_nil,pvS x1]; rfl)) ?_
  rintro p h1' ⟨rfl,sp,k1⟩
  refine To2.bind2 (box_to (cs := aA x.c n2 pv2) (by simp only [List.all_cons,List.all_nil,pvS x2]; rfl)) ?_
  rintro r h2' ⟨rfl,sr,k2⟩
  have sp2 := sp.kp k2
  have k12 := k1.tr k2
  have c0:(x.c == x.c) = true := beq_self_eq_true _
  have l1:er (.loadN 8 (.c (.ptr h.length 0 (0 + 1)))) h2' = some (.agg (aC n2 pv)) := loadP sp2 (j := 0 + 1) (n := 8) (by simp) (by decide)
  have l2:er (.loadN 8 (.c (.ptr h1'.length 0 (0 + 1)))) h2' = some (.agg (aC n2 pv2)) := loadP sr (j := 0 + 1) (n := 8) (by simp) (by decide)
  simp only [sp2.faddr,sr.faddr,sp2.load1 (j := 0 + 0) (c := .str x.c) rfl,sr.load1 (j := 0 + 0) (c := .str x.c) rfl,bind1_some,castStr_str,c0,cB_true,l1,l2,castAgg_agg,castCons_cons,castInt_int,castNil_nil]
  refine To2.bind2 (sameX hw hw2 hD hz (x1.kp k12) (x2.kp k12)) ?_
  rintro v h3 ⟨rfl,k3⟩
  simp only [castBool_bool]
  exact To2.some ⟨rfl,k12.tr k3⟩
theorem mem35 {lf w D:Nat} (hw:w < lf) (hw2:w ≤ 4611686018427387904) (hD:D ≤ lf) {I J:Nat → Prop} {h:List Ob} {va vb:V} {x:It} (hz:Fz w D x.e) (t:rIt.R I h va x) (t':rIt.R J h vb x):To2 (W35 lf [va,vb] h) fun v h' => v = .bool true ∧ Kp h h' [] := by
  obtain ⟨n,pv,ps,h1,rfl,x1⟩ := t
  obtain ⟨n2,pv2,ps2,h2,rfl,x2⟩ := t'
  obtain ⟨rfl,rfl⟩ := mk_inj h1 h2
  rw [h1] at hz
  show To2 (F35 lf n2.k n2.op n2.vk n2.vn n2.vs n2.tb n2.cl pv x.n n2.k n2.op n2.vk n2.vn n2.vs n2.tb n2.cl pv2 x.n h) _
  simp only [F35]
  refine To2.bind2 (box_to (cs := aI n2 pv (.str x.n)) (by simp only [List.all_cons,List.all_nil,pvS x1]; rfl)) ?_
  rintro p h1' ⟨rfl,sp,k1⟩
  refine To2.bind2 (box_to (cs := aI n2 pv2 (.str x.n)) (by simp only [List.all_cons,List.all_nil,pvS x2]; rfl)) ?_
  rintro r h2' ⟨rfl,sr,k2⟩
  have sp2 := sp.kp k2
  have k12 := k1.tr k2
  have c0:(x.n == x.n) = true := beq_self_eq_true _
  have l1:er (.loadN 8 (.c (.ptr h.length 0 (0 + 0)))) h2' = some (.agg (aC n2 pv)) := loadP sp2 (j := 0 + 0) (n := 8) (by simp) (by decide)
  have l2:er (.loadN 8 (.c (.ptr h1'.length 0 (0 + 0)))) h2' = some (.agg (aC n2 pv2)) := loadP sr (j := 0 + 0) (n := 8) (by simp) (by decide)
  simp only [sp2.faddr,sr.faddr,sp2.load1 (j := 0 + 8) (c := .str x.n) rfl,sr.load1 (j := 0 + 8) (c := .str x.n) rfl,bind1_some,castStr_str,c0,cB_true,l1,l2,castAgg_agg,castCons_cons,castInt_int,castNil_nil]
  refine To2.bind2 (sameX hw hw2 hD hz (x1.kp k12) (x2.kp k12)) ?_
  rintro v h3 ⟨rfl,k3⟩
  simp only [castBool_bool]
  exact To2.some ⟨rfl,k12.tr k3⟩
theorem mem39 {lf w D:Nat} (hw:w < lf) (hw2:w ≤ 4611686018427387904) (hD:D ≤ lf) {I J:Nat → Prop} {h:List Ob} {va vb:V} {x:Od} (hz:Fz w D x.e) (t:rOd.R I h va x) (t':rOd.R J h vb x):To2 (W39 lf [va,vb] h) fun v h' => v = .bool true ∧ Kp h h' [] := by
  obtain ⟨n,pv,ps,h1,rfl,x1⟩ := t
  obtain ⟨n2,pv2,ps2,h2,rfl,x2⟩ := t'
  obtain ⟨rfl,rfl⟩ := mk_inj h1 h2
  rw [h1] at hz
  show To2 (F39 lf n2.k n2.op n2.vk n2.vn n2.vs n2.tb n2.cl pv x.d n2.k n2.op n2.vk n2.vn n2.vs n2.tb n2.cl pv2 x.d h) _
  simp only [F39]
  refine To2.bind2 (box_to (cs := aI n2 pv (.bool x.d)) (by simp only [List.all_cons,List.all_nil,pvS x1]; rfl)) ?_
  rintro p h1' ⟨rfl,sp,k1⟩
  refine To2.bind2 (box_to (cs := aI n2 pv2 (.bool x.d)) (by simp only [List.all_cons,List.all_nil,pvS x2]; rfl)) ?_
  rintro r h2' ⟨rfl,sr,k2⟩
  have sp2 := sp.kp k2
  have k12 := k1.tr k2
  have c0:(x.d == x.d) = true := beq_self_eq_true _
  have l1:er (.loadN 8 (.c (.ptr h.length 0 (0 + 0)))) h2' = some (.agg (aC n2 pv)) := loadP sp2 (j := 0 + 0) (n := 8) (by simp) (by decide)
  have l2:er (.loadN 8 (.c (.ptr h1'.length 0 (0 + 0)))) h2' = some (.agg (aC n2 pv2)) := loadP sr (j := 0 + 0) (n := 8) (by simp) (by decide)
  simp only [sp2.faddr,sr.faddr,sp2.load1 (j := 0 + 8) (c := .bool x.d) rfl,sr.load1 (j := 0 + 8) (c := .bool x.d) rfl,bind1_some,castBool_bool,c0,cB_true,l1,l2,castAgg_agg,castCons_cons,castInt_int,castStr_str,castNil_nil]
  refine To2.bind2 (sameX hw hw2 hD hz (x1.kp k12) (x2.kp k12)) ?_
  rintro v h3 ⟨rfl,k3⟩
  simp only [castBool_bool]
  exact To2.some ⟨rfl,k12.tr k3⟩
theorem mem37 {lf w D:Nat} (hw:w < lf) (hw2:w ≤ 4611686018427387904) (hD:D ≤ lf) {I J:Nat → Prop} {h:List Ob} {va vb:V} {x:Sr} (hz:Fz w D x.on) (t:rSr.R I h va x) (t':rSr.R J h vb x):To2 (W37 lf [va,vb] h) fun v h' => v = .bool true ∧ Kp h h' [] := by
  obtain ⟨n,pv,ps,h1,rfl,x1⟩ := t
  obtain ⟨n2,pv2,ps2,h2,rfl,x2⟩ := t'
  obtain ⟨rfl,rfl⟩ := mk_inj h1 h2
  rw [h1] at hz
  show To2 (F37 lf x.t x.n n2.k n2.op n2.vk n2.vn n2.vs n2.tb n2.cl pv x.t x.n n2.k n2.op n2.vk n2.vn n2.vs n2.tb n2.cl pv2 h) _
  simp only [F37]
  refine To2.bind2 (box_to (cs := aS x.t x.n n2 pv) (by simp only [List.all_cons,List.all_nil,pvS x1]; rfl)) ?_
  rintro p h1' ⟨rfl,sp,k1⟩
  refine To2.bind2 (box_to (cs := aS x.t x.n n2 pv2) (by simp only [List.all_cons,List.all_nil,pvS x2]; rfl)) ?_
  rintro r h2' ⟨rfl,sr,k2⟩
  have sp2 := sp.kp k2
  have k12 := k1.tr k2
  have c0:(x.t == x.t) = true := beq_self_eq_true _
  have c1:(x.n == x.n) = true := beq_self_eq_true _
  have l1:er (.loadN 8 (.c (.ptr h.length 0 (0 + 2)))) h2' = some (.agg (aC n2 pv)) := loadP sp2 (j := 0 + 2) (n := 8) (by simp) (by decide)
  have l2:er (.loadN 8 (.c (.ptr h1'.length 0 (0 + 2)))) h2' = some (.agg (aC n2 pv2)) := loadP sr (j := 0 + 2) (n := 8) (by simp) (by decide)
  simp only [sp2.faddr,sr.faddr,sp2.load1 (j := 0 + 0) (c := .str x.t) rfl,sr.load1 (j := 0 + 0) (c := .str x.t) rfl,sp2.load1 (j := 0 + 1) (c := .str x.n) rfl,sr.load1 (j := 0 + 1) (c := .str x.n) rfl,bind1_some,castStr_str,c0,c1,cB_true,l1,l2,castAgg_agg,castCons_cons,castInt_int,castNil_nil]
  refine To2.bind2 (sameX hw hw2 hD hz (x1.kp k12) (x2.kp k12)) ?_
  rintro v h3 ⟨rfl,k3⟩
  simp only [castBool_bool]
  exact To2.some ⟨rfl,k12.tr k3⟩
theorem same23 {lf w D N:Nat} (hw:w < lf) (hw2:w ≤ 4611686018427387904) (hD:D ≤ lf) (hN:N ≤ 1000000000) (hNl:N < lf) {I J:Nat → Prop} {h:List Ob} {m:Sm} (G:GM w D N m) {a b c d e a' b' c' d' e':V}
    (t1:LR 9 rIt I h a m.q.items) (t2:LR 10 rSr I h b m.q.srcs) (t3:LR 8 rEx I h c m.q.wh) (t4:LR 8 rEx I h d m.q.gr) (t5:LR 9 rOd I h e m.q.od) (u1:LR 9 rIt J h a' m.q.items) (u2:LR 10 rSr J h b' m.q.srcs) (u3:LR 8 rEx J h c' m.q.wh) (u4:LR 8 rEx J h d' m.q.gr) (u5:LR 9 rOd J h e' m.q.od) :
    To2 (F23 lf m.q.dis m.q.star a b c d e m.q.lim m.q.dis m.q.star a' b' c' d' e' m.q.lim h) fun v h' => v = .bool true ∧ Kp h h' [] := by
  have nk:∀ {K:Nat → Prop} (j:Nat),j ∈ ([]:List Nat) → ¬ K j := fun j hj => by cases hj
  simp only [F23]
  refine To2.bind2 (box_to (cs := aQ m.q.dis m.q.star a b c d e m.q.lim) (aQ_sc (LR.sc t1).2 (LR.sc t2).2 (LR.sc t3).2 (LR.sc t4).2 (LR.sc t5).2)) ?_
  rintro p h1 ⟨rfl,sp,k1⟩
  refine To2.bind2 (box_to (cs := aQ m.q.dis m.q.star a' b' c' d' e' m.q.lim) (aQ_sc (LR.sc u1).2 (LR.sc u2).2 (LR.sc u3).2 (LR.sc u4).2 (LR.sc u5).2)) ?_
  rintro r h2 ⟨rfl,sr,k2⟩
  have sp2 := sp.kp k2
  have k02 := k1.tr k2
  have c0:(m.q.dis == m.q.dis) = true := beq_self_eq_true _
  have c1:(m.q.star == m.q.star) = true := beq_self_eq_true _
  have c2:(m.q.lim == m.q.lim) = true := beq_self_eq_true _
  simp only [sp2.faddr,sr.faddr,sp2.load1 (j := 0 + 0) (c := .bool m.q.dis) rfl,sr.load1 (j := 0 + 0) (c := .bool m.q.dis) rfl,sp2.load1 (j := 0 + 1) (c := .bool m.q.star) rfl,sr.load1 (j := 0 + 1) (c := .bool m.q.star) rfl,sp2.load1 (j := 0 + 7) (c := .int .i64 m.q.lim) rfl,sr.load1 (j := 0 + 7) (c := .int .i64 m.q.lim) rfl,sp2.load1 (j := 0 + 2) (c := a) rfl,sr.load1 (j := 0 + 2) (c := a') rfl,bind1_some,castBool_bool,castInt_int,c0,c1,c2,cB_true]
  refine To2.bind2 (same34 ((rL 9 rIt).keep t1 k02 nk) ((rL 9 rIt).keep u1 k02 nk) (by have := G.n6; omega) (by have := G.n6; omega) (fun h va vb x hx t t' => show To2 (W35 lf [va,vb] h) _ from mem35 hw hw2 hD (G.items x hx) t t')) ?_
  rintro v h3 ⟨rfl,k3⟩
  have sp3 := sp2.kp k3
  have sr3 := sr.kp k3
  have k03 := k02.tr k3
  simp only [castBool_bool,cB_true,sp3.faddr,sr3.faddr,sp3.load1 (j := 0 + 3) (c := b) rfl,sr3.load1 (j := 0 + 3) (c := b') rfl,bind1_some]
  refine To2.bind2 (same36 ((rL 10 rSr).keep t2 k03 nk) ((rL 10 rSr).keep u2 k03 nk) (by have := G.n7; omega) (by have := G.n7; omega) (fun h va vb x hx t t' => show To2 (W37 lf [va,vb] h) _ from mem37 hw hw2 hD (G.srcs x hx) t t')) ?_
  rintro v h4 ⟨rfl,k4⟩
  have sp4 := sp3.kp k4
  have sr4 := sr3.kp k4
  have k04 := k03.tr k4
  simp only [castBool_bool,cB_true,sp4.faddr,sr4.faddr,sp4.load1 (j := 0 + 4) (c := c) rfl,sr4.load1 (j := 0 + 4) (c := c') rfl,bind1_some]
  refine To2.bind2 (same17 ((rL 8 rEx).keep t3 k04 nk) ((rL 8 rEx).keep u3 k04 nk) (by have := G.n8; omega) (by have := G.n8; omega) (fun h va vb x hx t t' => show To2 (W18 lf (R18 lf lf) [va,vb] h) _ from memX hw hw2 hD (G.qwh x hx) t t')) ?_
  rintro v h5 ⟨rfl,k5⟩
  have sp5 := sp4.kp k5
  have sr5 := sr4.kp k5
  have k05 := k04.tr k5
  simp only [castBool_bool,cB_true,sp5.faddr,sr5.faddr,sp5.load1 (j := 0 + 5) (c := d) rfl,sr5.load1 (j := 0 + 5) (c := d') rfl,bind1_some]
  refine To2.bind2 (same17 ((rL 8 rEx).keep t4 k05 nk) ((rL 8 rEx).keep u4 k05 nk) (by have := G.n9; omega) (by have := G.n9; omega) (fun h va vb x hx t t' => show To2 (W18 lf (R18 lf lf) [va,vb] h) _ from memX hw hw2 hD (G.gr x hx) t t')) ?_
  rintro v h6 ⟨rfl,k6⟩
  have sp6 := sp5.kp k6
  have sr6 := sr5.kp k6
  have k06 := k05.tr k6
  simp only [castBool_bool,cB_true,sp6.faddr,sr6.faddr,sp6.load1 (j := 0 + 6) (c := e) rfl,sr6.load1 (j := 0 + 6) (c := e') rfl,bind1_some]
  refine To2.bind2 (same38 ((rL 9 rOd).keep t5 k06 nk) ((rL 9 rOd).keep u5 k06 nk) (by have := G.n10; omega) (by have := G.n10; omega) (fun h va vb x hx t t' => show To2 (W39 lf [va,vb] h) _ from mem39 hw hw2 hD (G.od x hx) t t')) ?_
  rintro v h7 ⟨rfl,k7⟩
  simp only [castBool_bool]
  exact To2.some ⟨rfl,k06.tr k7⟩
theorem same6 {lf w D N:Nat} (hw:w < lf) (hw2:w ≤ 4611686018427387904) (hD:D ≤ lf) (hN:N ≤ 1000000000) (hNl:N < lf) {I J:Nat → Prop} {h:List Ob} {m:Sm} (G:GM w D N m) {va vb:V} (ta:rM.R I h va m) (tb:rM.R J h vb m) :
    To2 (F6 lf va vb h) fun v h' => v = .bool true ∧ Kp h h' [] := by
  have nk:∀ {K:Nat → Prop} (j:Nat),j ∈ ([]:List Nat) → ¬ K j := fun j hj => by cases hj
  obtain ⟨c1,c2,c3,c4,c5,a,b,c,d,e,rfl,u1,u2,u3,u4,u5,t1,t2,t3,t4,t5⟩ := ta
  obtain ⟨d1,d2,d3,d4,d5,a',b',c',d',e',rfl,w1,w2,w3,w4,w5,s1,s2,s3,s4,s5⟩ := tb
  simp only [F6]
  refine To2.bind2 (box_to (cs := aM m.k m.name m.on m.un c1 c2 c3 c4 c5 m.q.dis m.q.star a b c d e m.q.lim) (aM_sc (LR.sc u1).2 (LR.sc u2).2 (LR.sc u3).2 (LR.sc u4).2 (LR.sc u5).2 (LR.sc t1).2 (LR.sc t2).2 (LR.sc t3).2 (LR.sc t4).2 (LR.sc t5).2)) ?_
  rintro p h1 ⟨rfl,sp,k1⟩
  refine To2.bind2 (box_to (cs := aM m.k m.name m.on m.un d1 d2 d3 d4 d5 m.q.dis m.q.star a' b' c' d' e' m.q.lim) (aM_sc (LR.sc w1).2 (LR.sc w2).2 (LR.sc w3).2 (LR.sc w4).2 (LR.sc w5).2 (LR.sc s1).2 (LR.sc s2).2 (LR.sc s3).2 (LR.sc s4).2 (LR.sc s5).2)) ?_
  rintro r h2 ⟨rfl,sr,k2⟩
  have sp2 := sp.kp k2
  have k02 := k1.tr k2
  have z0:(m.k == m.k) = true := beq_self_eq_true _
  have z1:(m.name == m.name) = true := beq_self_eq_true _
  have z2:(m.on == m.on) = true := beq_self_eq_true _
  have z3:(m.un == m.un) = true := beq_self_eq_true _
  have f15 := same15 (lf := lf) ((rL 4 rCl).keep u1 k02 nk) ((rL 4 rCl).keep w1 k02 nk) (by have := G.n1; omega) (by have := G.n1; omega)
  have f16 := same16 (lf := lf) ((rL 1 rStr).keep u2 k02 nk) ((rL 1 rStr).keep w2 k02 nk) (by have := G.n2; omega) (by have := G.n2; omega)
  simp only [sp2.faddr,sr.faddr,sp2.load1 (j := 0 + 0) (c := .int .i64 m.k) rfl,sr.load1 (j := 0 + 0) (c := .int .i64 m.k) rfl,sp2.load1 (j := 0 + 1) (c := .str m.name) rfl,sr.load1 (j := 0 + 1) (c := .str m.name) rfl,sp2.load1 (j := 0 + 2) (c := .str m.on) rfl,sr.load1 (j := 0 + 2) (c := .str m.on) rfl,sp2.load1 (j := 0 + 3) (c := .bool m.un) rfl,sr.load1 (j := 0 + 3) (c := .bool m.un) rfl,
    sp2.load1 (j := 0 + 4) (c := c1) rfl,sr.load1 (j := 0 + 4) (c := d1) rfl,sp2.load1 (j := 0 + 5) (c := c2) rfl,sr.load1 (j := 0 + 5) (c := d2) rfl,sp2.load1 (j := 0 + 8) (c := c5) rfl,sr.load1 (j := 0 + 8) (c := d5) rfl,bind1_some,castInt_int,castStr_str,castBool_bool,z0,z1,z2,z3,cB_true,f15,f16,bind2_some]
  refine To2.bind2 (same17 ((rL 8 rEx).keep u5 k02 nk) ((rL 8 rEx).keep w5 k02 nk) (by have := G.n5; omega) (by have := G.n5; omega) (fun h va vb x hx t t' => show To2 (W18 lf (R18 lf lf) [va,vb] h) _ from memX hw hw2 hD (G.wh x hx) t t')) ?_
  rintro v h3 ⟨rfl,k3⟩
  have sp3 := sp2.kp k3
  have sr3 := sr.kp k3
  have k03 := k02.tr k3
  simp only [castBool_bool,cB_true,sp3.faddr,sr3.faddr,sp3.load1 (j := 0 + 6) (c := c3) rfl,sr3.load1 (j := 0 + 6) (c := d3) rfl,bind1_some]
  refine To2.bind2 (same19 ((rL 1 (rL 8 rEx)).keep u3 k03 nk) ((rL 1 (rL 8 rEx)).keep w3 k03 nk) (by have := G.n3; omega) (by have := G.n3; omega) (fun h va vb x hx t t' => show To2 (F20 lf va vb h) _ from same20 hw hw2 hD t t' (by have := G.n11 x hx; omega) (by have := G.n11 x hx; omega) (G.rows x hx))) ?_
  rintro v h4 ⟨rfl,k4⟩
  have sp4 := sp3.kp k4
  have sr4 := sr3.kp k4
  have k04 := k03.tr k4
  simp only [castBool_bool,cB_true,sp4.faddr,sr4.faddr,sp4.load1 (j := 0 + 7) (c := c4) rfl,sr4.load1 (j := 0 + 7) (c := d4) rfl,bind1_some]
  refine To2.bind2 (same21 ((rL 9 rAs).keep u4 k04 nk) ((rL 9 rAs).keep w4 k04 nk) (by have := G.n4; omega) (by have := G.n4; omega) (fun h va vb x hx t t' => show To2 (W22 lf [va,vb] h) _ from mem22 hw hw2 hD (G.sets x hx) t t')) ?_
  rintro v h5 ⟨rfl,k5⟩
  have sp5 := sp4.kp k5
  have sr5 := sr4.kp k5
  have k05 := k04.tr k5
  have l1:er (.loadN 8 (.c (.ptr h.length 0 (0 + 9)))) h5 = some (.agg (aQ m.q.dis m.q.star a b c d e m.q.lim)) := loadP sp5 (j := 0 + 9) (n := 8) (by simp) (by decide)
  have l2:er (.loadN 8 (.c (.ptr h1.length 0 (0 + 9)))) h5 = some (.agg (aQ m.q.dis m.q.star a' b' c' d' e' m.q.lim)) := loadP sr5 (j := 0 + 9) (n := 8) (by simp) (by decide)
  simp only [castBool_bool,cB_true,sp5.faddr,sr5.faddr,l1,l2,bind1_some,castAgg_agg,castCons_cons,castInt_int,castNil_nil]
  refine To2.bind2 (same23 hw hw2 hD hN hNl G ((rL 9 rIt).keep t1 k05 nk) ((rL 10 rSr).keep t2 k05 nk) ((rL 8 rEx).keep t3 k05 nk) ((rL 8 rEx).keep t4 k05 nk) ((rL 9 rOd).keep t5 k05 nk) ((rL 9 rIt).keep s1 k05 nk) ((rL 10 rSr).keep s2 k05 nk) ((rL 8 rEx).keep s3 k05 nk) ((rL 8 rEx).keep s4 k05 nk) ((rL 9 rOd).keep s5 k05 nk)) ?_
  rintro v h6 ⟨rfl,k6⟩
  simp only [castBool_bool]
  exact To2.some ⟨rfl,k05.tr k6⟩
end Go.Proofs.Ytjpjeilfmjdhcaa.Ps
