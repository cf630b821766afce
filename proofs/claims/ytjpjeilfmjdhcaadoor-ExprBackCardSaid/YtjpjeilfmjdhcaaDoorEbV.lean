/- Expressions: how many parts; one written as the other package has it. No condition. -/
import Derived.Test.YtjpjeilfmjdhcaaDoorExT
import Derived.Test.YtjpjeilfmjdhcaaDoorEbs
namespace Go.Proofs.YtjpjeilfmjdhcaaDoor.Eb
open Go Go.Proofs.YtjpjeilfmjdhcaaDoor.E
open Go.Proofs.YtjpjeilfmjdhcaaDoor.Ln
open Go.Proofs.YtjpjeilfmjdhcaaDoor.Ex
set_option maxRecDepth 100000
set_option linter.unusedVariables false
set_option linter.unusedSimpArgs false
abbrev Mem (lf k:Nat) (I:Nat → Prop) (x:X):Prop := ∀ (n:Nd) (pv:V) (ps:List X) (h:List Ob) (most:Int),x = .mk n ps → Ex I h (.agg (aC n pv)) x → 0 ≤ most → most ≤ 1000000 →
  To2 (F10 lf (R10 lf k) n.k n.op n.vk n.vn n.vs n.tb n.cl pv most h) fun v h' => (∃ r:Int,v = .int .i64 r ∧ 1 ≤ r ∧ r ≤ most + 1) ∧ Kp h h' []
theorem loop75 (lf k:Nat) {I:Nat → Prop} {h0:List Ob} {ia:Nat} {n:Nd} {pv:V} {es:List V} {ps:List X} {most:Int} (h1:0 ≤ most) (h2:most ≤ 1000000) (sa:St h0 ia (aC n pv)) (s:Sl 8 h0 pv es) (hl:es.length = ps.length) (hp:∀ (i:Nat) (e:V) (p:X),es[i]? = some e → ps[i]? = some p → Ex I h0 e p)
    (hw:ps.length ≤ 4611686018427387904) (IH:∀ p,p ∈ ps → Mem lf k I p) :
    ∀ (r i f:Nat) (h:List Ob) (m:Int),ps.length = i + r → r < f → Kp h0 h [] → 1 ≤ m → m ≤ most + 1 → To3 (L10_0 lf (R10 lf (k + 1)) f most (.ptr ia 0 0) m ps.length i h) fun x vs h' => Kp h0 h' [] ∧ (x = .exit 0 ∨ x = .ret) ∧ ∃ r:Int,vs = [.int .i64 r] ∧ 1 ≤ r ∧ r ≤ most + 1 := by
  intro r
  induction r with
  | zero =>
    intro i f h m hm hf kp m1 m2
    obtain ⟨f,rfl⟩:∃ g,f = g + 1 := ⟨f - 1,by omega⟩
    have hd:decide ((i:Int) < (ps.length:Int)) = false := decide_eq_false (by omega)
    simp only [L10_0,B10_0,hd,cB_false]
    exact To3.some ⟨kp,.inl rfl,m,rfl,m1,m2⟩
  | succ r ih =>
    intro i f h m hm hf kp m1 m2
    obtain ⟨f,rfl⟩:∃ g,f = g + 1 := ⟨f - 1,by omega⟩
    have hlt:i < ps.length := by omega
    have hdd:decide ((i:Int) < (ps.length:Int)) = true := decide_eq_true (by omega)
    have w1:IntKind.i64.wrap ((i:Int) + 1) = ((i + 1:Nat):Int) := by rw [wrap_i64 (by omega) (by omega)]; omega
    by_cases c:m > most
    · simp only [L10_0,B10_0,hdd,cB_true,decide_eq_true c]
      exact To3.some ⟨kp,.inr rfl,m,rfl,m1,m2⟩
    · have w2:IntKind.i64.wrap (most - m) = most - m := wrap_i64 (by omega) (by omega)
      obtain ⟨a,n1,pv1,ps1,e1,a1,a2,x1,c1⟩ := Ex.at (s.kp kp) hl (fun i e p g1 g2 => (hp i e p g1 g2).kp kp) hlt
      have fa := (sa.kp kp).faddr 7 0 0
      have la:er (.load1 (.c (.ptr ia 0 7))) h = some pv := (sa.kp kp).load1 rfl
      have erc:∀ h5 q,R10 lf (k + 1) 10 [.agg (aC n1 pv1),.int .i64 q] h5 = F10 lf (R10 lf k) n1.k n1.op n1.vk n1.vn n1.vs n1.tb n1.cl pv1 q h5 := fun h5 q => rfl
      simp only [Nat.zero_add] at fa
      simp only [L10_0,B10_0,hdd,cB_true,decide_eq_false c,cB_false,fa,la,a1,a2,bind1_some,castAgg_agg,castCons_cons,castInt_int,castStr_str,castNil_nil,w1,w2,erc]
      refine To3.bind2 (IH ps[i] (List.getElem_mem hlt) n1 pv1 ps1 h (most - m) e1 (e1 ▸ x1) (by omega) (by omega)) ?_
      rintro v h5 ⟨⟨q,rfl,q1,q2⟩,k5⟩
      have w3:IntKind.i64.wrap (m + q) = m + q := wrap_i64 (by omega) (by omega)
      simp only [castInt_int,w3]
      exact ih (i + 1) f h5 (m + q) (by omega) (by omega) (kp.tr k5) (by omega) (by omega)
theorem mem_all (lf w:Nat) (hw:w < lf) (hw2:w ≤ 4611686018427387904) {I:Nat → Prop}:∀ (k:Nat) (x:X),Fz w (k + 1) x → Mem lf k I x := by
  intro k
  induction k with
  | zero =>
    intro x hx n pv ps h most e ex h1 h2
    subst e
    have hps:ps = [] := by
      cases ps with
      | nil => rfl
      | cons p t => exact absurd (hx.2 p (by simp)) (by simp [Fz])
    subst hps
    obtain ⟨es,s,hi,hl,hp⟩ := ex.inv
    simp only [F10]
    refine To2.bind2 (box_to (cs := aC n pv) (aC_sc s)) ?_
    rintro v h3 ⟨rfl,st,k1⟩
    have fa := st.faddr 7 0 0
    have la:er (.load1 (.c (.ptr h.length 0 7))) h3 = some pv := st.load1 rfl
    have ll := er_lenL (s.kp k1)
    rw [hl] at ll
    simp only [Nat.zero_add] at fa
    obtain ⟨g,rfl⟩:∃ g,lf = g + 1 := ⟨lf - 1,by omega⟩
    have eL:∀ hh,L10_0 (g + 1) (R10 (g + 1) 0) (g + 1) most (.ptr h.length 0 0) 1 (([]:List X).length:Int) 0 hh = some (.exit 0,[.int .i64 1],hh) := fun hh => rfl
    simp only [fa,la,ll,bind1_some,castInt_int,eL,bind3_some,decide_true,cB_true,castCons_cons,castNil_nil]
    exact To2.some ⟨⟨1,rfl,by omega,by omega⟩,k1⟩
  | succ k ih =>
    intro x hx n pv ps h most e ex h1 h2
    subst e
    obtain ⟨es,s,hi,hl,hp⟩ := ex.inv
    simp only [F10]
    refine To2.bind2 (box_to (cs := aC n pv) (aC_sc s)) ?_
    rintro v h3 ⟨rfl,st,k1⟩
    have fa := st.faddr 7 0 0
    have la:er (.load1 (.c (.ptr h.length 0 7))) h3 = some pv := st.load1 rfl
    have ll := er_lenL (s.kp k1)
    rw [hl] at ll
    simp only [Nat.zero_add] at fa
    have hpw:ps.length ≤ w := hx.1
    have hL := loop75 lf k h1 h2 st (s.kp k1) hl (fun i e p g1 g2 => (hp i e p g1 g2).kp k1) (by omega) (fun p hpp => ih p (hx.2 p hpp)) ps.length 0 lf h3 1 (by omega) (by omega) (Kp.refl _ _) (by omega) (by omega)
    have z:((0:Nat):Int) = 0 := rfl
    rw [z] at hL
    simp only [fa,la,ll,bind1_some,castInt_int]
    refine To2.bind3 hL ?_
    rintro x vs h4 ⟨k4,hx2,r,rfl,r1,r2⟩
    rcases hx2 with rfl | rfl
    · simp only [decide_true,cB_true,castCons_cons,castInt_int,castNil_nil]
      exact To2.some ⟨⟨r,rfl,r1,r2⟩,k1.tr k4⟩
    · simp only [show decide (EX.ret = EX.exit 0) = false from rfl,cB_false,decide_true,cB_true,castCons_cons,castInt_int,castNil_nil]
      exact To2.some ⟨⟨r,rfl,r1,r2⟩,k1.tr k4⟩
theorem small44 {lf w:Nat} (hw:w < lf) (hw2:w ≤ 4611686018427387904) {I:Nat → Prop} {k:Nat} (hk:k ≤ lf) {n:Nd} {pv:V} {ps:List X} {h:List Ob} (hx:Fz w k (.mk n ps)) (ex:Ex I h (.agg (aC n pv)) (.mk n ps)) :
    To2 (F5 lf n.k n.op n.vk n.vn n.vs n.tb n.cl pv h) fun v h' => (∃ b,v = .bool b) ∧ Kp h h' [] := by
  obtain ⟨es,s,hi,hl,hp⟩ := ex.inv
  simp only [F5]
  refine To2.bind2 (box_to (cs := aC n pv) (aC_sc s)) ?_
  rintro v h1 ⟨rfl,st1,k1⟩
  have ll:er (.loadN 8 (.c (.ptr h.length 0 0))) h1 = some (.agg (aC n pv)) := st1.loadN' rfl
  simp only [ll,bind1_some,castAgg_agg,castCons_cons,castInt_int,castStr_str,castNil_nil]
  refine To2.bind2 (mem_all lf w hw hw2 (I := I) lf _ (hx.mono (by omega)) n pv ps h1 300 rfl (ex.kp k1) (by omega) (by omega)) ?_
  rintro v h2 ⟨⟨r,rfl,-,-⟩,k2⟩
  rw [castInt_int]
  exact To2.some ⟨⟨_,rfl⟩,k1.tr k2⟩
/-! ### As the other package has it -/
abbrev Th (lf k:Nat) (I:Nat → Prop) (x:X):Prop := ∀ (n:Nd) (pv:V) (ps:List X) (h:List Ob),x = .mk n ps → Ex I h (.agg (aC n pv)) x →
  To2 (F7 lf (R7 lf k) n.k n.op n.vk n.vn n.vs n.tb n.cl pv h) fun v h' => (∃ qv,v = .agg (aC n qv) ∧ Ex (fun j => h.length ≤ j) h' (.agg (aC n qv)) x) ∧ Kp h h' []
/-- What is there of the parts. -/
structure Part (h0 h:List Ob) (io:Nat) (n:Nd) (qv:V) (fs:List V) (ps:List X) (i:Nat):Prop where
  st:St h io (aC n qv)
  sl:Sl 8 h qv fs
  ap:Ap qv
  ids:∀ j,j ∈ idsOf qv → h0.length ≤ j ∧ j ≠ io
  len:fs.length = i
  el:∀ (j:Nat) (e:V) (p:X),fs[j]? = some e → ps[j]? = some p → Ex (fun x => h0.length ≤ x ∧ x ∉ idsOf qv ∧ x ≠ io) h e p
theorem ApSc {v:V} (a:Ap v):v.cells = [v] ∧ v.scalar = true := by
  rcases a with rfl | rfl | ⟨a,b,c,rfl⟩ <;> exact ⟨rfl,rfl⟩
theorem loop45 (lf k:Nat) {I:Nat → Prop} {h0 h1:List Ob} {ie io:Nat} {n:Nd} {pv:V} {es:List V} {ps:List X} (hio:h0.length ≤ io) (k01:Kp h0 h1 []) (he1:ie < io) (sa:St h1 ie (aC n pv)) (s:Sl 8 h1 pv es) (hl:es.length = ps.length) (hp:∀ (i:Nat) (e:V) (p:X),es[i]? = some e → ps[i]? = some p → Ex I h1 e p)
    (hw:ps.length * 112 ≤ 140737488355328) (IH:∀ p,p ∈ ps → Th lf k I p) (hI:io = h1.length) :
    ∀ (r i f:Nat) (h:List Ob) (qv:V) (fs:List V),ps.length = i + r → r < f → Kp h1 h [] → Part h1 h io n qv fs ps i → To3 (L7_0 lf (R7 lf (k + 1)) f (.ptr ie 0 0) (.ptr io 0 0) ps.length i h) fun x vs h' => Kp h1 h' [] ∧ x = .exit 0 ∧ vs = [] ∧ ∃ qv' fs',Part h1 h' io n qv' fs' ps ps.length := by
  intro r
  induction r with
  | zero =>
    intro i f h qv fs hm hf kp pt
    obtain ⟨f,rfl⟩:∃ g,f = g + 1 := ⟨f - 1,by omega⟩
    have hd:decide ((i:Int) < (ps.length:Int)) = false := decide_eq_false (by omega)
    have hi:i = ps.length := by omega
    subst hi
    simp only [L7_0,B7_0,hd,cB_false]
    exact To3.some ⟨kp,rfl,rfl,qv,fs,pt⟩
  | succ r ih =>
    intro i f h qv fs hm hf kp pt
    obtain ⟨f,rfl⟩:∃ g,f = g + 1 := ⟨f - 1,by omega⟩
    have hlt:i < ps.length := by omega
    have hdd:decide ((i:Int) < (ps.length:Int)) = true := decide_eq_true (by omega)
    have w1:IntKind.i64.wrap ((i:Int) + 1) = ((i + 1:Nat):Int) := by rw [wrap_i64 (by omega) (by omega)]; omega
    obtain ⟨a,n1,pv1,ps1,e1,a1,a2,x1,c1⟩ := Ex.at (s.kp kp) hl (fun i e p g1 g2 => (hp i e p g1 g2).kp kp) hlt
    have fo := pt.st.faddr 7 0 0
    have lo:er (.load1 (.c (.ptr io 0 7))) h = some qv := pt.st.load1 rfl
    have fe := (sa.kp kp).faddr 7 0 0
    have le:er (.load1 (.c (.ptr ie 0 7))) h = some pv := (sa.kp kp).load1 rfl
    have erc:∀ h5,R7 lf (k + 1) 7 [.agg (aC n1 pv1)] h5 = F7 lf (R7 lf k) n1.k n1.op n1.vk n1.vn n1.vs n1.tb n1.cl pv1 h5 := fun h5 => rfl
    simp only [Nat.zero_add] at fo fe
    simp only [L7_0,B7_0,hdd,cB_true,fo,lo,fe,le,a1,a2,bind1_some,castAgg_agg,castCons_cons,castInt_int,castStr_str,castNil_nil,w1,erc]
    refine To3.bind2 (IH ps[i] (List.getElem_mem hlt) n1 pv1 ps1 h e1 (e1 ▸ x1)) ?_
    rintro v h2 ⟨⟨qv1,rfl,y1⟩,k2⟩
    have st2 := pt.st.kp k2
    have fo2 := st2.faddr 7 0 0
    have lo2:er (.load1 (.c (.ptr io 0 7))) h2 = some qv := st2.load1 rfl
    simp only [Nat.zero_add] at fo2
    simp only [castAgg_agg,castCons_cons,castInt_int,castStr_str,castNil_nil]
    rw [reP_pos _ lo2,reP_pos _ fo2]
    have c2:qv1.scalar = true := by
      have y2:Ex (fun j => h.length ≤ j) h2 (.agg (aC n1 qv1)) (.mk n1 ps1) := e1 ▸ y1
      obtain ⟨gs,s2,-,-,-⟩ := y2.inv
      exact (scN s2).2
    refine To3.bind2 (bslice_to (ps := [(0,.agg (aC n1 qv1))]) (es := [.agg (aC n1 qv1)]) (by decide) (by simp [plainV,V.cells,c2]; exact ⟨rfl,rfl,rfl,rfl,rfl,rfl,rfl⟩) rfl rfl) ?_
    rintro x h3 ⟨-,-,sx,-,k3,-⟩
    have st3 := st2.kp k3
    have fo3 := st3.faddr 7 0 0
    have lo3:er (.load1 (.c (.ptr io 0 7))) h3 = some qv := st3.load1 rfl
    simp only [Nat.zero_add] at fo3
    rw [reP_pos _ lo3,reP_pos _ fo3]
    have hr:roomMax = 140737488355328 := rfl
    have k23 := k2.tr k3
    have hlen := pt.len
    refine To3.bind2 (app_to (bytes := 112) (pt.sl.kp k23) pt.ap sx.c (by rw [hlen,hr]; simp only [List.length_cons,List.length_nil]; omega)) ?_
    rintro qv' h4 ⟨s4,ap4,k4,f4⟩
    have hioq:io ∉ idsOf qv := fun z => (pt.ids io z).2 rfl
    have st4 := st3.keep k4 hioq
    have fo4 := st4.faddr 7 0 0
    simp only [Nat.zero_add] at fo4
    simp only [fo4,bind1_some]
    refine To3.bind2 (st4.store1 (j := 7) (x := qv') (by simp) (ApSc ap4)) ?_
    rintro u h5 ⟨st5,k5⟩
    have hl2 := k2.len
    have hl3 := k3.len
    have hlio := pt.st.lt
    have hl1 := kp.len
    have ids':∀ j,j ∈ idsOf qv' → h1.length ≤ j ∧ j ≠ io := fun j hj => (f4 j hj).elim (pt.ids j) (fun z => ⟨by omega,by omega⟩)
    have hne:∀ j,j ∈ idsOf qv' → j ∉ [io] := fun j hj z => (ids' j hj).2 (by simpa using z)
    have kq:Kp h1 h4 [] := (kp.tr k23).trans k4 (fun j hj => by cases hj) (fun j hj hlt => by have := (pt.ids j hj).1; omega)
    have kp5:Kp h1 h5 [] := kq.trans k5 (fun j hj => by cases hj) (fun j hj hlt => by simp at hj; omega)
    refine ih (i + 1) f h5 qv' (fs ++ [.agg (aC n1 qv1)]) (by omega) (by omega) kp5 ⟨st5,s4.keep k5 hne,ap4,ids',by simp [hlen],?_⟩
    intro j e p g1 g2
    by_cases hj:j < fs.length
    · rw [List.getElem?_append_left hj] at g1
      have y := (pt.el j e p g1 g2).kp k23
      have y':Ex (fun x => h1.length ≤ x ∧ x ∉ idsOf qv' ∧ x ≠ io ∧ x ∉ idsOf qv) h3 e p := y.mono (fun x hx hq => ⟨hq.1,fun z => (f4 x z).elim hq.2.1 (fun w => by omega),hq.2.2,hq.2.1⟩)
      exact ((y'.keep k4 (fun x hx q => q.2.2.2 hx)).keep k5 (fun x hx q => q.2.2.1 (by simpa using hx))).mono (fun x _ q => ⟨q.1,q.2.1,q.2.2.1⟩)
    · rw [List.getElem?_append_right (by omega)] at g1
      have hj2:j = i := by
        have := (List.getElem?_eq_some_iff.1 g1).1
        simp at this; omega
      subst hj2
      have g1':e = .agg (aC n1 qv1) := by
        rw [hlen,Nat.sub_self] at g1
        simpa using g1.symm
      have g2':p = ps[j] := by
        rw [List.getElem?_eq_getElem hlt] at g2
        injection g2 with g2; exact g2.symm
      subst g1'; subst g2'
      have y := y1.kp k3
      have y':Ex (fun x => h1.length ≤ x ∧ x ∉ idsOf qv' ∧ x ≠ io ∧ x ∉ idsOf qv) h3 (.agg (aC n1 qv1)) ps[j] := y.mono (fun x hx hq => ⟨by omega,fun z => (f4 x z).elim (fun w => by have := pt.sl.lt w; omega) (fun w => by omega),by omega,fun w => by have := pt.sl.lt w; omega⟩)
      exact ((y'.keep k4 (fun x hx q => q.2.2.2 hx)).keep k5 (fun x hx q => q.2.2.1 (by simpa using hx))).mono (fun x _ q => ⟨q.1,q.2.1,q.2.2.1⟩)
theorem th_step (lf k w:Nat) (hw:w < lf) (hw2:w * 112 ≤ 140737488355328) {I:Nat → Prop} {x:X} (hx:Fz w (k + 1) x) (IH:∀ j,k = j + 1 → ∀ n ps,x = .mk n ps → ∀ p,p ∈ ps → Th lf j I p):Th lf k I x := by
  intro n pv ps h e ex
  subst e
  obtain ⟨es,s,hi,hl,hp⟩ := ex.inv
  have hpw:ps.length ≤ w := hx.1
  simp only [F7]
  refine To2.bind2 (box_to (cs := aC n pv) (aC_sc s)) ?_
  rintro v h1 ⟨rfl,st1,k1⟩
  refine To2.bind2 (alloc_to (cs := zC) rfl) ?_
  rintro v h2 ⟨rfl,sr2,k2⟩
  have st2 := st1.kp k2
  have fa := fun o => st2.faddr o 0 0
  have a0:er (.load1 (.c (.ptr h.length 0 0))) h2 = some (.int .i64 n.k) := st2.load1 rfl
  have a1:er (.load1 (.c (.ptr h.length 0 1))) h2 = some (.str n.op) := st2.load1 rfl
  have a2:er (.loadN 3 (.c (.ptr h.length 0 2))) h2 = some (.agg [.int .i64 n.vk,.int .i64 n.vn,.str n.vs]) := loadP st2 (by simp) (by decide)
  have a5:er (.load1 (.c (.ptr h.length 0 5))) h2 = some (.str n.tb) := st2.load1 rfl
  have a6:er (.load1 (.c (.ptr h.length 0 6))) h2 = some (.str n.cl) := st2.load1 rfl
  have eb:er (.build [(.int .i64 0),(.str []),(.int .i64 0),(.int .i64 0),(.str []),(.str []),(.str []),.nils] [(0,(1,(.c (.int .i64 n.k)))),(1,(1,(.c (.str n.op)))),(2,(3,(.c (.agg [(.int .i64 n.vk),(.int .i64 n.vn),(.str n.vs)])))),(5,(1,(.c (.str n.tb)))),(6,(1,(.c (.str n.cl))))]) h2 = some (.agg (aC n .nils)) := rfl
  simp only [Nat.zero_add] at fa
  simp only [fa,a0,a1,a2,a5,a6,eb,bind1_some,castAgg_agg,castCons_cons,castInt_int,castStr_str,castNil_nil]
  refine To2.bind2 (alloc_to (cs := zC) rfl) ?_
  rintro v h3 ⟨rfl,so3,k3⟩
  refine To2.bind2 (so3.storeN (ds := aC n .nils) rfl (by simp) rfl rfl) ?_
  rintro u h4 ⟨so4,k4⟩
  have l12 := k1.len
  have hlt1 := st1.lt
  have hlt2 := sr2.lt
  have hlt3 := so3.lt
  have k24:Kp h2 h4 [] := k3.trans k4 (fun j hj => by cases hj) (fun j hj hl => by simp at hj; omega)
  have st4 := st2.kp k24
  have fa7 := st4.faddr 7 0 0
  have a7:er (.load1 (.c (.ptr h.length 0 7))) h4 = some pv := st4.load1 rfl
  have k14:Kp h h4 [] := (k1.tr k2).tr k24
  have ll := er_lenL (s.kp k14)
  rw [hl] at ll
  simp only [Nat.zero_add] at fa7
  simp only [fa7,a7,ll,bind1_some,castInt_int]
  have p0:Part h2 h4 h2.length n .nils [] ps 0 := ⟨so4,Sl.nils _ _,Ap.nils,(fun j hj => by cases hj),rfl,fun j e p g1 _ => by cases g1⟩
  have k12 := k1.tr k2
  have hL:To3 (L7_0 lf (R7 lf k) lf (.ptr h.length 0 0) (.ptr h2.length 0 0) ps.length (0:Int) h4) fun x vs h' => Kp h2 h' [] ∧ x = .exit 0 ∧ vs = [] ∧ ∃ qv' fs',Part h2 h' h2.length n qv' fs' ps ps.length := by
    cases k with
    | zero =>
      have hps:ps = [] := by
        cases ps with
        | nil => rfl
        | cons p t => exact absurd (hx.2 p (by simp)) (by simp [Fz])
      subst hps
      obtain ⟨g,rfl⟩:∃ g,lf = g + 1 := ⟨lf - 1,by omega⟩
      exact ⟨.exit 0,[],h4,rfl,k24,rfl,rfl,_,_,p0⟩
    | succ j => exact loop45 lf j (h0 := h2) (Nat.le_refl _) (Kp.refl _ _) (by omega) st2 (s.kp k12) hl (fun i e p g1 g2 => (hp i e p g1 g2).kp k12) (by omega) (fun p hpp => IH j rfl n ps rfl p hpp) rfl ps.length 0 lf h4 .nils [] (by omega) (by omega) k24 p0
  refine To2.bind3 hL ?_
  rintro x vs h5 ⟨k5,rfl,rfl,qv,fs,pt⟩
  have sr5 := sr2.kp k5
  have lo:er (.loadN 8 (.c (.ptr h2.length 0 0))) h5 = some (.agg (aC n qv)) := pt.st.loadN' rfl
  simp only [decide_true,cB_true,castNil_nil,lo,bind1_some,castAgg_agg,castCons_cons,castInt_int,castStr_str]
  refine To2.bind2 (sr5.storeN (ds := aC n qv) rfl (by simp) (aC_sc pt.sl) rfl) ?_
  rintro u h6 ⟨sr6,k6⟩
  have lr:evLoadN h6 8 (.ptr h1.length 0 0) = some (.agg (aC n qv)) := sr6.loadN
  have hq:∀ j,j ∈ idsOf qv → h2.length ≤ j := fun j hj => (pt.ids j hj).1
  rw [lr,bind1_some]
  refine To2.some ⟨⟨qv,rfl,?_⟩,(k12.tr k5).trans k6 (fun j hj => by cases hj) (fun j hj hlt => by simp at hj; omega)⟩
  refine .mk (pt.sl.keep k6 (fun j hj z => by have := hq j hj; simp at z; omega)) (fun j hj => by have := hq j hj; omega) pt.len ?_
  intro i e p g1 g2
  exact ((pt.el i e p g1 g2).keep k6 (fun j hj q => by simp at hj; have := q.1; omega)).mono (fun j _ q => by have := q.1; omega)
theorem th_all (lf w:Nat) (hw:w < lf) (hw2:w * 112 ≤ 140737488355328) {I:Nat → Prop}:∀ (k:Nat) (x:X),Fz w (k + 1) x → Th lf k I x := by
  intro k
  induction k with
  | zero => intro x hx; exact th_step lf 0 w hw hw2 hx (fun j hj => by omega)
  | succ k ih =>
    intro x hx
    refine th_step lf (k + 1) w hw hw2 hx (fun j hj n ps e p hp => ?_)
    obtain rfl:k = j := by omega
    subst e
    exact ih p (hx.2 p hp)
end Go.Proofs.YtjpjeilfmjdhcaaDoor.Eb
