/- Expressions: what stands for one; both functions that say whether two are alike. No condition. -/
import Derived.Test.YtjpjeilfmjdhcaaDoorExs
import Derived.Test.YtjpjeilfmjdhcaaDoorL4
namespace Go.Proofs.YtjpjeilfmjdhcaaDoor.Ex
open Go Go.Proofs.YtjpjeilfmjdhcaaDoor.E
open Go.Proofs.YtjpjeilfmjdhcaaDoor.Ln
set_option maxRecDepth 100000
set_option linter.unusedVariables false
set_option linter.unusedSimpArgs false
/-- A node, but for its parts. -/
structure Nd where
  k:Int
  op:List UInt8
  vk:Int
  vn:Int
  vs:List UInt8
  tb:List UInt8
  cl:List UInt8
deriving DecidableEq
inductive X where
  | mk (n:Nd) (ps:List X)
abbrev aC (n:Nd) (pv:V):List V := [.int .i64 n.k,.str n.op,.int .i64 n.vk,.int .i64 n.vn,.str n.vs,.str n.tb,.str n.cl,pv]
/-- 'v' stands for an expression; its own memory has numbers that are so. -/
inductive Ex (I:Nat → Prop) (h:List Ob):V → X → Prop
  | mk {n:Nd} {pv:V} {es:List V} {ps:List X} (s:Sl 8 h pv es) (hi:∀ j,j ∈ idsOf pv → I j) (hl:es.length = ps.length) (hp:∀ (i:Nat) (e:V) (p:X),es[i]? = some e → ps[i]? = some p → Ex I h e p):Ex I h (.agg (aC n pv)) (.mk n ps)
theorem Ex.keep {I:Nat → Prop} {h h':List Ob} {v:V} {x:X} {A:List Nat} (e:Ex I h v x) (k:Kp h h' A) (d:∀ j,j ∈ A → ¬ I j):Ex I h' v x := by
  induction e with
  | mk s hi hl hp ih => exact .mk (s.keep k (fun j hj q => d j q (hi j hj))) hi hl ih
theorem Ex.kp {I:Nat → Prop} {h h':List Ob} {v:V} {x:X} (e:Ex I h v x) (k:Kp h h' []):Ex I h' v x := e.keep k (fun j hj => by cases hj)
theorem Ex.mono {I J:Nat → Prop} {h:List Ob} {v:V} {x:X} (e:Ex I h v x) (d:∀ j,j < h.length → I j → J j):Ex J h v x := by
  induction e with
  | mk s hi hl hp ih => exact .mk s (fun j hj => d j (s.lt hj) (hi j hj)) hl ih
theorem scN {sz:Nat} {h:List Ob} {v:V} {es:List V} (s:Sl sz h v es):v.cells = [v] ∧ v.scalar = true := by
  cases v <;> first | exact ⟨rfl,rfl⟩ | (have := s.c; simp [conts] at this)
theorem aC_sc {sz:Nat} {h:List Ob} {n:Nd} {v:V} {es:List V} (s:Sl sz h v es):(aC n v).all V.scalar = true := by
  simp [(scN s).2]; exact ⟨rfl,rfl,rfl,rfl,rfl,rfl,rfl⟩
theorem loadP {h:List Ob} {id:Nat} {cs:List V} (s:St h id cs) {j n:Nat} (hj:j + n ≤ cs.length) (h0:1 < n):er (.loadN n (.c (.ptr id 0 j))) h = some (.agg ((cs.drop j).take n)) := by
  unfold St at s
  simp only [er,ev,evOq,x_loadN,getC,evLoadN,rdCells,s,List.getElem?_cons_zero,Option.map_some,V.cells]
  rw [if_pos hj]
  rfl
/-- No deeper than that. -/
def Dp:Nat → X → Prop
  | 0,_ => False
  | k + 1,.mk _ ps => ∀ p,p ∈ ps → Dp k p
theorem Dp.mono:∀ {k m:Nat} {x:X},Dp k x → k ≤ m → Dp m x
  | k + 1,m + 1,.mk n ps,d,h => fun p hp => Dp.mono (d p hp) (by omega)
  | k + 1,0,.mk n ps,d,h => by omega
theorem Dp.some (x:X):∃ k,Dp k x := by
  refine X.rec (motive_1 := fun x => ∃ k,Dp k x) (motive_2 := fun ps => ∃ k,∀ p,p ∈ ps → Dp k p) ?_ ?_ ?_ x
  · rintro n ps ⟨k,hk⟩; exact ⟨k + 1,hk⟩
  · exact ⟨0,fun p hp => by cases hp⟩
  · rintro p ps ⟨k,hk⟩ ⟨m,hm⟩
    refine ⟨max k m,fun q hq => ?_⟩
    rcases List.mem_cons.1 hq with rfl | hq
    · exact hk.mono (by omega)
    · exact (hm q hq).mono (by omega)
/-- All that is there fits. -/
def Fz (w:Nat):Nat → X → Prop
  | 0,_ => False
  | k + 1,.mk _ ps => ps.length ≤ w ∧ ∀ p,p ∈ ps → Fz w k p
theorem Fz.dp {w:Nat}:∀ {k:Nat} {x:X},Fz w k x → Dp k x
  | k + 1,.mk n ps,d => fun p hp => Fz.dp (d.2 p hp)
theorem Fz.mono {w:Nat}:∀ {k m:Nat} {x:X},Fz w k x → k ≤ m → Fz w m x
  | k + 1,m + 1,.mk n ps,d,h => ⟨d.1,fun p hp => Fz.mono (d.2 p hp) (by omega)⟩
  | k + 1,0,.mk n ps,d,h => by omega
/-! ### Alike -/
def eqB:Nat → X → X → Bool
  | 0,_,_ => false
  | k + 1,.mk n ps,.mk m qs => decide (n = m) && (decide (ps.length = qs.length) && (ps.zip qs).all fun p => eqB k p.1 p.2)
theorem eqB_self:∀ (k:Nat) (x:X),Dp k x → eqB k x x = true
  | k + 1,.mk n ps,d => by
    have:(ps.zip ps).all (fun p => eqB k p.1 p.2) = true := by
      rw [List.all_eq_true]
      intro p hp
      obtain ⟨i,hi,rfl⟩ := List.mem_iff_getElem.1 hp
      simp only [List.getElem_zip]
      exact eqB_self k _ (d _ (List.getElem_mem _))
    simp [eqB,this]
theorem eqV3 (a b:Int) (s:List UInt8) (a' b':Int) (s':List UInt8) (h:List Ob):er (.eq false (.struct 3 [(0,.i),(1,.i),(2,.s)]) (.c (.agg [.int .i64 a,.int .i64 b,.str s])) (.c (.agg [.int .i64 a',.int .i64 b',.str s']))) h = some (.bool (a == a' && (b == b' && s == s'))) := by
  simp [er,ev,evOq,x_eq,getC,evEq,eqAt,eqLeaves,V.cells]
  cases (a == a') <;> cases (b == b') <;> cases (s == s') <;> rfl
theorem neV3 (a b:Int) (s:List UInt8) (a' b':Int) (s':List UInt8) (h:List Ob):er (.eq true (.struct 3 [(0,.i),(1,.i),(2,.s)]) (.c (.agg [.int .i64 a,.int .i64 b,.str s])) (.c (.agg [.int .i64 a',.int .i64 b',.str s']))) h = some (.bool (!(a == a' && (b == b' && s == s')))) := by
  simp [er,ev,evOq,x_eq,getC,evEq,eqAt,eqLeaves,V.cells]
  cases (a == a') <;> cases (b == b') <;> cases (s == s') <;> rfl
theorem nd_eq (n m:Nd):decide (n = m) = (n.k == m.k && (n.op == m.op && ((n.vk == m.vk && (n.vn == m.vn && n.vs == m.vs)) && (n.tb == m.tb && n.cl == m.cl)))) := by
  obtain ⟨a,b,c,d,e,f,g⟩ := n
  obtain ⟨a',b',c',d',e',f',g'⟩ := m
  simp only [Nd.mk.injEq]
  by_cases h1:a = a' <;> by_cases h2:b = b' <;> by_cases h3:c = c' <;> by_cases h4:d = d' <;> by_cases h5:e = e' <;> by_cases h6:f = f' <;> by_cases h7:g = g' <;> simp [h1,h2,h3,h4,h5,h6,h7]
/-- A part's own value. -/
theorem Ex.at {I:Nat → Prop} {h:List Ob} {pv:V} {es:List V} {ps:List X} (s:Sl 8 h pv es) (hl:es.length = ps.length) (hp:∀ (i:Nat) (e:V) (p:X),es[i]? = some e → ps[i]? = some p → Ex I h e p) {i:Nat} (hi:i < ps.length) :
    ∃ a n qv qs,ps[i] = .mk n qs ∧ er (.iaddrL 8 (.c pv) (.c (.int .i64 (i:Int)))) h = some a ∧ er (.loadN 8 (.c a)) h = some (.agg (aC n qv)) ∧ Ex I h (.agg (aC n qv)) (.mk n qs) ∧ qv.scalar = true := by
  have hie:i < es.length := by omega
  have x := hp i es[i] ps[i] (List.getElem?_eq_getElem hie) (List.getElem?_eq_getElem hi)
  generalize he:es[i] = e at x
  generalize hpp:ps[i] = p at x
  cases x with
  | @mk n qv fs qs s' hi' hl' hp' =>
    obtain ⟨a,a1,a2⟩ := s.atN (k := (i:Int)) (cs := aC n qv) (by omega) (by rw [Int.toNat_natCast,← he]; exact List.getElem?_eq_getElem hie) rfl (by decide)
    exact ⟨a,n,qv,qs,rfl,a1,a2,.mk s' hi' hl' hp',(scN s').2⟩
/-- All parts from a place on. -/
def allB (k:Nat) (ps qs:List X) (i:Nat):Bool := ((ps.drop i).zip (qs.drop i)).all fun p => eqB k p.1 p.2
theorem allB_step {k:Nat} {ps qs:List X} {i:Nat} (h1:i < ps.length) (h2:i < qs.length):allB k ps qs i = (eqB k ps[i] qs[i] && allB k ps qs (i + 1)) := by
  unfold allB
  rw [List.drop_eq_getElem_cons h1,List.drop_eq_getElem_cons h2]
  rfl
theorem allB_end {k:Nat} {ps qs:List X} {i:Nat} (h1:ps.length ≤ i):allB k ps qs i = true := by
  unfold allB
  rw [List.drop_of_length_le h1]; rfl
abbrev zC:List V := [.int .i64 0,.str [],.int .i64 0,.int .i64 0,.str [],.str [],.str [],.nils]
abbrev Same48 (lf k:Nat) (I J:Nat → Prop) (x y:X):Prop := ∀ (n m:Nd) (pv qv:V) (ps qs:List X) (h:List Ob),x = .mk n ps → y = .mk m qs → Ex I h (.agg (aC n pv)) x → Ex J h (.agg (aC m qv)) y →
  To2 (F9 lf (R9 lf k) n.k n.op n.vk n.vn n.vs n.tb n.cl pv m.k m.op m.vk m.vn m.vs m.tb m.cl qv h) fun v h' => v = .bool (eqB (k + 1) x y) ∧ Kp h h' []
theorem loop78 (lf k:Nat) {I J:Nat → Prop} {h0:List Ob} {pv qv:V} {es fs:List V} {ps qs:List X} (s:Sl 8 h0 pv es) (hl:es.length = ps.length) (hp:∀ (i:Nat) (e:V) (p:X),es[i]? = some e → ps[i]? = some p → Ex I h0 e p)
    (s':Sl 8 h0 qv fs) (hl':fs.length = qs.length) (hp':∀ (i:Nat) (e:V) (p:X),fs[i]? = some e → qs[i]? = some p → Ex J h0 e p) (hq:qs.length = ps.length) (hw:ps.length ≤ 4611686018427387904) (IH:∀ p,p ∈ ps → ∀ q,Same48 lf k I J p q) :
    ∀ (m i f:Nat) (h:List Ob),ps.length = i + m → m < f → Kp h0 h [] → To3 (L18_0 lf (cv9 lf (R9 lf (k + 1))) f qv (.fn 9 []) pv ps.length i h) fun x vs h' => Kp h0 h' [] ∧ if allB (k + 1) ps qs i = true then x = .exit 0 ∧ vs = [] else x = .ret ∧ vs = [.bool false] := by
  intro m
  induction m with
  | zero =>
    intro i f h hm hf kp
    obtain ⟨f,rfl⟩:∃ g,f = g + 1 := ⟨f - 1,by omega⟩
    have hd:decide ((i:Int) < (ps.length:Int)) = false := decide_eq_false (by omega)
    simp only [L18_0,B18_0,hd,cB_false]
    refine To3.some ⟨kp,?_⟩
    rw [if_pos (allB_end (by omega))]
    exact ⟨rfl,rfl⟩
  | succ m ih =>
    intro i f h hm hf kp
    obtain ⟨f,rfl⟩:∃ g,f = g + 1 := ⟨f - 1,by omega⟩
    have hlt:i < ps.length := by omega
    have hlt':i < qs.length := by omega
    have hd:decide ((i:Int) < (ps.length:Int)) = true := decide_eq_true (by omega)
    have w1:IntKind.i64.wrap ((i:Int) + 1) = ((i + 1:Nat):Int) := by rw [wrap_i64 (by omega) (by omega)]; omega
    obtain ⟨a,n1,pv1,ps1,e1,a1,a2,x1,c1⟩ := Ex.at (s.kp kp) hl (fun i e p g1 g2 => (hp i e p g1 g2).kp kp) hlt
    simp only [L18_0,B18_0,hd,cB_true,a1,a2,bind1_some,castAgg_agg,castCons_cons,castInt_int,castStr_str,castNil_nil,w1]
    refine To3.bind2 (alloc_to (cs := zC) rfl) ?_
    rintro v h1 ⟨rfl,st1,k1⟩
    refine To3.bind2 (st1.storeN (ds := aC n1 pv1) rfl (by simp) (by simp [c1]; exact ⟨rfl,rfl,rfl,rfl,rfl,rfl,rfl⟩) rfl) ?_
    rintro u h2 ⟨st2,k2⟩
    have k12:Kp h h2 [] := k1.trans k2 (fun j hj => by cases hj) (fun j hj hl => by simp at hj; omega)
    have kp2 := kp.tr k12
    obtain ⟨b,m1,qv1,qs1,e2,b1,b2,y1,c2⟩ := Ex.at (s'.kp kp2) hl' (fun i e p g1 g2 => (hp' i e p g1 g2).kp kp2) hlt'
    simp only [b1,b2,bind1_some,castAgg_agg,castCons_cons,castInt_int,castStr_str,castNil_nil]
    refine To3.bind2 (alloc_to (cs := zC) rfl) ?_
    rintro v h3 ⟨rfl,st3,k3⟩
    refine To3.bind2 (st3.storeN (ds := aC m1 qv1) rfl (by simp) (by simp [c2]; exact ⟨rfl,rfl,rfl,rfl,rfl,rfl,rfl⟩) rfl) ?_
    rintro u h4 ⟨st4,k4⟩
    have k34:Kp h2 h4 [] := k3.trans k4 (fun j hj => by cases hj) (fun j hj hl => by simp at hj; omega)
    have st24 := st2.kp k34
    have l1:er (.loadN 8 (.c (.ptr h.length 0 0))) h4 = some (.agg (aC n1 pv1)) := st24.loadN' rfl
    have l2:er (.loadN 8 (.c (.ptr h2.length 0 0))) h4 = some (.agg (aC m1 qv1)) := st4.loadN' rfl
    have ecv:∀ h5,cv9 lf (R9 lf (k + 1)) (.fn 9 []) [.agg (aC n1 pv1),.agg (aC m1 qv1)] h5 = F9 lf (R9 lf k) n1.k n1.op n1.vk n1.vn n1.vs n1.tb n1.cl pv1 m1.k m1.op m1.vk m1.vn m1.vs m1.tb m1.cl qv1 h5 := fun h5 => rfl
    simp only [l1,l2,bind1_some,castAgg_agg,castCons_cons,castInt_int,castStr_str,castNil_nil,ecv]
    refine To3.bind2 (IH ps[i] (List.getElem_mem hlt) qs[i] n1 m1 pv1 qv1 ps1 qs1 h4 e1 e2 (e1 ▸ (x1.kp k12).kp k34) (e2 ▸ y1.kp k34)) ?_
    rintro v h5 ⟨rfl,k5⟩
    have kp5 := (kp2.tr k34).tr k5
    rw [castBool_bool]
    cases hE:eqB (k + 1) ps[i] qs[i] with
    | false =>
      simp only [Bool.not_false,cB_true]
      refine To3.some ⟨kp5,?_⟩
      rw [allB_step hlt hlt',hE,Bool.false_and,if_neg (by decide)]
      exact ⟨rfl,rfl⟩
    | true =>
      simp only [Bool.not_true,cB_false]
      rw [allB_step hlt hlt',hE,Bool.true_and]
      exact ih (i + 1) f h5 (by omega) (by omega) kp5
theorem Ex.inv {I:Nat → Prop} {h:List Ob} {n m:Nd} {pv:V} {ps:List X} (e:Ex I h (.agg (aC n pv)) (.mk m ps)):∃ es,Sl 8 h pv es ∧ (∀ j,j ∈ idsOf pv → I j) ∧ es.length = ps.length ∧ ∀ (i:Nat) (e:V) (p:X),es[i]? = some e → ps[i]? = some p → Ex I h e p := by
  generalize hv:V.agg (aC n pv) = v at e
  generalize hx:X.mk m ps = x at e
  cases e with
  | @mk n' pv' es ps' s hi hl hp =>
    injection hx with h1 h2
    subst h1; subst h2
    simp only [aC,V.agg.injEq,List.cons.injEq,and_true] at hv
    obtain ⟨-,-,-,-,-,-,-,rfl⟩ := hv
    exact ⟨es,s,hi,hl,hp⟩
theorem eqB_mk (k:Nat) (n m:Nd) (ps qs:List X):eqB (k + 1) (.mk n ps) (.mk m qs) = (decide (n = m) && (decide (ps.length = qs.length) && allB k ps qs 0)) := rfl
theorem eq78 (lf k w:Nat) (hw:w < lf) (hw2:w ≤ 4611686018427387904) {I J:Nat → Prop} {h:List Ob} {n:Nd} {pv qv:V} {es fs:List V} {ps qs:List X} (hx:Fz w (k + 1) (.mk n ps)) (s:Sl 8 h pv es) (hl:es.length = ps.length) (hp:∀ (i:Nat) (e:V) (p:X),es[i]? = some e → ps[i]? = some p → Ex I h e p)
    (s':Sl 8 h qv fs) (hl':fs.length = qs.length) (hp':∀ (i:Nat) (e:V) (p:X),fs[i]? = some e → qs[i]? = some p → Ex J h e p) (IH:∀ j,k = j + 1 → ∀ p,p ∈ ps → ∀ q,Same48 lf j I J p q) :
    To2 (F18 lf (cv9 lf (R9 lf k)) pv qv (.fn 9 []) h) fun v h' => v = .bool (decide (ps.length = qs.length) && allB k ps qs 0) ∧ Kp h h' [] := by
  have hpw:ps.length ≤ w := hx.1
  simp only [F18,er_lenL s,er_lenL s',hl,hl',bind1_some,castInt_int]
  by_cases q:ps.length = qs.length
  · have e1:((ps.length:Int) != (qs.length:Int)) = false := by simp [q]
    rw [e1,cB_false,decide_eq_true q,Bool.true_and]
    have hL:To3 (L18_0 lf (cv9 lf (R9 lf k)) lf qv (.fn 9 []) pv ps.length (0:Int) h) fun x vs h' => Kp h h' [] ∧ if allB k ps qs 0 = true then x = .exit 0 ∧ vs = [] else x = .ret ∧ vs = [.bool false] := by
      cases k with
      | zero =>
        have hps:ps = [] := by
          cases ps with
          | nil => rfl
          | cons p t => exact absurd (hx.2 p (by simp)) (by simp [Fz])
        subst hps
        obtain ⟨g,rfl⟩:∃ g,lf = g + 1 := ⟨lf - 1,by omega⟩
        exact ⟨.exit 0,[],h,rfl,Kp.refl _ _,rfl,rfl⟩
      | succ j =>
        have := loop78 lf j s hl hp s' hl' hp' q.symm (by omega) (IH j rfl) ps.length 0 lf h (by omega) (by omega) (Kp.refl _ _)
        exact this
    refine To2.bind3 hL ?_
    rintro x vs h1 ⟨k1,r⟩
    cases hB:allB k ps qs 0 with
    | true =>
      rw [hB,if_pos rfl] at r
      obtain ⟨rfl,rfl⟩ := r
      simp only [decide_true,cB_true,castNil_nil]
      exact To2.some ⟨rfl,k1⟩
    | false =>
      rw [hB,if_neg (by decide)] at r
      obtain ⟨rfl,rfl⟩ := r
      simp only [show decide (EX.ret = EX.exit 0) = false from rfl,cB_false,decide_true,cB_true,castCons_cons,castBool_bool,castNil_nil]
      exact To2.some ⟨rfl,k1⟩
  · have e1:((ps.length:Int) != (qs.length:Int)) = true := by
      have:(ps.length:Int) ≠ (qs.length:Int) := by omega
      simpa using this
    rw [e1,cB_true,decide_eq_false q,Bool.false_and]
    exact To2.some ⟨rfl,Kp.refl _ _⟩
theorem same48_step (lf k w:Nat) (hw:w < lf) (hw2:w ≤ 4611686018427387904) {I J:Nat → Prop} {x y:X} (hx:Fz w (k + 1) x) (IH:∀ j,k = j + 1 → ∀ n ps,x = .mk n ps → ∀ p,p ∈ ps → ∀ q,Same48 lf j I J p q):Same48 lf k I J x y := by
  intro n m pv qv ps qs h e1 e2 ex ey
  subst e1; subst e2
  obtain ⟨es,s,hi,hl,hp⟩ := ex.inv
  obtain ⟨fs,s',hi',hl',hp'⟩ := ey.inv
  rw [eqB_mk,nd_eq]
  simp only [F9]
  refine To2.bind2 (box_to (cs := aC n pv) (aC_sc s)) ?_
  rintro v h1 ⟨rfl,st1,k1⟩
  refine To2.bind2 (box_to (cs := aC m qv) (aC_sc s')) ?_
  rintro v h2 ⟨rfl,st2,k2⟩
  have st1 := st1.kp k2
  have kk := k1.tr k2
  have fa := fun o => st1.faddr o 0 0
  have fb := fun o => st2.faddr o 0 0
  have a0:er (.load1 (.c (.ptr h.length 0 0))) h2 = some (.int .i64 n.k) := st1.load1 rfl
  have a1:er (.load1 (.c (.ptr h.length 0 1))) h2 = some (.str n.op) := st1.load1 rfl
  have a2:er (.loadN 3 (.c (.ptr h.length 0 2))) h2 = some (.agg [.int .i64 n.vk,.int .i64 n.vn,.str n.vs]) := loadP st1 (by simp) (by decide)
  have a5:er (.load1 (.c (.ptr h.length 0 5))) h2 = some (.str n.tb) := st1.load1 rfl
  have a6:er (.load1 (.c (.ptr h.length 0 6))) h2 = some (.str n.cl) := st1.load1 rfl
  have a7:er (.load1 (.c (.ptr h.length 0 7))) h2 = some pv := st1.load1 rfl
  have b0:er (.load1 (.c (.ptr h1.length 0 0))) h2 = some (.int .i64 m.k) := st2.load1 rfl
  have b1:er (.load1 (.c (.ptr h1.length 0 1))) h2 = some (.str m.op) := st2.load1 rfl
  have b2:er (.loadN 3 (.c (.ptr h1.length 0 2))) h2 = some (.agg [.int .i64 m.vk,.int .i64 m.vn,.str m.vs]) := loadP st2 (by simp) (by decide)
  have b5:er (.load1 (.c (.ptr h1.length 0 5))) h2 = some (.str m.tb) := st2.load1 rfl
  have b6:er (.load1 (.c (.ptr h1.length 0 6))) h2 = some (.str m.cl) := st2.load1 rfl
  have b7:er (.load1 (.c (.ptr h1.length 0 7))) h2 = some qv := st2.load1 rfl
  simp only [Nat.zero_add] at fa fb
  simp only [fa,fb,a0,a1,a2,a5,a6,a7,b0,b1,b2,b5,b6,b7,bind1_some,castAgg_agg,castCons_cons,castInt_int,castStr_str,castNil_nil,eqV3,castBool_bool]
  cases c0:(n.k == m.k) with
  | false => exact To2.some ⟨rfl,kk⟩
  | true =>
    simp only [cB_true,Bool.true_and]
    cases c1:(n.op == m.op) with
    | false => exact To2.some ⟨rfl,kk⟩
    | true =>
      simp only [cB_true,Bool.true_and]
      cases c2:(n.vk == m.vk && (n.vn == m.vn && n.vs == m.vs)) with
      | false => exact To2.some ⟨rfl,kk⟩
      | true =>
        simp only [cB_true,Bool.true_and]
        cases c3:(n.tb == m.tb) with
        | false => exact To2.some ⟨rfl,kk⟩
        | true =>
          simp only [cB_true,Bool.true_and]
          cases c4:(n.cl == m.cl) with
          | false => exact To2.some ⟨rfl,kk⟩
          | true =>
            simp only [cB_true,Bool.true_and]
            refine To2.bind2 (eq78 lf k w hw hw2 hx (s.kp kk) hl (fun i e p g1 g2 => (hp i e p g1 g2).kp kk) (s'.kp kk) hl' (fun i e p g1 g2 => (hp' i e p g1 g2).kp kk) (fun j hj p hpp q => IH j hj n ps rfl p hpp q)) ?_
            rintro v h3 ⟨rfl,k3⟩
            rw [castBool_bool]
            exact To2.some ⟨rfl,kk.tr k3⟩
theorem same48 (lf w:Nat) (hw:w < lf) (hw2:w ≤ 4611686018427387904) {I J:Nat → Prop}:∀ (k:Nat) (x y:X),Fz w (k + 1) x → Same48 lf k I J x y := by
  intro k
  induction k with
  | zero => intro x y hx; exact same48_step lf 0 w hw hw2 hx (fun j hj => by omega)
  | succ k ih =>
    intro x y hx
    refine same48_step lf (k + 1) w hw hw2 hx (fun j hj n ps e p hp q => ?_)
    obtain rfl:k = j := by omega
    subst e
    exact ih p q (hx.2 p hp)
end Go.Proofs.YtjpjeilfmjdhcaaDoor.Ex
