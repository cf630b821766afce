/- The reader of statements: its memory; lists by what they hold; a part of a struct stored. No condition. -/
import Derived.Test.YtjpjeilfmjdhcaaSts
import Derived.Test.YtjpjeilfmjdhcaaRdV
namespace Go.Proofs.Ytjpjeilfmjdhcaa.St
open Go Go.Proofs.Ytjpjeilfmjdhcaa.E
open Go.Proofs.Ytjpjeilfmjdhcaa.Ln
open Go.Proofs.Ytjpjeilfmjdhcaa.Ex
open Go.Proofs.Ytjpjeilfmjdhcaa.Pr
open Go.Proofs.Ytjpjeilfmjdhcaa.Rd
set_option maxRecDepth 100000
set_option linter.unusedVariables false
set_option linter.unusedSimpArgs false
/-- Several cells of a struct stored. -/
theorem St.storeP {h:List Ob} {id:Nat} {cs ds:List V} (s:St h id cs) {j n:Nat} (hn:ds.length = n) (hl:j + n ≤ cs.length) (h0:0 < n) (hs:ds.all V.scalar = true) :
    To2 (ev (.store n (.c (.ptr id 0 j)) (.c (.agg ds))) h) fun _ h' => St h' id (cs.take j ++ ds ++ cs.drop (j + n)) ∧ Kp h h' [id] := by
  subst hn
  have s' := s
  unfold St at s'
  have es:evStore h ds.length (.ptr id 0 j) (.agg ds) = some (h.set id (.row [.agg (cs.take j ++ ds ++ cs.drop (j + ds.length))] cs.length)) := by
    have q:evStore h ds.length (.ptr id 0 j) (.agg ds) = wrCells h (.ptr id 0 j) ds := if_pos ⟨rfl,hs,h0⟩
    rw [q]
    simp only [wrCells,s',List.getElem?_cons_zero,Option.map_some,putCells,List.set_cons_zero]
    rw [if_pos hl]
  have e:ev (.store ds.length (.c (.ptr id 0 j)) (.c (.agg ds))) h = some (.tup [],h.set id (.row [.agg (cs.take j ++ ds ++ cs.drop (j + ds.length))] cs.length)) := by
    simp only [ev,evOq,x_store,getC,es,Option.map_some]
  rw [e]
  exact To2.some ⟨s.set (by simp; omega),Kp.set _ _ _⟩
/-- The reader of statements. -/
structure Pd (h:List Ob) (r2 r:Nat) (wv:V) (ws:List Wd) (s:RS):Prop where
  rd:Rd h r wv ws s
  st:St h r2 [.ptr r 0 0]
  ne:r2 ≠ r
theorem Pd.kp {h h':List Ob} {r2 r:Nat} {wv:V} {ws:List Wd} {s:RS} (q:Pd h r2 r wv ws s) (k:Kp h h' []):Pd h' r2 r wv ws s := ⟨q.rd.kp k,q.st.kp k,q.ne⟩
theorem Pd.up {h h':List Ob} {r2 r:Nat} {wv:V} {ws:List Wd} {s s':RS} (q:Pd h r2 r wv ws s) (k:Kp h h' [r]) (d:Rd h' r wv ws s'):Pd h' r2 r wv ws s' := ⟨d,q.st.keep k (fun z => by simp at z; exact q.ne z),q.ne⟩
theorem Pd.at0 {h:List Ob} {r2 r:Nat} {wv:V} {ws:List Wd} {s:RS} (q:Pd h r2 r wv ws s):er (.load1 (.c (.ptr r2 0 (0 + 0)))) h = some (.ptr r 0 0) := q.st.load1 (j := 0) (c := .ptr r 0 0) rfl
/-- What stands for something, and stays so. -/
structure RR (α : Type) where
  R:(Nat → Prop) → List Ob → V → α → Prop
  keep:∀ {I:Nat → Prop} {h h':List Ob} {v:V} {x : α} {A:List Nat},R I h v x → Kp h h' A → (∀ j,j ∈ A → ¬ I j) → R I h' v x
  mono:∀ {I J:Nat → Prop} {h:List Ob} {v:V} {x : α},R I h v x → (∀ j,j < h.length → I j → J j) → R J h v x
/-- A list of such. -/
def LR {α : Type} (sz:Nat) (T:RR α) (I:Nat → Prop) (h:List Ob) (v:V) (xs:List α):Prop :=
  ∃ es,Sl sz h v es ∧ Ap v ∧ (∀ j,j ∈ idsOf v → I j) ∧ es.length = xs.length ∧ ∀ (i:Nat) (e:V) (x : α),es[i]? = some e → xs[i]? = some x → T.R (fun j => I j ∧ j ∉ idsOf v) h e x
def rL {α : Type} (sz:Nat) (T:RR α):RR (List α) where
  R := LR sz T
  keep := by
    rintro I h h' v xs A ⟨es,s,a,i,l,e⟩ k d
    exact ⟨es,s.keep k (fun j hj z => d j z (i j hj)),a,i,l,fun n e' x h1 h2 => T.keep (e n e' x h1 h2) k (fun j hj z => d j hj z.1)⟩
  mono := by
    rintro I J h v xs ⟨es,s,a,i,l,e⟩ d
    exact ⟨es,s,a,fun j hj => d j (s.lt hj) (i j hj),l,fun n e' x h1 h2 => T.mono (e n e' x h1 h2) (fun j hj z => ⟨d j hj z.1,z.2⟩)⟩
theorem LR.sc {α : Type} {sz:Nat} {T:RR α} {I:Nat → Prop} {h:List Ob} {v:V} {xs:List α} (l:LR sz T I h v xs):v.cells = [v] ∧ v.scalar = true := by
  obtain ⟨es,s,-⟩ := l
  exact scN s
theorem LR.nils {α : Type} (sz:Nat) (T:RR α) (I:Nat → Prop) (h:List Ob):LR sz T I h .nils [] := ⟨[],Sl.nils _ _,Ap.nils,fun j hj => (nomatch hj),rfl,fun i e x h1 => by simp at h1⟩
def rStr:RR (List UInt8) where
  R := fun _ _ v x => v = .str x
  keep := fun h _ _ => h
  mono := fun h _ => h
def rEx:RR X where
  R := fun I h v x => ∃ n pv ps,x = .mk n ps ∧ v = .agg (aC n pv) ∧ Ex I h (.agg (aC n pv)) (.mk n ps)
  keep := by
    rintro I h h' v x A ⟨n,pv,ps,rfl,rfl,e⟩ k d
    exact ⟨n,pv,ps,rfl,rfl,e.keep k d⟩
  mono := by
    rintro I J h v x ⟨n,pv,ps,rfl,rfl,e⟩ d
    exact ⟨n,pv,ps,rfl,rfl,e.mono d⟩
def rCl:RR Cl where
  R := fun _ _ v x => v = .agg [.str x.n,.int .i64 x.k,.bool x.nn,.bool x.un]
  keep := fun h _ _ => h
  mono := fun h _ => h
abbrev aI (n:Nd) (pv:V) (c:V):List V := [.int .i64 n.k,.str n.op,.int .i64 n.vk,.int .i64 n.vn,.str n.vs,.str n.tb,.str n.cl,pv,c]
abbrev aA (c:List UInt8) (n:Nd) (pv:V):List V := [.str c,.int .i64 n.k,.str n.op,.int .i64 n.vk,.int .i64 n.vn,.str n.vs,.str n.tb,.str n.cl,pv]
abbrev aS (t a:List UInt8) (n:Nd) (pv:V):List V := [.str t,.str a,.int .i64 n.k,.str n.op,.int .i64 n.vk,.int .i64 n.vn,.str n.vs,.str n.tb,.str n.cl,pv]
def rIt:RR It where
  R := fun I h v x => ∃ n pv ps,x.e = .mk n ps ∧ v = .agg (aI n pv (.str x.n)) ∧ Ex I h (.agg (aC n pv)) (.mk n ps)
  keep := by
    rintro I h h' v x A ⟨n,pv,ps,e1,e2,e⟩ k d
    exact ⟨n,pv,ps,e1,e2,e.keep k d⟩
  mono := by
    rintro I J h v x ⟨n,pv,ps,e1,e2,e⟩ d
    exact ⟨n,pv,ps,e1,e2,e.mono d⟩
def rOd:RR Od where
  R := fun I h v x => ∃ n pv ps,x.e = .mk n ps ∧ v = .agg (aI n pv (.bool x.d)) ∧ Ex I h (.agg (aC n pv)) (.mk n ps)
  keep := by
    rintro I h h' v x A ⟨n,pv,ps,e1,e2,e⟩ k d
    exact ⟨n,pv,ps,e1,e2,e.keep k d⟩
  mono := by
    rintro I J h v x ⟨n,pv,ps,e1,e2,e⟩ d
    exact ⟨n,pv,ps,e1,e2,e.mono d⟩
def rAs:RR Asg where
  R := fun I h v x => ∃ n pv ps,x.e = .mk n ps ∧ v = .agg (aA x.c n pv) ∧ Ex I h (.agg (aC n pv)) (.mk n ps)
  keep := by
    rintro I h h' v x A ⟨n,pv,ps,e1,e2,e⟩ k d
    exact ⟨n,pv,ps,e1,e2,e.keep k d⟩
  mono := by
    rintro I J h v x ⟨n,pv,ps,e1,e2,e⟩ d
    exact ⟨n,pv,ps,e1,e2,e.mono d⟩
def rSr:RR Sr where
  R := fun I h v x => ∃ n pv ps,x.on = .mk n ps ∧ v = .agg (aS x.t x.n n pv) ∧ Ex I h (.agg (aC n pv)) (.mk n ps)
  keep := by
    rintro I h h' v x A ⟨n,pv,ps,e1,e2,e⟩ k d
    exact ⟨n,pv,ps,e1,e2,e.keep k d⟩
  mono := by
    rintro I J h v x ⟨n,pv,ps,e1,e2,e⟩ d
    exact ⟨n,pv,ps,e1,e2,e.mono d⟩
/-- Something was read. -/
def PQ {α : Type} (T:RR α) (h:List Ob) (r2 r:Nat) (wv:V) (ws:List Wd) (p : α × RS) (v:V) (h':List Ob):Prop := Pd h' r2 r wv ws p.2 ∧ Kp h h' [r] ∧ T.R (fun j => h.length ≤ j) h' v p.1
/-- The first of a list. -/
theorem first_to {α : Type} {sz:Nat} (hz:0 < sz) (hz2:sz ≤ 1000) {T:RR α} {I:Nat → Prop} {h:List Ob} {z v:V} {x : α} {K:V → List Ob → Option (V × List Ob)} {Q:V → List Ob → Prop} (hv:T.R I h v x) (hI:∀ j,I j → j < h.length) (hp:plainV sz v = true)
    (hK:∀ v' h',LR sz T (fun j => I j ∨ h.length ≤ j) h' v' [x] → Kp h h' [] → To2 (K v' h') Q):To2 (bind2 (ev (.bslice sz z 1 [(0,.c v)]) h) K) Q := by
  refine To2.bind2 (bslice_to (sz := sz) (z := z) (len := 1) (ps := [(0,v)]) (es := [v]) (by omega) (by simp [hp]) rfl rfl) ?_
  rintro y h1 ⟨-,-,sy,ay,ky,fy⟩
  refine hK y h1 ⟨[v],sy,ay,fun j hj => .inr (fy j hj),rfl,?_⟩ ky
  intro i e x' h1' h2'
  cases i with
  | zero =>
    simp only [List.getElem?_cons_zero,Option.some.injEq] at h1' h2'
    subst h1'; subst h2'
    exact T.mono (T.keep hv ky (fun j hj => by cases hj)) (fun j hj w => ⟨.inl w,fun y' => by have := fy j y'; have := hI j w; omega⟩)
  | succ i => simp at h1'
/-- One more in a list. -/
theorem push_to3 {α : Type} {sz bytes:Nat} (hz:0 < sz) (hz2:sz ≤ 1000) (hb2:bytes ≤ 1000) {T:RR α} {I J:Nat → Prop} {h:List Ob} {z v out:V} {x : α} {acc:List α} {K:V → List Ob → SubR} {Q:EX → List V → List Ob → Prop} (L:LR sz T I h out acc) (hv:T.R J h v x) (hJ:∀ j,j < h.length → J j → I j ∧ j ∉ idsOf out) (hn:∀ j,h.length ≤ j → I j) (hl:acc.length ≤ 1000) (hp:plainV sz v = true)
    (hK:∀ v' h',LR sz T I h' v' (acc ++ [x]) → Kp h h' (idsOf out) → To3 (K v' h') Q):To3 (bind2 (ev (.bslice sz z 1 [(0,.c v)]) h) fun y h1 => bind2 (ev (.app sz bytes (.c out) (.c y)) h1) K) Q := by
  refine To3.bind2 (bslice_to (sz := sz) (z := z) (len := 1) (ps := [(0,v)]) (es := [v]) (by omega) (by simp [hp]) rfl rfl) ?_
  rintro y h1 ⟨-,-,sy,ay,ky,fy⟩
  obtain ⟨es,so,ao,io,lo,eo⟩ := L
  have so1 := so.kp ky
  have hbnd:(es.length + [v].length) * bytes ≤ roomMax := by
    have:(es.length + 1) * bytes ≤ 1001 * 1000 := Nat.mul_le_mul (by omega) hb2
    have e:[v].length = 1 := rfl
    rw [e]
    exact Nat.le_trans this (by decide)
  refine To3.bind2 (app_to (bytes := bytes) so1 ao sy.c hbnd) ?_
  rintro w h2 ⟨sw,aw,kw,fw⟩
  have k02:Kp h h2 (idsOf out) := ky.trans kw (fun j hj => by cases hj) (fun j hj _ => hj)
  have ol:∀ j,j ∈ idsOf out → j < h.length := fun j hj => so.lt hj
  refine hK w h2 ⟨es ++ [v],sw,aw,fun j hj => ?_,by simp [lo],?_⟩ k02
  · rcases fw j hj with q | q
    · exact io j q
    · exact hn j (by have := ky.len; omega)
  · intro i e x' h1' h2'
    have wn:∀ j,j < h.length → j ∉ idsOf out → j ∉ idsOf w := fun j hj ho q => by
      rcases fw j q with y' | y'
      · exact ho y'
      · have := ky.len; omega
    by_cases hi:i < es.length
    · rw [List.getElem?_append_left hi] at h1'
      rw [List.getElem?_append_left (by omega)] at h2'
      have t := T.mono (eo i e x' h1' h2') (J := fun j => (I j ∧ j ∉ idsOf w) ∧ j ∉ idsOf out) (fun j hj q => ⟨⟨q.1,wn j hj q.2⟩,q.2⟩)
      exact T.mono (T.keep t k02 (fun j hj q => q.2 hj)) (fun j _ q => q.1)
    · have:i = es.length := by
        have := (List.getElem?_eq_some_iff.1 h1').1
        simp at this; omega
      subst this
      rw [List.getElem?_append_right (Nat.le_refl _)] at h1'
      rw [lo,List.getElem?_append_right (Nat.le_refl _)] at h2'
      simp at h1' h2'
      subst h1'; subst h2'
      have t := T.mono hv (J := fun j => (I j ∧ j ∉ idsOf w) ∧ j ∉ idsOf out) (fun j hj q => ⟨⟨(hJ j hj q).1,wn j hj (hJ j hj q).2⟩,(hJ j hj q).2⟩)
      exact T.mono (T.keep t k02 (fun j hj q => q.2 hj)) (fun j _ q => q.1)
theorem plain_agg {cs:List V} {n:Nat} (hl:cs.length = n) (hs:cs.all V.scalar = true):plainV n (.agg cs) = true := by
  simp only [plainV,V.cells,hs,hl,beq_self_eq_true,Bool.and_self]
end Go.Proofs.Ytjpjeilfmjdhcaa.St
