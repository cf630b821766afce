/- Nodes: the loop that reads the cells. No condition. -/
import Derived.Test.YtdcdmpgigmhhpaaNdU
namespace Go.Proofs.Ytdcdmpgigmhhpaa.Nd
open Go Go.Proofs.Ytdcdmpgigmhhpaa.E
open Go.Proofs.Ytdcdmpgigmhhpaa.Va Go.Proofs.Ytdcdmpgigmhhpaa.Rc
set_option maxRecDepth 100000
set_option linter.unusedVariables false
set_option linter.unusedSimpArgs false

theorem S47 {lf : Nat} {h0 h : List Ob} {id : Nat} {ms : List Int} {bad : Bool} (r : Rd h0 h id ms bad) (c : Nat) : S47_1 lf (.ptr id 0 0) c h = some (if 0 < c ∧ bad = false then (.normal, [], h) else (.exit 0, [], h)) := by
  obtain ⟨lid, v, st, sh, iv⟩ := r
  have nk := st.nilck 0 0
  have f1 := st.faddr 1 0 0
  have l1 : er (.load1 (.c (.ptr id 0 1))) h = some (.bool bad) := st.load1 rfl
  simp only [Nat.zero_add] at f1
  unfold S47_1
  by_cases q : 0 < c
  · have d : decide ((c : Int) > 0) = true := decide_eq_true (by omega)
    simp only [d, cB_true, nk, f1, l1, bind1_some, castBool_bool]
    cases bad <;> simp [q]
  · have d : decide ((c : Int) > 0) = false := decide_eq_false (by omega)
    simp [d, q]
theorem numP_len {bound n : Int} {b c : List Int} (hb : Byt b) (h : numP bound b = some (n, c)) : c.length < b.length := by
  obtain ⟨_, _, _, _, g5, _, g7⟩ := numP_back hb h
  have := takeF_e b 0 0 g5
  rw [g7]; simp; omega
theorem pieceP_len {b p c : List Int} (hb : Byt b) (h : pieceP b = some (p, c)) : c.length < b.length ∧ Byt c ∧ Byt p ∧ p.length ≤ b.length := by
  have e := pieceP_back hb h
  unfold pieceP at h
  split at h
  · cases h
  · rename_i n d hd
    split at h
    · cases h
    · injection h with h; injection h with h1 h2; subst h1; subst h2
      have := numP_len hb hd
      obtain ⟨g1, _⟩ := numP_back hb hd
      have bd : Byt d := fun x hx => hb x (by rw [g1]; exact List.mem_append_right _ hx)
      exact ⟨by simp; omega, Byt.drop bd _, Byt.take bd _, by simp; omega⟩
theorem NB.fresh {h0 h : List Ob} {id idn : Nat} {n : N} {K W D : V} (b : NB h0 h id idn n K W D) {j : Nat} (hj : h.length ≤ j) : j ∉ id :: idn :: (idsOf K ++ (idsOf W ++ idsOf D)) := by
  obtain ⟨es, s1, _⟩ := b.k
  obtain ⟨fs, t1, _⟩ := b.w
  simp only [List.mem_cons, List.mem_append, not_or]
  refine ⟨by have := b.idlt; omega, by have := b.st.lt; omega, fun q => by have := s1.lt q; omega, fun q => by have := t1.lt q; omega, fun q => by have := b.d.lt q; omega⟩
theorem NB.kr {h0 h h' : List Ob} {id idn : Nat} {n : N} {K W D : V} (b : NB h0 h id idn n K W D) {A : List Nat} (kr : Kp h0 h []) (k : Kp h h' A) (hA : ∀ j, j ∈ A → j ∈ id :: idn :: (idsOf K ++ (idsOf W ++ idsOf D))) : Kp h0 h' [] := by
  refine kr.trans k (fun j hj => by cases hj) (fun j hj hlt => ?_)
  have := hA j hj
  simp only [List.mem_cons, List.mem_append] at this
  rcases this with z | z | z | z | z
  · have := b.old.1; omega
  · have := b.old.2.1; omega
  · have := b.old.2.2.1 j z; omega
  · have := b.old.2.2.2.1 j z; omega
  · have := b.old.2.2.2.2 j z; omega

/-- One piece, whatever the reader is like. -/
theorem pieceX {lf : Nat} {h0 h : List Ob} {id idn : Nat} {ms : List Int} {bad : Bool} {n : N} {K W D : V} (r : Rd h0 h id ms bad) (b : NB h0 h id idn n K W D) (kr : Kp h0 h []) (hb : Byt ms) (hl : ms.length ≤ 1000000) (hf : 1000000 < lf) :
    To2 (F70 lf (.ptr id 0 0) h) fun v h' => NB h0 h' id idn n K W D ∧ Kp h0 h' [] ∧ (∀ j, j ∈ idsOf v → j ∉ id :: idn :: (idsOf K ++ (idsOf W ++ idsOf D))) ∧ ∃ p c bad', Sl 1 h' v (bv p) ∧ Rd h0 h' id c bad' ∧ Byt c ∧ c.length ≤ ms.length ∧
      ((bad' = false ∧ bad = false ∧ pieceP ms = some (p, c)) ∨ (bad' = true ∧ (bad = true ∨ pieceP ms = none))) := by
  refine (piece70 r hb (by omega) (by omega)).mono ?_
  rintro v h' ⟨k, f, ⟨hbad, p, c, hp, sv, rc⟩ | ⟨hbad, rfl, ms', hb', hl', rb⟩⟩
  · have hh := pieceP_len hb hp
    exact ⟨b.rd k, b.kr kr k (fun j hj => by simp at hj; simp [hj]), fun j hj => b.fresh (f j hj), p, c, false, sv, rc, hh.2.1, by omega, .inl ⟨rfl, hbad, hp⟩⟩
  · exact ⟨b.rd k, b.kr kr k (fun j hj => by simp at hj; simp [hj]), (fun j hj => by cases hj), [], ms', true, Sl.nils 1 h', rb, hb', hl', .inr ⟨rfl, hbad⟩⟩
theorem NB.rdKeep {h0 h h' : List Ob} {id idn : Nat} {n : N} {K W D : V} {ms : List Int} {bad : Bool} (b : NB h0 h id idn n K W D) (r : Rd h0 h id ms bad) {A : List Nat} (k : Kp h h' (idn :: A)) (hA : ∀ j, j ∈ A → (j ∈ idsOf K ∨ j ∈ idsOf W ∨ j ∈ idsOf D)) : Rd h0 h' id ms bad := by
  refine r.keep k (fun q => ?_) (fun j hj => ?_)
  · simp only [List.mem_cons] at q
    rcases q with q | q
    · exact b.ne q
    · rcases hA id q with z | z | z
      · exact (b.kd id z).1 rfl
      · exact (b.wd id z).1 rfl
      · exact (b.dd id z).1 rfl
  · simp only [List.mem_cons] at hj
    rcases hj with q | q
    · have := b.old.2.1; omega
    · rcases hA j q with z | z | z
      · exact b.old.2.2.1 j z
      · exact b.old.2.2.2.1 j z
      · exact b.old.2.2.2.2 j z

def Fit (n : N) (ms : List Int) : Prop := n.keys.length + ms.length ≤ 1000000 ∧ n.vals.length + ms.length ≤ 1000000 ∧ n.kids.length + ms.length ≤ 1000001
def LQ (h0 h' : List Ob) (id idn : Nat) (n : N) (o : Option (N × List Int)) : Prop := ∃ n' K' W' D' ms' bad', Rd h0 h' id ms' bad' ∧ NB h0 h' id idn n' K' W' D' ∧ Kp h0 h' [] ∧ (match o with | none => bad' = true | some (m, e) => bad' = false ∧ ms' = e ∧ n' = m)

theorem stop47 {lf f c : Nat} {h0 h : List Ob} {id idn : Nat} {ms : List Int} {bad : Bool} {n : N} {K W D : V} (r : Rd h0 h id ms bad) (b : NB h0 h id idn n K W D) (kr : Kp h0 h []) (hs : bad = true ∨ c = 0) :
    To3 (L47_2 lf (f + 1) (.ptr id 0 0) (.ptr idn 0 0) c h) fun x vs h' => x = .exit 0 ∧ vs = [] ∧ LQ h0 h' id idn n (if bad = true then none else some (n, ms)) := by
  rw [L47_2, B47_2, S47 r c]
  have : ¬ (0 < c ∧ bad = false) := by
    rcases hs with rfl | rfl
    · simp
    · simp
  simp only [if_neg this, bind3_some, show decide (EX.exit 0 = EX.normal) = false from rfl, decide_true, cB_true, cB_false, castNil_nil]
  refine To3.some ⟨rfl, rfl, n, K, W, D, ms, bad, r, b, kr, ?_⟩
  cases bad <;> simp

theorem leaf47 (lf : Nat) (hf0 : 1000000 < lf) {h0 : List Ob} {id idn : Nat} : ∀ (L f c : Nat) (h : List Ob) (ms : List Int) (n : N) (K W D : V), ms.length ≤ L → L + 2 ≤ f → c ≤ 1000000000 → Rd h0 h id ms false → NB h0 h id idn n K W D → Kp h0 h [] → Byt ms → ms.length ≤ 1000000 → n.leaf = true → Fit n ms →
    To3 (L47_2 lf f (.ptr id 0 0) (.ptr idn 0 0) c h) fun x vs h' => x = .exit 0 ∧ vs = [] ∧ LQ h0 h' id idn n ((cellsP oneL c ms).map fun q => (⟨true, n.keys ++ q.1.map (·.1), n.vals ++ q.1.map (·.2), n.kids⟩, q.2)) := by
  intro L
  induction L using Nat.strongRecOn with
  | _ L ih =>
    intro f c h ms n K W D hL hf hc r b kr hb hl hleaf hfit
    obtain ⟨f, rfl⟩ : ∃ g, f = g + 2 := ⟨f - 2, by omega⟩
    cases c with
    | zero =>
      refine (stop47 (f := f + 1) r b kr (.inr rfl)).mono ?_
      rintro x vs h' ⟨rfl, rfl, q⟩
      refine ⟨rfl, rfl, ?_⟩
      have e : (⟨true, n.keys ++ [], n.vals ++ [], n.kids⟩ : N) = n := by cases n; simp at hleaf ⊢; exact hleaf
      simp only [cellsP, Option.map_some, List.map_nil, e]
      simpa using q
    | succ c =>
      have hw : IntKind.i64.wrap (((c + 1 : Nat) : Int) - 1) = (c : Int) := by rw [wrap_i64 (by omega) (by omega)]; omega
      rw [L47_2, B47_2, S47 r (c + 1)]
      have f1 := b.st.faddr 1 0 0
      have l1 : er (.load1 (.c (.ptr idn 0 1))) h = some K := b.st.load1 rfl
      simp only [Nat.zero_add] at f1
      simp only [show (0 < c + 1 ∧ false = false) from ⟨by omega, rfl⟩, and_self, if_true, bind3_some, decide_true, cB_true, castNil_nil, f1, l1, bind1_some]
      refine To3.bind2 (pieceX r b kr hb hl hf0) ?_
      rintro v h1 ⟨b1, kr1, hv, p1, c1, bad1, sv, r1, hb1, hl1, hx1⟩
      have f1' := b1.st.faddr 1 0 0
      have l1' : er (.load1 (.c (.ptr idn 0 1))) h1 = some K := b1.st.load1 rfl
      simp only [Nat.zero_add] at f1'
      rw [reP_pos _ l1', reP_pos _ f1']
      have hk1 := hfit.1
      have hk2 := hfit.2.1
      refine To3.bind2 (growK b1 sv hv (by omega)) ?_
      rintro x2 h2 ⟨st2, k2, g2⟩
      have f2 := st2.faddr 1 0 0
      have l2 : er (.load1 (.c (.ptr idn 0 1))) h2 = some K := st2.load1 rfl
      simp only [Nat.zero_add] at f2
      rw [reP_pos _ l2, reP_pos _ f2]
      refine To3.bind2 g2 ?_
      rintro K' h3 ⟨st3, k3, g3⟩
      have f3 := st3.faddr 1 0 0
      simp only [Nat.zero_add] at f3
      simp only [f3, bind1_some]
      refine To3.bind2 g3 ?_
      rintro u h4 ⟨b4, k4⟩
      have r4 := b1.rdKeep r1 k4 (fun j hj => .inl hj)
      have kr4 := b1.kr kr1 k4 (fun j hj => by simp only [List.mem_cons, List.mem_append] at hj ⊢; rcases hj with z | z; exact .inr (.inl z); exact .inr (.inr (.inl z)))
      have q0 := b4.st.faddr 0 0 0
      have q1 : er (.load1 (.c (.ptr idn 0 0))) h4 = some (.bool n.leaf) := b4.st.load1 rfl
      have q2 := b4.st.faddr 2 0 0
      have q3 : er (.load1 (.c (.ptr idn 0 2))) h4 = some W := b4.st.load1 rfl
      simp only [Nat.zero_add] at q0 q2
      simp only [q0, q1, hleaf, bind1_some, castBool_bool, cB_true, q2, q3]
      refine To3.bind2 (pieceX r4 b4 kr4 hb1 (by omega) hf0) ?_
      rintro v5 h5 ⟨b5, kr5, hv5, p2, c2, bad2, sv5, r5, hb5, hl5, hx5⟩
      have q2' := b5.st.faddr 2 0 0
      have q3' : er (.load1 (.c (.ptr idn 0 2))) h5 = some W := b5.st.load1 rfl
      simp only [Nat.zero_add] at q2'
      rw [reP_pos _ q3', reP_pos _ q2']
      refine To3.bind2 (growW b5 sv5 hv5 (by simp only; omega)) ?_
      rintro x6 h6 ⟨st6, k6, g6⟩
      have y2 := st6.faddr 2 0 0
      have y3 : er (.load1 (.c (.ptr idn 0 2))) h6 = some W := st6.load1 rfl
      simp only [Nat.zero_add] at y2
      rw [reP_pos _ y3, reP_pos _ y2]
      refine To3.bind2 g6 ?_
      rintro W' h7 ⟨st7, k7, g7⟩
      have w2 := st7.faddr 2 0 0
      simp only [Nat.zero_add] at w2
      simp only [w2, bind1_some]
      refine To3.bind2 g7 ?_
      rintro u h8 ⟨b8, k8⟩
      have r8 := b5.rdKeep r5 k8 (fun j hj => .inr (.inl hj))
      have kr8 := b5.kr kr5 k8 (fun j hj => by simp only [List.mem_cons, List.mem_append] at hj ⊢; rcases hj with z | z; exact .inr (.inl z); exact .inr (.inr (.inr (.inl z))))
      simp only [hw]
      cases bad2 with
      | true =>
        have hone : oneL ms = none := by
          unfold oneL
          rcases hx1 with ⟨z1, _, z2⟩ | ⟨z1, z2⟩
          · rw [z2]
            simp only
            rcases hx5 with ⟨y1, _⟩ | ⟨_, y1⟩
            · cases y1
            · rcases y1 with y1 | y1
              · rw [z1] at y1; cases y1
              · rw [y1]
          · rcases z2 with z2 | z2
            · cases z2
            · rw [z2]
        refine (stop47 (f := f) r8 b8 kr8 (.inl rfl)).mono ?_
        rintro x vs h' ⟨rfl, rfl, q⟩
        refine ⟨rfl, rfl, ?_⟩
        simp only [cellsP, hone, Option.map_none]
        simpa [LQ] using q
      | false =>
        have h5' : bad1 = false ∧ pieceP c1 = some (p2, c2) := by
          rcases hx5 with ⟨_, y1, y2⟩ | ⟨y1, _⟩
          · exact ⟨y1, y2⟩
          · cases y1
        have h1' : pieceP ms = some (p1, c1) := by
          rcases hx1 with ⟨_, _, z2⟩ | ⟨z1, _⟩
          · exact z2
          · rw [h5'.1] at z1; cases z1
        have len1 := pieceP_len hb h1'
        have len2 := pieceP_len hb1 h5'.2
        have hone : oneL ms = some ((p1, p2), c2) := by
          unfold oneL; rw [h1']; simp only; rw [h5'.2]
        have hfit2 : Fit { n with keys := n.keys ++ [p1], vals := n.vals ++ [p2] } c2 := by
          have := hfit.2.2
          refine ⟨?_, ?_, ?_⟩ <;> simp <;> omega
        refine (ih (L - 1) (by omega) (f + 1) c h8 c2 _ K' W' D (by omega) (by omega) (by omega) r8 b8 kr8 hb5 (by omega) hleaf hfit2).mono ?_
        rintro x vs h' ⟨rfl, rfl, q⟩
        refine ⟨rfl, rfl, ?_⟩
        simp only [cellsP, hone]
        cases hcs : cellsP oneL c c2 with
        | none => rw [hcs] at q; simpa [LQ] using q
        | some o =>
          obtain ⟨cs, e⟩ := o
          rw [hcs] at q
          simpa [LQ] using q

theorem inner47 (lf : Nat) (hf0 : 1000000 < lf) {h0 : List Ob} {id idn : Nat} : ∀ (L f c : Nat) (h : List Ob) (ms : List Int) (n : N) (K W D : V), ms.length ≤ L → L + 2 ≤ f → c ≤ 1000000000 → Rd h0 h id ms false → NB h0 h id idn n K W D → Kp h0 h [] → Byt ms → ms.length ≤ 1000000 → n.leaf = false → Fit n ms →
    To3 (L47_2 lf f (.ptr id 0 0) (.ptr idn 0 0) c h) fun x vs h' => x = .exit 0 ∧ vs = [] ∧ LQ h0 h' id idn n ((cellsP oneI c ms).map fun q => (⟨false, n.keys ++ q.1.map (·.1), n.vals, n.kids ++ q.1.map (·.2)⟩, q.2)) := by
  intro L
  induction L using Nat.strongRecOn with
  | _ L ih =>
    intro f c h ms n K W D hL hf hc r b kr hb hl hleaf hfit
    obtain ⟨f, rfl⟩ : ∃ g, f = g + 2 := ⟨f - 2, by omega⟩
    cases c with
    | zero =>
      refine (stop47 (f := f + 1) r b kr (.inr rfl)).mono ?_
      rintro x vs h' ⟨rfl, rfl, q⟩
      refine ⟨rfl, rfl, ?_⟩
      have e : (⟨false, n.keys ++ [], n.vals, n.kids ++ []⟩ : N) = n := by cases n; simp at hleaf ⊢; exact hleaf
      simp only [cellsP, Option.map_some, List.map_nil, e]
      simpa using q
    | succ c =>
      have hw : IntKind.i64.wrap (((c + 1 : Nat) : Int) - 1) = (c : Int) := by rw [wrap_i64 (by omega) (by omega)]; omega
      rw [L47_2, B47_2, S47 r (c + 1)]
      have f1 := b.st.faddr 1 0 0
      have l1 : er (.load1 (.c (.ptr idn 0 1))) h = some K := b.st.load1 rfl
      simp only [Nat.zero_add] at f1
      simp only [show (0 < c + 1 ∧ false = false) from ⟨by omega, rfl⟩, and_self, if_true, bind3_some, decide_true, cB_true, castNil_nil, f1, l1, bind1_some]
      refine To3.bind2 (pieceX r b kr hb hl hf0) ?_
      rintro v h1 ⟨b1, kr1, hv, p1, c1, bad1, sv, r1, hb1, hl1, hx1⟩
      have f1' := b1.st.faddr 1 0 0
      have l1' : er (.load1 (.c (.ptr idn 0 1))) h1 = some K := b1.st.load1 rfl
      simp only [Nat.zero_add] at f1'
      rw [reP_pos _ l1', reP_pos _ f1']
      have hk1 := hfit.1
      have hk3 := hfit.2.2
      refine To3.bind2 (growK b1 sv hv (by omega)) ?_
      rintro x2 h2 ⟨st2, k2, g2⟩
      have f2 := st2.faddr 1 0 0
      have l2 : er (.load1 (.c (.ptr idn 0 1))) h2 = some K := st2.load1 rfl
      simp only [Nat.zero_add] at f2
      rw [reP_pos _ l2, reP_pos _ f2]
      refine To3.bind2 g2 ?_
      rintro K' h3 ⟨st3, k3, g3⟩
      have f3 := st3.faddr 1 0 0
      simp only [Nat.zero_add] at f3
      simp only [f3, bind1_some]
      refine To3.bind2 g3 ?_
      rintro u h4 ⟨b4, k4⟩
      have r4 := b1.rdKeep r1 k4 (fun j hj => .inl hj)
      have kr4 := b1.kr kr1 k4 (fun j hj => by simp only [List.mem_cons, List.mem_append] at hj ⊢; rcases hj with z | z; exact .inr (.inl z); exact .inr (.inr (.inl z)))
      have q0 := b4.st.faddr 0 0 0
      have q1 : er (.load1 (.c (.ptr idn 0 0))) h4 = some (.bool n.leaf) := b4.st.load1 rfl
      have q2 := b4.st.faddr 3 0 0
      have q3 : er (.load1 (.c (.ptr idn 0 3))) h4 = some D := b4.st.load1 rfl
      simp only [Nat.zero_add] at q0 q2
      simp only [q0, q1, hleaf, bind1_some, castBool_bool, cB_false, q2, q3]
      refine To3.bind2 (num69 r4 hb1 (by omega) (by omega) (bound := 10000) (by decide) (by decide)) ?_
      rintro v5 h5 ⟨k5, hx5⟩
      have b5 := b4.rd k5
      have kr5 := b4.kr kr4 k5 (fun j hj => by simp at hj; simp [hj])
      obtain ⟨k2v, c2, bad2, rfl, r5, hb5, hl5, hy5⟩ : ∃ k2v c2 bad2, v5 = .int .i64 k2v ∧ Rd h0 h5 id c2 bad2 ∧ Byt c2 ∧ c2.length ≤ c1.length ∧ ((bad2 = false ∧ bad1 = false ∧ numP 10000 c1 = some (k2v, c2)) ∨ (bad2 = true ∧ (bad1 = true ∨ numP 10000 c1 = none))) := by
        rcases hx5 with ⟨z1, k2v, c2, z2, z3, z4⟩ | ⟨z1, z2, z3⟩
        · obtain ⟨g1, _, _, _, _, _, g7⟩ := numP_back hb1 z2
          exact ⟨k2v, c2, false, z3, z4, by rw [g7]; exact Byt.drop hb1 _, by rw [g7]; simp, .inl ⟨rfl, z1, z2⟩⟩
        · exact ⟨0, c1, true, z2, z3, hb1, Nat.le_refl _, .inr ⟨rfl, z1⟩⟩
      have q2' := b5.st.faddr 3 0 0
      have q3' : er (.load1 (.c (.ptr idn 0 3))) h5 = some D := b5.st.load1 rfl
      simp only [Nat.zero_add] at q2'
      simp only [castInt_int]
      rw [reP_pos _ q3', reP_pos _ q2']
      refine To3.bind2 (growD b5 (by simp only; omega)) ?_
      rintro x6 h6 ⟨st6, k6, g6⟩
      have y2 := st6.faddr 3 0 0
      have y3 : er (.load1 (.c (.ptr idn 0 3))) h6 = some D := st6.load1 rfl
      simp only [Nat.zero_add] at y2
      rw [reP_pos _ y3, reP_pos _ y2]
      refine To3.bind2 g6 ?_
      rintro D' h7 ⟨st7, k7, g7⟩
      have w2 := st7.faddr 3 0 0
      simp only [Nat.zero_add] at w2
      simp only [w2, bind1_some]
      refine To3.bind2 g7 ?_
      rintro u h8 ⟨b8, k8⟩
      have r8 := b5.rdKeep r5 k8 (fun j hj => .inr (.inr hj))
      have kr8 := b5.kr kr5 k8 (fun j hj => by simp only [List.mem_cons, List.mem_append] at hj ⊢; rcases hj with z | z; exact .inr (.inl z); exact .inr (.inr (.inr (.inr z))))
      simp only [hw]
      cases bad2 with
      | true =>
        have hone : oneI ms = none := by
          unfold oneI
          rcases hx1 with ⟨z1, _, z2⟩ | ⟨z1, z2⟩
          · rw [z2]
            simp only
            rcases hy5 with ⟨y1, _⟩ | ⟨_, y1⟩
            · cases y1
            · rcases y1 with y1 | y1
              · rw [z1] at y1; cases y1
              · rw [y1]
          · rcases z2 with z2 | z2
            · cases z2
            · rw [z2]
        refine (stop47 (f := f) r8 b8 kr8 (.inl rfl)).mono ?_
        rintro x vs h' ⟨rfl, rfl, q⟩
        refine ⟨rfl, rfl, ?_⟩
        simp only [cellsP, hone, Option.map_none]
        simpa [LQ] using q
      | false =>
        have h5' : bad1 = false ∧ numP 10000 c1 = some (k2v, c2) := by
          rcases hy5 with ⟨_, y1, y2⟩ | ⟨y1, _⟩
          · exact ⟨y1, y2⟩
          · cases y1
        have h1' : pieceP ms = some (p1, c1) := by
          rcases hx1 with ⟨_, _, z2⟩ | ⟨z1, _⟩
          · exact z2
          · rw [h5'.1] at z1; cases z1
        have len1 := pieceP_len hb h1'
        have hone : oneI ms = some ((p1, k2v), c2) := by
          unfold oneI; rw [h1']; simp only; rw [h5'.2]
        have hfit2 : Fit { n with keys := n.keys ++ [p1], kids := n.kids ++ [k2v] } c2 := by
          have := hfit.2.1
          refine ⟨?_, ?_, ?_⟩ <;> simp <;> omega
        refine (ih (L - 1) (by omega) (f + 1) c h8 c2 _ K' W D' (by omega) (by omega) (by omega) r8 b8 kr8 hb5 (by omega) hleaf hfit2).mono ?_
        rintro x vs h' ⟨rfl, rfl, q⟩
        refine ⟨rfl, rfl, ?_⟩
        simp only [cellsP, hone]
        cases hcs : cellsP oneI c c2 with
        | none => rw [hcs] at q; simpa [LQ] using q
        | some o =>
          obtain ⟨cs, e⟩ := o
          rw [hcs] at q
          simpa [LQ] using q
end Go.Proofs.Ytdcdmpgigmhhpaa.Nd
