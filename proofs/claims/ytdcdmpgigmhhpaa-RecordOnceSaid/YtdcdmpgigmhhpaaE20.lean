/- The layer E, part 20: a region whose order is drawn: from one order to all. No condition. -/
import Derived.Test.YtdcdmpgigmhhpaaE19
namespace Go.Proofs.Ytdcdmpgigmhhpaa.E
set_option linter.unusedSimpArgs false
set_option linter.unusedVariables false

theorem wpI_cons {P : Program} {Q : Post} {i : EI} {rest : List EI} {t : Nat → V} {h : List Ob} :
    wpI P Q (i :: rest) t h ↔ step P ⟨i.dst, i.guard, i.act⟩ t h fun t' h' => andRe i.re t' h' (wpI P Q rest t' h') := by
  simp only [wpI, step]
  split <;> rename_i hw <;> rw [hw]

theorem andRe_iff {gs : List EG} {t : Nat → V} {h : List Ob} {K : Prop} : andRe gs t h K ↔ (∀ g, g ∈ gs → reck g t h) ∧ K := by
  induction gs with
  | nil => simp [andRe]
  | cons g gs ih => simp [andRe, ih, and_assoc]

theorem step_mono {P : Program} {g : EG} {t t' : Nat → V} {h : List Ob} {K K' : (Nat → V) → List Ob → Prop} (a : Agree t t' g.rd) (s : step P g t h K) (hk : ∀ v h', K (putT t g.dst v) h' → K' (putT t' g.dst v) h') : step P g t' h K' := by
  obtain ⟨a1, a2⟩ := agree_append.1 a
  unfold step at s ⊢
  rw [← wantE_congr a1]
  split at s
  · exact wpA_mono a2 s hk
  · exact hk _ _ s
  · exact s.elim

def annI (cs : Nat → EG) (re : Nat → List Nat) (i : Nat) : EI := ⟨(cs i).dst, (cs i).guard, (cs i).act, (re i).map cs⟩

def selfOk (g : EG) : Bool := match g.dst with
  | some d => !g.rd.contains d
  | none => true

theorem agree_put' {a b : EG} (h : apart a b = true) (t : Nat → V) (v : V) : Agree (putT t a.dst v) t b.rd := agree_put (fun s hs => apart_left h s hs) v

theorem put_get {t : Nat → V} {d : Nat} {v : V} : putT t (some d) v d = v := by simp [putT, upd]

theorem put_other' {t : Nat → V} {a : EG} {d : Nat} (h : a.dst ≠ some d) (v : V) : putT t a.dst v d = t d := by
  cases ha : a.dst with
  | none => rfl
  | some e => simp only [putT, upd]; rw [if_neg (fun q => h (by rw [ha, q]))]

theorem apart_dst {a b : EG} (h : apart a b = true) {d : Nat} (ha : a.dst = some d) : b.dst ≠ some d := by
  intro hb
  unfold apart at h
  rw [ha, hb] at h
  simp at h

/-- The one writes nothing that the other uses. -/
def wr (b r : EG) : Bool := match b.dst with
  | some d => !r.rd.contains d && r.dst != some d
  | none => true

theorem wr_spec {b r : EG} (h : wr b r = true) : (∀ s, b.dst = some s → s ∉ r.rd) ∧ ∀ s, b.dst = some s → r.dst ≠ some s := by
  unfold wr at h
  refine ⟨fun s hs => ?_, fun s hs => ?_⟩ <;> rw [hs] at h <;> simp at h
  · exact h.1
  · exact h.2

theorem reck_put {b r : EG} (hb : wr b r = true) {t : Nat → V} {v : V} {h : List Ob} (k : reck r (putT t b.dst v) h) : reck r t h := by
  obtain ⟨h1, h2⟩ := wr_spec hb
  unfold reck at k ⊢
  cases hd : r.dst with
  | none => rw [hd] at k; exact k.elim
  | some d =>
    rw [hd] at k
    simp only at k ⊢
    rw [evG_congr (agree_put h1 v)] at k
    rw [put_other' (fun q => h2 d q hd)] at k
    exact k

def okPair (cs : Nat → EG) (re : Nat → List Nat) (pc : Nat → List Nat) (a i : Nat) : Bool :=
  decide ((cs a).act.kind < 2) && apart (cs a) (cs i) && selfOk (cs a) && (!((cs i).act.kind == 2 && (cs a).act.kind == 1) || (re i).contains a) &&
    (re i).all fun r => r == a || (pc r).contains a || wr (cs a) (cs r)

theorem okPair_spec {cs : Nat → EG} {re pc : Nat → List Nat} {a i : Nat} (h : okPair cs re pc a i = true) :
    (cs a).act.kind < 2 ∧ apart (cs a) (cs i) = true ∧ selfOk (cs a) = true ∧ ((cs i).act.kind = 2 → (cs a).act.kind = 1 → a ∈ re i) ∧ ∀ r, r ∈ re i → r = a ∨ a ∈ pc r ∨ wr (cs a) (cs r) = true := by
  simp only [okPair, Bool.and_eq_true, decide_eq_true_eq, Bool.or_eq_true, Bool.not_eq_true', List.all_eq_true, beq_iff_eq, List.contains_eq_mem, Bool.and_eq_false_iff, beq_eq_false_iff_ne] at h
  obtain ⟨⟨⟨⟨h1, h2⟩, h3⟩, h4⟩, h5⟩ := h
  refine ⟨h1, h2, h3, fun q1 q2 => ?_, fun r hr => ?_⟩
  · rcases h4 with (z | z) | z
    · exact absurd q1 z
    · exact absurd q2 z
    · exact z
  · rcases h5 r hr with (z | z) | z
    · exact .inl z
    · exact .inr (.inl z)
    · exact .inr (.inr z)

theorem kind_le (x : EA) : x.kind ≤ 2 := by
  cases x with
  | op o => cases o <;> simp [EA.kind, EOp.kind]
  | _ => simp [EA.kind]

/-- Of an order whose first ones may come behind a later one: that one first. -/
theorem move {P : Program} {Q : Post} {cs : Nat → EG} {re : Nat → List Nat} {i : Nat} (hpi : (cs i).act.kind < 2 → re i = []) : ∀ (A B : List Nat) (t : Nat → V) (h : List Ob),
    (∀ a, a ∈ A → (cs a).act.kind < 2 ∧ re a = [] ∧ apart (cs a) (cs i) = true ∧ selfOk (cs a) = true ∧ ((cs i).act.kind = 2 → (cs a).act.kind = 1 → a ∈ re i)) →
    (∀ A1 b A2, A = A1 ++ b :: A2 → ∀ r, r ∈ re i → r ≠ b → r ∉ A2 → wr (cs b) (cs r) = true) → A.Nodup →
    wpI P Q ((A ++ i :: B).map (annI cs re)) t h →
    step P (cs i) t h fun t' h' => (∀ r, r ∈ re i → r ∉ A → reck (cs r) t' h') ∧ wpI P Q ((A ++ B).map (annI cs re)) t' h'
  | [], B, t, h, _, _, _, w => by
    simp only [List.nil_append, List.map_cons] at w
    rw [wpI_cons] at w
    refine step_mono (fun _ _ => rfl) w (fun v h' k => ?_)
    obtain ⟨k1, k2⟩ := andRe_iff.1 k
    exact ⟨fun r hr _ => k1 _ (List.mem_map.2 ⟨r, hr, rfl⟩), k2⟩
  | a :: A, B, t, h, hA, hR, hn, w => by
    obtain ⟨ka, rea, apa, sa, rd⟩ := hA a (by simp)
    simp only [List.cons_append, List.map_cons] at w
    rw [wpI_cons] at w
    obtain ⟨va, e1, w1⟩ := (step_look (g := cs a) ka).1 w
    have w1' := andRe_iff.1 w1
    have w2 : wpI P Q ((A ++ i :: B).map (annI cs re)) (putT t (cs a).dst va) h := w1'.2
    have hn' := List.nodup_cons.1 hn
    have ih := move hpi A B (putT t (cs a).dst va) h (fun b hb => hA b (by simp [hb]))
      (fun A1 b A2 hs r hr hne hrA => hR (a :: A1) b A2 (by rw [hs]; rfl) r hr hne hrA) hn'.2 w2
    have e2 : ∀ v, evG (cs a) (putT t (cs i).dst v) h = some va := fun v => by
      rw [evG_congr (agree_put' (apart_symm apa) t v)]; exact e1
    have fin : ∀ v h', evG (cs a) (putT t (cs i).dst v) h' = some va → wpI P Q ((A ++ B).map (annI cs re)) (putT (putT t (cs i).dst v) (cs a).dst va) h' →
        wpI P Q ((a :: A ++ B).map (annI cs re)) (putT t (cs i).dst v) h' := by
      intro v h' e k
      simp only [List.cons_append, List.map_cons]
      rw [wpI_cons]
      refine (step_look (g := cs a) ka).2 ⟨va, e, ?_⟩
      show andRe ((re a).map cs) _ _ _
      rw [rea]
      exact k
    have res : ∀ v h', (∀ r, r ∈ re i → r ∉ A → reck (cs r) (putT (putT t (cs i).dst v) (cs a).dst va) h') → ∀ r, r ∈ re i → r ∉ a :: A → reck (cs r) (putT t (cs i).dst v) h' := by
      intro v h' k1 r hr hra
      have hra' := not_or.1 (fun q => hra (List.mem_cons.2 q))
      exact reck_put (hR [] a A rfl r hr hra'.1 hra'.2) (k1 r hr hra'.2)
    rcases Nat.lt_or_ge (cs i).act.kind 2 with q | q
    · obtain ⟨vi, g1, g2, g3⟩ := (step_look q).1 ih
      rw [put_comm apa] at g2 g3
      rw [evG_congr (agree_put' apa t va)] at g1
      exact (step_look q).2 ⟨vi, g1, res vi h g2, fin vi h (e2 vi) g3⟩
    · refine step_mono (agree_put' apa t va) ih (fun v h' k => ?_)
      obtain ⟨k1, k2⟩ := k
      rw [put_comm apa] at k1 k2
      refine ⟨res v h' k1, fin v h' ?_ k2⟩
      rcases Nat.lt_or_ge (cs a).act.kind 1 with z | z
      · exact evG_deaf (by omega) (e2 v) h'
      · have hk2 : (cs i).act.kind = 2 := by have := kind_le (cs i).act; omega
        have := k1 a (rd hk2 (by omega)) hn'.1
        unfold reck at this
        cases hd : (cs a).dst with
        | none => rw [hd] at this; exact this.elim
        | some d =>
          rw [hd] at this
          simp only [put_get] at this
          have hs : Agree (putT (putT t (cs i).dst v) (some d) va) (putT t (cs i).dst v) (cs a).rd := by
            refine agree_put (fun s hs => ?_) va
            injection hs with hs; subst hs
            unfold selfOk at sa
            rw [hd] at sa
            simpa using sa
          rw [evG_congr hs] at this
          exact this

end Go.Proofs.Ytdcdmpgigmhhpaa.E
