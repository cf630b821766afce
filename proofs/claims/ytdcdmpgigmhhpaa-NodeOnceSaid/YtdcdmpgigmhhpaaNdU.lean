/- Nodes: a node that is being built, and the loop that reads its cells. No condition. -/
import Derived.Test.YtdcdmpgigmhhpaaNdT
namespace Go.Proofs.Ytdcdmpgigmhhpaa.Nd
open Go Go.Proofs.Ytdcdmpgigmhhpaa.E
open Go.Proofs.Ytdcdmpgigmhhpaa.Va Go.Proofs.Ytdcdmpgigmhhpaa.Rc
set_option maxRecDepth 100000
set_option linter.unusedVariables false
set_option linter.unusedSimpArgs false

/-- A slice of pieces; none of them lies in what may turn. -/
def PS (h : List Ob) (v : V) (ks : List (List Int)) (A : List Nat) : Prop := ∃ es, Sl 1 h v es ∧ es.length = ks.length ∧ ∀ (i : Nat) (hi : i < ks.length), ∃ e, es[i]? = some e ∧ Sl 1 h e (bv ks[i]) ∧ ∀ j, j ∈ idsOf e → j ∉ A
theorem PS.ss {h : List Ob} {v : V} {ks : List (List Int)} {A : List Nat} (s : PS h v ks A) : SS h v ks := by
  obtain ⟨es, s1, s2, s3⟩ := s
  exact ⟨es, s1, s2, fun i hi => by obtain ⟨e, e1, e2, _⟩ := s3 i hi; exact ⟨e, e1, e2⟩⟩
theorem PS.step {h h' : List Ob} {v : V} {ks : List (List Int)} {A B A' : List Nat} (s : PS h v ks A) (k : Kp h h' B) (hB : ∀ j, j ∈ B → j ∈ A) (hv : ∀ j, j ∈ idsOf v → j ∉ B) (hA : ∀ j, j ∈ A' → j ∈ A ∨ h.length ≤ j) : PS h' v ks A' := by
  obtain ⟨es, s1, s2, s3⟩ := s
  refine ⟨es, s1.keep k hv, s2, fun i hi => ?_⟩
  obtain ⟨e, e1, e2, e3⟩ := s3 i hi
  refine ⟨e, e1, e2.keep k (fun j hj q => e3 j hj (hB j q)), fun j hj q => ?_⟩
  rcases hA j q with z | z
  · exact e3 j hj z
  · have := e2.lt hj; omega
theorem PS.snoc {h : List Ob} {v e : V} {ks : List (List Int)} {p : List Int} {A : List Nat} {es : List V} (s1 : Sl 1 h v (es ++ [e])) (s2 : es.length = ks.length) (s3 : ∀ (i : Nat) (hi : i < ks.length), ∃ e, es[i]? = some e ∧ Sl 1 h e (bv ks[i]) ∧ ∀ j, j ∈ idsOf e → j ∉ A) (se : Sl 1 h e (bv p)) (ne : ∀ j, j ∈ idsOf e → j ∉ A) : PS h v (ks ++ [p]) A := by
  refine ⟨es ++ [e], s1, by simp [s2], fun i hi => ?_⟩
  by_cases c : i < ks.length
  · obtain ⟨x, x1, x2, x3⟩ := s3 i c
    refine ⟨x, by rw [List.getElem?_append_left (by omega)]; exact x1, ?_, x3⟩
    rw [List.getElem_append_left c]; exact x2
  · have : i = ks.length := by simp at hi; omega
    subst this
    refine ⟨e, by rw [← s2]; simp, ?_, ne⟩
    simpa using se

structure NB (h0 h : List Ob) (id idn : Nat) (n : N) (K W D : V) : Prop where
  st : St h idn [.bool n.leaf, K, W, D]
  k : PS h K n.keys (id :: idn :: (idsOf K ++ (idsOf W ++ idsOf D)))
  w : PS h W n.vals (id :: idn :: (idsOf K ++ (idsOf W ++ idsOf D)))
  d : Sl 1 h D (iv n.kids)
  ak : Ap K
  aw : Ap W
  ad : Ap D
  ne : id ≠ idn
  kd : ∀ j, j ∈ idsOf K → j ≠ id ∧ j ≠ idn ∧ j ∉ idsOf W ∧ j ∉ idsOf D
  wd : ∀ j, j ∈ idsOf W → j ≠ id ∧ j ≠ idn ∧ j ∉ idsOf D
  dd : ∀ j, j ∈ idsOf D → j ≠ id ∧ j ≠ idn
  old : h0.length ≤ id ∧ h0.length ≤ idn ∧ (∀ j, j ∈ idsOf K → h0.length ≤ j) ∧ (∀ j, j ∈ idsOf W → h0.length ≤ j) ∧ ∀ j, j ∈ idsOf D → h0.length ≤ j
  idlt : id < h.length
theorem NB.rd {h0 h h' : List Ob} {id idn : Nat} {n : N} {K W D : V} (b : NB h0 h id idn n K W D) (k : Kp h h' [id]) : NB h0 h' id idn n K W D :=
  ⟨b.st.keep k (by simp; exact fun e => b.ne e.symm), b.k.step k (fun j hj => by simp at hj; simp [hj]) (fun j hj q => (b.kd j hj).1 (by simpa using q)) (fun j hj => .inl hj),
   b.w.step k (fun j hj => by simp at hj; simp [hj]) (fun j hj q => (b.wd j hj).1 (by simpa using q)) (fun j hj => .inl hj), b.d.keep k (fun j hj q => (b.dd j hj).1 (by simpa using q)), b.ak, b.aw, b.ad, b.ne, b.kd, b.wd, b.dd, b.old, Nat.lt_of_lt_of_le b.idlt k.len⟩
theorem NB.nr {h0 h : List Ob} {id idn : Nat} {n : N} {K W D : V} (b : NB h0 h id idn n K W D) : NR h K W D n := by
  obtain ⟨es, s1, _⟩ := b.k
  obtain ⟨fs, t1, _⟩ := b.w
  exact ⟨b.k.ss, b.w.ss, b.d, s1.sc, t1.sc, b.d.sc⟩

theorem growK {h0 h : List Ob} {id idn : Nat} {n : N} {K W D e : V} {p : List Int} (b : NB h0 h id idn n K W D) (se : Sl 1 h e (bv p)) (he : ∀ j, j ∈ idsOf e → j ∉ id :: idn :: (idsOf K ++ (idsOf W ++ idsOf D))) (hl : n.keys.length ≤ 1000001) :
    To2 (ev (.bslice 1 .nils 1 [(0, .c e)]) h) fun x h2 => St h2 idn [.bool n.leaf, K, W, D] ∧ Kp h h2 [] ∧ To2 (ev (.app 1 24 (.c K) (.c x)) h2) fun K' h3 => St h3 idn [.bool n.leaf, K, W, D] ∧ Kp h h3 (idsOf K) ∧
      To2 (ev (.store 1 (.c (.ptr idn 0 1)) (.c K')) h3) fun _ h4 => NB h0 h4 id idn { n with keys := n.keys ++ [p] } K' W D ∧ Kp h h4 (idn :: idsOf K) := by
  refine (bslice_to (len := 1) (ps := [(0, e)]) (es := [e]) (by decide) (by simp [se.plain]) rfl rfl).mono ?_
  rintro x h2 ⟨-, -, sx, -, k2, -⟩
  refine ⟨b.st.kp k2, k2, ?_⟩
  obtain ⟨es, s1, s2, s3⟩ := b.k
  refine (app_to (s1.kp k2) b.ak sx.c (by simp [roomMax]; omega)).mono ?_
  rintro K' h3 ⟨s4, a4, k3, f3⟩
  have nk : idn ∉ idsOf K := fun q => (b.kd idn q).2.1 rfl
  have st3 := (b.st.kp k2).keep k3 nk
  have k13 : Kp h h3 (idsOf K) := k2.trans k3 (fun j hj => by cases hj) (fun j hj _ => hj)
  refine ⟨st3, k13, ?_⟩
  have hf : ∀ j, j ∈ idsOf K' → j ∈ idsOf K ∨ h.length ≤ j := fun j hj => (f3 j hj).imp (fun z => z) (fun z => by have := k2.len; omega)
  refine (st3.store1 (j := 1) (x := K') (by simp) s4.sc).mono ?_
  rintro u h4 ⟨st4, k4⟩
  have k14 : Kp h h4 (idn :: idsOf K) := k13.trans k4 (fun j hj _ => List.mem_cons_of_mem _ hj) (fun j hj _ => by simp at hj; simp [hj])
  have nidn : ∀ j, j ∈ idsOf K' → j ≠ idn := fun j hj => (hf j hj).elim (fun z => (b.kd j z).2.1) (fun z => by have := b.st.lt; omega)
  have hA : ∀ j, j ∈ id :: idn :: (idsOf K' ++ (idsOf W ++ idsOf D)) → j ∈ id :: idn :: (idsOf K ++ (idsOf W ++ idsOf D)) ∨ h.length ≤ j := by
    intro j hj
    simp only [List.mem_cons, List.mem_append] at hj ⊢
    rcases hj with z | z | z | z | z
    · exact .inl (.inl z)
    · exact .inl (.inr (.inl z))
    · rcases hf j z with y | y
      · exact .inl (.inr (.inr (.inl y)))
      · exact .inr y
    · exact .inl (.inr (.inr (.inr (.inl z))))
    · exact .inl (.inr (.inr (.inr (.inr z))))
  have hB : ∀ j, j ∈ idn :: idsOf K → j ∈ id :: idn :: (idsOf K ++ (idsOf W ++ idsOf D)) := by
    intro j hj
    simp only [List.mem_cons, List.mem_append] at hj ⊢
    rcases hj with z | z
    · exact .inr (.inl z)
    · exact .inr (.inr (.inl z))
  have pe : ∀ {e : V} {p : List Int}, Sl 1 h e (bv p) → (∀ j, j ∈ idsOf e → j ∉ id :: idn :: (idsOf K ++ (idsOf W ++ idsOf D))) → Sl 1 h4 e (bv p) ∧ ∀ j, j ∈ idsOf e → j ∉ id :: idn :: (idsOf K' ++ (idsOf W ++ idsOf D)) := by
    intro e p s hn
    refine ⟨s.keep k14 (fun j hj q => hn j hj (hB j q)), fun j hj q => ?_⟩
    rcases hA j q with z | z
    · exact hn j hj z
    · have := s.lt hj; omega
  refine ⟨⟨st4, ?_, ?_, ?_, a4, b.aw, b.ad, b.ne, ?_, b.wd, b.dd, ⟨b.old.1, b.old.2.1, ?_, b.old.2.2.2⟩, Nat.lt_of_lt_of_le b.idlt k14.len⟩, k14⟩
  · refine PS.snoc (es := es) (s4.keep k4 (fun j hj q => nidn j hj (by simpa using q))) s2 (fun i hi => ?_) (pe se he).1 (pe se he).2
    obtain ⟨x, x1, x2, x3⟩ := s3 i hi
    exact ⟨x, x1, (pe x2 x3).1, (pe x2 x3).2⟩
  · exact b.w.step k14 hB (fun j hj q => by
      simp only [List.mem_cons] at q
      rcases q with q | q
      · exact (b.wd j hj).2.1 q
      · exact (b.kd j q).2.2.1 hj) hA
  · exact b.d.keep k14 (fun j hj q => by
      simp only [List.mem_cons] at q
      rcases q with q | q
      · exact (b.dd j hj).2 q
      · exact (b.kd j q).2.2.2 hj)
  · intro j hj
    rcases hf j hj with z | z
    · exact b.kd j z
    · refine ⟨by have := b.idlt; omega, nidn j hj, fun q => ?_, fun q => ?_⟩
      · obtain ⟨fs, t1, _⟩ := b.w
        have := t1.lt q; omega
      · have := b.d.lt q; omega
  · intro j hj
    rcases hf j hj with z | z
    · exact b.old.2.2.1 j z
    · have := b.idlt; have := b.old.1; omega

theorem growW {h0 h : List Ob} {id idn : Nat} {n : N} {K W D e : V} {p : List Int} (b : NB h0 h id idn n K W D) (se : Sl 1 h e (bv p)) (he : ∀ j, j ∈ idsOf e → j ∉ id :: idn :: (idsOf K ++ (idsOf W ++ idsOf D))) (hl : n.vals.length ≤ 1000001) :
    To2 (ev (.bslice 1 .nils 1 [(0, .c e)]) h) fun x h2 => St h2 idn [.bool n.leaf, K, W, D] ∧ Kp h h2 [] ∧ To2 (ev (.app 1 24 (.c W) (.c x)) h2) fun W' h3 => St h3 idn [.bool n.leaf, K, W, D] ∧ Kp h h3 (idsOf W) ∧
      To2 (ev (.store 1 (.c (.ptr idn 0 2)) (.c W')) h3) fun _ h4 => NB h0 h4 id idn { n with vals := n.vals ++ [p] } K W' D ∧ Kp h h4 (idn :: idsOf W) := by
  refine (bslice_to (len := 1) (ps := [(0, e)]) (es := [e]) (by decide) (by simp [se.plain]) rfl rfl).mono ?_
  rintro x h2 ⟨-, -, sx, -, k2, -⟩
  refine ⟨b.st.kp k2, k2, ?_⟩
  obtain ⟨es, s1, s2, s3⟩ := b.w
  refine (app_to (s1.kp k2) b.aw sx.c (by simp [roomMax]; omega)).mono ?_
  rintro W' h3 ⟨s4, a4, k3, f3⟩
  have nk : idn ∉ idsOf W := fun q => (b.wd idn q).2.1 rfl
  have st3 := (b.st.kp k2).keep k3 nk
  have k13 : Kp h h3 (idsOf W) := k2.trans k3 (fun j hj => by cases hj) (fun j hj _ => hj)
  refine ⟨st3, k13, ?_⟩
  have hf : ∀ j, j ∈ idsOf W' → j ∈ idsOf W ∨ h.length ≤ j := fun j hj => (f3 j hj).imp (fun z => z) (fun z => by have := k2.len; omega)
  refine (st3.store1 (j := 2) (x := W') (by simp) s4.sc).mono ?_
  rintro u h4 ⟨st4, k4⟩
  have k14 : Kp h h4 (idn :: idsOf W) := k13.trans k4 (fun j hj _ => List.mem_cons_of_mem _ hj) (fun j hj _ => by simp at hj; simp [hj])
  have nidn : ∀ j, j ∈ idsOf W' → j ≠ idn := fun j hj => (hf j hj).elim (fun z => (b.wd j z).2.1) (fun z => by have := b.st.lt; omega)
  have hA : ∀ j, j ∈ id :: idn :: (idsOf K ++ (idsOf W' ++ idsOf D)) → j ∈ id :: idn :: (idsOf K ++ (idsOf W ++ idsOf D)) ∨ h.length ≤ j := by
    intro j hj
    simp only [List.mem_cons, List.mem_append] at hj ⊢
    rcases hj with z | z | z | z | z
    · exact .inl (.inl z)
    · exact .inl (.inr (.inl z))
    · exact .inl (.inr (.inr (.inl z)))
    · rcases hf j z with y | y
      · exact .inl (.inr (.inr (.inr (.inl y))))
      · exact .inr y
    · exact .inl (.inr (.inr (.inr (.inr z))))
  have hB : ∀ j, j ∈ idn :: idsOf W → j ∈ id :: idn :: (idsOf K ++ (idsOf W ++ idsOf D)) := by
    intro j hj
    simp only [List.mem_cons, List.mem_append] at hj ⊢
    rcases hj with z | z
    · exact .inr (.inl z)
    · exact .inr (.inr (.inr (.inl z)))
  have pe : ∀ {e : V} {p : List Int}, Sl 1 h e (bv p) → (∀ j, j ∈ idsOf e → j ∉ id :: idn :: (idsOf K ++ (idsOf W ++ idsOf D))) → Sl 1 h4 e (bv p) ∧ ∀ j, j ∈ idsOf e → j ∉ id :: idn :: (idsOf K ++ (idsOf W' ++ idsOf D)) := by
    intro e p s hn
    refine ⟨s.keep k14 (fun j hj q => hn j hj (hB j q)), fun j hj q => ?_⟩
    rcases hA j q with z | z
    · exact hn j hj z
    · have := s.lt hj; omega
  have newK : ∀ j, j ∈ idsOf W' → ¬ (j ∈ idsOf K) := fun j hj q => by
    rcases hf j hj with z | z
    · exact (b.kd j q).2.2.1 z
    · obtain ⟨fs, t1, _⟩ := b.k
      have := t1.lt q; omega
  refine ⟨⟨st4, ?_, ?_, ?_, b.ak, a4, b.ad, b.ne, ?_, ?_, b.dd, ⟨b.old.1, b.old.2.1, b.old.2.2.1, ?_, b.old.2.2.2.2⟩, Nat.lt_of_lt_of_le b.idlt k14.len⟩, k14⟩
  · exact b.k.step k14 hB (fun j hj q => by
      simp only [List.mem_cons] at q
      rcases q with q | q
      · exact (b.kd j hj).2.1 q
      · exact (b.kd j hj).2.2.1 q) hA
  · refine PS.snoc (es := es) (s4.keep k4 (fun j hj q => nidn j hj (by simpa using q))) s2 (fun i hi => ?_) (pe se he).1 (pe se he).2
    obtain ⟨x, x1, x2, x3⟩ := s3 i hi
    exact ⟨x, x1, (pe x2 x3).1, (pe x2 x3).2⟩
  · exact b.d.keep k14 (fun j hj q => by
      simp only [List.mem_cons] at q
      rcases q with q | q
      · exact (b.dd j hj).2 q
      · exact (b.wd j q).2.2 hj)
  · intro j hj
    exact ⟨(b.kd j hj).1, (b.kd j hj).2.1, fun q => newK j q hj, (b.kd j hj).2.2.2⟩
  · intro j hj
    rcases hf j hj with z | z
    · exact b.wd j z
    · refine ⟨by have := b.idlt; omega, nidn j hj, fun q => ?_⟩
      have := b.d.lt q; omega
  · intro j hj
    rcases hf j hj with z | z
    · exact b.old.2.2.2.1 j z
    · have := b.idlt; have := b.old.1; omega

theorem growD {h0 h : List Ob} {id idn : Nat} {n : N} {K W D : V} {k : Int} (b : NB h0 h id idn n K W D) (hl : n.kids.length ≤ 1000001) :
    To2 (ev (.bslice 1 (.int .i64 0) 1 [(0, .c (.int .i64 k))]) h) fun x h2 => St h2 idn [.bool n.leaf, K, W, D] ∧ Kp h h2 [] ∧ To2 (ev (.app 1 8 (.c D) (.c x)) h2) fun D' h3 => St h3 idn [.bool n.leaf, K, W, D] ∧ Kp h h3 (idsOf D) ∧
      To2 (ev (.store 1 (.c (.ptr idn 0 3)) (.c D')) h3) fun _ h4 => NB h0 h4 id idn { n with kids := n.kids ++ [k] } K W D' ∧ Kp h h4 (idn :: idsOf D) := by
  refine (bslice_to (len := 1) (ps := [(0, .int .i64 k)]) (es := [.int .i64 k]) (by decide) rfl rfl rfl).mono ?_
  rintro x h2 ⟨-, -, sx, -, k2, -⟩
  refine ⟨b.st.kp k2, k2, ?_⟩
  refine (app_to (b.d.kp k2) b.ad sx.c (by simp [roomMax]; omega)).mono ?_
  rintro D' h3 ⟨s4, a4, k3, f3⟩
  have nk : idn ∉ idsOf D := fun q => (b.dd idn q).2 rfl
  have st3 := (b.st.kp k2).keep k3 nk
  have k13 : Kp h h3 (idsOf D) := k2.trans k3 (fun j hj => by cases hj) (fun j hj _ => hj)
  refine ⟨st3, k13, ?_⟩
  have hf : ∀ j, j ∈ idsOf D' → j ∈ idsOf D ∨ h.length ≤ j := fun j hj => (f3 j hj).imp (fun z => z) (fun z => by have := k2.len; omega)
  refine (st3.store1 (j := 3) (x := D') (by simp) s4.sc).mono ?_
  rintro u h4 ⟨st4, k4⟩
  have k14 : Kp h h4 (idn :: idsOf D) := k13.trans k4 (fun j hj _ => List.mem_cons_of_mem _ hj) (fun j hj _ => by simp at hj; simp [hj])
  have nidn : ∀ j, j ∈ idsOf D' → j ≠ idn := fun j hj => (hf j hj).elim (fun z => (b.dd j z).2) (fun z => by have := b.st.lt; omega)
  have hA : ∀ j, j ∈ id :: idn :: (idsOf K ++ (idsOf W ++ idsOf D')) → j ∈ id :: idn :: (idsOf K ++ (idsOf W ++ idsOf D)) ∨ h.length ≤ j := by
    intro j hj
    simp only [List.mem_cons, List.mem_append] at hj ⊢
    rcases hj with z | z | z | z | z
    · exact .inl (.inl z)
    · exact .inl (.inr (.inl z))
    · exact .inl (.inr (.inr (.inl z)))
    · exact .inl (.inr (.inr (.inr (.inl z))))
    · rcases hf j z with y | y
      · exact .inl (.inr (.inr (.inr (.inr y))))
      · exact .inr y
  have hB : ∀ j, j ∈ idn :: idsOf D → j ∈ id :: idn :: (idsOf K ++ (idsOf W ++ idsOf D)) := by
    intro j hj
    simp only [List.mem_cons, List.mem_append] at hj ⊢
    rcases hj with z | z
    · exact .inr (.inl z)
    · exact .inr (.inr (.inr (.inr z)))
  have e4 : iv n.kids ++ [.int .i64 k] = iv (n.kids ++ [k]) := by simp [iv]
  rw [e4] at s4
  refine ⟨⟨st4, ?_, ?_, s4.keep k4 (fun j hj q => nidn j hj (by simpa using q)), b.ak, b.aw, a4, b.ne, ?_, ?_, ?_, ⟨b.old.1, b.old.2.1, b.old.2.2.1, b.old.2.2.2.1, ?_⟩, Nat.lt_of_lt_of_le b.idlt k14.len⟩, k14⟩
  · exact b.k.step k14 hB (fun j hj q => by
      simp only [List.mem_cons] at q
      rcases q with q | q
      · exact (b.kd j hj).2.1 q
      · exact (b.kd j hj).2.2.2 q) hA
  · exact b.w.step k14 hB (fun j hj q => by
      simp only [List.mem_cons] at q
      rcases q with q | q
      · exact (b.wd j hj).2.1 q
      · exact (b.wd j hj).2.2 q) hA
  · intro j hj
    refine ⟨(b.kd j hj).1, (b.kd j hj).2.1, (b.kd j hj).2.2.1, fun q => ?_⟩
    rcases hf j q with z | z
    · exact (b.kd j hj).2.2.2 z
    · obtain ⟨fs, t1, _⟩ := b.k
      have := t1.lt hj; omega
  · intro j hj
    refine ⟨(b.wd j hj).1, (b.wd j hj).2.1, fun q => ?_⟩
    rcases hf j q with z | z
    · exact (b.wd j hj).2.2 z
    · obtain ⟨fs, t1, _⟩ := b.w
      have := t1.lt hj; omega
  · intro j hj
    rcases hf j hj with z | z
    · exact b.dd j z
    · exact ⟨by have := b.idlt; omega, nidn j hj⟩
  · intro j hj
    rcases hf j hj with z | z
    · exact b.old.2.2.2.2 j z
    · have := b.idlt; have := b.old.1; omega
end Go.Proofs.Ytdcdmpgigmhhpaa.Nd
