/- Disks: a part of a disk put anew; writing. No condition. -/
import Derived.Test.YtbjphicipgneaaaDkQ
namespace Go.Proofs.Ytbjphicipgneaaa.Dk
open Go Go.Proofs.Ytbjphicipgneaaa.E
set_option maxRecDepth 100000
set_option linter.unusedVariables false
set_option linter.unusedSimpArgs false

theorem sepG {P A R : List Nat} (h : (P ++ (A ++ R)).Nodup) {j : Nat} (hj : j ∈ P ∨ j ∈ R) : j ∉ A := by
  simp only [List.nodup_append, List.mem_append] at h
  obtain ⟨h1, ⟨h2, h3, h4⟩, h5⟩ := h
  intro q
  rcases hj with hj | hj
  · exact h5 j hj j (.inl q) rfl
  · exact h4 j q j hj rfl
theorem foot_v0 (id : Nat) (w : DV) : foot id w = [id] ++ (idsOf w.v0 ++ (idsOf w.k0 ++ (idsM w.t0 ++ (idsOf w.v1 ++ (idsOf w.k1 ++ idsM w.t1))))) := rfl
theorem foot_t0 (id : Nat) (w : DV) : foot id w = (id :: (idsOf w.v0 ++ idsOf w.k0)) ++ (idsM w.t0 ++ (idsOf w.v1 ++ (idsOf w.k1 ++ idsM w.t1))) := by simp [foot]
theorem foot_v1 (id : Nat) (w : DV) : foot id w = (id :: (idsOf w.v0 ++ (idsOf w.k0 ++ idsM w.t0))) ++ (idsOf w.v1 ++ (idsOf w.k1 ++ idsM w.t1)) := by simp [foot]
theorem foot_t1 (id : Nat) (w : DV) : foot id w = (id :: (idsOf w.v0 ++ (idsOf w.k0 ++ (idsM w.t0 ++ (idsOf w.v1 ++ idsOf w.k1))))) ++ (idsM w.t1 ++ []) := by simp [foot]
theorem Dk.id_out {h : List Ob} {id : Nat} {w : DV} {c : DC} (d : Dk h id w c) {j : Nat} (hj : j ∈ idsOf w.v0 ∨ j ∈ idsOf w.k0 ∨ j ∈ idsM w.t0 ∨ j ∈ idsOf w.v1 ∨ j ∈ idsOf w.k1 ∨ j ∈ idsM w.t1) : j ≠ id := by
  rintro rfl
  exact (List.nodup_cons.1 d.nd).1 (by simpa only [List.mem_append] using hj)

theorem Dk.put_v0 {h h' : List Ob} {id : Nat} {w : DV} {c : DC} {v : V} {x : List Int} (d : Dk h id w c) (st : St h' id (dC { w with v0 := v } { c with a := x })) (k : Kp h h' (id :: idsOf w.v0)) (s : Sl 1 h' v (bv x)) (ap : Ap v) (f : ∀ j, j ∈ idsOf v → j ∈ idsOf w.v0 ∨ h.length ≤ j) :
    Dk h' id { w with v0 := v } { c with a := x } ∧ ∀ j, j ∈ foot id { w with v0 := v } → j ∈ foot id w ∨ h.length ≤ j := by
  have nd := d.nd
  have lt := d.off
  rw [foot_v0] at nd lt
  have o_k0 : ∀ j, j ∈ idsOf w.k0 → j ∉ id :: idsOf w.v0 := by
    intro j hj q
    rcases List.mem_cons.1 q with q | q
    · exact d.id_out (by simp only [hj, true_or, or_true]) q
    · exact sepG nd (by simp only [List.mem_append, List.mem_cons, List.mem_singleton, hj, true_or, or_true]) q
  have o_t0 : ∀ j, j ∈ idsM w.t0 → j ∉ id :: idsOf w.v0 := by
    intro j hj q
    rcases List.mem_cons.1 q with q | q
    · exact d.id_out (by simp only [hj, true_or, or_true]) q
    · exact sepG nd (by simp only [List.mem_append, List.mem_cons, List.mem_singleton, hj, true_or, or_true]) q
  have o_v1 : ∀ j, j ∈ idsOf w.v1 → j ∉ id :: idsOf w.v0 := by
    intro j hj q
    rcases List.mem_cons.1 q with q | q
    · exact d.id_out (by simp only [hj, true_or, or_true]) q
    · exact sepG nd (by simp only [List.mem_append, List.mem_cons, List.mem_singleton, hj, true_or, or_true]) q
  have o_k1 : ∀ j, j ∈ idsOf w.k1 → j ∉ id :: idsOf w.v0 := by
    intro j hj q
    rcases List.mem_cons.1 q with q | q
    · exact d.id_out (by simp only [hj, true_or, or_true]) q
    · exact sepG nd (by simp only [List.mem_append, List.mem_cons, List.mem_singleton, hj, true_or, or_true]) q
  have o_t1 : ∀ j, j ∈ idsM w.t1 → j ∉ id :: idsOf w.v0 := by
    intro j hj q
    rcases List.mem_cons.1 q with q | q
    · exact d.id_out (by simp only [hj, true_or, or_true]) q
    · exact sepG nd (by simp only [List.mem_append, List.mem_cons, List.mem_singleton, hj, true_or, or_true]) q
  have nd2 := nod_swap (A' := idsOf v) nd (idsOf_nodup v) f lt
  refine ⟨⟨st, s, ap, d.q0.keep k o_k0, d.b0, d.m0.keep k o_t0, d.s1.keep k o_v1, d.a1, d.q1.keep k o_k1, d.b1, d.m1.keep k o_t1, by rw [foot_v0]; exact nd2⟩, fun j hj => ?_⟩
  rw [foot_v0] at hj ⊢
  simp only [List.mem_append] at hj ⊢
  rcases hj with z | z | z
  · exact .inl (.inl z)
  · rcases f j z with y | y
    · exact .inl (.inr (.inl y))
    · exact .inr y
  · exact .inl (.inr (.inr z))
theorem Dk.put_t0 {h h' : List Ob} {id : Nat} {w : DV} {c : DC} {v : V} {x : List Int} (d : Dk h id w c) (st : St h' id (dC { w with t0 := v } { c with ta := x })) (k : Kp h h' (id :: idsM w.t0)) (s : Mp h' v x) (f : ∀ j, j ∈ idsM v → j ∈ idsM w.t0 ∨ h.length ≤ j) :
    Dk h' id { w with t0 := v } { c with ta := x } ∧ ∀ j, j ∈ foot id { w with t0 := v } → j ∈ foot id w ∨ h.length ≤ j := by
  have nd := d.nd
  have lt := d.off
  rw [foot_t0] at nd lt
  have o_v0 : ∀ j, j ∈ idsOf w.v0 → j ∉ id :: idsM w.t0 := by
    intro j hj q
    rcases List.mem_cons.1 q with q | q
    · exact d.id_out (by simp only [hj, true_or, or_true]) q
    · exact sepG nd (by simp only [List.mem_append, List.mem_cons, List.mem_singleton, hj, true_or, or_true]) q
  have o_k0 : ∀ j, j ∈ idsOf w.k0 → j ∉ id :: idsM w.t0 := by
    intro j hj q
    rcases List.mem_cons.1 q with q | q
    · exact d.id_out (by simp only [hj, true_or, or_true]) q
    · exact sepG nd (by simp only [List.mem_append, List.mem_cons, List.mem_singleton, hj, true_or, or_true]) q
  have o_v1 : ∀ j, j ∈ idsOf w.v1 → j ∉ id :: idsM w.t0 := by
    intro j hj q
    rcases List.mem_cons.1 q with q | q
    · exact d.id_out (by simp only [hj, true_or, or_true]) q
    · exact sepG nd (by simp only [List.mem_append, List.mem_cons, List.mem_singleton, hj, true_or, or_true]) q
  have o_k1 : ∀ j, j ∈ idsOf w.k1 → j ∉ id :: idsM w.t0 := by
    intro j hj q
    rcases List.mem_cons.1 q with q | q
    · exact d.id_out (by simp only [hj, true_or, or_true]) q
    · exact sepG nd (by simp only [List.mem_append, List.mem_cons, List.mem_singleton, hj, true_or, or_true]) q
  have o_t1 : ∀ j, j ∈ idsM w.t1 → j ∉ id :: idsM w.t0 := by
    intro j hj q
    rcases List.mem_cons.1 q with q | q
    · exact d.id_out (by simp only [hj, true_or, or_true]) q
    · exact sepG nd (by simp only [List.mem_append, List.mem_cons, List.mem_singleton, hj, true_or, or_true]) q
  have nd2 := nod_swap (A' := idsM v) nd (idsM_nodup v) f lt
  refine ⟨⟨st, d.s0.keep k o_v0, d.a0, d.q0.keep k o_k0, d.b0, s, d.s1.keep k o_v1, d.a1, d.q1.keep k o_k1, d.b1, d.m1.keep k o_t1, by rw [foot_t0]; exact nd2⟩, fun j hj => ?_⟩
  rw [foot_t0] at hj ⊢
  simp only [List.mem_append] at hj ⊢
  rcases hj with z | z | z
  · exact .inl (.inl z)
  · rcases f j z with y | y
    · exact .inl (.inr (.inl y))
    · exact .inr y
  · exact .inl (.inr (.inr z))
theorem Dk.put_v1 {h h' : List Ob} {id : Nat} {w : DV} {c : DC} {v : V} {x : List Int} (d : Dk h id w c) (st : St h' id (dC { w with v1 := v } { c with b := x })) (k : Kp h h' (id :: idsOf w.v1)) (s : Sl 1 h' v (bv x)) (ap : Ap v) (f : ∀ j, j ∈ idsOf v → j ∈ idsOf w.v1 ∨ h.length ≤ j) :
    Dk h' id { w with v1 := v } { c with b := x } ∧ ∀ j, j ∈ foot id { w with v1 := v } → j ∈ foot id w ∨ h.length ≤ j := by
  have nd := d.nd
  have lt := d.off
  rw [foot_v1] at nd lt
  have o_v0 : ∀ j, j ∈ idsOf w.v0 → j ∉ id :: idsOf w.v1 := by
    intro j hj q
    rcases List.mem_cons.1 q with q | q
    · exact d.id_out (by simp only [hj, true_or, or_true]) q
    · exact sepG nd (by simp only [List.mem_append, List.mem_cons, List.mem_singleton, hj, true_or, or_true]) q
  have o_k0 : ∀ j, j ∈ idsOf w.k0 → j ∉ id :: idsOf w.v1 := by
    intro j hj q
    rcases List.mem_cons.1 q with q | q
    · exact d.id_out (by simp only [hj, true_or, or_true]) q
    · exact sepG nd (by simp only [List.mem_append, List.mem_cons, List.mem_singleton, hj, true_or, or_true]) q
  have o_t0 : ∀ j, j ∈ idsM w.t0 → j ∉ id :: idsOf w.v1 := by
    intro j hj q
    rcases List.mem_cons.1 q with q | q
    · exact d.id_out (by simp only [hj, true_or, or_true]) q
    · exact sepG nd (by simp only [List.mem_append, List.mem_cons, List.mem_singleton, hj, true_or, or_true]) q
  have o_k1 : ∀ j, j ∈ idsOf w.k1 → j ∉ id :: idsOf w.v1 := by
    intro j hj q
    rcases List.mem_cons.1 q with q | q
    · exact d.id_out (by simp only [hj, true_or, or_true]) q
    · exact sepG nd (by simp only [List.mem_append, List.mem_cons, List.mem_singleton, hj, true_or, or_true]) q
  have o_t1 : ∀ j, j ∈ idsM w.t1 → j ∉ id :: idsOf w.v1 := by
    intro j hj q
    rcases List.mem_cons.1 q with q | q
    · exact d.id_out (by simp only [hj, true_or, or_true]) q
    · exact sepG nd (by simp only [List.mem_append, List.mem_cons, List.mem_singleton, hj, true_or, or_true]) q
  have nd2 := nod_swap (A' := idsOf v) nd (idsOf_nodup v) f lt
  refine ⟨⟨st, d.s0.keep k o_v0, d.a0, d.q0.keep k o_k0, d.b0, d.m0.keep k o_t0, s, ap, d.q1.keep k o_k1, d.b1, d.m1.keep k o_t1, by rw [foot_v1]; exact nd2⟩, fun j hj => ?_⟩
  rw [foot_v1] at hj ⊢
  simp only [List.mem_append] at hj ⊢
  rcases hj with z | z | z
  · exact .inl (.inl z)
  · rcases f j z with y | y
    · exact .inl (.inr (.inl y))
    · exact .inr y
  · exact .inl (.inr (.inr z))
theorem Dk.put_t1 {h h' : List Ob} {id : Nat} {w : DV} {c : DC} {v : V} {x : List Int} (d : Dk h id w c) (st : St h' id (dC { w with t1 := v } { c with tb := x })) (k : Kp h h' (id :: idsM w.t1)) (s : Mp h' v x) (f : ∀ j, j ∈ idsM v → j ∈ idsM w.t1 ∨ h.length ≤ j) :
    Dk h' id { w with t1 := v } { c with tb := x } ∧ ∀ j, j ∈ foot id { w with t1 := v } → j ∈ foot id w ∨ h.length ≤ j := by
  have nd := d.nd
  have lt := d.off
  rw [foot_t1] at nd lt
  have o_v0 : ∀ j, j ∈ idsOf w.v0 → j ∉ id :: idsM w.t1 := by
    intro j hj q
    rcases List.mem_cons.1 q with q | q
    · exact d.id_out (by simp only [hj, true_or, or_true]) q
    · exact sepG nd (by simp only [List.mem_append, List.mem_cons, List.mem_singleton, hj, true_or, or_true]) q
  have o_k0 : ∀ j, j ∈ idsOf w.k0 → j ∉ id :: idsM w.t1 := by
    intro j hj q
    rcases List.mem_cons.1 q with q | q
    · exact d.id_out (by simp only [hj, true_or, or_true]) q
    · exact sepG nd (by simp only [List.mem_append, List.mem_cons, List.mem_singleton, hj, true_or, or_true]) q
  have o_t0 : ∀ j, j ∈ idsM w.t0 → j ∉ id :: idsM w.t1 := by
    intro j hj q
    rcases List.mem_cons.1 q with q | q
    · exact d.id_out (by simp only [hj, true_or, or_true]) q
    · exact sepG nd (by simp only [List.mem_append, List.mem_cons, List.mem_singleton, hj, true_or, or_true]) q
  have o_v1 : ∀ j, j ∈ idsOf w.v1 → j ∉ id :: idsM w.t1 := by
    intro j hj q
    rcases List.mem_cons.1 q with q | q
    · exact d.id_out (by simp only [hj, true_or, or_true]) q
    · exact sepG nd (by simp only [List.mem_append, List.mem_cons, List.mem_singleton, hj, true_or, or_true]) q
  have o_k1 : ∀ j, j ∈ idsOf w.k1 → j ∉ id :: idsM w.t1 := by
    intro j hj q
    rcases List.mem_cons.1 q with q | q
    · exact d.id_out (by simp only [hj, true_or, or_true]) q
    · exact sepG nd (by simp only [List.mem_append, List.mem_cons, List.mem_singleton, hj, true_or, or_true]) q
  have nd2 := nod_swap (A' := idsM v) nd (idsM_nodup v) f lt
  refine ⟨⟨st, d.s0.keep k o_v0, d.a0, d.q0.keep k o_k0, d.b0, d.m0.keep k o_t0, d.s1.keep k o_v1, d.a1, d.q1.keep k o_k1, d.b1, s, by rw [foot_t1]; exact nd2⟩, fun j hj => ?_⟩
  rw [foot_t1] at hj ⊢
  simp only [List.mem_append] at hj ⊢
  rcases hj with z | z | z
  · exact .inl (.inl z)
  · rcases f j z with y | y
    · exact .inl (.inr (.inl y))
    · exact .inr y
  · exact .inl (.inr (.inr z))
end Go.Proofs.Ytbjphicipgneaaa.Dk
