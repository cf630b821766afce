import Derived.Test.YtlfjgopjjiihaaaPn3
namespace Go.Proofs.Ytlfjgopjjiihaaa.Pn
open Go Go.Proofs.Ytlfjgopjjiihaaa.E
set_option linter.unusedVariables false
set_option maxRecDepth 100000
theorem gt_some (n : Int) : ∃ c, gt n = some (.bool c) := ⟨_, rfl⟩
theorem all_nil : ∀ p, p ∈ ([] : List (Option V × Bool)) → p.1 = some (.bool p.2) := fun p h => by cases h
theorem all_cons {x : Option V} {b : Bool} {l : List (Option V × Bool)} (h : x = some (.bool b)) (g : ∀ p, p ∈ l → p.1 = some (.bool p.2)) : ∀ p, p ∈ (x, b) :: l → p.1 = some (.bool p.2) :=
  fun p hp => (List.mem_cons.1 hp).elim (fun q => by subst q; exact h) (g p)
theorem ce0 (k0 k1 k2 : IntKind) (n0 n1 n2 : Int) : CE Try.prog 3 [.agg [.int k0 n0, .int k1 n1, .int k2 n2, .nils]] [] fun v _ => v = .bool true := by
  obtain ⟨c, h⟩ := gt_some ((0 : Nat) : Int)
  cases c
  · exact ce_of_asked rows (run00 k0 k1 k2 n0 n1 n2 []) (all_cons rfl (all_cons h (all_cons rfl (all_cons rfl all_nil))))
  · exact ce_of_asked rows (run01 k0 k1 k2 n0 n1 n2 []) (all_cons h (all_cons rfl (all_cons rfl all_nil)))
theorem ce1 (k0 k1 k2 : IntKind) (n0 n1 n2 : Int) (es : List V) : CE Try.prog 3 [.agg [.int k0 n0, .int k1 n1, .int k2 n2, .sl es]] [] fun v _ => v = .bool true := by
  obtain ⟨c, h⟩ := gt_some (es.length : Int)
  cases c
  · exact ce_of_asked rows (run10 k0 k1 k2 n0 n1 n2 es) (all_cons rfl (all_cons h (all_cons rfl (all_cons rfl all_nil))))
  · exact ce_of_asked rows (run11 k0 k1 k2 n0 n1 n2 es) (all_cons h (all_cons rfl (all_cons rfl all_nil)))
theorem shape {H : Type} {d : DataW H} {vs : List V} (h : dV Try.prog d 24 = some vs) : CE Try.prog 3 [.agg vs] [] fun v _ => v = .bool true := by
  obtain ⟨ps, rfl, h⟩ := dV_struct Try.underlying24 h
  obtain ⟨d0, ps0, a0, b0, rfl, h0, g0, rfl⟩ := dVf_cons h
  obtain ⟨d1, ps1, a1, b1, rfl, h1, g1, rfl⟩ := dVf_cons g0
  obtain ⟨d2, ps2, a2, b2, rfl, h2, g2, rfl⟩ := dVf_cons g1
  obtain ⟨d3, ps3, a3, b3, rfl, h3, g3, rfl⟩ := dVf_cons g2
  obtain ⟨rfl, rfl⟩ := dVf_nil g3
  obtain ⟨k0, n0, rfl⟩ := dV_int Try.underlying3 h0
  obtain ⟨k1, n1, rfl⟩ := dV_int Try.underlying3 h1
  obtain ⟨k2, n2, rfl⟩ := dV_int Try.underlying3 h2
  rcases dV_slice Try.underlying22 h3 with rfl | ⟨_, _, es, _, _, rfl⟩
  · exact ce0 k0 k1 k2 n0 n1 n2
  · exact ce1 k0 k1 k2 n0 n1 n2 es
end Go.Proofs.Ytlfjgopjjiihaaa.Pn
