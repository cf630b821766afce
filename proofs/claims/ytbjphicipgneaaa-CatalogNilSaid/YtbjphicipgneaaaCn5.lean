import Derived.Test.YtbjphicipgneaaaCn4
namespace Go.Proofs.Ytbjphicipgneaaa.Cn
open Go Go.Proofs.Ytbjphicipgneaaa.E
set_option linter.unusedVariables false
set_option maxRecDepth 100000
theorem shape {H : Type} {d d1 d2 : DataW H} {vs v1 v2 : List V} (h : dV Try.prog d 59 = some vs) (hk : dV Try.prog d1 3 = some v1) (hn : dV Try.prog d2 9 = some v2) :
    ∃ u1 u2, v1 = [u1] ∧ v2 = [u2] ∧ CE Try.prog 8 [.agg vs, u1, u2] [] fun v _ => v = .bool true := by
  obtain ⟨ps, rfl, h⟩ := dV_struct Try.underlying59 h
  obtain ⟨d0x, ps0, a0, b0, rfl, h0, g0, rfl⟩ := dVf_cons h
  obtain ⟨d1x, ps1, a1, b1, rfl, h1, g1, rfl⟩ := dVf_cons g0
  obtain ⟨d2x, ps2, a2, b2, rfl, h2, g2, rfl⟩ := dVf_cons g1
  obtain ⟨d3x, ps3, a3, b3, rfl, h3, g3, rfl⟩ := dVf_cons g2
  obtain ⟨d4x, ps4, a4, b4, rfl, h4, g4, rfl⟩ := dVf_cons g3
  obtain ⟨d5x, ps5, a5, b5, rfl, h5, g5, rfl⟩ := dVf_cons g4
  obtain ⟨d6x, ps6, a6, b6, rfl, h6, g6, rfl⟩ := dVf_cons g5
  obtain ⟨d7x, ps7, a7, b7, rfl, h7, g7, rfl⟩ := dVf_cons g6
  obtain ⟨d8x, ps8, a8, b8, rfl, h8, g8, rfl⟩ := dVf_cons g7
  obtain ⟨rfl, rfl⟩ := dVf_nil g8
  obtain ⟨k0, n0, rfl⟩ := dV_int Try.underlying3 h0
  obtain ⟨s1, rfl⟩ := dV_str Try.underlying9 h1
  obtain ⟨s2, rfl⟩ := dV_str Try.underlying9 h2
  obtain ⟨b5, rfl⟩ := dV_bool Try.underlying4 h5
  obtain ⟨s6, rfl⟩ := dV_str Try.underlying9 h6
  obtain ⟨k8, n8, rfl⟩ := dV_int Try.underlying3 h8
  obtain ⟨k9, n9, rfl⟩ := dV_int Try.underlying3 hk
  obtain ⟨s9, rfl⟩ := dV_str Try.underlying9 hn
  refine ⟨_, _, rfl, rfl, ?_⟩
  rcases dV_slice Try.underlying56 h3 with rfl | ⟨_, _, e0, _, _, rfl⟩ <;> rcases dV_slice Try.underlying30 h4 with rfl | ⟨_, _, e1, _, _, rfl⟩ <;> rcases dV_slice Try.underlying57 h7 with rfl | ⟨_, _, e2, _, _, rfl⟩
  · exact ce000 k0 k8 k9 n0 n8 n9 s1 s2 s6 s9 b5 [] [] []
  · exact ce001 k0 k8 k9 n0 n8 n9 s1 s2 s6 s9 b5 [] [] e2
  · exact ce010 k0 k8 k9 n0 n8 n9 s1 s2 s6 s9 b5 [] e1 []
  · exact ce011 k0 k8 k9 n0 n8 n9 s1 s2 s6 s9 b5 [] e1 e2
  · exact ce100 k0 k8 k9 n0 n8 n9 s1 s2 s6 s9 b5 e0 [] []
  · exact ce101 k0 k8 k9 n0 n8 n9 s1 s2 s6 s9 b5 e0 [] e2
  · exact ce110 k0 k8 k9 n0 n8 n9 s1 s2 s6 s9 b5 e0 e1 []
  · exact ce111 k0 k8 k9 n0 n8 n9 s1 s2 s6 s9 b5 e0 e1 e2
end Go.Proofs.Ytbjphicipgneaaa.Cn
