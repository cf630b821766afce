import Derived.Test.YtbjphicipgneaaaDn2
import Derived.Test.YtbjphicipgneaaaE26
namespace Go.Proofs.Ytbjphicipgneaaa.Dn
open Go Go.Proofs.Ytbjphicipgneaaa.E
set_option maxRecDepth 100000
set_option linter.unusedVariables false
theorem rows : TabOk Try.prog tab := tabOk_of (rows_cons ⟨_, Try.func7, ok7, en7⟩ (rows_cons ⟨_, Try.func10, ok10, en10⟩ (rows_cons ⟨_, Try.func12, ok12, en12⟩ (rows_cons ⟨_, Try.func13, ok13, en13⟩ (rows_cons ⟨_, Try.func14, ok14, en14⟩ (rows_cons ⟨_, Try.func15, ok15, en15⟩ (rows_cons ⟨_, Try.func16, ok16, en16⟩ (rows_cons ⟨_, Try.func17, ok17, en17⟩ (rows_cons ⟨_, Try.func18, ok18, en18⟩ (rows_cons ⟨_, Try.func19, ok19, en19⟩ (rows_cons ⟨_, Try.func30, ok30, en30⟩ (rows_cons ⟨_, Try.func31, ok31, en31⟩ (rows_cons ⟨_, Try.func32, ok32, en32⟩ (rows_cons ⟨_, Try.func33, ok33, en33⟩ (rows_cons ⟨_, Try.func50, ok50, en50⟩ (rows_cons ⟨_, Try.func51, ok51, en51⟩ (rows_cons ⟨_, Try.func52, ok52, en52⟩ (rows_cons ⟨_, Try.func53, ok53, en53⟩ (rows_cons ⟨_, Try.func54, ok54, en54⟩ (rows_cons ⟨_, Try.func55, ok55, en55⟩ rows_nil))))))))))))))))))))
theorem run00 (k0 k1 k2 k3 : IntKind) (n0 n1 n2 n3 : Int) : (evF tab 100 6 7 [.agg [.int k0 n0, .int k1 n1, .int k2 n2, .int k3 n3, .nils, .nils]] []).map (·.1) = some (.bool true) := by kernel_rfl
theorem run01 (k0 k1 k2 k3 : IntKind) (n0 n1 n2 n3 : Int) (fs : List V) : (evF tab 100 6 7 [.agg [.int k0 n0, .int k1 n1, .int k2 n2, .int k3 n3, .nils, .sl fs]] []).map (·.1) = some (.bool true) := by kernel_rfl
theorem run10 (k0 k1 k2 k3 : IntKind) (n0 n1 n2 n3 : Int) (es : List V) : (evF tab 100 6 7 [.agg [.int k0 n0, .int k1 n1, .int k2 n2, .int k3 n3, .sl es, .nils]] []).map (·.1) = some (.bool true) := by kernel_rfl
theorem run11 (k0 k1 k2 k3 : IntKind) (n0 n1 n2 n3 : Int) (es fs : List V) : (evF tab 100 6 7 [.agg [.int k0 n0, .int k1 n1, .int k2 n2, .int k3 n3, .sl es, .sl fs]] []).map (·.1) = some (.bool true) := by kernel_rfl

theorem shape {H : Type} {d : DataW H} {vs : List V} (h : dV Try.prog d 32 = some vs) : CE Try.prog 7 [.agg vs] [] fun v _ => v = .bool true := by
  obtain ⟨ps, rfl, h⟩ := dV_struct Try.underlying32 h
  obtain ⟨d0, ps0, a0, b0, rfl, h0, g0, rfl⟩ := dVf_cons h
  obtain ⟨d1, ps1, a1, b1, rfl, h1, g1, rfl⟩ := dVf_cons g0
  obtain ⟨d2, ps2, a2, b2, rfl, h2, g2, rfl⟩ := dVf_cons g1
  obtain ⟨d3, ps3, a3, b3, rfl, h3, g3, rfl⟩ := dVf_cons g2
  obtain ⟨d4, ps4, a4, b4, rfl, h4, g4, rfl⟩ := dVf_cons g3
  obtain ⟨d5, ps5, a5, b5, rfl, h5, g5, rfl⟩ := dVf_cons g4
  obtain ⟨rfl, rfl⟩ := dVf_nil g5
  obtain ⟨k0, n0, rfl⟩ := dV_int Try.underlying3 h0
  obtain ⟨k1, n1, rfl⟩ := dV_int Try.underlying3 h1
  obtain ⟨k2, n2, rfl⟩ := dV_int Try.underlying3 h2
  obtain ⟨k3, n3, rfl⟩ := dV_int Try.underlying3 h3
  rcases dV_slice Try.underlying24 h4 with rfl | ⟨_, _, es, _, _, rfl⟩ <;> rcases dV_slice Try.underlying30 h5 with rfl | ⟨_, _, fs, _, _, rfl⟩
  · exact ce_of_eval rows (run00 k0 k1 k2 k3 n0 n1 n2 n3)
  · exact ce_of_eval rows (run01 k0 k1 k2 k3 n0 n1 n2 n3 fs)
  · exact ce_of_eval rows (run10 k0 k1 k2 k3 n0 n1 n2 n3 es)
  · exact ce_of_eval rows (run11 k0 k1 k2 k3 n0 n1 n2 n3 es fs)
end Go.Proofs.Ytbjphicipgneaaa.Dn
