/- JournalWrites: the call, of the claim's data. No condition. -/
import Derived.Test.YtdcdmpgigmhhpaaJwQ
import Derived.Test.YtdcdmpgigmhhpaaE38
namespace Go.Proofs.Ytdcdmpgigmhhpaa.Jw
open Go Go.Proofs.Ytdcdmpgigmhhpaa.E
set_option maxRecDepth 100000
set_option linter.unusedVariables false
theorem shape {H : Type} {d0 d1 d2 d3 d4 d5 : DataW H} {u0 u1 u2 u3 u4 u5 : List V} (h0 : dV Try.prog d0 22 = some u0) (h1 : dV Try.prog d1 24 = some u1) (h2 : dV Try.prog d2 3 = some u2) (h3 : dV Try.prog d3 3 = some u3) (h4 : dV Try.prog d4 3 = some u4) (h5 : dV Try.prog d5 22 = some u5) :
    ∃ y0 y1 y2 y3 y4 y5, u0 = [y0] ∧ u1 = [y1] ∧ u2 = [y2] ∧ u3 = [y3] ∧ u4 = [y4] ∧ u5 = [y5] ∧ CE Try.prog 4 [y0, y1, y2, y3, y4, y5] [] fun v _ => v = .bool true := by
  obtain ⟨b, bs, rfl, sb, ib, -, lb, -⟩ := dV_bytes Try.underlying22 Try.underlying5 h0
  obtain ⟨salt, rfl, l1, l2⟩ := dV_u64 Try.underlying24 h1
  obtain ⟨p, rfl, -, -⟩ := dV_i64 Try.underlying3 h2
  obtain ⟨r, rfl, -, -⟩ := dV_i64 Try.underlying3 h3
  obtain ⟨n, rfl, -, -⟩ := dV_i64 Try.underlying3 h4
  obtain ⟨d, ds, rfl, sd, id, -, ld, -⟩ := dV_bytes Try.underlying22 Try.underlying5 h5
  obtain ⟨v, h', e, q⟩ := law4 (lf := 1001 + bs.length) (h := []) (p := p) (r := r) (n := n) (by omega) l1 l2 (sb []) ib (sd []) id lb (by omega)
  exact ⟨_, _, _, _, _, _, rfl, rfl, rfl, rfl, rfl, rfl, (F4_ok _ _ _ _ _ _ _ _ _ _ e).2.mono fun v2 h2 z => by rw [z.1]; exact q⟩
end Go.Proofs.Ytdcdmpgigmhhpaa.Jw
