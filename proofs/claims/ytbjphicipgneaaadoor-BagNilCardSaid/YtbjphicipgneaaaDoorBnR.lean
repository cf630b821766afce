/- BagNil: rows among a claim's data; the law as it stands in memory. No condition. -/
import Derived.Test.YtbjphicipgneaaaDoorBnQ
namespace Go.Proofs.YtbjphicipgneaaaDoor.Bn
open Go Go.Proofs.YtbjphicipgneaaaDoor.E
set_option maxRecDepth 100000
set_option linter.unusedVariables false
set_option linter.unusedSimpArgs false
theorem dV_rows {H : Type} {P : Program} {d : DataW H} {t e t0 t1 t2 : TypeId} {fs : Array Field} {vs : List V} (hu : P.underlying t = some (.slice e)) (he : P.underlying e = some (.struct fs)) (hfs : fs.toList.map (·.type) = [t0, t1, t2])
    (h0 : P.underlying t0 = some (.int .i64)) (h1 : P.underlying t1 = some (.int .i64)) (h2 : P.underlying t2 = some .string) (h : dV P d t = some vs) :
    ∃ v row, vs = [v] ∧ (∀ h, Sl 3 h v (rows row)) ∧ row.length ≤ 9223372036854775807 := by
  have one : ∀ {d : DataW H} {cs : List V}, dV P d e = some cs → ∃ r : R, elemV P e cs = .agg (rC r) := by
    intro d cs hd
    obtain ⟨ps, rfl, q0⟩ := dV_struct he hd
    match hl : fs.toList, hfs with
    | [f0, f1, f2], hfs =>
      simp only [List.map_cons, List.map_nil, List.cons.injEq, and_true] at hfs
      obtain ⟨e0, e1, e2⟩ := hfs
      rw [hl] at q0
      obtain ⟨d0, ps0, a0, b0, rfl, g0, q1, rfl⟩ := dVf_cons q0
      obtain ⟨d1, ps1, a1, b1, rfl, g1, q2, rfl⟩ := dVf_cons q1
      obtain ⟨d2, ps2, a2, b2, rfl, g2, q3, rfl⟩ := dVf_cons q2
      obtain ⟨rfl, rfl⟩ := dVf_nil q3
      rw [e0] at g0; rw [e1] at g1; rw [e2] at g2
      obtain ⟨k, rfl, _⟩ := dV_i64 h0 g0
      obtain ⟨n, rfl, _⟩ := dV_i64 h1 g1
      obtain ⟨s, rfl⟩ := dV_str h2 g2
      refine ⟨⟨k, n, s⟩, ?_⟩
      have : isAggT P e = true := by simp [isAggT, he]
      simp [elemV, this, rC]
    | [], hfs => simp at hfs
    | [_], hfs => simp at hfs
    | [_, _], hfs => simp at hfs
    | _ :: _ :: _ :: _ :: _, hfs => simp at hfs
  have all : ∀ {ds : List (DataW H)} {es : List V}, dVs P ds e = some es → ∃ row, es = rows row := by
    intro ds
    induction ds with
    | nil => intro es h; simp [dVs] at h; subst h; exact ⟨[], rfl⟩
    | cons d ds ih =>
      intro es h
      simp only [dVs] at h
      split at h
      · rename_i cs es' q1 q2
        injection h with h; subst h
        obtain ⟨row, rfl⟩ := ih q2
        obtain ⟨r, e1⟩ := one q1
        exact ⟨r :: row, by simp [rows, e1]⟩
      · cases h
  rcases dV_slice' hu h with rfl | ⟨elems, sp, es, rfl, g1, rfl, g2⟩
  · exact ⟨_, [], rfl, fun h => Sl.nils 3 h, by simp⟩
  · obtain ⟨row, rfl⟩ := all g1
    refine ⟨_, row, rfl, fun h => Sl.sl ?_, ?_⟩
    · cases row <;> rfl
    · rw [rows_len] at g2
      exact Nat.le_trans g2 (by decide)
theorem shape {H : Type} {d0 d1 : DataW H} {u0 u1 : List V} (h0 : dV Tryd.prog d0 22 = some u0) (h1 : dV Tryd.prog d1 2 = some u1) :
    ∃ y0 y1, u0 = [y0] ∧ u1 = [y1] ∧ CE Tryd.prog 3 [y0, y1] [] fun v _ => v = .bool true := by
  obtain ⟨v, row, rfl, sv, lv⟩ := dV_rows Tryd.underlying22 Tryd.underlying39 rfl Tryd.underlying3 Tryd.underlying2 Tryd.underlying9 h0
  obtain ⟨n, rfl, -⟩ := dV_i64 Tryd.underlying2 h1
  obtain ⟨u, h', e, q⟩ := law3 (lf := 301) (h := []) (n := n) (by omega) sv lv
  exact ⟨_, _, rfl, rfl, (F3_ok _ _ _ _ _ _ e).2.mono fun v2 h2 z => by rw [z.1]; exact q⟩
end Go.Proofs.YtbjphicipgneaaaDoor.Bn
