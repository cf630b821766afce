/- A journal read back: the claim's data is what the law's walk asks for. No condition. -/
import Derived.Test.YtdcdmpgigmhhpaaJbV
import Derived.Test.YtdcdmpgigmhhpaaL4
import Derived.Test.YtdcdmpgigmhhpaaProg
namespace Go.Proofs.Ytdcdmpgigmhhpaa.Jb
open Go Go.Proofs.Ytdcdmpgigmhhpaa.E
set_option maxRecDepth 100000
set_option linter.unusedVariables false
set_option linter.unusedSimpArgs false

def rowsPt (l : List Pt) : List V := l.map fun x => .agg (cP x)
theorem dV_parts {H : Type} {P : Program} {d : DataW H} {t e ti tb : TypeId} {fs : Array Field} {vs : List V} (hu : P.underlying t = some (.slice e)) (he : P.underlying e = some (.struct fs)) (hfs : fs.toList.map (·.type) = [ti, ti, ti, tb])
    (hi : P.underlying ti = some (.int .i64)) (hb : P.underlying tb = some (.int .u8)) (h : dV P d t = some vs) :
    ∃ v l, vs = [v] ∧ Ls v l ∧ l.length ≤ 9223372036854775807 := by
  have one : ∀ {d : DataW H} {cs : List V}, dV P d e = some cs → ∃ o : Pt, elemV P e cs = .agg (cP o) := by
    intro d cs hd
    obtain ⟨ps, rfl, q0⟩ := dV_struct he hd
    match hl : fs.toList, hfs with
    | [f0, f1, f2, f3], hfs =>
      simp only [List.map_cons, List.map_nil, List.cons.injEq, and_true] at hfs
      obtain ⟨e0, e1, e2, e3⟩ := hfs
      rw [hl] at q0
      obtain ⟨d0, ps0, a0, b0, rfl, g0, q1, rfl⟩ := dVf_cons q0
      obtain ⟨d1, ps1, a1, b1, rfl, g1, q2, rfl⟩ := dVf_cons q1
      obtain ⟨d2, ps2, a2, b2, rfl, g2, q3, rfl⟩ := dVf_cons q2
      obtain ⟨d3, ps3, a3, b3, rfl, g3, q4, rfl⟩ := dVf_cons q3
      obtain ⟨rfl, rfl⟩ := dVf_nil q4
      rw [e0] at g0; rw [e1] at g1; rw [e2] at g2; rw [e3] at g3
      obtain ⟨k, rfl, _⟩ := dV_i64 hi g0
      obtain ⟨f, rfl, _⟩ := dV_i64 hi g1
      obtain ⟨a, rfl, _⟩ := dV_i64 hi g2
      obtain ⟨n, rfl, _⟩ := dV_u8 hb g3
      have : isAggT P e = true := by simp [isAggT, he]
      exact ⟨⟨k, f, a, n⟩, by simp [elemV, this, cP]⟩
    | [], hfs => simp at hfs
    | [_], hfs => simp at hfs
    | [_, _], hfs => simp at hfs
    | [_, _, _], hfs => simp at hfs
    | _ :: _ :: _ :: _ :: _ :: _, hfs => simp at hfs
  have all : ∀ {ds : List (DataW H)} {es : List V}, dVs P ds e = some es → ∃ l, es = rowsPt l := by
    intro ds
    induction ds with
    | nil => intro es h; simp [dVs] at h; subst h; exact ⟨[], rfl⟩
    | cons d ds ih =>
      intro es h
      simp only [dVs] at h
      split at h
      · rename_i cs es' q1 q2
        injection h with h; subst h
        obtain ⟨l, rfl⟩ := ih q2
        obtain ⟨r, e1⟩ := one q1
        exact ⟨r :: l, by simp [rowsPt, e1]⟩
      · cases h
  rcases dV_slice' hu h with rfl | ⟨elems, sp, es, rfl, g1, rfl, g2⟩
  · exact ⟨_, [], rfl, ⟨fun hh => er_lenL (Sl.nils 1 hh), fun i x hh q => by simp at q⟩, by simp⟩
  · obtain ⟨l, rfl⟩ := all g1
    have hs : headOk 4 (rowsPt l) = true := by cases l <;> rfl
    have hl : (rowsPt l).length = l.length := by simp [rowsPt]
    refine ⟨_, l, rfl, ⟨fun hh => by rw [er_lenL (Sl.sl hs), hl], fun i x hh q => ?_⟩, by rw [hl] at g2; exact Nat.le_trans g2 (by decide)⟩
    have q2 : (rowsPt l)[i]? = some (.agg (cP x)) := by simp [rowsPt, q]
    simp [er, ev, evOq, x_iaddrL, getC, evIaddrL, q2, V.cells]

theorem shape {H : Type} {d0 d1 d2 d3 d4 d5 d6 : DataW H} {u0 u1 u2 u3 u4 u5 u6 : List V} (h0 : dV Try.prog d0 24 = some u0) (h1 : dV Try.prog d1 5 = some u1) (h2 : dV Try.prog d2 44 = some u2) (h3 : dV Try.prog d3 5 = some u3) (h4 : dV Try.prog d4 5 = some u4) (h5 : dV Try.prog d5 4 = some u5) (h6 : dV Try.prog d6 22 = some u6) :
    ∃ y0 y1 y2 y3 y4 y5 y6, u0 = [y0] ∧ u1 = [y1] ∧ u2 = [y2] ∧ u3 = [y3] ∧ u4 = [y4] ∧ u5 = [y5] ∧ u6 = [y6] ∧ CE Try.prog 7 [y0, y1, y2, y3, y4, y5, y6] [] fun v _ => v = .bool true := by
  obtain ⟨salt, rfl, a1, a2⟩ := dV_u64 Try.underlying24 h0
  obtain ⟨p, rfl, b1, b2⟩ := dV_u8 Try.underlying5 h1
  obtain ⟨lv, l, rfl, L, hl⟩ := dV_parts Try.underlying44 Try.underlying47 rfl Try.underlying3 Try.underlying5 h2
  obtain ⟨t, rfl, c1, c2⟩ := dV_u8 Try.underlying5 h3
  obtain ⟨o, rfl, e1, e2⟩ := dV_u8 Try.underlying5 h4
  obtain ⟨s, rfl⟩ := dV_bool Try.underlying4 h5
  obtain ⟨bv_, bs, rfl, sb, -, -, lb, -⟩ := dV_bytes Try.underlying22 Try.underlying5 h6
  obtain ⟨v, h', e, q⟩ := law7 (lf := 1001) (h := []) (second := s) (by omega) a1 a2 b1 b2 c1 c2 e1 e2 L hl (sb []) lb
  exact ⟨_, _, _, _, _, _, _, rfl, rfl, rfl, rfl, rfl, rfl, rfl, (F7_ok _ _ _ _ _ _ _ _ _ _ _ e).2.mono fun v2 h2 z => by rw [z.1]; exact q⟩
end Go.Proofs.Ytdcdmpgigmhhpaa.Jb
