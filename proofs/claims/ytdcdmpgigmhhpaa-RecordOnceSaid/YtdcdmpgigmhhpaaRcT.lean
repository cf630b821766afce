/- Rows in bytes: rows that are alike; the awake call; a claim's rows. No condition. -/
import Derived.Test.YtdcdmpgigmhhpaaRcS
import Derived.Laws.Closers25b
namespace Go.Proofs.Ytdcdmpgigmhhpaa.Rc
open Go Go.Proofs.Ytdcdmpgigmhhpaa.E
open Go.Proofs.Ytdcdmpgigmhhpaa.Va
set_option maxRecDepth 100000
set_option linter.unusedVariables false
set_option linter.unusedSimpArgs false

theorem less_self : ∀ s : List UInt8, Op.bytesLess s s = false
  | [] => rfl
  | a :: x => by simp [Op.bytesLess, less_self x]
theorem ord83 {lf : Nat} {h : List Ob} (r : R) : To2 (F83 lf r.k r.n r.s r.k r.n r.s h) fun v h' => v = .int .i64 0 ∧ Kp h h' [] := by
  simp only [F83]
  refine To2.bind2 (box_to (cs := rC r) rfl) ?_
  rintro p h1 ⟨rfl, st1, k1⟩
  refine To2.bind2 (box_to (cs := rC r) rfl) ?_
  rintro p h2 ⟨rfl, st2, k2⟩
  have st1 := st1.kp k2
  have a0 := st1.faddr 0 0 0
  have a1 := st1.faddr 1 0 0
  have a2 := st1.faddr 2 0 0
  have b0 := st2.faddr 0 0 0
  have b1 := st2.faddr 1 0 0
  have b2 := st2.faddr 2 0 0
  have l0 : er (.load1 (.c (.ptr h.length 0 0))) h2 = some (.int .i64 r.k) := st1.load1 rfl
  have l1 : er (.load1 (.c (.ptr h.length 0 1))) h2 = some (.int .i64 r.n) := st1.load1 rfl
  have l2 : er (.load1 (.c (.ptr h.length 0 2))) h2 = some (.str r.s) := st1.load1 rfl
  have m0 : er (.load1 (.c (.ptr h1.length 0 0))) h2 = some (.int .i64 r.k) := st2.load1 rfl
  have m1 : er (.load1 (.c (.ptr h1.length 0 1))) h2 = some (.int .i64 r.n) := st2.load1 rfl
  have m2 : er (.load1 (.c (.ptr h1.length 0 2))) h2 = some (.str r.s) := st2.load1 rfl
  simp only [Nat.zero_add] at a0 a1 a2 b0 b1 b2
  simp only [a0, a1, a2, b0, b1, b2, l0, l1, l2, m0, m1, m2, bind1_some, castInt_int, castStr_str, bne_self_eq_false, cB_false, F90, less_self, beq_self_eq_true, Bool.false_or, Bool.not_true, bind2_some]
  exact To2.some ⟨rfl, k1.tr k2⟩
theorem row64L (lf : Nat) {h0 : List Ob} {v w : V} {row : List R} (s : Sl 3 h0 v (rows row)) (t : Sl 3 h0 w (rows row)) (hl : row.length ≤ 1000000) : ∀ (m k f : Nat) (h : List Ob), row.length = k + m → m < f → Kp h0 h [] →
    To3 (L64_0 lf f v w row.length k h) fun x vs h' => Kp h0 h' [] ∧ x = .exit 0 ∧ vs = [] := by
  intro m
  induction m with
  | zero =>
    intro k f h hk hf kp
    obtain ⟨f, rfl⟩ : ∃ g, f = g + 1 := ⟨f - 1, by omega⟩
    have hd : decide ((k : Int) < (row.length : Int)) = false := decide_eq_false (by omega)
    simp only [L64_0, B64_0, hd, cB_false]
    exact To3.some ⟨kp, rfl, rfl⟩
  | succ m ih =>
    intro k f h hk hf kp
    obtain ⟨f, rfl⟩ : ∃ g, f = g + 1 := ⟨f - 1, by omega⟩
    have hlt : k < row.length := by omega
    have hd : decide ((k : Int) < (row.length : Int)) = true := decide_eq_true (by omega)
    have hd2 : decide ((k : Int) ≥ (row.length : Int)) = false := decide_eq_false (by omega)
    obtain ⟨a, a1, a2⟩ := rowAt (s.kp kp) hlt
    obtain ⟨b, b1, b2⟩ := rowAt (t.kp kp) hlt
    have hw : IntKind.i64.wrap ((k : Int) + 1) = ((k + 1 : Nat) : Int) := by rw [wrap_i64 (by omega) (by omega)]; simp
    simp only [L64_0, B64_0, hd, cB_true, er_lenL (t.kp kp), rows_len, hd2, cB_false, a1, a2, b1, b2, bind1_some, castAgg_agg, rC, castCons_cons, castInt_int, castStr_str, castNil_nil]
    refine To3.bind2 (ord83 row[k]) ?_
    rintro u h1 ⟨rfl, k1⟩
    simp only [castInt_int, bne_self_eq_false, cB_false, hw]
    exact ih (k + 1) f h1 (by omega) (by omega) (kp.tr k1)
theorem same40 {lf : Nat} {h : List Ob} {v w : V} {row : List R} (s : Sl 3 h v (rows row)) (t : Sl 3 h w (rows row)) (hl : row.length ≤ 1000000) (hf : row.length < lf) : To2 (F40 lf v w h) fun u _ => u = .bool true := by
  have := row64L lf s t hl row.length 0 lf h (by omega) hf (Kp.refl _ _)
  have z : ((0 : Nat) : Int) = 0 := rfl
  rw [z] at this
  have d : decide ((row.length : Int) < (row.length : Int)) = false := decide_eq_false (by omega)
  simp only [F40, F64, er_lenL s, er_lenL t, rows_len, bind1_some, castInt_int, beq_self_eq_true, cB_true]
  refine To2.bind2 (Q := fun u _ => u = .int .i64 0) (To2.bind3 this ?_) ?_
  · rintro x vs h1 ⟨kp, rfl, rfl⟩
    simp only [decide_true, cB_true, castNil_nil, er_lenL (s.kp kp), er_lenL (t.kp kp), rows_len, bind1_some, castInt_int, d, cB_false]
    exact To2.some rfl
  · rintro u h1 rfl
    simp only [castInt_int]
    exact To2.some rfl

theorem encR_of {row : List R} (hf : row.all fine = true) (hl : (encB row).length ≤ 140) : encR row = (encB row, 0) := by
  simp only [encR, hf, if_true]
  rw [encL_le row _ hl]
  rfl
theorem encR_ok {row : List R} (h : (encR row).2 = 0) : row.all fine = true ∧ (encR row).1 = encB row ∧ (encB row).length ≤ 140 := by
  unfold encR at h ⊢
  by_cases c : row.all fine = true
  · rw [if_pos c] at h ⊢
    cases e : encL row (numB row.length) with
    | none => rw [e] at h; cases h
    | some b =>
      obtain ⟨g1, g2⟩ := encL_some _ _ _ e
      have := g2 (by have := numB_len row.length; omega)
      refine ⟨c, g1, ?_⟩
      unfold encB; rw [← g1]; exact this
  · rw [if_neg c] at h; cases h
theorem encR_byt (row : List R) : Byt (encR row).1 := by
  by_cases c : (encR row).2 = 0
  · obtain ⟨g1, g2, _⟩ := encR_ok c
    rw [g2]; exact encB_byt g1
  · have : (encR row).1 = [] := by
      unfold encR at c ⊢
      split
      · rename_i q
        rw [if_pos q] at c
        split
        · rename_i q2; rw [q2] at c; exact absurd rfl c
        · rfl
      · rfl
    rw [this]; intro m hm; cases hm
theorem encR_e (row : List R) : (encR row).2 ≠ 0 → (encR row).1 = [] := by
  intro c
  unfold encR at c ⊢
  split
  · rename_i q
    rw [if_pos q] at c
    split
    · rename_i q2; rw [q2] at c; exact absurd rfl c
    · rfl
  · rfl
theorem flat_len : ∀ row : List R, row.length ≤ (row.flatMap encV).length
  | [] => by simp
  | r :: rs => by
    have := flat_len rs
    simp only [List.flatMap_cons, List.length_append, List.length_cons, encV]
    omega
theorem encB_len (row : List R) : row.length < (encB row).length := by
  have := flat_len row
  have := numB_pos row.length
  simp only [encB, List.length_append]; omega

theorem awake36 {lf : Nat} (hf : 1000 < lf) {h : List Ob} : To2 (F36 lf h) fun v h' => v = .bool true ∧ Kp h h' [] := by
  have eb : er (.build [.int .i64 0, .int .i64 0, .str []] []) h = some (.agg [.int .i64 0, .int .i64 0, .str []]) := rfl
  simp only [F36, eb, bind1_some, castAgg_agg, castCons_cons, castInt_int, castStr_str, castNil_nil]
  refine To2.bind2 (bslice_to (ps := [(0, rV ⟨0, 0, []⟩)]) (es := rows [⟨0, 0, []⟩]) (by decide) rfl rfl rfl) ?_
  rintro x h1 ⟨-, -, sx, -, k1, -⟩
  refine To2.bind2 (enc37 sx (by simp) (by simp; omega) (by intro r hr; simp at hr; subst hr; simp [inR])) ?_
  rintro v h2 ⟨y, rfl, ny⟩
  have e : encR [⟨0, 0, []⟩] = ([1, 0], 0) := by decide
  rw [e] at ny
  simp only [e, castTup_tup, castCons_cons, castInt_int, castNil_nil, beq_self_eq_true, cB_true, er_toStr ny.1, bind1_some, castStr_str]
  exact To2.some ⟨rfl, k1.tr ny.2.2.1⟩

theorem dV_rows {H : Type} {P : Program} {d : DataW H} {t e t0 t1 t2 : TypeId} {fs : Array Field} {vs : List V} (hu : P.underlying t = some (.slice e)) (he : P.underlying e = some (.struct fs)) (hfs : fs.toList.map (·.type) = [t0, t1, t2])
    (h0 : P.underlying t0 = some (.int .i64)) (h1 : P.underlying t1 = some (.int .i64)) (h2 : P.underlying t2 = some .string) (h : dV P d t = some vs) :
    ∃ v row, vs = [v] ∧ (∀ h, Sl 3 h v (rows row)) ∧ idsOf v = [] ∧ (∀ r, r ∈ row → inR r) ∧ row.length ≤ 9223372036854775807 := by
  have one : ∀ {d : DataW H} {cs : List V}, dV P d e = some cs → ∃ r, elemV P e cs = rV r ∧ inR r := by
    intro d cs hd
    obtain ⟨ps, rfl, q0⟩ := dV_struct he hd
    match hl : fs.toList, hfs with
    | [f0, f1, f2], hfs =>
      simp only [List.map_cons, List.map_nil, List.cons.injEq, and_true] at hfs
      obtain ⟨rfl, rfl, rfl⟩ := hfs
      rw [hl] at q0
      obtain ⟨d0, ps0, a0, b0, rfl, g0, q1, rfl⟩ := dVf_cons q0
      obtain ⟨d1, ps1, a1, b1, rfl, g1, q2, rfl⟩ := dVf_cons q1
      obtain ⟨d2, ps2, a2, b2, rfl, g2, q3, rfl⟩ := dVf_cons q2
      obtain ⟨rfl, rfl⟩ := dVf_nil q3
      obtain ⟨k, rfl, _⟩ := dV_i64 h0 g0
      obtain ⟨n, rfl, l1⟩ := dV_i64 h1 g1
      obtain ⟨s, rfl⟩ := dV_str h2 g2
      refine ⟨⟨k, n, s⟩, ?_, l1⟩
      have : isAggT P e = true := by simp [isAggT, he]
      simp [elemV, this, rV, rC]
    | [], hfs => simp at hfs
    | [_], hfs => simp at hfs
    | [_, _], hfs => simp at hfs
    | _ :: _ :: _ :: _ :: _, hfs => simp at hfs
  have all : ∀ {ds : List (DataW H)} {es : List V}, dVs P ds e = some es → ∃ row, es = rows row ∧ ∀ r, r ∈ row → inR r := by
    intro ds
    induction ds with
    | nil => intro es h; simp [dVs] at h; subst h; exact ⟨[], rfl, fun r hr => by cases hr⟩
    | cons d ds ih =>
      intro es h
      simp only [dVs] at h
      split at h
      · rename_i cs es' q1 q2
        injection h with h; subst h
        obtain ⟨row, rfl, hr⟩ := ih q2
        obtain ⟨r, e1, hr1⟩ := one q1
        refine ⟨r :: row, by simp [rows, e1], fun x hx => ?_⟩
        rcases List.mem_cons.1 hx with rfl | hx
        · exact hr1
        · exact hr x hx
      · cases h
  rcases dV_slice' hu h with rfl | ⟨elems, sp, es, rfl, g1, rfl, g2⟩
  · exact ⟨_, [], rfl, fun h => Sl.nils 3 h, rfl, (fun r hr => by cases hr), by simp⟩
  · obtain ⟨row, rfl, hr⟩ := all g1
    refine ⟨_, row, rfl, fun h => Sl.sl ?_, rfl, hr, ?_⟩
    · cases row <;> rfl
    · rw [rows_len] at g2
      refine Nat.le_trans g2 (by decide)
end Go.Proofs.Ytdcdmpgigmhhpaa.Rc
