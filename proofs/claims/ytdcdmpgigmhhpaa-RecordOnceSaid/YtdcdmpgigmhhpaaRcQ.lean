/- Rows in bytes: what the functions come to. No condition. -/
import Derived.Test.YtdcdmpgigmhhpaaRcs
import Derived.Test.YtdcdmpgigmhhpaaRcP
import Derived.Test.YtdcdmpgigmhhpaaE39
namespace Go.Proofs.Ytdcdmpgigmhhpaa.Rc
open Go Go.Proofs.Ytdcdmpgigmhhpaa.E
open Go.Proofs.Ytdcdmpgigmhhpaa.Va
set_option maxRecDepth 100000
set_option linter.unusedVariables false
set_option linter.unusedSimpArgs false

def rC (r : R) : List V := [.int .i64 r.k, .int .i64 r.n, .str r.s]
def rV (r : R) : V := .agg (rC r)
abbrev rows (row : List R) : List V := row.map rV

theorem form60 {lf : Nat} {h : List Ob} (r : R) : To2 (F60 lf r.k r.n r.s h) fun v h' => v = .bool (fine r) ∧ Kp h h' [] := by
  obtain ⟨k, n, s⟩ := r
  simp only [F60]
  refine To2.bind2 (box_to (cs := rC ⟨k, n, s⟩) rfl) ?_
  rintro v h1 ⟨rfl, st, k1⟩
  have f0 := st.faddr 0 0 0
  have f1 := st.faddr 1 0 0
  have f2 := st.faddr 2 0 0
  have l0 : er (.load1 (.c (.ptr h.length 0 0))) h1 = some (.int .i64 k) := st.load1 rfl
  have l1 : er (.load1 (.c (.ptr h.length 0 1))) h1 = some (.int .i64 n) := st.load1 rfl
  have l2 : er (.load1 (.c (.ptr h.length 0 2))) h1 = some (.str s) := st.load1 rfl
  simp only [Nat.zero_add] at f0 f1 f2
  simp only [f0, bind1_some, l0, castInt_int]
  by_cases c0 : k = 0
  · subst c0
    have lN := st.loadN' (n := 3) rfl
    have eb : er (.build [.int .i64 0, .int .i64 0, .str []] []) h1 = some (.agg [.int .i64 0, .int .i64 0, .str []]) := rfl
    simp only [beq_self_eq_true, cB_true, lN, bind1_some, castAgg_agg, rC, castCons_cons, castInt_int, castStr_str, castNil_nil, eb]
    have ee : er (.eq false (.struct 3 [(0, .i), (1, .i), (2, .s)]) (.c (.agg [.int .i64 0, .int .i64 n, .str s])) (.c (.agg [.int .i64 0, .int .i64 0, .str []]))) h1 = some (.bool (n == 0 && s == [])) := by
      by_cases c1 : n = 0
      · by_cases c2 : s = []
        · subst c1; subst c2; rfl
        · have : (s == []) = false := by simp [c2]
          subst c1
          simp [er, ev, evOq, x_eq, getC, evEq, eqLeaves, eqAt, this]
      · have : (n == 0) = false := by simp [c1]
        simp [er, ev, evOq, x_eq, getC, evEq, eqLeaves, eqAt, this]
    simp only [ee, bind1_some, castBool_bool]
    refine To2.some ⟨?_, k1⟩
    simp [fine]
  · have d0 : (k == 0) = false := by simp [c0]
    simp only [d0, cB_false]
    by_cases c1 : k = 1
    · subst c1
      simp only [beq_self_eq_true, cB_true, f2, l2, bind1_some, castStr_str]
      exact To2.some ⟨by simp [fine], k1⟩
    · have d1 : (k == 1) = false := by simp [c1]
      simp only [d1, cB_false]
      by_cases c2 : k = 2
      · subst c2
        simp only [beq_self_eq_true, cB_true, f1, f2, l1, l2, bind1_some, castStr_str, castInt_int]
        by_cases c3 : n = 0
        · subst c3
          simp only [beq_self_eq_true, cB_true]
          refine To2.some ⟨?_, k1⟩
          simp only [fine]
          congr 1
          simp
          omega
        · have d3 : (n == 0) = false := by simp [c3]
          simp only [d3, cB_false]
          exact To2.some ⟨by simp [fine, c3], k1⟩
      · have d2 : (k == 2) = false := by simp [c2]
        simp only [d2, cB_false]
        exact To2.some ⟨by simp [fine, c0, c1, c2], k1⟩

theorem form81 {lf : Nat} {h : List Ob} (r : R) : To2 (F81 lf r.k r.n r.s h) fun v h' => v = .bool (fine r) ∧ Kp h h' [] := by
  obtain ⟨k, n, s⟩ := r
  simp only [F81]
  refine To2.bind2 (box_to (cs := rC ⟨k, n, s⟩) rfl) ?_
  rintro v h1 ⟨rfl, st, k1⟩
  have f0 := st.faddr 0 0 0
  have f1 := st.faddr 1 0 0
  have f2 := st.faddr 2 0 0
  have l0 : er (.load1 (.c (.ptr h.length 0 0))) h1 = some (.int .i64 k) := st.load1 rfl
  have l1 : er (.load1 (.c (.ptr h.length 0 1))) h1 = some (.int .i64 n) := st.load1 rfl
  have l2 : er (.load1 (.c (.ptr h.length 0 2))) h1 = some (.str s) := st.load1 rfl
  simp only [Nat.zero_add] at f0 f1 f2
  simp only [f0, bind1_some, l0, castInt_int]
  by_cases c0 : k = 0
  · subst c0
    simp only [beq_self_eq_true, cB_true, f1, f2, l1, l2, bind1_some, castInt_int, castStr_str]
    by_cases c3 : n = 0
    · subst c3
      simp only [beq_self_eq_true, cB_true]
      exact To2.some ⟨by simp [fine], k1⟩
    · have d3 : (n == 0) = false := by simp [c3]
      simp only [d3, cB_false]
      exact To2.some ⟨by simp [fine, c3], k1⟩
  · have d0 : (k == 0) = false := by simp [c0]
    simp only [d0, cB_false]
    by_cases c1 : k = 1
    · subst c1
      simp only [beq_self_eq_true, cB_true, f2, l2, bind1_some, castStr_str]
      exact To2.some ⟨by simp [fine], k1⟩
    · have d1 : (k == 1) = false := by simp [c1]
      simp only [d1, cB_false]
      by_cases c2 : k = 2
      · subst c2
        simp only [beq_self_eq_true, cB_true, f1, f2, l1, l2, bind1_some, castStr_str, castInt_int]
        by_cases c3 : n = 0
        · subst c3
          simp only [beq_self_eq_true, cB_true]
          refine To2.some ⟨?_, k1⟩
          simp only [fine]
          congr 1
          simp
          omega
        · have d3 : (n == 0) = false := by simp [c3]
          simp only [d3, cB_false]
          exact To2.some ⟨by simp [fine, c3], k1⟩
      · have d2 : (k == 2) = false := by simp [c2]
        simp only [d2, cB_false]
        exact To2.some ⟨by simp [fine, c0, c1, c2], k1⟩

theorem form59 {lf : Nat} {h : List Ob} (r : R) : To2 (F59 lf r.k r.n r.s h) fun v h' => v = .bool (!fine r) ∧ Kp h h' [] := by
  simp only [F59]
  refine To2.bind2 (box_to (cs := rC r) rfl) ?_
  rintro v h1 ⟨rfl, st, k1⟩
  have lN := st.loadN' (n := 3) rfl
  simp only [lN, bind1_some, castAgg_agg, rC, castCons_cons, castInt_int, castStr_str, castNil_nil]
  refine To2.bind2 (form60 r) ?_
  rintro v h2 ⟨rfl, k2⟩
  simp only [castBool_bool]
  exact To2.some ⟨rfl, k1.tr k2⟩

theorem rowAt {h : List Ob} {v : V} {row : List R} (s : Sl 3 h v (rows row)) {k : Nat} (hk : k < row.length) :
    ∃ a, er (.iaddrL 3 (.c v) (.c (.int .i64 (k : Int)))) h = some a ∧ er (.loadN 3 (.c a)) h = some (.agg (rC row[k])) :=
  s.atN (k := (k : Int)) (cs := rC row[k]) (by omega) (by simp [rows, rV, hk]) rfl (by decide)
@[simp] theorem rows_len (row : List R) : (rows row).length = row.length := by simp [rows]

theorem idx80 (lf : Nat) {h0 : List Ob} {v : V} {row : List R} (s : Sl 3 h0 v (rows row)) (hl : row.length ≤ 1000000) : ∀ (m k f : Nat) (h : List Ob), row.length = k + m → m < f → Kp h0 h [] →
    To3 (L80_0 lf (cv37 lf) f v (.fn 59 []) row.length k h) fun x vs h' => Kp h0 h' [] ∧ ((x = .exit 0 ∧ vs = [] ∧ (row.drop k).all fine = true) ∨ (∃ j : Nat, x = .ret ∧ vs = [.int .i64 j] ∧ (row.drop k).all fine = false)) := by
  intro m
  induction m with
  | zero =>
    intro k f h hk hf kp
    obtain ⟨f, rfl⟩ : ∃ g, f = g + 1 := ⟨f - 1, by omega⟩
    have e : row.drop k = [] := List.drop_of_length_le (by omega)
    have hd : decide ((k : Int) < (row.length : Int)) = false := decide_eq_false (by omega)
    simp only [L80_0, B80_0, hd, cB_false, e]
    exact To3.some ⟨kp, .inl ⟨rfl, rfl, rfl⟩⟩
  | succ m ih =>
    intro k f h hk hf kp
    obtain ⟨f, rfl⟩ : ∃ g, f = g + 1 := ⟨f - 1, by omega⟩
    have hlt : k < row.length := by omega
    have hd : decide ((k : Int) < (row.length : Int)) = true := decide_eq_true (by omega)
    obtain ⟨a, a1, a2⟩ := rowAt (s.kp kp) hlt
    have hw : IntKind.i64.wrap ((k : Int) + 1) = ((k + 1 : Nat) : Int) := by rw [wrap_i64 (by omega) (by omega)]; simp
    have ecv : ∀ h, cv37 lf (.fn 59 []) [.agg [.int .i64 row[k].k, .int .i64 row[k].n, .str row[k].s]] h = F59 lf row[k].k row[k].n row[k].s h := by
      intro h
      simp [cv37, cvC, W59, w59]
    simp only [L80_0, B80_0, hd, cB_true, a1, a2, bind1_some, castAgg_agg, rC, castCons_cons, castInt_int, castStr_str, castNil_nil, ecv]
    refine To3.bind2 (form59 row[k]) ?_
    rintro u h1 ⟨rfl, k1⟩
    simp only [castBool_bool]
    rw [List.drop_eq_getElem_cons hlt]
    by_cases c : fine row[k] = true
    · simp only [c, Bool.not_true, cB_false, hw, List.all_cons, Bool.true_and]
      exact ih (k + 1) f h1 (by omega) (by omega) (kp.tr k1)
    · have c : fine row[k] = false := by simpa using c
      simp only [c, Bool.not_false, cB_true, List.all_cons, Bool.false_and]
      exact To3.some ⟨kp.tr k1, .inr ⟨k, rfl, rfl, trivial⟩⟩
theorem con58 {lf : Nat} {h : List Ob} {v : V} {row : List R} (s : Sl 3 h v (rows row)) (hl : row.length ≤ 1000000) (hf : row.length < lf) : To2 (F58 lf (cv37 lf) v (.fn 59 []) h) fun u h' => u = .bool (!row.all fine) ∧ Kp h h' [] := by
  simp only [F58, F80, er_lenL s, rows_len, bind1_some, castInt_int]
  have := idx80 lf s hl row.length 0 lf h (by omega) hf (Kp.refl _ _)
  have z : ((0 : Nat) : Int) = 0 := rfl
  rw [z] at this
  refine To2.bind2 (Q := fun u h' => Kp h h' [] ∧ ∃ j : Int, u = .int .i64 j ∧ decide (j ≥ 0) = !row.all fine) (To2.bind3 this ?_) ?_
  · rintro x vs h1 ⟨kp, ⟨rfl, rfl, q⟩ | ⟨j, rfl, rfl, q⟩⟩
    · simp only [decide_true, cB_true, castNil_nil]
      rw [List.drop_zero] at q
      exact To2.some ⟨kp, -1, rfl, by rw [q]; rfl⟩
    · simp only [show decide (EX.ret = EX.exit 0) = false from rfl, decide_true, cB_true, cB_false, castCons_cons, castInt_int, castNil_nil]
      rw [List.drop_zero] at q
      exact To2.some ⟨kp, j, rfl, by rw [q]; simp⟩
  · rintro u h1 ⟨kp, j, rfl, q⟩
    simp only [castInt_int, q]
    exact To2.some ⟨rfl, kp⟩
theorem row61L (lf : Nat) {h0 : List Ob} {v : V} {row : List R} (s : Sl 3 h0 v (rows row)) (hl : row.length ≤ 1000000) : ∀ (m k f : Nat) (h : List Ob), row.length = k + m → m < f → Kp h0 h [] →
    To3 (L61_0 lf f v row.length k h) fun x vs h' => Kp h0 h' [] ∧ ((x = .exit 0 ∧ vs = [] ∧ (row.drop k).all fine = true) ∨ (x = .ret ∧ vs = [.bool false] ∧ (row.drop k).all fine = false)) := by
  intro m
  induction m with
  | zero =>
    intro k f h hk hf kp
    obtain ⟨f, rfl⟩ : ∃ g, f = g + 1 := ⟨f - 1, by omega⟩
    have e : row.drop k = [] := List.drop_of_length_le (by omega)
    have hd : decide ((k : Int) < (row.length : Int)) = false := decide_eq_false (by omega)
    simp only [L61_0, B61_0, hd, cB_false, e]
    exact To3.some ⟨kp, .inl ⟨rfl, rfl, rfl⟩⟩
  | succ m ih =>
    intro k f h hk hf kp
    obtain ⟨f, rfl⟩ : ∃ g, f = g + 1 := ⟨f - 1, by omega⟩
    have hlt : k < row.length := by omega
    have hd : decide ((k : Int) < (row.length : Int)) = true := decide_eq_true (by omega)
    obtain ⟨a, a1, a2⟩ := rowAt (s.kp kp) hlt
    have hw : IntKind.i64.wrap ((k : Int) + 1) = ((k + 1 : Nat) : Int) := by rw [wrap_i64 (by omega) (by omega)]; simp
    simp only [L61_0, B61_0, hd, cB_true, a1, a2, bind1_some, castAgg_agg, rC, castCons_cons, castInt_int, castStr_str, castNil_nil]
    refine To3.bind2 (form81 row[k]) ?_
    rintro u h1 ⟨rfl, k1⟩
    simp only [castBool_bool]
    rw [List.drop_eq_getElem_cons hlt]
    by_cases c : fine row[k] = true
    · simp only [c, Bool.not_true, cB_false, hw, List.all_cons, Bool.true_and]
      exact ih (k + 1) f h1 (by omega) (by omega) (kp.tr k1)
    · have c : fine row[k] = false := by simpa using c
      simp only [c, Bool.not_false, cB_true, List.all_cons, Bool.false_and]
      exact To3.some ⟨kp.tr k1, .inr ⟨rfl, rfl, trivial⟩⟩
theorem row61 {lf : Nat} {h : List Ob} {v : V} {row : List R} (s : Sl 3 h v (rows row)) (hl : row.length ≤ 1000000) (hf : row.length < lf) : To2 (F61 lf v h) fun u h' => u = .bool (row.all fine) ∧ Kp h h' [] := by
  simp only [F61, er_lenL s, rows_len, bind1_some, castInt_int]
  have := row61L lf s hl row.length 0 lf h (by omega) hf (Kp.refl _ _)
  have z : ((0 : Nat) : Int) = 0 := rfl
  rw [z] at this
  refine To2.bind3 this ?_
  rintro x vs h1 ⟨kp, ⟨rfl, rfl, q⟩ | ⟨rfl, rfl, q⟩⟩
  · simp only [decide_true, cB_true, castNil_nil]
    rw [List.drop_zero] at q
    exact To2.some ⟨by rw [q], kp⟩
  · simp only [show decide (EX.ret = EX.exit 0) = false from rfl, decide_true, cB_true, cB_false, castCons_cons, castBool_bool, castNil_nil]
    rw [List.drop_zero] at q
    exact To2.some ⟨by rw [q], kp⟩
end Go.Proofs.Ytdcdmpgigmhhpaa.Rc
