/- DiskParted: the script on both disks; the law. No condition. -/
import Derived.Test.YtbjphicipgneaaaDkU
namespace Go.Proofs.Ytbjphicipgneaaa.Dk
open Go Go.Proofs.Ytbjphicipgneaaa.E
set_option maxRecDepth 100000
set_option linter.unusedVariables false
set_option linter.unusedSimpArgs false

/-- Two disks that hold the same. -/
structure Two (h : List Ob) (i j : Nat) (w1 w2 : DV) (c1 c2 : DC) : Prop where
  d : Dk h i w1 c1
  e : Dk h j w2 c2
  dis : ∀ x, x ∈ foot i w1 → x ∉ foot j w2
theorem Two.left {h h' : List Ob} {i j : Nat} {w1 w2 w1' : DV} {c1 c2 c1' : DC} (t : Two h i j w1 w2 c1 c2) (d : Dk h' i w1' c1') (k : Kp h h' (foot i w1)) (f : ∀ x, x ∈ foot i w1' → x ∈ foot i w1 ∨ h.length ≤ x) : Two h' i j w1' w2 c1' c2 :=
  ⟨d, t.e.keep k (fun x hx hy => t.dis x hy hx), fun x hx hy => (f x hx).elim (fun z => t.dis x z hy) (fun z => by have := t.e.lt hy; omega)⟩
theorem Two.right {h h' : List Ob} {i j : Nat} {w1 w2 w2' : DV} {c1 c2 c2' : DC} (t : Two h i j w1 w2 c1 c2) (d : Dk h' j w2' c2') (k : Kp h h' (foot j w2)) (f : ∀ x, x ∈ foot j w2' → x ∈ foot j w2 ∨ h.length ≤ x) : Two h' i j w1 w2' c1 c2' :=
  ⟨t.d.keep k (fun x hx hy => t.dis x hx hy), d, fun x hx hy => (f x hy).elim (fun z => t.dis x hx z) (fun z => by have := t.d.lt hx; omega)⟩
theorem Two.kp {h h' : List Ob} {i j : Nat} {w1 w2 : DV} {c1 c2 : DC} (t : Two h i j w1 w2 c1 c2) (k : Kp h h' []) : Two h' i j w1 w2 c1 c2 := ⟨t.d.kp k, t.e.kp k, t.dis⟩

theorem scriptL (lf : Nat) (hf0 : 3000000 < lf) {v : V} {ops : List OpI} {i j : Nat} (s : ∀ h, Sl 6 h v (rowsO ops)) (ok : ∀ o, o ∈ ops → okO o) (hops : ops.length ≤ 100) : ∀ (m k f : Nat) (h : List Ob) (w1 w2 : DV) (c : DC), ops.length = k + m → m < f → Two h i j w1 w2 c c → c.room = 1073741824 → c.a.length + c.b.length + total (ops.drop k) ≤ 20000 →
    To3 (L3_0 lf f v (.ptr i 0 0) (.ptr j 0 0) ops.length k h) fun x vs h' => x = .exit 0 ∧ vs = [] ∧ ∃ w1' w2' c', Two h' i j w1' w2' c' c' ∧ c'.room = 1073741824 ∧ c'.a.length + c'.b.length ≤ 20000 := by
  intro m
  induction m with
  | zero =>
    intro k f h w1 w2 c hk hf t hr hs
    obtain ⟨f, rfl⟩ : ∃ g, f = g + 1 := ⟨f - 1, by omega⟩
    have hd : decide ((k : Int) < (ops.length : Int)) = false := decide_eq_false (by omega)
    simp only [L3_0, B3_0, hd, cB_false]
    exact To3.some ⟨rfl, rfl, w1, w2, c, t, hr, by omega⟩
  | succ m ih =>
    intro k f h w1 w2 c hk hf t hr hs
    obtain ⟨f, rfl⟩ : ∃ g, f = g + 1 := ⟨f - 1, by omega⟩
    have hlt : k < ops.length := by omega
    have hd : decide ((k : Int) < (ops.length : Int)) = true := decide_eq_true (by omega)
    have oko := ok _ (List.getElem_mem hlt)
    obtain ⟨a, a1, a2⟩ := at_op (s h) ok hlt
    obtain ⟨b0, b01, b02⟩ := a2 0 (.int .i64 ops[k].k) rfl
    obtain ⟨b1, b11, b12⟩ := a2 1 (.int .i64 ops[k].f) rfl
    obtain ⟨b2, b21, b22⟩ := a2 2 (.int .i64 ops[k].a) rfl
    obtain ⟨b4, b41, b42⟩ := a2 4 ops[k].bV rfl
    have hw1 : IntKind.i64.wrap ((k : Int) + 1) = ((k + 1 : Nat) : Int) := by rw [wrap_i64 (by omega) (by omega)]; omega
    rw [List.drop_eq_getElem_cons hlt] at hs
    simp only [total, List.map_cons, List.sum_cons] at hs
    simp only [L3_0, B3_0, hd, cB_true, a1, b01, b02, b11, b12, b21, b22, b41, b42, bind1_some, castInt_int, hw1]
    by_cases q : ops[k].k = 1
    · have e : (ops[k].k == 1) = true := by simp [q]
      simp only [e, cB_true]
      refine To3.bind2 (write13 hf0 t.d (oko.1 h) (fun x hx => absurd hx (inp_ids oko.1 x)) (by omega) (by omega) (by omega) ⟨by omega, by omega⟩) ?_
      rintro u h1 ⟨w1', rfl, d1, k1, f1⟩
      have t1 := t.left d1 k1 f1
      obtain ⟨a', a1', a2'⟩ := at_op (s h1) ok hlt
      obtain ⟨g1, g11, g12⟩ := a2' 1 (.int .i64 ops[k].f) rfl
      obtain ⟨g2, g21, g22⟩ := a2' 2 (.int .i64 ops[k].a) rfl
      obtain ⟨g4, g41, g42⟩ := a2' 4 ops[k].bV rfl
      simp only [castInt_int, a1', g11, g12, g21, g22, g41, g42, bind1_some]
      refine To3.bind2 (write13 hf0 t1.e (oko.1 h1) (fun x hx => absurd hx (inp_ids oko.1 x)) (by omega) (by omega) (by omega) ⟨by omega, by omega⟩) ?_
      rintro u h2 ⟨w2', rfl, d2, k2, f2⟩
      have t2 := t1.right d2 k2 f2
      have hsz := wrD_size c ops[k].f ops[k].a ops[k].bs
      simp only [castInt_int]
      exact ih (k + 1) f h2 w1' w2' _ (by omega) (by omega) t2 (by rw [hsz.2]; exact hr) (by simp only [total]; omega)
    · have e : (ops[k].k == 1) = false := by simp [q]
      simp only [e, cB_false]
      exact ih (k + 1) f h w1 w2 c (by omega) (by omega) t hr (by simp only [total]; omega)
end Go.Proofs.Ytbjphicipgneaaa.Dk
