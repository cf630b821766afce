/- Disks: scripts. No condition. -/
import Derived.Test.YtbjphicipgneaaaDkT
namespace Go.Proofs.Ytbjphicipgneaaa.Dk
open Go Go.Proofs.Ytbjphicipgneaaa.E
set_option maxRecDepth 100000
set_option linter.unusedVariables false
set_option linter.unusedSimpArgs false

structure OpI where
  k : Int
  f : Int
  a : Int
  n : Int
  bs : List Int
  bV : V
  kV : V
  kes : List V
def okO (o : OpI) : Prop := (∀ h, Sl 1 h o.bV (bv o.bs)) ∧ (∀ h, Sl 1 h o.kV o.kes) ∧ o.bs.length ≤ 9223372036854700000
abbrev cO (o : OpI) : List V := [.int .i64 o.k, .int .i64 o.f, .int .i64 o.a, .int .i64 o.n, o.bV, o.kV]
def rowsO (ops : List OpI) : List V := ops.map fun o => .agg (cO o)
theorem inp_ids {sz : Nat} {v : V} {es : List V} (s : ∀ h, Sl sz h v es) : ∀ j, j ∉ idsOf v := fun j hj => by
  have := (s []).lt hj
  simp at this
def total (ops : List OpI) : Nat := (ops.map (·.bs.length)).sum
theorem okO_sc {o : OpI} (h : okO o) : (cO o).all V.scalar = true := by
  simp [((h.1 []).sc).2, ((h.2.1 []).sc).2]; exact ⟨rfl, rfl, rfl, rfl⟩
theorem at_op {ops : List OpI} {h : List Ob} {v : V} (s : Sl 6 h v (rowsO ops)) (ok : ∀ o, o ∈ ops → okO o) {k : Nat} (hk : k < ops.length) :
    ∃ a, er (.iaddrL 6 (.c v) (.c (.int .i64 (k : Int)))) h = some a ∧ ∀ (o : Nat) (x : V), (cO ops[k])[o]? = some x → ∃ b, er (.faddr o (.c a)) h = some b ∧ er (.load1 (.c b)) h = some x :=
  s.atF (k := (k : Int)) (cs := cO ops[k]) (by omega) (by simp [rowsO, hk]) rfl (by decide) (okO_sc (ok _ (List.getElem_mem hk)))

theorem fewL (lf : Nat) {h : List Ob} {v : V} {ops : List OpI} (s : Sl 6 h v (rowsO ops)) (ok : ∀ o, o ∈ ops → okO o) : ∀ (m k f n : Nat), ops.length = k + m → m < f → k ≤ 100 → n ≤ 20000 →
    To3 (L11_0 lf f v n ops.length k h) fun x vs h' => h' = h ∧ ((x = .exit 0 ∧ vs = [] ∧ n + total (ops.drop k) ≤ 20000 ∧ ops.length ≤ 100) ∨ (x = .ret ∧ vs = [.bool false])) := by
  intro m
  induction m with
  | zero =>
    intro k f n hk hf h1 h2
    obtain ⟨f, rfl⟩ : ∃ g, f = g + 1 := ⟨f - 1, by omega⟩
    have hd : decide ((k : Int) < (ops.length : Int)) = false := decide_eq_false (by omega)
    simp only [L11_0, B11_0, hd, cB_false]
    refine To3.some ⟨rfl, .inl ⟨rfl, rfl, ?_, by omega⟩⟩
    rw [List.drop_eq_nil_of_le (by omega)]; simpa [total] using h2
  | succ m ih =>
    intro k f n hk hf h1 h2
    obtain ⟨f, rfl⟩ : ∃ g, f = g + 1 := ⟨f - 1, by omega⟩
    have hlt : k < ops.length := by omega
    have hd : decide ((k : Int) < (ops.length : Int)) = true := decide_eq_true (by omega)
    have oko := ok _ (List.getElem_mem hlt)
    obtain ⟨a, a1, a2⟩ := at_op s ok hlt
    obtain ⟨b4, b41, b42⟩ := a2 4 ops[k].bV rfl
    obtain ⟨b5, b51, b52⟩ := a2 5 ops[k].kV rfl
    have hw : IntKind.i64.wrap ((n : Int) + (ops[k].bs.length : Int)) = ((n + ops[k].bs.length : Nat) : Int) := by have := oko.2.2; rw [wrap_i64 (by omega) (by omega)]; omega
    have hw1 : IntKind.i64.wrap ((k : Int) + 1) = ((k + 1 : Nat) : Int) := by rw [wrap_i64 (by omega) (by omega)]; omega
    simp only [L11_0, B11_0, hd, cB_true, a1, b41, b42, b51, b52, bind1_some, er_lenL (oko.1 h), er_lenL (oko.2.1 h), bv_length, castInt_int, hw, hw1]
    by_cases q1 : (k : Int) ≥ 100
    · have e : decide ((k : Int) ≥ 100) = true := decide_eq_true q1
      simp only [e, cB_true]
      exact To3.some ⟨rfl, .inr ⟨rfl, rfl⟩⟩
    · have e : decide ((k : Int) ≥ 100) = false := decide_eq_false q1
      simp only [e, cB_false]
      by_cases q2 : ((n + ops[k].bs.length : Nat) : Int) > 20000
      · have e : decide (((n + ops[k].bs.length : Nat) : Int) > 20000) = true := decide_eq_true q2
        simp only [e, cB_true]
        exact To3.some ⟨rfl, .inr ⟨rfl, rfl⟩⟩
      · have e : decide (((n + ops[k].bs.length : Nat) : Int) > 20000) = false := decide_eq_false q2
        simp only [e, cB_false]
        by_cases q3 : (ops[k].kes.length : Int) > 200
        · have e : decide ((ops[k].kes.length : Int) > 200) = true := decide_eq_true q3
          simp only [e, cB_true]
          exact To3.some ⟨rfl, .inr ⟨rfl, rfl⟩⟩
        · have e : decide ((ops[k].kes.length : Int) > 200) = false := decide_eq_false q3
          simp only [e, cB_false]
          refine (ih (k + 1) f (n + ops[k].bs.length) (by omega) (by omega) (by omega) (by omega)).mono ?_
          rintro x vs h' ⟨rfl, ⟨rfl, rfl, t, l⟩ | ⟨rfl, rfl⟩⟩
          · refine ⟨rfl, .inl ⟨rfl, rfl, ?_, l⟩⟩
            rw [List.drop_eq_getElem_cons hlt]
            simp only [total, List.map_cons, List.sum_cons] at t ⊢
            omega
          · exact ⟨rfl, .inr ⟨rfl, rfl⟩⟩
theorem few11 {lf : Nat} {h : List Ob} {v : V} {ops : List OpI} (s : Sl 6 h v (rowsO ops)) (ok : ∀ o, o ∈ ops → okO o) (hf : ops.length < lf) : To2 (F11 lf v h) fun u h' => h' = h ∧ ((u = .bool true ∧ total ops ≤ 20000 ∧ ops.length ≤ 100) ∨ u = .bool false) := by
  have := fewL lf s ok ops.length 0 lf 0 (by omega) hf (by omega) (by omega)
  have z : ((0 : Nat) : Int) = 0 := rfl
  rw [z, List.drop_zero] at this
  simp only [F11, er_lenL s, show (rowsO ops).length = ops.length by simp [rowsO], bind1_some, castInt_int]
  refine To2.bind3 this ?_
  rintro x vs h' ⟨rfl, ⟨rfl, rfl, t, l⟩ | ⟨rfl, rfl⟩⟩
  · simp only [decide_true, cB_true, castNil_nil]
    exact To2.some ⟨rfl, .inl ⟨rfl, by omega, l⟩⟩
  · simp only [show decide (EX.ret = EX.exit 0) = false from rfl, decide_true, cB_true, cB_false, castCons_cons, castBool_bool, castNil_nil]
    exact To2.some ⟨rfl, .inr rfl⟩

theorem awake10 {lf : Nat} (hf : 3000000 < lf) {h : List Ob} : To2 (F10 lf h) fun v h' => v = .bool true ∧ Kp h h' [] := by
  simp only [F10]
  have hr10 : (0 : Int) ≤ 10 := by decide
  refine To2.bind2 (new12 hr10) ?_
  rintro p h1 ⟨rfl, d, k1⟩
  have en : er (.eq true .ptr (.c (.ptr h.length 0 0)) (.c V.nilp)) h1 = some (.bool true) := by
    simp [er, ev, evOq, x_eq, getC, evEq, isNil, d.st.alive]
  simp only [en, bind1_some, castBool_bool, cB_true]
  refine To2.bind2 (bslice_to (len := 2) (ps := [(0, .int .u8 97), (1, .int .u8 98)]) (es := bv [97, 98]) (by decide) rfl rfl rfl) ?_
  rintro x h2 ⟨rfl, -, sx, -, k2, fx⟩
  have es : er (.strish (.c (.hsl h1.length 0 2))) h2 = some (.hsl h1.length 0 2) := by
    simp [er, ev, evOq, x_strish, getC, evStrish, hslAlive sx]
  simp only [es, bind1_some]
  refine To2.bind2 (write13_0 hf (d.kp k2) sx (fun j hj z => by have := d.lt z; have := fx j hj; omega) (by simp) (by simp) (by simp) (by simp)) ?_
  rintro u h3 ⟨w', rfl, d3, k3, f3⟩
  have hw : wrF [] [] 0 [97, 98] = (0, [97, 98], [0]) := by decide
  simp only [hw] at d3 ⊢
  have hl : leftC ⟨[97, 98], [], [0], [], [], [], 10⟩ = 8 := by decide
  simp only [castInt_int, show ((0 : Int) == 0) = true from rfl, cB_true, size15_0 d3, left17 d3, hl, bind2_some, show (((([97, 98] : List Int).length : Nat) : Int) == 2) = true from rfl, show ((8 : Int) == 8) = true from rfl]
  refine To2.some ⟨rfl, ?_⟩
  refine (k1.tr k2).trans k3 (fun j hj => by cases hj) (fun j hj hlt => ?_)
  simp only [foot, idsOf, idsM, List.append_nil, List.mem_cons, List.not_mem_nil, or_false] at hj
  omega
theorem total_take_le (ops : List OpI) (k : Nat) : total (ops.take k) ≤ total ops := by
  have e : total ops = total (ops.take k) + total (ops.drop k) := by
    unfold total
    rw [← List.sum_append, ← List.map_append, List.take_append_drop]
  omega

/-- The script, on one disk. -/
def runW (c : DC) (ops : List OpI) : DC := ops.foldl (fun c o => if o.k = 1 then wrD c o.f o.a o.bs else c) c
theorem wrD_size (c : DC) (n at_ : Int) (ms : List Int) : (wrD c n at_ ms).a.length + (wrD c n at_ ms).b.length ≤ c.a.length + c.b.length + ms.length ∧ (wrD c n at_ ms).room = c.room := by
  have h : ∀ a ta : List Int, (wrF a ta at_ ms).2.1.length ≤ a.length + ms.length := by
    intro a ta
    unfold wrF
    split
    · simp
    · split
      · simp
      · simp only [List.length_append, List.length_take, List.length_drop]; omega
  unfold wrD
  split
  · have := h c.a c.ta; exact ⟨by simp only; omega, rfl⟩
  · split
    · have := h c.b c.tb; exact ⟨by simp only; omega, rfl⟩
    · exact ⟨by omega, rfl⟩
end Go.Proofs.Ytbjphicipgneaaa.Dk
