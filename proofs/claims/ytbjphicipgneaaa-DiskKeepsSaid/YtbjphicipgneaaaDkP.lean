/- Disks: what a disk holds; the functions that only look. No condition. -/
import Derived.Test.YtbjphicipgneaaaDks
import Derived.Test.YtbjphicipgneaaaL4
namespace Go.Proofs.Ytbjphicipgneaaa.Dk
open Go Go.Proofs.Ytbjphicipgneaaa.E
set_option maxRecDepth 100000
set_option linter.unusedVariables false
set_option linter.unusedSimpArgs false

/-- The parts of a disk, and what they hold. -/
structure DV where
  v0 : V
  k0 : V
  t0 : V
  v1 : V
  k1 : V
  t1 : V
structure DC where
  a : List Int
  ka : List Int
  ta : List Int
  b : List Int
  kb : List Int
  tb : List Int
  room : Int
abbrev dC (w : DV) (c : DC) : List V := [w.v0, w.k0, w.t0, w.v1, w.k1, w.t1, .int .i64 c.room, .int .i64 (-1), .bool false]
def foot (id : Nat) (w : DV) : List Nat := id :: (idsOf w.v0 ++ (idsOf w.k0 ++ (idsM w.t0 ++ (idsOf w.v1 ++ (idsOf w.k1 ++ idsM w.t1)))))
structure Dk (h : List Ob) (id : Nat) (w : DV) (c : DC) : Prop where
  st : St h id (dC w c)
  s0 : Sl 1 h w.v0 (bv c.a)
  a0 : Ap w.v0
  q0 : Sl 1 h w.k0 (bv c.ka)
  b0 : Ap w.k0
  m0 : Mp h w.t0 c.ta
  s1 : Sl 1 h w.v1 (bv c.b)
  a1 : Ap w.v1
  q1 : Sl 1 h w.k1 (bv c.kb)
  b1 : Ap w.k1
  m1 : Mp h w.t1 c.tb
  nd : (foot id w).Nodup
theorem Dk.keep {h h' : List Ob} {id : Nat} {w : DV} {c : DC} {A : List Nat} (d : Dk h id w c) (k : Kp h h' A) (hn : ∀ j, j ∈ foot id w → j ∉ A) : Dk h' id w c := by
  have f : ∀ j, (j = id ∨ j ∈ idsOf w.v0 ∨ j ∈ idsOf w.k0 ∨ j ∈ idsM w.t0 ∨ j ∈ idsOf w.v1 ∨ j ∈ idsOf w.k1 ∨ j ∈ idsM w.t1) → j ∉ A := fun j hj => hn j (by simpa [foot] using hj)
  exact ⟨d.st.keep k (f _ (.inl rfl)), d.s0.keep k (fun j hj => f j (.inr (.inl hj))), d.a0, d.q0.keep k (fun j hj => f j (.inr (.inr (.inl hj)))), d.b0, d.m0.keep k (fun j hj => f j (.inr (.inr (.inr (.inl hj))))),
    d.s1.keep k (fun j hj => f j (.inr (.inr (.inr (.inr (.inl hj)))))), d.a1, d.q1.keep k (fun j hj => f j (.inr (.inr (.inr (.inr (.inr (.inl hj))))))), d.b1, d.m1.keep k (fun j hj => f j (.inr (.inr (.inr (.inr (.inr (.inr hj))))))), d.nd⟩
theorem Dk.kp {h h' : List Ob} {id : Nat} {w : DV} {c : DC} (d : Dk h id w c) (k : Kp h h' []) : Dk h' id w c := d.keep k (fun j hj q => by cases q)
theorem Dk.lt {h : List Ob} {id : Nat} {w : DV} {c : DC} (d : Dk h id w c) {j : Nat} (hj : j ∈ foot id w) : j < h.length := by
  simp only [foot, List.mem_cons, List.mem_append] at hj
  rcases hj with rfl | z | z | z | z | z | z
  · exact d.st.lt
  · exact d.s0.lt z
  · exact d.q0.lt z
  · exact d.m0.lt z
  · exact d.s1.lt z
  · exact d.q1.lt z
  · exact d.m1.lt z
theorem ptr_nil {h : List Ob} {id : Nat} {cs : List V} (s : St h id cs) (i j : Nat) : er (.eq false .ptr (.c (.ptr id i j)) (.c V.nilp)) h = some (.bool false) := by
  simp [er, ev, evOq, x_eq, getC, evEq, isNil, s.alive]

theorem size15_0 {lf : Nat} {h : List Ob} {id : Nat} {w : DV} {c : DC} (d : Dk h id w c) : F15 lf (.ptr id 0 0) 0 h = some (.int .i64 c.a.length, h) := by
  have n := d.st.nilck 0 0
  have f := d.st.faddr 0 0 0
  have l : er (.load1 (.c (.ptr id 0 0))) h = some w.v0 := d.st.load1 rfl
  have i := d.st.iaddrA (n := 2) (sz := 3) (k := 0) (by decide) (by simp) 0
  have z : ((0 : Nat) : Int) = 0 := rfl
  simp only [Nat.zero_add, Nat.zero_mul, z] at f i
  simp only [F15, S15_0, ptr_nil d.st, bind1_some, castBool_bool, cB_false, show decide ((0 : Int) < 0) = false from rfl, show decide ((0 : Int) ≥ 2) = false from rfl, bind3_some, show decide (EX.normal = EX.ret) = false from rfl, decide_true, cB_true, castNil_nil, n, f, i, l, er_lenL d.s0, bv_length, castInt_int]
theorem size15_1 {lf : Nat} {h : List Ob} {id : Nat} {w : DV} {c : DC} (d : Dk h id w c) : F15 lf (.ptr id 0 0) 1 h = some (.int .i64 c.b.length, h) := by
  have n := d.st.nilck 0 0
  have f := d.st.faddr 0 0 0
  have f3 := d.st.faddr 0 0 3
  have l : er (.load1 (.c (.ptr id 0 3))) h = some w.v1 := d.st.load1 rfl
  have i := d.st.iaddrA (n := 2) (sz := 3) (k := 1) (by decide) (by simp) 0
  have z : ((1 : Nat) : Int) = 1 := rfl
  simp only [Nat.zero_add, Nat.one_mul, Nat.add_zero, z] at f f3 i
  simp only [F15, S15_0, ptr_nil d.st, bind1_some, castBool_bool, cB_false, show decide ((1 : Int) < 0) = false from rfl, show decide ((1 : Int) ≥ 2) = false from rfl, bind3_some, show decide (EX.normal = EX.ret) = false from rfl, decide_true, cB_true, castNil_nil, n, f, i, f3, l, er_lenL d.s1, bv_length, castInt_int]
def leftC (c : DC) : Int := if IntKind.i64.wrap (IntKind.i64.wrap (c.room - c.a.length) - c.b.length) > 0 then IntKind.i64.wrap (IntKind.i64.wrap (c.room - c.a.length) - c.b.length) else 0
theorem left17 {lf : Nat} {h : List Ob} {id : Nat} {w : DV} {c : DC} (d : Dk h id w c) : F17 lf (.ptr id 0 0) h = some (.int .i64 (leftC c), h) := by
  have n := d.st.nilck 0 0
  have f := d.st.faddr 6 0 0
  have l : er (.load1 (.c (.ptr id 0 6))) h = some (.int .i64 c.room) := d.st.load1 rfl
  simp only [Nat.zero_add] at f
  simp only [F17, ptr_nil d.st, bind1_some, castBool_bool, cB_false, n, f, l, castInt_int, size15_0 d, size15_1 d, bind2_some]
  rw [reP_pos _ trivial, reP_pos _ trivial, reP_pos _ trivial, reP_pos _ trivial, reP_pos _ trivial, reP_pos _ trivial]
  rfl
theorem uns16 {lf : Nat} {h : List Ob} {id : Nat} {w : DV} {c : DC} (d : Dk h id w c) : F16 lf (.ptr id 0 0) h = some (.int .i64 (IntKind.i64.wrap ((c.ta.length : Int) + c.tb.length)), h) := by
  have n := d.st.nilck 0 0
  have f := d.st.faddr 0 0 0
  have f2 := d.st.faddr 2 0 0
  have f5 := d.st.faddr 2 0 3
  have l2 : er (.load1 (.c (.ptr id 0 2))) h = some w.t0 := d.st.load1 rfl
  have l5 : er (.load1 (.c (.ptr id 0 5))) h = some w.t1 := d.st.load1 rfl
  have i0 := d.st.iaddrA (n := 2) (sz := 3) (k := 0) (by decide) (by simp) 0
  have i1 := d.st.iaddrA (n := 2) (sz := 3) (k := 1) (by decide) (by simp) 0
  have z : ((0 : Nat) : Int) = 0 := rfl
  have z1 : ((1 : Nat) : Int) = 1 := rfl
  simp only [Nat.zero_add, Nat.zero_mul, Nat.one_mul, Nat.reduceAdd, z, z1] at f f2 f5 i0 i1
  simp only [F16, ptr_nil d.st, bind1_some, castBool_bool, cB_false, n, f, f2, f5, i0, i1, l2, l5, d.m0.len, d.m1.len, castInt_int]
theorem find50_0 {lf : Nat} {h : List Ob} {id : Nat} {w : DV} {c : DC} (d : Dk h id w c) : F50 lf (.ptr id 0 0) 0 h = some (.tup [.ptr id 0 0, .int .i64 0], h) := by
  have n := d.st.nilck 0 0
  have f := d.st.faddr 0 0 0
  have f8 := d.st.faddr 8 0 0
  have l : er (.load1 (.c (.ptr id 0 8))) h = some (.bool false) := d.st.load1 rfl
  have i := d.st.iaddrA (n := 2) (sz := 3) (k := 0) (by decide) (by simp) 0
  have z : ((0 : Nat) : Int) = 0 := rfl
  simp only [Nat.zero_add, Nat.zero_mul, z] at f f8 i
  simp only [F50, S50_0, ptr_nil d.st, bind1_some, castBool_bool, cB_false, show decide ((0 : Int) < 0) = false from rfl, show decide ((0 : Int) ≥ 2) = false from rfl, bind3_some, decide_true, cB_true, castCons_cons, castNil_nil, n, f, f8, i, l]
theorem find50_1 {lf : Nat} {h : List Ob} {id : Nat} {w : DV} {c : DC} (d : Dk h id w c) : F50 lf (.ptr id 0 0) 1 h = some (.tup [.ptr id 0 3, .int .i64 0], h) := by
  have n := d.st.nilck 0 0
  have f := d.st.faddr 0 0 0
  have f8 := d.st.faddr 8 0 0
  have l : er (.load1 (.c (.ptr id 0 8))) h = some (.bool false) := d.st.load1 rfl
  have i := d.st.iaddrA (n := 2) (sz := 3) (k := 1) (by decide) (by simp) 0
  have z : ((1 : Nat) : Int) = 1 := rfl
  simp only [Nat.zero_add, Nat.one_mul, z] at f f8 i
  simp only [F50, S50_0, ptr_nil d.st, bind1_some, castBool_bool, cB_false, show decide ((1 : Int) < 0) = false from rfl, show decide ((1 : Int) ≥ 2) = false from rfl, bind3_some, decide_true, cB_true, castCons_cons, castNil_nil, n, f, f8, i, l]
theorem find50_n {lf : Nat} {h : List Ob} {id : Nat} {w : DV} {c : DC} (d : Dk h id w c) {n : Int} (hn : n < 0 ∨ 2 ≤ n) : F50 lf (.ptr id 0 0) n h = some (.tup [.nilp, .int .i64 1], h) := by
  by_cases q : n < 0
  · have e : decide (n < 0) = true := decide_eq_true q
    simp only [F50, S50_0, ptr_nil d.st, bind1_some, castBool_bool, cB_false, e, bind3_some, decide_true, cB_true, castCons_cons, castNil_nil]
  · have e : decide (n < 0) = false := decide_eq_false q
    have e2 : decide (n ≥ 2) = true := decide_eq_true (by omega)
    simp only [F50, S50_0, ptr_nil d.st, bind1_some, castBool_bool, cB_false, e, e2, bind3_some, decide_true, cB_true, castCons_cons, castNil_nil]
theorem change51 {lf : Nat} {h : List Ob} {id : Nat} {w : DV} {c : DC} (d : Dk h id w c) : F51 lf (.ptr id 0 0) h = some (.int .i64 0, h) := by
  have n := d.st.nilck 0 0
  have f := d.st.faddr 7 0 0
  have l : er (.load1 (.c (.ptr id 0 7))) h = some (.int .i64 (-1)) := d.st.load1 rfl
  simp only [Nat.zero_add] at f
  simp only [F51, bind1_some, n, f, l, castInt_int, show ((-1 : Int) == 0) = false from rfl, show decide ((-1 : Int) > 0) = false from rfl, cB_false]
theorem hslAlive {h : List Ob} {id off len : Nat} {es : List V} (s : Sl 1 h (.hsl id off len) es) : aliveB h id = true := by
  have c := s.c
  simp only [conts] at c
  split at c
  · rename_i ds q hob
    simp [aliveB, hob]
  · cases c
theorem clone52 {lf : Nat} {h : List Ob} {v : V} {es : List V} (s : Sl 1 h v es) (hl : es.length ≤ 140737488355328) : To2 (F52 lf v h) (New h es) := by
  have hr : roomMax = 140737488355328 := rfl
  by_cases q : v = .nils
  · subst q
    have : es = [] := by have := s.c; simp [conts] at this; exact this
    subst this
    have e : er (.eq false .slice (.c .nils) (.c V.nils)) h = some (.bool true) := rfl
    simp only [F52, e, bind1_some, castBool_bool, cB_true]
    exact To2.some ⟨Sl.nils _ _, Ap.nils, Kp.refl _ _, fun j hj => by cases hj⟩
  · have e : er (.eq false .slice (.c v) (.c V.nils)) h = some (.bool false) := by
      have c := s.c
      cases v with
      | nils => exact absurd rfl q
      | str l => exact absurd rfl (s.ns l)
      | hsl id off len => simp [er, ev, evOq, x_eq, getC, evEq, isNil, hslAlive s]
      | sl fs => simp [er, ev, evOq, x_eq, getC, evEq, isNil]
      | esl => simp [er, ev, evOq, x_eq, getC, evEq, isNil]
      | _ => simp [conts] at c
    simp only [F52, e, bind1_some, castBool_bool, cB_false]
    refine To2.bind2 (bslice_to (len := 0) (ps := []) (es := []) (by decide) rfl rfl rfl) ?_
    rintro x h1 ⟨-, -, sx, ax, k1, fx⟩
    refine To2.bind2 (app_to sx ax (s.kp k1).c (by simp [hr]; omega)) ?_
    rintro y h2 ⟨sy, ay, k2, fy⟩
    exact To2.some (New.beh ⟨sx, ax, k1, fx⟩ ⟨by simpa using sy, ay, k2, fy⟩)
/-- A new disk. -/
theorem new12 {lf : Nat} {h : List Ob} {room : Int} (hr : 0 ≤ room) : To2 (F12 lf room h) fun v h' => v = .ptr h.length 0 0 ∧ Dk h' h.length ⟨.nils, .nils, .nilm, .nils, .nils, .nilm⟩ ⟨[], [], [], [], [], [], room⟩ ∧ Kp h h' [] := by
  have eb : er (.build [.nils, .nils, .nilm, .nils, .nils, .nilm, (.int .i64 0), (.int .i64 0), (.bool false)] [(6, (1, (.c (.int .i64 room)))), (7, (1, (.c (.int .i64 (-1)))))]) h = some (.agg [.nils, .nils, .nilm, .nils, .nils, .nilm, (.int .i64 room), (.int .i64 (-1)), (.bool false)]) := rfl
  have hm : (if (0 : Int) > room then (0 : Int) else room) = room := if_neg (by omega)
  simp only [F12, hm, eb, bind1_some, castAgg_agg, castCons_cons, castInt_int, castBool_bool, castNil_nil]
  refine To2.bind2 (box_to rfl) ?_
  rintro v h1 ⟨rfl, st, k⟩
  exact To2.some ⟨rfl, ⟨st, Sl.nils _ _, Ap.nils, Sl.nils _ _, Ap.nils, .inl ⟨rfl, rfl⟩, Sl.nils _ _, Ap.nils, Sl.nils _ _, Ap.nils, .inl ⟨rfl, rfl⟩, by simp [foot, idsOf, idsM]⟩, k⟩
end Go.Proofs.Ytbjphicipgneaaa.Dk
