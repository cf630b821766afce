/- The lexer: letters, digits; how far a name goes; names; numbers. No condition. -/
import Derived.Test.YtbjphicipgneaaaLns
import Derived.Test.YtbjphicipgneaaaL4
namespace Go.Proofs.Ytbjphicipgneaaa.Ln
open Go Go.Proofs.Ytbjphicipgneaaa.E
set_option maxRecDepth 100000
set_option linter.unusedVariables false
set_option linter.unusedSimpArgs false

def letterP (r : Int) : Bool := (decide (r ≥ 97) && decide (r ≤ 122)) || (decide (r ≥ 65) && decide (r ≤ 90)) || (decide (r ≥ 945) && decide (r ≤ 969)) || (r == 95)
def digitP (r : Int) : Bool := decide (r ≥ 48) && decide (r ≤ 57)
theorem let28 (lf : Nat) (r : Int) (h : List Ob) : F28 lf r h = some (.bool (letterP r), h) := by
  unfold F28 letterP
  generalize decide (r ≥ 97) = b1
  generalize decide (r ≤ 122) = b2
  generalize decide (r ≥ 65) = b3
  generalize decide (r ≤ 90) = b4
  generalize decide (r ≥ 945) = b5
  generalize decide (r ≤ 969) = b6
  generalize (r == 95) = b7
  cases b1 <;> cases b2 <;> cases b3 <;> cases b4 <;> cases b5 <;> cases b6 <;> cases b7 <;> rfl
theorem dig83 (lf : Nat) (r : Int) (h : List Ob) : F83 lf r h = some (.bool (digitP r), h) := by
  unfold F83 digitP
  generalize decide (r ≥ 48) = b1
  generalize decide (r ≤ 57) = b2
  cases b1 <;> cases b2 <;> rfl
theorem let29 (lf : Nat) (r : Int) (h : List Ob) : F29 lf r h = some (.bool (letterP r), h) := let28 lf r h
theorem dig86 (lf : Nat) (r : Int) (h : List Ob) : F86 lf r h = some (.bool (digitP r), h) := dig83 lf r h

/-- Does a text begin with another one? -/
def preP (s p : List UInt8) : Bool := decide (p.length ≤ s.length) && (s.take p.length == p)
def runP : Nat → List UInt8 → Nat
  | 0, _ => 0
  | m + 1, t => if t = [] then 0 else if letterP (dc t).1 || digitP (dc t).1 then (dc t).2 + runP m (t.drop (dc t).2) else 0
theorem drop_ne {s : List UInt8} {pos : Nat} (h : pos < s.length) : s.drop pos ≠ [] := by
  intro q
  have := congrArg List.length q
  simp at this; omega
def nmP : Nat → Nat → List UInt8 → Option Nat
  | 0, n, _ => some n
  | m + 1, n, t => if t = [] then some n else if letterP (dc t).1 || (n != 0 && digitP (dc t).1) then nmP m (n + 1) (t.drop (dc t).2) else none
def namedP (s : List UInt8) : Bool := match nmP s.length 0 s with
  | some n => decide (0 < n) && decide (n ≤ 16)
  | none => false
theorem nmL (lf : Nat) {s : List UInt8} {id : Nat} (hs : s.length ≤ 4611686018427387904) : ∀ (m pos n f : Nat) (h : List Ob), (s.drop pos).length ≤ m → m < f → pos ≤ s.length → n ≤ pos → Si h id s pos →
    To3 (L58_0 lf f n (.ptr id 0 0) h) fun x vs h' => Kp h h' [id] ∧ match nmP m n (s.drop pos) with
      | some k => x = .exit 0 ∧ vs = [.int .i64 (k : Int)]
      | none => x = .ret ∧ vs = [.bool false] := by
  intro m
  induction m with
  | zero =>
    intro pos n f h hm hf hp hn st
    obtain ⟨f, rfl⟩ : ∃ g, f = g + 1 := ⟨f - 1, by omega⟩
    simp only [List.length_drop] at hm
    have e0 : er (.ext 0 (.c (.tup [.bool false]))) h = some (.bool false) := er_ext rfl
    simp only [L58_0, B58_0, nextS_end st (by omega), bind2_some, e0, bind1_some, castBool_bool, cB_false]
    exact To3.some ⟨Kp.refl _ _, rfl, rfl⟩
  | succ m ih =>
    intro pos n f h hm hf hp hn st
    obtain ⟨f, rfl⟩ : ∃ g, f = g + 1 := ⟨f - 1, by omega⟩
    simp only [List.length_drop] at hm
    by_cases q : pos < s.length
    · have hne := drop_ne q
      simp only [L58_0, B58_0]
      refine To3.bind2 (nextS_to st q) ?_
      rintro v h1 ⟨rfl, st1, k1⟩
      rw [er_ext (v := .bool true) rfl, bind1_some, castBool_bool, cB_true, er_ext (v := .int .i32 ((dc (s.drop pos)).1 : Int)) rfl, bind1_some, castInt_int]
      have hw := dc_width _ hne
      simp only [List.length_drop] at hw
      have w1 : IntKind.i64.wrap ((n : Int) + 1) = ((n + 1 : Nat) : Int) := by rw [wrap_i64 (by omega) (by omega)]; omega
      have next : To3 (L58_0 lf f ((n + 1 : Nat) : Int) (.ptr id 0 0) h1) fun x vs h' => Kp h h' [id] ∧ match nmP m (n + 1) ((s.drop pos).drop (dc (s.drop pos)).2) with
          | some k => x = .exit 0 ∧ vs = [.int .i64 (k : Int)]
          | none => x = .ret ∧ vs = [.bool false] := by
        refine (ih (pos + (dc (s.drop pos)).2) (n + 1) f h1 (by simp only [List.length_drop]; omega) (by omega) (by omega) (by omega) st1).mono ?_
        rintro x vs h2 ⟨k2, r⟩
        refine ⟨k1.trans k2 (fun j hj _ => hj) (fun j hj _ => hj), ?_⟩
        rw [List.drop_drop]
        exact r
      simp only [let28, dig83, bind2_some, castBool_bool, w1]
      rw [nmP, if_neg hne]
      cases c1 : letterP ((dc (s.drop pos)).1 : Int) with
      | true =>
        simp only [Bool.not_true, cB_false, Bool.true_or, if_true]
        exact next
      | false =>
        simp only [Bool.not_false, cB_true, Bool.false_or]
        by_cases z : n = 0
        · have e1 : ((n : Int) == 0) = true := by simp [z]
          have e2 : (n != 0) = false := by simp [z]
          simp only [e1, cB_true, e2, Bool.false_and, Bool.false_eq_true, if_false]
          exact To3.some ⟨k1, rfl, rfl⟩
        · have e1 : ((n : Int) == 0) = false := by
            have : (n : Int) ≠ 0 := by omega
            simpa using this
          have e2 : (n != 0) = true := by simp [z]
          cases c2 : digitP ((dc (s.drop pos)).1 : Int) with
          | true =>
            simp only [e1, e2, Bool.not_true, cB_false, Bool.true_and, if_true]
            exact next
          | false =>
            simp only [e1, e2, Bool.not_false, cB_true, cB_false, Bool.and_false, Bool.false_eq_true, if_false]
            exact To3.some ⟨k1, rfl, rfl⟩
    · have e0 : er (.ext 0 (.c (.tup [.bool false]))) h = some (.bool false) := er_ext rfl
      have hd : s.drop pos = [] := List.drop_of_length_le (by omega)
      simp only [L58_0, B58_0, nextS_end st (by omega), bind2_some, e0, bind1_some, castBool_bool, cB_false]
      refine To3.some ⟨Kp.refl _ _, ?_⟩
      rw [hd, nmP, if_pos rfl]
      exact ⟨rfl, rfl⟩
theorem named58 {lf : Nat} {s : List UInt8} {h : List Ob} (hf : s.length < lf) (hs : s.length ≤ 4611686018427387904) : To2 (F58 lf s h) fun v h' => v = .bool (namedP s) ∧ Kp h h' [] := by
  simp only [F58]
  refine To2.bind2 (rangeS_to h s) ?_
  rintro v h1 ⟨rfl, st, k1⟩
  have hL := nmL lf hs s.length 0 0 lf h1 (by simp) hf (by omega) (by omega) st
  have z : ((0 : Nat) : Int) = 0 := rfl
  rw [z] at hL
  refine To2.bind3 hL ?_
  rintro x vs h2 ⟨k2, r⟩
  have kk : Kp h h2 [] := k1.trans k2 (fun j hj => by cases hj) (fun j hj hl => by simp at hj; omega)
  unfold namedP
  rw [List.drop_zero] at r
  cases e : nmP s.length 0 s with
  | some n =>
    rw [e] at r
    obtain ⟨rfl, rfl⟩ := r
    simp only [decide_true, cB_true, castCons_cons, castInt_int, castNil_nil]
    by_cases q : 0 < n
    · have e1 : decide ((n : Int) > 0) = true := decide_eq_true (by omega)
      have e2 : decide ((n : Int) ≤ 16) = decide (n ≤ 16) := decide_eq_decide.2 (by omega)
      simp only [e1, cB_true, e2, decide_eq_true q, Bool.true_and]
      exact To2.some ⟨rfl, kk⟩
    · have e1 : decide ((n : Int) > 0) = false := decide_eq_false (by omega)
      simp only [e1, cB_false, decide_eq_false q, Bool.false_and]
      exact To2.some ⟨rfl, kk⟩
  | none =>
    rw [e] at r
    obtain ⟨rfl, rfl⟩ := r
    simp only [show decide (EX.ret = EX.exit 0) = false from rfl, cB_false, decide_true, cB_true, castCons_cons, castBool_bool, castNil_nil]
    exact To2.some ⟨rfl, kk⟩
theorem L59_eq (lf : Nat) : ∀ n, L59_0 lf n = L58_0 lf n
  | 0 => rfl
  | n + 1 => by
    show B59_0 lf (L59_0 lf n) = B58_0 lf (L58_0 lf n)
    rw [L59_eq lf n]; rfl
theorem nam59 (lf : Nat) (s : List UInt8) (h : List Ob) : F59 lf s h = F58 lf s h := by
  unfold F59 F58
  rw [L59_eq]

/-! ### Numbers -/
def vlP : Nat → Int → List UInt8 → Option Int
  | 0, n, _ => some n
  | m + 1, n, t => if t = [] then some n else if digitP (dc t).1 then (if n > 922337203685477580 then none else vlP m (IntKind.u64.wrap (IntKind.u64.wrap (10 * n) + IntKind.u64.wrap (IntKind.i32.wrap ((dc t).1 - 48)))) (t.drop (dc t).2)) else none
def valueP (s : List UInt8) : Int × Bool := match vlP s.length 0 s with
  | some n => (IntKind.i64.wrap n, decide (n ≤ 9223372036854775807) && (s == [48] || s.head? != some 48))
  | none => (0, false)
end Go.Proofs.Ytbjphicipgneaaa.Ln
