/- LexerNames: keywords; the law's answer for every input. No condition. -/
import Derived.Test.YtbjphicipgneaaaLnP
import Derived.KernelRfl
import Derived.Test.YtbjphicipgneaaaL4
import Derived.SizedLaws
namespace Go.Proofs.Ytbjphicipgneaaa.Ln
open Go Go.Proofs.Ytbjphicipgneaaa.E
set_option maxRecDepth 100000
set_option linter.unusedVariables false
set_option linter.unusedSimpArgs false

def kwWords : List (List UInt8) := [[67, 82, 69, 65, 84, 69], [84, 65, 66, 76, 69], [73, 78, 68, 69, 88], [85, 78, 73, 81, 85, 69], [77, 65, 84, 69, 82, 73, 65, 76, 73, 90, 69, 68], [86, 73, 69, 87], [68, 82, 79, 80], [73, 78, 83, 69, 82, 84], [73, 78, 84, 79], [86, 65, 76, 85, 69, 83], [85, 80, 68, 65, 84, 69], [83, 69, 84], [68, 69, 76, 69, 84, 69], [70, 82, 79, 77], [83, 69, 76, 69, 67, 84], [68, 73, 83, 84, 73, 78, 67, 84], [87, 72, 69, 82, 69], [71, 82, 79, 85, 80], [66, 89], [79, 82, 68, 69, 82], [65, 83, 67], [68, 69, 83, 67], [76, 73, 77, 73, 84], [74, 79, 73, 78], [79, 78], [65, 83], [65, 78, 68], [79, 82], [78, 79, 84], [73, 83], [78, 85, 76, 76], [73, 78, 84], [84, 69, 88, 84], [66, 69, 71, 73, 78], [67, 79, 77, 77, 73, 84], [82, 79, 76, 76, 66, 65, 67, 75], [67, 79, 85, 78, 84], [83, 85, 77], [77, 73, 78], [77, 65, 88]]
def kwP (s : List UInt8) : Bool := kwWords.any fun w => s == w
theorem orB (b c : Bool) (h : List Ob) : cB b (some (EX.normal, [V.bool true], h)) (some (EX.normal, [V.bool c], h)) = (some (EX.normal, [V.bool (b || c)], h) : SubR) := by cases b <;> rfl
theorem kw26 (lf : Nat) (s : List UInt8) (h : List Ob) : F26 lf s h = some (.bool (kwP s), h) := by
  have e : S26_0 lf s h = some (.normal, [.bool (kwP s)], h) := by
    unfold S26_0
    simp only [orB]
    simp only [kwP, kwWords, List.any_cons, List.any_nil, Bool.or_false]
  unfold F26
  rw [e]
  simp only [bind3_some, decide_true, cB_true, castCons_cons, castBool_bool, castNil_nil]
  cases kwP s <;> rfl

/-! ### Words among blanks -/
def joinW (ws : List (List UInt8)) : List UInt8 := ws.flatMap (· ++ [32])
theorem joinW_cons (x : List UInt8) (xs : List (List UInt8)) : joinW (x :: xs) = x ++ 32 :: joinW xs := by simp [joinW]
theorem word_at : ∀ (x s r : List UInt8), 32 ∉ x → 32 ∉ s → (x ++ 32 :: r).take (s.length + 1) = s ++ [32] → s = x
  | [], [], r, _, _, _ => rfl
  | [], a :: s, r, _, hs, h => by
    simp only [List.nil_append, List.length_cons, List.take_succ_cons, List.cons_append, List.cons.injEq] at h
    exact absurd (by simp [h.1]) hs
  | b :: x, [], r, hx, _, h => by
    simp only [List.cons_append, List.length_nil, Nat.zero_add, List.take_succ_cons, List.take_zero, List.nil_append, List.cons.injEq, and_true] at h
    exact absurd (by simp [h]) hx
  | b :: x, a :: s, r, hx, hs, h => by
    simp only [List.cons_append, List.length_cons, List.take_succ_cons, List.cons.injEq] at h
    obtain ⟨rfl, h⟩ := h
    simp only [List.mem_cons, not_or] at hx hs
    rw [word_at x s r hx.2 hs.2 h]
theorem in_words : ∀ (ws : List (List UInt8)) (j : Nat) (s : List UInt8), (∀ x, x ∈ ws → 32 ∉ x) → 32 ∉ s → ((32 :: joinW ws).drop j).take (s.length + 2) = 32 :: s ++ [32] → s ∈ ws
  | [], j, s, _, _, h => by
    have := congrArg List.length h
    simp [joinW] at this
    omega
  | x :: xs, 0, s, hx, hs, h => by
    rw [List.drop_zero, joinW_cons, List.take_succ_cons, List.cons_append, List.cons.injEq] at h
    rw [word_at x s _ (hx x (by simp)) hs h.2]
    simp
  | x :: xs, j + 1, s, hx, hs, h => by
    rw [joinW_cons, List.drop_succ_cons] at h
    by_cases c : j < x.length
    · have e : (x ++ 32 :: joinW xs).drop j = x[j] :: (x ++ 32 :: joinW xs).drop (j + 1) := by
        rw [List.drop_eq_getElem_cons (by simp; omega), List.getElem_append_left c]
      rw [e, List.take_succ_cons, List.cons_append, List.cons.injEq] at h
      exact absurd (h.1 ▸ List.getElem_mem c) (hx x (by simp))
    · have e : (x ++ 32 :: joinW xs).drop j = (32 :: joinW xs).drop (j - x.length) := by
        rw [List.drop_append, List.drop_of_length_le (by omega), List.nil_append]
      rw [e] at h
      exact List.mem_cons_of_mem _ (in_words xs _ s (fun y hy => hx y (by simp [hy])) hs h)
theorem words_in : ∀ (ws : List (List UInt8)) (s : List UInt8), s ∈ ws → ∃ j, j + (s.length + 2) ≤ (32 :: joinW ws).length ∧ ((32 :: joinW ws).drop j).take (s.length + 2) = 32 :: s ++ [32]
  | x :: xs, s, h => by
    rcases List.mem_cons.1 h with rfl | h
    · refine ⟨0, ?_, ?_⟩
      · rw [joinW_cons]; simp
      · rw [joinW_cons, List.drop_zero, List.take_succ_cons, List.take_append]
        simp [List.take_of_length_le]
    · obtain ⟨j, h1, h2⟩ := words_in xs s h
      refine ⟨j + (x.length + 1), ?_, ?_⟩
      · rw [joinW_cons]; simp at h1 ⊢; omega
      · rw [joinW_cons, show j + (x.length + 1) = (j + x.length) + 1 from rfl, List.drop_succ_cons, List.drop_append, List.drop_of_length_le (by omega), List.nil_append, show j + x.length - x.length = j by omega]
        exact h2

abbrev kwText : List UInt8 := [32, 67, 82, 69, 65, 84, 69, 32, 84, 65, 66, 76, 69, 32, 73, 78, 68, 69, 88, 32, 85, 78, 73, 81, 85, 69, 32, 77, 65, 84, 69, 82, 73, 65, 76, 73, 90, 69, 68, 32, 86, 73, 69, 87, 32, 68, 82, 79, 80, 32, 73, 78, 83, 69, 82, 84, 32, 73, 78, 84, 79, 32, 86, 65, 76, 85, 69, 83, 32, 85, 80, 68, 65, 84, 69, 32, 83, 69, 84, 32, 68, 69, 76, 69, 84, 69, 32, 70, 82, 79, 77, 32, 83, 69, 76, 69, 67, 84, 32, 68, 73, 83, 84, 73, 78, 67, 84, 32, 87, 72, 69, 82, 69, 32, 71, 82, 79, 85, 80, 32, 66, 89, 32, 79, 82, 68, 69, 82, 32, 65, 83, 67, 32, 68, 69, 83, 67, 32, 76, 73, 77, 73, 84, 32, 74, 79, 73, 78, 32, 79, 78, 32, 65, 83, 32, 65, 78, 68, 32, 79, 82, 32, 78, 79, 84, 32, 73, 83, 32, 78, 85, 76, 76, 32, 73, 78, 84, 32, 84, 69, 88, 84, 32, 66, 69, 71, 73, 78, 32, 67, 79, 77, 77, 73, 84, 32, 82, 79, 76, 76, 66, 65, 67, 75, 32, 67, 79, 85, 78, 84, 32, 83, 85, 77, 32, 77, 73, 78, 32, 77, 65, 88, 32]
theorem kwText_eq : kwText = 32 :: joinW kwWords := by decide
theorem kwText_len : kwText.length = 223 := by decide
theorem kw_none : ∀ w, w ∈ kwWords → 32 ∉ w := by decide
theorem kwP_mem (s : List UInt8) : kwP s = true ↔ s ∈ kwWords := by
  unfold kwP
  rw [List.any_eq_true]
  constructor
  · rintro ⟨w, hw, e⟩
    have : s = w := by simpa using e
    rw [this]; exact hw
  · intro h
    exact ⟨s, h, by simp⟩

def findK (w : List UInt8) : Nat → Nat → Bool
  | 0, _ => false
  | m + 1, i => if i + w.length ≤ 223 then ((kwText.drop i).take w.length == w) || findK w m (i + 1) else false
theorem findK_iff (w : List UInt8) : ∀ (m i : Nat), findK w m i = true ↔ ∃ j, i ≤ j ∧ j < i + m ∧ j + w.length ≤ 223 ∧ (kwText.drop j).take w.length = w
  | 0, i => by
    simp only [findK, Bool.false_eq_true, false_iff]
    rintro ⟨j, h1, h2, _⟩; omega
  | m + 1, i => by
    rw [findK]
    by_cases c : i + w.length ≤ 223
    · rw [if_pos c, Bool.or_eq_true, findK_iff w m (i + 1)]
      constructor
      · rintro (h | ⟨j, h1, h2, h3, h4⟩)
        · exact ⟨i, Nat.le_refl _, by omega, c, by simpa using h⟩
        · exact ⟨j, by omega, by omega, h3, h4⟩
      · rintro ⟨j, h1, h2, h3, h4⟩
        by_cases q : j = i
        · subst q; exact .inl (by simpa using h4)
        · exact .inr ⟨j, by omega, by omega, h3, h4⟩
    · rw [if_neg c]
      simp only [Bool.false_eq_true, false_iff]
      rintro ⟨j, h1, h2, h3, _⟩; omega
theorem findK_kw {s : List UInt8} (hs : 32 ∉ s) : findK (32 :: s ++ [32]) 224 0 = kwP s := by
  have hl : (32 :: s ++ [32] : List UInt8).length = s.length + 2 := by simp
  rw [Bool.eq_iff_iff, findK_iff, kwP_mem, hl]
  constructor
  · rintro ⟨j, -, -, h3, h4⟩
    rw [kwText_eq] at h4
    exact in_words kwWords j s kw_none hs h4
  · intro h
    obtain ⟨j, h1, h2⟩ := words_in kwWords s h
    rw [← kwText_eq] at h1 h2
    rw [kwText_len] at h1
    exact ⟨j, by omega, by omega, h1, h2⟩

theorem kwL (lf : Nat) {w : List UInt8} {h : List Ob} (hw : w.length ≤ 4611686018427387904) : ∀ (m i : Nat) (f : Nat), i + m = 224 → m < f → L27_1 lf f w i h = if findK w m i = true then some (.ret, [.bool true], h) else some (.exit 2, [], h) := by
  intro m
  induction m with
  | zero =>
    intro i f hm hf
    obtain ⟨f, rfl⟩ : ∃ g, f = g + 1 := ⟨f - 1, by omega⟩
    have w1 : IntKind.i64.wrap ((i : Int) + (w.length : Int)) = (i : Int) + w.length := wrap_i64 (by omega) (by omega)
    have hd : decide ((i : Int) + (w.length : Int) ≤ 223) = false := decide_eq_false (by omega)
    simp only [L27_1, B27_1, w1, hd, cB_false, findK, Bool.false_eq_true, if_false]
  | succ m ih =>
    intro i f hm hf
    obtain ⟨f, rfl⟩ : ∃ g, f = g + 1 := ⟨f - 1, by omega⟩
    have w1 : IntKind.i64.wrap ((i : Int) + (w.length : Int)) = ((i + w.length : Nat) : Int) := by rw [wrap_i64 (by omega) (by omega)]; omega
    have w2 : IntKind.i64.wrap ((i : Int) + 1) = ((i + 1 : Nat) : Int) := by rw [wrap_i64 (by omega) (by omega)]; omega
    have ih' := ih (i + 1) f (by omega) (by omega)
    rw [findK]
    by_cases c : i + w.length ≤ 223
    · have hd : decide (((i + w.length : Nat) : Int) ≤ 223) = true := decide_eq_true (by omega)
      have es := er_slcS (h := h) (s := kwText) (a := i) (b := i + w.length) (by omega) (by rw [kwText_len]; exact c)
      rw [show i + w.length - i = w.length by omega] at es
      rw [if_pos c]
      simp only [L27_1, B27_1, w1, w2, hd, cB_true, es, bind1_some, castStr_str, ih']
      cases e : ((kwText.drop i).take w.length == w) <;> simp [cB]
    · have hd : decide (((i + w.length : Nat) : Int) ≤ 223) = false := decide_eq_false (by omega)
      rw [if_neg c]
      simp only [L27_1, B27_1, w1, hd, cB_false, Bool.false_eq_true, if_false]
theorem blL (lf : Nat) {s : List UInt8} {h : List Ob} (hs : s.length ≤ 4611686018427387904) : ∀ (m i f : Nat), s.length = i + m → m < f → L27_0 lf f s s.length i h = if 32 ∈ s.drop i then some (.ret, [.bool false], h) else some (.exit 0, [], h) := by
  intro m
  induction m with
  | zero =>
    intro i f hm hf
    obtain ⟨f, rfl⟩ : ∃ g, f = g + 1 := ⟨f - 1, by omega⟩
    have hd : decide ((i : Int) < (s.length : Int)) = false := decide_eq_false (by omega)
    have hn : s.drop i = [] := List.drop_of_length_le (by omega)
    simp only [L27_0, B27_0, hd, cB_false, hn, List.not_mem_nil, if_false]
  | succ m ih =>
    intro i f hm hf
    obtain ⟨f, rfl⟩ : ∃ g, f = g + 1 := ⟨f - 1, by omega⟩
    have hlt : i < s.length := by omega
    have hd : decide ((i : Int) < (s.length : Int)) = true := decide_eq_true (by omega)
    have w2 : IntKind.i64.wrap ((i : Int) + 1) = ((i + 1 : Nat) : Int) := by rw [wrap_i64 (by omega) (by omega)]; omega
    have ih' := ih (i + 1) f (by omega) (by omega)
    have eb : er (.idxS (.c (.str s)) (.c (.int .i64 (i : Int)))) h = some (.int .u8 (s[i].toNat)) := er_idxS (List.getElem?_eq_getElem hlt)
    simp only [L27_0, B27_0, hd, cB_true, eb, bind1_some, castInt_int, w2, ih']
    rw [List.drop_eq_getElem_cons hlt]
    by_cases c : s[i] = 32
    · have e1 : (((s[i].toNat : Nat) : Int) == 32) = true := by rw [c]; rfl
      rw [e1, cB_true, if_pos (by simp [c])]
    · have e1 : (((s[i].toNat : Nat) : Int) == 32) = false := by
        have : ((s[i].toNat : Nat) : Int) ≠ 32 := fun z => c (UInt8.toNat_inj.1 (by show s[i].toNat = 32; omega))
        simpa using this
      rw [e1, cB_false]
      have : (32 ∈ s[i] :: s.drop (i + 1)) ↔ 32 ∈ s.drop (i + 1) := by
        simp only [List.mem_cons]
        exact ⟨fun z => z.elim (fun y => absurd y.symm c) id, .inr⟩
      simp only [this]
theorem kw27 {lf : Nat} {s : List UInt8} {h : List Ob} (hf : 300 < lf) (hf2 : s.length < lf) (hs : s.length ≤ 1000000000000000) : F27 lf s h = some (.bool (kwP s), h) := by
  unfold F27
  cases s with
  | nil => rfl
  | cons b t =>
    generalize hS : b :: t = s at *
    have e0 : (s == ([] : List UInt8)) = false := by rw [← hS]; rfl
    have eL := blL lf (h := h) (s := s) (by omega) s.length 0 lf (by omega) hf2
    have z : ((0 : Nat) : Int) = 0 := rfl
    rw [z, List.drop_zero] at eL
    rw [e0, cB_false, eL]
    by_cases c : 32 ∈ s
    · have ek : kwP s = false := by
        cases e : kwP s with
        | false => rfl
        | true => exact absurd c (kw_none s ((kwP_mem s).1 e))
      rw [if_pos c, bind3_some, ek]
      rfl
    · rw [if_neg c, bind3_some]
      have ea1 : er (.bin .add (.c (.str [32])) (.c (.str s))) h = some (.str ([32] ++ s)) := er_addS (by simp; omega)
      have ea2 : er (.bin .add (.c (.str ([32] ++ s))) (.c (.str [32]))) h = some (.str ([32] ++ s ++ [32])) := er_addS (by simp; omega)
      have eK := kwL lf (h := h) (w := [32] ++ s ++ [32]) (by simp; omega) 224 0 lf rfl (by omega)
      rw [z, show ([32] ++ s ++ [32] : List UInt8) = 32 :: s ++ [32] from rfl, findK_kw c] at eK
      simp only [decide_true, cB_true, castNil_nil, ea1, ea2, bind1_some, castStr_str]
      rw [show ([32] ++ s ++ [32] : List UInt8) = 32 :: s ++ [32] from rfl, eK]
      cases kwP s <;> rfl

theorem name24 {lf : Nat} {s : List UInt8} {h : List Ob} (hf : 300 < lf) (hf2 : s.length < lf) (hs : s.length ≤ 1000000000000000) : To2 (F24 lf s h) fun v _ => v = .bool (namedP s && !kwP s) := by
  simp only [F24]
  refine To2.bind2 (named58 hf2 (by omega)) ?_
  rintro v h1 ⟨rfl, -⟩
  rw [castBool_bool]
  cases namedP s with
  | false => exact To2.some rfl
  | true =>
    simp only [cB_true, kw26, bind2_some, castBool_bool, Bool.true_and]
    exact To2.some rfl
theorem name25 {lf : Nat} {s : List UInt8} {h : List Ob} (hf : 300 < lf) (hf2 : s.length < lf) (hs : s.length ≤ 1000000000000000) : To2 (F25 lf s h) fun v _ => v = .bool (namedP s && !kwP s) := by
  simp only [F25, nam59]
  refine To2.bind2 (named58 hf2 (by omega)) ?_
  rintro v h1 ⟨rfl, -⟩
  rw [castBool_bool]
  cases namedP s with
  | false => exact To2.some rfl
  | true =>
    simp only [cB_true, kw27 hf hf2 hs, bind2_some, castBool_bool, Bool.true_and]
    exact To2.some rfl
end Go.Proofs.Ytbjphicipgneaaa.Ln
