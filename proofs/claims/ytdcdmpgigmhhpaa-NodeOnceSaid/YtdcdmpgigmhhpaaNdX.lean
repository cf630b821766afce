/- Nodes: alike; a node's bytes are bytes. No condition. -/
import Derived.Test.YtdcdmpgigmhhpaaNdW
namespace Go.Proofs.Ytdcdmpgigmhhpaa.Nd
open Go Go.Proofs.Ytdcdmpgigmhhpaa.E
open Go.Proofs.Ytdcdmpgigmhhpaa.Va Go.Proofs.Ytdcdmpgigmhhpaa.Rc
set_option maxRecDepth 100000
set_option linter.unusedVariables false
set_option linter.unusedSimpArgs false

theorem list73L (lf : Nat) {h : List Ob} {A B : V} {ks : List (List Int)} (s : SS h A ks) (t : SS h B ks) (hl : ks.length ≤ 1000000) : ∀ (m k f : Nat), ks.length = k + m → m < f → L73_0 lf f A B ks.length k h = some (.exit 0, [], h) := by
  intro m
  induction m with
  | zero =>
    intro k f hk hf
    obtain ⟨f, rfl⟩ : ∃ g, f = g + 1 := ⟨f - 1, by omega⟩
    have hd : decide ((k : Int) < (ks.length : Int)) = false := decide_eq_false (by omega)
    simp only [L73_0, B73_0, hd, cB_false]
  | succ m ih =>
    intro k f hk hf
    obtain ⟨f, rfl⟩ : ∃ g, f = g + 1 := ⟨f - 1, by omega⟩
    have hlt : k < ks.length := by omega
    have hd : decide ((k : Int) < (ks.length : Int)) = true := decide_eq_true (by omega)
    obtain ⟨a, e, a1, a2, se⟩ := s.at_ (k := (k : Int)) rfl hlt
    obtain ⟨b, g, b1, b2, sg⟩ := t.at_ (k := (k : Int)) rfl hlt
    have hw : IntKind.i64.wrap ((k : Int) + 1) = ((k + 1 : Nat) : Int) := by rw [wrap_i64 (by omega) (by omega)]; simp
    simp only [L73_0, B73_0, hd, cB_true, a1, a2, b1, b2, er_toStr se, er_toStr sg, bind1_some, castStr_str, beq_self_eq_true, Bool.not_true, cB_false, hw]
    exact ih (k + 1) f (by omega) (by omega)
theorem list73 {lf : Nat} {h : List Ob} {A B : V} {ks : List (List Int)} (s : SS h A ks) (t : SS h B ks) (hl : ks.length ≤ 1000000) (hf : ks.length < lf) : F73 lf A B h = some (.bool true, h) := by
  have := list73L lf s t hl ks.length 0 lf (by omega) hf
  have z : ((0 : Nat) : Int) = 0 := rfl
  rw [z] at this
  simp only [F73, s.len, t.len, bind1_some, castInt_int, bne_self_eq_false, cB_false, this, bind3_some, decide_true, cB_true, castNil_nil]
theorem ints74L (lf : Nat) {h : List Ob} {A B : V} {ks : List Int} (s : Sl 1 h A (iv ks)) (t : Sl 1 h B (iv ks)) (hl : ks.length ≤ 1000000) : ∀ (m k f : Nat), ks.length = k + m → m < f → L74_0 lf f A B ks.length k h = some (.exit 0, [], h) := by
  intro m
  induction m with
  | zero =>
    intro k f hk hf
    obtain ⟨f, rfl⟩ : ∃ g, f = g + 1 := ⟨f - 1, by omega⟩
    have hd : decide ((k : Int) < (ks.length : Int)) = false := decide_eq_false (by omega)
    simp only [L74_0, B74_0, hd, cB_false]
  | succ m ih =>
    intro k f hk hf
    obtain ⟨f, rfl⟩ : ∃ g, f = g + 1 := ⟨f - 1, by omega⟩
    have hlt : k < ks.length := by omega
    have hd : decide ((k : Int) < (ks.length : Int)) = true := decide_eq_true (by omega)
    obtain ⟨a, a1, a2⟩ := s.at1 (k := (k : Int)) (e := .int .i64 ks[k]) (by omega) (iv_get hlt) rfl
    obtain ⟨b, b1, b2⟩ := t.at1 (k := (k : Int)) (e := .int .i64 ks[k]) (by omega) (iv_get hlt) rfl
    have hw : IntKind.i64.wrap ((k : Int) + 1) = ((k + 1 : Nat) : Int) := by rw [wrap_i64 (by omega) (by omega)]; simp
    simp only [L74_0, B74_0, hd, cB_true, a1, a2, b1, b2, bind1_some, castInt_int, bne_self_eq_false, cB_false, hw]
    exact ih (k + 1) f (by omega) (by omega)
theorem ints74 {lf : Nat} {h : List Ob} {A B : V} {ks : List Int} (s : Sl 1 h A (iv ks)) (t : Sl 1 h B (iv ks)) (hl : ks.length ≤ 1000000) (hf : ks.length < lf) : F74 lf A B h = some (.bool true, h) := by
  have := ints74L lf s t hl ks.length 0 lf (by omega) hf
  have z : ((0 : Nat) : Int) = 0 := rfl
  rw [z] at this
  simp only [F74, er_lenL s, er_lenL t, iv_length, bind1_some, castInt_int, bne_self_eq_false, cB_false, this, bind3_some, decide_true, cB_true, castNil_nil]
theorem same48 {lf : Nat} (hf : 2000000 < lf) {h : List Ob} {K W D K2 W2 D2 : V} {n : N} (s : NR h K W D n) (t : NR h K2 W2 D2 n) (sm : small n) : To2 (F48 lf n.leaf K W D n.leaf K2 W2 D2 h) fun v h' => v = .bool true ∧ Kp h h' [] := by
  have hb1 := sm.1
  have hb2 := sm.2.1
  have hb3 := sm.2.2.1
  simp only [F48]
  refine To2.bind2 s.box ?_
  rintro p h1 ⟨rfl, st1, k1⟩
  refine To2.bind2 (t.kp k1).box ?_
  rintro p h2 ⟨rfl, st2, k2⟩
  have st1 := st1.kp k2
  have s2 := s.kp (k1.tr k2)
  have t2 := t.kp (k1.tr k2)
  have a0 := st1.faddr 0 0 0
  have a1 := st1.faddr 1 0 0
  have a2 := st1.faddr 2 0 0
  have a3 := st1.faddr 3 0 0
  have b0 := st2.faddr 0 0 0
  have b1 := st2.faddr 1 0 0
  have b2 := st2.faddr 2 0 0
  have b3 := st2.faddr 3 0 0
  have c0 : er (.load1 (.c (.ptr h.length 0 0))) h2 = some (.bool n.leaf) := st1.load1 rfl
  have c1 : er (.load1 (.c (.ptr h.length 0 1))) h2 = some K := st1.load1 rfl
  have c2 : er (.load1 (.c (.ptr h.length 0 2))) h2 = some W := st1.load1 rfl
  have c3 : er (.load1 (.c (.ptr h.length 0 3))) h2 = some D := st1.load1 rfl
  have d0 : er (.load1 (.c (.ptr h1.length 0 0))) h2 = some (.bool n.leaf) := st2.load1 rfl
  have d1 : er (.load1 (.c (.ptr h1.length 0 1))) h2 = some K2 := st2.load1 rfl
  have d2 : er (.load1 (.c (.ptr h1.length 0 2))) h2 = some W2 := st2.load1 rfl
  have d3 : er (.load1 (.c (.ptr h1.length 0 3))) h2 = some D2 := st2.load1 rfl
  simp only [Nat.zero_add] at a0 a1 a2 a3 b0 b1 b2 b3
  simp only [a0, a1, a2, a3, b0, b1, b2, b3, c0, c1, c2, c3, d0, d1, d2, d3, bind1_some, castBool_bool, beq_self_eq_true, cB_true, list73 (lf := lf) s2.k t2.k hb1 (by omega), list73 (lf := lf) s2.w t2.w hb2 (by omega), ints74 (lf := lf) s2.d t2.d hb3 (by omega), bind2_some]
  exact To2.some ⟨rfl, k1.tr k2⟩

/-! ### Bytes -/
theorem Byt.app {a b : List Int} (h : Byt a) (g : Byt b) : Byt (a ++ b) := fun m hm => (List.mem_append.1 hm).elim (h m) (g m)
theorem Byt.flat {α : Type} {f : α → List Int} {l : List α} (h : ∀ x, x ∈ l → Byt (f x)) : Byt (l.flatMap f) := by
  intro m hm
  obtain ⟨x, hx, hm⟩ := List.mem_flatMap.1 hm
  exact h x hx m hm
theorem pc_byt {p : List Int} (h : Byt p) : Byt (pc p) := Byt.app (numB_byt _) h
theorem spell_byt {n : N} (hk : ∀ k, k ∈ n.keys → Byt k) (hv : ∀ k, k ∈ n.vals → Byt k) : Byt (spell n) := by
  have one : ∀ {t : Int} {l : List Int}, 0 ≤ t ∧ t ≤ 255 → Byt l → Byt (t :: l) := by
    intro t l ht hl m hm
    rcases List.mem_cons.1 hm with rfl | hm
    · exact ht
    · exact hl m hm
  unfold spell
  split
  · refine one (by decide) (Byt.app (numB_byt _) (Byt.flat fun x hx => ?_))
    exact Byt.app (pc_byt (hk _ (List.of_mem_zip hx).1)) (pc_byt (hv _ (List.of_mem_zip hx).2))
  · refine one (by decide) (Byt.app (numB_byt _) (Byt.app (numB_byt _) (Byt.flat fun x hx => ?_)))
    exact Byt.app (pc_byt (hk _ (List.of_mem_zip hx).1)) (numB_byt _)
theorem encN_byt {n : N} (hk : ∀ k, k ∈ n.keys → Byt k) (hv : ∀ k, k ∈ n.vals → Byt k) : Byt (encN n).1 := by
  unfold encN
  split
  · split
    · intro m hm; cases hm
    · exact spell_byt hk hv
  · intro m hm; cases hm
theorem encN_len (n : N) : (encN n).1.length ≤ 508 := by
  unfold encN
  split
  · split
    · simp
    · simp; omega
  · simp
theorem encN_ok {n : N} (h : (encN n).2 = 0) : formP n ∧ (spell n).length ≤ 508 ∧ (encN n).1 = spell n := by
  unfold encN at h ⊢
  split at h
  · rename_i f
    rw [if_pos f]
    split at h
    · cases h
    · rename_i c
      rw [if_neg c]
      exact ⟨f, by omega, rfl⟩
  · cases h
theorem decN_of {n : N} (f : formP n) (hl : (spell n).length ≤ 508) (hk : n.keys.length < 1000000) {r : List Int} (hr : ∀ x, x ∈ r → x = 0) : decN (spell n ++ r) = some n := by
  unfold decN
  rw [nodeP_of f hk]
  simp only
  rw [if_pos ⟨f, hl, hr⟩]
theorem decN_back' {ms : List Int} {n : N} (hb : Byt ms) (h : decN ms = some n) : ∃ r, ms = spell n ++ r ∧ nodeP ms = some (n, r) ∧ formP n ∧ (spell n).length ≤ 508 ∧ ∀ x, x ∈ r → x = 0 := by
  unfold decN at h
  split at h
  · rename_i m r hm
    split at h
    · rename_i q
      injection h with h; subst h
      exact ⟨r, nodeP_back hb hm, hm, q⟩
    · cases h
  · cases h
end Go.Proofs.Ytdcdmpgigmhhpaa.Nd
