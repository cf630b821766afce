/- Nodes: slices of slices; formed nodes, by both. No condition. -/
import Derived.Test.YtdcdmpgigmhhpaaNds
import Derived.Test.YtdcdmpgigmhhpaaNdP
import Derived.Test.YtdcdmpgigmhhpaaL3
namespace Go.Proofs.Ytdcdmpgigmhhpaa.Nd
open Go Go.Proofs.Ytdcdmpgigmhhpaa.E
open Go.Proofs.Ytdcdmpgigmhhpaa.Va Go.Proofs.Ytdcdmpgigmhhpaa.Rc
set_option maxRecDepth 100000
set_option linter.unusedVariables false
set_option linter.unusedSimpArgs false

def iv (ms : List Int) : List V := ms.map (V.int .i64)
@[simp] theorem iv_length (ms : List Int) : (iv ms).length = ms.length := by simp [iv]
theorem iv_get {ms : List Int} {k : Nat} (h : k < ms.length) : (iv ms)[k]? = some (.int .i64 ms[k]) := by simp [iv, h]
/-- A slice of slices of bytes. -/
def SS (h : List Ob) (v : V) (ks : List (List Int)) : Prop := ∃ es, Sl 1 h v es ∧ es.length = ks.length ∧ ∀ (i : Nat) (hi : i < ks.length), ∃ e, es[i]? = some e ∧ Sl 1 h e (bv ks[i])
theorem SS.kp {h h' : List Ob} {v : V} {ks : List (List Int)} (s : SS h v ks) (k : Kp h h' []) : SS h' v ks := by
  obtain ⟨es, s1, s2, s3⟩ := s
  refine ⟨es, Sl.kp s1 k, s2, fun i hi => ?_⟩
  obtain ⟨e, e1, e2⟩ := s3 i hi
  exact ⟨e, e1, Sl.kp e2 k⟩
theorem SS.len {h : List Ob} {v : V} {ks : List (List Int)} (s : SS h v ks) : er (.lenL (.c v)) h = some (.int .i64 ks.length) := by
  obtain ⟨es, s1, s2, s3⟩ := s
  rw [er_lenL s1, s2]
theorem SS.at_ {h : List Ob} {v : V} {ks : List (List Int)} (s : SS h v ks) {k : Int} {n : Nat} (hk : k = n) (hn : n < ks.length) : ∃ a e, er (.iaddrL 1 (.c v) (.c (.int .i64 k))) h = some a ∧ er (.load1 (.c a)) h = some e ∧ Sl 1 h e (bv (ks.getD n [])) := by
  obtain ⟨es, s1, s2, s3⟩ := s
  obtain ⟨e, e1, e2⟩ := s3 n hn
  subst hk
  obtain ⟨a, a1, a2⟩ := s1.at1 (k := (n : Int)) (e := e) (by omega) e1 e2.cells
  exact ⟨a, e, a1, a2, by simpa [List.getD_eq_getElem?_getD, List.getElem?_eq_getElem hn] using e2⟩

theorem cmp_less : ∀ a b : List UInt8, (decide (Lib.compareBytes a b < 0) = Op.bytesLess a b) ∧ (decide (Lib.compareBytes a b ≥ 0) = !Op.bytesLess a b)
  | [], [] => ⟨rfl, rfl⟩
  | [], _ :: _ => ⟨rfl, rfl⟩
  | _ :: _, [] => ⟨rfl, rfl⟩
  | a :: x, b :: y => by
    have ih := cmp_less x y
    simp only [Lib.compareBytes, Op.bytesLess]
    by_cases h1 : a < b
    · simp [h1]
    · by_cases h2 : b < a
      · have h3 : (a == b) = false := by
          rw [beq_eq_false_iff_ne]; intro e; subst e; exact absurd h2 (UInt8.lt_irrefl _)
        simp [h1, h2, h3]
      · have h3 : a = b := UInt8.le_antisymm (UInt8.not_lt.1 h2) (UInt8.not_lt.1 h1)
        subst h3
        simp only [UInt8.lt_irrefl, if_false, decide_false, Bool.false_or, beq_self_eq_true, Bool.true_and]
        exact ih
theorem cmp56 {lf : Nat} {h : List Ob} {a b : V} {x y : List Int} (sa : Sl 1 h a (bv x)) (sb : Sl 1 h b (bv y)) : F56 lf a b h = some (.int .i64 (Lib.compareBytes (by8 x) (by8 y)), h) := by
  have e : ∀ {v : V} {ms : List Int}, Sl 1 h v (bv ms) → evBytes h v = some (by8 ms) := by
    intro v ms s
    unfold evBytes
    split
    · rename_i l; exact absurd rfl (s.ns l)
    · rw [s.c]; simp [bytesOf_bv]
  have : er (.cmpB (.c a) (.c b)) h = some (.int .i64 (Lib.compareBytes (by8 x) (by8 y))) := by
    simp [er, ev, evOq, x_cmpB, getC, e sa, e sb]
  simp only [F56, this, bind1_some, castInt_int]

/-- A node's parts lie there. -/
structure NR (h : List Ob) (K W D : V) (n : N) : Prop where
  k : SS h K n.keys
  w : SS h W n.vals
  d : Sl 1 h D (iv n.kids)
  kc : K.cells = [K] ∧ K.scalar = true
  wc : W.cells = [W] ∧ W.scalar = true
  dc : D.cells = [D] ∧ D.scalar = true
theorem NR.kp {h h' : List Ob} {K W D : V} {n : N} (s : NR h K W D n) (k : Kp h h' []) : NR h' K W D n := ⟨s.k.kp k, s.w.kp k, Sl.kp s.d k, s.kc, s.wc, s.dc⟩
abbrev nC (n : N) (K W D : V) : List V := [.bool n.leaf, K, W, D]
theorem NR.box {h : List Ob} {K W D : V} {n : N} (s : NR h K W D n) : To2 (ev (.box false (.c (.agg (nC n K W D)))) h) fun v h' => v = .ptr h.length 0 0 ∧ St h' h.length (nC n K W D) ∧ Kp h h' [] :=
  box_to (by simp [s.kc.2, s.wc.2, s.dc.2]; rfl)
/-- Few enough. -/
def small (n : N) : Prop := n.keys.length ≤ 1000000 ∧ n.vals.length ≤ 1000000 ∧ n.kids.length ≤ 1000000 ∧ (∀ k, k ∈ n.keys → k.length ≤ 1000000) ∧ (∀ k, k ∈ n.vals → k.length ≤ 1000000)
theorem getD_mem {ks : List (List Int)} {i : Nat} (h : i < ks.length) : ks.getD i [] ∈ ks := by
  simp only [List.getD_eq_getElem?_getD, List.getElem?_eq_getElem h, Option.getD_some]
  exact List.getElem_mem h

theorem keys43L (lf : Nat) {h : List Ob} {K : V} {id : Nat} {b W D : V} {ks : List (List Int)} (st : St h id [b, K, W, D]) (s : SS h K ks) (hl : ks.length ≤ 1000000) (hs : ∀ k, k ∈ ks → k.length ≤ 1000000) : ∀ (m k f : Nat), ks.length = k + m → m < f →
    To3 (L43_0 lf f (.ptr id 0 0) K ks.length k h) fun x vs h' => h' = h ∧ ((x = .exit 0 ∧ vs = [] ∧ ∀ i, k ≤ i → i < ks.length → keyAt ks i) ∨ (x = .ret ∧ vs = [.bool false] ∧ ¬ ∀ i, k ≤ i → i < ks.length → keyAt ks i)) := by
  intro m
  induction m with
  | zero =>
    intro k f hk hf
    obtain ⟨f, rfl⟩ : ∃ g, f = g + 1 := ⟨f - 1, by omega⟩
    have hd : decide ((k : Int) < (ks.length : Int)) = false := decide_eq_false (by omega)
    simp only [L43_0, B43_0, hd, cB_false]
    exact To3.some ⟨rfl, .inl ⟨rfl, rfl, fun i h1 h2 => by omega⟩⟩
  | succ m ih =>
    intro k f hk hf
    obtain ⟨f, rfl⟩ : ∃ g, f = g + 1 := ⟨f - 1, by omega⟩
    have hlt : k < ks.length := by omega
    have hd : decide ((k : Int) < (ks.length : Int)) = true := decide_eq_true (by omega)
    obtain ⟨a, e, a1, a2, se⟩ := s.at_ (k := (k : Int)) rfl hlt
    have hw : IntKind.i64.wrap ((k : Int) + 1) = ((k + 1 : Nat) : Int) := by rw [wrap_i64 (by omega) (by omega)]; simp
    have next : keyAt ks k → To3 (L43_0 lf f (.ptr id 0 0) K ks.length ((k + 1 : Nat) : Int) h) fun x vs h' => h' = h ∧ ((x = .exit 0 ∧ vs = [] ∧ ∀ i, k ≤ i → i < ks.length → keyAt ks i) ∨ (x = .ret ∧ vs = [.bool false] ∧ ¬ ∀ i, k ≤ i → i < ks.length → keyAt ks i)) := by
      intro hk0
      refine (ih (k + 1) f (by omega) (by omega)).mono ?_
      rintro x vs h' ⟨rfl, ⟨rfl, rfl, q⟩ | ⟨rfl, rfl, q⟩⟩
      · refine ⟨rfl, .inl ⟨rfl, rfl, fun i h1 h2 => ?_⟩⟩
        by_cases e : i = k
        · subst e; exact hk0
        · exact q i (by omega) h2
      · exact ⟨rfl, .inr ⟨rfl, rfl, fun q2 => q fun i h1 h2 => q2 i (by omega) h2⟩⟩
    have stop : ¬ keyAt ks k → ¬ ∀ i, k ≤ i → i < ks.length → keyAt ks i := fun hn q => hn (q k (Nat.le_refl _) hlt)
    simp only [L43_0, B43_0, hd, cB_true, a1, a2, er_lenL se, bv_length, bind1_some, castInt_int]
    by_cases c1 : (ks.getD k []).length = 0
    · have d1 : (((ks.getD k []).length : Int) == 0) = true := by rw [c1]; rfl
      simp only [d1, cB_true]
      exact To3.some ⟨rfl, .inr ⟨rfl, rfl, stop fun q => by have := q.1; omega⟩⟩
    · have d1 : (((ks.getD k []).length : Int) == 0) = false := beq_eq_false_iff_ne.2 (by omega)
      simp only [d1, cB_false]
      by_cases c2 : (ks.getD k []).length > 120
      · have d2 : decide (((ks.getD k []).length : Int) > 120) = true := decide_eq_true (by omega)
        simp only [d2, cB_true]
        exact To3.some ⟨rfl, .inr ⟨rfl, rfl, stop fun q => by have := q.2.1; omega⟩⟩
      · have d2 : decide (((ks.getD k []).length : Int) > 120) = false := decide_eq_false (by omega)
        simp only [d2, cB_false]
        by_cases c3 : 0 < k
        · have d3 : decide ((k : Int) > 0) = true := decide_eq_true (by omega)
          have f1 := st.faddr 1 0 0
          have l1 : er (.load1 (.c (.ptr id 0 1))) h = some K := st.load1 rfl
          simp only [Nat.zero_add] at f1
          have hw2 : IntKind.i64.wrap ((k : Int) - 1) = ((k - 1 : Nat) : Int) := by rw [wrap_i64 (by omega) (by omega)]; omega
          obtain ⟨b, e', b1, b2, se'⟩ := s.at_ (k := ((k - 1 : Nat) : Int)) rfl (by omega)
          simp only [d3, cB_true, f1, l1, hw2, b1, b2, cmp56 se' se, bind1_some, bind2_some, castInt_int, (cmp_less _ _).2]
          by_cases c4 : less (ks.getD (k - 1) []) (ks.getD k []) = true
          · have d4 : Op.bytesLess (by8 (ks.getD (k - 1) [])) (by8 (ks.getD k [])) = true := c4
            simp only [d4, Bool.not_true, cB_false, hw]
            exact next ⟨by omega, by omega, fun _ => c4⟩
          · have d4 : Op.bytesLess (by8 (ks.getD (k - 1) [])) (by8 (ks.getD k [])) = false := by simpa [less] using c4
            simp only [d4, Bool.not_false, cB_true]
            exact To3.some ⟨rfl, .inr ⟨rfl, rfl, stop fun q => c4 (q.2.2 c3)⟩⟩
        · have d3 : decide ((k : Int) > 0) = false := decide_eq_false (by omega)
          simp only [d3, cB_false, hw]
          exact next ⟨by omega, by omega, fun z => absurd z c3⟩

theorem keys44L (lf : Nat) {h : List Ob} {K : V} {id : Nat} {b W D : V} {ks : List (List Int)} (st : St h id [b, K, W, D]) (s : SS h K ks) (hl : ks.length ≤ 1000000) (hs : ∀ k, k ∈ ks → k.length ≤ 1000000) : ∀ (m k f : Nat), ks.length = k + m → m < f →
    To3 (L44_0 lf f (.ptr id 0 0) ks.length k h) fun x vs h' => h' = h ∧ ((x = .exit 0 ∧ vs = [] ∧ ∀ i, k ≤ i → i < ks.length → keyAt ks i) ∨ (x = .ret ∧ vs = [.bool false] ∧ ¬ ∀ i, k ≤ i → i < ks.length → keyAt ks i)) := by
  have f1 := st.faddr 1 0 0
  have l1 : er (.load1 (.c (.ptr id 0 1))) h = some K := st.load1 rfl
  simp only [Nat.zero_add] at f1
  intro m
  induction m with
  | zero =>
    intro k f hk hf
    obtain ⟨f, rfl⟩ : ∃ g, f = g + 1 := ⟨f - 1, by omega⟩
    have hd : decide ((k : Int) < (ks.length : Int)) = false := decide_eq_false (by omega)
    simp only [L44_0, B44_0, hd, cB_false]
    exact To3.some ⟨rfl, .inl ⟨rfl, rfl, fun i h1 h2 => by omega⟩⟩
  | succ m ih =>
    intro k f hk hf
    obtain ⟨f, rfl⟩ : ∃ g, f = g + 1 := ⟨f - 1, by omega⟩
    have hlt : k < ks.length := by omega
    have hd : decide ((k : Int) < (ks.length : Int)) = true := decide_eq_true (by omega)
    obtain ⟨a, e, a1, a2, se⟩ := s.at_ (k := (k : Int)) rfl hlt
    have hw : IntKind.i64.wrap ((k : Int) + 1) = ((k + 1 : Nat) : Int) := by rw [wrap_i64 (by omega) (by omega)]; simp
    have next : keyAt ks k → To3 (L44_0 lf f (.ptr id 0 0) ks.length ((k + 1 : Nat) : Int) h) fun x vs h' => h' = h ∧ ((x = .exit 0 ∧ vs = [] ∧ ∀ i, k ≤ i → i < ks.length → keyAt ks i) ∨ (x = .ret ∧ vs = [.bool false] ∧ ¬ ∀ i, k ≤ i → i < ks.length → keyAt ks i)) := by
      intro hk0
      refine (ih (k + 1) f (by omega) (by omega)).mono ?_
      rintro x vs h' ⟨rfl, ⟨rfl, rfl, q⟩ | ⟨rfl, rfl, q⟩⟩
      · refine ⟨rfl, .inl ⟨rfl, rfl, fun i h1 h2 => ?_⟩⟩
        by_cases e : i = k
        · subst e; exact hk0
        · exact q i (by omega) h2
      · exact ⟨rfl, .inr ⟨rfl, rfl, fun q2 => q fun i h1 h2 => q2 i (by omega) h2⟩⟩
    have stop : ¬ keyAt ks k → ¬ ∀ i, k ≤ i → i < ks.length → keyAt ks i := fun hn q => hn (q k (Nat.le_refl _) hlt)
    simp only [L44_0, B44_0, hd, cB_true, f1, l1, a1, a2, er_lenL se, bv_length, bind1_some, castInt_int]
    by_cases c1 : (ks.getD k []).length = 0
    · have d1 : (((ks.getD k []).length : Int) == 0) = true := by rw [c1]; rfl
      simp only [d1, cB_true]
      exact To3.some ⟨rfl, .inr ⟨rfl, rfl, stop fun q => by have := q.1; omega⟩⟩
    · have d1 : (((ks.getD k []).length : Int) == 0) = false := beq_eq_false_iff_ne.2 (by omega)
      simp only [d1, cB_false]
      by_cases c2 : (ks.getD k []).length > 120
      · have d2 : decide (((ks.getD k []).length : Int) > 120) = true := decide_eq_true (by omega)
        simp only [d2, cB_true]
        exact To3.some ⟨rfl, .inr ⟨rfl, rfl, stop fun q => by have := q.2.1; omega⟩⟩
      · have d2 : decide (((ks.getD k []).length : Int) > 120) = false := decide_eq_false (by omega)
        simp only [d2, cB_false]
        by_cases c3 : 0 < k
        · have d3 : decide ((k : Int) > 0) = true := decide_eq_true (by omega)
          have hw2 : IntKind.i64.wrap ((k : Int) - 1) = ((k - 1 : Nat) : Int) := by rw [wrap_i64 (by omega) (by omega)]; omega
          obtain ⟨b, e', b1, b2, se'⟩ := s.at_ (k := ((k - 1 : Nat) : Int)) rfl (by omega)
          simp only [d3, cB_true, hw2, b1, b2, er_toStr se', er_toStr se, bind1_some, castStr_str]
          by_cases c4 : less (ks.getD (k - 1) []) (ks.getD k []) = true
          · have d4 : Op.bytesLess (by8 (ks.getD (k - 1) [])) (by8 (ks.getD k [])) = true := c4
            simp only [d4, Bool.not_true, cB_false, hw]
            exact next ⟨by omega, by omega, fun _ => c4⟩
          · have d4 : Op.bytesLess (by8 (ks.getD (k - 1) [])) (by8 (ks.getD k [])) = false := by simpa [less] using c4
            simp only [d4, Bool.not_false, cB_true]
            exact To3.some ⟨rfl, .inr ⟨rfl, rfl, stop fun q => c4 (q.2.2 c3)⟩⟩
        · have d3 : decide ((k : Int) > 0) = false := decide_eq_false (by omega)
          simp only [d3, cB_false, hw]
          exact next ⟨by omega, by omega, fun z => absurd z c3⟩

def valAt (n : N) (i : Nat) : Prop := (n.keys.getD i []).length + (n.vals.getD i []).length ≤ 160
theorem vals43L (lf : Nat) {h : List Ob} {K W D : V} {id : Nat} {n : N} (st : St h id (nC n K W D)) (s : NR h K W D n) (sm : small n) (he : n.vals.length = n.keys.length) : ∀ (m k f : Nat), n.vals.length = k + m → m < f →
    To3 (L43_1 lf f (.ptr id 0 0) W n.vals.length k h) fun x vs h' => h' = h ∧ ((x = .exit 2 ∧ vs = [] ∧ ∀ i, k ≤ i → i < n.vals.length → valAt n i) ∨ (x = .ret ∧ vs = [.bool false] ∧ ¬ ∀ i, k ≤ i → i < n.vals.length → valAt n i)) := by
  have f1 := st.faddr 1 0 0
  have l1 : er (.load1 (.c (.ptr id 0 1))) h = some K := st.load1 rfl
  simp only [Nat.zero_add] at f1
  intro m
  induction m with
  | zero =>
    intro k f hk hf
    obtain ⟨f, rfl⟩ : ∃ g, f = g + 1 := ⟨f - 1, by omega⟩
    have hd : decide ((k : Int) < (n.vals.length : Int)) = false := decide_eq_false (by omega)
    simp only [L43_1, B43_1, hd, cB_false]
    exact To3.some ⟨rfl, .inl ⟨rfl, rfl, fun i h1 h2 => by omega⟩⟩
  | succ m ih =>
    intro k f hk hf
    obtain ⟨f, rfl⟩ : ∃ g, f = g + 1 := ⟨f - 1, by omega⟩
    have hlt : k < n.vals.length := by omega
    have hb := sm.1
    have hb2 := sm.2.1
    have hd : decide ((k : Int) < (n.vals.length : Int)) = true := decide_eq_true (by omega)
    obtain ⟨a, e, a1, a2, se⟩ := s.w.at_ (k := (k : Int)) rfl hlt
    obtain ⟨b, e', b1, b2, se'⟩ := s.k.at_ (k := (k : Int)) rfl (by omega)
    have hw : IntKind.i64.wrap ((k : Int) + 1) = ((k + 1 : Nat) : Int) := by rw [wrap_i64 (by omega) (by omega)]; simp
    have g1 := sm.2.2.2.1 _ (getD_mem (ks := n.keys) (i := k) (by omega))
    have g2 := sm.2.2.2.2 _ (getD_mem hlt)
    have hw2 : IntKind.i64.wrap (((n.keys.getD k []).length : Int) + ((n.vals.getD k []).length : Int)) = (((n.keys.getD k []).length : Int) + ((n.vals.getD k []).length : Int)) := wrap_i64 (by omega) (by omega)
    simp only [L43_1, B43_1, hd, cB_true, a1, a2, f1, l1, b1, b2, er_lenL se, er_lenL se', bv_length, bind1_some, castInt_int, hw2]
    by_cases c : valAt n k
    · have d : decide ((((n.keys.getD k []).length : Int) + ((n.vals.getD k []).length : Int)) > 160) = false := decide_eq_false (by have : (n.keys.getD k []).length + (n.vals.getD k []).length ≤ 160 := c; omega)
      simp only [d, cB_false, hw]
      refine (ih (k + 1) f (by omega) (by omega)).mono ?_
      rintro x vs h' ⟨rfl, ⟨rfl, rfl, q⟩ | ⟨rfl, rfl, q⟩⟩
      · refine ⟨rfl, .inl ⟨rfl, rfl, fun i h1 h2 => ?_⟩⟩
        by_cases e : i = k
        · subst e; exact c
        · exact q i (by omega) h2
      · exact ⟨rfl, .inr ⟨rfl, rfl, fun q2 => q fun i h1 h2 => q2 i (by omega) h2⟩⟩
    · have d : decide ((((n.keys.getD k []).length : Int) + ((n.vals.getD k []).length : Int)) > 160) = true := decide_eq_true (by have : ¬ (n.keys.getD k []).length + (n.vals.getD k []).length ≤ 160 := c; omega)
      simp only [d, cB_true]
      exact To3.some ⟨rfl, .inr ⟨rfl, rfl, fun q => c (q k (Nat.le_refl _) hlt)⟩⟩
theorem vals44L (lf : Nat) {h : List Ob} {K W D : V} {id : Nat} {n : N} (st : St h id (nC n K W D)) (s : NR h K W D n) (sm : small n) (he : n.vals.length = n.keys.length) : ∀ (m k f : Nat), n.vals.length = k + m → m < f →
    To3 (L44_1 lf f (.ptr id 0 0) n.vals.length k h) fun x vs h' => h' = h ∧ ((x = .exit 2 ∧ vs = [] ∧ ∀ i, k ≤ i → i < n.vals.length → valAt n i) ∨ (x = .ret ∧ vs = [.bool false] ∧ ¬ ∀ i, k ≤ i → i < n.vals.length → valAt n i)) := by
  have f1 := st.faddr 1 0 0
  have l1 : er (.load1 (.c (.ptr id 0 1))) h = some K := st.load1 rfl
  have f2 := st.faddr 2 0 0
  have l2 : er (.load1 (.c (.ptr id 0 2))) h = some W := st.load1 rfl
  simp only [Nat.zero_add] at f1 f2
  intro m
  induction m with
  | zero =>
    intro k f hk hf
    obtain ⟨f, rfl⟩ : ∃ g, f = g + 1 := ⟨f - 1, by omega⟩
    have hd : decide ((k : Int) < (n.vals.length : Int)) = false := decide_eq_false (by omega)
    simp only [L44_1, B44_1, hd, cB_false]
    exact To3.some ⟨rfl, .inl ⟨rfl, rfl, fun i h1 h2 => by omega⟩⟩
  | succ m ih =>
    intro k f hk hf
    obtain ⟨f, rfl⟩ : ∃ g, f = g + 1 := ⟨f - 1, by omega⟩
    have hlt : k < n.vals.length := by omega
    have hb := sm.1
    have hb2 := sm.2.1
    have hd : decide ((k : Int) < (n.vals.length : Int)) = true := decide_eq_true (by omega)
    obtain ⟨a, e, a1, a2, se⟩ := s.w.at_ (k := (k : Int)) rfl hlt
    obtain ⟨b, e', b1, b2, se'⟩ := s.k.at_ (k := (k : Int)) rfl (by omega)
    have hw : IntKind.i64.wrap ((k : Int) + 1) = ((k + 1 : Nat) : Int) := by rw [wrap_i64 (by omega) (by omega)]; simp
    have g1 := sm.2.2.2.1 _ (getD_mem (ks := n.keys) (i := k) (by omega))
    have g2 := sm.2.2.2.2 _ (getD_mem hlt)
    have hw2 : IntKind.i64.wrap (((n.keys.getD k []).length : Int) + ((n.vals.getD k []).length : Int)) = (((n.keys.getD k []).length : Int) + ((n.vals.getD k []).length : Int)) := wrap_i64 (by omega) (by omega)
    simp only [L44_1, B44_1, hd, cB_true, a1, a2, f1, l1, f2, l2, b1, b2, er_lenL se, er_lenL se', bv_length, bind1_some, castInt_int, hw2]
    by_cases c : valAt n k
    · have d : decide ((((n.keys.getD k []).length : Int) + ((n.vals.getD k []).length : Int)) > 160) = false := decide_eq_false (by have : (n.keys.getD k []).length + (n.vals.getD k []).length ≤ 160 := c; omega)
      simp only [d, cB_false, hw]
      refine (ih (k + 1) f (by omega) (by omega)).mono ?_
      rintro x vs h' ⟨rfl, ⟨rfl, rfl, q⟩ | ⟨rfl, rfl, q⟩⟩
      · refine ⟨rfl, .inl ⟨rfl, rfl, fun i h1 h2 => ?_⟩⟩
        by_cases e : i = k
        · subst e; exact c
        · exact q i (by omega) h2
      · exact ⟨rfl, .inr ⟨rfl, rfl, fun q2 => q fun i h1 h2 => q2 i (by omega) h2⟩⟩
    · have d : decide ((((n.keys.getD k []).length : Int) + ((n.vals.getD k []).length : Int)) > 160) = true := decide_eq_true (by have : ¬ (n.keys.getD k []).length + (n.vals.getD k []).length ≤ 160 := c; omega)
      simp only [d, cB_true]
      exact To3.some ⟨rfl, .inr ⟨rfl, rfl, fun q => c (q k (Nat.le_refl _) hlt)⟩⟩

def kidAt (ks : List Int) (i : Nat) : Prop := 1 ≤ ks.getD i 0 ∧ ks.getD i 0 < 10000
theorem kid_at {h : List Ob} {D : V} {ks : List Int} (s : Sl 1 h D (iv ks)) {k : Nat} (hk : k < ks.length) : ∃ a, er (.iaddrL 1 (.c D) (.c (.int .i64 (k : Int)))) h = some a ∧ er (.load1 (.c a)) h = some (.int .i64 (ks.getD k 0)) := by
  obtain ⟨a, a1, a2⟩ := s.at1 (k := (k : Int)) (e := .int .i64 ks[k]) (by omega) (iv_get hk) rfl
  exact ⟨a, a1, by simpa [List.getD_eq_getElem?_getD, List.getElem?_eq_getElem hk] using a2⟩
theorem kids86L (lf : Nat) {h : List Ob} {D : V} {ks : List Int} (s : Sl 1 h D (iv ks)) (hl : ks.length ≤ 1000000) : ∀ (m k f : Nat), ks.length = k + m → m < f →
    To3 (L86_0 lf (cv43 lf) f D (.fn 68 []) ks.length k h) fun x vs h' => h' = h ∧ ((x = .exit 0 ∧ vs = [] ∧ ∀ i, k ≤ i → i < ks.length → kidAt ks i) ∨ (∃ j : Nat, x = .ret ∧ vs = [.int .i64 j] ∧ ¬ ∀ i, k ≤ i → i < ks.length → kidAt ks i)) := by
  intro m
  induction m with
  | zero =>
    intro k f hk hf
    obtain ⟨f, rfl⟩ : ∃ g, f = g + 1 := ⟨f - 1, by omega⟩
    have hd : decide ((k : Int) < (ks.length : Int)) = false := decide_eq_false (by omega)
    simp only [L86_0, B86_0, hd, cB_false]
    exact To3.some ⟨rfl, .inl ⟨rfl, rfl, fun i h1 h2 => by omega⟩⟩
  | succ m ih =>
    intro k f hk hf
    obtain ⟨f, rfl⟩ : ∃ g, f = g + 1 := ⟨f - 1, by omega⟩
    have hlt : k < ks.length := by omega
    have hd : decide ((k : Int) < (ks.length : Int)) = true := decide_eq_true (by omega)
    obtain ⟨a, a1, a2⟩ := kid_at s hlt
    have hw : IntKind.i64.wrap ((k : Int) + 1) = ((k + 1 : Nat) : Int) := by rw [wrap_i64 (by omega) (by omega)]; simp
    have ecv : ∀ x h, cv43 lf (.fn 68 []) [.int .i64 x] h = F68 lf x h := by
      intro x h
      simp [cv43, cvC, W68, w68]
    have e68 : ∀ y : Int, F68 lf y h = some (.bool (decide (y < 1 ∨ y ≥ 10000)), h) := by
      intro y
      unfold F68
      by_cases c : y < 1
      · have e : decide (y < 1 ∨ y ≥ 10000) = true := decide_eq_true (Or.inl c)
        rw [decide_eq_true c, e]; rfl
      · rw [decide_eq_false c]
        by_cases c2 : y ≥ 10000
        · have e : decide (y < 1 ∨ y ≥ 10000) = true := decide_eq_true (Or.inr c2)
          rw [decide_eq_true c2, e]; rfl
        · have e : decide (y < 1 ∨ y ≥ 10000) = false := decide_eq_false (by omega)
          rw [decide_eq_false c2, e]; rfl
    simp only [L86_0, B86_0, hd, cB_true, a1, a2, bind1_some, castInt_int, ecv, e68, bind2_some, castBool_bool]
    by_cases c : kidAt ks k
    · have d : decide (ks.getD k 0 < 1 ∨ ks.getD k 0 ≥ 10000) = false := decide_eq_false (by have := c.1; have := c.2; omega)
      simp only [d, cB_false, hw]
      refine (ih (k + 1) f (by omega) (by omega)).mono ?_
      rintro x vs h' ⟨rfl, ⟨rfl, rfl, q⟩ | ⟨j, rfl, rfl, q⟩⟩
      · refine ⟨rfl, .inl ⟨rfl, rfl, fun i h1 h2 => ?_⟩⟩
        by_cases e : i = k
        · subst e; exact c
        · exact q i (by omega) h2
      · exact ⟨rfl, .inr ⟨j, rfl, rfl, fun q2 => q fun i h1 h2 => q2 i (by omega) h2⟩⟩
    · have d : decide (ks.getD k 0 < 1 ∨ ks.getD k 0 ≥ 10000) = true := decide_eq_true (by unfold kidAt at c; omega)
      simp only [d, cB_true]
      exact To3.some ⟨rfl, .inr ⟨k, rfl, rfl, fun q => c (q k (Nat.le_refl _) hlt)⟩⟩
theorem kids_all {ks : List Int} : (∀ i, 0 ≤ i → i < ks.length → kidAt ks i) ↔ ∀ k, k ∈ ks → 1 ≤ k ∧ k < 10000 := by
  constructor
  · intro h k hk
    obtain ⟨i, hi, rfl⟩ := List.getElem_of_mem hk
    have := h i (Nat.zero_le _) hi
    simpa [kidAt, List.getD_eq_getElem?_getD, List.getElem?_eq_getElem hi] using this
  · intro h i _ hi
    have := h ks[i] (List.getElem_mem hi)
    simpa [kidAt, List.getD_eq_getElem?_getD, List.getElem?_eq_getElem hi] using this
theorem con67 {lf : Nat} {h : List Ob} {D : V} {ks : List Int} (s : Sl 1 h D (iv ks)) (hl : ks.length ≤ 1000000) (hf : ks.length < lf) : To2 (F67 lf (cv43 lf) D (.fn 68 []) h) fun v h' => h' = h ∧ ((v = .bool false ∧ ∀ k, k ∈ ks → 1 ≤ k ∧ k < 10000) ∨ (v = .bool true ∧ ¬ ∀ k, k ∈ ks → 1 ≤ k ∧ k < 10000)) := by
  have := kids86L lf s hl ks.length 0 lf (by omega) hf
  have z : ((0 : Nat) : Int) = 0 := rfl
  rw [z] at this
  simp only [F67, F86, er_lenL s, iv_length, bind1_some, castInt_int]
  refine To2.bind2 (Q := fun v h' => h' = h ∧ ∃ j : Int, v = .int .i64 j ∧ ((j < 0 ∧ ∀ k, k ∈ ks → 1 ≤ k ∧ k < 10000) ∨ (0 ≤ j ∧ ¬ ∀ k, k ∈ ks → 1 ≤ k ∧ k < 10000))) (To2.bind3 this ?_) ?_
  · rintro x vs h' ⟨rfl, ⟨rfl, rfl, q⟩ | ⟨j, rfl, rfl, q⟩⟩
    · simp only [decide_true, cB_true, castNil_nil]
      exact To2.some ⟨rfl, -1, rfl, .inl ⟨by decide, kids_all.1 q⟩⟩
    · simp only [show decide (EX.ret = EX.exit 0) = false from rfl, decide_true, cB_true, cB_false, castCons_cons, castInt_int, castNil_nil]
      exact To2.some ⟨rfl, j, rfl, .inr ⟨by omega, fun z => q (kids_all.2 z)⟩⟩
  · rintro v h' ⟨rfl, j, rfl, ⟨q1, q2⟩ | ⟨q1, q2⟩⟩
    · have d : decide (j ≥ 0) = false := decide_eq_false (by omega)
      simp only [castInt_int, d]
      exact To2.some ⟨rfl, .inl ⟨rfl, q2⟩⟩
    · have d : decide (j ≥ 0) = true := decide_eq_true (by omega)
      simp only [castInt_int, d]
      exact To2.some ⟨rfl, .inr ⟨rfl, q2⟩⟩
theorem kids44L (lf : Nat) {h : List Ob} {K W D : V} {id : Nat} {b : V} {ks : List Int} (st : St h id [b, K, W, D]) (s : Sl 1 h D (iv ks)) (hl : ks.length ≤ 1000000) : ∀ (m k f : Nat), ks.length = k + m → m < f →
    To3 (L44_3 lf f (.ptr id 0 0) ks.length k h) fun x vs h' => h' = h ∧ ((x = .exit 4 ∧ vs = [] ∧ ∀ i, k ≤ i → i < ks.length → kidAt ks i) ∨ (x = .ret ∧ vs = [.bool false] ∧ ¬ ∀ i, k ≤ i → i < ks.length → kidAt ks i)) := by
  have f3 := st.faddr 3 0 0
  have l3 : er (.load1 (.c (.ptr id 0 3))) h = some D := st.load1 rfl
  simp only [Nat.zero_add] at f3
  intro m
  induction m with
  | zero =>
    intro k f hk hf
    obtain ⟨f, rfl⟩ : ∃ g, f = g + 1 := ⟨f - 1, by omega⟩
    have hd : decide ((k : Int) < (ks.length : Int)) = false := decide_eq_false (by omega)
    simp only [L44_3, B44_3, hd, cB_false]
    exact To3.some ⟨rfl, .inl ⟨rfl, rfl, fun i h1 h2 => by omega⟩⟩
  | succ m ih =>
    intro k f hk hf
    obtain ⟨f, rfl⟩ : ∃ g, f = g + 1 := ⟨f - 1, by omega⟩
    have hlt : k < ks.length := by omega
    have hd : decide ((k : Int) < (ks.length : Int)) = true := decide_eq_true (by omega)
    obtain ⟨a, a1, a2⟩ := kid_at s hlt
    have hw : IntKind.i64.wrap ((k : Int) + 1) = ((k + 1 : Nat) : Int) := by rw [wrap_i64 (by omega) (by omega)]; simp
    simp only [L44_3, B44_3, hd, cB_true, f3, l3, a1, a2, bind1_some, castInt_int]
    by_cases c1 : ks.getD k 0 < 1
    · have d : decide (ks.getD k 0 < 1) = true := decide_eq_true c1
      simp only [d, cB_true]
      exact To3.some ⟨rfl, .inr ⟨rfl, rfl, fun q => by have := (q k (Nat.le_refl _) hlt).1; omega⟩⟩
    · have d : decide (ks.getD k 0 < 1) = false := decide_eq_false c1
      simp only [d, cB_false]
      by_cases c2 : ks.getD k 0 > 9999
      · have d2 : decide (ks.getD k 0 > 9999) = true := decide_eq_true c2
        simp only [d2, cB_true]
        exact To3.some ⟨rfl, .inr ⟨rfl, rfl, fun q => by have := (q k (Nat.le_refl _) hlt).2; omega⟩⟩
      · have d2 : decide (ks.getD k 0 > 9999) = false := decide_eq_false c2
        simp only [d2, cB_false, hw]
        refine (ih (k + 1) f (by omega) (by omega)).mono ?_
        rintro x vs h' ⟨rfl, ⟨rfl, rfl, q⟩ | ⟨rfl, rfl, q⟩⟩
        · refine ⟨rfl, .inl ⟨rfl, rfl, fun i h1 h2 => ?_⟩⟩
          by_cases e : i = k
          · subst e; unfold kidAt; omega
          · exact q i (by omega) h2
        · exact ⟨rfl, .inr ⟨rfl, rfl, fun q2 => q fun i h1 h2 => q2 i (by omega) h2⟩⟩

def Yes (p : Prop) (v : V) : Prop := (v = .bool true ∧ p) ∨ (v = .bool false ∧ ¬ p)
theorem form43 {lf : Nat} {h : List Ob} {K W D : V} {n : N} (s : NR h K W D n) (sm : small n) (hf : 2000000 < lf) : To2 (F43 lf n.leaf K W D h) fun v h' => Yes (formP n) v ∧ Kp h h' [] := by
  have hb1 := sm.1
  have hb2 := sm.2.1
  have hb3 := sm.2.2.1
  simp only [F43]
  refine To2.bind2 s.box ?_
  rintro p h1 ⟨rfl, st, k1⟩
  have s1 := s.kp k1
  have f0 := st.faddr 0 0 0
  have f1 := st.faddr 1 0 0
  have f2 := st.faddr 2 0 0
  have f3 := st.faddr 3 0 0
  have l0 : er (.load1 (.c (.ptr h.length 0 0))) h1 = some (.bool n.leaf) := st.load1 rfl
  have l1 : er (.load1 (.c (.ptr h.length 0 1))) h1 = some K := st.load1 rfl
  have l2 : er (.load1 (.c (.ptr h.length 0 2))) h1 = some W := st.load1 rfl
  have l3 : er (.load1 (.c (.ptr h.length 0 3))) h1 = some D := st.load1 rfl
  simp only [Nat.zero_add] at f0 f1 f2 f3
  have z : ((0 : Nat) : Int) = 0 := rfl
  have kl := keys43L lf st s1.k hb1 sm.2.2.2.1 n.keys.length 0 lf (by omega) (by omega)
  rw [z] at kl
  simp only [f1, l1, s1.k.len, bind1_some, castInt_int]
  refine To2.bind3 kl ?_
  rintro x vs h2 ⟨hh, ⟨rfl, rfl, q⟩ | ⟨rfl, rfl, q⟩⟩ <;> subst hh
  · have hkeys : keysP n.keys := fun i hi => q i (Nat.zero_le _) hi
    simp only [decide_true, cB_true, castNil_nil, f0, l0, bind1_some, castBool_bool]
    cases hleaf : n.leaf with
    | false =>
      have fP : formP n ↔ 0 < n.keys.length ∧ n.vals = [] ∧ n.kids.length = n.keys.length + 1 ∧ ∀ k, k ∈ n.kids → 1 ≤ k ∧ k < 10000 := by
        unfold formP; rw [hleaf]; simp [hkeys]
      simp only [Bool.not_false, cB_true, f1, l1, f2, l2, f3, l3, s1.k.len, s1.w.len, er_lenL s1.d, iv_length, bind1_some, castInt_int]
      by_cases c1 : 0 < n.keys.length
      · have d1 : decide ((n.keys.length : Int) > 0) = true := decide_eq_true (by omega)
        simp only [d1, cB_true]
        by_cases c2 : n.vals.length = 0
        · have d2 : ((n.vals.length : Int) == 0) = true := by rw [c2]; rfl
          simp only [d2, cB_true]
          have hw : IntKind.i64.wrap ((n.keys.length : Int) + 1) = ((n.keys.length + 1 : Nat) : Int) := by rw [wrap_i64 (by omega) (by omega)]; omega
          by_cases c3 : n.kids.length = n.keys.length + 1
          · have d3 : ((n.kids.length : Int) == IntKind.i64.wrap ((n.keys.length : Int) + 1)) = true := by rw [hw, c3]; simp
            simp only [d3, cB_true]
            refine To2.bind2 (con67 s1.d hb3 (by omega)) ?_
            rintro u h3 ⟨rfl, ⟨rfl, g⟩ | ⟨rfl, g⟩⟩
            · simp only [castBool_bool]
              exact To2.some ⟨.inl ⟨rfl, fP.2 ⟨c1, List.eq_nil_of_length_eq_zero c2, c3, g⟩⟩, k1⟩
            · simp only [castBool_bool]
              exact To2.some ⟨.inr ⟨rfl, fun z => g (fP.1 z).2.2.2⟩, k1⟩
          · have d3 : ((n.kids.length : Int) == IntKind.i64.wrap ((n.keys.length : Int) + 1)) = false := by rw [hw]; exact beq_eq_false_iff_ne.2 (by omega)
            simp only [d3, cB_false]
            exact To2.some ⟨.inr ⟨rfl, fun z => c3 (fP.1 z).2.2.1⟩, k1⟩
        · have d2 : ((n.vals.length : Int) == 0) = false := beq_eq_false_iff_ne.2 (by omega)
          simp only [d2, cB_false]
          exact To2.some ⟨.inr ⟨rfl, fun z => c2 (by rw [(fP.1 z).2.1]; rfl)⟩, k1⟩
      · have d1 : decide ((n.keys.length : Int) > 0) = false := decide_eq_false (by omega)
        simp only [d1, cB_false]
        exact To2.some ⟨.inr ⟨rfl, fun z => c1 (fP.1 z).1⟩, k1⟩
    | true =>
      have fP : formP n ↔ n.kids = [] ∧ n.vals.length = n.keys.length ∧ ∀ i, i < n.vals.length → valAt n i := by
        unfold formP; rw [hleaf]; simp [hkeys, valAt]
      have hS : S43_2 lf (.ptr h.length 0 0) h2 = some (if n.kids.length = 0 ∧ n.vals.length = n.keys.length then (.normal, [], h2) else (.ret, [.bool false], h2)) := by
        simp only [S43_2, f1, l1, f2, l2, f3, l3, s1.k.len, s1.w.len, er_lenL s1.d, iv_length, bind1_some, castInt_int]
        by_cases c1 : n.kids.length = 0
        · have d1 : decide ((n.kids.length : Int) > 0) = false := decide_eq_false (by omega)
          simp only [d1, cB_false]
          by_cases c2 : n.vals.length = n.keys.length
          · simp [c1, c2]
          · have d2 : ((n.vals.length : Int) != (n.keys.length : Int)) = true := by simp; omega
            simp [d2, c1, c2]
        · have d1 : decide ((n.kids.length : Int) > 0) = true := decide_eq_true (by omega)
          simp only [d1, cB_true]
          rw [if_neg (fun q => c1 q.1)]
      simp only [Bool.not_true, cB_false, hS]
      by_cases c : n.kids.length = 0 ∧ n.vals.length = n.keys.length
      · have vl := vals43L lf st s1 sm c.2 n.vals.length 0 lf (by omega) (by omega)
        rw [z] at vl
        simp only [if_pos c, bind3_some, show decide (EX.normal = EX.ret) = false from rfl, decide_true, cB_true, cB_false, castNil_nil, f2, l2, s1.w.len, bind1_some, castInt_int]
        refine To2.bind3 vl ?_
        rintro x vs h3 ⟨rfl, ⟨rfl, rfl, g⟩ | ⟨rfl, rfl, g⟩⟩
        · simp only [decide_true, cB_true, castNil_nil]
          exact To2.some ⟨.inl ⟨rfl, fP.2 ⟨List.eq_nil_of_length_eq_zero c.1, c.2, fun i hi => g i (Nat.zero_le _) hi⟩⟩, k1⟩
        · simp only [show decide (EX.ret = EX.exit 2) = false from rfl, decide_true, cB_true, cB_false, castCons_cons, castBool_bool, castNil_nil]
          exact To2.some ⟨.inr ⟨rfl, fun y => g fun i _ hi => (fP.1 y).2.2 i hi⟩, k1⟩
      · simp only [if_neg c, bind3_some, decide_true, cB_true, castCons_cons, castBool_bool, castNil_nil]
        exact To2.some ⟨.inr ⟨rfl, fun y => c ⟨by rw [(fP.1 y).1]; rfl, (fP.1 y).2.1⟩⟩, k1⟩
  · simp only [show decide (EX.ret = EX.exit 0) = false from rfl, decide_true, cB_true, cB_false, castCons_cons, castBool_bool, castNil_nil]
    exact To2.some ⟨.inr ⟨rfl, fun y => q fun i _ hi => y.1 i hi⟩, k1⟩
theorem form44 {lf : Nat} {h : List Ob} {K W D : V} {n : N} (s : NR h K W D n) (sm : small n) (hf : 2000000 < lf) : To2 (F44 lf n.leaf K W D h) fun v h' => Yes (formP n) v ∧ Kp h h' [] := by
  have hb1 := sm.1
  have hb2 := sm.2.1
  have hb3 := sm.2.2.1
  simp only [F44]
  refine To2.bind2 s.box ?_
  rintro p h1 ⟨rfl, st, k1⟩
  have s1 := s.kp k1
  have f0 := st.faddr 0 0 0
  have f1 := st.faddr 1 0 0
  have f2 := st.faddr 2 0 0
  have f3 := st.faddr 3 0 0
  have l0 : er (.load1 (.c (.ptr h.length 0 0))) h1 = some (.bool n.leaf) := st.load1 rfl
  have l1 : er (.load1 (.c (.ptr h.length 0 1))) h1 = some K := st.load1 rfl
  have l2 : er (.load1 (.c (.ptr h.length 0 2))) h1 = some W := st.load1 rfl
  have l3 : er (.load1 (.c (.ptr h.length 0 3))) h1 = some D := st.load1 rfl
  simp only [Nat.zero_add] at f0 f1 f2 f3
  have z : ((0 : Nat) : Int) = 0 := rfl
  have kl := keys44L lf st s1.k hb1 sm.2.2.2.1 n.keys.length 0 lf (by omega) (by omega)
  rw [z] at kl
  simp only [f1, l1, s1.k.len, bind1_some, castInt_int]
  refine To2.bind3 kl ?_
  rintro x vs h2 ⟨hh, ⟨rfl, rfl, q⟩ | ⟨rfl, rfl, q⟩⟩ <;> subst hh
  · have hkeys : keysP n.keys := fun i hi => q i (Nat.zero_le _) hi
    simp only [decide_true, cB_true, castNil_nil, f0, l0, bind1_some, castBool_bool]
    cases hleaf : n.leaf with
    | false =>
      have fP : formP n ↔ 0 < n.keys.length ∧ n.vals = [] ∧ n.kids.length = n.keys.length + 1 ∧ ∀ k, k ∈ n.kids → 1 ≤ k ∧ k < 10000 := by
        unfold formP; rw [hleaf]; simp [hkeys]
      have dl := kids44L lf st s1.d hb3 n.kids.length 0 lf (by omega) (by omega)
      rw [z] at dl
      simp only [cB_false, f3, l3, er_lenL s1.d, iv_length, bind1_some, castInt_int]
      refine To2.bind3 dl ?_
      rintro x vs h3 ⟨rfl, ⟨rfl, rfl, g⟩ | ⟨rfl, rfl, g⟩⟩
      · have g := kids_all.1 g
        simp only [decide_true, cB_true, castNil_nil, f1, l1, f2, l2, f3, l3, s1.k.len, s1.w.len, er_lenL s1.d, iv_length, bind1_some, castInt_int]
        by_cases c2 : n.vals.length = 0
        · have d2 : ((n.vals.length : Int) == 0) = true := by rw [c2]; rfl
          simp only [d2, cB_true]
          by_cases c1 : 0 < n.keys.length
          · have d1 : decide ((n.keys.length : Int) > 0) = true := decide_eq_true (by omega)
            have hw : IntKind.i64.wrap ((n.keys.length : Int) + 1) = ((n.keys.length + 1 : Nat) : Int) := by rw [wrap_i64 (by omega) (by omega)]; omega
            simp only [d1, cB_true, hw]
            by_cases c3 : n.kids.length = n.keys.length + 1
            · have d3 : ((n.kids.length : Int) == ((n.keys.length + 1 : Nat) : Int)) = true := by rw [c3]; simp
              simp only [d3]
              exact To2.some ⟨.inl ⟨rfl, fP.2 ⟨c1, List.eq_nil_of_length_eq_zero c2, c3, g⟩⟩, k1⟩
            · have d3 : ((n.kids.length : Int) == ((n.keys.length + 1 : Nat) : Int)) = false := beq_eq_false_iff_ne.2 (by omega)
              simp only [d3]
              exact To2.some ⟨.inr ⟨rfl, fun y => c3 (fP.1 y).2.2.1⟩, k1⟩
          · have d1 : decide ((n.keys.length : Int) > 0) = false := decide_eq_false (by omega)
            simp only [d1, cB_false]
            exact To2.some ⟨.inr ⟨rfl, fun y => c1 (fP.1 y).1⟩, k1⟩
        · have d2 : ((n.vals.length : Int) == 0) = false := beq_eq_false_iff_ne.2 (by omega)
          simp only [d2, cB_false]
          exact To2.some ⟨.inr ⟨rfl, fun y => c2 (by rw [(fP.1 y).2.1]; rfl)⟩, k1⟩
      · simp only [show decide (EX.ret = EX.exit 4) = false from rfl, decide_true, cB_true, cB_false, castCons_cons, castBool_bool, castNil_nil]
        exact To2.some ⟨.inr ⟨rfl, fun y => g (kids_all.2 (fP.1 y).2.2.2)⟩, k1⟩
    | true =>
      have fP : formP n ↔ n.kids = [] ∧ n.vals.length = n.keys.length ∧ ∀ i, i < n.vals.length → valAt n i := by
        unfold formP; rw [hleaf]; simp [hkeys, valAt]
      have hS : S44_2 lf (.ptr h.length 0 0) h2 = some (if n.kids.length = 0 ∧ n.vals.length = n.keys.length then (.normal, [], h2) else (.ret, [.bool false], h2)) := by
        simp only [S44_2, f1, l1, f2, l2, f3, l3, s1.k.len, s1.w.len, er_lenL s1.d, iv_length, bind1_some, castInt_int]
        by_cases c1 : n.kids.length = 0
        · have d1 : decide ((n.kids.length : Int) > 0) = false := decide_eq_false (by omega)
          simp only [d1, cB_false]
          by_cases c2 : n.vals.length = n.keys.length
          · simp [c1, c2]
          · have d2 : ((n.vals.length : Int) != (n.keys.length : Int)) = true := by simp; omega
            simp [d2, c1, c2]
        · have d1 : decide ((n.kids.length : Int) > 0) = true := decide_eq_true (by omega)
          simp only [d1, cB_true]
          rw [if_neg (fun q => c1 q.1)]
      simp only [cB_true, hS]
      by_cases c : n.kids.length = 0 ∧ n.vals.length = n.keys.length
      · have vl := vals44L lf st s1 sm c.2 n.vals.length 0 lf (by omega) (by omega)
        rw [z] at vl
        simp only [if_pos c, bind3_some, show decide (EX.normal = EX.ret) = false from rfl, decide_true, cB_true, cB_false, castNil_nil, f2, l2, s1.w.len, bind1_some, castInt_int]
        refine To2.bind3 vl ?_
        rintro x vs h3 ⟨rfl, ⟨rfl, rfl, g⟩ | ⟨rfl, rfl, g⟩⟩
        · simp only [decide_true, cB_true, castNil_nil]
          exact To2.some ⟨.inl ⟨rfl, fP.2 ⟨List.eq_nil_of_length_eq_zero c.1, c.2, fun i hi => g i (Nat.zero_le _) hi⟩⟩, k1⟩
        · simp only [show decide (EX.ret = EX.exit 2) = false from rfl, decide_true, cB_true, cB_false, castCons_cons, castBool_bool, castNil_nil]
          exact To2.some ⟨.inr ⟨rfl, fun y => g fun i _ hi => (fP.1 y).2.2 i hi⟩, k1⟩
      · simp only [if_neg c, bind3_some, decide_true, cB_true, castCons_cons, castBool_bool, castNil_nil]
        exact To2.some ⟨.inr ⟨rfl, fun y => c ⟨by rw [(fP.1 y).1]; rfl, (fP.1 y).2.1⟩⟩, k1⟩
  · simp only [show decide (EX.ret = EX.exit 0) = false from rfl, decide_true, cB_true, cB_false, castCons_cons, castBool_bool, castNil_nil]
    exact To2.some ⟨.inr ⟨rfl, fun y => q fun i _ hi => y.1 i hi⟩, k1⟩
end Go.Proofs.Ytdcdmpgigmhhpaa.Nd
