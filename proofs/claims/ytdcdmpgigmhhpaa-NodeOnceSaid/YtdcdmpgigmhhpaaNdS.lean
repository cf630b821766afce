/- Nodes: encoded, sized, few, found. No condition. -/
import Derived.Test.YtdcdmpgigmhhpaaNdR
namespace Go.Proofs.Ytdcdmpgigmhhpaa.Nd
open Go Go.Proofs.Ytdcdmpgigmhhpaa.E
open Go.Proofs.Ytdcdmpgigmhhpaa.Va Go.Proofs.Ytdcdmpgigmhhpaa.Rc
set_option maxRecDepth 100000
set_option linter.unusedVariables false
set_option linter.unusedSimpArgs false

open Classical in
noncomputable def encN (n : N) : List Int × Int := if formP n then (if (spell n).length > 508 then ([], 14) else (spell n, 0)) else ([], 1)
def EncN (h : List Ob) (n : N) (v : V) (h' : List Ob) : Prop := ∃ x, v = .tup [x, .int .i64 (encN n).2] ∧ New h (bv (encN n).1) x h'
theorem NewNil (h : List Ob) {h' : List Ob} (k : Kp h h' []) : New h (bv []) .nils h' := ⟨Sl.nils _ _, Ap.nils, k, fun j hj => by cases hj⟩
theorem enc41 {lf : Nat} (hf : 2000000 < lf) {h : List Ob} {K W D : V} {n : N} (s : NR h K W D n) (sm : small n) : To2 (F41 lf n.leaf K W D h) (EncN h n) := by
  simp only [F41]
  refine To2.bind2 s.box ?_
  rintro p h1 ⟨rfl, st, k1⟩
  have s1 := s.kp k1
  have lN := st.loadN' (n := 4) rfl
  simp only [lN, nC, bind1_some, castAgg_agg, castCons_cons, castBool_bool, castNil_nil]
  refine To2.bind2 (form43 s1 sm hf) ?_
  rintro u h2 ⟨⟨rfl, fm⟩ | ⟨rfl, fm⟩, k2⟩
  · have st2 := st.kp k2
    have s2 := s1.kp k2
    have lN2 := st2.loadN' (n := 4) rfl
    simp only [castBool_bool, Bool.not_true, cB_false, lN2, nC, bind1_some, castAgg_agg, castCons_cons, castNil_nil]
    refine To2.bind2 (spell65 hf s2 sm fm) ?_
    intro x h3 nx
    have nx := New.after (k1.tr k2) nx
    simp only [er_lenL nx.1, bv_length, bind1_some, castInt_int]
    by_cases c : (spell n).length > 508
    · have d : decide (((spell n).length : Int) > 508) = true := decide_eq_true (by omega)
      have e : encN n = ([], 14) := by unfold encN; rw [if_pos fm, if_pos c]
      simp only [d, cB_true]
      exact To2.some ⟨.nils, by rw [e], by rw [e]; exact NewNil h nx.2.2.1⟩
    · have d : decide (((spell n).length : Int) > 508) = false := decide_eq_false (by omega)
      have e : encN n = (spell n, 0) := by unfold encN; rw [if_pos fm, if_neg c]
      simp only [d, cB_false]
      exact To2.some ⟨x, by rw [e], by rw [e]; exact nx⟩
  · have e : encN n = ([], 1) := by unfold encN; rw [if_neg fm]
    simp only [castBool_bool, Bool.not_false, cB_true]
    exact To2.some ⟨.nils, by rw [e], by rw [e]; exact NewNil h (k1.tr k2)⟩
theorem enc42 {lf : Nat} (hf : 2000000 < lf) {h : List Ob} {K W D : V} {n : N} (s : NR h K W D n) (sm : small n) : To2 (F42 lf n.leaf K W D h) (EncN h n) := by
  simp only [F42]
  refine To2.bind2 s.box ?_
  rintro p h1 ⟨rfl, st, k1⟩
  have s1 := s.kp k1
  have lN := st.loadN' (n := 4) rfl
  simp only [lN, nC, bind1_some, castAgg_agg, castCons_cons, castBool_bool, castNil_nil]
  refine To2.bind2 (form44 s1 sm hf) ?_
  rintro u h2 ⟨⟨rfl, fm⟩ | ⟨rfl, fm⟩, k2⟩
  · have st2 := st.kp k2
    have s2 := s1.kp k2
    have lN2 := st2.loadN' (n := 4) rfl
    simp only [castBool_bool, Bool.not_true, cB_false, lN2, nC, bind1_some, castAgg_agg, castCons_cons, castNil_nil]
    refine To2.bind2 (spell66 hf s2 sm fm) ?_
    intro x h3 nx
    have nx := New.after (k1.tr k2) nx
    simp only [er_lenL nx.1, bv_length, bind1_some, castInt_int]
    by_cases c : (spell n).length > 508
    · have d : decide (((spell n).length : Int) > 508) = true := decide_eq_true (by omega)
      have e : encN n = ([], 14) := by unfold encN; rw [if_pos fm, if_pos c]
      simp only [d, cB_true]
      exact To2.some ⟨.nils, by rw [e], by rw [e]; exact NewNil h nx.2.2.1⟩
    · have d : decide (((spell n).length : Int) > 508) = false := decide_eq_false (by omega)
      have e : encN n = (spell n, 0) := by unfold encN; rw [if_pos fm, if_neg c]
      simp only [d, cB_false]
      exact To2.some ⟨x, by rw [e], by rw [e]; exact nx⟩
  · have e : encN n = ([], 1) := by unfold encN; rw [if_neg fm]
    simp only [castBool_bool, Bool.not_false, cB_true]
    exact To2.some ⟨.nils, by rw [e], by rw [e]; exact NewNil h (k1.tr k2)⟩
open Classical in
noncomputable def sizeN (n : N) : Int := if formP n then (spell n).length else 0
theorem size45 {lf : Nat} (hf : 2000000 < lf) {h : List Ob} {K W D : V} {n : N} (s : NR h K W D n) (sm : small n) : To2 (F45 lf n.leaf K W D h) fun v h' => v = .int .i64 (sizeN n) ∧ Kp h h' [] := by
  simp only [F45]
  refine To2.bind2 s.box ?_
  rintro p h1 ⟨rfl, st, k1⟩
  have s1 := s.kp k1
  have lN := st.loadN' (n := 4) rfl
  simp only [lN, nC, bind1_some, castAgg_agg, castCons_cons, castBool_bool, castNil_nil]
  refine To2.bind2 (form43 s1 sm hf) ?_
  rintro u h2 ⟨⟨rfl, fm⟩ | ⟨rfl, fm⟩, k2⟩
  · have st2 := st.kp k2
    have s2 := s1.kp k2
    have lN2 := st2.loadN' (n := 4) rfl
    simp only [castBool_bool, Bool.not_true, cB_false, lN2, nC, bind1_some, castAgg_agg, castCons_cons, castNil_nil]
    refine To2.bind2 (spell65 hf s2 sm fm) ?_
    intro x h3 nx
    simp only [er_lenL nx.1, bv_length, bind1_some, castInt_int]
    exact To2.some ⟨by unfold sizeN; rw [if_pos fm], (k1.tr k2).tr nx.2.2.1⟩
  · simp only [castBool_bool, Bool.not_false, cB_true]
    exact To2.some ⟨by unfold sizeN; rw [if_neg fm], k1.tr k2⟩
theorem size46 {lf : Nat} (hf : 2000000 < lf) {h : List Ob} {K W D : V} {n : N} (s : NR h K W D n) (sm : small n) : To2 (F46 lf n.leaf K W D h) fun v h' => v = .int .i64 (sizeN n) ∧ Kp h h' [] := by
  simp only [F46]
  refine To2.bind2 s.box ?_
  rintro p h1 ⟨rfl, st, k1⟩
  have s1 := s.kp k1
  have lN := st.loadN' (n := 4) rfl
  simp only [lN, nC, bind1_some, castAgg_agg, castCons_cons, castBool_bool, castNil_nil]
  refine To2.bind2 (form44 s1 sm hf) ?_
  rintro u h2 ⟨⟨rfl, fm⟩ | ⟨rfl, fm⟩, k2⟩
  · have st2 := st.kp k2
    have s2 := s1.kp k2
    have lN2 := st2.loadN' (n := 4) rfl
    simp only [castBool_bool, Bool.not_true, cB_false, lN2, nC, bind1_some, castAgg_agg, castCons_cons, castNil_nil]
    refine To2.bind2 (spell66 hf s2 sm fm) ?_
    intro x h3 nx
    simp only [er_lenL nx.1, bv_length, bind1_some, castInt_int]
    exact To2.some ⟨by unfold sizeN; rw [if_pos fm], (k1.tr k2).tr nx.2.2.1⟩
  · simp only [castBool_bool, Bool.not_false, cB_true]
    exact To2.some ⟨by unfold sizeN; rw [if_neg fm], k1.tr k2⟩

/-! ### Few -/
theorem few33L (lf : Nat) {h : List Ob} {K W D b : V} {id : Nat} {ks : List (List Int)} (st : St h id [b, K, W, D]) (s : SS h K ks) (hl : ks.length ≤ 300) : ∀ (m k f : Nat), ks.length = k + m → m < f →
    To3 (L33_0 lf f (.ptr id 0 0) ks.length k h) fun x vs h' => h' = h ∧ ((x = .exit 0 ∧ vs = [] ∧ ∀ i, k ≤ i → i < ks.length → (ks.getD i []).length ≤ 1000) ∨ (x = .ret ∧ vs = [.bool false])) := by
  have f1 := st.faddr 1 0 0
  have l1 : er (.load1 (.c (.ptr id 0 1))) h = some K := st.load1 rfl
  simp only [Nat.zero_add] at f1
  intro m
  induction m with
  | zero =>
    intro k f hk hf
    obtain ⟨f, rfl⟩ : ∃ g, f = g + 1 := ⟨f - 1, by omega⟩
    have hd : decide ((k : Int) < (ks.length : Int)) = false := decide_eq_false (by omega)
    simp only [L33_0, B33_0, hd, cB_false]
    exact To3.some ⟨rfl, .inl ⟨rfl, rfl, fun i h1 h2 => by omega⟩⟩
  | succ m ih =>
    intro k f hk hf
    obtain ⟨f, rfl⟩ : ∃ g, f = g + 1 := ⟨f - 1, by omega⟩
    have hlt : k < ks.length := by omega
    have hd : decide ((k : Int) < (ks.length : Int)) = true := decide_eq_true (by omega)
    obtain ⟨a, e, a1, a2, se⟩ := s.at_ (k := (k : Int)) rfl hlt
    have hw : IntKind.i64.wrap ((k : Int) + 1) = ((k + 1 : Nat) : Int) := by rw [wrap_i64 (by omega) (by omega)]; simp
    simp only [L33_0, B33_0, hd, cB_true, f1, l1, a1, a2, er_lenL se, bv_length, bind1_some, castInt_int]
    by_cases c : (ks.getD k []).length > 1000
    · have d : decide (((ks.getD k []).length : Int) > 1000) = true := decide_eq_true (by omega)
      simp only [d, cB_true]
      exact To3.some ⟨rfl, .inr ⟨rfl, rfl⟩⟩
    · have d : decide (((ks.getD k []).length : Int) > 1000) = false := decide_eq_false (by omega)
      simp only [d, cB_false, hw]
      refine (ih (k + 1) f (by omega) (by omega)).mono ?_
      rintro x vs h' ⟨rfl, ⟨rfl, rfl, q⟩ | ⟨rfl, rfl⟩⟩
      · refine ⟨rfl, .inl ⟨rfl, rfl, fun i h1 h2 => ?_⟩⟩
        by_cases e : i = k
        · subst e; omega
        · exact q i (by omega) h2
      · exact ⟨rfl, .inr ⟨rfl, rfl⟩⟩
theorem few33M (lf : Nat) {h : List Ob} {K W D b : V} {id : Nat} {ks : List (List Int)} (st : St h id [b, K, W, D]) (s : SS h W ks) (hl : ks.length ≤ 300) : ∀ (m k f : Nat), ks.length = k + m → m < f →
    To3 (L33_1 lf f (.ptr id 0 0) ks.length k h) fun x vs h' => h' = h ∧ ((x = .exit 2 ∧ vs = [] ∧ ∀ i, k ≤ i → i < ks.length → (ks.getD i []).length ≤ 1000) ∨ (x = .ret ∧ vs = [.bool false])) := by
  have f1 := st.faddr 2 0 0
  have l1 : er (.load1 (.c (.ptr id 0 2))) h = some W := st.load1 rfl
  simp only [Nat.zero_add] at f1
  intro m
  induction m with
  | zero =>
    intro k f hk hf
    obtain ⟨f, rfl⟩ : ∃ g, f = g + 1 := ⟨f - 1, by omega⟩
    have hd : decide ((k : Int) < (ks.length : Int)) = false := decide_eq_false (by omega)
    simp only [L33_1, B33_1, hd, cB_false]
    exact To3.some ⟨rfl, .inl ⟨rfl, rfl, fun i h1 h2 => by omega⟩⟩
  | succ m ih =>
    intro k f hk hf
    obtain ⟨f, rfl⟩ : ∃ g, f = g + 1 := ⟨f - 1, by omega⟩
    have hlt : k < ks.length := by omega
    have hd : decide ((k : Int) < (ks.length : Int)) = true := decide_eq_true (by omega)
    obtain ⟨a, e, a1, a2, se⟩ := s.at_ (k := (k : Int)) rfl hlt
    have hw : IntKind.i64.wrap ((k : Int) + 1) = ((k + 1 : Nat) : Int) := by rw [wrap_i64 (by omega) (by omega)]; simp
    simp only [L33_1, B33_1, hd, cB_true, f1, l1, a1, a2, er_lenL se, bv_length, bind1_some, castInt_int]
    by_cases c : (ks.getD k []).length > 1000
    · have d : decide (((ks.getD k []).length : Int) > 1000) = true := decide_eq_true (by omega)
      simp only [d, cB_true]
      exact To3.some ⟨rfl, .inr ⟨rfl, rfl⟩⟩
    · have d : decide (((ks.getD k []).length : Int) > 1000) = false := decide_eq_false (by omega)
      simp only [d, cB_false, hw]
      refine (ih (k + 1) f (by omega) (by omega)).mono ?_
      rintro x vs h' ⟨rfl, ⟨rfl, rfl, q⟩ | ⟨rfl, rfl⟩⟩
      · refine ⟨rfl, .inl ⟨rfl, rfl, fun i h1 h2 => ?_⟩⟩
        by_cases e : i = k
        · subst e; omega
        · exact q i (by omega) h2
      · exact ⟨rfl, .inr ⟨rfl, rfl⟩⟩
theorem len_all {ks : List (List Int)} (h : ∀ i, 0 ≤ i → i < ks.length → (ks.getD i []).length ≤ 1000) : ∀ k, k ∈ ks → k.length ≤ 1000 := by
  intro k hk
  obtain ⟨i, hi, rfl⟩ := List.getElem_of_mem hk
  have := h i (Nat.zero_le _) hi
  rwa [getD_eq hi] at this
theorem few33 {lf : Nat} (hf : 1000 < lf) {h : List Ob} {K W D : V} {n : N} (s : NR h K W D n) : To2 (F33 lf n.leaf K W D h) fun v h' => Kp h h' [] ∧ ((v = .bool true ∧ (n.keys.length ≤ 300 ∧ n.vals.length ≤ 300 ∧ n.kids.length ≤ 300 ∧ (∀ k, k ∈ n.keys → k.length ≤ 1000) ∧ ∀ k, k ∈ n.vals → k.length ≤ 1000)) ∨ v = .bool false) := by
  simp only [F33]
  refine To2.bind2 s.box ?_
  rintro p h1 ⟨rfl, st, k1⟩
  have s1 := s.kp k1
  have f1 := st.faddr 1 0 0
  have f2 := st.faddr 2 0 0
  have f3 := st.faddr 3 0 0
  have l1 : er (.load1 (.c (.ptr h.length 0 1))) h1 = some K := st.load1 rfl
  have l2 : er (.load1 (.c (.ptr h.length 0 2))) h1 = some W := st.load1 rfl
  have l3 : er (.load1 (.c (.ptr h.length 0 3))) h1 = some D := st.load1 rfl
  simp only [Nat.zero_add] at f1 f2 f3
  have z : ((0 : Nat) : Int) = 0 := rfl
  have hS : S33_2 lf (.ptr h.length 0 0) h1 = some (if n.keys.length ≤ 300 ∧ n.vals.length ≤ 300 ∧ n.kids.length ≤ 300 then (.normal, [], h1) else (.ret, [.bool false], h1)) := by
    simp only [S33_2, f1, l1, f2, l2, f3, l3, s1.k.len, s1.w.len, er_lenL s1.d, iv_length, bind1_some, castInt_int]
    by_cases c1 : n.keys.length ≤ 300
    · have d1 : decide ((n.keys.length : Int) > 300) = false := decide_eq_false (by omega)
      simp only [d1, cB_false]
      by_cases c2 : n.vals.length ≤ 300
      · have d2 : decide ((n.vals.length : Int) > 300) = false := decide_eq_false (by omega)
        simp only [d2, cB_false]
        by_cases c3 : n.kids.length ≤ 300
        · have d3 : decide ((n.kids.length : Int) > 300) = false := decide_eq_false (by omega)
          simp only [d3, cB_false]
          rw [if_pos ⟨c1, c2, c3⟩]
        · have d3 : decide ((n.kids.length : Int) > 300) = true := decide_eq_true (by omega)
          simp only [d3, cB_true]
          rw [if_neg (fun q => c3 q.2.2)]
      · have d2 : decide ((n.vals.length : Int) > 300) = true := decide_eq_true (by omega)
        simp only [d2, cB_true]
        rw [if_neg (fun q => c2 q.2.1)]
    · have d1 : decide ((n.keys.length : Int) > 300) = true := decide_eq_true (by omega)
      simp only [d1, cB_true]
      rw [if_neg (fun q => c1 q.1)]
  simp only [hS]
  by_cases c : n.keys.length ≤ 300 ∧ n.vals.length ≤ 300 ∧ n.kids.length ≤ 300
  · have q1 := few33L lf st s1.k c.1 n.keys.length 0 lf (by omega) (by omega)
    have q2 := few33M lf st s1.w c.2.1 n.vals.length 0 lf (by omega) (by omega)
    rw [z] at q1 q2
    simp only [if_pos c, bind3_some, show decide (EX.normal = EX.ret) = false from rfl, decide_true, cB_true, cB_false, castNil_nil, f1, l1, s1.k.len, bind1_some, castInt_int]
    refine To2.bind3 q1 ?_
    rintro x vs h2 ⟨hh, ⟨rfl, rfl, g1⟩ | ⟨rfl, rfl⟩⟩ <;> subst hh
    · simp only [decide_true, cB_true, castNil_nil, f2, l2, s1.w.len, bind1_some, castInt_int]
      refine To2.bind3 q2 ?_
      rintro x vs h3 ⟨hh, ⟨rfl, rfl, g2⟩ | ⟨rfl, rfl⟩⟩ <;> subst hh
      · simp only [decide_true, cB_true, castNil_nil]
        exact To2.some ⟨k1, .inl ⟨rfl, c.1, c.2.1, c.2.2, len_all g1, len_all g2⟩⟩
      · simp only [show decide (EX.ret = EX.exit 2) = false from rfl, decide_true, cB_true, cB_false, castCons_cons, castBool_bool, castNil_nil]
        exact To2.some ⟨k1, .inr rfl⟩
    · simp only [show decide (EX.ret = EX.exit 0) = false from rfl, decide_true, cB_true, cB_false, castCons_cons, castBool_bool, castNil_nil]
      exact To2.some ⟨k1, .inr rfl⟩
  · simp only [if_neg c, bind3_some, decide_true, cB_true, castCons_cons, castBool_bool, castNil_nil]
    exact To2.some ⟨k1, .inr rfl⟩
theorem nil_NR (h : List Ob) (b : Bool) : NR h .nils .nils .nils ⟨b, [], [], []⟩ :=
  ⟨⟨[], Sl.nils _ _, rfl, fun i hi => by simp at hi⟩, ⟨[], Sl.nils _ _, rfl, fun i hi => by simp at hi⟩, Sl.nils _ _, ⟨rfl, rfl⟩, ⟨rfl, rfl⟩, ⟨rfl, rfl⟩⟩
theorem awake32 {lf : Nat} (hf : 2000000 < lf) {h : List Ob} : To2 (F32 lf h) fun v h' => v = .bool true ∧ Kp h h' [] := by
  have eb : er (.build [.bool false, .nils, .nils, .nils] [(0, (1, .c (.bool true)))]) h = some (.agg [.bool true, .nils, .nils, .nils]) := rfl
  simp only [F32, eb, bind1_some, castAgg_agg, castCons_cons, castBool_bool, castNil_nil]
  have fm : formP ⟨true, [], [], []⟩ := ⟨fun i hi => by simp at hi, by simp⟩
  have sp : spell ⟨true, [], [], []⟩ = [1, 0] := by decide
  have e : encN ⟨true, [], [], []⟩ = ([1, 0], 0) := by
    unfold encN; rw [if_pos fm, sp, if_neg (by decide)]
  refine To2.bind2 (enc41 hf (nil_NR h true) ⟨by simp, by simp, by simp, by simp, by simp⟩) ?_
  rintro v h1 ⟨x, rfl, nx⟩
  rw [e] at nx
  simp only [e, castTup_tup, castCons_cons, castInt_int, castNil_nil, beq_self_eq_true, cB_true, er_toStr nx.1, bind1_some, castStr_str]
  exact To2.some ⟨rfl, nx.2.2.1⟩

/-! ### Find -/
def cnt (key : List Int) : List (List Int) → Nat
  | [] => 0
  | k :: ks => (if less k key = true then 1 else 0) + cnt key ks
theorem cnt_le (key : List Int) : ∀ ks, cnt key ks ≤ ks.length
  | [] => by simp [cnt]
  | k :: ks => by
    have := cnt_le key ks
    simp only [cnt, List.length_cons]; split <;> omega
theorem find34L (lf : Nat) {h : List Ob} {K y : V} {ks : List (List Int)} {key : List Int} (s : SS h K ks) (sy : Sl 1 h y (bv key)) (hl : ks.length ≤ 1000000) : ∀ (m k f c : Nat), ks.length = k + m → m < f → c ≤ 1000000000 - m →
    L34_0 lf f y c K ks.length k h = some (.exit 0, [.int .i64 ((c + cnt key (ks.drop k) : Nat) : Int)], h) := by
  intro m
  induction m with
  | zero =>
    intro k f c hk hf hc
    obtain ⟨f, rfl⟩ : ∃ g, f = g + 1 := ⟨f - 1, by omega⟩
    have e : ks.drop k = [] := List.drop_of_length_le (by omega)
    have hd : decide ((k : Int) < (ks.length : Int)) = false := decide_eq_false (by omega)
    simp only [L34_0, B34_0, hd, cB_false, e, cnt, Nat.add_zero]
  | succ m ih =>
    intro k f c hk hf hc
    obtain ⟨f, rfl⟩ : ∃ g, f = g + 1 := ⟨f - 1, by omega⟩
    have hlt : k < ks.length := by omega
    have hd : decide ((k : Int) < (ks.length : Int)) = true := decide_eq_true (by omega)
    obtain ⟨a, e, a1, a2, se⟩ := s.at_ (k := (k : Int)) rfl hlt
    have hw : IntKind.i64.wrap ((k : Int) + 1) = ((k + 1 : Nat) : Int) := by rw [wrap_i64 (by omega) (by omega)]; simp
    have hw2 : IntKind.i64.wrap ((c : Int) + 1) = ((c + 1 : Nat) : Int) := by rw [wrap_i64 (by omega) (by omega)]; simp
    simp only [L34_0, B34_0, hd, cB_true, a1, a2, cmp56 se sy, bind1_some, bind2_some, castInt_int, (cmp_less _ _).1, hw, hw2]
    rw [List.drop_eq_getElem_cons hlt, getD_eq hlt]
    by_cases q : less ks[k] key = true
    · have q' : Op.bytesLess (by8 ks[k]) (by8 key) = true := q
      simp only [q', cB_true, cnt, q, if_true]
      rw [ih (k + 1) f (c + 1) (by omega) (by omega) (by omega)]
      have : c + 1 + cnt key (ks.drop (k + 1)) = c + (1 + cnt key (ks.drop (k + 1))) := by omega
      rw [this]
    · have q' : Op.bytesLess (by8 ks[k]) (by8 key) = false := by simpa [less] using q
      simp only [q', cB_false, cnt, q]
      rw [ih (k + 1) f c (by omega) (by omega) (by omega)]
      simp
theorem find35L (lf : Nat) {h : List Ob} {K W D b y : V} {id : Nat} {ks : List (List Int)} {key : List Int} (st : St h id [b, K, W, D]) (s : SS h K ks) (sy : Sl 1 h y (bv key)) (hl : ks.length ≤ 1000000) : ∀ (m k f c : Nat), ks.length = k + m → m < f → c ≤ 1000000000 - m →
    L35_0 lf f y (.ptr id 0 0) c ks.length k h = some (.exit 0, [.int .i64 ((c + cnt key (ks.drop k) : Nat) : Int)], h) := by
  have f1 := st.faddr 1 0 0
  have l1 : er (.load1 (.c (.ptr id 0 1))) h = some K := st.load1 rfl
  simp only [Nat.zero_add] at f1
  intro m
  induction m with
  | zero =>
    intro k f c hk hf hc
    obtain ⟨f, rfl⟩ : ∃ g, f = g + 1 := ⟨f - 1, by omega⟩
    have e : ks.drop k = [] := List.drop_of_length_le (by omega)
    have hd : decide ((k : Int) < (ks.length : Int)) = false := decide_eq_false (by omega)
    simp only [L35_0, B35_0, hd, cB_false, e, cnt, Nat.add_zero]
  | succ m ih =>
    intro k f c hk hf hc
    obtain ⟨f, rfl⟩ : ∃ g, f = g + 1 := ⟨f - 1, by omega⟩
    have hlt : k < ks.length := by omega
    have hd : decide ((k : Int) < (ks.length : Int)) = true := decide_eq_true (by omega)
    obtain ⟨a, e, a1, a2, se⟩ := s.at_ (k := (k : Int)) rfl hlt
    have hw : IntKind.i64.wrap ((k : Int) + 1) = ((k + 1 : Nat) : Int) := by rw [wrap_i64 (by omega) (by omega)]; simp
    have hw2 : IntKind.i64.wrap ((c : Int) + 1) = ((c + 1 : Nat) : Int) := by rw [wrap_i64 (by omega) (by omega)]; simp
    simp only [L35_0, B35_0, hd, cB_true, f1, l1, a1, a2, er_toStr se, er_toStr sy, bind1_some, castStr_str, hw, hw2]
    rw [List.drop_eq_getElem_cons hlt, getD_eq hlt]
    by_cases q : less ks[k] key = true
    · have q' : Op.bytesLess (by8 ks[k]) (by8 key) = true := q
      simp only [q', cB_true, cnt, q, if_true]
      rw [ih (k + 1) f (c + 1) (by omega) (by omega) (by omega)]
      have : c + 1 + cnt key (ks.drop (k + 1)) = c + (1 + cnt key (ks.drop (k + 1))) := by omega
      rw [this]
    · have q' : Op.bytesLess (by8 ks[k]) (by8 key) = false := by simpa [less] using q
      simp only [q', cB_false, cnt, q]
      rw [ih (k + 1) f c (by omega) (by omega) (by omega)]
      simp
def findR (key : List Int) (ks : List (List Int)) : V := .tup [.int .i64 ((cnt key ks : Nat) : Int), .bool (decide (cnt key ks < ks.length) && (by8 (ks.getD (cnt key ks) []) == by8 key))]
theorem find34 {lf : Nat} (hf : 2000000 < lf) {h : List Ob} {K W D y : V} {n : N} {key : List Int} (s : NR h K W D n) (sm : small n) (sy : Sl 1 h y (bv key)) : To2 (F34 lf n.leaf K W D y h) fun v h' => v = findR key n.keys ∧ Kp h h' [] := by
  have hb1 := sm.1
  simp only [F34]
  refine To2.bind2 s.box ?_
  rintro p h1 ⟨rfl, st, k1⟩
  have s1 := s.kp k1
  have f1 := st.faddr 1 0 0
  have l1 : er (.load1 (.c (.ptr h.length 0 1))) h1 = some K := st.load1 rfl
  simp only [Nat.zero_add] at f1
  have e := find34L lf s1.k (sy.kp k1) hb1 n.keys.length 0 lf 0 (by omega) (by omega) (by omega)
  have z : ((0 : Nat) : Int) = 0 := rfl
  rw [z, List.drop_zero, Nat.zero_add] at e
  simp only [f1, l1, s1.k.len, bind1_some, castInt_int, e, bind3_some, decide_true, cB_true, castCons_cons, castNil_nil]
  by_cases c : cnt key n.keys < n.keys.length
  · have d : decide (((cnt key n.keys : Nat) : Int) < (n.keys.length : Int)) = true := decide_eq_true (by omega)
    obtain ⟨a, e', a1, a2, se⟩ := s1.k.at_ (k := ((cnt key n.keys : Nat) : Int)) rfl c
    simp only [d, cB_true, a1, a2, bind1_some, F57, er_toStr se, er_toStr (sy.kp k1), castStr_str, bind2_some, castBool_bool]
    refine To2.some ⟨?_, k1⟩
    simp [findR, c]
  · have d : decide (((cnt key n.keys : Nat) : Int) < (n.keys.length : Int)) = false := decide_eq_false (by omega)
    simp only [d, cB_false]
    refine To2.some ⟨?_, k1⟩
    simp [findR, c]
theorem find35 {lf : Nat} (hf : 2000000 < lf) {h : List Ob} {K W D y : V} {n : N} {key : List Int} (s : NR h K W D n) (sm : small n) (sy : Sl 1 h y (bv key)) : To2 (F35 lf n.leaf K W D y h) fun v h' => v = findR key n.keys ∧ Kp h h' [] := by
  have hb1 := sm.1
  simp only [F35]
  refine To2.bind2 s.box ?_
  rintro p h1 ⟨rfl, st, k1⟩
  have s1 := s.kp k1
  have f1 := st.faddr 1 0 0
  have l1 : er (.load1 (.c (.ptr h.length 0 1))) h1 = some K := st.load1 rfl
  simp only [Nat.zero_add] at f1
  have e := find35L lf st s1.k (sy.kp k1) hb1 n.keys.length 0 lf 0 (by omega) (by omega) (by omega)
  have z : ((0 : Nat) : Int) = 0 := rfl
  rw [z, List.drop_zero, Nat.zero_add] at e
  simp only [f1, l1, s1.k.len, bind1_some, castInt_int, e, bind3_some, decide_true, cB_true, castCons_cons, castNil_nil]
  by_cases c : cnt key n.keys < n.keys.length
  · have d : decide (((cnt key n.keys : Nat) : Int) < (n.keys.length : Int)) = true := decide_eq_true (by omega)
    obtain ⟨a, e', a1, a2, se⟩ := s1.k.at_ (k := ((cnt key n.keys : Nat) : Int)) rfl c
    simp only [d, cB_true, a1, a2, bind1_some, er_toStr se, er_toStr (sy.kp k1), castStr_str]
    refine To2.some ⟨?_, k1⟩
    simp [findR, c]
  · have d : decide (((cnt key n.keys : Nat) : Int) < (n.keys.length : Int)) = false := decide_eq_false (by omega)
    simp only [d, cB_false]
    refine To2.some ⟨?_, k1⟩
    simp [findR, c]

/-! ### A claim's node -/
theorem elems_lists {H : Type} {P : Program} {e b : TypeId} (he : P.underlying e = some (.slice b)) (hb : P.underlying b = some (.int .u8)) : ∀ {ds : List (DataW H)} {es : List V}, dVs P ds e = some es → ∃ ks : List (List Int), es.length = ks.length ∧ (∀ k, k ∈ ks → Byt k) ∧ ∀ (i : Nat) (hi : i < ks.length), ∃ v, es[i]? = some v ∧ ∀ h, Sl 1 h v (bv ks[i])
  | [], es, h => by simp [dVs] at h; subst h; exact ⟨[], rfl, (fun k hk => by cases hk), fun i hi => by simp at hi⟩
  | d :: ds, es, h => by
    simp only [dVs] at h
    split at h
    · rename_i cs es' h1 h2
      injection h with h; subst h
      obtain ⟨ks, q1, q2, q3⟩ := elems_lists he hb h2
      obtain ⟨v, ms, rfl, sv, -, hm, -, -⟩ := dV_bytes he hb h1
      have hag : isAggT P e = false := by simp [isAggT, he]
      refine ⟨ms :: ks, by simp [q1], fun k hk => ?_, fun i hi => ?_⟩
      · rcases List.mem_cons.1 hk with rfl | hk
        · exact hm
        · exact q2 k hk
      · cases i with
        | zero => exact ⟨v, by simp [elemV, hag], sv⟩
        | succ i =>
          obtain ⟨v', e1, e2⟩ := q3 i (by simpa using hi)
          exact ⟨v', by simpa using e1, e2⟩
    · cases h
theorem dV_lists {H : Type} {P : Program} {d : DataW H} {t e b : TypeId} {vs : List V} (hu : P.underlying t = some (.slice e)) (he : P.underlying e = some (.slice b)) (hb : P.underlying b = some (.int .u8)) (h : dV P d t = some vs) :
    ∃ v ks, vs = [v] ∧ (∀ h, SS h v ks) ∧ (∀ k, k ∈ ks → Byt k) ∧ v.cells = [v] ∧ v.scalar = true := by
  rcases dV_slice' hu h with rfl | ⟨elems, sp, es, rfl, h1, rfl, h2⟩
  · exact ⟨_, [], rfl, fun h => ⟨[], Sl.nils 1 h, rfl, fun i hi => by simp at hi⟩, (fun k hk => by cases hk), rfl, rfl⟩
  · obtain ⟨ks, q1, q2, q3⟩ := elems_lists he hb h1
    refine ⟨_, ks, rfl, fun h => ⟨es, Sl.sl ?_, q1, fun i hi => ?_⟩, q2, rfl, rfl⟩
    · unfold headOk
      cases es with
      | nil => rfl
      | cons x xs =>
        obtain ⟨v, e1, e2⟩ := q3 0 (by rw [← q1]; simp)
        simp only [List.getElem?_cons_zero, Option.some.injEq] at e1
        subst e1
        have := (e2 []).cells
        simp [this]
    · obtain ⟨v, e1, e2⟩ := q3 i hi
      exact ⟨v, e1, e2 h⟩
theorem elems_ints {H : Type} {P : Program} {e : TypeId} (he : P.underlying e = some (.int .i64)) : ∀ {ds : List (DataW H)} {es : List V}, dVs P ds e = some es → ∃ ms, es = iv ms
  | [], es, h => by simp [dVs] at h; subst h; exact ⟨[], rfl⟩
  | d :: ds, es, h => by
    simp only [dVs] at h
    split at h
    · rename_i cs es' h1 h2
      injection h with h; subst h
      obtain ⟨ms, rfl⟩ := elems_ints he h2
      obtain ⟨n, rfl, _⟩ := dV_i64 he h1
      have hag : isAggT P e = false := by simp [isAggT, he]
      exact ⟨n :: ms, by simp [elemV, hag, iv]⟩
    · cases h
theorem dV_ints {H : Type} {P : Program} {d : DataW H} {t e : TypeId} {vs : List V} (hu : P.underlying t = some (.slice e)) (he : P.underlying e = some (.int .i64)) (h : dV P d t = some vs) :
    ∃ v ms, vs = [v] ∧ (∀ h, Sl 1 h v (iv ms)) := by
  rcases dV_slice' hu h with rfl | ⟨elems, sp, es, rfl, h1, rfl, h2⟩
  · exact ⟨_, [], rfl, fun h => Sl.nils 1 h⟩
  · obtain ⟨ms, rfl⟩ := elems_ints he h1
    exact ⟨_, ms, rfl, fun h => Sl.sl (by cases ms <;> rfl)⟩
theorem dV_node {H : Type} {P : Program} {d : DataW H} {t t0 t1 t2 t3 e b i : TypeId} {fs : Array Field} {vs : List V} (hu : P.underlying t = some (.struct fs)) (hfs : fs.toList.map (·.type) = [t0, t1, t2, t3])
    (h0 : P.underlying t0 = some .bool) (h1 : P.underlying t1 = some (.slice e)) (h2 : P.underlying t2 = some (.slice e)) (h3 : P.underlying t3 = some (.slice i)) (he : P.underlying e = some (.slice b)) (hb : P.underlying b = some (.int .u8)) (hi : P.underlying i = some (.int .i64)) (h : dV P d t = some vs) :
    ∃ n K W D, vs = nC n K W D ∧ (∀ h, NR h K W D n) ∧ (∀ k, k ∈ n.keys → Byt k) ∧ (∀ k, k ∈ n.vals → Byt k) := by
  obtain ⟨ps, rfl, q0⟩ := dV_struct hu h
  match hl : fs.toList, hfs with
  | [f0, f1, f2, f3], hfs =>
    simp only [List.map_cons, List.map_nil, List.cons.injEq, and_true] at hfs
    obtain ⟨rfl, rfl, rfl, rfl⟩ := hfs
    rw [hl] at q0
    obtain ⟨d0, ps0, a0, b0, rfl, g0, q1, rfl⟩ := dVf_cons q0
    obtain ⟨d1, ps1, a1, b1, rfl, g1, q2, rfl⟩ := dVf_cons q1
    obtain ⟨d2, ps2, a2, b2, rfl, g2, q3, rfl⟩ := dVf_cons q2
    obtain ⟨d3, ps3, a3, b3, rfl, g3, q4, rfl⟩ := dVf_cons q3
    obtain ⟨rfl, rfl⟩ := dVf_nil q4
    obtain ⟨l, rfl⟩ := dV_bool h0 g0
    obtain ⟨K, ks, rfl, sk, bk, c1, c2⟩ := dV_lists h1 he hb g1
    obtain ⟨W, ws, rfl, sw, bw, c3, c4⟩ := dV_lists h2 he hb g2
    obtain ⟨D, ms, rfl, sd⟩ := dV_ints h3 hi g3
    exact ⟨⟨l, ks, ws, ms⟩, K, W, D, rfl, fun h => ⟨sk h, sw h, sd h, ⟨c1, c2⟩, ⟨c3, c4⟩, (sd h).sc⟩, bk, bw⟩
  | [], hfs => simp at hfs
  | [_], hfs => simp at hfs
  | [_, _], hfs => simp at hfs
  | [_, _, _], hfs => simp at hfs
  | _ :: _ :: _ :: _ :: _ :: _, hfs => simp at hfs
end Go.Proofs.Ytdcdmpgigmhhpaa.Nd
