/- A journal read back: the law's answer for every input. No condition. -/
import Derived.Test.YtdcdmpgigmhhpaaJbT
namespace Go.Proofs.Ytdcdmpgigmhhpaa.Jb
open Go Go.Proofs.Ytdcdmpgigmhhpaa.E
open Go.Proofs.Ytdcdmpgigmhhpaa.Jw
set_option maxRecDepth 100000
set_option linter.unusedVariables false
set_option linter.unusedSimpArgs false

theorem er_rem {h : List Ob} {a b : Int} (ha : 0 ≤ a) (hb : 0 < b) : er (.bin .rem (.c (.int .i64 a)) (.c (.int .i64 b))) h = some (.int .i64 (a % b)) := by
  have q : ¬ b = 0 := by omega
  simp only [er, ev, evOq, x_bin, getC, evBin, evInt, if_neg q, if_true, Option.map_some, Int.tmod_eq_emod_of_nonneg ha]

def HdI (X : List Int) (s p m : Int) : Prop := (X = headB s p m ∧ 0 ≤ s ∧ s < 18446744073709551616 ∧ 0 ≤ p ∧ p ≤ 10000 ∧ 0 ≤ m ∧ m ≤ 10000) ∨ (X.length = 64 ∧ by8 (X.take 8) ≠ by8 magic ∧ s = 0 ∧ p = 0 ∧ m = -1)
theorem HdI.len {X : List Int} {s p m : Int} (q : HdI X s p m) : X.length = 64 := by
  rcases q with ⟨rfl, -⟩ | ⟨q, -⟩
  · simp
  · exact q
theorem HdI.to {lf : Nat} (hf : 1000 < lf) {X rest : List Int} {s p m : Int} (q : HdI X s p m) {h : List Ob} {b : V} (sb : Sl 1 h b (bv (X ++ rest))) : To2 (F76 lf b h) (HdQ h s p m) := by
  have hl := q.len
  rcases q with ⟨rfl, a, b, c, d, e, f⟩ | ⟨h1, h2, rfl, rfl, rfl⟩
  · exact head76_yes hf sb a b c d e f
  · exact head76_no sb (by simp; omega) (by rw [List.take_append_of_le_length (by omega)]; exact h2)
/-- Records. -/
def recsF (salt : Int) (l : List Pt) (n : Nat) : List Int := (List.range n).flatMap fun i => recB salt (nmL l i) (pgL l i)
theorem rec_len (salt : Int) (l : List Pt) (i : Nat) : (recB salt (nmL l i) (pgL l i)).length = 576 := recB_len (by simp [pgL])
theorem recsF_succ (salt : Int) (l : List Pt) (n : Nat) : recsF salt l (n + 1) = recsF salt l n ++ recB salt (nmL l n) (pgL l n) := by
  simp [recsF, List.range_succ]
theorem recsF_len (salt : Int) (l : List Pt) : ∀ n, (recsF salt l n).length = n * 576
  | 0 => by simp [recsF]
  | n + 1 => by rw [recsF_succ, List.length_append, recsF_len salt l n, rec_len]; omega
theorem recsF_at (salt : Int) (l : List Pt) : ∀ (n i : Nat) (rest : List Int), i < n → ((recsF salt l n ++ rest).drop (i * 576)).take 576 = recB salt (nmL l i) (pgL l i)
  | n + 1, i, rest, h => by
    rw [recsF_succ, List.append_assoc]
    by_cases q : i < n
    · exact recsF_at salt l n i _ q
    · have : i = n := by omega
      subst this
      rw [List.drop_left' (recsF_len salt l i), List.take_left' (rec_len salt l i)]
theorem recs_in {X Y rest : List Int} (hx : X.length = 64) (hy : Y.length = 64) (salt : Int) (l : List Pt) {n i : Nat} (h : i < n) : ((X ++ (Y ++ (recsF salt l n ++ rest))).drop (128 + i * 576)).take 576 = recB salt (nmL l i) (pgL l i) := by
  rw [← List.drop_drop, ← List.append_assoc, List.drop_left' (by simp [hx, hy])]
  exact recsF_at salt l n i rest h
theorem readX {lf : Nat} (hf : 1000 < lf) {h : List Ob} {b list : V} {X Y rest : List Int} {l : List Pt} {s1 p1 m1 s2 p2 m2 salt p : Int} {n many : Nat} (hX : HdI X s1 p1 m1) (hY : HdI Y s2 p2 m2) (s : Sl 1 h b (bv (X ++ (Y ++ (recsF salt l n ++ rest))))) (h0 : 0 ≤ salt) (h1 : salt < 18446744073709551616) (L : Ls list l)
    (hs : pickH (s1, p1, m1) (s2, p2, m2) = (salt, p, (many : Int))) (hn : n ≤ 12) (hm : many ≤ n) (hml : n ≤ l.length) (hl2 : rest.length ≤ 100000) :
    To2 (F31 lf b salt p list many h) fun v h' => v = .bool true ∧ Kp h h' [] := by
  have lx := hX.len
  have ly := hY.len
  have lr := recsF_len salt l n
  refine read31 hf s h0 h1 L (fun hh k => hX.to hf (s.kp k)) (fun hh y k sy => hY.to hf (rest := recsF salt l n ++ rest) (by rw [List.drop_left' lx] at sy; exact sy)) hs (by omega) (by omega) ?_ ?_ (fun i hi => recs_in lx ly salt l (by omega))
  · simp only [List.length_append]; omega
  · simp only [List.length_append]; omega

/-- Two slices, one behind the other, in a row of their own. -/
theorem two_to {h : List Ob} {x y : V} {X Y : List Int} (sx : Sl 1 h x (bv X)) (sy : Sl 1 h y (bv Y)) (hX : X.length ≤ 10000) (hY : Y.length ≤ 10000) :
    ∃ a h1 b h2 c h3, ev (.bslice 1 (.int .u8 0) 0 []) h = some (a, h1) ∧ ev (.app 1 1 (.c a) (.c x)) h1 = some (b, h2) ∧ ev (.app 1 1 (.c b) (.c y)) h2 = some (c, h3) ∧ Wh 1 h3 c (bv (X ++ Y)) ∧ Kp h h3 [] ∧ (∀ j, j ∈ idsOf c → h.length ≤ j) := by
  obtain ⟨a, h1, e1, r1⟩ := bslice_to (h := h) (sz := 1) (z := .int .u8 0) (ps := []) (es := []) (len := 0) (by decide) rfl rfl rfl
  obtain ⟨ha, hh, -, -, k1, -⟩ := r1
  have w1 : Wh 1 h1 a [] := ⟨h.length, ha, by rw [hh, List.getElem?_append_right (by simp)]; simp⟩
  obtain ⟨b, h2, e2, w2, -, k2, i2⟩ := appWh_to (bytes := 1) w1 (contsW_of (sx.kp k1).c) (by simp [roomMax]; omega) rfl
  have k12 : Kp h h2 [] := k1.trans k2 (fun j hj => by cases hj) (fun j hj hlt => by rw [ha] at hj; simp [idsOf] at hj; omega)
  have l1 := k1.len
  obtain ⟨c, h3, e3, w3, -, k3, i3⟩ := appWh_to (bytes := 1) w2 (contsW_of (sy.kp k12).c) (by simp [roomMax]; omega) (by rw [List.nil_append]; exact beqs_bv X)
  have l2 := k12.len
  have k13 : Kp h h3 [] := k12.trans k3 (fun j hj => by cases hj) (fun j hj hlt => by rw [i2] at hj; simp at hj; omega)
  refine ⟨a, h1, b, h2, c, h3, by simpa using e1, e2, e3, by simpa [bv] using w3, k13, fun j hj => ?_⟩
  rw [i3] at hj; simp at hj; omega

theorem recsL (lf : Nat) (hf : 1000 < lf) {H0 : List Ob} {salt : Int} {list : V} {l : List Pt} {B : List Int} {n : Nat} (h0 : 0 ≤ salt) (L : Ls list l) (hn : n ≤ 12) (hnl : n ≤ l.length) (hB : B.length ≤ 1000) :
    ∀ (m i g : Nat) (h : List Ob) (b : V), n = i + m → m < g → Kp H0 h [] → Wh 1 h b (bv (B ++ recsF salt l i)) → (∀ j, j ∈ idsOf b → H0.length ≤ j) →
    To3 (L7_0 lf g salt list b n i h) fun x vs h' => ∃ c, x = .exit 0 ∧ vs = [c] ∧ Kp H0 h' [] ∧ Wh 1 h' c (bv (B ++ recsF salt l n)) ∧ (∀ j, j ∈ idsOf c → H0.length ≤ j) := by
  intro m
  induction m with
  | zero =>
    intro i g h b hk hg k w ib
    obtain ⟨g, rfl⟩ : ∃ g', g = g' + 1 := ⟨g - 1, by omega⟩
    have hd : decide ((i : Int) < (n : Int)) = false := decide_eq_false (by omega)
    simp only [L7_0, B7_0, hd, cB_false]
    have : i = n := by omega
    subst this
    exact To3.some ⟨b, rfl, rfl, k, w, ib⟩
  | succ m ih =>
    intro i g h b hk hg k w ib
    obtain ⟨g, rfl⟩ : ∃ g', g = g' + 1 := ⟨g - 1, by omega⟩
    have hi : i < n := by omega
    have hd : decide ((i : Int) < (n : Int)) = true := decide_eq_true (by omega)
    have w4 : IntKind.i64.wrap ((i : Int) + 1) = ((i + 1 : Nat) : Int) := by rw [wrap_i64 (by omega) (by omega)]; simp
    have hx : l[i]? = some (l[i]'(by omega)) := List.getElem?_eq_getElem (by omega)
    have hg0 : l.getD i zPt = l[i]'(by omega) := by rw [List.getD_eq_getElem?_getD, hx]; rfl
    have hnm : nmP (l[i]'(by omega)).n = nmL l i := by unfold nmL; rw [hg0]
    have hpg : List.replicate 512 (l[i]'(by omega)).b = pgL l i := by unfold pgL; rw [hg0]
    simp only [L7_0, B7_0, hd, cB_true, L.at_ i _ _ hx, bind1_some, ref_faddr, ref_n, ref_b, castInt_int]
    refine To3.bind2 (page30 hf) ?_
    rintro y h2 ny
    have k2 := ny.2.2.1
    have ny1 := ny.1
    rw [hpg] at ny1
    simp only [reP_pos, nm_eq, hnm]
    refine To3.bind2 (rec22 hf h0 ny1) ?_
    intro v3 h3 q3
    unfold RecQ at q3
    have nr := nmP_range (l.getD i zPt).n
    have e512 : (pgL l i).length = 512 := by simp [pgL]
    rw [if_neg (by unfold nmL; omega)] at q3
    obtain ⟨r, rfl, nr3⟩ := q3
    have k3 := nr3.2.2.1
    have hb0 : ((0 : Int) != 0) = false := by decide
    have hb1 : (((recB salt (nmL l i) (pgL l i)).length : Int) != 576) = false := by rw [rec_len]; decide
    simp only [castTup_tup, castCons_cons, castInt_int, castNil_nil, hb0, cB_false, er_lenL nr3.1, bv_length, bind1_some, hb1]
    have k23 := k2.tr k3
    have w3 : Wh 1 h3 b (bv (B ++ recsF salt l i)) := w.keep k23 (fun j hj z => by cases z)
    have lr := recsF_len salt l i
    refine To3.bind2 (appWh_to (bytes := 1) w3 (contsW_of nr3.1.c) (by simp [roomMax, rec_len, lr]; omega) (beqs_bv _)) ?_
    rintro c h5 ⟨w5, -, k5, i5⟩
    have l3 := k23.len
    have l0 := k.len
    simp only [w4]
    refine ih (i + 1) g h5 c (by omega) (by omega) ?_ ?_ ?_
    · exact (k.tr k23).trans k5 (fun j hj => by cases hj) (fun j hj hlt => by have := ib j hj; omega)
    · rw [← bv_append, List.append_assoc, ← recsF_succ] at w5
      exact w5
    · intro j hj; rw [i5] at hj; simp at hj; omega

/-- A head is written over. -/
theorem overL (lf : Nat) {H0 : List Ob} {c : V} {t : Int} {B : List Int} {at_ : Nat} (hB : at_ + 64 ≤ B.length) (ha : at_ ≤ 64) : ∀ (m i g : Nat) (h : List Ob) (ms : List Int), 64 = i + m → m < g → Kp H0 h [] → Sl 1 h c (bv ms) → Ap c → (∀ j, j ∈ idsOf c → H0.length ≤ j) → (∀ j, ms[j]? = if at_ ≤ j ∧ j < at_ + i then some t else B[j]?) →
    To3 (L7_1 lf g t at_ c i h) fun x vs h' => x = .exit 2 ∧ vs = [] ∧ Kp H0 h' [] ∧ ∃ ms', Sl 1 h' c (bv ms') ∧ ∀ j, ms'[j]? = if at_ ≤ j ∧ j < at_ + 64 then some t else B[j]? := by
  intro m
  induction m with
  | zero =>
    intro i g h ms hk hg k s a ic hms
    obtain ⟨g, rfl⟩ : ∃ g', g = g' + 1 := ⟨g - 1, by omega⟩
    have hd : decide ((i : Int) < 64) = false := decide_eq_false (by omega)
    simp only [L7_1, B7_1, hd, cB_false]
    have : i = 64 := by omega
    subst this
    exact To3.some ⟨rfl, rfl, k, ms, s, hms⟩
  | succ m ih =>
    intro i g h ms hk hg k s a ic hms
    obtain ⟨g, rfl⟩ : ∃ g', g = g' + 1 := ⟨g - 1, by omega⟩
    have hd : decide ((i : Int) < 64) = true := decide_eq_true (by omega)
    have w4 : IntKind.i64.wrap ((i : Int) + 1) = ((i + 1 : Nat) : Int) := by rw [wrap_i64 (by omega) (by omega)]; simp
    obtain ⟨K, hK⟩ : ∃ K : Nat, K = at_ + i := ⟨_, rfl⟩
    have w5 : IntKind.i64.wrap ((at_ : Int) + (i : Int)) = (K : Int) := by rw [wrap_i64 (by omega) (by omega)]; omega
    have hlt : K < ms.length := by
      have := hms K
      rw [if_neg (by omega), List.getElem?_eq_getElem (l := B) (by omega)] at this
      exact (List.getElem?_eq_some_iff.1 this).1
    obtain ⟨q, eq, st⟩ := s.storeAt a (k := (K : Int)) (x := .int .u8 t) (e := .int .u8 (ms[K])) (by omega) (bv_get (by simp [hlt])) (by intro ds z; cases z) ⟨rfl, rfl⟩
    simp only [L7_1, B7_1, hd, cB_true, w5, eq, bind1_some, w4]
    refine To3.bind2 st ?_
    rintro u h1 ⟨s1, k1⟩
    rw [Int.toNat_natCast, bv_set] at s1
    refine ih (i + 1) g h1 (ms.set K t) (by omega) (by omega) (k.trans k1 (fun j hj => by cases hj) (fun j hj hlt => by have := ic j hj; omega)) s1 a ic ?_
    intro j
    by_cases q : K = j
    · rw [← q]
      rw [List.getElem?_set_self hlt, if_pos (by omega)]
    · rw [List.getElem?_set_ne q, hms j]
      by_cases z : at_ ≤ j ∧ j < at_ + i
      · rw [if_pos z, if_pos (by omega)]
      · rw [if_neg z, if_neg (by omega)]
theorem told_no {t : Int} {X : List Int} (h : X = List.replicate 64 t) : X.length = 64 ∧ by8 (X.take 8) ≠ by8 magic := by
  subst h
  refine ⟨by simp, fun q => ?_⟩
  have : List.take 8 (List.replicate 64 t) = List.replicate 8 t := by simp
  rw [this] at q
  simp [by8, magic] at q
  have h1 := congrArg UInt8.toNat q.1
  have h2 := congrArg UInt8.toNat q.2.1
  rw [h1] at h2
  simp at h2
end Go.Proofs.Ytdcdmpgigmhhpaa.Jb
