/- JournalWrites: what the sums, heads and records come to. No condition. -/
import Derived.Test.YtdcdmpgigmhhpaaJws
import Derived.Test.YtdcdmpgigmhhpaaL4
namespace Go.Proofs.Ytdcdmpgigmhhpaa.Jw
open Go Go.Proofs.Ytdcdmpgigmhhpaa.E
set_option maxRecDepth 100000
set_option linter.unusedVariables false
set_option linter.unusedSimpArgs false

/-- One byte more. -/
def sum1 (n m : Int) : Int := IntKind.u32.wrap (bits .xor .u32 n (IntKind.u32.wrap m) * 16777619)
def sumF : List Int → Int → Int
  | [], n => n
  | m :: ms, n => sumF ms (sum1 n m)
theorem sumF_range : ∀ (ms : List Int) (n : Int), 0 ≤ n ∧ n < 4294967296 → 0 ≤ sumF ms n ∧ sumF ms n < 4294967296
  | [], n, h => h
  | m :: ms, n, h => sumF_range ms _ (by unfold sum1; rw [wrap_u32]; omega)

theorem sum24L (lf : Nat) {h : List Ob} {v : V} {ms : List Int} (s : Sl 1 h v (bv ms)) (hl : ms.length ≤ 9223372036854775807) : ∀ (m k f : Nat) (acc : Int), ms.length = k + m → m < f →
    L24_0 lf f acc v ms.length k h = some (.exit 0, [.int .u32 (sumF (ms.drop k) acc)], h) := by
  intro m
  induction m with
  | zero =>
    intro k f acc hk hf
    obtain ⟨f, rfl⟩ : ∃ g, f = g + 1 := ⟨f - 1, by omega⟩
    have e : ms.drop k = [] := List.drop_of_length_le (by omega)
    have hd : decide ((k : Int) < (ms.length : Int)) = false := decide_eq_false (by omega)
    simp only [L24_0, B24_0, hd, cB_false, e, sumF]
  | succ m ih =>
    intro k f acc hk hf
    obtain ⟨f, rfl⟩ : ∃ g, f = g + 1 := ⟨f - 1, by omega⟩
    have hlt : k < ms.length := by omega
    have hd : decide ((k : Int) < (ms.length : Int)) = true := decide_eq_true (by omega)
    obtain ⟨a, a1, a2⟩ := s.at1 (k := (k : Int)) (e := .int .u8 ms[k]) (by omega) (bv_get (by simp [hlt])) rfl
    have hw : IntKind.i64.wrap ((k : Int) + 1) = ((k + 1 : Nat) : Int) := by rw [wrap_i64 (by omega) (by omega)]; simp
    simp only [L24_0, B24_0, hd, cB_true, a1, a2, bind1_some, castInt_int, hw]
    rw [ih (k + 1) f _ (by omega) (by omega), List.drop_eq_getElem_cons hlt]
    rfl
theorem sum25L (lf : Nat) {h : List Ob} {v : V} {ms : List Int} (s : Sl 1 h v (bv ms)) (hl : ms.length ≤ 9223372036854775807) : ∀ (m k f : Nat) (acc : Int), ms.length = k + m → m < f →
    L25_0 lf f v acc ms.length k h = some (.exit 0, [.int .u32 (sumF (ms.drop k) acc)], h) := by
  intro m
  induction m with
  | zero =>
    intro k f acc hk hf
    obtain ⟨f, rfl⟩ : ∃ g, f = g + 1 := ⟨f - 1, by omega⟩
    have e : ms.drop k = [] := List.drop_of_length_le (by omega)
    have hd : decide ((k : Int) < (ms.length : Int)) = false := decide_eq_false (by omega)
    simp only [L25_0, B25_0, hd, cB_false, e, sumF]
  | succ m ih =>
    intro k f acc hk hf
    obtain ⟨f, rfl⟩ : ∃ g, f = g + 1 := ⟨f - 1, by omega⟩
    have hlt : k < ms.length := by omega
    have hd : decide ((k : Int) < (ms.length : Int)) = true := decide_eq_true (by omega)
    obtain ⟨a, a1, a2⟩ := s.at1 (k := (k : Int)) (e := .int .u8 ms[k]) (by omega) (bv_get (by simp [hlt])) rfl
    have hw : IntKind.i64.wrap ((k : Int) + 1) = ((k + 1 : Nat) : Int) := by rw [wrap_i64 (by omega) (by omega)]; simp
    simp only [L25_0, B25_0, hd, cB_true, a1, a2, bind1_some, castInt_int, hw]
    rw [ih (k + 1) f _ (by omega) (by omega), List.drop_eq_getElem_cons hlt]
    rfl
def sumB (ms : List Int) : Int := sumF ms 2166136261
theorem sum24 {lf : Nat} {h : List Ob} {v : V} {ms : List Int} (s : Sl 1 h v (bv ms)) (hl : ms.length ≤ 9223372036854775807) (hf : ms.length < lf) : F24 lf v h = some (.int .u32 (sumB ms), h) := by
  have := sum24L lf s hl ms.length 0 lf 2166136261 (by omega) hf
  simp only [F24, er_lenL s, bv_length, bind1_some, castInt_int]
  rw [show ((0 : Int)) = ((0 : Nat) : Int) from rfl, this]
  simp [sumB]
theorem sum25 {lf : Nat} {h : List Ob} {v : V} {ms : List Int} (s : Sl 1 h v (bv ms)) (hl : ms.length ≤ 9223372036854775807) (hf : ms.length < lf) : F25 lf v h = some (.int .u32 (sumB ms), h) := by
  have := sum25L lf s hl ms.length 0 lf 2166136261 (by omega) hf
  simp only [F25, er_lenL s, bv_length, bind1_some, castInt_int]
  rw [show ((0 : Int)) = ((0 : Nat) : Int) from rfl, this]
  simp [sumB]

/-- A number's bytes, so many, the greatest first. -/
def putB (n : Int) : Nat → List Int
  | 0 => []
  | k + 1 => (n / 2 ^ (8 * k)) % 256 :: putB n k
@[simp] theorem putB_len (n : Int) : ∀ k, (putB n k).length = k
  | 0 => rfl
  | k + 1 => by simp [putB, putB_len n k]

theorem put49L (lf : Nat) (n : Int) (hn : 0 ≤ n) : ∀ (k f : Nat) (h : List Ob) (b : V) (ms : List Int), k ≤ 8 → k < f → Sl 1 h b (bv ms) → Ap b → ms.length + k ≤ 1000000 →
    To3 (L49_0 lf f b n ((k : Int) - 1) h) fun x vs h' => ∃ v, x = .exit 0 ∧ vs = [v] ∧ Beh b h (bv (ms ++ putB n k)) v h' := by
  intro k
  induction k with
  | zero =>
    intro f h b ms hk hf s a hl
    obtain ⟨f, rfl⟩ : ∃ g, f = g + 1 := ⟨f - 1, by omega⟩
    have hd : decide (((0 : Nat) : Int) - 1 ≥ 0) = false := decide_eq_false (by omega)
    simp only [L49_0, B49_0, hd, cB_false]
    exact To3.some ⟨b, rfl, rfl, by simpa [putB] using s, a, Kp.refl _ _, fun j hj => .inl hj⟩
  | succ k ih =>
    intro f h b ms hk hf s a hl
    obtain ⟨f, rfl⟩ : ∃ g, f = g + 1 := ⟨f - 1, by omega⟩
    have hd : decide (((k + 1 : Nat) : Int) - 1 ≥ 0) = true := decide_eq_true (by omega)
    have hw : IntKind.i64.wrap (((k + 1 : Nat) : Int) - 1 - 1) = (k : Int) - 1 := by rw [wrap_i64 (by omega) (by omega)]; omega
    have hs : er (.bin .shr (.c (.int .u64 n)) (.c (.int .i64 (IntKind.i64.wrap (8 * (((k + 1 : Nat) : Int) - 1)))))) h = some (.int .u64 (n / 2 ^ (8 * k))) := by
      have e1 : IntKind.i64.wrap (8 * (((k + 1 : Nat) : Int) - 1)) = ((8 * k : Nat) : Int) := by rw [wrap_i64 (by omega) (by omega)]; omega
      have e2 : ¬ (((8 * k : Nat) : Int) < 0) := by omega
      have e3 : min (((8 * k : Nat) : Int)).toNat IntKind.u64.bits = 8 * k := by simp only [Int.toNat_natCast, IntKind.bits]; omega
      rw [e1]
      simp only [er, ev, evOq, x_bin, EO.get, evBin, if_neg e2, e3, Option.map_some]
      rw [Int.fdiv_eq_ediv_of_nonneg _ (Int.le_of_lt (Int.pow_pos (by decide)))]
    simp only [L49_0, B49_0, hd, cB_true, hs, bind1_some, castInt_int, hw, wrap_u8]
    refine To3.bind2 (bslice_to (ps := [(0, .int .u8 (n / 2 ^ (8 * k) % 256))]) (es := [.int .u8 (n / 2 ^ (8 * k) % 256)]) (by decide) rfl rfl rfl) ?_
    rintro x h1 ⟨rfl, -, sx, -, kx, fx⟩
    have sb := s.keep kx (fun id hi => by simp)
    refine To3.bind2 (app_to sb a sx.c (by simp [roomMax]; omega)) ?_
    rintro b2 h2 ⟨s2, a2, k2, f2⟩
    have key := ih f h2 b2 (ms ++ [n / 2 ^ (8 * k) % 256]) (by omega) (by omega) (by simpa [bv] using s2) a2 (by simp; omega)
    refine key.mono ?_
    rintro x vs h3 ⟨v, rfl, rfl, s3, a3, k3, f3⟩
    refine ⟨v, rfl, rfl, by simpa [putB] using s3, a3, ?_, ?_⟩
    · refine (kx.trans k2 (C := idsOf b) (fun j hj => by cases hj) (fun j hj _ => hj)).trans k3 (fun j hj _ => hj) (fun j hj hlt => ?_)
      rcases f2 j hj with q | q
      · exact q
      · have := kx.len; omega
    · intro j hj
      rcases f3 j hj with q | q
      · rcases f2 j q with q | q
        · exact .inl q
        · exact .inr (by have := kx.len; omega)
      · exact .inr (by have := kx.len; have := k2.len; omega)

theorem put49 {lf : Nat} {n : Int} (hn : 0 ≤ n) {k : Nat} (hk : k ≤ 8) (hf : 8 < lf) {h : List Ob} {b : V} {ms : List Int} (s : Sl 1 h b (bv ms)) (a : Ap b) (hl : ms.length ≤ 100000) :
    To2 (F49 lf b n k h) (Beh b h (bv (ms ++ putB n k))) := by
  have hw : IntKind.i64.wrap ((k : Int) - 1) = (k : Int) - 1 := wrap_i64 (by omega) (by omega)
  simp only [F49, hw]
  refine To2.bind3 (put49L lf n hn k lf h b ms hk (by omega) s a (by omega)) ?_
  rintro x vs h1 ⟨v, rfl, rfl, q⟩
  simp only [decide_true, cB_true, castCons_cons, castNil_nil]
  exact To2.some q

theorem four52 {lf : Nat} {n : Int} (hn : 0 ≤ n) {h : List Ob} : To2 (F52 lf n h) fun v h' => Sl 1 h' v (bv (putB n 4)) ∧ Ap v ∧ Kp h h' [] ∧ (∀ j, j ∈ idsOf v → h.length ≤ j) := by
  have fd : ∀ m : Int, 0 ≤ m → Int.fdiv n m = n / m := fun m hm => Int.fdiv_eq_ediv_of_nonneg _ hm
  simp only [F52, wrap_u8, fd _ (show (0 : Int) ≤ 2 ^ 24 by decide), fd _ (show (0 : Int) ≤ 2 ^ 16 by decide), fd _ (show (0 : Int) ≤ 2 ^ 8 by decide)]
  refine To2.bind2 (bslice_to (ps := [(0, .int .u8 (n / 2 ^ 24 % 256)), (1, .int .u8 (n / 2 ^ 16 % 256)), (2, .int .u8 (n / 2 ^ 8 % 256)), (3, .int .u8 (n % 256))]) (es := [.int .u8 (n / 2 ^ 24 % 256), .int .u8 (n / 2 ^ 16 % 256), .int .u8 (n / 2 ^ 8 % 256), .int .u8 (n % 256)]) (by decide) rfl rfl rfl) ?_
  rintro x h1 ⟨-, -, sx, ax, kx, fx⟩
  exact To2.some ⟨by simpa [putB, bv] using sx, ax, kx, fx⟩

theorem eight51 {lf : Nat} {n : Int} (hn : 0 ≤ n) (hm : n < 18446744073709551616) {h : List Ob} : To2 (F51 lf n h) fun v h' => Sl 1 h' v (bv (putB n 8)) ∧ Ap v ∧ Kp h h' [] ∧ (∀ j, j ∈ idsOf v → h.length ≤ j) := by
  have fd : Int.fdiv n (2 ^ 32) = n / 2 ^ 32 := Int.fdiv_eq_ediv_of_nonneg _ (by decide)
  simp only [F51, wrap_u32, fd]
  refine To2.bind2 (four52 (by omega)) ?_
  rintro x h1 ⟨s1, a1, k1, f1⟩
  refine To2.bind2 (four52 (by omega)) ?_
  rintro y h2 ⟨s2, a2, k2, f2⟩
  have s1' := s1.keep k2 (fun _ _ q => by cases q)
  refine To2.bind2 (app_to s1' a1 s2.c (by simp [roomMax])) ?_
  rintro z h3 ⟨s3, a3, k3, f3⟩
  refine To2.some ⟨?_, a3, ?_, ?_⟩
  · have e : putB (n / 2 ^ 32 % 4294967296) 4 ++ putB (n % 4294967296) 4 = putB n 8 := by
      simp only [putB, List.cons_append, List.nil_append, List.cons.injEq, and_true]
      simp only [Nat.reduceMul, Int.reducePow]
      omega
    rw [← bv_append, e] at s3
    exact s3
  · exact (k1.trans k2 (C := []) (fun j hj => by cases hj) (fun j hj => by cases hj)).trans k3 (fun j hj => by cases hj) (fun j hj hlt => by have := f1 j hj; omega)
  · intro j hj
    rcases f3 j hj with q | q
    · exact f1 j q
    · have := k1.len; have := k2.len; omega

/-! ### Heads and records -/
def magic : List Int := [119, 97, 105, 110, 115, 99, 111, 116]
def headC (salt p r : Int) : List Int := magic ++ putB salt 8 ++ putB p 4 ++ putB r 4
def headB (salt p r : Int) : List Int := headC salt p r ++ putB (sumB (headC salt p r)) 4 ++ List.replicate 36 0
@[simp] theorem headC_len (salt p r : Int) : (headC salt p r).length = 24 := by simp [headC, magic]
def recB (salt n : Int) (ds : List Int) : List Int := (putB n 4 ++ ds) ++ putB (sumB (putB salt 8 ++ (putB n 4 ++ ds))) 4 ++ List.replicate 56 0
theorem sumB_range (ms : List Int) : 0 ≤ sumB ms ∧ sumB ms < 4294967296 := sumF_range ms _ (by decide)
theorem bv_zero (n : Nat) : bv (List.replicate n 0) = List.replicate n (.int .u8 0) := by simp [bv]
theorem pad50 {lf : Nat} {h : List Ob} {b : V} {ms : List Int} (s : Sl 1 h b (bv ms)) (a : Ap b) {n : Nat} (hl : ms.length ≤ n) (hn : n ≤ 100000) : To2 (F50 lf b n h) (Beh b h (bv (ms ++ List.replicate (n - ms.length) 0))) := by
  have hw : IntKind.i64.wrap ((n : Int) - (ms.length : Int)) = ((n - ms.length : Nat) : Int) := by rw [wrap_i64 (by omega) (by omega)]; omega
  simp only [F50, er_lenL s, bv_length, bind1_some, castInt_int, hw]
  refine To2.bind2 (appZ_to s a (by omega) (by simp [roomMax]; omega)) ?_
  rintro x h1 ⟨s1, a1, k1, f1⟩
  rw [Int.toNat_natCast, ← bv_zero, ← bv_append] at s1
  exact To2.some ⟨s1, a1, k1, f1⟩
theorem pad53 {lf : Nat} {h : List Ob} {b : V} {ms : List Int} (s : Sl 1 h b (bv ms)) (a : Ap b) {n : Nat} (hl : ms.length ≤ n) (hn : n ≤ 100000) : To2 (F53 lf b n h) (Beh b h (bv (ms ++ List.replicate (n - ms.length) 0))) := by
  have hw : IntKind.i64.wrap ((n : Int) - (ms.length : Int)) = ((n - ms.length : Nat) : Int) := by rw [wrap_i64 (by omega) (by omega)]; omega
  simp only [F53, er_lenL s, bv_length, bind1_some, castInt_int, hw]
  refine To2.bind2 (appZ_to s a (by omega) (by simp [roomMax]; omega)) ?_
  rintro x h1 ⟨s1, a1, k1, f1⟩
  rw [Int.toNat_natCast, ← bv_zero, ← bv_append] at s1
  exact To2.some ⟨s1, a1, k1, f1⟩

theorem magic_to (h : List Ob) : To2 (ev (.bslice 1 (.int .u8 0) 8 [(0, (.c (.int .u8 (119)))), (1, (.c (.int .u8 (97)))), (2, (.c (.int .u8 (105)))), (3, (.c (.int .u8 (110)))), (4, (.c (.int .u8 (115)))), (5, (.c (.int .u8 (99)))), (6, (.c (.int .u8 (111)))), (7, (.c (.int .u8 (116))))]) h) fun v h' =>
    New h (bv magic) v h' ∧ er (.strish (.c v)) h' = some v := by
  refine (bslice_to (ps := [(0, .int .u8 119), (1, .int .u8 97), (2, .int .u8 105), (3, .int .u8 110), (4, .int .u8 115), (5, .int .u8 99), (6, .int .u8 111), (7, .int .u8 116)]) (es := bv magic) (by decide) rfl rfl rfl).mono ?_
  rintro x h1 ⟨rfl, -, sx, ax, kx, fx⟩
  exact ⟨⟨sx, ax, kx, fx⟩, er_strish sx⟩

def HeadQ (h : List Ob) (salt p r : Int) (v : V) (h' : List Ob) : Prop :=
  if p < 0 ∨ p > 10000 ∨ r < 0 ∨ r > 10000 then v = .tup [.nils, .int .i64 1] ∧ h' = h else ∃ x, v = .tup [x, .int .i64 0] ∧ New h (bv (headB salt p r)) x h'

theorem head20 {lf : Nat} (hf : 1000 < lf) {h : List Ob} {salt p r : Int} (h0 : 0 ≤ salt) : To2 (F20 lf salt p r h) (HeadQ h salt p r) := by
  unfold HeadQ
  by_cases hc : p < 0 ∨ p > 10000 ∨ r < 0 ∨ r > 10000
  · simp only [if_pos hc]
    have : S20_0 lf p r h = some (.ret, [V.nils, .int .i64 1], h) := by
      unfold S20_0
      by_cases c1 : p < 0
      · simp [c1]
      · by_cases c2 : p > 10000
        · simp [c1, c2]
        · by_cases c3 : r < 0
          · simp [c1, c2, c3]
          · have c4 : r > 10000 := by omega
            simp [c1, c2, c3, c4]
    simp only [F20, this, bind3_some, decide_true, cB_true, castCons_cons, castNil_nil, castInt_int]
    exact To2.some ⟨rfl, rfl⟩
  · simp only [if_neg hc]
    have : S20_0 lf p r h = some (.normal, [], h) := by
      unfold S20_0
      have c1 : ¬ p < 0 := by omega
      have c2 : ¬ p > 10000 := by omega
      have c3 : ¬ r < 0 := by omega
      have c4 : ¬ r > 10000 := by omega
      simp [c1, c2, c3, c4]
    have e1 : IntKind.u64.wrap p = p := by rw [wrap_u64]; omega
    have e2 : IntKind.u64.wrap r = r := by rw [wrap_u64]; omega
    simp only [F20, this, bind3_some, show decide (EX.normal = EX.ret) = false from rfl, decide_true, cB_true, cB_false, castNil_nil, e1, e2]
    refine To2.bind2 (magic_to h) ?_
    rintro x1 h1 ⟨n1, hs⟩
    simp only [hs, bind1_some]
    refine To2.bind2 (put49 (k := 8) h0 (by decide) (by omega) n1.1 n1.2.1 (by simp [magic])) ?_
    intro x2 h2 q2
    have n2 := n1.beh q2
    refine To2.bind2 (put49 (k := 4) (by omega) (by decide) (by omega) n2.1 n2.2.1 (by simp [magic])) ?_
    intro x3 h3 q3
    have n3 := n2.beh q3
    refine To2.bind2 (put49 (k := 4) (by omega) (by decide) (by omega) n3.1 n3.2.1 (by simp [magic])) ?_
    intro x4 h4 q4
    have n4 := n3.beh q4
    have s4 : Sl 1 h4 x4 (bv (headC salt p r)) := n4.1
    rw [sum24 s4 (by simp) (by simp; omega)]
    have hr := sumB_range (headC salt p r)
    have e3 : IntKind.u64.wrap (sumB (headC salt p r)) = sumB (headC salt p r) := by rw [wrap_u64]; omega
    simp only [bind2_some, castInt_int, e3]
    refine To2.bind2 (put49 (k := 4) (by omega) (by decide) (by omega) s4 n4.2.1 (by simp)) ?_
    intro x5 h5 q5
    have n5 := n4.beh q5
    refine To2.bind2 (pad50 (n := 64) n5.1 n5.2.1 (by simp) (by decide)) ?_
    intro x6 h6 q6
    have n6 := n5.beh q6
    refine To2.some ⟨x6, rfl, ?_⟩
    have : 64 - (headC salt p r ++ putB (sumB (headC salt p r)) 4).length = 36 := by simp
    rw [this] at n6
    exact n6

theorem head21 {lf : Nat} (hf : 1000 < lf) {h : List Ob} {salt p r : Int} (h0 : 0 ≤ salt) (h1 : salt < 18446744073709551616) : To2 (F21 lf salt p r h) (HeadQ h salt p r) := by
  unfold HeadQ
  by_cases hc : p < 0 ∨ p > 10000 ∨ r < 0 ∨ r > 10000
  · simp only [if_pos hc]
    have : S21_0 lf p r h = some (.ret, [V.nils, .int .i64 1], h) := by
      unfold S21_0
      by_cases c1 : p < 0
      · simp [c1]
      · by_cases c2 : p > 10000
        · simp [c1, c2]
        · by_cases c3 : r < 0
          · simp [c1, c2, c3]
          · have c4 : r > 10000 := by omega
            simp [c1, c2, c3, c4]
    simp only [F21, this, bind3_some, decide_true, cB_true, castCons_cons, castNil_nil, castInt_int]
    exact To2.some ⟨rfl, rfl⟩
  · simp only [if_neg hc]
    have : S21_0 lf p r h = some (.normal, [], h) := by
      unfold S21_0
      have c1 : ¬ p < 0 := by omega
      have c2 : ¬ p > 10000 := by omega
      have c3 : ¬ r < 0 := by omega
      have c4 : ¬ r > 10000 := by omega
      simp [c1, c2, c3, c4]
    have e1 : IntKind.u32.wrap p = p := by rw [wrap_u32]; omega
    have e2 : IntKind.u32.wrap r = r := by rw [wrap_u32]; omega
    simp only [F21, this, bind3_some, show decide (EX.normal = EX.ret) = false from rfl, decide_true, cB_true, cB_false, castNil_nil, e1, e2]
    refine To2.bind2 (magic_to h) ?_
    rintro x1 h1 ⟨n1, hs⟩
    simp only [hs, bind1_some]
    refine To2.bind2 (eight51 h0 (by assumption)) ?_
    rintro y2 g2 ⟨t2, -, l2, -⟩
    have m1 := n1.keep l2
    refine To2.bind2 (app_to m1.1 m1.2.1 t2.c (by simp [roomMax, magic])) ?_
    intro x2 h2 q2
    have n2 := m1.beh q2
    refine To2.bind2 (four52 (by omega)) ?_
    rintro y3 g3 ⟨t3, -, l3, -⟩
    have m2 := n2.keep l3
    refine To2.bind2 (app_to m2.1 m2.2.1 t3.c (by simp [roomMax, magic])) ?_
    intro x3 h3 q3
    have n3 := m2.beh q3
    refine To2.bind2 (four52 (by omega)) ?_
    rintro y4 g4 ⟨t4, -, l4, -⟩
    have m3 := n3.keep l4
    refine To2.bind2 (app_to m3.1 m3.2.1 t4.c (by simp [roomMax, magic])) ?_
    intro x4 h4 q4
    have n4 := m3.beh q4
    have s4 : Sl 1 h4 x4 (bv (headC salt p r)) := by simpa only [headC, bv_append] using n4.1
    rw [sum25 s4 (by simp) (by simp; omega)]
    have hr := sumB_range (headC salt p r)
    simp only [bind2_some, castInt_int]
    refine To2.bind2 (four52 (by omega)) ?_
    rintro y5 g5 ⟨t5, -, l5, -⟩
    have m4 := n4.keep l5
    refine To2.bind2 (app_to m4.1 m4.2.1 t5.c (by simp [roomMax, magic])) ?_
    intro x5 h5 q5
    have n5 := m4.beh q5
    have s5 : Sl 1 h5 x5 (bv (headC salt p r ++ putB (sumB (headC salt p r)) 4)) := by simpa only [headC, bv_append] using n5.1
    refine To2.bind2 (pad53 (n := 64) s5 n5.2.1 (by simp) (by decide)) ?_
    intro x6 h6 q6
    have n6 := n5.beh q6
    refine To2.some ⟨x6, rfl, ?_⟩
    have : 64 - (headC salt p r ++ putB (sumB (headC salt p r)) 4).length = 36 := by simp
    rw [this] at n6
    exact n6
end Go.Proofs.Ytdcdmpgigmhhpaa.Jw
