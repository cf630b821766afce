/- A journal read back, the plain part: numbers of bytes. No condition. -/
import Derived.Test.YtdcdmpgigmhhpaaJbs
import Derived.Test.YtdcdmpgigmhhpaaJwQ
import Derived.Test.YtdcdmpgigmhhpaaL4
import Derived.Laws.BitsLemmas
import Derived.Lib.EndianBits
namespace Go.Proofs.Ytdcdmpgigmhhpaa.Jb
open Go Go.Proofs.Ytdcdmpgigmhhpaa.E
open Go.Proofs.Ytdcdmpgigmhhpaa.Jw
set_option maxRecDepth 100000
set_option linter.unusedVariables false
set_option linter.unusedSimpArgs false

/-- A number of bytes. -/
def get1 (n c : Int) : Int := (n * 256) % 18446744073709551616 + c
def getF (ms : List Int) (n : Int) : Int := ms.foldl get1 n
theorem get1_lt {n c : Int} (h0 : 0 ≤ c) (h1 : c ≤ 255) : 0 ≤ get1 n c ∧ get1 n c < 18446744073709551616 := by unfold get1; omega
theorem or_get1 {n c : Int} (h0 : 0 ≤ c) (h1 : c ≤ 255) : bits .or .u64 (IntKind.u64.wrap (n * 256)) (IntKind.u64.wrap c) = get1 n c := by
  rw [wrap_u64, wrap_u64, show c % 18446744073709551616 = c by omega]
  exact bits_join .u64 64 (by decide) wraps_u64 8 (n * 256 % 18446744073709551616) c (by omega) (by omega) (by omega) h0 (by omega) (by omega)
theorem get4 {n : Int} (h0 : 0 ≤ n) (h1 : n < 4294967296) : getF (putB n 4) 0 = n := by
  simp only [getF, putB, List.foldl_cons, List.foldl_nil, get1, Nat.reduceMul, Int.reducePow]
  omega
theorem get8 {n : Int} (h0 : 0 ≤ n) (h1 : n < 18446744073709551616) : getF (putB n 8) 0 = n := by
  simp only [getF, putB, List.foldl_cons, List.foldl_nil, get1, Nat.reduceMul, Int.reducePow]
  have e1 : n / 72057594037927936 % 256 = n / 72057594037927936 := by omega
  omega
theorem putB_byt (n : Int) : ∀ k, Byt (putB n k)
  | 0 => fun m h => by cases h
  | k + 1 => fun m h => by
    rcases List.mem_cons.1 h with rfl | h
    · omega
    · exact putB_byt n k m h
theorem Byt.append {a b : List Int} (ha : Byt a) (hb : Byt b) : Byt (a ++ b) := fun m h => (List.mem_append.1 h).elim (ha m) (hb m)
theorem Byt.repl {n : Nat} {c : Int} (h0 : 0 ≤ c) (h1 : c ≤ 255) : Byt (List.replicate n c) := fun m h => by rw [(List.mem_replicate.1 h).2]; exact ⟨h0, h1⟩
theorem Byt.take {a : List Int} {n : Nat} (h : Byt a) : Byt (a.take n) := fun m q => h m (List.mem_of_mem_take q)
theorem Byt.drop {a : List Int} {n : Nat} (h : Byt a) : Byt (a.drop n) := fun m q => h m (List.mem_of_mem_drop q)
theorem headB_byt (s p r : Int) : Byt (headB s p r) := by
  refine Byt.append (Byt.append (Byt.append (Byt.append (Byt.append ?_ (putB_byt _ _)) (putB_byt _ _)) (putB_byt _ _)) (putB_byt _ _)) (Byt.repl (by decide) (by decide))
  intro m h
  simp [magic] at h
  omega
@[simp] theorem headB_len (s p r : Int) : (headB s p r).length = 64 := by simp [headB]
theorem recB_byt {s n : Int} {ds : List Int} (hd : Byt ds) : Byt (recB s n ds) :=
  Byt.append (Byt.append (Byt.append (putB_byt _ _) hd) (putB_byt _ _)) (Byt.repl (by decide) (by decide))
theorem recB_len {s n : Int} {ds : List Int} (hd : ds.length = 512) : (recB s n ds).length = 576 := by simp [recB, hd]

/-! ### What the functions of bytes come to -/
theorem byt_get {ms : List Int} (hb : Byt ms) {k : Nat} (hk : k < ms.length) : 0 ≤ ms[k] ∧ ms[k] ≤ 255 := hb _ (List.getElem_mem hk)
theorem get77L (lf : Nat) {h : List Ob} {v : V} {ms : List Int} (s : Sl 1 h v (bv ms)) (hb : Byt ms) (hl : ms.length ≤ 1000000) : ∀ (m k f : Nat) (acc : Int), ms.length = k + m → m < f →
    L77_0 lf f acc v ms.length k h = some (.exit 0, [.int .u64 (getF (ms.drop k) acc)], h) := by
  intro m
  induction m with
  | zero =>
    intro k f acc hk hf
    obtain ⟨f, rfl⟩ : ∃ g, f = g + 1 := ⟨f - 1, by omega⟩
    have e : ms.drop k = [] := List.drop_of_length_le (by omega)
    have hd : decide ((k : Int) < (ms.length : Int)) = false := decide_eq_false (by omega)
    simp only [L77_0, B77_0, hd, cB_false, e, getF, List.foldl_nil]
  | succ m ih =>
    intro k f acc hk hf
    obtain ⟨f, rfl⟩ : ∃ g, f = g + 1 := ⟨f - 1, by omega⟩
    have hlt : k < ms.length := by omega
    have hd : decide ((k : Int) < (ms.length : Int)) = true := decide_eq_true (by omega)
    obtain ⟨a, a1, a2⟩ := s.at1 (k := (k : Int)) (e := .int .u8 ms[k]) (by omega) (bv_get (by simp [hlt])) rfl
    have hw : IntKind.i64.wrap ((k : Int) + 1) = ((k + 1 : Nat) : Int) := by rw [wrap_i64 (by omega) (by omega)]; simp
    have hg := byt_get hb hlt
    have e2 : (2 : Int) ^ 8 = 256 := by decide
    simp only [L77_0, B77_0, hd, cB_true, a1, a2, bind1_some, castInt_int, hw, e2, or_get1 hg.1 hg.2]
    rw [ih (k + 1) f _ (by omega) (by omega), List.drop_eq_getElem_cons hlt]
    rfl
theorem get77 {lf : Nat} {h : List Ob} {v : V} {ms : List Int} (s : Sl 1 h v (bv ms)) (hb : Byt ms) (hl : ms.length ≤ 1000000) (hf : ms.length < lf) : F77 lf v h = some (.int .u64 (getF ms 0), h) := by
  have := get77L lf s hb hl ms.length 0 lf 0 (by omega) hf
  simp only [List.drop_zero] at this
  have e : L77_0 lf lf 0 v ms.length 0 h = some (.exit 0, [.int .u64 (getF ms 0)], h) := this
  simp only [F77, er_lenL s, bv_length, bind1_some, castInt_int, e, bind3_some, decide_true, cB_true, castCons_cons, castNil_nil]
theorem eq57 {lf : Nat} {h : List Ob} {a b : V} {xs ys : List Int} (s : Sl 1 h a (bv xs)) (t : Sl 1 h b (bv ys)) : F57 lf a b h = some (.bool (by8 xs == by8 ys), h) := by
  simp only [F57, er_toStr s, er_toStr t, bind1_some, castStr_str]
theorem pre88 {lf : Nat} {h : List Ob} {a b : V} {xs ys : List Int} (s : Sl 1 h a (bv xs)) (t : Sl 1 h b (bv ys)) : F88 lf a b h = some (.bool (decide (ys.length ≤ xs.length) && (by8 (xs.take ys.length) == by8 ys)), h) := by
  simp only [F88, er_lenL s, er_lenL t, bv_length, bind1_some, castInt_int]
  by_cases q : ys.length ≤ xs.length
  · have e : decide ((xs.length : Int) ≥ (ys.length : Int)) = true := decide_eq_true (by omega)
    obtain ⟨z, ez, sz, -⟩ := slc_to (lo := none) (hi := some (.c (.int .i64 (ys.length : Int)))) (a := 0) (b := ys.length) s bv_cells rfl (by simp only [Option.map_some, getC, bndV]; rw [if_pos (by omega), Int.toNat_natCast]) (by omega) (by rw [bv_length]; omega)
    rw [bv_drop, bv_take] at sz
    simp only [e, cB_true, ez, bind1_some, eq57 sz t, bind2_some, castBool_bool, decide_eq_true q, Bool.true_and, List.drop_zero, Nat.sub_zero]
  · have e : decide ((xs.length : Int) ≥ (ys.length : Int)) = false := decide_eq_false (by omega)
    simp only [e, cB_false, decide_eq_false q, Bool.false_and]
/-- A part of bytes. -/
theorem sub_to {h : List Ob} {v : V} {ms : List Int} (s : Sl 1 h v (bv ms)) {a b : Int} {k n : Nat} (ha : a = k) (hb : b = k + n) (hl : k + n ≤ ms.length) : ∃ y, er (.slcL 1 (.c v) (some (.c (.int .i64 a))) (some (.c (.int .i64 b))) none) h = some y ∧ Sl 1 h y (bv ((ms.drop k).take n)) ∧ (∀ j, j ∈ idsOf y → j ∈ idsOf v) := by
  subst ha; subst hb
  obtain ⟨z, ez, sz, iz⟩ := slc_to (lo := some (.c (.int .i64 (k : Int)))) (hi := some (.c (.int .i64 ((k : Int) + (n : Int))))) (a := k) (b := k + n) s bv_cells (by simp only [Option.map_some, getC, bndV]; rw [if_pos (by omega), Int.toNat_natCast]) (by simp only [Option.map_some, getC, bndV]; rw [if_pos (by omega)]; congr 1) (by omega) (by rw [bv_length]; omega)
  rw [bv_drop, bv_take, show k + n - k = n by omega] at sz
  exact ⟨z, ez, sz, iz⟩
theorem from_to {h : List Ob} {v : V} {ms : List Int} (s : Sl 1 h v (bv ms)) {a : Int} {k : Nat} (ha : a = k) (hl : k ≤ ms.length) : ∃ y, er (.slcL 1 (.c v) (some (.c (.int .i64 a))) none none) h = some y ∧ Sl 1 h y (bv (ms.drop k)) ∧ (∀ j, j ∈ idsOf y → j ∈ idsOf v) := by
  subst ha
  obtain ⟨z, ez, sz, iz⟩ := slc_to (lo := some (.c (.int .i64 (k : Int)))) (hi := none) (a := k) (b := ms.length) s bv_cells (by simp only [Option.map_some, getC, bndV]; rw [if_pos (by omega), Int.toNat_natCast]) (by simp [bndV]) (by omega) (by simp)
  rw [bv_drop, bv_take, List.take_of_length_le (by simp)] at sz
  exact ⟨z, ez, sz, iz⟩
theorem upto_to {h : List Ob} {v : V} {ms : List Int} (s : Sl 1 h v (bv ms)) {b : Int} {n : Nat} (hb : b = n) (hl : n ≤ ms.length) : ∃ y, er (.slcL 1 (.c v) none (some (.c (.int .i64 b))) none) h = some y ∧ Sl 1 h y (bv (ms.take n)) ∧ (∀ j, j ∈ idsOf y → j ∈ idsOf v) := by
  subst hb
  obtain ⟨z, ez, sz, iz⟩ := slc_to (lo := none) (hi := some (.c (.int .i64 (n : Int)))) (a := 0) (b := n) s bv_cells rfl (by simp only [Option.map_some, getC, bndV]; rw [if_pos (by omega), Int.toNat_natCast]) (by omega) (by rw [bv_length]; omega)
  rw [bv_drop, bv_take, List.drop_zero, Nat.sub_zero] at sz
  exact ⟨z, ez, sz, iz⟩
theorem reP_pos {R : Type} {p : Prop} {o : Option R} (hp : p) : reP p o = o := by unfold reP; exact if_pos hp
end Go.Proofs.Ytdcdmpgigmhhpaa.Jb
