/- A journal read back: pages, records, all of it. No condition. -/
import Derived.Test.YtdcdmpgigmhhpaaJbQ
namespace Go.Proofs.Ytdcdmpgigmhhpaa.Jb
open Go Go.Proofs.Ytdcdmpgigmhhpaa.E
open Go.Proofs.Ytdcdmpgigmhhpaa.Jw
set_option maxRecDepth 100000
set_option linter.unusedVariables false
set_option linter.unusedSimpArgs false

theorem clone78 {lf : Nat} {h : List Ob} {v : V} {ms : List Int} (s : Sl 1 h v (bv ms)) (hl : ms.length ≤ 140737488355328) : To2 (F78 lf v h) (New h (bv ms)) := by
  have hr : roomMax = 140737488355328 := rfl
  have e : ∃ b : Bool, er (.eq false .slice (.c v) (.c V.nils)) h = some (.bool b) ∧ (b = true → ms = []) := by
    have c := s.c
    cases v with
    | nils => exact ⟨true, rfl, fun _ => by simp only [conts] at c; injection c with c; have := congrArg List.length c; simp only [List.length_nil, bv_length] at this; exact List.eq_nil_of_length_eq_zero this.symm⟩
    | esl => exact ⟨false, rfl, fun q => by cases q⟩
    | sl es => exact ⟨false, rfl, fun q => by cases q⟩
    | hsl id off len =>
      have hlt := s.lt (id := id) (by simp [idsOf])
      have ha : aliveB h id = true := by
        simp only [conts] at c
        unfold aliveB
        split at c
        · rename_i e; rw [e]
        · cases c
      refine ⟨false, ?_, fun q => by cases q⟩
      simp [er, ev, evOq, x_eq, getC, evEq, isNil, ha]
    | str l => exact absurd rfl (s.ns l)
    | _ => simp [conts] at c
  obtain ⟨b, e, hb⟩ := e
  simp only [F78, e, bind1_some, castBool_bool]
  cases b with
  | true =>
    simp only [cB_true]
    rw [hb rfl]
    exact To2.some ⟨Sl.nils _ _, Ap.nils, Kp.refl _ _, fun j hj => by cases hj⟩
  | false =>
    simp only [cB_false]
    refine To2.bind2 (bslice_to (ps := []) (es := bv []) (by decide) rfl rfl rfl) ?_
    rintro x h1 ⟨-, -, sx, ax, k1, f1⟩
    refine To2.bind2 (app_to sx ax (s.kp k1).c (by simp; omega)) ?_
    intro y h2 q
    have n : New h _ y h2 := New.beh ⟨sx, ax, k1, f1⟩ q
    have e2 : bv [] ++ bv ms = bv ms := by simp [bv]
    rw [e2] at n
    exact To2.some n


/-! ### A page -/
theorem page30L (lf : Nat) {h0 : List Ob} {v : V} {c : Int} : ∀ (m k f : Nat) (h : List Ob) (ms : List Int), 512 = k + m → m < f → ms.length = 512 → Sl 1 h v (bv ms) → Ap v → Kp h0 h [] → (∀ j, j ∈ idsOf v → h0.length ≤ j) → ms.take k = List.replicate k c →
    To3 (L30_0 lf f c v (512 : Nat) k h) fun x vs h' => x = .exit 0 ∧ vs = [] ∧ New h0 (bv (List.replicate 512 c)) v h' := by
  intro m
  induction m with
  | zero =>
    intro k f h ms hk hf hl s a k0 fr ht
    obtain ⟨f, rfl⟩ : ∃ g, f = g + 1 := ⟨f - 1, by omega⟩
    have hd : decide ((k : Int) < ((512 : Nat) : Int)) = false := decide_eq_false (by omega)
    simp only [L30_0, B30_0, hd, cB_false]
    have : ms = List.replicate 512 c := by rw [← List.take_of_length_le (l := ms) (i := k) (by omega), ht]; congr 1; omega
    rw [this] at s
    exact To3.some ⟨rfl, rfl, s, a, k0, fr⟩
  | succ m ih =>
    intro k f h ms hk hf hl s a k0 fr ht
    obtain ⟨f, rfl⟩ : ∃ g, f = g + 1 := ⟨f - 1, by omega⟩
    have hd : decide ((k : Int) < ((512 : Nat) : Int)) = true := decide_eq_true (by omega)
    have hlt : k < ms.length := by omega
    obtain ⟨q, eq, st⟩ := s.storeAt a (k := (k : Int)) (x := .int .u8 c) (e := .int .u8 ms[k]) (by omega) (bv_get (by simp [hlt])) (by intro ds z; cases z) ⟨rfl, rfl⟩
    have hw : IntKind.i64.wrap ((k : Int) + 1) = ((k + 1 : Nat) : Int) := by rw [wrap_i64 (by omega) (by omega)]; simp
    simp only [L30_0, B30_0, hd, cB_true, eq, bind1_some, hw]
    refine To3.bind2 st ?_
    rintro u h1 ⟨s1, k1⟩
    rw [Int.toNat_natCast, bv_set] at s1
    refine ih (k + 1) f h1 (ms.set k c) (by omega) (by omega) (by simpa using hl) s1 a (k0.trans k1 (fun j hj => by cases hj) (fun j hj hlt => by have := fr j hj; omega)) fr ?_
    rw [List.take_succ_eq_append_getElem (by simpa using hlt), List.take_set_of_le (Nat.le_refl _), ht]
    simp [List.replicate_succ']
theorem page30 {lf : Nat} (hf : 1000 < lf) {h : List Ob} {c : Int} : To2 (F30 lf c h) (New h (bv (List.replicate 512 c))) := by
  simp only [F30]
  refine To2.bind2 (mk_to (by decide) (by decide)) ?_
  rintro v h1 ⟨s, a, k, fr⟩
  have s' : Sl 1 h1 v (bv (List.replicate 512 0)) := by simpa [bv] using s
  have hl : ((bv (List.replicate 512 0)).length : Int) = 512 := by simp
  simp only [er_lenL s', hl, bind1_some, castInt_int]
  refine To2.bind3 (page30L lf 512 0 lf h1 (List.replicate 512 0) rfl (by omega) (by simp) s' a k fr rfl) ?_
  rintro x vs h2 ⟨rfl, rfl, n⟩
  simp only [decide_true, cB_true, castNil_nil]
  exact To2.some n
end Go.Proofs.Ytdcdmpgigmhhpaa.Jb
