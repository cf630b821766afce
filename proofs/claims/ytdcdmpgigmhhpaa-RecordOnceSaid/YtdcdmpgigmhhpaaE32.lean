/- The layer E, part 32: a loop over what has so many parts; small laws for walks by hand. No condition. -/
import Derived.Test.YtdcdmpgigmhhpaaE31
namespace Go.Proofs.Ytdcdmpgigmhhpaa.E
set_option linter.unusedSimpArgs false
set_option linter.unusedVariables false

theorem wpI_mono {P : Program} {Q Q' : Post} (hq : ∀ x t h, Q x t h → Q' x t h) : ∀ (l : List EI) (t : Nat → V) (h : List Ob), wpI P Q l t h → wpI P Q' l t h
  | [], t, h, w => hq _ _ _ w
  | i :: rest, t, h, w => by
    simp only [wpI] at w ⊢
    split at w
    · refine wpA_mono (fun s _ => rfl) w (fun v h' g => ?_)
      rw [andRe_iff] at g ⊢
      exact ⟨g.1, wpI_mono hq rest _ _ g.2⟩
    · rw [andRe_iff] at w ⊢
      exact ⟨w.1, wpI_mono hq rest _ _ w.2⟩
    · exact w.elim

theorem wpC_mono {P : Program} : ∀ (c : EC) (Q Q' : Post) (t : Nat → V) (h : List Ob), (∀ x t h, Q x t h → Q' x t h) → wpC P c Q t h → wpC P c Q' t h := by
  intro c
  induction c with
  | skip => intro Q Q' t h hq w; exact hq _ _ _ w
  | reg l => intro Q Q' t h hq w; exact wpI_mono hq l t h w
  | draw ls => intro Q Q' t h hq w l hl; exact wpI_mono hq l t h (w l hl)
  | seq a b iha ihb =>
    intro Q Q' t h hq w
    simp only [wpC] at w ⊢
    refine iha _ _ t h (fun x t h g => ?_) w
    cases x with
    | normal => exact ihb _ _ _ _ hq g
    | exit j => exact hq _ _ _ g
    | ret => exact hq _ _ _ g
  | cond c a b iha ihb =>
    intro Q Q' t h hq w
    simp only [wpC] at w ⊢
    split at w
    · exact iha _ _ _ _ hq w
    · exact ihb _ _ _ _ hq w
    · exact w
  | block id a ih =>
    intro Q Q' t h hq w
    simp only [wpC] at w ⊢
    refine ih _ _ t h (fun x t h g => ?_) w
    cases x with
    | normal => exact hq _ _ _ g
    | ret => exact hq _ _ _ g
    | exit j =>
      simp only [blockQ] at g ⊢
      split at g
      · rename_i hj; rw [if_pos hj]; exact hq _ _ _ g
      · rename_i hj; rw [if_neg hj]; exact hq _ _ _ g
  | loop a ih =>
    intro Q Q' t h hq w
    simp only [wpC] at w ⊢
    obtain ⟨I, h0, hr⟩ := w
    refine ⟨I, h0, fun m t h hi => ih _ _ t h (fun x t h g => ?_) (hr m t h hi)⟩
    cases x with
    | normal => exact g
    | exit j => exact hq _ _ _ g
    | ret => exact hq _ _ _ g
  | exit id => intro Q Q' t h hq w; exact hq _ _ _ w
  | ret => intro Q Q' t h hq w; exact hq _ _ _ w

def rangeL (b c ti tn tc ts : Nat) (body : EC) : EC := .block b (.loop (.seq (.reg [⟨some tc, none, .op (.bin .lss (.t ti) (.t tn)), []⟩]) (.seq (.cond (.t tc) .skip (.exit b)) (.seq (.block c body) (.reg [⟨some ts, none, .op (.bin .add (.t ti) (.c (.int .i64 1))), []⟩, ⟨some ti, none, .op (.mv (.t ts)), []⟩])))))

/-- What the body must bring: the next round, or an end. -/
def nextQ (b c ti tn ts : Nat) (N k : Nat) (Inv : Nat → (Nat → V) → List Ob → Prop) (Q : Post) : Post := fun x t h => match x with
  | .normal => t ti = .int .i64 k ∧ t tn = .int .i64 N ∧ Inv (k + 1) (upd (upd t ts (.int .i64 ((k + 1 : Nat) : Int))) ti (.int .i64 ((k + 1 : Nat) : Int))) h
  | .exit j => if j = c then (t ti = .int .i64 k ∧ t tn = .int .i64 N ∧ Inv (k + 1) (upd (upd t ts (.int .i64 ((k + 1 : Nat) : Int))) ti (.int .i64 ((k + 1 : Nat) : Int))) h) else if j = b then Q .normal t h else Q (.exit j) t h
  | .ret => Q .ret t h

theorem wrap_i64 {n : Int} (h1 : -9223372036854775808 ≤ n) (h2 : n ≤ 9223372036854775807) : IntKind.i64.wrap n = n := by
  simp only [IntKind.wrap, IntKind.signed, IntKind.bits, Bool.true_and, decide_eq_true_eq, ge_iff_le]
  have e : (2 : Int) ^ 64 = 18446744073709551616 := by decide
  have e2 : (2 : Int) ^ (64 - 1) = 9223372036854775808 := by decide
  simp only [e, e2]
  split <;> omega

theorem wpC_rangeL {P : Program} {Q : Post} {b c ti tn tc ts : Nat} {body : EC} (d1 : ti ≠ tn) (d2 : tc ≠ ti) (d3 : tc ≠ tn) (d4 : ts ≠ ti) (d5 : ts ≠ tn) {N : Nat} (hN : N ≤ 9223372036854775807) (Inv : Nat → (Nat → V) → List Ob → Prop)
    {t : Nat → V} {h : List Ob} (k0 : Nat) (ht : t ti = .int .i64 k0) (hn : t tn = .int .i64 N) (hk : k0 ≤ N) (hinv : Inv k0 t h)
    (round : ∀ k t h, k < N → t ti = .int .i64 k → t tn = .int .i64 N → Inv k t h → wpC P body (nextQ b c ti tn ts N k Inv Q) (upd t tc (.bool true)) h)
    (done : ∀ t h, t ti = .int .i64 N → t tn = .int .i64 N → Inv N t h → Q .normal (upd t tc (.bool false)) h) : wpC P (rangeL b c ti tn tc ts body) Q t h := by
  unfold rangeL
  simp only [wpC]
  refine ⟨fun m t h => ∃ k, k ≤ N ∧ m = N - k ∧ t ti = .int .i64 k ∧ t tn = .int .i64 N ∧ Inv k t h, ⟨N - k0, k0, hk, rfl, ht, hn, hinv⟩, ?_⟩
  rintro m t h ⟨k, hk, rfl, ht, hn, hi⟩
  have hcmp : evOp (.bin .lss (.t ti) (.t tn)) t h = some (.bool (decide ((k : Int) < N)), h) := by
    simp only [evOp, EO.get, ht, hn]; rfl
  simp only [wpI, wantE, wpA, hcmp, ifSome_some, andRe, putT, thenQ]
  have htc : EO.get (upd t tc (.bool (decide ((k : Int) < N)))) (.t tc) = .bool (decide ((k : Int) < N)) := by simp [EO.get, upd]
  rw [htc]
  by_cases hlt : k < N
  · have hd : decide ((k : Int) < N) = true := by simpa using hlt
    rw [hd]
    simp only
    have fin : ∀ t' h', t' ti = .int .i64 k → t' tn = .int .i64 N → Inv (k + 1) (upd (upd t' ts (.int .i64 ((k + 1 : Nat) : Int))) ti (.int .i64 ((k + 1 : Nat) : Int))) h' →
        wpI P (thenQ (fun t' h' => ∃ m', m' < N - k ∧ ∃ k, k ≤ N ∧ m' = N - k ∧ t' ti = .int .i64 k ∧ t' tn = .int .i64 N ∧ Inv k t' h') (blockQ b Q)) [⟨some ts, none, .op (.bin .add (.t ti) (.c (.int .i64 1))), []⟩, ⟨some ti, none, .op (.mv (.t ts)), []⟩] t' h' := by
      intro t' h' g1 g2 g3
      have hadd : evOp (.bin .add (.t ti) (.c (.int .i64 1))) t' h' = some (.int .i64 ((k + 1 : Nat) : Int), h') := by
        simp only [evOp, EO.get, g1, evBin, evInt, if_true, Option.map_some]
        rw [wrap_i64 (by omega) (by omega)]
        rfl
      simp only [wpI, wantE, wpA, hadd, ifSome_some, andRe, putT, thenQ]
      have hmv : evOp (.mv (.t ts)) (upd t' ts (.int .i64 ((k + 1 : Nat) : Int))) h' = some (.int .i64 ((k + 1 : Nat) : Int), h') := by
        simp [evOp, EO.get, upd]
      simp only [hmv, ifSome_some]
      refine ⟨N - (k + 1), by omega, k + 1, by omega, rfl, by simp [upd], ?_, g3⟩
      simp only [upd]
      rw [if_neg (fun q => d1 q.symm), if_neg (fun q => d5 q.symm)]
      exact g2
    refine wpC_mono _ _ _ _ _ (fun x t' h' g => ?_) (round k t h hlt ht hn hi)
    cases x with
    | normal => exact fin _ _ g.1 g.2.1 g.2.2
    | exit j =>
      simp only [nextQ] at g
      simp only [blockQ]
      by_cases hj : j = c
      · rw [if_pos hj] at g ⊢
        exact fin _ _ g.1 g.2.1 g.2.2
      · rw [if_neg hj] at g ⊢
        simp only [thenQ, blockQ]
        exact g
    | ret => exact g
  · have hd : decide ((k : Int) < N) = false := by
      rw [decide_eq_false_iff_not]; omega
    rw [hd]
    simp only [blockQ, if_true]
    have hkN : k = N := by omega
    subst hkN
    exact done t h ht hn hi

end Go.Proofs.Ytdcdmpgigmhhpaa.E
