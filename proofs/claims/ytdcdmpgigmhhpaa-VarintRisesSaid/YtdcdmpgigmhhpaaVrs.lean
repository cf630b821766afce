/- Functions of the program as Lean functions, and that each call comes to what its function says. Printed by my own tool. No condition. -/
import Derived.Test.YtdcdmpgigmhhpaaVr
import Derived.Test.YtdcdmpgigmhhpaaE36
import Derived.Test.YtdcdmpgigmhhpaaVas
namespace Go.Proofs.Ytdcdmpgigmhhpaa.Vr
open Go Go.Proofs.Ytdcdmpgigmhhpaa.E
open Go.Proofs.Ytdcdmpgigmhhpaa.Va
set_option maxRecDepth 100000
set_option linter.unusedVariables false
set_option linter.unusedSimpArgs false

/-! 5: wainscot/wainscotlaw02.VarintRises -/
def A5 : List (Nat × Sh) := [(0, (.int .u64)), (1, (.int .u64)), (2, (.int .u64)), (6, .bool), (9, (.int .u64)), (10, (.int .i64)), (11, (.int .i64)), (12, .bool), (13, .bool), (14, (.int .u64)), (16, (.int .u64)), (17, (.int .u64)), (18, (.int .u64)), (21, (.int .i64)), (22, .bool), (23, (.tup [(.int .u64), (.int .i64), (.int .i64)])), (25, (.int .u64)), (27, (.int .i64)), (28, (.int .u64)), (29, (.int .u64)), (31, (.tup [(.int .u64), (.int .i64), (.int .i64)])), (32, (.int .u64)), (33, (.int .i64)), (34, (.int .i64)), (36, (.int .i64)), (38, (.int .i64)), (39, .bool), (40, .bool), (42, (.int .i64)), (43, .bool), (44, .bool), (45, .bool), (47, .str), (49, .str), (50, .bool), (51, (.int .u64)), (52, (.int .u64)), (53, .bool), (54, .bool), (55, .bool), (56, .bool), (57, (.int .i64)), (58, .bool), (59, .bool)]
noncomputable def call5 (lf : Nat) : CallS := callC 26 (W26 lf) (callC 15 (W15 lf) (callC 14 (W14 lf) (callN)))
theorem call5_ok (lf : Nat) : CallOk Go.Proofs.Try.prog (call5 lf) := callC_ok (W26_ok lf) (callC_ok (W15_ok lf) (callC_ok (W14_ok lf) (callN_ok)))
def k5 : KC := (.seq (.reg [⟨(some 6), none, (.op (.mv (.c (.bool false)))), []⟩]) (.seq (.seq (.reg [⟨(some 12), none, (.call 14 []), []⟩, ⟨(some 13), none, (.op (.un .not (.t 12))), []⟩]) (.cond (.t 13) (.seq (.reg [⟨(some 6), none, (.op (.mv (.c (.bool false)))), []⟩]) .ret) .skip)) (.seq (.reg [⟨(some 14), none, (.op (.mv (.t 0))), []⟩, ⟨(some 15), none, (.call 26 [(.c .nils), (.t 14)]), []⟩, ⟨(some 16), none, (.op (.mv (.t 0))), []⟩, ⟨(some 17), none, (.op (.mv (.t 1))), []⟩, ⟨(some 18), none, (.op (.minmax true (.t 16) (.t 17))), []⟩, ⟨(some 19), none, (.call 26 [(.c .nils), (.t 18)]), []⟩, ⟨(some 7), none, (.op (.mv (.t 15))), []⟩, ⟨(some 8), none, (.op (.mv (.t 19))), []⟩]) (.seq (.seq (.reg [⟨(some 20), none, (.op (.mv (.t 7))), []⟩, ⟨(some 21), none, (.op (.lenL (.t 20))), []⟩, ⟨(some 22), none, (.op (.bin .eql (.t 21) (.c (.int .i64 0)))), []⟩]) (.cond (.t 22) (.seq (.reg [⟨(some 6), none, (.op (.mv (.c (.bool false)))), []⟩]) .ret) .skip)) (.seq (.reg [⟨(some 24), none, (.op (.mv (.t 7))), []⟩, ⟨(some 25), none, (.op (.mv (.t 2))), []⟩, ⟨(some 26), none, (.op (.mv (.t 7))), []⟩, ⟨(some 27), none, (.op (.lenL (.t 26))), []⟩, ⟨(some 28), none, (.op (.toInt .u64 (.t 27))), []⟩, ⟨(some 29), none, (.op (.bin .rem (.t 25) (.t 28))), []⟩, ⟨(some 30), none, (.op (.slcL 1 (.t 24) none (some (.t 29)) none)), []⟩, ⟨(some 31), none, (.call 15 [(.t 30)]), []⟩, ⟨(some 23), none, (.op (.mv (.t 31))), []⟩, ⟨(some 32), none, (.op (.ext 0 (.t 23))), []⟩, ⟨(some 33), none, (.op (.ext 1 (.t 23))), []⟩, ⟨(some 34), none, (.op (.ext 2 (.t 23))), []⟩, ⟨(some 9), none, (.op (.mv (.t 32))), []⟩, ⟨(some 10), none, (.op (.mv (.t 33))), []⟩, ⟨(some 11), none, (.op (.mv (.t 34))), []⟩]) (.seq (.reg [⟨(some 35), none, (.op (.mv (.t 7))), []⟩, ⟨(some 36), none, (.op (.lenL (.t 35))), []⟩, ⟨(some 37), none, (.op (.mv (.t 8))), []⟩, ⟨(some 38), none, (.op (.lenL (.t 37))), []⟩, ⟨(some 39), none, (.op (.bin .leq (.t 36) (.t 38))), []⟩, ⟨(some 40), none, (.op (.mv (.t 39))), []⟩, ⟨(some 41), (some (40, true)), (.op (.mv (.t 8))), []⟩, ⟨(some 42), (some (40, true)), (.op (.lenL (.t 41))), []⟩, ⟨(some 43), (some (40, true)), (.op (.bin .leq (.t 42) (.c (.int .i64 10)))), []⟩, ⟨(some 44), none, (.op (.pick (.t 40) (.t 43) (.c (.bool false)))), []⟩, ⟨(some 45), none, (.op (.mv (.t 44))), []⟩, ⟨(some 46), (some (45, true)), (.op (.mv (.t 7))), []⟩, ⟨(some 47), (some (45, true)), (.op (.toStr (.t 46))), []⟩, ⟨(some 48), (some (45, true)), (.op (.mv (.t 8))), []⟩, ⟨(some 49), (some (45, true)), (.op (.toStr (.t 48))), []⟩, ⟨(some 50), (some (45, true)), (.op (.bin .eql (.t 47) (.t 49))), []⟩, ⟨(some 51), (some (45, true)), (.op (.mv (.t 0))), []⟩, ⟨(some 52), (some (45, true)), (.op (.mv (.t 1))), []⟩, ⟨(some 53), (some (45, true)), (.op (.bin .geq (.t 51) (.t 52))), []⟩, ⟨(some 54), (some (45, true)), (.op (.eq false .bool (.t 50) (.t 53))), []⟩, ⟨(some 55), none, (.op (.pick (.t 45) (.t 54) (.c (.bool false)))), []⟩, ⟨(some 56), none, (.op (.mv (.t 55))), []⟩, ⟨(some 57), (some (56, true)), (.op (.mv (.t 11))), []⟩, ⟨(some 58), (some (56, true)), (.op (.bin .eql (.t 57) (.c (.int .i64 2)))), []⟩, ⟨(some 59), none, (.op (.pick (.t 56) (.t 58) (.c (.bool false)))), []⟩, ⟨(some 6), none, (.op (.mv (.t 59))), []⟩]) .ret))))))
noncomputable def F5 (lf : Nat) (n_ : Int) (more : Int) (cut : Int) (h : List Ob) : Option (V × List Ob) :=
bind2 (F14 lf h) fun v h_ =>
castBool v fun x12 =>
cB (!x12) (
some ((.bool false), h_)) (
bind2 (F26 lf V.nils n_ h_) fun x15 h_1 =>
bind2 (F26 lf V.nils (if more > n_ then more else n_) h_1) fun x19 h_2 =>
bind1 (er (.lenL (.c x15)) h_2) fun v1 =>
castInt .i64 v1 fun x21 =>
cB (x21 == (0)) (
some ((.bool false), h_2)) (
bind1 (er (.lenL (.c x15)) h_2) fun v2 =>
castInt .i64 v2 fun x27 =>
bind1 (er (.bin .rem (.c (.int .u64 cut)) (.c (.int .u64 (IntKind.u64.wrap x27)))) h_2) fun v3 =>
castInt .u64 v3 fun x29 =>
bind1 (er (.slcL 1 (.c x15) none (some (.c (.int .u64 x29))) none) h_2) fun x30 =>
bind2 (F15 lf x30 h_2) fun v4 h_3 =>
castTup v4 fun l =>
castCons l fun c l1 =>
castInt .u64 c fun x31_0 =>
castCons l1 fun c1 l2 =>
castInt .i64 c1 fun x31_1 =>
castCons l2 fun c2 l3 =>
castInt .i64 c2 fun x31_2 =>
castNil l3 (
bind1 (er (.lenL (.c x15)) h_3) fun v5 =>
castInt .i64 v5 fun x36 =>
bind1 (er (.lenL (.c x19)) h_3) fun v6 =>
castInt .i64 v6 fun x38 =>
cB (decide (x36 ≤ x38)) (
bind1 (er (.lenL (.c x19)) h_3) fun v7 =>
castInt .i64 v7 fun x42 =>
cB (decide (x42 ≤ (10))) (
bind1 (er (.toStr (.c x15)) h_3) fun v8 =>
castStr v8 fun x47 =>
bind1 (er (.toStr (.c x19)) h_3) fun v9 =>
castStr v9 fun x49 =>
cB ((x47 == x49) == (decide (n_ ≥ more))) (
some ((.bool (x31_2 == (2))), h_3)) (
some ((.bool false), h_3))) (
some ((.bool false), h_3))) (
some ((.bool false), h_3)))))
theorem F5_eq (lf : Nat) (n_ : Int) (more : Int) (cut : Int) (h : List Ob) : evCK A5 ⟨call5 lf, cvN, subN⟩ k5 (entryK [(.int .u64 n_), (.int .u64 more), (.int .u64 cut)]) h (endF c5.res) = F5 lf n_ more cut h := by kernel_rfl
theorem F5_ok (lf : Nat) (n_ : Int) (more : Int) (cut : Int) (h : List Ob) (r_ : V) (h_r : List Ob) (e_ : F5 lf n_ more cut h = some (r_, h_r)) : CD Go.Proofs.Try.prog 5 [(.int .u64 n_), (.int .u64 more), (.int .u64 cut)] h r_ h_r :=
  CD.ofK (A := A5) (σ := ⟨call5 lf, cvN, subN⟩) (c := k5) Go.Proofs.Try.func5 ok5 en5 (show 3 ≤ 60 by decide) (by kernel_rfl) (call5_ok lf) cvN_ok (And.intro True.intro (And.intro (And.intro True.intro (And.intro (And.intro True.intro True.intro) True.intro)) (And.intro True.intro (And.intro (And.intro True.intro (And.intro (And.intro True.intro True.intro) True.intro)) (And.intro True.intro (And.intro True.intro True.intro)))))) ((F5_eq lf n_ more cut h).trans e_)
def w5 (f : Int → Int → Int → List Ob → Option (V × List Ob)) (vs : List V) (h : List Ob) : Option (V × List Ob) := castCons vs fun c1 l1 => castInt .u64 c1 fun n2 => castCons l1 fun c3 l3 => castInt .u64 c3 fun n4 => castCons l3 fun c5 l5 => castInt .u64 c5 fun n6 => castNil l5 (f n2 n4 n6 h)
noncomputable def W5 (lf : Nat) : List V → List Ob → Option (V × List Ob) := w5 (F5 lf)
theorem W5_ok (lf : Nat) : ∀ args h v h', W5 lf args h = some (v, h') → CD Go.Proofs.Try.prog 5 args h v h' := by
  intro vs h r h' e0
  simp only [W5, w5] at e0
  obtain ⟨c1, l1, rfl, e1⟩ := castCons_inv e0
  obtain ⟨y0, rfl, e2⟩ := castInt_inv e1
  obtain ⟨c2, l2, rfl, e3⟩ := castCons_inv e2
  obtain ⟨y1, rfl, e4⟩ := castInt_inv e3
  obtain ⟨c3, l3, rfl, e5⟩ := castCons_inv e4
  obtain ⟨y2, rfl, e6⟩ := castInt_inv e5
  obtain ⟨rfl, e7⟩ := castNil_inv e6
  have e := e7
  exact F5_ok lf y0 y1 y2 h r h' e

end Go.Proofs.Ytdcdmpgigmhhpaa.Vr
