/- Functions of the program as Lean functions, and that each call comes to what its function says. Printed by my own tool. No condition. -/
import Derived.Test.YtdcdmpgigmhhpaaVp
import Derived.Test.YtdcdmpgigmhhpaaE36
import Derived.Test.YtdcdmpgigmhhpaaVas
namespace Go.Proofs.Ytdcdmpgigmhhpaa.Vp
open Go Go.Proofs.Ytdcdmpgigmhhpaa.E
open Go.Proofs.Ytdcdmpgigmhhpaa.Va
set_option maxRecDepth 100000
set_option linter.unusedVariables false
set_option linter.unusedSimpArgs false

/-! 6: wainscot/wainscotlaw02.VarintAppends -/
def A6 : List (Nat × Sh) := [(1, (.int .u64)), (2, (.int .i64)), (8, .bool), (9, .str), (10, .str), (11, (.int .u64)), (12, (.int .i64)), (13, (.int .i64)), (14, (.int .i64)), (15, (.int .i64)), (16, (.int .i64)), (17, .bool), (18, .bool), (19, (.int .u64)), (21, .str), (22, (.int .i64)), (24, .str), (25, (.tup [(.int .u64), (.int .i64), (.int .i64)])), (26, .str), (30, (.tup [(.int .u64), (.int .i64), (.int .i64)])), (31, (.int .u64)), (32, (.int .i64)), (33, (.int .i64)), (34, (.tup [(.int .i64), (.int .i64), (.int .i64)])), (35, .str), (39, (.tup [(.int .i64), (.int .i64), (.int .i64)])), (40, (.int .i64)), (41, (.int .i64)), (42, (.int .i64)), (44, (.int .u64)), (46, .str), (48, .str), (49, .str), (50, .str), (51, .bool), (52, .bool), (54, (.int .i64)), (56, .str), (58, .str), (59, .str), (60, .str), (61, .bool), (62, .bool), (63, .bool), (64, (.int .u64)), (65, (.int .u64)), (66, .bool), (67, .bool), (68, .bool), (69, (.int .i64)), (70, .str), (71, (.int .i64)), (72, .bool), (73, .bool), (74, .bool), (75, (.int .i64)), (76, .bool), (77, .bool), (78, .bool), (79, (.int .i64)), (80, (.int .i64)), (81, .bool), (82, .bool), (83, .bool), (84, (.int .i64)), (85, .str), (86, (.int .i64)), (87, .bool), (88, .bool), (89, .bool), (90, (.int .i64)), (91, .bool), (92, .bool)]
noncomputable def call6 (lf : Nat) : CallS := callC 29 (W29 lf) (callC 28 (W28 lf) (callC 27 (W27 lf) (callC 26 (W26 lf) (callC 17 (W17 lf) (callC 15 (W15 lf) (callC 14 (W14 lf) (callN)))))))
theorem call6_ok (lf : Nat) : CallOk Go.Proofs.Try.prog (call6 lf) := callC_ok (W29_ok lf) (callC_ok (W28_ok lf) (callC_ok (W27_ok lf) (callC_ok (W26_ok lf) (callC_ok (W17_ok lf) (callC_ok (W15_ok lf) (callC_ok (W14_ok lf) (callN_ok)))))))
def k6 : KC := (.seq (.reg [⟨(some 8), none, (.op (.mv (.c (.bool false)))), []⟩]) (.seq (.seq (.reg [⟨(some 17), none, (.call 14 []), []⟩, ⟨(some 18), none, (.op (.un .not (.t 17))), []⟩]) (.cond (.t 18) (.seq (.reg [⟨(some 8), none, (.op (.mv (.c (.bool false)))), []⟩]) .ret) .skip)) (.seq (.reg [⟨(some 19), none, (.op (.mv (.t 1))), []⟩, ⟨(some 22), none, (.op (.mv (.t 2))), []⟩, ⟨(some 20), none, (.call 27 [(.t 19)]), []⟩, ⟨(some 21), none, (.op (.toStr (.t 20))), []⟩, ⟨(some 23), none, (.call 28 [(.t 22)]), [⟨(some 21), none, (.op (.toStr (.t 20)))⟩]⟩, ⟨(some 24), none, (.op (.toStr (.t 23))), []⟩, ⟨(some 9), none, (.op (.mv (.t 21))), []⟩, ⟨(some 10), none, (.op (.mv (.t 24))), []⟩]) (.seq (.reg [⟨(some 26), none, (.op (.mv (.t 9))), []⟩, ⟨(some 27), none, (.op (.toBytes (.t 26))), []⟩, ⟨(some 28), none, (.op (.mv (.t 3))), []⟩, ⟨(some 29), none, (.op (.app 1 1 (.t 27) (.t 28))), []⟩, ⟨(some 30), none, (.call 15 [(.t 29)]), []⟩, ⟨(some 25), none, (.op (.mv (.t 30))), []⟩, ⟨(some 31), none, (.op (.ext 0 (.t 25))), []⟩, ⟨(some 32), none, (.op (.ext 1 (.t 25))), []⟩, ⟨(some 33), none, (.op (.ext 2 (.t 25))), []⟩, ⟨(some 11), none, (.op (.mv (.t 31))), []⟩, ⟨(some 12), none, (.op (.mv (.t 32))), []⟩, ⟨(some 13), none, (.op (.mv (.t 33))), []⟩]) (.seq (.reg [⟨(some 35), none, (.op (.mv (.t 10))), []⟩, ⟨(some 36), none, (.op (.toBytes (.t 35))), []⟩, ⟨(some 37), none, (.op (.mv (.t 3))), []⟩, ⟨(some 38), none, (.op (.app 1 1 (.t 36) (.t 37))), []⟩, ⟨(some 39), none, (.call 17 [(.t 38)]), []⟩, ⟨(some 34), none, (.op (.mv (.t 39))), []⟩, ⟨(some 40), none, (.op (.ext 0 (.t 34))), []⟩, ⟨(some 41), none, (.op (.ext 1 (.t 34))), []⟩, ⟨(some 42), none, (.op (.ext 2 (.t 34))), []⟩, ⟨(some 14), none, (.op (.mv (.t 40))), []⟩, ⟨(some 15), none, (.op (.mv (.t 41))), []⟩, ⟨(some 16), none, (.op (.mv (.t 42))), []⟩]) (.seq (.reg [⟨(some 43), none, (.op (.mv (.t 0))), []⟩, ⟨(some 44), none, (.op (.mv (.t 1))), []⟩, ⟨(some 47), none, (.op (.mv (.t 0))), []⟩, ⟨(some 48), none, (.op (.toStr (.t 47))), []⟩, ⟨(some 49), none, (.op (.mv (.t 9))), []⟩, ⟨(some 50), none, (.op (.bin .add (.t 48) (.t 49))), []⟩, ⟨(some 45), none, (.call 26 [(.t 43), (.t 44)]), [⟨(some 48), none, (.op (.toStr (.t 47)))⟩]⟩, ⟨(some 46), none, (.op (.toStr (.t 45))), []⟩, ⟨(some 51), none, (.op (.bin .eql (.t 46) (.t 50))), []⟩, ⟨(some 52), none, (.op (.mv (.t 51))), []⟩, ⟨(some 53), (some (52, true)), (.op (.mv (.t 0))), []⟩, ⟨(some 54), (some (52, true)), (.op (.mv (.t 2))), []⟩, ⟨(some 57), (some (52, true)), (.op (.mv (.t 0))), []⟩, ⟨(some 58), (some (52, true)), (.op (.toStr (.t 57))), []⟩, ⟨(some 59), (some (52, true)), (.op (.mv (.t 10))), []⟩, ⟨(some 60), (some (52, true)), (.op (.bin .add (.t 58) (.t 59))), []⟩, ⟨(some 55), (some (52, true)), (.call 29 [(.t 53), (.t 54)]), [⟨(some 58), (some (52, true)), (.op (.toStr (.t 57)))⟩]⟩, ⟨(some 56), (some (52, true)), (.op (.toStr (.t 55))), []⟩, ⟨(some 61), (some (52, true)), (.op (.bin .eql (.t 56) (.t 60))), []⟩, ⟨(some 62), none, (.op (.pick (.t 52) (.t 61) (.c (.bool false)))), []⟩, ⟨(some 63), none, (.op (.mv (.t 62))), []⟩, ⟨(some 64), (some (63, true)), (.op (.mv (.t 11))), []⟩, ⟨(some 65), (some (63, true)), (.op (.mv (.t 1))), []⟩, ⟨(some 66), (some (63, true)), (.op (.bin .eql (.t 64) (.t 65))), []⟩, ⟨(some 67), none, (.op (.pick (.t 63) (.t 66) (.c (.bool false)))), []⟩, ⟨(some 68), none, (.op (.mv (.t 67))), []⟩, ⟨(some 69), (some (68, true)), (.op (.mv (.t 12))), []⟩, ⟨(some 70), (some (68, true)), (.op (.mv (.t 9))), []⟩, ⟨(some 71), (some (68, true)), (.op (.lenS (.t 70))), []⟩, ⟨(some 72), (some (68, true)), (.op (.bin .eql (.t 69) (.t 71))), []⟩, ⟨(some 73), none, (.op (.pick (.t 68) (.t 72) (.c (.bool false)))), []⟩, ⟨(some 74), none, (.op (.mv (.t 73))), []⟩, ⟨(some 75), (some (74, true)), (.op (.mv (.t 13))), []⟩, ⟨(some 76), (some (74, true)), (.op (.bin .eql (.t 75) (.c (.int .i64 0)))), []⟩, ⟨(some 77), none, (.op (.pick (.t 74) (.t 76) (.c (.bool false)))), []⟩, ⟨(some 78), none, (.op (.mv (.t 77))), []⟩, ⟨(some 79), (some (78, true)), (.op (.mv (.t 14))), []⟩, ⟨(some 80), (some (78, true)), (.op (.mv (.t 2))), []⟩, ⟨(some 81), (some (78, true)), (.op (.bin .eql (.t 79) (.t 80))), []⟩, ⟨(some 82), none, (.op (.pick (.t 78) (.t 81) (.c (.bool false)))), []⟩, ⟨(some 83), none, (.op (.mv (.t 82))), []⟩, ⟨(some 84), (some (83, true)), (.op (.mv (.t 15))), []⟩, ⟨(some 85), (some (83, true)), (.op (.mv (.t 10))), []⟩, ⟨(some 86), (some (83, true)), (.op (.lenS (.t 85))), []⟩, ⟨(some 87), (some (83, true)), (.op (.bin .eql (.t 84) (.t 86))), []⟩, ⟨(some 88), none, (.op (.pick (.t 83) (.t 87) (.c (.bool false)))), []⟩, ⟨(some 89), none, (.op (.mv (.t 88))), []⟩, ⟨(some 90), (some (89, true)), (.op (.mv (.t 16))), []⟩, ⟨(some 91), (some (89, true)), (.op (.bin .eql (.t 90) (.c (.int .i64 0)))), []⟩, ⟨(some 92), none, (.op (.pick (.t 89) (.t 91) (.c (.bool false)))), []⟩, ⟨(some 8), none, (.op (.mv (.t 92))), []⟩]) .ret))))))
noncomputable def F6 (lf : Nat) (b : V) (n_ : Int) (s : Int) (behind : V) (h : List Ob) : Option (V × List Ob) :=
bind2 (F14 lf h) fun v h_ =>
castBool v fun x17 =>
cB (!x17) (
some ((.bool false), h_)) (
bind2 (F27 lf n_ h_) fun x20 h_1 =>
bind1 (er (.toStr (.c x20)) h_1) fun v1 =>
castStr v1 fun x21 =>
bind2 (F28 lf s h_1) fun x23 h_2 =>
reP (er (.toStr (.c x20)) h_2 = some (.str x21)) (
bind1 (er (.toStr (.c x23)) h_2) fun v2 =>
castStr v2 fun x24 =>
bind2 (ev (.toBytes (.c (.str x21))) h_2) fun x27 h_3 =>
bind2 (ev (.app 1 1 (.c x27) (.c behind)) h_3) fun x29 h_4 =>
bind2 (F15 lf x29 h_4) fun v3 h_5 =>
castTup v3 fun l =>
castCons l fun c l1 =>
castInt .u64 c fun x30_0 =>
castCons l1 fun c1 l2 =>
castInt .i64 c1 fun x30_1 =>
castCons l2 fun c2 l3 =>
castInt .i64 c2 fun x30_2 =>
castNil l3 (
bind2 (ev (.toBytes (.c (.str x24))) h_5) fun x36 h_6 =>
bind2 (ev (.app 1 1 (.c x36) (.c behind)) h_6) fun x38 h_7 =>
bind2 (F17 lf x38 h_7) fun v4 h_8 =>
castTup v4 fun l4 =>
castCons l4 fun c3 l5 =>
castInt .i64 c3 fun x39_0 =>
castCons l5 fun c4 l6 =>
castInt .i64 c4 fun x39_1 =>
castCons l6 fun c5 l7 =>
castInt .i64 c5 fun x39_2 =>
castNil l7 (
bind1 (er (.toStr (.c b)) h_8) fun v5 =>
castStr v5 fun x48 =>
bind1 (er (.bin .add (.c (.str x48)) (.c (.str x21))) h_8) fun v6 =>
castStr v6 fun x50 =>
bind2 (F26 lf b n_ h_8) fun x45 h_9 =>
reP (er (.toStr (.c b)) h_9 = some (.str x48)) (
bind1 (er (.toStr (.c x45)) h_9) fun v7 =>
castStr v7 fun x46 =>
cB (x46 == x50) (
bind1 (er (.toStr (.c b)) h_9) fun v8 =>
castStr v8 fun x58 =>
bind1 (er (.bin .add (.c (.str x58)) (.c (.str x24))) h_9) fun v9 =>
castStr v9 fun x60 =>
bind2 (F29 lf b s h_9) fun x55 h_10 =>
reP (er (.toStr (.c b)) h_10 = some (.str x58)) (
bind1 (er (.toStr (.c x55)) h_10) fun v10 =>
castStr v10 fun x56 =>
cB (x56 == x60) (
cB (x30_0 == n_) (
cB (x30_1 == ((x21).length : Int)) (
cB (x30_2 == (0)) (
cB (x39_0 == s) (
cB (x39_1 == ((x24).length : Int)) (
some ((.bool (x39_2 == (0))), h_10)) (
some ((.bool false), h_10))) (
some ((.bool false), h_10))) (
some ((.bool false), h_10))) (
some ((.bool false), h_10))) (
some ((.bool false), h_10))) (
some ((.bool false), h_10)))) (
some ((.bool false), h_9)))))))
theorem F6_eq (lf : Nat) (b : V) (n_ : Int) (s : Int) (behind : V) (h : List Ob) : evCK A6 ⟨call6 lf, cvN, subN⟩ k6 (entryK [b, (.int .u64 n_), (.int .i64 s), behind]) h (endF c6.res) = F6 lf b n_ s behind h := by kernel_rfl
theorem F6_ok (lf : Nat) (b : V) (n_ : Int) (s : Int) (behind : V) (h : List Ob) (r_ : V) (h_r : List Ob) (e_ : F6 lf b n_ s behind h = some (r_, h_r)) : CD Go.Proofs.Try.prog 6 [b, (.int .u64 n_), (.int .i64 s), behind] h r_ h_r :=
  CD.ofK (A := A6) (σ := ⟨call6 lf, cvN, subN⟩) (c := k6) Go.Proofs.Try.func6 ok6 en6 (show 4 ≤ 93 by decide) (by kernel_rfl) (call6_ok lf) cvN_ok (And.intro True.intro (And.intro (And.intro True.intro (And.intro (And.intro True.intro True.intro) True.intro)) (And.intro True.intro (And.intro True.intro (And.intro True.intro (And.intro True.intro True.intro)))))) ((F6_eq lf b n_ s behind h).trans e_)
def w6 (f : V → Int → Int → V → List Ob → Option (V × List Ob)) (vs : List V) (h : List Ob) : Option (V × List Ob) := castCons vs fun c1 l1 => castCons l1 fun c2 l2 => castInt .u64 c2 fun n3 => castCons l2 fun c4 l4 => castInt .i64 c4 fun n5 => castCons l4 fun c6 l6 => castNil l6 (f c1 n3 n5 c6 h)
noncomputable def W6 (lf : Nat) : List V → List Ob → Option (V × List Ob) := w6 (F6 lf)
theorem W6_ok (lf : Nat) : ∀ args h v h', W6 lf args h = some (v, h') → CD Go.Proofs.Try.prog 6 args h v h' := by
  intro vs h r h' e0
  simp only [W6, w6] at e0
  obtain ⟨c1, l1, rfl, e1⟩ := castCons_inv e0
  obtain ⟨c2, l2, rfl, e2⟩ := castCons_inv e1
  obtain ⟨y1, rfl, e3⟩ := castInt_inv e2
  obtain ⟨c3, l3, rfl, e4⟩ := castCons_inv e3
  obtain ⟨y2, rfl, e5⟩ := castInt_inv e4
  obtain ⟨c4, l4, rfl, e6⟩ := castCons_inv e5
  obtain ⟨rfl, e7⟩ := castNil_inv e6
  have e := e7
  exact F6_ok lf c1 y1 y2 c4 h r h' e

end Go.Proofs.Ytdcdmpgigmhhpaa.Vp
