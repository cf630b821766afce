/- Functions of the program as Lean functions, and that each call comes to what its function says. Printed by my own tool. No condition. -/
import Derived.Test.YtdcdmpgigmhhpaaRo
import Derived.Test.YtdcdmpgigmhhpaaE36
import Derived.Test.YtdcdmpgigmhhpaaRcs
namespace Go.Proofs.Ytdcdmpgigmhhpaa.Ro
open Go Go.Proofs.Ytdcdmpgigmhhpaa.E
open Go.Proofs.Ytdcdmpgigmhhpaa.Va
open Go.Proofs.Ytdcdmpgigmhhpaa.Rc
set_option maxRecDepth 100000
set_option linter.unusedVariables false
set_option linter.unusedSimpArgs false

/-! 10: wainscot/wainscotlaw03.RecordOnce -/
def A10 : List (Nat × Sh) := [(1, (.int .u64)), (2, (.int .u8)), (6, .bool), (8, (.int .i64)), (10, (.int .i64)), (12, (.int .i64)), (13, .bool), (14, .bool), (15, .bool), (17, (.int .i64)), (18, .bool), (19, .bool), (20, .bool), (21, (.tup [.any, (.int .i64)])), (23, (.tup [.any, (.int .i64)])), (25, (.int .i64)), (26, (.int .i64)), (27, .bool), (28, .bool), (30, (.int .i64)), (31, .bool), (32, .bool), (33, (.int .i64)), (34, .bool), (36, (.int .u64)), (38, (.int .i64)), (39, (.int .u64)), (40, (.int .u64)), (42, (.int .u8)), (43, (.int .u8)), (44, (.int .u8)), (46, (.tup [.any, (.int .i64)])), (48, (.tup [.any, (.int .i64)])), (50, (.int .i64)), (51, (.int .i64)), (52, .bool), (53, (.int .i64)), (54, .bool), (55, (.tup [.any, (.int .i64)])), (57, (.tup [.any, (.int .i64)])), (59, (.int .i64)), (60, (.int .i64)), (61, .bool), (62, .bool), (64, .str), (66, .str), (67, .bool), (68, .bool)]
noncomputable def call10 (lf : Nat) : CallS := callC 39 (W39 lf) (callC 37 (W37 lf) (callC 36 (W36 lf) (callN)))
theorem call10_ok (lf : Nat) : CallOk Go.Proofs.Try.prog (call10 lf) := callC_ok (W39_ok lf) (callC_ok (W37_ok lf) (callC_ok (W36_ok lf) (callN_ok)))
def o10_0 : Outs := [(.ret, [6], [.bool]), (.normal, [], [])]
def k10_0 : KC := (.seq (.reg [⟨(some 26), none, (.op (.mv (.t 8))), []⟩, ⟨(some 27), none, (.op (.bin .neq (.t 26) (.c (.int .i64 0)))), []⟩, ⟨(some 28), none, (.op (.mv (.t 27))), []⟩, ⟨(some 29), (some (28, false)), (.op (.mv (.t 7))), []⟩, ⟨(some 30), (some (28, false)), (.op (.lenL (.t 29))), []⟩, ⟨(some 31), (some (28, false)), (.op (.bin .eql (.t 30) (.c (.int .i64 0)))), []⟩, ⟨(some 32), none, (.op (.pick (.t 28) (.c (.bool true)) (.t 31))), []⟩]) (.cond (.t 32) (.seq (.reg [⟨(some 33), none, (.op (.mv (.t 8))), []⟩, ⟨(some 34), none, (.op (.bin .neq (.t 33) (.c (.int .i64 0)))), []⟩, ⟨(some 6), none, (.op (.mv (.t 34))), []⟩]) .ret) .skip))
def w10_0 (f : V → Int → List Ob → SubR) (vs : List V) (h : List Ob) : SubR := castCons vs fun c1 l1 => castCons l1 fun c2 l2 => castInt .i64 c2 fun n3 => castNil l2 (f c1 n3 h)
noncomputable def S10_0 (lf : Nat) (b : V) (e : Int) (h : List Ob) : SubR :=
cB (e != (0)) (
some (.ret, [(.bool (e != (0)))], h)) (
bind1 (er (.lenL (.c b)) h) fun v =>
castInt .i64 v fun x30 =>
cB (x30 == (0)) (
some (.ret, [(.bool (e != (0)))], h)) (
some (.normal, [], h)))
theorem S10_0_eq (lf : Nat) (b : V) (e : Int) (h : List Ob) : evCK A10 ⟨call10 lf, cvN, subN⟩ k10_0 [(7, b), (8, (.int .i64 e))] h (endK o10_0) = S10_0 lf b e h := by kernel_rfl
theorem S10_0_ok (lf : Nat) : SubOk Go.Proofs.Try.prog k10_0.er [7, 8] o10_0 (w10_0 (S10_0 lf)) := by
  refine SubOk.of (A := A10) (σ := ⟨call10 lf, cvN, subN⟩) (c := k10_0) (call10_ok lf) cvN_ok (And.intro True.intro (And.intro (And.intro True.intro True.intro) True.intro)) ?_
  intro vs h r e0
  simp only [w10_0] at e0
  obtain ⟨c1, l1, rfl, e1⟩ := castCons_inv e0
  obtain ⟨c2, l2, rfl, e2⟩ := castCons_inv e1
  obtain ⟨y1, rfl, e3⟩ := castInt_inv e2
  obtain ⟨rfl, e4⟩ := castNil_inv e3
  have e := e4
  exact (S10_0_eq lf c1 y1 h).trans e
def o10_1 : Outs := [(.ret, [6], [.bool]), (.normal, [], [])]
def k10_1 : KC := (.seq (.reg [⟨(some 13), none, (.call 36 []), []⟩, ⟨(some 14), none, (.op (.un .not (.t 13))), []⟩, ⟨(some 15), none, (.op (.mv (.t 14))), []⟩, ⟨(some 16), (some (15, false)), (.op (.mv (.t 0))), []⟩, ⟨(some 17), (some (15, false)), (.op (.lenL (.t 16))), []⟩, ⟨(some 18), (some (15, false)), (.op (.bin .gtr (.t 17) (.c (.int .i64 1000)))), []⟩, ⟨(some 19), none, (.op (.pick (.t 15) (.c (.bool true)) (.t 18))), []⟩]) (.cond (.t 19) (.seq (.reg [⟨(some 20), none, (.call 36 []), []⟩, ⟨(some 6), none, (.op (.mv (.t 20))), []⟩]) .ret) .skip))
def w10_1 (f : V → List Ob → SubR) (vs : List V) (h : List Ob) : SubR := castCons vs fun c1 l1 => castNil l1 (f c1 h)
noncomputable def S10_1 (lf : Nat) (row : V) (h : List Ob) : SubR :=
bind2 (F36 lf h) fun v h_ =>
castBool v fun x13 =>
cB (!x13) (
bind2 (F36 lf h_) fun v1 h_1 =>
castBool v1 fun x20 =>
some (.ret, [(.bool x20)], h_1)) (
bind1 (er (.lenL (.c row)) h_) fun v1 =>
castInt .i64 v1 fun x17 =>
cB (decide (x17 > (1000))) (
bind2 (F36 lf h_) fun v2 h_1 =>
castBool v2 fun x20 =>
some (.ret, [(.bool x20)], h_1)) (
some (.normal, [], h_)))
theorem S10_1_eq (lf : Nat) (row : V) (h : List Ob) : evCK A10 ⟨call10 lf, cvN, subN⟩ k10_1 [(0, row)] h (endK o10_1) = S10_1 lf row h := by kernel_rfl
theorem S10_1_ok (lf : Nat) : SubOk Go.Proofs.Try.prog k10_1.er [0] o10_1 (w10_1 (S10_1 lf)) := by
  refine SubOk.of (A := A10) (σ := ⟨call10 lf, cvN, subN⟩) (c := k10_1) (call10_ok lf) cvN_ok (And.intro True.intro (And.intro (And.intro True.intro True.intro) True.intro)) ?_
  intro vs h r e0
  simp only [w10_1] at e0
  obtain ⟨c1, l1, rfl, e1⟩ := castCons_inv e0
  obtain ⟨rfl, e2⟩ := castNil_inv e1
  have e := e2
  exact (S10_1_eq lf c1 h).trans e
def k10 : KC := (.seq (.reg [⟨(some 6), none, (.op (.mv (.c (.bool false)))), []⟩]) (.seq (.sub 1 k10_1.er [0] o10_1) (.seq (.reg [⟨(some 22), none, (.op (.mv (.t 0))), []⟩, ⟨(some 23), none, (.call 37 [(.t 22)]), []⟩, ⟨(some 21), none, (.op (.mv (.t 23))), []⟩, ⟨(some 24), none, (.op (.ext 0 (.t 21))), []⟩, ⟨(some 25), none, (.op (.ext 1 (.t 21))), []⟩, ⟨(some 7), none, (.op (.mv (.t 24))), []⟩, ⟨(some 8), none, (.op (.mv (.t 25))), []⟩]) (.seq (.sub 0 k10_0.er [7, 8] o10_0) (.seq (.reg [⟨(some 35), none, (.op (.mv (.t 7))), []⟩, ⟨(some 36), none, (.op (.mv (.t 1))), []⟩, ⟨(some 37), none, (.op (.mv (.t 7))), []⟩, ⟨(some 38), none, (.op (.lenL (.t 37))), []⟩, ⟨(some 39), none, (.op (.toInt .u64 (.t 38))), []⟩, ⟨(some 40), none, (.op (.bin .rem (.t 36) (.t 39))), []⟩, ⟨(some 41), none, (.op (.iaddrL 1 (.t 35) (.t 40))), []⟩, ⟨(some 42), none, (.op (.load1 (.t 41))), []⟩, ⟨(some 43), none, (.op (.mv (.t 2))), []⟩, ⟨(some 44), none, (.op (.bin .xor (.t 42) (.t 43))), []⟩, ⟨(some 45), none, (.op (.iaddrL 1 (.t 35) (.t 40))), []⟩, ⟨none, none, (.op (.store 1 (.t 45) (.t 44))), []⟩]) (.seq (.reg [⟨(some 47), none, (.op (.mv (.t 7))), []⟩, ⟨(some 48), none, (.call 39 [(.t 47)]), []⟩, ⟨(some 46), none, (.op (.mv (.t 48))), []⟩, ⟨(some 49), none, (.op (.ext 0 (.t 46))), []⟩, ⟨(some 50), none, (.op (.ext 1 (.t 46))), []⟩, ⟨(some 9), none, (.op (.mv (.t 49))), []⟩, ⟨(some 10), none, (.op (.mv (.t 50))), []⟩]) (.seq (.seq (.reg [⟨(some 51), none, (.op (.mv (.t 10))), []⟩, ⟨(some 52), none, (.op (.bin .neq (.t 51) (.c (.int .i64 0)))), []⟩]) (.cond (.t 52) (.seq (.reg [⟨(some 53), none, (.op (.mv (.t 10))), []⟩, ⟨(some 54), none, (.op (.bin .eql (.t 53) (.c (.int .i64 2)))), []⟩, ⟨(some 6), none, (.op (.mv (.t 54))), []⟩]) .ret) .skip)) (.seq (.reg [⟨(some 56), none, (.op (.mv (.t 9))), []⟩, ⟨(some 57), none, (.call 37 [(.t 56)]), []⟩, ⟨(some 55), none, (.op (.mv (.t 57))), []⟩, ⟨(some 58), none, (.op (.ext 0 (.t 55))), []⟩, ⟨(some 59), none, (.op (.ext 1 (.t 55))), []⟩, ⟨(some 11), none, (.op (.mv (.t 58))), []⟩, ⟨(some 12), none, (.op (.mv (.t 59))), []⟩]) (.seq (.reg [⟨(some 60), none, (.op (.mv (.t 12))), []⟩, ⟨(some 61), none, (.op (.bin .eql (.t 60) (.c (.int .i64 0)))), []⟩, ⟨(some 62), none, (.op (.mv (.t 61))), []⟩, ⟨(some 63), (some (62, true)), (.op (.mv (.t 11))), []⟩, ⟨(some 64), (some (62, true)), (.op (.toStr (.t 63))), []⟩, ⟨(some 65), (some (62, true)), (.op (.mv (.t 7))), []⟩, ⟨(some 66), (some (62, true)), (.op (.toStr (.t 65))), []⟩, ⟨(some 67), (some (62, true)), (.op (.bin .eql (.t 64) (.t 66))), []⟩, ⟨(some 68), none, (.op (.pick (.t 62) (.t 67) (.c (.bool false)))), []⟩, ⟨(some 6), none, (.op (.mv (.t 68))), []⟩]) .ret)))))))))
noncomputable def F10 (lf : Nat) (row : V) (at_ : Int) (by_ : Int) (h : List Ob) : Option (V × List Ob) :=
bind3 (S10_1 lf row h) fun ex vs h_ =>
cB (decide (ex = .ret)) (
castCons vs fun c l =>
castBool c fun x6 =>
castNil l (
some ((.bool x6), h_))) (
cB (decide (ex = .normal)) (
castNil vs (
bind2 (F37 lf row h_) fun v h_1 =>
castTup v fun l =>
castCons l fun x23_0 l1 =>
castCons l1 fun c l2 =>
castInt .i64 c fun x23_1 =>
castNil l2 (
bind3 (S10_0 lf x23_0 x23_1 h_1) fun ex1 vs1 h_2 =>
cB (decide (ex1 = .ret)) (
castCons vs1 fun c1 l3 =>
castBool c1 fun x6 =>
castNil l3 (
some ((.bool x6), h_2))) (
cB (decide (ex1 = .normal)) (
castNil vs1 (
bind1 (er (.lenL (.c x23_0)) h_2) fun v1 =>
castInt .i64 v1 fun x38 =>
bind1 (er (.bin .rem (.c (.int .u64 at_)) (.c (.int .u64 (IntKind.u64.wrap x38)))) h_2) fun v2 =>
castInt .u64 v2 fun x40 =>
bind1 (er (.iaddrL 1 (.c x23_0) (.c (.int .u64 x40))) h_2) fun x41 =>
bind1 (er (.load1 (.c x41)) h_2) fun v3 =>
castInt .u8 v3 fun x42 =>
bind1 (er (.iaddrL 1 (.c x23_0) (.c (.int .u64 x40))) h_2) fun x45 =>
bind2 (ev (.store 1 (.c x45) (.c (.int .u8 (bits .xor .u8 x42 by_)))) h_2) fun u h_3 =>
bind2 (F39 lf x23_0 h_3) fun v4 h_4 =>
castTup v4 fun l3 =>
castCons l3 fun x48_0 l4 =>
castCons l4 fun c1 l5 =>
castInt .i64 c1 fun x48_1 =>
castNil l5 (
cB (x48_1 != (0)) (
some ((.bool (x48_1 == (2))), h_4)) (
bind2 (F37 lf x48_0 h_4) fun v5 h_5 =>
castTup v5 fun l6 =>
castCons l6 fun x57_0 l7 =>
castCons l7 fun c2 l8 =>
castInt .i64 c2 fun x57_1 =>
castNil l8 (
cB (x57_1 == (0)) (
bind1 (er (.toStr (.c x57_0)) h_5) fun v6 =>
castStr v6 fun x64 =>
bind1 (er (.toStr (.c x23_0)) h_5) fun v7 =>
castStr v7 fun x66 =>
some ((.bool (x64 == x66)), h_5)) (
some ((.bool false), h_5))))))) (
none))))) (
none))
theorem F10_eq (lf : Nat) (row : V) (at_ : Int) (by_ : Int) (h : List Ob) : evCK A10 ⟨call10 lf, cvN, subC 0 (w10_0 (S10_0 lf)) (subC 1 (w10_1 (S10_1 lf)) (subN))⟩ k10 (entryK [row, (.int .u64 at_), (.int .u8 by_)]) h (endF c10.res) = F10 lf row at_ by_ h := by kernel_rfl
theorem F10_ok (lf : Nat) (row : V) (at_ : Int) (by_ : Int) (h : List Ob) (r_ : V) (h_r : List Ob) (e_ : F10 lf row at_ by_ h = some (r_, h_r)) : CD Go.Proofs.Try.prog 10 [row, (.int .u64 at_), (.int .u8 by_)] h r_ h_r :=
  CD.ofK (A := A10) (σ := ⟨call10 lf, cvN, subC 0 (w10_0 (S10_0 lf)) (subC 1 (w10_1 (S10_1 lf)) (subN))⟩) (c := k10) Go.Proofs.Try.func10 ok10 en10 (show 3 ≤ 69 by decide) (by kernel_rfl) (call10_ok lf) cvN_ok (And.intro True.intro (And.intro (S10_1_ok lf) (And.intro True.intro (And.intro (S10_0_ok lf) (And.intro True.intro (And.intro True.intro (And.intro (And.intro True.intro (And.intro (And.intro True.intro True.intro) True.intro)) (And.intro True.intro (And.intro True.intro True.intro))))))))) ((F10_eq lf row at_ by_ h).trans e_)
def w10 (f : V → Int → Int → List Ob → Option (V × List Ob)) (vs : List V) (h : List Ob) : Option (V × List Ob) := castCons vs fun c1 l1 => castCons l1 fun c2 l2 => castInt .u64 c2 fun n3 => castCons l2 fun c4 l4 => castInt .u8 c4 fun n5 => castNil l4 (f c1 n3 n5 h)
noncomputable def W10 (lf : Nat) : List V → List Ob → Option (V × List Ob) := w10 (F10 lf)
theorem W10_ok (lf : Nat) : ∀ args h v h', W10 lf args h = some (v, h') → CD Go.Proofs.Try.prog 10 args h v h' := by
  intro vs h r h' e0
  simp only [W10, w10] at e0
  obtain ⟨c1, l1, rfl, e1⟩ := castCons_inv e0
  obtain ⟨c2, l2, rfl, e2⟩ := castCons_inv e1
  obtain ⟨y1, rfl, e3⟩ := castInt_inv e2
  obtain ⟨c3, l3, rfl, e4⟩ := castCons_inv e3
  obtain ⟨y2, rfl, e5⟩ := castInt_inv e4
  obtain ⟨rfl, e6⟩ := castNil_inv e5
  have e := e6
  exact F10_ok lf c1 y1 y2 h r h' e

end Go.Proofs.Ytdcdmpgigmhhpaa.Ro
