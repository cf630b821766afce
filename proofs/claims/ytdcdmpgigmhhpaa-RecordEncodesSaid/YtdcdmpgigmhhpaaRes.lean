/- Functions of the program as Lean functions, and that each call comes to what its function says. Printed by my own tool. No condition. -/
import Derived.Test.YtdcdmpgigmhhpaaRe
import Derived.Test.YtdcdmpgigmhhpaaE36
import Derived.Test.YtdcdmpgigmhhpaaRcs
namespace Go.Proofs.Ytdcdmpgigmhhpaa.Re
open Go Go.Proofs.Ytdcdmpgigmhhpaa.E
open Go.Proofs.Ytdcdmpgigmhhpaa.Va
open Go.Proofs.Ytdcdmpgigmhhpaa.Rc
set_option maxRecDepth 100000
set_option linter.unusedVariables false
set_option linter.unusedSimpArgs false

/-! 9: wainscot/wainscotlaw03.RecordEncodes -/
def A9 : List (Nat × Sh) := [(2, .bool), (4, (.int .i64)), (6, (.int .i64)), (8, (.int .i64)), (9, .bool), (10, .bool), (11, .bool), (13, (.int .i64)), (14, .bool), (15, .bool), (16, .bool), (17, (.tup [.any, (.int .i64)])), (19, (.tup [.any, (.int .i64)])), (21, (.int .i64)), (22, (.tup [.any, (.int .i64)])), (24, (.tup [.any, (.int .i64)])), (26, (.int .i64)), (28, .str), (30, .str), (31, .bool), (32, .bool), (33, (.int .i64)), (34, (.int .i64)), (35, .bool), (36, .bool), (37, (.tup [.any, (.int .i64)])), (39, (.tup [.any, (.int .i64)])), (41, (.int .i64)), (42, (.int .i64)), (43, .bool), (44, .bool), (45, (.int .i64)), (46, .bool), (47, .bool), (50, .bool), (51, .bool), (52, .bool)]
noncomputable def call9 (lf : Nat) : CallS := callC 40 (W40 lf) (callC 39 (W39 lf) (callC 38 (W38 lf) (callC 37 (W37 lf) (callC 36 (W36 lf) (callN)))))
theorem call9_ok (lf : Nat) : CallOk Go.Proofs.Try.prog (call9 lf) := callC_ok (W40_ok lf) (callC_ok (W39_ok lf) (callC_ok (W38_ok lf) (callC_ok (W37_ok lf) (callC_ok (W36_ok lf) (callN_ok)))))
def o9_0 : Outs := [(.ret, [2], [.bool]), (.normal, [], [])]
def k9_0 : KC := (.seq (.reg [⟨(some 27), none, (.op (.mv (.t 3))), []⟩, ⟨(some 28), none, (.op (.toStr (.t 27))), []⟩, ⟨(some 29), none, (.op (.mv (.t 5))), []⟩, ⟨(some 30), none, (.op (.toStr (.t 29))), []⟩, ⟨(some 31), none, (.op (.bin .neq (.t 28) (.t 30))), []⟩, ⟨(some 32), none, (.op (.mv (.t 31))), []⟩, ⟨(some 33), (some (32, false)), (.op (.mv (.t 4))), []⟩, ⟨(some 34), (some (32, false)), (.op (.mv (.t 6))), []⟩, ⟨(some 35), (some (32, false)), (.op (.bin .neq (.t 33) (.t 34))), []⟩, ⟨(some 36), none, (.op (.pick (.t 32) (.c (.bool true)) (.t 35))), []⟩]) (.cond (.t 36) (.seq (.reg [⟨(some 2), none, (.op (.mv (.c (.bool false)))), []⟩]) .ret) .skip))
def w9_0 (f : V → Int → V → Int → List Ob → SubR) (vs : List V) (h : List Ob) : SubR := castCons vs fun c1 l1 => castCons l1 fun c2 l2 => castInt .i64 c2 fun n3 => castCons l2 fun c4 l4 => castCons l4 fun c5 l5 => castInt .i64 c5 fun n6 => castNil l5 (f c1 n3 c4 n6 h)
noncomputable def S9_0 (lf : Nat) (b : V) (e : Int) (c : V) (f : Int) (h : List Ob) : SubR :=
bind1 (er (.toStr (.c b)) h) fun v =>
castStr v fun x28 =>
bind1 (er (.toStr (.c c)) h) fun v1 =>
castStr v1 fun x30 =>
cB (!(x28 == x30)) (
some (.ret, [(.bool false)], h)) (
cB (e != f) (
some (.ret, [(.bool false)], h)) (
some (.normal, [], h)))
theorem S9_0_eq (lf : Nat) (b : V) (e : Int) (c : V) (f : Int) (h : List Ob) : evCK A9 ⟨call9 lf, cvN, subN⟩ k9_0 [(3, b), (4, (.int .i64 e)), (5, c), (6, (.int .i64 f))] h (endK o9_0) = S9_0 lf b e c f h := by kernel_rfl
theorem S9_0_ok (lf : Nat) : SubOk Go.Proofs.Try.prog k9_0.er [3, 4, 5, 6] o9_0 (w9_0 (S9_0 lf)) := by
  refine SubOk.of (A := A9) (σ := ⟨call9 lf, cvN, subN⟩) (c := k9_0) (call9_ok lf) cvN_ok (And.intro True.intro (And.intro (And.intro True.intro True.intro) True.intro)) ?_
  intro vs h r e0
  simp only [w9_0] at e0
  obtain ⟨c1, l1, rfl, e1⟩ := castCons_inv e0
  obtain ⟨c2, l2, rfl, e2⟩ := castCons_inv e1
  obtain ⟨y1, rfl, e3⟩ := castInt_inv e2
  obtain ⟨c3, l3, rfl, e4⟩ := castCons_inv e3
  obtain ⟨c4, l4, rfl, e5⟩ := castCons_inv e4
  obtain ⟨y3, rfl, e6⟩ := castInt_inv e5
  obtain ⟨rfl, e7⟩ := castNil_inv e6
  have e := e7
  exact (S9_0_eq lf c1 y1 c3 y3 h).trans e
def o9_1 : Outs := [(.ret, [2], [.bool]), (.normal, [], [])]
def k9_1 : KC := (.seq (.reg [⟨(some 9), none, (.call 36 []), []⟩, ⟨(some 10), none, (.op (.un .not (.t 9))), []⟩, ⟨(some 11), none, (.op (.mv (.t 10))), []⟩, ⟨(some 12), (some (11, false)), (.op (.mv (.t 0))), []⟩, ⟨(some 13), (some (11, false)), (.op (.lenL (.t 12))), []⟩, ⟨(some 14), (some (11, false)), (.op (.bin .gtr (.t 13) (.c (.int .i64 1000)))), []⟩, ⟨(some 15), none, (.op (.pick (.t 11) (.c (.bool true)) (.t 14))), []⟩]) (.cond (.t 15) (.seq (.reg [⟨(some 16), none, (.call 36 []), []⟩, ⟨(some 2), none, (.op (.mv (.t 16))), []⟩]) .ret) .skip))
def w9_1 (f : V → List Ob → SubR) (vs : List V) (h : List Ob) : SubR := castCons vs fun c1 l1 => castNil l1 (f c1 h)
noncomputable def S9_1 (lf : Nat) (row : V) (h : List Ob) : SubR :=
bind2 (F36 lf h) fun v h_ =>
castBool v fun x9 =>
cB (!x9) (
bind2 (F36 lf h_) fun v1 h_1 =>
castBool v1 fun x16 =>
some (.ret, [(.bool x16)], h_1)) (
bind1 (er (.lenL (.c row)) h_) fun v1 =>
castInt .i64 v1 fun x13 =>
cB (decide (x13 > (1000))) (
bind2 (F36 lf h_) fun v2 h_1 =>
castBool v2 fun x16 =>
some (.ret, [(.bool x16)], h_1)) (
some (.normal, [], h_)))
theorem S9_1_eq (lf : Nat) (row : V) (h : List Ob) : evCK A9 ⟨call9 lf, cvN, subN⟩ k9_1 [(0, row)] h (endK o9_1) = S9_1 lf row h := by kernel_rfl
theorem S9_1_ok (lf : Nat) : SubOk Go.Proofs.Try.prog k9_1.er [0] o9_1 (w9_1 (S9_1 lf)) := by
  refine SubOk.of (A := A9) (σ := ⟨call9 lf, cvN, subN⟩) (c := k9_1) (call9_ok lf) cvN_ok (And.intro True.intro (And.intro (And.intro True.intro True.intro) True.intro)) ?_
  intro vs h r e0
  simp only [w9_1] at e0
  obtain ⟨c1, l1, rfl, e1⟩ := castCons_inv e0
  obtain ⟨rfl, e2⟩ := castNil_inv e1
  have e := e2
  exact (S9_1_eq lf c1 h).trans e
def k9 : KC := (.seq (.reg [⟨(some 2), none, (.op (.mv (.c (.bool false)))), []⟩]) (.seq (.sub 1 k9_1.er [0] o9_1) (.seq (.reg [⟨(some 18), none, (.op (.mv (.t 0))), []⟩, ⟨(some 19), none, (.call 37 [(.t 18)]), []⟩, ⟨(some 17), none, (.op (.mv (.t 19))), []⟩, ⟨(some 20), none, (.op (.ext 0 (.t 17))), []⟩, ⟨(some 21), none, (.op (.ext 1 (.t 17))), []⟩, ⟨(some 3), none, (.op (.mv (.t 20))), []⟩, ⟨(some 4), none, (.op (.mv (.t 21))), []⟩]) (.seq (.reg [⟨(some 23), none, (.op (.mv (.t 0))), []⟩, ⟨(some 24), none, (.call 38 [(.t 23)]), []⟩, ⟨(some 22), none, (.op (.mv (.t 24))), []⟩, ⟨(some 25), none, (.op (.ext 0 (.t 22))), []⟩, ⟨(some 26), none, (.op (.ext 1 (.t 22))), []⟩, ⟨(some 5), none, (.op (.mv (.t 25))), []⟩, ⟨(some 6), none, (.op (.mv (.t 26))), []⟩]) (.seq (.sub 0 k9_0.er [3, 4, 5, 6] o9_0) (.seq (.reg [⟨(some 38), none, (.op (.mv (.t 3))), []⟩, ⟨(some 39), none, (.call 39 [(.t 38)]), []⟩, ⟨(some 37), none, (.op (.mv (.t 39))), []⟩, ⟨(some 40), none, (.op (.ext 0 (.t 37))), []⟩, ⟨(some 41), none, (.op (.ext 1 (.t 37))), []⟩, ⟨(some 7), none, (.op (.mv (.t 40))), []⟩, ⟨(some 8), none, (.op (.mv (.t 41))), []⟩]) (.seq (.reg [⟨(some 42), none, (.op (.mv (.t 4))), []⟩, ⟨(some 43), none, (.op (.bin .neq (.t 42) (.c (.int .i64 0)))), []⟩, ⟨(some 44), none, (.op (.mv (.t 43))), []⟩, ⟨(some 45), (some (44, false)), (.op (.mv (.t 8))), []⟩, ⟨(some 46), (some (44, false)), (.op (.bin .eql (.t 45) (.c (.int .i64 0)))), []⟩, ⟨(some 47), (some (44, false)), (.op (.mv (.t 46))), []⟩, ⟨(some 48), (some (47, true)), (.op (.mv (.t 7))), []⟩, ⟨(some 49), (some (47, true)), (.op (.mv (.t 0))), []⟩, ⟨(some 50), (some (47, true)), (.call 40 [(.t 48), (.t 49)]), []⟩, ⟨(some 51), (some (44, false)), (.op (.pick (.t 47) (.t 50) (.c (.bool false)))), []⟩, ⟨(some 52), none, (.op (.pick (.t 44) (.c (.bool true)) (.t 51))), []⟩, ⟨(some 2), none, (.op (.mv (.t 52))), []⟩]) .ret)))))))
noncomputable def F9 (lf : Nat) (row : V) (h : List Ob) : Option (V × List Ob) :=
bind3 (S9_1 lf row h) fun ex vs h_ =>
cB (decide (ex = .ret)) (
castCons vs fun c l =>
castBool c fun x2 =>
castNil l (
some ((.bool x2), h_))) (
cB (decide (ex = .normal)) (
castNil vs (
bind2 (F37 lf row h_) fun v h_1 =>
castTup v fun l =>
castCons l fun x19_0 l1 =>
castCons l1 fun c l2 =>
castInt .i64 c fun x19_1 =>
castNil l2 (
bind2 (F38 lf row h_1) fun v1 h_2 =>
castTup v1 fun l3 =>
castCons l3 fun x24_0 l4 =>
castCons l4 fun c1 l5 =>
castInt .i64 c1 fun x24_1 =>
castNil l5 (
bind3 (S9_0 lf x19_0 x19_1 x24_0 x24_1 h_2) fun ex1 vs1 h_3 =>
cB (decide (ex1 = .ret)) (
castCons vs1 fun c2 l6 =>
castBool c2 fun x2 =>
castNil l6 (
some ((.bool x2), h_3))) (
cB (decide (ex1 = .normal)) (
castNil vs1 (
bind2 (F39 lf x19_0 h_3) fun v2 h_4 =>
castTup v2 fun l6 =>
castCons l6 fun x39_0 l7 =>
castCons l7 fun c2 l8 =>
castInt .i64 c2 fun x39_1 =>
castNil l8 (
cB (x19_1 != (0)) (
some ((.bool true), h_4)) (
cB (x39_1 == (0)) (
bind2 (F40 lf x39_0 row h_4) fun v3 h_5 =>
castBool v3 fun x50 =>
some ((.bool x50), h_5)) (
some ((.bool false), h_4)))))) (
none)))))) (
none))
theorem F9_eq (lf : Nat) (row : V) (h : List Ob) : evCK A9 ⟨call9 lf, cvN, subC 0 (w9_0 (S9_0 lf)) (subC 1 (w9_1 (S9_1 lf)) (subN))⟩ k9 (entryK [row]) h (endF c9.res) = F9 lf row h := by kernel_rfl
theorem F9_ok (lf : Nat) (row : V) (h : List Ob) (r_ : V) (h_r : List Ob) (e_ : F9 lf row h = some (r_, h_r)) : CD Go.Proofs.Try.prog 9 [row] h r_ h_r :=
  CD.ofK (A := A9) (σ := ⟨call9 lf, cvN, subC 0 (w9_0 (S9_0 lf)) (subC 1 (w9_1 (S9_1 lf)) (subN))⟩) (c := k9) Go.Proofs.Try.func9 ok9 en9 (show 1 ≤ 53 by decide) (by kernel_rfl) (call9_ok lf) cvN_ok (And.intro True.intro (And.intro (S9_1_ok lf) (And.intro True.intro (And.intro True.intro (And.intro (S9_0_ok lf) (And.intro True.intro (And.intro True.intro True.intro))))))) ((F9_eq lf row h).trans e_)
def w9 (f : V → List Ob → Option (V × List Ob)) (vs : List V) (h : List Ob) : Option (V × List Ob) := castCons vs fun c1 l1 => castNil l1 (f c1 h)
noncomputable def W9 (lf : Nat) : List V → List Ob → Option (V × List Ob) := w9 (F9 lf)
theorem W9_ok (lf : Nat) : ∀ args h v h', W9 lf args h = some (v, h') → CD Go.Proofs.Try.prog 9 args h v h' := by
  intro vs h r h' e0
  simp only [W9, w9] at e0
  obtain ⟨c1, l1, rfl, e1⟩ := castCons_inv e0
  obtain ⟨rfl, e2⟩ := castNil_inv e1
  have e := e2
  exact F9_ok lf c1 h r h' e

end Go.Proofs.Ytdcdmpgigmhhpaa.Re
