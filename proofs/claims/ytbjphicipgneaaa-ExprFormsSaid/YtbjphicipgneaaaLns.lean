/- Functions of the program as Lean functions, and that each call comes to what its function says. Printed by my own tool. No condition. -/
import Derived.Test.YtbjphicipgneaaaLn
import Derived.Test.YtbjphicipgneaaaL3
namespace Go.Proofs.Ytbjphicipgneaaa.Ln
open Go Go.Proofs.Ytbjphicipgneaaa.E
set_option maxRecDepth 100000
set_option linter.unusedVariables false
set_option linter.unusedSimpArgs false

/-! 26: wainscot/lexer.Keyword -/
def A26 : List (Nat × Sh) := [(0, .str), (2, .bool), (3, .str), (4, .bool), (5, .bool), (6, .bool), (7, .bool), (8, .bool), (9, .bool), (10, .bool), (11, .bool), (12, .bool), (13, .bool), (14, .bool), (15, .bool), (16, .bool), (17, .bool), (18, .bool), (19, .bool), (20, .bool), (21, .bool), (22, .bool), (23, .bool), (24, .bool), (25, .bool), (26, .bool), (27, .bool), (28, .bool), (29, .bool), (30, .bool), (31, .bool), (32, .bool), (33, .bool), (34, .bool), (35, .bool), (36, .bool), (37, .bool), (38, .bool), (39, .bool), (40, .bool), (41, .bool), (42, .bool), (43, .bool), (44, .bool)]
noncomputable def call26 (lf : Nat) : CallS := callN
theorem call26_ok (lf : Nat) : CallOk Go.Proofs.Try.prog (call26 lf) := callN_ok
def o26_0 : Outs := [(.normal, [4], [.bool])]
def k26_0 : KC := (.seq (.reg [⟨(some 5), none, (.op (.bin .eql (.t 3) (.c (.str [67, 82, 69, 65, 84, 69])))), []⟩, ⟨(some 4), none, (.op (.mv (.t 5))), []⟩]) (.cond (.t 4) .skip (.seq (.reg [⟨(some 6), none, (.op (.bin .eql (.t 3) (.c (.str [84, 65, 66, 76, 69])))), []⟩, ⟨(some 4), none, (.op (.mv (.t 6))), []⟩]) (.cond (.t 4) .skip (.seq (.reg [⟨(some 7), none, (.op (.bin .eql (.t 3) (.c (.str [73, 78, 68, 69, 88])))), []⟩, ⟨(some 4), none, (.op (.mv (.t 7))), []⟩]) (.cond (.t 4) .skip (.seq (.reg [⟨(some 8), none, (.op (.bin .eql (.t 3) (.c (.str [85, 78, 73, 81, 85, 69])))), []⟩, ⟨(some 4), none, (.op (.mv (.t 8))), []⟩]) (.cond (.t 4) .skip (.seq (.reg [⟨(some 9), none, (.op (.bin .eql (.t 3) (.c (.str [77, 65, 84, 69, 82, 73, 65, 76, 73, 90, 69, 68])))), []⟩, ⟨(some 4), none, (.op (.mv (.t 9))), []⟩]) (.cond (.t 4) .skip (.seq (.reg [⟨(some 10), none, (.op (.bin .eql (.t 3) (.c (.str [86, 73, 69, 87])))), []⟩, ⟨(some 4), none, (.op (.mv (.t 10))), []⟩]) (.cond (.t 4) .skip (.seq (.reg [⟨(some 11), none, (.op (.bin .eql (.t 3) (.c (.str [68, 82, 79, 80])))), []⟩, ⟨(some 4), none, (.op (.mv (.t 11))), []⟩]) (.cond (.t 4) .skip (.seq (.reg [⟨(some 12), none, (.op (.bin .eql (.t 3) (.c (.str [73, 78, 83, 69, 82, 84])))), []⟩, ⟨(some 4), none, (.op (.mv (.t 12))), []⟩]) (.cond (.t 4) .skip (.seq (.reg [⟨(some 13), none, (.op (.bin .eql (.t 3) (.c (.str [73, 78, 84, 79])))), []⟩, ⟨(some 4), none, (.op (.mv (.t 13))), []⟩]) (.cond (.t 4) .skip (.seq (.reg [⟨(some 14), none, (.op (.bin .eql (.t 3) (.c (.str [86, 65, 76, 85, 69, 83])))), []⟩, ⟨(some 4), none, (.op (.mv (.t 14))), []⟩]) (.cond (.t 4) .skip (.seq (.reg [⟨(some 15), none, (.op (.bin .eql (.t 3) (.c (.str [85, 80, 68, 65, 84, 69])))), []⟩, ⟨(some 4), none, (.op (.mv (.t 15))), []⟩]) (.cond (.t 4) .skip (.seq (.reg [⟨(some 16), none, (.op (.bin .eql (.t 3) (.c (.str [83, 69, 84])))), []⟩, ⟨(some 4), none, (.op (.mv (.t 16))), []⟩]) (.cond (.t 4) .skip (.seq (.reg [⟨(some 17), none, (.op (.bin .eql (.t 3) (.c (.str [68, 69, 76, 69, 84, 69])))), []⟩, ⟨(some 4), none, (.op (.mv (.t 17))), []⟩]) (.cond (.t 4) .skip (.seq (.reg [⟨(some 18), none, (.op (.bin .eql (.t 3) (.c (.str [70, 82, 79, 77])))), []⟩, ⟨(some 4), none, (.op (.mv (.t 18))), []⟩]) (.cond (.t 4) .skip (.seq (.reg [⟨(some 19), none, (.op (.bin .eql (.t 3) (.c (.str [83, 69, 76, 69, 67, 84])))), []⟩, ⟨(some 4), none, (.op (.mv (.t 19))), []⟩]) (.cond (.t 4) .skip (.seq (.reg [⟨(some 20), none, (.op (.bin .eql (.t 3) (.c (.str [68, 73, 83, 84, 73, 78, 67, 84])))), []⟩, ⟨(some 4), none, (.op (.mv (.t 20))), []⟩]) (.cond (.t 4) .skip (.seq (.reg [⟨(some 21), none, (.op (.bin .eql (.t 3) (.c (.str [87, 72, 69, 82, 69])))), []⟩, ⟨(some 4), none, (.op (.mv (.t 21))), []⟩]) (.cond (.t 4) .skip (.seq (.reg [⟨(some 22), none, (.op (.bin .eql (.t 3) (.c (.str [71, 82, 79, 85, 80])))), []⟩, ⟨(some 4), none, (.op (.mv (.t 22))), []⟩]) (.cond (.t 4) .skip (.seq (.reg [⟨(some 23), none, (.op (.bin .eql (.t 3) (.c (.str [66, 89])))), []⟩, ⟨(some 4), none, (.op (.mv (.t 23))), []⟩]) (.cond (.t 4) .skip (.seq (.reg [⟨(some 24), none, (.op (.bin .eql (.t 3) (.c (.str [79, 82, 68, 69, 82])))), []⟩, ⟨(some 4), none, (.op (.mv (.t 24))), []⟩]) (.cond (.t 4) .skip (.seq (.reg [⟨(some 25), none, (.op (.bin .eql (.t 3) (.c (.str [65, 83, 67])))), []⟩, ⟨(some 4), none, (.op (.mv (.t 25))), []⟩]) (.cond (.t 4) .skip (.seq (.reg [⟨(some 26), none, (.op (.bin .eql (.t 3) (.c (.str [68, 69, 83, 67])))), []⟩, ⟨(some 4), none, (.op (.mv (.t 26))), []⟩]) (.cond (.t 4) .skip (.seq (.reg [⟨(some 27), none, (.op (.bin .eql (.t 3) (.c (.str [76, 73, 77, 73, 84])))), []⟩, ⟨(some 4), none, (.op (.mv (.t 27))), []⟩]) (.cond (.t 4) .skip (.seq (.reg [⟨(some 28), none, (.op (.bin .eql (.t 3) (.c (.str [74, 79, 73, 78])))), []⟩, ⟨(some 4), none, (.op (.mv (.t 28))), []⟩]) (.cond (.t 4) .skip (.seq (.reg [⟨(some 29), none, (.op (.bin .eql (.t 3) (.c (.str [79, 78])))), []⟩, ⟨(some 4), none, (.op (.mv (.t 29))), []⟩]) (.cond (.t 4) .skip (.seq (.reg [⟨(some 30), none, (.op (.bin .eql (.t 3) (.c (.str [65, 83])))), []⟩, ⟨(some 4), none, (.op (.mv (.t 30))), []⟩]) (.cond (.t 4) .skip (.seq (.reg [⟨(some 31), none, (.op (.bin .eql (.t 3) (.c (.str [65, 78, 68])))), []⟩, ⟨(some 4), none, (.op (.mv (.t 31))), []⟩]) (.cond (.t 4) .skip (.seq (.reg [⟨(some 32), none, (.op (.bin .eql (.t 3) (.c (.str [79, 82])))), []⟩, ⟨(some 4), none, (.op (.mv (.t 32))), []⟩]) (.cond (.t 4) .skip (.seq (.reg [⟨(some 33), none, (.op (.bin .eql (.t 3) (.c (.str [78, 79, 84])))), []⟩, ⟨(some 4), none, (.op (.mv (.t 33))), []⟩]) (.cond (.t 4) .skip (.seq (.reg [⟨(some 34), none, (.op (.bin .eql (.t 3) (.c (.str [73, 83])))), []⟩, ⟨(some 4), none, (.op (.mv (.t 34))), []⟩]) (.cond (.t 4) .skip (.seq (.reg [⟨(some 35), none, (.op (.bin .eql (.t 3) (.c (.str [78, 85, 76, 76])))), []⟩, ⟨(some 4), none, (.op (.mv (.t 35))), []⟩]) (.cond (.t 4) .skip (.seq (.reg [⟨(some 36), none, (.op (.bin .eql (.t 3) (.c (.str [73, 78, 84])))), []⟩, ⟨(some 4), none, (.op (.mv (.t 36))), []⟩]) (.cond (.t 4) .skip (.seq (.reg [⟨(some 37), none, (.op (.bin .eql (.t 3) (.c (.str [84, 69, 88, 84])))), []⟩, ⟨(some 4), none, (.op (.mv (.t 37))), []⟩]) (.cond (.t 4) .skip (.seq (.reg [⟨(some 38), none, (.op (.bin .eql (.t 3) (.c (.str [66, 69, 71, 73, 78])))), []⟩, ⟨(some 4), none, (.op (.mv (.t 38))), []⟩]) (.cond (.t 4) .skip (.seq (.reg [⟨(some 39), none, (.op (.bin .eql (.t 3) (.c (.str [67, 79, 77, 77, 73, 84])))), []⟩, ⟨(some 4), none, (.op (.mv (.t 39))), []⟩]) (.cond (.t 4) .skip (.seq (.reg [⟨(some 40), none, (.op (.bin .eql (.t 3) (.c (.str [82, 79, 76, 76, 66, 65, 67, 75])))), []⟩, ⟨(some 4), none, (.op (.mv (.t 40))), []⟩]) (.cond (.t 4) .skip (.seq (.reg [⟨(some 41), none, (.op (.bin .eql (.t 3) (.c (.str [67, 79, 85, 78, 84])))), []⟩, ⟨(some 4), none, (.op (.mv (.t 41))), []⟩]) (.cond (.t 4) .skip (.seq (.reg [⟨(some 42), none, (.op (.bin .eql (.t 3) (.c (.str [83, 85, 77])))), []⟩, ⟨(some 4), none, (.op (.mv (.t 42))), []⟩]) (.cond (.t 4) .skip (.seq (.reg [⟨(some 43), none, (.op (.bin .eql (.t 3) (.c (.str [77, 73, 78])))), []⟩, ⟨(some 4), none, (.op (.mv (.t 43))), []⟩]) (.cond (.t 4) .skip (.reg [⟨(some 44), none, (.op (.bin .eql (.t 3) (.c (.str [77, 65, 88])))), []⟩, ⟨(some 4), none, (.op (.mv (.t 44))), []⟩])))))))))))))))))))))))))))))))))))))))))))))))))))))))))))))))))))))))))))))))
def w26_0 (f : List UInt8 → List Ob → SubR) (vs : List V) (h : List Ob) : SubR := castCons vs fun c1 l1 => castStr c1 fun n2 => castNil l1 (f n2 h)
noncomputable def S26_0 (lf : Nat) (x3 : List UInt8) (h : List Ob) : SubR :=
cB (x3 == [67, 82, 69, 65, 84, 69]) (
some (.normal, [(.bool true)], h)) (
cB (x3 == [84, 65, 66, 76, 69]) (
some (.normal, [(.bool true)], h)) (
cB (x3 == [73, 78, 68, 69, 88]) (
some (.normal, [(.bool true)], h)) (
cB (x3 == [85, 78, 73, 81, 85, 69]) (
some (.normal, [(.bool true)], h)) (
cB (x3 == [77, 65, 84, 69, 82, 73, 65, 76, 73, 90, 69, 68]) (
some (.normal, [(.bool true)], h)) (
cB (x3 == [86, 73, 69, 87]) (
some (.normal, [(.bool true)], h)) (
cB (x3 == [68, 82, 79, 80]) (
some (.normal, [(.bool true)], h)) (
cB (x3 == [73, 78, 83, 69, 82, 84]) (
some (.normal, [(.bool true)], h)) (
cB (x3 == [73, 78, 84, 79]) (
some (.normal, [(.bool true)], h)) (
cB (x3 == [86, 65, 76, 85, 69, 83]) (
some (.normal, [(.bool true)], h)) (
cB (x3 == [85, 80, 68, 65, 84, 69]) (
some (.normal, [(.bool true)], h)) (
cB (x3 == [83, 69, 84]) (
some (.normal, [(.bool true)], h)) (
cB (x3 == [68, 69, 76, 69, 84, 69]) (
some (.normal, [(.bool true)], h)) (
cB (x3 == [70, 82, 79, 77]) (
some (.normal, [(.bool true)], h)) (
cB (x3 == [83, 69, 76, 69, 67, 84]) (
some (.normal, [(.bool true)], h)) (
cB (x3 == [68, 73, 83, 84, 73, 78, 67, 84]) (
some (.normal, [(.bool true)], h)) (
cB (x3 == [87, 72, 69, 82, 69]) (
some (.normal, [(.bool true)], h)) (
cB (x3 == [71, 82, 79, 85, 80]) (
some (.normal, [(.bool true)], h)) (
cB (x3 == [66, 89]) (
some (.normal, [(.bool true)], h)) (
cB (x3 == [79, 82, 68, 69, 82]) (
some (.normal, [(.bool true)], h)) (
cB (x3 == [65, 83, 67]) (
some (.normal, [(.bool true)], h)) (
cB (x3 == [68, 69, 83, 67]) (
some (.normal, [(.bool true)], h)) (
cB (x3 == [76, 73, 77, 73, 84]) (
some (.normal, [(.bool true)], h)) (
cB (x3 == [74, 79, 73, 78]) (
some (.normal, [(.bool true)], h)) (
cB (x3 == [79, 78]) (
some (.normal, [(.bool true)], h)) (
cB (x3 == [65, 83]) (
some (.normal, [(.bool true)], h)) (
cB (x3 == [65, 78, 68]) (
some (.normal, [(.bool true)], h)) (
cB (x3 == [79, 82]) (
some (.normal, [(.bool true)], h)) (
cB (x3 == [78, 79, 84]) (
some (.normal, [(.bool true)], h)) (
cB (x3 == [73, 83]) (
some (.normal, [(.bool true)], h)) (
cB (x3 == [78, 85, 76, 76]) (
some (.normal, [(.bool true)], h)) (
cB (x3 == [73, 78, 84]) (
some (.normal, [(.bool true)], h)) (
cB (x3 == [84, 69, 88, 84]) (
some (.normal, [(.bool true)], h)) (
cB (x3 == [66, 69, 71, 73, 78]) (
some (.normal, [(.bool true)], h)) (
cB (x3 == [67, 79, 77, 77, 73, 84]) (
some (.normal, [(.bool true)], h)) (
cB (x3 == [82, 79, 76, 76, 66, 65, 67, 75]) (
some (.normal, [(.bool true)], h)) (
cB (x3 == [67, 79, 85, 78, 84]) (
some (.normal, [(.bool true)], h)) (
cB (x3 == [83, 85, 77]) (
some (.normal, [(.bool true)], h)) (
cB (x3 == [77, 73, 78]) (
some (.normal, [(.bool true)], h)) (
some (.normal, [(.bool (x3 == [77, 65, 88]))], h))))))))))))))))))))))))))))))))))))))))
theorem S26_0_eq (lf : Nat) (x3 : List UInt8) (h : List Ob) : evCK A26 ⟨call26 lf, cvN, subN⟩ k26_0 [(3, (.str x3))] h (endK o26_0) = S26_0 lf x3 h := by kernel_rfl
theorem S26_0_ok (lf : Nat) : SubOk Go.Proofs.Try.prog k26_0.er [3] o26_0 (w26_0 (S26_0 lf)) := by
  refine SubOk.of (A := A26) (σ := ⟨call26 lf, cvN, subN⟩) (c := k26_0) (call26_ok lf) cvN_ok (And.intro True.intro (And.intro True.intro (And.intro True.intro (And.intro True.intro (And.intro True.intro (And.intro True.intro (And.intro True.intro (And.intro True.intro (And.intro True.intro (And.intro True.intro (And.intro True.intro (And.intro True.intro (And.intro True.intro (And.intro True.intro (And.intro True.intro (And.intro True.intro (And.intro True.intro (And.intro True.intro (And.intro True.intro (And.intro True.intro (And.intro True.intro (And.intro True.intro (And.intro True.intro (And.intro True.intro (And.intro True.intro (And.intro True.intro (And.intro True.intro (And.intro True.intro (And.intro True.intro (And.intro True.intro (And.intro True.intro (And.intro True.intro (And.intro True.intro (And.intro True.intro (And.intro True.intro (And.intro True.intro (And.intro True.intro (And.intro True.intro (And.intro True.intro (And.intro True.intro (And.intro True.intro (And.intro True.intro (And.intro True.intro (And.intro True.intro (And.intro True.intro (And.intro True.intro (And.intro True.intro (And.intro True.intro (And.intro True.intro (And.intro True.intro (And.intro True.intro (And.intro True.intro (And.intro True.intro (And.intro True.intro (And.intro True.intro (And.intro True.intro (And.intro True.intro (And.intro True.intro (And.intro True.intro (And.intro True.intro (And.intro True.intro (And.intro True.intro (And.intro True.intro (And.intro True.intro (And.intro True.intro (And.intro True.intro (And.intro True.intro (And.intro True.intro (And.intro True.intro (And.intro True.intro (And.intro True.intro (And.intro True.intro (And.intro True.intro (And.intro True.intro (And.intro True.intro (And.intro True.intro (And.intro True.intro (And.intro True.intro True.intro)))))))))))))))))))))))))))))))))))))))))))))))))))))))))))))))))))))))))))))) ?_
  intro vs h r e0
  simp only [w26_0] at e0
  obtain ⟨c1, l1, rfl, e1⟩ := castCons_inv e0
  obtain ⟨y0, rfl, e2⟩ := castStr_inv e1
  obtain ⟨rfl, e3⟩ := castNil_inv e2
  have e := e3
  exact (S26_0_eq lf y0 h).trans e
def k26 : KC := (.seq (.reg [⟨(some 2), none, (.op (.mv (.c (.bool false)))), []⟩]) (.seq (.seq (.reg [⟨(some 3), none, (.op (.mv (.t 0))), []⟩]) (.block 0 (.seq (.sub 0 k26_0.er [3] o26_0) (.cond (.t 4) (.seq (.reg [⟨(some 2), none, (.op (.mv (.c (.bool true)))), []⟩]) .ret) .skip)))) (.seq (.reg [⟨(some 2), none, (.op (.mv (.c (.bool false)))), []⟩]) .ret)))
noncomputable def F26 (lf : Nat) (s : List UInt8) (h : List Ob) : Option (V × List Ob) :=
bind3 (S26_0 lf s h) fun ex vs h_ =>
cB (decide (ex = .normal)) (
castCons vs fun c l =>
castBool c fun x4 =>
castNil l (
cB x4 (
some ((.bool true), h_)) (
some ((.bool false), h_)))) (
none)
theorem F26_eq (lf : Nat) (s : List UInt8) (h : List Ob) : evCK A26 ⟨call26 lf, cvN, subC 0 (w26_0 (S26_0 lf)) (subN)⟩ k26 (entryK [(.str s)]) h (endF c26.res) = F26 lf s h := by kernel_rfl
theorem F26_ok (lf : Nat) (s : List UInt8) (h : List Ob) (r_ : V) (h_r : List Ob) (e_ : F26 lf s h = some (r_, h_r)) : CD Go.Proofs.Try.prog 26 [(.str s)] h r_ h_r :=
  CD.ofK (A := A26) (σ := ⟨call26 lf, cvN, subC 0 (w26_0 (S26_0 lf)) (subN)⟩) (c := k26) Go.Proofs.Try.func26 ok26 en26 (show 1 ≤ 45 by decide) (by kernel_rfl) (call26_ok lf) cvN_ok (And.intro True.intro (And.intro (And.intro True.intro (And.intro (S26_0_ok lf) (And.intro (And.intro True.intro True.intro) True.intro))) (And.intro True.intro True.intro))) ((F26_eq lf s h).trans e_)
def w26 (f : List UInt8 → List Ob → Option (V × List Ob)) (vs : List V) (h : List Ob) : Option (V × List Ob) := castCons vs fun c1 l1 => castStr c1 fun n2 => castNil l1 (f n2 h)
noncomputable def W26 (lf : Nat) : List V → List Ob → Option (V × List Ob) := w26 (F26 lf)
theorem W26_ok (lf : Nat) : ∀ args h v h', W26 lf args h = some (v, h') → CD Go.Proofs.Try.prog 26 args h v h' := by
  intro vs h r h' e0
  simp only [W26, w26] at e0
  obtain ⟨c1, l1, rfl, e1⟩ := castCons_inv e0
  obtain ⟨y0, rfl, e2⟩ := castStr_inv e1
  obtain ⟨rfl, e3⟩ := castNil_inv e2
  have e := e3
  exact F26_ok lf y0 h r h' e

/-! 28: wainscot/lexer.Letter -/
def A28 : List (Nat × Sh) := [(0, (.int .i32)), (2, .bool), (3, (.int .i32)), (4, .bool), (5, .bool), (6, (.int .i32)), (7, .bool), (8, .bool), (9, .bool), (10, (.int .i32)), (11, .bool), (12, .bool), (13, (.int .i32)), (14, .bool), (15, .bool), (16, .bool), (17, .bool), (18, (.int .i32)), (19, .bool), (20, .bool), (21, (.int .i32)), (22, .bool), (23, .bool), (24, .bool), (25, .bool), (26, (.int .i32)), (27, .bool), (28, .bool)]
noncomputable def call28 (lf : Nat) : CallS := callN
theorem call28_ok (lf : Nat) : CallOk Go.Proofs.Try.prog (call28 lf) := callN_ok
def k28 : KC := (.seq (.reg [⟨(some 2), none, (.op (.mv (.c (.bool false)))), []⟩]) (.seq (.reg [⟨(some 3), none, (.op (.mv (.t 0))), []⟩, ⟨(some 4), none, (.op (.bin .geq (.t 3) (.c (.int .i32 97)))), []⟩, ⟨(some 5), none, (.op (.mv (.t 4))), []⟩, ⟨(some 6), (some (5, true)), (.op (.mv (.t 0))), []⟩, ⟨(some 7), (some (5, true)), (.op (.bin .leq (.t 6) (.c (.int .i32 122)))), []⟩, ⟨(some 8), none, (.op (.pick (.t 5) (.t 7) (.c (.bool false)))), []⟩, ⟨(some 9), none, (.op (.mv (.t 8))), []⟩, ⟨(some 10), (some (9, false)), (.op (.mv (.t 0))), []⟩, ⟨(some 11), (some (9, false)), (.op (.bin .geq (.t 10) (.c (.int .i32 65)))), []⟩, ⟨(some 12), (some (9, false)), (.op (.mv (.t 11))), []⟩, ⟨(some 13), (some (12, true)), (.op (.mv (.t 0))), []⟩, ⟨(some 14), (some (12, true)), (.op (.bin .leq (.t 13) (.c (.int .i32 90)))), []⟩, ⟨(some 15), (some (9, false)), (.op (.pick (.t 12) (.t 14) (.c (.bool false)))), []⟩, ⟨(some 16), none, (.op (.pick (.t 9) (.c (.bool true)) (.t 15))), []⟩, ⟨(some 17), none, (.op (.mv (.t 16))), []⟩, ⟨(some 18), (some (17, false)), (.op (.mv (.t 0))), []⟩, ⟨(some 19), (some (17, false)), (.op (.bin .geq (.t 18) (.c (.int .i32 945)))), []⟩, ⟨(some 20), (some (17, false)), (.op (.mv (.t 19))), []⟩, ⟨(some 21), (some (20, true)), (.op (.mv (.t 0))), []⟩, ⟨(some 22), (some (20, true)), (.op (.bin .leq (.t 21) (.c (.int .i32 969)))), []⟩, ⟨(some 23), (some (17, false)), (.op (.pick (.t 20) (.t 22) (.c (.bool false)))), []⟩, ⟨(some 24), none, (.op (.pick (.t 17) (.c (.bool true)) (.t 23))), []⟩, ⟨(some 25), none, (.op (.mv (.t 24))), []⟩, ⟨(some 26), (some (25, false)), (.op (.mv (.t 0))), []⟩, ⟨(some 27), (some (25, false)), (.op (.bin .eql (.t 26) (.c (.int .i32 95)))), []⟩, ⟨(some 28), none, (.op (.pick (.t 25) (.c (.bool true)) (.t 27))), []⟩, ⟨(some 2), none, (.op (.mv (.t 28))), []⟩]) .ret))
noncomputable def F28 (lf : Nat) (r : Int) (h : List Ob) : Option (V × List Ob) :=
cB (decide (r ≥ (97))) (
cB (decide (r ≤ (122))) (
some ((.bool true), h)) (
cB (decide (r ≥ (65))) (
cB (decide (r ≤ (90))) (
some ((.bool true), h)) (
cB (decide (r ≥ (945))) (
cB (decide (r ≤ (969))) (
some ((.bool true), h)) (
some ((.bool (r == (95))), h))) (
some ((.bool (r == (95))), h)))) (
cB (decide (r ≥ (945))) (
cB (decide (r ≤ (969))) (
some ((.bool true), h)) (
some ((.bool (r == (95))), h))) (
some ((.bool (r == (95))), h))))) (
cB (decide (r ≥ (65))) (
cB (decide (r ≤ (90))) (
some ((.bool true), h)) (
cB (decide (r ≥ (945))) (
cB (decide (r ≤ (969))) (
some ((.bool true), h)) (
some ((.bool (r == (95))), h))) (
some ((.bool (r == (95))), h)))) (
cB (decide (r ≥ (945))) (
cB (decide (r ≤ (969))) (
some ((.bool true), h)) (
some ((.bool (r == (95))), h))) (
some ((.bool (r == (95))), h))))
theorem F28_eq (lf : Nat) (r : Int) (h : List Ob) : evCK A28 ⟨call28 lf, cvN, subN⟩ k28 (entryK [(.int .i32 r)]) h (endF c28.res) = F28 lf r h := by kernel_rfl
theorem F28_ok (lf : Nat) (r : Int) (h : List Ob) (r_ : V) (h_r : List Ob) (e_ : F28 lf r h = some (r_, h_r)) : CD Go.Proofs.Try.prog 28 [(.int .i32 r)] h r_ h_r :=
  CD.ofK (A := A28) (σ := ⟨call28 lf, cvN, subN⟩) (c := k28) Go.Proofs.Try.func28 ok28 en28 (show 1 ≤ 29 by decide) (by kernel_rfl) (call28_ok lf) cvN_ok (And.intro True.intro (And.intro True.intro True.intro)) ((F28_eq lf r h).trans e_)
def w28 (f : Int → List Ob → Option (V × List Ob)) (vs : List V) (h : List Ob) : Option (V × List Ob) := castCons vs fun c1 l1 => castInt .i32 c1 fun n2 => castNil l1 (f n2 h)
noncomputable def W28 (lf : Nat) : List V → List Ob → Option (V × List Ob) := w28 (F28 lf)
theorem W28_ok (lf : Nat) : ∀ args h v h', W28 lf args h = some (v, h') → CD Go.Proofs.Try.prog 28 args h v h' := by
  intro vs h r h' e0
  simp only [W28, w28] at e0
  obtain ⟨c1, l1, rfl, e1⟩ := castCons_inv e0
  obtain ⟨y0, rfl, e2⟩ := castInt_inv e1
  obtain ⟨rfl, e3⟩ := castNil_inv e2
  have e := e3
  exact F28_ok lf y0 h r h' e

/-! 83: wainscot/lexer.digit -/
def A83 : List (Nat × Sh) := [(0, (.int .i32)), (2, .bool), (3, (.int .i32)), (4, .bool), (5, .bool), (6, (.int .i32)), (7, .bool), (8, .bool)]
noncomputable def call83 (lf : Nat) : CallS := callN
theorem call83_ok (lf : Nat) : CallOk Go.Proofs.Try.prog (call83 lf) := callN_ok
def k83 : KC := (.seq (.reg [⟨(some 2), none, (.op (.mv (.c (.bool false)))), []⟩]) (.seq (.reg [⟨(some 3), none, (.op (.mv (.t 0))), []⟩, ⟨(some 4), none, (.op (.bin .geq (.t 3) (.c (.int .i32 48)))), []⟩, ⟨(some 5), none, (.op (.mv (.t 4))), []⟩, ⟨(some 6), (some (5, true)), (.op (.mv (.t 0))), []⟩, ⟨(some 7), (some (5, true)), (.op (.bin .leq (.t 6) (.c (.int .i32 57)))), []⟩, ⟨(some 8), none, (.op (.pick (.t 5) (.t 7) (.c (.bool false)))), []⟩, ⟨(some 2), none, (.op (.mv (.t 8))), []⟩]) .ret))
noncomputable def F83 (lf : Nat) (r : Int) (h : List Ob) : Option (V × List Ob) :=
cB (decide (r ≥ (48))) (
some ((.bool (decide (r ≤ (57)))), h)) (
some ((.bool false), h))
theorem F83_eq (lf : Nat) (r : Int) (h : List Ob) : evCK A83 ⟨call83 lf, cvN, subN⟩ k83 (entryK [(.int .i32 r)]) h (endF c83.res) = F83 lf r h := by kernel_rfl
theorem F83_ok (lf : Nat) (r : Int) (h : List Ob) (r_ : V) (h_r : List Ob) (e_ : F83 lf r h = some (r_, h_r)) : CD Go.Proofs.Try.prog 83 [(.int .i32 r)] h r_ h_r :=
  CD.ofK (A := A83) (σ := ⟨call83 lf, cvN, subN⟩) (c := k83) Go.Proofs.Try.func83 ok83 en83 (show 1 ≤ 9 by decide) (by kernel_rfl) (call83_ok lf) cvN_ok (And.intro True.intro (And.intro True.intro True.intro)) ((F83_eq lf r h).trans e_)
def w83 (f : Int → List Ob → Option (V × List Ob)) (vs : List V) (h : List Ob) : Option (V × List Ob) := castCons vs fun c1 l1 => castInt .i32 c1 fun n2 => castNil l1 (f n2 h)
noncomputable def W83 (lf : Nat) : List V → List Ob → Option (V × List Ob) := w83 (F83 lf)
theorem W83_ok (lf : Nat) : ∀ args h v h', W83 lf args h = some (v, h') → CD Go.Proofs.Try.prog 83 args h v h' := by
  intro vs h r h' e0
  simp only [W83, w83] at e0
  obtain ⟨c1, l1, rfl, e1⟩ := castCons_inv e0
  obtain ⟨y0, rfl, e2⟩ := castInt_inv e1
  obtain ⟨rfl, e3⟩ := castNil_inv e2
  have e := e3
  exact F83_ok lf y0 h r h' e

/-! 58: wainscot/lexer.named -/
def A58 : List (Nat × Sh) := [(0, .str), (2, .bool), (3, (.int .i64)), (5, (.int .i32)), (6, .str), (9, .bool), (10, (.int .i32)), (11, (.int .i32)), (12, .bool), (13, .bool), (14, .bool), (15, (.int .i64)), (16, .bool), (17, .bool), (18, (.int .i32)), (19, .bool), (20, .bool), (21, .bool), (22, .bool), (23, (.int .i64)), (24, (.int .i64)), (25, (.int .i64)), (26, .bool), (27, .bool), (28, (.int .i64)), (29, .bool), (30, .bool)]
noncomputable def call58 (lf : Nat) : CallS := callC 83 (W83 lf) (callC 28 (W28 lf) (callN))
theorem call58_ok (lf : Nat) : CallOk Go.Proofs.Try.prog (call58 lf) := callC_ok (W83_ok lf) (callC_ok (W28_ok lf) (callN_ok))
def o58_0 : Outs := [((.exit 0), [3], [(.int .i64)]), (.ret, [2], [.bool])]
def k58_0 : KC := (.seq (.reg [⟨(some 8), none, (.op (.nextS (.t 7))), []⟩, ⟨(some 9), none, (.op (.ext 0 (.t 8))), []⟩]) (.seq (.cond (.t 9) .skip (.exit 0)) (.block 1 (.seq (.reg [⟨(some 10), none, (.op (.ext 2 (.t 8))), []⟩, ⟨(some 5), none, (.op (.mv (.t 10))), []⟩]) (.seq (.seq (.reg [⟨(some 11), none, (.op (.mv (.t 5))), []⟩, ⟨(some 12), none, (.call 28 [(.t 11)]), []⟩, ⟨(some 13), none, (.op (.un .not (.t 12))), []⟩, ⟨(some 14), none, (.op (.mv (.t 13))), []⟩, ⟨(some 15), (some (14, true)), (.op (.mv (.t 3))), []⟩, ⟨(some 16), (some (14, true)), (.op (.bin .eql (.t 15) (.c (.int .i64 0)))), []⟩, ⟨(some 17), (some (14, true)), (.op (.mv (.t 16))), []⟩, ⟨(some 18), (some (17, false)), (.op (.mv (.t 5))), []⟩, ⟨(some 19), (some (17, false)), (.call 83 [(.t 18)]), []⟩, ⟨(some 20), (some (17, false)), (.op (.un .not (.t 19))), []⟩, ⟨(some 21), (some (14, true)), (.op (.pick (.t 17) (.c (.bool true)) (.t 20))), []⟩, ⟨(some 22), none, (.op (.pick (.t 14) (.t 21) (.c (.bool false)))), []⟩]) (.cond (.t 22) (.seq (.reg [⟨(some 2), none, (.op (.mv (.c (.bool false)))), []⟩]) .ret) .skip)) (.reg [⟨(some 23), none, (.op (.mv (.t 3))), []⟩, ⟨(some 24), none, (.op (.bin .add (.t 23) (.c (.int .i64 1)))), []⟩, ⟨(some 3), none, (.op (.mv (.t 24))), []⟩]))))))
def w58_0 (f : Int → V → List Ob → SubR) (vs : List V) (h : List Ob) : SubR := castCons vs fun c1 l1 => castInt .i64 c1 fun n2 => castCons l1 fun c3 l3 => castNil l3 (f n2 c3 h)
noncomputable def B58_0 (lf : Nat) (self : Int → V → List Ob → SubR) (n_ : Int) (x7 : V) (h : List Ob) : SubR :=
bind2 (ev (.nextS (.c x7)) h) fun x8 h_ =>
bind1 (er (.ext 0 (.c x8)) h_) fun v =>
castBool v fun x9 =>
cB x9 (
bind1 (er (.ext 2 (.c x8)) h_) fun v1 =>
castInt .i32 v1 fun x10 =>
bind2 (F28 lf x10 h_) fun v2 h_1 =>
castBool v2 fun x12 =>
cB (!x12) (
cB (n_ == (0)) (
some (.ret, [(.bool false)], h_1)) (
bind2 (F83 lf x10 h_1) fun v3 h_2 =>
castBool v3 fun x19 =>
cB (!x19) (
some (.ret, [(.bool false)], h_2)) (
self (IntKind.i64.wrap (n_ + (1))) x7 h_2))) (
self (IntKind.i64.wrap (n_ + (1))) x7 h_1)) (
some ((.exit 0), [(.int .i64 n_)], h_))
noncomputable def L58_0 (lf : Nat) : Nat → Int → V → List Ob → SubR
  | 0 => fun _ _ _ => none
  | n + 1 => B58_0 lf (L58_0 lf n)
theorem B58_0_eq (lf : Nat) (self : Int → V → List Ob → SubR) (n_ : Int) (x7 : V) (h : List Ob) : evCK A58 ⟨call58 lf, cvN, subN⟩ k58_0 [(3, (.int .i64 n_)), (7, x7)] h (endL [3, 7] [(.int .i64), .any] o58_0 (w58_0 self)) = B58_0 lf self n_ x7 h := by kernel_rfl
theorem L58_0_ok (lf : Nat) : ∀ n, SubOk Go.Proofs.Try.prog (.loop k58_0.er) [3, 7] o58_0 (w58_0 (L58_0 lf n)) := by
  refine SubOk.loop (A := A58) (σ := ⟨call58 lf, cvN, subN⟩) (c := k58_0) (shs := [(.int .i64), .any]) (G := fun n => w58_0 (L58_0 lf n)) (call58_ok lf) cvN_ok (And.intro True.intro (And.intro (And.intro True.intro True.intro) (And.intro True.intro (And.intro (And.intro True.intro (And.intro (And.intro True.intro True.intro) True.intro)) True.intro)))) ?_ ?_
  · intro vs h r e0
    simp only [w58_0] at e0
    obtain ⟨c1, l1, rfl, e1⟩ := castCons_inv e0
    obtain ⟨y0, rfl, e2⟩ := castInt_inv e1
    obtain ⟨c2, l2, rfl, e3⟩ := castCons_inv e2
    obtain ⟨rfl, e4⟩ := castNil_inv e3
    have e := e4
    cases e
  · intro n vs h r e0
    simp only [w58_0] at e0
    obtain ⟨c1, l1, rfl, e1⟩ := castCons_inv e0
    obtain ⟨y0, rfl, e2⟩ := castInt_inv e1
    obtain ⟨c2, l2, rfl, e3⟩ := castCons_inv e2
    obtain ⟨rfl, e4⟩ := castNil_inv e3
    have e := e4
    exact (B58_0_eq lf (L58_0 lf n) y0 c2 h).trans e
def k58 : KC := (.seq (.reg [⟨(some 2), none, (.op (.mv (.c (.bool false)))), []⟩]) (.seq (.reg [⟨(some 3), none, (.op (.mv (.c (.int .i64 0)))), []⟩]) (.seq (.seq (.reg [⟨(some 6), none, (.op (.mv (.t 0))), []⟩, ⟨(some 7), none, (.op (.rangeS (.t 6))), []⟩]) (.block 0 (.sub 0 (.loop k58_0.er) [3, 7] o58_0))) (.seq (.reg [⟨(some 25), none, (.op (.mv (.t 3))), []⟩, ⟨(some 26), none, (.op (.bin .gtr (.t 25) (.c (.int .i64 0)))), []⟩, ⟨(some 27), none, (.op (.mv (.t 26))), []⟩, ⟨(some 28), (some (27, true)), (.op (.mv (.t 3))), []⟩, ⟨(some 29), (some (27, true)), (.op (.bin .leq (.t 28) (.c (.int .i64 16)))), []⟩, ⟨(some 30), none, (.op (.pick (.t 27) (.t 29) (.c (.bool false)))), []⟩, ⟨(some 2), none, (.op (.mv (.t 30))), []⟩]) .ret))))
noncomputable def F58 (lf : Nat) (s : List UInt8) (h : List Ob) : Option (V × List Ob) :=
bind2 (ev (.rangeS (.c (.str s))) h) fun x7 h_ =>
bind3 (L58_0 lf lf (0) x7 h_) fun ex vs h_1 =>
cB (decide (ex = (.exit 0))) (
castCons vs fun c l =>
castInt .i64 c fun n_ =>
castNil l (
cB (decide (n_ > (0))) (
some ((.bool (decide (n_ ≤ (16)))), h_1)) (
some ((.bool false), h_1)))) (
cB (decide (ex = .ret)) (
castCons vs fun c l =>
castBool c fun x2 =>
castNil l (
some ((.bool x2), h_1))) (
none))
theorem F58_eq (lf : Nat) (s : List UInt8) (h : List Ob) : evCK A58 ⟨call58 lf, cvN, subC 0 (w58_0 (L58_0 lf lf)) (subN)⟩ k58 (entryK [(.str s)]) h (endF c58.res) = F58 lf s h := by kernel_rfl
theorem F58_ok (lf : Nat) (s : List UInt8) (h : List Ob) (r_ : V) (h_r : List Ob) (e_ : F58 lf s h = some (r_, h_r)) : CD Go.Proofs.Try.prog 58 [(.str s)] h r_ h_r :=
  CD.ofK (A := A58) (σ := ⟨call58 lf, cvN, subC 0 (w58_0 (L58_0 lf lf)) (subN)⟩) (c := k58) Go.Proofs.Try.func58 ok58 en58 (show 1 ≤ 31 by decide) (by kernel_rfl) (call58_ok lf) cvN_ok (And.intro True.intro (And.intro True.intro (And.intro (And.intro True.intro (L58_0_ok lf lf)) (And.intro True.intro True.intro)))) ((F58_eq lf s h).trans e_)
def w58 (f : List UInt8 → List Ob → Option (V × List Ob)) (vs : List V) (h : List Ob) : Option (V × List Ob) := castCons vs fun c1 l1 => castStr c1 fun n2 => castNil l1 (f n2 h)
noncomputable def W58 (lf : Nat) : List V → List Ob → Option (V × List Ob) := w58 (F58 lf)
theorem W58_ok (lf : Nat) : ∀ args h v h', W58 lf args h = some (v, h') → CD Go.Proofs.Try.prog 58 args h v h' := by
  intro vs h r h' e0
  simp only [W58, w58] at e0
  obtain ⟨c1, l1, rfl, e1⟩ := castCons_inv e0
  obtain ⟨y0, rfl, e2⟩ := castStr_inv e1
  obtain ⟨rfl, e3⟩ := castNil_inv e2
  have e := e3
  exact F58_ok lf y0 h r h' e

/-! 24: wainscot/lexer.Name -/
def A24 : List (Nat × Sh) := [(0, .str), (2, .bool), (3, .str), (4, .bool), (5, .bool), (6, .str), (7, .bool), (8, .bool), (9, .bool)]
noncomputable def call24 (lf : Nat) : CallS := callC 58 (W58 lf) (callC 26 (W26 lf) (callN))
theorem call24_ok (lf : Nat) : CallOk Go.Proofs.Try.prog (call24 lf) := callC_ok (W58_ok lf) (callC_ok (W26_ok lf) (callN_ok))
def k24 : KC := (.seq (.reg [⟨(some 2), none, (.op (.mv (.c (.bool false)))), []⟩]) (.seq (.reg [⟨(some 3), none, (.op (.mv (.t 0))), []⟩, ⟨(some 4), none, (.call 58 [(.t 3)]), []⟩, ⟨(some 5), none, (.op (.mv (.t 4))), []⟩, ⟨(some 6), (some (5, true)), (.op (.mv (.t 0))), []⟩, ⟨(some 7), (some (5, true)), (.call 26 [(.t 6)]), []⟩, ⟨(some 8), (some (5, true)), (.op (.un .not (.t 7))), []⟩, ⟨(some 9), none, (.op (.pick (.t 5) (.t 8) (.c (.bool false)))), []⟩, ⟨(some 2), none, (.op (.mv (.t 9))), []⟩]) .ret))
noncomputable def F24 (lf : Nat) (s : List UInt8) (h : List Ob) : Option (V × List Ob) :=
bind2 (F58 lf s h) fun v h_ =>
castBool v fun x4 =>
cB x4 (
bind2 (F26 lf s h_) fun v1 h_1 =>
castBool v1 fun x7 =>
some ((.bool (!x7)), h_1)) (
some ((.bool false), h_))
theorem F24_eq (lf : Nat) (s : List UInt8) (h : List Ob) : evCK A24 ⟨call24 lf, cvN, subN⟩ k24 (entryK [(.str s)]) h (endF c24.res) = F24 lf s h := by kernel_rfl
theorem F24_ok (lf : Nat) (s : List UInt8) (h : List Ob) (r_ : V) (h_r : List Ob) (e_ : F24 lf s h = some (r_, h_r)) : CD Go.Proofs.Try.prog 24 [(.str s)] h r_ h_r :=
  CD.ofK (A := A24) (σ := ⟨call24 lf, cvN, subN⟩) (c := k24) Go.Proofs.Try.func24 ok24 en24 (show 1 ≤ 10 by decide) (by kernel_rfl) (call24_ok lf) cvN_ok (And.intro True.intro (And.intro True.intro True.intro)) ((F24_eq lf s h).trans e_)
def w24 (f : List UInt8 → List Ob → Option (V × List Ob)) (vs : List V) (h : List Ob) : Option (V × List Ob) := castCons vs fun c1 l1 => castStr c1 fun n2 => castNil l1 (f n2 h)
noncomputable def W24 (lf : Nat) : List V → List Ob → Option (V × List Ob) := w24 (F24 lf)
theorem W24_ok (lf : Nat) : ∀ args h v h', W24 lf args h = some (v, h') → CD Go.Proofs.Try.prog 24 args h v h' := by
  intro vs h r h' e0
  simp only [W24, w24] at e0
  obtain ⟨c1, l1, rfl, e1⟩ := castCons_inv e0
  obtain ⟨y0, rfl, e2⟩ := castStr_inv e1
  obtain ⟨rfl, e3⟩ := castNil_inv e2
  have e := e3
  exact F24_ok lf y0 h r h' e

/-! 27: wainscot/wainscotref05.Keyword -/
def A27 : List (Nat × Sh) := [(0, .str), (2, .bool), (3, (.int .i64)), (4, .str), (5, (.int .i64)), (6, .str), (7, .bool), (8, .str), (9, (.int .i64)), (10, (.int .i64)), (11, .bool), (12, (.int .i64)), (13, .str), (14, (.int .i64)), (15, (.int .u8)), (16, .bool), (17, (.int .i64)), (18, .str), (19, .str), (20, .str), (21, (.int .i64)), (22, .str), (23, (.int .i64)), (24, (.int .i64)), (25, .bool), (26, (.int .i64)), (27, (.int .i64)), (28, (.int .i64)), (29, (.int .i64)), (30, .str), (31, (.int .i64)), (32, (.int .i64)), (33, .str), (34, .str), (35, .bool)]
noncomputable def call27 (lf : Nat) : CallS := callN
theorem call27_ok (lf : Nat) : CallOk Go.Proofs.Try.prog (call27 lf) := callN_ok
def o27_0 : Outs := [((.exit 0), [], []), (.ret, [2], [.bool])]
def k27_0 : KC := (.seq (.reg [⟨(some 11), none, (.op (.bin .lss (.t 10) (.t 9))), []⟩]) (.seq (.cond (.t 11) .skip (.exit 0)) (.seq (.block 1 (.seq (.reg [⟨(some 12), none, (.op (.mv (.t 10))), []⟩, ⟨(some 3), none, (.op (.mv (.t 12))), []⟩]) (.seq (.reg [⟨(some 13), none, (.op (.mv (.t 0))), []⟩, ⟨(some 14), none, (.op (.mv (.t 3))), []⟩, ⟨(some 15), none, (.op (.idxS (.t 13) (.t 14))), []⟩, ⟨(some 16), none, (.op (.bin .eql (.t 15) (.c (.int .u8 32)))), []⟩]) (.cond (.t 16) (.seq (.reg [⟨(some 2), none, (.op (.mv (.c (.bool false)))), []⟩]) .ret) .skip)))) (.reg [⟨(some 17), none, (.op (.bin .add (.t 10) (.c (.int .i64 1)))), []⟩, ⟨(some 10), none, (.op (.mv (.t 17))), []⟩]))))
def w27_0 (f : List UInt8 → Int → Int → List Ob → SubR) (vs : List V) (h : List Ob) : SubR := castCons vs fun c1 l1 => castStr c1 fun n2 => castCons l1 fun c3 l3 => castInt .i64 c3 fun n4 => castCons l3 fun c5 l5 => castInt .i64 c5 fun n6 => castNil l5 (f n2 n4 n6 h)
noncomputable def B27_0 (lf : Nat) (self : List UInt8 → Int → Int → List Ob → SubR) (s : List UInt8) (x9 : Int) (x10 : Int) (h : List Ob) : SubR :=
cB (decide (x10 < x9)) (
bind1 (er (.idxS (.c (.str s)) (.c (.int .i64 x10))) h) fun v =>
castInt .u8 v fun x15 =>
cB (x15 == (32)) (
some (.ret, [(.bool false)], h)) (
self s x9 (IntKind.i64.wrap (x10 + (1))) h)) (
some ((.exit 0), [], h))
noncomputable def L27_0 (lf : Nat) : Nat → List UInt8 → Int → Int → List Ob → SubR
  | 0 => fun _ _ _ _ => none
  | n + 1 => B27_0 lf (L27_0 lf n)
theorem B27_0_eq (lf : Nat) (self : List UInt8 → Int → Int → List Ob → SubR) (s : List UInt8) (x9 : Int) (x10 : Int) (h : List Ob) : evCK A27 ⟨call27 lf, cvN, subN⟩ k27_0 [(0, (.str s)), (9, (.int .i64 x9)), (10, (.int .i64 x10))] h (endL [0, 9, 10] [.str, (.int .i64), (.int .i64)] o27_0 (w27_0 self)) = B27_0 lf self s x9 x10 h := by kernel_rfl
theorem L27_0_ok (lf : Nat) : ∀ n, SubOk Go.Proofs.Try.prog (.loop k27_0.er) [0, 9, 10] o27_0 (w27_0 (L27_0 lf n)) := by
  refine SubOk.loop (A := A27) (σ := ⟨call27 lf, cvN, subN⟩) (c := k27_0) (shs := [.str, (.int .i64), (.int .i64)]) (G := fun n => w27_0 (L27_0 lf n)) (call27_ok lf) cvN_ok (And.intro True.intro (And.intro (And.intro True.intro True.intro) (And.intro (And.intro True.intro (And.intro True.intro (And.intro (And.intro True.intro True.intro) True.intro))) True.intro))) ?_ ?_
  · intro vs h r e0
    simp only [w27_0] at e0
    obtain ⟨c1, l1, rfl, e1⟩ := castCons_inv e0
    obtain ⟨y0, rfl, e2⟩ := castStr_inv e1
    obtain ⟨c2, l2, rfl, e3⟩ := castCons_inv e2
    obtain ⟨y1, rfl, e4⟩ := castInt_inv e3
    obtain ⟨c3, l3, rfl, e5⟩ := castCons_inv e4
    obtain ⟨y2, rfl, e6⟩ := castInt_inv e5
    obtain ⟨rfl, e7⟩ := castNil_inv e6
    have e := e7
    cases e
  · intro n vs h r e0
    simp only [w27_0] at e0
    obtain ⟨c1, l1, rfl, e1⟩ := castCons_inv e0
    obtain ⟨y0, rfl, e2⟩ := castStr_inv e1
    obtain ⟨c2, l2, rfl, e3⟩ := castCons_inv e2
    obtain ⟨y1, rfl, e4⟩ := castInt_inv e3
    obtain ⟨c3, l3, rfl, e5⟩ := castCons_inv e4
    obtain ⟨y2, rfl, e6⟩ := castInt_inv e5
    obtain ⟨rfl, e7⟩ := castNil_inv e6
    have e := e7
    exact (B27_0_eq lf (L27_0 lf n) y0 y1 y2 h).trans e
def o27_1 : Outs := [((.exit 2), [], []), (.ret, [2], [.bool])]
def k27_1 : KC := (.seq (.seq (.reg [⟨(some 21), none, (.op (.mv (.t 5))), []⟩, ⟨(some 22), none, (.op (.mv (.t 4))), []⟩, ⟨(some 23), none, (.op (.lenS (.t 22))), []⟩, ⟨(some 24), none, (.op (.bin .add (.t 21) (.t 23))), []⟩, ⟨(some 25), none, (.op (.bin .leq (.t 24) (.c (.int .i64 223)))), []⟩]) (.cond (.t 25) .skip (.exit 2))) (.seq (.block 3 (.seq (.reg [⟨(some 28), none, (.op (.mv (.t 5))), []⟩, ⟨(some 29), none, (.op (.mv (.t 5))), []⟩, ⟨(some 30), none, (.op (.mv (.t 4))), []⟩, ⟨(some 31), none, (.op (.lenS (.t 30))), []⟩, ⟨(some 32), none, (.op (.bin .add (.t 29) (.t 31))), []⟩, ⟨(some 33), none, (.op (.slcS (.c (.str [32, 67, 82, 69, 65, 84, 69, 32, 84, 65, 66, 76, 69, 32, 73, 78, 68, 69, 88, 32, 85, 78, 73, 81, 85, 69, 32, 77, 65, 84, 69, 82, 73, 65, 76, 73, 90, 69, 68, 32, 86, 73, 69, 87, 32, 68, 82, 79, 80, 32, 73, 78, 83, 69, 82, 84, 32, 73, 78, 84, 79, 32, 86, 65, 76, 85, 69, 83, 32, 85, 80, 68, 65, 84, 69, 32, 83, 69, 84, 32, 68, 69, 76, 69, 84, 69, 32, 70, 82, 79, 77, 32, 83, 69, 76, 69, 67, 84, 32, 68, 73, 83, 84, 73, 78, 67, 84, 32, 87, 72, 69, 82, 69, 32, 71, 82, 79, 85, 80, 32, 66, 89, 32, 79, 82, 68, 69, 82, 32, 65, 83, 67, 32, 68, 69, 83, 67, 32, 76, 73, 77, 73, 84, 32, 74, 79, 73, 78, 32, 79, 78, 32, 65, 83, 32, 65, 78, 68, 32, 79, 82, 32, 78, 79, 84, 32, 73, 83, 32, 78, 85, 76, 76, 32, 73, 78, 84, 32, 84, 69, 88, 84, 32, 66, 69, 71, 73, 78, 32, 67, 79, 77, 77, 73, 84, 32, 82, 79, 76, 76, 66, 65, 67, 75, 32, 67, 79, 85, 78, 84, 32, 83, 85, 77, 32, 77, 73, 78, 32, 77, 65, 88, 32])) (some (.t 28)) (some (.t 32)))), []⟩, ⟨(some 34), none, (.op (.mv (.t 4))), []⟩, ⟨(some 35), none, (.op (.bin .eql (.t 33) (.t 34))), []⟩]) (.cond (.t 35) (.seq (.reg [⟨(some 2), none, (.op (.mv (.c (.bool true)))), []⟩]) .ret) .skip))) (.reg [⟨(some 26), none, (.op (.mv (.t 5))), []⟩, ⟨(some 27), none, (.op (.bin .add (.t 26) (.c (.int .i64 1)))), []⟩, ⟨(some 5), none, (.op (.mv (.t 27))), []⟩])))
def w27_1 (f : List UInt8 → Int → List Ob → SubR) (vs : List V) (h : List Ob) : SubR := castCons vs fun c1 l1 => castStr c1 fun n2 => castCons l1 fun c3 l3 => castInt .i64 c3 fun n4 => castNil l3 (f n2 n4 h)
noncomputable def B27_1 (lf : Nat) (self : List UInt8 → Int → List Ob → SubR) (w : List UInt8) (i : Int) (h : List Ob) : SubR :=
cB (decide ((IntKind.i64.wrap (i + ((w).length : Int))) ≤ (223))) (
bind1 (er (.slcS (.c (.str [32, 67, 82, 69, 65, 84, 69, 32, 84, 65, 66, 76, 69, 32, 73, 78, 68, 69, 88, 32, 85, 78, 73, 81, 85, 69, 32, 77, 65, 84, 69, 82, 73, 65, 76, 73, 90, 69, 68, 32, 86, 73, 69, 87, 32, 68, 82, 79, 80, 32, 73, 78, 83, 69, 82, 84, 32, 73, 78, 84, 79, 32, 86, 65, 76, 85, 69, 83, 32, 85, 80, 68, 65, 84, 69, 32, 83, 69, 84, 32, 68, 69, 76, 69, 84, 69, 32, 70, 82, 79, 77, 32, 83, 69, 76, 69, 67, 84, 32, 68, 73, 83, 84, 73, 78, 67, 84, 32, 87, 72, 69, 82, 69, 32, 71, 82, 79, 85, 80, 32, 66, 89, 32, 79, 82, 68, 69, 82, 32, 65, 83, 67, 32, 68, 69, 83, 67, 32, 76, 73, 77, 73, 84, 32, 74, 79, 73, 78, 32, 79, 78, 32, 65, 83, 32, 65, 78, 68, 32, 79, 82, 32, 78, 79, 84, 32, 73, 83, 32, 78, 85, 76, 76, 32, 73, 78, 84, 32, 84, 69, 88, 84, 32, 66, 69, 71, 73, 78, 32, 67, 79, 77, 77, 73, 84, 32, 82, 79, 76, 76, 66, 65, 67, 75, 32, 67, 79, 85, 78, 84, 32, 83, 85, 77, 32, 77, 73, 78, 32, 77, 65, 88, 32])) (some (.c (.int .i64 i))) (some (.c (.int .i64 (IntKind.i64.wrap (i + ((w).length : Int))))))) h) fun v =>
castStr v fun x33 =>
cB (x33 == w) (
some (.ret, [(.bool true)], h)) (
self w (IntKind.i64.wrap (i + (1))) h)) (
some ((.exit 2), [], h))
noncomputable def L27_1 (lf : Nat) : Nat → List UInt8 → Int → List Ob → SubR
  | 0 => fun _ _ _ => none
  | n + 1 => B27_1 lf (L27_1 lf n)
theorem B27_1_eq (lf : Nat) (self : List UInt8 → Int → List Ob → SubR) (w : List UInt8) (i : Int) (h : List Ob) : evCK A27 ⟨call27 lf, cvN, subN⟩ k27_1 [(4, (.str w)), (5, (.int .i64 i))] h (endL [4, 5] [.str, (.int .i64)] o27_1 (w27_1 self)) = B27_1 lf self w i h := by kernel_rfl
theorem L27_1_ok (lf : Nat) : ∀ n, SubOk Go.Proofs.Try.prog (.loop k27_1.er) [4, 5] o27_1 (w27_1 (L27_1 lf n)) := by
  refine SubOk.loop (A := A27) (σ := ⟨call27 lf, cvN, subN⟩) (c := k27_1) (shs := [.str, (.int .i64)]) (G := fun n => w27_1 (L27_1 lf n)) (call27_ok lf) cvN_ok (And.intro (And.intro True.intro (And.intro True.intro True.intro)) (And.intro (And.intro True.intro (And.intro (And.intro True.intro True.intro) True.intro)) True.intro)) ?_ ?_
  · intro vs h r e0
    simp only [w27_1] at e0
    obtain ⟨c1, l1, rfl, e1⟩ := castCons_inv e0
    obtain ⟨y0, rfl, e2⟩ := castStr_inv e1
    obtain ⟨c2, l2, rfl, e3⟩ := castCons_inv e2
    obtain ⟨y1, rfl, e4⟩ := castInt_inv e3
    obtain ⟨rfl, e5⟩ := castNil_inv e4
    have e := e5
    cases e
  · intro n vs h r e0
    simp only [w27_1] at e0
    obtain ⟨c1, l1, rfl, e1⟩ := castCons_inv e0
    obtain ⟨y0, rfl, e2⟩ := castStr_inv e1
    obtain ⟨c2, l2, rfl, e3⟩ := castCons_inv e2
    obtain ⟨y1, rfl, e4⟩ := castInt_inv e3
    obtain ⟨rfl, e5⟩ := castNil_inv e4
    have e := e5
    exact (B27_1_eq lf (L27_1 lf n) y0 y1 h).trans e
def k27 : KC := (.seq (.reg [⟨(some 2), none, (.op (.mv (.c (.bool false)))), []⟩]) (.seq (.seq (.reg [⟨(some 6), none, (.op (.mv (.t 0))), []⟩, ⟨(some 7), none, (.op (.bin .eql (.t 6) (.c (.str [])))), []⟩]) (.cond (.t 7) (.seq (.reg [⟨(some 2), none, (.op (.mv (.c (.bool false)))), []⟩]) .ret) .skip)) (.seq (.seq (.reg [⟨(some 8), none, (.op (.mv (.t 0))), []⟩, ⟨(some 9), none, (.op (.lenS (.t 8))), []⟩, ⟨(some 10), none, (.op (.mv (.c (.int .i64 0)))), []⟩]) (.block 0 (.sub 0 (.loop k27_0.er) [0, 9, 10] o27_0))) (.seq (.reg [⟨(some 18), none, (.op (.mv (.t 0))), []⟩, ⟨(some 19), none, (.op (.bin .add (.c (.str [32])) (.t 18))), []⟩, ⟨(some 20), none, (.op (.bin .add (.t 19) (.c (.str [32])))), []⟩, ⟨(some 4), none, (.op (.mv (.t 20))), []⟩]) (.seq (.seq (.reg [⟨(some 5), none, (.op (.mv (.c (.int .i64 0)))), []⟩]) (.block 2 (.sub 1 (.loop k27_1.er) [4, 5] o27_1))) (.seq (.reg [⟨(some 2), none, (.op (.mv (.c (.bool false)))), []⟩]) .ret))))))
noncomputable def F27 (lf : Nat) (s : List UInt8) (h : List Ob) : Option (V × List Ob) :=
cB (s == ([] : List UInt8)) (
some ((.bool false), h)) (
bind3 (L27_0 lf lf s ((s).length : Int) (0) h) fun ex vs h_ =>
cB (decide (ex = (.exit 0))) (
castNil vs (
bind1 (er (.bin .add (.c (.str [32])) (.c (.str s))) h_) fun v =>
castStr v fun x19 =>
bind1 (er (.bin .add (.c (.str x19)) (.c (.str [32]))) h_) fun v1 =>
castStr v1 fun x20 =>
bind3 (L27_1 lf lf x20 (0) h_) fun ex1 vs1 h_1 =>
cB (decide (ex1 = (.exit 2))) (
castNil vs1 (
some ((.bool false), h_1))) (
cB (decide (ex1 = .ret)) (
castCons vs1 fun c l =>
castBool c fun x2 =>
castNil l (
some ((.bool x2), h_1))) (
none)))) (
cB (decide (ex = .ret)) (
castCons vs fun c l =>
castBool c fun x2 =>
castNil l (
some ((.bool x2), h_))) (
none)))
theorem F27_eq (lf : Nat) (s : List UInt8) (h : List Ob) : evCK A27 ⟨call27 lf, cvN, subC 1 (w27_1 (L27_1 lf lf)) (subC 0 (w27_0 (L27_0 lf lf)) (subN))⟩ k27 (entryK [(.str s)]) h (endF c27.res) = F27 lf s h := by kernel_rfl
theorem F27_ok (lf : Nat) (s : List UInt8) (h : List Ob) (r_ : V) (h_r : List Ob) (e_ : F27 lf s h = some (r_, h_r)) : CD Go.Proofs.Try.prog 27 [(.str s)] h r_ h_r :=
  CD.ofK (A := A27) (σ := ⟨call27 lf, cvN, subC 1 (w27_1 (L27_1 lf lf)) (subC 0 (w27_0 (L27_0 lf lf)) (subN))⟩) (c := k27) Go.Proofs.Try.func27 ok27 en27 (show 1 ≤ 36 by decide) (by kernel_rfl) (call27_ok lf) cvN_ok (And.intro True.intro (And.intro (And.intro True.intro (And.intro (And.intro True.intro True.intro) True.intro)) (And.intro (And.intro True.intro (L27_0_ok lf lf)) (And.intro True.intro (And.intro (And.intro True.intro (L27_1_ok lf lf)) (And.intro True.intro True.intro)))))) ((F27_eq lf s h).trans e_)
def w27 (f : List UInt8 → List Ob → Option (V × List Ob)) (vs : List V) (h : List Ob) : Option (V × List Ob) := castCons vs fun c1 l1 => castStr c1 fun n2 => castNil l1 (f n2 h)
noncomputable def W27 (lf : Nat) : List V → List Ob → Option (V × List Ob) := w27 (F27 lf)
theorem W27_ok (lf : Nat) : ∀ args h v h', W27 lf args h = some (v, h') → CD Go.Proofs.Try.prog 27 args h v h' := by
  intro vs h r h' e0
  simp only [W27, w27] at e0
  obtain ⟨c1, l1, rfl, e1⟩ := castCons_inv e0
  obtain ⟨y0, rfl, e2⟩ := castStr_inv e1
  obtain ⟨rfl, e3⟩ := castNil_inv e2
  have e := e3
  exact F27_ok lf y0 h r h' e

/-! 29: wainscot/wainscotref05.Letter -/
def A29 : List (Nat × Sh) := [(0, (.int .i32)), (2, .bool), (3, (.int .i32)), (4, .bool), (5, .bool), (6, (.int .i32)), (7, .bool), (8, .bool), (9, .bool), (10, (.int .i32)), (11, .bool), (12, .bool), (13, (.int .i32)), (14, .bool), (15, .bool), (16, .bool), (17, .bool), (18, (.int .i32)), (19, .bool), (20, .bool), (21, (.int .i32)), (22, .bool), (23, .bool), (24, .bool), (25, .bool), (26, (.int .i32)), (27, .bool), (28, .bool)]
noncomputable def call29 (lf : Nat) : CallS := callN
theorem call29_ok (lf : Nat) : CallOk Go.Proofs.Try.prog (call29 lf) := callN_ok
def k29 : KC := (.seq (.reg [⟨(some 2), none, (.op (.mv (.c (.bool false)))), []⟩]) (.seq (.reg [⟨(some 3), none, (.op (.mv (.t 0))), []⟩, ⟨(some 4), none, (.op (.bin .geq (.t 3) (.c (.int .i32 97)))), []⟩, ⟨(some 5), none, (.op (.mv (.t 4))), []⟩, ⟨(some 6), (some (5, true)), (.op (.mv (.t 0))), []⟩, ⟨(some 7), (some (5, true)), (.op (.bin .leq (.t 6) (.c (.int .i32 122)))), []⟩, ⟨(some 8), none, (.op (.pick (.t 5) (.t 7) (.c (.bool false)))), []⟩, ⟨(some 9), none, (.op (.mv (.t 8))), []⟩, ⟨(some 10), (some (9, false)), (.op (.mv (.t 0))), []⟩, ⟨(some 11), (some (9, false)), (.op (.bin .geq (.t 10) (.c (.int .i32 65)))), []⟩, ⟨(some 12), (some (9, false)), (.op (.mv (.t 11))), []⟩, ⟨(some 13), (some (12, true)), (.op (.mv (.t 0))), []⟩, ⟨(some 14), (some (12, true)), (.op (.bin .leq (.t 13) (.c (.int .i32 90)))), []⟩, ⟨(some 15), (some (9, false)), (.op (.pick (.t 12) (.t 14) (.c (.bool false)))), []⟩, ⟨(some 16), none, (.op (.pick (.t 9) (.c (.bool true)) (.t 15))), []⟩, ⟨(some 17), none, (.op (.mv (.t 16))), []⟩, ⟨(some 18), (some (17, false)), (.op (.mv (.t 0))), []⟩, ⟨(some 19), (some (17, false)), (.op (.bin .geq (.t 18) (.c (.int .i32 945)))), []⟩, ⟨(some 20), (some (17, false)), (.op (.mv (.t 19))), []⟩, ⟨(some 21), (some (20, true)), (.op (.mv (.t 0))), []⟩, ⟨(some 22), (some (20, true)), (.op (.bin .leq (.t 21) (.c (.int .i32 969)))), []⟩, ⟨(some 23), (some (17, false)), (.op (.pick (.t 20) (.t 22) (.c (.bool false)))), []⟩, ⟨(some 24), none, (.op (.pick (.t 17) (.c (.bool true)) (.t 23))), []⟩, ⟨(some 25), none, (.op (.mv (.t 24))), []⟩, ⟨(some 26), (some (25, false)), (.op (.mv (.t 0))), []⟩, ⟨(some 27), (some (25, false)), (.op (.bin .eql (.t 26) (.c (.int .i32 95)))), []⟩, ⟨(some 28), none, (.op (.pick (.t 25) (.c (.bool true)) (.t 27))), []⟩, ⟨(some 2), none, (.op (.mv (.t 28))), []⟩]) .ret))
noncomputable def F29 (lf : Nat) (r : Int) (h : List Ob) : Option (V × List Ob) :=
cB (decide (r ≥ (97))) (
cB (decide (r ≤ (122))) (
some ((.bool true), h)) (
cB (decide (r ≥ (65))) (
cB (decide (r ≤ (90))) (
some ((.bool true), h)) (
cB (decide (r ≥ (945))) (
cB (decide (r ≤ (969))) (
some ((.bool true), h)) (
some ((.bool (r == (95))), h))) (
some ((.bool (r == (95))), h)))) (
cB (decide (r ≥ (945))) (
cB (decide (r ≤ (969))) (
some ((.bool true), h)) (
some ((.bool (r == (95))), h))) (
some ((.bool (r == (95))), h))))) (
cB (decide (r ≥ (65))) (
cB (decide (r ≤ (90))) (
some ((.bool true), h)) (
cB (decide (r ≥ (945))) (
cB (decide (r ≤ (969))) (
some ((.bool true), h)) (
some ((.bool (r == (95))), h))) (
some ((.bool (r == (95))), h)))) (
cB (decide (r ≥ (945))) (
cB (decide (r ≤ (969))) (
some ((.bool true), h)) (
some ((.bool (r == (95))), h))) (
some ((.bool (r == (95))), h))))
theorem F29_eq (lf : Nat) (r : Int) (h : List Ob) : evCK A29 ⟨call29 lf, cvN, subN⟩ k29 (entryK [(.int .i32 r)]) h (endF c29.res) = F29 lf r h := by kernel_rfl
theorem F29_ok (lf : Nat) (r : Int) (h : List Ob) (r_ : V) (h_r : List Ob) (e_ : F29 lf r h = some (r_, h_r)) : CD Go.Proofs.Try.prog 29 [(.int .i32 r)] h r_ h_r :=
  CD.ofK (A := A29) (σ := ⟨call29 lf, cvN, subN⟩) (c := k29) Go.Proofs.Try.func29 ok29 en29 (show 1 ≤ 29 by decide) (by kernel_rfl) (call29_ok lf) cvN_ok (And.intro True.intro (And.intro True.intro True.intro)) ((F29_eq lf r h).trans e_)
def w29 (f : Int → List Ob → Option (V × List Ob)) (vs : List V) (h : List Ob) : Option (V × List Ob) := castCons vs fun c1 l1 => castInt .i32 c1 fun n2 => castNil l1 (f n2 h)
noncomputable def W29 (lf : Nat) : List V → List Ob → Option (V × List Ob) := w29 (F29 lf)
theorem W29_ok (lf : Nat) : ∀ args h v h', W29 lf args h = some (v, h') → CD Go.Proofs.Try.prog 29 args h v h' := by
  intro vs h r h' e0
  simp only [W29, w29] at e0
  obtain ⟨c1, l1, rfl, e1⟩ := castCons_inv e0
  obtain ⟨y0, rfl, e2⟩ := castInt_inv e1
  obtain ⟨rfl, e3⟩ := castNil_inv e2
  have e := e3
  exact F29_ok lf y0 h r h' e

/-! 86: wainscot/wainscotref05.digit -/
def A86 : List (Nat × Sh) := [(0, (.int .i32)), (2, .bool), (3, (.int .i32)), (4, .bool), (5, .bool), (6, (.int .i32)), (7, .bool), (8, .bool)]
noncomputable def call86 (lf : Nat) : CallS := callN
theorem call86_ok (lf : Nat) : CallOk Go.Proofs.Try.prog (call86 lf) := callN_ok
def k86 : KC := (.seq (.reg [⟨(some 2), none, (.op (.mv (.c (.bool false)))), []⟩]) (.seq (.reg [⟨(some 3), none, (.op (.mv (.t 0))), []⟩, ⟨(some 4), none, (.op (.bin .geq (.t 3) (.c (.int .i32 48)))), []⟩, ⟨(some 5), none, (.op (.mv (.t 4))), []⟩, ⟨(some 6), (some (5, true)), (.op (.mv (.t 0))), []⟩, ⟨(some 7), (some (5, true)), (.op (.bin .leq (.t 6) (.c (.int .i32 57)))), []⟩, ⟨(some 8), none, (.op (.pick (.t 5) (.t 7) (.c (.bool false)))), []⟩, ⟨(some 2), none, (.op (.mv (.t 8))), []⟩]) .ret))
noncomputable def F86 (lf : Nat) (r : Int) (h : List Ob) : Option (V × List Ob) :=
cB (decide (r ≥ (48))) (
some ((.bool (decide (r ≤ (57)))), h)) (
some ((.bool false), h))
theorem F86_eq (lf : Nat) (r : Int) (h : List Ob) : evCK A86 ⟨call86 lf, cvN, subN⟩ k86 (entryK [(.int .i32 r)]) h (endF c86.res) = F86 lf r h := by kernel_rfl
theorem F86_ok (lf : Nat) (r : Int) (h : List Ob) (r_ : V) (h_r : List Ob) (e_ : F86 lf r h = some (r_, h_r)) : CD Go.Proofs.Try.prog 86 [(.int .i32 r)] h r_ h_r :=
  CD.ofK (A := A86) (σ := ⟨call86 lf, cvN, subN⟩) (c := k86) Go.Proofs.Try.func86 ok86 en86 (show 1 ≤ 9 by decide) (by kernel_rfl) (call86_ok lf) cvN_ok (And.intro True.intro (And.intro True.intro True.intro)) ((F86_eq lf r h).trans e_)
def w86 (f : Int → List Ob → Option (V × List Ob)) (vs : List V) (h : List Ob) : Option (V × List Ob) := castCons vs fun c1 l1 => castInt .i32 c1 fun n2 => castNil l1 (f n2 h)
noncomputable def W86 (lf : Nat) : List V → List Ob → Option (V × List Ob) := w86 (F86 lf)
theorem W86_ok (lf : Nat) : ∀ args h v h', W86 lf args h = some (v, h') → CD Go.Proofs.Try.prog 86 args h v h' := by
  intro vs h r h' e0
  simp only [W86, w86] at e0
  obtain ⟨c1, l1, rfl, e1⟩ := castCons_inv e0
  obtain ⟨y0, rfl, e2⟩ := castInt_inv e1
  obtain ⟨rfl, e3⟩ := castNil_inv e2
  have e := e3
  exact F86_ok lf y0 h r h' e

/-! 59: wainscot/wainscotref05.named -/
def A59 : List (Nat × Sh) := [(0, .str), (2, .bool), (3, (.int .i64)), (5, (.int .i32)), (6, .str), (9, .bool), (10, (.int .i32)), (11, (.int .i32)), (12, .bool), (13, .bool), (14, .bool), (15, (.int .i64)), (16, .bool), (17, .bool), (18, (.int .i32)), (19, .bool), (20, .bool), (21, .bool), (22, .bool), (23, (.int .i64)), (24, (.int .i64)), (25, (.int .i64)), (26, .bool), (27, .bool), (28, (.int .i64)), (29, .bool), (30, .bool)]
noncomputable def call59 (lf : Nat) : CallS := callC 86 (W86 lf) (callC 29 (W29 lf) (callN))
theorem call59_ok (lf : Nat) : CallOk Go.Proofs.Try.prog (call59 lf) := callC_ok (W86_ok lf) (callC_ok (W29_ok lf) (callN_ok))
def o59_0 : Outs := [((.exit 0), [3], [(.int .i64)]), (.ret, [2], [.bool])]
def k59_0 : KC := (.seq (.reg [⟨(some 8), none, (.op (.nextS (.t 7))), []⟩, ⟨(some 9), none, (.op (.ext 0 (.t 8))), []⟩]) (.seq (.cond (.t 9) .skip (.exit 0)) (.block 1 (.seq (.reg [⟨(some 10), none, (.op (.ext 2 (.t 8))), []⟩, ⟨(some 5), none, (.op (.mv (.t 10))), []⟩]) (.seq (.seq (.reg [⟨(some 11), none, (.op (.mv (.t 5))), []⟩, ⟨(some 12), none, (.call 29 [(.t 11)]), []⟩, ⟨(some 13), none, (.op (.un .not (.t 12))), []⟩, ⟨(some 14), none, (.op (.mv (.t 13))), []⟩, ⟨(some 15), (some (14, true)), (.op (.mv (.t 3))), []⟩, ⟨(some 16), (some (14, true)), (.op (.bin .eql (.t 15) (.c (.int .i64 0)))), []⟩, ⟨(some 17), (some (14, true)), (.op (.mv (.t 16))), []⟩, ⟨(some 18), (some (17, false)), (.op (.mv (.t 5))), []⟩, ⟨(some 19), (some (17, false)), (.call 86 [(.t 18)]), []⟩, ⟨(some 20), (some (17, false)), (.op (.un .not (.t 19))), []⟩, ⟨(some 21), (some (14, true)), (.op (.pick (.t 17) (.c (.bool true)) (.t 20))), []⟩, ⟨(some 22), none, (.op (.pick (.t 14) (.t 21) (.c (.bool false)))), []⟩]) (.cond (.t 22) (.seq (.reg [⟨(some 2), none, (.op (.mv (.c (.bool false)))), []⟩]) .ret) .skip)) (.reg [⟨(some 23), none, (.op (.mv (.t 3))), []⟩, ⟨(some 24), none, (.op (.bin .add (.t 23) (.c (.int .i64 1)))), []⟩, ⟨(some 3), none, (.op (.mv (.t 24))), []⟩]))))))
def w59_0 (f : Int → V → List Ob → SubR) (vs : List V) (h : List Ob) : SubR := castCons vs fun c1 l1 => castInt .i64 c1 fun n2 => castCons l1 fun c3 l3 => castNil l3 (f n2 c3 h)
noncomputable def B59_0 (lf : Nat) (self : Int → V → List Ob → SubR) (n_ : Int) (x7 : V) (h : List Ob) : SubR :=
bind2 (ev (.nextS (.c x7)) h) fun x8 h_ =>
bind1 (er (.ext 0 (.c x8)) h_) fun v =>
castBool v fun x9 =>
cB x9 (
bind1 (er (.ext 2 (.c x8)) h_) fun v1 =>
castInt .i32 v1 fun x10 =>
bind2 (F29 lf x10 h_) fun v2 h_1 =>
castBool v2 fun x12 =>
cB (!x12) (
cB (n_ == (0)) (
some (.ret, [(.bool false)], h_1)) (
bind2 (F86 lf x10 h_1) fun v3 h_2 =>
castBool v3 fun x19 =>
cB (!x19) (
some (.ret, [(.bool false)], h_2)) (
self (IntKind.i64.wrap (n_ + (1))) x7 h_2))) (
self (IntKind.i64.wrap (n_ + (1))) x7 h_1)) (
some ((.exit 0), [(.int .i64 n_)], h_))
noncomputable def L59_0 (lf : Nat) : Nat → Int → V → List Ob → SubR
  | 0 => fun _ _ _ => none
  | n + 1 => B59_0 lf (L59_0 lf n)
theorem B59_0_eq (lf : Nat) (self : Int → V → List Ob → SubR) (n_ : Int) (x7 : V) (h : List Ob) : evCK A59 ⟨call59 lf, cvN, subN⟩ k59_0 [(3, (.int .i64 n_)), (7, x7)] h (endL [3, 7] [(.int .i64), .any] o59_0 (w59_0 self)) = B59_0 lf self n_ x7 h := by kernel_rfl
theorem L59_0_ok (lf : Nat) : ∀ n, SubOk Go.Proofs.Try.prog (.loop k59_0.er) [3, 7] o59_0 (w59_0 (L59_0 lf n)) := by
  refine SubOk.loop (A := A59) (σ := ⟨call59 lf, cvN, subN⟩) (c := k59_0) (shs := [(.int .i64), .any]) (G := fun n => w59_0 (L59_0 lf n)) (call59_ok lf) cvN_ok (And.intro True.intro (And.intro (And.intro True.intro True.intro) (And.intro True.intro (And.intro (And.intro True.intro (And.intro (And.intro True.intro True.intro) True.intro)) True.intro)))) ?_ ?_
  · intro vs h r e0
    simp only [w59_0] at e0
    obtain ⟨c1, l1, rfl, e1⟩ := castCons_inv e0
    obtain ⟨y0, rfl, e2⟩ := castInt_inv e1
    obtain ⟨c2, l2, rfl, e3⟩ := castCons_inv e2
    obtain ⟨rfl, e4⟩ := castNil_inv e3
    have e := e4
    cases e
  · intro n vs h r e0
    simp only [w59_0] at e0
    obtain ⟨c1, l1, rfl, e1⟩ := castCons_inv e0
    obtain ⟨y0, rfl, e2⟩ := castInt_inv e1
    obtain ⟨c2, l2, rfl, e3⟩ := castCons_inv e2
    obtain ⟨rfl, e4⟩ := castNil_inv e3
    have e := e4
    exact (B59_0_eq lf (L59_0 lf n) y0 c2 h).trans e
def k59 : KC := (.seq (.reg [⟨(some 2), none, (.op (.mv (.c (.bool false)))), []⟩]) (.seq (.reg [⟨(some 3), none, (.op (.mv (.c (.int .i64 0)))), []⟩]) (.seq (.seq (.reg [⟨(some 6), none, (.op (.mv (.t 0))), []⟩, ⟨(some 7), none, (.op (.rangeS (.t 6))), []⟩]) (.block 0 (.sub 0 (.loop k59_0.er) [3, 7] o59_0))) (.seq (.reg [⟨(some 25), none, (.op (.mv (.t 3))), []⟩, ⟨(some 26), none, (.op (.bin .gtr (.t 25) (.c (.int .i64 0)))), []⟩, ⟨(some 27), none, (.op (.mv (.t 26))), []⟩, ⟨(some 28), (some (27, true)), (.op (.mv (.t 3))), []⟩, ⟨(some 29), (some (27, true)), (.op (.bin .leq (.t 28) (.c (.int .i64 16)))), []⟩, ⟨(some 30), none, (.op (.pick (.t 27) (.t 29) (.c (.bool false)))), []⟩, ⟨(some 2), none, (.op (.mv (.t 30))), []⟩]) .ret))))
noncomputable def F59 (lf : Nat) (s : List UInt8) (h : List Ob) : Option (V × List Ob) :=
bind2 (ev (.rangeS (.c (.str s))) h) fun x7 h_ =>
bind3 (L59_0 lf lf (0) x7 h_) fun ex vs h_1 =>
cB (decide (ex = (.exit 0))) (
castCons vs fun c l =>
castInt .i64 c fun n_ =>
castNil l (
cB (decide (n_ > (0))) (
some ((.bool (decide (n_ ≤ (16)))), h_1)) (
some ((.bool false), h_1)))) (
cB (decide (ex = .ret)) (
castCons vs fun c l =>
castBool c fun x2 =>
castNil l (
some ((.bool x2), h_1))) (
none))
theorem F59_eq (lf : Nat) (s : List UInt8) (h : List Ob) : evCK A59 ⟨call59 lf, cvN, subC 0 (w59_0 (L59_0 lf lf)) (subN)⟩ k59 (entryK [(.str s)]) h (endF c59.res) = F59 lf s h := by kernel_rfl
theorem F59_ok (lf : Nat) (s : List UInt8) (h : List Ob) (r_ : V) (h_r : List Ob) (e_ : F59 lf s h = some (r_, h_r)) : CD Go.Proofs.Try.prog 59 [(.str s)] h r_ h_r :=
  CD.ofK (A := A59) (σ := ⟨call59 lf, cvN, subC 0 (w59_0 (L59_0 lf lf)) (subN)⟩) (c := k59) Go.Proofs.Try.func59 ok59 en59 (show 1 ≤ 31 by decide) (by kernel_rfl) (call59_ok lf) cvN_ok (And.intro True.intro (And.intro True.intro (And.intro (And.intro True.intro (L59_0_ok lf lf)) (And.intro True.intro True.intro)))) ((F59_eq lf s h).trans e_)
def w59 (f : List UInt8 → List Ob → Option (V × List Ob)) (vs : List V) (h : List Ob) : Option (V × List Ob) := castCons vs fun c1 l1 => castStr c1 fun n2 => castNil l1 (f n2 h)
noncomputable def W59 (lf : Nat) : List V → List Ob → Option (V × List Ob) := w59 (F59 lf)
theorem W59_ok (lf : Nat) : ∀ args h v h', W59 lf args h = some (v, h') → CD Go.Proofs.Try.prog 59 args h v h' := by
  intro vs h r h' e0
  simp only [W59, w59] at e0
  obtain ⟨c1, l1, rfl, e1⟩ := castCons_inv e0
  obtain ⟨y0, rfl, e2⟩ := castStr_inv e1
  obtain ⟨rfl, e3⟩ := castNil_inv e2
  have e := e3
  exact F59_ok lf y0 h r h' e

/-! 25: wainscot/wainscotref05.Name -/
def A25 : List (Nat × Sh) := [(0, .str), (2, .bool), (3, .str), (4, .bool), (5, .bool), (6, .str), (7, .bool), (8, .bool), (9, .bool)]
noncomputable def call25 (lf : Nat) : CallS := callC 59 (W59 lf) (callC 27 (W27 lf) (callN))
theorem call25_ok (lf : Nat) : CallOk Go.Proofs.Try.prog (call25 lf) := callC_ok (W59_ok lf) (callC_ok (W27_ok lf) (callN_ok))
def k25 : KC := (.seq (.reg [⟨(some 2), none, (.op (.mv (.c (.bool false)))), []⟩]) (.seq (.reg [⟨(some 3), none, (.op (.mv (.t 0))), []⟩, ⟨(some 4), none, (.call 59 [(.t 3)]), []⟩, ⟨(some 5), none, (.op (.mv (.t 4))), []⟩, ⟨(some 6), (some (5, true)), (.op (.mv (.t 0))), []⟩, ⟨(some 7), (some (5, true)), (.call 27 [(.t 6)]), []⟩, ⟨(some 8), (some (5, true)), (.op (.un .not (.t 7))), []⟩, ⟨(some 9), none, (.op (.pick (.t 5) (.t 8) (.c (.bool false)))), []⟩, ⟨(some 2), none, (.op (.mv (.t 9))), []⟩]) .ret))
noncomputable def F25 (lf : Nat) (s : List UInt8) (h : List Ob) : Option (V × List Ob) :=
bind2 (F59 lf s h) fun v h_ =>
castBool v fun x4 =>
cB x4 (
bind2 (F27 lf s h_) fun v1 h_1 =>
castBool v1 fun x7 =>
some ((.bool (!x7)), h_1)) (
some ((.bool false), h_))
theorem F25_eq (lf : Nat) (s : List UInt8) (h : List Ob) : evCK A25 ⟨call25 lf, cvN, subN⟩ k25 (entryK [(.str s)]) h (endF c25.res) = F25 lf s h := by kernel_rfl
theorem F25_ok (lf : Nat) (s : List UInt8) (h : List Ob) (r_ : V) (h_r : List Ob) (e_ : F25 lf s h = some (r_, h_r)) : CD Go.Proofs.Try.prog 25 [(.str s)] h r_ h_r :=
  CD.ofK (A := A25) (σ := ⟨call25 lf, cvN, subN⟩) (c := k25) Go.Proofs.Try.func25 ok25 en25 (show 1 ≤ 10 by decide) (by kernel_rfl) (call25_ok lf) cvN_ok (And.intro True.intro (And.intro True.intro True.intro)) ((F25_eq lf s h).trans e_)
def w25 (f : List UInt8 → List Ob → Option (V × List Ob)) (vs : List V) (h : List Ob) : Option (V × List Ob) := castCons vs fun c1 l1 => castStr c1 fun n2 => castNil l1 (f n2 h)
noncomputable def W25 (lf : Nat) : List V → List Ob → Option (V × List Ob) := w25 (F25 lf)
theorem W25_ok (lf : Nat) : ∀ args h v h', W25 lf args h = some (v, h') → CD Go.Proofs.Try.prog 25 args h v h' := by
  intro vs h r h' e0
  simp only [W25, w25] at e0
  obtain ⟨c1, l1, rfl, e1⟩ := castCons_inv e0
  obtain ⟨y0, rfl, e2⟩ := castStr_inv e1
  obtain ⟨rfl, e3⟩ := castNil_inv e2
  have e := e3
  exact F25_ok lf y0 h r h' e

end Go.Proofs.Ytbjphicipgneaaa.Ln
