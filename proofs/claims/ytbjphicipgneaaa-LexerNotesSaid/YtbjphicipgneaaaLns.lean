/- Functions of the program as Lean functions, and that each call comes to what its function says. Printed by my own tool. No condition. -/
import Derived.Test.YtbjphicipgneaaaLn
import Derived.Test.YtbjphicipgneaaaL3
namespace Go.Proofs.Ytbjphicipgneaaa.Ln
open Go Go.Proofs.Ytbjphicipgneaaa.E
set_option maxRecDepth 100000
set_option linter.unusedVariables false
set_option linter.unusedSimpArgs false

/-! 79: internal/stringslite.HasPrefix -/
def A79 : List (Nat × Sh) := [(0, .str), (1, .str), (4, .bool), (5, .str), (6, (.int .i64)), (7, .str), (8, (.int .i64)), (9, .bool), (10, .bool), (11, .str), (12, .str), (13, (.int .i64)), (14, .str), (15, .str), (16, .bool), (17, .bool)]
noncomputable def call79 (lf : Nat) : CallS := callN
theorem call79_ok (lf : Nat) : CallOk Go.Proofs.Try.prog (call79 lf) := callN_ok
def k79 : KC := (.seq (.reg [⟨(some 4), none, (.op (.mv (.c (.bool false)))), []⟩]) (.seq (.reg [⟨(some 5), none, (.op (.mv (.t 0))), []⟩, ⟨(some 6), none, (.op (.lenS (.t 5))), []⟩, ⟨(some 7), none, (.op (.mv (.t 1))), []⟩, ⟨(some 8), none, (.op (.lenS (.t 7))), []⟩, ⟨(some 9), none, (.op (.bin .geq (.t 6) (.t 8))), []⟩, ⟨(some 10), none, (.op (.mv (.t 9))), []⟩, ⟨(some 11), (some (10, true)), (.op (.mv (.t 0))), []⟩, ⟨(some 12), (some (10, true)), (.op (.mv (.t 1))), []⟩, ⟨(some 13), (some (10, true)), (.op (.lenS (.t 12))), []⟩, ⟨(some 14), (some (10, true)), (.op (.slcS (.t 11) none (some (.t 13)))), []⟩, ⟨(some 15), (some (10, true)), (.op (.mv (.t 1))), []⟩, ⟨(some 16), (some (10, true)), (.op (.bin .eql (.t 14) (.t 15))), []⟩, ⟨(some 17), none, (.op (.pick (.t 10) (.t 16) (.c (.bool false)))), []⟩, ⟨(some 4), none, (.op (.mv (.t 17))), []⟩]) .ret))
noncomputable def F79 (lf : Nat) (s : List UInt8) (prefix_ : List UInt8) (h : List Ob) : Option (V × List Ob) :=
cB (decide (((s).length : Int) ≥ ((prefix_).length : Int))) (
bind1 (er (.slcS (.c (.str s)) none (some (.c (.int .i64 ((prefix_).length : Int))))) h) fun v =>
castStr v fun x14 =>
some ((.bool (x14 == prefix_)), h)) (
some ((.bool false), h))
theorem F79_eq (lf : Nat) (s : List UInt8) (prefix_ : List UInt8) (h : List Ob) : evCK A79 ⟨call79 lf, cvN, subN⟩ k79 (entryK [(.str s), (.str prefix_)]) h (endF c79.res) = F79 lf s prefix_ h := by kernel_rfl
theorem F79_ok (lf : Nat) (s : List UInt8) (prefix_ : List UInt8) (h : List Ob) (r_ : V) (h_r : List Ob) (e_ : F79 lf s prefix_ h = some (r_, h_r)) : CD Go.Proofs.Try.prog 79 [(.str s), (.str prefix_)] h r_ h_r :=
  CD.ofK (A := A79) (σ := ⟨call79 lf, cvN, subN⟩) (c := k79) Go.Proofs.Try.func79 ok79 en79 (show 2 ≤ 18 by decide) (by kernel_rfl) (call79_ok lf) cvN_ok (And.intro True.intro (And.intro True.intro True.intro)) ((F79_eq lf s prefix_ h).trans e_)
def w79 (f : List UInt8 → List UInt8 → List Ob → Option (V × List Ob)) (vs : List V) (h : List Ob) : Option (V × List Ob) := castCons vs fun c1 l1 => castStr c1 fun n2 => castCons l1 fun c3 l3 => castStr c3 fun n4 => castNil l3 (f n2 n4 h)
noncomputable def W79 (lf : Nat) : List V → List Ob → Option (V × List Ob) := w79 (F79 lf)
theorem W79_ok (lf : Nat) : ∀ args h v h', W79 lf args h = some (v, h') → CD Go.Proofs.Try.prog 79 args h v h' := by
  intro vs h r h' e0
  simp only [W79, w79] at e0
  obtain ⟨c1, l1, rfl, e1⟩ := castCons_inv e0
  obtain ⟨y0, rfl, e2⟩ := castStr_inv e1
  obtain ⟨c2, l2, rfl, e3⟩ := castCons_inv e2
  obtain ⟨y1, rfl, e4⟩ := castStr_inv e3
  obtain ⟨rfl, e5⟩ := castNil_inv e4
  have e := e5
  exact F79_ok lf y0 y1 h r h' e

/-! 56: strings.HasPrefix -/
def A56 : List (Nat × Sh) := [(0, .str), (1, .str), (4, .bool), (5, .str), (6, .str), (7, .bool)]
noncomputable def call56 (lf : Nat) : CallS := callC 79 (W79 lf) (callN)
theorem call56_ok (lf : Nat) : CallOk Go.Proofs.Try.prog (call56 lf) := callC_ok (W79_ok lf) (callN_ok)
def k56 : KC := (.seq (.reg [⟨(some 4), none, (.op (.mv (.c (.bool false)))), []⟩]) (.seq (.reg [⟨(some 5), none, (.op (.mv (.t 0))), []⟩, ⟨(some 6), none, (.op (.mv (.t 1))), []⟩, ⟨(some 7), none, (.call 79 [(.t 5), (.t 6)]), []⟩, ⟨(some 4), none, (.op (.mv (.t 7))), []⟩]) .ret))
noncomputable def F56 (lf : Nat) (s : List UInt8) (prefix_ : List UInt8) (h : List Ob) : Option (V × List Ob) :=
bind2 (F79 lf s prefix_ h) fun v h_ =>
castBool v fun x7 =>
some ((.bool x7), h_)
theorem F56_eq (lf : Nat) (s : List UInt8) (prefix_ : List UInt8) (h : List Ob) : evCK A56 ⟨call56 lf, cvN, subN⟩ k56 (entryK [(.str s), (.str prefix_)]) h (endF c56.res) = F56 lf s prefix_ h := by kernel_rfl
theorem F56_ok (lf : Nat) (s : List UInt8) (prefix_ : List UInt8) (h : List Ob) (r_ : V) (h_r : List Ob) (e_ : F56 lf s prefix_ h = some (r_, h_r)) : CD Go.Proofs.Try.prog 56 [(.str s), (.str prefix_)] h r_ h_r :=
  CD.ofK (A := A56) (σ := ⟨call56 lf, cvN, subN⟩) (c := k56) Go.Proofs.Try.func56 ok56 en56 (show 2 ≤ 8 by decide) (by kernel_rfl) (call56_ok lf) cvN_ok (And.intro True.intro (And.intro True.intro True.intro)) ((F56_eq lf s prefix_ h).trans e_)
def w56 (f : List UInt8 → List UInt8 → List Ob → Option (V × List Ob)) (vs : List V) (h : List Ob) : Option (V × List Ob) := castCons vs fun c1 l1 => castStr c1 fun n2 => castCons l1 fun c3 l3 => castStr c3 fun n4 => castNil l3 (f n2 n4 h)
noncomputable def W56 (lf : Nat) : List V → List Ob → Option (V × List Ob) := w56 (F56 lf)
theorem W56_ok (lf : Nat) : ∀ args h v h', W56 lf args h = some (v, h') → CD Go.Proofs.Try.prog 56 args h v h' := by
  intro vs h r h' e0
  simp only [W56, w56] at e0
  obtain ⟨c1, l1, rfl, e1⟩ := castCons_inv e0
  obtain ⟨y0, rfl, e2⟩ := castStr_inv e1
  obtain ⟨c2, l2, rfl, e3⟩ := castCons_inv e2
  obtain ⟨y1, rfl, e4⟩ := castStr_inv e3
  obtain ⟨rfl, e5⟩ := castNil_inv e4
  have e := e5
  exact F56_ok lf y0 y1 h r h' e

/-! 28: wainscot/lexer.Letter -/
def A28 : List (Nat × Sh) := [(0, (.int .i32)), (2, .bool), (3, (.int .i32)), (4, .bool), (5, .bool), (6, (.int .i32)), (7, .bool), (8, .bool), (9, .bool), (10, (.int .i32)), (11, .bool), (12, .bool), (13, (.int .i32)), (14, .bool), (15, .bool), (16, .bool), (17, .bool), (18, (.int .i32)), (19, .bool), (20, .bool), (21, (.int .i32)), (22, .bool), (23, .bool), (24, .bool), (25, .bool), (26, (.int .i32)), (27, .bool), (28, .bool)]
noncomputable def call28 (lf : Nat) : CallS := callN
theorem call28_ok (lf : Nat) : CallOk Go.Proofs.Try.prog (call28 lf) := callN_ok
def k28 : KC := (.seq (.reg [⟨(some 2), none, (.op (.mv (.c (.bool false)))), []⟩]) (.seq (.reg [⟨(some 3), none, (.op (.mv (.t 0))), []⟩, ⟨(some 4), none, (.op (.bin .geq (.t 3) (.c (.int .i32 97)))), []⟩, ⟨(some 5), none, (.op (.mv (.t 4))), []⟩, ⟨(some 6), (some (5, true)), (.op (.mv (.t 0))), []⟩, ⟨(some 7), (some (5, true)), (.op (.bin .leq (.t 6) (.c (.int .i32 122)))), []⟩, ⟨(some 8), none, (.op (.pick (.t 5) (.t 7) (.c (.bool false)))), []⟩, ⟨(some 9), none, (.op (.mv (.t 8))), []⟩, ⟨(some 10), (some (9, false)), (.op (.mv (.t 0))), []⟩, ⟨(some 11), (some (9, false)), (.op (.bin .geq (.t 10) (.c (.int .i32 65)))), []⟩, ⟨(some 12), (some (9, false)), (.op (.mv (.t 11))), []⟩, ⟨(some 13), (some (12, true)), (.op (.mv (.t 0))), []⟩, ⟨(some 14), (some (12, true)), (.op (.bin .leq (.t 13) (.c (.int .i32 90)))), []⟩, ⟨(some 15), (some (9, false)), (.op (.pick (.t 12) (.t 14) (.c (.bool false)))), []⟩, ⟨(some 16), none, (.op (.pick (.t 9) (.c (.bool true)) (.t 15))), []⟩, ⟨(some 17), none, (.op (.mv (.t 16))), []⟩, ⟨(some 18), (some (17, false)), (.op (.mv (.t 0))), []⟩, ⟨(some 19), (some (17, false)), (.op (.bin .geq (.t 18) (.c (.int .i32 945)))), []⟩, ⟨(some 20), (some (17, false)), (.op (.mv (.t 19))), []⟩, ⟨(some 21), (some (20, true)), (.op (.mv (.t 0))), []⟩, ⟨(some 22), (some (20, true)), (.op (.bin .leq (.t 21) (.c (.int .i32 969)))), []⟩, ⟨(some 23), (some (17, false)), (.op (.pick (.t 20) (.t 22) (.c (.bool false)))), []⟩, ⟨(some 24), none, (.op (.pick (.t 17) (.c (.bool true)) (.t 23))), []⟩, ⟨(some 25), none, (.op (.mv (.t 24))), []⟩, ⟨(some 26), (some (25, false)), (.op (.mv (.t 0))), []⟩, ⟨(some 27), (some (25, false)), (.op (.bin .eql (.t 26) (.c (.int .i32 95)))), []⟩, ⟨(some 28), none, (.op (.pick (.t 25) (.c (.bool true)) (.t 27))), []⟩, ⟨(some 2), none, (.op (.mv (.t 28))), []⟩]) .ret))
noncomputable def F28 (lf : Nat) (r : Int) (h : List Ob) : Option (V × List Ob) :=
cB (decide (r ≥ (97))) (
cB (decide (r ≤ (122))) (
some ((.bool true), h)) (
cB (decide (r ≥ (65))) (
cB (decide (r ≤ (90))) (
some ((.bool true), h)) (
cB (decide (r ≥ (945))) (
cB (decide (r ≤ (969))) (
some ((.bool true), h)) (
some ((.bool (r == (95))), h))) (
some ((.bool (r == (95))), h)))) (
cB (decide (r ≥ (945))) (
cB (decide (r ≤ (969))) (
some ((.bool true), h)) (
some ((.bool (r == (95))), h))) (
some ((.bool (r == (95))), h))))) (
cB (decide (r ≥ (65))) (
cB (decide (r ≤ (90))) (
some ((.bool true), h)) (
cB (decide (r ≥ (945))) (
cB (decide (r ≤ (969))) (
some ((.bool true), h)) (
some ((.bool (r == (95))), h))) (
some ((.bool (r == (95))), h)))) (
cB (decide (r ≥ (945))) (
cB (decide (r ≤ (969))) (
some ((.bool true), h)) (
some ((.bool (r == (95))), h))) (
some ((.bool (r == (95))), h))))
theorem F28_eq (lf : Nat) (r : Int) (h : List Ob) : evCK A28 ⟨call28 lf, cvN, subN⟩ k28 (entryK [(.int .i32 r)]) h (endF c28.res) = F28 lf r h := by kernel_rfl
theorem F28_ok (lf : Nat) (r : Int) (h : List Ob) (r_ : V) (h_r : List Ob) (e_ : F28 lf r h = some (r_, h_r)) : CD Go.Proofs.Try.prog 28 [(.int .i32 r)] h r_ h_r :=
  CD.ofK (A := A28) (σ := ⟨call28 lf, cvN, subN⟩) (c := k28) Go.Proofs.Try.func28 ok28 en28 (show 1 ≤ 29 by decide) (by kernel_rfl) (call28_ok lf) cvN_ok (And.intro True.intro (And.intro True.intro True.intro)) ((F28_eq lf r h).trans e_)
def w28 (f : Int → List Ob → Option (V × List Ob)) (vs : List V) (h : List Ob) : Option (V × List Ob) := castCons vs fun c1 l1 => castInt .i32 c1 fun n2 => castNil l1 (f n2 h)
noncomputable def W28 (lf : Nat) : List V → List Ob → Option (V × List Ob) := w28 (F28 lf)
theorem W28_ok (lf : Nat) : ∀ args h v h', W28 lf args h = some (v, h') → CD Go.Proofs.Try.prog 28 args h v h' := by
  intro vs h r h' e0
  simp only [W28, w28] at e0
  obtain ⟨c1, l1, rfl, e1⟩ := castCons_inv e0
  obtain ⟨y0, rfl, e2⟩ := castInt_inv e1
  obtain ⟨rfl, e3⟩ := castNil_inv e2
  have e := e3
  exact F28_ok lf y0 h r h' e

/-! 83: wainscot/lexer.digit -/
def A83 : List (Nat × Sh) := [(0, (.int .i32)), (2, .bool), (3, (.int .i32)), (4, .bool), (5, .bool), (6, (.int .i32)), (7, .bool), (8, .bool)]
noncomputable def call83 (lf : Nat) : CallS := callN
theorem call83_ok (lf : Nat) : CallOk Go.Proofs.Try.prog (call83 lf) := callN_ok
def k83 : KC := (.seq (.reg [⟨(some 2), none, (.op (.mv (.c (.bool false)))), []⟩]) (.seq (.reg [⟨(some 3), none, (.op (.mv (.t 0))), []⟩, ⟨(some 4), none, (.op (.bin .geq (.t 3) (.c (.int .i32 48)))), []⟩, ⟨(some 5), none, (.op (.mv (.t 4))), []⟩, ⟨(some 6), (some (5, true)), (.op (.mv (.t 0))), []⟩, ⟨(some 7), (some (5, true)), (.op (.bin .leq (.t 6) (.c (.int .i32 57)))), []⟩, ⟨(some 8), none, (.op (.pick (.t 5) (.t 7) (.c (.bool false)))), []⟩, ⟨(some 2), none, (.op (.mv (.t 8))), []⟩]) .ret))
noncomputable def F83 (lf : Nat) (r : Int) (h : List Ob) : Option (V × List Ob) :=
cB (decide (r ≥ (48))) (
some ((.bool (decide (r ≤ (57)))), h)) (
some ((.bool false), h))
theorem F83_eq (lf : Nat) (r : Int) (h : List Ob) : evCK A83 ⟨call83 lf, cvN, subN⟩ k83 (entryK [(.int .i32 r)]) h (endF c83.res) = F83 lf r h := by kernel_rfl
theorem F83_ok (lf : Nat) (r : Int) (h : List Ob) (r_ : V) (h_r : List Ob) (e_ : F83 lf r h = some (r_, h_r)) : CD Go.Proofs.Try.prog 83 [(.int .i32 r)] h r_ h_r :=
  CD.ofK (A := A83) (σ := ⟨call83 lf, cvN, subN⟩) (c := k83) Go.Proofs.Try.func83 ok83 en83 (show 1 ≤ 9 by decide) (by kernel_rfl) (call83_ok lf) cvN_ok (And.intro True.intro (And.intro True.intro True.intro)) ((F83_eq lf r h).trans e_)
def w83 (f : Int → List Ob → Option (V × List Ob)) (vs : List V) (h : List Ob) : Option (V × List Ob) := castCons vs fun c1 l1 => castInt .i32 c1 fun n2 => castNil l1 (f n2 h)
noncomputable def W83 (lf : Nat) : List V → List Ob → Option (V × List Ob) := w83 (F83 lf)
theorem W83_ok (lf : Nat) : ∀ args h v h', W83 lf args h = some (v, h') → CD Go.Proofs.Try.prog 83 args h v h' := by
  intro vs h r h' e0
  simp only [W83, w83] at e0
  obtain ⟨c1, l1, rfl, e1⟩ := castCons_inv e0
  obtain ⟨y0, rfl, e2⟩ := castInt_inv e1
  obtain ⟨rfl, e3⟩ := castNil_inv e2
  have e := e3
  exact F83_ok lf y0 h r h' e

/-! 58: wainscot/lexer.named -/
def A58 : List (Nat × Sh) := [(0, .str), (2, .bool), (3, (.int .i64)), (5, (.int .i32)), (6, .str), (9, .bool), (10, (.int .i32)), (11, (.int .i32)), (12, .bool), (13, .bool), (14, .bool), (15, (.int .i64)), (16, .bool), (17, .bool), (18, (.int .i32)), (19, .bool), (20, .bool), (21, .bool), (22, .bool), (23, (.int .i64)), (24, (.int .i64)), (25, (.int .i64)), (26, .bool), (27, .bool), (28, (.int .i64)), (29, .bool), (30, .bool)]
noncomputable def call58 (lf : Nat) : CallS := callC 83 (W83 lf) (callC 28 (W28 lf) (callN))
theorem call58_ok (lf : Nat) : CallOk Go.Proofs.Try.prog (call58 lf) := callC_ok (W83_ok lf) (callC_ok (W28_ok lf) (callN_ok))
def o58_0 : Outs := [((.exit 0), [3], [(.int .i64)]), (.ret, [2], [.bool])]
def k58_0 : KC := (.seq (.reg [⟨(some 8), none, (.op (.nextS (.t 7))), []⟩, ⟨(some 9), none, (.op (.ext 0 (.t 8))), []⟩]) (.seq (.cond (.t 9) .skip (.exit 0)) (.block 1 (.seq (.reg [⟨(some 10), none, (.op (.ext 2 (.t 8))), []⟩, ⟨(some 5), none, (.op (.mv (.t 10))), []⟩]) (.seq (.seq (.reg [⟨(some 11), none, (.op (.mv (.t 5))), []⟩, ⟨(some 12), none, (.call 28 [(.t 11)]), []⟩, ⟨(some 13), none, (.op (.un .not (.t 12))), []⟩, ⟨(some 14), none, (.op (.mv (.t 13))), []⟩, ⟨(some 15), (some (14, true)), (.op (.mv (.t 3))), []⟩, ⟨(some 16), (some (14, true)), (.op (.bin .eql (.t 15) (.c (.int .i64 0)))), []⟩, ⟨(some 17), (some (14, true)), (.op (.mv (.t 16))), []⟩, ⟨(some 18), (some (17, false)), (.op (.mv (.t 5))), []⟩, ⟨(some 19), (some (17, false)), (.call 83 [(.t 18)]), []⟩, ⟨(some 20), (some (17, false)), (.op (.un .not (.t 19))), []⟩, ⟨(some 21), (some (14, true)), (.op (.pick (.t 17) (.c (.bool true)) (.t 20))), []⟩, ⟨(some 22), none, (.op (.pick (.t 14) (.t 21) (.c (.bool false)))), []⟩]) (.cond (.t 22) (.seq (.reg [⟨(some 2), none, (.op (.mv (.c (.bool false)))), []⟩]) .ret) .skip)) (.reg [⟨(some 23), none, (.op (.mv (.t 3))), []⟩, ⟨(some 24), none, (.op (.bin .add (.t 23) (.c (.int .i64 1)))), []⟩, ⟨(some 3), none, (.op (.mv (.t 24))), []⟩]))))))
def w58_0 (f : Int → V → List Ob → SubR) (vs : List V) (h : List Ob) : SubR := castCons vs fun c1 l1 => castInt .i64 c1 fun n2 => castCons l1 fun c3 l3 => castNil l3 (f n2 c3 h)
noncomputable def B58_0 (lf : Nat) (self : Int → V → List Ob → SubR) (n_ : Int) (x7 : V) (h : List Ob) : SubR :=
bind2 (ev (.nextS (.c x7)) h) fun x8 h_ =>
bind1 (er (.ext 0 (.c x8)) h_) fun v =>
castBool v fun x9 =>
cB x9 (
bind1 (er (.ext 2 (.c x8)) h_) fun v1 =>
castInt .i32 v1 fun x10 =>
bind2 (F28 lf x10 h_) fun v2 h_1 =>
castBool v2 fun x12 =>
cB (!x12) (
cB (n_ == (0)) (
some (.ret, [(.bool false)], h_1)) (
bind2 (F83 lf x10 h_1) fun v3 h_2 =>
castBool v3 fun x19 =>
cB (!x19) (
some (.ret, [(.bool false)], h_2)) (
self (IntKind.i64.wrap (n_ + (1))) x7 h_2))) (
self (IntKind.i64.wrap (n_ + (1))) x7 h_1)) (
some ((.exit 0), [(.int .i64 n_)], h_))
noncomputable def L58_0 (lf : Nat) : Nat → Int → V → List Ob → SubR
  | 0 => fun _ _ _ => none
  | n + 1 => B58_0 lf (L58_0 lf n)
theorem B58_0_eq (lf : Nat) (self : Int → V → List Ob → SubR) (n_ : Int) (x7 : V) (h : List Ob) : evCK A58 ⟨call58 lf, cvN, subN⟩ k58_0 [(3, (.int .i64 n_)), (7, x7)] h (endL [3, 7] [(.int .i64), .any] o58_0 (w58_0 self)) = B58_0 lf self n_ x7 h := by kernel_rfl
theorem L58_0_ok (lf : Nat) : ∀ n, SubOk Go.Proofs.Try.prog (.loop k58_0.er) [3, 7] o58_0 (w58_0 (L58_0 lf n)) := by
  refine SubOk.loop (A := A58) (σ := ⟨call58 lf, cvN, subN⟩) (c := k58_0) (shs := [(.int .i64), .any]) (G := fun n => w58_0 (L58_0 lf n)) (call58_ok lf) cvN_ok (And.intro True.intro (And.intro (And.intro True.intro True.intro) (And.intro True.intro (And.intro (And.intro True.intro (And.intro (And.intro True.intro True.intro) True.intro)) True.intro)))) ?_ ?_
  · intro vs h r e0
    simp only [w58_0] at e0
    obtain ⟨c1, l1, rfl, e1⟩ := castCons_inv e0
    obtain ⟨y0, rfl, e2⟩ := castInt_inv e1
    obtain ⟨c2, l2, rfl, e3⟩ := castCons_inv e2
    obtain ⟨rfl, e4⟩ := castNil_inv e3
    have e := e4
    cases e
  · intro n vs h r e0
    simp only [w58_0] at e0
    obtain ⟨c1, l1, rfl, e1⟩ := castCons_inv e0
    obtain ⟨y0, rfl, e2⟩ := castInt_inv e1
    obtain ⟨c2, l2, rfl, e3⟩ := castCons_inv e2
    obtain ⟨rfl, e4⟩ := castNil_inv e3
    have e := e4
    exact (B58_0_eq lf (L58_0 lf n) y0 c2 h).trans e
def k58 : KC := (.seq (.reg [⟨(some 2), none, (.op (.mv (.c (.bool false)))), []⟩]) (.seq (.reg [⟨(some 3), none, (.op (.mv (.c (.int .i64 0)))), []⟩]) (.seq (.seq (.reg [⟨(some 6), none, (.op (.mv (.t 0))), []⟩, ⟨(some 7), none, (.op (.rangeS (.t 6))), []⟩]) (.block 0 (.sub 0 (.loop k58_0.er) [3, 7] o58_0))) (.seq (.reg [⟨(some 25), none, (.op (.mv (.t 3))), []⟩, ⟨(some 26), none, (.op (.bin .gtr (.t 25) (.c (.int .i64 0)))), []⟩, ⟨(some 27), none, (.op (.mv (.t 26))), []⟩, ⟨(some 28), (some (27, true)), (.op (.mv (.t 3))), []⟩, ⟨(some 29), (some (27, true)), (.op (.bin .leq (.t 28) (.c (.int .i64 16)))), []⟩, ⟨(some 30), none, (.op (.pick (.t 27) (.t 29) (.c (.bool false)))), []⟩, ⟨(some 2), none, (.op (.mv (.t 30))), []⟩]) .ret))))
noncomputable def F58 (lf : Nat) (s : List UInt8) (h : List Ob) : Option (V × List Ob) :=
bind2 (ev (.rangeS (.c (.str s))) h) fun x7 h_ =>
bind3 (L58_0 lf lf (0) x7 h_) fun ex vs h_1 =>
cB (decide (ex = (.exit 0))) (
castCons vs fun c l =>
castInt .i64 c fun n_ =>
castNil l (
cB (decide (n_ > (0))) (
some ((.bool (decide (n_ ≤ (16)))), h_1)) (
some ((.bool false), h_1)))) (
cB (decide (ex = .ret)) (
castCons vs fun c l =>
castBool c fun x2 =>
castNil l (
some ((.bool x2), h_1))) (
none))
theorem F58_eq (lf : Nat) (s : List UInt8) (h : List Ob) : evCK A58 ⟨call58 lf, cvN, subC 0 (w58_0 (L58_0 lf lf)) (subN)⟩ k58 (entryK [(.str s)]) h (endF c58.res) = F58 lf s h := by kernel_rfl
theorem F58_ok (lf : Nat) (s : List UInt8) (h : List Ob) (r_ : V) (h_r : List Ob) (e_ : F58 lf s h = some (r_, h_r)) : CD Go.Proofs.Try.prog 58 [(.str s)] h r_ h_r :=
  CD.ofK (A := A58) (σ := ⟨call58 lf, cvN, subC 0 (w58_0 (L58_0 lf lf)) (subN)⟩) (c := k58) Go.Proofs.Try.func58 ok58 en58 (show 1 ≤ 31 by decide) (by kernel_rfl) (call58_ok lf) cvN_ok (And.intro True.intro (And.intro True.intro (And.intro (And.intro True.intro (L58_0_ok lf lf)) (And.intro True.intro True.intro)))) ((F58_eq lf s h).trans e_)
def w58 (f : List UInt8 → List Ob → Option (V × List Ob)) (vs : List V) (h : List Ob) : Option (V × List Ob) := castCons vs fun c1 l1 => castStr c1 fun n2 => castNil l1 (f n2 h)
noncomputable def W58 (lf : Nat) : List V → List Ob → Option (V × List Ob) := w58 (F58 lf)
theorem W58_ok (lf : Nat) : ∀ args h v h', W58 lf args h = some (v, h') → CD Go.Proofs.Try.prog 58 args h v h' := by
  intro vs h r h' e0
  simp only [W58, w58] at e0
  obtain ⟨c1, l1, rfl, e1⟩ := castCons_inv e0
  obtain ⟨y0, rfl, e2⟩ := castStr_inv e1
  obtain ⟨rfl, e3⟩ := castNil_inv e2
  have e := e3
  exact F58_ok lf y0 h r h' e

/-! 82: (*wainscot/lexer.scanner).add -/
def A82 : List (Nat × Sh) := [(1, (.agg [(.int .i64), .str, (.int .i64)])), (2, .bool), (11, (.agg [(.int .i64), .str, (.int .i64)])), (16, .bool), (17, .bool), (18, .bool), (22, .bool), (27, (.int .i64)), (28, .bool)]
noncomputable def call82 (lf : Nat) : CallS := callN
theorem call82_ok (lf : Nat) : CallOk Go.Proofs.Try.prog (call82 lf) := callN_ok
def k82 : KC := (.seq (.reg [⟨(some 4), none, (.op (.box false (.t 1))), []⟩]) (.block 0 (.seq (.reg [⟨(some 17), none, (.op (.mv (.t 2))), []⟩, ⟨(some 18), none, (.op (.un .not (.t 17))), []⟩, ⟨(some 16), none, (.op (.mv (.t 18))), []⟩]) (.cond (.t 16) (.reg [⟨(some 19), none, (.op (.mv (.t 0))), []⟩, ⟨(some 20), none, (.op (.nilck (.t 19))), []⟩, ⟨(some 21), none, (.op (.faddr 2 (.t 20))), []⟩, ⟨none, none, (.op (.store 1 (.t 21) (.c (.int .i64 3)))), []⟩]) (.seq (.reg [⟨(some 23), none, (.op (.mv (.t 0))), []⟩, ⟨(some 24), none, (.op (.nilck (.t 23))), []⟩, ⟨(some 25), none, (.op (.faddr 1 (.t 24))), []⟩, ⟨(some 26), none, (.op (.load1 (.t 25))), []⟩, ⟨(some 27), none, (.op (.lenL (.t 26))), []⟩, ⟨(some 28), none, (.op (.bin .eql (.t 27) (.c (.int .i64 600)))), []⟩, ⟨(some 22), none, (.op (.mv (.t 28))), []⟩]) (.cond (.t 22) (.reg [⟨(some 29), none, (.op (.mv (.t 0))), []⟩, ⟨(some 30), none, (.op (.nilck (.t 29))), []⟩, ⟨(some 31), none, (.op (.faddr 2 (.t 30))), []⟩, ⟨none, none, (.op (.store 1 (.t 31) (.c (.int .i64 5)))), []⟩]) (.reg [⟨(some 6), none, (.op (.mv (.t 0))), []⟩, ⟨(some 7), none, (.op (.mv (.t 0))), []⟩, ⟨(some 8), none, (.op (.nilck (.t 7))), []⟩, ⟨(some 9), none, (.op (.faddr 1 (.t 8))), []⟩, ⟨(some 10), none, (.op (.load1 (.t 9))), []⟩, ⟨(some 11), none, (.op (.loadN 3 (.t 4))), []⟩, ⟨(some 12), none, (.op (.bslice 3 (.agg [(.int .i64 0), (.str []), (.int .i64 0)]) 1 [(0, (.t 11))])), [⟨(some 10), none, (.op (.load1 (.t 9)))⟩, ⟨(some 9), none, (.op (.faddr 1 (.t 8)))⟩, ⟨(some 8), none, (.op (.nilck (.t 7)))⟩]⟩, ⟨(some 13), none, (.op (.app 3 32 (.t 10) (.t 12))), []⟩, ⟨(some 14), none, (.op (.nilck (.t 6))), []⟩, ⟨(some 15), none, (.op (.faddr 1 (.t 14))), []⟩, ⟨none, none, (.op (.store 1 (.t 15) (.t 13))), []⟩])))))))
noncomputable def F82 (lf : Nat) (x : V) (w : Int) (w1 : List UInt8) (w2 : Int) (ok : Bool) (h : List Ob) : Option (V × List Ob) :=
bind2 (ev (.box false (.c (.agg [(.int .i64 w), (.str w1), (.int .i64 w2)]))) h) fun w3 h_ =>
cB (!ok) (
bind1 (er (.nilck (.c x)) h_) fun x20 =>
bind1 (er (.faddr 2 (.c x20)) h_) fun x21 =>
bind2 (ev (.store 1 (.c x21) (.c (.int .i64 (3)))) h_) fun u h_1 =>
some ((.tup []), h_1)) (
bind1 (er (.nilck (.c x)) h_) fun x24 =>
bind1 (er (.faddr 1 (.c x24)) h_) fun x25 =>
bind1 (er (.load1 (.c x25)) h_) fun x26 =>
bind1 (er (.lenL (.c x26)) h_) fun v =>
castInt .i64 v fun x27 =>
cB (x27 == (600)) (
bind1 (er (.nilck (.c x)) h_) fun x30 =>
bind1 (er (.faddr 2 (.c x30)) h_) fun x31 =>
bind2 (ev (.store 1 (.c x31) (.c (.int .i64 (5)))) h_) fun u h_1 =>
some ((.tup []), h_1)) (
bind1 (er (.nilck (.c x)) h_) fun x8 =>
bind1 (er (.faddr 1 (.c x8)) h_) fun x9 =>
bind1 (er (.load1 (.c x9)) h_) fun x10 =>
bind1 (er (.loadN 3 (.c w3)) h_) fun v1 =>
castAgg v1 fun l =>
castCons l fun c l1 =>
castInt .i64 c fun x11_0 =>
castCons l1 fun c1 l2 =>
castStr c1 fun x11_1 =>
castCons l2 fun c2 l3 =>
castInt .i64 c2 fun x11_2 =>
castNil l3 (
bind2 (ev (.bslice 3 (.agg [(.int .i64 0), (.str []), (.int .i64 0)]) 1 [(0, (.c (.agg [(.int .i64 x11_0), (.str x11_1), (.int .i64 x11_2)])))]) h_) fun x12 h_1 =>
reP (er (.load1 (.c x9)) h_1 = some x10) (
reP (er (.faddr 1 (.c x8)) h_1 = some x9) (
reP (er (.nilck (.c x)) h_1 = some x8) (
bind2 (ev (.app 3 32 (.c x10) (.c x12)) h_1) fun x13 h_2 =>
bind1 (er (.nilck (.c x)) h_2) fun x14 =>
bind1 (er (.faddr 1 (.c x14)) h_2) fun x15 =>
bind2 (ev (.store 1 (.c x15) (.c x13)) h_2) fun u h_3 =>
some ((.tup []), h_3)))))))
theorem F82_eq (lf : Nat) (x : V) (w : Int) (w1 : List UInt8) (w2 : Int) (ok : Bool) (h : List Ob) : evCK A82 ⟨call82 lf, cvN, subN⟩ k82 (entryK [x, (.agg [(.int .i64 w), (.str w1), (.int .i64 w2)]), (.bool ok)]) h (endF c82.res) = F82 lf x w w1 w2 ok h := by kernel_rfl
theorem F82_ok (lf : Nat) (x : V) (w : Int) (w1 : List UInt8) (w2 : Int) (ok : Bool) (h : List Ob) (r_ : V) (h_r : List Ob) (e_ : F82 lf x w w1 w2 ok h = some (r_, h_r)) : CD Go.Proofs.Try.prog 82 [x, (.agg [(.int .i64 w), (.str w1), (.int .i64 w2)]), (.bool ok)] h r_ h_r :=
  CD.ofK (A := A82) (σ := ⟨call82 lf, cvN, subN⟩) (c := k82) Go.Proofs.Try.func82 ok82 en82 (show 3 ≤ 32 by decide) (by kernel_rfl) (call82_ok lf) cvN_ok (And.intro True.intro (And.intro True.intro (And.intro True.intro (And.intro True.intro (And.intro True.intro True.intro))))) ((F82_eq lf x w w1 w2 ok h).trans e_)
def w82 (f : V → Int → List UInt8 → Int → Bool → List Ob → Option (V × List Ob)) (vs : List V) (h : List Ob) : Option (V × List Ob) := castCons vs fun c1 l1 => castCons l1 fun c2 l2 => castAgg c2 fun n3 => castCons n3 fun c4 l4 => castInt .i64 c4 fun n5 => castCons l4 fun c6 l6 => castStr c6 fun n7 => castCons l6 fun c8 l8 => castInt .i64 c8 fun n9 => castNil l8 (castCons l2 fun c10 l10 => castBool c10 fun n11 => castNil l10 (f c1 n5 n7 n9 n11 h))
noncomputable def W82 (lf : Nat) : List V → List Ob → Option (V × List Ob) := w82 (F82 lf)
theorem W82_ok (lf : Nat) : ∀ args h v h', W82 lf args h = some (v, h') → CD Go.Proofs.Try.prog 82 args h v h' := by
  intro vs h r h' e0
  simp only [W82, w82] at e0
  obtain ⟨c1, l1, rfl, e1⟩ := castCons_inv e0
  obtain ⟨c2, l2, rfl, e2⟩ := castCons_inv e1
  obtain ⟨l3, rfl, e3⟩ := castAgg_inv e2
  obtain ⟨c4, l4, rfl, e4⟩ := castCons_inv e3
  obtain ⟨y1, rfl, e5⟩ := castInt_inv e4
  obtain ⟨c5, l5, rfl, e6⟩ := castCons_inv e5
  obtain ⟨y2, rfl, e7⟩ := castStr_inv e6
  obtain ⟨c6, l6, rfl, e8⟩ := castCons_inv e7
  obtain ⟨y3, rfl, e9⟩ := castInt_inv e8
  obtain ⟨rfl, e10⟩ := castNil_inv e9
  obtain ⟨c7, l7, rfl, e11⟩ := castCons_inv e10
  obtain ⟨y4, rfl, e12⟩ := castBool_inv e11
  obtain ⟨rfl, e13⟩ := castNil_inv e12
  have e := e13
  exact F82_ok lf c1 y1 y2 y3 y4 h r h' e

/-! 80: (*wainscot/lexer.scanner).quoted -/
def A80 : List (Nat × Sh) := [(1, .str), (4, (.int .i64)), (6, (.int .i64)), (7, (.int .i64)), (8, .str), (9, (.int .i64)), (10, .bool), (11, (.int .i64)), (12, (.int .i64)), (15, .str), (16, (.agg [(.int .i64), .str, (.int .i64)])), (18, (.int .i64)), (19, .bool), (21, (.int .i64)), (22, (.int .i64)), (23, .bool), (24, .str), (25, (.int .i64)), (26, (.int .u8)), (27, .bool), (29, .str), (30, (.int .i64)), (31, (.int .u8)), (34, .bool), (35, .str), (36, (.int .i64)), (37, .str), (38, .bool), (40, .str), (41, (.int .i64)), (42, (.int .u8)), (45, (.int .i64)), (46, (.int .i64)), (50, .str), (51, (.int .i64))]
noncomputable def call80 (lf : Nat) : CallS := callC 82 (W82 lf) (callC 56 (W56 lf) (callN))
theorem call80_ok (lf : Nat) : CallOk Go.Proofs.Try.prog (call80 lf) := callC_ok (W82_ok lf) (callC_ok (W56_ok lf) (callN_ok))
def o80_0 : Outs := [((.exit 0), [], []), (.ret, [4], [(.int .i64)])]
def k80_0 : KC := (.seq (.seq (.reg [⟨(some 7), none, (.op (.mv (.t 6))), []⟩, ⟨(some 8), none, (.op (.mv (.t 1))), []⟩, ⟨(some 9), none, (.op (.lenS (.t 8))), []⟩, ⟨(some 10), none, (.op (.bin .lss (.t 7) (.t 9))), []⟩]) (.cond (.t 10) .skip (.exit 0))) (.seq (.block 1 (.block 2 (.seq (.reg [⟨(some 24), none, (.op (.mv (.t 1))), []⟩, ⟨(some 25), none, (.op (.mv (.t 6))), []⟩, ⟨(some 26), none, (.op (.idxS (.t 24) (.t 25))), []⟩, ⟨(some 27), none, (.op (.bin .neq (.t 26) (.c (.int .u8 39)))), []⟩, ⟨(some 23), none, (.op (.mv (.t 27))), []⟩]) (.cond (.t 23) (.reg [⟨(some 28), none, (.op (.mv (.t 5))), []⟩, ⟨(some 29), none, (.op (.mv (.t 1))), []⟩, ⟨(some 30), none, (.op (.mv (.t 6))), []⟩, ⟨(some 31), none, (.op (.idxS (.t 29) (.t 30))), []⟩, ⟨(some 32), none, (.op (.bslice 1 (.int .u8 0) 1 [(0, (.t 31))])), []⟩, ⟨(some 33), none, (.op (.app 1 1 (.t 28) (.t 32))), []⟩, ⟨(some 5), none, (.op (.mv (.t 33))), []⟩]) (.seq (.reg [⟨(some 35), none, (.op (.mv (.t 1))), []⟩, ⟨(some 36), none, (.op (.mv (.t 6))), []⟩, ⟨(some 37), none, (.op (.slcS (.t 35) (some (.t 36)) none)), []⟩, ⟨(some 38), none, (.call 56 [(.t 37), (.c (.str [39, 39]))]), []⟩, ⟨(some 34), none, (.op (.mv (.t 38))), []⟩]) (.cond (.t 34) (.seq (.reg [⟨(some 39), none, (.op (.mv (.t 5))), []⟩, ⟨(some 40), none, (.op (.mv (.t 1))), []⟩, ⟨(some 41), none, (.op (.mv (.t 6))), []⟩, ⟨(some 42), none, (.op (.idxS (.t 40) (.t 41))), []⟩, ⟨(some 43), none, (.op (.bslice 1 (.int .u8 0) 1 [(0, (.t 42))])), []⟩, ⟨(some 44), none, (.op (.app 1 1 (.t 39) (.t 43))), []⟩, ⟨(some 5), none, (.op (.mv (.t 44))), []⟩]) (.reg [⟨(some 45), none, (.op (.mv (.t 6))), []⟩, ⟨(some 46), none, (.op (.bin .add (.t 45) (.c (.int .i64 1)))), []⟩, ⟨(some 6), none, (.op (.mv (.t 46))), []⟩])) (.seq (.reg [⟨(some 13), none, (.op (.mv (.t 0))), []⟩, ⟨(some 14), none, (.op (.mv (.t 5))), []⟩, ⟨(some 15), none, (.op (.toStr (.t 14))), []⟩, ⟨(some 16), none, (.op (.build [(.int .i64 0), (.str []), (.int .i64 0)] [(0, (1, (.c (.int .i64 3)))), (1, (1, (.t 15)))])), []⟩, ⟨(some 17), none, (.op (.mv (.t 5))), []⟩, ⟨(some 18), none, (.op (.lenL (.t 17))), []⟩, ⟨(some 19), none, (.op (.bin .leq (.t 18) (.c (.int .i64 100)))), []⟩, ⟨(some 20), none, (.call 82 [(.t 13), (.t 16), (.t 19)]), []⟩]) (.seq (.reg [⟨(some 21), none, (.op (.mv (.t 6))), []⟩, ⟨(some 22), none, (.op (.bin .add (.t 21) (.c (.int .i64 1)))), []⟩, ⟨(some 4), none, (.op (.mv (.t 22))), []⟩]) .ret)))))))) (.reg [⟨(some 11), none, (.op (.mv (.t 6))), []⟩, ⟨(some 12), none, (.op (.bin .add (.t 11) (.c (.int .i64 1)))), []⟩, ⟨(some 6), none, (.op (.mv (.t 12))), []⟩])))
def w80_0 (f : V → List UInt8 → V → Int → List Ob → SubR) (vs : List V) (h : List Ob) : SubR := castCons vs fun c1 l1 => castCons l1 fun c2 l2 => castStr c2 fun n3 => castCons l2 fun c4 l4 => castCons l4 fun c5 l5 => castInt .i64 c5 fun n6 => castNil l5 (f c1 n3 c4 n6 h)
noncomputable def B80_0 (lf : Nat) (self : V → List UInt8 → V → Int → List Ob → SubR) (x : V) (s : List UInt8) (b : V) (i : Int) (h : List Ob) : SubR :=
cB (decide (i < ((s).length : Int))) (
bind1 (er (.idxS (.c (.str s)) (.c (.int .i64 i))) h) fun v =>
castInt .u8 v fun x26 =>
cB (x26 != (39)) (
bind1 (er (.idxS (.c (.str s)) (.c (.int .i64 i))) h) fun v1 =>
castInt .u8 v1 fun x31 =>
bind2 (ev (.bslice 1 (.int .u8 0) 1 [(0, (.c (.int .u8 x31)))]) h) fun x32 h_ =>
bind2 (ev (.app 1 1 (.c b) (.c x32)) h_) fun x33 h_1 =>
self x s x33 (IntKind.i64.wrap (i + (1))) h_1) (
bind1 (er (.slcS (.c (.str s)) (some (.c (.int .i64 i))) none) h) fun v1 =>
castStr v1 fun x37 =>
bind2 (F56 lf x37 [39, 39] h) fun v2 h_ =>
castBool v2 fun x38 =>
cB x38 (
bind1 (er (.idxS (.c (.str s)) (.c (.int .i64 i))) h_) fun v3 =>
castInt .u8 v3 fun x42 =>
bind2 (ev (.bslice 1 (.int .u8 0) 1 [(0, (.c (.int .u8 x42)))]) h_) fun x43 h_1 =>
bind2 (ev (.app 1 1 (.c b) (.c x43)) h_1) fun x44 h_2 =>
self x s x44 (IntKind.i64.wrap ((IntKind.i64.wrap (i + (1))) + (1))) h_2) (
bind1 (er (.toStr (.c b)) h_) fun v3 =>
castStr v3 fun x15 =>
bind1 (er (.build [(.int .i64 0), (.str []), (.int .i64 0)] [(0, (1, (.c (.int .i64 (3))))), (1, (1, (.c (.str x15))))]) h_) fun v4 =>
castAgg v4 fun l =>
castCons l fun c l1 =>
castInt .i64 c fun x16_0 =>
castCons l1 fun c1 l2 =>
castStr c1 fun x16_1 =>
castCons l2 fun c2 l3 =>
castInt .i64 c2 fun x16_2 =>
castNil l3 (
bind1 (er (.lenL (.c b)) h_) fun v5 =>
castInt .i64 v5 fun x18 =>
bind2 (F82 lf x x16_0 x16_1 x16_2 (decide (x18 ≤ (100))) h_) fun x20 h_1 =>
some (.ret, [(.int .i64 (IntKind.i64.wrap (i + (1))))], h_1))))) (
some ((.exit 0), [], h))
noncomputable def L80_0 (lf : Nat) : Nat → V → List UInt8 → V → Int → List Ob → SubR
  | 0 => fun _ _ _ _ _ => none
  | n + 1 => B80_0 lf (L80_0 lf n)
theorem B80_0_eq (lf : Nat) (self : V → List UInt8 → V → Int → List Ob → SubR) (x : V) (s : List UInt8) (b : V) (i : Int) (h : List Ob) : evCK A80 ⟨call80 lf, cvN, subN⟩ k80_0 [(0, x), (1, (.str s)), (5, b), (6, (.int .i64 i))] h (endL [0, 1, 5, 6] [.any, .str, .any, (.int .i64)] o80_0 (w80_0 self)) = B80_0 lf self x s b i h := by kernel_rfl
theorem L80_0_ok (lf : Nat) : ∀ n, SubOk Go.Proofs.Try.prog (.loop k80_0.er) [0, 1, 5, 6] o80_0 (w80_0 (L80_0 lf n)) := by
  refine SubOk.loop (A := A80) (σ := ⟨call80 lf, cvN, subN⟩) (c := k80_0) (shs := [.any, .str, .any, (.int .i64)]) (G := fun n => w80_0 (L80_0 lf n)) (call80_ok lf) cvN_ok (And.intro (And.intro True.intro (And.intro True.intro True.intro)) (And.intro (And.intro True.intro (And.intro True.intro (And.intro True.intro (And.intro (And.intro True.intro True.intro) (And.intro True.intro (And.intro True.intro True.intro)))))) True.intro)) ?_ ?_
  · intro vs h r e0
    simp only [w80_0] at e0
    obtain ⟨c1, l1, rfl, e1⟩ := castCons_inv e0
    obtain ⟨c2, l2, rfl, e2⟩ := castCons_inv e1
    obtain ⟨y1, rfl, e3⟩ := castStr_inv e2
    obtain ⟨c3, l3, rfl, e4⟩ := castCons_inv e3
    obtain ⟨c4, l4, rfl, e5⟩ := castCons_inv e4
    obtain ⟨y3, rfl, e6⟩ := castInt_inv e5
    obtain ⟨rfl, e7⟩ := castNil_inv e6
    have e := e7
    cases e
  · intro n vs h r e0
    simp only [w80_0] at e0
    obtain ⟨c1, l1, rfl, e1⟩ := castCons_inv e0
    obtain ⟨c2, l2, rfl, e2⟩ := castCons_inv e1
    obtain ⟨y1, rfl, e3⟩ := castStr_inv e2
    obtain ⟨c3, l3, rfl, e4⟩ := castCons_inv e3
    obtain ⟨c4, l4, rfl, e5⟩ := castCons_inv e4
    obtain ⟨y3, rfl, e6⟩ := castInt_inv e5
    obtain ⟨rfl, e7⟩ := castNil_inv e6
    have e := e7
    exact (B80_0_eq lf (L80_0 lf n) c1 y1 c3 y3 h).trans e
def k80 : KC := (.seq (.reg [⟨(some 4), none, (.op (.mv (.c (.int .i64 0)))), []⟩]) (.seq (.reg [⟨(some 5), none, (.op (.mv (.c .nils))), []⟩]) (.seq (.seq (.reg [⟨(some 6), none, (.op (.mv (.c (.int .i64 1)))), []⟩]) (.block 0 (.sub 0 (.loop k80_0.er) [0, 1, 5, 6] o80_0))) (.seq (.reg [⟨(some 47), none, (.op (.mv (.t 0))), []⟩, ⟨(some 48), none, (.op (.nilck (.t 47))), []⟩, ⟨(some 49), none, (.op (.faddr 2 (.t 48))), []⟩, ⟨none, none, (.op (.store 1 (.t 49) (.c (.int .i64 3)))), []⟩]) (.seq (.reg [⟨(some 50), none, (.op (.mv (.t 1))), []⟩, ⟨(some 51), none, (.op (.lenS (.t 50))), []⟩, ⟨(some 4), none, (.op (.mv (.t 51))), []⟩]) .ret)))))
noncomputable def F80 (lf : Nat) (x : V) (s : List UInt8) (h : List Ob) : Option (V × List Ob) :=
bind3 (L80_0 lf lf x s V.nils (1) h) fun ex vs h_ =>
cB (decide (ex = (.exit 0))) (
castNil vs (
bind1 (er (.nilck (.c x)) h_) fun x48 =>
bind1 (er (.faddr 2 (.c x48)) h_) fun x49 =>
bind2 (ev (.store 1 (.c x49) (.c (.int .i64 (3)))) h_) fun u h_1 =>
some ((.int .i64 ((s).length : Int)), h_1))) (
cB (decide (ex = .ret)) (
castCons vs fun c l =>
castInt .i64 c fun x4 =>
castNil l (
some ((.int .i64 x4), h_))) (
none))
theorem F80_eq (lf : Nat) (x : V) (s : List UInt8) (h : List Ob) : evCK A80 ⟨call80 lf, cvN, subC 0 (w80_0 (L80_0 lf lf)) (subN)⟩ k80 (entryK [x, (.str s)]) h (endF c80.res) = F80 lf x s h := by kernel_rfl
theorem F80_ok (lf : Nat) (x : V) (s : List UInt8) (h : List Ob) (r_ : V) (h_r : List Ob) (e_ : F80 lf x s h = some (r_, h_r)) : CD Go.Proofs.Try.prog 80 [x, (.str s)] h r_ h_r :=
  CD.ofK (A := A80) (σ := ⟨call80 lf, cvN, subC 0 (w80_0 (L80_0 lf lf)) (subN)⟩) (c := k80) Go.Proofs.Try.func80 ok80 en80 (show 2 ≤ 52 by decide) (by kernel_rfl) (call80_ok lf) cvN_ok (And.intro True.intro (And.intro True.intro (And.intro (And.intro True.intro (L80_0_ok lf lf)) (And.intro True.intro (And.intro True.intro True.intro))))) ((F80_eq lf x s h).trans e_)
def w80 (f : V → List UInt8 → List Ob → Option (V × List Ob)) (vs : List V) (h : List Ob) : Option (V × List Ob) := castCons vs fun c1 l1 => castCons l1 fun c2 l2 => castStr c2 fun n3 => castNil l2 (f c1 n3 h)
noncomputable def W80 (lf : Nat) : List V → List Ob → Option (V × List Ob) := w80 (F80 lf)
theorem W80_ok (lf : Nat) : ∀ args h v h', W80 lf args h = some (v, h') → CD Go.Proofs.Try.prog 80 args h v h' := by
  intro vs h r h' e0
  simp only [W80, w80] at e0
  obtain ⟨c1, l1, rfl, e1⟩ := castCons_inv e0
  obtain ⟨c2, l2, rfl, e2⟩ := castCons_inv e1
  obtain ⟨y1, rfl, e3⟩ := castStr_inv e2
  obtain ⟨rfl, e4⟩ := castNil_inv e3
  have e := e4
  exact F80_ok lf c1 y1 h r h' e

/-! 81: wainscot/lexer.run -/
def A81 : List (Nat × Sh) := [(0, .str), (2, (.int .i64)), (3, (.int .i64)), (4, (.int .i32)), (5, .str), (8, .bool), (9, (.int .i64)), (10, (.int .i32)), (11, (.int .i32)), (12, .bool), (13, .bool), (14, .bool), (15, (.int .i32)), (16, .bool), (17, .bool), (18, .bool), (19, (.int .i64)), (20, .str), (21, (.int .i64))]
noncomputable def call81 (lf : Nat) : CallS := callC 83 (W83 lf) (callC 28 (W28 lf) (callN))
theorem call81_ok (lf : Nat) : CallOk Go.Proofs.Try.prog (call81 lf) := callC_ok (W83_ok lf) (callC_ok (W28_ok lf) (callN_ok))
def o81_0 : Outs := [((.exit 0), [], []), (.ret, [2], [(.int .i64)])]
def k81_0 : KC := (.seq (.reg [⟨(some 7), none, (.op (.nextS (.t 6))), []⟩, ⟨(some 8), none, (.op (.ext 0 (.t 7))), []⟩]) (.seq (.cond (.t 8) .skip (.exit 0)) (.block 1 (.seq (.reg [⟨(some 9), none, (.op (.ext 1 (.t 7))), []⟩, ⟨(some 10), none, (.op (.ext 2 (.t 7))), []⟩, ⟨(some 3), none, (.op (.mv (.t 9))), []⟩, ⟨(some 4), none, (.op (.mv (.t 10))), []⟩]) (.seq (.reg [⟨(some 11), none, (.op (.mv (.t 4))), []⟩, ⟨(some 12), none, (.call 28 [(.t 11)]), []⟩, ⟨(some 13), none, (.op (.un .not (.t 12))), []⟩, ⟨(some 14), none, (.op (.mv (.t 13))), []⟩, ⟨(some 15), (some (14, true)), (.op (.mv (.t 4))), []⟩, ⟨(some 16), (some (14, true)), (.call 83 [(.t 15)]), []⟩, ⟨(some 17), (some (14, true)), (.op (.un .not (.t 16))), []⟩, ⟨(some 18), none, (.op (.pick (.t 14) (.t 17) (.c (.bool false)))), []⟩]) (.cond (.t 18) (.seq (.reg [⟨(some 19), none, (.op (.mv (.t 3))), []⟩, ⟨(some 2), none, (.op (.mv (.t 19))), []⟩]) .ret) .skip))))))
def w81_0 (f : V → List Ob → SubR) (vs : List V) (h : List Ob) : SubR := castCons vs fun c1 l1 => castNil l1 (f c1 h)
noncomputable def B81_0 (lf : Nat) (self : V → List Ob → SubR) (x6 : V) (h : List Ob) : SubR :=
bind2 (ev (.nextS (.c x6)) h) fun x7 h_ =>
bind1 (er (.ext 0 (.c x7)) h_) fun v =>
castBool v fun x8 =>
cB x8 (
bind1 (er (.ext 1 (.c x7)) h_) fun v1 =>
castInt .i64 v1 fun x9 =>
bind1 (er (.ext 2 (.c x7)) h_) fun v2 =>
castInt .i32 v2 fun x10 =>
bind2 (F28 lf x10 h_) fun v3 h_1 =>
castBool v3 fun x12 =>
cB (!x12) (
bind2 (F83 lf x10 h_1) fun v4 h_2 =>
castBool v4 fun x16 =>
cB (!x16) (
some (.ret, [(.int .i64 x9)], h_2)) (
self x6 h_2)) (
self x6 h_1)) (
some ((.exit 0), [], h_))
noncomputable def L81_0 (lf : Nat) : Nat → V → List Ob → SubR
  | 0 => fun _ _ => none
  | n + 1 => B81_0 lf (L81_0 lf n)
theorem B81_0_eq (lf : Nat) (self : V → List Ob → SubR) (x6 : V) (h : List Ob) : evCK A81 ⟨call81 lf, cvN, subN⟩ k81_0 [(6, x6)] h (endL [6] [.any] o81_0 (w81_0 self)) = B81_0 lf self x6 h := by kernel_rfl
theorem L81_0_ok (lf : Nat) : ∀ n, SubOk Go.Proofs.Try.prog (.loop k81_0.er) [6] o81_0 (w81_0 (L81_0 lf n)) := by
  refine SubOk.loop (A := A81) (σ := ⟨call81 lf, cvN, subN⟩) (c := k81_0) (shs := [.any]) (G := fun n => w81_0 (L81_0 lf n)) (call81_ok lf) cvN_ok (And.intro True.intro (And.intro (And.intro True.intro True.intro) (And.intro True.intro (And.intro True.intro (And.intro (And.intro True.intro True.intro) True.intro))))) ?_ ?_
  · intro vs h r e0
    simp only [w81_0] at e0
    obtain ⟨c1, l1, rfl, e1⟩ := castCons_inv e0
    obtain ⟨rfl, e2⟩ := castNil_inv e1
    have e := e2
    cases e
  · intro n vs h r e0
    simp only [w81_0] at e0
    obtain ⟨c1, l1, rfl, e1⟩ := castCons_inv e0
    obtain ⟨rfl, e2⟩ := castNil_inv e1
    have e := e2
    exact (B81_0_eq lf (L81_0 lf n) c1 h).trans e
def k81 : KC := (.seq (.reg [⟨(some 2), none, (.op (.mv (.c (.int .i64 0)))), []⟩]) (.seq (.seq (.reg [⟨(some 5), none, (.op (.mv (.t 0))), []⟩, ⟨(some 6), none, (.op (.rangeS (.t 5))), []⟩]) (.block 0 (.sub 0 (.loop k81_0.er) [6] o81_0))) (.seq (.reg [⟨(some 20), none, (.op (.mv (.t 0))), []⟩, ⟨(some 21), none, (.op (.lenS (.t 20))), []⟩, ⟨(some 2), none, (.op (.mv (.t 21))), []⟩]) .ret)))
noncomputable def F81 (lf : Nat) (s : List UInt8) (h : List Ob) : Option (V × List Ob) :=
bind2 (ev (.rangeS (.c (.str s))) h) fun x6 h_ =>
bind3 (L81_0 lf lf x6 h_) fun ex vs h_1 =>
cB (decide (ex = (.exit 0))) (
castNil vs (
some ((.int .i64 ((s).length : Int)), h_1))) (
cB (decide (ex = .ret)) (
castCons vs fun c l =>
castInt .i64 c fun x2 =>
castNil l (
some ((.int .i64 x2), h_1))) (
none))
theorem F81_eq (lf : Nat) (s : List UInt8) (h : List Ob) : evCK A81 ⟨call81 lf, cvN, subC 0 (w81_0 (L81_0 lf lf)) (subN)⟩ k81 (entryK [(.str s)]) h (endF c81.res) = F81 lf s h := by kernel_rfl
theorem F81_ok (lf : Nat) (s : List UInt8) (h : List Ob) (r_ : V) (h_r : List Ob) (e_ : F81 lf s h = some (r_, h_r)) : CD Go.Proofs.Try.prog 81 [(.str s)] h r_ h_r :=
  CD.ofK (A := A81) (σ := ⟨call81 lf, cvN, subC 0 (w81_0 (L81_0 lf lf)) (subN)⟩) (c := k81) Go.Proofs.Try.func81 ok81 en81 (show 1 ≤ 22 by decide) (by kernel_rfl) (call81_ok lf) cvN_ok (And.intro True.intro (And.intro (And.intro True.intro (L81_0_ok lf lf)) (And.intro True.intro True.intro))) ((F81_eq lf s h).trans e_)
def w81 (f : List UInt8 → List Ob → Option (V × List Ob)) (vs : List V) (h : List Ob) : Option (V × List Ob) := castCons vs fun c1 l1 => castStr c1 fun n2 => castNil l1 (f n2 h)
noncomputable def W81 (lf : Nat) : List V → List Ob → Option (V × List Ob) := w81 (F81 lf)
theorem W81_ok (lf : Nat) : ∀ args h v h', W81 lf args h = some (v, h') → CD Go.Proofs.Try.prog 81 args h v h' := by
  intro vs h r h' e0
  simp only [W81, w81] at e0
  obtain ⟨c1, l1, rfl, e1⟩ := castCons_inv e0
  obtain ⟨y0, rfl, e2⟩ := castStr_inv e1
  obtain ⟨rfl, e3⟩ := castNil_inv e2
  have e := e3
  exact F81_ok lf y0 h r h' e

/-! 84: wainscot/lexer.value -/
def A84 : List (Nat × Sh) := [(0, .str), (2, (.int .i64)), (3, .bool), (4, (.int .u64)), (6, (.int .i32)), (7, .str), (10, .bool), (11, (.int .i32)), (12, (.int .i32)), (13, .bool), (14, .bool), (15, .bool), (16, (.int .u64)), (17, .bool), (18, .bool), (19, (.int .u64)), (20, (.int .u64)), (21, (.int .i32)), (22, (.int .i32)), (23, (.int .u64)), (24, (.int .u64)), (25, (.int .u64)), (26, (.int .i64)), (27, (.int .u64)), (28, .bool), (29, .bool), (30, .str), (31, .bool), (32, .bool), (33, .str), (34, (.int .u8)), (35, .bool), (36, .bool), (37, .bool)]
noncomputable def call84 (lf : Nat) : CallS := callC 83 (W83 lf) (callN)
theorem call84_ok (lf : Nat) : CallOk Go.Proofs.Try.prog (call84 lf) := callC_ok (W83_ok lf) (callN_ok)
def o84_0 : Outs := [((.exit 0), [4], [(.int .u64)]), (.ret, [2, 3], [(.int .i64), .bool])]
def k84_0 : KC := (.seq (.reg [⟨(some 9), none, (.op (.nextS (.t 8))), []⟩, ⟨(some 10), none, (.op (.ext 0 (.t 9))), []⟩]) (.seq (.cond (.t 10) .skip (.exit 0)) (.block 1 (.seq (.reg [⟨(some 11), none, (.op (.ext 2 (.t 9))), []⟩, ⟨(some 6), none, (.op (.mv (.t 11))), []⟩]) (.seq (.seq (.reg [⟨(some 12), none, (.op (.mv (.t 6))), []⟩, ⟨(some 13), none, (.call 83 [(.t 12)]), []⟩, ⟨(some 14), none, (.op (.un .not (.t 13))), []⟩, ⟨(some 15), none, (.op (.mv (.t 14))), []⟩, ⟨(some 16), (some (15, false)), (.op (.mv (.t 4))), []⟩, ⟨(some 17), (some (15, false)), (.op (.bin .gtr (.t 16) (.c (.int .u64 922337203685477580)))), []⟩, ⟨(some 18), none, (.op (.pick (.t 15) (.c (.bool true)) (.t 17))), []⟩]) (.cond (.t 18) (.seq (.reg [⟨(some 2), none, (.op (.mv (.c (.int .i64 0)))), []⟩, ⟨(some 3), none, (.op (.mv (.c (.bool false)))), []⟩]) .ret) .skip)) (.reg [⟨(some 19), none, (.op (.mv (.t 4))), []⟩, ⟨(some 20), none, (.op (.bin .mul (.c (.int .u64 10)) (.t 19))), []⟩, ⟨(some 21), none, (.op (.mv (.t 6))), []⟩, ⟨(some 22), none, (.op (.bin .sub (.t 21) (.c (.int .i32 48)))), []⟩, ⟨(some 23), none, (.op (.toInt .u64 (.t 22))), []⟩, ⟨(some 24), none, (.op (.bin .add (.t 20) (.t 23))), []⟩, ⟨(some 4), none, (.op (.mv (.t 24))), []⟩]))))))
def w84_0 (f : Int → V → List Ob → SubR) (vs : List V) (h : List Ob) : SubR := castCons vs fun c1 l1 => castInt .u64 c1 fun n2 => castCons l1 fun c3 l3 => castNil l3 (f n2 c3 h)
noncomputable def B84_0 (lf : Nat) (self : Int → V → List Ob → SubR) (n_ : Int) (x8 : V) (h : List Ob) : SubR :=
bind2 (ev (.nextS (.c x8)) h) fun x9 h_ =>
bind1 (er (.ext 0 (.c x9)) h_) fun v =>
castBool v fun x10 =>
cB x10 (
bind1 (er (.ext 2 (.c x9)) h_) fun v1 =>
castInt .i32 v1 fun x11 =>
bind2 (F83 lf x11 h_) fun v2 h_1 =>
castBool v2 fun x13 =>
cB (!x13) (
some (.ret, [(.int .i64 (0)), (.bool false)], h_1)) (
cB (decide (n_ > (922337203685477580))) (
some (.ret, [(.int .i64 (0)), (.bool false)], h_1)) (
self (IntKind.u64.wrap ((IntKind.u64.wrap ((10) * n_)) + (IntKind.u64.wrap (IntKind.i32.wrap (x11 - (48)))))) x8 h_1))) (
some ((.exit 0), [(.int .u64 n_)], h_))
noncomputable def L84_0 (lf : Nat) : Nat → Int → V → List Ob → SubR
  | 0 => fun _ _ _ => none
  | n + 1 => B84_0 lf (L84_0 lf n)
theorem B84_0_eq (lf : Nat) (self : Int → V → List Ob → SubR) (n_ : Int) (x8 : V) (h : List Ob) : evCK A84 ⟨call84 lf, cvN, subN⟩ k84_0 [(4, (.int .u64 n_)), (8, x8)] h (endL [4, 8] [(.int .u64), .any] o84_0 (w84_0 self)) = B84_0 lf self n_ x8 h := by kernel_rfl
theorem L84_0_ok (lf : Nat) : ∀ n, SubOk Go.Proofs.Try.prog (.loop k84_0.er) [4, 8] o84_0 (w84_0 (L84_0 lf n)) := by
  refine SubOk.loop (A := A84) (σ := ⟨call84 lf, cvN, subN⟩) (c := k84_0) (shs := [(.int .u64), .any]) (G := fun n => w84_0 (L84_0 lf n)) (call84_ok lf) cvN_ok (And.intro True.intro (And.intro (And.intro True.intro True.intro) (And.intro True.intro (And.intro (And.intro True.intro (And.intro (And.intro True.intro True.intro) True.intro)) True.intro)))) ?_ ?_
  · intro vs h r e0
    simp only [w84_0] at e0
    obtain ⟨c1, l1, rfl, e1⟩ := castCons_inv e0
    obtain ⟨y0, rfl, e2⟩ := castInt_inv e1
    obtain ⟨c2, l2, rfl, e3⟩ := castCons_inv e2
    obtain ⟨rfl, e4⟩ := castNil_inv e3
    have e := e4
    cases e
  · intro n vs h r e0
    simp only [w84_0] at e0
    obtain ⟨c1, l1, rfl, e1⟩ := castCons_inv e0
    obtain ⟨y0, rfl, e2⟩ := castInt_inv e1
    obtain ⟨c2, l2, rfl, e3⟩ := castCons_inv e2
    obtain ⟨rfl, e4⟩ := castNil_inv e3
    have e := e4
    exact (B84_0_eq lf (L84_0 lf n) y0 c2 h).trans e
def k84 : KC := (.seq (.reg [⟨(some 2), none, (.op (.mv (.c (.int .i64 0)))), []⟩, ⟨(some 3), none, (.op (.mv (.c (.bool false)))), []⟩]) (.seq (.reg [⟨(some 4), none, (.op (.mv (.c (.int .u64 0)))), []⟩]) (.seq (.seq (.reg [⟨(some 7), none, (.op (.mv (.t 0))), []⟩, ⟨(some 8), none, (.op (.rangeS (.t 7))), []⟩]) (.block 0 (.sub 0 (.loop k84_0.er) [4, 8] o84_0))) (.seq (.reg [⟨(some 25), none, (.op (.mv (.t 4))), []⟩, ⟨(some 26), none, (.op (.toInt .i64 (.t 25))), []⟩, ⟨(some 27), none, (.op (.mv (.t 4))), []⟩, ⟨(some 28), none, (.op (.bin .leq (.t 27) (.c (.int .u64 9223372036854775807)))), []⟩, ⟨(some 29), none, (.op (.mv (.t 28))), []⟩, ⟨(some 30), (some (29, true)), (.op (.mv (.t 0))), []⟩, ⟨(some 31), (some (29, true)), (.op (.bin .eql (.t 30) (.c (.str [48])))), []⟩, ⟨(some 32), (some (29, true)), (.op (.mv (.t 31))), []⟩, ⟨(some 33), (some (32, false)), (.op (.mv (.t 0))), []⟩, ⟨(some 34), (some (32, false)), (.op (.idxS (.t 33) (.c (.int .i64 0)))), []⟩, ⟨(some 35), (some (32, false)), (.op (.bin .neq (.t 34) (.c (.int .u8 48)))), []⟩, ⟨(some 36), (some (29, true)), (.op (.pick (.t 32) (.c (.bool true)) (.t 35))), []⟩, ⟨(some 37), none, (.op (.pick (.t 29) (.t 36) (.c (.bool false)))), []⟩, ⟨(some 2), none, (.op (.mv (.t 26))), []⟩, ⟨(some 3), none, (.op (.mv (.t 37))), []⟩]) .ret))))
noncomputable def F84 (lf : Nat) (s : List UInt8) (h : List Ob) : Option (V × List Ob) :=
bind2 (ev (.rangeS (.c (.str s))) h) fun x8 h_ =>
bind3 (L84_0 lf lf (0) x8 h_) fun ex vs h_1 =>
cB (decide (ex = (.exit 0))) (
castCons vs fun c l =>
castInt .u64 c fun n_ =>
castNil l (
cB (decide (n_ ≤ (9223372036854775807))) (
cB (s == [48]) (
some ((.tup [(.int .i64 (IntKind.i64.wrap n_)), (.bool true)]), h_1)) (
bind1 (er (.idxS (.c (.str s)) (.c (.int .i64 (0)))) h_1) fun v =>
castInt .u8 v fun x34 =>
some ((.tup [(.int .i64 (IntKind.i64.wrap n_)), (.bool (x34 != (48)))]), h_1))) (
some ((.tup [(.int .i64 (IntKind.i64.wrap n_)), (.bool false)]), h_1)))) (
cB (decide (ex = .ret)) (
castCons vs fun c l =>
castInt .i64 c fun x2 =>
castCons l fun c1 l1 =>
castBool c1 fun x3 =>
castNil l1 (
some ((.tup [(.int .i64 x2), (.bool x3)]), h_1))) (
none))
theorem F84_eq (lf : Nat) (s : List UInt8) (h : List Ob) : evCK A84 ⟨call84 lf, cvN, subC 0 (w84_0 (L84_0 lf lf)) (subN)⟩ k84 (entryK [(.str s)]) h (endF c84.res) = F84 lf s h := by kernel_rfl
theorem F84_ok (lf : Nat) (s : List UInt8) (h : List Ob) (r_ : V) (h_r : List Ob) (e_ : F84 lf s h = some (r_, h_r)) : CD Go.Proofs.Try.prog 84 [(.str s)] h r_ h_r :=
  CD.ofK (A := A84) (σ := ⟨call84 lf, cvN, subC 0 (w84_0 (L84_0 lf lf)) (subN)⟩) (c := k84) Go.Proofs.Try.func84 ok84 en84 (show 1 ≤ 38 by decide) (by kernel_rfl) (call84_ok lf) cvN_ok (And.intro True.intro (And.intro True.intro (And.intro (And.intro True.intro (L84_0_ok lf lf)) (And.intro True.intro True.intro)))) ((F84_eq lf s h).trans e_)
def w84 (f : List UInt8 → List Ob → Option (V × List Ob)) (vs : List V) (h : List Ob) : Option (V × List Ob) := castCons vs fun c1 l1 => castStr c1 fun n2 => castNil l1 (f n2 h)
noncomputable def W84 (lf : Nat) : List V → List Ob → Option (V × List Ob) := w84 (F84 lf)
theorem W84_ok (lf : Nat) : ∀ args h v h', W84 lf args h = some (v, h') → CD Go.Proofs.Try.prog 84 args h v h' := by
  intro vs h r h' e0
  simp only [W84, w84] at e0
  obtain ⟨c1, l1, rfl, e1⟩ := castCons_inv e0
  obtain ⟨y0, rfl, e2⟩ := castStr_inv e1
  obtain ⟨rfl, e3⟩ := castNil_inv e2
  have e := e3
  exact F84_ok lf y0 h r h' e

/-! 104: slices.IndexFunc[[]string,string] -/
def A104 : List (Nat × Sh) := [(4, (.int .i64)), (5, (.int .i64)), (7, (.int .i64)), (8, (.int .i64)), (9, .bool), (10, (.int .i64)), (13, (.int .i64)), (15, .str), (16, .bool), (17, (.int .i64)), (18, (.int .i64))]
noncomputable def call104 (lf : Nat) (cv : CallVS) : CallS := callN
theorem call104_ok (lf : Nat) (cv : CallVS) (hcv : CvOk Go.Proofs.Try.prog cv) : CallOk Go.Proofs.Try.prog (call104 lf cv) := callN_ok
def o104_0 : Outs := [((.exit 0), [], []), (.ret, [4], [(.int .i64)])]
def k104_0 : KC := (.seq (.reg [⟨(some 9), none, (.op (.bin .lss (.t 8) (.t 7))), []⟩]) (.seq (.cond (.t 9) .skip (.exit 0)) (.seq (.block 1 (.seq (.reg [⟨(some 10), none, (.op (.mv (.t 8))), []⟩, ⟨(some 5), none, (.op (.mv (.t 10))), []⟩]) (.seq (.reg [⟨(some 11), none, (.op (.mv (.t 1))), []⟩, ⟨(some 12), none, (.op (.mv (.t 0))), []⟩, ⟨(some 13), none, (.op (.mv (.t 5))), []⟩, ⟨(some 14), none, (.op (.iaddrL 1 (.t 12) (.t 13))), []⟩, ⟨(some 15), none, (.op (.load1 (.t 14))), []⟩, ⟨(some 16), none, (.callv (.t 11) [(.t 15)]), []⟩]) (.cond (.t 16) (.seq (.reg [⟨(some 17), none, (.op (.mv (.t 5))), []⟩, ⟨(some 4), none, (.op (.mv (.t 17))), []⟩]) .ret) .skip)))) (.reg [⟨(some 18), none, (.op (.bin .add (.t 8) (.c (.int .i64 1)))), []⟩, ⟨(some 8), none, (.op (.mv (.t 18))), []⟩]))))
def w104_0 (f : V → V → Int → Int → List Ob → SubR) (vs : List V) (h : List Ob) : SubR := castCons vs fun c1 l1 => castCons l1 fun c2 l2 => castCons l2 fun c3 l3 => castInt .i64 c3 fun n4 => castCons l3 fun c5 l5 => castInt .i64 c5 fun n6 => castNil l5 (f c1 c2 n4 n6 h)
noncomputable def B104_0 (lf : Nat) (cv : CallVS) (self : V → V → Int → Int → List Ob → SubR) (s : V) (f : V) (x7 : Int) (x8 : Int) (h : List Ob) : SubR :=
cB (decide (x8 < x7)) (
bind1 (er (.iaddrL 1 (.c s) (.c (.int .i64 x8))) h) fun x14 =>
bind1 (er (.load1 (.c x14)) h) fun v =>
castStr v fun x15 =>
bind2 (cv f [(.str x15)] h) fun v1 h_ =>
castBool v1 fun x16 =>
cB x16 (
some (.ret, [(.int .i64 x8)], h_)) (
self s f x7 (IntKind.i64.wrap (x8 + (1))) h_)) (
some ((.exit 0), [], h))
noncomputable def L104_0 (lf : Nat) (cv : CallVS) : Nat → V → V → Int → Int → List Ob → SubR
  | 0 => fun _ _ _ _ _ => none
  | n + 1 => B104_0 lf cv (L104_0 lf cv n)
theorem B104_0_eq (lf : Nat) (cv : CallVS) (self : V → V → Int → Int → List Ob → SubR) (s : V) (f : V) (x7 : Int) (x8 : Int) (h : List Ob) : evCK A104 ⟨call104 lf cv, cv, subN⟩ k104_0 [(0, s), (1, f), (7, (.int .i64 x7)), (8, (.int .i64 x8))] h (endL [0, 1, 7, 8] [.any, .any, (.int .i64), (.int .i64)] o104_0 (w104_0 self)) = B104_0 lf cv self s f x7 x8 h := by kernel_rfl
theorem L104_0_ok (lf : Nat) (cv : CallVS) (hcv : CvOk Go.Proofs.Try.prog cv) : ∀ n, SubOk Go.Proofs.Try.prog (.loop k104_0.er) [0, 1, 7, 8] o104_0 (w104_0 (L104_0 lf cv n)) := by
  refine SubOk.loop (A := A104) (σ := ⟨call104 lf cv, cv, subN⟩) (c := k104_0) (shs := [.any, .any, (.int .i64), (.int .i64)]) (G := fun n => w104_0 (L104_0 lf cv n)) (call104_ok lf cv hcv) hcv (And.intro True.intro (And.intro (And.intro True.intro True.intro) (And.intro (And.intro True.intro (And.intro True.intro (And.intro (And.intro True.intro True.intro) True.intro))) True.intro))) ?_ ?_
  · intro vs h r e0
    simp only [w104_0] at e0
    obtain ⟨c1, l1, rfl, e1⟩ := castCons_inv e0
    obtain ⟨c2, l2, rfl, e2⟩ := castCons_inv e1
    obtain ⟨c3, l3, rfl, e3⟩ := castCons_inv e2
    obtain ⟨y2, rfl, e4⟩ := castInt_inv e3
    obtain ⟨c4, l4, rfl, e5⟩ := castCons_inv e4
    obtain ⟨y3, rfl, e6⟩ := castInt_inv e5
    obtain ⟨rfl, e7⟩ := castNil_inv e6
    have e := e7
    cases e
  · intro n vs h r e0
    simp only [w104_0] at e0
    obtain ⟨c1, l1, rfl, e1⟩ := castCons_inv e0
    obtain ⟨c2, l2, rfl, e2⟩ := castCons_inv e1
    obtain ⟨c3, l3, rfl, e3⟩ := castCons_inv e2
    obtain ⟨y2, rfl, e4⟩ := castInt_inv e3
    obtain ⟨c4, l4, rfl, e5⟩ := castCons_inv e4
    obtain ⟨y3, rfl, e6⟩ := castInt_inv e5
    obtain ⟨rfl, e7⟩ := castNil_inv e6
    have e := e7
    exact (B104_0_eq lf cv (L104_0 lf cv n) c1 c2 y2 y3 h).trans e
def k104 : KC := (.seq (.reg [⟨(some 4), none, (.op (.mv (.c (.int .i64 0)))), []⟩]) (.seq (.seq (.reg [⟨(some 6), none, (.op (.mv (.t 0))), []⟩, ⟨(some 7), none, (.op (.lenL (.t 6))), []⟩, ⟨(some 8), none, (.op (.mv (.c (.int .i64 0)))), []⟩]) (.block 0 (.sub 0 (.loop k104_0.er) [0, 1, 7, 8] o104_0))) (.seq (.reg [⟨(some 4), none, (.op (.mv (.c (.int .i64 (-0 - 1))))), []⟩]) .ret)))
noncomputable def F104 (lf : Nat) (cv : CallVS) (s : V) (f : V) (h : List Ob) : Option (V × List Ob) :=
bind1 (er (.lenL (.c s)) h) fun v =>
castInt .i64 v fun x7 =>
bind3 (L104_0 lf cv lf s f x7 (0) h) fun ex vs h_ =>
cB (decide (ex = (.exit 0))) (
castNil vs (
some ((.int .i64 (-1)), h_))) (
cB (decide (ex = .ret)) (
castCons vs fun c l =>
castInt .i64 c fun x4 =>
castNil l (
some ((.int .i64 x4), h_))) (
none))
theorem F104_eq (lf : Nat) (cv : CallVS) (s : V) (f : V) (h : List Ob) : evCK A104 ⟨call104 lf cv, cv, subC 0 (w104_0 (L104_0 lf cv lf)) (subN)⟩ k104 (entryK [s, f]) h (endF c104.res) = F104 lf cv s f h := by kernel_rfl
theorem F104_ok (lf : Nat) (cv : CallVS) (hcv : CvOk Go.Proofs.Try.prog cv) (s : V) (f : V) (h : List Ob) (r_ : V) (h_r : List Ob) (e_ : F104 lf cv s f h = some (r_, h_r)) : CD Go.Proofs.Try.prog 104 [s, f] h r_ h_r :=
  CD.ofK (A := A104) (σ := ⟨call104 lf cv, cv, subC 0 (w104_0 (L104_0 lf cv lf)) (subN)⟩) (c := k104) Go.Proofs.Try.func104 ok104 en104 (show 2 ≤ 19 by decide) (by kernel_rfl) (call104_ok lf cv hcv) hcv (And.intro True.intro (And.intro (And.intro True.intro (L104_0_ok lf cv hcv lf)) (And.intro True.intro True.intro))) ((F104_eq lf cv s f h).trans e_)
def w104 (f : V → V → List Ob → Option (V × List Ob)) (vs : List V) (h : List Ob) : Option (V × List Ob) := castCons vs fun c1 l1 => castCons l1 fun c2 l2 => castNil l2 (f c1 c2 h)
noncomputable def W104 (lf : Nat) (cv : CallVS) : List V → List Ob → Option (V × List Ob) := w104 (F104 lf cv)
theorem W104_ok (lf : Nat) (cv : CallVS) (hcv : CvOk Go.Proofs.Try.prog cv) : ∀ args h v h', W104 lf cv args h = some (v, h') → CD Go.Proofs.Try.prog 104 args h v h' := by
  intro vs h r h' e0
  simp only [W104, w104] at e0
  obtain ⟨c1, l1, rfl, e1⟩ := castCons_inv e0
  obtain ⟨c2, l2, rfl, e2⟩ := castCons_inv e1
  obtain ⟨rfl, e3⟩ := castNil_inv e2
  have e := e3
  exact F104_ok lf cv hcv c1 c2 h r h' e

/-! 105: wainscot/lexer.signed$1 -/
def A105 : List (Nat × Sh) := [(0, .str), (3, .bool), (4, .str), (5, .str), (6, .bool)]
noncomputable def call105 (lf : Nat) : CallS := callC 56 (W56 lf) (callN)
theorem call105_ok (lf : Nat) : CallOk Go.Proofs.Try.prog (call105 lf) := callC_ok (W56_ok lf) (callN_ok)
def k105 : KC := (.seq (.reg [⟨(some 3), none, (.op (.mv (.c (.bool false)))), []⟩]) (.seq (.reg [⟨(some 4), none, (.op (.load1 (.t 1))), []⟩, ⟨(some 5), none, (.op (.mv (.t 0))), []⟩, ⟨(some 6), none, (.call 56 [(.t 4), (.t 5)]), []⟩, ⟨(some 3), none, (.op (.mv (.t 6))), []⟩]) .ret))
noncomputable def F105 (lf : Nat) (t : List UInt8) (x1 : V) (h : List Ob) : Option (V × List Ob) :=
bind1 (er (.load1 (.c x1)) h) fun v =>
castStr v fun x4 =>
bind2 (F56 lf x4 t h) fun v1 h_ =>
castBool v1 fun x6 =>
some ((.bool x6), h_)
theorem F105_eq (lf : Nat) (t : List UInt8) (x1 : V) (h : List Ob) : evCK A105 ⟨call105 lf, cvN, subN⟩ k105 (entryK [(.str t), x1]) h (endF c105.res) = F105 lf t x1 h := by kernel_rfl
theorem F105_ok (lf : Nat) (t : List UInt8) (x1 : V) (h : List Ob) (r_ : V) (h_r : List Ob) (e_ : F105 lf t x1 h = some (r_, h_r)) : CD Go.Proofs.Try.prog 105 [(.str t), x1] h r_ h_r :=
  CD.ofK (A := A105) (σ := ⟨call105 lf, cvN, subN⟩) (c := k105) Go.Proofs.Try.func105 ok105 en105 (show 2 ≤ 7 by decide) (by kernel_rfl) (call105_ok lf) cvN_ok (And.intro True.intro (And.intro True.intro True.intro)) ((F105_eq lf t x1 h).trans e_)
def w105 (f : List UInt8 → V → List Ob → Option (V × List Ob)) (vs : List V) (h : List Ob) : Option (V × List Ob) := castCons vs fun c1 l1 => castStr c1 fun n2 => castCons l1 fun c3 l3 => castNil l3 (f n2 c3 h)
noncomputable def W105 (lf : Nat) : List V → List Ob → Option (V × List Ob) := w105 (F105 lf)
theorem W105_ok (lf : Nat) : ∀ args h v h', W105 lf args h = some (v, h') → CD Go.Proofs.Try.prog 105 args h v h' := by
  intro vs h r h' e0
  simp only [W105, w105] at e0
  obtain ⟨c1, l1, rfl, e1⟩ := castCons_inv e0
  obtain ⟨y0, rfl, e2⟩ := castStr_inv e1
  obtain ⟨c2, l2, rfl, e3⟩ := castCons_inv e2
  obtain ⟨rfl, e4⟩ := castNil_inv e3
  have e := e4
  exact F105_ok lf y0 c2 h r h' e

/-! 120: internal/stringslite.IndexByte -/
def A120 : List (Nat × Sh) := [(0, .str), (1, (.int .u8)), (4, (.int .i64)), (5, .str), (6, (.int .u8)), (7, (.int .i64))]
noncomputable def call120 (lf : Nat) : CallS := callN
theorem call120_ok (lf : Nat) : CallOk Go.Proofs.Try.prog (call120 lf) := callN_ok
def k120 : KC := (.seq (.reg [⟨(some 4), none, (.op (.mv (.c (.int .i64 0)))), []⟩]) (.seq (.reg [⟨(some 5), none, (.op (.mv (.t 0))), []⟩, ⟨(some 6), none, (.op (.mv (.t 1))), []⟩, ⟨(some 7), none, (.op (.idxB (.t 5) (.t 6))), []⟩, ⟨(some 4), none, (.op (.mv (.t 7))), []⟩]) .ret))
noncomputable def F120 (lf : Nat) (s : List UInt8) (c : Int) (h : List Ob) : Option (V × List Ob) :=
bind1 (er (.idxB (.c (.str s)) (.c (.int .u8 c))) h) fun v =>
castInt .i64 v fun x7 =>
some ((.int .i64 x7), h)
theorem F120_eq (lf : Nat) (s : List UInt8) (c : Int) (h : List Ob) : evCK A120 ⟨call120 lf, cvN, subN⟩ k120 (entryK [(.str s), (.int .u8 c)]) h (endF c120.res) = F120 lf s c h := by kernel_rfl
theorem F120_ok (lf : Nat) (s : List UInt8) (c : Int) (h : List Ob) (r_ : V) (h_r : List Ob) (e_ : F120 lf s c h = some (r_, h_r)) : CD Go.Proofs.Try.prog 120 [(.str s), (.int .u8 c)] h r_ h_r :=
  CD.ofK (A := A120) (σ := ⟨call120 lf, cvN, subN⟩) (c := k120) Go.Proofs.Try.func120 ok120 en120 (show 2 ≤ 8 by decide) (by kernel_rfl) (call120_ok lf) cvN_ok (And.intro True.intro (And.intro True.intro True.intro)) ((F120_eq lf s c h).trans e_)
def w120 (f : List UInt8 → Int → List Ob → Option (V × List Ob)) (vs : List V) (h : List Ob) : Option (V × List Ob) := castCons vs fun c1 l1 => castStr c1 fun n2 => castCons l1 fun c3 l3 => castInt .u8 c3 fun n4 => castNil l3 (f n2 n4 h)
noncomputable def W120 (lf : Nat) : List V → List Ob → Option (V × List Ob) := w120 (F120 lf)
theorem W120_ok (lf : Nat) : ∀ args h v h', W120 lf args h = some (v, h') → CD Go.Proofs.Try.prog 120 args h v h' := by
  intro vs h r h' e0
  simp only [W120, w120] at e0
  obtain ⟨c1, l1, rfl, e1⟩ := castCons_inv e0
  obtain ⟨y0, rfl, e2⟩ := castStr_inv e1
  obtain ⟨c2, l2, rfl, e3⟩ := castCons_inv e2
  obtain ⟨y1, rfl, e4⟩ := castInt_inv e3
  obtain ⟨rfl, e5⟩ := castNil_inv e4
  have e := e5
  exact F120_ok lf y0 y1 h r h' e

/-! 106: strings.IndexByte -/
def A106 : List (Nat × Sh) := [(0, .str), (1, (.int .u8)), (4, (.int .i64)), (5, .str), (6, (.int .u8)), (7, (.int .i64))]
noncomputable def call106 (lf : Nat) : CallS := callC 120 (W120 lf) (callN)
theorem call106_ok (lf : Nat) : CallOk Go.Proofs.Try.prog (call106 lf) := callC_ok (W120_ok lf) (callN_ok)
def k106 : KC := (.seq (.reg [⟨(some 4), none, (.op (.mv (.c (.int .i64 0)))), []⟩]) (.seq (.reg [⟨(some 5), none, (.op (.mv (.t 0))), []⟩, ⟨(some 6), none, (.op (.mv (.t 1))), []⟩, ⟨(some 7), none, (.call 120 [(.t 5), (.t 6)]), []⟩, ⟨(some 4), none, (.op (.mv (.t 7))), []⟩]) .ret))
noncomputable def F106 (lf : Nat) (s : List UInt8) (c : Int) (h : List Ob) : Option (V × List Ob) :=
bind2 (F120 lf s c h) fun v h_ =>
castInt .i64 v fun x7 =>
some ((.int .i64 x7), h_)
theorem F106_eq (lf : Nat) (s : List UInt8) (c : Int) (h : List Ob) : evCK A106 ⟨call106 lf, cvN, subN⟩ k106 (entryK [(.str s), (.int .u8 c)]) h (endF c106.res) = F106 lf s c h := by kernel_rfl
theorem F106_ok (lf : Nat) (s : List UInt8) (c : Int) (h : List Ob) (r_ : V) (h_r : List Ob) (e_ : F106 lf s c h = some (r_, h_r)) : CD Go.Proofs.Try.prog 106 [(.str s), (.int .u8 c)] h r_ h_r :=
  CD.ofK (A := A106) (σ := ⟨call106 lf, cvN, subN⟩) (c := k106) Go.Proofs.Try.func106 ok106 en106 (show 2 ≤ 8 by decide) (by kernel_rfl) (call106_ok lf) cvN_ok (And.intro True.intro (And.intro True.intro True.intro)) ((F106_eq lf s c h).trans e_)
def w106 (f : List UInt8 → Int → List Ob → Option (V × List Ob)) (vs : List V) (h : List Ob) : Option (V × List Ob) := castCons vs fun c1 l1 => castStr c1 fun n2 => castCons l1 fun c3 l3 => castInt .u8 c3 fun n4 => castNil l3 (f n2 n4 h)
noncomputable def W106 (lf : Nat) : List V → List Ob → Option (V × List Ob) := w106 (F106 lf)
theorem W106_ok (lf : Nat) : ∀ args h v h', W106 lf args h = some (v, h') → CD Go.Proofs.Try.prog 106 args h v h' := by
  intro vs h r h' e0
  simp only [W106, w106] at e0
  obtain ⟨c1, l1, rfl, e1⟩ := castCons_inv e0
  obtain ⟨y0, rfl, e2⟩ := castStr_inv e1
  obtain ⟨c2, l2, rfl, e3⟩ := castCons_inv e2
  obtain ⟨y1, rfl, e4⟩ := castInt_inv e3
  obtain ⟨rfl, e5⟩ := castNil_inv e4
  have e := e5
  exact F106_ok lf y0 y1 h r h' e

/-! 85: wainscot/lexer.signed -/
def A85 : List (Nat × Sh) := [(0, .str), (2, (.int .i64)), (3, (.int .i64)), (6, (.int .i64)), (7, (.int .i64)), (8, .bool), (9, .str), (10, (.int .u8)), (11, (.int .i64)), (12, .bool)]
noncomputable def cv85 (lf : Nat) : CallVS := cvC 105 (W105 lf) (cvN)
theorem cv85_ok (lf : Nat) : CvOk Go.Proofs.Try.prog (cv85 lf) := cvC_ok (W105_ok lf) (cvN_ok)
noncomputable def call85 (lf : Nat) : CallS := callC 106 (W106 lf) (callC 104 (W104 lf (cv85 lf)) (callN))
theorem call85_ok (lf : Nat) : CallOk Go.Proofs.Try.prog (call85 lf) := callC_ok (W106_ok lf) (callC_ok (W104_ok lf (cv85 lf) (cv85_ok lf)) (callN_ok))
def k85 : KC := (.seq (.reg [⟨(some 1), none, (.op (.box false (.t 0))), []⟩, ⟨(some 2), none, (.op (.mv (.c (.int .i64 0)))), []⟩]) (.seq (.seq (.reg [⟨(some 4), none, (.op (.bslice 1 (.str []) 3 [(0, (.c (.str [60, 62]))), (1, (.c (.str [60, 61]))), (2, (.c (.str [62, 61])))])), []⟩, ⟨(some 5), none, (.op (.mkfn 105 [(.t 1)])), []⟩, ⟨(some 6), none, (.call 104 [(.t 4), (.t 5)]), []⟩, ⟨(some 3), none, (.op (.mv (.t 6))), []⟩]) (.seq (.reg [⟨(some 7), none, (.op (.mv (.t 3))), []⟩, ⟨(some 8), none, (.op (.bin .geq (.t 7) (.c (.int .i64 0)))), []⟩]) (.cond (.t 8) (.seq (.reg [⟨(some 2), none, (.op (.mv (.c (.int .i64 2)))), []⟩]) .ret) .skip))) (.seq (.seq (.reg [⟨(some 9), none, (.op (.load1 (.t 1))), []⟩, ⟨(some 10), none, (.op (.idxS (.t 9) (.c (.int .i64 0)))), []⟩, ⟨(some 11), none, (.call 106 [(.c (.str [40, 41, 44, 46, 59, 42, 43, 45, 61, 60, 62])), (.t 10)]), []⟩, ⟨(some 12), none, (.op (.bin .geq (.t 11) (.c (.int .i64 0)))), []⟩]) (.cond (.t 12) (.seq (.reg [⟨(some 2), none, (.op (.mv (.c (.int .i64 1)))), []⟩]) .ret) .skip)) (.seq (.reg [⟨(some 2), none, (.op (.mv (.c (.int .i64 0)))), []⟩]) .ret))))
noncomputable def F85 (lf : Nat) (s : List UInt8) (h : List Ob) : Option (V × List Ob) :=
bind2 (ev (.box false (.c (.str s))) h) fun s1 h_ =>
bind2 (ev (.bslice 1 (.str []) 3 [(0, (.c (.str [60, 62]))), (1, (.c (.str [60, 61]))), (2, (.c (.str [62, 61])))]) h_) fun x4 h_1 =>
bind2 (F104 lf (cv85 lf) x4 (.fn 105 [s1]) h_1) fun v h_2 =>
castInt .i64 v fun x6 =>
cB (decide (x6 ≥ (0))) (
some ((.int .i64 (2)), h_2)) (
bind1 (er (.load1 (.c s1)) h_2) fun v1 =>
castStr v1 fun x9 =>
bind1 (er (.idxS (.c (.str x9)) (.c (.int .i64 (0)))) h_2) fun v2 =>
castInt .u8 v2 fun x10 =>
bind2 (F106 lf [40, 41, 44, 46, 59, 42, 43, 45, 61, 60, 62] x10 h_2) fun v3 h_3 =>
castInt .i64 v3 fun x11 =>
cB (decide (x11 ≥ (0))) (
some ((.int .i64 (1)), h_3)) (
some ((.int .i64 (0)), h_3)))
theorem F85_eq (lf : Nat) (s : List UInt8) (h : List Ob) : evCK A85 ⟨call85 lf, (cv85 lf), subN⟩ k85 (entryK [(.str s)]) h (endF c85.res) = F85 lf s h := by kernel_rfl
theorem F85_ok (lf : Nat) (s : List UInt8) (h : List Ob) (r_ : V) (h_r : List Ob) (e_ : F85 lf s h = some (r_, h_r)) : CD Go.Proofs.Try.prog 85 [(.str s)] h r_ h_r :=
  CD.ofK (A := A85) (σ := ⟨call85 lf, (cv85 lf), subN⟩) (c := k85) Go.Proofs.Try.func85 ok85 en85 (show 1 ≤ 13 by decide) (by kernel_rfl) (call85_ok lf) (cv85_ok lf) (And.intro True.intro (And.intro (And.intro True.intro (And.intro True.intro (And.intro (And.intro True.intro True.intro) True.intro))) (And.intro (And.intro True.intro (And.intro (And.intro True.intro True.intro) True.intro)) (And.intro True.intro True.intro)))) ((F85_eq lf s h).trans e_)
def w85 (f : List UInt8 → List Ob → Option (V × List Ob)) (vs : List V) (h : List Ob) : Option (V × List Ob) := castCons vs fun c1 l1 => castStr c1 fun n2 => castNil l1 (f n2 h)
noncomputable def W85 (lf : Nat) : List V → List Ob → Option (V × List Ob) := w85 (F85 lf)
theorem W85_ok (lf : Nat) : ∀ args h v h', W85 lf args h = some (v, h') → CD Go.Proofs.Try.prog 85 args h v h' := by
  intro vs h r h' e0
  simp only [W85, w85] at e0
  obtain ⟨c1, l1, rfl, e1⟩ := castCons_inv e0
  obtain ⟨y0, rfl, e2⟩ := castStr_inv e1
  obtain ⟨rfl, e3⟩ := castNil_inv e2
  have e := e3
  exact F85_ok lf y0 h r h' e

/-! 57: (*wainscot/lexer.scanner).word -/
def A57 : List (Nat × Sh) := [(1, (.int .i32)), (2, .str), (6, (.int .i64)), (7, (.int .i64)), (8, (.int .i64)), (9, (.int .i64)), (10, .bool), (11, (.int .i64)), (12, .bool), (13, (.int .i32)), (14, .bool), (16, .str), (17, (.int .i64)), (18, .bool), (19, (.int .i32)), (20, .bool), (21, .str), (22, (.int .i64)), (24, .str), (25, (.int .i64)), (26, .str), (27, (.agg [(.int .i64), .str, (.int .i64)])), (28, .str), (29, (.int .i64)), (30, .str), (31, .bool), (33, (.int .i64)), (34, .bool), (35, (.int .i32)), (36, .bool), (37, .str), (38, (.int .i64)), (39, (.tup [(.int .i64), .bool])), (40, .str), (41, (.int .i64)), (42, .str), (43, (.tup [(.int .i64), .bool])), (44, (.int .i64)), (45, .bool), (47, .str), (48, (.int .i64)), (49, .str), (50, (.int .i64)), (51, (.agg [(.int .i64), .str, (.int .i64)])), (52, .bool), (54, (.int .i64)), (55, .str), (56, (.int .i64)), (58, .str), (59, (.int .i64)), (60, .str), (61, (.agg [(.int .i64), .str, (.int .i64)])), (62, (.int .i64)), (63, .bool), (65, (.int .i64)), (66, (.int .i64))]
noncomputable def call57 (lf : Nat) : CallS := callC 85 (W85 lf) (callC 84 (W84 lf) (callC 83 (W83 lf) (callC 82 (W82 lf) (callC 81 (W81 lf) (callC 80 (W80 lf) (callC 58 (W58 lf) (callC 28 (W28 lf) (callN))))))))
theorem call57_ok (lf : Nat) : CallOk Go.Proofs.Try.prog (call57 lf) := callC_ok (W85_ok lf) (callC_ok (W84_ok lf) (callC_ok (W83_ok lf) (callC_ok (W82_ok lf) (callC_ok (W81_ok lf) (callC_ok (W80_ok lf) (callC_ok (W58_ok lf) (callC_ok (W28_ok lf) (callN_ok))))))))
def k57 : KC := (.seq (.reg [⟨(some 6), none, (.op (.mv (.c (.int .i64 0)))), []⟩]) (.seq (.block 0 (.seq (.reg [⟨(some 13), none, (.op (.mv (.t 1))), []⟩, ⟨(some 14), none, (.op (.bin .eql (.t 13) (.c (.int .i32 39)))), []⟩, ⟨(some 12), none, (.op (.mv (.t 14))), []⟩]) (.cond (.t 12) (.seq (.reg [⟨(some 15), none, (.op (.mv (.t 0))), []⟩, ⟨(some 16), none, (.op (.mv (.t 2))), []⟩, ⟨(some 17), none, (.call 80 [(.t 15), (.t 16)]), []⟩, ⟨(some 6), none, (.op (.mv (.t 17))), []⟩]) .ret) (.seq (.reg [⟨(some 19), none, (.op (.mv (.t 1))), []⟩, ⟨(some 20), none, (.call 28 [(.t 19)]), []⟩, ⟨(some 18), none, (.op (.mv (.t 20))), []⟩]) (.cond (.t 18) (.seq (.reg [⟨(some 21), none, (.op (.mv (.t 2))), []⟩, ⟨(some 22), none, (.call 81 [(.t 21)]), []⟩, ⟨(some 7), none, (.op (.mv (.t 22))), []⟩]) (.seq (.reg [⟨(some 23), none, (.op (.mv (.t 0))), []⟩, ⟨(some 24), none, (.op (.mv (.t 2))), []⟩, ⟨(some 25), none, (.op (.mv (.t 7))), []⟩, ⟨(some 26), none, (.op (.slcS (.t 24) none (some (.t 25)))), []⟩, ⟨(some 27), none, (.op (.build [(.int .i64 0), (.str []), (.int .i64 0)] [(0, (1, (.c (.int .i64 1)))), (1, (1, (.t 26)))])), []⟩, ⟨(some 28), none, (.op (.mv (.t 2))), []⟩, ⟨(some 29), none, (.op (.mv (.t 7))), []⟩, ⟨(some 30), none, (.op (.slcS (.t 28) none (some (.t 29)))), []⟩, ⟨(some 31), none, (.call 58 [(.t 30)]), []⟩, ⟨(some 32), none, (.call 82 [(.t 23), (.t 27), (.t 31)]), []⟩]) (.seq (.reg [⟨(some 33), none, (.op (.mv (.t 7))), []⟩, ⟨(some 6), none, (.op (.mv (.t 33))), []⟩]) .ret))) (.seq (.reg [⟨(some 35), none, (.op (.mv (.t 1))), []⟩, ⟨(some 36), none, (.call 83 [(.t 35)]), []⟩, ⟨(some 34), none, (.op (.mv (.t 36))), []⟩]) (.cond (.t 34) (.seq (.reg [⟨(some 37), none, (.op (.mv (.t 2))), []⟩, ⟨(some 38), none, (.call 81 [(.t 37)]), []⟩, ⟨(some 8), none, (.op (.mv (.t 38))), []⟩]) (.seq (.reg [⟨(some 40), none, (.op (.mv (.t 2))), []⟩, ⟨(some 41), none, (.op (.mv (.t 8))), []⟩, ⟨(some 42), none, (.op (.slcS (.t 40) none (some (.t 41)))), []⟩, ⟨(some 43), none, (.call 84 [(.t 42)]), []⟩, ⟨(some 39), none, (.op (.mv (.t 43))), []⟩, ⟨(some 44), none, (.op (.ext 0 (.t 39))), []⟩, ⟨(some 45), none, (.op (.ext 1 (.t 39))), []⟩, ⟨(some 9), none, (.op (.mv (.t 44))), []⟩, ⟨(some 10), none, (.op (.mv (.t 45))), []⟩]) (.seq (.reg [⟨(some 46), none, (.op (.mv (.t 0))), []⟩, ⟨(some 47), none, (.op (.mv (.t 2))), []⟩, ⟨(some 48), none, (.op (.mv (.t 8))), []⟩, ⟨(some 49), none, (.op (.slcS (.t 47) none (some (.t 48)))), []⟩, ⟨(some 50), none, (.op (.mv (.t 9))), []⟩, ⟨(some 51), none, (.op (.build [(.int .i64 0), (.str []), (.int .i64 0)] [(0, (1, (.c (.int .i64 2)))), (1, (1, (.t 49))), (2, (1, (.t 50)))])), []⟩, ⟨(some 52), none, (.op (.mv (.t 10))), []⟩, ⟨(some 53), none, (.call 82 [(.t 46), (.t 51), (.t 52)]), []⟩]) (.seq (.reg [⟨(some 54), none, (.op (.mv (.t 8))), []⟩, ⟨(some 6), none, (.op (.mv (.t 54))), []⟩]) .ret)))) .skip))))))) (.seq (.reg [⟨(some 55), none, (.op (.mv (.t 2))), []⟩, ⟨(some 56), none, (.call 85 [(.t 55)]), []⟩, ⟨(some 11), none, (.op (.mv (.t 56))), []⟩]) (.seq (.reg [⟨(some 57), none, (.op (.mv (.t 0))), []⟩, ⟨(some 58), none, (.op (.mv (.t 2))), []⟩, ⟨(some 59), none, (.op (.mv (.t 11))), []⟩, ⟨(some 60), none, (.op (.slcS (.t 58) none (some (.t 59)))), []⟩, ⟨(some 61), none, (.op (.build [(.int .i64 0), (.str []), (.int .i64 0)] [(0, (1, (.c (.int .i64 4)))), (1, (1, (.t 60)))])), []⟩, ⟨(some 62), none, (.op (.mv (.t 11))), []⟩, ⟨(some 63), none, (.op (.bin .gtr (.t 62) (.c (.int .i64 0)))), []⟩, ⟨(some 64), none, (.call 82 [(.t 57), (.t 61), (.t 63)]), []⟩]) (.seq (.reg [⟨(some 65), none, (.op (.mv (.t 11))), []⟩, ⟨(some 66), none, (.op (.minmax true (.t 65) (.c (.int .i64 1)))), []⟩, ⟨(some 6), none, (.op (.mv (.t 66))), []⟩]) .ret)))))
noncomputable def F57 (lf : Nat) (x : V) (r : Int) (s : List UInt8) (h : List Ob) : Option (V × List Ob) :=
cB (r == (39)) (
bind2 (F80 lf x s h) fun v h_ =>
castInt .i64 v fun x17 =>
some ((.int .i64 x17), h_)) (
bind2 (F28 lf r h) fun v h_ =>
castBool v fun x20 =>
cB x20 (
bind2 (F81 lf s h_) fun v1 h_1 =>
castInt .i64 v1 fun x22 =>
bind1 (er (.slcS (.c (.str s)) none (some (.c (.int .i64 x22)))) h_1) fun v2 =>
castStr v2 fun x26 =>
bind1 (er (.build [(.int .i64 0), (.str []), (.int .i64 0)] [(0, (1, (.c (.int .i64 (1))))), (1, (1, (.c (.str x26))))]) h_1) fun v3 =>
castAgg v3 fun l =>
castCons l fun c l1 =>
castInt .i64 c fun x27_0 =>
castCons l1 fun c1 l2 =>
castStr c1 fun x27_1 =>
castCons l2 fun c2 l3 =>
castInt .i64 c2 fun x27_2 =>
castNil l3 (
bind1 (er (.slcS (.c (.str s)) none (some (.c (.int .i64 x22)))) h_1) fun v4 =>
castStr v4 fun x30 =>
bind2 (F58 lf x30 h_1) fun v5 h_2 =>
castBool v5 fun x31 =>
bind2 (F82 lf x x27_0 x27_1 x27_2 x31 h_2) fun x32 h_3 =>
some ((.int .i64 x22), h_3))) (
bind2 (F83 lf r h_) fun v1 h_1 =>
castBool v1 fun x36 =>
cB x36 (
bind2 (F81 lf s h_1) fun v2 h_2 =>
castInt .i64 v2 fun x38 =>
bind1 (er (.slcS (.c (.str s)) none (some (.c (.int .i64 x38)))) h_2) fun v3 =>
castStr v3 fun x42 =>
bind2 (F84 lf x42 h_2) fun v4 h_3 =>
castTup v4 fun l =>
castCons l fun c l1 =>
castInt .i64 c fun x43_0 =>
castCons l1 fun c1 l2 =>
castBool c1 fun x43_1 =>
castNil l2 (
bind1 (er (.slcS (.c (.str s)) none (some (.c (.int .i64 x38)))) h_3) fun v5 =>
castStr v5 fun x49 =>
bind1 (er (.build [(.int .i64 0), (.str []), (.int .i64 0)] [(0, (1, (.c (.int .i64 (2))))), (1, (1, (.c (.str x49)))), (2, (1, (.c (.int .i64 x43_0))))]) h_3) fun v6 =>
castAgg v6 fun l3 =>
castCons l3 fun c2 l4 =>
castInt .i64 c2 fun x51_0 =>
castCons l4 fun c3 l5 =>
castStr c3 fun x51_1 =>
castCons l5 fun c4 l6 =>
castInt .i64 c4 fun x51_2 =>
castNil l6 (
bind2 (F82 lf x x51_0 x51_1 x51_2 x43_1 h_3) fun x53 h_4 =>
some ((.int .i64 x38), h_4)))) (
bind2 (F85 lf s h_1) fun v2 h_2 =>
castInt .i64 v2 fun x56 =>
bind1 (er (.slcS (.c (.str s)) none (some (.c (.int .i64 x56)))) h_2) fun v3 =>
castStr v3 fun x60 =>
bind1 (er (.build [(.int .i64 0), (.str []), (.int .i64 0)] [(0, (1, (.c (.int .i64 (4))))), (1, (1, (.c (.str x60))))]) h_2) fun v4 =>
castAgg v4 fun l =>
castCons l fun c l1 =>
castInt .i64 c fun x61_0 =>
castCons l1 fun c1 l2 =>
castStr c1 fun x61_1 =>
castCons l2 fun c2 l3 =>
castInt .i64 c2 fun x61_2 =>
castNil l3 (
bind2 (F82 lf x x61_0 x61_1 x61_2 (decide (x56 > (0))) h_2) fun x64 h_3 =>
some ((.int .i64 (if (1) > x56 then (1) else x56)), h_3)))))
theorem F57_eq (lf : Nat) (x : V) (r : Int) (s : List UInt8) (h : List Ob) : evCK A57 ⟨call57 lf, cvN, subN⟩ k57 (entryK [x, (.int .i32 r), (.str s)]) h (endF c57.res) = F57 lf x r s h := by kernel_rfl
theorem F57_ok (lf : Nat) (x : V) (r : Int) (s : List UInt8) (h : List Ob) (r_ : V) (h_r : List Ob) (e_ : F57 lf x r s h = some (r_, h_r)) : CD Go.Proofs.Try.prog 57 [x, (.int .i32 r), (.str s)] h r_ h_r :=
  CD.ofK (A := A57) (σ := ⟨call57 lf, cvN, subN⟩) (c := k57) Go.Proofs.Try.func57 ok57 en57 (show 3 ≤ 67 by decide) (by kernel_rfl) (call57_ok lf) cvN_ok (And.intro True.intro (And.intro (And.intro True.intro (And.intro (And.intro True.intro True.intro) (And.intro True.intro (And.intro (And.intro True.intro (And.intro True.intro (And.intro True.intro True.intro))) (And.intro True.intro (And.intro (And.intro True.intro (And.intro True.intro (And.intro True.intro (And.intro True.intro True.intro)))) True.intro)))))) (And.intro True.intro (And.intro True.intro (And.intro True.intro True.intro))))) ((F57_eq lf x r s h).trans e_)
def w57 (f : V → Int → List UInt8 → List Ob → Option (V × List Ob)) (vs : List V) (h : List Ob) : Option (V × List Ob) := castCons vs fun c1 l1 => castCons l1 fun c2 l2 => castInt .i32 c2 fun n3 => castCons l2 fun c4 l4 => castStr c4 fun n5 => castNil l4 (f c1 n3 n5 h)
noncomputable def W57 (lf : Nat) : List V → List Ob → Option (V × List Ob) := w57 (F57 lf)
theorem W57_ok (lf : Nat) : ∀ args h v h', W57 lf args h = some (v, h') → CD Go.Proofs.Try.prog 57 args h v h' := by
  intro vs h r h' e0
  simp only [W57, w57] at e0
  obtain ⟨c1, l1, rfl, e1⟩ := castCons_inv e0
  obtain ⟨c2, l2, rfl, e2⟩ := castCons_inv e1
  obtain ⟨y1, rfl, e3⟩ := castInt_inv e2
  obtain ⟨c3, l3, rfl, e4⟩ := castCons_inv e3
  obtain ⟨y2, rfl, e5⟩ := castStr_inv e4
  obtain ⟨rfl, e6⟩ := castNil_inv e5
  have e := e6
  exact F57_ok lf c1 y1 y2 h r h' e

/-! 21: wainscot/lexer.Words -/
def A21 : List (Nat × Sh) := [(0, .str), (3, (.int .i64)), (5, (.int .i64)), (6, .bool), (7, (.int .i64)), (8, (.int .i32)), (9, .str), (10, (.int .i64)), (11, .bool), (12, .str), (13, (.agg [.str, .any, (.int .i64)])), (15, .str), (18, .bool), (19, (.int .i64)), (20, (.int .i32)), (21, (.int .i64)), (23, (.int .i32)), (24, .str), (25, (.int .i64)), (26, .str), (27, (.int .i64)), (28, (.int .i64)), (29, .bool), (33, (.int .i64)), (34, .bool), (38, (.int .i64)), (39, .bool), (40, .bool), (41, (.int .i32)), (42, .bool), (43, .bool), (44, (.int .i64)), (45, (.int .i64)), (46, .bool), (47, .bool), (48, (.int .i32)), (49, .bool), (50, .bool), (51, (.int .i32)), (52, .bool), (53, .bool), (54, .bool), (55, (.int .i32)), (56, .bool), (57, .bool), (58, .bool), (59, .str), (60, (.int .i64)), (61, .str), (62, .bool), (63, .bool), (64, (.int .i32)), (65, .bool), (66, .bool), (67, .str), (68, (.int .i64)), (69, .str), (70, .bool), (71, .bool), (72, .bool), (76, .bool), (77, (.int .i64)), (78, (.int .i64)), (82, (.int .i64)), (83, .bool), (87, (.int .i64))]
noncomputable def call21 (lf : Nat) : CallS := callC 57 (W57 lf) (callC 56 (W56 lf) (callN))
theorem call21_ok (lf : Nat) : CallOk Go.Proofs.Try.prog (call21 lf) := callC_ok (W57_ok lf) (callC_ok (W56_ok lf) (callN_ok))
def o21_0 : Outs := [(.normal, [63], [.bool])]
def k21_0 : KC := (.reg [⟨(some 64), none, (.op (.mv (.t 8))), []⟩, ⟨(some 65), none, (.op (.bin .eql (.t 64) (.c (.int .i32 65533)))), []⟩, ⟨(some 66), none, (.op (.mv (.t 65))), []⟩, ⟨(some 67), (some (66, true)), (.op (.mv (.t 0))), []⟩, ⟨(some 68), (some (66, true)), (.op (.mv (.t 7))), []⟩, ⟨(some 69), (some (66, true)), (.op (.slcS (.t 67) (some (.t 68)) none)), []⟩, ⟨(some 70), (some (66, true)), (.call 56 [(.t 69), (.c (.str [239, 191, 189]))]), []⟩, ⟨(some 71), (some (66, true)), (.op (.un .not (.t 70))), []⟩, ⟨(some 72), none, (.op (.pick (.t 66) (.t 71) (.c (.bool false)))), []⟩, ⟨(some 63), none, (.op (.mv (.t 72))), []⟩])
def w21_0 (f : List UInt8 → Int → Int → List Ob → SubR) (vs : List V) (h : List Ob) : SubR := castCons vs fun c1 l1 => castStr c1 fun n2 => castCons l1 fun c3 l3 => castInt .i64 c3 fun n4 => castCons l3 fun c5 l5 => castInt .i32 c5 fun n6 => castNil l5 (f n2 n4 n6 h)
noncomputable def S21_0 (lf : Nat) (s : List UInt8) (i : Int) (r : Int) (h : List Ob) : SubR :=
cB (r == (65533)) (
bind1 (er (.slcS (.c (.str s)) (some (.c (.int .i64 i))) none) h) fun v =>
castStr v fun x69 =>
bind2 (F56 lf x69 [239, 191, 189] h) fun v1 h_ =>
castBool v1 fun x70 =>
some (.normal, [(.bool (!x70))], h_)) (
some (.normal, [(.bool false)], h))
theorem S21_0_eq (lf : Nat) (s : List UInt8) (i : Int) (r : Int) (h : List Ob) : evCK A21 ⟨call21 lf, cvN, subN⟩ k21_0 [(0, (.str s)), (7, (.int .i64 i)), (8, (.int .i32 r))] h (endK o21_0) = S21_0 lf s i r h := by kernel_rfl
theorem S21_0_ok (lf : Nat) : SubOk Go.Proofs.Try.prog k21_0.er [0, 7, 8] o21_0 (w21_0 (S21_0 lf)) := by
  refine SubOk.of (A := A21) (σ := ⟨call21 lf, cvN, subN⟩) (c := k21_0) (call21_ok lf) cvN_ok True.intro ?_
  intro vs h r e0
  simp only [w21_0] at e0
  obtain ⟨c1, l1, rfl, e1⟩ := castCons_inv e0
  obtain ⟨y0, rfl, e2⟩ := castStr_inv e1
  obtain ⟨c2, l2, rfl, e3⟩ := castCons_inv e2
  obtain ⟨y1, rfl, e4⟩ := castInt_inv e3
  obtain ⟨c3, l3, rfl, e5⟩ := castCons_inv e4
  obtain ⟨y2, rfl, e6⟩ := castInt_inv e5
  obtain ⟨rfl, e7⟩ := castNil_inv e6
  have e := e7
  exact (S21_0_eq lf y0 y1 y2 h).trans e
def o21_1 : Outs := [(.normal, [47], [.bool])]
def k21_1 : KC := (.reg [⟨(some 48), none, (.op (.mv (.t 8))), []⟩, ⟨(some 49), none, (.op (.bin .eql (.t 48) (.c (.int .i32 32)))), []⟩, ⟨(some 50), none, (.op (.mv (.t 49))), []⟩, ⟨(some 51), (some (50, false)), (.op (.mv (.t 8))), []⟩, ⟨(some 52), (some (50, false)), (.op (.bin .eql (.t 51) (.c (.int .i32 9)))), []⟩, ⟨(some 53), none, (.op (.pick (.t 50) (.c (.bool true)) (.t 52))), []⟩, ⟨(some 54), none, (.op (.mv (.t 53))), []⟩, ⟨(some 55), (some (54, false)), (.op (.mv (.t 8))), []⟩, ⟨(some 56), (some (54, false)), (.op (.bin .eql (.t 55) (.c (.int .i32 10)))), []⟩, ⟨(some 57), none, (.op (.pick (.t 54) (.c (.bool true)) (.t 56))), []⟩, ⟨(some 47), none, (.op (.mv (.t 57))), []⟩])
def w21_1 (f : Int → List Ob → SubR) (vs : List V) (h : List Ob) : SubR := castCons vs fun c1 l1 => castInt .i32 c1 fun n2 => castNil l1 (f n2 h)
noncomputable def S21_1 (lf : Nat) (r : Int) (h : List Ob) : SubR :=
cB (r == (32)) (
some (.normal, [(.bool true)], h)) (
cB (r == (9)) (
some (.normal, [(.bool true)], h)) (
some (.normal, [(.bool (r == (10)))], h)))
theorem S21_1_eq (lf : Nat) (r : Int) (h : List Ob) : evCK A21 ⟨call21 lf, cvN, subN⟩ k21_1 [(8, (.int .i32 r))] h (endK o21_1) = S21_1 lf r h := by kernel_rfl
theorem S21_1_ok (lf : Nat) : SubOk Go.Proofs.Try.prog k21_1.er [8] o21_1 (w21_1 (S21_1 lf)) := by
  refine SubOk.of (A := A21) (σ := ⟨call21 lf, cvN, subN⟩) (c := k21_1) (call21_ok lf) cvN_ok True.intro ?_
  intro vs h r e0
  simp only [w21_1] at e0
  obtain ⟨c1, l1, rfl, e1⟩ := castCons_inv e0
  obtain ⟨y0, rfl, e2⟩ := castInt_inv e1
  obtain ⟨rfl, e3⟩ := castNil_inv e2
  have e := e3
  exact (S21_1_eq lf y0 h).trans e
def o21_2 : Outs := [(.ret, [2, 3], [.any, (.int .i64)]), (.normal, [5, 6], [(.int .i64), .bool])]
def k21_2 : KC := (.block 2 (.seq (.reg [⟨(some 30), none, (.op (.mv (.t 4))), []⟩, ⟨(some 31), none, (.op (.nilck (.t 30))), []⟩, ⟨(some 32), none, (.op (.faddr 2 (.t 31))), []⟩, ⟨(some 33), none, (.op (.load1 (.t 32))), []⟩, ⟨(some 34), none, (.op (.bin .neq (.t 33) (.c (.int .i64 0)))), []⟩, ⟨(some 29), none, (.op (.mv (.t 34))), []⟩]) (.cond (.t 29) (.seq (.reg [⟨(some 35), none, (.op (.mv (.t 4))), []⟩, ⟨(some 36), none, (.op (.nilck (.t 35))), []⟩, ⟨(some 37), none, (.op (.faddr 2 (.t 36))), []⟩, ⟨(some 38), none, (.op (.load1 (.t 37))), []⟩, ⟨(some 2), none, (.op (.mv (.c .nils))), []⟩, ⟨(some 3), none, (.op (.mv (.t 38))), []⟩]) .ret) (.seq (.reg [⟨(some 40), none, (.op (.mv (.t 6))), []⟩, ⟨(some 39), none, (.op (.mv (.t 40))), []⟩]) (.cond (.t 39) (.reg [⟨(some 41), none, (.op (.mv (.t 8))), []⟩, ⟨(some 42), none, (.op (.bin .neq (.t 41) (.c (.int .i32 10)))), []⟩, ⟨(some 6), none, (.op (.mv (.t 42))), []⟩]) (.seq (.reg [⟨(some 44), none, (.op (.mv (.t 7))), []⟩, ⟨(some 45), none, (.op (.mv (.t 5))), []⟩, ⟨(some 46), none, (.op (.bin .lss (.t 44) (.t 45))), []⟩, ⟨(some 43), none, (.op (.mv (.t 46))), []⟩]) (.cond (.t 43) .skip (.seq (.sub 1 k21_1.er [8] o21_1) (.cond (.t 47) .skip (.seq (.reg [⟨(some 59), none, (.op (.mv (.t 0))), []⟩, ⟨(some 60), none, (.op (.mv (.t 7))), []⟩, ⟨(some 61), none, (.op (.slcS (.t 59) (some (.t 60)) none)), []⟩, ⟨(some 62), none, (.call 56 [(.t 61), (.c (.str [45, 45]))]), []⟩, ⟨(some 58), none, (.op (.mv (.t 62))), []⟩]) (.cond (.t 58) (.reg [⟨(some 6), none, (.op (.mv (.c (.bool true)))), []⟩]) (.seq (.sub 0 k21_0.er [0, 7, 8] o21_0) (.cond (.t 63) (.reg [⟨(some 73), none, (.op (.mv (.t 4))), []⟩, ⟨(some 74), none, (.op (.nilck (.t 73))), []⟩, ⟨(some 75), none, (.op (.faddr 2 (.t 74))), []⟩, ⟨none, none, (.op (.store 1 (.t 75) (.c (.int .i64 3)))), []⟩]) (.reg [⟨(some 21), none, (.op (.mv (.t 7))), []⟩, ⟨(some 22), none, (.op (.mv (.t 4))), []⟩, ⟨(some 23), none, (.op (.mv (.t 8))), []⟩, ⟨(some 24), none, (.op (.mv (.t 0))), []⟩, ⟨(some 25), none, (.op (.mv (.t 7))), []⟩, ⟨(some 26), none, (.op (.slcS (.t 24) (some (.t 25)) none)), []⟩, ⟨(some 27), none, (.call 57 [(.t 22), (.t 23), (.t 26)]), []⟩, ⟨(some 28), none, (.op (.bin .add (.t 21) (.t 27))), []⟩, ⟨(some 5), none, (.op (.mv (.t 28))), []⟩]))))))))))))))
def w21_2 (f : List UInt8 → V → Int → Bool → Int → Int → List Ob → SubR) (vs : List V) (h : List Ob) : SubR := castCons vs fun c1 l1 => castStr c1 fun n2 => castCons l1 fun c3 l3 => castCons l3 fun c4 l4 => castInt .i64 c4 fun n5 => castCons l4 fun c6 l6 => castBool c6 fun n7 => castCons l6 fun c8 l8 => castInt .i64 c8 fun n9 => castCons l8 fun c10 l10 => castInt .i32 c10 fun n11 => castNil l10 (f n2 c3 n5 n7 n9 n11 h)
noncomputable def S21_2 (lf : Nat) (s : List UInt8) (x : V) (behind : Int) (note : Bool) (i : Int) (r : Int) (h : List Ob) : SubR :=
bind1 (er (.nilck (.c x)) h) fun x31 =>
bind1 (er (.faddr 2 (.c x31)) h) fun x32 =>
bind1 (er (.load1 (.c x32)) h) fun v =>
castInt .i64 v fun x33 =>
cB (x33 != (0)) (
bind1 (er (.nilck (.c x)) h) fun x36 =>
bind1 (er (.faddr 2 (.c x36)) h) fun x37 =>
bind1 (er (.load1 (.c x37)) h) fun v1 =>
castInt .i64 v1 fun x38 =>
some (.ret, [V.nils, (.int .i64 x38)], h)) (
cB note (
some (.normal, [(.int .i64 behind), (.bool (r != (10)))], h)) (
cB (decide (i < behind)) (
some (.normal, [(.int .i64 behind), (.bool note)], h)) (
bind3 (S21_1 lf r h) fun ex vs h_ =>
cB (decide (ex = .normal)) (
castCons vs fun c l =>
castBool c fun x47 =>
castNil l (
cB x47 (
some (.normal, [(.int .i64 behind), (.bool note)], h_)) (
bind1 (er (.slcS (.c (.str s)) (some (.c (.int .i64 i))) none) h_) fun v1 =>
castStr v1 fun x61 =>
bind2 (F56 lf x61 [45, 45] h_) fun v2 h_1 =>
castBool v2 fun x62 =>
cB x62 (
some (.normal, [(.int .i64 behind), (.bool true)], h_1)) (
bind3 (S21_0 lf s i r h_1) fun ex1 vs1 h_2 =>
cB (decide (ex1 = .normal)) (
castCons vs1 fun c1 l1 =>
castBool c1 fun x63 =>
castNil l1 (
cB x63 (
bind1 (er (.nilck (.c x)) h_2) fun x74 =>
bind1 (er (.faddr 2 (.c x74)) h_2) fun x75 =>
bind2 (ev (.store 1 (.c x75) (.c (.int .i64 (3)))) h_2) fun u h_3 =>
some (.normal, [(.int .i64 behind), (.bool note)], h_3)) (
bind1 (er (.slcS (.c (.str s)) (some (.c (.int .i64 i))) none) h_2) fun v3 =>
castStr v3 fun x26 =>
bind2 (F57 lf x r x26 h_2) fun v4 h_3 =>
castInt .i64 v4 fun x27 =>
some (.normal, [(.int .i64 (IntKind.i64.wrap (i + x27))), (.bool note)], h_3)))) (
none))))) (
none))))
theorem S21_2_eq (lf : Nat) (s : List UInt8) (x : V) (behind : Int) (note : Bool) (i : Int) (r : Int) (h : List Ob) : evCK A21 ⟨call21 lf, cvN, subC 0 (w21_0 (S21_0 lf)) (subC 1 (w21_1 (S21_1 lf)) (subN))⟩ k21_2 [(0, (.str s)), (4, x), (5, (.int .i64 behind)), (6, (.bool note)), (7, (.int .i64 i)), (8, (.int .i32 r))] h (endK o21_2) = S21_2 lf s x behind note i r h := by kernel_rfl
theorem S21_2_ok (lf : Nat) : SubOk Go.Proofs.Try.prog k21_2.er [0, 4, 5, 6, 7, 8] o21_2 (w21_2 (S21_2 lf)) := by
  refine SubOk.of (A := A21) (σ := ⟨call21 lf, cvN, subC 0 (w21_0 (S21_0 lf)) (subC 1 (w21_1 (S21_1 lf)) (subN))⟩) (c := k21_2) (call21_ok lf) cvN_ok (And.intro True.intro (And.intro (And.intro True.intro True.intro) (And.intro True.intro (And.intro True.intro (And.intro True.intro (And.intro True.intro (And.intro (S21_1_ok lf) (And.intro True.intro (And.intro True.intro (And.intro True.intro (And.intro (S21_0_ok lf) (And.intro True.intro True.intro)))))))))))) ?_
  intro vs h r e0
  simp only [w21_2] at e0
  obtain ⟨c1, l1, rfl, e1⟩ := castCons_inv e0
  obtain ⟨y0, rfl, e2⟩ := castStr_inv e1
  obtain ⟨c2, l2, rfl, e3⟩ := castCons_inv e2
  obtain ⟨c3, l3, rfl, e4⟩ := castCons_inv e3
  obtain ⟨y2, rfl, e5⟩ := castInt_inv e4
  obtain ⟨c4, l4, rfl, e6⟩ := castCons_inv e5
  obtain ⟨y3, rfl, e7⟩ := castBool_inv e6
  obtain ⟨c5, l5, rfl, e8⟩ := castCons_inv e7
  obtain ⟨y4, rfl, e9⟩ := castInt_inv e8
  obtain ⟨c6, l6, rfl, e10⟩ := castCons_inv e9
  obtain ⟨y5, rfl, e11⟩ := castInt_inv e10
  obtain ⟨rfl, e12⟩ := castNil_inv e11
  have e := e12
  exact (S21_2_eq lf y0 c2 y2 y3 y4 y5 h).trans e
def o21_3 : Outs := [((.exit 0), [], []), (.ret, [2, 3], [.any, (.int .i64)])]
def k21_3 : KC := (.seq (.reg [⟨(some 17), none, (.op (.nextS (.t 16))), []⟩, ⟨(some 18), none, (.op (.ext 0 (.t 17))), []⟩]) (.seq (.cond (.t 18) .skip (.exit 0)) (.block 1 (.seq (.reg [⟨(some 19), none, (.op (.ext 1 (.t 17))), []⟩, ⟨(some 20), none, (.op (.ext 2 (.t 17))), []⟩, ⟨(some 7), none, (.op (.mv (.t 19))), []⟩, ⟨(some 8), none, (.op (.mv (.t 20))), []⟩]) (.seq (.sub 2 k21_2.er [0, 4, 5, 6, 7, 8] o21_2) (.seq (.reg [⟨(some 76), none, (.op (.mv (.t 6))), []⟩]) (.cond (.t 76) (.reg [⟨(some 77), none, (.op (.mv (.t 7))), []⟩, ⟨(some 78), none, (.op (.bin .add (.t 77) (.c (.int .i64 1)))), []⟩, ⟨(some 5), none, (.op (.mv (.t 78))), []⟩]) .skip)))))))
def w21_3 (f : List UInt8 → V → Int → Bool → V → List Ob → SubR) (vs : List V) (h : List Ob) : SubR := castCons vs fun c1 l1 => castStr c1 fun n2 => castCons l1 fun c3 l3 => castCons l3 fun c4 l4 => castInt .i64 c4 fun n5 => castCons l4 fun c6 l6 => castBool c6 fun n7 => castCons l6 fun c8 l8 => castNil l8 (f n2 c3 n5 n7 c8 h)
noncomputable def B21_3 (lf : Nat) (self : List UInt8 → V → Int → Bool → V → List Ob → SubR) (s : List UInt8) (x : V) (behind : Int) (note : Bool) (x16 : V) (h : List Ob) : SubR :=
bind2 (ev (.nextS (.c x16)) h) fun x17 h_ =>
bind1 (er (.ext 0 (.c x17)) h_) fun v =>
castBool v fun x18 =>
cB x18 (
bind1 (er (.ext 1 (.c x17)) h_) fun v1 =>
castInt .i64 v1 fun x19 =>
bind1 (er (.ext 2 (.c x17)) h_) fun v2 =>
castInt .i32 v2 fun x20 =>
bind3 (S21_2 lf s x behind note x19 x20 h_) fun ex vs h_1 =>
cB (decide (ex = .ret)) (
castCons vs fun x2 l =>
castCons l fun c l1 =>
castInt .i64 c fun x3 =>
castNil l1 (
some (.ret, [x2, (.int .i64 x3)], h_1))) (
cB (decide (ex = .normal)) (
castCons vs fun c l =>
castInt .i64 c fun behind1 =>
castCons l fun c1 l1 =>
castBool c1 fun note1 =>
castNil l1 (
cB note1 (
self s x (IntKind.i64.wrap (x19 + (1))) note1 x16 h_1) (
self s x behind1 note1 x16 h_1))) (
none))) (
some ((.exit 0), [], h_))
noncomputable def L21_3 (lf : Nat) : Nat → List UInt8 → V → Int → Bool → V → List Ob → SubR
  | 0 => fun _ _ _ _ _ _ => none
  | n + 1 => B21_3 lf (L21_3 lf n)
theorem B21_3_eq (lf : Nat) (self : List UInt8 → V → Int → Bool → V → List Ob → SubR) (s : List UInt8) (x : V) (behind : Int) (note : Bool) (x16 : V) (h : List Ob) : evCK A21 ⟨call21 lf, cvN, subC 2 (w21_2 (S21_2 lf)) (subN)⟩ k21_3 [(0, (.str s)), (4, x), (5, (.int .i64 behind)), (6, (.bool note)), (16, x16)] h (endL [0, 4, 5, 6, 16] [.str, .any, (.int .i64), .bool, .any] o21_3 (w21_3 self)) = B21_3 lf self s x behind note x16 h := by kernel_rfl
theorem L21_3_ok (lf : Nat) : ∀ n, SubOk Go.Proofs.Try.prog (.loop k21_3.er) [0, 4, 5, 6, 16] o21_3 (w21_3 (L21_3 lf n)) := by
  refine SubOk.loop (A := A21) (σ := ⟨call21 lf, cvN, subC 2 (w21_2 (S21_2 lf)) (subN)⟩) (c := k21_3) (shs := [.str, .any, (.int .i64), .bool, .any]) (G := fun n => w21_3 (L21_3 lf n)) (call21_ok lf) cvN_ok (And.intro True.intro (And.intro (And.intro True.intro True.intro) (And.intro True.intro (And.intro (S21_2_ok lf) (And.intro True.intro (And.intro True.intro True.intro)))))) ?_ ?_
  · intro vs h r e0
    simp only [w21_3] at e0
    obtain ⟨c1, l1, rfl, e1⟩ := castCons_inv e0
    obtain ⟨y0, rfl, e2⟩ := castStr_inv e1
    obtain ⟨c2, l2, rfl, e3⟩ := castCons_inv e2
    obtain ⟨c3, l3, rfl, e4⟩ := castCons_inv e3
    obtain ⟨y2, rfl, e5⟩ := castInt_inv e4
    obtain ⟨c4, l4, rfl, e6⟩ := castCons_inv e5
    obtain ⟨y3, rfl, e7⟩ := castBool_inv e6
    obtain ⟨c5, l5, rfl, e8⟩ := castCons_inv e7
    obtain ⟨rfl, e9⟩ := castNil_inv e8
    have e := e9
    cases e
  · intro n vs h r e0
    simp only [w21_3] at e0
    obtain ⟨c1, l1, rfl, e1⟩ := castCons_inv e0
    obtain ⟨y0, rfl, e2⟩ := castStr_inv e1
    obtain ⟨c2, l2, rfl, e3⟩ := castCons_inv e2
    obtain ⟨c3, l3, rfl, e4⟩ := castCons_inv e3
    obtain ⟨y2, rfl, e5⟩ := castInt_inv e4
    obtain ⟨c4, l4, rfl, e6⟩ := castCons_inv e5
    obtain ⟨y3, rfl, e7⟩ := castBool_inv e6
    obtain ⟨c5, l5, rfl, e8⟩ := castCons_inv e7
    obtain ⟨rfl, e9⟩ := castNil_inv e8
    have e := e9
    exact (B21_3_eq lf (L21_3 lf n) y0 c2 y2 y3 c5 h).trans e
def k21 : KC := (.seq (.reg [⟨(some 2), none, (.op (.mv (.c .nils))), []⟩, ⟨(some 3), none, (.op (.mv (.c (.int .i64 0)))), []⟩]) (.seq (.seq (.reg [⟨(some 9), none, (.op (.mv (.t 0))), []⟩, ⟨(some 10), none, (.op (.lenS (.t 9))), []⟩, ⟨(some 11), none, (.op (.bin .gtr (.t 10) (.c (.int .i64 4000)))), []⟩]) (.cond (.t 11) (.seq (.reg [⟨(some 2), none, (.op (.mv (.c .nils))), []⟩, ⟨(some 3), none, (.op (.mv (.c (.int .i64 5)))), []⟩]) .ret) .skip)) (.seq (.reg [⟨(some 12), none, (.op (.mv (.t 0))), []⟩, ⟨(some 13), none, (.op (.build [(.str []), .nils, (.int .i64 0)] [(0, (1, (.t 12)))])), []⟩, ⟨(some 14), none, (.op (.box false (.t 13))), []⟩, ⟨(some 4), none, (.op (.mv (.t 14))), []⟩]) (.seq (.reg [⟨(some 5), none, (.op (.mv (.c (.int .i64 0)))), []⟩, ⟨(some 6), none, (.op (.mv (.c (.bool false)))), []⟩]) (.seq (.seq (.reg [⟨(some 15), none, (.op (.mv (.t 0))), []⟩, ⟨(some 16), none, (.op (.rangeS (.t 15))), []⟩]) (.block 0 (.sub 3 (.loop k21_3.er) [0, 4, 5, 6, 16] o21_3))) (.seq (.seq (.reg [⟨(some 79), none, (.op (.mv (.t 4))), []⟩, ⟨(some 80), none, (.op (.nilck (.t 79))), []⟩, ⟨(some 81), none, (.op (.faddr 2 (.t 80))), []⟩, ⟨(some 82), none, (.op (.load1 (.t 81))), []⟩, ⟨(some 83), none, (.op (.bin .neq (.t 82) (.c (.int .i64 0)))), []⟩]) (.cond (.t 83) (.seq (.reg [⟨(some 84), none, (.op (.mv (.t 4))), []⟩, ⟨(some 85), none, (.op (.nilck (.t 84))), []⟩, ⟨(some 86), none, (.op (.faddr 2 (.t 85))), []⟩, ⟨(some 87), none, (.op (.load1 (.t 86))), []⟩, ⟨(some 2), none, (.op (.mv (.c .nils))), []⟩, ⟨(some 3), none, (.op (.mv (.t 87))), []⟩]) .ret) .skip)) (.seq (.reg [⟨(some 88), none, (.op (.mv (.t 4))), []⟩, ⟨(some 89), none, (.op (.nilck (.t 88))), []⟩, ⟨(some 90), none, (.op (.faddr 1 (.t 89))), []⟩, ⟨(some 91), none, (.op (.load1 (.t 90))), []⟩, ⟨(some 2), none, (.op (.mv (.t 91))), []⟩, ⟨(some 3), none, (.op (.mv (.c (.int .i64 0)))), []⟩]) .ret)))))))
noncomputable def F21 (lf : Nat) (s : List UInt8) (h : List Ob) : Option (V × List Ob) :=
cB (decide (((s).length : Int) > (4000))) (
some ((.tup [V.nils, (.int .i64 (5))]), h)) (
bind1 (er (.build [(.str []), .nils, (.int .i64 0)] [(0, (1, (.c (.str s))))]) h) fun v =>
castAgg v fun l =>
castCons l fun c l1 =>
castStr c fun x13_0 =>
castCons l1 fun x13_1 l2 =>
castCons l2 fun c1 l3 =>
castInt .i64 c1 fun x13_2 =>
castNil l3 (
bind2 (ev (.box false (.c (.agg [(.str x13_0), x13_1, (.int .i64 x13_2)]))) h) fun x14 h_ =>
bind2 (ev (.rangeS (.c (.str s))) h_) fun x16 h_1 =>
bind3 (L21_3 lf lf s x14 (0) false x16 h_1) fun ex vs h_2 =>
cB (decide (ex = (.exit 0))) (
castNil vs (
bind1 (er (.nilck (.c x14)) h_2) fun x80 =>
bind1 (er (.faddr 2 (.c x80)) h_2) fun x81 =>
bind1 (er (.load1 (.c x81)) h_2) fun v1 =>
castInt .i64 v1 fun x82 =>
cB (x82 != (0)) (
bind1 (er (.nilck (.c x14)) h_2) fun x85 =>
bind1 (er (.faddr 2 (.c x85)) h_2) fun x86 =>
bind1 (er (.load1 (.c x86)) h_2) fun v2 =>
castInt .i64 v2 fun x87 =>
some ((.tup [V.nils, (.int .i64 x87)]), h_2)) (
bind1 (er (.nilck (.c x14)) h_2) fun x89 =>
bind1 (er (.faddr 1 (.c x89)) h_2) fun x90 =>
bind1 (er (.load1 (.c x90)) h_2) fun x91 =>
some ((.tup [x91, (.int .i64 (0))]), h_2)))) (
cB (decide (ex = .ret)) (
castCons vs fun x2 l4 =>
castCons l4 fun c2 l5 =>
castInt .i64 c2 fun x3 =>
castNil l5 (
some ((.tup [x2, (.int .i64 x3)]), h_2))) (
none))))
theorem F21_eq (lf : Nat) (s : List UInt8) (h : List Ob) : evCK A21 ⟨call21 lf, cvN, subC 3 (w21_3 (L21_3 lf lf)) (subN)⟩ k21 (entryK [(.str s)]) h (endF c21.res) = F21 lf s h := by kernel_rfl
theorem F21_ok (lf : Nat) (s : List UInt8) (h : List Ob) (r_ : V) (h_r : List Ob) (e_ : F21 lf s h = some (r_, h_r)) : CD Go.Proofs.Try.prog 21 [(.str s)] h r_ h_r :=
  CD.ofK (A := A21) (σ := ⟨call21 lf, cvN, subC 3 (w21_3 (L21_3 lf lf)) (subN)⟩) (c := k21) Go.Proofs.Try.func21 ok21 en21 (show 1 ≤ 92 by decide) (by kernel_rfl) (call21_ok lf) cvN_ok (And.intro True.intro (And.intro (And.intro True.intro (And.intro (And.intro True.intro True.intro) True.intro)) (And.intro True.intro (And.intro True.intro (And.intro (And.intro True.intro (L21_3_ok lf lf)) (And.intro (And.intro True.intro (And.intro (And.intro True.intro True.intro) True.intro)) (And.intro True.intro True.intro))))))) ((F21_eq lf s h).trans e_)
def w21 (f : List UInt8 → List Ob → Option (V × List Ob)) (vs : List V) (h : List Ob) : Option (V × List Ob) := castCons vs fun c1 l1 => castStr c1 fun n2 => castNil l1 (f n2 h)
noncomputable def W21 (lf : Nat) : List V → List Ob → Option (V × List Ob) := w21 (F21 lf)
theorem W21_ok (lf : Nat) : ∀ args h v h', W21 lf args h = some (v, h') → CD Go.Proofs.Try.prog 21 args h v h' := by
  intro vs h r h' e0
  simp only [W21, w21] at e0
  obtain ⟨c1, l1, rfl, e1⟩ := castCons_inv e0
  obtain ⟨y0, rfl, e2⟩ := castStr_inv e1
  obtain ⟨rfl, e3⟩ := castNil_inv e2
  have e := e3
  exact F21_ok lf y0 h r h' e

/-! 20: wainscot/wainscotlaw05.awake -/
def A20 : List (Nat × Sh) := [(0, .bool), (2, (.int .i64)), (3, (.tup [.any, (.int .i64)])), (4, (.tup [.any, (.int .i64)])), (6, (.int .i64)), (7, (.int .i64)), (8, .bool), (9, .bool), (11, (.int .i64)), (12, .bool), (13, .bool), (14, .bool), (18, .str), (19, .bool), (20, .bool)]
noncomputable def call20 (lf : Nat) : CallS := callC 21 (W21 lf) (callN)
theorem call20_ok (lf : Nat) : CallOk Go.Proofs.Try.prog (call20 lf) := callC_ok (W21_ok lf) (callN_ok)
def k20 : KC := (.seq (.reg [⟨(some 0), none, (.op (.mv (.c (.bool false)))), []⟩]) (.seq (.reg [⟨(some 4), none, (.call 21 [(.c (.str [97, 60, 61, 49]))]), []⟩, ⟨(some 3), none, (.op (.mv (.t 4))), []⟩, ⟨(some 5), none, (.op (.ext 0 (.t 3))), []⟩, ⟨(some 6), none, (.op (.ext 1 (.t 3))), []⟩, ⟨(some 1), none, (.op (.mv (.t 5))), []⟩, ⟨(some 2), none, (.op (.mv (.t 6))), []⟩]) (.seq (.reg [⟨(some 7), none, (.op (.mv (.t 2))), []⟩, ⟨(some 8), none, (.op (.bin .eql (.t 7) (.c (.int .i64 0)))), []⟩, ⟨(some 9), none, (.op (.mv (.t 8))), []⟩, ⟨(some 10), (some (9, true)), (.op (.mv (.t 1))), []⟩, ⟨(some 11), (some (9, true)), (.op (.lenL (.t 10))), []⟩, ⟨(some 12), (some (9, true)), (.op (.bin .eql (.t 11) (.c (.int .i64 3)))), []⟩, ⟨(some 13), none, (.op (.pick (.t 9) (.t 12) (.c (.bool false)))), []⟩, ⟨(some 14), none, (.op (.mv (.t 13))), []⟩, ⟨(some 15), (some (14, true)), (.op (.mv (.t 1))), []⟩, ⟨(some 16), (some (14, true)), (.op (.iaddrL 3 (.t 15) (.c (.int .i64 1)))), []⟩, ⟨(some 17), (some (14, true)), (.op (.faddr 1 (.t 16))), []⟩, ⟨(some 18), (some (14, true)), (.op (.load1 (.t 17))), []⟩, ⟨(some 19), (some (14, true)), (.op (.bin .eql (.t 18) (.c (.str [60, 61])))), []⟩, ⟨(some 20), none, (.op (.pick (.t 14) (.t 19) (.c (.bool false)))), []⟩, ⟨(some 0), none, (.op (.mv (.t 20))), []⟩]) .ret)))
noncomputable def F20 (lf : Nat) (h : List Ob) : Option (V × List Ob) :=
bind2 (F21 lf [97, 60, 61, 49] h) fun v h_ =>
castTup v fun l =>
castCons l fun x4_0 l1 =>
castCons l1 fun c l2 =>
castInt .i64 c fun x4_1 =>
castNil l2 (
cB (x4_1 == (0)) (
bind1 (er (.lenL (.c x4_0)) h_) fun v1 =>
castInt .i64 v1 fun x11 =>
cB (x11 == (3)) (
bind1 (er (.iaddrL 3 (.c x4_0) (.c (.int .i64 (1)))) h_) fun x16 =>
bind1 (er (.faddr 1 (.c x16)) h_) fun x17 =>
bind1 (er (.load1 (.c x17)) h_) fun v2 =>
castStr v2 fun x18 =>
some ((.bool (x18 == [60, 61])), h_)) (
some ((.bool false), h_))) (
some ((.bool false), h_)))
theorem F20_eq (lf : Nat) (h : List Ob) : evCK A20 ⟨call20 lf, cvN, subN⟩ k20 (entryK []) h (endF c20.res) = F20 lf h := by kernel_rfl
theorem F20_ok (lf : Nat) (h : List Ob) (r_ : V) (h_r : List Ob) (e_ : F20 lf h = some (r_, h_r)) : CD Go.Proofs.Try.prog 20 [] h r_ h_r :=
  CD.ofK (A := A20) (σ := ⟨call20 lf, cvN, subN⟩) (c := k20) Go.Proofs.Try.func20 ok20 en20 (show 0 ≤ 21 by decide) (by kernel_rfl) (call20_ok lf) cvN_ok (And.intro True.intro (And.intro True.intro (And.intro True.intro True.intro))) ((F20_eq lf h).trans e_)
def w20 (f : List Ob → Option (V × List Ob)) (vs : List V) (h : List Ob) : Option (V × List Ob) := castNil vs (f h)
noncomputable def W20 (lf : Nat) : List V → List Ob → Option (V × List Ob) := w20 (F20 lf)
theorem W20_ok (lf : Nat) : ∀ args h v h', W20 lf args h = some (v, h') → CD Go.Proofs.Try.prog 20 args h v h' := by
  intro vs h r h' e0
  simp only [W20, w20] at e0
  obtain ⟨rfl, e1⟩ := castNil_inv e0
  have e := e1
  exact F20_ok lf h r h' e

/-! 26: wainscot/lexer.Keyword -/
def A26 : List (Nat × Sh) := [(0, .str), (2, .bool), (3, .str), (4, .bool), (5, .bool), (6, .bool), (7, .bool), (8, .bool), (9, .bool), (10, .bool), (11, .bool), (12, .bool), (13, .bool), (14, .bool), (15, .bool), (16, .bool), (17, .bool), (18, .bool), (19, .bool), (20, .bool), (21, .bool), (22, .bool), (23, .bool), (24, .bool), (25, .bool), (26, .bool), (27, .bool), (28, .bool), (29, .bool), (30, .bool), (31, .bool), (32, .bool), (33, .bool), (34, .bool), (35, .bool), (36, .bool), (37, .bool), (38, .bool), (39, .bool), (40, .bool), (41, .bool), (42, .bool), (43, .bool), (44, .bool)]
noncomputable def call26 (lf : Nat) : CallS := callN
theorem call26_ok (lf : Nat) : CallOk Go.Proofs.Try.prog (call26 lf) := callN_ok
def o26_0 : Outs := [(.normal, [4], [.bool])]
def k26_0 : KC := (.seq (.reg [⟨(some 5), none, (.op (.bin .eql (.t 3) (.c (.str [67, 82, 69, 65, 84, 69])))), []⟩, ⟨(some 4), none, (.op (.mv (.t 5))), []⟩]) (.cond (.t 4) .skip (.seq (.reg [⟨(some 6), none, (.op (.bin .eql (.t 3) (.c (.str [84, 65, 66, 76, 69])))), []⟩, ⟨(some 4), none, (.op (.mv (.t 6))), []⟩]) (.cond (.t 4) .skip (.seq (.reg [⟨(some 7), none, (.op (.bin .eql (.t 3) (.c (.str [73, 78, 68, 69, 88])))), []⟩, ⟨(some 4), none, (.op (.mv (.t 7))), []⟩]) (.cond (.t 4) .skip (.seq (.reg [⟨(some 8), none, (.op (.bin .eql (.t 3) (.c (.str [85, 78, 73, 81, 85, 69])))), []⟩, ⟨(some 4), none, (.op (.mv (.t 8))), []⟩]) (.cond (.t 4) .skip (.seq (.reg [⟨(some 9), none, (.op (.bin .eql (.t 3) (.c (.str [77, 65, 84, 69, 82, 73, 65, 76, 73, 90, 69, 68])))), []⟩, ⟨(some 4), none, (.op (.mv (.t 9))), []⟩]) (.cond (.t 4) .skip (.seq (.reg [⟨(some 10), none, (.op (.bin .eql (.t 3) (.c (.str [86, 73, 69, 87])))), []⟩, ⟨(some 4), none, (.op (.mv (.t 10))), []⟩]) (.cond (.t 4) .skip (.seq (.reg [⟨(some 11), none, (.op (.bin .eql (.t 3) (.c (.str [68, 82, 79, 80])))), []⟩, ⟨(some 4), none, (.op (.mv (.t 11))), []⟩]) (.cond (.t 4) .skip (.seq (.reg [⟨(some 12), none, (.op (.bin .eql (.t 3) (.c (.str [73, 78, 83, 69, 82, 84])))), []⟩, ⟨(some 4), none, (.op (.mv (.t 12))), []⟩]) (.cond (.t 4) .skip (.seq (.reg [⟨(some 13), none, (.op (.bin .eql (.t 3) (.c (.str [73, 78, 84, 79])))), []⟩, ⟨(some 4), none, (.op (.mv (.t 13))), []⟩]) (.cond (.t 4) .skip (.seq (.reg [⟨(some 14), none, (.op (.bin .eql (.t 3) (.c (.str [86, 65, 76, 85, 69, 83])))), []⟩, ⟨(some 4), none, (.op (.mv (.t 14))), []⟩]) (.cond (.t 4) .skip (.seq (.reg [⟨(some 15), none, (.op (.bin .eql (.t 3) (.c (.str [85, 80, 68, 65, 84, 69])))), []⟩, ⟨(some 4), none, (.op (.mv (.t 15))), []⟩]) (.cond (.t 4) .skip (.seq (.reg [⟨(some 16), none, (.op (.bin .eql (.t 3) (.c (.str [83, 69, 84])))), []⟩, ⟨(some 4), none, (.op (.mv (.t 16))), []⟩]) (.cond (.t 4) .skip (.seq (.reg [⟨(some 17), none, (.op (.bin .eql (.t 3) (.c (.str [68, 69, 76, 69, 84, 69])))), []⟩, ⟨(some 4), none, (.op (.mv (.t 17))), []⟩]) (.cond (.t 4) .skip (.seq (.reg [⟨(some 18), none, (.op (.bin .eql (.t 3) (.c (.str [70, 82, 79, 77])))), []⟩, ⟨(some 4), none, (.op (.mv (.t 18))), []⟩]) (.cond (.t 4) .skip (.seq (.reg [⟨(some 19), none, (.op (.bin .eql (.t 3) (.c (.str [83, 69, 76, 69, 67, 84])))), []⟩, ⟨(some 4), none, (.op (.mv (.t 19))), []⟩]) (.cond (.t 4) .skip (.seq (.reg [⟨(some 20), none, (.op (.bin .eql (.t 3) (.c (.str [68, 73, 83, 84, 73, 78, 67, 84])))), []⟩, ⟨(some 4), none, (.op (.mv (.t 20))), []⟩]) (.cond (.t 4) .skip (.seq (.reg [⟨(some 21), none, (.op (.bin .eql (.t 3) (.c (.str [87, 72, 69, 82, 69])))), []⟩, ⟨(some 4), none, (.op (.mv (.t 21))), []⟩]) (.cond (.t 4) .skip (.seq (.reg [⟨(some 22), none, (.op (.bin .eql (.t 3) (.c (.str [71, 82, 79, 85, 80])))), []⟩, ⟨(some 4), none, (.op (.mv (.t 22))), []⟩]) (.cond (.t 4) .skip (.seq (.reg [⟨(some 23), none, (.op (.bin .eql (.t 3) (.c (.str [66, 89])))), []⟩, ⟨(some 4), none, (.op (.mv (.t 23))), []⟩]) (.cond (.t 4) .skip (.seq (.reg [⟨(some 24), none, (.op (.bin .eql (.t 3) (.c (.str [79, 82, 68, 69, 82])))), []⟩, ⟨(some 4), none, (.op (.mv (.t 24))), []⟩]) (.cond (.t 4) .skip (.seq (.reg [⟨(some 25), none, (.op (.bin .eql (.t 3) (.c (.str [65, 83, 67])))), []⟩, ⟨(some 4), none, (.op (.mv (.t 25))), []⟩]) (.cond (.t 4) .skip (.seq (.reg [⟨(some 26), none, (.op (.bin .eql (.t 3) (.c (.str [68, 69, 83, 67])))), []⟩, ⟨(some 4), none, (.op (.mv (.t 26))), []⟩]) (.cond (.t 4) .skip (.seq (.reg [⟨(some 27), none, (.op (.bin .eql (.t 3) (.c (.str [76, 73, 77, 73, 84])))), []⟩, ⟨(some 4), none, (.op (.mv (.t 27))), []⟩]) (.cond (.t 4) .skip (.seq (.reg [⟨(some 28), none, (.op (.bin .eql (.t 3) (.c (.str [74, 79, 73, 78])))), []⟩, ⟨(some 4), none, (.op (.mv (.t 28))), []⟩]) (.cond (.t 4) .skip (.seq (.reg [⟨(some 29), none, (.op (.bin .eql (.t 3) (.c (.str [79, 78])))), []⟩, ⟨(some 4), none, (.op (.mv (.t 29))), []⟩]) (.cond (.t 4) .skip (.seq (.reg [⟨(some 30), none, (.op (.bin .eql (.t 3) (.c (.str [65, 83])))), []⟩, ⟨(some 4), none, (.op (.mv (.t 30))), []⟩]) (.cond (.t 4) .skip (.seq (.reg [⟨(some 31), none, (.op (.bin .eql (.t 3) (.c (.str [65, 78, 68])))), []⟩, ⟨(some 4), none, (.op (.mv (.t 31))), []⟩]) (.cond (.t 4) .skip (.seq (.reg [⟨(some 32), none, (.op (.bin .eql (.t 3) (.c (.str [79, 82])))), []⟩, ⟨(some 4), none, (.op (.mv (.t 32))), []⟩]) (.cond (.t 4) .skip (.seq (.reg [⟨(some 33), none, (.op (.bin .eql (.t 3) (.c (.str [78, 79, 84])))), []⟩, ⟨(some 4), none, (.op (.mv (.t 33))), []⟩]) (.cond (.t 4) .skip (.seq (.reg [⟨(some 34), none, (.op (.bin .eql (.t 3) (.c (.str [73, 83])))), []⟩, ⟨(some 4), none, (.op (.mv (.t 34))), []⟩]) (.cond (.t 4) .skip (.seq (.reg [⟨(some 35), none, (.op (.bin .eql (.t 3) (.c (.str [78, 85, 76, 76])))), []⟩, ⟨(some 4), none, (.op (.mv (.t 35))), []⟩]) (.cond (.t 4) .skip (.seq (.reg [⟨(some 36), none, (.op (.bin .eql (.t 3) (.c (.str [73, 78, 84])))), []⟩, ⟨(some 4), none, (.op (.mv (.t 36))), []⟩]) (.cond (.t 4) .skip (.seq (.reg [⟨(some 37), none, (.op (.bin .eql (.t 3) (.c (.str [84, 69, 88, 84])))), []⟩, ⟨(some 4), none, (.op (.mv (.t 37))), []⟩]) (.cond (.t 4) .skip (.seq (.reg [⟨(some 38), none, (.op (.bin .eql (.t 3) (.c (.str [66, 69, 71, 73, 78])))), []⟩, ⟨(some 4), none, (.op (.mv (.t 38))), []⟩]) (.cond (.t 4) .skip (.seq (.reg [⟨(some 39), none, (.op (.bin .eql (.t 3) (.c (.str [67, 79, 77, 77, 73, 84])))), []⟩, ⟨(some 4), none, (.op (.mv (.t 39))), []⟩]) (.cond (.t 4) .skip (.seq (.reg [⟨(some 40), none, (.op (.bin .eql (.t 3) (.c (.str [82, 79, 76, 76, 66, 65, 67, 75])))), []⟩, ⟨(some 4), none, (.op (.mv (.t 40))), []⟩]) (.cond (.t 4) .skip (.seq (.reg [⟨(some 41), none, (.op (.bin .eql (.t 3) (.c (.str [67, 79, 85, 78, 84])))), []⟩, ⟨(some 4), none, (.op (.mv (.t 41))), []⟩]) (.cond (.t 4) .skip (.seq (.reg [⟨(some 42), none, (.op (.bin .eql (.t 3) (.c (.str [83, 85, 77])))), []⟩, ⟨(some 4), none, (.op (.mv (.t 42))), []⟩]) (.cond (.t 4) .skip (.seq (.reg [⟨(some 43), none, (.op (.bin .eql (.t 3) (.c (.str [77, 73, 78])))), []⟩, ⟨(some 4), none, (.op (.mv (.t 43))), []⟩]) (.cond (.t 4) .skip (.reg [⟨(some 44), none, (.op (.bin .eql (.t 3) (.c (.str [77, 65, 88])))), []⟩, ⟨(some 4), none, (.op (.mv (.t 44))), []⟩])))))))))))))))))))))))))))))))))))))))))))))))))))))))))))))))))))))))))))))))
def w26_0 (f : List UInt8 → List Ob → SubR) (vs : List V) (h : List Ob) : SubR := castCons vs fun c1 l1 => castStr c1 fun n2 => castNil l1 (f n2 h)
noncomputable def S26_0 (lf : Nat) (x3 : List UInt8) (h : List Ob) : SubR :=
cB (x3 == [67, 82, 69, 65, 84, 69]) (
some (.normal, [(.bool true)], h)) (
cB (x3 == [84, 65, 66, 76, 69]) (
some (.normal, [(.bool true)], h)) (
cB (x3 == [73, 78, 68, 69, 88]) (
some (.normal, [(.bool true)], h)) (
cB (x3 == [85, 78, 73, 81, 85, 69]) (
some (.normal, [(.bool true)], h)) (
cB (x3 == [77, 65, 84, 69, 82, 73, 65, 76, 73, 90, 69, 68]) (
some (.normal, [(.bool true)], h)) (
cB (x3 == [86, 73, 69, 87]) (
some (.normal, [(.bool true)], h)) (
cB (x3 == [68, 82, 79, 80]) (
some (.normal, [(.bool true)], h)) (
cB (x3 == [73, 78, 83, 69, 82, 84]) (
some (.normal, [(.bool true)], h)) (
cB (x3 == [73, 78, 84, 79]) (
some (.normal, [(.bool true)], h)) (
cB (x3 == [86, 65, 76, 85, 69, 83]) (
some (.normal, [(.bool true)], h)) (
cB (x3 == [85, 80, 68, 65, 84, 69]) (
some (.normal, [(.bool true)], h)) (
cB (x3 == [83, 69, 84]) (
some (.normal, [(.bool true)], h)) (
cB (x3 == [68, 69, 76, 69, 84, 69]) (
some (.normal, [(.bool true)], h)) (
cB (x3 == [70, 82, 79, 77]) (
some (.normal, [(.bool true)], h)) (
cB (x3 == [83, 69, 76, 69, 67, 84]) (
some (.normal, [(.bool true)], h)) (
cB (x3 == [68, 73, 83, 84, 73, 78, 67, 84]) (
some (.normal, [(.bool true)], h)) (
cB (x3 == [87, 72, 69, 82, 69]) (
some (.normal, [(.bool true)], h)) (
cB (x3 == [71, 82, 79, 85, 80]) (
some (.normal, [(.bool true)], h)) (
cB (x3 == [66, 89]) (
some (.normal, [(.bool true)], h)) (
cB (x3 == [79, 82, 68, 69, 82]) (
some (.normal, [(.bool true)], h)) (
cB (x3 == [65, 83, 67]) (
some (.normal, [(.bool true)], h)) (
cB (x3 == [68, 69, 83, 67]) (
some (.normal, [(.bool true)], h)) (
cB (x3 == [76, 73, 77, 73, 84]) (
some (.normal, [(.bool true)], h)) (
cB (x3 == [74, 79, 73, 78]) (
some (.normal, [(.bool true)], h)) (
cB (x3 == [79, 78]) (
some (.normal, [(.bool true)], h)) (
cB (x3 == [65, 83]) (
some (.normal, [(.bool true)], h)) (
cB (x3 == [65, 78, 68]) (
some (.normal, [(.bool true)], h)) (
cB (x3 == [79, 82]) (
some (.normal, [(.bool true)], h)) (
cB (x3 == [78, 79, 84]) (
some (.normal, [(.bool true)], h)) (
cB (x3 == [73, 83]) (
some (.normal, [(.bool true)], h)) (
cB (x3 == [78, 85, 76, 76]) (
some (.normal, [(.bool true)], h)) (
cB (x3 == [73, 78, 84]) (
some (.normal, [(.bool true)], h)) (
cB (x3 == [84, 69, 88, 84]) (
some (.normal, [(.bool true)], h)) (
cB (x3 == [66, 69, 71, 73, 78]) (
some (.normal, [(.bool true)], h)) (
cB (x3 == [67, 79, 77, 77, 73, 84]) (
some (.normal, [(.bool true)], h)) (
cB (x3 == [82, 79, 76, 76, 66, 65, 67, 75]) (
some (.normal, [(.bool true)], h)) (
cB (x3 == [67, 79, 85, 78, 84]) (
some (.normal, [(.bool true)], h)) (
cB (x3 == [83, 85, 77]) (
some (.normal, [(.bool true)], h)) (
cB (x3 == [77, 73, 78]) (
some (.normal, [(.bool true)], h)) (
some (.normal, [(.bool (x3 == [77, 65, 88]))], h))))))))))))))))))))))))))))))))))))))))
theorem S26_0_eq (lf : Nat) (x3 : List UInt8) (h : List Ob) : evCK A26 ⟨call26 lf, cvN, subN⟩ k26_0 [(3, (.str x3))] h (endK o26_0) = S26_0 lf x3 h := by kernel_rfl
theorem S26_0_ok (lf : Nat) : SubOk Go.Proofs.Try.prog k26_0.er [3] o26_0 (w26_0 (S26_0 lf)) := by
  refine SubOk.of (A := A26) (σ := ⟨call26 lf, cvN, subN⟩) (c := k26_0) (call26_ok lf) cvN_ok (And.intro True.intro (And.intro True.intro (And.intro True.intro (And.intro True.intro (And.intro True.intro (And.intro True.intro (And.intro True.intro (And.intro True.intro (And.intro True.intro (And.intro True.intro (And.intro True.intro (And.intro True.intro (And.intro True.intro (And.intro True.intro (And.intro True.intro (And.intro True.intro (And.intro True.intro (And.intro True.intro (And.intro True.intro (And.intro True.intro (And.intro True.intro (And.intro True.intro (And.intro True.intro (And.intro True.intro (And.intro True.intro (And.intro True.intro (And.intro True.intro (And.intro True.intro (And.intro True.intro (And.intro True.intro (And.intro True.intro (And.intro True.intro (And.intro True.intro (And.intro True.intro (And.intro True.intro (And.intro True.intro (And.intro True.intro (And.intro True.intro (And.intro True.intro (And.intro True.intro (And.intro True.intro (And.intro True.intro (And.intro True.intro (And.intro True.intro (And.intro True.intro (And.intro True.intro (And.intro True.intro (And.intro True.intro (And.intro True.intro (And.intro True.intro (And.intro True.intro (And.intro True.intro (And.intro True.intro (And.intro True.intro (And.intro True.intro (And.intro True.intro (And.intro True.intro (And.intro True.intro (And.intro True.intro (And.intro True.intro (And.intro True.intro (And.intro True.intro (And.intro True.intro (And.intro True.intro (And.intro True.intro (And.intro True.intro (And.intro True.intro (And.intro True.intro (And.intro True.intro (And.intro True.intro (And.intro True.intro (And.intro True.intro (And.intro True.intro (And.intro True.intro (And.intro True.intro (And.intro True.intro (And.intro True.intro (And.intro True.intro True.intro)))))))))))))))))))))))))))))))))))))))))))))))))))))))))))))))))))))))))))))) ?_
  intro vs h r e0
  simp only [w26_0] at e0
  obtain ⟨c1, l1, rfl, e1⟩ := castCons_inv e0
  obtain ⟨y0, rfl, e2⟩ := castStr_inv e1
  obtain ⟨rfl, e3⟩ := castNil_inv e2
  have e := e3
  exact (S26_0_eq lf y0 h).trans e
def k26 : KC := (.seq (.reg [⟨(some 2), none, (.op (.mv (.c (.bool false)))), []⟩]) (.seq (.seq (.reg [⟨(some 3), none, (.op (.mv (.t 0))), []⟩]) (.block 0 (.seq (.sub 0 k26_0.er [3] o26_0) (.cond (.t 4) (.seq (.reg [⟨(some 2), none, (.op (.mv (.c (.bool true)))), []⟩]) .ret) .skip)))) (.seq (.reg [⟨(some 2), none, (.op (.mv (.c (.bool false)))), []⟩]) .ret)))
noncomputable def F26 (lf : Nat) (s : List UInt8) (h : List Ob) : Option (V × List Ob) :=
bind3 (S26_0 lf s h) fun ex vs h_ =>
cB (decide (ex = .normal)) (
castCons vs fun c l =>
castBool c fun x4 =>
castNil l (
cB x4 (
some ((.bool true), h_)) (
some ((.bool false), h_)))) (
none)
theorem F26_eq (lf : Nat) (s : List UInt8) (h : List Ob) : evCK A26 ⟨call26 lf, cvN, subC 0 (w26_0 (S26_0 lf)) (subN)⟩ k26 (entryK [(.str s)]) h (endF c26.res) = F26 lf s h := by kernel_rfl
theorem F26_ok (lf : Nat) (s : List UInt8) (h : List Ob) (r_ : V) (h_r : List Ob) (e_ : F26 lf s h = some (r_, h_r)) : CD Go.Proofs.Try.prog 26 [(.str s)] h r_ h_r :=
  CD.ofK (A := A26) (σ := ⟨call26 lf, cvN, subC 0 (w26_0 (S26_0 lf)) (subN)⟩) (c := k26) Go.Proofs.Try.func26 ok26 en26 (show 1 ≤ 45 by decide) (by kernel_rfl) (call26_ok lf) cvN_ok (And.intro True.intro (And.intro (And.intro True.intro (And.intro (S26_0_ok lf) (And.intro (And.intro True.intro True.intro) True.intro))) (And.intro True.intro True.intro))) ((F26_eq lf s h).trans e_)
def w26 (f : List UInt8 → List Ob → Option (V × List Ob)) (vs : List V) (h : List Ob) : Option (V × List Ob) := castCons vs fun c1 l1 => castStr c1 fun n2 => castNil l1 (f n2 h)
noncomputable def W26 (lf : Nat) : List V → List Ob → Option (V × List Ob) := w26 (F26 lf)
theorem W26_ok (lf : Nat) : ∀ args h v h', W26 lf args h = some (v, h') → CD Go.Proofs.Try.prog 26 args h v h' := by
  intro vs h r h' e0
  simp only [W26, w26] at e0
  obtain ⟨c1, l1, rfl, e1⟩ := castCons_inv e0
  obtain ⟨y0, rfl, e2⟩ := castStr_inv e1
  obtain ⟨rfl, e3⟩ := castNil_inv e2
  have e := e3
  exact F26_ok lf y0 h r h' e

/-! 24: wainscot/lexer.Name -/
def A24 : List (Nat × Sh) := [(0, .str), (2, .bool), (3, .str), (4, .bool), (5, .bool), (6, .str), (7, .bool), (8, .bool), (9, .bool)]
noncomputable def call24 (lf : Nat) : CallS := callC 58 (W58 lf) (callC 26 (W26 lf) (callN))
theorem call24_ok (lf : Nat) : CallOk Go.Proofs.Try.prog (call24 lf) := callC_ok (W58_ok lf) (callC_ok (W26_ok lf) (callN_ok))
def k24 : KC := (.seq (.reg [⟨(some 2), none, (.op (.mv (.c (.bool false)))), []⟩]) (.seq (.reg [⟨(some 3), none, (.op (.mv (.t 0))), []⟩, ⟨(some 4), none, (.call 58 [(.t 3)]), []⟩, ⟨(some 5), none, (.op (.mv (.t 4))), []⟩, ⟨(some 6), (some (5, true)), (.op (.mv (.t 0))), []⟩, ⟨(some 7), (some (5, true)), (.call 26 [(.t 6)]), []⟩, ⟨(some 8), (some (5, true)), (.op (.un .not (.t 7))), []⟩, ⟨(some 9), none, (.op (.pick (.t 5) (.t 8) (.c (.bool false)))), []⟩, ⟨(some 2), none, (.op (.mv (.t 9))), []⟩]) .ret))
noncomputable def F24 (lf : Nat) (s : List UInt8) (h : List Ob) : Option (V × List Ob) :=
bind2 (F58 lf s h) fun v h_ =>
castBool v fun x4 =>
cB x4 (
bind2 (F26 lf s h_) fun v1 h_1 =>
castBool v1 fun x7 =>
some ((.bool (!x7)), h_1)) (
some ((.bool false), h_))
theorem F24_eq (lf : Nat) (s : List UInt8) (h : List Ob) : evCK A24 ⟨call24 lf, cvN, subN⟩ k24 (entryK [(.str s)]) h (endF c24.res) = F24 lf s h := by kernel_rfl
theorem F24_ok (lf : Nat) (s : List UInt8) (h : List Ob) (r_ : V) (h_r : List Ob) (e_ : F24 lf s h = some (r_, h_r)) : CD Go.Proofs.Try.prog 24 [(.str s)] h r_ h_r :=
  CD.ofK (A := A24) (σ := ⟨call24 lf, cvN, subN⟩) (c := k24) Go.Proofs.Try.func24 ok24 en24 (show 1 ≤ 10 by decide) (by kernel_rfl) (call24_ok lf) cvN_ok (And.intro True.intro (And.intro True.intro True.intro)) ((F24_eq lf s h).trans e_)
def w24 (f : List UInt8 → List Ob → Option (V × List Ob)) (vs : List V) (h : List Ob) : Option (V × List Ob) := castCons vs fun c1 l1 => castStr c1 fun n2 => castNil l1 (f n2 h)
noncomputable def W24 (lf : Nat) : List V → List Ob → Option (V × List Ob) := w24 (F24 lf)
theorem W24_ok (lf : Nat) : ∀ args h v h', W24 lf args h = some (v, h') → CD Go.Proofs.Try.prog 24 args h v h' := by
  intro vs h r h' e0
  simp only [W24, w24] at e0
  obtain ⟨c1, l1, rfl, e1⟩ := castCons_inv e0
  obtain ⟨y0, rfl, e2⟩ := castStr_inv e1
  obtain ⟨rfl, e3⟩ := castNil_inv e2
  have e := e3
  exact F24_ok lf y0 h r h' e

/-! 27: wainscot/wainscotref05.Keyword -/
def A27 : List (Nat × Sh) := [(0, .str), (2, .bool), (3, (.int .i64)), (4, .str), (5, (.int .i64)), (6, .str), (7, .bool), (8, .str), (9, (.int .i64)), (10, (.int .i64)), (11, .bool), (12, (.int .i64)), (13, .str), (14, (.int .i64)), (15, (.int .u8)), (16, .bool), (17, (.int .i64)), (18, .str), (19, .str), (20, .str), (21, (.int .i64)), (22, .str), (23, (.int .i64)), (24, (.int .i64)), (25, .bool), (26, (.int .i64)), (27, (.int .i64)), (28, (.int .i64)), (29, (.int .i64)), (30, .str), (31, (.int .i64)), (32, (.int .i64)), (33, .str), (34, .str), (35, .bool)]
noncomputable def call27 (lf : Nat) : CallS := callN
theorem call27_ok (lf : Nat) : CallOk Go.Proofs.Try.prog (call27 lf) := callN_ok
def o27_0 : Outs := [((.exit 0), [], []), (.ret, [2], [.bool])]
def k27_0 : KC := (.seq (.reg [⟨(some 11), none, (.op (.bin .lss (.t 10) (.t 9))), []⟩]) (.seq (.cond (.t 11) .skip (.exit 0)) (.seq (.block 1 (.seq (.reg [⟨(some 12), none, (.op (.mv (.t 10))), []⟩, ⟨(some 3), none, (.op (.mv (.t 12))), []⟩]) (.seq (.reg [⟨(some 13), none, (.op (.mv (.t 0))), []⟩, ⟨(some 14), none, (.op (.mv (.t 3))), []⟩, ⟨(some 15), none, (.op (.idxS (.t 13) (.t 14))), []⟩, ⟨(some 16), none, (.op (.bin .eql (.t 15) (.c (.int .u8 32)))), []⟩]) (.cond (.t 16) (.seq (.reg [⟨(some 2), none, (.op (.mv (.c (.bool false)))), []⟩]) .ret) .skip)))) (.reg [⟨(some 17), none, (.op (.bin .add (.t 10) (.c (.int .i64 1)))), []⟩, ⟨(some 10), none, (.op (.mv (.t 17))), []⟩]))))
def w27_0 (f : List UInt8 → Int → Int → List Ob → SubR) (vs : List V) (h : List Ob) : SubR := castCons vs fun c1 l1 => castStr c1 fun n2 => castCons l1 fun c3 l3 => castInt .i64 c3 fun n4 => castCons l3 fun c5 l5 => castInt .i64 c5 fun n6 => castNil l5 (f n2 n4 n6 h)
noncomputable def B27_0 (lf : Nat) (self : List UInt8 → Int → Int → List Ob → SubR) (s : List UInt8) (x9 : Int) (x10 : Int) (h : List Ob) : SubR :=
cB (decide (x10 < x9)) (
bind1 (er (.idxS (.c (.str s)) (.c (.int .i64 x10))) h) fun v =>
castInt .u8 v fun x15 =>
cB (x15 == (32)) (
some (.ret, [(.bool false)], h)) (
self s x9 (IntKind.i64.wrap (x10 + (1))) h)) (
some ((.exit 0), [], h))
noncomputable def L27_0 (lf : Nat) : Nat → List UInt8 → Int → Int → List Ob → SubR
  | 0 => fun _ _ _ _ => none
  | n + 1 => B27_0 lf (L27_0 lf n)
theorem B27_0_eq (lf : Nat) (self : List UInt8 → Int → Int → List Ob → SubR) (s : List UInt8) (x9 : Int) (x10 : Int) (h : List Ob) : evCK A27 ⟨call27 lf, cvN, subN⟩ k27_0 [(0, (.str s)), (9, (.int .i64 x9)), (10, (.int .i64 x10))] h (endL [0, 9, 10] [.str, (.int .i64), (.int .i64)] o27_0 (w27_0 self)) = B27_0 lf self s x9 x10 h := by kernel_rfl
theorem L27_0_ok (lf : Nat) : ∀ n, SubOk Go.Proofs.Try.prog (.loop k27_0.er) [0, 9, 10] o27_0 (w27_0 (L27_0 lf n)) := by
  refine SubOk.loop (A := A27) (σ := ⟨call27 lf, cvN, subN⟩) (c := k27_0) (shs := [.str, (.int .i64), (.int .i64)]) (G := fun n => w27_0 (L27_0 lf n)) (call27_ok lf) cvN_ok (And.intro True.intro (And.intro (And.intro True.intro True.intro) (And.intro (And.intro True.intro (And.intro True.intro (And.intro (And.intro True.intro True.intro) True.intro))) True.intro))) ?_ ?_
  · intro vs h r e0
    simp only [w27_0] at e0
    obtain ⟨c1, l1, rfl, e1⟩ := castCons_inv e0
    obtain ⟨y0, rfl, e2⟩ := castStr_inv e1
    obtain ⟨c2, l2, rfl, e3⟩ := castCons_inv e2
    obtain ⟨y1, rfl, e4⟩ := castInt_inv e3
    obtain ⟨c3, l3, rfl, e5⟩ := castCons_inv e4
    obtain ⟨y2, rfl, e6⟩ := castInt_inv e5
    obtain ⟨rfl, e7⟩ := castNil_inv e6
    have e := e7
    cases e
  · intro n vs h r e0
    simp only [w27_0] at e0
    obtain ⟨c1, l1, rfl, e1⟩ := castCons_inv e0
    obtain ⟨y0, rfl, e2⟩ := castStr_inv e1
    obtain ⟨c2, l2, rfl, e3⟩ := castCons_inv e2
    obtain ⟨y1, rfl, e4⟩ := castInt_inv e3
    obtain ⟨c3, l3, rfl, e5⟩ := castCons_inv e4
    obtain ⟨y2, rfl, e6⟩ := castInt_inv e5
    obtain ⟨rfl, e7⟩ := castNil_inv e6
    have e := e7
    exact (B27_0_eq lf (L27_0 lf n) y0 y1 y2 h).trans e
def o27_1 : Outs := [((.exit 2), [], []), (.ret, [2], [.bool])]
def k27_1 : KC := (.seq (.seq (.reg [⟨(some 21), none, (.op (.mv (.t 5))), []⟩, ⟨(some 22), none, (.op (.mv (.t 4))), []⟩, ⟨(some 23), none, (.op (.lenS (.t 22))), []⟩, ⟨(some 24), none, (.op (.bin .add (.t 21) (.t 23))), []⟩, ⟨(some 25), none, (.op (.bin .leq (.t 24) (.c (.int .i64 223)))), []⟩]) (.cond (.t 25) .skip (.exit 2))) (.seq (.block 3 (.seq (.reg [⟨(some 28), none, (.op (.mv (.t 5))), []⟩, ⟨(some 29), none, (.op (.mv (.t 5))), []⟩, ⟨(some 30), none, (.op (.mv (.t 4))), []⟩, ⟨(some 31), none, (.op (.lenS (.t 30))), []⟩, ⟨(some 32), none, (.op (.bin .add (.t 29) (.t 31))), []⟩, ⟨(some 33), none, (.op (.slcS (.c (.str [32, 67, 82, 69, 65, 84, 69, 32, 84, 65, 66, 76, 69, 32, 73, 78, 68, 69, 88, 32, 85, 78, 73, 81, 85, 69, 32, 77, 65, 84, 69, 82, 73, 65, 76, 73, 90, 69, 68, 32, 86, 73, 69, 87, 32, 68, 82, 79, 80, 32, 73, 78, 83, 69, 82, 84, 32, 73, 78, 84, 79, 32, 86, 65, 76, 85, 69, 83, 32, 85, 80, 68, 65, 84, 69, 32, 83, 69, 84, 32, 68, 69, 76, 69, 84, 69, 32, 70, 82, 79, 77, 32, 83, 69, 76, 69, 67, 84, 32, 68, 73, 83, 84, 73, 78, 67, 84, 32, 87, 72, 69, 82, 69, 32, 71, 82, 79, 85, 80, 32, 66, 89, 32, 79, 82, 68, 69, 82, 32, 65, 83, 67, 32, 68, 69, 83, 67, 32, 76, 73, 77, 73, 84, 32, 74, 79, 73, 78, 32, 79, 78, 32, 65, 83, 32, 65, 78, 68, 32, 79, 82, 32, 78, 79, 84, 32, 73, 83, 32, 78, 85, 76, 76, 32, 73, 78, 84, 32, 84, 69, 88, 84, 32, 66, 69, 71, 73, 78, 32, 67, 79, 77, 77, 73, 84, 32, 82, 79, 76, 76, 66, 65, 67, 75, 32, 67, 79, 85, 78, 84, 32, 83, 85, 77, 32, 77, 73, 78, 32, 77, 65, 88, 32])) (some (.t 28)) (some (.t 32)))), []⟩, ⟨(some 34), none, (.op (.mv (.t 4))), []⟩, ⟨(some 35), none, (.op (.bin .eql (.t 33) (.t 34))), []⟩]) (.cond (.t 35) (.seq (.reg [⟨(some 2), none, (.op (.mv (.c (.bool true)))), []⟩]) .ret) .skip))) (.reg [⟨(some 26), none, (.op (.mv (.t 5))), []⟩, ⟨(some 27), none, (.op (.bin .add (.t 26) (.c (.int .i64 1)))), []⟩, ⟨(some 5), none, (.op (.mv (.t 27))), []⟩])))
def w27_1 (f : List UInt8 → Int → List Ob → SubR) (vs : List V) (h : List Ob) : SubR := castCons vs fun c1 l1 => castStr c1 fun n2 => castCons l1 fun c3 l3 => castInt .i64 c3 fun n4 => castNil l3 (f n2 n4 h)
noncomputable def B27_1 (lf : Nat) (self : List UInt8 → Int → List Ob → SubR) (w : List UInt8) (i : Int) (h : List Ob) : SubR :=
cB (decide ((IntKind.i64.wrap (i + ((w).length : Int))) ≤ (223))) (
bind1 (er (.slcS (.c (.str [32, 67, 82, 69, 65, 84, 69, 32, 84, 65, 66, 76, 69, 32, 73, 78, 68, 69, 88, 32, 85, 78, 73, 81, 85, 69, 32, 77, 65, 84, 69, 82, 73, 65, 76, 73, 90, 69, 68, 32, 86, 73, 69, 87, 32, 68, 82, 79, 80, 32, 73, 78, 83, 69, 82, 84, 32, 73, 78, 84, 79, 32, 86, 65, 76, 85, 69, 83, 32, 85, 80, 68, 65, 84, 69, 32, 83, 69, 84, 32, 68, 69, 76, 69, 84, 69, 32, 70, 82, 79, 77, 32, 83, 69, 76, 69, 67, 84, 32, 68, 73, 83, 84, 73, 78, 67, 84, 32, 87, 72, 69, 82, 69, 32, 71, 82, 79, 85, 80, 32, 66, 89, 32, 79, 82, 68, 69, 82, 32, 65, 83, 67, 32, 68, 69, 83, 67, 32, 76, 73, 77, 73, 84, 32, 74, 79, 73, 78, 32, 79, 78, 32, 65, 83, 32, 65, 78, 68, 32, 79, 82, 32, 78, 79, 84, 32, 73, 83, 32, 78, 85, 76, 76, 32, 73, 78, 84, 32, 84, 69, 88, 84, 32, 66, 69, 71, 73, 78, 32, 67, 79, 77, 77, 73, 84, 32, 82, 79, 76, 76, 66, 65, 67, 75, 32, 67, 79, 85, 78, 84, 32, 83, 85, 77, 32, 77, 73, 78, 32, 77, 65, 88, 32])) (some (.c (.int .i64 i))) (some (.c (.int .i64 (IntKind.i64.wrap (i + ((w).length : Int))))))) h) fun v =>
castStr v fun x33 =>
cB (x33 == w) (
some (.ret, [(.bool true)], h)) (
self w (IntKind.i64.wrap (i + (1))) h)) (
some ((.exit 2), [], h))
noncomputable def L27_1 (lf : Nat) : Nat → List UInt8 → Int → List Ob → SubR
  | 0 => fun _ _ _ => none
  | n + 1 => B27_1 lf (L27_1 lf n)
theorem B27_1_eq (lf : Nat) (self : List UInt8 → Int → List Ob → SubR) (w : List UInt8) (i : Int) (h : List Ob) : evCK A27 ⟨call27 lf, cvN, subN⟩ k27_1 [(4, (.str w)), (5, (.int .i64 i))] h (endL [4, 5] [.str, (.int .i64)] o27_1 (w27_1 self)) = B27_1 lf self w i h := by kernel_rfl
theorem L27_1_ok (lf : Nat) : ∀ n, SubOk Go.Proofs.Try.prog (.loop k27_1.er) [4, 5] o27_1 (w27_1 (L27_1 lf n)) := by
  refine SubOk.loop (A := A27) (σ := ⟨call27 lf, cvN, subN⟩) (c := k27_1) (shs := [.str, (.int .i64)]) (G := fun n => w27_1 (L27_1 lf n)) (call27_ok lf) cvN_ok (And.intro (And.intro True.intro (And.intro True.intro True.intro)) (And.intro (And.intro True.intro (And.intro (And.intro True.intro True.intro) True.intro)) True.intro)) ?_ ?_
  · intro vs h r e0
    simp only [w27_1] at e0
    obtain ⟨c1, l1, rfl, e1⟩ := castCons_inv e0
    obtain ⟨y0, rfl, e2⟩ := castStr_inv e1
    obtain ⟨c2, l2, rfl, e3⟩ := castCons_inv e2
    obtain ⟨y1, rfl, e4⟩ := castInt_inv e3
    obtain ⟨rfl, e5⟩ := castNil_inv e4
    have e := e5
    cases e
  · intro n vs h r e0
    simp only [w27_1] at e0
    obtain ⟨c1, l1, rfl, e1⟩ := castCons_inv e0
    obtain ⟨y0, rfl, e2⟩ := castStr_inv e1
    obtain ⟨c2, l2, rfl, e3⟩ := castCons_inv e2
    obtain ⟨y1, rfl, e4⟩ := castInt_inv e3
    obtain ⟨rfl, e5⟩ := castNil_inv e4
    have e := e5
    exact (B27_1_eq lf (L27_1 lf n) y0 y1 h).trans e
def k27 : KC := (.seq (.reg [⟨(some 2), none, (.op (.mv (.c (.bool false)))), []⟩]) (.seq (.seq (.reg [⟨(some 6), none, (.op (.mv (.t 0))), []⟩, ⟨(some 7), none, (.op (.bin .eql (.t 6) (.c (.str [])))), []⟩]) (.cond (.t 7) (.seq (.reg [⟨(some 2), none, (.op (.mv (.c (.bool false)))), []⟩]) .ret) .skip)) (.seq (.seq (.reg [⟨(some 8), none, (.op (.mv (.t 0))), []⟩, ⟨(some 9), none, (.op (.lenS (.t 8))), []⟩, ⟨(some 10), none, (.op (.mv (.c (.int .i64 0)))), []⟩]) (.block 0 (.sub 0 (.loop k27_0.er) [0, 9, 10] o27_0))) (.seq (.reg [⟨(some 18), none, (.op (.mv (.t 0))), []⟩, ⟨(some 19), none, (.op (.bin .add (.c (.str [32])) (.t 18))), []⟩, ⟨(some 20), none, (.op (.bin .add (.t 19) (.c (.str [32])))), []⟩, ⟨(some 4), none, (.op (.mv (.t 20))), []⟩]) (.seq (.seq (.reg [⟨(some 5), none, (.op (.mv (.c (.int .i64 0)))), []⟩]) (.block 2 (.sub 1 (.loop k27_1.er) [4, 5] o27_1))) (.seq (.reg [⟨(some 2), none, (.op (.mv (.c (.bool false)))), []⟩]) .ret))))))
noncomputable def F27 (lf : Nat) (s : List UInt8) (h : List Ob) : Option (V × List Ob) :=
cB (s == ([] : List UInt8)) (
some ((.bool false), h)) (
bind3 (L27_0 lf lf s ((s).length : Int) (0) h) fun ex vs h_ =>
cB (decide (ex = (.exit 0))) (
castNil vs (
bind1 (er (.bin .add (.c (.str [32])) (.c (.str s))) h_) fun v =>
castStr v fun x19 =>
bind1 (er (.bin .add (.c (.str x19)) (.c (.str [32]))) h_) fun v1 =>
castStr v1 fun x20 =>
bind3 (L27_1 lf lf x20 (0) h_) fun ex1 vs1 h_1 =>
cB (decide (ex1 = (.exit 2))) (
castNil vs1 (
some ((.bool false), h_1))) (
cB (decide (ex1 = .ret)) (
castCons vs1 fun c l =>
castBool c fun x2 =>
castNil l (
some ((.bool x2), h_1))) (
none)))) (
cB (decide (ex = .ret)) (
castCons vs fun c l =>
castBool c fun x2 =>
castNil l (
some ((.bool x2), h_))) (
none)))
theorem F27_eq (lf : Nat) (s : List UInt8) (h : List Ob) : evCK A27 ⟨call27 lf, cvN, subC 1 (w27_1 (L27_1 lf lf)) (subC 0 (w27_0 (L27_0 lf lf)) (subN))⟩ k27 (entryK [(.str s)]) h (endF c27.res) = F27 lf s h := by kernel_rfl
theorem F27_ok (lf : Nat) (s : List UInt8) (h : List Ob) (r_ : V) (h_r : List Ob) (e_ : F27 lf s h = some (r_, h_r)) : CD Go.Proofs.Try.prog 27 [(.str s)] h r_ h_r :=
  CD.ofK (A := A27) (σ := ⟨call27 lf, cvN, subC 1 (w27_1 (L27_1 lf lf)) (subC 0 (w27_0 (L27_0 lf lf)) (subN))⟩) (c := k27) Go.Proofs.Try.func27 ok27 en27 (show 1 ≤ 36 by decide) (by kernel_rfl) (call27_ok lf) cvN_ok (And.intro True.intro (And.intro (And.intro True.intro (And.intro (And.intro True.intro True.intro) True.intro)) (And.intro (And.intro True.intro (L27_0_ok lf lf)) (And.intro True.intro (And.intro (And.intro True.intro (L27_1_ok lf lf)) (And.intro True.intro True.intro)))))) ((F27_eq lf s h).trans e_)
def w27 (f : List UInt8 → List Ob → Option (V × List Ob)) (vs : List V) (h : List Ob) : Option (V × List Ob) := castCons vs fun c1 l1 => castStr c1 fun n2 => castNil l1 (f n2 h)
noncomputable def W27 (lf : Nat) : List V → List Ob → Option (V × List Ob) := w27 (F27 lf)
theorem W27_ok (lf : Nat) : ∀ args h v h', W27 lf args h = some (v, h') → CD Go.Proofs.Try.prog 27 args h v h' := by
  intro vs h r h' e0
  simp only [W27, w27] at e0
  obtain ⟨c1, l1, rfl, e1⟩ := castCons_inv e0
  obtain ⟨y0, rfl, e2⟩ := castStr_inv e1
  obtain ⟨rfl, e3⟩ := castNil_inv e2
  have e := e3
  exact F27_ok lf y0 h r h' e

/-! 29: wainscot/wainscotref05.Letter -/
def A29 : List (Nat × Sh) := [(0, (.int .i32)), (2, .bool), (3, (.int .i32)), (4, .bool), (5, .bool), (6, (.int .i32)), (7, .bool), (8, .bool), (9, .bool), (10, (.int .i32)), (11, .bool), (12, .bool), (13, (.int .i32)), (14, .bool), (15, .bool), (16, .bool), (17, .bool), (18, (.int .i32)), (19, .bool), (20, .bool), (21, (.int .i32)), (22, .bool), (23, .bool), (24, .bool), (25, .bool), (26, (.int .i32)), (27, .bool), (28, .bool)]
noncomputable def call29 (lf : Nat) : CallS := callN
theorem call29_ok (lf : Nat) : CallOk Go.Proofs.Try.prog (call29 lf) := callN_ok
def k29 : KC := (.seq (.reg [⟨(some 2), none, (.op (.mv (.c (.bool false)))), []⟩]) (.seq (.reg [⟨(some 3), none, (.op (.mv (.t 0))), []⟩, ⟨(some 4), none, (.op (.bin .geq (.t 3) (.c (.int .i32 97)))), []⟩, ⟨(some 5), none, (.op (.mv (.t 4))), []⟩, ⟨(some 6), (some (5, true)), (.op (.mv (.t 0))), []⟩, ⟨(some 7), (some (5, true)), (.op (.bin .leq (.t 6) (.c (.int .i32 122)))), []⟩, ⟨(some 8), none, (.op (.pick (.t 5) (.t 7) (.c (.bool false)))), []⟩, ⟨(some 9), none, (.op (.mv (.t 8))), []⟩, ⟨(some 10), (some (9, false)), (.op (.mv (.t 0))), []⟩, ⟨(some 11), (some (9, false)), (.op (.bin .geq (.t 10) (.c (.int .i32 65)))), []⟩, ⟨(some 12), (some (9, false)), (.op (.mv (.t 11))), []⟩, ⟨(some 13), (some (12, true)), (.op (.mv (.t 0))), []⟩, ⟨(some 14), (some (12, true)), (.op (.bin .leq (.t 13) (.c (.int .i32 90)))), []⟩, ⟨(some 15), (some (9, false)), (.op (.pick (.t 12) (.t 14) (.c (.bool false)))), []⟩, ⟨(some 16), none, (.op (.pick (.t 9) (.c (.bool true)) (.t 15))), []⟩, ⟨(some 17), none, (.op (.mv (.t 16))), []⟩, ⟨(some 18), (some (17, false)), (.op (.mv (.t 0))), []⟩, ⟨(some 19), (some (17, false)), (.op (.bin .geq (.t 18) (.c (.int .i32 945)))), []⟩, ⟨(some 20), (some (17, false)), (.op (.mv (.t 19))), []⟩, ⟨(some 21), (some (20, true)), (.op (.mv (.t 0))), []⟩, ⟨(some 22), (some (20, true)), (.op (.bin .leq (.t 21) (.c (.int .i32 969)))), []⟩, ⟨(some 23), (some (17, false)), (.op (.pick (.t 20) (.t 22) (.c (.bool false)))), []⟩, ⟨(some 24), none, (.op (.pick (.t 17) (.c (.bool true)) (.t 23))), []⟩, ⟨(some 25), none, (.op (.mv (.t 24))), []⟩, ⟨(some 26), (some (25, false)), (.op (.mv (.t 0))), []⟩, ⟨(some 27), (some (25, false)), (.op (.bin .eql (.t 26) (.c (.int .i32 95)))), []⟩, ⟨(some 28), none, (.op (.pick (.t 25) (.c (.bool true)) (.t 27))), []⟩, ⟨(some 2), none, (.op (.mv (.t 28))), []⟩]) .ret))
noncomputable def F29 (lf : Nat) (r : Int) (h : List Ob) : Option (V × List Ob) :=
cB (decide (r ≥ (97))) (
cB (decide (r ≤ (122))) (
some ((.bool true), h)) (
cB (decide (r ≥ (65))) (
cB (decide (r ≤ (90))) (
some ((.bool true), h)) (
cB (decide (r ≥ (945))) (
cB (decide (r ≤ (969))) (
some ((.bool true), h)) (
some ((.bool (r == (95))), h))) (
some ((.bool (r == (95))), h)))) (
cB (decide (r ≥ (945))) (
cB (decide (r ≤ (969))) (
some ((.bool true), h)) (
some ((.bool (r == (95))), h))) (
some ((.bool (r == (95))), h))))) (
cB (decide (r ≥ (65))) (
cB (decide (r ≤ (90))) (
some ((.bool true), h)) (
cB (decide (r ≥ (945))) (
cB (decide (r ≤ (969))) (
some ((.bool true), h)) (
some ((.bool (r == (95))), h))) (
some ((.bool (r == (95))), h)))) (
cB (decide (r ≥ (945))) (
cB (decide (r ≤ (969))) (
some ((.bool true), h)) (
some ((.bool (r == (95))), h))) (
some ((.bool (r == (95))), h))))
theorem F29_eq (lf : Nat) (r : Int) (h : List Ob) : evCK A29 ⟨call29 lf, cvN, subN⟩ k29 (entryK [(.int .i32 r)]) h (endF c29.res) = F29 lf r h := by kernel_rfl
theorem F29_ok (lf : Nat) (r : Int) (h : List Ob) (r_ : V) (h_r : List Ob) (e_ : F29 lf r h = some (r_, h_r)) : CD Go.Proofs.Try.prog 29 [(.int .i32 r)] h r_ h_r :=
  CD.ofK (A := A29) (σ := ⟨call29 lf, cvN, subN⟩) (c := k29) Go.Proofs.Try.func29 ok29 en29 (show 1 ≤ 29 by decide) (by kernel_rfl) (call29_ok lf) cvN_ok (And.intro True.intro (And.intro True.intro True.intro)) ((F29_eq lf r h).trans e_)
def w29 (f : Int → List Ob → Option (V × List Ob)) (vs : List V) (h : List Ob) : Option (V × List Ob) := castCons vs fun c1 l1 => castInt .i32 c1 fun n2 => castNil l1 (f n2 h)
noncomputable def W29 (lf : Nat) : List V → List Ob → Option (V × List Ob) := w29 (F29 lf)
theorem W29_ok (lf : Nat) : ∀ args h v h', W29 lf args h = some (v, h') → CD Go.Proofs.Try.prog 29 args h v h' := by
  intro vs h r h' e0
  simp only [W29, w29] at e0
  obtain ⟨c1, l1, rfl, e1⟩ := castCons_inv e0
  obtain ⟨y0, rfl, e2⟩ := castInt_inv e1
  obtain ⟨rfl, e3⟩ := castNil_inv e2
  have e := e3
  exact F29_ok lf y0 h r h' e

/-! 86: wainscot/wainscotref05.digit -/
def A86 : List (Nat × Sh) := [(0, (.int .i32)), (2, .bool), (3, (.int .i32)), (4, .bool), (5, .bool), (6, (.int .i32)), (7, .bool), (8, .bool)]
noncomputable def call86 (lf : Nat) : CallS := callN
theorem call86_ok (lf : Nat) : CallOk Go.Proofs.Try.prog (call86 lf) := callN_ok
def k86 : KC := (.seq (.reg [⟨(some 2), none, (.op (.mv (.c (.bool false)))), []⟩]) (.seq (.reg [⟨(some 3), none, (.op (.mv (.t 0))), []⟩, ⟨(some 4), none, (.op (.bin .geq (.t 3) (.c (.int .i32 48)))), []⟩, ⟨(some 5), none, (.op (.mv (.t 4))), []⟩, ⟨(some 6), (some (5, true)), (.op (.mv (.t 0))), []⟩, ⟨(some 7), (some (5, true)), (.op (.bin .leq (.t 6) (.c (.int .i32 57)))), []⟩, ⟨(some 8), none, (.op (.pick (.t 5) (.t 7) (.c (.bool false)))), []⟩, ⟨(some 2), none, (.op (.mv (.t 8))), []⟩]) .ret))
noncomputable def F86 (lf : Nat) (r : Int) (h : List Ob) : Option (V × List Ob) :=
cB (decide (r ≥ (48))) (
some ((.bool (decide (r ≤ (57)))), h)) (
some ((.bool false), h))
theorem F86_eq (lf : Nat) (r : Int) (h : List Ob) : evCK A86 ⟨call86 lf, cvN, subN⟩ k86 (entryK [(.int .i32 r)]) h (endF c86.res) = F86 lf r h := by kernel_rfl
theorem F86_ok (lf : Nat) (r : Int) (h : List Ob) (r_ : V) (h_r : List Ob) (e_ : F86 lf r h = some (r_, h_r)) : CD Go.Proofs.Try.prog 86 [(.int .i32 r)] h r_ h_r :=
  CD.ofK (A := A86) (σ := ⟨call86 lf, cvN, subN⟩) (c := k86) Go.Proofs.Try.func86 ok86 en86 (show 1 ≤ 9 by decide) (by kernel_rfl) (call86_ok lf) cvN_ok (And.intro True.intro (And.intro True.intro True.intro)) ((F86_eq lf r h).trans e_)
def w86 (f : Int → List Ob → Option (V × List Ob)) (vs : List V) (h : List Ob) : Option (V × List Ob) := castCons vs fun c1 l1 => castInt .i32 c1 fun n2 => castNil l1 (f n2 h)
noncomputable def W86 (lf : Nat) : List V → List Ob → Option (V × List Ob) := w86 (F86 lf)
theorem W86_ok (lf : Nat) : ∀ args h v h', W86 lf args h = some (v, h') → CD Go.Proofs.Try.prog 86 args h v h' := by
  intro vs h r h' e0
  simp only [W86, w86] at e0
  obtain ⟨c1, l1, rfl, e1⟩ := castCons_inv e0
  obtain ⟨y0, rfl, e2⟩ := castInt_inv e1
  obtain ⟨rfl, e3⟩ := castNil_inv e2
  have e := e3
  exact F86_ok lf y0 h r h' e

/-! 59: wainscot/wainscotref05.named -/
def A59 : List (Nat × Sh) := [(0, .str), (2, .bool), (3, (.int .i64)), (5, (.int .i32)), (6, .str), (9, .bool), (10, (.int .i32)), (11, (.int .i32)), (12, .bool), (13, .bool), (14, .bool), (15, (.int .i64)), (16, .bool), (17, .bool), (18, (.int .i32)), (19, .bool), (20, .bool), (21, .bool), (22, .bool), (23, (.int .i64)), (24, (.int .i64)), (25, (.int .i64)), (26, .bool), (27, .bool), (28, (.int .i64)), (29, .bool), (30, .bool)]
noncomputable def call59 (lf : Nat) : CallS := callC 86 (W86 lf) (callC 29 (W29 lf) (callN))
theorem call59_ok (lf : Nat) : CallOk Go.Proofs.Try.prog (call59 lf) := callC_ok (W86_ok lf) (callC_ok (W29_ok lf) (callN_ok))
def o59_0 : Outs := [((.exit 0), [3], [(.int .i64)]), (.ret, [2], [.bool])]
def k59_0 : KC := (.seq (.reg [⟨(some 8), none, (.op (.nextS (.t 7))), []⟩, ⟨(some 9), none, (.op (.ext 0 (.t 8))), []⟩]) (.seq (.cond (.t 9) .skip (.exit 0)) (.block 1 (.seq (.reg [⟨(some 10), none, (.op (.ext 2 (.t 8))), []⟩, ⟨(some 5), none, (.op (.mv (.t 10))), []⟩]) (.seq (.seq (.reg [⟨(some 11), none, (.op (.mv (.t 5))), []⟩, ⟨(some 12), none, (.call 29 [(.t 11)]), []⟩, ⟨(some 13), none, (.op (.un .not (.t 12))), []⟩, ⟨(some 14), none, (.op (.mv (.t 13))), []⟩, ⟨(some 15), (some (14, true)), (.op (.mv (.t 3))), []⟩, ⟨(some 16), (some (14, true)), (.op (.bin .eql (.t 15) (.c (.int .i64 0)))), []⟩, ⟨(some 17), (some (14, true)), (.op (.mv (.t 16))), []⟩, ⟨(some 18), (some (17, false)), (.op (.mv (.t 5))), []⟩, ⟨(some 19), (some (17, false)), (.call 86 [(.t 18)]), []⟩, ⟨(some 20), (some (17, false)), (.op (.un .not (.t 19))), []⟩, ⟨(some 21), (some (14, true)), (.op (.pick (.t 17) (.c (.bool true)) (.t 20))), []⟩, ⟨(some 22), none, (.op (.pick (.t 14) (.t 21) (.c (.bool false)))), []⟩]) (.cond (.t 22) (.seq (.reg [⟨(some 2), none, (.op (.mv (.c (.bool false)))), []⟩]) .ret) .skip)) (.reg [⟨(some 23), none, (.op (.mv (.t 3))), []⟩, ⟨(some 24), none, (.op (.bin .add (.t 23) (.c (.int .i64 1)))), []⟩, ⟨(some 3), none, (.op (.mv (.t 24))), []⟩]))))))
def w59_0 (f : Int → V → List Ob → SubR) (vs : List V) (h : List Ob) : SubR := castCons vs fun c1 l1 => castInt .i64 c1 fun n2 => castCons l1 fun c3 l3 => castNil l3 (f n2 c3 h)
noncomputable def B59_0 (lf : Nat) (self : Int → V → List Ob → SubR) (n_ : Int) (x7 : V) (h : List Ob) : SubR :=
bind2 (ev (.nextS (.c x7)) h) fun x8 h_ =>
bind1 (er (.ext 0 (.c x8)) h_) fun v =>
castBool v fun x9 =>
cB x9 (
bind1 (er (.ext 2 (.c x8)) h_) fun v1 =>
castInt .i32 v1 fun x10 =>
bind2 (F29 lf x10 h_) fun v2 h_1 =>
castBool v2 fun x12 =>
cB (!x12) (
cB (n_ == (0)) (
some (.ret, [(.bool false)], h_1)) (
bind2 (F86 lf x10 h_1) fun v3 h_2 =>
castBool v3 fun x19 =>
cB (!x19) (
some (.ret, [(.bool false)], h_2)) (
self (IntKind.i64.wrap (n_ + (1))) x7 h_2))) (
self (IntKind.i64.wrap (n_ + (1))) x7 h_1)) (
some ((.exit 0), [(.int .i64 n_)], h_))
noncomputable def L59_0 (lf : Nat) : Nat → Int → V → List Ob → SubR
  | 0 => fun _ _ _ => none
  | n + 1 => B59_0 lf (L59_0 lf n)
theorem B59_0_eq (lf : Nat) (self : Int → V → List Ob → SubR) (n_ : Int) (x7 : V) (h : List Ob) : evCK A59 ⟨call59 lf, cvN, subN⟩ k59_0 [(3, (.int .i64 n_)), (7, x7)] h (endL [3, 7] [(.int .i64), .any] o59_0 (w59_0 self)) = B59_0 lf self n_ x7 h := by kernel_rfl
theorem L59_0_ok (lf : Nat) : ∀ n, SubOk Go.Proofs.Try.prog (.loop k59_0.er) [3, 7] o59_0 (w59_0 (L59_0 lf n)) := by
  refine SubOk.loop (A := A59) (σ := ⟨call59 lf, cvN, subN⟩) (c := k59_0) (shs := [(.int .i64), .any]) (G := fun n => w59_0 (L59_0 lf n)) (call59_ok lf) cvN_ok (And.intro True.intro (And.intro (And.intro True.intro True.intro) (And.intro True.intro (And.intro (And.intro True.intro (And.intro (And.intro True.intro True.intro) True.intro)) True.intro)))) ?_ ?_
  · intro vs h r e0
    simp only [w59_0] at e0
    obtain ⟨c1, l1, rfl, e1⟩ := castCons_inv e0
    obtain ⟨y0, rfl, e2⟩ := castInt_inv e1
    obtain ⟨c2, l2, rfl, e3⟩ := castCons_inv e2
    obtain ⟨rfl, e4⟩ := castNil_inv e3
    have e := e4
    cases e
  · intro n vs h r e0
    simp only [w59_0] at e0
    obtain ⟨c1, l1, rfl, e1⟩ := castCons_inv e0
    obtain ⟨y0, rfl, e2⟩ := castInt_inv e1
    obtain ⟨c2, l2, rfl, e3⟩ := castCons_inv e2
    obtain ⟨rfl, e4⟩ := castNil_inv e3
    have e := e4
    exact (B59_0_eq lf (L59_0 lf n) y0 c2 h).trans e
def k59 : KC := (.seq (.reg [⟨(some 2), none, (.op (.mv (.c (.bool false)))), []⟩]) (.seq (.reg [⟨(some 3), none, (.op (.mv (.c (.int .i64 0)))), []⟩]) (.seq (.seq (.reg [⟨(some 6), none, (.op (.mv (.t 0))), []⟩, ⟨(some 7), none, (.op (.rangeS (.t 6))), []⟩]) (.block 0 (.sub 0 (.loop k59_0.er) [3, 7] o59_0))) (.seq (.reg [⟨(some 25), none, (.op (.mv (.t 3))), []⟩, ⟨(some 26), none, (.op (.bin .gtr (.t 25) (.c (.int .i64 0)))), []⟩, ⟨(some 27), none, (.op (.mv (.t 26))), []⟩, ⟨(some 28), (some (27, true)), (.op (.mv (.t 3))), []⟩, ⟨(some 29), (some (27, true)), (.op (.bin .leq (.t 28) (.c (.int .i64 16)))), []⟩, ⟨(some 30), none, (.op (.pick (.t 27) (.t 29) (.c (.bool false)))), []⟩, ⟨(some 2), none, (.op (.mv (.t 30))), []⟩]) .ret))))
noncomputable def F59 (lf : Nat) (s : List UInt8) (h : List Ob) : Option (V × List Ob) :=
bind2 (ev (.rangeS (.c (.str s))) h) fun x7 h_ =>
bind3 (L59_0 lf lf (0) x7 h_) fun ex vs h_1 =>
cB (decide (ex = (.exit 0))) (
castCons vs fun c l =>
castInt .i64 c fun n_ =>
castNil l (
cB (decide (n_ > (0))) (
some ((.bool (decide (n_ ≤ (16)))), h_1)) (
some ((.bool false), h_1)))) (
cB (decide (ex = .ret)) (
castCons vs fun c l =>
castBool c fun x2 =>
castNil l (
some ((.bool x2), h_1))) (
none))
theorem F59_eq (lf : Nat) (s : List UInt8) (h : List Ob) : evCK A59 ⟨call59 lf, cvN, subC 0 (w59_0 (L59_0 lf lf)) (subN)⟩ k59 (entryK [(.str s)]) h (endF c59.res) = F59 lf s h := by kernel_rfl
theorem F59_ok (lf : Nat) (s : List UInt8) (h : List Ob) (r_ : V) (h_r : List Ob) (e_ : F59 lf s h = some (r_, h_r)) : CD Go.Proofs.Try.prog 59 [(.str s)] h r_ h_r :=
  CD.ofK (A := A59) (σ := ⟨call59 lf, cvN, subC 0 (w59_0 (L59_0 lf lf)) (subN)⟩) (c := k59) Go.Proofs.Try.func59 ok59 en59 (show 1 ≤ 31 by decide) (by kernel_rfl) (call59_ok lf) cvN_ok (And.intro True.intro (And.intro True.intro (And.intro (And.intro True.intro (L59_0_ok lf lf)) (And.intro True.intro True.intro)))) ((F59_eq lf s h).trans e_)
def w59 (f : List UInt8 → List Ob → Option (V × List Ob)) (vs : List V) (h : List Ob) : Option (V × List Ob) := castCons vs fun c1 l1 => castStr c1 fun n2 => castNil l1 (f n2 h)
noncomputable def W59 (lf : Nat) : List V → List Ob → Option (V × List Ob) := w59 (F59 lf)
theorem W59_ok (lf : Nat) : ∀ args h v h', W59 lf args h = some (v, h') → CD Go.Proofs.Try.prog 59 args h v h' := by
  intro vs h r h' e0
  simp only [W59, w59] at e0
  obtain ⟨c1, l1, rfl, e1⟩ := castCons_inv e0
  obtain ⟨y0, rfl, e2⟩ := castStr_inv e1
  obtain ⟨rfl, e3⟩ := castNil_inv e2
  have e := e3
  exact F59_ok lf y0 h r h' e

/-! 25: wainscot/wainscotref05.Name -/
def A25 : List (Nat × Sh) := [(0, .str), (2, .bool), (3, .str), (4, .bool), (5, .bool), (6, .str), (7, .bool), (8, .bool), (9, .bool)]
noncomputable def call25 (lf : Nat) : CallS := callC 59 (W59 lf) (callC 27 (W27 lf) (callN))
theorem call25_ok (lf : Nat) : CallOk Go.Proofs.Try.prog (call25 lf) := callC_ok (W59_ok lf) (callC_ok (W27_ok lf) (callN_ok))
def k25 : KC := (.seq (.reg [⟨(some 2), none, (.op (.mv (.c (.bool false)))), []⟩]) (.seq (.reg [⟨(some 3), none, (.op (.mv (.t 0))), []⟩, ⟨(some 4), none, (.call 59 [(.t 3)]), []⟩, ⟨(some 5), none, (.op (.mv (.t 4))), []⟩, ⟨(some 6), (some (5, true)), (.op (.mv (.t 0))), []⟩, ⟨(some 7), (some (5, true)), (.call 27 [(.t 6)]), []⟩, ⟨(some 8), (some (5, true)), (.op (.un .not (.t 7))), []⟩, ⟨(some 9), none, (.op (.pick (.t 5) (.t 8) (.c (.bool false)))), []⟩, ⟨(some 2), none, (.op (.mv (.t 9))), []⟩]) .ret))
noncomputable def F25 (lf : Nat) (s : List UInt8) (h : List Ob) : Option (V × List Ob) :=
bind2 (F59 lf s h) fun v h_ =>
castBool v fun x4 =>
cB x4 (
bind2 (F27 lf s h_) fun v1 h_1 =>
castBool v1 fun x7 =>
some ((.bool (!x7)), h_1)) (
some ((.bool false), h_))
theorem F25_eq (lf : Nat) (s : List UInt8) (h : List Ob) : evCK A25 ⟨call25 lf, cvN, subN⟩ k25 (entryK [(.str s)]) h (endF c25.res) = F25 lf s h := by kernel_rfl
theorem F25_ok (lf : Nat) (s : List UInt8) (h : List Ob) (r_ : V) (h_r : List Ob) (e_ : F25 lf s h = some (r_, h_r)) : CD Go.Proofs.Try.prog 25 [(.str s)] h r_ h_r :=
  CD.ofK (A := A25) (σ := ⟨call25 lf, cvN, subN⟩) (c := k25) Go.Proofs.Try.func25 ok25 en25 (show 1 ≤ 10 by decide) (by kernel_rfl) (call25_ok lf) cvN_ok (And.intro True.intro (And.intro True.intro True.intro)) ((F25_eq lf s h).trans e_)
def w25 (f : List UInt8 → List Ob → Option (V × List Ob)) (vs : List V) (h : List Ob) : Option (V × List Ob) := castCons vs fun c1 l1 => castStr c1 fun n2 => castNil l1 (f n2 h)
noncomputable def W25 (lf : Nat) : List V → List Ob → Option (V × List Ob) := w25 (F25 lf)
theorem W25_ok (lf : Nat) : ∀ args h v h', W25 lf args h = some (v, h') → CD Go.Proofs.Try.prog 25 args h v h' := by
  intro vs h r h' e0
  simp only [W25, w25] at e0
  obtain ⟨c1, l1, rfl, e1⟩ := castCons_inv e0
  obtain ⟨y0, rfl, e2⟩ := castStr_inv e1
  obtain ⟨rfl, e3⟩ := castNil_inv e2
  have e := e3
  exact F25_ok lf y0 h r h' e

/-! 6: wainscot/wainscotlaw05.LexerNames -/
def A6 : List (Nat × Sh) := [(0, .str), (1, (.int .i32)), (4, .bool), (5, .bool), (6, .bool), (7, .str), (8, .bool), (9, .str), (10, .bool), (11, .bool), (12, .bool), (13, .str), (14, .bool), (15, .str), (16, .bool), (17, .bool), (18, .bool), (19, .bool), (20, (.int .i32)), (21, .bool), (22, (.int .i32)), (23, .bool), (24, .bool), (25, .bool)]
noncomputable def call6 (lf : Nat) : CallS := callC 29 (W29 lf) (callC 28 (W28 lf) (callC 27 (W27 lf) (callC 26 (W26 lf) (callC 25 (W25 lf) (callC 24 (W24 lf) (callC 20 (W20 lf) (callN)))))))
theorem call6_ok (lf : Nat) : CallOk Go.Proofs.Try.prog (call6 lf) := callC_ok (W29_ok lf) (callC_ok (W28_ok lf) (callC_ok (W27_ok lf) (callC_ok (W26_ok lf) (callC_ok (W25_ok lf) (callC_ok (W24_ok lf) (callC_ok (W20_ok lf) (callN_ok)))))))
def k6 : KC := (.seq (.reg [⟨(some 4), none, (.op (.mv (.c (.bool false)))), []⟩]) (.seq (.seq (.reg [⟨(some 5), none, (.call 20 []), []⟩, ⟨(some 6), none, (.op (.un .not (.t 5))), []⟩]) (.cond (.t 6) (.seq (.reg [⟨(some 4), none, (.op (.mv (.c (.bool false)))), []⟩]) .ret) .skip)) (.seq (.reg [⟨(some 7), none, (.op (.mv (.t 0))), []⟩, ⟨(some 8), none, (.call 24 [(.t 7)]), []⟩, ⟨(some 9), none, (.op (.mv (.t 0))), []⟩, ⟨(some 10), none, (.call 25 [(.t 9)]), []⟩, ⟨(some 11), none, (.op (.eq false .bool (.t 8) (.t 10))), []⟩, ⟨(some 12), none, (.op (.mv (.t 11))), []⟩, ⟨(some 13), (some (12, true)), (.op (.mv (.t 0))), []⟩, ⟨(some 14), (some (12, true)), (.call 26 [(.t 13)]), []⟩, ⟨(some 15), (some (12, true)), (.op (.mv (.t 0))), []⟩, ⟨(some 16), (some (12, true)), (.call 27 [(.t 15)]), []⟩, ⟨(some 17), (some (12, true)), (.op (.eq false .bool (.t 14) (.t 16))), []⟩, ⟨(some 18), none, (.op (.pick (.t 12) (.t 17) (.c (.bool false)))), []⟩, ⟨(some 19), none, (.op (.mv (.t 18))), []⟩, ⟨(some 20), (some (19, true)), (.op (.mv (.t 1))), []⟩, ⟨(some 21), (some (19, true)), (.call 28 [(.t 20)]), []⟩, ⟨(some 22), (some (19, true)), (.op (.mv (.t 1))), []⟩, ⟨(some 23), (some (19, true)), (.call 29 [(.t 22)]), []⟩, ⟨(some 24), (some (19, true)), (.op (.eq false .bool (.t 21) (.t 23))), []⟩, ⟨(some 25), none, (.op (.pick (.t 19) (.t 24) (.c (.bool false)))), []⟩, ⟨(some 4), none, (.op (.mv (.t 25))), []⟩]) .ret)))
noncomputable def F6 (lf : Nat) (s : List UInt8) (r : Int) (h : List Ob) : Option (V × List Ob) :=
bind2 (F20 lf h) fun v h_ =>
castBool v fun x5 =>
cB (!x5) (
some ((.bool false), h_)) (
bind2 (F24 lf s h_) fun v1 h_1 =>
castBool v1 fun x8 =>
bind2 (F25 lf s h_1) fun v2 h_2 =>
castBool v2 fun x10 =>
cB (x8 == x10) (
bind2 (F26 lf s h_2) fun v3 h_3 =>
castBool v3 fun x14 =>
bind2 (F27 lf s h_3) fun v4 h_4 =>
castBool v4 fun x16 =>
cB (x14 == x16) (
bind2 (F28 lf r h_4) fun v5 h_5 =>
castBool v5 fun x21 =>
bind2 (F29 lf r h_5) fun v6 h_6 =>
castBool v6 fun x23 =>
some ((.bool (x21 == x23)), h_6)) (
some ((.bool false), h_4))) (
some ((.bool false), h_2)))
theorem F6_eq (lf : Nat) (s : List UInt8) (r : Int) (h : List Ob) : evCK A6 ⟨call6 lf, cvN, subN⟩ k6 (entryK [(.str s), (.int .i32 r)]) h (endF c6.res) = F6 lf s r h := by kernel_rfl
theorem F6_ok (lf : Nat) (s : List UInt8) (r : Int) (h : List Ob) (r_ : V) (h_r : List Ob) (e_ : F6 lf s r h = some (r_, h_r)) : CD Go.Proofs.Try.prog 6 [(.str s), (.int .i32 r)] h r_ h_r :=
  CD.ofK (A := A6) (σ := ⟨call6 lf, cvN, subN⟩) (c := k6) Go.Proofs.Try.func6 ok6 en6 (show 2 ≤ 26 by decide) (by kernel_rfl) (call6_ok lf) cvN_ok (And.intro True.intro (And.intro (And.intro True.intro (And.intro (And.intro True.intro True.intro) True.intro)) (And.intro True.intro True.intro))) ((F6_eq lf s r h).trans e_)
def w6 (f : List UInt8 → Int → List Ob → Option (V × List Ob)) (vs : List V) (h : List Ob) : Option (V × List Ob) := castCons vs fun c1 l1 => castStr c1 fun n2 => castCons l1 fun c3 l3 => castInt .i32 c3 fun n4 => castNil l3 (f n2 n4 h)
noncomputable def W6 (lf : Nat) : List V → List Ob → Option (V × List Ob) := w6 (F6 lf)
theorem W6_ok (lf : Nat) : ∀ args h v h', W6 lf args h = some (v, h') → CD Go.Proofs.Try.prog 6 args h v h' := by
  intro vs h r h' e0
  simp only [W6, w6] at e0
  obtain ⟨c1, l1, rfl, e1⟩ := castCons_inv e0
  obtain ⟨y0, rfl, e2⟩ := castStr_inv e1
  obtain ⟨c2, l2, rfl, e3⟩ := castCons_inv e2
  obtain ⟨y1, rfl, e4⟩ := castInt_inv e3
  obtain ⟨rfl, e5⟩ := castNil_inv e4
  have e := e5
  exact F6_ok lf y0 y1 h r h' e

end Go.Proofs.Ytbjphicipgneaaa.Ln
