/- Functions of the program as Lean functions, and that each call comes to what its function says. Printed by my own tool. No condition. -/
import Derived.Test.YtbjphicipgneaaaDk
import Derived.Test.YtbjphicipgneaaaL3
namespace Go.Proofs.Ytbjphicipgneaaa.Dk
open Go Go.Proofs.Ytbjphicipgneaaa.E
set_option maxRecDepth 100000
set_option linter.unusedVariables false
set_option linter.unusedSimpArgs false

/-! 12: wainscot/disk.New -/
def A12 : List (Nat × Sh) := [(0, (.int .i64)), (3, (.int .i64)), (4, (.int .i64)), (5, (.agg [.any, .any, .any, .any, .any, .any, (.int .i64), (.int .i64), .bool]))]
noncomputable def call12 (lf : Nat) : CallS := callN
theorem call12_ok (lf : Nat) : CallOk Go.Proofs.Try.prog (call12 lf) := callN_ok
def k12 : KC := (.seq (.reg [⟨(some 2), none, (.op (.mv (.c .nilp))), []⟩]) (.seq (.reg [⟨(some 3), none, (.op (.mv (.t 0))), []⟩, ⟨(some 4), none, (.op (.minmax true (.t 3) (.c (.int .i64 0)))), []⟩, ⟨(some 5), none, (.op (.build [.nils, .nils, .nilm, .nils, .nils, .nilm, (.int .i64 0), (.int .i64 0), (.bool false)] [(6, (1, (.t 4))), (7, (1, (.c (.int .i64 (-0 - 1)))))])), []⟩, ⟨(some 6), none, (.op (.box false (.t 5))), []⟩, ⟨(some 2), none, (.op (.mv (.t 6))), []⟩]) .ret))
noncomputable def F12 (lf : Nat) (room : Int) (h : List Ob) : Option (V × List Ob) :=
bind1 (er (.build [.nils, .nils, .nilm, .nils, .nils, .nilm, (.int .i64 0), (.int .i64 0), (.bool false)] [(6, (1, (.c (.int .i64 (if (0) > room then (0) else room))))), (7, (1, (.c (.int .i64 (-1)))))]) h) fun v =>
castAgg v fun l =>
castCons l fun x5_0 l1 =>
castCons l1 fun x5_1 l2 =>
castCons l2 fun x5_2 l3 =>
castCons l3 fun x5_3 l4 =>
castCons l4 fun x5_4 l5 =>
castCons l5 fun x5_5 l6 =>
castCons l6 fun c l7 =>
castInt .i64 c fun x5_6 =>
castCons l7 fun c1 l8 =>
castInt .i64 c1 fun x5_7 =>
castCons l8 fun c2 l9 =>
castBool c2 fun x5_8 =>
castNil l9 (
bind2 (ev (.box false (.c (.agg [x5_0, x5_1, x5_2, x5_3, x5_4, x5_5, (.int .i64 x5_6), (.int .i64 x5_7), (.bool x5_8)]))) h) fun x6 h_ =>
some (x6, h_))
theorem F12_eq (lf : Nat) (room : Int) (h : List Ob) : evCK A12 ⟨call12 lf, cvN, subN⟩ k12 (entryK [(.int .i64 room)]) h (endF c12.res) = F12 lf room h := by kernel_rfl
theorem F12_ok (lf : Nat) (room : Int) (h : List Ob) (r_ : V) (h_r : List Ob) (e_ : F12 lf room h = some (r_, h_r)) : CD Go.Proofs.Try.prog 12 [(.int .i64 room)] h r_ h_r :=
  CD.ofK (A := A12) (σ := ⟨call12 lf, cvN, subN⟩) (c := k12) Go.Proofs.Try.func12 ok12 en12 (show 1 ≤ 7 by decide) (by kernel_rfl) (call12_ok lf) cvN_ok (And.intro True.intro (And.intro True.intro True.intro)) ((F12_eq lf room h).trans e_)
def w12 (f : Int → List Ob → Option (V × List Ob)) (vs : List V) (h : List Ob) : Option (V × List Ob) := castCons vs fun c1 l1 => castInt .i64 c1 fun n2 => castNil l1 (f n2 h)
noncomputable def W12 (lf : Nat) : List V → List Ob → Option (V × List Ob) := w12 (F12 lf)
theorem W12_ok (lf : Nat) : ∀ args h v h', W12 lf args h = some (v, h') → CD Go.Proofs.Try.prog 12 args h v h' := by
  intro vs h r h' e0
  simp only [W12, w12] at e0
  obtain ⟨c1, l1, rfl, e1⟩ := castCons_inv e0
  obtain ⟨y0, rfl, e2⟩ := castInt_inv e1
  obtain ⟨rfl, e3⟩ := castNil_inv e2
  have e := e3
  exact F12_ok lf y0 h r h' e

/-! 15: (*wainscot/disk.Disk).Size -/
def A15 : List (Nat × Sh) := [(1, (.int .i64)), (4, (.int .i64)), (6, .bool), (7, .bool), (8, (.int .i64)), (9, .bool), (10, .bool), (11, .bool), (12, (.int .i64)), (13, .bool), (14, .bool), (16, (.int .i64)), (22, (.int .i64))]
noncomputable def call15 (lf : Nat) : CallS := callN
theorem call15_ok (lf : Nat) : CallOk Go.Proofs.Try.prog (call15 lf) := callN_ok
def o15_0 : Outs := [(.ret, [4], [(.int .i64)]), (.normal, [], [])]
def k15_0 : KC := (.seq (.reg [⟨(some 5), none, (.op (.mv (.t 0))), []⟩, ⟨(some 6), none, (.op (.eq false .ptr (.t 5) (.c .nilp))), []⟩, ⟨(some 7), none, (.op (.mv (.t 6))), []⟩, ⟨(some 8), (some (7, false)), (.op (.mv (.t 1))), []⟩, ⟨(some 9), (some (7, false)), (.op (.bin .lss (.t 8) (.c (.int .i64 0)))), []⟩, ⟨(some 10), none, (.op (.pick (.t 7) (.c (.bool true)) (.t 9))), []⟩, ⟨(some 11), none, (.op (.mv (.t 10))), []⟩, ⟨(some 12), (some (11, false)), (.op (.mv (.t 1))), []⟩, ⟨(some 13), (some (11, false)), (.op (.bin .geq (.t 12) (.c (.int .i64 2)))), []⟩, ⟨(some 14), none, (.op (.pick (.t 11) (.c (.bool true)) (.t 13))), []⟩]) (.cond (.t 14) (.seq (.reg [⟨(some 4), none, (.op (.mv (.c (.int .i64 0)))), []⟩]) .ret) .skip))
def w15_0 (f : V → Int → List Ob → SubR) (vs : List V) (h : List Ob) : SubR := castCons vs fun c1 l1 => castCons l1 fun c2 l2 => castInt .i64 c2 fun n3 => castNil l2 (f c1 n3 h)
noncomputable def S15_0 (lf : Nat) (d : V) (n_ : Int) (h : List Ob) : SubR :=
bind1 (er (.eq false .ptr (.c d) (.c V.nilp)) h) fun v =>
castBool v fun x6 =>
cB x6 (
some (.ret, [(.int .i64 (0))], h)) (
cB (decide (n_ < (0))) (
some (.ret, [(.int .i64 (0))], h)) (
cB (decide (n_ ≥ (2))) (
some (.ret, [(.int .i64 (0))], h)) (
some (.normal, [], h))))
theorem S15_0_eq (lf : Nat) (d : V) (n_ : Int) (h : List Ob) : evCK A15 ⟨call15 lf, cvN, subN⟩ k15_0 [(0, d), (1, (.int .i64 n_))] h (endK o15_0) = S15_0 lf d n_ h := by kernel_rfl
theorem S15_0_ok (lf : Nat) : SubOk Go.Proofs.Try.prog k15_0.er [0, 1] o15_0 (w15_0 (S15_0 lf)) := by
  refine SubOk.of (A := A15) (σ := ⟨call15 lf, cvN, subN⟩) (c := k15_0) (call15_ok lf) cvN_ok (And.intro True.intro (And.intro (And.intro True.intro True.intro) True.intro)) ?_
  intro vs h r e0
  simp only [w15_0] at e0
  obtain ⟨c1, l1, rfl, e1⟩ := castCons_inv e0
  obtain ⟨c2, l2, rfl, e2⟩ := castCons_inv e1
  obtain ⟨y1, rfl, e3⟩ := castInt_inv e2
  obtain ⟨rfl, e4⟩ := castNil_inv e3
  have e := e4
  exact (S15_0_eq lf c1 y1 h).trans e
def k15 : KC := (.seq (.reg [⟨(some 4), none, (.op (.mv (.c (.int .i64 0)))), []⟩]) (.seq (.sub 0 k15_0.er [0, 1] o15_0) (.seq (.reg [⟨(some 15), none, (.op (.mv (.t 0))), []⟩, ⟨(some 16), none, (.op (.mv (.t 1))), []⟩, ⟨(some 17), none, (.op (.nilck (.t 15))), []⟩, ⟨(some 18), none, (.op (.faddr 0 (.t 17))), []⟩, ⟨(some 19), none, (.op (.iaddrA 2 3 (.t 18) (.t 16))), []⟩, ⟨(some 20), none, (.op (.faddr 0 (.t 19))), []⟩, ⟨(some 21), none, (.op (.load1 (.t 20))), []⟩, ⟨(some 22), none, (.op (.lenL (.t 21))), []⟩, ⟨(some 4), none, (.op (.mv (.t 22))), []⟩]) .ret)))
noncomputable def F15 (lf : Nat) (d : V) (n_ : Int) (h : List Ob) : Option (V × List Ob) :=
bind3 (S15_0 lf d n_ h) fun ex vs h_ =>
cB (decide (ex = .ret)) (
castCons vs fun c l =>
castInt .i64 c fun x4 =>
castNil l (
some ((.int .i64 x4), h_))) (
cB (decide (ex = .normal)) (
castNil vs (
bind1 (er (.nilck (.c d)) h_) fun x17 =>
bind1 (er (.faddr 0 (.c x17)) h_) fun x18 =>
bind1 (er (.iaddrA 2 3 (.c x18) (.c (.int .i64 n_))) h_) fun x19 =>
bind1 (er (.faddr 0 (.c x19)) h_) fun x20 =>
bind1 (er (.load1 (.c x20)) h_) fun x21 =>
bind1 (er (.lenL (.c x21)) h_) fun v =>
castInt .i64 v fun x22 =>
some ((.int .i64 x22), h_))) (
none))
theorem F15_eq (lf : Nat) (d : V) (n_ : Int) (h : List Ob) : evCK A15 ⟨call15 lf, cvN, subC 0 (w15_0 (S15_0 lf)) (subN)⟩ k15 (entryK [d, (.int .i64 n_)]) h (endF c15.res) = F15 lf d n_ h := by kernel_rfl
theorem F15_ok (lf : Nat) (d : V) (n_ : Int) (h : List Ob) (r_ : V) (h_r : List Ob) (e_ : F15 lf d n_ h = some (r_, h_r)) : CD Go.Proofs.Try.prog 15 [d, (.int .i64 n_)] h r_ h_r :=
  CD.ofK (A := A15) (σ := ⟨call15 lf, cvN, subC 0 (w15_0 (S15_0 lf)) (subN)⟩) (c := k15) Go.Proofs.Try.func15 ok15 en15 (show 2 ≤ 23 by decide) (by kernel_rfl) (call15_ok lf) cvN_ok (And.intro True.intro (And.intro (S15_0_ok lf) (And.intro True.intro True.intro))) ((F15_eq lf d n_ h).trans e_)
def w15 (f : V → Int → List Ob → Option (V × List Ob)) (vs : List V) (h : List Ob) : Option (V × List Ob) := castCons vs fun c1 l1 => castCons l1 fun c2 l2 => castInt .i64 c2 fun n3 => castNil l2 (f c1 n3 h)
noncomputable def W15 (lf : Nat) : List V → List Ob → Option (V × List Ob) := w15 (F15 lf)
theorem W15_ok (lf : Nat) : ∀ args h v h', W15 lf args h = some (v, h') → CD Go.Proofs.Try.prog 15 args h v h' := by
  intro vs h r h' e0
  simp only [W15, w15] at e0
  obtain ⟨c1, l1, rfl, e1⟩ := castCons_inv e0
  obtain ⟨c2, l2, rfl, e2⟩ := castCons_inv e1
  obtain ⟨y1, rfl, e3⟩ := castInt_inv e2
  obtain ⟨rfl, e4⟩ := castNil_inv e3
  have e := e4
  exact F15_ok lf c1 y1 h r h' e

/-! 17: (*wainscot/disk.Disk).Left -/
def A17 : List (Nat × Sh) := [(2, (.int .i64)), (4, .bool), (8, (.int .i64)), (10, (.int .i64)), (11, (.int .i64)), (13, (.int .i64)), (14, (.int .i64)), (15, (.int .i64))]
noncomputable def call17 (lf : Nat) : CallS := callC 15 (W15 lf) (callN)
theorem call17_ok (lf : Nat) : CallOk Go.Proofs.Try.prog (call17 lf) := callC_ok (W15_ok lf) (callN_ok)
def k17 : KC := (.seq (.reg [⟨(some 2), none, (.op (.mv (.c (.int .i64 0)))), []⟩]) (.seq (.seq (.reg [⟨(some 3), none, (.op (.mv (.t 0))), []⟩, ⟨(some 4), none, (.op (.eq false .ptr (.t 3) (.c .nilp))), []⟩]) (.cond (.t 4) (.seq (.reg [⟨(some 2), none, (.op (.mv (.c (.int .i64 0)))), []⟩]) .ret) .skip)) (.seq (.reg [⟨(some 5), none, (.op (.mv (.t 0))), []⟩, ⟨(some 6), none, (.op (.nilck (.t 5))), []⟩, ⟨(some 7), none, (.op (.faddr 6 (.t 6))), []⟩, ⟨(some 8), none, (.op (.load1 (.t 7))), []⟩, ⟨(some 9), none, (.op (.mv (.t 0))), []⟩, ⟨(some 12), none, (.op (.mv (.t 0))), []⟩, ⟨(some 10), none, (.call 15 [(.t 9), (.c (.int .i64 0))]), [⟨(some 8), none, (.op (.load1 (.t 7)))⟩, ⟨(some 7), none, (.op (.faddr 6 (.t 6)))⟩, ⟨(some 6), none, (.op (.nilck (.t 5)))⟩]⟩, ⟨(some 11), none, (.op (.bin .sub (.t 8) (.t 10))), []⟩, ⟨(some 13), none, (.call 15 [(.t 12), (.c (.int .i64 1))]), [⟨(some 8), none, (.op (.load1 (.t 7)))⟩, ⟨(some 7), none, (.op (.faddr 6 (.t 6)))⟩, ⟨(some 6), none, (.op (.nilck (.t 5)))⟩]⟩, ⟨(some 14), none, (.op (.bin .sub (.t 11) (.t 13))), []⟩, ⟨(some 15), none, (.op (.minmax true (.c (.int .i64 0)) (.t 14))), []⟩, ⟨(some 2), none, (.op (.mv (.t 15))), []⟩]) .ret)))
noncomputable def F17 (lf : Nat) (d : V) (h : List Ob) : Option (V × List Ob) :=
bind1 (er (.eq false .ptr (.c d) (.c V.nilp)) h) fun v =>
castBool v fun x4 =>
cB x4 (
some ((.int .i64 (0)), h)) (
bind1 (er (.nilck (.c d)) h) fun x6 =>
bind1 (er (.faddr 6 (.c x6)) h) fun x7 =>
bind1 (er (.load1 (.c x7)) h) fun v1 =>
castInt .i64 v1 fun x8 =>
bind2 (F15 lf d (0) h) fun v2 h_ =>
castInt .i64 v2 fun x10 =>
reP (er (.load1 (.c x7)) h_ = some (.int .i64 x8)) (
reP (er (.faddr 6 (.c x6)) h_ = some x7) (
reP (er (.nilck (.c d)) h_ = some x6) (
bind2 (F15 lf d (1) h_) fun v3 h_1 =>
castInt .i64 v3 fun x13 =>
reP (er (.load1 (.c x7)) h_1 = some (.int .i64 x8)) (
reP (er (.faddr 6 (.c x6)) h_1 = some x7) (
reP (er (.nilck (.c d)) h_1 = some x6) (
some ((.int .i64 (if (IntKind.i64.wrap ((IntKind.i64.wrap (x8 - x10)) - x13)) > (0) then (IntKind.i64.wrap ((IntKind.i64.wrap (x8 - x10)) - x13)) else (0))), h_1))))))))
theorem F17_eq (lf : Nat) (d : V) (h : List Ob) : evCK A17 ⟨call17 lf, cvN, subN⟩ k17 (entryK [d]) h (endF c17.res) = F17 lf d h := by kernel_rfl
theorem F17_ok (lf : Nat) (d : V) (h : List Ob) (r_ : V) (h_r : List Ob) (e_ : F17 lf d h = some (r_, h_r)) : CD Go.Proofs.Try.prog 17 [d] h r_ h_r :=
  CD.ofK (A := A17) (σ := ⟨call17 lf, cvN, subN⟩) (c := k17) Go.Proofs.Try.func17 ok17 en17 (show 1 ≤ 16 by decide) (by kernel_rfl) (call17_ok lf) cvN_ok (And.intro True.intro (And.intro (And.intro True.intro (And.intro (And.intro True.intro True.intro) True.intro)) (And.intro True.intro True.intro))) ((F17_eq lf d h).trans e_)
def w17 (f : V → List Ob → Option (V × List Ob)) (vs : List V) (h : List Ob) : Option (V × List Ob) := castCons vs fun c1 l1 => castNil l1 (f c1 h)
noncomputable def W17 (lf : Nat) : List V → List Ob → Option (V × List Ob) := w17 (F17 lf)
theorem W17_ok (lf : Nat) : ∀ args h v h', W17 lf args h = some (v, h') → CD Go.Proofs.Try.prog 17 args h v h' := by
  intro vs h r h' e0
  simp only [W17, w17] at e0
  obtain ⟨c1, l1, rfl, e1⟩ := castCons_inv e0
  obtain ⟨rfl, e2⟩ := castNil_inv e1
  have e := e2
  exact F17_ok lf c1 h r h' e

/-! 50: (*wainscot/disk.Disk).find -/
def A50 : List (Nat × Sh) := [(1, (.int .i64)), (5, (.int .i64)), (6, .bool), (8, .bool), (9, .bool), (10, (.int .i64)), (11, .bool), (12, .bool), (13, .bool), (14, (.int .i64)), (15, .bool), (16, .bool), (17, .bool), (21, .bool), (23, (.int .i64))]
noncomputable def call50 (lf : Nat) : CallS := callN
theorem call50_ok (lf : Nat) : CallOk Go.Proofs.Try.prog (call50 lf) := callN_ok
def o50_0 : Outs := [(.normal, [6], [.bool])]
def k50_0 : KC := (.reg [⟨(some 7), none, (.op (.mv (.t 0))), []⟩, ⟨(some 8), none, (.op (.eq false .ptr (.t 7) (.c .nilp))), []⟩, ⟨(some 9), none, (.op (.mv (.t 8))), []⟩, ⟨(some 10), (some (9, false)), (.op (.mv (.t 1))), []⟩, ⟨(some 11), (some (9, false)), (.op (.bin .lss (.t 10) (.c (.int .i64 0)))), []⟩, ⟨(some 12), none, (.op (.pick (.t 9) (.c (.bool true)) (.t 11))), []⟩, ⟨(some 13), none, (.op (.mv (.t 12))), []⟩, ⟨(some 14), (some (13, false)), (.op (.mv (.t 1))), []⟩, ⟨(some 15), (some (13, false)), (.op (.bin .geq (.t 14) (.c (.int .i64 2)))), []⟩, ⟨(some 16), none, (.op (.pick (.t 13) (.c (.bool true)) (.t 15))), []⟩, ⟨(some 6), none, (.op (.mv (.t 16))), []⟩])
def w50_0 (f : V → Int → List Ob → SubR) (vs : List V) (h : List Ob) : SubR := castCons vs fun c1 l1 => castCons l1 fun c2 l2 => castInt .i64 c2 fun n3 => castNil l2 (f c1 n3 h)
noncomputable def S50_0 (lf : Nat) (d : V) (n_ : Int) (h : List Ob) : SubR :=
bind1 (er (.eq false .ptr (.c d) (.c V.nilp)) h) fun v =>
castBool v fun x8 =>
cB x8 (
some (.normal, [(.bool true)], h)) (
cB (decide (n_ < (0))) (
some (.normal, [(.bool true)], h)) (
some (.normal, [(.bool (decide (n_ ≥ (2))))], h)))
theorem S50_0_eq (lf : Nat) (d : V) (n_ : Int) (h : List Ob) : evCK A50 ⟨call50 lf, cvN, subN⟩ k50_0 [(0, d), (1, (.int .i64 n_))] h (endK o50_0) = S50_0 lf d n_ h := by kernel_rfl
theorem S50_0_ok (lf : Nat) : SubOk Go.Proofs.Try.prog k50_0.er [0, 1] o50_0 (w50_0 (S50_0 lf)) := by
  refine SubOk.of (A := A50) (σ := ⟨call50 lf, cvN, subN⟩) (c := k50_0) (call50_ok lf) cvN_ok True.intro ?_
  intro vs h r e0
  simp only [w50_0] at e0
  obtain ⟨c1, l1, rfl, e1⟩ := castCons_inv e0
  obtain ⟨c2, l2, rfl, e2⟩ := castCons_inv e1
  obtain ⟨y1, rfl, e3⟩ := castInt_inv e2
  obtain ⟨rfl, e4⟩ := castNil_inv e3
  have e := e4
  exact (S50_0_eq lf c1 y1 h).trans e
def k50 : KC := (.seq (.reg [⟨(some 4), none, (.op (.mv (.c .nilp))), []⟩, ⟨(some 5), none, (.op (.mv (.c (.int .i64 0)))), []⟩]) (.seq (.block 0 (.seq (.sub 0 k50_0.er [0, 1] o50_0) (.cond (.t 6) (.seq (.reg [⟨(some 4), none, (.op (.mv (.c .nilp))), []⟩, ⟨(some 5), none, (.op (.mv (.c (.int .i64 1)))), []⟩]) .ret) (.seq (.reg [⟨(some 18), none, (.op (.mv (.t 0))), []⟩, ⟨(some 19), none, (.op (.nilck (.t 18))), []⟩, ⟨(some 20), none, (.op (.faddr 8 (.t 19))), []⟩, ⟨(some 21), none, (.op (.load1 (.t 20))), []⟩, ⟨(some 17), none, (.op (.mv (.t 21))), []⟩]) (.cond (.t 17) (.seq (.reg [⟨(some 4), none, (.op (.mv (.c .nilp))), []⟩, ⟨(some 5), none, (.op (.mv (.c (.int .i64 16)))), []⟩]) .ret) .skip))))) (.seq (.reg [⟨(some 22), none, (.op (.mv (.t 0))), []⟩, ⟨(some 23), none, (.op (.mv (.t 1))), []⟩, ⟨(some 24), none, (.op (.nilck (.t 22))), []⟩, ⟨(some 25), none, (.op (.faddr 0 (.t 24))), []⟩, ⟨(some 26), none, (.op (.iaddrA 2 3 (.t 25) (.t 23))), []⟩, ⟨(some 4), none, (.op (.mv (.t 26))), []⟩, ⟨(some 5), none, (.op (.mv (.c (.int .i64 0)))), []⟩]) .ret)))
noncomputable def F50 (lf : Nat) (d : V) (n_ : Int) (h : List Ob) : Option (V × List Ob) :=
bind3 (S50_0 lf d n_ h) fun ex vs h_ =>
cB (decide (ex = .normal)) (
castCons vs fun c l =>
castBool c fun x6 =>
castNil l (
cB x6 (
some ((.tup [V.nilp, (.int .i64 (1))]), h_)) (
bind1 (er (.nilck (.c d)) h_) fun x19 =>
bind1 (er (.faddr 8 (.c x19)) h_) fun x20 =>
bind1 (er (.load1 (.c x20)) h_) fun v =>
castBool v fun x21 =>
cB x21 (
some ((.tup [V.nilp, (.int .i64 (16))]), h_)) (
bind1 (er (.nilck (.c d)) h_) fun x24 =>
bind1 (er (.faddr 0 (.c x24)) h_) fun x25 =>
bind1 (er (.iaddrA 2 3 (.c x25) (.c (.int .i64 n_))) h_) fun x26 =>
some ((.tup [x26, (.int .i64 (0))]), h_))))) (
none)
theorem F50_eq (lf : Nat) (d : V) (n_ : Int) (h : List Ob) : evCK A50 ⟨call50 lf, cvN, subC 0 (w50_0 (S50_0 lf)) (subN)⟩ k50 (entryK [d, (.int .i64 n_)]) h (endF c50.res) = F50 lf d n_ h := by kernel_rfl
theorem F50_ok (lf : Nat) (d : V) (n_ : Int) (h : List Ob) (r_ : V) (h_r : List Ob) (e_ : F50 lf d n_ h = some (r_, h_r)) : CD Go.Proofs.Try.prog 50 [d, (.int .i64 n_)] h r_ h_r :=
  CD.ofK (A := A50) (σ := ⟨call50 lf, cvN, subC 0 (w50_0 (S50_0 lf)) (subN)⟩) (c := k50) Go.Proofs.Try.func50 ok50 en50 (show 2 ≤ 27 by decide) (by kernel_rfl) (call50_ok lf) cvN_ok (And.intro True.intro (And.intro (And.intro (S50_0_ok lf) (And.intro (And.intro True.intro True.intro) (And.intro True.intro (And.intro (And.intro True.intro True.intro) True.intro)))) (And.intro True.intro True.intro))) ((F50_eq lf d n_ h).trans e_)
def w50 (f : V → Int → List Ob → Option (V × List Ob)) (vs : List V) (h : List Ob) : Option (V × List Ob) := castCons vs fun c1 l1 => castCons l1 fun c2 l2 => castInt .i64 c2 fun n3 => castNil l2 (f c1 n3 h)
noncomputable def W50 (lf : Nat) : List V → List Ob → Option (V × List Ob) := w50 (F50 lf)
theorem W50_ok (lf : Nat) : ∀ args h v h', W50 lf args h = some (v, h') → CD Go.Proofs.Try.prog 50 args h v h' := by
  intro vs h r h' e0
  simp only [W50, w50] at e0
  obtain ⟨c1, l1, rfl, e1⟩ := castCons_inv e0
  obtain ⟨c2, l2, rfl, e2⟩ := castCons_inv e1
  obtain ⟨y1, rfl, e3⟩ := castInt_inv e2
  obtain ⟨rfl, e4⟩ := castNil_inv e3
  have e := e4
  exact F50_ok lf c1 y1 h r h' e

/-! 51: (*wainscot/disk.Disk).change -/
def A51 : List (Nat × Sh) := [(2, (.int .i64)), (6, (.int .i64)), (7, .bool), (14, (.int .i64)), (15, .bool), (19, (.int .i64)), (20, (.int .i64))]
noncomputable def call51 (lf : Nat) : CallS := callN
theorem call51_ok (lf : Nat) : CallOk Go.Proofs.Try.prog (call51 lf) := callN_ok
def k51 : KC := (.seq (.reg [⟨(some 2), none, (.op (.mv (.c (.int .i64 0)))), []⟩]) (.seq (.seq (.reg [⟨(some 3), none, (.op (.mv (.t 0))), []⟩, ⟨(some 4), none, (.op (.nilck (.t 3))), []⟩, ⟨(some 5), none, (.op (.faddr 7 (.t 4))), []⟩, ⟨(some 6), none, (.op (.load1 (.t 5))), []⟩, ⟨(some 7), none, (.op (.bin .eql (.t 6) (.c (.int .i64 0)))), []⟩]) (.cond (.t 7) (.seq (.reg [⟨(some 8), none, (.op (.mv (.t 0))), []⟩, ⟨(some 9), none, (.op (.nilck (.t 8))), []⟩, ⟨(some 10), none, (.op (.faddr 8 (.t 9))), []⟩, ⟨none, none, (.op (.store 1 (.t 10) (.c (.bool true)))), []⟩]) (.seq (.reg [⟨(some 2), none, (.op (.mv (.c (.int .i64 16)))), []⟩]) .ret)) .skip)) (.seq (.seq (.reg [⟨(some 11), none, (.op (.mv (.t 0))), []⟩, ⟨(some 12), none, (.op (.nilck (.t 11))), []⟩, ⟨(some 13), none, (.op (.faddr 7 (.t 12))), []⟩, ⟨(some 14), none, (.op (.load1 (.t 13))), []⟩, ⟨(some 15), none, (.op (.bin .gtr (.t 14) (.c (.int .i64 0)))), []⟩]) (.cond (.t 15) (.reg [⟨(some 16), none, (.op (.mv (.t 0))), []⟩, ⟨(some 17), none, (.op (.nilck (.t 16))), []⟩, ⟨(some 18), none, (.op (.faddr 7 (.t 17))), []⟩, ⟨(some 19), none, (.op (.load1 (.t 18))), []⟩, ⟨(some 20), none, (.op (.bin .sub (.t 19) (.c (.int .i64 1)))), []⟩, ⟨(some 21), none, (.op (.nilck (.t 16))), []⟩, ⟨(some 22), none, (.op (.faddr 7 (.t 21))), []⟩, ⟨none, none, (.op (.store 1 (.t 22) (.t 20))), []⟩]) .skip)) (.seq (.reg [⟨(some 2), none, (.op (.mv (.c (.int .i64 0)))), []⟩]) .ret))))
noncomputable def F51 (lf : Nat) (d : V) (h : List Ob) : Option (V × List Ob) :=
bind1 (er (.nilck (.c d)) h) fun x4 =>
bind1 (er (.faddr 7 (.c x4)) h) fun x5 =>
bind1 (er (.load1 (.c x5)) h) fun v =>
castInt .i64 v fun x6 =>
cB (x6 == (0)) (
bind1 (er (.nilck (.c d)) h) fun x9 =>
bind1 (er (.faddr 8 (.c x9)) h) fun x10 =>
bind2 (ev (.store 1 (.c x10) (.c (.bool true))) h) fun u h_ =>
some ((.int .i64 (16)), h_)) (
bind1 (er (.nilck (.c d)) h) fun x12 =>
bind1 (er (.faddr 7 (.c x12)) h) fun x13 =>
bind1 (er (.load1 (.c x13)) h) fun v1 =>
castInt .i64 v1 fun x14 =>
cB (decide (x14 > (0))) (
bind1 (er (.nilck (.c d)) h) fun x17 =>
bind1 (er (.faddr 7 (.c x17)) h) fun x18 =>
bind1 (er (.load1 (.c x18)) h) fun v2 =>
castInt .i64 v2 fun x19 =>
bind1 (er (.nilck (.c d)) h) fun x21 =>
bind1 (er (.faddr 7 (.c x21)) h) fun x22 =>
bind2 (ev (.store 1 (.c x22) (.c (.int .i64 (IntKind.i64.wrap (x19 - (1)))))) h) fun u h_ =>
some ((.int .i64 (0)), h_)) (
some ((.int .i64 (0)), h)))
theorem F51_eq (lf : Nat) (d : V) (h : List Ob) : evCK A51 ⟨call51 lf, cvN, subN⟩ k51 (entryK [d]) h (endF c51.res) = F51 lf d h := by kernel_rfl
theorem F51_ok (lf : Nat) (d : V) (h : List Ob) (r_ : V) (h_r : List Ob) (e_ : F51 lf d h = some (r_, h_r)) : CD Go.Proofs.Try.prog 51 [d] h r_ h_r :=
  CD.ofK (A := A51) (σ := ⟨call51 lf, cvN, subN⟩) (c := k51) Go.Proofs.Try.func51 ok51 en51 (show 1 ≤ 23 by decide) (by kernel_rfl) (call51_ok lf) cvN_ok (And.intro True.intro (And.intro (And.intro True.intro (And.intro (And.intro True.intro (And.intro True.intro True.intro)) True.intro)) (And.intro (And.intro True.intro (And.intro True.intro True.intro)) (And.intro True.intro True.intro)))) ((F51_eq lf d h).trans e_)
def w51 (f : V → List Ob → Option (V × List Ob)) (vs : List V) (h : List Ob) : Option (V × List Ob) := castCons vs fun c1 l1 => castNil l1 (f c1 h)
noncomputable def W51 (lf : Nat) : List V → List Ob → Option (V × List Ob) := w51 (F51 lf)
theorem W51_ok (lf : Nat) : ∀ args h v h', W51 lf args h = some (v, h') → CD Go.Proofs.Try.prog 51 args h v h' := by
  intro vs h r h' e0
  simp only [W51, w51] at e0
  obtain ⟨c1, l1, rfl, e1⟩ := castCons_inv e0
  obtain ⟨rfl, e2⟩ := castNil_inv e1
  have e := e2
  exact F51_ok lf c1 h r h' e

/-! 13: (*wainscot/disk.Disk).Write -/
def A13 : List (Nat × Sh) := [(1, (.int .i64)), (2, (.int .i64)), (8, (.int .i64)), (10, (.int .i64)), (11, (.int .i64)), (12, (.int .i64)), (13, (.int .i64)), (14, (.tup [.any, (.int .i64)])), (16, (.int .i64)), (17, (.tup [.any, (.int .i64)])), (19, (.int .i64)), (20, .bool), (21, (.int .i64)), (22, .bool), (23, (.int .i64)), (24, .bool), (25, (.int .i64)), (26, .bool), (27, .bool), (28, (.int .i64)), (33, (.int .i64)), (34, .bool), (35, .bool), (36, (.int .i64)), (38, (.int .i64)), (39, (.int .i64)), (44, (.int .i64)), (45, (.int .i64)), (46, (.int .i64)), (47, .bool), (48, .bool), (49, (.int .i64)), (51, (.int .i64)), (52, .bool), (53, .bool), (55, (.int .i64)), (56, (.int .i64)), (57, .bool), (58, .bool), (60, (.int .i64)), (61, .bool), (62, .bool), (63, (.int .i64)), (69, (.int .i64)), (71, (.int .i64)), (72, (.int .i64)), (77, (.int .i64)), (78, (.int .i64)), (79, (.int .i64)), (87, (.int .i64)), (90, (.int .i64)), (95, .bool), (100, (.int .i64)), (101, (.int .i64)), (102, (.int .i64)), (103, (.int .i64)), (104, (.int .i64)), (106, (.int .i64)), (107, (.int .i64)), (108, .bool), (109, (.int .i64)), (110, (.int .i64)), (115, (.int .i64))]
noncomputable def call13 (lf : Nat) : CallS := callC 51 (W51 lf) (callC 50 (W50 lf) (callC 17 (W17 lf) (callN)))
theorem call13_ok (lf : Nat) : CallOk Go.Proofs.Try.prog (call13 lf) := callC_ok (W51_ok lf) (callC_ok (W50_ok lf) (callC_ok (W17_ok lf) (callN_ok)))
def o13_0 : Outs := [((.exit 1), [], [])]
def k13_0 : KC := (.seq (.seq (.reg [⟨(some 102), none, (.op (.mv (.t 13))), []⟩, ⟨(some 103), none, (.op (.bin .mul (.t 102) (.c (.int .i64 64)))), []⟩, ⟨(some 104), none, (.op (.mv (.t 2))), []⟩, ⟨(some 105), none, (.op (.mv (.t 3))), []⟩, ⟨(some 106), none, (.op (.lenL (.t 105))), []⟩, ⟨(some 107), none, (.op (.bin .add (.t 104) (.t 106))), []⟩, ⟨(some 108), none, (.op (.bin .lss (.t 103) (.t 107))), []⟩]) (.cond (.t 108) .skip (.exit 1))) (.seq (.block 2 (.reg [⟨(some 111), none, (.op (.mv (.t 9))), []⟩, ⟨(some 112), none, (.op (.nilck (.t 111))), []⟩, ⟨(some 113), none, (.op (.faddr 2 (.t 112))), []⟩, ⟨(some 114), none, (.op (.load1 (.t 113))), []⟩, ⟨(some 115), none, (.op (.mv (.t 13))), []⟩, ⟨none, none, (.op (.mapupd .i (.t 114) (.t 115) (.c (.bool true)))), []⟩])) (.reg [⟨(some 109), none, (.op (.mv (.t 13))), []⟩, ⟨(some 110), none, (.op (.bin .add (.t 109) (.c (.int .i64 1)))), []⟩, ⟨(some 13), none, (.op (.mv (.t 110))), []⟩])))
def w13_0 (f : Int → V → V → Int → List Ob → SubR) (vs : List V) (h : List Ob) : SubR := castCons vs fun c1 l1 => castInt .i64 c1 fun n2 => castCons l1 fun c3 l3 => castCons l3 fun c4 l4 => castCons l4 fun c5 l5 => castInt .i64 c5 fun n6 => castNil l5 (f n2 c3 c4 n6 h)
noncomputable def B13_0 (lf : Nat) (self : Int → V → V → Int → List Ob → SubR) (at_ : Int) (b : V) (f : V) (s : Int) (h : List Ob) : SubR :=
bind1 (er (.lenL (.c b)) h) fun v =>
castInt .i64 v fun x106 =>
cB (decide ((IntKind.i64.wrap (s * (64))) < (IntKind.i64.wrap (at_ + x106)))) (
bind1 (er (.nilck (.c f)) h) fun x112 =>
bind1 (er (.faddr 2 (.c x112)) h) fun x113 =>
bind1 (er (.load1 (.c x113)) h) fun x114 =>
bind2 (ev (.mapupd .i (.c x114) (.c (.int .i64 s)) (.c (.bool true))) h) fun u h_ =>
self at_ b f (IntKind.i64.wrap (s + (1))) h_) (
some ((.exit 1), [], h))
noncomputable def L13_0 (lf : Nat) : Nat → Int → V → V → Int → List Ob → SubR
  | 0 => fun _ _ _ _ _ => none
  | n + 1 => B13_0 lf (L13_0 lf n)
theorem B13_0_eq (lf : Nat) (self : Int → V → V → Int → List Ob → SubR) (at_ : Int) (b : V) (f : V) (s : Int) (h : List Ob) : evCK A13 ⟨call13 lf, cvN, subN⟩ k13_0 [(2, (.int .i64 at_)), (3, b), (9, f), (13, (.int .i64 s))] h (endL [2, 3, 9, 13] [(.int .i64), .any, .any, (.int .i64)] o13_0 (w13_0 self)) = B13_0 lf self at_ b f s h := by kernel_rfl
theorem L13_0_ok (lf : Nat) : ∀ n, SubOk Go.Proofs.Try.prog (.loop k13_0.er) [2, 3, 9, 13] o13_0 (w13_0 (L13_0 lf n)) := by
  refine SubOk.loop (A := A13) (σ := ⟨call13 lf, cvN, subN⟩) (c := k13_0) (shs := [(.int .i64), .any, .any, (.int .i64)]) (G := fun n => w13_0 (L13_0 lf n)) (call13_ok lf) cvN_ok (And.intro (And.intro True.intro (And.intro True.intro True.intro)) (And.intro True.intro True.intro)) ?_ ?_
  · intro vs h r e0
    simp only [w13_0] at e0
    obtain ⟨c1, l1, rfl, e1⟩ := castCons_inv e0
    obtain ⟨y0, rfl, e2⟩ := castInt_inv e1
    obtain ⟨c2, l2, rfl, e3⟩ := castCons_inv e2
    obtain ⟨c3, l3, rfl, e4⟩ := castCons_inv e3
    obtain ⟨c4, l4, rfl, e5⟩ := castCons_inv e4
    obtain ⟨y3, rfl, e6⟩ := castInt_inv e5
    obtain ⟨rfl, e7⟩ := castNil_inv e6
    have e := e7
    cases e
  · intro n vs h r e0
    simp only [w13_0] at e0
    obtain ⟨c1, l1, rfl, e1⟩ := castCons_inv e0
    obtain ⟨y0, rfl, e2⟩ := castInt_inv e1
    obtain ⟨c2, l2, rfl, e3⟩ := castCons_inv e2
    obtain ⟨c3, l3, rfl, e4⟩ := castCons_inv e3
    obtain ⟨c4, l4, rfl, e5⟩ := castCons_inv e4
    obtain ⟨y3, rfl, e6⟩ := castInt_inv e5
    obtain ⟨rfl, e7⟩ := castNil_inv e6
    have e := e7
    exact (B13_0_eq lf (L13_0 lf n) y0 c2 c3 y3 h).trans e
def o13_1 : Outs := [(.normal, [], [])]
def k13_1 : KC := (.seq (.reg [⟨(some 91), none, (.op (.mv (.t 9))), []⟩, ⟨(some 92), none, (.op (.nilck (.t 91))), []⟩, ⟨(some 93), none, (.op (.faddr 2 (.t 92))), []⟩, ⟨(some 94), none, (.op (.load1 (.t 93))), []⟩, ⟨(some 95), none, (.op (.eq false .map (.t 94) (.c .nilm))), []⟩]) (.cond (.t 95) (.reg [⟨(some 96), none, (.op (.mv (.t 9))), []⟩, ⟨(some 97), none, (.op .mkmap), []⟩, ⟨(some 98), none, (.op (.nilck (.t 96))), []⟩, ⟨(some 99), none, (.op (.faddr 2 (.t 98))), []⟩, ⟨none, none, (.op (.store 1 (.t 99) (.t 97))), []⟩]) .skip))
def w13_1 (f : V → List Ob → SubR) (vs : List V) (h : List Ob) : SubR := castCons vs fun c1 l1 => castNil l1 (f c1 h)
noncomputable def S13_1 (lf : Nat) (f : V) (h : List Ob) : SubR :=
bind1 (er (.nilck (.c f)) h) fun x92 =>
bind1 (er (.faddr 2 (.c x92)) h) fun x93 =>
bind1 (er (.load1 (.c x93)) h) fun x94 =>
bind1 (er (.eq false .map (.c x94) (.c V.nilm)) h) fun v =>
castBool v fun x95 =>
cB x95 (
bind2 (ev .mkmap h) fun x97 h_ =>
bind1 (er (.nilck (.c f)) h_) fun x98 =>
bind1 (er (.faddr 2 (.c x98)) h_) fun x99 =>
bind2 (ev (.store 1 (.c x99) (.c x97)) h_) fun u h_1 =>
some (.normal, [], h_1)) (
some (.normal, [], h))
theorem S13_1_eq (lf : Nat) (f : V) (h : List Ob) : evCK A13 ⟨call13 lf, cvN, subN⟩ k13_1 [(9, f)] h (endK o13_1) = S13_1 lf f h := by kernel_rfl
theorem S13_1_ok (lf : Nat) : SubOk Go.Proofs.Try.prog k13_1.er [9] o13_1 (w13_1 (S13_1 lf)) := by
  refine SubOk.of (A := A13) (σ := ⟨call13 lf, cvN, subN⟩) (c := k13_1) (call13_ok lf) cvN_ok (And.intro True.intro (And.intro True.intro True.intro)) ?_
  intro vs h r e0
  simp only [w13_1] at e0
  obtain ⟨c1, l1, rfl, e1⟩ := castCons_inv e0
  obtain ⟨rfl, e2⟩ := castNil_inv e1
  have e := e2
  exact (S13_1_eq lf c1 h).trans e
def o13_2 : Outs := [(.ret, [8], [(.int .i64)]), (.normal, [], [])]
def k13_2 : KC := (.seq (.reg [⟨(some 54), none, (.op (.mv (.t 0))), []⟩, ⟨(some 55), none, (.call 51 [(.t 54)]), []⟩, ⟨(some 12), none, (.op (.mv (.t 55))), []⟩]) (.seq (.reg [⟨(some 56), none, (.op (.mv (.t 12))), []⟩, ⟨(some 57), none, (.op (.bin .neq (.t 56) (.c (.int .i64 0)))), []⟩, ⟨(some 58), none, (.op (.mv (.t 57))), []⟩, ⟨(some 59), (some (58, false)), (.op (.mv (.t 3))), []⟩, ⟨(some 60), (some (58, false)), (.op (.lenL (.t 59))), []⟩, ⟨(some 61), (some (58, false)), (.op (.bin .eql (.t 60) (.c (.int .i64 0)))), []⟩, ⟨(some 62), none, (.op (.pick (.t 58) (.c (.bool true)) (.t 61))), []⟩]) (.cond (.t 62) (.seq (.reg [⟨(some 63), none, (.op (.mv (.t 12))), []⟩, ⟨(some 8), none, (.op (.mv (.t 63))), []⟩]) .ret) .skip)))
def w13_2 (f : V → V → List Ob → SubR) (vs : List V) (h : List Ob) : SubR := castCons vs fun c1 l1 => castCons l1 fun c2 l2 => castNil l2 (f c1 c2 h)
noncomputable def S13_2 (lf : Nat) (d : V) (b : V) (h : List Ob) : SubR :=
bind2 (F51 lf d h) fun v h_ =>
castInt .i64 v fun x55 =>
cB (x55 != (0)) (
some (.ret, [(.int .i64 x55)], h_)) (
bind1 (er (.lenL (.c b)) h_) fun v1 =>
castInt .i64 v1 fun x60 =>
cB (x60 == (0)) (
some (.ret, [(.int .i64 x55)], h_)) (
some (.normal, [], h_)))
theorem S13_2_eq (lf : Nat) (d : V) (b : V) (h : List Ob) : evCK A13 ⟨call13 lf, cvN, subN⟩ k13_2 [(0, d), (3, b)] h (endK o13_2) = S13_2 lf d b h := by kernel_rfl
theorem S13_2_ok (lf : Nat) : SubOk Go.Proofs.Try.prog k13_2.er [0, 3] o13_2 (w13_2 (S13_2 lf)) := by
  refine SubOk.of (A := A13) (σ := ⟨call13 lf, cvN, subN⟩) (c := k13_2) (call13_ok lf) cvN_ok (And.intro True.intro (And.intro True.intro (And.intro (And.intro True.intro True.intro) True.intro))) ?_
  intro vs h r e0
  simp only [w13_2] at e0
  obtain ⟨c1, l1, rfl, e1⟩ := castCons_inv e0
  obtain ⟨c2, l2, rfl, e2⟩ := castCons_inv e1
  obtain ⟨rfl, e3⟩ := castNil_inv e2
  have e := e3
  exact (S13_2_eq lf c1 c2 h).trans e
def o13_3 : Outs := [(.ret, [8], [(.int .i64)]), (.normal, [], [])]
def k13_3 : KC := (.seq (.reg [⟨(some 36), none, (.op (.mv (.t 2))), []⟩, ⟨(some 37), none, (.op (.mv (.t 3))), []⟩, ⟨(some 38), none, (.op (.lenL (.t 37))), []⟩, ⟨(some 39), none, (.op (.bin .add (.t 36) (.t 38))), []⟩, ⟨(some 40), none, (.op (.mv (.t 9))), []⟩, ⟨(some 41), none, (.op (.nilck (.t 40))), []⟩, ⟨(some 42), none, (.op (.faddr 0 (.t 41))), []⟩, ⟨(some 43), none, (.op (.load1 (.t 42))), []⟩, ⟨(some 44), none, (.op (.lenL (.t 43))), []⟩, ⟨(some 45), none, (.op (.bin .sub (.t 39) (.t 44))), []⟩, ⟨(some 11), none, (.op (.mv (.t 45))), []⟩]) (.seq (.reg [⟨(some 46), none, (.op (.mv (.t 11))), []⟩, ⟨(some 47), none, (.op (.bin .gtr (.t 46) (.c (.int .i64 0)))), []⟩, ⟨(some 48), none, (.op (.mv (.t 47))), []⟩, ⟨(some 49), (some (48, true)), (.op (.mv (.t 11))), []⟩, ⟨(some 50), (some (48, true)), (.op (.mv (.t 0))), []⟩, ⟨(some 51), (some (48, true)), (.call 17 [(.t 50)]), []⟩, ⟨(some 52), (some (48, true)), (.op (.bin .gtr (.t 49) (.t 51))), []⟩, ⟨(some 53), none, (.op (.pick (.t 48) (.t 52) (.c (.bool false)))), []⟩]) (.cond (.t 53) (.seq (.reg [⟨(some 8), none, (.op (.mv (.c (.int .i64 15)))), []⟩]) .ret) .skip)))
def w13_3 (f : V → Int → V → V → List Ob → SubR) (vs : List V) (h : List Ob) : SubR := castCons vs fun c1 l1 => castCons l1 fun c2 l2 => castInt .i64 c2 fun n3 => castCons l2 fun c4 l4 => castCons l4 fun c5 l5 => castNil l5 (f c1 n3 c4 c5 h)
noncomputable def S13_3 (lf : Nat) (d : V) (at_ : Int) (b : V) (f : V) (h : List Ob) : SubR :=
bind1 (er (.lenL (.c b)) h) fun v =>
castInt .i64 v fun x38 =>
bind1 (er (.nilck (.c f)) h) fun x41 =>
bind1 (er (.faddr 0 (.c x41)) h) fun x42 =>
bind1 (er (.load1 (.c x42)) h) fun x43 =>
bind1 (er (.lenL (.c x43)) h) fun v1 =>
castInt .i64 v1 fun x44 =>
cB (decide ((IntKind.i64.wrap ((IntKind.i64.wrap (at_ + x38)) - x44)) > (0))) (
bind2 (F17 lf d h) fun v2 h_ =>
castInt .i64 v2 fun x51 =>
cB (decide ((IntKind.i64.wrap ((IntKind.i64.wrap (at_ + x38)) - x44)) > x51)) (
some (.ret, [(.int .i64 (15))], h_)) (
some (.normal, [], h_))) (
some (.normal, [], h))
theorem S13_3_eq (lf : Nat) (d : V) (at_ : Int) (b : V) (f : V) (h : List Ob) : evCK A13 ⟨call13 lf, cvN, subN⟩ k13_3 [(0, d), (2, (.int .i64 at_)), (3, b), (9, f)] h (endK o13_3) = S13_3 lf d at_ b f h := by kernel_rfl
theorem S13_3_ok (lf : Nat) : SubOk Go.Proofs.Try.prog k13_3.er [0, 2, 3, 9] o13_3 (w13_3 (S13_3 lf)) := by
  refine SubOk.of (A := A13) (σ := ⟨call13 lf, cvN, subN⟩) (c := k13_3) (call13_ok lf) cvN_ok (And.intro True.intro (And.intro True.intro (And.intro (And.intro True.intro True.intro) True.intro))) ?_
  intro vs h r e0
  simp only [w13_3] at e0
  obtain ⟨c1, l1, rfl, e1⟩ := castCons_inv e0
  obtain ⟨c2, l2, rfl, e2⟩ := castCons_inv e1
  obtain ⟨y1, rfl, e3⟩ := castInt_inv e2
  obtain ⟨c3, l3, rfl, e4⟩ := castCons_inv e3
  obtain ⟨c4, l4, rfl, e5⟩ := castCons_inv e4
  obtain ⟨rfl, e6⟩ := castNil_inv e5
  have e := e6
  exact (S13_3_eq lf c1 y1 c3 c4 h).trans e
def o13_4 : Outs := [(.ret, [8], [(.int .i64)]), (.normal, [], [])]
def k13_4 : KC := (.block 0 (.seq (.reg [⟨(some 21), none, (.op (.mv (.t 10))), []⟩, ⟨(some 22), none, (.op (.bin .neq (.t 21) (.c (.int .i64 0)))), []⟩, ⟨(some 20), none, (.op (.mv (.t 22))), []⟩]) (.cond (.t 20) (.seq (.reg [⟨(some 23), none, (.op (.mv (.t 10))), []⟩, ⟨(some 8), none, (.op (.mv (.t 23))), []⟩]) .ret) (.seq (.reg [⟨(some 25), none, (.op (.mv (.t 2))), []⟩, ⟨(some 26), none, (.op (.bin .lss (.t 25) (.c (.int .i64 0)))), []⟩, ⟨(some 27), none, (.op (.mv (.t 26))), []⟩, ⟨(some 28), (some (27, false)), (.op (.mv (.t 2))), []⟩, ⟨(some 29), (some (27, false)), (.op (.mv (.t 9))), []⟩, ⟨(some 30), (some (27, false)), (.op (.nilck (.t 29))), []⟩, ⟨(some 31), (some (27, false)), (.op (.faddr 0 (.t 30))), []⟩, ⟨(some 32), (some (27, false)), (.op (.load1 (.t 31))), []⟩, ⟨(some 33), (some (27, false)), (.op (.lenL (.t 32))), []⟩, ⟨(some 34), (some (27, false)), (.op (.bin .gtr (.t 28) (.t 33))), []⟩, ⟨(some 35), none, (.op (.pick (.t 27) (.c (.bool true)) (.t 34))), []⟩, ⟨(some 24), none, (.op (.mv (.t 35))), []⟩]) (.cond (.t 24) (.seq (.reg [⟨(some 8), none, (.op (.mv (.c (.int .i64 1)))), []⟩]) .ret) .skip)))))
def w13_4 (f : Int → V → Int → List Ob → SubR) (vs : List V) (h : List Ob) : SubR := castCons vs fun c1 l1 => castInt .i64 c1 fun n2 => castCons l1 fun c3 l3 => castCons l3 fun c4 l4 => castInt .i64 c4 fun n5 => castNil l4 (f n2 c3 n5 h)
noncomputable def S13_4 (lf : Nat) (at_ : Int) (f : V) (e : Int) (h : List Ob) : SubR :=
cB (e != (0)) (
some (.ret, [(.int .i64 e)], h)) (
cB (decide (at_ < (0))) (
some (.ret, [(.int .i64 (1))], h)) (
bind1 (er (.nilck (.c f)) h) fun x30 =>
bind1 (er (.faddr 0 (.c x30)) h) fun x31 =>
bind1 (er (.load1 (.c x31)) h) fun x32 =>
bind1 (er (.lenL (.c x32)) h) fun v =>
castInt .i64 v fun x33 =>
cB (decide (at_ > x33)) (
some (.ret, [(.int .i64 (1))], h)) (
some (.normal, [], h))))
theorem S13_4_eq (lf : Nat) (at_ : Int) (f : V) (e : Int) (h : List Ob) : evCK A13 ⟨call13 lf, cvN, subN⟩ k13_4 [(2, (.int .i64 at_)), (9, f), (10, (.int .i64 e))] h (endK o13_4) = S13_4 lf at_ f e h := by kernel_rfl
theorem S13_4_ok (lf : Nat) : SubOk Go.Proofs.Try.prog k13_4.er [2, 9, 10] o13_4 (w13_4 (S13_4 lf)) := by
  refine SubOk.of (A := A13) (σ := ⟨call13 lf, cvN, subN⟩) (c := k13_4) (call13_ok lf) cvN_ok (And.intro True.intro (And.intro (And.intro True.intro True.intro) (And.intro True.intro (And.intro (And.intro True.intro True.intro) True.intro)))) ?_
  intro vs h r e0
  simp only [w13_4] at e0
  obtain ⟨c1, l1, rfl, e1⟩ := castCons_inv e0
  obtain ⟨y0, rfl, e2⟩ := castInt_inv e1
  obtain ⟨c2, l2, rfl, e3⟩ := castCons_inv e2
  obtain ⟨c3, l3, rfl, e4⟩ := castCons_inv e3
  obtain ⟨y2, rfl, e5⟩ := castInt_inv e4
  obtain ⟨rfl, e6⟩ := castNil_inv e5
  have e := e6
  exact (S13_4_eq lf y0 c2 y2 h).trans e
def k13 : KC := (.seq (.reg [⟨(some 8), none, (.op (.mv (.c (.int .i64 0)))), []⟩]) (.seq (.reg [⟨(some 15), none, (.op (.mv (.t 0))), []⟩, ⟨(some 16), none, (.op (.mv (.t 1))), []⟩, ⟨(some 17), none, (.call 50 [(.t 15), (.t 16)]), []⟩, ⟨(some 14), none, (.op (.mv (.t 17))), []⟩, ⟨(some 18), none, (.op (.ext 0 (.t 14))), []⟩, ⟨(some 19), none, (.op (.ext 1 (.t 14))), []⟩, ⟨(some 9), none, (.op (.mv (.t 18))), []⟩, ⟨(some 10), none, (.op (.mv (.t 19))), []⟩]) (.seq (.sub 4 k13_4.er [2, 9, 10] o13_4) (.seq (.sub 3 k13_3.er [0, 2, 3, 9] o13_3) (.seq (.sub 2 k13_2.er [0, 3] o13_2) (.seq (.reg [⟨(some 64), none, (.op (.mv (.t 9))), []⟩, ⟨(some 65), none, (.op (.mv (.t 9))), []⟩, ⟨(some 66), none, (.op (.nilck (.t 65))), []⟩, ⟨(some 67), none, (.op (.faddr 0 (.t 66))), []⟩, ⟨(some 68), none, (.op (.load1 (.t 67))), []⟩, ⟨(some 69), none, (.op (.mv (.t 2))), []⟩, ⟨(some 70), none, (.op (.mv (.t 3))), []⟩, ⟨(some 71), none, (.op (.lenL (.t 70))), []⟩, ⟨(some 72), none, (.op (.bin .add (.t 69) (.t 71))), []⟩, ⟨(some 73), none, (.op (.mv (.t 9))), []⟩, ⟨(some 74), none, (.op (.nilck (.t 73))), []⟩, ⟨(some 75), none, (.op (.faddr 0 (.t 74))), []⟩, ⟨(some 76), none, (.op (.load1 (.t 75))), []⟩, ⟨(some 77), none, (.op (.lenL (.t 76))), []⟩, ⟨(some 78), none, (.op (.bin .sub (.t 72) (.t 77))), []⟩, ⟨(some 79), none, (.op (.minmax true (.c (.int .i64 0)) (.t 78))), []⟩, ⟨(some 80), none, (.op (.appZ 1 1 .nilp (.t 68) (.t 79))), []⟩, ⟨(some 81), none, (.op (.nilck (.t 64))), []⟩, ⟨(some 82), none, (.op (.faddr 0 (.t 81))), []⟩, ⟨none, none, (.op (.store 1 (.t 82) (.t 80))), []⟩]) (.seq (.reg [⟨(some 83), none, (.op (.mv (.t 9))), []⟩, ⟨(some 84), none, (.op (.nilck (.t 83))), []⟩, ⟨(some 85), none, (.op (.faddr 0 (.t 84))), []⟩, ⟨(some 86), none, (.op (.load1 (.t 85))), []⟩, ⟨(some 87), none, (.op (.mv (.t 2))), []⟩, ⟨(some 88), none, (.op (.slcL 1 (.t 86) (some (.t 87)) none none)), []⟩, ⟨(some 89), none, (.op (.mv (.t 3))), []⟩, ⟨(some 90), none, (.op (.copy 1 (.t 88) (.t 89))), []⟩]) (.seq (.sub 1 k13_1.er [9] o13_1) (.seq (.seq (.reg [⟨(some 100), none, (.op (.mv (.t 2))), []⟩, ⟨(some 101), none, (.op (.bin .quo (.t 100) (.c (.int .i64 64)))), []⟩, ⟨(some 13), none, (.op (.mv (.t 101))), []⟩]) (.block 1 (.sub 0 (.loop k13_0.er) [2, 3, 9, 13] o13_0))) (.seq (.reg [⟨(some 8), none, (.op (.mv (.c (.int .i64 0)))), []⟩]) .ret))))))))))
noncomputable def F13 (lf : Nat) (d : V) (n_ : Int) (at_ : Int) (b : V) (h : List Ob) : Option (V × List Ob) :=
bind2 (F50 lf d n_ h) fun v h_ =>
castTup v fun l =>
castCons l fun x17_0 l1 =>
castCons l1 fun c l2 =>
castInt .i64 c fun x17_1 =>
castNil l2 (
bind3 (S13_4 lf at_ x17_0 x17_1 h_) fun ex vs h_1 =>
cB (decide (ex = .ret)) (
castCons vs fun c1 l3 =>
castInt .i64 c1 fun x8 =>
castNil l3 (
some ((.int .i64 x8), h_1))) (
cB (decide (ex = .normal)) (
castNil vs (
bind3 (S13_3 lf d at_ b x17_0 h_1) fun ex1 vs1 h_2 =>
cB (decide (ex1 = .ret)) (
castCons vs1 fun c1 l3 =>
castInt .i64 c1 fun x8 =>
castNil l3 (
some ((.int .i64 x8), h_2))) (
cB (decide (ex1 = .normal)) (
castNil vs1 (
bind3 (S13_2 lf d b h_2) fun ex2 vs2 h_3 =>
cB (decide (ex2 = .ret)) (
castCons vs2 fun c1 l3 =>
castInt .i64 c1 fun x8 =>
castNil l3 (
some ((.int .i64 x8), h_3))) (
cB (decide (ex2 = .normal)) (
castNil vs2 (
bind1 (er (.nilck (.c x17_0)) h_3) fun x66 =>
bind1 (er (.faddr 0 (.c x66)) h_3) fun x67 =>
bind1 (er (.load1 (.c x67)) h_3) fun x68 =>
bind1 (er (.lenL (.c b)) h_3) fun v1 =>
castInt .i64 v1 fun x71 =>
bind1 (er (.nilck (.c x17_0)) h_3) fun x74 =>
bind1 (er (.faddr 0 (.c x74)) h_3) fun x75 =>
bind1 (er (.load1 (.c x75)) h_3) fun x76 =>
bind1 (er (.lenL (.c x76)) h_3) fun v2 =>
castInt .i64 v2 fun x77 =>
bind2 (ev (.appZ 1 1 .nilp (.c x68) (.c (.int .i64 (if (IntKind.i64.wrap ((IntKind.i64.wrap (at_ + x71)) - x77)) > (0) then (IntKind.i64.wrap ((IntKind.i64.wrap (at_ + x71)) - x77)) else (0))))) h_3) fun x80 h_4 =>
bind1 (er (.nilck (.c x17_0)) h_4) fun x81 =>
bind1 (er (.faddr 0 (.c x81)) h_4) fun x82 =>
bind2 (ev (.store 1 (.c x82) (.c x80)) h_4) fun u h_5 =>
bind1 (er (.nilck (.c x17_0)) h_5) fun x84 =>
bind1 (er (.faddr 0 (.c x84)) h_5) fun x85 =>
bind1 (er (.load1 (.c x85)) h_5) fun x86 =>
bind1 (er (.slcL 1 (.c x86) (some (.c (.int .i64 at_))) none none) h_5) fun x88 =>
bind2 (ev (.copy 1 (.c x88) (.c b)) h_5) fun v3 h_6 =>
castInt .i64 v3 fun x90 =>
bind3 (S13_1 lf x17_0 h_6) fun ex3 vs3 h_7 =>
cB (decide (ex3 = .normal)) (
castNil vs3 (
bind3 (L13_0 lf lf at_ b x17_0 (IntKind.i64.wrap (Int.tdiv at_ (64))) h_7) fun ex4 vs4 h_8 =>
cB (decide (ex4 = (.exit 1))) (
castNil vs4 (
some ((.int .i64 (0)), h_8))) (
none))) (
none))) (
none)))) (
none)))) (
none)))
theorem F13_eq (lf : Nat) (d : V) (n_ : Int) (at_ : Int) (b : V) (h : List Ob) : evCK A13 ⟨call13 lf, cvN, subC 0 (w13_0 (L13_0 lf lf)) (subC 1 (w13_1 (S13_1 lf)) (subC 2 (w13_2 (S13_2 lf)) (subC 3 (w13_3 (S13_3 lf)) (subC 4 (w13_4 (S13_4 lf)) (subN)))))⟩ k13 (entryK [d, (.int .i64 n_), (.int .i64 at_), b]) h (endF c13.res) = F13 lf d n_ at_ b h := by kernel_rfl
theorem F13_ok (lf : Nat) (d : V) (n_ : Int) (at_ : Int) (b : V) (h : List Ob) (r_ : V) (h_r : List Ob) (e_ : F13 lf d n_ at_ b h = some (r_, h_r)) : CD Go.Proofs.Try.prog 13 [d, (.int .i64 n_), (.int .i64 at_), b] h r_ h_r :=
  CD.ofK (A := A13) (σ := ⟨call13 lf, cvN, subC 0 (w13_0 (L13_0 lf lf)) (subC 1 (w13_1 (S13_1 lf)) (subC 2 (w13_2 (S13_2 lf)) (subC 3 (w13_3 (S13_3 lf)) (subC 4 (w13_4 (S13_4 lf)) (subN)))))⟩) (c := k13) Go.Proofs.Try.func13 ok13 en13 (show 4 ≤ 116 by decide) (by kernel_rfl) (call13_ok lf) cvN_ok (And.intro True.intro (And.intro True.intro (And.intro (S13_4_ok lf) (And.intro (S13_3_ok lf) (And.intro (S13_2_ok lf) (And.intro True.intro (And.intro True.intro (And.intro (S13_1_ok lf) (And.intro (And.intro True.intro (L13_0_ok lf lf)) (And.intro True.intro True.intro)))))))))) ((F13_eq lf d n_ at_ b h).trans e_)
def w13 (f : V → Int → Int → V → List Ob → Option (V × List Ob)) (vs : List V) (h : List Ob) : Option (V × List Ob) := castCons vs fun c1 l1 => castCons l1 fun c2 l2 => castInt .i64 c2 fun n3 => castCons l2 fun c4 l4 => castInt .i64 c4 fun n5 => castCons l4 fun c6 l6 => castNil l6 (f c1 n3 n5 c6 h)
noncomputable def W13 (lf : Nat) : List V → List Ob → Option (V × List Ob) := w13 (F13 lf)
theorem W13_ok (lf : Nat) : ∀ args h v h', W13 lf args h = some (v, h') → CD Go.Proofs.Try.prog 13 args h v h' := by
  intro vs h r h' e0
  simp only [W13, w13] at e0
  obtain ⟨c1, l1, rfl, e1⟩ := castCons_inv e0
  obtain ⟨c2, l2, rfl, e2⟩ := castCons_inv e1
  obtain ⟨y1, rfl, e3⟩ := castInt_inv e2
  obtain ⟨c3, l3, rfl, e4⟩ := castCons_inv e3
  obtain ⟨y2, rfl, e5⟩ := castInt_inv e4
  obtain ⟨c4, l4, rfl, e6⟩ := castCons_inv e5
  obtain ⟨rfl, e7⟩ := castNil_inv e6
  have e := e7
  exact F13_ok lf c1 y1 y2 c4 h r h' e

/-! 10: wainscot/wainscotlaw09.awake -/
def A10 : List (Nat × Sh) := [(0, .bool), (4, .bool), (5, .bool), (9, (.int .i64)), (10, .bool), (11, .bool), (12, .bool), (14, (.int .i64)), (15, .bool), (16, .bool), (17, .bool), (19, (.int .i64)), (20, .bool), (21, .bool)]
noncomputable def call10 (lf : Nat) : CallS := callC 17 (W17 lf) (callC 15 (W15 lf) (callC 13 (W13 lf) (callC 12 (W12 lf) (callN))))
theorem call10_ok (lf : Nat) : CallOk Go.Proofs.Try.prog (call10 lf) := callC_ok (W17_ok lf) (callC_ok (W15_ok lf) (callC_ok (W13_ok lf) (callC_ok (W12_ok lf) (callN_ok))))
def k10 : KC := (.seq (.reg [⟨(some 0), none, (.op (.mv (.c (.bool false)))), []⟩]) (.seq (.reg [⟨(some 2), none, (.call 12 [(.c (.int .i64 10))]), []⟩, ⟨(some 1), none, (.op (.mv (.t 2))), []⟩]) (.seq (.reg [⟨(some 3), none, (.op (.mv (.t 1))), []⟩, ⟨(some 4), none, (.op (.eq true .ptr (.t 3) (.c .nilp))), []⟩, ⟨(some 5), none, (.op (.mv (.t 4))), []⟩, ⟨(some 6), (some (5, true)), (.op (.mv (.t 1))), []⟩, ⟨(some 7), (some (5, true)), (.op (.bslice 1 (.int .u8 0) 2 [(0, (.c (.int .u8 97))), (1, (.c (.int .u8 98)))])), []⟩, ⟨(some 8), (some (5, true)), (.op (.strish (.t 7))), []⟩, ⟨(some 9), (some (5, true)), (.call 13 [(.t 6), (.c (.int .i64 0)), (.c (.int .i64 0)), (.t 8)]), []⟩, ⟨(some 10), (some (5, true)), (.op (.bin .eql (.t 9) (.c (.int .i64 0)))), []⟩, ⟨(some 11), none, (.op (.pick (.t 5) (.t 10) (.c (.bool false)))), []⟩, ⟨(some 12), none, (.op (.mv (.t 11))), []⟩, ⟨(some 13), (some (12, true)), (.op (.mv (.t 1))), []⟩, ⟨(some 14), (some (12, true)), (.call 15 [(.t 13), (.c (.int .i64 0))]), []⟩, ⟨(some 15), (some (12, true)), (.op (.bin .eql (.t 14) (.c (.int .i64 2)))), []⟩, ⟨(some 16), none, (.op (.pick (.t 12) (.t 15) (.c (.bool false)))), []⟩, ⟨(some 17), none, (.op (.mv (.t 16))), []⟩, ⟨(some 18), (some (17, true)), (.op (.mv (.t 1))), []⟩, ⟨(some 19), (some (17, true)), (.call 17 [(.t 18)]), []⟩, ⟨(some 20), (some (17, true)), (.op (.bin .eql (.t 19) (.c (.int .i64 8)))), []⟩, ⟨(some 21), none, (.op (.pick (.t 17) (.t 20) (.c (.bool false)))), []⟩, ⟨(some 0), none, (.op (.mv (.t 21))), []⟩]) .ret)))
noncomputable def F10 (lf : Nat) (h : List Ob) : Option (V × List Ob) :=
bind2 (F12 lf (10) h) fun x2 h_ =>
bind1 (er (.eq true .ptr (.c x2) (.c V.nilp)) h_) fun v =>
castBool v fun x4 =>
cB x4 (
bind2 (ev (.bslice 1 (.int .u8 0) 2 [(0, (.c (.int .u8 (97)))), (1, (.c (.int .u8 (98))))]) h_) fun x7 h_1 =>
bind1 (er (.strish (.c x7)) h_1) fun x8 =>
bind2 (F13 lf x2 (0) (0) x8 h_1) fun v1 h_2 =>
castInt .i64 v1 fun x9 =>
cB (x9 == (0)) (
bind2 (F15 lf x2 (0) h_2) fun v2 h_3 =>
castInt .i64 v2 fun x14 =>
cB (x14 == (2)) (
bind2 (F17 lf x2 h_3) fun v3 h_4 =>
castInt .i64 v3 fun x19 =>
some ((.bool (x19 == (8))), h_4)) (
some ((.bool false), h_3))) (
some ((.bool false), h_2))) (
some ((.bool false), h_))
theorem F10_eq (lf : Nat) (h : List Ob) : evCK A10 ⟨call10 lf, cvN, subN⟩ k10 (entryK []) h (endF c10.res) = F10 lf h := by kernel_rfl
theorem F10_ok (lf : Nat) (h : List Ob) (r_ : V) (h_r : List Ob) (e_ : F10 lf h = some (r_, h_r)) : CD Go.Proofs.Try.prog 10 [] h r_ h_r :=
  CD.ofK (A := A10) (σ := ⟨call10 lf, cvN, subN⟩) (c := k10) Go.Proofs.Try.func10 ok10 en10 (show 0 ≤ 22 by decide) (by kernel_rfl) (call10_ok lf) cvN_ok (And.intro True.intro (And.intro True.intro (And.intro True.intro True.intro))) ((F10_eq lf h).trans e_)
def w10 (f : List Ob → Option (V × List Ob)) (vs : List V) (h : List Ob) : Option (V × List Ob) := castNil vs (f h)
noncomputable def W10 (lf : Nat) : List V → List Ob → Option (V × List Ob) := w10 (F10 lf)
theorem W10_ok (lf : Nat) : ∀ args h v h', W10 lf args h = some (v, h') → CD Go.Proofs.Try.prog 10 args h v h' := by
  intro vs h r h' e0
  simp only [W10, w10] at e0
  obtain ⟨rfl, e1⟩ := castNil_inv e0
  have e := e1
  exact F10_ok lf h r h' e

/-! 11: wainscot/wainscotlaw09.Few -/
def A11 : List (Nat × Sh) := [(2, .bool), (3, (.int .i64)), (4, (.int .i64)), (6, (.int .i64)), (7, (.int .i64)), (8, .bool), (9, (.int .i64)), (10, (.int .i64)), (12, (.int .i64)), (16, (.int .i64)), (17, (.int .i64)), (18, (.int .i64)), (19, .bool), (20, .bool), (21, (.int .i64)), (22, .bool), (23, .bool), (24, .bool), (26, (.int .i64)), (30, (.int .i64)), (31, .bool), (32, .bool), (33, (.int .i64))]
noncomputable def call11 (lf : Nat) : CallS := callN
theorem call11_ok (lf : Nat) : CallOk Go.Proofs.Try.prog (call11 lf) := callN_ok
def o11_0 : Outs := [((.exit 0), [], []), (.ret, [2], [.bool])]
def k11_0 : KC := (.seq (.reg [⟨(some 8), none, (.op (.bin .lss (.t 7) (.t 6))), []⟩]) (.seq (.cond (.t 8) .skip (.exit 0)) (.seq (.block 1 (.seq (.reg [⟨(some 9), none, (.op (.mv (.t 7))), []⟩, ⟨(some 4), none, (.op (.mv (.t 9))), []⟩]) (.seq (.reg [⟨(some 10), none, (.op (.mv (.t 3))), []⟩, ⟨(some 11), none, (.op (.mv (.t 0))), []⟩, ⟨(some 12), none, (.op (.mv (.t 4))), []⟩, ⟨(some 13), none, (.op (.iaddrL 6 (.t 11) (.t 12))), []⟩, ⟨(some 14), none, (.op (.faddr 4 (.t 13))), []⟩, ⟨(some 15), none, (.op (.load1 (.t 14))), []⟩, ⟨(some 16), none, (.op (.lenL (.t 15))), []⟩, ⟨(some 17), none, (.op (.bin .add (.t 10) (.t 16))), []⟩, ⟨(some 3), none, (.op (.mv (.t 17))), []⟩]) (.seq (.reg [⟨(some 18), none, (.op (.mv (.t 4))), []⟩, ⟨(some 19), none, (.op (.bin .geq (.t 18) (.c (.int .i64 100)))), []⟩, ⟨(some 20), none, (.op (.mv (.t 19))), []⟩, ⟨(some 21), (some (20, false)), (.op (.mv (.t 3))), []⟩, ⟨(some 22), (some (20, false)), (.op (.bin .gtr (.t 21) (.c (.int .i64 20000)))), []⟩, ⟨(some 23), none, (.op (.pick (.t 20) (.c (.bool true)) (.t 22))), []⟩, ⟨(some 24), none, (.op (.mv (.t 23))), []⟩, ⟨(some 25), (some (24, false)), (.op (.mv (.t 0))), []⟩, ⟨(some 26), (some (24, false)), (.op (.mv (.t 4))), []⟩, ⟨(some 27), (some (24, false)), (.op (.iaddrL 6 (.t 25) (.t 26))), []⟩, ⟨(some 28), (some (24, false)), (.op (.faddr 5 (.t 27))), []⟩, ⟨(some 29), (some (24, false)), (.op (.load1 (.t 28))), []⟩, ⟨(some 30), (some (24, false)), (.op (.lenL (.t 29))), []⟩, ⟨(some 31), (some (24, false)), (.op (.bin .gtr (.t 30) (.c (.int .i64 200)))), []⟩, ⟨(some 32), none, (.op (.pick (.t 24) (.c (.bool true)) (.t 31))), []⟩]) (.cond (.t 32) (.seq (.reg [⟨(some 2), none, (.op (.mv (.c (.bool false)))), []⟩]) .ret) .skip))))) (.reg [⟨(some 33), none, (.op (.bin .add (.t 7) (.c (.int .i64 1)))), []⟩, ⟨(some 7), none, (.op (.mv (.t 33))), []⟩]))))
def w11_0 (f : V → Int → Int → Int → List Ob → SubR) (vs : List V) (h : List Ob) : SubR := castCons vs fun c1 l1 => castCons l1 fun c2 l2 => castInt .i64 c2 fun n3 => castCons l2 fun c4 l4 => castInt .i64 c4 fun n5 => castCons l4 fun c6 l6 => castInt .i64 c6 fun n7 => castNil l6 (f c1 n3 n5 n7 h)
noncomputable def B11_0 (lf : Nat) (self : V → Int → Int → Int → List Ob → SubR) (script : V) (n_ : Int) (x6 : Int) (x7 : Int) (h : List Ob) : SubR :=
cB (decide (x7 < x6)) (
bind1 (er (.iaddrL 6 (.c script) (.c (.int .i64 x7))) h) fun x13 =>
bind1 (er (.faddr 4 (.c x13)) h) fun x14 =>
bind1 (er (.load1 (.c x14)) h) fun x15 =>
bind1 (er (.lenL (.c x15)) h) fun v =>
castInt .i64 v fun x16 =>
cB (decide (x7 ≥ (100))) (
some (.ret, [(.bool false)], h)) (
cB (decide ((IntKind.i64.wrap (n_ + x16)) > (20000))) (
some (.ret, [(.bool false)], h)) (
bind1 (er (.iaddrL 6 (.c script) (.c (.int .i64 x7))) h) fun x27 =>
bind1 (er (.faddr 5 (.c x27)) h) fun x28 =>
bind1 (er (.load1 (.c x28)) h) fun x29 =>
bind1 (er (.lenL (.c x29)) h) fun v1 =>
castInt .i64 v1 fun x30 =>
cB (decide (x30 > (200))) (
some (.ret, [(.bool false)], h)) (
self script (IntKind.i64.wrap (n_ + x16)) x6 (IntKind.i64.wrap (x7 + (1))) h)))) (
some ((.exit 0), [], h))
noncomputable def L11_0 (lf : Nat) : Nat → V → Int → Int → Int → List Ob → SubR
  | 0 => fun _ _ _ _ _ => none
  | n + 1 => B11_0 lf (L11_0 lf n)
theorem B11_0_eq (lf : Nat) (self : V → Int → Int → Int → List Ob → SubR) (script : V) (n_ : Int) (x6 : Int) (x7 : Int) (h : List Ob) : evCK A11 ⟨call11 lf, cvN, subN⟩ k11_0 [(0, script), (3, (.int .i64 n_)), (6, (.int .i64 x6)), (7, (.int .i64 x7))] h (endL [0, 3, 6, 7] [.any, (.int .i64), (.int .i64), (.int .i64)] o11_0 (w11_0 self)) = B11_0 lf self script n_ x6 x7 h := by kernel_rfl
theorem L11_0_ok (lf : Nat) : ∀ n, SubOk Go.Proofs.Try.prog (.loop k11_0.er) [0, 3, 6, 7] o11_0 (w11_0 (L11_0 lf n)) := by
  refine SubOk.loop (A := A11) (σ := ⟨call11 lf, cvN, subN⟩) (c := k11_0) (shs := [.any, (.int .i64), (.int .i64), (.int .i64)]) (G := fun n => w11_0 (L11_0 lf n)) (call11_ok lf) cvN_ok (And.intro True.intro (And.intro (And.intro True.intro True.intro) (And.intro (And.intro True.intro (And.intro True.intro (And.intro True.intro (And.intro (And.intro True.intro True.intro) True.intro)))) True.intro))) ?_ ?_
  · intro vs h r e0
    simp only [w11_0] at e0
    obtain ⟨c1, l1, rfl, e1⟩ := castCons_inv e0
    obtain ⟨c2, l2, rfl, e2⟩ := castCons_inv e1
    obtain ⟨y1, rfl, e3⟩ := castInt_inv e2
    obtain ⟨c3, l3, rfl, e4⟩ := castCons_inv e3
    obtain ⟨y2, rfl, e5⟩ := castInt_inv e4
    obtain ⟨c4, l4, rfl, e6⟩ := castCons_inv e5
    obtain ⟨y3, rfl, e7⟩ := castInt_inv e6
    obtain ⟨rfl, e8⟩ := castNil_inv e7
    have e := e8
    cases e
  · intro n vs h r e0
    simp only [w11_0] at e0
    obtain ⟨c1, l1, rfl, e1⟩ := castCons_inv e0
    obtain ⟨c2, l2, rfl, e2⟩ := castCons_inv e1
    obtain ⟨y1, rfl, e3⟩ := castInt_inv e2
    obtain ⟨c3, l3, rfl, e4⟩ := castCons_inv e3
    obtain ⟨y2, rfl, e5⟩ := castInt_inv e4
    obtain ⟨c4, l4, rfl, e6⟩ := castCons_inv e5
    obtain ⟨y3, rfl, e7⟩ := castInt_inv e6
    obtain ⟨rfl, e8⟩ := castNil_inv e7
    have e := e8
    exact (B11_0_eq lf (L11_0 lf n) c1 y1 y2 y3 h).trans e
def k11 : KC := (.seq (.reg [⟨(some 2), none, (.op (.mv (.c (.bool false)))), []⟩]) (.seq (.reg [⟨(some 3), none, (.op (.mv (.c (.int .i64 0)))), []⟩]) (.seq (.seq (.reg [⟨(some 5), none, (.op (.mv (.t 0))), []⟩, ⟨(some 6), none, (.op (.lenL (.t 5))), []⟩, ⟨(some 7), none, (.op (.mv (.c (.int .i64 0)))), []⟩]) (.block 0 (.sub 0 (.loop k11_0.er) [0, 3, 6, 7] o11_0))) (.seq (.reg [⟨(some 2), none, (.op (.mv (.c (.bool true)))), []⟩]) .ret))))
noncomputable def F11 (lf : Nat) (script : V) (h : List Ob) : Option (V × List Ob) :=
bind1 (er (.lenL (.c script)) h) fun v =>
castInt .i64 v fun x6 =>
bind3 (L11_0 lf lf script (0) x6 (0) h) fun ex vs h_ =>
cB (decide (ex = (.exit 0))) (
castNil vs (
some ((.bool true), h_))) (
cB (decide (ex = .ret)) (
castCons vs fun c l =>
castBool c fun x2 =>
castNil l (
some ((.bool x2), h_))) (
none))
theorem F11_eq (lf : Nat) (script : V) (h : List Ob) : evCK A11 ⟨call11 lf, cvN, subC 0 (w11_0 (L11_0 lf lf)) (subN)⟩ k11 (entryK [script]) h (endF c11.res) = F11 lf script h := by kernel_rfl
theorem F11_ok (lf : Nat) (script : V) (h : List Ob) (r_ : V) (h_r : List Ob) (e_ : F11 lf script h = some (r_, h_r)) : CD Go.Proofs.Try.prog 11 [script] h r_ h_r :=
  CD.ofK (A := A11) (σ := ⟨call11 lf, cvN, subC 0 (w11_0 (L11_0 lf lf)) (subN)⟩) (c := k11) Go.Proofs.Try.func11 ok11 en11 (show 1 ≤ 34 by decide) (by kernel_rfl) (call11_ok lf) cvN_ok (And.intro True.intro (And.intro True.intro (And.intro (And.intro True.intro (L11_0_ok lf lf)) (And.intro True.intro True.intro)))) ((F11_eq lf script h).trans e_)
def w11 (f : V → List Ob → Option (V × List Ob)) (vs : List V) (h : List Ob) : Option (V × List Ob) := castCons vs fun c1 l1 => castNil l1 (f c1 h)
noncomputable def W11 (lf : Nat) : List V → List Ob → Option (V × List Ob) := w11 (F11 lf)
theorem W11_ok (lf : Nat) : ∀ args h v h', W11 lf args h = some (v, h') → CD Go.Proofs.Try.prog 11 args h v h' := by
  intro vs h r h' e0
  simp only [W11, w11] at e0
  obtain ⟨c1, l1, rfl, e1⟩ := castCons_inv e0
  obtain ⟨rfl, e2⟩ := castNil_inv e1
  have e := e2
  exact F11_ok lf c1 h r h' e

/-! 52: slices.Clone[[]byte,byte] -/
def A52 : List (Nat × Sh) := [(4, .bool)]
noncomputable def call52 (lf : Nat) : CallS := callN
theorem call52_ok (lf : Nat) : CallOk Go.Proofs.Try.prog (call52 lf) := callN_ok
def k52 : KC := (.seq (.reg [⟨(some 2), none, (.op (.mv (.c .nils))), []⟩]) (.seq (.seq (.reg [⟨(some 3), none, (.op (.mv (.t 0))), []⟩, ⟨(some 4), none, (.op (.eq false .slice (.t 3) (.c .nils))), []⟩]) (.cond (.t 4) (.seq (.reg [⟨(some 2), none, (.op (.mv (.c .nils))), []⟩]) .ret) .skip)) (.seq (.reg [⟨(some 5), none, (.op (.bslice 1 (.int .u8 0) 0 [])), []⟩, ⟨(some 6), none, (.op (.mv (.t 0))), []⟩, ⟨(some 7), none, (.op (.app 1 1 (.t 5) (.t 6))), []⟩, ⟨(some 2), none, (.op (.mv (.t 7))), []⟩]) .ret)))
noncomputable def F52 (lf : Nat) (s : V) (h : List Ob) : Option (V × List Ob) :=
bind1 (er (.eq false .slice (.c s) (.c V.nils)) h) fun v =>
castBool v fun x4 =>
cB x4 (
some (V.nils, h)) (
bind2 (ev (.bslice 1 (.int .u8 0) 0 []) h) fun x5 h_ =>
bind2 (ev (.app 1 1 (.c x5) (.c s)) h_) fun x7 h_1 =>
some (x7, h_1))
theorem F52_eq (lf : Nat) (s : V) (h : List Ob) : evCK A52 ⟨call52 lf, cvN, subN⟩ k52 (entryK [s]) h (endF c52.res) = F52 lf s h := by kernel_rfl
theorem F52_ok (lf : Nat) (s : V) (h : List Ob) (r_ : V) (h_r : List Ob) (e_ : F52 lf s h = some (r_, h_r)) : CD Go.Proofs.Try.prog 52 [s] h r_ h_r :=
  CD.ofK (A := A52) (σ := ⟨call52 lf, cvN, subN⟩) (c := k52) Go.Proofs.Try.func52 ok52 en52 (show 1 ≤ 8 by decide) (by kernel_rfl) (call52_ok lf) cvN_ok (And.intro True.intro (And.intro (And.intro True.intro (And.intro (And.intro True.intro True.intro) True.intro)) (And.intro True.intro True.intro))) ((F52_eq lf s h).trans e_)
def w52 (f : V → List Ob → Option (V × List Ob)) (vs : List V) (h : List Ob) : Option (V × List Ob) := castCons vs fun c1 l1 => castNil l1 (f c1 h)
noncomputable def W52 (lf : Nat) : List V → List Ob → Option (V × List Ob) := w52 (F52 lf)
theorem W52_ok (lf : Nat) : ∀ args h v h', W52 lf args h = some (v, h') → CD Go.Proofs.Try.prog 52 args h v h' := by
  intro vs h r h' e0
  simp only [W52, w52] at e0
  obtain ⟨c1, l1, rfl, e1⟩ := castCons_inv e0
  obtain ⟨rfl, e2⟩ := castNil_inv e1
  have e := e2
  exact F52_ok lf c1 h r h' e

/-! 14: (*wainscot/disk.Disk).Read -/
def A14 : List (Nat × Sh) := [(1, (.int .i64)), (2, (.int .i64)), (3, (.int .i64)), (9, (.int .i64)), (11, (.int .i64)), (12, (.tup [.any, (.int .i64)])), (14, (.int .i64)), (15, (.tup [.any, (.int .i64)])), (17, (.int .i64)), (18, .bool), (19, (.int .i64)), (20, .bool), (21, (.int .i64)), (22, .bool), (23, (.int .i64)), (24, .bool), (25, .bool), (26, (.int .i64)), (27, .bool), (28, .bool), (29, .bool), (30, (.int .i64)), (35, (.int .i64)), (36, .bool), (37, .bool), (38, .bool), (39, (.int .i64)), (44, (.int .i64)), (45, (.int .i64)), (46, (.int .i64)), (47, .bool), (48, .bool), (53, (.int .i64)), (54, (.int .i64)), (55, (.int .i64)), (56, (.int .i64))]
noncomputable def call14 (lf : Nat) : CallS := callC 52 (W52 lf) (callC 50 (W50 lf) (callN))
theorem call14_ok (lf : Nat) : CallOk Go.Proofs.Try.prog (call14 lf) := callC_ok (W52_ok lf) (callC_ok (W50_ok lf) (callN_ok))
def o14_0 : Outs := [(.ret, [8, 9], [.any, (.int .i64)]), (.normal, [], [])]
def k14_0 : KC := (.block 0 (.seq (.reg [⟨(some 19), none, (.op (.mv (.t 11))), []⟩, ⟨(some 20), none, (.op (.bin .neq (.t 19) (.c (.int .i64 0)))), []⟩, ⟨(some 18), none, (.op (.mv (.t 20))), []⟩]) (.cond (.t 18) (.seq (.reg [⟨(some 21), none, (.op (.mv (.t 11))), []⟩, ⟨(some 8), none, (.op (.mv (.c .nils))), []⟩, ⟨(some 9), none, (.op (.mv (.t 21))), []⟩]) .ret) (.seq (.reg [⟨(some 23), none, (.op (.mv (.t 2))), []⟩, ⟨(some 24), none, (.op (.bin .lss (.t 23) (.c (.int .i64 0)))), []⟩, ⟨(some 25), none, (.op (.mv (.t 24))), []⟩, ⟨(some 26), (some (25, false)), (.op (.mv (.t 3))), []⟩, ⟨(some 27), (some (25, false)), (.op (.bin .lss (.t 26) (.c (.int .i64 0)))), []⟩, ⟨(some 28), none, (.op (.pick (.t 25) (.c (.bool true)) (.t 27))), []⟩, ⟨(some 29), none, (.op (.mv (.t 28))), []⟩, ⟨(some 30), (some (29, false)), (.op (.mv (.t 2))), []⟩, ⟨(some 31), (some (29, false)), (.op (.mv (.t 10))), []⟩, ⟨(some 32), (some (29, false)), (.op (.nilck (.t 31))), []⟩, ⟨(some 33), (some (29, false)), (.op (.faddr 0 (.t 32))), []⟩, ⟨(some 34), (some (29, false)), (.op (.load1 (.t 33))), []⟩, ⟨(some 35), (some (29, false)), (.op (.lenL (.t 34))), []⟩, ⟨(some 36), (some (29, false)), (.op (.bin .gtr (.t 30) (.t 35))), []⟩, ⟨(some 37), none, (.op (.pick (.t 29) (.c (.bool true)) (.t 36))), []⟩, ⟨(some 38), none, (.op (.mv (.t 37))), []⟩, ⟨(some 39), (some (38, false)), (.op (.mv (.t 3))), []⟩, ⟨(some 40), (some (38, false)), (.op (.mv (.t 10))), []⟩, ⟨(some 41), (some (38, false)), (.op (.nilck (.t 40))), []⟩, ⟨(some 42), (some (38, false)), (.op (.faddr 0 (.t 41))), []⟩, ⟨(some 43), (some (38, false)), (.op (.load1 (.t 42))), []⟩, ⟨(some 44), (some (38, false)), (.op (.lenL (.t 43))), []⟩, ⟨(some 45), (some (38, false)), (.op (.mv (.t 2))), []⟩, ⟨(some 46), (some (38, false)), (.op (.bin .sub (.t 44) (.t 45))), []⟩, ⟨(some 47), (some (38, false)), (.op (.bin .gtr (.t 39) (.t 46))), []⟩, ⟨(some 48), none, (.op (.pick (.t 38) (.c (.bool true)) (.t 47))), []⟩, ⟨(some 22), none, (.op (.mv (.t 48))), []⟩]) (.cond (.t 22) (.seq (.reg [⟨(some 8), none, (.op (.mv (.c .nils))), []⟩, ⟨(some 9), none, (.op (.mv (.c (.int .i64 1)))), []⟩]) .ret) .skip)))))
def w14_0 (f : Int → Int → V → Int → List Ob → SubR) (vs : List V) (h : List Ob) : SubR := castCons vs fun c1 l1 => castInt .i64 c1 fun n2 => castCons l1 fun c3 l3 => castInt .i64 c3 fun n4 => castCons l3 fun c5 l5 => castCons l5 fun c6 l6 => castInt .i64 c6 fun n7 => castNil l6 (f n2 n4 c5 n7 h)
noncomputable def S14_0 (lf : Nat) (at_ : Int) (size : Int) (f : V) (e : Int) (h : List Ob) : SubR :=
cB (e != (0)) (
some (.ret, [V.nils, (.int .i64 e)], h)) (
cB (decide (at_ < (0))) (
some (.ret, [V.nils, (.int .i64 (1))], h)) (
cB (decide (size < (0))) (
some (.ret, [V.nils, (.int .i64 (1))], h)) (
bind1 (er (.nilck (.c f)) h) fun x32 =>
bind1 (er (.faddr 0 (.c x32)) h) fun x33 =>
bind1 (er (.load1 (.c x33)) h) fun x34 =>
bind1 (er (.lenL (.c x34)) h) fun v =>
castInt .i64 v fun x35 =>
cB (decide (at_ > x35)) (
some (.ret, [V.nils, (.int .i64 (1))], h)) (
bind1 (er (.nilck (.c f)) h) fun x41 =>
bind1 (er (.faddr 0 (.c x41)) h) fun x42 =>
bind1 (er (.load1 (.c x42)) h) fun x43 =>
bind1 (er (.lenL (.c x43)) h) fun v1 =>
castInt .i64 v1 fun x44 =>
cB (decide (size > (IntKind.i64.wrap (x44 - at_)))) (
some (.ret, [V.nils, (.int .i64 (1))], h)) (
some (.normal, [], h))))))
theorem S14_0_eq (lf : Nat) (at_ : Int) (size : Int) (f : V) (e : Int) (h : List Ob) : evCK A14 ⟨call14 lf, cvN, subN⟩ k14_0 [(2, (.int .i64 at_)), (3, (.int .i64 size)), (10, f), (11, (.int .i64 e))] h (endK o14_0) = S14_0 lf at_ size f e h := by kernel_rfl
theorem S14_0_ok (lf : Nat) : SubOk Go.Proofs.Try.prog k14_0.er [2, 3, 10, 11] o14_0 (w14_0 (S14_0 lf)) := by
  refine SubOk.of (A := A14) (σ := ⟨call14 lf, cvN, subN⟩) (c := k14_0) (call14_ok lf) cvN_ok (And.intro True.intro (And.intro (And.intro True.intro True.intro) (And.intro True.intro (And.intro (And.intro True.intro True.intro) True.intro)))) ?_
  intro vs h r e0
  simp only [w14_0] at e0
  obtain ⟨c1, l1, rfl, e1⟩ := castCons_inv e0
  obtain ⟨y0, rfl, e2⟩ := castInt_inv e1
  obtain ⟨c2, l2, rfl, e3⟩ := castCons_inv e2
  obtain ⟨y1, rfl, e4⟩ := castInt_inv e3
  obtain ⟨c3, l3, rfl, e5⟩ := castCons_inv e4
  obtain ⟨c4, l4, rfl, e6⟩ := castCons_inv e5
  obtain ⟨y3, rfl, e7⟩ := castInt_inv e6
  obtain ⟨rfl, e8⟩ := castNil_inv e7
  have e := e8
  exact (S14_0_eq lf y0 y1 c3 y3 h).trans e
def k14 : KC := (.seq (.reg [⟨(some 8), none, (.op (.mv (.c .nils))), []⟩, ⟨(some 9), none, (.op (.mv (.c (.int .i64 0)))), []⟩]) (.seq (.reg [⟨(some 13), none, (.op (.mv (.t 0))), []⟩, ⟨(some 14), none, (.op (.mv (.t 1))), []⟩, ⟨(some 15), none, (.call 50 [(.t 13), (.t 14)]), []⟩, ⟨(some 12), none, (.op (.mv (.t 15))), []⟩, ⟨(some 16), none, (.op (.ext 0 (.t 12))), []⟩, ⟨(some 17), none, (.op (.ext 1 (.t 12))), []⟩, ⟨(some 10), none, (.op (.mv (.t 16))), []⟩, ⟨(some 11), none, (.op (.mv (.t 17))), []⟩]) (.seq (.sub 0 k14_0.er [2, 3, 10, 11] o14_0) (.seq (.reg [⟨(some 49), none, (.op (.mv (.t 10))), []⟩, ⟨(some 50), none, (.op (.nilck (.t 49))), []⟩, ⟨(some 51), none, (.op (.faddr 0 (.t 50))), []⟩, ⟨(some 52), none, (.op (.load1 (.t 51))), []⟩, ⟨(some 53), none, (.op (.mv (.t 2))), []⟩, ⟨(some 54), none, (.op (.mv (.t 2))), []⟩, ⟨(some 55), none, (.op (.mv (.t 3))), []⟩, ⟨(some 56), none, (.op (.bin .add (.t 54) (.t 55))), []⟩, ⟨(some 57), none, (.op (.slcL 1 (.t 52) (some (.t 53)) (some (.t 56)) none)), []⟩, ⟨(some 58), none, (.call 52 [(.t 57)]), []⟩, ⟨(some 8), none, (.op (.mv (.t 58))), []⟩, ⟨(some 9), none, (.op (.mv (.c (.int .i64 0)))), []⟩]) .ret))))
noncomputable def F14 (lf : Nat) (d : V) (n_ : Int) (at_ : Int) (size : Int) (h : List Ob) : Option (V × List Ob) :=
bind2 (F50 lf d n_ h) fun v h_ =>
castTup v fun l =>
castCons l fun x15_0 l1 =>
castCons l1 fun c l2 =>
castInt .i64 c fun x15_1 =>
castNil l2 (
bind3 (S14_0 lf at_ size x15_0 x15_1 h_) fun ex vs h_1 =>
cB (decide (ex = .ret)) (
castCons vs fun x8 l3 =>
castCons l3 fun c1 l4 =>
castInt .i64 c1 fun x9 =>
castNil l4 (
some ((.tup [x8, (.int .i64 x9)]), h_1))) (
cB (decide (ex = .normal)) (
castNil vs (
bind1 (er (.nilck (.c x15_0)) h_1) fun x50 =>
bind1 (er (.faddr 0 (.c x50)) h_1) fun x51 =>
bind1 (er (.load1 (.c x51)) h_1) fun x52 =>
bind1 (er (.slcL 1 (.c x52) (some (.c (.int .i64 at_))) (some (.c (.int .i64 (IntKind.i64.wrap (at_ + size))))) none) h_1) fun x57 =>
bind2 (F52 lf x57 h_1) fun x58 h_2 =>
some ((.tup [x58, (.int .i64 (0))]), h_2))) (
none)))
theorem F14_eq (lf : Nat) (d : V) (n_ : Int) (at_ : Int) (size : Int) (h : List Ob) : evCK A14 ⟨call14 lf, cvN, subC 0 (w14_0 (S14_0 lf)) (subN)⟩ k14 (entryK [d, (.int .i64 n_), (.int .i64 at_), (.int .i64 size)]) h (endF c14.res) = F14 lf d n_ at_ size h := by kernel_rfl
theorem F14_ok (lf : Nat) (d : V) (n_ : Int) (at_ : Int) (size : Int) (h : List Ob) (r_ : V) (h_r : List Ob) (e_ : F14 lf d n_ at_ size h = some (r_, h_r)) : CD Go.Proofs.Try.prog 14 [d, (.int .i64 n_), (.int .i64 at_), (.int .i64 size)] h r_ h_r :=
  CD.ofK (A := A14) (σ := ⟨call14 lf, cvN, subC 0 (w14_0 (S14_0 lf)) (subN)⟩) (c := k14) Go.Proofs.Try.func14 ok14 en14 (show 4 ≤ 59 by decide) (by kernel_rfl) (call14_ok lf) cvN_ok (And.intro True.intro (And.intro True.intro (And.intro (S14_0_ok lf) (And.intro True.intro True.intro)))) ((F14_eq lf d n_ at_ size h).trans e_)
def w14 (f : V → Int → Int → Int → List Ob → Option (V × List Ob)) (vs : List V) (h : List Ob) : Option (V × List Ob) := castCons vs fun c1 l1 => castCons l1 fun c2 l2 => castInt .i64 c2 fun n3 => castCons l2 fun c4 l4 => castInt .i64 c4 fun n5 => castCons l4 fun c6 l6 => castInt .i64 c6 fun n7 => castNil l6 (f c1 n3 n5 n7 h)
noncomputable def W14 (lf : Nat) : List V → List Ob → Option (V × List Ob) := w14 (F14 lf)
theorem W14_ok (lf : Nat) : ∀ args h v h', W14 lf args h = some (v, h') → CD Go.Proofs.Try.prog 14 args h v h' := by
  intro vs h r h' e0
  simp only [W14, w14] at e0
  obtain ⟨c1, l1, rfl, e1⟩ := castCons_inv e0
  obtain ⟨c2, l2, rfl, e2⟩ := castCons_inv e1
  obtain ⟨y1, rfl, e3⟩ := castInt_inv e2
  obtain ⟨c3, l3, rfl, e4⟩ := castCons_inv e3
  obtain ⟨y2, rfl, e5⟩ := castInt_inv e4
  obtain ⟨c4, l4, rfl, e6⟩ := castCons_inv e5
  obtain ⟨y3, rfl, e7⟩ := castInt_inv e6
  obtain ⟨rfl, e8⟩ := castNil_inv e7
  have e := e8
  exact F14_ok lf c1 y1 y2 y3 h r h' e

/-! 16: (*wainscot/disk.Disk).Unsynced -/
def A16 : List (Nat × Sh) := [(2, (.int .i64)), (4, .bool), (11, (.int .i64)), (18, (.int .i64)), (19, (.int .i64))]
noncomputable def call16 (lf : Nat) : CallS := callN
theorem call16_ok (lf : Nat) : CallOk Go.Proofs.Try.prog (call16 lf) := callN_ok
def k16 : KC := (.seq (.reg [⟨(some 2), none, (.op (.mv (.c (.int .i64 0)))), []⟩]) (.seq (.seq (.reg [⟨(some 3), none, (.op (.mv (.t 0))), []⟩, ⟨(some 4), none, (.op (.eq false .ptr (.t 3) (.c .nilp))), []⟩]) (.cond (.t 4) (.seq (.reg [⟨(some 2), none, (.op (.mv (.c (.int .i64 0)))), []⟩]) .ret) .skip)) (.seq (.reg [⟨(some 5), none, (.op (.mv (.t 0))), []⟩, ⟨(some 6), none, (.op (.nilck (.t 5))), []⟩, ⟨(some 7), none, (.op (.faddr 0 (.t 6))), []⟩, ⟨(some 8), none, (.op (.iaddrA 2 3 (.t 7) (.c (.int .i64 0)))), []⟩, ⟨(some 9), none, (.op (.faddr 2 (.t 8))), []⟩, ⟨(some 10), none, (.op (.load1 (.t 9))), []⟩, ⟨(some 11), none, (.op (.lenM (.t 10))), []⟩, ⟨(some 12), none, (.op (.mv (.t 0))), []⟩, ⟨(some 13), none, (.op (.nilck (.t 12))), []⟩, ⟨(some 14), none, (.op (.faddr 0 (.t 13))), []⟩, ⟨(some 15), none, (.op (.iaddrA 2 3 (.t 14) (.c (.int .i64 1)))), []⟩, ⟨(some 16), none, (.op (.faddr 2 (.t 15))), []⟩, ⟨(some 17), none, (.op (.load1 (.t 16))), []⟩, ⟨(some 18), none, (.op (.lenM (.t 17))), []⟩, ⟨(some 19), none, (.op (.bin .add (.t 11) (.t 18))), []⟩, ⟨(some 2), none, (.op (.mv (.t 19))), []⟩]) .ret)))
noncomputable def F16 (lf : Nat) (d : V) (h : List Ob) : Option (V × List Ob) :=
bind1 (er (.eq false .ptr (.c d) (.c V.nilp)) h) fun v =>
castBool v fun x4 =>
cB x4 (
some ((.int .i64 (0)), h)) (
bind1 (er (.nilck (.c d)) h) fun x6 =>
bind1 (er (.faddr 0 (.c x6)) h) fun x7 =>
bind1 (er (.iaddrA 2 3 (.c x7) (.c (.int .i64 (0)))) h) fun x8 =>
bind1 (er (.faddr 2 (.c x8)) h) fun x9 =>
bind1 (er (.load1 (.c x9)) h) fun x10 =>
bind1 (er (.lenM (.c x10)) h) fun v1 =>
castInt .i64 v1 fun x11 =>
bind1 (er (.nilck (.c d)) h) fun x13 =>
bind1 (er (.faddr 0 (.c x13)) h) fun x14 =>
bind1 (er (.iaddrA 2 3 (.c x14) (.c (.int .i64 (1)))) h) fun x15 =>
bind1 (er (.faddr 2 (.c x15)) h) fun x16 =>
bind1 (er (.load1 (.c x16)) h) fun x17 =>
bind1 (er (.lenM (.c x17)) h) fun v2 =>
castInt .i64 v2 fun x18 =>
some ((.int .i64 (IntKind.i64.wrap (x11 + x18))), h))
theorem F16_eq (lf : Nat) (d : V) (h : List Ob) : evCK A16 ⟨call16 lf, cvN, subN⟩ k16 (entryK [d]) h (endF c16.res) = F16 lf d h := by kernel_rfl
theorem F16_ok (lf : Nat) (d : V) (h : List Ob) (r_ : V) (h_r : List Ob) (e_ : F16 lf d h = some (r_, h_r)) : CD Go.Proofs.Try.prog 16 [d] h r_ h_r :=
  CD.ofK (A := A16) (σ := ⟨call16 lf, cvN, subN⟩) (c := k16) Go.Proofs.Try.func16 ok16 en16 (show 1 ≤ 20 by decide) (by kernel_rfl) (call16_ok lf) cvN_ok (And.intro True.intro (And.intro (And.intro True.intro (And.intro (And.intro True.intro True.intro) True.intro)) (And.intro True.intro True.intro))) ((F16_eq lf d h).trans e_)
def w16 (f : V → List Ob → Option (V × List Ob)) (vs : List V) (h : List Ob) : Option (V × List Ob) := castCons vs fun c1 l1 => castNil l1 (f c1 h)
noncomputable def W16 (lf : Nat) : List V → List Ob → Option (V × List Ob) := w16 (F16 lf)
theorem W16_ok (lf : Nat) : ∀ args h v h', W16 lf args h = some (v, h') → CD Go.Proofs.Try.prog 16 args h v h' := by
  intro vs h r h' e0
  simp only [W16, w16] at e0
  obtain ⟨c1, l1, rfl, e1⟩ := castCons_inv e0
  obtain ⟨rfl, e2⟩ := castNil_inv e1
  have e := e2
  exact F16_ok lf c1 h r h' e

/-! 3: wainscot/wainscotlaw09.DiskParted -/
def A3 : List (Nat × Sh) := [(1, (.int .u16)), (3, (.int .u64)), (8, .bool), (11, (.int .i64)), (12, (.int .i64)), (13, (.int .i64)), (14, (.int .i64)), (16, (.int .i64)), (18, (.int .i64)), (19, .bool), (20, .bool), (21, .bool), (23, .bool), (24, .bool), (25, .bool), (26, .bool), (28, (.int .i64)), (29, .bool), (30, .bool), (31, .bool), (35, (.int .i64)), (36, (.int .i64)), (37, .bool), (38, (.int .i64)), (40, (.int .i64)), (43, (.int .i64)), (44, .bool), (47, (.int .i64)), (50, (.int .i64)), (52, (.int .i64)), (55, (.int .i64)), (57, (.int .i64)), (61, (.int .i64)), (64, (.int .i64)), (67, (.int .i64)), (69, (.int .i64)), (72, (.int .i64)), (74, (.int .i64)), (78, (.int .i64)), (79, (.int .i64)), (81, (.int .i64)), (82, .bool), (83, (.int .u64)), (85, (.int .i64)), (86, (.int .i64)), (87, (.int .u64)), (88, (.int .u64)), (89, (.int .i64)), (91, (.int .u16)), (92, (.int .i64)), (94, (.int .i64)), (96, (.int .u16)), (97, (.int .i64)), (99, (.int .i64)), (101, (.int .i64)), (102, (.int .i64)), (103, .bool), (105, (.int .u16)), (106, (.int .i64)), (107, (.int .i64)), (108, (.int .i64)), (110, (.int .i64)), (112, (.int .i64)), (113, (.tup [.any, (.int .i64)])), (116, (.int .i64)), (117, (.tup [.any, (.int .i64)])), (119, (.int .i64)), (120, (.tup [.any, (.int .i64)])), (123, (.int .i64)), (124, (.tup [.any, (.int .i64)])), (126, (.int .i64)), (127, (.int .i64)), (128, (.int .i64)), (129, .bool), (130, .bool), (132, .str), (134, .str), (135, .bool), (136, .bool), (137, .bool), (139, (.int .i64)), (141, (.int .i64)), (142, .bool), (143, .bool), (144, .bool), (146, (.int .i64)), (148, (.int .i64)), (149, .bool), (150, .bool)]
noncomputable def call3 (lf : Nat) : CallS := callC 17 (W17 lf) (callC 16 (W16 lf) (callC 15 (W15 lf) (callC 14 (W14 lf) (callC 13 (W13 lf) (callC 12 (W12 lf) (callC 11 (W11 lf) (callC 10 (W10 lf) (callN))))))))
theorem call3_ok (lf : Nat) : CallOk Go.Proofs.Try.prog (call3 lf) := callC_ok (W17_ok lf) (callC_ok (W16_ok lf) (callC_ok (W15_ok lf) (callC_ok (W14_ok lf) (callC_ok (W13_ok lf) (callC_ok (W12_ok lf) (callC_ok (W11_ok lf) (callC_ok (W10_ok lf) (callN_ok))))))))
def o3_0 : Outs := [((.exit 0), [], [])]
def k3_0 : KC := (.seq (.reg [⟨(some 37), none, (.op (.bin .lss (.t 36) (.t 35))), []⟩]) (.seq (.cond (.t 37) .skip (.exit 0)) (.seq (.block 1 (.seq (.reg [⟨(some 38), none, (.op (.mv (.t 36))), []⟩, ⟨(some 11), none, (.op (.mv (.t 38))), []⟩]) (.seq (.reg [⟨(some 39), none, (.op (.mv (.t 0))), []⟩, ⟨(some 40), none, (.op (.mv (.t 11))), []⟩, ⟨(some 41), none, (.op (.iaddrL 6 (.t 39) (.t 40))), []⟩, ⟨(some 42), none, (.op (.faddr 0 (.t 41))), []⟩, ⟨(some 43), none, (.op (.load1 (.t 42))), []⟩, ⟨(some 44), none, (.op (.bin .eql (.t 43) (.c (.int .i64 1)))), []⟩]) (.cond (.t 44) (.seq (.reg [⟨(some 45), none, (.op (.mv (.t 9))), []⟩, ⟨(some 46), none, (.op (.mv (.t 0))), []⟩, ⟨(some 47), none, (.op (.mv (.t 11))), []⟩, ⟨(some 48), none, (.op (.iaddrL 6 (.t 46) (.t 47))), []⟩, ⟨(some 49), none, (.op (.faddr 1 (.t 48))), []⟩, ⟨(some 50), none, (.op (.load1 (.t 49))), []⟩, ⟨(some 51), none, (.op (.mv (.t 0))), []⟩, ⟨(some 52), none, (.op (.mv (.t 11))), []⟩, ⟨(some 53), none, (.op (.iaddrL 6 (.t 51) (.t 52))), []⟩, ⟨(some 54), none, (.op (.faddr 2 (.t 53))), []⟩, ⟨(some 55), none, (.op (.load1 (.t 54))), []⟩, ⟨(some 56), none, (.op (.mv (.t 0))), []⟩, ⟨(some 57), none, (.op (.mv (.t 11))), []⟩, ⟨(some 58), none, (.op (.iaddrL 6 (.t 56) (.t 57))), []⟩, ⟨(some 59), none, (.op (.faddr 4 (.t 58))), []⟩, ⟨(some 60), none, (.op (.load1 (.t 59))), []⟩, ⟨(some 61), none, (.call 13 [(.t 45), (.t 50), (.t 55), (.t 60)]), []⟩]) (.reg [⟨(some 62), none, (.op (.mv (.t 10))), []⟩, ⟨(some 63), none, (.op (.mv (.t 0))), []⟩, ⟨(some 64), none, (.op (.mv (.t 11))), []⟩, ⟨(some 65), none, (.op (.iaddrL 6 (.t 63) (.t 64))), []⟩, ⟨(some 66), none, (.op (.faddr 1 (.t 65))), []⟩, ⟨(some 67), none, (.op (.load1 (.t 66))), []⟩, ⟨(some 68), none, (.op (.mv (.t 0))), []⟩, ⟨(some 69), none, (.op (.mv (.t 11))), []⟩, ⟨(some 70), none, (.op (.iaddrL 6 (.t 68) (.t 69))), []⟩, ⟨(some 71), none, (.op (.faddr 2 (.t 70))), []⟩, ⟨(some 72), none, (.op (.load1 (.t 71))), []⟩, ⟨(some 73), none, (.op (.mv (.t 0))), []⟩, ⟨(some 74), none, (.op (.mv (.t 11))), []⟩, ⟨(some 75), none, (.op (.iaddrL 6 (.t 73) (.t 74))), []⟩, ⟨(some 76), none, (.op (.faddr 4 (.t 75))), []⟩, ⟨(some 77), none, (.op (.load1 (.t 76))), []⟩, ⟨(some 78), none, (.call 13 [(.t 62), (.t 67), (.t 72), (.t 77)]), []⟩])) .skip)))) (.reg [⟨(some 79), none, (.op (.bin .add (.t 36) (.c (.int .i64 1)))), []⟩, ⟨(some 36), none, (.op (.mv (.t 79))), []⟩]))))
def w3_0 (f : V → V → V → Int → Int → List Ob → SubR) (vs : List V) (h : List Ob) : SubR := castCons vs fun c1 l1 => castCons l1 fun c2 l2 => castCons l2 fun c3 l3 => castCons l3 fun c4 l4 => castInt .i64 c4 fun n5 => castCons l4 fun c6 l6 => castInt .i64 c6 fun n7 => castNil l6 (f c1 c2 c3 n5 n7 h)
noncomputable def B3_0 (lf : Nat) (self : V → V → V → Int → Int → List Ob → SubR) (script : V) (d : V) (w : V) (x35 : Int) (x36 : Int) (h : List Ob) : SubR :=
cB (decide (x36 < x35)) (
bind1 (er (.iaddrL 6 (.c script) (.c (.int .i64 x36))) h) fun x41 =>
bind1 (er (.faddr 0 (.c x41)) h) fun x42 =>
bind1 (er (.load1 (.c x42)) h) fun v =>
castInt .i64 v fun x43 =>
cB (x43 == (1)) (
bind1 (er (.iaddrL 6 (.c script) (.c (.int .i64 x36))) h) fun x48 =>
bind1 (er (.faddr 1 (.c x48)) h) fun x49 =>
bind1 (er (.load1 (.c x49)) h) fun v1 =>
castInt .i64 v1 fun x50 =>
bind1 (er (.iaddrL 6 (.c script) (.c (.int .i64 x36))) h) fun x53 =>
bind1 (er (.faddr 2 (.c x53)) h) fun x54 =>
bind1 (er (.load1 (.c x54)) h) fun v2 =>
castInt .i64 v2 fun x55 =>
bind1 (er (.iaddrL 6 (.c script) (.c (.int .i64 x36))) h) fun x58 =>
bind1 (er (.faddr 4 (.c x58)) h) fun x59 =>
bind1 (er (.load1 (.c x59)) h) fun x60 =>
bind2 (F13 lf d x50 x55 x60 h) fun v3 h_ =>
castInt .i64 v3 fun x61 =>
bind1 (er (.iaddrL 6 (.c script) (.c (.int .i64 x36))) h_) fun x65 =>
bind1 (er (.faddr 1 (.c x65)) h_) fun x66 =>
bind1 (er (.load1 (.c x66)) h_) fun v4 =>
castInt .i64 v4 fun x67 =>
bind1 (er (.iaddrL 6 (.c script) (.c (.int .i64 x36))) h_) fun x70 =>
bind1 (er (.faddr 2 (.c x70)) h_) fun x71 =>
bind1 (er (.load1 (.c x71)) h_) fun v5 =>
castInt .i64 v5 fun x72 =>
bind1 (er (.iaddrL 6 (.c script) (.c (.int .i64 x36))) h_) fun x75 =>
bind1 (er (.faddr 4 (.c x75)) h_) fun x76 =>
bind1 (er (.load1 (.c x76)) h_) fun x77 =>
bind2 (F13 lf w x67 x72 x77 h_) fun v6 h_1 =>
castInt .i64 v6 fun x78 =>
self script d w x35 (IntKind.i64.wrap (x36 + (1))) h_1) (
self script d w x35 (IntKind.i64.wrap (x36 + (1))) h)) (
some ((.exit 0), [], h))
noncomputable def L3_0 (lf : Nat) : Nat → V → V → V → Int → Int → List Ob → SubR
  | 0 => fun _ _ _ _ _ _ => none
  | n + 1 => B3_0 lf (L3_0 lf n)
theorem B3_0_eq (lf : Nat) (self : V → V → V → Int → Int → List Ob → SubR) (script : V) (d : V) (w : V) (x35 : Int) (x36 : Int) (h : List Ob) : evCK A3 ⟨call3 lf, cvN, subN⟩ k3_0 [(0, script), (9, d), (10, w), (35, (.int .i64 x35)), (36, (.int .i64 x36))] h (endL [0, 9, 10, 35, 36] [.any, .any, .any, (.int .i64), (.int .i64)] o3_0 (w3_0 self)) = B3_0 lf self script d w x35 x36 h := by kernel_rfl
theorem L3_0_ok (lf : Nat) : ∀ n, SubOk Go.Proofs.Try.prog (.loop k3_0.er) [0, 9, 10, 35, 36] o3_0 (w3_0 (L3_0 lf n)) := by
  refine SubOk.loop (A := A3) (σ := ⟨call3 lf, cvN, subN⟩) (c := k3_0) (shs := [.any, .any, .any, (.int .i64), (.int .i64)]) (G := fun n => w3_0 (L3_0 lf n)) (call3_ok lf) cvN_ok (And.intro True.intro (And.intro (And.intro True.intro True.intro) (And.intro (And.intro True.intro (And.intro True.intro (And.intro (And.intro True.intro True.intro) True.intro))) True.intro))) ?_ ?_
  · intro vs h r e0
    simp only [w3_0] at e0
    obtain ⟨c1, l1, rfl, e1⟩ := castCons_inv e0
    obtain ⟨c2, l2, rfl, e2⟩ := castCons_inv e1
    obtain ⟨c3, l3, rfl, e3⟩ := castCons_inv e2
    obtain ⟨c4, l4, rfl, e4⟩ := castCons_inv e3
    obtain ⟨y3, rfl, e5⟩ := castInt_inv e4
    obtain ⟨c5, l5, rfl, e6⟩ := castCons_inv e5
    obtain ⟨y4, rfl, e7⟩ := castInt_inv e6
    obtain ⟨rfl, e8⟩ := castNil_inv e7
    have e := e8
    cases e
  · intro n vs h r e0
    simp only [w3_0] at e0
    obtain ⟨c1, l1, rfl, e1⟩ := castCons_inv e0
    obtain ⟨c2, l2, rfl, e2⟩ := castCons_inv e1
    obtain ⟨c3, l3, rfl, e3⟩ := castCons_inv e2
    obtain ⟨c4, l4, rfl, e4⟩ := castCons_inv e3
    obtain ⟨y3, rfl, e5⟩ := castInt_inv e4
    obtain ⟨c5, l5, rfl, e6⟩ := castCons_inv e5
    obtain ⟨y4, rfl, e7⟩ := castInt_inv e6
    obtain ⟨rfl, e8⟩ := castNil_inv e7
    have e := e8
    exact (B3_0_eq lf (L3_0 lf n) c1 c2 c3 y3 y4 h).trans e
def o3_1 : Outs := [(.normal, [14], [(.int .i64)])]
def k3_1 : KC := (.seq (.reg [⟨(some 102), none, (.op (.mv (.t 14))), []⟩, ⟨(some 103), none, (.op (.bin .eql (.t 102) (.c (.int .i64 0)))), []⟩]) (.cond (.t 103) (.reg [⟨(some 104), none, (.op (.mv (.t 10))), []⟩, ⟨(some 105), none, (.op (.mv (.t 1))), []⟩, ⟨(some 106), none, (.op (.toInt .i64 (.t 105))), []⟩, ⟨(some 107), none, (.op (.mv (.t 12))), []⟩, ⟨(some 108), none, (.op (.bin .add (.t 106) (.t 107))), []⟩, ⟨(some 109), none, (.op (.mv (.t 2))), []⟩, ⟨(some 110), none, (.op (.mv (.t 12))), []⟩, ⟨(some 111), none, (.op (.slcL 1 (.t 109) (some (.t 110)) none none)), []⟩, ⟨(some 112), none, (.call 13 [(.t 104), (.c (.int .i64 0)), (.t 108), (.t 111)]), []⟩, ⟨(some 14), none, (.op (.mv (.t 112))), []⟩]) .skip))
def w3_1 (f : Int → V → V → Int → Int → List Ob → SubR) (vs : List V) (h : List Ob) : SubR := castCons vs fun c1 l1 => castInt .u16 c1 fun n2 => castCons l1 fun c3 l3 => castCons l3 fun c4 l4 => castCons l4 fun c5 l5 => castInt .i64 c5 fun n6 => castCons l5 fun c7 l7 => castInt .i64 c7 fun n8 => castNil l7 (f n2 c3 c4 n6 n8 h)
noncomputable def S3_1 (lf : Nat) (at_ : Int) (b : V) (w : V) (k : Int) (f : Int) (h : List Ob) : SubR :=
cB (f == (0)) (
bind1 (er (.slcL 1 (.c b) (some (.c (.int .i64 k))) none none) h) fun x111 =>
bind2 (F13 lf w (0) (IntKind.i64.wrap ((IntKind.i64.wrap at_) + k)) x111 h) fun v h_ =>
castInt .i64 v fun x112 =>
some (.normal, [(.int .i64 x112)], h_)) (
some (.normal, [(.int .i64 f)], h))
theorem S3_1_eq (lf : Nat) (at_ : Int) (b : V) (w : V) (k : Int) (f : Int) (h : List Ob) : evCK A3 ⟨call3 lf, cvN, subN⟩ k3_1 [(1, (.int .u16 at_)), (2, b), (10, w), (12, (.int .i64 k)), (14, (.int .i64 f))] h (endK o3_1) = S3_1 lf at_ b w k f h := by kernel_rfl
theorem S3_1_ok (lf : Nat) : SubOk Go.Proofs.Try.prog k3_1.er [1, 2, 10, 12, 14] o3_1 (w3_1 (S3_1 lf)) := by
  refine SubOk.of (A := A3) (σ := ⟨call3 lf, cvN, subN⟩) (c := k3_1) (call3_ok lf) cvN_ok (And.intro True.intro (And.intro True.intro True.intro)) ?_
  intro vs h r e0
  simp only [w3_1] at e0
  obtain ⟨c1, l1, rfl, e1⟩ := castCons_inv e0
  obtain ⟨y0, rfl, e2⟩ := castInt_inv e1
  obtain ⟨c2, l2, rfl, e3⟩ := castCons_inv e2
  obtain ⟨c3, l3, rfl, e4⟩ := castCons_inv e3
  obtain ⟨c4, l4, rfl, e5⟩ := castCons_inv e4
  obtain ⟨y3, rfl, e6⟩ := castInt_inv e5
  obtain ⟨c5, l5, rfl, e7⟩ := castCons_inv e6
  obtain ⟨y4, rfl, e8⟩ := castInt_inv e7
  obtain ⟨rfl, e9⟩ := castNil_inv e8
  have e := e9
  exact (S3_1_eq lf y0 c2 c3 y3 y4 h).trans e
def o3_2 : Outs := [(.normal, [12], [(.int .i64)])]
def k3_2 : KC := (.seq (.reg [⟨(some 80), none, (.op (.mv (.t 2))), []⟩, ⟨(some 81), none, (.op (.lenL (.t 80))), []⟩, ⟨(some 82), none, (.op (.bin .gtr (.t 81) (.c (.int .i64 0)))), []⟩]) (.cond (.t 82) (.reg [⟨(some 83), none, (.op (.mv (.t 3))), []⟩, ⟨(some 84), none, (.op (.mv (.t 2))), []⟩, ⟨(some 85), none, (.op (.lenL (.t 84))), []⟩, ⟨(some 86), none, (.op (.bin .add (.t 85) (.c (.int .i64 1)))), []⟩, ⟨(some 87), none, (.op (.toInt .u64 (.t 86))), []⟩, ⟨(some 88), none, (.op (.bin .rem (.t 83) (.t 87))), []⟩, ⟨(some 89), none, (.op (.toInt .i64 (.t 88))), []⟩, ⟨(some 12), none, (.op (.mv (.t 89))), []⟩]) .skip))
def w3_2 (f : V → Int → Int → List Ob → SubR) (vs : List V) (h : List Ob) : SubR := castCons vs fun c1 l1 => castCons l1 fun c2 l2 => castInt .u64 c2 fun n3 => castCons l2 fun c4 l4 => castInt .i64 c4 fun n5 => castNil l4 (f c1 n3 n5 h)
noncomputable def S3_2 (lf : Nat) (b : V) (cut : Int) (k : Int) (h : List Ob) : SubR :=
bind1 (er (.lenL (.c b)) h) fun v =>
castInt .i64 v fun x81 =>
cB (decide (x81 > (0))) (
bind1 (er (.lenL (.c b)) h) fun v1 =>
castInt .i64 v1 fun x85 =>
bind1 (er (.bin .rem (.c (.int .u64 cut)) (.c (.int .u64 (IntKind.u64.wrap (IntKind.i64.wrap (x85 + (1))))))) h) fun v2 =>
castInt .u64 v2 fun x88 =>
some (.normal, [(.int .i64 (IntKind.i64.wrap x88))], h)) (
some (.normal, [(.int .i64 k)], h))
theorem S3_2_eq (lf : Nat) (b : V) (cut : Int) (k : Int) (h : List Ob) : evCK A3 ⟨call3 lf, cvN, subN⟩ k3_2 [(2, b), (3, (.int .u64 cut)), (12, (.int .i64 k))] h (endK o3_2) = S3_2 lf b cut k h := by kernel_rfl
theorem S3_2_ok (lf : Nat) : SubOk Go.Proofs.Try.prog k3_2.er [2, 3, 12] o3_2 (w3_2 (S3_2 lf)) := by
  refine SubOk.of (A := A3) (σ := ⟨call3 lf, cvN, subN⟩) (c := k3_2) (call3_ok lf) cvN_ok (And.intro True.intro (And.intro True.intro True.intro)) ?_
  intro vs h r e0
  simp only [w3_2] at e0
  obtain ⟨c1, l1, rfl, e1⟩ := castCons_inv e0
  obtain ⟨c2, l2, rfl, e2⟩ := castCons_inv e1
  obtain ⟨y1, rfl, e3⟩ := castInt_inv e2
  obtain ⟨c3, l3, rfl, e4⟩ := castCons_inv e3
  obtain ⟨y2, rfl, e5⟩ := castInt_inv e4
  obtain ⟨rfl, e6⟩ := castNil_inv e5
  have e := e6
  exact (S3_2_eq lf c1 y1 y2 h).trans e
def o3_3 : Outs := [(.ret, [8], [.bool]), (.normal, [], [])]
def k3_3 : KC := (.seq (.reg [⟨(some 19), none, (.call 10 []), []⟩, ⟨(some 20), none, (.op (.un .not (.t 19))), []⟩, ⟨(some 21), none, (.op (.mv (.t 20))), []⟩, ⟨(some 22), (some (21, false)), (.op (.mv (.t 0))), []⟩, ⟨(some 23), (some (21, false)), (.call 11 [(.t 22)]), []⟩, ⟨(some 24), (some (21, false)), (.op (.un .not (.t 23))), []⟩, ⟨(some 25), none, (.op (.pick (.t 21) (.c (.bool true)) (.t 24))), []⟩, ⟨(some 26), none, (.op (.mv (.t 25))), []⟩, ⟨(some 27), (some (26, false)), (.op (.mv (.t 2))), []⟩, ⟨(some 28), (some (26, false)), (.op (.lenL (.t 27))), []⟩, ⟨(some 29), (some (26, false)), (.op (.bin .gtr (.t 28) (.c (.int .i64 5000)))), []⟩, ⟨(some 30), none, (.op (.pick (.t 26) (.c (.bool true)) (.t 29))), []⟩]) (.cond (.t 30) (.seq (.reg [⟨(some 31), none, (.call 10 []), []⟩, ⟨(some 8), none, (.op (.mv (.t 31))), []⟩]) .ret) .skip))
def w3_3 (f : V → V → List Ob → SubR) (vs : List V) (h : List Ob) : SubR := castCons vs fun c1 l1 => castCons l1 fun c2 l2 => castNil l2 (f c1 c2 h)
noncomputable def S3_3 (lf : Nat) (script : V) (b : V) (h : List Ob) : SubR :=
bind2 (F10 lf h) fun v h_ =>
castBool v fun x19 =>
cB (!x19) (
bind2 (F10 lf h_) fun v1 h_1 =>
castBool v1 fun x31 =>
some (.ret, [(.bool x31)], h_1)) (
bind2 (F11 lf script h_) fun v1 h_1 =>
castBool v1 fun x23 =>
cB (!x23) (
bind2 (F10 lf h_1) fun v2 h_2 =>
castBool v2 fun x31 =>
some (.ret, [(.bool x31)], h_2)) (
bind1 (er (.lenL (.c b)) h_1) fun v2 =>
castInt .i64 v2 fun x28 =>
cB (decide (x28 > (5000))) (
bind2 (F10 lf h_1) fun v3 h_2 =>
castBool v3 fun x31 =>
some (.ret, [(.bool x31)], h_2)) (
some (.normal, [], h_1))))
theorem S3_3_eq (lf : Nat) (script : V) (b : V) (h : List Ob) : evCK A3 ⟨call3 lf, cvN, subN⟩ k3_3 [(0, script), (2, b)] h (endK o3_3) = S3_3 lf script b h := by kernel_rfl
theorem S3_3_ok (lf : Nat) : SubOk Go.Proofs.Try.prog k3_3.er [0, 2] o3_3 (w3_3 (S3_3 lf)) := by
  refine SubOk.of (A := A3) (σ := ⟨call3 lf, cvN, subN⟩) (c := k3_3) (call3_ok lf) cvN_ok (And.intro True.intro (And.intro (And.intro True.intro True.intro) True.intro)) ?_
  intro vs h r e0
  simp only [w3_3] at e0
  obtain ⟨c1, l1, rfl, e1⟩ := castCons_inv e0
  obtain ⟨c2, l2, rfl, e2⟩ := castCons_inv e1
  obtain ⟨rfl, e3⟩ := castNil_inv e2
  have e := e3
  exact (S3_3_eq lf c1 c2 h).trans e
def k3 : KC := (.seq (.reg [⟨(some 8), none, (.op (.mv (.c (.bool false)))), []⟩]) (.seq (.sub 3 k3_3.er [0, 2] o3_3) (.seq (.reg [⟨(some 32), none, (.call 12 [(.c (.int .i64 1073741824))]), []⟩, ⟨(some 33), none, (.call 12 [(.c (.int .i64 1073741824))]), []⟩, ⟨(some 9), none, (.op (.mv (.t 32))), []⟩, ⟨(some 10), none, (.op (.mv (.t 33))), []⟩]) (.seq (.seq (.reg [⟨(some 34), none, (.op (.mv (.t 0))), []⟩, ⟨(some 35), none, (.op (.lenL (.t 34))), []⟩, ⟨(some 36), none, (.op (.mv (.c (.int .i64 0)))), []⟩]) (.block 0 (.sub 0 (.loop k3_0.er) [0, 9, 10, 35, 36] o3_0))) (.seq (.reg [⟨(some 12), none, (.op (.mv (.c (.int .i64 0)))), []⟩]) (.seq (.sub 2 k3_2.er [2, 3, 12] o3_2) (.seq (.reg [⟨(some 90), none, (.op (.mv (.t 9))), []⟩, ⟨(some 91), none, (.op (.mv (.t 1))), []⟩, ⟨(some 92), none, (.op (.toInt .i64 (.t 91))), []⟩, ⟨(some 93), none, (.op (.mv (.t 2))), []⟩, ⟨(some 94), none, (.call 13 [(.t 90), (.c (.int .i64 0)), (.t 92), (.t 93)]), []⟩, ⟨(some 13), none, (.op (.mv (.t 94))), []⟩]) (.seq (.reg [⟨(some 95), none, (.op (.mv (.t 10))), []⟩, ⟨(some 96), none, (.op (.mv (.t 1))), []⟩, ⟨(some 97), none, (.op (.toInt .i64 (.t 96))), []⟩, ⟨(some 98), none, (.op (.mv (.t 2))), []⟩, ⟨(some 99), none, (.op (.mv (.t 12))), []⟩, ⟨(some 100), none, (.op (.slcL 1 (.t 98) none (some (.t 99)) none)), []⟩, ⟨(some 101), none, (.call 13 [(.t 95), (.c (.int .i64 0)), (.t 97), (.t 100)]), []⟩, ⟨(some 14), none, (.op (.mv (.t 101))), []⟩]) (.seq (.sub 1 k3_1.er [1, 2, 10, 12, 14] o3_1) (.seq (.reg [⟨(some 114), none, (.op (.mv (.t 9))), []⟩, ⟨(some 115), none, (.op (.mv (.t 9))), []⟩, ⟨(some 116), none, (.call 15 [(.t 115), (.c (.int .i64 0))]), []⟩, ⟨(some 117), none, (.call 14 [(.t 114), (.c (.int .i64 0)), (.c (.int .i64 0)), (.t 116)]), []⟩, ⟨(some 113), none, (.op (.mv (.t 117))), []⟩, ⟨(some 118), none, (.op (.ext 0 (.t 113))), []⟩, ⟨(some 119), none, (.op (.ext 1 (.t 113))), []⟩, ⟨(some 15), none, (.op (.mv (.t 118))), []⟩, ⟨(some 16), none, (.op (.mv (.t 119))), []⟩]) (.seq (.reg [⟨(some 121), none, (.op (.mv (.t 10))), []⟩, ⟨(some 122), none, (.op (.mv (.t 10))), []⟩, ⟨(some 123), none, (.call 15 [(.t 122), (.c (.int .i64 0))]), []⟩, ⟨(some 124), none, (.call 14 [(.t 121), (.c (.int .i64 0)), (.c (.int .i64 0)), (.t 123)]), []⟩, ⟨(some 120), none, (.op (.mv (.t 124))), []⟩, ⟨(some 125), none, (.op (.ext 0 (.t 120))), []⟩, ⟨(some 126), none, (.op (.ext 1 (.t 120))), []⟩, ⟨(some 17), none, (.op (.mv (.t 125))), []⟩, ⟨(some 18), none, (.op (.mv (.t 126))), []⟩]) (.seq (.reg [⟨(some 127), none, (.op (.mv (.t 13))), []⟩, ⟨(some 128), none, (.op (.mv (.t 14))), []⟩, ⟨(some 129), none, (.op (.bin .eql (.t 127) (.t 128))), []⟩, ⟨(some 130), none, (.op (.mv (.t 129))), []⟩, ⟨(some 131), (some (130, true)), (.op (.mv (.t 15))), []⟩, ⟨(some 132), (some (130, true)), (.op (.toStr (.t 131))), []⟩, ⟨(some 133), (some (130, true)), (.op (.mv (.t 17))), []⟩, ⟨(some 134), (some (130, true)), (.op (.toStr (.t 133))), []⟩, ⟨(some 135), (some (130, true)), (.op (.bin .eql (.t 132) (.t 134))), []⟩, ⟨(some 136), none, (.op (.pick (.t 130) (.t 135) (.c (.bool false)))), []⟩, ⟨(some 137), none, (.op (.mv (.t 136))), []⟩, ⟨(some 138), (some (137, true)), (.op (.mv (.t 9))), []⟩, ⟨(some 139), (some (137, true)), (.call 16 [(.t 138)]), []⟩, ⟨(some 140), (some (137, true)), (.op (.mv (.t 10))), []⟩, ⟨(some 141), (some (137, true)), (.call 16 [(.t 140)]), []⟩, ⟨(some 142), (some (137, true)), (.op (.bin .eql (.t 139) (.t 141))), []⟩, ⟨(some 143), none, (.op (.pick (.t 137) (.t 142) (.c (.bool false)))), []⟩, ⟨(some 144), none, (.op (.mv (.t 143))), []⟩, ⟨(some 145), (some (144, true)), (.op (.mv (.t 9))), []⟩, ⟨(some 146), (some (144, true)), (.call 17 [(.t 145)]), []⟩, ⟨(some 147), (some (144, true)), (.op (.mv (.t 10))), []⟩, ⟨(some 148), (some (144, true)), (.call 17 [(.t 147)]), []⟩, ⟨(some 149), (some (144, true)), (.op (.bin .eql (.t 146) (.t 148))), []⟩, ⟨(some 150), none, (.op (.pick (.t 144) (.t 149) (.c (.bool false)))), []⟩, ⟨(some 8), none, (.op (.mv (.t 150))), []⟩]) .ret))))))))))))
noncomputable def F3 (lf : Nat) (script : V) (at_ : Int) (b : V) (cut : Int) (h : List Ob) : Option (V × List Ob) :=
bind3 (S3_3 lf script b h) fun ex vs h_ =>
cB (decide (ex = .ret)) (
castCons vs fun c l =>
castBool c fun x8 =>
castNil l (
some ((.bool x8), h_))) (
cB (decide (ex = .normal)) (
castNil vs (
bind2 (F12 lf (1073741824) h_) fun x32 h_1 =>
bind2 (F12 lf (1073741824) h_1) fun x33 h_2 =>
bind1 (er (.lenL (.c script)) h_2) fun v =>
castInt .i64 v fun x35 =>
bind3 (L3_0 lf lf script x32 x33 x35 (0) h_2) fun ex1 vs1 h_3 =>
cB (decide (ex1 = (.exit 0))) (
castNil vs1 (
bind3 (S3_2 lf b cut (0) h_3) fun ex2 vs2 h_4 =>
cB (decide (ex2 = .normal)) (
castCons vs2 fun c l =>
castInt .i64 c fun k =>
castNil l (
bind2 (F13 lf x32 (0) (IntKind.i64.wrap at_) b h_4) fun v1 h_5 =>
castInt .i64 v1 fun x94 =>
bind1 (er (.slcL 1 (.c b) none (some (.c (.int .i64 k))) none) h_5) fun x100 =>
bind2 (F13 lf x33 (0) (IntKind.i64.wrap at_) x100 h_5) fun v2 h_6 =>
castInt .i64 v2 fun x101 =>
bind3 (S3_1 lf at_ b x33 k x101 h_6) fun ex3 vs3 h_7 =>
cB (decide (ex3 = .normal)) (
castCons vs3 fun c1 l1 =>
castInt .i64 c1 fun f =>
castNil l1 (
bind2 (F15 lf x32 (0) h_7) fun v3 h_8 =>
castInt .i64 v3 fun x116 =>
bind2 (F14 lf x32 (0) (0) x116 h_8) fun v4 h_9 =>
castTup v4 fun l2 =>
castCons l2 fun x117_0 l3 =>
castCons l3 fun c2 l4 =>
castInt .i64 c2 fun x117_1 =>
castNil l4 (
bind2 (F15 lf x33 (0) h_9) fun v5 h_10 =>
castInt .i64 v5 fun x123 =>
bind2 (F14 lf x33 (0) (0) x123 h_10) fun v6 h_11 =>
castTup v6 fun l5 =>
castCons l5 fun x124_0 l6 =>
castCons l6 fun c3 l7 =>
castInt .i64 c3 fun x124_1 =>
castNil l7 (
cB (x94 == f) (
bind1 (er (.toStr (.c x117_0)) h_11) fun v7 =>
castStr v7 fun x132 =>
bind1 (er (.toStr (.c x124_0)) h_11) fun v8 =>
castStr v8 fun x134 =>
cB (x132 == x134) (
bind2 (F16 lf x32 h_11) fun v9 h_12 =>
castInt .i64 v9 fun x139 =>
bind2 (F16 lf x33 h_12) fun v10 h_13 =>
castInt .i64 v10 fun x141 =>
cB (x139 == x141) (
bind2 (F17 lf x32 h_13) fun v11 h_14 =>
castInt .i64 v11 fun x146 =>
bind2 (F17 lf x33 h_14) fun v12 h_15 =>
castInt .i64 v12 fun x148 =>
some ((.bool (x146 == x148)), h_15)) (
some ((.bool false), h_13))) (
some ((.bool false), h_11))) (
some ((.bool false), h_11)))))) (
none))) (
none))) (
none))) (
none))
theorem F3_eq (lf : Nat) (script : V) (at_ : Int) (b : V) (cut : Int) (h : List Ob) : evCK A3 ⟨call3 lf, cvN, subC 1 (w3_1 (S3_1 lf)) (subC 2 (w3_2 (S3_2 lf)) (subC 0 (w3_0 (L3_0 lf lf)) (subC 3 (w3_3 (S3_3 lf)) (subN))))⟩ k3 (entryK [script, (.int .u16 at_), b, (.int .u64 cut)]) h (endF c3.res) = F3 lf script at_ b cut h := by kernel_rfl
theorem F3_ok (lf : Nat) (script : V) (at_ : Int) (b : V) (cut : Int) (h : List Ob) (r_ : V) (h_r : List Ob) (e_ : F3 lf script at_ b cut h = some (r_, h_r)) : CD Go.Proofs.Try.prog 3 [script, (.int .u16 at_), b, (.int .u64 cut)] h r_ h_r :=
  CD.ofK (A := A3) (σ := ⟨call3 lf, cvN, subC 1 (w3_1 (S3_1 lf)) (subC 2 (w3_2 (S3_2 lf)) (subC 0 (w3_0 (L3_0 lf lf)) (subC 3 (w3_3 (S3_3 lf)) (subN))))⟩) (c := k3) Go.Proofs.Try.func3 ok3 en3 (show 4 ≤ 151 by decide) (by kernel_rfl) (call3_ok lf) cvN_ok (And.intro True.intro (And.intro (S3_3_ok lf) (And.intro True.intro (And.intro (And.intro True.intro (L3_0_ok lf lf)) (And.intro True.intro (And.intro (S3_2_ok lf) (And.intro True.intro (And.intro True.intro (And.intro (S3_1_ok lf) (And.intro True.intro (And.intro True.intro (And.intro True.intro True.intro)))))))))))) ((F3_eq lf script at_ b cut h).trans e_)
def w3 (f : V → Int → V → Int → List Ob → Option (V × List Ob)) (vs : List V) (h : List Ob) : Option (V × List Ob) := castCons vs fun c1 l1 => castCons l1 fun c2 l2 => castInt .u16 c2 fun n3 => castCons l2 fun c4 l4 => castCons l4 fun c5 l5 => castInt .u64 c5 fun n6 => castNil l5 (f c1 n3 c4 n6 h)
noncomputable def W3 (lf : Nat) : List V → List Ob → Option (V × List Ob) := w3 (F3 lf)
theorem W3_ok (lf : Nat) : ∀ args h v h', W3 lf args h = some (v, h') → CD Go.Proofs.Try.prog 3 args h v h' := by
  intro vs h r h' e0
  simp only [W3, w3] at e0
  obtain ⟨c1, l1, rfl, e1⟩ := castCons_inv e0
  obtain ⟨c2, l2, rfl, e2⟩ := castCons_inv e1
  obtain ⟨y1, rfl, e3⟩ := castInt_inv e2
  obtain ⟨c3, l3, rfl, e4⟩ := castCons_inv e3
  obtain ⟨c4, l4, rfl, e5⟩ := castCons_inv e4
  obtain ⟨y3, rfl, e6⟩ := castInt_inv e5
  obtain ⟨rfl, e7⟩ := castNil_inv e6
  have e := e7
  exact F3_ok lf c1 y1 c3 y3 h r h' e

end Go.Proofs.Ytbjphicipgneaaa.Dk
