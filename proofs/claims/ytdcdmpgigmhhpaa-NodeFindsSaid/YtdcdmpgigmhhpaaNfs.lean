/- Functions of the program as Lean functions, and that each call comes to what its function says. Printed by my own tool. No condition. -/
import Derived.Test.YtdcdmpgigmhhpaaNf
import Derived.Test.YtdcdmpgigmhhpaaL3
import Derived.Test.YtdcdmpgigmhhpaaNds
namespace Go.Proofs.Ytdcdmpgigmhhpaa.Nf
open Go Go.Proofs.Ytdcdmpgigmhhpaa.E
open Go.Proofs.Ytdcdmpgigmhhpaa.Va
open Go.Proofs.Ytdcdmpgigmhhpaa.Nd
set_option maxRecDepth 100000
set_option linter.unusedVariables false
set_option linter.unusedSimpArgs false

/-! 8: wainscot/wainscotlaw12.NodeFinds -/
def A8 : List (Nat × Sh) := [(0, (.agg [.bool, .any, .any, .any])), (4, .bool), (5, (.int .i64)), (6, .bool), (7, (.int .i64)), (8, .bool), (9, .bool), (10, .bool), (11, .bool), (12, (.agg [.bool, .any, .any, .any])), (13, .bool), (14, .bool), (15, .bool), (16, .bool), (17, (.tup [(.int .i64), .bool])), (18, (.agg [.bool, .any, .any, .any])), (20, (.tup [(.int .i64), .bool])), (21, (.int .i64)), (22, .bool), (23, (.tup [(.int .i64), .bool])), (24, (.agg [.bool, .any, .any, .any])), (26, (.tup [(.int .i64), .bool])), (27, (.int .i64)), (28, .bool), (29, (.int .i64)), (30, (.int .i64)), (31, .bool), (32, .bool), (33, .bool), (34, .bool), (35, .bool), (36, .bool)]
noncomputable def call8 (lf : Nat) : CallS := callC 35 (W35 lf) (callC 34 (W34 lf) (callC 33 (W33 lf) (callC 32 (W32 lf) (callN))))
theorem call8_ok (lf : Nat) : CallOk Go.Proofs.Try.prog (call8 lf) := callC_ok (W35_ok lf) (callC_ok (W34_ok lf) (callC_ok (W33_ok lf) (callC_ok (W32_ok lf) (callN_ok))))
def o8_0 : Outs := [(.ret, [4], [.bool]), (.normal, [], [])]
def k8_0 : KC := (.seq (.reg [⟨(some 9), none, (.call 32 []), []⟩, ⟨(some 10), none, (.op (.un .not (.t 9))), []⟩, ⟨(some 11), none, (.op (.mv (.t 10))), []⟩, ⟨(some 12), (some (11, false)), (.op (.loadN 4 (.t 2))), []⟩, ⟨(some 13), (some (11, false)), (.call 33 [(.t 12)]), []⟩, ⟨(some 14), (some (11, false)), (.op (.un .not (.t 13))), []⟩, ⟨(some 15), none, (.op (.pick (.t 11) (.c (.bool true)) (.t 14))), []⟩]) (.cond (.t 15) (.seq (.reg [⟨(some 16), none, (.call 32 []), []⟩, ⟨(some 4), none, (.op (.mv (.t 16))), []⟩]) .ret) .skip))
def w8_0 (f : V → List Ob → SubR) (vs : List V) (h : List Ob) : SubR := castCons vs fun c1 l1 => castNil l1 (f c1 h)
noncomputable def S8_0 (lf : Nat) (n_ : V) (h : List Ob) : SubR :=
bind2 (F32 lf h) fun v h_ =>
castBool v fun x9 =>
cB (!x9) (
bind2 (F32 lf h_) fun v1 h_1 =>
castBool v1 fun x16 =>
some (.ret, [(.bool x16)], h_1)) (
bind1 (er (.loadN 4 (.c n_)) h_) fun v1 =>
castAgg v1 fun l =>
castCons l fun c l1 =>
castBool c fun x12_0 =>
castCons l1 fun x12_1 l2 =>
castCons l2 fun x12_2 l3 =>
castCons l3 fun x12_3 l4 =>
castNil l4 (
bind2 (F33 lf x12_0 x12_1 x12_2 x12_3 h_) fun v2 h_1 =>
castBool v2 fun x13 =>
cB (!x13) (
bind2 (F32 lf h_1) fun v3 h_2 =>
castBool v3 fun x16 =>
some (.ret, [(.bool x16)], h_2)) (
some (.normal, [], h_1))))
theorem S8_0_eq (lf : Nat) (n_ : V) (h : List Ob) : evCK A8 ⟨call8 lf, cvN, subN⟩ k8_0 [(2, n_)] h (endK o8_0) = S8_0 lf n_ h := by kernel_rfl
theorem S8_0_ok (lf : Nat) : SubOk Go.Proofs.Try.prog k8_0.er [2] o8_0 (w8_0 (S8_0 lf)) := by
  refine SubOk.of (A := A8) (σ := ⟨call8 lf, cvN, subN⟩) (c := k8_0) (call8_ok lf) cvN_ok (And.intro True.intro (And.intro (And.intro True.intro True.intro) True.intro)) ?_
  intro vs h r e0
  simp only [w8_0] at e0
  obtain ⟨c1, l1, rfl, e1⟩ := castCons_inv e0
  obtain ⟨rfl, e2⟩ := castNil_inv e1
  have e := e2
  exact (S8_0_eq lf c1 h).trans e
def k8 : KC := (.seq (.reg [⟨(some 2), none, (.op (.box false (.t 0))), []⟩, ⟨(some 4), none, (.op (.mv (.c (.bool false)))), []⟩]) (.seq (.sub 0 k8_0.er [2] o8_0) (.seq (.reg [⟨(some 18), none, (.op (.loadN 4 (.t 2))), []⟩, ⟨(some 19), none, (.op (.mv (.t 1))), []⟩, ⟨(some 20), none, (.call 34 [(.t 18), (.t 19)]), []⟩, ⟨(some 17), none, (.op (.mv (.t 20))), []⟩, ⟨(some 21), none, (.op (.ext 0 (.t 17))), []⟩, ⟨(some 22), none, (.op (.ext 1 (.t 17))), []⟩, ⟨(some 5), none, (.op (.mv (.t 21))), []⟩, ⟨(some 6), none, (.op (.mv (.t 22))), []⟩]) (.seq (.reg [⟨(some 24), none, (.op (.loadN 4 (.t 2))), []⟩, ⟨(some 25), none, (.op (.mv (.t 1))), []⟩, ⟨(some 26), none, (.call 35 [(.t 24), (.t 25)]), []⟩, ⟨(some 23), none, (.op (.mv (.t 26))), []⟩, ⟨(some 27), none, (.op (.ext 0 (.t 23))), []⟩, ⟨(some 28), none, (.op (.ext 1 (.t 23))), []⟩, ⟨(some 7), none, (.op (.mv (.t 27))), []⟩, ⟨(some 8), none, (.op (.mv (.t 28))), []⟩]) (.seq (.reg [⟨(some 29), none, (.op (.mv (.t 5))), []⟩, ⟨(some 30), none, (.op (.mv (.t 7))), []⟩, ⟨(some 31), none, (.op (.bin .eql (.t 29) (.t 30))), []⟩, ⟨(some 32), none, (.op (.mv (.t 31))), []⟩, ⟨(some 33), (some (32, true)), (.op (.mv (.t 6))), []⟩, ⟨(some 34), (some (32, true)), (.op (.mv (.t 8))), []⟩, ⟨(some 35), (some (32, true)), (.op (.eq false .bool (.t 33) (.t 34))), []⟩, ⟨(some 36), none, (.op (.pick (.t 32) (.t 35) (.c (.bool false)))), []⟩, ⟨(some 4), none, (.op (.mv (.t 36))), []⟩]) .ret)))))
noncomputable def F8 (lf : Nat) (n_ : Bool) (n_1 : V) (n_2 : V) (n_3 : V) (key : V) (h : List Ob) : Option (V × List Ob) :=
bind2 (ev (.box false (.c (.agg [(.bool n_), n_1, n_2, n_3]))) h) fun n_4 h_ =>
bind3 (S8_0 lf n_4 h_) fun ex vs h_1 =>
cB (decide (ex = .ret)) (
castCons vs fun c l =>
castBool c fun x4 =>
castNil l (
some ((.bool x4), h_1))) (
cB (decide (ex = .normal)) (
castNil vs (
bind1 (er (.loadN 4 (.c n_4)) h_1) fun v =>
castAgg v fun l =>
castCons l fun c l1 =>
castBool c fun x18_0 =>
castCons l1 fun x18_1 l2 =>
castCons l2 fun x18_2 l3 =>
castCons l3 fun x18_3 l4 =>
castNil l4 (
bind2 (F34 lf x18_0 x18_1 x18_2 x18_3 key h_1) fun v1 h_2 =>
castTup v1 fun l5 =>
castCons l5 fun c1 l6 =>
castInt .i64 c1 fun x20_0 =>
castCons l6 fun c2 l7 =>
castBool c2 fun x20_1 =>
castNil l7 (
bind1 (er (.loadN 4 (.c n_4)) h_2) fun v2 =>
castAgg v2 fun l8 =>
castCons l8 fun c3 l9 =>
castBool c3 fun x24_0 =>
castCons l9 fun x24_1 l10 =>
castCons l10 fun x24_2 l11 =>
castCons l11 fun x24_3 l12 =>
castNil l12 (
bind2 (F35 lf x24_0 x24_1 x24_2 x24_3 key h_2) fun v3 h_3 =>
castTup v3 fun l13 =>
castCons l13 fun c4 l14 =>
castInt .i64 c4 fun x26_0 =>
castCons l14 fun c5 l15 =>
castBool c5 fun x26_1 =>
castNil l15 (
cB (x20_0 == x26_0) (
some ((.bool (x20_1 == x26_1)), h_3)) (
some ((.bool false), h_3)))))))) (
none))
theorem F8_eq (lf : Nat) (n_ : Bool) (n_1 : V) (n_2 : V) (n_3 : V) (key : V) (h : List Ob) : evCK A8 ⟨call8 lf, cvN, subC 0 (w8_0 (S8_0 lf)) (subN)⟩ k8 (entryK [(.agg [(.bool n_), n_1, n_2, n_3]), key]) h (endF c8.res) = F8 lf n_ n_1 n_2 n_3 key h := by kernel_rfl
theorem F8_ok (lf : Nat) (n_ : Bool) (n_1 : V) (n_2 : V) (n_3 : V) (key : V) (h : List Ob) (r_ : V) (h_r : List Ob) (e_ : F8 lf n_ n_1 n_2 n_3 key h = some (r_, h_r)) : CD Go.Proofs.Try.prog 8 [(.agg [(.bool n_), n_1, n_2, n_3]), key] h r_ h_r :=
  CD.ofK (A := A8) (σ := ⟨call8 lf, cvN, subC 0 (w8_0 (S8_0 lf)) (subN)⟩) (c := k8) Go.Proofs.Try.func8 ok8 en8 (show 2 ≤ 37 by decide) (by kernel_rfl) (call8_ok lf) cvN_ok (And.intro True.intro (And.intro (S8_0_ok lf) (And.intro True.intro (And.intro True.intro (And.intro True.intro True.intro))))) ((F8_eq lf n_ n_1 n_2 n_3 key h).trans e_)
def w8 (f : Bool → V → V → V → V → List Ob → Option (V × List Ob)) (vs : List V) (h : List Ob) : Option (V × List Ob) := castCons vs fun c1 l1 => castAgg c1 fun n2 => castCons n2 fun c3 l3 => castBool c3 fun n4 => castCons l3 fun c5 l5 => castCons l5 fun c6 l6 => castCons l6 fun c7 l7 => castNil l7 (castCons l1 fun c8 l8 => castNil l8 (f n4 c5 c6 c7 c8 h))
noncomputable def W8 (lf : Nat) : List V → List Ob → Option (V × List Ob) := w8 (F8 lf)
theorem W8_ok (lf : Nat) : ∀ args h v h', W8 lf args h = some (v, h') → CD Go.Proofs.Try.prog 8 args h v h' := by
  intro vs h r h' e0
  simp only [W8, w8] at e0
  obtain ⟨c1, l1, rfl, e1⟩ := castCons_inv e0
  obtain ⟨l2, rfl, e2⟩ := castAgg_inv e1
  obtain ⟨c3, l3, rfl, e3⟩ := castCons_inv e2
  obtain ⟨y0, rfl, e4⟩ := castBool_inv e3
  obtain ⟨c4, l4, rfl, e5⟩ := castCons_inv e4
  obtain ⟨c5, l5, rfl, e6⟩ := castCons_inv e5
  obtain ⟨c6, l6, rfl, e7⟩ := castCons_inv e6
  obtain ⟨rfl, e8⟩ := castNil_inv e7
  obtain ⟨c7, l7, rfl, e9⟩ := castCons_inv e8
  obtain ⟨rfl, e10⟩ := castNil_inv e9
  have e := e10
  exact F8_ok lf y0 c4 c5 c6 c7 h r h' e

end Go.Proofs.Ytdcdmpgigmhhpaa.Nf
