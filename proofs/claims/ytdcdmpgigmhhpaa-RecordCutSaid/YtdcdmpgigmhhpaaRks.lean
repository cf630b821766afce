/- Functions of the program as Lean functions, and that each call comes to what its function says. Printed by my own tool. No condition. -/
import Derived.Test.YtdcdmpgigmhhpaaRk
import Derived.Test.YtdcdmpgigmhhpaaL3
import Derived.Test.YtdcdmpgigmhhpaaRcs
namespace Go.Proofs.Ytdcdmpgigmhhpaa.Rk
open Go Go.Proofs.Ytdcdmpgigmhhpaa.E
open Go.Proofs.Ytdcdmpgigmhhpaa.Va
open Go.Proofs.Ytdcdmpgigmhhpaa.Rc
set_option maxRecDepth 100000
set_option linter.unusedVariables false
set_option linter.unusedSimpArgs false

/-! 11: wainscot/wainscotlaw03.RecordCut -/
def A11 : List (Nat × Sh) := [(1, (.int .u64)), (6, .bool), (8, (.int .i64)), (10, (.int .i64)), (12, (.int .i64)), (13, .bool), (14, .bool), (15, .bool), (17, (.int .i64)), (18, .bool), (19, .bool), (20, .bool), (21, (.tup [.any, (.int .i64)])), (23, (.tup [.any, (.int .i64)])), (25, (.int .i64)), (26, (.int .i64)), (27, .bool), (28, .bool), (30, (.int .i64)), (31, .bool), (32, .bool), (33, (.int .i64)), (34, .bool), (35, (.tup [.any, (.int .i64)])), (37, (.int .u64)), (39, (.int .i64)), (40, (.int .u64)), (41, (.int .u64)), (43, (.tup [.any, (.int .i64)])), (45, (.int .i64)), (46, (.tup [.any, (.int .i64)])), (52, (.tup [.any, (.int .i64)])), (54, (.int .i64)), (55, (.int .i64)), (56, .bool), (57, .bool), (58, (.int .i64)), (59, .bool), (61, (.int .i64)), (62, .bool), (63, .bool), (64, .bool)]
noncomputable def call11 (lf : Nat) : CallS := callC 39 (W39 lf) (callC 37 (W37 lf) (callC 36 (W36 lf) (callN)))
theorem call11_ok (lf : Nat) : CallOk Go.Proofs.Try.prog (call11 lf) := callC_ok (W39_ok lf) (callC_ok (W37_ok lf) (callC_ok (W36_ok lf) (callN_ok)))
def o11_0 : Outs := [(.ret, [6], [.bool]), (.normal, [], [])]
def k11_0 : KC := (.seq (.reg [⟨(some 26), none, (.op (.mv (.t 8))), []⟩, ⟨(some 27), none, (.op (.bin .neq (.t 26) (.c (.int .i64 0)))), []⟩, ⟨(some 28), none, (.op (.mv (.t 27))), []⟩, ⟨(some 29), (some (28, false)), (.op (.mv (.t 7))), []⟩, ⟨(some 30), (some (28, false)), (.op (.lenL (.t 29))), []⟩, ⟨(some 31), (some (28, false)), (.op (.bin .eql (.t 30) (.c (.int .i64 0)))), []⟩, ⟨(some 32), none, (.op (.pick (.t 28) (.c (.bool true)) (.t 31))), []⟩]) (.cond (.t 32) (.seq (.reg [⟨(some 33), none, (.op (.mv (.t 8))), []⟩, ⟨(some 34), none, (.op (.bin .neq (.t 33) (.c (.int .i64 0)))), []⟩, ⟨(some 6), none, (.op (.mv (.t 34))), []⟩]) .ret) .skip))
def w11_0 (f : V → Int → List Ob → SubR) (vs : List V) (h : List Ob) : SubR := castCons vs fun c1 l1 => castCons l1 fun c2 l2 => castInt .i64 c2 fun n3 => castNil l2 (f c1 n3 h)
noncomputable def S11_0 (lf : Nat) (b : V) (e : Int) (h : List Ob) : SubR :=
cB (e != (0)) (
some (.ret, [(.bool (e != (0)))], h)) (
bind1 (er (.lenL (.c b)) h) fun v =>
castInt .i64 v fun x30 =>
cB (x30 == (0)) (
some (.ret, [(.bool (e != (0)))], h)) (
some (.normal, [], h)))
theorem S11_0_eq (lf : Nat) (b : V) (e : Int) (h : List Ob) : evCK A11 ⟨call11 lf, cvN, subN⟩ k11_0 [(7, b), (8, (.int .i64 e))] h (endK o11_0) = S11_0 lf b e h := by kernel_rfl
theorem S11_0_ok (lf : Nat) : SubOk Go.Proofs.Try.prog k11_0.er [7, 8] o11_0 (w11_0 (S11_0 lf)) := by
  refine SubOk.of (A := A11) (σ := ⟨call11 lf, cvN, subN⟩) (c := k11_0) (call11_ok lf) cvN_ok (And.intro True.intro (And.intro (And.intro True.intro True.intro) True.intro)) ?_
  intro vs h r e0
  simp only [w11_0] at e0
  obtain ⟨c1, l1, rfl, e1⟩ := castCons_inv e0
  obtain ⟨c2, l2, rfl, e2⟩ := castCons_inv e1
  obtain ⟨y1, rfl, e3⟩ := castInt_inv e2
  obtain ⟨rfl, e4⟩ := castNil_inv e3
  have e := e4
  exact (S11_0_eq lf c1 y1 h).trans e
def o11_1 : Outs := [(.ret, [6], [.bool]), (.normal, [], [])]
def k11_1 : KC := (.seq (.reg [⟨(some 13), none, (.call 36 []), []⟩, ⟨(some 14), none, (.op (.un .not (.t 13))), []⟩, ⟨(some 15), none, (.op (.mv (.t 14))), []⟩, ⟨(some 16), (some (15, false)), (.op (.mv (.t 0))), []⟩, ⟨(some 17), (some (15, false)), (.op (.lenL (.t 16))), []⟩, ⟨(some 18), (some (15, false)), (.op (.bin .gtr (.t 17) (.c (.int .i64 1000)))), []⟩, ⟨(some 19), none, (.op (.pick (.t 15) (.c (.bool true)) (.t 18))), []⟩]) (.cond (.t 19) (.seq (.reg [⟨(some 20), none, (.call 36 []), []⟩, ⟨(some 6), none, (.op (.mv (.t 20))), []⟩]) .ret) .skip))
def w11_1 (f : V → List Ob → SubR) (vs : List V) (h : List Ob) : SubR := castCons vs fun c1 l1 => castNil l1 (f c1 h)
noncomputable def S11_1 (lf : Nat) (row : V) (h : List Ob) : SubR :=
bind2 (F36 lf h) fun v h_ =>
castBool v fun x13 =>
cB (!x13) (
bind2 (F36 lf h_) fun v1 h_1 =>
castBool v1 fun x20 =>
some (.ret, [(.bool x20)], h_1)) (
bind1 (er (.lenL (.c row)) h_) fun v1 =>
castInt .i64 v1 fun x17 =>
cB (decide (x17 > (1000))) (
bind2 (F36 lf h_) fun v2 h_1 =>
castBool v2 fun x20 =>
some (.ret, [(.bool x20)], h_1)) (
some (.normal, [], h_)))
theorem S11_1_eq (lf : Nat) (row : V) (h : List Ob) : evCK A11 ⟨call11 lf, cvN, subN⟩ k11_1 [(0, row)] h (endK o11_1) = S11_1 lf row h := by kernel_rfl
theorem S11_1_ok (lf : Nat) : SubOk Go.Proofs.Try.prog k11_1.er [0] o11_1 (w11_1 (S11_1 lf)) := by
  refine SubOk.of (A := A11) (σ := ⟨call11 lf, cvN, subN⟩) (c := k11_1) (call11_ok lf) cvN_ok (And.intro True.intro (And.intro (And.intro True.intro True.intro) True.intro)) ?_
  intro vs h r e0
  simp only [w11_1] at e0
  obtain ⟨c1, l1, rfl, e1⟩ := castCons_inv e0
  obtain ⟨rfl, e2⟩ := castNil_inv e1
  have e := e2
  exact (S11_1_eq lf c1 h).trans e
def k11 : KC := (.seq (.reg [⟨(some 6), none, (.op (.mv (.c (.bool false)))), []⟩]) (.seq (.sub 1 k11_1.er [0] o11_1) (.seq (.reg [⟨(some 22), none, (.op (.mv (.t 0))), []⟩, ⟨(some 23), none, (.call 37 [(.t 22)]), []⟩, ⟨(some 21), none, (.op (.mv (.t 23))), []⟩, ⟨(some 24), none, (.op (.ext 0 (.t 21))), []⟩, ⟨(some 25), none, (.op (.ext 1 (.t 21))), []⟩, ⟨(some 7), none, (.op (.mv (.t 24))), []⟩, ⟨(some 8), none, (.op (.mv (.t 25))), []⟩]) (.seq (.sub 0 k11_0.er [7, 8] o11_0) (.seq (.reg [⟨(some 36), none, (.op (.mv (.t 7))), []⟩, ⟨(some 37), none, (.op (.mv (.t 1))), []⟩, ⟨(some 38), none, (.op (.mv (.t 7))), []⟩, ⟨(some 39), none, (.op (.lenL (.t 38))), []⟩, ⟨(some 40), none, (.op (.toInt .u64 (.t 39))), []⟩, ⟨(some 41), none, (.op (.bin .rem (.t 37) (.t 40))), []⟩, ⟨(some 42), none, (.op (.slcL 1 (.t 36) none (some (.t 41)) none)), []⟩, ⟨(some 43), none, (.call 39 [(.t 42)]), []⟩, ⟨(some 35), none, (.op (.mv (.t 43))), []⟩, ⟨(some 44), none, (.op (.ext 0 (.t 35))), []⟩, ⟨(some 45), none, (.op (.ext 1 (.t 35))), []⟩, ⟨(some 9), none, (.op (.mv (.t 44))), []⟩, ⟨(some 10), none, (.op (.mv (.t 45))), []⟩]) (.seq (.reg [⟨(some 47), none, (.op (.bslice 1 (.int .u8 0) 0 [])), []⟩, ⟨(some 48), none, (.op (.mv (.t 7))), []⟩, ⟨(some 49), none, (.op (.app 1 1 (.t 47) (.t 48))), []⟩, ⟨(some 50), none, (.op (.mv (.t 2))), []⟩, ⟨(some 51), none, (.op (.app 1 1 (.t 49) (.t 50))), []⟩, ⟨(some 52), none, (.call 39 [(.t 51)]), []⟩, ⟨(some 46), none, (.op (.mv (.t 52))), []⟩, ⟨(some 53), none, (.op (.ext 0 (.t 46))), []⟩, ⟨(some 54), none, (.op (.ext 1 (.t 46))), []⟩, ⟨(some 11), none, (.op (.mv (.t 53))), []⟩, ⟨(some 12), none, (.op (.mv (.t 54))), []⟩]) (.seq (.reg [⟨(some 55), none, (.op (.mv (.t 10))), []⟩, ⟨(some 56), none, (.op (.bin .eql (.t 55) (.c (.int .i64 2)))), []⟩, ⟨(some 57), none, (.op (.mv (.t 56))), []⟩, ⟨(some 58), (some (57, true)), (.op (.mv (.t 12))), []⟩, ⟨(some 59), (some (57, true)), (.op (.bin .eql (.t 58) (.c (.int .i64 2)))), []⟩, ⟨(some 60), (some (57, true)), (.op (.mv (.t 2))), []⟩, ⟨(some 61), (some (57, true)), (.op (.lenL (.t 60))), []⟩, ⟨(some 62), (some (57, true)), (.op (.bin .gtr (.t 61) (.c (.int .i64 0)))), []⟩, ⟨(some 63), (some (57, true)), (.op (.eq false .bool (.t 59) (.t 62))), []⟩, ⟨(some 64), none, (.op (.pick (.t 57) (.t 63) (.c (.bool false)))), []⟩, ⟨(some 6), none, (.op (.mv (.t 64))), []⟩]) .ret)))))))
noncomputable def F11 (lf : Nat) (row : V) (cut : Int) (more : V) (h : List Ob) : Option (V × List Ob) :=
bind3 (S11_1 lf row h) fun ex vs h_ =>
cB (decide (ex = .ret)) (
castCons vs fun c l =>
castBool c fun x6 =>
castNil l (
some ((.bool x6), h_))) (
cB (decide (ex = .normal)) (
castNil vs (
bind2 (F37 lf row h_) fun v h_1 =>
castTup v fun l =>
castCons l fun x23_0 l1 =>
castCons l1 fun c l2 =>
castInt .i64 c fun x23_1 =>
castNil l2 (
bind3 (S11_0 lf x23_0 x23_1 h_1) fun ex1 vs1 h_2 =>
cB (decide (ex1 = .ret)) (
castCons vs1 fun c1 l3 =>
castBool c1 fun x6 =>
castNil l3 (
some ((.bool x6), h_2))) (
cB (decide (ex1 = .normal)) (
castNil vs1 (
bind1 (er (.lenL (.c x23_0)) h_2) fun v1 =>
castInt .i64 v1 fun x39 =>
bind1 (er (.bin .rem (.c (.int .u64 cut)) (.c (.int .u64 (IntKind.u64.wrap x39)))) h_2) fun v2 =>
castInt .u64 v2 fun x41 =>
bind1 (er (.slcL 1 (.c x23_0) none (some (.c (.int .u64 x41))) none) h_2) fun x42 =>
bind2 (F39 lf x42 h_2) fun v3 h_3 =>
castTup v3 fun l3 =>
castCons l3 fun x43_0 l4 =>
castCons l4 fun c1 l5 =>
castInt .i64 c1 fun x43_1 =>
castNil l5 (
bind2 (ev (.bslice 1 (.int .u8 0) 0 []) h_3) fun x47 h_4 =>
bind2 (ev (.app 1 1 (.c x47) (.c x23_0)) h_4) fun x49 h_5 =>
bind2 (ev (.app 1 1 (.c x49) (.c more)) h_5) fun x51 h_6 =>
bind2 (F39 lf x51 h_6) fun v4 h_7 =>
castTup v4 fun l6 =>
castCons l6 fun x52_0 l7 =>
castCons l7 fun c2 l8 =>
castInt .i64 c2 fun x52_1 =>
castNil l8 (
cB (x43_1 == (2)) (
bind1 (er (.lenL (.c more)) h_7) fun v5 =>
castInt .i64 v5 fun x61 =>
some ((.bool ((x52_1 == (2)) == (decide (x61 > (0))))), h_7)) (
some ((.bool false), h_7)))))) (
none))))) (
none))
theorem F11_eq (lf : Nat) (row : V) (cut : Int) (more : V) (h : List Ob) : evCK A11 ⟨call11 lf, cvN, subC 0 (w11_0 (S11_0 lf)) (subC 1 (w11_1 (S11_1 lf)) (subN))⟩ k11 (entryK [row, (.int .u64 cut), more]) h (endF c11.res) = F11 lf row cut more h := by kernel_rfl
theorem F11_ok (lf : Nat) (row : V) (cut : Int) (more : V) (h : List Ob) (r_ : V) (h_r : List Ob) (e_ : F11 lf row cut more h = some (r_, h_r)) : CD Go.Proofs.Try.prog 11 [row, (.int .u64 cut), more] h r_ h_r :=
  CD.ofK (A := A11) (σ := ⟨call11 lf, cvN, subC 0 (w11_0 (S11_0 lf)) (subC 1 (w11_1 (S11_1 lf)) (subN))⟩) (c := k11) Go.Proofs.Try.func11 ok11 en11 (show 3 ≤ 65 by decide) (by kernel_rfl) (call11_ok lf) cvN_ok (And.intro True.intro (And.intro (S11_1_ok lf) (And.intro True.intro (And.intro (S11_0_ok lf) (And.intro True.intro (And.intro True.intro (And.intro True.intro True.intro))))))) ((F11_eq lf row cut more h).trans e_)
def w11 (f : V → Int → V → List Ob → Option (V × List Ob)) (vs : List V) (h : List Ob) : Option (V × List Ob) := castCons vs fun c1 l1 => castCons l1 fun c2 l2 => castInt .u64 c2 fun n3 => castCons l2 fun c4 l4 => castNil l4 (f c1 n3 c4 h)
noncomputable def W11 (lf : Nat) : List V → List Ob → Option (V × List Ob) := w11 (F11 lf)
theorem W11_ok (lf : Nat) : ∀ args h v h', W11 lf args h = some (v, h') → CD Go.Proofs.Try.prog 11 args h v h' := by
  intro vs h r h' e0
  simp only [W11, w11] at e0
  obtain ⟨c1, l1, rfl, e1⟩ := castCons_inv e0
  obtain ⟨c2, l2, rfl, e2⟩ := castCons_inv e1
  obtain ⟨y1, rfl, e3⟩ := castInt_inv e2
  obtain ⟨c3, l3, rfl, e4⟩ := castCons_inv e3
  obtain ⟨rfl, e5⟩ := castNil_inv e4
  have e := e5
  exact F11_ok lf c1 y1 c3 h r h' e

end Go.Proofs.Ytdcdmpgigmhhpaa.Rk
