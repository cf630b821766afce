/- Functions of the program as Lean functions, and that each call comes to what its function says. Printed by my own tool. No condition. -/
import Derived.Test.YtdcdmpgigmhhpaaNo
import Derived.Test.YtdcdmpgigmhhpaaL3
import Derived.Test.YtdcdmpgigmhhpaaNds
namespace Go.Proofs.Ytdcdmpgigmhhpaa.No
open Go Go.Proofs.Ytdcdmpgigmhhpaa.E
open Go.Proofs.Ytdcdmpgigmhhpaa.Va
open Go.Proofs.Ytdcdmpgigmhhpaa.Nd
set_option maxRecDepth 100000
set_option linter.unusedVariables false
set_option linter.unusedSimpArgs false

/-! 13: wainscot/wainscotlaw12.NodeOnce -/
def A13 : List (Nat × Sh) := [(0, (.agg [.bool, .any, .any, .any])), (1, (.int .u64)), (2, (.int .u8)), (6, .bool), (8, (.int .i64)), (10, (.int .i64)), (12, (.int .i64)), (13, (.int .i64)), (14, .bool), (15, .bool), (16, .bool), (17, (.agg [.bool, .any, .any, .any])), (18, .bool), (19, .bool), (20, .bool), (21, .bool), (22, (.tup [.any, (.int .i64)])), (23, (.agg [.bool, .any, .any, .any])), (24, (.tup [.any, (.int .i64)])), (26, (.int .i64)), (27, (.int .i64)), (28, .bool), (29, .bool), (31, (.int .i64)), (32, .bool), (33, .bool), (34, (.int .i64)), (35, .bool), (37, (.int .u64)), (39, (.int .i64)), (40, (.int .u64)), (41, (.int .u64)), (43, (.int .u8)), (44, (.int .u8)), (45, (.int .u8)), (47, (.tup [(.agg [.bool, .any, .any, .any]), (.int .i64)])), (49, (.tup [(.agg [.bool, .any, .any, .any]), (.int .i64)])), (50, (.agg [.bool, .any, .any, .any])), (51, (.int .i64)), (52, (.int .i64)), (53, .bool), (54, (.int .i64)), (55, .bool), (56, (.tup [.any, (.int .i64)])), (57, (.agg [.bool, .any, .any, .any])), (58, (.tup [.any, (.int .i64)])), (60, (.int .i64)), (61, (.int .i64)), (62, .bool), (63, .bool), (65, (.int .i64)), (67, (.int .i64)), (68, .bool), (69, .bool), (70, .bool), (72, .str), (75, (.int .i64)), (77, .str), (78, .bool), (79, .bool), (81, (.int .i64)), (82, (.int .i64)), (84, (.int .i64)), (85, .bool), (86, (.int .i64)), (87, (.int .i64)), (89, (.int .i64)), (91, (.int .u8)), (92, .bool)]
noncomputable def call13 (lf : Nat) : CallS := callC 47 (W47 lf) (callC 41 (W41 lf) (callC 33 (W33 lf) (callC 32 (W32 lf) (callN))))
theorem call13_ok (lf : Nat) : CallOk Go.Proofs.Try.prog (call13 lf) := callC_ok (W47_ok lf) (callC_ok (W41_ok lf) (callC_ok (W33_ok lf) (callC_ok (W32_ok lf) (callN_ok))))
def o13_0 : Outs := [((.exit 0), [], []), (.ret, [6], [.bool])]
def k13_0 : KC := (.seq (.seq (.reg [⟨(some 82), none, (.op (.mv (.t 13))), []⟩, ⟨(some 83), none, (.op (.mv (.t 7))), []⟩, ⟨(some 84), none, (.op (.lenL (.t 83))), []⟩, ⟨(some 85), none, (.op (.bin .lss (.t 82) (.t 84))), []⟩]) (.cond (.t 85) .skip (.exit 0))) (.seq (.block 1 (.seq (.reg [⟨(some 88), none, (.op (.mv (.t 7))), []⟩, ⟨(some 89), none, (.op (.mv (.t 13))), []⟩, ⟨(some 90), none, (.op (.iaddrL 1 (.t 88) (.t 89))), []⟩, ⟨(some 91), none, (.op (.load1 (.t 90))), []⟩, ⟨(some 92), none, (.op (.bin .neq (.t 91) (.c (.int .u8 0)))), []⟩]) (.cond (.t 92) (.seq (.reg [⟨(some 6), none, (.op (.mv (.c (.bool false)))), []⟩]) .ret) .skip))) (.reg [⟨(some 86), none, (.op (.mv (.t 13))), []⟩, ⟨(some 87), none, (.op (.bin .add (.t 86) (.c (.int .i64 1)))), []⟩, ⟨(some 13), none, (.op (.mv (.t 87))), []⟩])))
def w13_0 (f : V → Int → List Ob → SubR) (vs : List V) (h : List Ob) : SubR := castCons vs fun c1 l1 => castCons l1 fun c2 l2 => castInt .i64 c2 fun n3 => castNil l2 (f c1 n3 h)
noncomputable def B13_0 (lf : Nat) (self : V → Int → List Ob → SubR) (b : V) (i : Int) (h : List Ob) : SubR :=
bind1 (er (.lenL (.c b)) h) fun v =>
castInt .i64 v fun x84 =>
cB (decide (i < x84)) (
bind1 (er (.iaddrL 1 (.c b) (.c (.int .i64 i))) h) fun x90 =>
bind1 (er (.load1 (.c x90)) h) fun v1 =>
castInt .u8 v1 fun x91 =>
cB (x91 != (0)) (
some (.ret, [(.bool false)], h)) (
self b (IntKind.i64.wrap (i + (1))) h)) (
some ((.exit 0), [], h))
noncomputable def L13_0 (lf : Nat) : Nat → V → Int → List Ob → SubR
  | 0 => fun _ _ _ => none
  | n + 1 => B13_0 lf (L13_0 lf n)
theorem B13_0_eq (lf : Nat) (self : V → Int → List Ob → SubR) (b : V) (i : Int) (h : List Ob) : evCK A13 ⟨call13 lf, cvN, subN⟩ k13_0 [(7, b), (13, (.int .i64 i))] h (endL [7, 13] [.any, (.int .i64)] o13_0 (w13_0 self)) = B13_0 lf self b i h := by kernel_rfl
theorem L13_0_ok (lf : Nat) : ∀ n, SubOk Go.Proofs.Try.prog (.loop k13_0.er) [7, 13] o13_0 (w13_0 (L13_0 lf n)) := by
  refine SubOk.loop (A := A13) (σ := ⟨call13 lf, cvN, subN⟩) (c := k13_0) (shs := [.any, (.int .i64)]) (G := fun n => w13_0 (L13_0 lf n)) (call13_ok lf) cvN_ok (And.intro (And.intro True.intro (And.intro True.intro True.intro)) (And.intro (And.intro True.intro (And.intro (And.intro True.intro True.intro) True.intro)) True.intro)) ?_ ?_
  · intro vs h r e0
    simp only [w13_0] at e0
    obtain ⟨c1, l1, rfl, e1⟩ := castCons_inv e0
    obtain ⟨c2, l2, rfl, e2⟩ := castCons_inv e1
    obtain ⟨y1, rfl, e3⟩ := castInt_inv e2
    obtain ⟨rfl, e4⟩ := castNil_inv e3
    have e := e4
    cases e
  · intro n vs h r e0
    simp only [w13_0] at e0
    obtain ⟨c1, l1, rfl, e1⟩ := castCons_inv e0
    obtain ⟨c2, l2, rfl, e2⟩ := castCons_inv e1
    obtain ⟨y1, rfl, e3⟩ := castInt_inv e2
    obtain ⟨rfl, e4⟩ := castNil_inv e3
    have e := e4
    exact (B13_0_eq lf (L13_0 lf n) c1 y1 h).trans e
def o13_1 : Outs := [(.ret, [6], [.bool]), (.normal, [], [])]
def k13_1 : KC := (.seq (.reg [⟨(some 61), none, (.op (.mv (.t 12))), []⟩, ⟨(some 62), none, (.op (.bin .neq (.t 61) (.c (.int .i64 0)))), []⟩, ⟨(some 63), none, (.op (.mv (.t 62))), []⟩, ⟨(some 64), (some (63, false)), (.op (.mv (.t 11))), []⟩, ⟨(some 65), (some (63, false)), (.op (.lenL (.t 64))), []⟩, ⟨(some 66), (some (63, false)), (.op (.mv (.t 7))), []⟩, ⟨(some 67), (some (63, false)), (.op (.lenL (.t 66))), []⟩, ⟨(some 68), (some (63, false)), (.op (.bin .gtr (.t 65) (.t 67))), []⟩, ⟨(some 69), none, (.op (.pick (.t 63) (.c (.bool true)) (.t 68))), []⟩, ⟨(some 70), none, (.op (.mv (.t 69))), []⟩, ⟨(some 71), (some (70, false)), (.op (.mv (.t 11))), []⟩, ⟨(some 72), (some (70, false)), (.op (.toStr (.t 71))), []⟩, ⟨(some 73), (some (70, false)), (.op (.mv (.t 7))), []⟩, ⟨(some 74), (some (70, false)), (.op (.mv (.t 11))), []⟩, ⟨(some 75), (some (70, false)), (.op (.lenL (.t 74))), []⟩, ⟨(some 76), (some (70, false)), (.op (.slcL 1 (.t 73) none (some (.t 75)) none)), []⟩, ⟨(some 77), (some (70, false)), (.op (.toStr (.t 76))), []⟩, ⟨(some 78), (some (70, false)), (.op (.bin .neq (.t 72) (.t 77))), []⟩, ⟨(some 79), none, (.op (.pick (.t 70) (.c (.bool true)) (.t 78))), []⟩]) (.cond (.t 79) (.seq (.reg [⟨(some 6), none, (.op (.mv (.c (.bool false)))), []⟩]) .ret) .skip))
def w13_1 (f : V → V → Int → List Ob → SubR) (vs : List V) (h : List Ob) : SubR := castCons vs fun c1 l1 => castCons l1 fun c2 l2 => castCons l2 fun c3 l3 => castInt .i64 c3 fun n4 => castNil l3 (f c1 c2 n4 h)
noncomputable def S13_1 (lf : Nat) (b : V) (c : V) (g : Int) (h : List Ob) : SubR :=
cB (g != (0)) (
some (.ret, [(.bool false)], h)) (
bind1 (er (.lenL (.c c)) h) fun v =>
castInt .i64 v fun x65 =>
bind1 (er (.lenL (.c b)) h) fun v1 =>
castInt .i64 v1 fun x67 =>
cB (decide (x65 > x67)) (
some (.ret, [(.bool false)], h)) (
bind1 (er (.toStr (.c c)) h) fun v2 =>
castStr v2 fun x72 =>
bind1 (er (.lenL (.c c)) h) fun v3 =>
castInt .i64 v3 fun x75 =>
bind1 (er (.slcL 1 (.c b) none (some (.c (.int .i64 x75))) none) h) fun x76 =>
bind1 (er (.toStr (.c x76)) h) fun v4 =>
castStr v4 fun x77 =>
cB (!(x72 == x77)) (
some (.ret, [(.bool false)], h)) (
some (.normal, [], h))))
theorem S13_1_eq (lf : Nat) (b : V) (c : V) (g : Int) (h : List Ob) : evCK A13 ⟨call13 lf, cvN, subN⟩ k13_1 [(7, b), (11, c), (12, (.int .i64 g))] h (endK o13_1) = S13_1 lf b c g h := by kernel_rfl
theorem S13_1_ok (lf : Nat) : SubOk Go.Proofs.Try.prog k13_1.er [7, 11, 12] o13_1 (w13_1 (S13_1 lf)) := by
  refine SubOk.of (A := A13) (σ := ⟨call13 lf, cvN, subN⟩) (c := k13_1) (call13_ok lf) cvN_ok (And.intro True.intro (And.intro (And.intro True.intro True.intro) True.intro)) ?_
  intro vs h r e0
  simp only [w13_1] at e0
  obtain ⟨c1, l1, rfl, e1⟩ := castCons_inv e0
  obtain ⟨c2, l2, rfl, e2⟩ := castCons_inv e1
  obtain ⟨c3, l3, rfl, e3⟩ := castCons_inv e2
  obtain ⟨y2, rfl, e4⟩ := castInt_inv e3
  obtain ⟨rfl, e5⟩ := castNil_inv e4
  have e := e5
  exact (S13_1_eq lf c1 c2 y2 h).trans e
def o13_2 : Outs := [(.ret, [6], [.bool]), (.normal, [], [])]
def k13_2 : KC := (.seq (.reg [⟨(some 27), none, (.op (.mv (.t 8))), []⟩, ⟨(some 28), none, (.op (.bin .neq (.t 27) (.c (.int .i64 0)))), []⟩, ⟨(some 29), none, (.op (.mv (.t 28))), []⟩, ⟨(some 30), (some (29, false)), (.op (.mv (.t 7))), []⟩, ⟨(some 31), (some (29, false)), (.op (.lenL (.t 30))), []⟩, ⟨(some 32), (some (29, false)), (.op (.bin .eql (.t 31) (.c (.int .i64 0)))), []⟩, ⟨(some 33), none, (.op (.pick (.t 29) (.c (.bool true)) (.t 32))), []⟩]) (.cond (.t 33) (.seq (.reg [⟨(some 34), none, (.op (.mv (.t 8))), []⟩, ⟨(some 35), none, (.op (.bin .neq (.t 34) (.c (.int .i64 0)))), []⟩, ⟨(some 6), none, (.op (.mv (.t 35))), []⟩]) .ret) .skip))
def w13_2 (f : V → Int → List Ob → SubR) (vs : List V) (h : List Ob) : SubR := castCons vs fun c1 l1 => castCons l1 fun c2 l2 => castInt .i64 c2 fun n3 => castNil l2 (f c1 n3 h)
noncomputable def S13_2 (lf : Nat) (b : V) (e : Int) (h : List Ob) : SubR :=
cB (e != (0)) (
some (.ret, [(.bool (e != (0)))], h)) (
bind1 (er (.lenL (.c b)) h) fun v =>
castInt .i64 v fun x31 =>
cB (x31 == (0)) (
some (.ret, [(.bool (e != (0)))], h)) (
some (.normal, [], h)))
theorem S13_2_eq (lf : Nat) (b : V) (e : Int) (h : List Ob) : evCK A13 ⟨call13 lf, cvN, subN⟩ k13_2 [(7, b), (8, (.int .i64 e))] h (endK o13_2) = S13_2 lf b e h := by kernel_rfl
theorem S13_2_ok (lf : Nat) : SubOk Go.Proofs.Try.prog k13_2.er [7, 8] o13_2 (w13_2 (S13_2 lf)) := by
  refine SubOk.of (A := A13) (σ := ⟨call13 lf, cvN, subN⟩) (c := k13_2) (call13_ok lf) cvN_ok (And.intro True.intro (And.intro (And.intro True.intro True.intro) True.intro)) ?_
  intro vs h r e0
  simp only [w13_2] at e0
  obtain ⟨c1, l1, rfl, e1⟩ := castCons_inv e0
  obtain ⟨c2, l2, rfl, e2⟩ := castCons_inv e1
  obtain ⟨y1, rfl, e3⟩ := castInt_inv e2
  obtain ⟨rfl, e4⟩ := castNil_inv e3
  have e := e4
  exact (S13_2_eq lf c1 y1 h).trans e
def o13_3 : Outs := [(.ret, [6], [.bool]), (.normal, [], [])]
def k13_3 : KC := (.seq (.reg [⟨(some 14), none, (.call 32 []), []⟩, ⟨(some 15), none, (.op (.un .not (.t 14))), []⟩, ⟨(some 16), none, (.op (.mv (.t 15))), []⟩, ⟨(some 17), (some (16, false)), (.op (.loadN 4 (.t 3))), []⟩, ⟨(some 18), (some (16, false)), (.call 33 [(.t 17)]), []⟩, ⟨(some 19), (some (16, false)), (.op (.un .not (.t 18))), []⟩, ⟨(some 20), none, (.op (.pick (.t 16) (.c (.bool true)) (.t 19))), []⟩]) (.cond (.t 20) (.seq (.reg [⟨(some 21), none, (.call 32 []), []⟩, ⟨(some 6), none, (.op (.mv (.t 21))), []⟩]) .ret) .skip))
def w13_3 (f : V → List Ob → SubR) (vs : List V) (h : List Ob) : SubR := castCons vs fun c1 l1 => castNil l1 (f c1 h)
noncomputable def S13_3 (lf : Nat) (n_ : V) (h : List Ob) : SubR :=
bind2 (F32 lf h) fun v h_ =>
castBool v fun x14 =>
cB (!x14) (
bind2 (F32 lf h_) fun v1 h_1 =>
castBool v1 fun x21 =>
some (.ret, [(.bool x21)], h_1)) (
bind1 (er (.loadN 4 (.c n_)) h_) fun v1 =>
castAgg v1 fun l =>
castCons l fun c l1 =>
castBool c fun x17_0 =>
castCons l1 fun x17_1 l2 =>
castCons l2 fun x17_2 l3 =>
castCons l3 fun x17_3 l4 =>
castNil l4 (
bind2 (F33 lf x17_0 x17_1 x17_2 x17_3 h_) fun v2 h_1 =>
castBool v2 fun x18 =>
cB (!x18) (
bind2 (F32 lf h_1) fun v3 h_2 =>
castBool v3 fun x21 =>
some (.ret, [(.bool x21)], h_2)) (
some (.normal, [], h_1))))
theorem S13_3_eq (lf : Nat) (n_ : V) (h : List Ob) : evCK A13 ⟨call13 lf, cvN, subN⟩ k13_3 [(3, n_)] h (endK o13_3) = S13_3 lf n_ h := by kernel_rfl
theorem S13_3_ok (lf : Nat) : SubOk Go.Proofs.Try.prog k13_3.er [3] o13_3 (w13_3 (S13_3 lf)) := by
  refine SubOk.of (A := A13) (σ := ⟨call13 lf, cvN, subN⟩) (c := k13_3) (call13_ok lf) cvN_ok (And.intro True.intro (And.intro (And.intro True.intro True.intro) True.intro)) ?_
  intro vs h r e0
  simp only [w13_3] at e0
  obtain ⟨c1, l1, rfl, e1⟩ := castCons_inv e0
  obtain ⟨rfl, e2⟩ := castNil_inv e1
  have e := e2
  exact (S13_3_eq lf c1 h).trans e
def k13 : KC := (.seq (.reg [⟨(some 3), none, (.op (.box false (.t 0))), []⟩, ⟨(some 6), none, (.op (.mv (.c (.bool false)))), []⟩]) (.seq (.sub 3 k13_3.er [3] o13_3) (.seq (.reg [⟨(some 23), none, (.op (.loadN 4 (.t 3))), []⟩, ⟨(some 24), none, (.call 41 [(.t 23)]), []⟩, ⟨(some 22), none, (.op (.mv (.t 24))), []⟩, ⟨(some 25), none, (.op (.ext 0 (.t 22))), []⟩, ⟨(some 26), none, (.op (.ext 1 (.t 22))), []⟩, ⟨(some 7), none, (.op (.mv (.t 25))), []⟩, ⟨(some 8), none, (.op (.mv (.t 26))), []⟩]) (.seq (.sub 2 k13_2.er [7, 8] o13_2) (.seq (.reg [⟨(some 36), none, (.op (.mv (.t 7))), []⟩, ⟨(some 37), none, (.op (.mv (.t 1))), []⟩, ⟨(some 38), none, (.op (.mv (.t 7))), []⟩, ⟨(some 39), none, (.op (.lenL (.t 38))), []⟩, ⟨(some 40), none, (.op (.toInt .u64 (.t 39))), []⟩, ⟨(some 41), none, (.op (.bin .rem (.t 37) (.t 40))), []⟩, ⟨(some 42), none, (.op (.iaddrL 1 (.t 36) (.t 41))), []⟩, ⟨(some 43), none, (.op (.load1 (.t 42))), []⟩, ⟨(some 44), none, (.op (.mv (.t 2))), []⟩, ⟨(some 45), none, (.op (.bin .xor (.t 43) (.t 44))), []⟩, ⟨(some 46), none, (.op (.iaddrL 1 (.t 36) (.t 41))), []⟩, ⟨none, none, (.op (.store 1 (.t 46) (.t 45))), []⟩]) (.seq (.reg [⟨(some 48), none, (.op (.mv (.t 7))), []⟩, ⟨(some 49), none, (.call 47 [(.t 48)]), []⟩, ⟨(some 47), none, (.op (.mv (.t 49))), []⟩, ⟨(some 50), none, (.op (.ext 0 (.t 47))), []⟩, ⟨(some 51), none, (.op (.ext 1 (.t 47))), []⟩, ⟨(some 9), none, (.op (.alloc false (.agg [(.bool false), .nils, .nils, .nils]))), []⟩, ⟨none, none, (.op (.store 4 (.t 9) (.t 50))), []⟩, ⟨(some 10), none, (.op (.mv (.t 51))), []⟩]) (.seq (.seq (.reg [⟨(some 52), none, (.op (.mv (.t 10))), []⟩, ⟨(some 53), none, (.op (.bin .neq (.t 52) (.c (.int .i64 0)))), []⟩]) (.cond (.t 53) (.seq (.reg [⟨(some 54), none, (.op (.mv (.t 10))), []⟩, ⟨(some 55), none, (.op (.bin .eql (.t 54) (.c (.int .i64 2)))), []⟩, ⟨(some 6), none, (.op (.mv (.t 55))), []⟩]) .ret) .skip)) (.seq (.reg [⟨(some 57), none, (.op (.loadN 4 (.t 9))), []⟩, ⟨(some 58), none, (.call 41 [(.t 57)]), []⟩, ⟨(some 56), none, (.op (.mv (.t 58))), []⟩, ⟨(some 59), none, (.op (.ext 0 (.t 56))), []⟩, ⟨(some 60), none, (.op (.ext 1 (.t 56))), []⟩, ⟨(some 11), none, (.op (.mv (.t 59))), []⟩, ⟨(some 12), none, (.op (.mv (.t 60))), []⟩]) (.seq (.sub 1 k13_1.er [7, 11, 12] o13_1) (.seq (.seq (.reg [⟨(some 80), none, (.op (.mv (.t 11))), []⟩, ⟨(some 81), none, (.op (.lenL (.t 80))), []⟩, ⟨(some 13), none, (.op (.mv (.t 81))), []⟩]) (.block 0 (.sub 0 (.loop k13_0.er) [7, 13] o13_0))) (.seq (.reg [⟨(some 6), none, (.op (.mv (.c (.bool true)))), []⟩]) .ret)))))))))))
noncomputable def F13 (lf : Nat) (n_ : Bool) (n_1 : V) (n_2 : V) (n_3 : V) (at_ : Int) (by_ : Int) (h : List Ob) : Option (V × List Ob) :=
bind2 (ev (.box false (.c (.agg [(.bool n_), n_1, n_2, n_3]))) h) fun n_4 h_ =>
bind3 (S13_3 lf n_4 h_) fun ex vs h_1 =>
cB (decide (ex = .ret)) (
castCons vs fun c l =>
castBool c fun x6 =>
castNil l (
some ((.bool x6), h_1))) (
cB (decide (ex = .normal)) (
castNil vs (
bind1 (er (.loadN 4 (.c n_4)) h_1) fun v =>
castAgg v fun l =>
castCons l fun c l1 =>
castBool c fun x23_0 =>
castCons l1 fun x23_1 l2 =>
castCons l2 fun x23_2 l3 =>
castCons l3 fun x23_3 l4 =>
castNil l4 (
bind2 (F41 lf x23_0 x23_1 x23_2 x23_3 h_1) fun v1 h_2 =>
castTup v1 fun l5 =>
castCons l5 fun x24_0 l6 =>
castCons l6 fun c1 l7 =>
castInt .i64 c1 fun x24_1 =>
castNil l7 (
bind3 (S13_2 lf x24_0 x24_1 h_2) fun ex1 vs1 h_3 =>
cB (decide (ex1 = .ret)) (
castCons vs1 fun c2 l8 =>
castBool c2 fun x6 =>
castNil l8 (
some ((.bool x6), h_3))) (
cB (decide (ex1 = .normal)) (
castNil vs1 (
bind1 (er (.lenL (.c x24_0)) h_3) fun v2 =>
castInt .i64 v2 fun x39 =>
bind1 (er (.bin .rem (.c (.int .u64 at_)) (.c (.int .u64 (IntKind.u64.wrap x39)))) h_3) fun v3 =>
castInt .u64 v3 fun x41 =>
bind1 (er (.iaddrL 1 (.c x24_0) (.c (.int .u64 x41))) h_3) fun x42 =>
bind1 (er (.load1 (.c x42)) h_3) fun v4 =>
castInt .u8 v4 fun x43 =>
bind1 (er (.iaddrL 1 (.c x24_0) (.c (.int .u64 x41))) h_3) fun x46 =>
bind2 (ev (.store 1 (.c x46) (.c (.int .u8 (bits .xor .u8 x43 by_)))) h_3) fun u h_4 =>
bind2 (F47 lf x24_0 h_4) fun v5 h_5 =>
castTup v5 fun l8 =>
castCons l8 fun c2 l9 =>
castAgg c2 fun l10 =>
castCons l10 fun c3 l11 =>
castBool c3 fun x49_0_0 =>
castCons l11 fun x49_0_1 l12 =>
castCons l12 fun x49_0_2 l13 =>
castCons l13 fun x49_0_3 l14 =>
castNil l14 (
castCons l9 fun c4 l15 =>
castInt .i64 c4 fun x49_1 =>
castNil l15 (
bind2 (ev (.alloc false (.agg [(.bool false), .nils, .nils, .nils])) h_5) fun x h_6 =>
bind2 (ev (.store 4 (.c x) (.c (.agg [(.bool x49_0_0), x49_0_1, x49_0_2, x49_0_3]))) h_6) fun u1 h_7 =>
cB (x49_1 != (0)) (
some ((.bool (x49_1 == (2))), h_7)) (
bind1 (er (.loadN 4 (.c x)) h_7) fun v6 =>
castAgg v6 fun l16 =>
castCons l16 fun c5 l17 =>
castBool c5 fun x57_0 =>
castCons l17 fun x57_1 l18 =>
castCons l18 fun x57_2 l19 =>
castCons l19 fun x57_3 l20 =>
castNil l20 (
bind2 (F41 lf x57_0 x57_1 x57_2 x57_3 h_7) fun v7 h_8 =>
castTup v7 fun l21 =>
castCons l21 fun x58_0 l22 =>
castCons l22 fun c6 l23 =>
castInt .i64 c6 fun x58_1 =>
castNil l23 (
bind3 (S13_1 lf x24_0 x58_0 x58_1 h_8) fun ex2 vs2 h_9 =>
cB (decide (ex2 = .ret)) (
castCons vs2 fun c7 l24 =>
castBool c7 fun x6 =>
castNil l24 (
some ((.bool x6), h_9))) (
cB (decide (ex2 = .normal)) (
castNil vs2 (
bind1 (er (.lenL (.c x58_0)) h_9) fun v8 =>
castInt .i64 v8 fun x81 =>
bind3 (L13_0 lf lf x24_0 x81 h_9) fun ex3 vs3 h_10 =>
cB (decide (ex3 = (.exit 0))) (
castNil vs3 (
some ((.bool true), h_10))) (
cB (decide (ex3 = .ret)) (
castCons vs3 fun c7 l24 =>
castBool c7 fun x6 =>
castNil l24 (
some ((.bool x6), h_10))) (
none)))) (
none))))))))) (
none)))))) (
none))
theorem F13_eq (lf : Nat) (n_ : Bool) (n_1 : V) (n_2 : V) (n_3 : V) (at_ : Int) (by_ : Int) (h : List Ob) : evCK A13 ⟨call13 lf, cvN, subC 0 (w13_0 (L13_0 lf lf)) (subC 1 (w13_1 (S13_1 lf)) (subC 2 (w13_2 (S13_2 lf)) (subC 3 (w13_3 (S13_3 lf)) (subN))))⟩ k13 (entryK [(.agg [(.bool n_), n_1, n_2, n_3]), (.int .u64 at_), (.int .u8 by_)]) h (endF c13.res) = F13 lf n_ n_1 n_2 n_3 at_ by_ h := by kernel_rfl
theorem F13_ok (lf : Nat) (n_ : Bool) (n_1 : V) (n_2 : V) (n_3 : V) (at_ : Int) (by_ : Int) (h : List Ob) (r_ : V) (h_r : List Ob) (e_ : F13 lf n_ n_1 n_2 n_3 at_ by_ h = some (r_, h_r)) : CD Go.Proofs.Try.prog 13 [(.agg [(.bool n_), n_1, n_2, n_3]), (.int .u64 at_), (.int .u8 by_)] h r_ h_r :=
  CD.ofK (A := A13) (σ := ⟨call13 lf, cvN, subC 0 (w13_0 (L13_0 lf lf)) (subC 1 (w13_1 (S13_1 lf)) (subC 2 (w13_2 (S13_2 lf)) (subC 3 (w13_3 (S13_3 lf)) (subN))))⟩) (c := k13) Go.Proofs.Try.func13 ok13 en13 (show 3 ≤ 93 by decide) (by kernel_rfl) (call13_ok lf) cvN_ok (And.intro True.intro (And.intro (S13_3_ok lf) (And.intro True.intro (And.intro (S13_2_ok lf) (And.intro True.intro (And.intro True.intro (And.intro (And.intro True.intro (And.intro (And.intro True.intro True.intro) True.intro)) (And.intro True.intro (And.intro (S13_1_ok lf) (And.intro (And.intro True.intro (L13_0_ok lf lf)) (And.intro True.intro True.intro))))))))))) ((F13_eq lf n_ n_1 n_2 n_3 at_ by_ h).trans e_)
def w13 (f : Bool → V → V → V → Int → Int → List Ob → Option (V × List Ob)) (vs : List V) (h : List Ob) : Option (V × List Ob) := castCons vs fun c1 l1 => castAgg c1 fun n2 => castCons n2 fun c3 l3 => castBool c3 fun n4 => castCons l3 fun c5 l5 => castCons l5 fun c6 l6 => castCons l6 fun c7 l7 => castNil l7 (castCons l1 fun c8 l8 => castInt .u64 c8 fun n9 => castCons l8 fun c10 l10 => castInt .u8 c10 fun n11 => castNil l10 (f n4 c5 c6 c7 n9 n11 h))
noncomputable def W13 (lf : Nat) : List V → List Ob → Option (V × List Ob) := w13 (F13 lf)
theorem W13_ok (lf : Nat) : ∀ args h v h', W13 lf args h = some (v, h') → CD Go.Proofs.Try.prog 13 args h v h' := by
  intro vs h r h' e0
  simp only [W13, w13] at e0
  obtain ⟨c1, l1, rfl, e1⟩ := castCons_inv e0
  obtain ⟨l2, rfl, e2⟩ := castAgg_inv e1
  obtain ⟨c3, l3, rfl, e3⟩ := castCons_inv e2
  obtain ⟨y0, rfl, e4⟩ := castBool_inv e3
  obtain ⟨c4, l4, rfl, e5⟩ := castCons_inv e4
  obtain ⟨c5, l5, rfl, e6⟩ := castCons_inv e5
  obtain ⟨c6, l6, rfl, e7⟩ := castCons_inv e6
  obtain ⟨rfl, e8⟩ := castNil_inv e7
  obtain ⟨c7, l7, rfl, e9⟩ := castCons_inv e8
  obtain ⟨y4, rfl, e10⟩ := castInt_inv e9
  obtain ⟨c8, l8, rfl, e11⟩ := castCons_inv e10
  obtain ⟨y5, rfl, e12⟩ := castInt_inv e11
  obtain ⟨rfl, e13⟩ := castNil_inv e12
  have e := e13
  exact F13_ok lf y0 c4 c5 c6 y4 y5 h r h' e

end Go.Proofs.Ytdcdmpgigmhhpaa.No
