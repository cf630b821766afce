/- Functions of the program as Lean functions, and that each call comes to what its function says. Printed by my own tool. No condition. -/
import Derived.Test.YtdcdmpgigmhhpaaNe
import Derived.Test.YtdcdmpgigmhhpaaL3
import Derived.Test.YtdcdmpgigmhhpaaNds
namespace Go.Proofs.Ytdcdmpgigmhhpaa.Ne
open Go Go.Proofs.Ytdcdmpgigmhhpaa.E
open Go.Proofs.Ytdcdmpgigmhhpaa.Va
open Go.Proofs.Ytdcdmpgigmhhpaa.Nd
set_option maxRecDepth 100000
set_option linter.unusedVariables false
set_option linter.unusedSimpArgs false

/-! 12: wainscot/wainscotlaw12.NodeEncodes -/
def A12 : List (Nat × Sh) := [(0, (.agg [.bool, .any, .any, .any])), (1, (.int .u8)), (4, .bool), (7, (.int .i64)), (9, (.int .i64)), (11, (.int .i64)), (12, .bool), (13, .bool), (14, .bool), (15, (.agg [.bool, .any, .any, .any])), (16, .bool), (17, .bool), (18, .bool), (19, .bool), (20, (.agg [.bool, .any, .any, .any])), (21, (.tup [.any, (.int .i64)])), (22, (.agg [.bool, .any, .any, .any])), (23, (.tup [.any, (.int .i64)])), (25, (.int .i64)), (26, (.tup [.any, (.int .i64)])), (27, (.agg [.bool, .any, .any, .any])), (28, (.tup [.any, (.int .i64)])), (30, (.int .i64)), (31, (.agg [.bool, .any, .any, .any])), (32, .bool), (33, (.agg [.bool, .any, .any, .any])), (34, .bool), (35, .bool), (36, .bool), (37, (.agg [.bool, .any, .any, .any])), (38, (.int .i64)), (39, (.agg [.bool, .any, .any, .any])), (40, (.int .i64)), (41, .bool), (42, .bool), (43, .bool), (45, .str), (47, .str), (48, .bool), (49, .bool), (50, .bool), (51, (.int .i64)), (52, (.int .i64)), (53, .bool), (54, .bool), (55, (.tup [(.agg [.bool, .any, .any, .any]), (.int .i64)])), (59, (.int .u8)), (60, (.int .i64)), (62, (.tup [(.agg [.bool, .any, .any, .any]), (.int .i64)])), (63, (.agg [.bool, .any, .any, .any])), (64, (.int .i64)), (65, (.int .i64)), (66, .bool), (67, .bool), (68, (.int .i64)), (69, .bool), (70, .bool), (71, (.agg [.bool, .any, .any, .any])), (72, (.agg [.bool, .any, .any, .any])), (73, .bool), (74, .bool), (75, .bool)]
noncomputable def call12 (lf : Nat) : CallS := callC 48 (W48 lf) (callC 47 (W47 lf) (callC 46 (W46 lf) (callC 45 (W45 lf) (callC 44 (W44 lf) (callC 43 (W43 lf) (callC 42 (W42 lf) (callC 41 (W41 lf) (callC 33 (W33 lf) (callC 32 (W32 lf) (callN))))))))))
theorem call12_ok (lf : Nat) : CallOk Go.Proofs.Try.prog (call12 lf) := callC_ok (W48_ok lf) (callC_ok (W47_ok lf) (callC_ok (W46_ok lf) (callC_ok (W45_ok lf) (callC_ok (W44_ok lf) (callC_ok (W43_ok lf) (callC_ok (W42_ok lf) (callC_ok (W41_ok lf) (callC_ok (W33_ok lf) (callC_ok (W32_ok lf) (callN_ok))))))))))
def o12_0 : Outs := [(.ret, [4], [.bool]), (.normal, [], [])]
def k12_0 : KC := (.seq (.reg [⟨(some 31), none, (.op (.loadN 4 (.t 5))), []⟩, ⟨(some 33), none, (.op (.loadN 4 (.t 2))), []⟩, ⟨(some 32), none, (.call 43 [(.t 31)]), [⟨(some 33), none, (.op (.loadN 4 (.t 2)))⟩]⟩, ⟨(some 34), none, (.call 44 [(.t 33)]), []⟩, ⟨(some 35), none, (.op (.eq true .bool (.t 32) (.t 34))), []⟩, ⟨(some 36), none, (.op (.mv (.t 35))), []⟩, ⟨(some 37), (some (36, false)), (.op (.loadN 4 (.t 5))), []⟩, ⟨(some 39), (some (36, false)), (.op (.loadN 4 (.t 2))), []⟩, ⟨(some 38), (some (36, false)), (.call 45 [(.t 37)]), [⟨(some 39), (some (36, false)), (.op (.loadN 4 (.t 2)))⟩]⟩, ⟨(some 40), (some (36, false)), (.call 46 [(.t 39)]), []⟩, ⟨(some 41), (some (36, false)), (.op (.bin .neq (.t 38) (.t 40))), []⟩, ⟨(some 42), none, (.op (.pick (.t 36) (.c (.bool true)) (.t 41))), []⟩, ⟨(some 43), none, (.op (.mv (.t 42))), []⟩, ⟨(some 44), (some (43, false)), (.op (.mv (.t 6))), []⟩, ⟨(some 45), (some (43, false)), (.op (.toStr (.t 44))), []⟩, ⟨(some 46), (some (43, false)), (.op (.mv (.t 8))), []⟩, ⟨(some 47), (some (43, false)), (.op (.toStr (.t 46))), []⟩, ⟨(some 48), (some (43, false)), (.op (.bin .neq (.t 45) (.t 47))), []⟩, ⟨(some 49), none, (.op (.pick (.t 43) (.c (.bool true)) (.t 48))), []⟩, ⟨(some 50), none, (.op (.mv (.t 49))), []⟩, ⟨(some 51), (some (50, false)), (.op (.mv (.t 7))), []⟩, ⟨(some 52), (some (50, false)), (.op (.mv (.t 9))), []⟩, ⟨(some 53), (some (50, false)), (.op (.bin .neq (.t 51) (.t 52))), []⟩, ⟨(some 54), none, (.op (.pick (.t 50) (.c (.bool true)) (.t 53))), []⟩]) (.cond (.t 54) (.seq (.reg [⟨(some 4), none, (.op (.mv (.c (.bool false)))), []⟩]) .ret) .skip))
def w12_0 (f : V → V → V → Int → V → Int → List Ob → SubR) (vs : List V) (h : List Ob) : SubR := castCons vs fun c1 l1 => castCons l1 fun c2 l2 => castCons l2 fun c3 l3 => castCons l3 fun c4 l4 => castInt .i64 c4 fun n5 => castCons l4 fun c6 l6 => castCons l6 fun c7 l7 => castInt .i64 c7 fun n8 => castNil l7 (f c1 c2 c3 n5 c6 n8 h)
noncomputable def S12_0 (lf : Nat) (n_ : V) (x : V) (b : V) (e : Int) (c : V) (f : Int) (h : List Ob) : SubR :=
bind1 (er (.loadN 4 (.c x)) h) fun v =>
castAgg v fun l =>
castCons l fun c1 l1 =>
castBool c1 fun x31_0 =>
castCons l1 fun x31_1 l2 =>
castCons l2 fun x31_2 l3 =>
castCons l3 fun x31_3 l4 =>
castNil l4 (
bind1 (er (.loadN 4 (.c n_)) h) fun v1 =>
castAgg v1 fun l5 =>
castCons l5 fun c2 l6 =>
castBool c2 fun x33_0 =>
castCons l6 fun x33_1 l7 =>
castCons l7 fun x33_2 l8 =>
castCons l8 fun x33_3 l9 =>
castNil l9 (
bind2 (F43 lf x31_0 x31_1 x31_2 x31_3 h) fun v2 h_ =>
castBool v2 fun x32 =>
reP (er (.loadN 4 (.c n_)) h_ = some (.agg [(.bool x33_0), x33_1, x33_2, x33_3])) (
bind2 (F44 lf x33_0 x33_1 x33_2 x33_3 h_) fun v3 h_1 =>
castBool v3 fun x34 =>
cB (!(x32 == x34)) (
some (.ret, [(.bool false)], h_1)) (
bind1 (er (.loadN 4 (.c x)) h_1) fun v4 =>
castAgg v4 fun l10 =>
castCons l10 fun c3 l11 =>
castBool c3 fun x37_0 =>
castCons l11 fun x37_1 l12 =>
castCons l12 fun x37_2 l13 =>
castCons l13 fun x37_3 l14 =>
castNil l14 (
bind1 (er (.loadN 4 (.c n_)) h_1) fun v5 =>
castAgg v5 fun l15 =>
castCons l15 fun c4 l16 =>
castBool c4 fun x39_0 =>
castCons l16 fun x39_1 l17 =>
castCons l17 fun x39_2 l18 =>
castCons l18 fun x39_3 l19 =>
castNil l19 (
bind2 (F45 lf x37_0 x37_1 x37_2 x37_3 h_1) fun v6 h_2 =>
castInt .i64 v6 fun x38 =>
reP (er (.loadN 4 (.c n_)) h_2 = some (.agg [(.bool x39_0), x39_1, x39_2, x39_3])) (
bind2 (F46 lf x39_0 x39_1 x39_2 x39_3 h_2) fun v7 h_3 =>
castInt .i64 v7 fun x40 =>
cB (x38 != x40) (
some (.ret, [(.bool false)], h_3)) (
bind1 (er (.toStr (.c b)) h_3) fun v8 =>
castStr v8 fun x45 =>
bind1 (er (.toStr (.c c)) h_3) fun v9 =>
castStr v9 fun x47 =>
cB (!(x45 == x47)) (
some (.ret, [(.bool false)], h_3)) (
cB (e != f) (
some (.ret, [(.bool false)], h_3)) (
some (.normal, [], h_3)))))))))))
theorem S12_0_eq (lf : Nat) (n_ : V) (x : V) (b : V) (e : Int) (c : V) (f : Int) (h : List Ob) : evCK A12 ⟨call12 lf, cvN, subN⟩ k12_0 [(2, n_), (5, x), (6, b), (7, (.int .i64 e)), (8, c), (9, (.int .i64 f))] h (endK o12_0) = S12_0 lf n_ x b e c f h := by kernel_rfl
theorem S12_0_ok (lf : Nat) : SubOk Go.Proofs.Try.prog k12_0.er [2, 5, 6, 7, 8, 9] o12_0 (w12_0 (S12_0 lf)) := by
  refine SubOk.of (A := A12) (σ := ⟨call12 lf, cvN, subN⟩) (c := k12_0) (call12_ok lf) cvN_ok (And.intro True.intro (And.intro (And.intro True.intro True.intro) True.intro)) ?_
  intro vs h r e0
  simp only [w12_0] at e0
  obtain ⟨c1, l1, rfl, e1⟩ := castCons_inv e0
  obtain ⟨c2, l2, rfl, e2⟩ := castCons_inv e1
  obtain ⟨c3, l3, rfl, e3⟩ := castCons_inv e2
  obtain ⟨c4, l4, rfl, e4⟩ := castCons_inv e3
  obtain ⟨y3, rfl, e5⟩ := castInt_inv e4
  obtain ⟨c5, l5, rfl, e6⟩ := castCons_inv e5
  obtain ⟨c6, l6, rfl, e7⟩ := castCons_inv e6
  obtain ⟨y5, rfl, e8⟩ := castInt_inv e7
  obtain ⟨rfl, e9⟩ := castNil_inv e8
  have e := e9
  exact (S12_0_eq lf c1 c2 c3 y3 c5 y5 h).trans e
def o12_1 : Outs := [(.ret, [4], [.bool]), (.normal, [], [])]
def k12_1 : KC := (.seq (.reg [⟨(some 12), none, (.call 32 []), []⟩, ⟨(some 13), none, (.op (.un .not (.t 12))), []⟩, ⟨(some 14), none, (.op (.mv (.t 13))), []⟩, ⟨(some 15), (some (14, false)), (.op (.loadN 4 (.t 2))), []⟩, ⟨(some 16), (some (14, false)), (.call 33 [(.t 15)]), []⟩, ⟨(some 17), (some (14, false)), (.op (.un .not (.t 16))), []⟩, ⟨(some 18), none, (.op (.pick (.t 14) (.c (.bool true)) (.t 17))), []⟩]) (.cond (.t 18) (.seq (.reg [⟨(some 19), none, (.call 32 []), []⟩, ⟨(some 4), none, (.op (.mv (.t 19))), []⟩]) .ret) .skip))
def w12_1 (f : V → List Ob → SubR) (vs : List V) (h : List Ob) : SubR := castCons vs fun c1 l1 => castNil l1 (f c1 h)
noncomputable def S12_1 (lf : Nat) (n_ : V) (h : List Ob) : SubR :=
bind2 (F32 lf h) fun v h_ =>
castBool v fun x12 =>
cB (!x12) (
bind2 (F32 lf h_) fun v1 h_1 =>
castBool v1 fun x19 =>
some (.ret, [(.bool x19)], h_1)) (
bind1 (er (.loadN 4 (.c n_)) h_) fun v1 =>
castAgg v1 fun l =>
castCons l fun c l1 =>
castBool c fun x15_0 =>
castCons l1 fun x15_1 l2 =>
castCons l2 fun x15_2 l3 =>
castCons l3 fun x15_3 l4 =>
castNil l4 (
bind2 (F33 lf x15_0 x15_1 x15_2 x15_3 h_) fun v2 h_1 =>
castBool v2 fun x16 =>
cB (!x16) (
bind2 (F32 lf h_1) fun v3 h_2 =>
castBool v3 fun x19 =>
some (.ret, [(.bool x19)], h_2)) (
some (.normal, [], h_1))))
theorem S12_1_eq (lf : Nat) (n_ : V) (h : List Ob) : evCK A12 ⟨call12 lf, cvN, subN⟩ k12_1 [(2, n_)] h (endK o12_1) = S12_1 lf n_ h := by kernel_rfl
theorem S12_1_ok (lf : Nat) : SubOk Go.Proofs.Try.prog k12_1.er [2] o12_1 (w12_1 (S12_1 lf)) := by
  refine SubOk.of (A := A12) (σ := ⟨call12 lf, cvN, subN⟩) (c := k12_1) (call12_ok lf) cvN_ok (And.intro True.intro (And.intro (And.intro True.intro True.intro) True.intro)) ?_
  intro vs h r e0
  simp only [w12_1] at e0
  obtain ⟨c1, l1, rfl, e1⟩ := castCons_inv e0
  obtain ⟨rfl, e2⟩ := castNil_inv e1
  have e := e2
  exact (S12_1_eq lf c1 h).trans e
def k12 : KC := (.seq (.reg [⟨(some 2), none, (.op (.box false (.t 0))), []⟩, ⟨(some 4), none, (.op (.mv (.c (.bool false)))), []⟩]) (.seq (.sub 1 k12_1.er [2] o12_1) (.seq (.reg [⟨(some 20), none, (.op (.loadN 4 (.t 2))), []⟩, ⟨(some 5), none, (.op (.alloc false (.agg [(.bool false), .nils, .nils, .nils]))), []⟩, ⟨none, none, (.op (.store 4 (.t 5) (.t 20))), []⟩]) (.seq (.reg [⟨(some 22), none, (.op (.loadN 4 (.t 5))), []⟩, ⟨(some 23), none, (.call 41 [(.t 22)]), []⟩, ⟨(some 21), none, (.op (.mv (.t 23))), []⟩, ⟨(some 24), none, (.op (.ext 0 (.t 21))), []⟩, ⟨(some 25), none, (.op (.ext 1 (.t 21))), []⟩, ⟨(some 6), none, (.op (.mv (.t 24))), []⟩, ⟨(some 7), none, (.op (.mv (.t 25))), []⟩]) (.seq (.reg [⟨(some 27), none, (.op (.loadN 4 (.t 2))), []⟩, ⟨(some 28), none, (.call 42 [(.t 27)]), []⟩, ⟨(some 26), none, (.op (.mv (.t 28))), []⟩, ⟨(some 29), none, (.op (.ext 0 (.t 26))), []⟩, ⟨(some 30), none, (.op (.ext 1 (.t 26))), []⟩, ⟨(some 8), none, (.op (.mv (.t 29))), []⟩, ⟨(some 9), none, (.op (.mv (.t 30))), []⟩]) (.seq (.sub 0 k12_0.er [2, 5, 6, 7, 8, 9] o12_0) (.seq (.reg [⟨(some 56), none, (.op (.bslice 1 (.int .u8 0) 0 [])), []⟩, ⟨(some 57), none, (.op (.mv (.t 6))), []⟩, ⟨(some 58), none, (.op (.app 1 1 (.t 56) (.t 57))), []⟩, ⟨(some 59), none, (.op (.mv (.t 1))), []⟩, ⟨(some 60), none, (.op (.toInt .i64 (.t 59))), []⟩, ⟨(some 61), none, (.op (.appZ 1 1 .nilp (.t 58) (.t 60))), []⟩, ⟨(some 62), none, (.call 47 [(.t 61)]), []⟩, ⟨(some 55), none, (.op (.mv (.t 62))), []⟩, ⟨(some 63), none, (.op (.ext 0 (.t 55))), []⟩, ⟨(some 64), none, (.op (.ext 1 (.t 55))), []⟩, ⟨(some 10), none, (.op (.alloc false (.agg [(.bool false), .nils, .nils, .nils]))), []⟩, ⟨none, none, (.op (.store 4 (.t 10) (.t 63))), []⟩, ⟨(some 11), none, (.op (.mv (.t 64))), []⟩]) (.seq (.reg [⟨(some 65), none, (.op (.mv (.t 7))), []⟩, ⟨(some 66), none, (.op (.bin .neq (.t 65) (.c (.int .i64 0)))), []⟩, ⟨(some 67), none, (.op (.mv (.t 66))), []⟩, ⟨(some 68), (some (67, false)), (.op (.mv (.t 11))), []⟩, ⟨(some 69), (some (67, false)), (.op (.bin .eql (.t 68) (.c (.int .i64 0)))), []⟩, ⟨(some 70), (some (67, false)), (.op (.mv (.t 69))), []⟩, ⟨(some 71), (some (70, true)), (.op (.loadN 4 (.t 10))), []⟩, ⟨(some 72), (some (70, true)), (.op (.loadN 4 (.t 2))), []⟩, ⟨(some 73), (some (70, true)), (.call 48 [(.t 71), (.t 72)]), []⟩, ⟨(some 74), (some (67, false)), (.op (.pick (.t 70) (.t 73) (.c (.bool false)))), []⟩, ⟨(some 75), none, (.op (.pick (.t 67) (.c (.bool true)) (.t 74))), []⟩, ⟨(some 4), none, (.op (.mv (.t 75))), []⟩]) .ret))))))))
noncomputable def F12 (lf : Nat) (n_ : Bool) (n_1 : V) (n_2 : V) (n_3 : V) (zeros : Int) (h : List Ob) : Option (V × List Ob) :=
bind2 (ev (.box false (.c (.agg [(.bool n_), n_1, n_2, n_3]))) h) fun n_4 h_ =>
bind3 (S12_1 lf n_4 h_) fun ex vs h_1 =>
cB (decide (ex = .ret)) (
castCons vs fun c l =>
castBool c fun x4 =>
castNil l (
some ((.bool x4), h_1))) (
cB (decide (ex = .normal)) (
castNil vs (
bind1 (er (.loadN 4 (.c n_4)) h_1) fun v =>
castAgg v fun l =>
castCons l fun c l1 =>
castBool c fun x20_0 =>
castCons l1 fun x20_1 l2 =>
castCons l2 fun x20_2 l3 =>
castCons l3 fun x20_3 l4 =>
castNil l4 (
bind2 (ev (.alloc false (.agg [(.bool false), .nils, .nils, .nils])) h_1) fun x h_2 =>
bind2 (ev (.store 4 (.c x) (.c (.agg [(.bool x20_0), x20_1, x20_2, x20_3]))) h_2) fun u h_3 =>
bind1 (er (.loadN 4 (.c x)) h_3) fun v1 =>
castAgg v1 fun l5 =>
castCons l5 fun c1 l6 =>
castBool c1 fun x22_0 =>
castCons l6 fun x22_1 l7 =>
castCons l7 fun x22_2 l8 =>
castCons l8 fun x22_3 l9 =>
castNil l9 (
bind2 (F41 lf x22_0 x22_1 x22_2 x22_3 h_3) fun v2 h_4 =>
castTup v2 fun l10 =>
castCons l10 fun x23_0 l11 =>
castCons l11 fun c2 l12 =>
castInt .i64 c2 fun x23_1 =>
castNil l12 (
bind1 (er (.loadN 4 (.c n_4)) h_4) fun v3 =>
castAgg v3 fun l13 =>
castCons l13 fun c3 l14 =>
castBool c3 fun x27_0 =>
castCons l14 fun x27_1 l15 =>
castCons l15 fun x27_2 l16 =>
castCons l16 fun x27_3 l17 =>
castNil l17 (
bind2 (F42 lf x27_0 x27_1 x27_2 x27_3 h_4) fun v4 h_5 =>
castTup v4 fun l18 =>
castCons l18 fun x28_0 l19 =>
castCons l19 fun c4 l20 =>
castInt .i64 c4 fun x28_1 =>
castNil l20 (
bind3 (S12_0 lf n_4 x x23_0 x23_1 x28_0 x28_1 h_5) fun ex1 vs1 h_6 =>
cB (decide (ex1 = .ret)) (
castCons vs1 fun c5 l21 =>
castBool c5 fun x4 =>
castNil l21 (
some ((.bool x4), h_6))) (
cB (decide (ex1 = .normal)) (
castNil vs1 (
bind2 (ev (.bslice 1 (.int .u8 0) 0 []) h_6) fun x56 h_7 =>
bind2 (ev (.app 1 1 (.c x56) (.c x23_0)) h_7) fun x58 h_8 =>
bind2 (ev (.appZ 1 1 .nilp (.c x58) (.c (.int .i64 (IntKind.i64.wrap zeros)))) h_8) fun x61 h_9 =>
bind2 (F47 lf x61 h_9) fun v5 h_10 =>
castTup v5 fun l21 =>
castCons l21 fun c5 l22 =>
castAgg c5 fun l23 =>
castCons l23 fun c6 l24 =>
castBool c6 fun x62_0_0 =>
castCons l24 fun x62_0_1 l25 =>
castCons l25 fun x62_0_2 l26 =>
castCons l26 fun x62_0_3 l27 =>
castNil l27 (
castCons l22 fun c7 l28 =>
castInt .i64 c7 fun x62_1 =>
castNil l28 (
bind2 (ev (.alloc false (.agg [(.bool false), .nils, .nils, .nils])) h_10) fun y h_11 =>
bind2 (ev (.store 4 (.c y) (.c (.agg [(.bool x62_0_0), x62_0_1, x62_0_2, x62_0_3]))) h_11) fun u1 h_12 =>
cB (x23_1 != (0)) (
some ((.bool true), h_12)) (
cB (x62_1 == (0)) (
bind1 (er (.loadN 4 (.c y)) h_12) fun v6 =>
castAgg v6 fun l29 =>
castCons l29 fun c8 l30 =>
castBool c8 fun x71_0 =>
castCons l30 fun x71_1 l31 =>
castCons l31 fun x71_2 l32 =>
castCons l32 fun x71_3 l33 =>
castNil l33 (
bind1 (er (.loadN 4 (.c n_4)) h_12) fun v7 =>
castAgg v7 fun l34 =>
castCons l34 fun c9 l35 =>
castBool c9 fun x72_0 =>
castCons l35 fun x72_1 l36 =>
castCons l36 fun x72_2 l37 =>
castCons l37 fun x72_3 l38 =>
castNil l38 (
bind2 (F48 lf x71_0 x71_1 x71_2 x71_3 x72_0 x72_1 x72_2 x72_3 h_12) fun v8 h_13 =>
castBool v8 fun x73 =>
some ((.bool x73), h_13)))) (
some ((.bool false), h_12))))))) (
none))))))))) (
none))
theorem F12_eq (lf : Nat) (n_ : Bool) (n_1 : V) (n_2 : V) (n_3 : V) (zeros : Int) (h : List Ob) : evCK A12 ⟨call12 lf, cvN, subC 0 (w12_0 (S12_0 lf)) (subC 1 (w12_1 (S12_1 lf)) (subN))⟩ k12 (entryK [(.agg [(.bool n_), n_1, n_2, n_3]), (.int .u8 zeros)]) h (endF c12.res) = F12 lf n_ n_1 n_2 n_3 zeros h := by kernel_rfl
theorem F12_ok (lf : Nat) (n_ : Bool) (n_1 : V) (n_2 : V) (n_3 : V) (zeros : Int) (h : List Ob) (r_ : V) (h_r : List Ob) (e_ : F12 lf n_ n_1 n_2 n_3 zeros h = some (r_, h_r)) : CD Go.Proofs.Try.prog 12 [(.agg [(.bool n_), n_1, n_2, n_3]), (.int .u8 zeros)] h r_ h_r :=
  CD.ofK (A := A12) (σ := ⟨call12 lf, cvN, subC 0 (w12_0 (S12_0 lf)) (subC 1 (w12_1 (S12_1 lf)) (subN))⟩) (c := k12) Go.Proofs.Try.func12 ok12 en12 (show 2 ≤ 76 by decide) (by kernel_rfl) (call12_ok lf) cvN_ok (And.intro True.intro (And.intro (S12_1_ok lf) (And.intro True.intro (And.intro True.intro (And.intro True.intro (And.intro (S12_0_ok lf) (And.intro True.intro (And.intro True.intro True.intro)))))))) ((F12_eq lf n_ n_1 n_2 n_3 zeros h).trans e_)
def w12 (f : Bool → V → V → V → Int → List Ob → Option (V × List Ob)) (vs : List V) (h : List Ob) : Option (V × List Ob) := castCons vs fun c1 l1 => castAgg c1 fun n2 => castCons n2 fun c3 l3 => castBool c3 fun n4 => castCons l3 fun c5 l5 => castCons l5 fun c6 l6 => castCons l6 fun c7 l7 => castNil l7 (castCons l1 fun c8 l8 => castInt .u8 c8 fun n9 => castNil l8 (f n4 c5 c6 c7 n9 h))
noncomputable def W12 (lf : Nat) : List V → List Ob → Option (V × List Ob) := w12 (F12 lf)
theorem W12_ok (lf : Nat) : ∀ args h v h', W12 lf args h = some (v, h') → CD Go.Proofs.Try.prog 12 args h v h' := by
  intro vs h r h' e0
  simp only [W12, w12] at e0
  obtain ⟨c1, l1, rfl, e1⟩ := castCons_inv e0
  obtain ⟨l2, rfl, e2⟩ := castAgg_inv e1
  obtain ⟨c3, l3, rfl, e3⟩ := castCons_inv e2
  obtain ⟨y0, rfl, e4⟩ := castBool_inv e3
  obtain ⟨c4, l4, rfl, e5⟩ := castCons_inv e4
  obtain ⟨c5, l5, rfl, e6⟩ := castCons_inv e5
  obtain ⟨c6, l6, rfl, e7⟩ := castCons_inv e6
  obtain ⟨rfl, e8⟩ := castNil_inv e7
  obtain ⟨c7, l7, rfl, e9⟩ := castCons_inv e8
  obtain ⟨y4, rfl, e10⟩ := castInt_inv e9
  obtain ⟨rfl, e11⟩ := castNil_inv e10
  have e := e11
  exact F12_ok lf y0 c4 c5 c6 y4 h r h' e

end Go.Proofs.Ytdcdmpgigmhhpaa.Ne
