/- Functions of the program as Lean functions, and that each call comes to what its function says. Printed by my own tool. No condition. -/
import Derived.Test.YtdcdmpgigmhhpaaVa
import Derived.Test.YtdcdmpgigmhhpaaL3
namespace Go.Proofs.Ytdcdmpgigmhhpaa.Va
open Go Go.Proofs.Ytdcdmpgigmhhpaa.E
set_option maxRecDepth 100000
set_option linter.unusedVariables false
set_option linter.unusedSimpArgs false

/-! 15: wainscot/varint.Take -/
def A15 : List (Nat × Sh) := [(2, (.int .u64)), (3, (.int .i64)), (4, (.int .i64)), (5, (.int .u64)), (6, (.int .i64)), (7, (.int .u8)), (9, (.int .i64)), (10, (.int .i64)), (11, .bool), (12, (.int .i64)), (14, (.int .u8)), (15, (.int .i64)), (16, .bool), (17, .bool), (18, (.int .i64)), (19, .bool), (20, .bool), (21, (.int .u8)), (22, .bool), (23, .bool), (24, .bool), (25, .bool), (26, (.int .u64)), (27, (.int .u64)), (28, .bool), (29, .bool), (30, (.int .u64)), (31, (.int .u64)), (32, (.int .u8)), (33, (.int .u8)), (34, (.int .u64)), (35, (.int .u64)), (36, (.int .u8)), (37, .bool), (38, (.int .u64)), (39, (.int .i64)), (40, (.int .i64)), (41, (.int .i64))]
noncomputable def call15 (lf : Nat) : CallS := callN
theorem call15_ok (lf : Nat) : CallOk Go.Proofs.Try.prog (call15 lf) := callN_ok
def o15_0 : Outs := [((.exit 0), [], []), (.normal, [], [])]
def k15_0 : KC := (.seq (.reg [⟨(some 15), none, (.op (.mv (.t 6))), []⟩, ⟨(some 16), none, (.op (.bin .eql (.t 15) (.c (.int .i64 10)))), []⟩, ⟨(some 17), none, (.op (.mv (.t 16))), []⟩, ⟨(some 18), (some (17, false)), (.op (.mv (.t 6))), []⟩, ⟨(some 19), (some (17, false)), (.op (.bin .eql (.t 18) (.c (.int .i64 0)))), []⟩, ⟨(some 20), (some (17, false)), (.op (.mv (.t 19))), []⟩, ⟨(some 21), (some (20, true)), (.op (.mv (.t 7))), []⟩, ⟨(some 22), (some (20, true)), (.op (.bin .eql (.t 21) (.c (.int .u8 128)))), []⟩, ⟨(some 23), (some (17, false)), (.op (.pick (.t 20) (.t 22) (.c (.bool false)))), []⟩, ⟨(some 24), none, (.op (.pick (.t 17) (.c (.bool true)) (.t 23))), []⟩, ⟨(some 25), none, (.op (.mv (.t 24))), []⟩, ⟨(some 26), (some (25, false)), (.op (.mv (.t 5))), []⟩, ⟨(some 27), (some (25, false)), (.op (.bin .shr (.t 26) (.c (.int .u64 57)))), []⟩, ⟨(some 28), (some (25, false)), (.op (.bin .neq (.t 27) (.c (.int .u64 0)))), []⟩, ⟨(some 29), none, (.op (.pick (.t 25) (.c (.bool true)) (.t 28))), []⟩]) (.cond (.t 29) (.exit 0) .skip))
def w15_0 (f : Int → Int → Int → List Ob → SubR) (vs : List V) (h : List Ob) : SubR := castCons vs fun c1 l1 => castInt .u64 c1 fun n2 => castCons l1 fun c3 l3 => castInt .i64 c3 fun n4 => castCons l3 fun c5 l5 => castInt .u8 c5 fun n6 => castNil l5 (f n2 n4 n6 h)
noncomputable def S15_0 (lf : Nat) (n_ : Int) (i : Int) (c : Int) (h : List Ob) : SubR :=
cB (i == (10)) (
some ((.exit 0), [], h)) (
cB (i == (0)) (
cB (c == (128)) (
some ((.exit 0), [], h)) (
cB ((Int.fdiv n_ (2 ^ 57)) != (0)) (
some ((.exit 0), [], h)) (
some (.normal, [], h)))) (
cB ((Int.fdiv n_ (2 ^ 57)) != (0)) (
some ((.exit 0), [], h)) (
some (.normal, [], h))))
theorem S15_0_eq (lf : Nat) (n_ : Int) (i : Int) (c : Int) (h : List Ob) : evCK A15 ⟨call15 lf, cvN, subN⟩ k15_0 [(5, (.int .u64 n_)), (6, (.int .i64 i)), (7, (.int .u8 c))] h (endK o15_0) = S15_0 lf n_ i c h := by kernel_rfl
theorem S15_0_ok (lf : Nat) : SubOk Go.Proofs.Try.prog k15_0.er [5, 6, 7] o15_0 (w15_0 (S15_0 lf)) := by
  refine SubOk.of (A := A15) (σ := ⟨call15 lf, cvN, subN⟩) (c := k15_0) (call15_ok lf) cvN_ok (And.intro True.intro (And.intro True.intro True.intro)) ?_
  intro vs h r e0
  simp only [w15_0] at e0
  obtain ⟨c1, l1, rfl, e1⟩ := castCons_inv e0
  obtain ⟨y0, rfl, e2⟩ := castInt_inv e1
  obtain ⟨c2, l2, rfl, e3⟩ := castCons_inv e2
  obtain ⟨y1, rfl, e4⟩ := castInt_inv e3
  obtain ⟨c3, l3, rfl, e5⟩ := castCons_inv e4
  obtain ⟨y2, rfl, e6⟩ := castInt_inv e5
  obtain ⟨rfl, e7⟩ := castNil_inv e6
  have e := e7
  exact (S15_0_eq lf y0 y1 y2 h).trans e
def o15_1 : Outs := [((.exit 0), [], []), (.ret, [2, 3, 4], [(.int .u64), (.int .i64), (.int .i64)])]
def k15_1 : KC := (.seq (.reg [⟨(some 11), none, (.op (.bin .lss (.t 10) (.t 9))), []⟩]) (.seq (.cond (.t 11) .skip (.exit 0)) (.seq (.block 1 (.seq (.reg [⟨(some 12), none, (.op (.mv (.t 10))), []⟩, ⟨(some 13), none, (.op (.iaddrL 1 (.t 8) (.t 10))), []⟩, ⟨(some 14), none, (.op (.load1 (.t 13))), []⟩, ⟨(some 6), none, (.op (.mv (.t 12))), []⟩, ⟨(some 7), none, (.op (.mv (.t 14))), []⟩]) (.seq (.sub 0 k15_0.er [5, 6, 7] o15_0) (.seq (.reg [⟨(some 30), none, (.op (.mv (.t 5))), []⟩, ⟨(some 31), none, (.op (.bin .shl (.t 30) (.c (.int .u64 7)))), []⟩, ⟨(some 32), none, (.op (.mv (.t 7))), []⟩, ⟨(some 33), none, (.op (.bin .and (.t 32) (.c (.int .u8 127)))), []⟩, ⟨(some 34), none, (.op (.toInt .u64 (.t 33))), []⟩, ⟨(some 35), none, (.op (.bin .or (.t 31) (.t 34))), []⟩, ⟨(some 5), none, (.op (.mv (.t 35))), []⟩]) (.seq (.reg [⟨(some 36), none, (.op (.mv (.t 7))), []⟩, ⟨(some 37), none, (.op (.bin .lss (.t 36) (.c (.int .u8 128)))), []⟩]) (.cond (.t 37) (.seq (.reg [⟨(some 38), none, (.op (.mv (.t 5))), []⟩, ⟨(some 39), none, (.op (.mv (.t 6))), []⟩, ⟨(some 40), none, (.op (.bin .add (.t 39) (.c (.int .i64 1)))), []⟩, ⟨(some 2), none, (.op (.mv (.t 38))), []⟩, ⟨(some 3), none, (.op (.mv (.t 40))), []⟩, ⟨(some 4), none, (.op (.mv (.c (.int .i64 0)))), []⟩]) .ret) .skip)))))) (.reg [⟨(some 41), none, (.op (.bin .add (.t 10) (.c (.int .i64 1)))), []⟩, ⟨(some 10), none, (.op (.mv (.t 41))), []⟩]))))
def w15_1 (f : Int → V → Int → Int → List Ob → SubR) (vs : List V) (h : List Ob) : SubR := castCons vs fun c1 l1 => castInt .u64 c1 fun n2 => castCons l1 fun c3 l3 => castCons l3 fun c4 l4 => castInt .i64 c4 fun n5 => castCons l4 fun c6 l6 => castInt .i64 c6 fun n7 => castNil l6 (f n2 c3 n5 n7 h)
noncomputable def B15_1 (lf : Nat) (self : Int → V → Int → Int → List Ob → SubR) (n_ : Int) (x8 : V) (x9 : Int) (x10 : Int) (h : List Ob) : SubR :=
cB (decide (x10 < x9)) (
bind1 (er (.iaddrL 1 (.c x8) (.c (.int .i64 x10))) h) fun x13 =>
bind1 (er (.load1 (.c x13)) h) fun v =>
castInt .u8 v fun x14 =>
bind3 (S15_0 lf n_ x10 x14 h) fun ex vs h_ =>
cB (decide (ex = (.exit 0))) (
castNil vs (
some ((.exit 0), [], h_))) (
cB (decide (ex = .normal)) (
castNil vs (
cB (decide (x14 < (128))) (
some (.ret, [(.int .u64 (bits .or .u64 (IntKind.u64.wrap (n_ * 2 ^ 7)) (IntKind.u64.wrap (bits .and .u8 x14 (127))))), (.int .i64 (IntKind.i64.wrap (x10 + (1)))), (.int .i64 (0))], h_)) (
self (bits .or .u64 (IntKind.u64.wrap (n_ * 2 ^ 7)) (IntKind.u64.wrap (bits .and .u8 x14 (127)))) x8 x9 (IntKind.i64.wrap (x10 + (1))) h_))) (
none))) (
some ((.exit 0), [], h))
noncomputable def L15_1 (lf : Nat) : Nat → Int → V → Int → Int → List Ob → SubR
  | 0 => fun _ _ _ _ _ => none
  | n + 1 => B15_1 lf (L15_1 lf n)
theorem B15_1_eq (lf : Nat) (self : Int → V → Int → Int → List Ob → SubR) (n_ : Int) (x8 : V) (x9 : Int) (x10 : Int) (h : List Ob) : evCK A15 ⟨call15 lf, cvN, subC 0 (w15_0 (S15_0 lf)) (subN)⟩ k15_1 [(5, (.int .u64 n_)), (8, x8), (9, (.int .i64 x9)), (10, (.int .i64 x10))] h (endL [5, 8, 9, 10] [(.int .u64), .any, (.int .i64), (.int .i64)] o15_1 (w15_1 self)) = B15_1 lf self n_ x8 x9 x10 h := by kernel_rfl
theorem L15_1_ok (lf : Nat) : ∀ n, SubOk Go.Proofs.Try.prog (.loop k15_1.er) [5, 8, 9, 10] o15_1 (w15_1 (L15_1 lf n)) := by
  refine SubOk.loop (A := A15) (σ := ⟨call15 lf, cvN, subC 0 (w15_0 (S15_0 lf)) (subN)⟩) (c := k15_1) (shs := [(.int .u64), .any, (.int .i64), (.int .i64)]) (G := fun n => w15_1 (L15_1 lf n)) (call15_ok lf) cvN_ok (And.intro True.intro (And.intro (And.intro True.intro True.intro) (And.intro (And.intro True.intro (And.intro (S15_0_ok lf) (And.intro True.intro (And.intro True.intro (And.intro (And.intro True.intro True.intro) True.intro))))) True.intro))) ?_ ?_
  · intro vs h r e0
    simp only [w15_1] at e0
    obtain ⟨c1, l1, rfl, e1⟩ := castCons_inv e0
    obtain ⟨y0, rfl, e2⟩ := castInt_inv e1
    obtain ⟨c2, l2, rfl, e3⟩ := castCons_inv e2
    obtain ⟨c3, l3, rfl, e4⟩ := castCons_inv e3
    obtain ⟨y2, rfl, e5⟩ := castInt_inv e4
    obtain ⟨c4, l4, rfl, e6⟩ := castCons_inv e5
    obtain ⟨y3, rfl, e7⟩ := castInt_inv e6
    obtain ⟨rfl, e8⟩ := castNil_inv e7
    have e := e8
    cases e
  · intro n vs h r e0
    simp only [w15_1] at e0
    obtain ⟨c1, l1, rfl, e1⟩ := castCons_inv e0
    obtain ⟨y0, rfl, e2⟩ := castInt_inv e1
    obtain ⟨c2, l2, rfl, e3⟩ := castCons_inv e2
    obtain ⟨c3, l3, rfl, e4⟩ := castCons_inv e3
    obtain ⟨y2, rfl, e5⟩ := castInt_inv e4
    obtain ⟨c4, l4, rfl, e6⟩ := castCons_inv e5
    obtain ⟨y3, rfl, e7⟩ := castInt_inv e6
    obtain ⟨rfl, e8⟩ := castNil_inv e7
    have e := e8
    exact (B15_1_eq lf (L15_1 lf n) y0 c2 y2 y3 h).trans e
def k15 : KC := (.seq (.reg [⟨(some 2), none, (.op (.mv (.c (.int .u64 0)))), []⟩, ⟨(some 3), none, (.op (.mv (.c (.int .i64 0)))), []⟩, ⟨(some 4), none, (.op (.mv (.c (.int .i64 0)))), []⟩]) (.seq (.reg [⟨(some 5), none, (.op (.mv (.c (.int .u64 0)))), []⟩]) (.seq (.seq (.reg [⟨(some 8), none, (.op (.mv (.t 0))), []⟩, ⟨(some 9), none, (.op (.lenL (.t 8))), []⟩, ⟨(some 10), none, (.op (.mv (.c (.int .i64 0)))), []⟩]) (.block 0 (.sub 1 (.loop k15_1.er) [5, 8, 9, 10] o15_1))) (.seq (.reg [⟨(some 2), none, (.op (.mv (.c (.int .u64 0)))), []⟩, ⟨(some 3), none, (.op (.mv (.c (.int .i64 0)))), []⟩, ⟨(some 4), none, (.op (.mv (.c (.int .i64 2)))), []⟩]) .ret))))
noncomputable def F15 (lf : Nat) (b : V) (h : List Ob) : Option (V × List Ob) :=
bind1 (er (.lenL (.c b)) h) fun v =>
castInt .i64 v fun x9 =>
bind3 (L15_1 lf lf (0) b x9 (0) h) fun ex vs h_ =>
cB (decide (ex = (.exit 0))) (
castNil vs (
some ((.tup [(.int .u64 (0)), (.int .i64 (0)), (.int .i64 (2))]), h_))) (
cB (decide (ex = .ret)) (
castCons vs fun c l =>
castInt .u64 c fun x2 =>
castCons l fun c1 l1 =>
castInt .i64 c1 fun x3 =>
castCons l1 fun c2 l2 =>
castInt .i64 c2 fun x4 =>
castNil l2 (
some ((.tup [(.int .u64 x2), (.int .i64 x3), (.int .i64 x4)]), h_))) (
none))
theorem F15_eq (lf : Nat) (b : V) (h : List Ob) : evCK A15 ⟨call15 lf, cvN, subC 1 (w15_1 (L15_1 lf lf)) (subN)⟩ k15 (entryK [b]) h (endF c15.res) = F15 lf b h := by kernel_rfl
theorem F15_ok (lf : Nat) (b : V) (h : List Ob) (r_ : V) (h_r : List Ob) (e_ : F15 lf b h = some (r_, h_r)) : CD Go.Proofs.Try.prog 15 [b] h r_ h_r :=
  CD.ofK (A := A15) (σ := ⟨call15 lf, cvN, subC 1 (w15_1 (L15_1 lf lf)) (subN)⟩) (c := k15) Go.Proofs.Try.func15 ok15 en15 (show 1 ≤ 42 by decide) (by kernel_rfl) (call15_ok lf) cvN_ok (And.intro True.intro (And.intro True.intro (And.intro (And.intro True.intro (L15_1_ok lf lf)) (And.intro True.intro True.intro)))) ((F15_eq lf b h).trans e_)
def w15 (f : V → List Ob → Option (V × List Ob)) (vs : List V) (h : List Ob) : Option (V × List Ob) := castCons vs fun c1 l1 => castNil l1 (f c1 h)
noncomputable def W15 (lf : Nat) : List V → List Ob → Option (V × List Ob) := w15 (F15 lf)
theorem W15_ok (lf : Nat) : ∀ args h v h', W15 lf args h = some (v, h') → CD Go.Proofs.Try.prog 15 args h v h' := by
  intro vs h r h' e0
  simp only [W15, w15] at e0
  obtain ⟨c1, l1, rfl, e1⟩ := castCons_inv e0
  obtain ⟨rfl, e2⟩ := castNil_inv e1
  have e := e2
  exact F15_ok lf c1 h r h' e

/-! 14: wainscot/wainscotlaw02.awake -/
def A14 : List (Nat × Sh) := [(0, .bool), (1, (.int .u64)), (2, (.int .i64)), (3, (.int .i64)), (4, (.tup [(.int .u64), (.int .i64), (.int .i64)])), (6, (.tup [(.int .u64), (.int .i64), (.int .i64)])), (7, (.int .u64)), (8, (.int .i64)), (9, (.int .i64)), (10, (.int .u64)), (11, .bool), (12, .bool), (13, (.int .i64)), (14, .bool), (15, .bool), (16, .bool), (17, (.int .i64)), (18, .bool), (19, .bool)]
noncomputable def call14 (lf : Nat) : CallS := callC 15 (W15 lf) (callN)
theorem call14_ok (lf : Nat) : CallOk Go.Proofs.Try.prog (call14 lf) := callC_ok (W15_ok lf) (callN_ok)
def k14 : KC := (.seq (.reg [⟨(some 0), none, (.op (.mv (.c (.bool false)))), []⟩]) (.seq (.reg [⟨(some 5), none, (.op (.bslice 1 (.int .u8 0) 1 [(0, (.c (.int .u8 5)))])), []⟩, ⟨(some 6), none, (.call 15 [(.t 5)]), []⟩, ⟨(some 4), none, (.op (.mv (.t 6))), []⟩, ⟨(some 7), none, (.op (.ext 0 (.t 4))), []⟩, ⟨(some 8), none, (.op (.ext 1 (.t 4))), []⟩, ⟨(some 9), none, (.op (.ext 2 (.t 4))), []⟩, ⟨(some 1), none, (.op (.mv (.t 7))), []⟩, ⟨(some 2), none, (.op (.mv (.t 8))), []⟩, ⟨(some 3), none, (.op (.mv (.t 9))), []⟩]) (.seq (.reg [⟨(some 10), none, (.op (.mv (.t 1))), []⟩, ⟨(some 11), none, (.op (.bin .eql (.t 10) (.c (.int .u64 5)))), []⟩, ⟨(some 12), none, (.op (.mv (.t 11))), []⟩, ⟨(some 13), (some (12, true)), (.op (.mv (.t 2))), []⟩, ⟨(some 14), (some (12, true)), (.op (.bin .eql (.t 13) (.c (.int .i64 1)))), []⟩, ⟨(some 15), none, (.op (.pick (.t 12) (.t 14) (.c (.bool false)))), []⟩, ⟨(some 16), none, (.op (.mv (.t 15))), []⟩, ⟨(some 17), (some (16, true)), (.op (.mv (.t 3))), []⟩, ⟨(some 18), (some (16, true)), (.op (.bin .eql (.t 17) (.c (.int .i64 0)))), []⟩, ⟨(some 19), none, (.op (.pick (.t 16) (.t 18) (.c (.bool false)))), []⟩, ⟨(some 0), none, (.op (.mv (.t 19))), []⟩]) .ret)))
noncomputable def F14 (lf : Nat) (h : List Ob) : Option (V × List Ob) :=
bind2 (ev (.bslice 1 (.int .u8 0) 1 [(0, (.c (.int .u8 (5))))]) h) fun x5 h_ =>
bind2 (F15 lf x5 h_) fun v h_1 =>
castTup v fun l =>
castCons l fun c l1 =>
castInt .u64 c fun x6_0 =>
castCons l1 fun c1 l2 =>
castInt .i64 c1 fun x6_1 =>
castCons l2 fun c2 l3 =>
castInt .i64 c2 fun x6_2 =>
castNil l3 (
cB (x6_0 == (5)) (
cB (x6_1 == (1)) (
some ((.bool (x6_2 == (0))), h_1)) (
some ((.bool false), h_1))) (
some ((.bool false), h_1)))
theorem F14_eq (lf : Nat) (h : List Ob) : evCK A14 ⟨call14 lf, cvN, subN⟩ k14 (entryK []) h (endF c14.res) = F14 lf h := by kernel_rfl
theorem F14_ok (lf : Nat) (h : List Ob) (r_ : V) (h_r : List Ob) (e_ : F14 lf h = some (r_, h_r)) : CD Go.Proofs.Try.prog 14 [] h r_ h_r :=
  CD.ofK (A := A14) (σ := ⟨call14 lf, cvN, subN⟩) (c := k14) Go.Proofs.Try.func14 ok14 en14 (show 0 ≤ 20 by decide) (by kernel_rfl) (call14_ok lf) cvN_ok (And.intro True.intro (And.intro True.intro (And.intro True.intro True.intro))) ((F14_eq lf h).trans e_)
def w14 (f : List Ob → Option (V × List Ob)) (vs : List V) (h : List Ob) : Option (V × List Ob) := castNil vs (f h)
noncomputable def W14 (lf : Nat) : List V → List Ob → Option (V × List Ob) := w14 (F14 lf)
theorem W14_ok (lf : Nat) : ∀ args h v h', W14 lf args h = some (v, h') → CD Go.Proofs.Try.prog 14 args h v h' := by
  intro vs h r h' e0
  simp only [W14, w14] at e0
  obtain ⟨rfl, e1⟩ := castNil_inv e0
  have e := e1
  exact F14_ok lf h r h' e

/-! 17: wainscot/varint.TakeSigned -/
def A17 : List (Nat × Sh) := [(2, (.int .i64)), (3, (.int .i64)), (4, (.int .i64)), (5, (.int .u64)), (6, (.int .i64)), (7, (.int .i64)), (8, (.tup [(.int .u64), (.int .i64), (.int .i64)])), (10, (.tup [(.int .u64), (.int .i64), (.int .i64)])), (11, (.int .u64)), (12, (.int .i64)), (13, (.int .i64)), (14, (.int .u64)), (15, (.int .u64)), (16, (.int .i64)), (17, (.int .u64)), (18, (.int .u64)), (19, (.int .i64)), (20, (.int .i64)), (21, (.int .i64)), (22, (.int .i64)), (23, (.int .i64))]
noncomputable def call17 (lf : Nat) : CallS := callC 15 (W15 lf) (callN)
theorem call17_ok (lf : Nat) : CallOk Go.Proofs.Try.prog (call17 lf) := callC_ok (W15_ok lf) (callN_ok)
def k17 : KC := (.seq (.reg [⟨(some 2), none, (.op (.mv (.c (.int .i64 0)))), []⟩, ⟨(some 3), none, (.op (.mv (.c (.int .i64 0)))), []⟩, ⟨(some 4), none, (.op (.mv (.c (.int .i64 0)))), []⟩]) (.seq (.reg [⟨(some 9), none, (.op (.mv (.t 0))), []⟩, ⟨(some 10), none, (.call 15 [(.t 9)]), []⟩, ⟨(some 8), none, (.op (.mv (.t 10))), []⟩, ⟨(some 11), none, (.op (.ext 0 (.t 8))), []⟩, ⟨(some 12), none, (.op (.ext 1 (.t 8))), []⟩, ⟨(some 13), none, (.op (.ext 2 (.t 8))), []⟩, ⟨(some 5), none, (.op (.mv (.t 11))), []⟩, ⟨(some 6), none, (.op (.mv (.t 12))), []⟩, ⟨(some 7), none, (.op (.mv (.t 13))), []⟩]) (.seq (.reg [⟨(some 14), none, (.op (.mv (.t 5))), []⟩, ⟨(some 15), none, (.op (.bin .shr (.t 14) (.c (.int .u64 1)))), []⟩, ⟨(some 16), none, (.op (.toInt .i64 (.t 15))), []⟩, ⟨(some 17), none, (.op (.mv (.t 5))), []⟩, ⟨(some 18), none, (.op (.bin .and (.t 17) (.c (.int .u64 1)))), []⟩, ⟨(some 19), none, (.op (.toInt .i64 (.t 18))), []⟩, ⟨(some 20), none, (.op (.un .neg (.t 19))), []⟩, ⟨(some 21), none, (.op (.bin .xor (.t 16) (.t 20))), []⟩, ⟨(some 22), none, (.op (.mv (.t 6))), []⟩, ⟨(some 23), none, (.op (.mv (.t 7))), []⟩, ⟨(some 2), none, (.op (.mv (.t 21))), []⟩, ⟨(some 3), none, (.op (.mv (.t 22))), []⟩, ⟨(some 4), none, (.op (.mv (.t 23))), []⟩]) .ret)))
noncomputable def F17 (lf : Nat) (b : V) (h : List Ob) : Option (V × List Ob) :=
bind2 (F15 lf b h) fun v h_ =>
castTup v fun l =>
castCons l fun c l1 =>
castInt .u64 c fun x10_0 =>
castCons l1 fun c1 l2 =>
castInt .i64 c1 fun x10_1 =>
castCons l2 fun c2 l3 =>
castInt .i64 c2 fun x10_2 =>
castNil l3 (
some ((.tup [(.int .i64 (bits .xor .i64 (IntKind.i64.wrap (Int.fdiv x10_0 (2 ^ 1))) (IntKind.i64.wrap (0 - (IntKind.i64.wrap (bits .and .u64 x10_0 (1))))))), (.int .i64 x10_1), (.int .i64 x10_2)]), h_))
theorem F17_eq (lf : Nat) (b : V) (h : List Ob) : evCK A17 ⟨call17 lf, cvN, subN⟩ k17 (entryK [b]) h (endF c17.res) = F17 lf b h := by kernel_rfl
theorem F17_ok (lf : Nat) (b : V) (h : List Ob) (r_ : V) (h_r : List Ob) (e_ : F17 lf b h = some (r_, h_r)) : CD Go.Proofs.Try.prog 17 [b] h r_ h_r :=
  CD.ofK (A := A17) (σ := ⟨call17 lf, cvN, subN⟩) (c := k17) Go.Proofs.Try.func17 ok17 en17 (show 1 ≤ 24 by decide) (by kernel_rfl) (call17_ok lf) cvN_ok (And.intro True.intro (And.intro True.intro (And.intro True.intro True.intro))) ((F17_eq lf b h).trans e_)
def w17 (f : V → List Ob → Option (V × List Ob)) (vs : List V) (h : List Ob) : Option (V × List Ob) := castCons vs fun c1 l1 => castNil l1 (f c1 h)
noncomputable def W17 (lf : Nat) : List V → List Ob → Option (V × List Ob) := w17 (F17 lf)
theorem W17_ok (lf : Nat) : ∀ args h v h', W17 lf args h = some (v, h') → CD Go.Proofs.Try.prog 17 args h v h' := by
  intro vs h r h' e0
  simp only [W17, w17] at e0
  obtain ⟨c1, l1, rfl, e1⟩ := castCons_inv e0
  obtain ⟨rfl, e2⟩ := castNil_inv e1
  have e := e2
  exact F17_ok lf c1 h r h' e

/-! 75: slices.Grow[[]byte,byte] -/
def A75 : List (Nat × Sh) := [(1, (.int .i64)), (5, (.int .i64)), (6, .bool), (8, (.int .i64)), (10, (.int .i64)), (12, (.int .i64)), (13, (.int .i64)), (14, (.int .i64)), (15, (.int .i64)), (16, .bool), (19, (.int .i64)), (21, (.int .i64)), (24, (.int .i64))]
noncomputable def call75 (lf : Nat) : CallS := callN
theorem call75_ok (lf : Nat) : CallOk Go.Proofs.Try.prog (call75 lf) := callN_ok
def o75_0 : Outs := [(.normal, [], [])]
def k75_0 : KC := (.seq (.reg [⟨(some 5), none, (.op (.mv (.t 1))), []⟩, ⟨(some 6), none, (.op (.bin .lss (.t 5) (.c (.int .i64 0)))), []⟩]) (.cond (.t 6) (.reg [⟨(some 7), none, .bad, []⟩, ⟨none, none, .bad, []⟩]) .skip))
def w75_0 (f : Int → List Ob → SubR) (vs : List V) (h : List Ob) : SubR := castCons vs fun c1 l1 => castInt .i64 c1 fun n2 => castNil l1 (f n2 h)
noncomputable def S75_0 (lf : Nat) (n_ : Int) (h : List Ob) : SubR :=
cB (decide (n_ < (0))) (
none) (
some (.normal, [], h))
theorem S75_0_eq (lf : Nat) (n_ : Int) (h : List Ob) : evCK A75 ⟨call75 lf, cvN, subN⟩ k75_0 [(1, (.int .i64 n_))] h (endK o75_0) = S75_0 lf n_ h := by kernel_rfl
theorem S75_0_ok (lf : Nat) : SubOk Go.Proofs.Try.prog k75_0.er [1] o75_0 (w75_0 (S75_0 lf)) := by
  refine SubOk.of (A := A75) (σ := ⟨call75 lf, cvN, subN⟩) (c := k75_0) (call75_ok lf) cvN_ok (And.intro True.intro (And.intro True.intro True.intro)) ?_
  intro vs h r e0
  simp only [w75_0] at e0
  obtain ⟨c1, l1, rfl, e1⟩ := castCons_inv e0
  obtain ⟨y0, rfl, e2⟩ := castInt_inv e1
  obtain ⟨rfl, e3⟩ := castNil_inv e2
  have e := e3
  exact (S75_0_eq lf y0 h).trans e
def k75 : KC := (.seq (.reg [⟨(some 4), none, (.op (.mv (.c .nils))), []⟩]) (.seq (.sub 0 k75_0.er [1] o75_0) (.seq (.seq (.reg [⟨(some 8), none, (.op (.mv (.t 1))), []⟩, ⟨(some 9), none, (.op (.mv (.t 0))), []⟩, ⟨(some 10), none, (.op (.capL (.t 9))), []⟩, ⟨(some 11), none, (.op (.mv (.t 0))), []⟩, ⟨(some 12), none, (.op (.lenL (.t 11))), []⟩, ⟨(some 13), none, (.op (.bin .sub (.t 10) (.t 12))), []⟩, ⟨(some 14), none, (.op (.bin .sub (.t 8) (.t 13))), []⟩, ⟨(some 1), none, (.op (.mv (.t 14))), []⟩]) (.seq (.reg [⟨(some 15), none, (.op (.mv (.t 1))), []⟩, ⟨(some 16), none, (.op (.bin .gtr (.t 15) (.c (.int .i64 0)))), []⟩]) (.cond (.t 16) (.reg [⟨(some 17), none, (.op (.mv (.t 0))), []⟩, ⟨(some 18), none, (.op (.mv (.t 0))), []⟩, ⟨(some 19), none, (.op (.capL (.t 18))), []⟩, ⟨(some 20), none, (.op (.slcL 1 (.t 17) none (some (.t 19)) none)), []⟩, ⟨(some 21), none, (.op (.mv (.t 1))), []⟩, ⟨(some 22), none, (.op (.appZ 1 1 .nilp (.t 20) (.t 21))), []⟩, ⟨(some 23), none, (.op (.mv (.t 0))), []⟩, ⟨(some 24), none, (.op (.lenL (.t 23))), []⟩, ⟨(some 25), none, (.op (.slcL 1 (.t 22) none (some (.t 24)) none)), []⟩, ⟨(some 0), none, (.op (.mv (.t 25))), []⟩]) .skip))) (.seq (.reg [⟨(some 26), none, (.op (.mv (.t 0))), []⟩, ⟨(some 4), none, (.op (.mv (.t 26))), []⟩]) .ret))))
noncomputable def F75 (lf : Nat) (s : V) (n_ : Int) (h : List Ob) : Option (V × List Ob) :=
bind3 (S75_0 lf n_ h) fun ex vs h_ =>
cB (decide (ex = .normal)) (
castNil vs (
bind1 (er (.capL (.c s)) h_) fun v =>
castInt .i64 v fun x10 =>
bind1 (er (.lenL (.c s)) h_) fun v1 =>
castInt .i64 v1 fun x12 =>
cB (decide ((IntKind.i64.wrap (n_ - (IntKind.i64.wrap (x10 - x12)))) > (0))) (
bind1 (er (.capL (.c s)) h_) fun v2 =>
castInt .i64 v2 fun x19 =>
bind1 (er (.slcL 1 (.c s) none (some (.c (.int .i64 x19))) none) h_) fun x20 =>
bind2 (ev (.appZ 1 1 .nilp (.c x20) (.c (.int .i64 (IntKind.i64.wrap (n_ - (IntKind.i64.wrap (x10 - x12))))))) h_) fun x22 h_1 =>
bind1 (er (.lenL (.c s)) h_1) fun v3 =>
castInt .i64 v3 fun x24 =>
bind1 (er (.slcL 1 (.c x22) none (some (.c (.int .i64 x24))) none) h_1) fun x25 =>
some (x25, h_1)) (
some (s, h_)))) (
none)
theorem F75_eq (lf : Nat) (s : V) (n_ : Int) (h : List Ob) : evCK A75 ⟨call75 lf, cvN, subC 0 (w75_0 (S75_0 lf)) (subN)⟩ k75 (entryK [s, (.int .i64 n_)]) h (endF c75.res) = F75 lf s n_ h := by kernel_rfl
theorem F75_ok (lf : Nat) (s : V) (n_ : Int) (h : List Ob) (r_ : V) (h_r : List Ob) (e_ : F75 lf s n_ h = some (r_, h_r)) : CD Go.Proofs.Try.prog 75 [s, (.int .i64 n_)] h r_ h_r :=
  CD.ofK (A := A75) (σ := ⟨call75 lf, cvN, subC 0 (w75_0 (S75_0 lf)) (subN)⟩) (c := k75) Go.Proofs.Try.func75 ok75 en75 (show 2 ≤ 27 by decide) (by kernel_rfl) (call75_ok lf) cvN_ok (And.intro True.intro (And.intro (S75_0_ok lf) (And.intro (And.intro True.intro (And.intro True.intro (And.intro True.intro True.intro))) (And.intro True.intro True.intro)))) ((F75_eq lf s n_ h).trans e_)
def w75 (f : V → Int → List Ob → Option (V × List Ob)) (vs : List V) (h : List Ob) : Option (V × List Ob) := castCons vs fun c1 l1 => castCons l1 fun c2 l2 => castInt .i64 c2 fun n3 => castNil l2 (f c1 n3 h)
noncomputable def W75 (lf : Nat) : List V → List Ob → Option (V × List Ob) := w75 (F75 lf)
theorem W75_ok (lf : Nat) : ∀ args h v h', W75 lf args h = some (v, h') → CD Go.Proofs.Try.prog 75 args h v h' := by
  intro vs h r h' e0
  simp only [W75, w75] at e0
  obtain ⟨c1, l1, rfl, e1⟩ := castCons_inv e0
  obtain ⟨c2, l2, rfl, e2⟩ := castCons_inv e1
  obtain ⟨y1, rfl, e3⟩ := castInt_inv e2
  obtain ⟨rfl, e4⟩ := castNil_inv e3
  have e := e4
  exact F75_ok lf c1 y1 h r h' e

/-! 54: slices.Concat[[]byte,byte] -/
def A54 : List (Nat × Sh) := [(3, (.int .i64)), (10, (.int .i64)), (11, (.int .i64)), (12, .bool), (15, (.int .i64)), (17, (.int .i64)), (18, (.int .i64)), (19, (.int .i64)), (20, .bool), (22, (.int .i64)), (23, (.int .i64)), (26, (.int .i64)), (27, (.int .i64)), (28, .bool), (34, (.int .i64))]
noncomputable def call54 (lf : Nat) : CallS := callC 75 (W75 lf) (callN)
theorem call54_ok (lf : Nat) : CallOk Go.Proofs.Try.prog (call54 lf) := callC_ok (W75_ok lf) (callN_ok)
def o54_0 : Outs := [((.exit 0), [3], [(.int .i64)])]
def k54_0 : KC := (.seq (.reg [⟨(some 12), none, (.op (.bin .lss (.t 11) (.t 10))), []⟩]) (.seq (.cond (.t 12) .skip (.exit 0)) (.seq (.block 1 (.seq (.reg [⟨(some 13), none, (.op (.iaddrL 1 (.t 9) (.t 11))), []⟩, ⟨(some 14), none, (.op (.load1 (.t 13))), []⟩, ⟨(some 5), none, (.op (.mv (.t 14))), []⟩]) (.seq (.reg [⟨(some 15), none, (.op (.mv (.t 3))), []⟩, ⟨(some 16), none, (.op (.mv (.t 5))), []⟩, ⟨(some 17), none, (.op (.lenL (.t 16))), []⟩, ⟨(some 18), none, (.op (.bin .add (.t 15) (.t 17))), []⟩, ⟨(some 3), none, (.op (.mv (.t 18))), []⟩]) (.seq (.reg [⟨(some 19), none, (.op (.mv (.t 3))), []⟩, ⟨(some 20), none, (.op (.bin .lss (.t 19) (.c (.int .i64 0)))), []⟩]) (.cond (.t 20) (.reg [⟨(some 21), none, .bad, []⟩, ⟨none, none, .bad, []⟩]) .skip))))) (.reg [⟨(some 22), none, (.op (.bin .add (.t 11) (.c (.int .i64 1)))), []⟩, ⟨(some 11), none, (.op (.mv (.t 22))), []⟩]))))
def w54_0 (f : Int → V → Int → Int → List Ob → SubR) (vs : List V) (h : List Ob) : SubR := castCons vs fun c1 l1 => castInt .i64 c1 fun n2 => castCons l1 fun c3 l3 => castCons l3 fun c4 l4 => castInt .i64 c4 fun n5 => castCons l4 fun c6 l6 => castInt .i64 c6 fun n7 => castNil l6 (f n2 c3 n5 n7 h)
noncomputable def B54_0 (lf : Nat) (self : Int → V → Int → Int → List Ob → SubR) (size : Int) (x9 : V) (x10 : Int) (x11 : Int) (h : List Ob) : SubR :=
cB (decide (x11 < x10)) (
bind1 (er (.iaddrL 1 (.c x9) (.c (.int .i64 x11))) h) fun x13 =>
bind1 (er (.load1 (.c x13)) h) fun x14 =>
bind1 (er (.lenL (.c x14)) h) fun v =>
castInt .i64 v fun x17 =>
cB (decide ((IntKind.i64.wrap (size + x17)) < (0))) (
none) (
self (IntKind.i64.wrap (size + x17)) x9 x10 (IntKind.i64.wrap (x11 + (1))) h)) (
some ((.exit 0), [(.int .i64 size)], h))
noncomputable def L54_0 (lf : Nat) : Nat → Int → V → Int → Int → List Ob → SubR
  | 0 => fun _ _ _ _ _ => none
  | n + 1 => B54_0 lf (L54_0 lf n)
theorem B54_0_eq (lf : Nat) (self : Int → V → Int → Int → List Ob → SubR) (size : Int) (x9 : V) (x10 : Int) (x11 : Int) (h : List Ob) : evCK A54 ⟨call54 lf, cvN, subN⟩ k54_0 [(3, (.int .i64 size)), (9, x9), (10, (.int .i64 x10)), (11, (.int .i64 x11))] h (endL [3, 9, 10, 11] [(.int .i64), .any, (.int .i64), (.int .i64)] o54_0 (w54_0 self)) = B54_0 lf self size x9 x10 x11 h := by kernel_rfl
theorem L54_0_ok (lf : Nat) : ∀ n, SubOk Go.Proofs.Try.prog (.loop k54_0.er) [3, 9, 10, 11] o54_0 (w54_0 (L54_0 lf n)) := by
  refine SubOk.loop (A := A54) (σ := ⟨call54 lf, cvN, subN⟩) (c := k54_0) (shs := [(.int .i64), .any, (.int .i64), (.int .i64)]) (G := fun n => w54_0 (L54_0 lf n)) (call54_ok lf) cvN_ok (And.intro True.intro (And.intro (And.intro True.intro True.intro) (And.intro (And.intro True.intro (And.intro True.intro (And.intro True.intro (And.intro True.intro True.intro)))) True.intro))) ?_ ?_
  · intro vs h r e0
    simp only [w54_0] at e0
    obtain ⟨c1, l1, rfl, e1⟩ := castCons_inv e0
    obtain ⟨y0, rfl, e2⟩ := castInt_inv e1
    obtain ⟨c2, l2, rfl, e3⟩ := castCons_inv e2
    obtain ⟨c3, l3, rfl, e4⟩ := castCons_inv e3
    obtain ⟨y2, rfl, e5⟩ := castInt_inv e4
    obtain ⟨c4, l4, rfl, e6⟩ := castCons_inv e5
    obtain ⟨y3, rfl, e7⟩ := castInt_inv e6
    obtain ⟨rfl, e8⟩ := castNil_inv e7
    have e := e8
    cases e
  · intro n vs h r e0
    simp only [w54_0] at e0
    obtain ⟨c1, l1, rfl, e1⟩ := castCons_inv e0
    obtain ⟨y0, rfl, e2⟩ := castInt_inv e1
    obtain ⟨c2, l2, rfl, e3⟩ := castCons_inv e2
    obtain ⟨c3, l3, rfl, e4⟩ := castCons_inv e3
    obtain ⟨y2, rfl, e5⟩ := castInt_inv e4
    obtain ⟨c4, l4, rfl, e6⟩ := castCons_inv e5
    obtain ⟨y3, rfl, e7⟩ := castInt_inv e6
    obtain ⟨rfl, e8⟩ := castNil_inv e7
    have e := e8
    exact (B54_0_eq lf (L54_0 lf n) y0 c2 y2 y3 h).trans e
def o54_1 : Outs := [((.exit 2), [6], [.any])]
def k54_1 : KC := (.seq (.reg [⟨(some 28), none, (.op (.bin .lss (.t 27) (.t 26))), []⟩]) (.seq (.cond (.t 28) .skip (.exit 2)) (.seq (.block 3 (.seq (.reg [⟨(some 29), none, (.op (.iaddrL 1 (.t 25) (.t 27))), []⟩, ⟨(some 30), none, (.op (.load1 (.t 29))), []⟩, ⟨(some 8), none, (.op (.mv (.t 30))), []⟩]) (.reg [⟨(some 31), none, (.op (.mv (.t 6))), []⟩, ⟨(some 32), none, (.op (.mv (.t 8))), []⟩, ⟨(some 33), none, (.op (.app 1 1 (.t 31) (.t 32))), []⟩, ⟨(some 6), none, (.op (.mv (.t 33))), []⟩]))) (.reg [⟨(some 34), none, (.op (.bin .add (.t 27) (.c (.int .i64 1)))), []⟩, ⟨(some 27), none, (.op (.mv (.t 34))), []⟩]))))
def w54_1 (f : V → V → Int → Int → List Ob → SubR) (vs : List V) (h : List Ob) : SubR := castCons vs fun c1 l1 => castCons l1 fun c2 l2 => castCons l2 fun c3 l3 => castInt .i64 c3 fun n4 => castCons l3 fun c5 l5 => castInt .i64 c5 fun n6 => castNil l5 (f c1 c2 n4 n6 h)
noncomputable def B54_1 (lf : Nat) (self : V → V → Int → Int → List Ob → SubR) (newslice : V) (x25 : V) (x26 : Int) (x27 : Int) (h : List Ob) : SubR :=
cB (decide (x27 < x26)) (
bind1 (er (.iaddrL 1 (.c x25) (.c (.int .i64 x27))) h) fun x29 =>
bind1 (er (.load1 (.c x29)) h) fun x30 =>
bind2 (ev (.app 1 1 (.c newslice) (.c x30)) h) fun x33 h_ =>
self x33 x25 x26 (IntKind.i64.wrap (x27 + (1))) h_) (
some ((.exit 2), [newslice], h))
noncomputable def L54_1 (lf : Nat) : Nat → V → V → Int → Int → List Ob → SubR
  | 0 => fun _ _ _ _ _ => none
  | n + 1 => B54_1 lf (L54_1 lf n)
theorem B54_1_eq (lf : Nat) (self : V → V → Int → Int → List Ob → SubR) (newslice : V) (x25 : V) (x26 : Int) (x27 : Int) (h : List Ob) : evCK A54 ⟨call54 lf, cvN, subN⟩ k54_1 [(6, newslice), (25, x25), (26, (.int .i64 x26)), (27, (.int .i64 x27))] h (endL [6, 25, 26, 27] [.any, .any, (.int .i64), (.int .i64)] o54_1 (w54_1 self)) = B54_1 lf self newslice x25 x26 x27 h := by kernel_rfl
theorem L54_1_ok (lf : Nat) : ∀ n, SubOk Go.Proofs.Try.prog (.loop k54_1.er) [6, 25, 26, 27] o54_1 (w54_1 (L54_1 lf n)) := by
  refine SubOk.loop (A := A54) (σ := ⟨call54 lf, cvN, subN⟩) (c := k54_1) (shs := [.any, .any, (.int .i64), (.int .i64)]) (G := fun n => w54_1 (L54_1 lf n)) (call54_ok lf) cvN_ok (And.intro True.intro (And.intro (And.intro True.intro True.intro) (And.intro (And.intro True.intro True.intro) True.intro))) ?_ ?_
  · intro vs h r e0
    simp only [w54_1] at e0
    obtain ⟨c1, l1, rfl, e1⟩ := castCons_inv e0
    obtain ⟨c2, l2, rfl, e2⟩ := castCons_inv e1
    obtain ⟨c3, l3, rfl, e3⟩ := castCons_inv e2
    obtain ⟨y2, rfl, e4⟩ := castInt_inv e3
    obtain ⟨c4, l4, rfl, e5⟩ := castCons_inv e4
    obtain ⟨y3, rfl, e6⟩ := castInt_inv e5
    obtain ⟨rfl, e7⟩ := castNil_inv e6
    have e := e7
    cases e
  · intro n vs h r e0
    simp only [w54_1] at e0
    obtain ⟨c1, l1, rfl, e1⟩ := castCons_inv e0
    obtain ⟨c2, l2, rfl, e2⟩ := castCons_inv e1
    obtain ⟨c3, l3, rfl, e3⟩ := castCons_inv e2
    obtain ⟨y2, rfl, e4⟩ := castInt_inv e3
    obtain ⟨c4, l4, rfl, e5⟩ := castCons_inv e4
    obtain ⟨y3, rfl, e6⟩ := castInt_inv e5
    obtain ⟨rfl, e7⟩ := castNil_inv e6
    have e := e7
    exact (B54_1_eq lf (L54_1 lf n) c1 c2 y2 y3 h).trans e
def k54 : KC := (.seq (.reg [⟨(some 2), none, (.op (.mv (.c .nils))), []⟩]) (.seq (.reg [⟨(some 3), none, (.op (.mv (.c (.int .i64 0)))), []⟩]) (.seq (.seq (.reg [⟨(some 9), none, (.op (.mv (.t 0))), []⟩, ⟨(some 10), none, (.op (.lenL (.t 9))), []⟩, ⟨(some 11), none, (.op (.mv (.c (.int .i64 0)))), []⟩]) (.block 0 (.sub 0 (.loop k54_0.er) [3, 9, 10, 11] o54_0))) (.seq (.reg [⟨(some 23), none, (.op (.mv (.t 3))), []⟩, ⟨(some 24), none, (.call 75 [(.c .nils), (.t 23)]), []⟩, ⟨(some 6), none, (.op (.mv (.t 24))), []⟩]) (.seq (.seq (.reg [⟨(some 25), none, (.op (.mv (.t 0))), []⟩, ⟨(some 26), none, (.op (.lenL (.t 25))), []⟩, ⟨(some 27), none, (.op (.mv (.c (.int .i64 0)))), []⟩]) (.block 2 (.sub 1 (.loop k54_1.er) [6, 25, 26, 27] o54_1))) (.seq (.reg [⟨(some 35), none, (.op (.mv (.t 6))), []⟩, ⟨(some 2), none, (.op (.mv (.t 35))), []⟩]) .ret))))))
noncomputable def F54 (lf : Nat) (slices : V) (h : List Ob) : Option (V × List Ob) :=
bind1 (er (.lenL (.c slices)) h) fun v =>
castInt .i64 v fun x10 =>
bind3 (L54_0 lf lf (0) slices x10 (0) h) fun ex vs h_ =>
cB (decide (ex = (.exit 0))) (
castCons vs fun c l =>
castInt .i64 c fun size =>
castNil l (
bind2 (F75 lf V.nils size h_) fun x24 h_1 =>
bind1 (er (.lenL (.c slices)) h_1) fun v1 =>
castInt .i64 v1 fun x26 =>
bind3 (L54_1 lf lf x24 slices x26 (0) h_1) fun ex1 vs1 h_2 =>
cB (decide (ex1 = (.exit 2))) (
castCons vs1 fun newslice l1 =>
castNil l1 (
some (newslice, h_2))) (
none))) (
none)
theorem F54_eq (lf : Nat) (slices : V) (h : List Ob) : evCK A54 ⟨call54 lf, cvN, subC 1 (w54_1 (L54_1 lf lf)) (subC 0 (w54_0 (L54_0 lf lf)) (subN))⟩ k54 (entryK [slices]) h (endF c54.res) = F54 lf slices h := by kernel_rfl
theorem F54_ok (lf : Nat) (slices : V) (h : List Ob) (r_ : V) (h_r : List Ob) (e_ : F54 lf slices h = some (r_, h_r)) : CD Go.Proofs.Try.prog 54 [slices] h r_ h_r :=
  CD.ofK (A := A54) (σ := ⟨call54 lf, cvN, subC 1 (w54_1 (L54_1 lf lf)) (subC 0 (w54_0 (L54_0 lf lf)) (subN))⟩) (c := k54) Go.Proofs.Try.func54 ok54 en54 (show 1 ≤ 36 by decide) (by kernel_rfl) (call54_ok lf) cvN_ok (And.intro True.intro (And.intro True.intro (And.intro (And.intro True.intro (L54_0_ok lf lf)) (And.intro True.intro (And.intro (And.intro True.intro (L54_1_ok lf lf)) (And.intro True.intro True.intro)))))) ((F54_eq lf slices h).trans e_)
def w54 (f : V → List Ob → Option (V × List Ob)) (vs : List V) (h : List Ob) : Option (V × List Ob) := castCons vs fun c1 l1 => castNil l1 (f c1 h)
noncomputable def W54 (lf : Nat) : List V → List Ob → Option (V × List Ob) := w54 (F54 lf)
theorem W54_ok (lf : Nat) : ∀ args h v h', W54 lf args h = some (v, h') → CD Go.Proofs.Try.prog 54 args h v h' := by
  intro vs h r h' e0
  simp only [W54, w54] at e0
  obtain ⟨c1, l1, rfl, e1⟩ := castCons_inv e0
  obtain ⟨rfl, e2⟩ := castNil_inv e1
  have e := e2
  exact F54_ok lf c1 h r h' e

/-! 26: wainscot/varint.Append -/
def A26 : List (Nat × Sh) := [(1, (.int .u64)), (6, (.int .i64)), (7, (.int .i64)), (8, (.int .u64)), (9, (.int .u64)), (10, (.int .u8)), (12, (.int .u64)), (13, (.int .u64)), (14, (.int .u64)), (15, .bool), (16, (.int .u64)), (17, (.int .u64)), (18, (.int .i64)), (19, (.int .i64)), (20, (.int .i64)), (21, (.int .u64)), (22, (.int .u8)), (23, (.int .u8)), (26, (.int .i64))]
noncomputable def call26 (lf : Nat) : CallS := callC 54 (W54 lf) (callN)
theorem call26_ok (lf : Nat) : CallOk Go.Proofs.Try.prog (call26 lf) := callC_ok (W54_ok lf) (callN_ok)
def o26_0 : Outs := [((.exit 0), [6], [(.int .i64)])]
def k26_0 : KC := (.seq (.seq (.reg [⟨(some 14), none, (.op (.mv (.t 1))), []⟩, ⟨(some 15), none, (.op (.bin .gtr (.t 14) (.c (.int .u64 0)))), []⟩]) (.cond (.t 15) .skip (.exit 0))) (.seq (.block 1 (.seq (.reg [⟨(some 18), none, (.op (.mv (.t 6))), []⟩, ⟨(some 19), none, (.op (.bin .sub (.t 18) (.c (.int .i64 1)))), []⟩, ⟨(some 6), none, (.op (.mv (.t 19))), []⟩]) (.reg [⟨(some 20), none, (.op (.mv (.t 6))), []⟩, ⟨(some 21), none, (.op (.mv (.t 1))), []⟩, ⟨(some 22), none, (.op (.toInt .u8 (.t 21))), []⟩, ⟨(some 23), none, (.op (.bin .or (.t 22) (.c (.int .u8 128)))), []⟩, ⟨(some 24), none, (.op (.iaddrA 10 1 (.t 5) (.t 20))), []⟩, ⟨none, none, (.op (.store 1 (.t 24) (.t 23))), []⟩]))) (.reg [⟨(some 16), none, (.op (.mv (.t 1))), []⟩, ⟨(some 17), none, (.op (.bin .shr (.t 16) (.c (.int .u64 7)))), []⟩, ⟨(some 1), none, (.op (.mv (.t 17))), []⟩])))
def w26_0 (f : Int → V → Int → List Ob → SubR) (vs : List V) (h : List Ob) : SubR := castCons vs fun c1 l1 => castInt .u64 c1 fun n2 => castCons l1 fun c3 l3 => castCons l3 fun c4 l4 => castInt .i64 c4 fun n5 => castNil l4 (f n2 c3 n5 h)
noncomputable def B26_0 (lf : Nat) (self : Int → V → Int → List Ob → SubR) (n_ : Int) (tail : V) (at_ : Int) (h : List Ob) : SubR :=
cB (decide (n_ > (0))) (
bind1 (er (.iaddrA 10 1 (.c tail) (.c (.int .i64 (IntKind.i64.wrap (at_ - (1)))))) h) fun x24 =>
bind2 (ev (.store 1 (.c x24) (.c (.int .u8 (bits .or .u8 (IntKind.u8.wrap n_) (128))))) h) fun u h_ =>
self (Int.fdiv n_ (2 ^ 7)) tail (IntKind.i64.wrap (at_ - (1))) h_) (
some ((.exit 0), [(.int .i64 at_)], h))
noncomputable def L26_0 (lf : Nat) : Nat → Int → V → Int → List Ob → SubR
  | 0 => fun _ _ _ _ => none
  | n + 1 => B26_0 lf (L26_0 lf n)
theorem B26_0_eq (lf : Nat) (self : Int → V → Int → List Ob → SubR) (n_ : Int) (tail : V) (at_ : Int) (h : List Ob) : evCK A26 ⟨call26 lf, cvN, subN⟩ k26_0 [(1, (.int .u64 n_)), (5, tail), (6, (.int .i64 at_))] h (endL [1, 5, 6] [(.int .u64), .any, (.int .i64)] o26_0 (w26_0 self)) = B26_0 lf self n_ tail at_ h := by kernel_rfl
theorem L26_0_ok (lf : Nat) : ∀ n, SubOk Go.Proofs.Try.prog (.loop k26_0.er) [1, 5, 6] o26_0 (w26_0 (L26_0 lf n)) := by
  refine SubOk.loop (A := A26) (σ := ⟨call26 lf, cvN, subN⟩) (c := k26_0) (shs := [(.int .u64), .any, (.int .i64)]) (G := fun n => w26_0 (L26_0 lf n)) (call26_ok lf) cvN_ok (And.intro (And.intro True.intro (And.intro True.intro True.intro)) (And.intro (And.intro True.intro True.intro) True.intro)) ?_ ?_
  · intro vs h r e0
    simp only [w26_0] at e0
    obtain ⟨c1, l1, rfl, e1⟩ := castCons_inv e0
    obtain ⟨y0, rfl, e2⟩ := castInt_inv e1
    obtain ⟨c2, l2, rfl, e3⟩ := castCons_inv e2
    obtain ⟨c3, l3, rfl, e4⟩ := castCons_inv e3
    obtain ⟨y2, rfl, e5⟩ := castInt_inv e4
    obtain ⟨rfl, e6⟩ := castNil_inv e5
    have e := e6
    cases e
  · intro n vs h r e0
    simp only [w26_0] at e0
    obtain ⟨c1, l1, rfl, e1⟩ := castCons_inv e0
    obtain ⟨y0, rfl, e2⟩ := castInt_inv e1
    obtain ⟨c2, l2, rfl, e3⟩ := castCons_inv e2
    obtain ⟨c3, l3, rfl, e4⟩ := castCons_inv e3
    obtain ⟨y2, rfl, e5⟩ := castInt_inv e4
    obtain ⟨rfl, e6⟩ := castNil_inv e5
    have e := e6
    exact (B26_0_eq lf (L26_0 lf n) y0 c2 y2 h).trans e
def k26 : KC := (.seq (.reg [⟨(some 4), none, (.op (.mv (.c .nils))), []⟩]) (.seq (.reg [⟨(some 5), none, (.op (.alloc true (.agg [(.int .u8 0), (.int .u8 0), (.int .u8 0), (.int .u8 0), (.int .u8 0), (.int .u8 0), (.int .u8 0), (.int .u8 0), (.int .u8 0), (.int .u8 0)]))), []⟩]) (.seq (.reg [⟨(some 6), none, (.op (.mv (.c (.int .i64 9)))), []⟩]) (.seq (.reg [⟨(some 7), none, (.op (.mv (.t 6))), []⟩, ⟨(some 8), none, (.op (.mv (.t 1))), []⟩, ⟨(some 9), none, (.op (.bin .and (.t 8) (.c (.int .u64 127)))), []⟩, ⟨(some 10), none, (.op (.toInt .u8 (.t 9))), []⟩, ⟨(some 11), none, (.op (.iaddrA 10 1 (.t 5) (.t 7))), []⟩, ⟨none, none, (.op (.store 1 (.t 11) (.t 10))), []⟩]) (.seq (.seq (.reg [⟨(some 12), none, (.op (.mv (.t 1))), []⟩, ⟨(some 13), none, (.op (.bin .shr (.t 12) (.c (.int .u64 7)))), []⟩, ⟨(some 1), none, (.op (.mv (.t 13))), []⟩]) (.block 0 (.sub 0 (.loop k26_0.er) [1, 5, 6] o26_0))) (.seq (.reg [⟨(some 25), none, (.op (.mv (.t 0))), []⟩, ⟨(some 26), none, (.op (.mv (.t 6))), []⟩, ⟨(some 27), none, (.op (.slcA 10 1 (.t 5) (some (.t 26)) none)), []⟩, ⟨(some 28), none, (.op (.bslice 1 .nils 2 [(0, (.t 25)), (1, (.t 27))])), []⟩, ⟨(some 29), none, (.call 54 [(.t 28)]), []⟩, ⟨(some 4), none, (.op (.mv (.t 29))), []⟩]) .ret))))))
noncomputable def F26 (lf : Nat) (b : V) (n_ : Int) (h : List Ob) : Option (V × List Ob) :=
bind2 (ev (.alloc true (.agg [(.int .u8 0), (.int .u8 0), (.int .u8 0), (.int .u8 0), (.int .u8 0), (.int .u8 0), (.int .u8 0), (.int .u8 0), (.int .u8 0), (.int .u8 0)])) h) fun tail h_ =>
bind1 (er (.iaddrA 10 1 (.c tail) (.c (.int .i64 (9)))) h_) fun x11 =>
bind2 (ev (.store 1 (.c x11) (.c (.int .u8 (IntKind.u8.wrap (bits .and .u64 n_ (127)))))) h_) fun u h_1 =>
bind3 (L26_0 lf lf (Int.fdiv n_ (2 ^ 7)) tail (9) h_1) fun ex vs h_2 =>
cB (decide (ex = (.exit 0))) (
castCons vs fun c l =>
castInt .i64 c fun at_ =>
castNil l (
bind1 (er (.slcA 10 1 (.c tail) (some (.c (.int .i64 at_))) none) h_2) fun x27 =>
bind2 (ev (.bslice 1 .nils 2 [(0, (.c b)), (1, (.c x27))]) h_2) fun x28 h_3 =>
bind2 (F54 lf x28 h_3) fun x29 h_4 =>
some (x29, h_4))) (
none)
theorem F26_eq (lf : Nat) (b : V) (n_ : Int) (h : List Ob) : evCK A26 ⟨call26 lf, cvN, subC 0 (w26_0 (L26_0 lf lf)) (subN)⟩ k26 (entryK [b, (.int .u64 n_)]) h (endF c26.res) = F26 lf b n_ h := by kernel_rfl
theorem F26_ok (lf : Nat) (b : V) (n_ : Int) (h : List Ob) (r_ : V) (h_r : List Ob) (e_ : F26 lf b n_ h = some (r_, h_r)) : CD Go.Proofs.Try.prog 26 [b, (.int .u64 n_)] h r_ h_r :=
  CD.ofK (A := A26) (σ := ⟨call26 lf, cvN, subC 0 (w26_0 (L26_0 lf lf)) (subN)⟩) (c := k26) Go.Proofs.Try.func26 ok26 en26 (show 2 ≤ 30 by decide) (by kernel_rfl) (call26_ok lf) cvN_ok (And.intro True.intro (And.intro True.intro (And.intro True.intro (And.intro True.intro (And.intro (And.intro True.intro (L26_0_ok lf lf)) (And.intro True.intro True.intro)))))) ((F26_eq lf b n_ h).trans e_)
def w26 (f : V → Int → List Ob → Option (V × List Ob)) (vs : List V) (h : List Ob) : Option (V × List Ob) := castCons vs fun c1 l1 => castCons l1 fun c2 l2 => castInt .u64 c2 fun n3 => castNil l2 (f c1 n3 h)
noncomputable def W26 (lf : Nat) : List V → List Ob → Option (V × List Ob) := w26 (F26 lf)
theorem W26_ok (lf : Nat) : ∀ args h v h', W26 lf args h = some (v, h') → CD Go.Proofs.Try.prog 26 args h v h' := by
  intro vs h r h' e0
  simp only [W26, w26] at e0
  obtain ⟨c1, l1, rfl, e1⟩ := castCons_inv e0
  obtain ⟨c2, l2, rfl, e2⟩ := castCons_inv e1
  obtain ⟨y1, rfl, e3⟩ := castInt_inv e2
  obtain ⟨rfl, e4⟩ := castNil_inv e3
  have e := e4
  exact F26_ok lf c1 y1 h r h' e

/-! 27: wainscot/wainscotref01.Number -/
def A27 : List (Nat × Sh) := [(0, (.int .u64)), (4, (.int .u64)), (5, (.int .u64)), (6, (.int .u8)), (8, (.int .u64)), (9, (.int .u64)), (10, (.int .u64)), (11, .bool), (12, (.int .u64)), (13, (.int .u64)), (14, (.int .u64)), (15, (.int .u64)), (16, (.int .u8)), (17, (.int .u8))]
noncomputable def call27 (lf : Nat) : CallS := callN
theorem call27_ok (lf : Nat) : CallOk Go.Proofs.Try.prog (call27 lf) := callN_ok
def o27_0 : Outs := [((.exit 0), [3], [.any])]
def k27_0 : KC := (.seq (.seq (.reg [⟨(some 10), none, (.op (.mv (.t 0))), []⟩, ⟨(some 11), none, (.op (.bin .gtr (.t 10) (.c (.int .u64 0)))), []⟩]) (.cond (.t 11) .skip (.exit 0))) (.seq (.block 1 (.reg [⟨(some 14), none, (.op (.mv (.t 0))), []⟩, ⟨(some 15), none, (.op (.bin .and (.t 14) (.c (.int .u64 127)))), []⟩, ⟨(some 16), none, (.op (.toInt .u8 (.t 15))), []⟩, ⟨(some 17), none, (.op (.bin .or (.t 16) (.c (.int .u8 128)))), []⟩, ⟨(some 18), none, (.op (.bslice 1 (.int .u8 0) 1 [(0, (.t 17))])), []⟩, ⟨(some 19), none, (.op (.mv (.t 3))), []⟩, ⟨(some 20), none, (.op (.app 1 1 (.t 18) (.t 19))), []⟩, ⟨(some 3), none, (.op (.mv (.t 20))), []⟩])) (.reg [⟨(some 12), none, (.op (.mv (.t 0))), []⟩, ⟨(some 13), none, (.op (.bin .shr (.t 12) (.c (.int .u64 7)))), []⟩, ⟨(some 0), none, (.op (.mv (.t 13))), []⟩])))
def w27_0 (f : Int → V → List Ob → SubR) (vs : List V) (h : List Ob) : SubR := castCons vs fun c1 l1 => castInt .u64 c1 fun n2 => castCons l1 fun c3 l3 => castNil l3 (f n2 c3 h)
noncomputable def B27_0 (lf : Nat) (self : Int → V → List Ob → SubR) (n_ : Int) (out : V) (h : List Ob) : SubR :=
cB (decide (n_ > (0))) (
bind2 (ev (.bslice 1 (.int .u8 0) 1 [(0, (.c (.int .u8 (bits .or .u8 (IntKind.u8.wrap (bits .and .u64 n_ (127))) (128)))))]) h) fun x18 h_ =>
bind2 (ev (.app 1 1 (.c x18) (.c out)) h_) fun x20 h_1 =>
self (Int.fdiv n_ (2 ^ 7)) x20 h_1) (
some ((.exit 0), [out], h))
noncomputable def L27_0 (lf : Nat) : Nat → Int → V → List Ob → SubR
  | 0 => fun _ _ _ => none
  | n + 1 => B27_0 lf (L27_0 lf n)
theorem B27_0_eq (lf : Nat) (self : Int → V → List Ob → SubR) (n_ : Int) (out : V) (h : List Ob) : evCK A27 ⟨call27 lf, cvN, subN⟩ k27_0 [(0, (.int .u64 n_)), (3, out)] h (endL [0, 3] [(.int .u64), .any] o27_0 (w27_0 self)) = B27_0 lf self n_ out h := by kernel_rfl
theorem L27_0_ok (lf : Nat) : ∀ n, SubOk Go.Proofs.Try.prog (.loop k27_0.er) [0, 3] o27_0 (w27_0 (L27_0 lf n)) := by
  refine SubOk.loop (A := A27) (σ := ⟨call27 lf, cvN, subN⟩) (c := k27_0) (shs := [(.int .u64), .any]) (G := fun n => w27_0 (L27_0 lf n)) (call27_ok lf) cvN_ok (And.intro (And.intro True.intro (And.intro True.intro True.intro)) (And.intro True.intro True.intro)) ?_ ?_
  · intro vs h r e0
    simp only [w27_0] at e0
    obtain ⟨c1, l1, rfl, e1⟩ := castCons_inv e0
    obtain ⟨y0, rfl, e2⟩ := castInt_inv e1
    obtain ⟨c2, l2, rfl, e3⟩ := castCons_inv e2
    obtain ⟨rfl, e4⟩ := castNil_inv e3
    have e := e4
    cases e
  · intro n vs h r e0
    simp only [w27_0] at e0
    obtain ⟨c1, l1, rfl, e1⟩ := castCons_inv e0
    obtain ⟨y0, rfl, e2⟩ := castInt_inv e1
    obtain ⟨c2, l2, rfl, e3⟩ := castCons_inv e2
    obtain ⟨rfl, e4⟩ := castNil_inv e3
    have e := e4
    exact (B27_0_eq lf (L27_0 lf n) y0 c2 h).trans e
def k27 : KC := (.seq (.reg [⟨(some 2), none, (.op (.mv (.c .nils))), []⟩]) (.seq (.reg [⟨(some 4), none, (.op (.mv (.t 0))), []⟩, ⟨(some 5), none, (.op (.bin .and (.t 4) (.c (.int .u64 127)))), []⟩, ⟨(some 6), none, (.op (.toInt .u8 (.t 5))), []⟩, ⟨(some 7), none, (.op (.bslice 1 (.int .u8 0) 1 [(0, (.t 6))])), []⟩, ⟨(some 3), none, (.op (.mv (.t 7))), []⟩]) (.seq (.seq (.reg [⟨(some 8), none, (.op (.mv (.t 0))), []⟩, ⟨(some 9), none, (.op (.bin .shr (.t 8) (.c (.int .u64 7)))), []⟩, ⟨(some 0), none, (.op (.mv (.t 9))), []⟩]) (.block 0 (.sub 0 (.loop k27_0.er) [0, 3] o27_0))) (.seq (.reg [⟨(some 21), none, (.op (.mv (.t 3))), []⟩, ⟨(some 2), none, (.op (.mv (.t 21))), []⟩]) .ret))))
noncomputable def F27 (lf : Nat) (n_ : Int) (h : List Ob) : Option (V × List Ob) :=
bind2 (ev (.bslice 1 (.int .u8 0) 1 [(0, (.c (.int .u8 (IntKind.u8.wrap (bits .and .u64 n_ (127))))))]) h) fun x7 h_ =>
bind3 (L27_0 lf lf (Int.fdiv n_ (2 ^ 7)) x7 h_) fun ex vs h_1 =>
cB (decide (ex = (.exit 0))) (
castCons vs fun out l =>
castNil l (
some (out, h_1))) (
none)
theorem F27_eq (lf : Nat) (n_ : Int) (h : List Ob) : evCK A27 ⟨call27 lf, cvN, subC 0 (w27_0 (L27_0 lf lf)) (subN)⟩ k27 (entryK [(.int .u64 n_)]) h (endF c27.res) = F27 lf n_ h := by kernel_rfl
theorem F27_ok (lf : Nat) (n_ : Int) (h : List Ob) (r_ : V) (h_r : List Ob) (e_ : F27 lf n_ h = some (r_, h_r)) : CD Go.Proofs.Try.prog 27 [(.int .u64 n_)] h r_ h_r :=
  CD.ofK (A := A27) (σ := ⟨call27 lf, cvN, subC 0 (w27_0 (L27_0 lf lf)) (subN)⟩) (c := k27) Go.Proofs.Try.func27 ok27 en27 (show 1 ≤ 22 by decide) (by kernel_rfl) (call27_ok lf) cvN_ok (And.intro True.intro (And.intro True.intro (And.intro (And.intro True.intro (L27_0_ok lf lf)) (And.intro True.intro True.intro)))) ((F27_eq lf n_ h).trans e_)
def w27 (f : Int → List Ob → Option (V × List Ob)) (vs : List V) (h : List Ob) : Option (V × List Ob) := castCons vs fun c1 l1 => castInt .u64 c1 fun n2 => castNil l1 (f n2 h)
noncomputable def W27 (lf : Nat) : List V → List Ob → Option (V × List Ob) := w27 (F27 lf)
theorem W27_ok (lf : Nat) : ∀ args h v h', W27 lf args h = some (v, h') → CD Go.Proofs.Try.prog 27 args h v h' := by
  intro vs h r h' e0
  simp only [W27, w27] at e0
  obtain ⟨c1, l1, rfl, e1⟩ := castCons_inv e0
  obtain ⟨y0, rfl, e2⟩ := castInt_inv e1
  obtain ⟨rfl, e3⟩ := castNil_inv e2
  have e := e3
  exact F27_ok lf y0 h r h' e

/-! 28: wainscot/wainscotref01.Signed -/
def A28 : List (Nat × Sh) := [(0, (.int .i64)), (3, (.int .i64)), (4, .bool), (5, (.int .i64)), (6, (.int .i64)), (7, (.int .i64)), (8, (.int .u64)), (9, (.int .u64)), (10, (.int .u64)), (12, (.int .i64)), (13, (.int .u64)), (14, (.int .u64))]
noncomputable def call28 (lf : Nat) : CallS := callC 27 (W27 lf) (callN)
theorem call28_ok (lf : Nat) : CallOk Go.Proofs.Try.prog (call28 lf) := callC_ok (W27_ok lf) (callN_ok)
def k28 : KC := (.seq (.reg [⟨(some 2), none, (.op (.mv (.c .nils))), []⟩]) (.seq (.seq (.reg [⟨(some 3), none, (.op (.mv (.t 0))), []⟩, ⟨(some 4), none, (.op (.bin .lss (.t 3) (.c (.int .i64 0)))), []⟩]) (.cond (.t 4) (.seq (.reg [⟨(some 5), none, (.op (.mv (.t 0))), []⟩, ⟨(some 6), none, (.op (.bin .add (.t 5) (.c (.int .i64 1)))), []⟩, ⟨(some 7), none, (.op (.un .neg (.t 6))), []⟩, ⟨(some 8), none, (.op (.toInt .u64 (.t 7))), []⟩, ⟨(some 9), none, (.op (.bin .mul (.t 8) (.c (.int .u64 2)))), []⟩, ⟨(some 10), none, (.op (.bin .add (.t 9) (.c (.int .u64 1)))), []⟩, ⟨(some 11), none, (.call 27 [(.t 10)]), []⟩, ⟨(some 2), none, (.op (.mv (.t 11))), []⟩]) .ret) .skip)) (.seq (.reg [⟨(some 12), none, (.op (.mv (.t 0))), []⟩, ⟨(some 13), none, (.op (.toInt .u64 (.t 12))), []⟩, ⟨(some 14), none, (.op (.bin .mul (.t 13) (.c (.int .u64 2)))), []⟩, ⟨(some 15), none, (.call 27 [(.t 14)]), []⟩, ⟨(some 2), none, (.op (.mv (.t 15))), []⟩]) .ret)))
noncomputable def F28 (lf : Nat) (n_ : Int) (h : List Ob) : Option (V × List Ob) :=
cB (decide (n_ < (0))) (
bind2 (F27 lf (IntKind.u64.wrap ((IntKind.u64.wrap ((IntKind.u64.wrap (IntKind.i64.wrap (0 - (IntKind.i64.wrap (n_ + (1)))))) * (2))) + (1))) h) fun x11 h_ =>
some (x11, h_)) (
bind2 (F27 lf (IntKind.u64.wrap ((IntKind.u64.wrap n_) * (2))) h) fun x15 h_ =>
some (x15, h_))
theorem F28_eq (lf : Nat) (n_ : Int) (h : List Ob) : evCK A28 ⟨call28 lf, cvN, subN⟩ k28 (entryK [(.int .i64 n_)]) h (endF c28.res) = F28 lf n_ h := by kernel_rfl
theorem F28_ok (lf : Nat) (n_ : Int) (h : List Ob) (r_ : V) (h_r : List Ob) (e_ : F28 lf n_ h = some (r_, h_r)) : CD Go.Proofs.Try.prog 28 [(.int .i64 n_)] h r_ h_r :=
  CD.ofK (A := A28) (σ := ⟨call28 lf, cvN, subN⟩) (c := k28) Go.Proofs.Try.func28 ok28 en28 (show 1 ≤ 16 by decide) (by kernel_rfl) (call28_ok lf) cvN_ok (And.intro True.intro (And.intro (And.intro True.intro (And.intro (And.intro True.intro True.intro) True.intro)) (And.intro True.intro True.intro))) ((F28_eq lf n_ h).trans e_)
def w28 (f : Int → List Ob → Option (V × List Ob)) (vs : List V) (h : List Ob) : Option (V × List Ob) := castCons vs fun c1 l1 => castInt .i64 c1 fun n2 => castNil l1 (f n2 h)
noncomputable def W28 (lf : Nat) : List V → List Ob → Option (V × List Ob) := w28 (F28 lf)
theorem W28_ok (lf : Nat) : ∀ args h v h', W28 lf args h = some (v, h') → CD Go.Proofs.Try.prog 28 args h v h' := by
  intro vs h r h' e0
  simp only [W28, w28] at e0
  obtain ⟨c1, l1, rfl, e1⟩ := castCons_inv e0
  obtain ⟨y0, rfl, e2⟩ := castInt_inv e1
  obtain ⟨rfl, e3⟩ := castNil_inv e2
  have e := e3
  exact F28_ok lf y0 h r h' e

/-! 29: wainscot/varint.Signed -/
def A29 : List (Nat × Sh) := [(1, (.int .i64)), (6, (.int .i64)), (7, (.int .u64)), (8, (.int .u64)), (9, (.int .i64)), (10, (.int .i64)), (11, (.int .u64)), (12, (.int .u64))]
noncomputable def call29 (lf : Nat) : CallS := callC 26 (W26 lf) (callN)
theorem call29_ok (lf : Nat) : CallOk Go.Proofs.Try.prog (call29 lf) := callC_ok (W26_ok lf) (callN_ok)
def k29 : KC := (.seq (.reg [⟨(some 4), none, (.op (.mv (.c .nils))), []⟩]) (.seq (.reg [⟨(some 5), none, (.op (.mv (.t 0))), []⟩, ⟨(some 6), none, (.op (.mv (.t 1))), []⟩, ⟨(some 7), none, (.op (.toInt .u64 (.t 6))), []⟩, ⟨(some 8), none, (.op (.bin .shl (.t 7) (.c (.int .u64 1)))), []⟩, ⟨(some 9), none, (.op (.mv (.t 1))), []⟩, ⟨(some 10), none, (.op (.bin .shr (.t 9) (.c (.int .u64 63)))), []⟩, ⟨(some 11), none, (.op (.toInt .u64 (.t 10))), []⟩, ⟨(some 12), none, (.op (.bin .xor (.t 8) (.t 11))), []⟩, ⟨(some 13), none, (.call 26 [(.t 5), (.t 12)]), []⟩, ⟨(some 4), none, (.op (.mv (.t 13))), []⟩]) .ret))
noncomputable def F29 (lf : Nat) (b : V) (n_ : Int) (h : List Ob) : Option (V × List Ob) :=
bind2 (F26 lf b (bits .xor .u64 (IntKind.u64.wrap ((IntKind.u64.wrap n_) * 2 ^ 1)) (IntKind.u64.wrap (Int.fdiv n_ (2 ^ 63)))) h) fun x13 h_ =>
some (x13, h_)
theorem F29_eq (lf : Nat) (b : V) (n_ : Int) (h : List Ob) : evCK A29 ⟨call29 lf, cvN, subN⟩ k29 (entryK [b, (.int .i64 n_)]) h (endF c29.res) = F29 lf b n_ h := by kernel_rfl
theorem F29_ok (lf : Nat) (b : V) (n_ : Int) (h : List Ob) (r_ : V) (h_r : List Ob) (e_ : F29 lf b n_ h = some (r_, h_r)) : CD Go.Proofs.Try.prog 29 [b, (.int .i64 n_)] h r_ h_r :=
  CD.ofK (A := A29) (σ := ⟨call29 lf, cvN, subN⟩) (c := k29) Go.Proofs.Try.func29 ok29 en29 (show 2 ≤ 14 by decide) (by kernel_rfl) (call29_ok lf) cvN_ok (And.intro True.intro (And.intro True.intro True.intro)) ((F29_eq lf b n_ h).trans e_)
def w29 (f : V → Int → List Ob → Option (V × List Ob)) (vs : List V) (h : List Ob) : Option (V × List Ob) := castCons vs fun c1 l1 => castCons l1 fun c2 l2 => castInt .i64 c2 fun n3 => castNil l2 (f c1 n3 h)
noncomputable def W29 (lf : Nat) : List V → List Ob → Option (V × List Ob) := w29 (F29 lf)
theorem W29_ok (lf : Nat) : ∀ args h v h', W29 lf args h = some (v, h') → CD Go.Proofs.Try.prog 29 args h v h' := by
  intro vs h r h' e0
  simp only [W29, w29] at e0
  obtain ⟨c1, l1, rfl, e1⟩ := castCons_inv e0
  obtain ⟨c2, l2, rfl, e2⟩ := castCons_inv e1
  obtain ⟨y1, rfl, e3⟩ := castInt_inv e2
  obtain ⟨rfl, e4⟩ := castNil_inv e3
  have e := e4
  exact F29_ok lf c1 y1 h r h' e

end Go.Proofs.Ytdcdmpgigmhhpaa.Va
