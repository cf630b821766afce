/- Functions of the program as Lean functions, and that each call comes to what its function says. Printed by my own tool. No condition. -/
import Derived.Test.YtbjphicipgneaaaLo
import Derived.Test.YtbjphicipgneaaaL3
import Derived.Test.YtbjphicipgneaaaLns
namespace Go.Proofs.Ytbjphicipgneaaa.Lo
open Go Go.Proofs.Ytbjphicipgneaaa.E
open Go.Proofs.Ytbjphicipgneaaa.Ln
set_option maxRecDepth 100000
set_option linter.unusedVariables false
set_option linter.unusedSimpArgs false

/-! 22: wainscot/wainscotlaw05.Same -/
def A22 : List (Nat × Sh) := [(4, .bool), (5, (.int .i64)), (7, (.int .i64)), (9, (.int .i64)), (10, .bool), (12, (.int .i64)), (13, (.int .i64)), (14, .bool), (15, (.int .i64)), (17, (.int .i64)), (19, (.agg [(.int .i64), .str, (.int .i64)])), (21, (.int .i64)), (23, (.agg [(.int .i64), .str, (.int .i64)])), (24, .bool), (25, (.int .i64))]
noncomputable def call22 (lf : Nat) : CallS := callN
theorem call22_ok (lf : Nat) : CallOk Go.Proofs.Try.prog (call22 lf) := callN_ok
def o22_0 : Outs := [((.exit 0), [], []), (.ret, [4], [.bool])]
def k22_0 : KC := (.seq (.reg [⟨(some 14), none, (.op (.bin .lss (.t 13) (.t 12))), []⟩]) (.seq (.cond (.t 14) .skip (.exit 0)) (.seq (.block 1 (.seq (.reg [⟨(some 15), none, (.op (.mv (.t 13))), []⟩, ⟨(some 5), none, (.op (.mv (.t 15))), []⟩]) (.seq (.reg [⟨(some 16), none, (.op (.mv (.t 0))), []⟩, ⟨(some 17), none, (.op (.mv (.t 5))), []⟩, ⟨(some 18), none, (.op (.iaddrL 3 (.t 16) (.t 17))), []⟩, ⟨(some 19), none, (.op (.loadN 3 (.t 18))), []⟩, ⟨(some 20), none, (.op (.mv (.t 1))), []⟩, ⟨(some 21), none, (.op (.mv (.t 5))), []⟩, ⟨(some 22), none, (.op (.iaddrL 3 (.t 20) (.t 21))), []⟩, ⟨(some 23), none, (.op (.loadN 3 (.t 22))), []⟩, ⟨(some 24), none, (.op (.eq true (.struct 3 [(0, .i), (1, .s), (2, .i)]) (.t 19) (.t 23))), []⟩]) (.cond (.t 24) (.seq (.reg [⟨(some 4), none, (.op (.mv (.c (.bool false)))), []⟩]) .ret) .skip)))) (.reg [⟨(some 25), none, (.op (.bin .add (.t 13) (.c (.int .i64 1)))), []⟩, ⟨(some 13), none, (.op (.mv (.t 25))), []⟩]))))
def w22_0 (f : V → V → Int → Int → List Ob → SubR) (vs : List V) (h : List Ob) : SubR := castCons vs fun c1 l1 => castCons l1 fun c2 l2 => castCons l2 fun c3 l3 => castInt .i64 c3 fun n4 => castCons l3 fun c5 l5 => castInt .i64 c5 fun n6 => castNil l5 (f c1 c2 n4 n6 h)
noncomputable def B22_0 (lf : Nat) (self : V → V → Int → Int → List Ob → SubR) (a : V) (b : V) (x12 : Int) (x13 : Int) (h : List Ob) : SubR :=
cB (decide (x13 < x12)) (
bind1 (er (.iaddrL 3 (.c a) (.c (.int .i64 x13))) h) fun x18 =>
bind1 (er (.loadN 3 (.c x18)) h) fun v =>
castAgg v fun l =>
castCons l fun c l1 =>
castInt .i64 c fun x19_0 =>
castCons l1 fun c1 l2 =>
castStr c1 fun x19_1 =>
castCons l2 fun c2 l3 =>
castInt .i64 c2 fun x19_2 =>
castNil l3 (
bind1 (er (.iaddrL 3 (.c b) (.c (.int .i64 x13))) h) fun x22 =>
bind1 (er (.loadN 3 (.c x22)) h) fun v1 =>
castAgg v1 fun l4 =>
castCons l4 fun c3 l5 =>
castInt .i64 c3 fun x23_0 =>
castCons l5 fun c4 l6 =>
castStr c4 fun x23_1 =>
castCons l6 fun c5 l7 =>
castInt .i64 c5 fun x23_2 =>
castNil l7 (
bind1 (er (.eq true (.struct 3 [(0, .i), (1, .s), (2, .i)]) (.c (.agg [(.int .i64 x19_0), (.str x19_1), (.int .i64 x19_2)])) (.c (.agg [(.int .i64 x23_0), (.str x23_1), (.int .i64 x23_2)]))) h) fun v2 =>
castBool v2 fun x24 =>
cB x24 (
some (.ret, [(.bool false)], h)) (
self a b x12 (IntKind.i64.wrap (x13 + (1))) h)))) (
some ((.exit 0), [], h))
noncomputable def L22_0 (lf : Nat) : Nat → V → V → Int → Int → List Ob → SubR
  | 0 => fun _ _ _ _ _ => none
  | n + 1 => B22_0 lf (L22_0 lf n)
theorem B22_0_eq (lf : Nat) (self : V → V → Int → Int → List Ob → SubR) (a : V) (b : V) (x12 : Int) (x13 : Int) (h : List Ob) : evCK A22 ⟨call22 lf, cvN, subN⟩ k22_0 [(0, a), (1, b), (12, (.int .i64 x12)), (13, (.int .i64 x13))] h (endL [0, 1, 12, 13] [.any, .any, (.int .i64), (.int .i64)] o22_0 (w22_0 self)) = B22_0 lf self a b x12 x13 h := by kernel_rfl
theorem L22_0_ok (lf : Nat) : ∀ n, SubOk Go.Proofs.Try.prog (.loop k22_0.er) [0, 1, 12, 13] o22_0 (w22_0 (L22_0 lf n)) := by
  refine SubOk.loop (A := A22) (σ := ⟨call22 lf, cvN, subN⟩) (c := k22_0) (shs := [.any, .any, (.int .i64), (.int .i64)]) (G := fun n => w22_0 (L22_0 lf n)) (call22_ok lf) cvN_ok (And.intro True.intro (And.intro (And.intro True.intro True.intro) (And.intro (And.intro True.intro (And.intro True.intro (And.intro (And.intro True.intro True.intro) True.intro))) True.intro))) ?_ ?_
  · intro vs h r e0
    simp only [w22_0] at e0
    obtain ⟨c1, l1, rfl, e1⟩ := castCons_inv e0
    obtain ⟨c2, l2, rfl, e2⟩ := castCons_inv e1
    obtain ⟨c3, l3, rfl, e3⟩ := castCons_inv e2
    obtain ⟨y2, rfl, e4⟩ := castInt_inv e3
    obtain ⟨c4, l4, rfl, e5⟩ := castCons_inv e4
    obtain ⟨y3, rfl, e6⟩ := castInt_inv e5
    obtain ⟨rfl, e7⟩ := castNil_inv e6
    have e := e7
    cases e
  · intro n vs h r e0
    simp only [w22_0] at e0
    obtain ⟨c1, l1, rfl, e1⟩ := castCons_inv e0
    obtain ⟨c2, l2, rfl, e2⟩ := castCons_inv e1
    obtain ⟨c3, l3, rfl, e3⟩ := castCons_inv e2
    obtain ⟨y2, rfl, e4⟩ := castInt_inv e3
    obtain ⟨c4, l4, rfl, e5⟩ := castCons_inv e4
    obtain ⟨y3, rfl, e6⟩ := castInt_inv e5
    obtain ⟨rfl, e7⟩ := castNil_inv e6
    have e := e7
    exact (B22_0_eq lf (L22_0 lf n) c1 c2 y2 y3 h).trans e
def k22 : KC := (.seq (.reg [⟨(some 4), none, (.op (.mv (.c (.bool false)))), []⟩]) (.seq (.seq (.reg [⟨(some 6), none, (.op (.mv (.t 0))), []⟩, ⟨(some 7), none, (.op (.lenL (.t 6))), []⟩, ⟨(some 8), none, (.op (.mv (.t 1))), []⟩, ⟨(some 9), none, (.op (.lenL (.t 8))), []⟩, ⟨(some 10), none, (.op (.bin .neq (.t 7) (.t 9))), []⟩]) (.cond (.t 10) (.seq (.reg [⟨(some 4), none, (.op (.mv (.c (.bool false)))), []⟩]) .ret) .skip)) (.seq (.seq (.reg [⟨(some 11), none, (.op (.mv (.t 0))), []⟩, ⟨(some 12), none, (.op (.lenL (.t 11))), []⟩, ⟨(some 13), none, (.op (.mv (.c (.int .i64 0)))), []⟩]) (.block 0 (.sub 0 (.loop k22_0.er) [0, 1, 12, 13] o22_0))) (.seq (.reg [⟨(some 4), none, (.op (.mv (.c (.bool true)))), []⟩]) .ret))))
noncomputable def F22 (lf : Nat) (a : V) (b : V) (h : List Ob) : Option (V × List Ob) :=
bind1 (er (.lenL (.c a)) h) fun v =>
castInt .i64 v fun x7 =>
bind1 (er (.lenL (.c b)) h) fun v1 =>
castInt .i64 v1 fun x9 =>
cB (x7 != x9) (
some ((.bool false), h)) (
bind1 (er (.lenL (.c a)) h) fun v2 =>
castInt .i64 v2 fun x12 =>
bind3 (L22_0 lf lf a b x12 (0) h) fun ex vs h_ =>
cB (decide (ex = (.exit 0))) (
castNil vs (
some ((.bool true), h_))) (
cB (decide (ex = .ret)) (
castCons vs fun c l =>
castBool c fun x4 =>
castNil l (
some ((.bool x4), h_))) (
none)))
theorem F22_eq (lf : Nat) (a : V) (b : V) (h : List Ob) : evCK A22 ⟨call22 lf, cvN, subC 0 (w22_0 (L22_0 lf lf)) (subN)⟩ k22 (entryK [a, b]) h (endF c22.res) = F22 lf a b h := by kernel_rfl
theorem F22_ok (lf : Nat) (a : V) (b : V) (h : List Ob) (r_ : V) (h_r : List Ob) (e_ : F22 lf a b h = some (r_, h_r)) : CD Go.Proofs.Try.prog 22 [a, b] h r_ h_r :=
  CD.ofK (A := A22) (σ := ⟨call22 lf, cvN, subC 0 (w22_0 (L22_0 lf lf)) (subN)⟩) (c := k22) Go.Proofs.Try.func22 ok22 en22 (show 2 ≤ 26 by decide) (by kernel_rfl) (call22_ok lf) cvN_ok (And.intro True.intro (And.intro (And.intro True.intro (And.intro (And.intro True.intro True.intro) True.intro)) (And.intro (And.intro True.intro (L22_0_ok lf lf)) (And.intro True.intro True.intro)))) ((F22_eq lf a b h).trans e_)
def w22 (f : V → V → List Ob → Option (V × List Ob)) (vs : List V) (h : List Ob) : Option (V × List Ob) := castCons vs fun c1 l1 => castCons l1 fun c2 l2 => castNil l2 (f c1 c2 h)
noncomputable def W22 (lf : Nat) : List V → List Ob → Option (V × List Ob) := w22 (F22 lf)
theorem W22_ok (lf : Nat) : ∀ args h v h', W22 lf args h = some (v, h') → CD Go.Proofs.Try.prog 22 args h v h' := by
  intro vs h r h' e0
  simp only [W22, w22] at e0
  obtain ⟨c1, l1, rfl, e1⟩ := castCons_inv e0
  obtain ⟨c2, l2, rfl, e2⟩ := castCons_inv e1
  obtain ⟨rfl, e3⟩ := castNil_inv e2
  have e := e3
  exact F22_ok lf c1 c2 h r h' e

/-! 23: wainscot/wainscotlaw05.Ours -/
def A23 : List (Nat × Sh) := [(4, (.int .i64)), (6, (.int .i64)), (7, (.int .i64)), (8, .bool), (9, (.int .i64)), (12, (.int .i64)), (14, (.agg [(.int .i64), .str, (.int .i64)])), (17, (.int .i64))]
noncomputable def call23 (lf : Nat) : CallS := callN
theorem call23_ok (lf : Nat) : CallOk Go.Proofs.Try.prog (call23 lf) := callN_ok
def o23_0 : Outs := [((.exit 0), [3], [.any])]
def k23_0 : KC := (.seq (.reg [⟨(some 8), none, (.op (.bin .lss (.t 7) (.t 6))), []⟩]) (.seq (.cond (.t 8) .skip (.exit 0)) (.seq (.block 1 (.seq (.reg [⟨(some 9), none, (.op (.mv (.t 7))), []⟩, ⟨(some 4), none, (.op (.mv (.t 9))), []⟩]) (.reg [⟨(some 10), none, (.op (.mv (.t 3))), []⟩, ⟨(some 11), none, (.op (.mv (.t 0))), []⟩, ⟨(some 12), none, (.op (.mv (.t 4))), []⟩, ⟨(some 13), none, (.op (.iaddrL 3 (.t 11) (.t 12))), []⟩, ⟨(some 14), none, (.op (.loadN 3 (.t 13))), []⟩, ⟨(some 15), none, (.op (.bslice 3 (.agg [(.int .i64 0), (.str []), (.int .i64 0)]) 1 [(0, (.t 14))])), []⟩, ⟨(some 16), none, (.op (.app 3 32 (.t 10) (.t 15))), []⟩, ⟨(some 3), none, (.op (.mv (.t 16))), []⟩]))) (.reg [⟨(some 17), none, (.op (.bin .add (.t 7) (.c (.int .i64 1)))), []⟩, ⟨(some 7), none, (.op (.mv (.t 17))), []⟩]))))
def w23_0 (f : V → V → Int → Int → List Ob → SubR) (vs : List V) (h : List Ob) : SubR := castCons vs fun c1 l1 => castCons l1 fun c2 l2 => castCons l2 fun c3 l3 => castInt .i64 c3 fun n4 => castCons l3 fun c5 l5 => castInt .i64 c5 fun n6 => castNil l5 (f c1 c2 n4 n6 h)
noncomputable def B23_0 (lf : Nat) (self : V → V → Int → Int → List Ob → SubR) (l : V) (out : V) (x6 : Int) (x7 : Int) (h : List Ob) : SubR :=
cB (decide (x7 < x6)) (
bind1 (er (.iaddrL 3 (.c l) (.c (.int .i64 x7))) h) fun x13 =>
bind1 (er (.loadN 3 (.c x13)) h) fun v =>
castAgg v fun l1 =>
castCons l1 fun c l2 =>
castInt .i64 c fun x14_0 =>
castCons l2 fun c1 l3 =>
castStr c1 fun x14_1 =>
castCons l3 fun c2 l4 =>
castInt .i64 c2 fun x14_2 =>
castNil l4 (
bind2 (ev (.bslice 3 (.agg [(.int .i64 0), (.str []), (.int .i64 0)]) 1 [(0, (.c (.agg [(.int .i64 x14_0), (.str x14_1), (.int .i64 x14_2)])))]) h) fun x15 h_ =>
bind2 (ev (.app 3 32 (.c out) (.c x15)) h_) fun x16 h_1 =>
self l x16 x6 (IntKind.i64.wrap (x7 + (1))) h_1)) (
some ((.exit 0), [out], h))
noncomputable def L23_0 (lf : Nat) : Nat → V → V → Int → Int → List Ob → SubR
  | 0 => fun _ _ _ _ _ => none
  | n + 1 => B23_0 lf (L23_0 lf n)
theorem B23_0_eq (lf : Nat) (self : V → V → Int → Int → List Ob → SubR) (l : V) (out : V) (x6 : Int) (x7 : Int) (h : List Ob) : evCK A23 ⟨call23 lf, cvN, subN⟩ k23_0 [(0, l), (3, out), (6, (.int .i64 x6)), (7, (.int .i64 x7))] h (endL [0, 3, 6, 7] [.any, .any, (.int .i64), (.int .i64)] o23_0 (w23_0 self)) = B23_0 lf self l out x6 x7 h := by kernel_rfl
theorem L23_0_ok (lf : Nat) : ∀ n, SubOk Go.Proofs.Try.prog (.loop k23_0.er) [0, 3, 6, 7] o23_0 (w23_0 (L23_0 lf n)) := by
  refine SubOk.loop (A := A23) (σ := ⟨call23 lf, cvN, subN⟩) (c := k23_0) (shs := [.any, .any, (.int .i64), (.int .i64)]) (G := fun n => w23_0 (L23_0 lf n)) (call23_ok lf) cvN_ok (And.intro True.intro (And.intro (And.intro True.intro True.intro) (And.intro (And.intro True.intro True.intro) True.intro))) ?_ ?_
  · intro vs h r e0
    simp only [w23_0] at e0
    obtain ⟨c1, l1, rfl, e1⟩ := castCons_inv e0
    obtain ⟨c2, l2, rfl, e2⟩ := castCons_inv e1
    obtain ⟨c3, l3, rfl, e3⟩ := castCons_inv e2
    obtain ⟨y2, rfl, e4⟩ := castInt_inv e3
    obtain ⟨c4, l4, rfl, e5⟩ := castCons_inv e4
    obtain ⟨y3, rfl, e6⟩ := castInt_inv e5
    obtain ⟨rfl, e7⟩ := castNil_inv e6
    have e := e7
    cases e
  · intro n vs h r e0
    simp only [w23_0] at e0
    obtain ⟨c1, l1, rfl, e1⟩ := castCons_inv e0
    obtain ⟨c2, l2, rfl, e2⟩ := castCons_inv e1
    obtain ⟨c3, l3, rfl, e3⟩ := castCons_inv e2
    obtain ⟨y2, rfl, e4⟩ := castInt_inv e3
    obtain ⟨c4, l4, rfl, e5⟩ := castCons_inv e4
    obtain ⟨y3, rfl, e6⟩ := castInt_inv e5
    obtain ⟨rfl, e7⟩ := castNil_inv e6
    have e := e7
    exact (B23_0_eq lf (L23_0 lf n) c1 c2 y2 y3 h).trans e
def k23 : KC := (.seq (.reg [⟨(some 2), none, (.op (.mv (.c .nils))), []⟩]) (.seq (.reg [⟨(some 3), none, (.op (.mv (.c .nils))), []⟩]) (.seq (.seq (.reg [⟨(some 5), none, (.op (.mv (.t 0))), []⟩, ⟨(some 6), none, (.op (.lenL (.t 5))), []⟩, ⟨(some 7), none, (.op (.mv (.c (.int .i64 0)))), []⟩]) (.block 0 (.sub 0 (.loop k23_0.er) [0, 3, 6, 7] o23_0))) (.seq (.reg [⟨(some 18), none, (.op (.mv (.t 3))), []⟩, ⟨(some 2), none, (.op (.mv (.t 18))), []⟩]) .ret))))
noncomputable def F23 (lf : Nat) (l : V) (h : List Ob) : Option (V × List Ob) :=
bind1 (er (.lenL (.c l)) h) fun v =>
castInt .i64 v fun x6 =>
bind3 (L23_0 lf lf l V.nils x6 (0) h) fun ex vs h_ =>
cB (decide (ex = (.exit 0))) (
castCons vs fun out l1 =>
castNil l1 (
some (out, h_))) (
none)
theorem F23_eq (lf : Nat) (l : V) (h : List Ob) : evCK A23 ⟨call23 lf, cvN, subC 0 (w23_0 (L23_0 lf lf)) (subN)⟩ k23 (entryK [l]) h (endF c23.res) = F23 lf l h := by kernel_rfl
theorem F23_ok (lf : Nat) (l : V) (h : List Ob) (r_ : V) (h_r : List Ob) (e_ : F23 lf l h = some (r_, h_r)) : CD Go.Proofs.Try.prog 23 [l] h r_ h_r :=
  CD.ofK (A := A23) (σ := ⟨call23 lf, cvN, subC 0 (w23_0 (L23_0 lf lf)) (subN)⟩) (c := k23) Go.Proofs.Try.func23 ok23 en23 (show 1 ≤ 19 by decide) (by kernel_rfl) (call23_ok lf) cvN_ok (And.intro True.intro (And.intro True.intro (And.intro (And.intro True.intro (L23_0_ok lf lf)) (And.intro True.intro True.intro)))) ((F23_eq lf l h).trans e_)
def w23 (f : V → List Ob → Option (V × List Ob)) (vs : List V) (h : List Ob) : Option (V × List Ob) := castCons vs fun c1 l1 => castNil l1 (f c1 h)
noncomputable def W23 (lf : Nat) : List V → List Ob → Option (V × List Ob) := w23 (F23 lf)
theorem W23_ok (lf : Nat) : ∀ args h v h', W23 lf args h = some (v, h') → CD Go.Proofs.Try.prog 23 args h v h' := by
  intro vs h r h' e0
  simp only [W23, w23] at e0
  obtain ⟨c1, l1, rfl, e1⟩ := castCons_inv e0
  obtain ⟨rfl, e2⟩ := castNil_inv e1
  have e := e2
  exact F23_ok lf c1 h r h' e

/-! 5: wainscot/wainscotlaw05.LexerNotes -/
def A5 : List (Nat × Sh) := [(0, .str), (1, .str), (2, .str), (6, .bool), (7, (.int .i64)), (9, (.int .i64)), (11, (.int .i64)), (13, (.int .i64)), (14, .bool), (15, .bool), (16, .bool), (17, .str), (18, (.int .i64)), (19, .str), (20, (.int .i64)), (21, (.int .i64)), (22, .str), (23, (.int .i64)), (24, (.int .i64)), (25, .bool), (26, .bool), (27, .bool), (28, .str), (29, (.int .i64)), (30, (.int .i64)), (31, .bool), (32, (.int .i64)), (33, .str), (34, (.int .i64)), (35, (.int .u8)), (36, .bool), (37, (.int .i64)), (38, (.tup [.any, (.int .i64)])), (39, .str), (40, (.tup [.any, (.int .i64)])), (42, (.int .i64)), (43, (.tup [.any, (.int .i64)])), (44, .str), (45, (.tup [.any, (.int .i64)])), (47, (.int .i64)), (48, (.int .i64)), (49, .bool), (50, .bool), (51, (.int .i64)), (52, .bool), (53, .bool), (54, .bool), (56, (.int .i64)), (58, (.int .i64)), (59, (.int .i64)), (60, .bool), (61, .bool), (62, (.tup [.any, (.int .i64)])), (63, .str), (64, .str), (65, .str), (66, .str), (67, .str), (68, .str), (69, .str), (70, (.tup [.any, (.int .i64)])), (72, (.int .i64)), (73, (.int .i64)), (74, .bool), (75, .bool), (82, .bool), (83, .bool)]
noncomputable def call5 (lf : Nat) : CallS := callC 23 (W23 lf) (callC 22 (W22 lf) (callC 21 (W21 lf) (callC 20 (W20 lf) (callN))))
theorem call5_ok (lf : Nat) : CallOk Go.Proofs.Try.prog (call5 lf) := callC_ok (W23_ok lf) (callC_ok (W22_ok lf) (callC_ok (W21_ok lf) (callC_ok (W20_ok lf) (callN_ok))))
def o5_0 : Outs := [((.exit 0), [], []), (.ret, [6], [.bool])]
def k5_0 : KC := (.seq (.reg [⟨(some 31), none, (.op (.bin .lss (.t 30) (.t 29))), []⟩]) (.seq (.cond (.t 31) .skip (.exit 0)) (.seq (.block 1 (.seq (.reg [⟨(some 32), none, (.op (.mv (.t 30))), []⟩, ⟨(some 7), none, (.op (.mv (.t 32))), []⟩]) (.seq (.reg [⟨(some 33), none, (.op (.mv (.t 1))), []⟩, ⟨(some 34), none, (.op (.mv (.t 7))), []⟩, ⟨(some 35), none, (.op (.idxS (.t 33) (.t 34))), []⟩, ⟨(some 36), none, (.op (.bin .eql (.t 35) (.c (.int .u8 10)))), []⟩]) (.cond (.t 36) (.seq (.reg [⟨(some 6), none, (.op (.mv (.c (.bool true)))), []⟩]) .ret) .skip)))) (.reg [⟨(some 37), none, (.op (.bin .add (.t 30) (.c (.int .i64 1)))), []⟩, ⟨(some 30), none, (.op (.mv (.t 37))), []⟩]))))
def w5_0 (f : List UInt8 → Int → Int → List Ob → SubR) (vs : List V) (h : List Ob) : SubR := castCons vs fun c1 l1 => castStr c1 fun n2 => castCons l1 fun c3 l3 => castInt .i64 c3 fun n4 => castCons l3 fun c5 l5 => castInt .i64 c5 fun n6 => castNil l5 (f n2 n4 n6 h)
noncomputable def B5_0 (lf : Nat) (self : List UInt8 → Int → Int → List Ob → SubR) (note : List UInt8) (x29 : Int) (x30 : Int) (h : List Ob) : SubR :=
cB (decide (x30 < x29)) (
bind1 (er (.idxS (.c (.str note)) (.c (.int .i64 x30))) h) fun v =>
castInt .u8 v fun x35 =>
cB (x35 == (10)) (
some (.ret, [(.bool true)], h)) (
self note x29 (IntKind.i64.wrap (x30 + (1))) h)) (
some ((.exit 0), [], h))
noncomputable def L5_0 (lf : Nat) : Nat → List UInt8 → Int → Int → List Ob → SubR
  | 0 => fun _ _ _ _ => none
  | n + 1 => B5_0 lf (L5_0 lf n)
theorem B5_0_eq (lf : Nat) (self : List UInt8 → Int → Int → List Ob → SubR) (note : List UInt8) (x29 : Int) (x30 : Int) (h : List Ob) : evCK A5 ⟨call5 lf, cvN, subN⟩ k5_0 [(1, (.str note)), (29, (.int .i64 x29)), (30, (.int .i64 x30))] h (endL [1, 29, 30] [.str, (.int .i64), (.int .i64)] o5_0 (w5_0 self)) = B5_0 lf self note x29 x30 h := by kernel_rfl
theorem L5_0_ok (lf : Nat) : ∀ n, SubOk Go.Proofs.Try.prog (.loop k5_0.er) [1, 29, 30] o5_0 (w5_0 (L5_0 lf n)) := by
  refine SubOk.loop (A := A5) (σ := ⟨call5 lf, cvN, subN⟩) (c := k5_0) (shs := [.str, (.int .i64), (.int .i64)]) (G := fun n => w5_0 (L5_0 lf n)) (call5_ok lf) cvN_ok (And.intro True.intro (And.intro (And.intro True.intro True.intro) (And.intro (And.intro True.intro (And.intro True.intro (And.intro (And.intro True.intro True.intro) True.intro))) True.intro))) ?_ ?_
  · intro vs h r e0
    simp only [w5_0] at e0
    obtain ⟨c1, l1, rfl, e1⟩ := castCons_inv e0
    obtain ⟨y0, rfl, e2⟩ := castStr_inv e1
    obtain ⟨c2, l2, rfl, e3⟩ := castCons_inv e2
    obtain ⟨y1, rfl, e4⟩ := castInt_inv e3
    obtain ⟨c3, l3, rfl, e5⟩ := castCons_inv e4
    obtain ⟨y2, rfl, e6⟩ := castInt_inv e5
    obtain ⟨rfl, e7⟩ := castNil_inv e6
    have e := e7
    cases e
  · intro n vs h r e0
    simp only [w5_0] at e0
    obtain ⟨c1, l1, rfl, e1⟩ := castCons_inv e0
    obtain ⟨y0, rfl, e2⟩ := castStr_inv e1
    obtain ⟨c2, l2, rfl, e3⟩ := castCons_inv e2
    obtain ⟨y1, rfl, e4⟩ := castInt_inv e3
    obtain ⟨c3, l3, rfl, e5⟩ := castCons_inv e4
    obtain ⟨y2, rfl, e6⟩ := castInt_inv e5
    obtain ⟨rfl, e7⟩ := castNil_inv e6
    have e := e7
    exact (B5_0_eq lf (L5_0 lf n) y0 y1 y2 h).trans e
def o5_1 : Outs := [(.ret, [6], [.bool]), (.normal, [], [])]
def k5_1 : KC := (.seq (.reg [⟨(some 48), none, (.op (.mv (.t 9))), []⟩, ⟨(some 49), none, (.op (.bin .neq (.t 48) (.c (.int .i64 0)))), []⟩, ⟨(some 50), none, (.op (.mv (.t 49))), []⟩, ⟨(some 51), (some (50, false)), (.op (.mv (.t 11))), []⟩, ⟨(some 52), (some (50, false)), (.op (.bin .neq (.t 51) (.c (.int .i64 0)))), []⟩, ⟨(some 53), none, (.op (.pick (.t 50) (.c (.bool true)) (.t 52))), []⟩, ⟨(some 54), none, (.op (.mv (.t 53))), []⟩, ⟨(some 55), (some (54, false)), (.op (.mv (.t 8))), []⟩, ⟨(some 56), (some (54, false)), (.op (.lenL (.t 55))), []⟩, ⟨(some 57), (some (54, false)), (.op (.mv (.t 10))), []⟩, ⟨(some 58), (some (54, false)), (.op (.lenL (.t 57))), []⟩, ⟨(some 59), (some (54, false)), (.op (.bin .add (.t 56) (.t 58))), []⟩, ⟨(some 60), (some (54, false)), (.op (.bin .gtr (.t 59) (.c (.int .i64 600)))), []⟩, ⟨(some 61), none, (.op (.pick (.t 54) (.c (.bool true)) (.t 60))), []⟩]) (.cond (.t 61) (.seq (.reg [⟨(some 6), none, (.op (.mv (.c (.bool true)))), []⟩]) .ret) .skip))
def w5_1 (f : V → Int → V → Int → List Ob → SubR) (vs : List V) (h : List Ob) : SubR := castCons vs fun c1 l1 => castCons l1 fun c2 l2 => castInt .i64 c2 fun n3 => castCons l2 fun c4 l4 => castCons l4 fun c5 l5 => castInt .i64 c5 fun n6 => castNil l5 (f c1 n3 c4 n6 h)
noncomputable def S5_1 (lf : Nat) (x : V) (e : Int) (y : V) (f : Int) (h : List Ob) : SubR :=
cB (e != (0)) (
some (.ret, [(.bool true)], h)) (
cB (f != (0)) (
some (.ret, [(.bool true)], h)) (
bind1 (er (.lenL (.c x)) h) fun v =>
castInt .i64 v fun x56 =>
bind1 (er (.lenL (.c y)) h) fun v1 =>
castInt .i64 v1 fun x58 =>
cB (decide ((IntKind.i64.wrap (x56 + x58)) > (600))) (
some (.ret, [(.bool true)], h)) (
some (.normal, [], h))))
theorem S5_1_eq (lf : Nat) (x : V) (e : Int) (y : V) (f : Int) (h : List Ob) : evCK A5 ⟨call5 lf, cvN, subN⟩ k5_1 [(8, x), (9, (.int .i64 e)), (10, y), (11, (.int .i64 f))] h (endK o5_1) = S5_1 lf x e y f h := by kernel_rfl
theorem S5_1_ok (lf : Nat) : SubOk Go.Proofs.Try.prog k5_1.er [8, 9, 10, 11] o5_1 (w5_1 (S5_1 lf)) := by
  refine SubOk.of (A := A5) (σ := ⟨call5 lf, cvN, subN⟩) (c := k5_1) (call5_ok lf) cvN_ok (And.intro True.intro (And.intro (And.intro True.intro True.intro) True.intro)) ?_
  intro vs h r e0
  simp only [w5_1] at e0
  obtain ⟨c1, l1, rfl, e1⟩ := castCons_inv e0
  obtain ⟨c2, l2, rfl, e2⟩ := castCons_inv e1
  obtain ⟨y1, rfl, e3⟩ := castInt_inv e2
  obtain ⟨c3, l3, rfl, e4⟩ := castCons_inv e3
  obtain ⟨c4, l4, rfl, e5⟩ := castCons_inv e4
  obtain ⟨y3, rfl, e6⟩ := castInt_inv e5
  obtain ⟨rfl, e7⟩ := castNil_inv e6
  have e := e7
  exact (S5_1_eq lf c1 y1 c3 y3 h).trans e
def o5_2 : Outs := [(.ret, [6], [.bool]), (.normal, [], [])]
def k5_2 : KC := (.seq (.reg [⟨(some 14), none, (.call 20 []), []⟩, ⟨(some 15), none, (.op (.un .not (.t 14))), []⟩, ⟨(some 16), none, (.op (.mv (.t 15))), []⟩, ⟨(some 17), (some (16, false)), (.op (.mv (.t 0))), []⟩, ⟨(some 18), (some (16, false)), (.op (.lenS (.t 17))), []⟩, ⟨(some 19), (some (16, false)), (.op (.mv (.t 1))), []⟩, ⟨(some 20), (some (16, false)), (.op (.lenS (.t 19))), []⟩, ⟨(some 21), (some (16, false)), (.op (.bin .add (.t 18) (.t 20))), []⟩, ⟨(some 22), (some (16, false)), (.op (.mv (.t 2))), []⟩, ⟨(some 23), (some (16, false)), (.op (.lenS (.t 22))), []⟩, ⟨(some 24), (some (16, false)), (.op (.bin .add (.t 21) (.t 23))), []⟩, ⟨(some 25), (some (16, false)), (.op (.bin .gtr (.t 24) (.c (.int .i64 3000)))), []⟩, ⟨(some 26), none, (.op (.pick (.t 16) (.c (.bool true)) (.t 25))), []⟩]) (.cond (.t 26) (.seq (.reg [⟨(some 27), none, (.call 20 []), []⟩, ⟨(some 6), none, (.op (.mv (.t 27))), []⟩]) .ret) .skip))
def w5_2 (f : List UInt8 → List UInt8 → List UInt8 → List Ob → SubR) (vs : List V) (h : List Ob) : SubR := castCons vs fun c1 l1 => castStr c1 fun n2 => castCons l1 fun c3 l3 => castStr c3 fun n4 => castCons l3 fun c5 l5 => castStr c5 fun n6 => castNil l5 (f n2 n4 n6 h)
noncomputable def S5_2 (lf : Nat) (a : List UInt8) (note : List UInt8) (b : List UInt8) (h : List Ob) : SubR :=
bind2 (F20 lf h) fun v h_ =>
castBool v fun x14 =>
cB (!x14) (
bind2 (F20 lf h_) fun v1 h_1 =>
castBool v1 fun x27 =>
some (.ret, [(.bool x27)], h_1)) (
cB (decide ((IntKind.i64.wrap ((IntKind.i64.wrap (((a).length : Int) + ((note).length : Int))) + ((b).length : Int))) > (3000))) (
bind2 (F20 lf h_) fun v1 h_1 =>
castBool v1 fun x27 =>
some (.ret, [(.bool x27)], h_1)) (
some (.normal, [], h_)))
theorem S5_2_eq (lf : Nat) (a : List UInt8) (note : List UInt8) (b : List UInt8) (h : List Ob) : evCK A5 ⟨call5 lf, cvN, subN⟩ k5_2 [(0, (.str a)), (1, (.str note)), (2, (.str b))] h (endK o5_2) = S5_2 lf a note b h := by kernel_rfl
theorem S5_2_ok (lf : Nat) : SubOk Go.Proofs.Try.prog k5_2.er [0, 1, 2] o5_2 (w5_2 (S5_2 lf)) := by
  refine SubOk.of (A := A5) (σ := ⟨call5 lf, cvN, subN⟩) (c := k5_2) (call5_ok lf) cvN_ok (And.intro True.intro (And.intro (And.intro True.intro True.intro) True.intro)) ?_
  intro vs h r e0
  simp only [w5_2] at e0
  obtain ⟨c1, l1, rfl, e1⟩ := castCons_inv e0
  obtain ⟨y0, rfl, e2⟩ := castStr_inv e1
  obtain ⟨c2, l2, rfl, e3⟩ := castCons_inv e2
  obtain ⟨y1, rfl, e4⟩ := castStr_inv e3
  obtain ⟨c3, l3, rfl, e5⟩ := castCons_inv e4
  obtain ⟨y2, rfl, e6⟩ := castStr_inv e5
  obtain ⟨rfl, e7⟩ := castNil_inv e6
  have e := e7
  exact (S5_2_eq lf y0 y1 y2 h).trans e
def k5 : KC := (.seq (.reg [⟨(some 6), none, (.op (.mv (.c (.bool false)))), []⟩]) (.seq (.sub 2 k5_2.er [0, 1, 2] o5_2) (.seq (.seq (.reg [⟨(some 28), none, (.op (.mv (.t 1))), []⟩, ⟨(some 29), none, (.op (.lenS (.t 28))), []⟩, ⟨(some 30), none, (.op (.mv (.c (.int .i64 0)))), []⟩]) (.block 0 (.sub 0 (.loop k5_0.er) [1, 29, 30] o5_0))) (.seq (.reg [⟨(some 39), none, (.op (.mv (.t 0))), []⟩, ⟨(some 40), none, (.call 21 [(.t 39)]), []⟩, ⟨(some 38), none, (.op (.mv (.t 40))), []⟩, ⟨(some 41), none, (.op (.ext 0 (.t 38))), []⟩, ⟨(some 42), none, (.op (.ext 1 (.t 38))), []⟩, ⟨(some 8), none, (.op (.mv (.t 41))), []⟩, ⟨(some 9), none, (.op (.mv (.t 42))), []⟩]) (.seq (.reg [⟨(some 44), none, (.op (.mv (.t 2))), []⟩, ⟨(some 45), none, (.call 21 [(.t 44)]), []⟩, ⟨(some 43), none, (.op (.mv (.t 45))), []⟩, ⟨(some 46), none, (.op (.ext 0 (.t 43))), []⟩, ⟨(some 47), none, (.op (.ext 1 (.t 43))), []⟩, ⟨(some 10), none, (.op (.mv (.t 46))), []⟩, ⟨(some 11), none, (.op (.mv (.t 47))), []⟩]) (.seq (.sub 1 k5_1.er [8, 9, 10, 11] o5_1) (.seq (.reg [⟨(some 63), none, (.op (.mv (.t 0))), []⟩, ⟨(some 64), none, (.op (.bin .add (.t 63) (.c (.str [10, 45, 45])))), []⟩, ⟨(some 65), none, (.op (.mv (.t 1))), []⟩, ⟨(some 66), none, (.op (.bin .add (.t 64) (.t 65))), []⟩, ⟨(some 67), none, (.op (.bin .add (.t 66) (.c (.str [10, 9, 32])))), []⟩, ⟨(some 68), none, (.op (.mv (.t 2))), []⟩, ⟨(some 69), none, (.op (.bin .add (.t 67) (.t 68))), []⟩, ⟨(some 70), none, (.call 21 [(.t 69)]), []⟩, ⟨(some 62), none, (.op (.mv (.t 70))), []⟩, ⟨(some 71), none, (.op (.ext 0 (.t 62))), []⟩, ⟨(some 72), none, (.op (.ext 1 (.t 62))), []⟩, ⟨(some 12), none, (.op (.mv (.t 71))), []⟩, ⟨(some 13), none, (.op (.mv (.t 72))), []⟩]) (.seq (.reg [⟨(some 73), none, (.op (.mv (.t 13))), []⟩, ⟨(some 74), none, (.op (.bin .eql (.t 73) (.c (.int .i64 0)))), []⟩, ⟨(some 75), none, (.op (.mv (.t 74))), []⟩, ⟨(some 76), (some (75, true)), (.op (.mv (.t 12))), []⟩, ⟨(some 77), (some (75, true)), (.op (.mv (.t 8))), []⟩, ⟨(some 78), (some (75, true)), (.call 23 [(.t 77)]), []⟩, ⟨(some 79), (some (75, true)), (.op (.mv (.t 10))), []⟩, ⟨(some 80), (some (75, true)), (.call 23 [(.t 79)]), []⟩, ⟨(some 81), (some (75, true)), (.op (.app 3 32 (.t 78) (.t 80))), []⟩, ⟨(some 82), (some (75, true)), (.call 22 [(.t 76), (.t 81)]), []⟩, ⟨(some 83), none, (.op (.pick (.t 75) (.t 82) (.c (.bool false)))), []⟩, ⟨(some 6), none, (.op (.mv (.t 83))), []⟩]) .ret))))))))
noncomputable def F5 (lf : Nat) (a : List UInt8) (note : List UInt8) (b : List UInt8) (h : List Ob) : Option (V × List Ob) :=
bind3 (S5_2 lf a note b h) fun ex vs h_ =>
cB (decide (ex = .ret)) (
castCons vs fun c l =>
castBool c fun x6 =>
castNil l (
some ((.bool x6), h_))) (
cB (decide (ex = .normal)) (
castNil vs (
bind3 (L5_0 lf lf note ((note).length : Int) (0) h_) fun ex1 vs1 h_1 =>
cB (decide (ex1 = (.exit 0))) (
castNil vs1 (
bind2 (F21 lf a h_1) fun v h_2 =>
castTup v fun l =>
castCons l fun x40_0 l1 =>
castCons l1 fun c l2 =>
castInt .i64 c fun x40_1 =>
castNil l2 (
bind2 (F21 lf b h_2) fun v1 h_3 =>
castTup v1 fun l3 =>
castCons l3 fun x45_0 l4 =>
castCons l4 fun c1 l5 =>
castInt .i64 c1 fun x45_1 =>
castNil l5 (
bind3 (S5_1 lf x40_0 x40_1 x45_0 x45_1 h_3) fun ex2 vs2 h_4 =>
cB (decide (ex2 = .ret)) (
castCons vs2 fun c2 l6 =>
castBool c2 fun x6 =>
castNil l6 (
some ((.bool x6), h_4))) (
cB (decide (ex2 = .normal)) (
castNil vs2 (
bind1 (er (.bin .add (.c (.str a)) (.c (.str [10, 45, 45]))) h_4) fun v2 =>
castStr v2 fun x64 =>
bind1 (er (.bin .add (.c (.str x64)) (.c (.str note))) h_4) fun v3 =>
castStr v3 fun x66 =>
bind1 (er (.bin .add (.c (.str x66)) (.c (.str [10, 9, 32]))) h_4) fun v4 =>
castStr v4 fun x67 =>
bind1 (er (.bin .add (.c (.str x67)) (.c (.str b))) h_4) fun v5 =>
castStr v5 fun x69 =>
bind2 (F21 lf x69 h_4) fun v6 h_5 =>
castTup v6 fun l6 =>
castCons l6 fun x70_0 l7 =>
castCons l7 fun c2 l8 =>
castInt .i64 c2 fun x70_1 =>
castNil l8 (
cB (x70_1 == (0)) (
bind2 (F23 lf x40_0 h_5) fun x78 h_6 =>
bind2 (F23 lf x45_0 h_6) fun x80 h_7 =>
bind2 (ev (.app 3 32 (.c x78) (.c x80)) h_7) fun x81 h_8 =>
bind2 (F22 lf x70_0 x81 h_8) fun v7 h_9 =>
castBool v7 fun x82 =>
some ((.bool x82), h_9)) (
some ((.bool false), h_5))))) (
none)))))) (
cB (decide (ex1 = .ret)) (
castCons vs1 fun c l =>
castBool c fun x6 =>
castNil l (
some ((.bool x6), h_1))) (
none)))) (
none))
theorem F5_eq (lf : Nat) (a : List UInt8) (note : List UInt8) (b : List UInt8) (h : List Ob) : evCK A5 ⟨call5 lf, cvN, subC 1 (w5_1 (S5_1 lf)) (subC 0 (w5_0 (L5_0 lf lf)) (subC 2 (w5_2 (S5_2 lf)) (subN)))⟩ k5 (entryK [(.str a), (.str note), (.str b)]) h (endF c5.res) = F5 lf a note b h := by kernel_rfl
theorem F5_ok (lf : Nat) (a : List UInt8) (note : List UInt8) (b : List UInt8) (h : List Ob) (r_ : V) (h_r : List Ob) (e_ : F5 lf a note b h = some (r_, h_r)) : CD Go.Proofs.Try.prog 5 [(.str a), (.str note), (.str b)] h r_ h_r :=
  CD.ofK (A := A5) (σ := ⟨call5 lf, cvN, subC 1 (w5_1 (S5_1 lf)) (subC 0 (w5_0 (L5_0 lf lf)) (subC 2 (w5_2 (S5_2 lf)) (subN)))⟩) (c := k5) Go.Proofs.Try.func5 ok5 en5 (show 3 ≤ 84 by decide) (by kernel_rfl) (call5_ok lf) cvN_ok (And.intro True.intro (And.intro (S5_2_ok lf) (And.intro (And.intro True.intro (L5_0_ok lf lf)) (And.intro True.intro (And.intro True.intro (And.intro (S5_1_ok lf) (And.intro True.intro (And.intro True.intro True.intro)))))))) ((F5_eq lf a note b h).trans e_)
def w5 (f : List UInt8 → List UInt8 → List UInt8 → List Ob → Option (V × List Ob)) (vs : List V) (h : List Ob) : Option (V × List Ob) := castCons vs fun c1 l1 => castStr c1 fun n2 => castCons l1 fun c3 l3 => castStr c3 fun n4 => castCons l3 fun c5 l5 => castStr c5 fun n6 => castNil l5 (f n2 n4 n6 h)
noncomputable def W5 (lf : Nat) : List V → List Ob → Option (V × List Ob) := w5 (F5 lf)
theorem W5_ok (lf : Nat) : ∀ args h v h', W5 lf args h = some (v, h') → CD Go.Proofs.Try.prog 5 args h v h' := by
  intro vs h r h' e0
  simp only [W5, w5] at e0
  obtain ⟨c1, l1, rfl, e1⟩ := castCons_inv e0
  obtain ⟨y0, rfl, e2⟩ := castStr_inv e1
  obtain ⟨c2, l2, rfl, e3⟩ := castCons_inv e2
  obtain ⟨y1, rfl, e4⟩ := castStr_inv e3
  obtain ⟨c3, l3, rfl, e5⟩ := castCons_inv e4
  obtain ⟨y2, rfl, e6⟩ := castStr_inv e5
  obtain ⟨rfl, e7⟩ := castNil_inv e6
  have e := e7
  exact F5_ok lf y0 y1 y2 h r h' e

end Go.Proofs.Ytbjphicipgneaaa.Lo
