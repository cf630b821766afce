/- Functions of the program as Lean functions, and that each call comes to what its function says. Printed by my own tool. No condition. -/
import Derived.Test.YtdcdmpgigmhhpaaNd
import Derived.Test.YtdcdmpgigmhhpaaL3
import Derived.Test.YtdcdmpgigmhhpaaVas
namespace Go.Proofs.Ytdcdmpgigmhhpaa.Nd
open Go Go.Proofs.Ytdcdmpgigmhhpaa.E
open Go.Proofs.Ytdcdmpgigmhhpaa.Va
set_option maxRecDepth 100000
set_option linter.unusedVariables false
set_option linter.unusedSimpArgs false

/-! 56: bytes.Compare -/
def A56 : List (Nat × Sh) := [(4, (.int .i64)), (7, (.int .i64))]
noncomputable def call56 (lf : Nat) : CallS := callN
theorem call56_ok (lf : Nat) : CallOk Go.Proofs.Try.prog (call56 lf) := callN_ok
def k56 : KC := (.seq (.reg [⟨(some 4), none, (.op (.mv (.c (.int .i64 0)))), []⟩]) (.seq (.reg [⟨(some 5), none, (.op (.mv (.t 0))), []⟩, ⟨(some 6), none, (.op (.mv (.t 1))), []⟩, ⟨(some 7), none, (.op (.cmpB (.t 5) (.t 6))), []⟩, ⟨(some 4), none, (.op (.mv (.t 7))), []⟩]) .ret))
noncomputable def F56 (lf : Nat) (a : V) (b : V) (h : List Ob) : Option (V × List Ob) :=
bind1 (er (.cmpB (.c a) (.c b)) h) fun v =>
castInt .i64 v fun x7 =>
some ((.int .i64 x7), h)
theorem F56_eq (lf : Nat) (a : V) (b : V) (h : List Ob) : evCK A56 ⟨call56 lf, cvN, subN⟩ k56 (entryK [a, b]) h (endF c56.res) = F56 lf a b h := by kernel_rfl
theorem F56_ok (lf : Nat) (a : V) (b : V) (h : List Ob) (r_ : V) (h_r : List Ob) (e_ : F56 lf a b h = some (r_, h_r)) : CD Go.Proofs.Try.prog 56 [a, b] h r_ h_r :=
  CD.ofK (A := A56) (σ := ⟨call56 lf, cvN, subN⟩) (c := k56) Go.Proofs.Try.func56 ok56 en56 (show 2 ≤ 8 by decide) (by kernel_rfl) (call56_ok lf) cvN_ok (And.intro True.intro (And.intro True.intro True.intro)) ((F56_eq lf a b h).trans e_)
def w56 (f : V → V → List Ob → Option (V × List Ob)) (vs : List V) (h : List Ob) : Option (V × List Ob) := castCons vs fun c1 l1 => castCons l1 fun c2 l2 => castNil l2 (f c1 c2 h)
noncomputable def W56 (lf : Nat) : List V → List Ob → Option (V × List Ob) := w56 (F56 lf)
theorem W56_ok (lf : Nat) : ∀ args h v h', W56 lf args h = some (v, h') → CD Go.Proofs.Try.prog 56 args h v h' := by
  intro vs h r h' e0
  simp only [W56, w56] at e0
  obtain ⟨c1, l1, rfl, e1⟩ := castCons_inv e0
  obtain ⟨c2, l2, rfl, e2⟩ := castCons_inv e1
  obtain ⟨rfl, e3⟩ := castNil_inv e2
  have e := e3
  exact F56_ok lf c1 c2 h r h' e

/-! 86: slices.IndexFunc[[]int,int] -/
def A86 : List (Nat × Sh) := [(4, (.int .i64)), (5, (.int .i64)), (7, (.int .i64)), (8, (.int .i64)), (9, .bool), (10, (.int .i64)), (13, (.int .i64)), (15, (.int .i64)), (16, .bool), (17, (.int .i64)), (18, (.int .i64))]
noncomputable def call86 (lf : Nat) (cv : CallVS) : CallS := callN
theorem call86_ok (lf : Nat) (cv : CallVS) (hcv : CvOk Go.Proofs.Try.prog cv) : CallOk Go.Proofs.Try.prog (call86 lf cv) := callN_ok
def o86_0 : Outs := [((.exit 0), [], []), (.ret, [4], [(.int .i64)])]
def k86_0 : KC := (.seq (.reg [⟨(some 9), none, (.op (.bin .lss (.t 8) (.t 7))), []⟩]) (.seq (.cond (.t 9) .skip (.exit 0)) (.seq (.block 1 (.seq (.reg [⟨(some 10), none, (.op (.mv (.t 8))), []⟩, ⟨(some 5), none, (.op (.mv (.t 10))), []⟩]) (.seq (.reg [⟨(some 11), none, (.op (.mv (.t 1))), []⟩, ⟨(some 12), none, (.op (.mv (.t 0))), []⟩, ⟨(some 13), none, (.op (.mv (.t 5))), []⟩, ⟨(some 14), none, (.op (.iaddrL 1 (.t 12) (.t 13))), []⟩, ⟨(some 15), none, (.op (.load1 (.t 14))), []⟩, ⟨(some 16), none, (.callv (.t 11) [(.t 15)]), []⟩]) (.cond (.t 16) (.seq (.reg [⟨(some 17), none, (.op (.mv (.t 5))), []⟩, ⟨(some 4), none, (.op (.mv (.t 17))), []⟩]) .ret) .skip)))) (.reg [⟨(some 18), none, (.op (.bin .add (.t 8) (.c (.int .i64 1)))), []⟩, ⟨(some 8), none, (.op (.mv (.t 18))), []⟩]))))
def w86_0 (f : V → V → Int → Int → List Ob → SubR) (vs : List V) (h : List Ob) : SubR := castCons vs fun c1 l1 => castCons l1 fun c2 l2 => castCons l2 fun c3 l3 => castInt .i64 c3 fun n4 => castCons l3 fun c5 l5 => castInt .i64 c5 fun n6 => castNil l5 (f c1 c2 n4 n6 h)
noncomputable def B86_0 (lf : Nat) (cv : CallVS) (self : V → V → Int → Int → List Ob → SubR) (s : V) (f : V) (x7 : Int) (x8 : Int) (h : List Ob) : SubR :=
cB (decide (x8 < x7)) (
bind1 (er (.iaddrL 1 (.c s) (.c (.int .i64 x8))) h) fun x14 =>
bind1 (er (.load1 (.c x14)) h) fun v =>
castInt .i64 v fun x15 =>
bind2 (cv f [(.int .i64 x15)] h) fun v1 h_ =>
castBool v1 fun x16 =>
cB x16 (
some (.ret, [(.int .i64 x8)], h_)) (
self s f x7 (IntKind.i64.wrap (x8 + (1))) h_)) (
some ((.exit 0), [], h))
noncomputable def L86_0 (lf : Nat) (cv : CallVS) : Nat → V → V → Int → Int → List Ob → SubR
  | 0 => fun _ _ _ _ _ => none
  | n + 1 => B86_0 lf cv (L86_0 lf cv n)
theorem B86_0_eq (lf : Nat) (cv : CallVS) (self : V → V → Int → Int → List Ob → SubR) (s : V) (f : V) (x7 : Int) (x8 : Int) (h : List Ob) : evCK A86 ⟨call86 lf cv, cv, subN⟩ k86_0 [(0, s), (1, f), (7, (.int .i64 x7)), (8, (.int .i64 x8))] h (endL [0, 1, 7, 8] [.any, .any, (.int .i64), (.int .i64)] o86_0 (w86_0 self)) = B86_0 lf cv self s f x7 x8 h := by kernel_rfl
theorem L86_0_ok (lf : Nat) (cv : CallVS) (hcv : CvOk Go.Proofs.Try.prog cv) : ∀ n, SubOk Go.Proofs.Try.prog (.loop k86_0.er) [0, 1, 7, 8] o86_0 (w86_0 (L86_0 lf cv n)) := by
  refine SubOk.loop (A := A86) (σ := ⟨call86 lf cv, cv, subN⟩) (c := k86_0) (shs := [.any, .any, (.int .i64), (.int .i64)]) (G := fun n => w86_0 (L86_0 lf cv n)) (call86_ok lf cv hcv) hcv (And.intro True.intro (And.intro (And.intro True.intro True.intro) (And.intro (And.intro True.intro (And.intro True.intro (And.intro (And.intro True.intro True.intro) True.intro))) True.intro))) ?_ ?_
  · intro vs h r e0
    simp only [w86_0] at e0
    obtain ⟨c1, l1, rfl, e1⟩ := castCons_inv e0
    obtain ⟨c2, l2, rfl, e2⟩ := castCons_inv e1
    obtain ⟨c3, l3, rfl, e3⟩ := castCons_inv e2
    obtain ⟨y2, rfl, e4⟩ := castInt_inv e3
    obtain ⟨c4, l4, rfl, e5⟩ := castCons_inv e4
    obtain ⟨y3, rfl, e6⟩ := castInt_inv e5
    obtain ⟨rfl, e7⟩ := castNil_inv e6
    have e := e7
    cases e
  · intro n vs h r e0
    simp only [w86_0] at e0
    obtain ⟨c1, l1, rfl, e1⟩ := castCons_inv e0
    obtain ⟨c2, l2, rfl, e2⟩ := castCons_inv e1
    obtain ⟨c3, l3, rfl, e3⟩ := castCons_inv e2
    obtain ⟨y2, rfl, e4⟩ := castInt_inv e3
    obtain ⟨c4, l4, rfl, e5⟩ := castCons_inv e4
    obtain ⟨y3, rfl, e6⟩ := castInt_inv e5
    obtain ⟨rfl, e7⟩ := castNil_inv e6
    have e := e7
    exact (B86_0_eq lf cv (L86_0 lf cv n) c1 c2 y2 y3 h).trans e
def k86 : KC := (.seq (.reg [⟨(some 4), none, (.op (.mv (.c (.int .i64 0)))), []⟩]) (.seq (.seq (.reg [⟨(some 6), none, (.op (.mv (.t 0))), []⟩, ⟨(some 7), none, (.op (.lenL (.t 6))), []⟩, ⟨(some 8), none, (.op (.mv (.c (.int .i64 0)))), []⟩]) (.block 0 (.sub 0 (.loop k86_0.er) [0, 1, 7, 8] o86_0))) (.seq (.reg [⟨(some 4), none, (.op (.mv (.c (.int .i64 (-0 - 1))))), []⟩]) .ret)))
noncomputable def F86 (lf : Nat) (cv : CallVS) (s : V) (f : V) (h : List Ob) : Option (V × List Ob) :=
bind1 (er (.lenL (.c s)) h) fun v =>
castInt .i64 v fun x7 =>
bind3 (L86_0 lf cv lf s f x7 (0) h) fun ex vs h_ =>
cB (decide (ex = (.exit 0))) (
castNil vs (
some ((.int .i64 (-1)), h_))) (
cB (decide (ex = .ret)) (
castCons vs fun c l =>
castInt .i64 c fun x4 =>
castNil l (
some ((.int .i64 x4), h_))) (
none))
theorem F86_eq (lf : Nat) (cv : CallVS) (s : V) (f : V) (h : List Ob) : evCK A86 ⟨call86 lf cv, cv, subC 0 (w86_0 (L86_0 lf cv lf)) (subN)⟩ k86 (entryK [s, f]) h (endF c86.res) = F86 lf cv s f h := by kernel_rfl
theorem F86_ok (lf : Nat) (cv : CallVS) (hcv : CvOk Go.Proofs.Try.prog cv) (s : V) (f : V) (h : List Ob) (r_ : V) (h_r : List Ob) (e_ : F86 lf cv s f h = some (r_, h_r)) : CD Go.Proofs.Try.prog 86 [s, f] h r_ h_r :=
  CD.ofK (A := A86) (σ := ⟨call86 lf cv, cv, subC 0 (w86_0 (L86_0 lf cv lf)) (subN)⟩) (c := k86) Go.Proofs.Try.func86 ok86 en86 (show 2 ≤ 19 by decide) (by kernel_rfl) (call86_ok lf cv hcv) hcv (And.intro True.intro (And.intro (And.intro True.intro (L86_0_ok lf cv hcv lf)) (And.intro True.intro True.intro))) ((F86_eq lf cv s f h).trans e_)
def w86 (f : V → V → List Ob → Option (V × List Ob)) (vs : List V) (h : List Ob) : Option (V × List Ob) := castCons vs fun c1 l1 => castCons l1 fun c2 l2 => castNil l2 (f c1 c2 h)
noncomputable def W86 (lf : Nat) (cv : CallVS) : List V → List Ob → Option (V × List Ob) := w86 (F86 lf cv)
theorem W86_ok (lf : Nat) (cv : CallVS) (hcv : CvOk Go.Proofs.Try.prog cv) : ∀ args h v h', W86 lf cv args h = some (v, h') → CD Go.Proofs.Try.prog 86 args h v h' := by
  intro vs h r h' e0
  simp only [W86, w86] at e0
  obtain ⟨c1, l1, rfl, e1⟩ := castCons_inv e0
  obtain ⟨c2, l2, rfl, e2⟩ := castCons_inv e1
  obtain ⟨rfl, e3⟩ := castNil_inv e2
  have e := e3
  exact F86_ok lf cv hcv c1 c2 h r h' e

/-! 67: slices.ContainsFunc[[]int,int] -/
def A67 : List (Nat × Sh) := [(4, .bool), (7, (.int .i64)), (8, .bool)]
noncomputable def call67 (lf : Nat) (cv : CallVS) : CallS := callC 86 (W86 lf cv) (callN)
theorem call67_ok (lf : Nat) (cv : CallVS) (hcv : CvOk Go.Proofs.Try.prog cv) : CallOk Go.Proofs.Try.prog (call67 lf cv) := callC_ok (W86_ok lf cv hcv) (callN_ok)
def k67 : KC := (.seq (.reg [⟨(some 4), none, (.op (.mv (.c (.bool false)))), []⟩]) (.seq (.reg [⟨(some 5), none, (.op (.mv (.t 0))), []⟩, ⟨(some 6), none, (.op (.mv (.t 1))), []⟩, ⟨(some 7), none, (.call 86 [(.t 5), (.t 6)]), []⟩, ⟨(some 8), none, (.op (.bin .geq (.t 7) (.c (.int .i64 0)))), []⟩, ⟨(some 4), none, (.op (.mv (.t 8))), []⟩]) .ret))
noncomputable def F67 (lf : Nat) (cv : CallVS) (s : V) (f : V) (h : List Ob) : Option (V × List Ob) :=
bind2 (F86 lf cv s f h) fun v h_ =>
castInt .i64 v fun x7 =>
some ((.bool (decide (x7 ≥ (0)))), h_)
theorem F67_eq (lf : Nat) (cv : CallVS) (s : V) (f : V) (h : List Ob) : evCK A67 ⟨call67 lf cv, cv, subN⟩ k67 (entryK [s, f]) h (endF c67.res) = F67 lf cv s f h := by kernel_rfl
theorem F67_ok (lf : Nat) (cv : CallVS) (hcv : CvOk Go.Proofs.Try.prog cv) (s : V) (f : V) (h : List Ob) (r_ : V) (h_r : List Ob) (e_ : F67 lf cv s f h = some (r_, h_r)) : CD Go.Proofs.Try.prog 67 [s, f] h r_ h_r :=
  CD.ofK (A := A67) (σ := ⟨call67 lf cv, cv, subN⟩) (c := k67) Go.Proofs.Try.func67 ok67 en67 (show 2 ≤ 9 by decide) (by kernel_rfl) (call67_ok lf cv hcv) hcv (And.intro True.intro (And.intro True.intro True.intro)) ((F67_eq lf cv s f h).trans e_)
def w67 (f : V → V → List Ob → Option (V × List Ob)) (vs : List V) (h : List Ob) : Option (V × List Ob) := castCons vs fun c1 l1 => castCons l1 fun c2 l2 => castNil l2 (f c1 c2 h)
noncomputable def W67 (lf : Nat) (cv : CallVS) : List V → List Ob → Option (V × List Ob) := w67 (F67 lf cv)
theorem W67_ok (lf : Nat) (cv : CallVS) (hcv : CvOk Go.Proofs.Try.prog cv) : ∀ args h v h', W67 lf cv args h = some (v, h') → CD Go.Proofs.Try.prog 67 args h v h' := by
  intro vs h r h' e0
  simp only [W67, w67] at e0
  obtain ⟨c1, l1, rfl, e1⟩ := castCons_inv e0
  obtain ⟨c2, l2, rfl, e2⟩ := castCons_inv e1
  obtain ⟨rfl, e3⟩ := castNil_inv e2
  have e := e3
  exact F67_ok lf cv hcv c1 c2 h r h' e

/-! 68: wainscot/node.Formed$1 -/
def A68 : List (Nat × Sh) := [(0, (.int .i64)), (2, .bool), (3, (.int .i64)), (4, .bool), (5, .bool), (6, (.int .i64)), (7, .bool), (8, .bool)]
noncomputable def call68 (lf : Nat) : CallS := callN
theorem call68_ok (lf : Nat) : CallOk Go.Proofs.Try.prog (call68 lf) := callN_ok
def k68 : KC := (.seq (.reg [⟨(some 2), none, (.op (.mv (.c (.bool false)))), []⟩]) (.seq (.reg [⟨(some 3), none, (.op (.mv (.t 0))), []⟩, ⟨(some 4), none, (.op (.bin .lss (.t 3) (.c (.int .i64 1)))), []⟩, ⟨(some 5), none, (.op (.mv (.t 4))), []⟩, ⟨(some 6), (some (5, false)), (.op (.mv (.t 0))), []⟩, ⟨(some 7), (some (5, false)), (.op (.bin .geq (.t 6) (.c (.int .i64 10000)))), []⟩, ⟨(some 8), none, (.op (.pick (.t 5) (.c (.bool true)) (.t 7))), []⟩, ⟨(some 2), none, (.op (.mv (.t 8))), []⟩]) .ret))
noncomputable def F68 (lf : Nat) (k : Int) (h : List Ob) : Option (V × List Ob) :=
cB (decide (k < (1))) (
some ((.bool true), h)) (
some ((.bool (decide (k ≥ (10000)))), h))
theorem F68_eq (lf : Nat) (k : Int) (h : List Ob) : evCK A68 ⟨call68 lf, cvN, subN⟩ k68 (entryK [(.int .i64 k)]) h (endF c68.res) = F68 lf k h := by kernel_rfl
theorem F68_ok (lf : Nat) (k : Int) (h : List Ob) (r_ : V) (h_r : List Ob) (e_ : F68 lf k h = some (r_, h_r)) : CD Go.Proofs.Try.prog 68 [(.int .i64 k)] h r_ h_r :=
  CD.ofK (A := A68) (σ := ⟨call68 lf, cvN, subN⟩) (c := k68) Go.Proofs.Try.func68 ok68 en68 (show 1 ≤ 9 by decide) (by kernel_rfl) (call68_ok lf) cvN_ok (And.intro True.intro (And.intro True.intro True.intro)) ((F68_eq lf k h).trans e_)
def w68 (f : Int → List Ob → Option (V × List Ob)) (vs : List V) (h : List Ob) : Option (V × List Ob) := castCons vs fun c1 l1 => castInt .i64 c1 fun n2 => castNil l1 (f n2 h)
noncomputable def W68 (lf : Nat) : List V → List Ob → Option (V × List Ob) := w68 (F68 lf)
theorem W68_ok (lf : Nat) : ∀ args h v h', W68 lf args h = some (v, h') → CD Go.Proofs.Try.prog 68 args h v h' := by
  intro vs h r h' e0
  simp only [W68, w68] at e0
  obtain ⟨c1, l1, rfl, e1⟩ := castCons_inv e0
  obtain ⟨y0, rfl, e2⟩ := castInt_inv e1
  obtain ⟨rfl, e3⟩ := castNil_inv e2
  have e := e3
  exact F68_ok lf y0 h r h' e

/-! 43: wainscot/node.Formed -/
def A43 : List (Nat × Sh) := [(0, (.agg [.bool, .any, .any, .any])), (2, .bool), (3, (.int .i64)), (5, (.int .i64)), (9, (.int .i64)), (10, (.int .i64)), (11, .bool), (12, (.int .i64)), (16, (.int .i64)), (17, .bool), (18, .bool), (20, (.int .i64)), (21, .bool), (22, .bool), (23, .bool), (24, (.int .i64)), (25, .bool), (26, .bool), (29, (.int .i64)), (30, (.int .i64)), (34, (.int .i64)), (35, .bool), (36, .bool), (37, .bool), (38, (.int .i64)), (40, .bool), (41, .bool), (44, (.int .i64)), (45, .bool), (46, .bool), (49, (.int .i64)), (50, .bool), (51, .bool), (52, .bool), (55, (.int .i64)), (58, (.int .i64)), (59, (.int .i64)), (60, .bool), (61, .bool), (62, .bool), (65, .bool), (66, .bool), (67, .bool), (70, (.int .i64)), (71, .bool), (72, .bool), (75, (.int .i64)), (78, (.int .i64)), (79, .bool), (80, .bool), (83, (.int .i64)), (84, (.int .i64)), (85, .bool), (86, (.int .i64)), (91, (.int .i64)), (94, (.int .i64)), (96, (.int .i64)), (97, (.int .i64)), (98, .bool), (99, (.int .i64))]
noncomputable def cv43 (lf : Nat) : CallVS := cvC 68 (W68 lf) (cvN)
theorem cv43_ok (lf : Nat) : CvOk Go.Proofs.Try.prog (cv43 lf) := cvC_ok (W68_ok lf) (cvN_ok)
noncomputable def call43 (lf : Nat) : CallS := callC 67 (W67 lf (cv43 lf)) (callC 56 (W56 lf) (callN))
theorem call43_ok (lf : Nat) : CallOk Go.Proofs.Try.prog (call43 lf) := callC_ok (W67_ok lf (cv43 lf) (cv43_ok lf)) (callC_ok (W56_ok lf) (callN_ok))
def o43_0 : Outs := [((.exit 0), [], []), (.ret, [2], [.bool])]
def k43_0 : KC := (.seq (.reg [⟨(some 11), none, (.op (.bin .lss (.t 10) (.t 9))), []⟩]) (.seq (.cond (.t 11) .skip (.exit 0)) (.seq (.block 1 (.seq (.reg [⟨(some 12), none, (.op (.mv (.t 10))), []⟩, ⟨(some 13), none, (.op (.iaddrL 1 (.t 8) (.t 10))), []⟩, ⟨(some 14), none, (.op (.load1 (.t 13))), []⟩, ⟨(some 3), none, (.op (.mv (.t 12))), []⟩, ⟨(some 4), none, (.op (.mv (.t 14))), []⟩]) (.seq (.reg [⟨(some 15), none, (.op (.mv (.t 4))), []⟩, ⟨(some 16), none, (.op (.lenL (.t 15))), []⟩, ⟨(some 17), none, (.op (.bin .eql (.t 16) (.c (.int .i64 0)))), []⟩, ⟨(some 18), none, (.op (.mv (.t 17))), []⟩, ⟨(some 19), (some (18, false)), (.op (.mv (.t 4))), []⟩, ⟨(some 20), (some (18, false)), (.op (.lenL (.t 19))), []⟩, ⟨(some 21), (some (18, false)), (.op (.bin .gtr (.t 20) (.c (.int .i64 120)))), []⟩, ⟨(some 22), none, (.op (.pick (.t 18) (.c (.bool true)) (.t 21))), []⟩, ⟨(some 23), none, (.op (.mv (.t 22))), []⟩, ⟨(some 24), (some (23, false)), (.op (.mv (.t 3))), []⟩, ⟨(some 25), (some (23, false)), (.op (.bin .gtr (.t 24) (.c (.int .i64 0)))), []⟩, ⟨(some 26), (some (23, false)), (.op (.mv (.t 25))), []⟩, ⟨(some 27), (some (26, true)), (.op (.faddr 1 (.t 1))), []⟩, ⟨(some 28), (some (26, true)), (.op (.load1 (.t 27))), []⟩, ⟨(some 29), (some (26, true)), (.op (.mv (.t 3))), []⟩, ⟨(some 30), (some (26, true)), (.op (.bin .sub (.t 29) (.c (.int .i64 1)))), []⟩, ⟨(some 31), (some (26, true)), (.op (.iaddrL 1 (.t 28) (.t 30))), []⟩, ⟨(some 32), (some (26, true)), (.op (.load1 (.t 31))), []⟩, ⟨(some 33), (some (26, true)), (.op (.mv (.t 4))), []⟩, ⟨(some 34), (some (26, true)), (.call 56 [(.t 32), (.t 33)]), []⟩, ⟨(some 35), (some (26, true)), (.op (.bin .geq (.t 34) (.c (.int .i64 0)))), []⟩, ⟨(some 36), (some (23, false)), (.op (.pick (.t 26) (.t 35) (.c (.bool false)))), []⟩, ⟨(some 37), none, (.op (.pick (.t 23) (.c (.bool true)) (.t 36))), []⟩]) (.cond (.t 37) (.seq (.reg [⟨(some 2), none, (.op (.mv (.c (.bool false)))), []⟩]) .ret) .skip)))) (.reg [⟨(some 38), none, (.op (.bin .add (.t 10) (.c (.int .i64 1)))), []⟩, ⟨(some 10), none, (.op (.mv (.t 38))), []⟩]))))
def w43_0 (f : V → V → Int → Int → List Ob → SubR) (vs : List V) (h : List Ob) : SubR := castCons vs fun c1 l1 => castCons l1 fun c2 l2 => castCons l2 fun c3 l3 => castInt .i64 c3 fun n4 => castCons l3 fun c5 l5 => castInt .i64 c5 fun n6 => castNil l5 (f c1 c2 n4 n6 h)
noncomputable def B43_0 (lf : Nat) (self : V → V → Int → Int → List Ob → SubR) (n_ : V) (x8 : V) (x9 : Int) (x10 : Int) (h : List Ob) : SubR :=
cB (decide (x10 < x9)) (
bind1 (er (.iaddrL 1 (.c x8) (.c (.int .i64 x10))) h) fun x13 =>
bind1 (er (.load1 (.c x13)) h) fun x14 =>
bind1 (er (.lenL (.c x14)) h) fun v =>
castInt .i64 v fun x16 =>
cB (x16 == (0)) (
some (.ret, [(.bool false)], h)) (
bind1 (er (.lenL (.c x14)) h) fun v1 =>
castInt .i64 v1 fun x20 =>
cB (decide (x20 > (120))) (
some (.ret, [(.bool false)], h)) (
cB (decide (x10 > (0))) (
bind1 (er (.faddr 1 (.c n_)) h) fun x27 =>
bind1 (er (.load1 (.c x27)) h) fun x28 =>
bind1 (er (.iaddrL 1 (.c x28) (.c (.int .i64 (IntKind.i64.wrap (x10 - (1)))))) h) fun x31 =>
bind1 (er (.load1 (.c x31)) h) fun x32 =>
bind2 (F56 lf x32 x14 h) fun v2 h_ =>
castInt .i64 v2 fun x34 =>
cB (decide (x34 ≥ (0))) (
some (.ret, [(.bool false)], h_)) (
self n_ x8 x9 (IntKind.i64.wrap (x10 + (1))) h_)) (
self n_ x8 x9 (IntKind.i64.wrap (x10 + (1))) h)))) (
some ((.exit 0), [], h))
noncomputable def L43_0 (lf : Nat) : Nat → V → V → Int → Int → List Ob → SubR
  | 0 => fun _ _ _ _ _ => none
  | n + 1 => B43_0 lf (L43_0 lf n)
theorem B43_0_eq (lf : Nat) (self : V → V → Int → Int → List Ob → SubR) (n_ : V) (x8 : V) (x9 : Int) (x10 : Int) (h : List Ob) : evCK A43 ⟨call43 lf, (cv43 lf), subN⟩ k43_0 [(1, n_), (8, x8), (9, (.int .i64 x9)), (10, (.int .i64 x10))] h (endL [1, 8, 9, 10] [.any, .any, (.int .i64), (.int .i64)] o43_0 (w43_0 self)) = B43_0 lf self n_ x8 x9 x10 h := by kernel_rfl
theorem L43_0_ok (lf : Nat) : ∀ n, SubOk Go.Proofs.Try.prog (.loop k43_0.er) [1, 8, 9, 10] o43_0 (w43_0 (L43_0 lf n)) := by
  refine SubOk.loop (A := A43) (σ := ⟨call43 lf, (cv43 lf), subN⟩) (c := k43_0) (shs := [.any, .any, (.int .i64), (.int .i64)]) (G := fun n => w43_0 (L43_0 lf n)) (call43_ok lf) (cv43_ok lf) (And.intro True.intro (And.intro (And.intro True.intro True.intro) (And.intro (And.intro True.intro (And.intro True.intro (And.intro (And.intro True.intro True.intro) True.intro))) True.intro))) ?_ ?_
  · intro vs h r e0
    simp only [w43_0] at e0
    obtain ⟨c1, l1, rfl, e1⟩ := castCons_inv e0
    obtain ⟨c2, l2, rfl, e2⟩ := castCons_inv e1
    obtain ⟨c3, l3, rfl, e3⟩ := castCons_inv e2
    obtain ⟨y2, rfl, e4⟩ := castInt_inv e3
    obtain ⟨c4, l4, rfl, e5⟩ := castCons_inv e4
    obtain ⟨y3, rfl, e6⟩ := castInt_inv e5
    obtain ⟨rfl, e7⟩ := castNil_inv e6
    have e := e7
    cases e
  · intro n vs h r e0
    simp only [w43_0] at e0
    obtain ⟨c1, l1, rfl, e1⟩ := castCons_inv e0
    obtain ⟨c2, l2, rfl, e2⟩ := castCons_inv e1
    obtain ⟨c3, l3, rfl, e3⟩ := castCons_inv e2
    obtain ⟨y2, rfl, e4⟩ := castInt_inv e3
    obtain ⟨c4, l4, rfl, e5⟩ := castCons_inv e4
    obtain ⟨y3, rfl, e6⟩ := castInt_inv e5
    obtain ⟨rfl, e7⟩ := castNil_inv e6
    have e := e7
    exact (B43_0_eq lf (L43_0 lf n) c1 c2 y2 y3 h).trans e
def o43_1 : Outs := [((.exit 2), [], []), (.ret, [2], [.bool])]
def k43_1 : KC := (.seq (.reg [⟨(some 85), none, (.op (.bin .lss (.t 84) (.t 83))), []⟩]) (.seq (.cond (.t 85) .skip (.exit 2)) (.seq (.block 3 (.seq (.reg [⟨(some 86), none, (.op (.mv (.t 84))), []⟩, ⟨(some 87), none, (.op (.iaddrL 1 (.t 82) (.t 84))), []⟩, ⟨(some 88), none, (.op (.load1 (.t 87))), []⟩, ⟨(some 5), none, (.op (.mv (.t 86))), []⟩, ⟨(some 6), none, (.op (.mv (.t 88))), []⟩]) (.seq (.reg [⟨(some 89), none, (.op (.faddr 1 (.t 1))), []⟩, ⟨(some 90), none, (.op (.load1 (.t 89))), []⟩, ⟨(some 91), none, (.op (.mv (.t 5))), []⟩, ⟨(some 92), none, (.op (.iaddrL 1 (.t 90) (.t 91))), []⟩, ⟨(some 93), none, (.op (.load1 (.t 92))), []⟩, ⟨(some 94), none, (.op (.lenL (.t 93))), []⟩, ⟨(some 95), none, (.op (.mv (.t 6))), []⟩, ⟨(some 96), none, (.op (.lenL (.t 95))), []⟩, ⟨(some 97), none, (.op (.bin .add (.t 94) (.t 96))), []⟩, ⟨(some 98), none, (.op (.bin .gtr (.t 97) (.c (.int .i64 160)))), []⟩]) (.cond (.t 98) (.seq (.reg [⟨(some 2), none, (.op (.mv (.c (.bool false)))), []⟩]) .ret) .skip)))) (.reg [⟨(some 99), none, (.op (.bin .add (.t 84) (.c (.int .i64 1)))), []⟩, ⟨(some 84), none, (.op (.mv (.t 99))), []⟩]))))
def w43_1 (f : V → V → Int → Int → List Ob → SubR) (vs : List V) (h : List Ob) : SubR := castCons vs fun c1 l1 => castCons l1 fun c2 l2 => castCons l2 fun c3 l3 => castInt .i64 c3 fun n4 => castCons l3 fun c5 l5 => castInt .i64 c5 fun n6 => castNil l5 (f c1 c2 n4 n6 h)
noncomputable def B43_1 (lf : Nat) (self : V → V → Int → Int → List Ob → SubR) (n_ : V) (x82 : V) (x83 : Int) (x84 : Int) (h : List Ob) : SubR :=
cB (decide (x84 < x83)) (
bind1 (er (.iaddrL 1 (.c x82) (.c (.int .i64 x84))) h) fun x87 =>
bind1 (er (.load1 (.c x87)) h) fun x88 =>
bind1 (er (.faddr 1 (.c n_)) h) fun x89 =>
bind1 (er (.load1 (.c x89)) h) fun x90 =>
bind1 (er (.iaddrL 1 (.c x90) (.c (.int .i64 x84))) h) fun x92 =>
bind1 (er (.load1 (.c x92)) h) fun x93 =>
bind1 (er (.lenL (.c x93)) h) fun v =>
castInt .i64 v fun x94 =>
bind1 (er (.lenL (.c x88)) h) fun v1 =>
castInt .i64 v1 fun x96 =>
cB (decide ((IntKind.i64.wrap (x94 + x96)) > (160))) (
some (.ret, [(.bool false)], h)) (
self n_ x82 x83 (IntKind.i64.wrap (x84 + (1))) h)) (
some ((.exit 2), [], h))
noncomputable def L43_1 (lf : Nat) : Nat → V → V → Int → Int → List Ob → SubR
  | 0 => fun _ _ _ _ _ => none
  | n + 1 => B43_1 lf (L43_1 lf n)
theorem B43_1_eq (lf : Nat) (self : V → V → Int → Int → List Ob → SubR) (n_ : V) (x82 : V) (x83 : Int) (x84 : Int) (h : List Ob) : evCK A43 ⟨call43 lf, (cv43 lf), subN⟩ k43_1 [(1, n_), (82, x82), (83, (.int .i64 x83)), (84, (.int .i64 x84))] h (endL [1, 82, 83, 84] [.any, .any, (.int .i64), (.int .i64)] o43_1 (w43_1 self)) = B43_1 lf self n_ x82 x83 x84 h := by kernel_rfl
theorem L43_1_ok (lf : Nat) : ∀ n, SubOk Go.Proofs.Try.prog (.loop k43_1.er) [1, 82, 83, 84] o43_1 (w43_1 (L43_1 lf n)) := by
  refine SubOk.loop (A := A43) (σ := ⟨call43 lf, (cv43 lf), subN⟩) (c := k43_1) (shs := [.any, .any, (.int .i64), (.int .i64)]) (G := fun n => w43_1 (L43_1 lf n)) (call43_ok lf) (cv43_ok lf) (And.intro True.intro (And.intro (And.intro True.intro True.intro) (And.intro (And.intro True.intro (And.intro True.intro (And.intro (And.intro True.intro True.intro) True.intro))) True.intro))) ?_ ?_
  · intro vs h r e0
    simp only [w43_1] at e0
    obtain ⟨c1, l1, rfl, e1⟩ := castCons_inv e0
    obtain ⟨c2, l2, rfl, e2⟩ := castCons_inv e1
    obtain ⟨c3, l3, rfl, e3⟩ := castCons_inv e2
    obtain ⟨y2, rfl, e4⟩ := castInt_inv e3
    obtain ⟨c4, l4, rfl, e5⟩ := castCons_inv e4
    obtain ⟨y3, rfl, e6⟩ := castInt_inv e5
    obtain ⟨rfl, e7⟩ := castNil_inv e6
    have e := e7
    cases e
  · intro n vs h r e0
    simp only [w43_1] at e0
    obtain ⟨c1, l1, rfl, e1⟩ := castCons_inv e0
    obtain ⟨c2, l2, rfl, e2⟩ := castCons_inv e1
    obtain ⟨c3, l3, rfl, e3⟩ := castCons_inv e2
    obtain ⟨y2, rfl, e4⟩ := castInt_inv e3
    obtain ⟨c4, l4, rfl, e5⟩ := castCons_inv e4
    obtain ⟨y3, rfl, e6⟩ := castInt_inv e5
    obtain ⟨rfl, e7⟩ := castNil_inv e6
    have e := e7
    exact (B43_1_eq lf (L43_1 lf n) c1 c2 y2 y3 h).trans e
def o43_2 : Outs := [(.ret, [2], [.bool]), (.normal, [], [])]
def k43_2 : KC := (.seq (.reg [⟨(some 68), none, (.op (.faddr 3 (.t 1))), []⟩, ⟨(some 69), none, (.op (.load1 (.t 68))), []⟩, ⟨(some 70), none, (.op (.lenL (.t 69))), []⟩, ⟨(some 71), none, (.op (.bin .gtr (.t 70) (.c (.int .i64 0)))), []⟩, ⟨(some 72), none, (.op (.mv (.t 71))), []⟩, ⟨(some 73), (some (72, false)), (.op (.faddr 2 (.t 1))), []⟩, ⟨(some 74), (some (72, false)), (.op (.load1 (.t 73))), []⟩, ⟨(some 75), (some (72, false)), (.op (.lenL (.t 74))), []⟩, ⟨(some 76), (some (72, false)), (.op (.faddr 1 (.t 1))), []⟩, ⟨(some 77), (some (72, false)), (.op (.load1 (.t 76))), []⟩, ⟨(some 78), (some (72, false)), (.op (.lenL (.t 77))), []⟩, ⟨(some 79), (some (72, false)), (.op (.bin .neq (.t 75) (.t 78))), []⟩, ⟨(some 80), none, (.op (.pick (.t 72) (.c (.bool true)) (.t 79))), []⟩]) (.cond (.t 80) (.seq (.reg [⟨(some 2), none, (.op (.mv (.c (.bool false)))), []⟩]) .ret) .skip))
def w43_2 (f : V → List Ob → SubR) (vs : List V) (h : List Ob) : SubR := castCons vs fun c1 l1 => castNil l1 (f c1 h)
noncomputable def S43_2 (lf : Nat) (n_ : V) (h : List Ob) : SubR :=
bind1 (er (.faddr 3 (.c n_)) h) fun x68 =>
bind1 (er (.load1 (.c x68)) h) fun x69 =>
bind1 (er (.lenL (.c x69)) h) fun v =>
castInt .i64 v fun x70 =>
cB (decide (x70 > (0))) (
some (.ret, [(.bool false)], h)) (
bind1 (er (.faddr 2 (.c n_)) h) fun x73 =>
bind1 (er (.load1 (.c x73)) h) fun x74 =>
bind1 (er (.lenL (.c x74)) h) fun v1 =>
castInt .i64 v1 fun x75 =>
bind1 (er (.faddr 1 (.c n_)) h) fun x76 =>
bind1 (er (.load1 (.c x76)) h) fun x77 =>
bind1 (er (.lenL (.c x77)) h) fun v2 =>
castInt .i64 v2 fun x78 =>
cB (x75 != x78) (
some (.ret, [(.bool false)], h)) (
some (.normal, [], h)))
theorem S43_2_eq (lf : Nat) (n_ : V) (h : List Ob) : evCK A43 ⟨call43 lf, (cv43 lf), subN⟩ k43_2 [(1, n_)] h (endK o43_2) = S43_2 lf n_ h := by kernel_rfl
theorem S43_2_ok (lf : Nat) : SubOk Go.Proofs.Try.prog k43_2.er [1] o43_2 (w43_2 (S43_2 lf)) := by
  refine SubOk.of (A := A43) (σ := ⟨call43 lf, (cv43 lf), subN⟩) (c := k43_2) (call43_ok lf) (cv43_ok lf) (And.intro True.intro (And.intro (And.intro True.intro True.intro) True.intro)) ?_
  intro vs h r e0
  simp only [w43_2] at e0
  obtain ⟨c1, l1, rfl, e1⟩ := castCons_inv e0
  obtain ⟨rfl, e2⟩ := castNil_inv e1
  have e := e2
  exact (S43_2_eq lf c1 h).trans e
def k43 : KC := (.seq (.reg [⟨(some 1), none, (.op (.box false (.t 0))), []⟩, ⟨(some 2), none, (.op (.mv (.c (.bool false)))), []⟩]) (.seq (.seq (.reg [⟨(some 7), none, (.op (.faddr 1 (.t 1))), []⟩, ⟨(some 8), none, (.op (.load1 (.t 7))), []⟩, ⟨(some 9), none, (.op (.lenL (.t 8))), []⟩, ⟨(some 10), none, (.op (.mv (.c (.int .i64 0)))), []⟩]) (.block 0 (.sub 0 (.loop k43_0.er) [1, 8, 9, 10] o43_0))) (.seq (.seq (.reg [⟨(some 39), none, (.op (.faddr 0 (.t 1))), []⟩, ⟨(some 40), none, (.op (.load1 (.t 39))), []⟩, ⟨(some 41), none, (.op (.un .not (.t 40))), []⟩]) (.cond (.t 41) (.seq (.reg [⟨(some 42), none, (.op (.faddr 1 (.t 1))), []⟩, ⟨(some 43), none, (.op (.load1 (.t 42))), []⟩, ⟨(some 44), none, (.op (.lenL (.t 43))), []⟩, ⟨(some 45), none, (.op (.bin .gtr (.t 44) (.c (.int .i64 0)))), []⟩, ⟨(some 46), none, (.op (.mv (.t 45))), []⟩, ⟨(some 47), (some (46, true)), (.op (.faddr 2 (.t 1))), []⟩, ⟨(some 48), (some (46, true)), (.op (.load1 (.t 47))), []⟩, ⟨(some 49), (some (46, true)), (.op (.lenL (.t 48))), []⟩, ⟨(some 50), (some (46, true)), (.op (.bin .eql (.t 49) (.c (.int .i64 0)))), []⟩, ⟨(some 51), none, (.op (.pick (.t 46) (.t 50) (.c (.bool false)))), []⟩, ⟨(some 52), none, (.op (.mv (.t 51))), []⟩, ⟨(some 53), (some (52, true)), (.op (.faddr 3 (.t 1))), []⟩, ⟨(some 54), (some (52, true)), (.op (.load1 (.t 53))), []⟩, ⟨(some 55), (some (52, true)), (.op (.lenL (.t 54))), []⟩, ⟨(some 56), (some (52, true)), (.op (.faddr 1 (.t 1))), []⟩, ⟨(some 57), (some (52, true)), (.op (.load1 (.t 56))), []⟩, ⟨(some 58), (some (52, true)), (.op (.lenL (.t 57))), []⟩, ⟨(some 59), (some (52, true)), (.op (.bin .add (.t 58) (.c (.int .i64 1)))), []⟩, ⟨(some 60), (some (52, true)), (.op (.bin .eql (.t 55) (.t 59))), []⟩, ⟨(some 61), none, (.op (.pick (.t 52) (.t 60) (.c (.bool false)))), []⟩, ⟨(some 62), none, (.op (.mv (.t 61))), []⟩, ⟨(some 63), (some (62, true)), (.op (.faddr 3 (.t 1))), []⟩, ⟨(some 64), (some (62, true)), (.op (.load1 (.t 63))), []⟩, ⟨(some 65), (some (62, true)), (.call 67 [(.t 64), (.c (.fn 68 []))]), []⟩, ⟨(some 66), (some (62, true)), (.op (.un .not (.t 65))), []⟩, ⟨(some 67), none, (.op (.pick (.t 62) (.t 66) (.c (.bool false)))), []⟩, ⟨(some 2), none, (.op (.mv (.t 67))), []⟩]) .ret) .skip)) (.seq (.sub 2 k43_2.er [1] o43_2) (.seq (.seq (.reg [⟨(some 81), none, (.op (.faddr 2 (.t 1))), []⟩, ⟨(some 82), none, (.op (.load1 (.t 81))), []⟩, ⟨(some 83), none, (.op (.lenL (.t 82))), []⟩, ⟨(some 84), none, (.op (.mv (.c (.int .i64 0)))), []⟩]) (.block 2 (.sub 1 (.loop k43_1.er) [1, 82, 83, 84] o43_1))) (.seq (.reg [⟨(some 2), none, (.op (.mv (.c (.bool true)))), []⟩]) .ret))))))
noncomputable def F43 (lf : Nat) (n_ : Bool) (n_1 : V) (n_2 : V) (n_3 : V) (h : List Ob) : Option (V × List Ob) :=
bind2 (ev (.box false (.c (.agg [(.bool n_), n_1, n_2, n_3]))) h) fun n_4 h_ =>
bind1 (er (.faddr 1 (.c n_4)) h_) fun x7 =>
bind1 (er (.load1 (.c x7)) h_) fun x8 =>
bind1 (er (.lenL (.c x8)) h_) fun v =>
castInt .i64 v fun x9 =>
bind3 (L43_0 lf lf n_4 x8 x9 (0) h_) fun ex vs h_1 =>
cB (decide (ex = (.exit 0))) (
castNil vs (
bind1 (er (.faddr 0 (.c n_4)) h_1) fun x39 =>
bind1 (er (.load1 (.c x39)) h_1) fun v1 =>
castBool v1 fun x40 =>
cB (!x40) (
bind1 (er (.faddr 1 (.c n_4)) h_1) fun x42 =>
bind1 (er (.load1 (.c x42)) h_1) fun x43 =>
bind1 (er (.lenL (.c x43)) h_1) fun v2 =>
castInt .i64 v2 fun x44 =>
cB (decide (x44 > (0))) (
bind1 (er (.faddr 2 (.c n_4)) h_1) fun x47 =>
bind1 (er (.load1 (.c x47)) h_1) fun x48 =>
bind1 (er (.lenL (.c x48)) h_1) fun v3 =>
castInt .i64 v3 fun x49 =>
cB (x49 == (0)) (
bind1 (er (.faddr 3 (.c n_4)) h_1) fun x53 =>
bind1 (er (.load1 (.c x53)) h_1) fun x54 =>
bind1 (er (.lenL (.c x54)) h_1) fun v4 =>
castInt .i64 v4 fun x55 =>
bind1 (er (.faddr 1 (.c n_4)) h_1) fun x56 =>
bind1 (er (.load1 (.c x56)) h_1) fun x57 =>
bind1 (er (.lenL (.c x57)) h_1) fun v5 =>
castInt .i64 v5 fun x58 =>
cB (x55 == (IntKind.i64.wrap (x58 + (1)))) (
bind1 (er (.faddr 3 (.c n_4)) h_1) fun x63 =>
bind1 (er (.load1 (.c x63)) h_1) fun x64 =>
bind2 (F67 lf (cv43 lf) x64 (.fn 68 []) h_1) fun v6 h_2 =>
castBool v6 fun x65 =>
some ((.bool (!x65)), h_2)) (
some ((.bool false), h_1))) (
some ((.bool false), h_1))) (
some ((.bool false), h_1))) (
bind3 (S43_2 lf n_4 h_1) fun ex1 vs1 h_2 =>
cB (decide (ex1 = .ret)) (
castCons vs1 fun c l =>
castBool c fun x2 =>
castNil l (
some ((.bool x2), h_2))) (
cB (decide (ex1 = .normal)) (
castNil vs1 (
bind1 (er (.faddr 2 (.c n_4)) h_2) fun x81 =>
bind1 (er (.load1 (.c x81)) h_2) fun x82 =>
bind1 (er (.lenL (.c x82)) h_2) fun v2 =>
castInt .i64 v2 fun x83 =>
bind3 (L43_1 lf lf n_4 x82 x83 (0) h_2) fun ex2 vs2 h_3 =>
cB (decide (ex2 = (.exit 2))) (
castNil vs2 (
some ((.bool true), h_3))) (
cB (decide (ex2 = .ret)) (
castCons vs2 fun c l =>
castBool c fun x2 =>
castNil l (
some ((.bool x2), h_3))) (
none)))) (
none))))) (
cB (decide (ex = .ret)) (
castCons vs fun c l =>
castBool c fun x2 =>
castNil l (
some ((.bool x2), h_1))) (
none))
theorem F43_eq (lf : Nat) (n_ : Bool) (n_1 : V) (n_2 : V) (n_3 : V) (h : List Ob) : evCK A43 ⟨call43 lf, (cv43 lf), subC 1 (w43_1 (L43_1 lf lf)) (subC 2 (w43_2 (S43_2 lf)) (subC 0 (w43_0 (L43_0 lf lf)) (subN)))⟩ k43 (entryK [(.agg [(.bool n_), n_1, n_2, n_3])]) h (endF c43.res) = F43 lf n_ n_1 n_2 n_3 h := by kernel_rfl
theorem F43_ok (lf : Nat) (n_ : Bool) (n_1 : V) (n_2 : V) (n_3 : V) (h : List Ob) (r_ : V) (h_r : List Ob) (e_ : F43 lf n_ n_1 n_2 n_3 h = some (r_, h_r)) : CD Go.Proofs.Try.prog 43 [(.agg [(.bool n_), n_1, n_2, n_3])] h r_ h_r :=
  CD.ofK (A := A43) (σ := ⟨call43 lf, (cv43 lf), subC 1 (w43_1 (L43_1 lf lf)) (subC 2 (w43_2 (S43_2 lf)) (subC 0 (w43_0 (L43_0 lf lf)) (subN)))⟩) (c := k43) Go.Proofs.Try.func43 ok43 en43 (show 1 ≤ 100 by decide) (by kernel_rfl) (call43_ok lf) (cv43_ok lf) (And.intro True.intro (And.intro (And.intro True.intro (L43_0_ok lf lf)) (And.intro (And.intro True.intro (And.intro (And.intro True.intro True.intro) True.intro)) (And.intro (S43_2_ok lf) (And.intro (And.intro True.intro (L43_1_ok lf lf)) (And.intro True.intro True.intro)))))) ((F43_eq lf n_ n_1 n_2 n_3 h).trans e_)
def w43 (f : Bool → V → V → V → List Ob → Option (V × List Ob)) (vs : List V) (h : List Ob) : Option (V × List Ob) := castCons vs fun c1 l1 => castAgg c1 fun n2 => castCons n2 fun c3 l3 => castBool c3 fun n4 => castCons l3 fun c5 l5 => castCons l5 fun c6 l6 => castCons l6 fun c7 l7 => castNil l7 (castNil l1 (f n4 c5 c6 c7 h))
noncomputable def W43 (lf : Nat) : List V → List Ob → Option (V × List Ob) := w43 (F43 lf)
theorem W43_ok (lf : Nat) : ∀ args h v h', W43 lf args h = some (v, h') → CD Go.Proofs.Try.prog 43 args h v h' := by
  intro vs h r h' e0
  simp only [W43, w43] at e0
  obtain ⟨c1, l1, rfl, e1⟩ := castCons_inv e0
  obtain ⟨l2, rfl, e2⟩ := castAgg_inv e1
  obtain ⟨c3, l3, rfl, e3⟩ := castCons_inv e2
  obtain ⟨y0, rfl, e4⟩ := castBool_inv e3
  obtain ⟨c4, l4, rfl, e5⟩ := castCons_inv e4
  obtain ⟨c5, l5, rfl, e6⟩ := castCons_inv e5
  obtain ⟨c6, l6, rfl, e7⟩ := castCons_inv e6
  obtain ⟨rfl, e8⟩ := castNil_inv e7
  obtain ⟨rfl, e9⟩ := castNil_inv e8
  have e := e9
  exact F43_ok lf y0 c4 c5 c6 h r h' e

/-! 84: wainscot/node.piece -/
def A84 : List (Nat × Sh) := [(7, (.int .i64)), (8, (.int .u64))]
noncomputable def call84 (lf : Nat) : CallS := callC 26 (W26 lf) (callN)
theorem call84_ok (lf : Nat) : CallOk Go.Proofs.Try.prog (call84 lf) := callC_ok (W26_ok lf) (callN_ok)
def k84 : KC := (.seq (.reg [⟨(some 4), none, (.op (.mv (.c .nils))), []⟩]) (.seq (.reg [⟨(some 5), none, (.op (.mv (.t 0))), []⟩, ⟨(some 6), none, (.op (.mv (.t 1))), []⟩, ⟨(some 7), none, (.op (.lenL (.t 6))), []⟩, ⟨(some 8), none, (.op (.toInt .u64 (.t 7))), []⟩, ⟨(some 9), none, (.call 26 [(.t 5), (.t 8)]), []⟩, ⟨(some 10), none, (.op (.mv (.t 1))), []⟩, ⟨(some 11), none, (.op (.app 1 1 (.t 9) (.t 10))), []⟩, ⟨(some 4), none, (.op (.mv (.t 11))), []⟩]) .ret))
noncomputable def F84 (lf : Nat) (b : V) (p : V) (h : List Ob) : Option (V × List Ob) :=
bind1 (er (.lenL (.c p)) h) fun v =>
castInt .i64 v fun x7 =>
bind2 (F26 lf b (IntKind.u64.wrap x7) h) fun x9 h_ =>
bind2 (ev (.app 1 1 (.c x9) (.c p)) h_) fun x11 h_1 =>
some (x11, h_1)
theorem F84_eq (lf : Nat) (b : V) (p : V) (h : List Ob) : evCK A84 ⟨call84 lf, cvN, subN⟩ k84 (entryK [b, p]) h (endF c84.res) = F84 lf b p h := by kernel_rfl
theorem F84_ok (lf : Nat) (b : V) (p : V) (h : List Ob) (r_ : V) (h_r : List Ob) (e_ : F84 lf b p h = some (r_, h_r)) : CD Go.Proofs.Try.prog 84 [b, p] h r_ h_r :=
  CD.ofK (A := A84) (σ := ⟨call84 lf, cvN, subN⟩) (c := k84) Go.Proofs.Try.func84 ok84 en84 (show 2 ≤ 12 by decide) (by kernel_rfl) (call84_ok lf) cvN_ok (And.intro True.intro (And.intro True.intro True.intro)) ((F84_eq lf b p h).trans e_)
def w84 (f : V → V → List Ob → Option (V × List Ob)) (vs : List V) (h : List Ob) : Option (V × List Ob) := castCons vs fun c1 l1 => castCons l1 fun c2 l2 => castNil l2 (f c1 c2 h)
noncomputable def W84 (lf : Nat) : List V → List Ob → Option (V × List Ob) := w84 (F84 lf)
theorem W84_ok (lf : Nat) : ∀ args h v h', W84 lf args h = some (v, h') → CD Go.Proofs.Try.prog 84 args h v h' := by
  intro vs h r h' e0
  simp only [W84, w84] at e0
  obtain ⟨c1, l1, rfl, e1⟩ := castCons_inv e0
  obtain ⟨c2, l2, rfl, e2⟩ := castCons_inv e1
  obtain ⟨rfl, e3⟩ := castNil_inv e2
  have e := e3
  exact F84_ok lf c1 c2 h r h' e

/-! 65: wainscot/node.spell -/
def A65 : List (Nat × Sh) := [(0, (.agg [.bool, .any, .any, .any])), (4, (.int .i64)), (7, (.int .i64)), (10, .bool), (14, (.int .i64)), (15, (.int .u64)), (19, (.int .i64)), (20, (.int .i64)), (21, .bool), (22, (.int .i64)), (30, (.int .i64)), (34, (.int .i64)), (39, (.int .i64)), (40, (.int .u64)), (46, (.int .i64)), (47, (.int .u64)), (51, (.int .i64)), (52, (.int .i64)), (53, .bool), (54, (.int .i64)), (62, (.int .i64)), (63, (.int .i64)), (65, (.int .i64)), (66, (.int .u64)), (68, (.int .i64))]
noncomputable def call65 (lf : Nat) : CallS := callC 84 (W84 lf) (callC 26 (W26 lf) (callN))
theorem call65_ok (lf : Nat) : CallOk Go.Proofs.Try.prog (call65 lf) := callC_ok (W84_ok lf) (callC_ok (W26_ok lf) (callN_ok))
def o65_0 : Outs := [((.exit 0), [3], [.any])]
def k65_0 : KC := (.seq (.reg [⟨(some 21), none, (.op (.bin .lss (.t 20) (.t 19))), []⟩]) (.seq (.cond (.t 21) .skip (.exit 0)) (.seq (.block 1 (.seq (.reg [⟨(some 22), none, (.op (.mv (.t 20))), []⟩, ⟨(some 23), none, (.op (.iaddrL 1 (.t 18) (.t 20))), []⟩, ⟨(some 24), none, (.op (.load1 (.t 23))), []⟩, ⟨(some 4), none, (.op (.mv (.t 22))), []⟩, ⟨(some 5), none, (.op (.mv (.t 24))), []⟩]) (.reg [⟨(some 25), none, (.op (.mv (.t 3))), []⟩, ⟨(some 26), none, (.op (.mv (.t 5))), []⟩, ⟨(some 28), none, (.op (.faddr 2 (.t 1))), []⟩, ⟨(some 29), none, (.op (.load1 (.t 28))), []⟩, ⟨(some 30), none, (.op (.mv (.t 4))), []⟩, ⟨(some 31), none, (.op (.iaddrL 1 (.t 29) (.t 30))), []⟩, ⟨(some 32), none, (.op (.load1 (.t 31))), []⟩, ⟨(some 27), none, (.call 84 [(.t 25), (.t 26)]), [⟨(some 32), none, (.op (.load1 (.t 31)))⟩, ⟨(some 31), none, (.op (.iaddrL 1 (.t 29) (.t 30)))⟩, ⟨(some 29), none, (.op (.load1 (.t 28)))⟩, ⟨(some 28), none, (.op (.faddr 2 (.t 1)))⟩]⟩, ⟨(some 33), none, (.call 84 [(.t 27), (.t 32)]), []⟩, ⟨(some 3), none, (.op (.mv (.t 33))), []⟩]))) (.reg [⟨(some 34), none, (.op (.bin .add (.t 20) (.c (.int .i64 1)))), []⟩, ⟨(some 20), none, (.op (.mv (.t 34))), []⟩]))))
def w65_0 (f : V → V → V → Int → Int → List Ob → SubR) (vs : List V) (h : List Ob) : SubR := castCons vs fun c1 l1 => castCons l1 fun c2 l2 => castCons l2 fun c3 l3 => castCons l3 fun c4 l4 => castInt .i64 c4 fun n5 => castCons l4 fun c6 l6 => castInt .i64 c6 fun n7 => castNil l6 (f c1 c2 c3 n5 n7 h)
noncomputable def B65_0 (lf : Nat) (self : V → V → V → Int → Int → List Ob → SubR) (n_ : V) (b : V) (x18 : V) (x19 : Int) (x20 : Int) (h : List Ob) : SubR :=
cB (decide (x20 < x19)) (
bind1 (er (.iaddrL 1 (.c x18) (.c (.int .i64 x20))) h) fun x23 =>
bind1 (er (.load1 (.c x23)) h) fun x24 =>
bind1 (er (.faddr 2 (.c n_)) h) fun x28 =>
bind1 (er (.load1 (.c x28)) h) fun x29 =>
bind1 (er (.iaddrL 1 (.c x29) (.c (.int .i64 x20))) h) fun x31 =>
bind1 (er (.load1 (.c x31)) h) fun x32 =>
bind2 (F84 lf b x24 h) fun x27 h_ =>
reP (er (.load1 (.c x31)) h_ = some x32) (
reP (er (.iaddrL 1 (.c x29) (.c (.int .i64 x20))) h_ = some x31) (
reP (er (.load1 (.c x28)) h_ = some x29) (
reP (er (.faddr 2 (.c n_)) h_ = some x28) (
bind2 (F84 lf x27 x32 h_) fun x33 h_1 =>
self n_ x33 x18 x19 (IntKind.i64.wrap (x20 + (1))) h_1))))) (
some ((.exit 0), [b], h))
noncomputable def L65_0 (lf : Nat) : Nat → V → V → V → Int → Int → List Ob → SubR
  | 0 => fun _ _ _ _ _ _ => none
  | n + 1 => B65_0 lf (L65_0 lf n)
theorem B65_0_eq (lf : Nat) (self : V → V → V → Int → Int → List Ob → SubR) (n_ : V) (b : V) (x18 : V) (x19 : Int) (x20 : Int) (h : List Ob) : evCK A65 ⟨call65 lf, cvN, subN⟩ k65_0 [(1, n_), (3, b), (18, x18), (19, (.int .i64 x19)), (20, (.int .i64 x20))] h (endL [1, 3, 18, 19, 20] [.any, .any, .any, (.int .i64), (.int .i64)] o65_0 (w65_0 self)) = B65_0 lf self n_ b x18 x19 x20 h := by kernel_rfl
theorem L65_0_ok (lf : Nat) : ∀ n, SubOk Go.Proofs.Try.prog (.loop k65_0.er) [1, 3, 18, 19, 20] o65_0 (w65_0 (L65_0 lf n)) := by
  refine SubOk.loop (A := A65) (σ := ⟨call65 lf, cvN, subN⟩) (c := k65_0) (shs := [.any, .any, .any, (.int .i64), (.int .i64)]) (G := fun n => w65_0 (L65_0 lf n)) (call65_ok lf) cvN_ok (And.intro True.intro (And.intro (And.intro True.intro True.intro) (And.intro (And.intro True.intro True.intro) True.intro))) ?_ ?_
  · intro vs h r e0
    simp only [w65_0] at e0
    obtain ⟨c1, l1, rfl, e1⟩ := castCons_inv e0
    obtain ⟨c2, l2, rfl, e2⟩ := castCons_inv e1
    obtain ⟨c3, l3, rfl, e3⟩ := castCons_inv e2
    obtain ⟨c4, l4, rfl, e4⟩ := castCons_inv e3
    obtain ⟨y3, rfl, e5⟩ := castInt_inv e4
    obtain ⟨c5, l5, rfl, e6⟩ := castCons_inv e5
    obtain ⟨y4, rfl, e7⟩ := castInt_inv e6
    obtain ⟨rfl, e8⟩ := castNil_inv e7
    have e := e8
    cases e
  · intro n vs h r e0
    simp only [w65_0] at e0
    obtain ⟨c1, l1, rfl, e1⟩ := castCons_inv e0
    obtain ⟨c2, l2, rfl, e2⟩ := castCons_inv e1
    obtain ⟨c3, l3, rfl, e3⟩ := castCons_inv e2
    obtain ⟨c4, l4, rfl, e4⟩ := castCons_inv e3
    obtain ⟨y3, rfl, e5⟩ := castInt_inv e4
    obtain ⟨c5, l5, rfl, e6⟩ := castCons_inv e5
    obtain ⟨y4, rfl, e7⟩ := castInt_inv e6
    obtain ⟨rfl, e8⟩ := castNil_inv e7
    have e := e8
    exact (B65_0_eq lf (L65_0 lf n) c1 c2 c3 y3 y4 h).trans e
def o65_1 : Outs := [((.exit 2), [6], [.any])]
def k65_1 : KC := (.seq (.reg [⟨(some 53), none, (.op (.bin .lss (.t 52) (.t 51))), []⟩]) (.seq (.cond (.t 53) .skip (.exit 2)) (.seq (.block 3 (.seq (.reg [⟨(some 54), none, (.op (.mv (.t 52))), []⟩, ⟨(some 55), none, (.op (.iaddrL 1 (.t 50) (.t 52))), []⟩, ⟨(some 56), none, (.op (.load1 (.t 55))), []⟩, ⟨(some 7), none, (.op (.mv (.t 54))), []⟩, ⟨(some 8), none, (.op (.mv (.t 56))), []⟩]) (.reg [⟨(some 57), none, (.op (.mv (.t 6))), []⟩, ⟨(some 58), none, (.op (.mv (.t 8))), []⟩, ⟨(some 60), none, (.op (.faddr 3 (.t 1))), []⟩, ⟨(some 61), none, (.op (.load1 (.t 60))), []⟩, ⟨(some 62), none, (.op (.mv (.t 7))), []⟩, ⟨(some 63), none, (.op (.bin .add (.t 62) (.c (.int .i64 1)))), []⟩, ⟨(some 64), none, (.op (.iaddrL 1 (.t 61) (.t 63))), []⟩, ⟨(some 65), none, (.op (.load1 (.t 64))), []⟩, ⟨(some 66), none, (.op (.toInt .u64 (.t 65))), []⟩, ⟨(some 59), none, (.call 84 [(.t 57), (.t 58)]), [⟨(some 65), none, (.op (.load1 (.t 64)))⟩, ⟨(some 64), none, (.op (.iaddrL 1 (.t 61) (.t 63)))⟩, ⟨(some 61), none, (.op (.load1 (.t 60)))⟩, ⟨(some 60), none, (.op (.faddr 3 (.t 1)))⟩]⟩, ⟨(some 67), none, (.call 26 [(.t 59), (.t 66)]), []⟩, ⟨(some 6), none, (.op (.mv (.t 67))), []⟩]))) (.reg [⟨(some 68), none, (.op (.bin .add (.t 52) (.c (.int .i64 1)))), []⟩, ⟨(some 52), none, (.op (.mv (.t 68))), []⟩]))))
def w65_1 (f : V → V → V → Int → Int → List Ob → SubR) (vs : List V) (h : List Ob) : SubR := castCons vs fun c1 l1 => castCons l1 fun c2 l2 => castCons l2 fun c3 l3 => castCons l3 fun c4 l4 => castInt .i64 c4 fun n5 => castCons l4 fun c6 l6 => castInt .i64 c6 fun n7 => castNil l6 (f c1 c2 c3 n5 n7 h)
noncomputable def B65_1 (lf : Nat) (self : V → V → V → Int → Int → List Ob → SubR) (n_ : V) (b : V) (x50 : V) (x51 : Int) (x52 : Int) (h : List Ob) : SubR :=
cB (decide (x52 < x51)) (
bind1 (er (.iaddrL 1 (.c x50) (.c (.int .i64 x52))) h) fun x55 =>
bind1 (er (.load1 (.c x55)) h) fun x56 =>
bind1 (er (.faddr 3 (.c n_)) h) fun x60 =>
bind1 (er (.load1 (.c x60)) h) fun x61 =>
bind1 (er (.iaddrL 1 (.c x61) (.c (.int .i64 (IntKind.i64.wrap (x52 + (1)))))) h) fun x64 =>
bind1 (er (.load1 (.c x64)) h) fun v =>
castInt .i64 v fun x65 =>
bind2 (F84 lf b x56 h) fun x59 h_ =>
reP (er (.load1 (.c x64)) h_ = some (.int .i64 x65)) (
reP (er (.iaddrL 1 (.c x61) (.c (.int .i64 (IntKind.i64.wrap (x52 + (1)))))) h_ = some x64) (
reP (er (.load1 (.c x60)) h_ = some x61) (
reP (er (.faddr 3 (.c n_)) h_ = some x60) (
bind2 (F26 lf x59 (IntKind.u64.wrap x65) h_) fun x67 h_1 =>
self n_ x67 x50 x51 (IntKind.i64.wrap (x52 + (1))) h_1))))) (
some ((.exit 2), [b], h))
noncomputable def L65_1 (lf : Nat) : Nat → V → V → V → Int → Int → List Ob → SubR
  | 0 => fun _ _ _ _ _ _ => none
  | n + 1 => B65_1 lf (L65_1 lf n)
theorem B65_1_eq (lf : Nat) (self : V → V → V → Int → Int → List Ob → SubR) (n_ : V) (b : V) (x50 : V) (x51 : Int) (x52 : Int) (h : List Ob) : evCK A65 ⟨call65 lf, cvN, subN⟩ k65_1 [(1, n_), (6, b), (50, x50), (51, (.int .i64 x51)), (52, (.int .i64 x52))] h (endL [1, 6, 50, 51, 52] [.any, .any, .any, (.int .i64), (.int .i64)] o65_1 (w65_1 self)) = B65_1 lf self n_ b x50 x51 x52 h := by kernel_rfl
theorem L65_1_ok (lf : Nat) : ∀ n, SubOk Go.Proofs.Try.prog (.loop k65_1.er) [1, 6, 50, 51, 52] o65_1 (w65_1 (L65_1 lf n)) := by
  refine SubOk.loop (A := A65) (σ := ⟨call65 lf, cvN, subN⟩) (c := k65_1) (shs := [.any, .any, .any, (.int .i64), (.int .i64)]) (G := fun n => w65_1 (L65_1 lf n)) (call65_ok lf) cvN_ok (And.intro True.intro (And.intro (And.intro True.intro True.intro) (And.intro (And.intro True.intro True.intro) True.intro))) ?_ ?_
  · intro vs h r e0
    simp only [w65_1] at e0
    obtain ⟨c1, l1, rfl, e1⟩ := castCons_inv e0
    obtain ⟨c2, l2, rfl, e2⟩ := castCons_inv e1
    obtain ⟨c3, l3, rfl, e3⟩ := castCons_inv e2
    obtain ⟨c4, l4, rfl, e4⟩ := castCons_inv e3
    obtain ⟨y3, rfl, e5⟩ := castInt_inv e4
    obtain ⟨c5, l5, rfl, e6⟩ := castCons_inv e5
    obtain ⟨y4, rfl, e7⟩ := castInt_inv e6
    obtain ⟨rfl, e8⟩ := castNil_inv e7
    have e := e8
    cases e
  · intro n vs h r e0
    simp only [w65_1] at e0
    obtain ⟨c1, l1, rfl, e1⟩ := castCons_inv e0
    obtain ⟨c2, l2, rfl, e2⟩ := castCons_inv e1
    obtain ⟨c3, l3, rfl, e3⟩ := castCons_inv e2
    obtain ⟨c4, l4, rfl, e4⟩ := castCons_inv e3
    obtain ⟨y3, rfl, e5⟩ := castInt_inv e4
    obtain ⟨c5, l5, rfl, e6⟩ := castCons_inv e5
    obtain ⟨y4, rfl, e7⟩ := castInt_inv e6
    obtain ⟨rfl, e8⟩ := castNil_inv e7
    have e := e8
    exact (B65_1_eq lf (L65_1 lf n) c1 c2 c3 y3 y4 h).trans e
def k65 : KC := (.seq (.reg [⟨(some 1), none, (.op (.box false (.t 0))), []⟩, ⟨(some 2), none, (.op (.mv (.c .nils))), []⟩]) (.seq (.seq (.reg [⟨(some 9), none, (.op (.faddr 0 (.t 1))), []⟩, ⟨(some 10), none, (.op (.load1 (.t 9))), []⟩]) (.cond (.t 10) (.seq (.reg [⟨(some 11), none, (.op (.bslice 1 (.int .u8 0) 1 [(0, (.c (.int .u8 1)))])), []⟩, ⟨(some 12), none, (.op (.faddr 1 (.t 1))), []⟩, ⟨(some 13), none, (.op (.load1 (.t 12))), []⟩, ⟨(some 14), none, (.op (.lenL (.t 13))), []⟩, ⟨(some 15), none, (.op (.toInt .u64 (.t 14))), []⟩, ⟨(some 16), none, (.call 26 [(.t 11), (.t 15)]), []⟩, ⟨(some 3), none, (.op (.mv (.t 16))), []⟩]) (.seq (.seq (.reg [⟨(some 17), none, (.op (.faddr 1 (.t 1))), []⟩, ⟨(some 18), none, (.op (.load1 (.t 17))), []⟩, ⟨(some 19), none, (.op (.lenL (.t 18))), []⟩, ⟨(some 20), none, (.op (.mv (.c (.int .i64 0)))), []⟩]) (.block 0 (.sub 0 (.loop k65_0.er) [1, 3, 18, 19, 20] o65_0))) (.seq (.reg [⟨(some 35), none, (.op (.mv (.t 3))), []⟩, ⟨(some 2), none, (.op (.mv (.t 35))), []⟩]) .ret))) .skip)) (.seq (.reg [⟨(some 36), none, (.op (.bslice 1 (.int .u8 0) 1 [(0, (.c (.int .u8 2)))])), []⟩, ⟨(some 37), none, (.op (.faddr 1 (.t 1))), []⟩, ⟨(some 38), none, (.op (.load1 (.t 37))), []⟩, ⟨(some 39), none, (.op (.lenL (.t 38))), []⟩, ⟨(some 40), none, (.op (.toInt .u64 (.t 39))), []⟩, ⟨(some 41), none, (.call 26 [(.t 36), (.t 40)]), []⟩, ⟨(some 6), none, (.op (.mv (.t 41))), []⟩]) (.seq (.reg [⟨(some 42), none, (.op (.mv (.t 6))), []⟩, ⟨(some 43), none, (.op (.faddr 3 (.t 1))), []⟩, ⟨(some 44), none, (.op (.load1 (.t 43))), []⟩, ⟨(some 45), none, (.op (.iaddrL 1 (.t 44) (.c (.int .i64 0)))), []⟩, ⟨(some 46), none, (.op (.load1 (.t 45))), []⟩, ⟨(some 47), none, (.op (.toInt .u64 (.t 46))), []⟩, ⟨(some 48), none, (.call 26 [(.t 42), (.t 47)]), []⟩, ⟨(some 6), none, (.op (.mv (.t 48))), []⟩]) (.seq (.seq (.reg [⟨(some 49), none, (.op (.faddr 1 (.t 1))), []⟩, ⟨(some 50), none, (.op (.load1 (.t 49))), []⟩, ⟨(some 51), none, (.op (.lenL (.t 50))), []⟩, ⟨(some 52), none, (.op (.mv (.c (.int .i64 0)))), []⟩]) (.block 2 (.sub 1 (.loop k65_1.er) [1, 6, 50, 51, 52] o65_1))) (.seq (.reg [⟨(some 69), none, (.op (.mv (.t 6))), []⟩, ⟨(some 2), none, (.op (.mv (.t 69))), []⟩]) .ret))))))
noncomputable def F65 (lf : Nat) (n_ : Bool) (n_1 : V) (n_2 : V) (n_3 : V) (h : List Ob) : Option (V × List Ob) :=
bind2 (ev (.box false (.c (.agg [(.bool n_), n_1, n_2, n_3]))) h) fun n_4 h_ =>
bind1 (er (.faddr 0 (.c n_4)) h_) fun x9 =>
bind1 (er (.load1 (.c x9)) h_) fun v =>
castBool v fun x10 =>
cB x10 (
bind2 (ev (.bslice 1 (.int .u8 0) 1 [(0, (.c (.int .u8 (1))))]) h_) fun x11 h_1 =>
bind1 (er (.faddr 1 (.c n_4)) h_1) fun x12 =>
bind1 (er (.load1 (.c x12)) h_1) fun x13 =>
bind1 (er (.lenL (.c x13)) h_1) fun v1 =>
castInt .i64 v1 fun x14 =>
bind2 (F26 lf x11 (IntKind.u64.wrap x14) h_1) fun x16 h_2 =>
bind1 (er (.faddr 1 (.c n_4)) h_2) fun x17 =>
bind1 (er (.load1 (.c x17)) h_2) fun x18 =>
bind1 (er (.lenL (.c x18)) h_2) fun v2 =>
castInt .i64 v2 fun x19 =>
bind3 (L65_0 lf lf n_4 x16 x18 x19 (0) h_2) fun ex vs h_3 =>
cB (decide (ex = (.exit 0))) (
castCons vs fun b l =>
castNil l (
some (b, h_3))) (
none)) (
bind2 (ev (.bslice 1 (.int .u8 0) 1 [(0, (.c (.int .u8 (2))))]) h_) fun x36 h_1 =>
bind1 (er (.faddr 1 (.c n_4)) h_1) fun x37 =>
bind1 (er (.load1 (.c x37)) h_1) fun x38 =>
bind1 (er (.lenL (.c x38)) h_1) fun v1 =>
castInt .i64 v1 fun x39 =>
bind2 (F26 lf x36 (IntKind.u64.wrap x39) h_1) fun x41 h_2 =>
bind1 (er (.faddr 3 (.c n_4)) h_2) fun x43 =>
bind1 (er (.load1 (.c x43)) h_2) fun x44 =>
bind1 (er (.iaddrL 1 (.c x44) (.c (.int .i64 (0)))) h_2) fun x45 =>
bind1 (er (.load1 (.c x45)) h_2) fun v2 =>
castInt .i64 v2 fun x46 =>
bind2 (F26 lf x41 (IntKind.u64.wrap x46) h_2) fun x48 h_3 =>
bind1 (er (.faddr 1 (.c n_4)) h_3) fun x49 =>
bind1 (er (.load1 (.c x49)) h_3) fun x50 =>
bind1 (er (.lenL (.c x50)) h_3) fun v3 =>
castInt .i64 v3 fun x51 =>
bind3 (L65_1 lf lf n_4 x48 x50 x51 (0) h_3) fun ex vs h_4 =>
cB (decide (ex = (.exit 2))) (
castCons vs fun b l =>
castNil l (
some (b, h_4))) (
none))
theorem F65_eq (lf : Nat) (n_ : Bool) (n_1 : V) (n_2 : V) (n_3 : V) (h : List Ob) : evCK A65 ⟨call65 lf, cvN, subC 1 (w65_1 (L65_1 lf lf)) (subC 0 (w65_0 (L65_0 lf lf)) (subN))⟩ k65 (entryK [(.agg [(.bool n_), n_1, n_2, n_3])]) h (endF c65.res) = F65 lf n_ n_1 n_2 n_3 h := by kernel_rfl
theorem F65_ok (lf : Nat) (n_ : Bool) (n_1 : V) (n_2 : V) (n_3 : V) (h : List Ob) (r_ : V) (h_r : List Ob) (e_ : F65 lf n_ n_1 n_2 n_3 h = some (r_, h_r)) : CD Go.Proofs.Try.prog 65 [(.agg [(.bool n_), n_1, n_2, n_3])] h r_ h_r :=
  CD.ofK (A := A65) (σ := ⟨call65 lf, cvN, subC 1 (w65_1 (L65_1 lf lf)) (subC 0 (w65_0 (L65_0 lf lf)) (subN))⟩) (c := k65) Go.Proofs.Try.func65 ok65 en65 (show 1 ≤ 70 by decide) (by kernel_rfl) (call65_ok lf) cvN_ok (And.intro True.intro (And.intro (And.intro True.intro (And.intro (And.intro True.intro (And.intro (And.intro True.intro (L65_0_ok lf lf)) (And.intro True.intro True.intro))) True.intro)) (And.intro True.intro (And.intro True.intro (And.intro (And.intro True.intro (L65_1_ok lf lf)) (And.intro True.intro True.intro)))))) ((F65_eq lf n_ n_1 n_2 n_3 h).trans e_)
def w65 (f : Bool → V → V → V → List Ob → Option (V × List Ob)) (vs : List V) (h : List Ob) : Option (V × List Ob) := castCons vs fun c1 l1 => castAgg c1 fun n2 => castCons n2 fun c3 l3 => castBool c3 fun n4 => castCons l3 fun c5 l5 => castCons l5 fun c6 l6 => castCons l6 fun c7 l7 => castNil l7 (castNil l1 (f n4 c5 c6 c7 h))
noncomputable def W65 (lf : Nat) : List V → List Ob → Option (V × List Ob) := w65 (F65 lf)
theorem W65_ok (lf : Nat) : ∀ args h v h', W65 lf args h = some (v, h') → CD Go.Proofs.Try.prog 65 args h v h' := by
  intro vs h r h' e0
  simp only [W65, w65] at e0
  obtain ⟨c1, l1, rfl, e1⟩ := castCons_inv e0
  obtain ⟨l2, rfl, e2⟩ := castAgg_inv e1
  obtain ⟨c3, l3, rfl, e3⟩ := castCons_inv e2
  obtain ⟨y0, rfl, e4⟩ := castBool_inv e3
  obtain ⟨c4, l4, rfl, e5⟩ := castCons_inv e4
  obtain ⟨c5, l5, rfl, e6⟩ := castCons_inv e5
  obtain ⟨c6, l6, rfl, e7⟩ := castCons_inv e6
  obtain ⟨rfl, e8⟩ := castNil_inv e7
  obtain ⟨rfl, e9⟩ := castNil_inv e8
  have e := e9
  exact F65_ok lf y0 c4 c5 c6 h r h' e

/-! 41: wainscot/node.Encode -/
def A41 : List (Nat × Sh) := [(0, (.agg [.bool, .any, .any, .any])), (3, (.int .i64)), (5, (.agg [.bool, .any, .any, .any])), (6, .bool), (7, .bool), (8, (.agg [.bool, .any, .any, .any])), (11, (.int .i64)), (12, .bool)]
noncomputable def call41 (lf : Nat) : CallS := callC 65 (W65 lf) (callC 43 (W43 lf) (callN))
theorem call41_ok (lf : Nat) : CallOk Go.Proofs.Try.prog (call41 lf) := callC_ok (W65_ok lf) (callC_ok (W43_ok lf) (callN_ok))
def k41 : KC := (.seq (.reg [⟨(some 1), none, (.op (.box false (.t 0))), []⟩, ⟨(some 2), none, (.op (.mv (.c .nils))), []⟩, ⟨(some 3), none, (.op (.mv (.c (.int .i64 0)))), []⟩]) (.seq (.seq (.reg [⟨(some 5), none, (.op (.loadN 4 (.t 1))), []⟩, ⟨(some 6), none, (.call 43 [(.t 5)]), []⟩, ⟨(some 7), none, (.op (.un .not (.t 6))), []⟩]) (.cond (.t 7) (.seq (.reg [⟨(some 2), none, (.op (.mv (.c .nils))), []⟩, ⟨(some 3), none, (.op (.mv (.c (.int .i64 1)))), []⟩]) .ret) .skip)) (.seq (.reg [⟨(some 8), none, (.op (.loadN 4 (.t 1))), []⟩, ⟨(some 9), none, (.call 65 [(.t 8)]), []⟩, ⟨(some 4), none, (.op (.mv (.t 9))), []⟩]) (.seq (.seq (.reg [⟨(some 10), none, (.op (.mv (.t 4))), []⟩, ⟨(some 11), none, (.op (.lenL (.t 10))), []⟩, ⟨(some 12), none, (.op (.bin .gtr (.t 11) (.c (.int .i64 508)))), []⟩]) (.cond (.t 12) (.seq (.reg [⟨(some 2), none, (.op (.mv (.c .nils))), []⟩, ⟨(some 3), none, (.op (.mv (.c (.int .i64 14)))), []⟩]) .ret) .skip)) (.seq (.reg [⟨(some 13), none, (.op (.mv (.t 4))), []⟩, ⟨(some 2), none, (.op (.mv (.t 13))), []⟩, ⟨(some 3), none, (.op (.mv (.c (.int .i64 0)))), []⟩]) .ret)))))
noncomputable def F41 (lf : Nat) (n_ : Bool) (n_1 : V) (n_2 : V) (n_3 : V) (h : List Ob) : Option (V × List Ob) :=
bind2 (ev (.box false (.c (.agg [(.bool n_), n_1, n_2, n_3]))) h) fun n_4 h_ =>
bind1 (er (.loadN 4 (.c n_4)) h_) fun v =>
castAgg v fun l =>
castCons l fun c l1 =>
castBool c fun x5_0 =>
castCons l1 fun x5_1 l2 =>
castCons l2 fun x5_2 l3 =>
castCons l3 fun x5_3 l4 =>
castNil l4 (
bind2 (F43 lf x5_0 x5_1 x5_2 x5_3 h_) fun v1 h_1 =>
castBool v1 fun x6 =>
cB (!x6) (
some ((.tup [V.nils, (.int .i64 (1))]), h_1)) (
bind1 (er (.loadN 4 (.c n_4)) h_1) fun v2 =>
castAgg v2 fun l5 =>
castCons l5 fun c1 l6 =>
castBool c1 fun x8_0 =>
castCons l6 fun x8_1 l7 =>
castCons l7 fun x8_2 l8 =>
castCons l8 fun x8_3 l9 =>
castNil l9 (
bind2 (F65 lf x8_0 x8_1 x8_2 x8_3 h_1) fun x9 h_2 =>
bind1 (er (.lenL (.c x9)) h_2) fun v3 =>
castInt .i64 v3 fun x11 =>
cB (decide (x11 > (508))) (
some ((.tup [V.nils, (.int .i64 (14))]), h_2)) (
some ((.tup [x9, (.int .i64 (0))]), h_2)))))
theorem F41_eq (lf : Nat) (n_ : Bool) (n_1 : V) (n_2 : V) (n_3 : V) (h : List Ob) : evCK A41 ⟨call41 lf, cvN, subN⟩ k41 (entryK [(.agg [(.bool n_), n_1, n_2, n_3])]) h (endF c41.res) = F41 lf n_ n_1 n_2 n_3 h := by kernel_rfl
theorem F41_ok (lf : Nat) (n_ : Bool) (n_1 : V) (n_2 : V) (n_3 : V) (h : List Ob) (r_ : V) (h_r : List Ob) (e_ : F41 lf n_ n_1 n_2 n_3 h = some (r_, h_r)) : CD Go.Proofs.Try.prog 41 [(.agg [(.bool n_), n_1, n_2, n_3])] h r_ h_r :=
  CD.ofK (A := A41) (σ := ⟨call41 lf, cvN, subN⟩) (c := k41) Go.Proofs.Try.func41 ok41 en41 (show 1 ≤ 14 by decide) (by kernel_rfl) (call41_ok lf) cvN_ok (And.intro True.intro (And.intro (And.intro True.intro (And.intro (And.intro True.intro True.intro) True.intro)) (And.intro True.intro (And.intro (And.intro True.intro (And.intro (And.intro True.intro True.intro) True.intro)) (And.intro True.intro True.intro))))) ((F41_eq lf n_ n_1 n_2 n_3 h).trans e_)
def w41 (f : Bool → V → V → V → List Ob → Option (V × List Ob)) (vs : List V) (h : List Ob) : Option (V × List Ob) := castCons vs fun c1 l1 => castAgg c1 fun n2 => castCons n2 fun c3 l3 => castBool c3 fun n4 => castCons l3 fun c5 l5 => castCons l5 fun c6 l6 => castCons l6 fun c7 l7 => castNil l7 (castNil l1 (f n4 c5 c6 c7 h))
noncomputable def W41 (lf : Nat) : List V → List Ob → Option (V × List Ob) := w41 (F41 lf)
theorem W41_ok (lf : Nat) : ∀ args h v h', W41 lf args h = some (v, h') → CD Go.Proofs.Try.prog 41 args h v h' := by
  intro vs h r h' e0
  simp only [W41, w41] at e0
  obtain ⟨c1, l1, rfl, e1⟩ := castCons_inv e0
  obtain ⟨l2, rfl, e2⟩ := castAgg_inv e1
  obtain ⟨c3, l3, rfl, e3⟩ := castCons_inv e2
  obtain ⟨y0, rfl, e4⟩ := castBool_inv e3
  obtain ⟨c4, l4, rfl, e5⟩ := castCons_inv e4
  obtain ⟨c5, l5, rfl, e6⟩ := castCons_inv e5
  obtain ⟨c6, l6, rfl, e7⟩ := castCons_inv e6
  obtain ⟨rfl, e8⟩ := castNil_inv e7
  obtain ⟨rfl, e9⟩ := castNil_inv e8
  have e := e9
  exact F41_ok lf y0 c4 c5 c6 h r h' e

/-! 32: wainscot/wainscotlaw12.awake -/
def A32 : List (Nat × Sh) := [(0, .bool), (2, (.int .i64)), (3, (.tup [.any, (.int .i64)])), (4, (.agg [.bool, .any, .any, .any])), (5, (.tup [.any, (.int .i64)])), (7, (.int .i64)), (8, (.int .i64)), (9, .bool), (10, .bool), (12, .str), (13, .bool), (14, .bool)]
noncomputable def call32 (lf : Nat) : CallS := callC 41 (W41 lf) (callN)
theorem call32_ok (lf : Nat) : CallOk Go.Proofs.Try.prog (call32 lf) := callC_ok (W41_ok lf) (callN_ok)
def k32 : KC := (.seq (.reg [⟨(some 0), none, (.op (.mv (.c (.bool false)))), []⟩]) (.seq (.reg [⟨(some 4), none, (.op (.build [(.bool false), .nils, .nils, .nils] [(0, (1, (.c (.bool true))))])), []⟩, ⟨(some 5), none, (.call 41 [(.t 4)]), []⟩, ⟨(some 3), none, (.op (.mv (.t 5))), []⟩, ⟨(some 6), none, (.op (.ext 0 (.t 3))), []⟩, ⟨(some 7), none, (.op (.ext 1 (.t 3))), []⟩, ⟨(some 1), none, (.op (.mv (.t 6))), []⟩, ⟨(some 2), none, (.op (.mv (.t 7))), []⟩]) (.seq (.reg [⟨(some 8), none, (.op (.mv (.t 2))), []⟩, ⟨(some 9), none, (.op (.bin .eql (.t 8) (.c (.int .i64 0)))), []⟩, ⟨(some 10), none, (.op (.mv (.t 9))), []⟩, ⟨(some 11), (some (10, true)), (.op (.mv (.t 1))), []⟩, ⟨(some 12), (some (10, true)), (.op (.toStr (.t 11))), []⟩, ⟨(some 13), (some (10, true)), (.op (.bin .eql (.t 12) (.c (.str [1, 0])))), []⟩, ⟨(some 14), none, (.op (.pick (.t 10) (.t 13) (.c (.bool false)))), []⟩, ⟨(some 0), none, (.op (.mv (.t 14))), []⟩]) .ret)))
noncomputable def F32 (lf : Nat) (h : List Ob) : Option (V × List Ob) :=
bind1 (er (.build [(.bool false), .nils, .nils, .nils] [(0, (1, (.c (.bool true))))]) h) fun v =>
castAgg v fun l =>
castCons l fun c l1 =>
castBool c fun x4_0 =>
castCons l1 fun x4_1 l2 =>
castCons l2 fun x4_2 l3 =>
castCons l3 fun x4_3 l4 =>
castNil l4 (
bind2 (F41 lf x4_0 x4_1 x4_2 x4_3 h) fun v1 h_ =>
castTup v1 fun l5 =>
castCons l5 fun x5_0 l6 =>
castCons l6 fun c1 l7 =>
castInt .i64 c1 fun x5_1 =>
castNil l7 (
cB (x5_1 == (0)) (
bind1 (er (.toStr (.c x5_0)) h_) fun v2 =>
castStr v2 fun x12 =>
some ((.bool (x12 == [1, 0])), h_)) (
some ((.bool false), h_))))
theorem F32_eq (lf : Nat) (h : List Ob) : evCK A32 ⟨call32 lf, cvN, subN⟩ k32 (entryK []) h (endF c32.res) = F32 lf h := by kernel_rfl
theorem F32_ok (lf : Nat) (h : List Ob) (r_ : V) (h_r : List Ob) (e_ : F32 lf h = some (r_, h_r)) : CD Go.Proofs.Try.prog 32 [] h r_ h_r :=
  CD.ofK (A := A32) (σ := ⟨call32 lf, cvN, subN⟩) (c := k32) Go.Proofs.Try.func32 ok32 en32 (show 0 ≤ 15 by decide) (by kernel_rfl) (call32_ok lf) cvN_ok (And.intro True.intro (And.intro True.intro (And.intro True.intro True.intro))) ((F32_eq lf h).trans e_)
def w32 (f : List Ob → Option (V × List Ob)) (vs : List V) (h : List Ob) : Option (V × List Ob) := castNil vs (f h)
noncomputable def W32 (lf : Nat) : List V → List Ob → Option (V × List Ob) := w32 (F32 lf)
theorem W32_ok (lf : Nat) : ∀ args h v h', W32 lf args h = some (v, h') → CD Go.Proofs.Try.prog 32 args h v h' := by
  intro vs h r h' e0
  simp only [W32, w32] at e0
  obtain ⟨rfl, e1⟩ := castNil_inv e0
  have e := e1
  exact F32_ok lf h r h' e

/-! 33: wainscot/wainscotref09.Few -/
def A33 : List (Nat × Sh) := [(0, (.agg [.bool, .any, .any, .any])), (2, .bool), (3, (.int .i64)), (4, (.int .i64)), (7, (.int .i64)), (8, .bool), (9, .bool), (12, (.int .i64)), (13, .bool), (14, .bool), (15, .bool), (18, (.int .i64)), (19, .bool), (20, .bool), (23, (.int .i64)), (24, (.int .i64)), (25, .bool), (26, (.int .i64)), (29, (.int .i64)), (32, (.int .i64)), (33, .bool), (34, (.int .i64)), (37, (.int .i64)), (38, (.int .i64)), (39, .bool), (40, (.int .i64)), (43, (.int .i64)), (46, (.int .i64)), (47, .bool), (48, (.int .i64))]
noncomputable def call33 (lf : Nat) : CallS := callN
theorem call33_ok (lf : Nat) : CallOk Go.Proofs.Try.prog (call33 lf) := callN_ok
def o33_0 : Outs := [((.exit 0), [], []), (.ret, [2], [.bool])]
def k33_0 : KC := (.seq (.reg [⟨(some 25), none, (.op (.bin .lss (.t 24) (.t 23))), []⟩]) (.seq (.cond (.t 25) .skip (.exit 0)) (.seq (.block 1 (.seq (.reg [⟨(some 26), none, (.op (.mv (.t 24))), []⟩, ⟨(some 3), none, (.op (.mv (.t 26))), []⟩]) (.seq (.reg [⟨(some 27), none, (.op (.faddr 1 (.t 1))), []⟩, ⟨(some 28), none, (.op (.load1 (.t 27))), []⟩, ⟨(some 29), none, (.op (.mv (.t 3))), []⟩, ⟨(some 30), none, (.op (.iaddrL 1 (.t 28) (.t 29))), []⟩, ⟨(some 31), none, (.op (.load1 (.t 30))), []⟩, ⟨(some 32), none, (.op (.lenL (.t 31))), []⟩, ⟨(some 33), none, (.op (.bin .gtr (.t 32) (.c (.int .i64 1000)))), []⟩]) (.cond (.t 33) (.seq (.reg [⟨(some 2), none, (.op (.mv (.c (.bool false)))), []⟩]) .ret) .skip)))) (.reg [⟨(some 34), none, (.op (.bin .add (.t 24) (.c (.int .i64 1)))), []⟩, ⟨(some 24), none, (.op (.mv (.t 34))), []⟩]))))
def w33_0 (f : V → Int → Int → List Ob → SubR) (vs : List V) (h : List Ob) : SubR := castCons vs fun c1 l1 => castCons l1 fun c2 l2 => castInt .i64 c2 fun n3 => castCons l2 fun c4 l4 => castInt .i64 c4 fun n5 => castNil l4 (f c1 n3 n5 h)
noncomputable def B33_0 (lf : Nat) (self : V → Int → Int → List Ob → SubR) (n_ : V) (x23 : Int) (x24 : Int) (h : List Ob) : SubR :=
cB (decide (x24 < x23)) (
bind1 (er (.faddr 1 (.c n_)) h) fun x27 =>
bind1 (er (.load1 (.c x27)) h) fun x28 =>
bind1 (er (.iaddrL 1 (.c x28) (.c (.int .i64 x24))) h) fun x30 =>
bind1 (er (.load1 (.c x30)) h) fun x31 =>
bind1 (er (.lenL (.c x31)) h) fun v =>
castInt .i64 v fun x32 =>
cB (decide (x32 > (1000))) (
some (.ret, [(.bool false)], h)) (
self n_ x23 (IntKind.i64.wrap (x24 + (1))) h)) (
some ((.exit 0), [], h))
noncomputable def L33_0 (lf : Nat) : Nat → V → Int → Int → List Ob → SubR
  | 0 => fun _ _ _ _ => none
  | n + 1 => B33_0 lf (L33_0 lf n)
theorem B33_0_eq (lf : Nat) (self : V → Int → Int → List Ob → SubR) (n_ : V) (x23 : Int) (x24 : Int) (h : List Ob) : evCK A33 ⟨call33 lf, cvN, subN⟩ k33_0 [(1, n_), (23, (.int .i64 x23)), (24, (.int .i64 x24))] h (endL [1, 23, 24] [.any, (.int .i64), (.int .i64)] o33_0 (w33_0 self)) = B33_0 lf self n_ x23 x24 h := by kernel_rfl
theorem L33_0_ok (lf : Nat) : ∀ n, SubOk Go.Proofs.Try.prog (.loop k33_0.er) [1, 23, 24] o33_0 (w33_0 (L33_0 lf n)) := by
  refine SubOk.loop (A := A33) (σ := ⟨call33 lf, cvN, subN⟩) (c := k33_0) (shs := [.any, (.int .i64), (.int .i64)]) (G := fun n => w33_0 (L33_0 lf n)) (call33_ok lf) cvN_ok (And.intro True.intro (And.intro (And.intro True.intro True.intro) (And.intro (And.intro True.intro (And.intro True.intro (And.intro (And.intro True.intro True.intro) True.intro))) True.intro))) ?_ ?_
  · intro vs h r e0
    simp only [w33_0] at e0
    obtain ⟨c1, l1, rfl, e1⟩ := castCons_inv e0
    obtain ⟨c2, l2, rfl, e2⟩ := castCons_inv e1
    obtain ⟨y1, rfl, e3⟩ := castInt_inv e2
    obtain ⟨c3, l3, rfl, e4⟩ := castCons_inv e3
    obtain ⟨y2, rfl, e5⟩ := castInt_inv e4
    obtain ⟨rfl, e6⟩ := castNil_inv e5
    have e := e6
    cases e
  · intro n vs h r e0
    simp only [w33_0] at e0
    obtain ⟨c1, l1, rfl, e1⟩ := castCons_inv e0
    obtain ⟨c2, l2, rfl, e2⟩ := castCons_inv e1
    obtain ⟨y1, rfl, e3⟩ := castInt_inv e2
    obtain ⟨c3, l3, rfl, e4⟩ := castCons_inv e3
    obtain ⟨y2, rfl, e5⟩ := castInt_inv e4
    obtain ⟨rfl, e6⟩ := castNil_inv e5
    have e := e6
    exact (B33_0_eq lf (L33_0 lf n) c1 y1 y2 h).trans e
def o33_1 : Outs := [((.exit 2), [], []), (.ret, [2], [.bool])]
def k33_1 : KC := (.seq (.reg [⟨(some 39), none, (.op (.bin .lss (.t 38) (.t 37))), []⟩]) (.seq (.cond (.t 39) .skip (.exit 2)) (.seq (.block 3 (.seq (.reg [⟨(some 40), none, (.op (.mv (.t 38))), []⟩, ⟨(some 4), none, (.op (.mv (.t 40))), []⟩]) (.seq (.reg [⟨(some 41), none, (.op (.faddr 2 (.t 1))), []⟩, ⟨(some 42), none, (.op (.load1 (.t 41))), []⟩, ⟨(some 43), none, (.op (.mv (.t 4))), []⟩, ⟨(some 44), none, (.op (.iaddrL 1 (.t 42) (.t 43))), []⟩, ⟨(some 45), none, (.op (.load1 (.t 44))), []⟩, ⟨(some 46), none, (.op (.lenL (.t 45))), []⟩, ⟨(some 47), none, (.op (.bin .gtr (.t 46) (.c (.int .i64 1000)))), []⟩]) (.cond (.t 47) (.seq (.reg [⟨(some 2), none, (.op (.mv (.c (.bool false)))), []⟩]) .ret) .skip)))) (.reg [⟨(some 48), none, (.op (.bin .add (.t 38) (.c (.int .i64 1)))), []⟩, ⟨(some 38), none, (.op (.mv (.t 48))), []⟩]))))
def w33_1 (f : V → Int → Int → List Ob → SubR) (vs : List V) (h : List Ob) : SubR := castCons vs fun c1 l1 => castCons l1 fun c2 l2 => castInt .i64 c2 fun n3 => castCons l2 fun c4 l4 => castInt .i64 c4 fun n5 => castNil l4 (f c1 n3 n5 h)
noncomputable def B33_1 (lf : Nat) (self : V → Int → Int → List Ob → SubR) (n_ : V) (x37 : Int) (x38 : Int) (h : List Ob) : SubR :=
cB (decide (x38 < x37)) (
bind1 (er (.faddr 2 (.c n_)) h) fun x41 =>
bind1 (er (.load1 (.c x41)) h) fun x42 =>
bind1 (er (.iaddrL 1 (.c x42) (.c (.int .i64 x38))) h) fun x44 =>
bind1 (er (.load1 (.c x44)) h) fun x45 =>
bind1 (er (.lenL (.c x45)) h) fun v =>
castInt .i64 v fun x46 =>
cB (decide (x46 > (1000))) (
some (.ret, [(.bool false)], h)) (
self n_ x37 (IntKind.i64.wrap (x38 + (1))) h)) (
some ((.exit 2), [], h))
noncomputable def L33_1 (lf : Nat) : Nat → V → Int → Int → List Ob → SubR
  | 0 => fun _ _ _ _ => none
  | n + 1 => B33_1 lf (L33_1 lf n)
theorem B33_1_eq (lf : Nat) (self : V → Int → Int → List Ob → SubR) (n_ : V) (x37 : Int) (x38 : Int) (h : List Ob) : evCK A33 ⟨call33 lf, cvN, subN⟩ k33_1 [(1, n_), (37, (.int .i64 x37)), (38, (.int .i64 x38))] h (endL [1, 37, 38] [.any, (.int .i64), (.int .i64)] o33_1 (w33_1 self)) = B33_1 lf self n_ x37 x38 h := by kernel_rfl
theorem L33_1_ok (lf : Nat) : ∀ n, SubOk Go.Proofs.Try.prog (.loop k33_1.er) [1, 37, 38] o33_1 (w33_1 (L33_1 lf n)) := by
  refine SubOk.loop (A := A33) (σ := ⟨call33 lf, cvN, subN⟩) (c := k33_1) (shs := [.any, (.int .i64), (.int .i64)]) (G := fun n => w33_1 (L33_1 lf n)) (call33_ok lf) cvN_ok (And.intro True.intro (And.intro (And.intro True.intro True.intro) (And.intro (And.intro True.intro (And.intro True.intro (And.intro (And.intro True.intro True.intro) True.intro))) True.intro))) ?_ ?_
  · intro vs h r e0
    simp only [w33_1] at e0
    obtain ⟨c1, l1, rfl, e1⟩ := castCons_inv e0
    obtain ⟨c2, l2, rfl, e2⟩ := castCons_inv e1
    obtain ⟨y1, rfl, e3⟩ := castInt_inv e2
    obtain ⟨c3, l3, rfl, e4⟩ := castCons_inv e3
    obtain ⟨y2, rfl, e5⟩ := castInt_inv e4
    obtain ⟨rfl, e6⟩ := castNil_inv e5
    have e := e6
    cases e
  · intro n vs h r e0
    simp only [w33_1] at e0
    obtain ⟨c1, l1, rfl, e1⟩ := castCons_inv e0
    obtain ⟨c2, l2, rfl, e2⟩ := castCons_inv e1
    obtain ⟨y1, rfl, e3⟩ := castInt_inv e2
    obtain ⟨c3, l3, rfl, e4⟩ := castCons_inv e3
    obtain ⟨y2, rfl, e5⟩ := castInt_inv e4
    obtain ⟨rfl, e6⟩ := castNil_inv e5
    have e := e6
    exact (B33_1_eq lf (L33_1 lf n) c1 y1 y2 h).trans e
def o33_2 : Outs := [(.ret, [2], [.bool]), (.normal, [], [])]
def k33_2 : KC := (.seq (.reg [⟨(some 5), none, (.op (.faddr 1 (.t 1))), []⟩, ⟨(some 6), none, (.op (.load1 (.t 5))), []⟩, ⟨(some 7), none, (.op (.lenL (.t 6))), []⟩, ⟨(some 8), none, (.op (.bin .gtr (.t 7) (.c (.int .i64 300)))), []⟩, ⟨(some 9), none, (.op (.mv (.t 8))), []⟩, ⟨(some 10), (some (9, false)), (.op (.faddr 2 (.t 1))), []⟩, ⟨(some 11), (some (9, false)), (.op (.load1 (.t 10))), []⟩, ⟨(some 12), (some (9, false)), (.op (.lenL (.t 11))), []⟩, ⟨(some 13), (some (9, false)), (.op (.bin .gtr (.t 12) (.c (.int .i64 300)))), []⟩, ⟨(some 14), none, (.op (.pick (.t 9) (.c (.bool true)) (.t 13))), []⟩, ⟨(some 15), none, (.op (.mv (.t 14))), []⟩, ⟨(some 16), (some (15, false)), (.op (.faddr 3 (.t 1))), []⟩, ⟨(some 17), (some (15, false)), (.op (.load1 (.t 16))), []⟩, ⟨(some 18), (some (15, false)), (.op (.lenL (.t 17))), []⟩, ⟨(some 19), (some (15, false)), (.op (.bin .gtr (.t 18) (.c (.int .i64 300)))), []⟩, ⟨(some 20), none, (.op (.pick (.t 15) (.c (.bool true)) (.t 19))), []⟩]) (.cond (.t 20) (.seq (.reg [⟨(some 2), none, (.op (.mv (.c (.bool false)))), []⟩]) .ret) .skip))
def w33_2 (f : V → List Ob → SubR) (vs : List V) (h : List Ob) : SubR := castCons vs fun c1 l1 => castNil l1 (f c1 h)
noncomputable def S33_2 (lf : Nat) (n_ : V) (h : List Ob) : SubR :=
bind1 (er (.faddr 1 (.c n_)) h) fun x5 =>
bind1 (er (.load1 (.c x5)) h) fun x6 =>
bind1 (er (.lenL (.c x6)) h) fun v =>
castInt .i64 v fun x7 =>
cB (decide (x7 > (300))) (
some (.ret, [(.bool false)], h)) (
bind1 (er (.faddr 2 (.c n_)) h) fun x10 =>
bind1 (er (.load1 (.c x10)) h) fun x11 =>
bind1 (er (.lenL (.c x11)) h) fun v1 =>
castInt .i64 v1 fun x12 =>
cB (decide (x12 > (300))) (
some (.ret, [(.bool false)], h)) (
bind1 (er (.faddr 3 (.c n_)) h) fun x16 =>
bind1 (er (.load1 (.c x16)) h) fun x17 =>
bind1 (er (.lenL (.c x17)) h) fun v2 =>
castInt .i64 v2 fun x18 =>
cB (decide (x18 > (300))) (
some (.ret, [(.bool false)], h)) (
some (.normal, [], h))))
theorem S33_2_eq (lf : Nat) (n_ : V) (h : List Ob) : evCK A33 ⟨call33 lf, cvN, subN⟩ k33_2 [(1, n_)] h (endK o33_2) = S33_2 lf n_ h := by kernel_rfl
theorem S33_2_ok (lf : Nat) : SubOk Go.Proofs.Try.prog k33_2.er [1] o33_2 (w33_2 (S33_2 lf)) := by
  refine SubOk.of (A := A33) (σ := ⟨call33 lf, cvN, subN⟩) (c := k33_2) (call33_ok lf) cvN_ok (And.intro True.intro (And.intro (And.intro True.intro True.intro) True.intro)) ?_
  intro vs h r e0
  simp only [w33_2] at e0
  obtain ⟨c1, l1, rfl, e1⟩ := castCons_inv e0
  obtain ⟨rfl, e2⟩ := castNil_inv e1
  have e := e2
  exact (S33_2_eq lf c1 h).trans e
def k33 : KC := (.seq (.reg [⟨(some 1), none, (.op (.box false (.t 0))), []⟩, ⟨(some 2), none, (.op (.mv (.c (.bool false)))), []⟩]) (.seq (.sub 2 k33_2.er [1] o33_2) (.seq (.seq (.reg [⟨(some 21), none, (.op (.faddr 1 (.t 1))), []⟩, ⟨(some 22), none, (.op (.load1 (.t 21))), []⟩, ⟨(some 23), none, (.op (.lenL (.t 22))), []⟩, ⟨(some 24), none, (.op (.mv (.c (.int .i64 0)))), []⟩]) (.block 0 (.sub 0 (.loop k33_0.er) [1, 23, 24] o33_0))) (.seq (.seq (.reg [⟨(some 35), none, (.op (.faddr 2 (.t 1))), []⟩, ⟨(some 36), none, (.op (.load1 (.t 35))), []⟩, ⟨(some 37), none, (.op (.lenL (.t 36))), []⟩, ⟨(some 38), none, (.op (.mv (.c (.int .i64 0)))), []⟩]) (.block 2 (.sub 1 (.loop k33_1.er) [1, 37, 38] o33_1))) (.seq (.reg [⟨(some 2), none, (.op (.mv (.c (.bool true)))), []⟩]) .ret)))))
noncomputable def F33 (lf : Nat) (n_ : Bool) (n_1 : V) (n_2 : V) (n_3 : V) (h : List Ob) : Option (V × List Ob) :=
bind2 (ev (.box false (.c (.agg [(.bool n_), n_1, n_2, n_3]))) h) fun n_4 h_ =>
bind3 (S33_2 lf n_4 h_) fun ex vs h_1 =>
cB (decide (ex = .ret)) (
castCons vs fun c l =>
castBool c fun x2 =>
castNil l (
some ((.bool x2), h_1))) (
cB (decide (ex = .normal)) (
castNil vs (
bind1 (er (.faddr 1 (.c n_4)) h_1) fun x21 =>
bind1 (er (.load1 (.c x21)) h_1) fun x22 =>
bind1 (er (.lenL (.c x22)) h_1) fun v =>
castInt .i64 v fun x23 =>
bind3 (L33_0 lf lf n_4 x23 (0) h_1) fun ex1 vs1 h_2 =>
cB (decide (ex1 = (.exit 0))) (
castNil vs1 (
bind1 (er (.faddr 2 (.c n_4)) h_2) fun x35 =>
bind1 (er (.load1 (.c x35)) h_2) fun x36 =>
bind1 (er (.lenL (.c x36)) h_2) fun v1 =>
castInt .i64 v1 fun x37 =>
bind3 (L33_1 lf lf n_4 x37 (0) h_2) fun ex2 vs2 h_3 =>
cB (decide (ex2 = (.exit 2))) (
castNil vs2 (
some ((.bool true), h_3))) (
cB (decide (ex2 = .ret)) (
castCons vs2 fun c l =>
castBool c fun x2 =>
castNil l (
some ((.bool x2), h_3))) (
none)))) (
cB (decide (ex1 = .ret)) (
castCons vs1 fun c l =>
castBool c fun x2 =>
castNil l (
some ((.bool x2), h_2))) (
none)))) (
none))
theorem F33_eq (lf : Nat) (n_ : Bool) (n_1 : V) (n_2 : V) (n_3 : V) (h : List Ob) : evCK A33 ⟨call33 lf, cvN, subC 1 (w33_1 (L33_1 lf lf)) (subC 0 (w33_0 (L33_0 lf lf)) (subC 2 (w33_2 (S33_2 lf)) (subN)))⟩ k33 (entryK [(.agg [(.bool n_), n_1, n_2, n_3])]) h (endF c33.res) = F33 lf n_ n_1 n_2 n_3 h := by kernel_rfl
theorem F33_ok (lf : Nat) (n_ : Bool) (n_1 : V) (n_2 : V) (n_3 : V) (h : List Ob) (r_ : V) (h_r : List Ob) (e_ : F33 lf n_ n_1 n_2 n_3 h = some (r_, h_r)) : CD Go.Proofs.Try.prog 33 [(.agg [(.bool n_), n_1, n_2, n_3])] h r_ h_r :=
  CD.ofK (A := A33) (σ := ⟨call33 lf, cvN, subC 1 (w33_1 (L33_1 lf lf)) (subC 0 (w33_0 (L33_0 lf lf)) (subC 2 (w33_2 (S33_2 lf)) (subN)))⟩) (c := k33) Go.Proofs.Try.func33 ok33 en33 (show 1 ≤ 49 by decide) (by kernel_rfl) (call33_ok lf) cvN_ok (And.intro True.intro (And.intro (S33_2_ok lf) (And.intro (And.intro True.intro (L33_0_ok lf lf)) (And.intro (And.intro True.intro (L33_1_ok lf lf)) (And.intro True.intro True.intro))))) ((F33_eq lf n_ n_1 n_2 n_3 h).trans e_)
def w33 (f : Bool → V → V → V → List Ob → Option (V × List Ob)) (vs : List V) (h : List Ob) : Option (V × List Ob) := castCons vs fun c1 l1 => castAgg c1 fun n2 => castCons n2 fun c3 l3 => castBool c3 fun n4 => castCons l3 fun c5 l5 => castCons l5 fun c6 l6 => castCons l6 fun c7 l7 => castNil l7 (castNil l1 (f n4 c5 c6 c7 h))
noncomputable def W33 (lf : Nat) : List V → List Ob → Option (V × List Ob) := w33 (F33 lf)
theorem W33_ok (lf : Nat) : ∀ args h v h', W33 lf args h = some (v, h') → CD Go.Proofs.Try.prog 33 args h v h' := by
  intro vs h r h' e0
  simp only [W33, w33] at e0
  obtain ⟨c1, l1, rfl, e1⟩ := castCons_inv e0
  obtain ⟨l2, rfl, e2⟩ := castAgg_inv e1
  obtain ⟨c3, l3, rfl, e3⟩ := castCons_inv e2
  obtain ⟨y0, rfl, e4⟩ := castBool_inv e3
  obtain ⟨c4, l4, rfl, e5⟩ := castCons_inv e4
  obtain ⟨c5, l5, rfl, e6⟩ := castCons_inv e5
  obtain ⟨c6, l6, rfl, e7⟩ := castCons_inv e6
  obtain ⟨rfl, e8⟩ := castNil_inv e7
  obtain ⟨rfl, e9⟩ := castNil_inv e8
  have e := e9
  exact F33_ok lf y0 c4 c5 c6 h r h' e

/-! 57: bytes.Equal -/
def A57 : List (Nat × Sh) := [(4, .bool), (6, .str), (8, .str), (9, .bool)]
noncomputable def call57 (lf : Nat) : CallS := callN
theorem call57_ok (lf : Nat) : CallOk Go.Proofs.Try.prog (call57 lf) := callN_ok
def k57 : KC := (.seq (.reg [⟨(some 4), none, (.op (.mv (.c (.bool false)))), []⟩]) (.seq (.reg [⟨(some 5), none, (.op (.mv (.t 0))), []⟩, ⟨(some 6), none, (.op (.toStr (.t 5))), []⟩, ⟨(some 7), none, (.op (.mv (.t 1))), []⟩, ⟨(some 8), none, (.op (.toStr (.t 7))), []⟩, ⟨(some 9), none, (.op (.bin .eql (.t 6) (.t 8))), []⟩, ⟨(some 4), none, (.op (.mv (.t 9))), []⟩]) .ret))
noncomputable def F57 (lf : Nat) (a : V) (b : V) (h : List Ob) : Option (V × List Ob) :=
bind1 (er (.toStr (.c a)) h) fun v =>
castStr v fun x6 =>
bind1 (er (.toStr (.c b)) h) fun v1 =>
castStr v1 fun x8 =>
some ((.bool (x6 == x8)), h)
theorem F57_eq (lf : Nat) (a : V) (b : V) (h : List Ob) : evCK A57 ⟨call57 lf, cvN, subN⟩ k57 (entryK [a, b]) h (endF c57.res) = F57 lf a b h := by kernel_rfl
theorem F57_ok (lf : Nat) (a : V) (b : V) (h : List Ob) (r_ : V) (h_r : List Ob) (e_ : F57 lf a b h = some (r_, h_r)) : CD Go.Proofs.Try.prog 57 [a, b] h r_ h_r :=
  CD.ofK (A := A57) (σ := ⟨call57 lf, cvN, subN⟩) (c := k57) Go.Proofs.Try.func57 ok57 en57 (show 2 ≤ 10 by decide) (by kernel_rfl) (call57_ok lf) cvN_ok (And.intro True.intro (And.intro True.intro True.intro)) ((F57_eq lf a b h).trans e_)
def w57 (f : V → V → List Ob → Option (V × List Ob)) (vs : List V) (h : List Ob) : Option (V × List Ob) := castCons vs fun c1 l1 => castCons l1 fun c2 l2 => castNil l2 (f c1 c2 h)
noncomputable def W57 (lf : Nat) : List V → List Ob → Option (V × List Ob) := w57 (F57 lf)
theorem W57_ok (lf : Nat) : ∀ args h v h', W57 lf args h = some (v, h') → CD Go.Proofs.Try.prog 57 args h v h' := by
  intro vs h r h' e0
  simp only [W57, w57] at e0
  obtain ⟨c1, l1, rfl, e1⟩ := castCons_inv e0
  obtain ⟨c2, l2, rfl, e2⟩ := castCons_inv e1
  obtain ⟨rfl, e3⟩ := castNil_inv e2
  have e := e3
  exact F57_ok lf c1 c2 h r h' e

/-! 34: wainscot/node.Find -/
def A34 : List (Nat × Sh) := [(0, (.agg [.bool, .any, .any, .any])), (4, (.int .i64)), (5, .bool), (6, (.int .i64)), (11, (.int .i64)), (12, (.int .i64)), (13, .bool), (18, (.int .i64)), (19, .bool), (20, (.int .i64)), (21, (.int .i64)), (22, (.int .i64)), (23, (.int .i64)), (24, (.int .i64)), (27, (.int .i64)), (28, .bool), (29, .bool), (32, (.int .i64)), (36, .bool), (37, .bool)]
noncomputable def call34 (lf : Nat) : CallS := callC 57 (W57 lf) (callC 56 (W56 lf) (callN))
theorem call34_ok (lf : Nat) : CallOk Go.Proofs.Try.prog (call34 lf) := callC_ok (W57_ok lf) (callC_ok (W56_ok lf) (callN_ok))
def o34_0 : Outs := [((.exit 0), [6], [(.int .i64)])]
def k34_0 : KC := (.seq (.reg [⟨(some 13), none, (.op (.bin .lss (.t 12) (.t 11))), []⟩]) (.seq (.cond (.t 13) .skip (.exit 0)) (.seq (.block 1 (.seq (.reg [⟨(some 14), none, (.op (.iaddrL 1 (.t 10) (.t 12))), []⟩, ⟨(some 15), none, (.op (.load1 (.t 14))), []⟩, ⟨(some 8), none, (.op (.mv (.t 15))), []⟩]) (.seq (.reg [⟨(some 16), none, (.op (.mv (.t 8))), []⟩, ⟨(some 17), none, (.op (.mv (.t 1))), []⟩, ⟨(some 18), none, (.call 56 [(.t 16), (.t 17)]), []⟩, ⟨(some 19), none, (.op (.bin .lss (.t 18) (.c (.int .i64 0)))), []⟩]) (.cond (.t 19) (.reg [⟨(some 20), none, (.op (.mv (.t 6))), []⟩, ⟨(some 21), none, (.op (.bin .add (.t 20) (.c (.int .i64 1)))), []⟩, ⟨(some 6), none, (.op (.mv (.t 21))), []⟩]) .skip)))) (.reg [⟨(some 22), none, (.op (.bin .add (.t 12) (.c (.int .i64 1)))), []⟩, ⟨(some 12), none, (.op (.mv (.t 22))), []⟩]))))
def w34_0 (f : V → Int → V → Int → Int → List Ob → SubR) (vs : List V) (h : List Ob) : SubR := castCons vs fun c1 l1 => castCons l1 fun c2 l2 => castInt .i64 c2 fun n3 => castCons l2 fun c4 l4 => castCons l4 fun c5 l5 => castInt .i64 c5 fun n6 => castCons l5 fun c7 l7 => castInt .i64 c7 fun n8 => castNil l7 (f c1 n3 c4 n6 n8 h)
noncomputable def B34_0 (lf : Nat) (self : V → Int → V → Int → Int → List Ob → SubR) (key : V) (at_ : Int) (x10 : V) (x11 : Int) (x12 : Int) (h : List Ob) : SubR :=
cB (decide (x12 < x11)) (
bind1 (er (.iaddrL 1 (.c x10) (.c (.int .i64 x12))) h) fun x14 =>
bind1 (er (.load1 (.c x14)) h) fun x15 =>
bind2 (F56 lf x15 key h) fun v h_ =>
castInt .i64 v fun x18 =>
cB (decide (x18 < (0))) (
self key (IntKind.i64.wrap (at_ + (1))) x10 x11 (IntKind.i64.wrap (x12 + (1))) h_) (
self key at_ x10 x11 (IntKind.i64.wrap (x12 + (1))) h_)) (
some ((.exit 0), [(.int .i64 at_)], h))
noncomputable def L34_0 (lf : Nat) : Nat → V → Int → V → Int → Int → List Ob → SubR
  | 0 => fun _ _ _ _ _ _ => none
  | n + 1 => B34_0 lf (L34_0 lf n)
theorem B34_0_eq (lf : Nat) (self : V → Int → V → Int → Int → List Ob → SubR) (key : V) (at_ : Int) (x10 : V) (x11 : Int) (x12 : Int) (h : List Ob) : evCK A34 ⟨call34 lf, cvN, subN⟩ k34_0 [(1, key), (6, (.int .i64 at_)), (10, x10), (11, (.int .i64 x11)), (12, (.int .i64 x12))] h (endL [1, 6, 10, 11, 12] [.any, (.int .i64), .any, (.int .i64), (.int .i64)] o34_0 (w34_0 self)) = B34_0 lf self key at_ x10 x11 x12 h := by kernel_rfl
theorem L34_0_ok (lf : Nat) : ∀ n, SubOk Go.Proofs.Try.prog (.loop k34_0.er) [1, 6, 10, 11, 12] o34_0 (w34_0 (L34_0 lf n)) := by
  refine SubOk.loop (A := A34) (σ := ⟨call34 lf, cvN, subN⟩) (c := k34_0) (shs := [.any, (.int .i64), .any, (.int .i64), (.int .i64)]) (G := fun n => w34_0 (L34_0 lf n)) (call34_ok lf) cvN_ok (And.intro True.intro (And.intro (And.intro True.intro True.intro) (And.intro (And.intro True.intro (And.intro True.intro (And.intro True.intro True.intro))) True.intro))) ?_ ?_
  · intro vs h r e0
    simp only [w34_0] at e0
    obtain ⟨c1, l1, rfl, e1⟩ := castCons_inv e0
    obtain ⟨c2, l2, rfl, e2⟩ := castCons_inv e1
    obtain ⟨y1, rfl, e3⟩ := castInt_inv e2
    obtain ⟨c3, l3, rfl, e4⟩ := castCons_inv e3
    obtain ⟨c4, l4, rfl, e5⟩ := castCons_inv e4
    obtain ⟨y3, rfl, e6⟩ := castInt_inv e5
    obtain ⟨c5, l5, rfl, e7⟩ := castCons_inv e6
    obtain ⟨y4, rfl, e8⟩ := castInt_inv e7
    obtain ⟨rfl, e9⟩ := castNil_inv e8
    have e := e9
    cases e
  · intro n vs h r e0
    simp only [w34_0] at e0
    obtain ⟨c1, l1, rfl, e1⟩ := castCons_inv e0
    obtain ⟨c2, l2, rfl, e2⟩ := castCons_inv e1
    obtain ⟨y1, rfl, e3⟩ := castInt_inv e2
    obtain ⟨c3, l3, rfl, e4⟩ := castCons_inv e3
    obtain ⟨c4, l4, rfl, e5⟩ := castCons_inv e4
    obtain ⟨y3, rfl, e6⟩ := castInt_inv e5
    obtain ⟨c5, l5, rfl, e7⟩ := castCons_inv e6
    obtain ⟨y4, rfl, e8⟩ := castInt_inv e7
    obtain ⟨rfl, e9⟩ := castNil_inv e8
    have e := e9
    exact (B34_0_eq lf (L34_0 lf n) c1 y1 c3 y3 y4 h).trans e
def k34 : KC := (.seq (.reg [⟨(some 2), none, (.op (.box false (.t 0))), []⟩, ⟨(some 4), none, (.op (.mv (.c (.int .i64 0)))), []⟩, ⟨(some 5), none, (.op (.mv (.c (.bool false)))), []⟩]) (.seq (.reg [⟨(some 6), none, (.op (.mv (.c (.int .i64 0)))), []⟩]) (.seq (.seq (.reg [⟨(some 9), none, (.op (.faddr 1 (.t 2))), []⟩, ⟨(some 10), none, (.op (.load1 (.t 9))), []⟩, ⟨(some 11), none, (.op (.lenL (.t 10))), []⟩, ⟨(some 12), none, (.op (.mv (.c (.int .i64 0)))), []⟩]) (.block 0 (.sub 0 (.loop k34_0.er) [1, 6, 10, 11, 12] o34_0))) (.seq (.reg [⟨(some 23), none, (.op (.mv (.t 6))), []⟩, ⟨(some 24), none, (.op (.mv (.t 6))), []⟩, ⟨(some 25), none, (.op (.faddr 1 (.t 2))), []⟩, ⟨(some 26), none, (.op (.load1 (.t 25))), []⟩, ⟨(some 27), none, (.op (.lenL (.t 26))), []⟩, ⟨(some 28), none, (.op (.bin .lss (.t 24) (.t 27))), []⟩, ⟨(some 29), none, (.op (.mv (.t 28))), []⟩, ⟨(some 30), (some (29, true)), (.op (.faddr 1 (.t 2))), []⟩, ⟨(some 31), (some (29, true)), (.op (.load1 (.t 30))), []⟩, ⟨(some 32), (some (29, true)), (.op (.mv (.t 6))), []⟩, ⟨(some 33), (some (29, true)), (.op (.iaddrL 1 (.t 31) (.t 32))), []⟩, ⟨(some 34), (some (29, true)), (.op (.load1 (.t 33))), []⟩, ⟨(some 35), (some (29, true)), (.op (.mv (.t 1))), []⟩, ⟨(some 36), (some (29, true)), (.call 57 [(.t 34), (.t 35)]), []⟩, ⟨(some 37), none, (.op (.pick (.t 29) (.t 36) (.c (.bool false)))), []⟩, ⟨(some 4), none, (.op (.mv (.t 23))), []⟩, ⟨(some 5), none, (.op (.mv (.t 37))), []⟩]) .ret))))
noncomputable def F34 (lf : Nat) (n_ : Bool) (n_1 : V) (n_2 : V) (n_3 : V) (key : V) (h : List Ob) : Option (V × List Ob) :=
bind2 (ev (.box false (.c (.agg [(.bool n_), n_1, n_2, n_3]))) h) fun n_4 h_ =>
bind1 (er (.faddr 1 (.c n_4)) h_) fun x9 =>
bind1 (er (.load1 (.c x9)) h_) fun x10 =>
bind1 (er (.lenL (.c x10)) h_) fun v =>
castInt .i64 v fun x11 =>
bind3 (L34_0 lf lf key (0) x10 x11 (0) h_) fun ex vs h_1 =>
cB (decide (ex = (.exit 0))) (
castCons vs fun c l =>
castInt .i64 c fun at_ =>
castNil l (
bind1 (er (.faddr 1 (.c n_4)) h_1) fun x25 =>
bind1 (er (.load1 (.c x25)) h_1) fun x26 =>
bind1 (er (.lenL (.c x26)) h_1) fun v1 =>
castInt .i64 v1 fun x27 =>
cB (decide (at_ < x27)) (
bind1 (er (.faddr 1 (.c n_4)) h_1) fun x30 =>
bind1 (er (.load1 (.c x30)) h_1) fun x31 =>
bind1 (er (.iaddrL 1 (.c x31) (.c (.int .i64 at_))) h_1) fun x33 =>
bind1 (er (.load1 (.c x33)) h_1) fun x34 =>
bind2 (F57 lf x34 key h_1) fun v2 h_2 =>
castBool v2 fun x36 =>
some ((.tup [(.int .i64 at_), (.bool x36)]), h_2)) (
some ((.tup [(.int .i64 at_), (.bool false)]), h_1)))) (
none)
theorem F34_eq (lf : Nat) (n_ : Bool) (n_1 : V) (n_2 : V) (n_3 : V) (key : V) (h : List Ob) : evCK A34 ⟨call34 lf, cvN, subC 0 (w34_0 (L34_0 lf lf)) (subN)⟩ k34 (entryK [(.agg [(.bool n_), n_1, n_2, n_3]), key]) h (endF c34.res) = F34 lf n_ n_1 n_2 n_3 key h := by kernel_rfl
theorem F34_ok (lf : Nat) (n_ : Bool) (n_1 : V) (n_2 : V) (n_3 : V) (key : V) (h : List Ob) (r_ : V) (h_r : List Ob) (e_ : F34 lf n_ n_1 n_2 n_3 key h = some (r_, h_r)) : CD Go.Proofs.Try.prog 34 [(.agg [(.bool n_), n_1, n_2, n_3]), key] h r_ h_r :=
  CD.ofK (A := A34) (σ := ⟨call34 lf, cvN, subC 0 (w34_0 (L34_0 lf lf)) (subN)⟩) (c := k34) Go.Proofs.Try.func34 ok34 en34 (show 2 ≤ 38 by decide) (by kernel_rfl) (call34_ok lf) cvN_ok (And.intro True.intro (And.intro True.intro (And.intro (And.intro True.intro (L34_0_ok lf lf)) (And.intro True.intro True.intro)))) ((F34_eq lf n_ n_1 n_2 n_3 key h).trans e_)
def w34 (f : Bool → V → V → V → V → List Ob → Option (V × List Ob)) (vs : List V) (h : List Ob) : Option (V × List Ob) := castCons vs fun c1 l1 => castAgg c1 fun n2 => castCons n2 fun c3 l3 => castBool c3 fun n4 => castCons l3 fun c5 l5 => castCons l5 fun c6 l6 => castCons l6 fun c7 l7 => castNil l7 (castCons l1 fun c8 l8 => castNil l8 (f n4 c5 c6 c7 c8 h))
noncomputable def W34 (lf : Nat) : List V → List Ob → Option (V × List Ob) := w34 (F34 lf)
theorem W34_ok (lf : Nat) : ∀ args h v h', W34 lf args h = some (v, h') → CD Go.Proofs.Try.prog 34 args h v h' := by
  intro vs h r h' e0
  simp only [W34, w34] at e0
  obtain ⟨c1, l1, rfl, e1⟩ := castCons_inv e0
  obtain ⟨l2, rfl, e2⟩ := castAgg_inv e1
  obtain ⟨c3, l3, rfl, e3⟩ := castCons_inv e2
  obtain ⟨y0, rfl, e4⟩ := castBool_inv e3
  obtain ⟨c4, l4, rfl, e5⟩ := castCons_inv e4
  obtain ⟨c5, l5, rfl, e6⟩ := castCons_inv e5
  obtain ⟨c6, l6, rfl, e7⟩ := castCons_inv e6
  obtain ⟨rfl, e8⟩ := castNil_inv e7
  obtain ⟨c7, l7, rfl, e9⟩ := castCons_inv e8
  obtain ⟨rfl, e10⟩ := castNil_inv e9
  have e := e10
  exact F34_ok lf y0 c4 c5 c6 c7 h r h' e

/-! 35: wainscot/wainscotref09.Find -/
def A35 : List (Nat × Sh) := [(0, (.agg [.bool, .any, .any, .any])), (4, (.int .i64)), (5, .bool), (6, (.int .i64)), (7, (.int .i64)), (10, (.int .i64)), (11, (.int .i64)), (12, .bool), (13, (.int .i64)), (16, (.int .i64)), (19, .str), (21, .str), (22, .bool), (23, (.int .i64)), (24, (.int .i64)), (25, (.int .i64)), (26, (.int .i64)), (27, (.int .i64)), (30, (.int .i64)), (31, .bool), (32, .bool), (35, (.int .i64)), (38, .str), (40, .str), (41, .bool), (42, .bool)]
noncomputable def call35 (lf : Nat) : CallS := callN
theorem call35_ok (lf : Nat) : CallOk Go.Proofs.Try.prog (call35 lf) := callN_ok
def o35_0 : Outs := [((.exit 0), [6], [(.int .i64)])]
def k35_0 : KC := (.seq (.reg [⟨(some 12), none, (.op (.bin .lss (.t 11) (.t 10))), []⟩]) (.seq (.cond (.t 12) .skip (.exit 0)) (.seq (.block 1 (.seq (.reg [⟨(some 13), none, (.op (.mv (.t 11))), []⟩, ⟨(some 7), none, (.op (.mv (.t 13))), []⟩]) (.seq (.reg [⟨(some 14), none, (.op (.faddr 1 (.t 2))), []⟩, ⟨(some 15), none, (.op (.load1 (.t 14))), []⟩, ⟨(some 16), none, (.op (.mv (.t 7))), []⟩, ⟨(some 17), none, (.op (.iaddrL 1 (.t 15) (.t 16))), []⟩, ⟨(some 18), none, (.op (.load1 (.t 17))), []⟩, ⟨(some 19), none, (.op (.toStr (.t 18))), []⟩, ⟨(some 20), none, (.op (.mv (.t 1))), []⟩, ⟨(some 21), none, (.op (.toStr (.t 20))), []⟩, ⟨(some 22), none, (.op (.bin .lss (.t 19) (.t 21))), []⟩]) (.cond (.t 22) (.reg [⟨(some 23), none, (.op (.mv (.t 6))), []⟩, ⟨(some 24), none, (.op (.bin .add (.t 23) (.c (.int .i64 1)))), []⟩, ⟨(some 6), none, (.op (.mv (.t 24))), []⟩]) .skip)))) (.reg [⟨(some 25), none, (.op (.bin .add (.t 11) (.c (.int .i64 1)))), []⟩, ⟨(some 11), none, (.op (.mv (.t 25))), []⟩]))))
def w35_0 (f : V → V → Int → Int → Int → List Ob → SubR) (vs : List V) (h : List Ob) : SubR := castCons vs fun c1 l1 => castCons l1 fun c2 l2 => castCons l2 fun c3 l3 => castInt .i64 c3 fun n4 => castCons l3 fun c5 l5 => castInt .i64 c5 fun n6 => castCons l5 fun c7 l7 => castInt .i64 c7 fun n8 => castNil l7 (f c1 c2 n4 n6 n8 h)
noncomputable def B35_0 (lf : Nat) (self : V → V → Int → Int → Int → List Ob → SubR) (key : V) (n_ : V) (at_ : Int) (x10 : Int) (x11 : Int) (h : List Ob) : SubR :=
cB (decide (x11 < x10)) (
bind1 (er (.faddr 1 (.c n_)) h) fun x14 =>
bind1 (er (.load1 (.c x14)) h) fun x15 =>
bind1 (er (.iaddrL 1 (.c x15) (.c (.int .i64 x11))) h) fun x17 =>
bind1 (er (.load1 (.c x17)) h) fun x18 =>
bind1 (er (.toStr (.c x18)) h) fun v =>
castStr v fun x19 =>
bind1 (er (.toStr (.c key)) h) fun v1 =>
castStr v1 fun x21 =>
cB (Op.bytesLess x19 x21) (
self key n_ (IntKind.i64.wrap (at_ + (1))) x10 (IntKind.i64.wrap (x11 + (1))) h) (
self key n_ at_ x10 (IntKind.i64.wrap (x11 + (1))) h)) (
some ((.exit 0), [(.int .i64 at_)], h))
noncomputable def L35_0 (lf : Nat) : Nat → V → V → Int → Int → Int → List Ob → SubR
  | 0 => fun _ _ _ _ _ _ => none
  | n + 1 => B35_0 lf (L35_0 lf n)
theorem B35_0_eq (lf : Nat) (self : V → V → Int → Int → Int → List Ob → SubR) (key : V) (n_ : V) (at_ : Int) (x10 : Int) (x11 : Int) (h : List Ob) : evCK A35 ⟨call35 lf, cvN, subN⟩ k35_0 [(1, key), (2, n_), (6, (.int .i64 at_)), (10, (.int .i64 x10)), (11, (.int .i64 x11))] h (endL [1, 2, 6, 10, 11] [.any, .any, (.int .i64), (.int .i64), (.int .i64)] o35_0 (w35_0 self)) = B35_0 lf self key n_ at_ x10 x11 h := by kernel_rfl
theorem L35_0_ok (lf : Nat) : ∀ n, SubOk Go.Proofs.Try.prog (.loop k35_0.er) [1, 2, 6, 10, 11] o35_0 (w35_0 (L35_0 lf n)) := by
  refine SubOk.loop (A := A35) (σ := ⟨call35 lf, cvN, subN⟩) (c := k35_0) (shs := [.any, .any, (.int .i64), (.int .i64), (.int .i64)]) (G := fun n => w35_0 (L35_0 lf n)) (call35_ok lf) cvN_ok (And.intro True.intro (And.intro (And.intro True.intro True.intro) (And.intro (And.intro True.intro (And.intro True.intro (And.intro True.intro True.intro))) True.intro))) ?_ ?_
  · intro vs h r e0
    simp only [w35_0] at e0
    obtain ⟨c1, l1, rfl, e1⟩ := castCons_inv e0
    obtain ⟨c2, l2, rfl, e2⟩ := castCons_inv e1
    obtain ⟨c3, l3, rfl, e3⟩ := castCons_inv e2
    obtain ⟨y2, rfl, e4⟩ := castInt_inv e3
    obtain ⟨c4, l4, rfl, e5⟩ := castCons_inv e4
    obtain ⟨y3, rfl, e6⟩ := castInt_inv e5
    obtain ⟨c5, l5, rfl, e7⟩ := castCons_inv e6
    obtain ⟨y4, rfl, e8⟩ := castInt_inv e7
    obtain ⟨rfl, e9⟩ := castNil_inv e8
    have e := e9
    cases e
  · intro n vs h r e0
    simp only [w35_0] at e0
    obtain ⟨c1, l1, rfl, e1⟩ := castCons_inv e0
    obtain ⟨c2, l2, rfl, e2⟩ := castCons_inv e1
    obtain ⟨c3, l3, rfl, e3⟩ := castCons_inv e2
    obtain ⟨y2, rfl, e4⟩ := castInt_inv e3
    obtain ⟨c4, l4, rfl, e5⟩ := castCons_inv e4
    obtain ⟨y3, rfl, e6⟩ := castInt_inv e5
    obtain ⟨c5, l5, rfl, e7⟩ := castCons_inv e6
    obtain ⟨y4, rfl, e8⟩ := castInt_inv e7
    obtain ⟨rfl, e9⟩ := castNil_inv e8
    have e := e9
    exact (B35_0_eq lf (L35_0 lf n) c1 c2 y2 y3 y4 h).trans e
def k35 : KC := (.seq (.reg [⟨(some 2), none, (.op (.box false (.t 0))), []⟩, ⟨(some 4), none, (.op (.mv (.c (.int .i64 0)))), []⟩, ⟨(some 5), none, (.op (.mv (.c (.bool false)))), []⟩]) (.seq (.reg [⟨(some 6), none, (.op (.mv (.c (.int .i64 0)))), []⟩]) (.seq (.seq (.reg [⟨(some 8), none, (.op (.faddr 1 (.t 2))), []⟩, ⟨(some 9), none, (.op (.load1 (.t 8))), []⟩, ⟨(some 10), none, (.op (.lenL (.t 9))), []⟩, ⟨(some 11), none, (.op (.mv (.c (.int .i64 0)))), []⟩]) (.block 0 (.sub 0 (.loop k35_0.er) [1, 2, 6, 10, 11] o35_0))) (.seq (.reg [⟨(some 26), none, (.op (.mv (.t 6))), []⟩, ⟨(some 27), none, (.op (.mv (.t 6))), []⟩, ⟨(some 28), none, (.op (.faddr 1 (.t 2))), []⟩, ⟨(some 29), none, (.op (.load1 (.t 28))), []⟩, ⟨(some 30), none, (.op (.lenL (.t 29))), []⟩, ⟨(some 31), none, (.op (.bin .lss (.t 27) (.t 30))), []⟩, ⟨(some 32), none, (.op (.mv (.t 31))), []⟩, ⟨(some 33), (some (32, true)), (.op (.faddr 1 (.t 2))), []⟩, ⟨(some 34), (some (32, true)), (.op (.load1 (.t 33))), []⟩, ⟨(some 35), (some (32, true)), (.op (.mv (.t 6))), []⟩, ⟨(some 36), (some (32, true)), (.op (.iaddrL 1 (.t 34) (.t 35))), []⟩, ⟨(some 37), (some (32, true)), (.op (.load1 (.t 36))), []⟩, ⟨(some 38), (some (32, true)), (.op (.toStr (.t 37))), []⟩, ⟨(some 39), (some (32, true)), (.op (.mv (.t 1))), []⟩, ⟨(some 40), (some (32, true)), (.op (.toStr (.t 39))), []⟩, ⟨(some 41), (some (32, true)), (.op (.bin .eql (.t 38) (.t 40))), []⟩, ⟨(some 42), none, (.op (.pick (.t 32) (.t 41) (.c (.bool false)))), []⟩, ⟨(some 4), none, (.op (.mv (.t 26))), []⟩, ⟨(some 5), none, (.op (.mv (.t 42))), []⟩]) .ret))))
noncomputable def F35 (lf : Nat) (n_ : Bool) (n_1 : V) (n_2 : V) (n_3 : V) (key : V) (h : List Ob) : Option (V × List Ob) :=
bind2 (ev (.box false (.c (.agg [(.bool n_), n_1, n_2, n_3]))) h) fun n_4 h_ =>
bind1 (er (.faddr 1 (.c n_4)) h_) fun x8 =>
bind1 (er (.load1 (.c x8)) h_) fun x9 =>
bind1 (er (.lenL (.c x9)) h_) fun v =>
castInt .i64 v fun x10 =>
bind3 (L35_0 lf lf key n_4 (0) x10 (0) h_) fun ex vs h_1 =>
cB (decide (ex = (.exit 0))) (
castCons vs fun c l =>
castInt .i64 c fun at_ =>
castNil l (
bind1 (er (.faddr 1 (.c n_4)) h_1) fun x28 =>
bind1 (er (.load1 (.c x28)) h_1) fun x29 =>
bind1 (er (.lenL (.c x29)) h_1) fun v1 =>
castInt .i64 v1 fun x30 =>
cB (decide (at_ < x30)) (
bind1 (er (.faddr 1 (.c n_4)) h_1) fun x33 =>
bind1 (er (.load1 (.c x33)) h_1) fun x34 =>
bind1 (er (.iaddrL 1 (.c x34) (.c (.int .i64 at_))) h_1) fun x36 =>
bind1 (er (.load1 (.c x36)) h_1) fun x37 =>
bind1 (er (.toStr (.c x37)) h_1) fun v2 =>
castStr v2 fun x38 =>
bind1 (er (.toStr (.c key)) h_1) fun v3 =>
castStr v3 fun x40 =>
some ((.tup [(.int .i64 at_), (.bool (x38 == x40))]), h_1)) (
some ((.tup [(.int .i64 at_), (.bool false)]), h_1)))) (
none)
theorem F35_eq (lf : Nat) (n_ : Bool) (n_1 : V) (n_2 : V) (n_3 : V) (key : V) (h : List Ob) : evCK A35 ⟨call35 lf, cvN, subC 0 (w35_0 (L35_0 lf lf)) (subN)⟩ k35 (entryK [(.agg [(.bool n_), n_1, n_2, n_3]), key]) h (endF c35.res) = F35 lf n_ n_1 n_2 n_3 key h := by kernel_rfl
theorem F35_ok (lf : Nat) (n_ : Bool) (n_1 : V) (n_2 : V) (n_3 : V) (key : V) (h : List Ob) (r_ : V) (h_r : List Ob) (e_ : F35 lf n_ n_1 n_2 n_3 key h = some (r_, h_r)) : CD Go.Proofs.Try.prog 35 [(.agg [(.bool n_), n_1, n_2, n_3]), key] h r_ h_r :=
  CD.ofK (A := A35) (σ := ⟨call35 lf, cvN, subC 0 (w35_0 (L35_0 lf lf)) (subN)⟩) (c := k35) Go.Proofs.Try.func35 ok35 en35 (show 2 ≤ 43 by decide) (by kernel_rfl) (call35_ok lf) cvN_ok (And.intro True.intro (And.intro True.intro (And.intro (And.intro True.intro (L35_0_ok lf lf)) (And.intro True.intro True.intro)))) ((F35_eq lf n_ n_1 n_2 n_3 key h).trans e_)
def w35 (f : Bool → V → V → V → V → List Ob → Option (V × List Ob)) (vs : List V) (h : List Ob) : Option (V × List Ob) := castCons vs fun c1 l1 => castAgg c1 fun n2 => castCons n2 fun c3 l3 => castBool c3 fun n4 => castCons l3 fun c5 l5 => castCons l5 fun c6 l6 => castCons l6 fun c7 l7 => castNil l7 (castCons l1 fun c8 l8 => castNil l8 (f n4 c5 c6 c7 c8 h))
noncomputable def W35 (lf : Nat) : List V → List Ob → Option (V × List Ob) := w35 (F35 lf)
theorem W35_ok (lf : Nat) : ∀ args h v h', W35 lf args h = some (v, h') → CD Go.Proofs.Try.prog 35 args h v h' := by
  intro vs h r h' e0
  simp only [W35, w35] at e0
  obtain ⟨c1, l1, rfl, e1⟩ := castCons_inv e0
  obtain ⟨l2, rfl, e2⟩ := castAgg_inv e1
  obtain ⟨c3, l3, rfl, e3⟩ := castCons_inv e2
  obtain ⟨y0, rfl, e4⟩ := castBool_inv e3
  obtain ⟨c4, l4, rfl, e5⟩ := castCons_inv e4
  obtain ⟨c5, l5, rfl, e6⟩ := castCons_inv e5
  obtain ⟨c6, l6, rfl, e7⟩ := castCons_inv e6
  obtain ⟨rfl, e8⟩ := castNil_inv e7
  obtain ⟨c7, l7, rfl, e9⟩ := castCons_inv e8
  obtain ⟨rfl, e10⟩ := castNil_inv e9
  have e := e10
  exact F35_ok lf y0 c4 c5 c6 c7 h r h' e

/-! 44: wainscot/wainscotref09.FormedNode -/
def A44 : List (Nat × Sh) := [(0, (.agg [.bool, .any, .any, .any])), (2, .bool), (3, (.int .i64)), (4, (.int .i64)), (5, (.int .i64)), (8, (.int .i64)), (9, (.int .i64)), (10, .bool), (11, (.int .i64)), (14, (.int .i64)), (17, (.int .i64)), (18, .bool), (19, .bool), (22, (.int .i64)), (25, (.int .i64)), (26, .bool), (27, .bool), (28, .bool), (29, (.int .i64)), (30, .bool), (31, .bool), (34, (.int .i64)), (35, (.int .i64)), (38, .str), (41, (.int .i64)), (44, .str), (45, .bool), (46, .bool), (47, .bool), (48, (.int .i64)), (50, .bool), (53, (.int .i64)), (54, .bool), (55, .bool), (58, (.int .i64)), (61, (.int .i64)), (62, .bool), (63, .bool), (66, (.int .i64)), (67, (.int .i64)), (68, .bool), (69, (.int .i64)), (72, (.int .i64)), (75, (.int .i64)), (78, (.int .i64)), (81, (.int .i64)), (82, (.int .i64)), (83, .bool), (84, (.int .i64)), (87, (.int .i64)), (88, (.int .i64)), (89, .bool), (90, (.int .i64)), (93, (.int .i64)), (95, (.int .i64)), (96, .bool), (97, .bool), (100, (.int .i64)), (102, (.int .i64)), (103, .bool), (104, .bool), (105, (.int .i64)), (108, (.int .i64)), (109, .bool), (110, .bool), (113, (.int .i64)), (114, .bool), (115, .bool), (116, .bool), (119, (.int .i64)), (122, (.int .i64)), (123, (.int .i64)), (124, .bool), (125, .bool)]
noncomputable def call44 (lf : Nat) : CallS := callN
theorem call44_ok (lf : Nat) : CallOk Go.Proofs.Try.prog (call44 lf) := callN_ok
def o44_0 : Outs := [((.exit 0), [], []), (.ret, [2], [.bool])]
def k44_0 : KC := (.seq (.reg [⟨(some 10), none, (.op (.bin .lss (.t 9) (.t 8))), []⟩]) (.seq (.cond (.t 10) .skip (.exit 0)) (.seq (.block 1 (.seq (.reg [⟨(some 11), none, (.op (.mv (.t 9))), []⟩, ⟨(some 3), none, (.op (.mv (.t 11))), []⟩]) (.seq (.reg [⟨(some 12), none, (.op (.faddr 1 (.t 1))), []⟩, ⟨(some 13), none, (.op (.load1 (.t 12))), []⟩, ⟨(some 14), none, (.op (.mv (.t 3))), []⟩, ⟨(some 15), none, (.op (.iaddrL 1 (.t 13) (.t 14))), []⟩, ⟨(some 16), none, (.op (.load1 (.t 15))), []⟩, ⟨(some 17), none, (.op (.lenL (.t 16))), []⟩, ⟨(some 18), none, (.op (.bin .eql (.t 17) (.c (.int .i64 0)))), []⟩, ⟨(some 19), none, (.op (.mv (.t 18))), []⟩, ⟨(some 20), (some (19, false)), (.op (.faddr 1 (.t 1))), []⟩, ⟨(some 21), (some (19, false)), (.op (.load1 (.t 20))), []⟩, ⟨(some 22), (some (19, false)), (.op (.mv (.t 3))), []⟩, ⟨(some 23), (some (19, false)), (.op (.iaddrL 1 (.t 21) (.t 22))), []⟩, ⟨(some 24), (some (19, false)), (.op (.load1 (.t 23))), []⟩, ⟨(some 25), (some (19, false)), (.op (.lenL (.t 24))), []⟩, ⟨(some 26), (some (19, false)), (.op (.bin .gtr (.t 25) (.c (.int .i64 120)))), []⟩, ⟨(some 27), none, (.op (.pick (.t 19) (.c (.bool true)) (.t 26))), []⟩, ⟨(some 28), none, (.op (.mv (.t 27))), []⟩, ⟨(some 29), (some (28, false)), (.op (.mv (.t 3))), []⟩, ⟨(some 30), (some (28, false)), (.op (.bin .gtr (.t 29) (.c (.int .i64 0)))), []⟩, ⟨(some 31), (some (28, false)), (.op (.mv (.t 30))), []⟩, ⟨(some 32), (some (31, true)), (.op (.faddr 1 (.t 1))), []⟩, ⟨(some 33), (some (31, true)), (.op (.load1 (.t 32))), []⟩, ⟨(some 34), (some (31, true)), (.op (.mv (.t 3))), []⟩, ⟨(some 35), (some (31, true)), (.op (.bin .sub (.t 34) (.c (.int .i64 1)))), []⟩, ⟨(some 36), (some (31, true)), (.op (.iaddrL 1 (.t 33) (.t 35))), []⟩, ⟨(some 37), (some (31, true)), (.op (.load1 (.t 36))), []⟩, ⟨(some 38), (some (31, true)), (.op (.toStr (.t 37))), []⟩, ⟨(some 39), (some (31, true)), (.op (.faddr 1 (.t 1))), []⟩, ⟨(some 40), (some (31, true)), (.op (.load1 (.t 39))), []⟩, ⟨(some 41), (some (31, true)), (.op (.mv (.t 3))), []⟩, ⟨(some 42), (some (31, true)), (.op (.iaddrL 1 (.t 40) (.t 41))), []⟩, ⟨(some 43), (some (31, true)), (.op (.load1 (.t 42))), []⟩, ⟨(some 44), (some (31, true)), (.op (.toStr (.t 43))), []⟩, ⟨(some 45), (some (31, true)), (.op (.bin .geq (.t 38) (.t 44))), []⟩, ⟨(some 46), (some (28, false)), (.op (.pick (.t 31) (.t 45) (.c (.bool false)))), []⟩, ⟨(some 47), none, (.op (.pick (.t 28) (.c (.bool true)) (.t 46))), []⟩]) (.cond (.t 47) (.seq (.reg [⟨(some 2), none, (.op (.mv (.c (.bool false)))), []⟩]) .ret) .skip)))) (.reg [⟨(some 48), none, (.op (.bin .add (.t 9) (.c (.int .i64 1)))), []⟩, ⟨(some 9), none, (.op (.mv (.t 48))), []⟩]))))
def w44_0 (f : V → Int → Int → List Ob → SubR) (vs : List V) (h : List Ob) : SubR := castCons vs fun c1 l1 => castCons l1 fun c2 l2 => castInt .i64 c2 fun n3 => castCons l2 fun c4 l4 => castInt .i64 c4 fun n5 => castNil l4 (f c1 n3 n5 h)
noncomputable def B44_0 (lf : Nat) (self : V → Int → Int → List Ob → SubR) (n_ : V) (x8 : Int) (x9 : Int) (h : List Ob) : SubR :=
cB (decide (x9 < x8)) (
bind1 (er (.faddr 1 (.c n_)) h) fun x12 =>
bind1 (er (.load1 (.c x12)) h) fun x13 =>
bind1 (er (.iaddrL 1 (.c x13) (.c (.int .i64 x9))) h) fun x15 =>
bind1 (er (.load1 (.c x15)) h) fun x16 =>
bind1 (er (.lenL (.c x16)) h) fun v =>
castInt .i64 v fun x17 =>
cB (x17 == (0)) (
some (.ret, [(.bool false)], h)) (
bind1 (er (.faddr 1 (.c n_)) h) fun x20 =>
bind1 (er (.load1 (.c x20)) h) fun x21 =>
bind1 (er (.iaddrL 1 (.c x21) (.c (.int .i64 x9))) h) fun x23 =>
bind1 (er (.load1 (.c x23)) h) fun x24 =>
bind1 (er (.lenL (.c x24)) h) fun v1 =>
castInt .i64 v1 fun x25 =>
cB (decide (x25 > (120))) (
some (.ret, [(.bool false)], h)) (
cB (decide (x9 > (0))) (
bind1 (er (.faddr 1 (.c n_)) h) fun x32 =>
bind1 (er (.load1 (.c x32)) h) fun x33 =>
bind1 (er (.iaddrL 1 (.c x33) (.c (.int .i64 (IntKind.i64.wrap (x9 - (1)))))) h) fun x36 =>
bind1 (er (.load1 (.c x36)) h) fun x37 =>
bind1 (er (.toStr (.c x37)) h) fun v2 =>
castStr v2 fun x38 =>
bind1 (er (.faddr 1 (.c n_)) h) fun x39 =>
bind1 (er (.load1 (.c x39)) h) fun x40 =>
bind1 (er (.iaddrL 1 (.c x40) (.c (.int .i64 x9))) h) fun x42 =>
bind1 (er (.load1 (.c x42)) h) fun x43 =>
bind1 (er (.toStr (.c x43)) h) fun v3 =>
castStr v3 fun x44 =>
cB (!Op.bytesLess x38 x44) (
some (.ret, [(.bool false)], h)) (
self n_ x8 (IntKind.i64.wrap (x9 + (1))) h)) (
self n_ x8 (IntKind.i64.wrap (x9 + (1))) h)))) (
some ((.exit 0), [], h))
noncomputable def L44_0 (lf : Nat) : Nat → V → Int → Int → List Ob → SubR
  | 0 => fun _ _ _ _ => none
  | n + 1 => B44_0 lf (L44_0 lf n)
theorem B44_0_eq (lf : Nat) (self : V → Int → Int → List Ob → SubR) (n_ : V) (x8 : Int) (x9 : Int) (h : List Ob) : evCK A44 ⟨call44 lf, cvN, subN⟩ k44_0 [(1, n_), (8, (.int .i64 x8)), (9, (.int .i64 x9))] h (endL [1, 8, 9] [.any, (.int .i64), (.int .i64)] o44_0 (w44_0 self)) = B44_0 lf self n_ x8 x9 h := by kernel_rfl
theorem L44_0_ok (lf : Nat) : ∀ n, SubOk Go.Proofs.Try.prog (.loop k44_0.er) [1, 8, 9] o44_0 (w44_0 (L44_0 lf n)) := by
  refine SubOk.loop (A := A44) (σ := ⟨call44 lf, cvN, subN⟩) (c := k44_0) (shs := [.any, (.int .i64), (.int .i64)]) (G := fun n => w44_0 (L44_0 lf n)) (call44_ok lf) cvN_ok (And.intro True.intro (And.intro (And.intro True.intro True.intro) (And.intro (And.intro True.intro (And.intro True.intro (And.intro (And.intro True.intro True.intro) True.intro))) True.intro))) ?_ ?_
  · intro vs h r e0
    simp only [w44_0] at e0
    obtain ⟨c1, l1, rfl, e1⟩ := castCons_inv e0
    obtain ⟨c2, l2, rfl, e2⟩ := castCons_inv e1
    obtain ⟨y1, rfl, e3⟩ := castInt_inv e2
    obtain ⟨c3, l3, rfl, e4⟩ := castCons_inv e3
    obtain ⟨y2, rfl, e5⟩ := castInt_inv e4
    obtain ⟨rfl, e6⟩ := castNil_inv e5
    have e := e6
    cases e
  · intro n vs h r e0
    simp only [w44_0] at e0
    obtain ⟨c1, l1, rfl, e1⟩ := castCons_inv e0
    obtain ⟨c2, l2, rfl, e2⟩ := castCons_inv e1
    obtain ⟨y1, rfl, e3⟩ := castInt_inv e2
    obtain ⟨c3, l3, rfl, e4⟩ := castCons_inv e3
    obtain ⟨y2, rfl, e5⟩ := castInt_inv e4
    obtain ⟨rfl, e6⟩ := castNil_inv e5
    have e := e6
    exact (B44_0_eq lf (L44_0 lf n) c1 y1 y2 h).trans e
def o44_1 : Outs := [((.exit 2), [], []), (.ret, [2], [.bool])]
def k44_1 : KC := (.seq (.reg [⟨(some 68), none, (.op (.bin .lss (.t 67) (.t 66))), []⟩]) (.seq (.cond (.t 68) .skip (.exit 2)) (.seq (.block 3 (.seq (.reg [⟨(some 69), none, (.op (.mv (.t 67))), []⟩, ⟨(some 4), none, (.op (.mv (.t 69))), []⟩]) (.seq (.reg [⟨(some 70), none, (.op (.faddr 1 (.t 1))), []⟩, ⟨(some 71), none, (.op (.load1 (.t 70))), []⟩, ⟨(some 72), none, (.op (.mv (.t 4))), []⟩, ⟨(some 73), none, (.op (.iaddrL 1 (.t 71) (.t 72))), []⟩, ⟨(some 74), none, (.op (.load1 (.t 73))), []⟩, ⟨(some 75), none, (.op (.lenL (.t 74))), []⟩, ⟨(some 76), none, (.op (.faddr 2 (.t 1))), []⟩, ⟨(some 77), none, (.op (.load1 (.t 76))), []⟩, ⟨(some 78), none, (.op (.mv (.t 4))), []⟩, ⟨(some 79), none, (.op (.iaddrL 1 (.t 77) (.t 78))), []⟩, ⟨(some 80), none, (.op (.load1 (.t 79))), []⟩, ⟨(some 81), none, (.op (.lenL (.t 80))), []⟩, ⟨(some 82), none, (.op (.bin .add (.t 75) (.t 81))), []⟩, ⟨(some 83), none, (.op (.bin .gtr (.t 82) (.c (.int .i64 160)))), []⟩]) (.cond (.t 83) (.seq (.reg [⟨(some 2), none, (.op (.mv (.c (.bool false)))), []⟩]) .ret) .skip)))) (.reg [⟨(some 84), none, (.op (.bin .add (.t 67) (.c (.int .i64 1)))), []⟩, ⟨(some 67), none, (.op (.mv (.t 84))), []⟩]))))
def w44_1 (f : V → Int → Int → List Ob → SubR) (vs : List V) (h : List Ob) : SubR := castCons vs fun c1 l1 => castCons l1 fun c2 l2 => castInt .i64 c2 fun n3 => castCons l2 fun c4 l4 => castInt .i64 c4 fun n5 => castNil l4 (f c1 n3 n5 h)
noncomputable def B44_1 (lf : Nat) (self : V → Int → Int → List Ob → SubR) (n_ : V) (x66 : Int) (x67 : Int) (h : List Ob) : SubR :=
cB (decide (x67 < x66)) (
bind1 (er (.faddr 1 (.c n_)) h) fun x70 =>
bind1 (er (.load1 (.c x70)) h) fun x71 =>
bind1 (er (.iaddrL 1 (.c x71) (.c (.int .i64 x67))) h) fun x73 =>
bind1 (er (.load1 (.c x73)) h) fun x74 =>
bind1 (er (.lenL (.c x74)) h) fun v =>
castInt .i64 v fun x75 =>
bind1 (er (.faddr 2 (.c n_)) h) fun x76 =>
bind1 (er (.load1 (.c x76)) h) fun x77 =>
bind1 (er (.iaddrL 1 (.c x77) (.c (.int .i64 x67))) h) fun x79 =>
bind1 (er (.load1 (.c x79)) h) fun x80 =>
bind1 (er (.lenL (.c x80)) h) fun v1 =>
castInt .i64 v1 fun x81 =>
cB (decide ((IntKind.i64.wrap (x75 + x81)) > (160))) (
some (.ret, [(.bool false)], h)) (
self n_ x66 (IntKind.i64.wrap (x67 + (1))) h)) (
some ((.exit 2), [], h))
noncomputable def L44_1 (lf : Nat) : Nat → V → Int → Int → List Ob → SubR
  | 0 => fun _ _ _ _ => none
  | n + 1 => B44_1 lf (L44_1 lf n)
theorem B44_1_eq (lf : Nat) (self : V → Int → Int → List Ob → SubR) (n_ : V) (x66 : Int) (x67 : Int) (h : List Ob) : evCK A44 ⟨call44 lf, cvN, subN⟩ k44_1 [(1, n_), (66, (.int .i64 x66)), (67, (.int .i64 x67))] h (endL [1, 66, 67] [.any, (.int .i64), (.int .i64)] o44_1 (w44_1 self)) = B44_1 lf self n_ x66 x67 h := by kernel_rfl
theorem L44_1_ok (lf : Nat) : ∀ n, SubOk Go.Proofs.Try.prog (.loop k44_1.er) [1, 66, 67] o44_1 (w44_1 (L44_1 lf n)) := by
  refine SubOk.loop (A := A44) (σ := ⟨call44 lf, cvN, subN⟩) (c := k44_1) (shs := [.any, (.int .i64), (.int .i64)]) (G := fun n => w44_1 (L44_1 lf n)) (call44_ok lf) cvN_ok (And.intro True.intro (And.intro (And.intro True.intro True.intro) (And.intro (And.intro True.intro (And.intro True.intro (And.intro (And.intro True.intro True.intro) True.intro))) True.intro))) ?_ ?_
  · intro vs h r e0
    simp only [w44_1] at e0
    obtain ⟨c1, l1, rfl, e1⟩ := castCons_inv e0
    obtain ⟨c2, l2, rfl, e2⟩ := castCons_inv e1
    obtain ⟨y1, rfl, e3⟩ := castInt_inv e2
    obtain ⟨c3, l3, rfl, e4⟩ := castCons_inv e3
    obtain ⟨y2, rfl, e5⟩ := castInt_inv e4
    obtain ⟨rfl, e6⟩ := castNil_inv e5
    have e := e6
    cases e
  · intro n vs h r e0
    simp only [w44_1] at e0
    obtain ⟨c1, l1, rfl, e1⟩ := castCons_inv e0
    obtain ⟨c2, l2, rfl, e2⟩ := castCons_inv e1
    obtain ⟨y1, rfl, e3⟩ := castInt_inv e2
    obtain ⟨c3, l3, rfl, e4⟩ := castCons_inv e3
    obtain ⟨y2, rfl, e5⟩ := castInt_inv e4
    obtain ⟨rfl, e6⟩ := castNil_inv e5
    have e := e6
    exact (B44_1_eq lf (L44_1 lf n) c1 y1 y2 h).trans e
def o44_2 : Outs := [(.ret, [2], [.bool]), (.normal, [], [])]
def k44_2 : KC := (.seq (.reg [⟨(some 51), none, (.op (.faddr 3 (.t 1))), []⟩, ⟨(some 52), none, (.op (.load1 (.t 51))), []⟩, ⟨(some 53), none, (.op (.lenL (.t 52))), []⟩, ⟨(some 54), none, (.op (.bin .gtr (.t 53) (.c (.int .i64 0)))), []⟩, ⟨(some 55), none, (.op (.mv (.t 54))), []⟩, ⟨(some 56), (some (55, false)), (.op (.faddr 2 (.t 1))), []⟩, ⟨(some 57), (some (55, false)), (.op (.load1 (.t 56))), []⟩, ⟨(some 58), (some (55, false)), (.op (.lenL (.t 57))), []⟩, ⟨(some 59), (some (55, false)), (.op (.faddr 1 (.t 1))), []⟩, ⟨(some 60), (some (55, false)), (.op (.load1 (.t 59))), []⟩, ⟨(some 61), (some (55, false)), (.op (.lenL (.t 60))), []⟩, ⟨(some 62), (some (55, false)), (.op (.bin .neq (.t 58) (.t 61))), []⟩, ⟨(some 63), none, (.op (.pick (.t 55) (.c (.bool true)) (.t 62))), []⟩]) (.cond (.t 63) (.seq (.reg [⟨(some 2), none, (.op (.mv (.c (.bool false)))), []⟩]) .ret) .skip))
def w44_2 (f : V → List Ob → SubR) (vs : List V) (h : List Ob) : SubR := castCons vs fun c1 l1 => castNil l1 (f c1 h)
noncomputable def S44_2 (lf : Nat) (n_ : V) (h : List Ob) : SubR :=
bind1 (er (.faddr 3 (.c n_)) h) fun x51 =>
bind1 (er (.load1 (.c x51)) h) fun x52 =>
bind1 (er (.lenL (.c x52)) h) fun v =>
castInt .i64 v fun x53 =>
cB (decide (x53 > (0))) (
some (.ret, [(.bool false)], h)) (
bind1 (er (.faddr 2 (.c n_)) h) fun x56 =>
bind1 (er (.load1 (.c x56)) h) fun x57 =>
bind1 (er (.lenL (.c x57)) h) fun v1 =>
castInt .i64 v1 fun x58 =>
bind1 (er (.faddr 1 (.c n_)) h) fun x59 =>
bind1 (er (.load1 (.c x59)) h) fun x60 =>
bind1 (er (.lenL (.c x60)) h) fun v2 =>
castInt .i64 v2 fun x61 =>
cB (x58 != x61) (
some (.ret, [(.bool false)], h)) (
some (.normal, [], h)))
theorem S44_2_eq (lf : Nat) (n_ : V) (h : List Ob) : evCK A44 ⟨call44 lf, cvN, subN⟩ k44_2 [(1, n_)] h (endK o44_2) = S44_2 lf n_ h := by kernel_rfl
theorem S44_2_ok (lf : Nat) : SubOk Go.Proofs.Try.prog k44_2.er [1] o44_2 (w44_2 (S44_2 lf)) := by
  refine SubOk.of (A := A44) (σ := ⟨call44 lf, cvN, subN⟩) (c := k44_2) (call44_ok lf) cvN_ok (And.intro True.intro (And.intro (And.intro True.intro True.intro) True.intro)) ?_
  intro vs h r e0
  simp only [w44_2] at e0
  obtain ⟨c1, l1, rfl, e1⟩ := castCons_inv e0
  obtain ⟨rfl, e2⟩ := castNil_inv e1
  have e := e2
  exact (S44_2_eq lf c1 h).trans e
def o44_3 : Outs := [((.exit 4), [], []), (.ret, [2], [.bool])]
def k44_3 : KC := (.seq (.reg [⟨(some 89), none, (.op (.bin .lss (.t 88) (.t 87))), []⟩]) (.seq (.cond (.t 89) .skip (.exit 4)) (.seq (.block 5 (.seq (.reg [⟨(some 90), none, (.op (.mv (.t 88))), []⟩, ⟨(some 5), none, (.op (.mv (.t 90))), []⟩]) (.seq (.reg [⟨(some 91), none, (.op (.faddr 3 (.t 1))), []⟩, ⟨(some 92), none, (.op (.load1 (.t 91))), []⟩, ⟨(some 93), none, (.op (.mv (.t 5))), []⟩, ⟨(some 94), none, (.op (.iaddrL 1 (.t 92) (.t 93))), []⟩, ⟨(some 95), none, (.op (.load1 (.t 94))), []⟩, ⟨(some 96), none, (.op (.bin .lss (.t 95) (.c (.int .i64 1)))), []⟩, ⟨(some 97), none, (.op (.mv (.t 96))), []⟩, ⟨(some 98), (some (97, false)), (.op (.faddr 3 (.t 1))), []⟩, ⟨(some 99), (some (97, false)), (.op (.load1 (.t 98))), []⟩, ⟨(some 100), (some (97, false)), (.op (.mv (.t 5))), []⟩, ⟨(some 101), (some (97, false)), (.op (.iaddrL 1 (.t 99) (.t 100))), []⟩, ⟨(some 102), (some (97, false)), (.op (.load1 (.t 101))), []⟩, ⟨(some 103), (some (97, false)), (.op (.bin .gtr (.t 102) (.c (.int .i64 9999)))), []⟩, ⟨(some 104), none, (.op (.pick (.t 97) (.c (.bool true)) (.t 103))), []⟩]) (.cond (.t 104) (.seq (.reg [⟨(some 2), none, (.op (.mv (.c (.bool false)))), []⟩]) .ret) .skip)))) (.reg [⟨(some 105), none, (.op (.bin .add (.t 88) (.c (.int .i64 1)))), []⟩, ⟨(some 88), none, (.op (.mv (.t 105))), []⟩]))))
def w44_3 (f : V → Int → Int → List Ob → SubR) (vs : List V) (h : List Ob) : SubR := castCons vs fun c1 l1 => castCons l1 fun c2 l2 => castInt .i64 c2 fun n3 => castCons l2 fun c4 l4 => castInt .i64 c4 fun n5 => castNil l4 (f c1 n3 n5 h)
noncomputable def B44_3 (lf : Nat) (self : V → Int → Int → List Ob → SubR) (n_ : V) (x87 : Int) (x88 : Int) (h : List Ob) : SubR :=
cB (decide (x88 < x87)) (
bind1 (er (.faddr 3 (.c n_)) h) fun x91 =>
bind1 (er (.load1 (.c x91)) h) fun x92 =>
bind1 (er (.iaddrL 1 (.c x92) (.c (.int .i64 x88))) h) fun x94 =>
bind1 (er (.load1 (.c x94)) h) fun v =>
castInt .i64 v fun x95 =>
cB (decide (x95 < (1))) (
some (.ret, [(.bool false)], h)) (
bind1 (er (.faddr 3 (.c n_)) h) fun x98 =>
bind1 (er (.load1 (.c x98)) h) fun x99 =>
bind1 (er (.iaddrL 1 (.c x99) (.c (.int .i64 x88))) h) fun x101 =>
bind1 (er (.load1 (.c x101)) h) fun v1 =>
castInt .i64 v1 fun x102 =>
cB (decide (x102 > (9999))) (
some (.ret, [(.bool false)], h)) (
self n_ x87 (IntKind.i64.wrap (x88 + (1))) h))) (
some ((.exit 4), [], h))
noncomputable def L44_3 (lf : Nat) : Nat → V → Int → Int → List Ob → SubR
  | 0 => fun _ _ _ _ => none
  | n + 1 => B44_3 lf (L44_3 lf n)
theorem B44_3_eq (lf : Nat) (self : V → Int → Int → List Ob → SubR) (n_ : V) (x87 : Int) (x88 : Int) (h : List Ob) : evCK A44 ⟨call44 lf, cvN, subN⟩ k44_3 [(1, n_), (87, (.int .i64 x87)), (88, (.int .i64 x88))] h (endL [1, 87, 88] [.any, (.int .i64), (.int .i64)] o44_3 (w44_3 self)) = B44_3 lf self n_ x87 x88 h := by kernel_rfl
theorem L44_3_ok (lf : Nat) : ∀ n, SubOk Go.Proofs.Try.prog (.loop k44_3.er) [1, 87, 88] o44_3 (w44_3 (L44_3 lf n)) := by
  refine SubOk.loop (A := A44) (σ := ⟨call44 lf, cvN, subN⟩) (c := k44_3) (shs := [.any, (.int .i64), (.int .i64)]) (G := fun n => w44_3 (L44_3 lf n)) (call44_ok lf) cvN_ok (And.intro True.intro (And.intro (And.intro True.intro True.intro) (And.intro (And.intro True.intro (And.intro True.intro (And.intro (And.intro True.intro True.intro) True.intro))) True.intro))) ?_ ?_
  · intro vs h r e0
    simp only [w44_3] at e0
    obtain ⟨c1, l1, rfl, e1⟩ := castCons_inv e0
    obtain ⟨c2, l2, rfl, e2⟩ := castCons_inv e1
    obtain ⟨y1, rfl, e3⟩ := castInt_inv e2
    obtain ⟨c3, l3, rfl, e4⟩ := castCons_inv e3
    obtain ⟨y2, rfl, e5⟩ := castInt_inv e4
    obtain ⟨rfl, e6⟩ := castNil_inv e5
    have e := e6
    cases e
  · intro n vs h r e0
    simp only [w44_3] at e0
    obtain ⟨c1, l1, rfl, e1⟩ := castCons_inv e0
    obtain ⟨c2, l2, rfl, e2⟩ := castCons_inv e1
    obtain ⟨y1, rfl, e3⟩ := castInt_inv e2
    obtain ⟨c3, l3, rfl, e4⟩ := castCons_inv e3
    obtain ⟨y2, rfl, e5⟩ := castInt_inv e4
    obtain ⟨rfl, e6⟩ := castNil_inv e5
    have e := e6
    exact (B44_3_eq lf (L44_3 lf n) c1 y1 y2 h).trans e
def k44 : KC := (.seq (.reg [⟨(some 1), none, (.op (.box false (.t 0))), []⟩, ⟨(some 2), none, (.op (.mv (.c (.bool false)))), []⟩]) (.seq (.seq (.reg [⟨(some 6), none, (.op (.faddr 1 (.t 1))), []⟩, ⟨(some 7), none, (.op (.load1 (.t 6))), []⟩, ⟨(some 8), none, (.op (.lenL (.t 7))), []⟩, ⟨(some 9), none, (.op (.mv (.c (.int .i64 0)))), []⟩]) (.block 0 (.sub 0 (.loop k44_0.er) [1, 8, 9] o44_0))) (.seq (.seq (.reg [⟨(some 49), none, (.op (.faddr 0 (.t 1))), []⟩, ⟨(some 50), none, (.op (.load1 (.t 49))), []⟩]) (.cond (.t 50) (.seq (.sub 2 k44_2.er [1] o44_2) (.seq (.seq (.reg [⟨(some 64), none, (.op (.faddr 2 (.t 1))), []⟩, ⟨(some 65), none, (.op (.load1 (.t 64))), []⟩, ⟨(some 66), none, (.op (.lenL (.t 65))), []⟩, ⟨(some 67), none, (.op (.mv (.c (.int .i64 0)))), []⟩]) (.block 2 (.sub 1 (.loop k44_1.er) [1, 66, 67] o44_1))) (.seq (.reg [⟨(some 2), none, (.op (.mv (.c (.bool true)))), []⟩]) .ret))) .skip)) (.seq (.seq (.reg [⟨(some 85), none, (.op (.faddr 3 (.t 1))), []⟩, ⟨(some 86), none, (.op (.load1 (.t 85))), []⟩, ⟨(some 87), none, (.op (.lenL (.t 86))), []⟩, ⟨(some 88), none, (.op (.mv (.c (.int .i64 0)))), []⟩]) (.block 4 (.sub 3 (.loop k44_3.er) [1, 87, 88] o44_3))) (.seq (.reg [⟨(some 106), none, (.op (.faddr 2 (.t 1))), []⟩, ⟨(some 107), none, (.op (.load1 (.t 106))), []⟩, ⟨(some 108), none, (.op (.lenL (.t 107))), []⟩, ⟨(some 109), none, (.op (.bin .eql (.t 108) (.c (.int .i64 0)))), []⟩, ⟨(some 110), none, (.op (.mv (.t 109))), []⟩, ⟨(some 111), (some (110, true)), (.op (.faddr 1 (.t 1))), []⟩, ⟨(some 112), (some (110, true)), (.op (.load1 (.t 111))), []⟩, ⟨(some 113), (some (110, true)), (.op (.lenL (.t 112))), []⟩, ⟨(some 114), (some (110, true)), (.op (.bin .gtr (.t 113) (.c (.int .i64 0)))), []⟩, ⟨(some 115), none, (.op (.pick (.t 110) (.t 114) (.c (.bool false)))), []⟩, ⟨(some 116), none, (.op (.mv (.t 115))), []⟩, ⟨(some 117), (some (116, true)), (.op (.faddr 3 (.t 1))), []⟩, ⟨(some 118), (some (116, true)), (.op (.load1 (.t 117))), []⟩, ⟨(some 119), (some (116, true)), (.op (.lenL (.t 118))), []⟩, ⟨(some 120), (some (116, true)), (.op (.faddr 1 (.t 1))), []⟩, ⟨(some 121), (some (116, true)), (.op (.load1 (.t 120))), []⟩, ⟨(some 122), (some (116, true)), (.op (.lenL (.t 121))), []⟩, ⟨(some 123), (some (116, true)), (.op (.bin .add (.t 122) (.c (.int .i64 1)))), []⟩, ⟨(some 124), (some (116, true)), (.op (.bin .eql (.t 119) (.t 123))), []⟩, ⟨(some 125), none, (.op (.pick (.t 116) (.t 124) (.c (.bool false)))), []⟩, ⟨(some 2), none, (.op (.mv (.t 125))), []⟩]) .ret)))))
noncomputable def F44 (lf : Nat) (n_ : Bool) (n_1 : V) (n_2 : V) (n_3 : V) (h : List Ob) : Option (V × List Ob) :=
bind2 (ev (.box false (.c (.agg [(.bool n_), n_1, n_2, n_3]))) h) fun n_4 h_ =>
bind1 (er (.faddr 1 (.c n_4)) h_) fun x6 =>
bind1 (er (.load1 (.c x6)) h_) fun x7 =>
bind1 (er (.lenL (.c x7)) h_) fun v =>
castInt .i64 v fun x8 =>
bind3 (L44_0 lf lf n_4 x8 (0) h_) fun ex vs h_1 =>
cB (decide (ex = (.exit 0))) (
castNil vs (
bind1 (er (.faddr 0 (.c n_4)) h_1) fun x49 =>
bind1 (er (.load1 (.c x49)) h_1) fun v1 =>
castBool v1 fun x50 =>
cB x50 (
bind3 (S44_2 lf n_4 h_1) fun ex1 vs1 h_2 =>
cB (decide (ex1 = .ret)) (
castCons vs1 fun c l =>
castBool c fun x2 =>
castNil l (
some ((.bool x2), h_2))) (
cB (decide (ex1 = .normal)) (
castNil vs1 (
bind1 (er (.faddr 2 (.c n_4)) h_2) fun x64 =>
bind1 (er (.load1 (.c x64)) h_2) fun x65 =>
bind1 (er (.lenL (.c x65)) h_2) fun v2 =>
castInt .i64 v2 fun x66 =>
bind3 (L44_1 lf lf n_4 x66 (0) h_2) fun ex2 vs2 h_3 =>
cB (decide (ex2 = (.exit 2))) (
castNil vs2 (
some ((.bool true), h_3))) (
cB (decide (ex2 = .ret)) (
castCons vs2 fun c l =>
castBool c fun x2 =>
castNil l (
some ((.bool x2), h_3))) (
none)))) (
none))) (
bind1 (er (.faddr 3 (.c n_4)) h_1) fun x85 =>
bind1 (er (.load1 (.c x85)) h_1) fun x86 =>
bind1 (er (.lenL (.c x86)) h_1) fun v2 =>
castInt .i64 v2 fun x87 =>
bind3 (L44_3 lf lf n_4 x87 (0) h_1) fun ex1 vs1 h_2 =>
cB (decide (ex1 = (.exit 4))) (
castNil vs1 (
bind1 (er (.faddr 2 (.c n_4)) h_2) fun x106 =>
bind1 (er (.load1 (.c x106)) h_2) fun x107 =>
bind1 (er (.lenL (.c x107)) h_2) fun v3 =>
castInt .i64 v3 fun x108 =>
cB (x108 == (0)) (
bind1 (er (.faddr 1 (.c n_4)) h_2) fun x111 =>
bind1 (er (.load1 (.c x111)) h_2) fun x112 =>
bind1 (er (.lenL (.c x112)) h_2) fun v4 =>
castInt .i64 v4 fun x113 =>
cB (decide (x113 > (0))) (
bind1 (er (.faddr 3 (.c n_4)) h_2) fun x117 =>
bind1 (er (.load1 (.c x117)) h_2) fun x118 =>
bind1 (er (.lenL (.c x118)) h_2) fun v5 =>
castInt .i64 v5 fun x119 =>
bind1 (er (.faddr 1 (.c n_4)) h_2) fun x120 =>
bind1 (er (.load1 (.c x120)) h_2) fun x121 =>
bind1 (er (.lenL (.c x121)) h_2) fun v6 =>
castInt .i64 v6 fun x122 =>
some ((.bool (x119 == (IntKind.i64.wrap (x122 + (1))))), h_2)) (
some ((.bool false), h_2))) (
some ((.bool false), h_2)))) (
cB (decide (ex1 = .ret)) (
castCons vs1 fun c l =>
castBool c fun x2 =>
castNil l (
some ((.bool x2), h_2))) (
none))))) (
cB (decide (ex = .ret)) (
castCons vs fun c l =>
castBool c fun x2 =>
castNil l (
some ((.bool x2), h_1))) (
none))
theorem F44_eq (lf : Nat) (n_ : Bool) (n_1 : V) (n_2 : V) (n_3 : V) (h : List Ob) : evCK A44 ⟨call44 lf, cvN, subC 3 (w44_3 (L44_3 lf lf)) (subC 1 (w44_1 (L44_1 lf lf)) (subC 2 (w44_2 (S44_2 lf)) (subC 0 (w44_0 (L44_0 lf lf)) (subN))))⟩ k44 (entryK [(.agg [(.bool n_), n_1, n_2, n_3])]) h (endF c44.res) = F44 lf n_ n_1 n_2 n_3 h := by kernel_rfl
theorem F44_ok (lf : Nat) (n_ : Bool) (n_1 : V) (n_2 : V) (n_3 : V) (h : List Ob) (r_ : V) (h_r : List Ob) (e_ : F44 lf n_ n_1 n_2 n_3 h = some (r_, h_r)) : CD Go.Proofs.Try.prog 44 [(.agg [(.bool n_), n_1, n_2, n_3])] h r_ h_r :=
  CD.ofK (A := A44) (σ := ⟨call44 lf, cvN, subC 3 (w44_3 (L44_3 lf lf)) (subC 1 (w44_1 (L44_1 lf lf)) (subC 2 (w44_2 (S44_2 lf)) (subC 0 (w44_0 (L44_0 lf lf)) (subN))))⟩) (c := k44) Go.Proofs.Try.func44 ok44 en44 (show 1 ≤ 126 by decide) (by kernel_rfl) (call44_ok lf) cvN_ok (And.intro True.intro (And.intro (And.intro True.intro (L44_0_ok lf lf)) (And.intro (And.intro True.intro (And.intro (And.intro (S44_2_ok lf) (And.intro (And.intro True.intro (L44_1_ok lf lf)) (And.intro True.intro True.intro))) True.intro)) (And.intro (And.intro True.intro (L44_3_ok lf lf)) (And.intro True.intro True.intro))))) ((F44_eq lf n_ n_1 n_2 n_3 h).trans e_)
def w44 (f : Bool → V → V → V → List Ob → Option (V × List Ob)) (vs : List V) (h : List Ob) : Option (V × List Ob) := castCons vs fun c1 l1 => castAgg c1 fun n2 => castCons n2 fun c3 l3 => castBool c3 fun n4 => castCons l3 fun c5 l5 => castCons l5 fun c6 l6 => castCons l6 fun c7 l7 => castNil l7 (castNil l1 (f n4 c5 c6 c7 h))
noncomputable def W44 (lf : Nat) : List V → List Ob → Option (V × List Ob) := w44 (F44 lf)
theorem W44_ok (lf : Nat) : ∀ args h v h', W44 lf args h = some (v, h') → CD Go.Proofs.Try.prog 44 args h v h' := by
  intro vs h r h' e0
  simp only [W44, w44] at e0
  obtain ⟨c1, l1, rfl, e1⟩ := castCons_inv e0
  obtain ⟨l2, rfl, e2⟩ := castAgg_inv e1
  obtain ⟨c3, l3, rfl, e3⟩ := castCons_inv e2
  obtain ⟨y0, rfl, e4⟩ := castBool_inv e3
  obtain ⟨c4, l4, rfl, e5⟩ := castCons_inv e4
  obtain ⟨c5, l5, rfl, e6⟩ := castCons_inv e5
  obtain ⟨c6, l6, rfl, e7⟩ := castCons_inv e6
  obtain ⟨rfl, e8⟩ := castNil_inv e7
  obtain ⟨rfl, e9⟩ := castNil_inv e8
  have e := e9
  exact F44_ok lf y0 c4 c5 c6 h r h' e

/-! 85: wainscot/wainscotref09.piece -/
def A85 : List (Nat × Sh) := [(4, (.int .i64)), (5, (.int .u64))]
noncomputable def call85 (lf : Nat) : CallS := callC 27 (W27 lf) (callN)
theorem call85_ok (lf : Nat) : CallOk Go.Proofs.Try.prog (call85 lf) := callC_ok (W27_ok lf) (callN_ok)
def k85 : KC := (.seq (.reg [⟨(some 2), none, (.op (.mv (.c .nils))), []⟩]) (.seq (.reg [⟨(some 3), none, (.op (.mv (.t 0))), []⟩, ⟨(some 4), none, (.op (.lenL (.t 3))), []⟩, ⟨(some 5), none, (.op (.toInt .u64 (.t 4))), []⟩, ⟨(some 6), none, (.call 27 [(.t 5)]), []⟩, ⟨(some 7), none, (.op (.mv (.t 0))), []⟩, ⟨(some 8), none, (.op (.app 1 1 (.t 6) (.t 7))), []⟩, ⟨(some 2), none, (.op (.mv (.t 8))), []⟩]) .ret))
noncomputable def F85 (lf : Nat) (b : V) (h : List Ob) : Option (V × List Ob) :=
bind1 (er (.lenL (.c b)) h) fun v =>
castInt .i64 v fun x4 =>
bind2 (F27 lf (IntKind.u64.wrap x4) h) fun x6 h_ =>
bind2 (ev (.app 1 1 (.c x6) (.c b)) h_) fun x8 h_1 =>
some (x8, h_1)
theorem F85_eq (lf : Nat) (b : V) (h : List Ob) : evCK A85 ⟨call85 lf, cvN, subN⟩ k85 (entryK [b]) h (endF c85.res) = F85 lf b h := by kernel_rfl
theorem F85_ok (lf : Nat) (b : V) (h : List Ob) (r_ : V) (h_r : List Ob) (e_ : F85 lf b h = some (r_, h_r)) : CD Go.Proofs.Try.prog 85 [b] h r_ h_r :=
  CD.ofK (A := A85) (σ := ⟨call85 lf, cvN, subN⟩) (c := k85) Go.Proofs.Try.func85 ok85 en85 (show 1 ≤ 9 by decide) (by kernel_rfl) (call85_ok lf) cvN_ok (And.intro True.intro (And.intro True.intro True.intro)) ((F85_eq lf b h).trans e_)
def w85 (f : V → List Ob → Option (V × List Ob)) (vs : List V) (h : List Ob) : Option (V × List Ob) := castCons vs fun c1 l1 => castNil l1 (f c1 h)
noncomputable def W85 (lf : Nat) : List V → List Ob → Option (V × List Ob) := w85 (F85 lf)
theorem W85_ok (lf : Nat) : ∀ args h v h', W85 lf args h = some (v, h') → CD Go.Proofs.Try.prog 85 args h v h' := by
  intro vs h r h' e0
  simp only [W85, w85] at e0
  obtain ⟨c1, l1, rfl, e1⟩ := castCons_inv e0
  obtain ⟨rfl, e2⟩ := castNil_inv e1
  have e := e2
  exact F85_ok lf c1 h r h' e

/-! 66: wainscot/wainscotref09.spelt -/
def A66 : List (Nat × Sh) := [(0, (.agg [.bool, .any, .any, .any])), (3, (.int .u8)), (5, (.int .i64)), (7, .bool), (8, (.int .u8)), (12, (.int .i64)), (13, (.int .u64)), (17, .bool), (18, .bool), (23, (.int .i64)), (24, (.int .u64)), (29, (.int .i64)), (30, (.int .i64)), (31, .bool), (32, (.int .i64)), (36, (.int .i64)), (42, .bool), (46, (.int .i64)), (54, (.int .i64)), (55, (.int .i64)), (57, (.int .i64)), (58, (.int .u64)), (61, (.int .i64))]
noncomputable def call66 (lf : Nat) : CallS := callC 85 (W85 lf) (callC 27 (W27 lf) (callN))
theorem call66_ok (lf : Nat) : CallOk Go.Proofs.Try.prog (call66 lf) := callC_ok (W85_ok lf) (callC_ok (W27_ok lf) (callN_ok))
def o66_0 : Outs := [((.exit 0), [4], [.any])]
def k66_0 : KC := (.seq (.reg [⟨(some 31), none, (.op (.bin .lss (.t 30) (.t 29))), []⟩]) (.seq (.cond (.t 31) .skip (.exit 0)) (.seq (.block 1 (.seq (.reg [⟨(some 32), none, (.op (.mv (.t 30))), []⟩, ⟨(some 5), none, (.op (.mv (.t 32))), []⟩]) (.seq (.reg [⟨(some 33), none, (.op (.mv (.t 4))), []⟩, ⟨(some 34), none, (.op (.faddr 1 (.t 1))), []⟩, ⟨(some 35), none, (.op (.load1 (.t 34))), []⟩, ⟨(some 36), none, (.op (.mv (.t 5))), []⟩, ⟨(some 37), none, (.op (.iaddrL 1 (.t 35) (.t 36))), []⟩, ⟨(some 38), none, (.op (.load1 (.t 37))), []⟩, ⟨(some 39), none, (.call 85 [(.t 38)]), []⟩, ⟨(some 40), none, (.op (.app 1 1 (.t 33) (.t 39))), []⟩, ⟨(some 4), none, (.op (.mv (.t 40))), []⟩]) (.seq (.reg [⟨(some 41), none, (.op (.faddr 0 (.t 1))), []⟩, ⟨(some 42), none, (.op (.load1 (.t 41))), []⟩]) (.cond (.t 42) (.reg [⟨(some 43), none, (.op (.mv (.t 4))), []⟩, ⟨(some 44), none, (.op (.faddr 2 (.t 1))), []⟩, ⟨(some 45), none, (.op (.load1 (.t 44))), []⟩, ⟨(some 46), none, (.op (.mv (.t 5))), []⟩, ⟨(some 47), none, (.op (.iaddrL 1 (.t 45) (.t 46))), []⟩, ⟨(some 48), none, (.op (.load1 (.t 47))), []⟩, ⟨(some 49), none, (.call 85 [(.t 48)]), []⟩, ⟨(some 50), none, (.op (.app 1 1 (.t 43) (.t 49))), []⟩, ⟨(some 4), none, (.op (.mv (.t 50))), []⟩]) (.reg [⟨(some 51), none, (.op (.mv (.t 4))), []⟩, ⟨(some 52), none, (.op (.faddr 3 (.t 1))), []⟩, ⟨(some 53), none, (.op (.load1 (.t 52))), []⟩, ⟨(some 54), none, (.op (.mv (.t 5))), []⟩, ⟨(some 55), none, (.op (.bin .add (.t 54) (.c (.int .i64 1)))), []⟩, ⟨(some 56), none, (.op (.iaddrL 1 (.t 53) (.t 55))), []⟩, ⟨(some 57), none, (.op (.load1 (.t 56))), []⟩, ⟨(some 58), none, (.op (.toInt .u64 (.t 57))), []⟩, ⟨(some 59), none, (.call 27 [(.t 58)]), []⟩, ⟨(some 60), none, (.op (.app 1 1 (.t 51) (.t 59))), []⟩, ⟨(some 4), none, (.op (.mv (.t 60))), []⟩])))))) (.reg [⟨(some 61), none, (.op (.bin .add (.t 30) (.c (.int .i64 1)))), []⟩, ⟨(some 30), none, (.op (.mv (.t 61))), []⟩]))))
def w66_0 (f : V → V → Int → Int → List Ob → SubR) (vs : List V) (h : List Ob) : SubR := castCons vs fun c1 l1 => castCons l1 fun c2 l2 => castCons l2 fun c3 l3 => castInt .i64 c3 fun n4 => castCons l3 fun c5 l5 => castInt .i64 c5 fun n6 => castNil l5 (f c1 c2 n4 n6 h)
noncomputable def B66_0 (lf : Nat) (self : V → V → Int → Int → List Ob → SubR) (n_ : V) (b : V) (x29 : Int) (x30 : Int) (h : List Ob) : SubR :=
cB (decide (x30 < x29)) (
bind1 (er (.faddr 1 (.c n_)) h) fun x34 =>
bind1 (er (.load1 (.c x34)) h) fun x35 =>
bind1 (er (.iaddrL 1 (.c x35) (.c (.int .i64 x30))) h) fun x37 =>
bind1 (er (.load1 (.c x37)) h) fun x38 =>
bind2 (F85 lf x38 h) fun x39 h_ =>
bind2 (ev (.app 1 1 (.c b) (.c x39)) h_) fun x40 h_1 =>
bind1 (er (.faddr 0 (.c n_)) h_1) fun x41 =>
bind1 (er (.load1 (.c x41)) h_1) fun v =>
castBool v fun x42 =>
cB x42 (
bind1 (er (.faddr 2 (.c n_)) h_1) fun x44 =>
bind1 (er (.load1 (.c x44)) h_1) fun x45 =>
bind1 (er (.iaddrL 1 (.c x45) (.c (.int .i64 x30))) h_1) fun x47 =>
bind1 (er (.load1 (.c x47)) h_1) fun x48 =>
bind2 (F85 lf x48 h_1) fun x49 h_2 =>
bind2 (ev (.app 1 1 (.c x40) (.c x49)) h_2) fun x50 h_3 =>
self n_ x50 x29 (IntKind.i64.wrap (x30 + (1))) h_3) (
bind1 (er (.faddr 3 (.c n_)) h_1) fun x52 =>
bind1 (er (.load1 (.c x52)) h_1) fun x53 =>
bind1 (er (.iaddrL 1 (.c x53) (.c (.int .i64 (IntKind.i64.wrap (x30 + (1)))))) h_1) fun x56 =>
bind1 (er (.load1 (.c x56)) h_1) fun v1 =>
castInt .i64 v1 fun x57 =>
bind2 (F27 lf (IntKind.u64.wrap x57) h_1) fun x59 h_2 =>
bind2 (ev (.app 1 1 (.c x40) (.c x59)) h_2) fun x60 h_3 =>
self n_ x60 x29 (IntKind.i64.wrap (x30 + (1))) h_3)) (
some ((.exit 0), [b], h))
noncomputable def L66_0 (lf : Nat) : Nat → V → V → Int → Int → List Ob → SubR
  | 0 => fun _ _ _ _ _ => none
  | n + 1 => B66_0 lf (L66_0 lf n)
theorem B66_0_eq (lf : Nat) (self : V → V → Int → Int → List Ob → SubR) (n_ : V) (b : V) (x29 : Int) (x30 : Int) (h : List Ob) : evCK A66 ⟨call66 lf, cvN, subN⟩ k66_0 [(1, n_), (4, b), (29, (.int .i64 x29)), (30, (.int .i64 x30))] h (endL [1, 4, 29, 30] [.any, .any, (.int .i64), (.int .i64)] o66_0 (w66_0 self)) = B66_0 lf self n_ b x29 x30 h := by kernel_rfl
theorem L66_0_ok (lf : Nat) : ∀ n, SubOk Go.Proofs.Try.prog (.loop k66_0.er) [1, 4, 29, 30] o66_0 (w66_0 (L66_0 lf n)) := by
  refine SubOk.loop (A := A66) (σ := ⟨call66 lf, cvN, subN⟩) (c := k66_0) (shs := [.any, .any, (.int .i64), (.int .i64)]) (G := fun n => w66_0 (L66_0 lf n)) (call66_ok lf) cvN_ok (And.intro True.intro (And.intro (And.intro True.intro True.intro) (And.intro (And.intro True.intro (And.intro True.intro (And.intro True.intro (And.intro True.intro True.intro)))) True.intro))) ?_ ?_
  · intro vs h r e0
    simp only [w66_0] at e0
    obtain ⟨c1, l1, rfl, e1⟩ := castCons_inv e0
    obtain ⟨c2, l2, rfl, e2⟩ := castCons_inv e1
    obtain ⟨c3, l3, rfl, e3⟩ := castCons_inv e2
    obtain ⟨y2, rfl, e4⟩ := castInt_inv e3
    obtain ⟨c4, l4, rfl, e5⟩ := castCons_inv e4
    obtain ⟨y3, rfl, e6⟩ := castInt_inv e5
    obtain ⟨rfl, e7⟩ := castNil_inv e6
    have e := e7
    cases e
  · intro n vs h r e0
    simp only [w66_0] at e0
    obtain ⟨c1, l1, rfl, e1⟩ := castCons_inv e0
    obtain ⟨c2, l2, rfl, e2⟩ := castCons_inv e1
    obtain ⟨c3, l3, rfl, e3⟩ := castCons_inv e2
    obtain ⟨y2, rfl, e4⟩ := castInt_inv e3
    obtain ⟨c4, l4, rfl, e5⟩ := castCons_inv e4
    obtain ⟨y3, rfl, e6⟩ := castInt_inv e5
    obtain ⟨rfl, e7⟩ := castNil_inv e6
    have e := e7
    exact (B66_0_eq lf (L66_0 lf n) c1 c2 y2 y3 h).trans e
def o66_1 : Outs := [(.normal, [4], [.any])]
def k66_1 : KC := (.seq (.reg [⟨(some 16), none, (.op (.faddr 0 (.t 1))), []⟩, ⟨(some 17), none, (.op (.load1 (.t 16))), []⟩, ⟨(some 18), none, (.op (.un .not (.t 17))), []⟩]) (.cond (.t 18) (.reg [⟨(some 19), none, (.op (.mv (.t 4))), []⟩, ⟨(some 20), none, (.op (.faddr 3 (.t 1))), []⟩, ⟨(some 21), none, (.op (.load1 (.t 20))), []⟩, ⟨(some 22), none, (.op (.iaddrL 1 (.t 21) (.c (.int .i64 0)))), []⟩, ⟨(some 23), none, (.op (.load1 (.t 22))), []⟩, ⟨(some 24), none, (.op (.toInt .u64 (.t 23))), []⟩, ⟨(some 25), none, (.call 27 [(.t 24)]), []⟩, ⟨(some 26), none, (.op (.app 1 1 (.t 19) (.t 25))), []⟩, ⟨(some 4), none, (.op (.mv (.t 26))), []⟩]) .skip))
def w66_1 (f : V → V → List Ob → SubR) (vs : List V) (h : List Ob) : SubR := castCons vs fun c1 l1 => castCons l1 fun c2 l2 => castNil l2 (f c1 c2 h)
noncomputable def S66_1 (lf : Nat) (n_ : V) (b : V) (h : List Ob) : SubR :=
bind1 (er (.faddr 0 (.c n_)) h) fun x16 =>
bind1 (er (.load1 (.c x16)) h) fun v =>
castBool v fun x17 =>
cB (!x17) (
bind1 (er (.faddr 3 (.c n_)) h) fun x20 =>
bind1 (er (.load1 (.c x20)) h) fun x21 =>
bind1 (er (.iaddrL 1 (.c x21) (.c (.int .i64 (0)))) h) fun x22 =>
bind1 (er (.load1 (.c x22)) h) fun v1 =>
castInt .i64 v1 fun x23 =>
bind2 (F27 lf (IntKind.u64.wrap x23) h) fun x25 h_ =>
bind2 (ev (.app 1 1 (.c b) (.c x25)) h_) fun x26 h_1 =>
some (.normal, [x26], h_1)) (
some (.normal, [b], h))
theorem S66_1_eq (lf : Nat) (n_ : V) (b : V) (h : List Ob) : evCK A66 ⟨call66 lf, cvN, subN⟩ k66_1 [(1, n_), (4, b)] h (endK o66_1) = S66_1 lf n_ b h := by kernel_rfl
theorem S66_1_ok (lf : Nat) : SubOk Go.Proofs.Try.prog k66_1.er [1, 4] o66_1 (w66_1 (S66_1 lf)) := by
  refine SubOk.of (A := A66) (σ := ⟨call66 lf, cvN, subN⟩) (c := k66_1) (call66_ok lf) cvN_ok (And.intro True.intro (And.intro True.intro True.intro)) ?_
  intro vs h r e0
  simp only [w66_1] at e0
  obtain ⟨c1, l1, rfl, e1⟩ := castCons_inv e0
  obtain ⟨c2, l2, rfl, e2⟩ := castCons_inv e1
  obtain ⟨rfl, e3⟩ := castNil_inv e2
  have e := e3
  exact (S66_1_eq lf c1 c2 h).trans e
def o66_2 : Outs := [(.normal, [3], [(.int .u8)])]
def k66_2 : KC := (.seq (.reg [⟨(some 6), none, (.op (.faddr 0 (.t 1))), []⟩, ⟨(some 7), none, (.op (.load1 (.t 6))), []⟩]) (.cond (.t 7) (.reg [⟨(some 3), none, (.op (.mv (.c (.int .u8 1)))), []⟩]) .skip))
def w66_2 (f : V → Int → List Ob → SubR) (vs : List V) (h : List Ob) : SubR := castCons vs fun c1 l1 => castCons l1 fun c2 l2 => castInt .u8 c2 fun n3 => castNil l2 (f c1 n3 h)
noncomputable def S66_2 (lf : Nat) (n_ : V) (kind : Int) (h : List Ob) : SubR :=
bind1 (er (.faddr 0 (.c n_)) h) fun x6 =>
bind1 (er (.load1 (.c x6)) h) fun v =>
castBool v fun x7 =>
cB x7 (
some (.normal, [(.int .u8 (1))], h)) (
some (.normal, [(.int .u8 kind)], h))
theorem S66_2_eq (lf : Nat) (n_ : V) (kind : Int) (h : List Ob) : evCK A66 ⟨call66 lf, cvN, subN⟩ k66_2 [(1, n_), (3, (.int .u8 kind))] h (endK o66_2) = S66_2 lf n_ kind h := by kernel_rfl
theorem S66_2_ok (lf : Nat) : SubOk Go.Proofs.Try.prog k66_2.er [1, 3] o66_2 (w66_2 (S66_2 lf)) := by
  refine SubOk.of (A := A66) (σ := ⟨call66 lf, cvN, subN⟩) (c := k66_2) (call66_ok lf) cvN_ok (And.intro True.intro (And.intro True.intro True.intro)) ?_
  intro vs h r e0
  simp only [w66_2] at e0
  obtain ⟨c1, l1, rfl, e1⟩ := castCons_inv e0
  obtain ⟨c2, l2, rfl, e2⟩ := castCons_inv e1
  obtain ⟨y1, rfl, e3⟩ := castInt_inv e2
  obtain ⟨rfl, e4⟩ := castNil_inv e3
  have e := e4
  exact (S66_2_eq lf c1 y1 h).trans e
def k66 : KC := (.seq (.reg [⟨(some 1), none, (.op (.box false (.t 0))), []⟩, ⟨(some 2), none, (.op (.mv (.c .nils))), []⟩]) (.seq (.reg [⟨(some 3), none, (.op (.mv (.c (.int .u8 2)))), []⟩]) (.seq (.sub 2 k66_2.er [1, 3] o66_2) (.seq (.reg [⟨(some 8), none, (.op (.mv (.t 3))), []⟩, ⟨(some 9), none, (.op (.bslice 1 (.int .u8 0) 1 [(0, (.t 8))])), []⟩, ⟨(some 10), none, (.op (.faddr 1 (.t 1))), []⟩, ⟨(some 11), none, (.op (.load1 (.t 10))), []⟩, ⟨(some 12), none, (.op (.lenL (.t 11))), []⟩, ⟨(some 13), none, (.op (.toInt .u64 (.t 12))), []⟩, ⟨(some 14), none, (.call 27 [(.t 13)]), []⟩, ⟨(some 15), none, (.op (.app 1 1 (.t 9) (.t 14))), []⟩, ⟨(some 4), none, (.op (.mv (.t 15))), []⟩]) (.seq (.sub 1 k66_1.er [1, 4] o66_1) (.seq (.seq (.reg [⟨(some 27), none, (.op (.faddr 1 (.t 1))), []⟩, ⟨(some 28), none, (.op (.load1 (.t 27))), []⟩, ⟨(some 29), none, (.op (.lenL (.t 28))), []⟩, ⟨(some 30), none, (.op (.mv (.c (.int .i64 0)))), []⟩]) (.block 0 (.sub 0 (.loop k66_0.er) [1, 4, 29, 30] o66_0))) (.seq (.reg [⟨(some 62), none, (.op (.mv (.t 4))), []⟩, ⟨(some 2), none, (.op (.mv (.t 62))), []⟩]) .ret)))))))
noncomputable def F66 (lf : Nat) (n_ : Bool) (n_1 : V) (n_2 : V) (n_3 : V) (h : List Ob) : Option (V × List Ob) :=
bind2 (ev (.box false (.c (.agg [(.bool n_), n_1, n_2, n_3]))) h) fun n_4 h_ =>
bind3 (S66_2 lf n_4 (2) h_) fun ex vs h_1 =>
cB (decide (ex = .normal)) (
castCons vs fun c l =>
castInt .u8 c fun kind =>
castNil l (
bind2 (ev (.bslice 1 (.int .u8 0) 1 [(0, (.c (.int .u8 kind)))]) h_1) fun x9 h_2 =>
bind1 (er (.faddr 1 (.c n_4)) h_2) fun x10 =>
bind1 (er (.load1 (.c x10)) h_2) fun x11 =>
bind1 (er (.lenL (.c x11)) h_2) fun v =>
castInt .i64 v fun x12 =>
bind2 (F27 lf (IntKind.u64.wrap x12) h_2) fun x14 h_3 =>
bind2 (ev (.app 1 1 (.c x9) (.c x14)) h_3) fun x15 h_4 =>
bind3 (S66_1 lf n_4 x15 h_4) fun ex1 vs1 h_5 =>
cB (decide (ex1 = .normal)) (
castCons vs1 fun b l1 =>
castNil l1 (
bind1 (er (.faddr 1 (.c n_4)) h_5) fun x27 =>
bind1 (er (.load1 (.c x27)) h_5) fun x28 =>
bind1 (er (.lenL (.c x28)) h_5) fun v1 =>
castInt .i64 v1 fun x29 =>
bind3 (L66_0 lf lf n_4 b x29 (0) h_5) fun ex2 vs2 h_6 =>
cB (decide (ex2 = (.exit 0))) (
castCons vs2 fun b1 l2 =>
castNil l2 (
some (b1, h_6))) (
none))) (
none))) (
none)
theorem F66_eq (lf : Nat) (n_ : Bool) (n_1 : V) (n_2 : V) (n_3 : V) (h : List Ob) : evCK A66 ⟨call66 lf, cvN, subC 0 (w66_0 (L66_0 lf lf)) (subC 1 (w66_1 (S66_1 lf)) (subC 2 (w66_2 (S66_2 lf)) (subN)))⟩ k66 (entryK [(.agg [(.bool n_), n_1, n_2, n_3])]) h (endF c66.res) = F66 lf n_ n_1 n_2 n_3 h := by kernel_rfl
theorem F66_ok (lf : Nat) (n_ : Bool) (n_1 : V) (n_2 : V) (n_3 : V) (h : List Ob) (r_ : V) (h_r : List Ob) (e_ : F66 lf n_ n_1 n_2 n_3 h = some (r_, h_r)) : CD Go.Proofs.Try.prog 66 [(.agg [(.bool n_), n_1, n_2, n_3])] h r_ h_r :=
  CD.ofK (A := A66) (σ := ⟨call66 lf, cvN, subC 0 (w66_0 (L66_0 lf lf)) (subC 1 (w66_1 (S66_1 lf)) (subC 2 (w66_2 (S66_2 lf)) (subN)))⟩) (c := k66) Go.Proofs.Try.func66 ok66 en66 (show 1 ≤ 63 by decide) (by kernel_rfl) (call66_ok lf) cvN_ok (And.intro True.intro (And.intro True.intro (And.intro (S66_2_ok lf) (And.intro True.intro (And.intro (S66_1_ok lf) (And.intro (And.intro True.intro (L66_0_ok lf lf)) (And.intro True.intro True.intro))))))) ((F66_eq lf n_ n_1 n_2 n_3 h).trans e_)
def w66 (f : Bool → V → V → V → List Ob → Option (V × List Ob)) (vs : List V) (h : List Ob) : Option (V × List Ob) := castCons vs fun c1 l1 => castAgg c1 fun n2 => castCons n2 fun c3 l3 => castBool c3 fun n4 => castCons l3 fun c5 l5 => castCons l5 fun c6 l6 => castCons l6 fun c7 l7 => castNil l7 (castNil l1 (f n4 c5 c6 c7 h))
noncomputable def W66 (lf : Nat) : List V → List Ob → Option (V × List Ob) := w66 (F66 lf)
theorem W66_ok (lf : Nat) : ∀ args h v h', W66 lf args h = some (v, h') → CD Go.Proofs.Try.prog 66 args h v h' := by
  intro vs h r h' e0
  simp only [W66, w66] at e0
  obtain ⟨c1, l1, rfl, e1⟩ := castCons_inv e0
  obtain ⟨l2, rfl, e2⟩ := castAgg_inv e1
  obtain ⟨c3, l3, rfl, e3⟩ := castCons_inv e2
  obtain ⟨y0, rfl, e4⟩ := castBool_inv e3
  obtain ⟨c4, l4, rfl, e5⟩ := castCons_inv e4
  obtain ⟨c5, l5, rfl, e6⟩ := castCons_inv e5
  obtain ⟨c6, l6, rfl, e7⟩ := castCons_inv e6
  obtain ⟨rfl, e8⟩ := castNil_inv e7
  obtain ⟨rfl, e9⟩ := castNil_inv e8
  have e := e9
  exact F66_ok lf y0 c4 c5 c6 h r h' e

/-! 42: wainscot/wainscotref09.Encode -/
def A42 : List (Nat × Sh) := [(0, (.agg [.bool, .any, .any, .any])), (3, (.int .i64)), (5, (.agg [.bool, .any, .any, .any])), (6, .bool), (7, .bool), (8, (.agg [.bool, .any, .any, .any])), (11, (.int .i64)), (12, .bool)]
noncomputable def call42 (lf : Nat) : CallS := callC 66 (W66 lf) (callC 44 (W44 lf) (callN))
theorem call42_ok (lf : Nat) : CallOk Go.Proofs.Try.prog (call42 lf) := callC_ok (W66_ok lf) (callC_ok (W44_ok lf) (callN_ok))
def k42 : KC := (.seq (.reg [⟨(some 1), none, (.op (.box false (.t 0))), []⟩, ⟨(some 2), none, (.op (.mv (.c .nils))), []⟩, ⟨(some 3), none, (.op (.mv (.c (.int .i64 0)))), []⟩]) (.seq (.seq (.reg [⟨(some 5), none, (.op (.loadN 4 (.t 1))), []⟩, ⟨(some 6), none, (.call 44 [(.t 5)]), []⟩, ⟨(some 7), none, (.op (.un .not (.t 6))), []⟩]) (.cond (.t 7) (.seq (.reg [⟨(some 2), none, (.op (.mv (.c .nils))), []⟩, ⟨(some 3), none, (.op (.mv (.c (.int .i64 1)))), []⟩]) .ret) .skip)) (.seq (.reg [⟨(some 8), none, (.op (.loadN 4 (.t 1))), []⟩, ⟨(some 9), none, (.call 66 [(.t 8)]), []⟩, ⟨(some 4), none, (.op (.mv (.t 9))), []⟩]) (.seq (.seq (.reg [⟨(some 10), none, (.op (.mv (.t 4))), []⟩, ⟨(some 11), none, (.op (.lenL (.t 10))), []⟩, ⟨(some 12), none, (.op (.bin .gtr (.t 11) (.c (.int .i64 508)))), []⟩]) (.cond (.t 12) (.seq (.reg [⟨(some 2), none, (.op (.mv (.c .nils))), []⟩, ⟨(some 3), none, (.op (.mv (.c (.int .i64 14)))), []⟩]) .ret) .skip)) (.seq (.reg [⟨(some 13), none, (.op (.mv (.t 4))), []⟩, ⟨(some 2), none, (.op (.mv (.t 13))), []⟩, ⟨(some 3), none, (.op (.mv (.c (.int .i64 0)))), []⟩]) .ret)))))
noncomputable def F42 (lf : Nat) (n_ : Bool) (n_1 : V) (n_2 : V) (n_3 : V) (h : List Ob) : Option (V × List Ob) :=
bind2 (ev (.box false (.c (.agg [(.bool n_), n_1, n_2, n_3]))) h) fun n_4 h_ =>
bind1 (er (.loadN 4 (.c n_4)) h_) fun v =>
castAgg v fun l =>
castCons l fun c l1 =>
castBool c fun x5_0 =>
castCons l1 fun x5_1 l2 =>
castCons l2 fun x5_2 l3 =>
castCons l3 fun x5_3 l4 =>
castNil l4 (
bind2 (F44 lf x5_0 x5_1 x5_2 x5_3 h_) fun v1 h_1 =>
castBool v1 fun x6 =>
cB (!x6) (
some ((.tup [V.nils, (.int .i64 (1))]), h_1)) (
bind1 (er (.loadN 4 (.c n_4)) h_1) fun v2 =>
castAgg v2 fun l5 =>
castCons l5 fun c1 l6 =>
castBool c1 fun x8_0 =>
castCons l6 fun x8_1 l7 =>
castCons l7 fun x8_2 l8 =>
castCons l8 fun x8_3 l9 =>
castNil l9 (
bind2 (F66 lf x8_0 x8_1 x8_2 x8_3 h_1) fun x9 h_2 =>
bind1 (er (.lenL (.c x9)) h_2) fun v3 =>
castInt .i64 v3 fun x11 =>
cB (decide (x11 > (508))) (
some ((.tup [V.nils, (.int .i64 (14))]), h_2)) (
some ((.tup [x9, (.int .i64 (0))]), h_2)))))
theorem F42_eq (lf : Nat) (n_ : Bool) (n_1 : V) (n_2 : V) (n_3 : V) (h : List Ob) : evCK A42 ⟨call42 lf, cvN, subN⟩ k42 (entryK [(.agg [(.bool n_), n_1, n_2, n_3])]) h (endF c42.res) = F42 lf n_ n_1 n_2 n_3 h := by kernel_rfl
theorem F42_ok (lf : Nat) (n_ : Bool) (n_1 : V) (n_2 : V) (n_3 : V) (h : List Ob) (r_ : V) (h_r : List Ob) (e_ : F42 lf n_ n_1 n_2 n_3 h = some (r_, h_r)) : CD Go.Proofs.Try.prog 42 [(.agg [(.bool n_), n_1, n_2, n_3])] h r_ h_r :=
  CD.ofK (A := A42) (σ := ⟨call42 lf, cvN, subN⟩) (c := k42) Go.Proofs.Try.func42 ok42 en42 (show 1 ≤ 14 by decide) (by kernel_rfl) (call42_ok lf) cvN_ok (And.intro True.intro (And.intro (And.intro True.intro (And.intro (And.intro True.intro True.intro) True.intro)) (And.intro True.intro (And.intro (And.intro True.intro (And.intro (And.intro True.intro True.intro) True.intro)) (And.intro True.intro True.intro))))) ((F42_eq lf n_ n_1 n_2 n_3 h).trans e_)
def w42 (f : Bool → V → V → V → List Ob → Option (V × List Ob)) (vs : List V) (h : List Ob) : Option (V × List Ob) := castCons vs fun c1 l1 => castAgg c1 fun n2 => castCons n2 fun c3 l3 => castBool c3 fun n4 => castCons l3 fun c5 l5 => castCons l5 fun c6 l6 => castCons l6 fun c7 l7 => castNil l7 (castNil l1 (f n4 c5 c6 c7 h))
noncomputable def W42 (lf : Nat) : List V → List Ob → Option (V × List Ob) := w42 (F42 lf)
theorem W42_ok (lf : Nat) : ∀ args h v h', W42 lf args h = some (v, h') → CD Go.Proofs.Try.prog 42 args h v h' := by
  intro vs h r h' e0
  simp only [W42, w42] at e0
  obtain ⟨c1, l1, rfl, e1⟩ := castCons_inv e0
  obtain ⟨l2, rfl, e2⟩ := castAgg_inv e1
  obtain ⟨c3, l3, rfl, e3⟩ := castCons_inv e2
  obtain ⟨y0, rfl, e4⟩ := castBool_inv e3
  obtain ⟨c4, l4, rfl, e5⟩ := castCons_inv e4
  obtain ⟨c5, l5, rfl, e6⟩ := castCons_inv e5
  obtain ⟨c6, l6, rfl, e7⟩ := castCons_inv e6
  obtain ⟨rfl, e8⟩ := castNil_inv e7
  obtain ⟨rfl, e9⟩ := castNil_inv e8
  have e := e9
  exact F42_ok lf y0 c4 c5 c6 h r h' e

/-! 45: wainscot/node.Size -/
def A45 : List (Nat × Sh) := [(0, (.agg [.bool, .any, .any, .any])), (2, (.int .i64)), (3, (.agg [.bool, .any, .any, .any])), (4, .bool), (5, .bool), (6, (.agg [.bool, .any, .any, .any])), (8, (.int .i64))]
noncomputable def call45 (lf : Nat) : CallS := callC 65 (W65 lf) (callC 43 (W43 lf) (callN))
theorem call45_ok (lf : Nat) : CallOk Go.Proofs.Try.prog (call45 lf) := callC_ok (W65_ok lf) (callC_ok (W43_ok lf) (callN_ok))
def k45 : KC := (.seq (.reg [⟨(some 1), none, (.op (.box false (.t 0))), []⟩, ⟨(some 2), none, (.op (.mv (.c (.int .i64 0)))), []⟩]) (.seq (.seq (.reg [⟨(some 3), none, (.op (.loadN 4 (.t 1))), []⟩, ⟨(some 4), none, (.call 43 [(.t 3)]), []⟩, ⟨(some 5), none, (.op (.un .not (.t 4))), []⟩]) (.cond (.t 5) (.seq (.reg [⟨(some 2), none, (.op (.mv (.c (.int .i64 0)))), []⟩]) .ret) .skip)) (.seq (.reg [⟨(some 6), none, (.op (.loadN 4 (.t 1))), []⟩, ⟨(some 7), none, (.call 65 [(.t 6)]), []⟩, ⟨(some 8), none, (.op (.lenL (.t 7))), []⟩, ⟨(some 2), none, (.op (.mv (.t 8))), []⟩]) .ret)))
noncomputable def F45 (lf : Nat) (n_ : Bool) (n_1 : V) (n_2 : V) (n_3 : V) (h : List Ob) : Option (V × List Ob) :=
bind2 (ev (.box false (.c (.agg [(.bool n_), n_1, n_2, n_3]))) h) fun n_4 h_ =>
bind1 (er (.loadN 4 (.c n_4)) h_) fun v =>
castAgg v fun l =>
castCons l fun c l1 =>
castBool c fun x3_0 =>
castCons l1 fun x3_1 l2 =>
castCons l2 fun x3_2 l3 =>
castCons l3 fun x3_3 l4 =>
castNil l4 (
bind2 (F43 lf x3_0 x3_1 x3_2 x3_3 h_) fun v1 h_1 =>
castBool v1 fun x4 =>
cB (!x4) (
some ((.int .i64 (0)), h_1)) (
bind1 (er (.loadN 4 (.c n_4)) h_1) fun v2 =>
castAgg v2 fun l5 =>
castCons l5 fun c1 l6 =>
castBool c1 fun x6_0 =>
castCons l6 fun x6_1 l7 =>
castCons l7 fun x6_2 l8 =>
castCons l8 fun x6_3 l9 =>
castNil l9 (
bind2 (F65 lf x6_0 x6_1 x6_2 x6_3 h_1) fun x7 h_2 =>
bind1 (er (.lenL (.c x7)) h_2) fun v3 =>
castInt .i64 v3 fun x8 =>
some ((.int .i64 x8), h_2))))
theorem F45_eq (lf : Nat) (n_ : Bool) (n_1 : V) (n_2 : V) (n_3 : V) (h : List Ob) : evCK A45 ⟨call45 lf, cvN, subN⟩ k45 (entryK [(.agg [(.bool n_), n_1, n_2, n_3])]) h (endF c45.res) = F45 lf n_ n_1 n_2 n_3 h := by kernel_rfl
theorem F45_ok (lf : Nat) (n_ : Bool) (n_1 : V) (n_2 : V) (n_3 : V) (h : List Ob) (r_ : V) (h_r : List Ob) (e_ : F45 lf n_ n_1 n_2 n_3 h = some (r_, h_r)) : CD Go.Proofs.Try.prog 45 [(.agg [(.bool n_), n_1, n_2, n_3])] h r_ h_r :=
  CD.ofK (A := A45) (σ := ⟨call45 lf, cvN, subN⟩) (c := k45) Go.Proofs.Try.func45 ok45 en45 (show 1 ≤ 9 by decide) (by kernel_rfl) (call45_ok lf) cvN_ok (And.intro True.intro (And.intro (And.intro True.intro (And.intro (And.intro True.intro True.intro) True.intro)) (And.intro True.intro True.intro))) ((F45_eq lf n_ n_1 n_2 n_3 h).trans e_)
def w45 (f : Bool → V → V → V → List Ob → Option (V × List Ob)) (vs : List V) (h : List Ob) : Option (V × List Ob) := castCons vs fun c1 l1 => castAgg c1 fun n2 => castCons n2 fun c3 l3 => castBool c3 fun n4 => castCons l3 fun c5 l5 => castCons l5 fun c6 l6 => castCons l6 fun c7 l7 => castNil l7 (castNil l1 (f n4 c5 c6 c7 h))
noncomputable def W45 (lf : Nat) : List V → List Ob → Option (V × List Ob) := w45 (F45 lf)
theorem W45_ok (lf : Nat) : ∀ args h v h', W45 lf args h = some (v, h') → CD Go.Proofs.Try.prog 45 args h v h' := by
  intro vs h r h' e0
  simp only [W45, w45] at e0
  obtain ⟨c1, l1, rfl, e1⟩ := castCons_inv e0
  obtain ⟨l2, rfl, e2⟩ := castAgg_inv e1
  obtain ⟨c3, l3, rfl, e3⟩ := castCons_inv e2
  obtain ⟨y0, rfl, e4⟩ := castBool_inv e3
  obtain ⟨c4, l4, rfl, e5⟩ := castCons_inv e4
  obtain ⟨c5, l5, rfl, e6⟩ := castCons_inv e5
  obtain ⟨c6, l6, rfl, e7⟩ := castCons_inv e6
  obtain ⟨rfl, e8⟩ := castNil_inv e7
  obtain ⟨rfl, e9⟩ := castNil_inv e8
  have e := e9
  exact F45_ok lf y0 c4 c5 c6 h r h' e

/-! 46: wainscot/wainscotref09.Size -/
def A46 : List (Nat × Sh) := [(0, (.agg [.bool, .any, .any, .any])), (2, (.int .i64)), (3, (.agg [.bool, .any, .any, .any])), (4, .bool), (5, .bool), (6, (.agg [.bool, .any, .any, .any])), (8, (.int .i64))]
noncomputable def call46 (lf : Nat) : CallS := callC 66 (W66 lf) (callC 44 (W44 lf) (callN))
theorem call46_ok (lf : Nat) : CallOk Go.Proofs.Try.prog (call46 lf) := callC_ok (W66_ok lf) (callC_ok (W44_ok lf) (callN_ok))
def k46 : KC := (.seq (.reg [⟨(some 1), none, (.op (.box false (.t 0))), []⟩, ⟨(some 2), none, (.op (.mv (.c (.int .i64 0)))), []⟩]) (.seq (.seq (.reg [⟨(some 3), none, (.op (.loadN 4 (.t 1))), []⟩, ⟨(some 4), none, (.call 44 [(.t 3)]), []⟩, ⟨(some 5), none, (.op (.un .not (.t 4))), []⟩]) (.cond (.t 5) (.seq (.reg [⟨(some 2), none, (.op (.mv (.c (.int .i64 0)))), []⟩]) .ret) .skip)) (.seq (.reg [⟨(some 6), none, (.op (.loadN 4 (.t 1))), []⟩, ⟨(some 7), none, (.call 66 [(.t 6)]), []⟩, ⟨(some 8), none, (.op (.lenL (.t 7))), []⟩, ⟨(some 2), none, (.op (.mv (.t 8))), []⟩]) .ret)))
noncomputable def F46 (lf : Nat) (n_ : Bool) (n_1 : V) (n_2 : V) (n_3 : V) (h : List Ob) : Option (V × List Ob) :=
bind2 (ev (.box false (.c (.agg [(.bool n_), n_1, n_2, n_3]))) h) fun n_4 h_ =>
bind1 (er (.loadN 4 (.c n_4)) h_) fun v =>
castAgg v fun l =>
castCons l fun c l1 =>
castBool c fun x3_0 =>
castCons l1 fun x3_1 l2 =>
castCons l2 fun x3_2 l3 =>
castCons l3 fun x3_3 l4 =>
castNil l4 (
bind2 (F44 lf x3_0 x3_1 x3_2 x3_3 h_) fun v1 h_1 =>
castBool v1 fun x4 =>
cB (!x4) (
some ((.int .i64 (0)), h_1)) (
bind1 (er (.loadN 4 (.c n_4)) h_1) fun v2 =>
castAgg v2 fun l5 =>
castCons l5 fun c1 l6 =>
castBool c1 fun x6_0 =>
castCons l6 fun x6_1 l7 =>
castCons l7 fun x6_2 l8 =>
castCons l8 fun x6_3 l9 =>
castNil l9 (
bind2 (F66 lf x6_0 x6_1 x6_2 x6_3 h_1) fun x7 h_2 =>
bind1 (er (.lenL (.c x7)) h_2) fun v3 =>
castInt .i64 v3 fun x8 =>
some ((.int .i64 x8), h_2))))
theorem F46_eq (lf : Nat) (n_ : Bool) (n_1 : V) (n_2 : V) (n_3 : V) (h : List Ob) : evCK A46 ⟨call46 lf, cvN, subN⟩ k46 (entryK [(.agg [(.bool n_), n_1, n_2, n_3])]) h (endF c46.res) = F46 lf n_ n_1 n_2 n_3 h := by kernel_rfl
theorem F46_ok (lf : Nat) (n_ : Bool) (n_1 : V) (n_2 : V) (n_3 : V) (h : List Ob) (r_ : V) (h_r : List Ob) (e_ : F46 lf n_ n_1 n_2 n_3 h = some (r_, h_r)) : CD Go.Proofs.Try.prog 46 [(.agg [(.bool n_), n_1, n_2, n_3])] h r_ h_r :=
  CD.ofK (A := A46) (σ := ⟨call46 lf, cvN, subN⟩) (c := k46) Go.Proofs.Try.func46 ok46 en46 (show 1 ≤ 9 by decide) (by kernel_rfl) (call46_ok lf) cvN_ok (And.intro True.intro (And.intro (And.intro True.intro (And.intro (And.intro True.intro True.intro) True.intro)) (And.intro True.intro True.intro))) ((F46_eq lf n_ n_1 n_2 n_3 h).trans e_)
def w46 (f : Bool → V → V → V → List Ob → Option (V × List Ob)) (vs : List V) (h : List Ob) : Option (V × List Ob) := castCons vs fun c1 l1 => castAgg c1 fun n2 => castCons n2 fun c3 l3 => castBool c3 fun n4 => castCons l3 fun c5 l5 => castCons l5 fun c6 l6 => castCons l6 fun c7 l7 => castNil l7 (castNil l1 (f n4 c5 c6 c7 h))
noncomputable def W46 (lf : Nat) : List V → List Ob → Option (V × List Ob) := w46 (F46 lf)
theorem W46_ok (lf : Nat) : ∀ args h v h', W46 lf args h = some (v, h') → CD Go.Proofs.Try.prog 46 args h v h' := by
  intro vs h r h' e0
  simp only [W46, w46] at e0
  obtain ⟨c1, l1, rfl, e1⟩ := castCons_inv e0
  obtain ⟨l2, rfl, e2⟩ := castAgg_inv e1
  obtain ⟨c3, l3, rfl, e3⟩ := castCons_inv e2
  obtain ⟨y0, rfl, e4⟩ := castBool_inv e3
  obtain ⟨c4, l4, rfl, e5⟩ := castCons_inv e4
  obtain ⟨c5, l5, rfl, e6⟩ := castCons_inv e5
  obtain ⟨c6, l6, rfl, e7⟩ := castCons_inv e6
  obtain ⟨rfl, e8⟩ := castNil_inv e7
  obtain ⟨rfl, e9⟩ := castNil_inv e8
  have e := e9
  exact F46_ok lf y0 c4 c5 c6 h r h' e

/-! 69: (*wainscot/node.reader).number -/
def A69 : List (Nat × Sh) := [(1, (.int .i64)), (4, (.int .i64)), (5, (.int .u64)), (6, (.int .i64)), (7, (.int .i64)), (8, (.tup [(.int .u64), (.int .i64), (.int .i64)])), (13, (.tup [(.int .u64), (.int .i64), (.int .i64)])), (14, (.int .u64)), (15, (.int .i64)), (16, (.int .i64)), (20, .bool), (21, .bool), (22, (.int .i64)), (23, .bool), (24, .bool), (25, .bool), (26, (.int .u64)), (27, (.int .i64)), (28, (.int .u64)), (29, .bool), (30, .bool), (39, (.int .i64)), (43, (.int .u64)), (44, (.int .i64))]
noncomputable def call69 (lf : Nat) : CallS := callC 15 (W15 lf) (callN)
theorem call69_ok (lf : Nat) : CallOk Go.Proofs.Try.prog (call69 lf) := callC_ok (W15_ok lf) (callN_ok)
def o69_0 : Outs := [(.normal, [30], [.bool])]
def k69_0 : KC := (.reg [⟨(some 17), none, (.op (.mv (.t 0))), []⟩, ⟨(some 18), none, (.op (.nilck (.t 17))), []⟩, ⟨(some 19), none, (.op (.faddr 1 (.t 18))), []⟩, ⟨(some 20), none, (.op (.load1 (.t 19))), []⟩, ⟨(some 21), none, (.op (.mv (.t 20))), []⟩, ⟨(some 22), (some (21, false)), (.op (.mv (.t 7))), []⟩, ⟨(some 23), (some (21, false)), (.op (.bin .neq (.t 22) (.c (.int .i64 0)))), []⟩, ⟨(some 24), none, (.op (.pick (.t 21) (.c (.bool true)) (.t 23))), []⟩, ⟨(some 25), none, (.op (.mv (.t 24))), []⟩, ⟨(some 26), (some (25, false)), (.op (.mv (.t 5))), []⟩, ⟨(some 27), (some (25, false)), (.op (.mv (.t 1))), []⟩, ⟨(some 28), (some (25, false)), (.op (.toInt .u64 (.t 27))), []⟩, ⟨(some 29), (some (25, false)), (.op (.bin .gtr (.t 26) (.t 28))), []⟩, ⟨(some 30), none, (.op (.pick (.t 25) (.c (.bool true)) (.t 29))), []⟩])
def w69_0 (f : V → Int → Int → Int → List Ob → SubR) (vs : List V) (h : List Ob) : SubR := castCons vs fun c1 l1 => castCons l1 fun c2 l2 => castInt .i64 c2 fun n3 => castCons l2 fun c4 l4 => castInt .u64 c4 fun n5 => castCons l4 fun c6 l6 => castInt .i64 c6 fun n7 => castNil l6 (f c1 n3 n5 n7 h)
noncomputable def S69_0 (lf : Nat) (r : V) (bound : Int) (n_ : Int) (e : Int) (h : List Ob) : SubR :=
bind1 (er (.nilck (.c r)) h) fun x18 =>
bind1 (er (.faddr 1 (.c x18)) h) fun x19 =>
bind1 (er (.load1 (.c x19)) h) fun v =>
castBool v fun x20 =>
cB x20 (
some (.normal, [(.bool true)], h)) (
cB (e != (0)) (
some (.normal, [(.bool true)], h)) (
some (.normal, [(.bool (decide (n_ > (IntKind.u64.wrap bound))))], h)))
theorem S69_0_eq (lf : Nat) (r : V) (bound : Int) (n_ : Int) (e : Int) (h : List Ob) : evCK A69 ⟨call69 lf, cvN, subN⟩ k69_0 [(0, r), (1, (.int .i64 bound)), (5, (.int .u64 n_)), (7, (.int .i64 e))] h (endK o69_0) = S69_0 lf r bound n_ e h := by kernel_rfl
theorem S69_0_ok (lf : Nat) : SubOk Go.Proofs.Try.prog k69_0.er [0, 1, 5, 7] o69_0 (w69_0 (S69_0 lf)) := by
  refine SubOk.of (A := A69) (σ := ⟨call69 lf, cvN, subN⟩) (c := k69_0) (call69_ok lf) cvN_ok True.intro ?_
  intro vs h r e0
  simp only [w69_0] at e0
  obtain ⟨c1, l1, rfl, e1⟩ := castCons_inv e0
  obtain ⟨c2, l2, rfl, e2⟩ := castCons_inv e1
  obtain ⟨y1, rfl, e3⟩ := castInt_inv e2
  obtain ⟨c3, l3, rfl, e4⟩ := castCons_inv e3
  obtain ⟨y2, rfl, e5⟩ := castInt_inv e4
  obtain ⟨c4, l4, rfl, e6⟩ := castCons_inv e5
  obtain ⟨y3, rfl, e7⟩ := castInt_inv e6
  obtain ⟨rfl, e8⟩ := castNil_inv e7
  have e := e8
  exact (S69_0_eq lf c1 y1 y2 y3 h).trans e
def k69 : KC := (.seq (.reg [⟨(some 4), none, (.op (.mv (.c (.int .i64 0)))), []⟩]) (.seq (.reg [⟨(some 9), none, (.op (.mv (.t 0))), []⟩, ⟨(some 10), none, (.op (.nilck (.t 9))), []⟩, ⟨(some 11), none, (.op (.faddr 0 (.t 10))), []⟩, ⟨(some 12), none, (.op (.load1 (.t 11))), []⟩, ⟨(some 13), none, (.call 15 [(.t 12)]), []⟩, ⟨(some 8), none, (.op (.mv (.t 13))), []⟩, ⟨(some 14), none, (.op (.ext 0 (.t 8))), []⟩, ⟨(some 15), none, (.op (.ext 1 (.t 8))), []⟩, ⟨(some 16), none, (.op (.ext 2 (.t 8))), []⟩, ⟨(some 5), none, (.op (.mv (.t 14))), []⟩, ⟨(some 6), none, (.op (.mv (.t 15))), []⟩, ⟨(some 7), none, (.op (.mv (.t 16))), []⟩]) (.seq (.seq (.sub 0 k69_0.er [0, 1, 5, 7] o69_0) (.cond (.t 30) (.seq (.reg [⟨(some 31), none, (.op (.mv (.t 0))), []⟩, ⟨(some 32), none, (.op (.nilck (.t 31))), []⟩, ⟨(some 33), none, (.op (.faddr 1 (.t 32))), []⟩, ⟨none, none, (.op (.store 1 (.t 33) (.c (.bool true)))), []⟩]) (.seq (.reg [⟨(some 4), none, (.op (.mv (.c (.int .i64 0)))), []⟩]) .ret)) .skip)) (.seq (.reg [⟨(some 34), none, (.op (.mv (.t 0))), []⟩, ⟨(some 35), none, (.op (.mv (.t 0))), []⟩, ⟨(some 36), none, (.op (.nilck (.t 35))), []⟩, ⟨(some 37), none, (.op (.faddr 0 (.t 36))), []⟩, ⟨(some 38), none, (.op (.load1 (.t 37))), []⟩, ⟨(some 39), none, (.op (.mv (.t 6))), []⟩, ⟨(some 40), none, (.op (.slcL 1 (.t 38) (some (.t 39)) none none)), []⟩, ⟨(some 41), none, (.op (.nilck (.t 34))), []⟩, ⟨(some 42), none, (.op (.faddr 0 (.t 41))), []⟩, ⟨none, none, (.op (.store 1 (.t 42) (.t 40))), []⟩]) (.seq (.reg [⟨(some 43), none, (.op (.mv (.t 5))), []⟩, ⟨(some 44), none, (.op (.toInt .i64 (.t 43))), []⟩, ⟨(some 4), none, (.op (.mv (.t 44))), []⟩]) .ret)))))
noncomputable def F69 (lf : Nat) (r : V) (bound : Int) (h : List Ob) : Option (V × List Ob) :=
bind1 (er (.nilck (.c r)) h) fun x10 =>
bind1 (er (.faddr 0 (.c x10)) h) fun x11 =>
bind1 (er (.load1 (.c x11)) h) fun x12 =>
bind2 (F15 lf x12 h) fun v h_ =>
castTup v fun l =>
castCons l fun c l1 =>
castInt .u64 c fun x13_0 =>
castCons l1 fun c1 l2 =>
castInt .i64 c1 fun x13_1 =>
castCons l2 fun c2 l3 =>
castInt .i64 c2 fun x13_2 =>
castNil l3 (
bind3 (S69_0 lf r bound x13_0 x13_2 h_) fun ex vs h_1 =>
cB (decide (ex = .normal)) (
castCons vs fun c3 l4 =>
castBool c3 fun x30 =>
castNil l4 (
cB x30 (
bind1 (er (.nilck (.c r)) h_1) fun x32 =>
bind1 (er (.faddr 1 (.c x32)) h_1) fun x33 =>
bind2 (ev (.store 1 (.c x33) (.c (.bool true))) h_1) fun u h_2 =>
some ((.int .i64 (0)), h_2)) (
bind1 (er (.nilck (.c r)) h_1) fun x36 =>
bind1 (er (.faddr 0 (.c x36)) h_1) fun x37 =>
bind1 (er (.load1 (.c x37)) h_1) fun x38 =>
bind1 (er (.slcL 1 (.c x38) (some (.c (.int .i64 x13_1))) none none) h_1) fun x40 =>
bind1 (er (.nilck (.c r)) h_1) fun x41 =>
bind1 (er (.faddr 0 (.c x41)) h_1) fun x42 =>
bind2 (ev (.store 1 (.c x42) (.c x40)) h_1) fun u h_2 =>
some ((.int .i64 (IntKind.i64.wrap x13_0)), h_2)))) (
none))
theorem F69_eq (lf : Nat) (r : V) (bound : Int) (h : List Ob) : evCK A69 ⟨call69 lf, cvN, subC 0 (w69_0 (S69_0 lf)) (subN)⟩ k69 (entryK [r, (.int .i64 bound)]) h (endF c69.res) = F69 lf r bound h := by kernel_rfl
theorem F69_ok (lf : Nat) (r : V) (bound : Int) (h : List Ob) (r_ : V) (h_r : List Ob) (e_ : F69 lf r bound h = some (r_, h_r)) : CD Go.Proofs.Try.prog 69 [r, (.int .i64 bound)] h r_ h_r :=
  CD.ofK (A := A69) (σ := ⟨call69 lf, cvN, subC 0 (w69_0 (S69_0 lf)) (subN)⟩) (c := k69) Go.Proofs.Try.func69 ok69 en69 (show 2 ≤ 45 by decide) (by kernel_rfl) (call69_ok lf) cvN_ok (And.intro True.intro (And.intro True.intro (And.intro (And.intro (S69_0_ok lf) (And.intro (And.intro True.intro (And.intro True.intro True.intro)) True.intro)) (And.intro True.intro (And.intro True.intro True.intro))))) ((F69_eq lf r bound h).trans e_)
def w69 (f : V → Int → List Ob → Option (V × List Ob)) (vs : List V) (h : List Ob) : Option (V × List Ob) := castCons vs fun c1 l1 => castCons l1 fun c2 l2 => castInt .i64 c2 fun n3 => castNil l2 (f c1 n3 h)
noncomputable def W69 (lf : Nat) : List V → List Ob → Option (V × List Ob) := w69 (F69 lf)
theorem W69_ok (lf : Nat) : ∀ args h v h', W69 lf args h = some (v, h') → CD Go.Proofs.Try.prog 69 args h v h' := by
  intro vs h r h' e0
  simp only [W69, w69] at e0
  obtain ⟨c1, l1, rfl, e1⟩ := castCons_inv e0
  obtain ⟨c2, l2, rfl, e2⟩ := castCons_inv e1
  obtain ⟨y1, rfl, e3⟩ := castInt_inv e2
  obtain ⟨rfl, e4⟩ := castNil_inv e3
  have e := e4
  exact F69_ok lf c1 y1 h r h' e

/-! 78: slices.Clone[[]byte,byte] -/
def A78 : List (Nat × Sh) := [(4, .bool)]
noncomputable def call78 (lf : Nat) : CallS := callN
theorem call78_ok (lf : Nat) : CallOk Go.Proofs.Try.prog (call78 lf) := callN_ok
def k78 : KC := (.seq (.reg [⟨(some 2), none, (.op (.mv (.c .nils))), []⟩]) (.seq (.seq (.reg [⟨(some 3), none, (.op (.mv (.t 0))), []⟩, ⟨(some 4), none, (.op (.eq false .slice (.t 3) (.c .nils))), []⟩]) (.cond (.t 4) (.seq (.reg [⟨(some 2), none, (.op (.mv (.c .nils))), []⟩]) .ret) .skip)) (.seq (.reg [⟨(some 5), none, (.op (.bslice 1 (.int .u8 0) 0 [])), []⟩, ⟨(some 6), none, (.op (.mv (.t 0))), []⟩, ⟨(some 7), none, (.op (.app 1 1 (.t 5) (.t 6))), []⟩, ⟨(some 2), none, (.op (.mv (.t 7))), []⟩]) .ret)))
noncomputable def F78 (lf : Nat) (s : V) (h : List Ob) : Option (V × List Ob) :=
bind1 (er (.eq false .slice (.c s) (.c V.nils)) h) fun v =>
castBool v fun x4 =>
cB x4 (
some (V.nils, h)) (
bind2 (ev (.bslice 1 (.int .u8 0) 0 []) h) fun x5 h_ =>
bind2 (ev (.app 1 1 (.c x5) (.c s)) h_) fun x7 h_1 =>
some (x7, h_1))
theorem F78_eq (lf : Nat) (s : V) (h : List Ob) : evCK A78 ⟨call78 lf, cvN, subN⟩ k78 (entryK [s]) h (endF c78.res) = F78 lf s h := by kernel_rfl
theorem F78_ok (lf : Nat) (s : V) (h : List Ob) (r_ : V) (h_r : List Ob) (e_ : F78 lf s h = some (r_, h_r)) : CD Go.Proofs.Try.prog 78 [s] h r_ h_r :=
  CD.ofK (A := A78) (σ := ⟨call78 lf, cvN, subN⟩) (c := k78) Go.Proofs.Try.func78 ok78 en78 (show 1 ≤ 8 by decide) (by kernel_rfl) (call78_ok lf) cvN_ok (And.intro True.intro (And.intro (And.intro True.intro (And.intro (And.intro True.intro True.intro) True.intro)) (And.intro True.intro True.intro))) ((F78_eq lf s h).trans e_)
def w78 (f : V → List Ob → Option (V × List Ob)) (vs : List V) (h : List Ob) : Option (V × List Ob) := castCons vs fun c1 l1 => castNil l1 (f c1 h)
noncomputable def W78 (lf : Nat) : List V → List Ob → Option (V × List Ob) := w78 (F78 lf)
theorem W78_ok (lf : Nat) : ∀ args h v h', W78 lf args h = some (v, h') → CD Go.Proofs.Try.prog 78 args h v h' := by
  intro vs h r h' e0
  simp only [W78, w78] at e0
  obtain ⟨c1, l1, rfl, e1⟩ := castCons_inv e0
  obtain ⟨rfl, e2⟩ := castNil_inv e1
  have e := e2
  exact F78_ok lf c1 h r h' e

/-! 70: (*wainscot/node.reader).piece -/
def A70 : List (Nat × Sh) := [(3, (.int .i64)), (10, (.int .i64)), (11, (.int .i64)), (15, .bool), (16, .bool), (17, (.int .i64)), (22, (.int .i64)), (23, .bool), (24, .bool), (32, (.int .i64)), (40, (.int .i64))]
noncomputable def call70 (lf : Nat) : CallS := callC 78 (W78 lf) (callC 69 (W69 lf) (callN))
theorem call70_ok (lf : Nat) : CallOk Go.Proofs.Try.prog (call70 lf) := callC_ok (W78_ok lf) (callC_ok (W69_ok lf) (callN_ok))
def o70_0 : Outs := [(.normal, [24], [.bool])]
def k70_0 : KC := (.reg [⟨(some 12), none, (.op (.mv (.t 0))), []⟩, ⟨(some 13), none, (.op (.nilck (.t 12))), []⟩, ⟨(some 14), none, (.op (.faddr 1 (.t 13))), []⟩, ⟨(some 15), none, (.op (.load1 (.t 14))), []⟩, ⟨(some 16), none, (.op (.mv (.t 15))), []⟩, ⟨(some 17), (some (16, false)), (.op (.mv (.t 3))), []⟩, ⟨(some 18), (some (16, false)), (.op (.mv (.t 0))), []⟩, ⟨(some 19), (some (16, false)), (.op (.nilck (.t 18))), []⟩, ⟨(some 20), (some (16, false)), (.op (.faddr 0 (.t 19))), []⟩, ⟨(some 21), (some (16, false)), (.op (.load1 (.t 20))), []⟩, ⟨(some 22), (some (16, false)), (.op (.lenL (.t 21))), []⟩, ⟨(some 23), (some (16, false)), (.op (.bin .gtr (.t 17) (.t 22))), []⟩, ⟨(some 24), none, (.op (.pick (.t 16) (.c (.bool true)) (.t 23))), []⟩])
def w70_0 (f : V → Int → List Ob → SubR) (vs : List V) (h : List Ob) : SubR := castCons vs fun c1 l1 => castCons l1 fun c2 l2 => castInt .i64 c2 fun n3 => castNil l2 (f c1 n3 h)
noncomputable def S70_0 (lf : Nat) (r : V) (n_ : Int) (h : List Ob) : SubR :=
bind1 (er (.nilck (.c r)) h) fun x13 =>
bind1 (er (.faddr 1 (.c x13)) h) fun x14 =>
bind1 (er (.load1 (.c x14)) h) fun v =>
castBool v fun x15 =>
cB x15 (
some (.normal, [(.bool true)], h)) (
bind1 (er (.nilck (.c r)) h) fun x19 =>
bind1 (er (.faddr 0 (.c x19)) h) fun x20 =>
bind1 (er (.load1 (.c x20)) h) fun x21 =>
bind1 (er (.lenL (.c x21)) h) fun v1 =>
castInt .i64 v1 fun x22 =>
some (.normal, [(.bool (decide (n_ > x22)))], h))
theorem S70_0_eq (lf : Nat) (r : V) (n_ : Int) (h : List Ob) : evCK A70 ⟨call70 lf, cvN, subN⟩ k70_0 [(0, r), (3, (.int .i64 n_))] h (endK o70_0) = S70_0 lf r n_ h := by kernel_rfl
theorem S70_0_ok (lf : Nat) : SubOk Go.Proofs.Try.prog k70_0.er [0, 3] o70_0 (w70_0 (S70_0 lf)) := by
  refine SubOk.of (A := A70) (σ := ⟨call70 lf, cvN, subN⟩) (c := k70_0) (call70_ok lf) cvN_ok True.intro ?_
  intro vs h r e0
  simp only [w70_0] at e0
  obtain ⟨c1, l1, rfl, e1⟩ := castCons_inv e0
  obtain ⟨c2, l2, rfl, e2⟩ := castCons_inv e1
  obtain ⟨y1, rfl, e3⟩ := castInt_inv e2
  obtain ⟨rfl, e4⟩ := castNil_inv e3
  have e := e4
  exact (S70_0_eq lf c1 y1 h).trans e
def k70 : KC := (.seq (.reg [⟨(some 2), none, (.op (.mv (.c .nils))), []⟩]) (.seq (.reg [⟨(some 5), none, (.op (.mv (.t 0))), []⟩, ⟨(some 6), none, (.op (.mv (.t 0))), []⟩, ⟨(some 7), none, (.op (.nilck (.t 6))), []⟩, ⟨(some 8), none, (.op (.faddr 0 (.t 7))), []⟩, ⟨(some 9), none, (.op (.load1 (.t 8))), []⟩, ⟨(some 10), none, (.op (.lenL (.t 9))), []⟩, ⟨(some 11), none, (.call 69 [(.t 5), (.t 10)]), []⟩, ⟨(some 3), none, (.op (.mv (.t 11))), []⟩]) (.seq (.seq (.sub 0 k70_0.er [0, 3] o70_0) (.cond (.t 24) (.seq (.reg [⟨(some 25), none, (.op (.mv (.t 0))), []⟩, ⟨(some 26), none, (.op (.nilck (.t 25))), []⟩, ⟨(some 27), none, (.op (.faddr 1 (.t 26))), []⟩, ⟨none, none, (.op (.store 1 (.t 27) (.c (.bool true)))), []⟩]) (.seq (.reg [⟨(some 2), none, (.op (.mv (.c .nils))), []⟩]) .ret)) .skip)) (.seq (.reg [⟨(some 28), none, (.op (.mv (.t 0))), []⟩, ⟨(some 29), none, (.op (.nilck (.t 28))), []⟩, ⟨(some 30), none, (.op (.faddr 0 (.t 29))), []⟩, ⟨(some 31), none, (.op (.load1 (.t 30))), []⟩, ⟨(some 32), none, (.op (.mv (.t 3))), []⟩, ⟨(some 33), none, (.op (.slcL 1 (.t 31) none (some (.t 32)) none)), []⟩, ⟨(some 34), none, (.call 78 [(.t 33)]), []⟩, ⟨(some 4), none, (.op (.mv (.t 34))), []⟩]) (.seq (.reg [⟨(some 35), none, (.op (.mv (.t 0))), []⟩, ⟨(some 36), none, (.op (.mv (.t 0))), []⟩, ⟨(some 37), none, (.op (.nilck (.t 36))), []⟩, ⟨(some 38), none, (.op (.faddr 0 (.t 37))), []⟩, ⟨(some 39), none, (.op (.load1 (.t 38))), []⟩, ⟨(some 40), none, (.op (.mv (.t 3))), []⟩, ⟨(some 41), none, (.op (.slcL 1 (.t 39) (some (.t 40)) none none)), []⟩, ⟨(some 42), none, (.op (.nilck (.t 35))), []⟩, ⟨(some 43), none, (.op (.faddr 0 (.t 42))), []⟩, ⟨none, none, (.op (.store 1 (.t 43) (.t 41))), []⟩]) (.seq (.reg [⟨(some 44), none, (.op (.mv (.t 4))), []⟩, ⟨(some 2), none, (.op (.mv (.t 44))), []⟩]) .ret))))))
noncomputable def F70 (lf : Nat) (r : V) (h : List Ob) : Option (V × List Ob) :=
bind1 (er (.nilck (.c r)) h) fun x7 =>
bind1 (er (.faddr 0 (.c x7)) h) fun x8 =>
bind1 (er (.load1 (.c x8)) h) fun x9 =>
bind1 (er (.lenL (.c x9)) h) fun v =>
castInt .i64 v fun x10 =>
bind2 (F69 lf r x10 h) fun v1 h_ =>
castInt .i64 v1 fun x11 =>
bind3 (S70_0 lf r x11 h_) fun ex vs h_1 =>
cB (decide (ex = .normal)) (
castCons vs fun c l =>
castBool c fun x24 =>
castNil l (
cB x24 (
bind1 (er (.nilck (.c r)) h_1) fun x26 =>
bind1 (er (.faddr 1 (.c x26)) h_1) fun x27 =>
bind2 (ev (.store 1 (.c x27) (.c (.bool true))) h_1) fun u h_2 =>
some (V.nils, h_2)) (
bind1 (er (.nilck (.c r)) h_1) fun x29 =>
bind1 (er (.faddr 0 (.c x29)) h_1) fun x30 =>
bind1 (er (.load1 (.c x30)) h_1) fun x31 =>
bind1 (er (.slcL 1 (.c x31) none (some (.c (.int .i64 x11))) none) h_1) fun x33 =>
bind2 (F78 lf x33 h_1) fun x34 h_2 =>
bind1 (er (.nilck (.c r)) h_2) fun x37 =>
bind1 (er (.faddr 0 (.c x37)) h_2) fun x38 =>
bind1 (er (.load1 (.c x38)) h_2) fun x39 =>
bind1 (er (.slcL 1 (.c x39) (some (.c (.int .i64 x11))) none none) h_2) fun x41 =>
bind1 (er (.nilck (.c r)) h_2) fun x42 =>
bind1 (er (.faddr 0 (.c x42)) h_2) fun x43 =>
bind2 (ev (.store 1 (.c x43) (.c x41)) h_2) fun u h_3 =>
some (x34, h_3)))) (
none)
theorem F70_eq (lf : Nat) (r : V) (h : List Ob) : evCK A70 ⟨call70 lf, cvN, subC 0 (w70_0 (S70_0 lf)) (subN)⟩ k70 (entryK [r]) h (endF c70.res) = F70 lf r h := by kernel_rfl
theorem F70_ok (lf : Nat) (r : V) (h : List Ob) (r_ : V) (h_r : List Ob) (e_ : F70 lf r h = some (r_, h_r)) : CD Go.Proofs.Try.prog 70 [r] h r_ h_r :=
  CD.ofK (A := A70) (σ := ⟨call70 lf, cvN, subC 0 (w70_0 (S70_0 lf)) (subN)⟩) (c := k70) Go.Proofs.Try.func70 ok70 en70 (show 1 ≤ 45 by decide) (by kernel_rfl) (call70_ok lf) cvN_ok (And.intro True.intro (And.intro True.intro (And.intro (And.intro (S70_0_ok lf) (And.intro (And.intro True.intro (And.intro True.intro True.intro)) True.intro)) (And.intro True.intro (And.intro True.intro (And.intro True.intro True.intro)))))) ((F70_eq lf r h).trans e_)
def w70 (f : V → List Ob → Option (V × List Ob)) (vs : List V) (h : List Ob) : Option (V × List Ob) := castCons vs fun c1 l1 => castNil l1 (f c1 h)
noncomputable def W70 (lf : Nat) : List V → List Ob → Option (V × List Ob) := w70 (F70 lf)
theorem W70_ok (lf : Nat) : ∀ args h v h', W70 lf args h = some (v, h') → CD Go.Proofs.Try.prog 70 args h v h' := by
  intro vs h r h' e0
  simp only [W70, w70] at e0
  obtain ⟨c1, l1, rfl, e1⟩ := castCons_inv e0
  obtain ⟨rfl, e2⟩ := castNil_inv e1
  have e := e2
  exact F70_ok lf c1 h r h' e

/-! 87: slices.IndexFunc[[]byte,byte] -/
def A87 : List (Nat × Sh) := [(4, (.int .i64)), (5, (.int .i64)), (7, (.int .i64)), (8, (.int .i64)), (9, .bool), (10, (.int .i64)), (13, (.int .i64)), (15, (.int .u8)), (16, .bool), (17, (.int .i64)), (18, (.int .i64))]
noncomputable def call87 (lf : Nat) (cv : CallVS) : CallS := callN
theorem call87_ok (lf : Nat) (cv : CallVS) (hcv : CvOk Go.Proofs.Try.prog cv) : CallOk Go.Proofs.Try.prog (call87 lf cv) := callN_ok
def o87_0 : Outs := [((.exit 0), [], []), (.ret, [4], [(.int .i64)])]
def k87_0 : KC := (.seq (.reg [⟨(some 9), none, (.op (.bin .lss (.t 8) (.t 7))), []⟩]) (.seq (.cond (.t 9) .skip (.exit 0)) (.seq (.block 1 (.seq (.reg [⟨(some 10), none, (.op (.mv (.t 8))), []⟩, ⟨(some 5), none, (.op (.mv (.t 10))), []⟩]) (.seq (.reg [⟨(some 11), none, (.op (.mv (.t 1))), []⟩, ⟨(some 12), none, (.op (.mv (.t 0))), []⟩, ⟨(some 13), none, (.op (.mv (.t 5))), []⟩, ⟨(some 14), none, (.op (.iaddrL 1 (.t 12) (.t 13))), []⟩, ⟨(some 15), none, (.op (.load1 (.t 14))), []⟩, ⟨(some 16), none, (.callv (.t 11) [(.t 15)]), []⟩]) (.cond (.t 16) (.seq (.reg [⟨(some 17), none, (.op (.mv (.t 5))), []⟩, ⟨(some 4), none, (.op (.mv (.t 17))), []⟩]) .ret) .skip)))) (.reg [⟨(some 18), none, (.op (.bin .add (.t 8) (.c (.int .i64 1)))), []⟩, ⟨(some 8), none, (.op (.mv (.t 18))), []⟩]))))
def w87_0 (f : V → V → Int → Int → List Ob → SubR) (vs : List V) (h : List Ob) : SubR := castCons vs fun c1 l1 => castCons l1 fun c2 l2 => castCons l2 fun c3 l3 => castInt .i64 c3 fun n4 => castCons l3 fun c5 l5 => castInt .i64 c5 fun n6 => castNil l5 (f c1 c2 n4 n6 h)
noncomputable def B87_0 (lf : Nat) (cv : CallVS) (self : V → V → Int → Int → List Ob → SubR) (s : V) (f : V) (x7 : Int) (x8 : Int) (h : List Ob) : SubR :=
cB (decide (x8 < x7)) (
bind1 (er (.iaddrL 1 (.c s) (.c (.int .i64 x8))) h) fun x14 =>
bind1 (er (.load1 (.c x14)) h) fun v =>
castInt .u8 v fun x15 =>
bind2 (cv f [(.int .u8 x15)] h) fun v1 h_ =>
castBool v1 fun x16 =>
cB x16 (
some (.ret, [(.int .i64 x8)], h_)) (
self s f x7 (IntKind.i64.wrap (x8 + (1))) h_)) (
some ((.exit 0), [], h))
noncomputable def L87_0 (lf : Nat) (cv : CallVS) : Nat → V → V → Int → Int → List Ob → SubR
  | 0 => fun _ _ _ _ _ => none
  | n + 1 => B87_0 lf cv (L87_0 lf cv n)
theorem B87_0_eq (lf : Nat) (cv : CallVS) (self : V → V → Int → Int → List Ob → SubR) (s : V) (f : V) (x7 : Int) (x8 : Int) (h : List Ob) : evCK A87 ⟨call87 lf cv, cv, subN⟩ k87_0 [(0, s), (1, f), (7, (.int .i64 x7)), (8, (.int .i64 x8))] h (endL [0, 1, 7, 8] [.any, .any, (.int .i64), (.int .i64)] o87_0 (w87_0 self)) = B87_0 lf cv self s f x7 x8 h := by kernel_rfl
theorem L87_0_ok (lf : Nat) (cv : CallVS) (hcv : CvOk Go.Proofs.Try.prog cv) : ∀ n, SubOk Go.Proofs.Try.prog (.loop k87_0.er) [0, 1, 7, 8] o87_0 (w87_0 (L87_0 lf cv n)) := by
  refine SubOk.loop (A := A87) (σ := ⟨call87 lf cv, cv, subN⟩) (c := k87_0) (shs := [.any, .any, (.int .i64), (.int .i64)]) (G := fun n => w87_0 (L87_0 lf cv n)) (call87_ok lf cv hcv) hcv (And.intro True.intro (And.intro (And.intro True.intro True.intro) (And.intro (And.intro True.intro (And.intro True.intro (And.intro (And.intro True.intro True.intro) True.intro))) True.intro))) ?_ ?_
  · intro vs h r e0
    simp only [w87_0] at e0
    obtain ⟨c1, l1, rfl, e1⟩ := castCons_inv e0
    obtain ⟨c2, l2, rfl, e2⟩ := castCons_inv e1
    obtain ⟨c3, l3, rfl, e3⟩ := castCons_inv e2
    obtain ⟨y2, rfl, e4⟩ := castInt_inv e3
    obtain ⟨c4, l4, rfl, e5⟩ := castCons_inv e4
    obtain ⟨y3, rfl, e6⟩ := castInt_inv e5
    obtain ⟨rfl, e7⟩ := castNil_inv e6
    have e := e7
    cases e
  · intro n vs h r e0
    simp only [w87_0] at e0
    obtain ⟨c1, l1, rfl, e1⟩ := castCons_inv e0
    obtain ⟨c2, l2, rfl, e2⟩ := castCons_inv e1
    obtain ⟨c3, l3, rfl, e3⟩ := castCons_inv e2
    obtain ⟨y2, rfl, e4⟩ := castInt_inv e3
    obtain ⟨c4, l4, rfl, e5⟩ := castCons_inv e4
    obtain ⟨y3, rfl, e6⟩ := castInt_inv e5
    obtain ⟨rfl, e7⟩ := castNil_inv e6
    have e := e7
    exact (B87_0_eq lf cv (L87_0 lf cv n) c1 c2 y2 y3 h).trans e
def k87 : KC := (.seq (.reg [⟨(some 4), none, (.op (.mv (.c (.int .i64 0)))), []⟩]) (.seq (.seq (.reg [⟨(some 6), none, (.op (.mv (.t 0))), []⟩, ⟨(some 7), none, (.op (.lenL (.t 6))), []⟩, ⟨(some 8), none, (.op (.mv (.c (.int .i64 0)))), []⟩]) (.block 0 (.sub 0 (.loop k87_0.er) [0, 1, 7, 8] o87_0))) (.seq (.reg [⟨(some 4), none, (.op (.mv (.c (.int .i64 (-0 - 1))))), []⟩]) .ret)))
noncomputable def F87 (lf : Nat) (cv : CallVS) (s : V) (f : V) (h : List Ob) : Option (V × List Ob) :=
bind1 (er (.lenL (.c s)) h) fun v =>
castInt .i64 v fun x7 =>
bind3 (L87_0 lf cv lf s f x7 (0) h) fun ex vs h_ =>
cB (decide (ex = (.exit 0))) (
castNil vs (
some ((.int .i64 (-1)), h_))) (
cB (decide (ex = .ret)) (
castCons vs fun c l =>
castInt .i64 c fun x4 =>
castNil l (
some ((.int .i64 x4), h_))) (
none))
theorem F87_eq (lf : Nat) (cv : CallVS) (s : V) (f : V) (h : List Ob) : evCK A87 ⟨call87 lf cv, cv, subC 0 (w87_0 (L87_0 lf cv lf)) (subN)⟩ k87 (entryK [s, f]) h (endF c87.res) = F87 lf cv s f h := by kernel_rfl
theorem F87_ok (lf : Nat) (cv : CallVS) (hcv : CvOk Go.Proofs.Try.prog cv) (s : V) (f : V) (h : List Ob) (r_ : V) (h_r : List Ob) (e_ : F87 lf cv s f h = some (r_, h_r)) : CD Go.Proofs.Try.prog 87 [s, f] h r_ h_r :=
  CD.ofK (A := A87) (σ := ⟨call87 lf cv, cv, subC 0 (w87_0 (L87_0 lf cv lf)) (subN)⟩) (c := k87) Go.Proofs.Try.func87 ok87 en87 (show 2 ≤ 19 by decide) (by kernel_rfl) (call87_ok lf cv hcv) hcv (And.intro True.intro (And.intro (And.intro True.intro (L87_0_ok lf cv hcv lf)) (And.intro True.intro True.intro))) ((F87_eq lf cv s f h).trans e_)
def w87 (f : V → V → List Ob → Option (V × List Ob)) (vs : List V) (h : List Ob) : Option (V × List Ob) := castCons vs fun c1 l1 => castCons l1 fun c2 l2 => castNil l2 (f c1 c2 h)
noncomputable def W87 (lf : Nat) (cv : CallVS) : List V → List Ob → Option (V × List Ob) := w87 (F87 lf cv)
theorem W87_ok (lf : Nat) (cv : CallVS) (hcv : CvOk Go.Proofs.Try.prog cv) : ∀ args h v h', W87 lf cv args h = some (v, h') → CD Go.Proofs.Try.prog 87 args h v h' := by
  intro vs h r h' e0
  simp only [W87, w87] at e0
  obtain ⟨c1, l1, rfl, e1⟩ := castCons_inv e0
  obtain ⟨c2, l2, rfl, e2⟩ := castCons_inv e1
  obtain ⟨rfl, e3⟩ := castNil_inv e2
  have e := e3
  exact F87_ok lf cv hcv c1 c2 h r h' e

/-! 71: slices.ContainsFunc[[]byte,byte] -/
def A71 : List (Nat × Sh) := [(4, .bool), (7, (.int .i64)), (8, .bool)]
noncomputable def call71 (lf : Nat) (cv : CallVS) : CallS := callC 87 (W87 lf cv) (callN)
theorem call71_ok (lf : Nat) (cv : CallVS) (hcv : CvOk Go.Proofs.Try.prog cv) : CallOk Go.Proofs.Try.prog (call71 lf cv) := callC_ok (W87_ok lf cv hcv) (callN_ok)
def k71 : KC := (.seq (.reg [⟨(some 4), none, (.op (.mv (.c (.bool false)))), []⟩]) (.seq (.reg [⟨(some 5), none, (.op (.mv (.t 0))), []⟩, ⟨(some 6), none, (.op (.mv (.t 1))), []⟩, ⟨(some 7), none, (.call 87 [(.t 5), (.t 6)]), []⟩, ⟨(some 8), none, (.op (.bin .geq (.t 7) (.c (.int .i64 0)))), []⟩, ⟨(some 4), none, (.op (.mv (.t 8))), []⟩]) .ret))
noncomputable def F71 (lf : Nat) (cv : CallVS) (s : V) (f : V) (h : List Ob) : Option (V × List Ob) :=
bind2 (F87 lf cv s f h) fun v h_ =>
castInt .i64 v fun x7 =>
some ((.bool (decide (x7 ≥ (0)))), h_)
theorem F71_eq (lf : Nat) (cv : CallVS) (s : V) (f : V) (h : List Ob) : evCK A71 ⟨call71 lf cv, cv, subN⟩ k71 (entryK [s, f]) h (endF c71.res) = F71 lf cv s f h := by kernel_rfl
theorem F71_ok (lf : Nat) (cv : CallVS) (hcv : CvOk Go.Proofs.Try.prog cv) (s : V) (f : V) (h : List Ob) (r_ : V) (h_r : List Ob) (e_ : F71 lf cv s f h = some (r_, h_r)) : CD Go.Proofs.Try.prog 71 [s, f] h r_ h_r :=
  CD.ofK (A := A71) (σ := ⟨call71 lf cv, cv, subN⟩) (c := k71) Go.Proofs.Try.func71 ok71 en71 (show 2 ≤ 9 by decide) (by kernel_rfl) (call71_ok lf cv hcv) hcv (And.intro True.intro (And.intro True.intro True.intro)) ((F71_eq lf cv s f h).trans e_)
def w71 (f : V → V → List Ob → Option (V × List Ob)) (vs : List V) (h : List Ob) : Option (V × List Ob) := castCons vs fun c1 l1 => castCons l1 fun c2 l2 => castNil l2 (f c1 c2 h)
noncomputable def W71 (lf : Nat) (cv : CallVS) : List V → List Ob → Option (V × List Ob) := w71 (F71 lf cv)
theorem W71_ok (lf : Nat) (cv : CallVS) (hcv : CvOk Go.Proofs.Try.prog cv) : ∀ args h v h', W71 lf cv args h = some (v, h') → CD Go.Proofs.Try.prog 71 args h v h' := by
  intro vs h r h' e0
  simp only [W71, w71] at e0
  obtain ⟨c1, l1, rfl, e1⟩ := castCons_inv e0
  obtain ⟨c2, l2, rfl, e2⟩ := castCons_inv e1
  obtain ⟨rfl, e3⟩ := castNil_inv e2
  have e := e3
  exact F71_ok lf cv hcv c1 c2 h r h' e

/-! 72: wainscot/node.Decode$1 -/
def A72 : List (Nat × Sh) := [(0, (.int .u8)), (2, .bool), (3, (.int .u8)), (4, .bool)]
noncomputable def call72 (lf : Nat) : CallS := callN
theorem call72_ok (lf : Nat) : CallOk Go.Proofs.Try.prog (call72 lf) := callN_ok
def k72 : KC := (.seq (.reg [⟨(some 2), none, (.op (.mv (.c (.bool false)))), []⟩]) (.seq (.reg [⟨(some 3), none, (.op (.mv (.t 0))), []⟩, ⟨(some 4), none, (.op (.bin .neq (.t 3) (.c (.int .u8 0)))), []⟩, ⟨(some 2), none, (.op (.mv (.t 4))), []⟩]) .ret))
noncomputable def F72 (lf : Nat) (c : Int) (h : List Ob) : Option (V × List Ob) :=
some ((.bool (c != (0))), h)
theorem F72_eq (lf : Nat) (c : Int) (h : List Ob) : evCK A72 ⟨call72 lf, cvN, subN⟩ k72 (entryK [(.int .u8 c)]) h (endF c72.res) = F72 lf c h := by kernel_rfl
theorem F72_ok (lf : Nat) (c : Int) (h : List Ob) (r_ : V) (h_r : List Ob) (e_ : F72 lf c h = some (r_, h_r)) : CD Go.Proofs.Try.prog 72 [(.int .u8 c)] h r_ h_r :=
  CD.ofK (A := A72) (σ := ⟨call72 lf, cvN, subN⟩) (c := k72) Go.Proofs.Try.func72 ok72 en72 (show 1 ≤ 5 by decide) (by kernel_rfl) (call72_ok lf) cvN_ok (And.intro True.intro (And.intro True.intro True.intro)) ((F72_eq lf c h).trans e_)
def w72 (f : Int → List Ob → Option (V × List Ob)) (vs : List V) (h : List Ob) : Option (V × List Ob) := castCons vs fun c1 l1 => castInt .u8 c1 fun n2 => castNil l1 (f n2 h)
noncomputable def W72 (lf : Nat) : List V → List Ob → Option (V × List Ob) := w72 (F72 lf)
theorem W72_ok (lf : Nat) : ∀ args h v h', W72 lf args h = some (v, h') → CD Go.Proofs.Try.prog 72 args h v h' := by
  intro vs h r h' e0
  simp only [W72, w72] at e0
  obtain ⟨c1, l1, rfl, e1⟩ := castCons_inv e0
  obtain ⟨y0, rfl, e2⟩ := castInt_inv e1
  obtain ⟨rfl, e3⟩ := castNil_inv e2
  have e := e3
  exact F72_ok lf y0 h r h' e

/-! 47: wainscot/node.Decode -/
def A47 : List (Nat × Sh) := [(3, (.int .i64)), (6, (.int .i64)), (8, (.int .i64)), (9, .bool), (10, .bool), (13, (.int .u8)), (14, .bool), (15, .bool), (18, (.int .u8)), (19, .bool), (20, .bool), (21, .bool), (22, (.agg [.bool, .any, .any, .any])), (25, (.agg [.any, .bool])), (29, (.int .u8)), (30, .bool), (31, (.agg [.bool, .any, .any, .any])), (34, (.int .i64)), (35, (.int .i64)), (37, .bool), (38, .bool), (42, (.int .i64)), (46, (.int .i64)), (47, .bool), (48, .bool), (52, .bool), (53, .bool), (54, .bool), (55, (.int .i64)), (56, (.int .i64)), (65, .bool), (76, (.int .i64)), (83, .bool), (84, .bool), (85, (.agg [.bool, .any, .any, .any])), (86, .bool), (87, .bool), (88, .bool), (89, .bool), (90, (.agg [.bool, .any, .any, .any])), (91, (.int .i64)), (92, .bool), (93, .bool), (94, .bool), (99, .bool), (100, .bool), (101, (.agg [.bool, .any, .any, .any])), (102, (.agg [.bool, .any, .any, .any]))]
noncomputable def cv47 (lf : Nat) : CallVS := cvC 72 (W72 lf) (cvN)
theorem cv47_ok (lf : Nat) : CvOk Go.Proofs.Try.prog (cv47 lf) := cvC_ok (W72_ok lf) (cvN_ok)
noncomputable def call47 (lf : Nat) : CallS := callC 71 (W71 lf (cv47 lf)) (callC 70 (W70 lf) (callC 69 (W69 lf) (callC 45 (W45 lf) (callC 43 (W43 lf) (callN)))))
theorem call47_ok (lf : Nat) : CallOk Go.Proofs.Try.prog (call47 lf) := callC_ok (W71_ok lf (cv47 lf) (cv47_ok lf)) (callC_ok (W70_ok lf) (callC_ok (W69_ok lf) (callC_ok (W45_ok lf) (callC_ok (W43_ok lf) (callN_ok)))))
def o47_0 : Outs := [(.normal, [21], [.bool])]
def k47_0 : KC := (.reg [⟨(some 7), none, (.op (.mv (.t 0))), []⟩, ⟨(some 8), none, (.op (.lenL (.t 7))), []⟩, ⟨(some 9), none, (.op (.bin .eql (.t 8) (.c (.int .i64 0)))), []⟩, ⟨(some 10), none, (.op (.mv (.t 9))), []⟩, ⟨(some 11), (some (10, false)), (.op (.mv (.t 0))), []⟩, ⟨(some 12), (some (10, false)), (.op (.iaddrL 1 (.t 11) (.c (.int .i64 0)))), []⟩, ⟨(some 13), (some (10, false)), (.op (.load1 (.t 12))), []⟩, ⟨(some 14), (some (10, false)), (.op (.bin .neq (.t 13) (.c (.int .u8 1)))), []⟩, ⟨(some 15), (some (10, false)), (.op (.mv (.t 14))), []⟩, ⟨(some 16), (some (15, true)), (.op (.mv (.t 0))), []⟩, ⟨(some 17), (some (15, true)), (.op (.iaddrL 1 (.t 16) (.c (.int .i64 0)))), []⟩, ⟨(some 18), (some (15, true)), (.op (.load1 (.t 17))), []⟩, ⟨(some 19), (some (15, true)), (.op (.bin .neq (.t 18) (.c (.int .u8 2)))), []⟩, ⟨(some 20), (some (10, false)), (.op (.pick (.t 15) (.t 19) (.c (.bool false)))), []⟩, ⟨(some 21), none, (.op (.pick (.t 10) (.c (.bool true)) (.t 20))), []⟩])
def w47_0 (f : V → List Ob → SubR) (vs : List V) (h : List Ob) : SubR := castCons vs fun c1 l1 => castNil l1 (f c1 h)
noncomputable def S47_0 (lf : Nat) (b : V) (h : List Ob) : SubR :=
bind1 (er (.lenL (.c b)) h) fun v =>
castInt .i64 v fun x8 =>
cB (x8 == (0)) (
some (.normal, [(.bool true)], h)) (
bind1 (er (.iaddrL 1 (.c b) (.c (.int .i64 (0)))) h) fun x12 =>
bind1 (er (.load1 (.c x12)) h) fun v1 =>
castInt .u8 v1 fun x13 =>
cB (x13 != (1)) (
bind1 (er (.iaddrL 1 (.c b) (.c (.int .i64 (0)))) h) fun x17 =>
bind1 (er (.load1 (.c x17)) h) fun v2 =>
castInt .u8 v2 fun x18 =>
some (.normal, [(.bool (x18 != (2)))], h)) (
some (.normal, [(.bool false)], h)))
theorem S47_0_eq (lf : Nat) (b : V) (h : List Ob) : evCK A47 ⟨call47 lf, (cv47 lf), subN⟩ k47_0 [(0, b)] h (endK o47_0) = S47_0 lf b h := by kernel_rfl
theorem S47_0_ok (lf : Nat) : SubOk Go.Proofs.Try.prog k47_0.er [0] o47_0 (w47_0 (S47_0 lf)) := by
  refine SubOk.of (A := A47) (σ := ⟨call47 lf, (cv47 lf), subN⟩) (c := k47_0) (call47_ok lf) (cv47_ok lf) True.intro ?_
  intro vs h r e0
  simp only [w47_0] at e0
  obtain ⟨c1, l1, rfl, e1⟩ := castCons_inv e0
  obtain ⟨rfl, e2⟩ := castNil_inv e1
  have e := e2
  exact (S47_0_eq lf c1 h).trans e
def o47_1 : Outs := [(.normal, [], []), ((.exit 0), [], [])]
def k47_1 : KC := (.seq (.reg [⟨(some 46), none, (.op (.mv (.t 6))), []⟩, ⟨(some 47), none, (.op (.bin .gtr (.t 46) (.c (.int .i64 0)))), []⟩, ⟨(some 48), none, (.op (.mv (.t 47))), []⟩, ⟨(some 49), (some (48, true)), (.op (.mv (.t 4))), []⟩, ⟨(some 50), (some (48, true)), (.op (.nilck (.t 49))), []⟩, ⟨(some 51), (some (48, true)), (.op (.faddr 1 (.t 50))), []⟩, ⟨(some 52), (some (48, true)), (.op (.load1 (.t 51))), []⟩, ⟨(some 53), (some (48, true)), (.op (.un .not (.t 52))), []⟩, ⟨(some 54), none, (.op (.pick (.t 48) (.t 53) (.c (.bool false)))), []⟩]) (.cond (.t 54) .skip (.exit 0)))
def w47_1 (f : V → Int → List Ob → SubR) (vs : List V) (h : List Ob) : SubR := castCons vs fun c1 l1 => castCons l1 fun c2 l2 => castInt .i64 c2 fun n3 => castNil l2 (f c1 n3 h)
noncomputable def S47_1 (lf : Nat) (r : V) (cells : Int) (h : List Ob) : SubR :=
cB (decide (cells > (0))) (
bind1 (er (.nilck (.c r)) h) fun x50 =>
bind1 (er (.faddr 1 (.c x50)) h) fun x51 =>
bind1 (er (.load1 (.c x51)) h) fun v =>
castBool v fun x52 =>
cB (!x52) (
some (.normal, [], h)) (
some ((.exit 0), [], h))) (
some ((.exit 0), [], h))
theorem S47_1_eq (lf : Nat) (r : V) (cells : Int) (h : List Ob) : evCK A47 ⟨call47 lf, (cv47 lf), subN⟩ k47_1 [(4, r), (6, (.int .i64 cells))] h (endK o47_1) = S47_1 lf r cells h := by kernel_rfl
theorem S47_1_ok (lf : Nat) : SubOk Go.Proofs.Try.prog k47_1.er [4, 6] o47_1 (w47_1 (S47_1 lf)) := by
  refine SubOk.of (A := A47) (σ := ⟨call47 lf, (cv47 lf), subN⟩) (c := k47_1) (call47_ok lf) (cv47_ok lf) (And.intro True.intro (And.intro True.intro True.intro)) ?_
  intro vs h r e0
  simp only [w47_1] at e0
  obtain ⟨c1, l1, rfl, e1⟩ := castCons_inv e0
  obtain ⟨c2, l2, rfl, e2⟩ := castCons_inv e1
  obtain ⟨y1, rfl, e3⟩ := castInt_inv e2
  obtain ⟨rfl, e4⟩ := castNil_inv e3
  have e := e4
  exact (S47_1_eq lf c1 y1 h).trans e
def o47_2 : Outs := [((.exit 0), [], [])]
def k47_2 : KC := (.seq (.sub 1 k47_1.er [4, 6] o47_1) (.seq (.block 1 (.seq (.reg [⟨(some 57), none, (.op (.faddr 1 (.t 5))), []⟩, ⟨(some 58), none, (.op (.load1 (.t 57))), []⟩, ⟨(some 59), none, (.op (.mv (.t 4))), []⟩, ⟨(some 60), none, (.call 70 [(.t 59)]), [⟨(some 58), none, (.op (.load1 (.t 57)))⟩, ⟨(some 57), none, (.op (.faddr 1 (.t 5)))⟩]⟩, ⟨(some 61), none, (.op (.bslice 1 .nils 1 [(0, (.t 60))])), [⟨(some 58), none, (.op (.load1 (.t 57)))⟩, ⟨(some 57), none, (.op (.faddr 1 (.t 5)))⟩]⟩, ⟨(some 62), none, (.op (.app 1 24 (.t 58) (.t 61))), []⟩, ⟨(some 63), none, (.op (.faddr 1 (.t 5))), []⟩, ⟨none, none, (.op (.store 1 (.t 63) (.t 62))), []⟩]) (.seq (.reg [⟨(some 64), none, (.op (.faddr 0 (.t 5))), []⟩, ⟨(some 65), none, (.op (.load1 (.t 64))), []⟩]) (.cond (.t 65) (.reg [⟨(some 66), none, (.op (.faddr 2 (.t 5))), []⟩, ⟨(some 67), none, (.op (.load1 (.t 66))), []⟩, ⟨(some 68), none, (.op (.mv (.t 4))), []⟩, ⟨(some 69), none, (.call 70 [(.t 68)]), [⟨(some 67), none, (.op (.load1 (.t 66)))⟩, ⟨(some 66), none, (.op (.faddr 2 (.t 5)))⟩]⟩, ⟨(some 70), none, (.op (.bslice 1 .nils 1 [(0, (.t 69))])), [⟨(some 67), none, (.op (.load1 (.t 66)))⟩, ⟨(some 66), none, (.op (.faddr 2 (.t 5)))⟩]⟩, ⟨(some 71), none, (.op (.app 1 24 (.t 67) (.t 70))), []⟩, ⟨(some 72), none, (.op (.faddr 2 (.t 5))), []⟩, ⟨none, none, (.op (.store 1 (.t 72) (.t 71))), []⟩]) (.reg [⟨(some 73), none, (.op (.faddr 3 (.t 5))), []⟩, ⟨(some 74), none, (.op (.load1 (.t 73))), []⟩, ⟨(some 75), none, (.op (.mv (.t 4))), []⟩, ⟨(some 76), none, (.call 69 [(.t 75), (.c (.int .i64 10000))]), [⟨(some 74), none, (.op (.load1 (.t 73)))⟩, ⟨(some 73), none, (.op (.faddr 3 (.t 5)))⟩]⟩, ⟨(some 77), none, (.op (.bslice 1 (.int .i64 0) 1 [(0, (.t 76))])), [⟨(some 74), none, (.op (.load1 (.t 73)))⟩, ⟨(some 73), none, (.op (.faddr 3 (.t 5)))⟩]⟩, ⟨(some 78), none, (.op (.app 1 8 (.t 74) (.t 77))), []⟩, ⟨(some 79), none, (.op (.faddr 3 (.t 5))), []⟩, ⟨none, none, (.op (.store 1 (.t 79) (.t 78))), []⟩]))))) (.reg [⟨(some 55), none, (.op (.mv (.t 6))), []⟩, ⟨(some 56), none, (.op (.bin .sub (.t 55) (.c (.int .i64 1)))), []⟩, ⟨(some 6), none, (.op (.mv (.t 56))), []⟩])))
def w47_2 (f : V → V → Int → List Ob → SubR) (vs : List V) (h : List Ob) : SubR := castCons vs fun c1 l1 => castCons l1 fun c2 l2 => castCons l2 fun c3 l3 => castInt .i64 c3 fun n4 => castNil l3 (f c1 c2 n4 h)
noncomputable def B47_2 (lf : Nat) (self : V → V → Int → List Ob → SubR) (r : V) (n_ : V) (cells : Int) (h : List Ob) : SubR :=
bind3 (S47_1 lf r cells h) fun ex vs h_ =>
cB (decide (ex = .normal)) (
castNil vs (
bind1 (er (.faddr 1 (.c n_)) h_) fun x57 =>
bind1 (er (.load1 (.c x57)) h_) fun x58 =>
bind2 (F70 lf r h_) fun x60 h_1 =>
reP (er (.load1 (.c x57)) h_1 = some x58) (
reP (er (.faddr 1 (.c n_)) h_1 = some x57) (
bind2 (ev (.bslice 1 .nils 1 [(0, (.c x60))]) h_1) fun x61 h_2 =>
reP (er (.load1 (.c x57)) h_2 = some x58) (
reP (er (.faddr 1 (.c n_)) h_2 = some x57) (
bind2 (ev (.app 1 24 (.c x58) (.c x61)) h_2) fun x62 h_3 =>
bind1 (er (.faddr 1 (.c n_)) h_3) fun x63 =>
bind2 (ev (.store 1 (.c x63) (.c x62)) h_3) fun u h_4 =>
bind1 (er (.faddr 0 (.c n_)) h_4) fun x64 =>
bind1 (er (.load1 (.c x64)) h_4) fun v =>
castBool v fun x65 =>
cB x65 (
bind1 (er (.faddr 2 (.c n_)) h_4) fun x66 =>
bind1 (er (.load1 (.c x66)) h_4) fun x67 =>
bind2 (F70 lf r h_4) fun x69 h_5 =>
reP (er (.load1 (.c x66)) h_5 = some x67) (
reP (er (.faddr 2 (.c n_)) h_5 = some x66) (
bind2 (ev (.bslice 1 .nils 1 [(0, (.c x69))]) h_5) fun x70 h_6 =>
reP (er (.load1 (.c x66)) h_6 = some x67) (
reP (er (.faddr 2 (.c n_)) h_6 = some x66) (
bind2 (ev (.app 1 24 (.c x67) (.c x70)) h_6) fun x71 h_7 =>
bind1 (er (.faddr 2 (.c n_)) h_7) fun x72 =>
bind2 (ev (.store 1 (.c x72) (.c x71)) h_7) fun u1 h_8 =>
self r n_ (IntKind.i64.wrap (cells - (1))) h_8))))) (
bind1 (er (.faddr 3 (.c n_)) h_4) fun x73 =>
bind1 (er (.load1 (.c x73)) h_4) fun x74 =>
bind2 (F69 lf r (10000) h_4) fun v1 h_5 =>
castInt .i64 v1 fun x76 =>
reP (er (.load1 (.c x73)) h_5 = some x74) (
reP (er (.faddr 3 (.c n_)) h_5 = some x73) (
bind2 (ev (.bslice 1 (.int .i64 0) 1 [(0, (.c (.int .i64 x76)))]) h_5) fun x77 h_6 =>
reP (er (.load1 (.c x73)) h_6 = some x74) (
reP (er (.faddr 3 (.c n_)) h_6 = some x73) (
bind2 (ev (.app 1 8 (.c x74) (.c x77)) h_6) fun x78 h_7 =>
bind1 (er (.faddr 3 (.c n_)) h_7) fun x79 =>
bind2 (ev (.store 1 (.c x79) (.c x78)) h_7) fun u1 h_8 =>
self r n_ (IntKind.i64.wrap (cells - (1))) h_8))))))))))) (
cB (decide (ex = (.exit 0))) (
castNil vs (
some ((.exit 0), [], h_))) (
none))
noncomputable def L47_2 (lf : Nat) : Nat → V → V → Int → List Ob → SubR
  | 0 => fun _ _ _ _ => none
  | n + 1 => B47_2 lf (L47_2 lf n)
theorem B47_2_eq (lf : Nat) (self : V → V → Int → List Ob → SubR) (r : V) (n_ : V) (cells : Int) (h : List Ob) : evCK A47 ⟨call47 lf, (cv47 lf), subC 1 (w47_1 (S47_1 lf)) (subN)⟩ k47_2 [(4, r), (5, n_), (6, (.int .i64 cells))] h (endL [4, 5, 6] [.any, .any, (.int .i64)] o47_2 (w47_2 self)) = B47_2 lf self r n_ cells h := by kernel_rfl
theorem L47_2_ok (lf : Nat) : ∀ n, SubOk Go.Proofs.Try.prog (.loop k47_2.er) [4, 5, 6] o47_2 (w47_2 (L47_2 lf n)) := by
  refine SubOk.loop (A := A47) (σ := ⟨call47 lf, (cv47 lf), subC 1 (w47_1 (S47_1 lf)) (subN)⟩) (c := k47_2) (shs := [.any, .any, (.int .i64)]) (G := fun n => w47_2 (L47_2 lf n)) (call47_ok lf) (cv47_ok lf) (And.intro (S47_1_ok lf) (And.intro (And.intro True.intro (And.intro True.intro (And.intro True.intro True.intro))) True.intro)) ?_ ?_
  · intro vs h r e0
    simp only [w47_2] at e0
    obtain ⟨c1, l1, rfl, e1⟩ := castCons_inv e0
    obtain ⟨c2, l2, rfl, e2⟩ := castCons_inv e1
    obtain ⟨c3, l3, rfl, e3⟩ := castCons_inv e2
    obtain ⟨y2, rfl, e4⟩ := castInt_inv e3
    obtain ⟨rfl, e5⟩ := castNil_inv e4
    have e := e5
    cases e
  · intro n vs h r e0
    simp only [w47_2] at e0
    obtain ⟨c1, l1, rfl, e1⟩ := castCons_inv e0
    obtain ⟨c2, l2, rfl, e2⟩ := castCons_inv e1
    obtain ⟨c3, l3, rfl, e3⟩ := castCons_inv e2
    obtain ⟨y2, rfl, e4⟩ := castInt_inv e3
    obtain ⟨rfl, e5⟩ := castNil_inv e4
    have e := e5
    exact (B47_2_eq lf (L47_2 lf n) c1 c2 y2 h).trans e
def o47_3 : Outs := [(.normal, [100], [.bool])]
def k47_3 : KC := (.reg [⟨(some 80), none, (.op (.mv (.t 4))), []⟩, ⟨(some 81), none, (.op (.nilck (.t 80))), []⟩, ⟨(some 82), none, (.op (.faddr 1 (.t 81))), []⟩, ⟨(some 83), none, (.op (.load1 (.t 82))), []⟩, ⟨(some 84), none, (.op (.mv (.t 83))), []⟩, ⟨(some 85), (some (84, false)), (.op (.loadN 4 (.t 5))), []⟩, ⟨(some 86), (some (84, false)), (.call 43 [(.t 85)]), []⟩, ⟨(some 87), (some (84, false)), (.op (.un .not (.t 86))), []⟩, ⟨(some 88), none, (.op (.pick (.t 84) (.c (.bool true)) (.t 87))), []⟩, ⟨(some 89), none, (.op (.mv (.t 88))), []⟩, ⟨(some 90), (some (89, false)), (.op (.loadN 4 (.t 5))), []⟩, ⟨(some 91), (some (89, false)), (.call 45 [(.t 90)]), []⟩, ⟨(some 92), (some (89, false)), (.op (.bin .gtr (.t 91) (.c (.int .i64 508)))), []⟩, ⟨(some 93), none, (.op (.pick (.t 89) (.c (.bool true)) (.t 92))), []⟩, ⟨(some 94), none, (.op (.mv (.t 93))), []⟩, ⟨(some 95), (some (94, false)), (.op (.mv (.t 4))), []⟩, ⟨(some 96), (some (94, false)), (.op (.nilck (.t 95))), []⟩, ⟨(some 97), (some (94, false)), (.op (.faddr 0 (.t 96))), []⟩, ⟨(some 98), (some (94, false)), (.op (.load1 (.t 97))), []⟩, ⟨(some 99), (some (94, false)), (.call 71 [(.t 98), (.c (.fn 72 []))]), []⟩, ⟨(some 100), none, (.op (.pick (.t 94) (.c (.bool true)) (.t 99))), []⟩])
def w47_3 (f : V → V → List Ob → SubR) (vs : List V) (h : List Ob) : SubR := castCons vs fun c1 l1 => castCons l1 fun c2 l2 => castNil l2 (f c1 c2 h)
noncomputable def S47_3 (lf : Nat) (r : V) (n_ : V) (h : List Ob) : SubR :=
bind1 (er (.nilck (.c r)) h) fun x81 =>
bind1 (er (.faddr 1 (.c x81)) h) fun x82 =>
bind1 (er (.load1 (.c x82)) h) fun v =>
castBool v fun x83 =>
cB x83 (
some (.normal, [(.bool true)], h)) (
bind1 (er (.loadN 4 (.c n_)) h) fun v1 =>
castAgg v1 fun l =>
castCons l fun c l1 =>
castBool c fun x85_0 =>
castCons l1 fun x85_1 l2 =>
castCons l2 fun x85_2 l3 =>
castCons l3 fun x85_3 l4 =>
castNil l4 (
bind2 (F43 lf x85_0 x85_1 x85_2 x85_3 h) fun v2 h_ =>
castBool v2 fun x86 =>
cB (!x86) (
some (.normal, [(.bool true)], h_)) (
bind1 (er (.loadN 4 (.c n_)) h_) fun v3 =>
castAgg v3 fun l5 =>
castCons l5 fun c1 l6 =>
castBool c1 fun x90_0 =>
castCons l6 fun x90_1 l7 =>
castCons l7 fun x90_2 l8 =>
castCons l8 fun x90_3 l9 =>
castNil l9 (
bind2 (F45 lf x90_0 x90_1 x90_2 x90_3 h_) fun v4 h_1 =>
castInt .i64 v4 fun x91 =>
cB (decide (x91 > (508))) (
some (.normal, [(.bool true)], h_1)) (
bind1 (er (.nilck (.c r)) h_1) fun x96 =>
bind1 (er (.faddr 0 (.c x96)) h_1) fun x97 =>
bind1 (er (.load1 (.c x97)) h_1) fun x98 =>
bind2 (F71 lf (cv47 lf) x98 (.fn 72 []) h_1) fun v5 h_2 =>
castBool v5 fun x99 =>
some (.normal, [(.bool x99)], h_2))))))
theorem S47_3_eq (lf : Nat) (r : V) (n_ : V) (h : List Ob) : evCK A47 ⟨call47 lf, (cv47 lf), subN⟩ k47_3 [(4, r), (5, n_)] h (endK o47_3) = S47_3 lf r n_ h := by kernel_rfl
theorem S47_3_ok (lf : Nat) : SubOk Go.Proofs.Try.prog k47_3.er [4, 5] o47_3 (w47_3 (S47_3 lf)) := by
  refine SubOk.of (A := A47) (σ := ⟨call47 lf, (cv47 lf), subN⟩) (c := k47_3) (call47_ok lf) (cv47_ok lf) True.intro ?_
  intro vs h r e0
  simp only [w47_3] at e0
  obtain ⟨c1, l1, rfl, e1⟩ := castCons_inv e0
  obtain ⟨c2, l2, rfl, e2⟩ := castCons_inv e1
  obtain ⟨rfl, e3⟩ := castNil_inv e2
  have e := e3
  exact (S47_3_eq lf c1 c2 h).trans e
def o47_4 : Outs := [(.normal, [], [])]
def k47_4 : KC := (.seq (.reg [⟨(some 36), none, (.op (.faddr 0 (.t 5))), []⟩, ⟨(some 37), none, (.op (.load1 (.t 36))), []⟩, ⟨(some 38), none, (.op (.un .not (.t 37))), []⟩]) (.cond (.t 38) (.reg [⟨(some 39), none, (.op (.faddr 3 (.t 5))), []⟩, ⟨(some 40), none, (.op (.load1 (.t 39))), []⟩, ⟨(some 41), none, (.op (.mv (.t 4))), []⟩, ⟨(some 42), none, (.call 69 [(.t 41), (.c (.int .i64 10000))]), [⟨(some 40), none, (.op (.load1 (.t 39)))⟩, ⟨(some 39), none, (.op (.faddr 3 (.t 5)))⟩]⟩, ⟨(some 43), none, (.op (.bslice 1 (.int .i64 0) 1 [(0, (.t 42))])), [⟨(some 40), none, (.op (.load1 (.t 39)))⟩, ⟨(some 39), none, (.op (.faddr 3 (.t 5)))⟩]⟩, ⟨(some 44), none, (.op (.app 1 8 (.t 40) (.t 43))), []⟩, ⟨(some 45), none, (.op (.faddr 3 (.t 5))), []⟩, ⟨none, none, (.op (.store 1 (.t 45) (.t 44))), []⟩]) .skip))
def w47_4 (f : V → V → List Ob → SubR) (vs : List V) (h : List Ob) : SubR := castCons vs fun c1 l1 => castCons l1 fun c2 l2 => castNil l2 (f c1 c2 h)
noncomputable def S47_4 (lf : Nat) (r : V) (n_ : V) (h : List Ob) : SubR :=
bind1 (er (.faddr 0 (.c n_)) h) fun x36 =>
bind1 (er (.load1 (.c x36)) h) fun v =>
castBool v fun x37 =>
cB (!x37) (
bind1 (er (.faddr 3 (.c n_)) h) fun x39 =>
bind1 (er (.load1 (.c x39)) h) fun x40 =>
bind2 (F69 lf r (10000) h) fun v1 h_ =>
castInt .i64 v1 fun x42 =>
reP (er (.load1 (.c x39)) h_ = some x40) (
reP (er (.faddr 3 (.c n_)) h_ = some x39) (
bind2 (ev (.bslice 1 (.int .i64 0) 1 [(0, (.c (.int .i64 x42)))]) h_) fun x43 h_1 =>
reP (er (.load1 (.c x39)) h_1 = some x40) (
reP (er (.faddr 3 (.c n_)) h_1 = some x39) (
bind2 (ev (.app 1 8 (.c x40) (.c x43)) h_1) fun x44 h_2 =>
bind1 (er (.faddr 3 (.c n_)) h_2) fun x45 =>
bind2 (ev (.store 1 (.c x45) (.c x44)) h_2) fun u h_3 =>
some (.normal, [], h_3)))))) (
some (.normal, [], h))
theorem S47_4_eq (lf : Nat) (r : V) (n_ : V) (h : List Ob) : evCK A47 ⟨call47 lf, (cv47 lf), subN⟩ k47_4 [(4, r), (5, n_)] h (endK o47_4) = S47_4 lf r n_ h := by kernel_rfl
theorem S47_4_ok (lf : Nat) : SubOk Go.Proofs.Try.prog k47_4.er [4, 5] o47_4 (w47_4 (S47_4 lf)) := by
  refine SubOk.of (A := A47) (σ := ⟨call47 lf, (cv47 lf), subN⟩) (c := k47_4) (call47_ok lf) (cv47_ok lf) (And.intro True.intro (And.intro True.intro True.intro)) ?_
  intro vs h r e0
  simp only [w47_4] at e0
  obtain ⟨c1, l1, rfl, e1⟩ := castCons_inv e0
  obtain ⟨c2, l2, rfl, e2⟩ := castCons_inv e1
  obtain ⟨rfl, e3⟩ := castNil_inv e2
  have e := e3
  exact (S47_4_eq lf c1 c2 h).trans e
def k47 : KC := (.seq (.reg [⟨(some 2), none, (.op (.alloc false (.agg [(.bool false), .nils, .nils, .nils]))), []⟩, ⟨(some 3), none, (.op (.mv (.c (.int .i64 0)))), []⟩]) (.seq (.seq (.sub 0 k47_0.er [0] o47_0) (.cond (.t 21) (.seq (.reg [⟨(some 22), none, (.op (.build [(.bool false), .nils, .nils, .nils] [])), []⟩, ⟨none, none, (.op (.store 4 (.t 2) (.t 22))), []⟩, ⟨(some 3), none, (.op (.mv (.c (.int .i64 2)))), []⟩]) .ret) .skip)) (.seq (.reg [⟨(some 23), none, (.op (.mv (.t 0))), []⟩, ⟨(some 24), none, (.op (.slcL 1 (.t 23) (some (.c (.int .i64 1))) none none)), []⟩, ⟨(some 25), none, (.op (.build [.nils, (.bool false)] [(0, (1, (.t 24)))])), []⟩, ⟨(some 26), none, (.op (.box false (.t 25))), []⟩, ⟨(some 4), none, (.op (.mv (.t 26))), []⟩]) (.seq (.reg [⟨(some 27), none, (.op (.mv (.t 0))), []⟩, ⟨(some 28), none, (.op (.iaddrL 1 (.t 27) (.c (.int .i64 0)))), []⟩, ⟨(some 29), none, (.op (.load1 (.t 28))), []⟩, ⟨(some 30), none, (.op (.bin .eql (.t 29) (.c (.int .u8 1)))), []⟩, ⟨(some 31), none, (.op (.build [(.bool false), .nils, .nils, .nils] [(0, (1, (.t 30)))])), []⟩, ⟨(some 5), none, (.op (.alloc false (.agg [(.bool false), .nils, .nils, .nils]))), []⟩, ⟨none, none, (.op (.store 4 (.t 5) (.t 31))), []⟩]) (.seq (.reg [⟨(some 32), none, (.op (.mv (.t 4))), []⟩, ⟨(some 33), none, (.op (.mv (.t 0))), []⟩, ⟨(some 34), none, (.op (.lenL (.t 33))), []⟩, ⟨(some 35), none, (.call 69 [(.t 32), (.t 34)]), []⟩, ⟨(some 6), none, (.op (.mv (.t 35))), []⟩]) (.seq (.sub 4 k47_4.er [4, 5] o47_4) (.seq (.block 0 (.sub 2 (.loop k47_2.er) [4, 5, 6] o47_2)) (.seq (.seq (.sub 3 k47_3.er [4, 5] o47_3) (.cond (.t 100) (.seq (.reg [⟨(some 101), none, (.op (.build [(.bool false), .nils, .nils, .nils] [])), []⟩, ⟨none, none, (.op (.store 4 (.t 2) (.t 101))), []⟩, ⟨(some 3), none, (.op (.mv (.c (.int .i64 2)))), []⟩]) .ret) .skip)) (.seq (.reg [⟨(some 102), none, (.op (.loadN 4 (.t 5))), []⟩, ⟨none, none, (.op (.store 4 (.t 2) (.t 102))), []⟩, ⟨(some 3), none, (.op (.mv (.c (.int .i64 0)))), []⟩]) .ret)))))))))
noncomputable def F47 (lf : Nat) (b : V) (h : List Ob) : Option (V × List Ob) :=
bind2 (ev (.alloc false (.agg [(.bool false), .nils, .nils, .nils])) h) fun x2 h_ =>
bind3 (S47_0 lf b h_) fun ex vs h_1 =>
cB (decide (ex = .normal)) (
castCons vs fun c l =>
castBool c fun x21 =>
castNil l (
cB x21 (
bind1 (er (.build [(.bool false), .nils, .nils, .nils] []) h_1) fun v =>
castAgg v fun l1 =>
castCons l1 fun c1 l2 =>
castBool c1 fun x22_0 =>
castCons l2 fun x22_1 l3 =>
castCons l3 fun x22_2 l4 =>
castCons l4 fun x22_3 l5 =>
castNil l5 (
bind2 (ev (.store 4 (.c x2) (.c (.agg [(.bool x22_0), x22_1, x22_2, x22_3]))) h_1) fun u h_2 =>
bind1 (evLoadN h_2 4 x2) fun r =>
some ((.tup [r, (.int .i64 (2))]), h_2))) (
bind1 (er (.slcL 1 (.c b) (some (.c (.int .i64 (1)))) none none) h_1) fun x24 =>
bind1 (er (.build [.nils, (.bool false)] [(0, (1, (.c x24)))]) h_1) fun v =>
castAgg v fun l1 =>
castCons l1 fun x25_0 l2 =>
castCons l2 fun c1 l3 =>
castBool c1 fun x25_1 =>
castNil l3 (
bind2 (ev (.box false (.c (.agg [x25_0, (.bool x25_1)]))) h_1) fun x26 h_2 =>
bind1 (er (.iaddrL 1 (.c b) (.c (.int .i64 (0)))) h_2) fun x28 =>
bind1 (er (.load1 (.c x28)) h_2) fun v1 =>
castInt .u8 v1 fun x29 =>
bind1 (er (.build [(.bool false), .nils, .nils, .nils] [(0, (1, (.c (.bool (x29 == (1))))))]) h_2) fun v2 =>
castAgg v2 fun l4 =>
castCons l4 fun c2 l5 =>
castBool c2 fun x31_0 =>
castCons l5 fun x31_1 l6 =>
castCons l6 fun x31_2 l7 =>
castCons l7 fun x31_3 l8 =>
castNil l8 (
bind2 (ev (.alloc false (.agg [(.bool false), .nils, .nils, .nils])) h_2) fun n_ h_3 =>
bind2 (ev (.store 4 (.c n_) (.c (.agg [(.bool x31_0), x31_1, x31_2, x31_3]))) h_3) fun u h_4 =>
bind1 (er (.lenL (.c b)) h_4) fun v3 =>
castInt .i64 v3 fun x34 =>
bind2 (F69 lf x26 x34 h_4) fun v4 h_5 =>
castInt .i64 v4 fun x35 =>
bind3 (S47_4 lf x26 n_ h_5) fun ex1 vs1 h_6 =>
cB (decide (ex1 = .normal)) (
castNil vs1 (
bind3 (L47_2 lf lf x26 n_ x35 h_6) fun ex2 vs2 h_7 =>
cB (decide (ex2 = (.exit 0))) (
castNil vs2 (
bind3 (S47_3 lf x26 n_ h_7) fun ex3 vs3 h_8 =>
cB (decide (ex3 = .normal)) (
castCons vs3 fun c3 l9 =>
castBool c3 fun x100 =>
castNil l9 (
cB x100 (
bind1 (er (.build [(.bool false), .nils, .nils, .nils] []) h_8) fun v5 =>
castAgg v5 fun l10 =>
castCons l10 fun c4 l11 =>
castBool c4 fun x101_0 =>
castCons l11 fun x101_1 l12 =>
castCons l12 fun x101_2 l13 =>
castCons l13 fun x101_3 l14 =>
castNil l14 (
bind2 (ev (.store 4 (.c x2) (.c (.agg [(.bool x101_0), x101_1, x101_2, x101_3]))) h_8) fun u1 h_9 =>
bind1 (evLoadN h_9 4 x2) fun r =>
some ((.tup [r, (.int .i64 (2))]), h_9))) (
bind1 (er (.loadN 4 (.c n_)) h_8) fun v5 =>
castAgg v5 fun l10 =>
castCons l10 fun c4 l11 =>
castBool c4 fun x102_0 =>
castCons l11 fun x102_1 l12 =>
castCons l12 fun x102_2 l13 =>
castCons l13 fun x102_3 l14 =>
castNil l14 (
bind2 (ev (.store 4 (.c x2) (.c (.agg [(.bool x102_0), x102_1, x102_2, x102_3]))) h_8) fun u1 h_9 =>
bind1 (evLoadN h_9 4 x2) fun r =>
some ((.tup [r, (.int .i64 (0))]), h_9))))) (
none))) (
none))) (
none)))))) (
none)
theorem F47_eq (lf : Nat) (b : V) (h : List Ob) : evCK A47 ⟨call47 lf, (cv47 lf), subC 3 (w47_3 (S47_3 lf)) (subC 2 (w47_2 (L47_2 lf lf)) (subC 4 (w47_4 (S47_4 lf)) (subC 0 (w47_0 (S47_0 lf)) (subN))))⟩ k47 (entryK [b]) h (endF c47.res) = F47 lf b h := by kernel_rfl
theorem F47_ok (lf : Nat) (b : V) (h : List Ob) (r_ : V) (h_r : List Ob) (e_ : F47 lf b h = some (r_, h_r)) : CD Go.Proofs.Try.prog 47 [b] h r_ h_r :=
  CD.ofK (A := A47) (σ := ⟨call47 lf, (cv47 lf), subC 3 (w47_3 (S47_3 lf)) (subC 2 (w47_2 (L47_2 lf lf)) (subC 4 (w47_4 (S47_4 lf)) (subC 0 (w47_0 (S47_0 lf)) (subN))))⟩) (c := k47) Go.Proofs.Try.func47 ok47 en47 (show 1 ≤ 103 by decide) (by kernel_rfl) (call47_ok lf) (cv47_ok lf) (And.intro True.intro (And.intro (And.intro (S47_0_ok lf) (And.intro (And.intro True.intro True.intro) True.intro)) (And.intro True.intro (And.intro True.intro (And.intro True.intro (And.intro (S47_4_ok lf) (And.intro (L47_2_ok lf lf) (And.intro (And.intro (S47_3_ok lf) (And.intro (And.intro True.intro True.intro) True.intro)) (And.intro True.intro True.intro))))))))) ((F47_eq lf b h).trans e_)
def w47 (f : V → List Ob → Option (V × List Ob)) (vs : List V) (h : List Ob) : Option (V × List Ob) := castCons vs fun c1 l1 => castNil l1 (f c1 h)
noncomputable def W47 (lf : Nat) : List V → List Ob → Option (V × List Ob) := w47 (F47 lf)
theorem W47_ok (lf : Nat) : ∀ args h v h', W47 lf args h = some (v, h') → CD Go.Proofs.Try.prog 47 args h v h' := by
  intro vs h r h' e0
  simp only [W47, w47] at e0
  obtain ⟨c1, l1, rfl, e1⟩ := castCons_inv e0
  obtain ⟨rfl, e2⟩ := castNil_inv e1
  have e := e2
  exact F47_ok lf c1 h r h' e

/-! 73: wainscot/wainscotref09.Lists -/
def A73 : List (Nat × Sh) := [(4, .bool), (5, (.int .i64)), (7, (.int .i64)), (9, (.int .i64)), (10, .bool), (12, (.int .i64)), (13, (.int .i64)), (14, .bool), (15, (.int .i64)), (17, (.int .i64)), (20, .str), (22, (.int .i64)), (25, .str), (26, .bool), (27, (.int .i64))]
noncomputable def call73 (lf : Nat) : CallS := callN
theorem call73_ok (lf : Nat) : CallOk Go.Proofs.Try.prog (call73 lf) := callN_ok
def o73_0 : Outs := [((.exit 0), [], []), (.ret, [4], [.bool])]
def k73_0 : KC := (.seq (.reg [⟨(some 14), none, (.op (.bin .lss (.t 13) (.t 12))), []⟩]) (.seq (.cond (.t 14) .skip (.exit 0)) (.seq (.block 1 (.seq (.reg [⟨(some 15), none, (.op (.mv (.t 13))), []⟩, ⟨(some 5), none, (.op (.mv (.t 15))), []⟩]) (.seq (.reg [⟨(some 16), none, (.op (.mv (.t 0))), []⟩, ⟨(some 17), none, (.op (.mv (.t 5))), []⟩, ⟨(some 18), none, (.op (.iaddrL 1 (.t 16) (.t 17))), []⟩, ⟨(some 19), none, (.op (.load1 (.t 18))), []⟩, ⟨(some 20), none, (.op (.toStr (.t 19))), []⟩, ⟨(some 21), none, (.op (.mv (.t 1))), []⟩, ⟨(some 22), none, (.op (.mv (.t 5))), []⟩, ⟨(some 23), none, (.op (.iaddrL 1 (.t 21) (.t 22))), []⟩, ⟨(some 24), none, (.op (.load1 (.t 23))), []⟩, ⟨(some 25), none, (.op (.toStr (.t 24))), []⟩, ⟨(some 26), none, (.op (.bin .neq (.t 20) (.t 25))), []⟩]) (.cond (.t 26) (.seq (.reg [⟨(some 4), none, (.op (.mv (.c (.bool false)))), []⟩]) .ret) .skip)))) (.reg [⟨(some 27), none, (.op (.bin .add (.t 13) (.c (.int .i64 1)))), []⟩, ⟨(some 13), none, (.op (.mv (.t 27))), []⟩]))))
def w73_0 (f : V → V → Int → Int → List Ob → SubR) (vs : List V) (h : List Ob) : SubR := castCons vs fun c1 l1 => castCons l1 fun c2 l2 => castCons l2 fun c3 l3 => castInt .i64 c3 fun n4 => castCons l3 fun c5 l5 => castInt .i64 c5 fun n6 => castNil l5 (f c1 c2 n4 n6 h)
noncomputable def B73_0 (lf : Nat) (self : V → V → Int → Int → List Ob → SubR) (a : V) (b : V) (x12 : Int) (x13 : Int) (h : List Ob) : SubR :=
cB (decide (x13 < x12)) (
bind1 (er (.iaddrL 1 (.c a) (.c (.int .i64 x13))) h) fun x18 =>
bind1 (er (.load1 (.c x18)) h) fun x19 =>
bind1 (er (.toStr (.c x19)) h) fun v =>
castStr v fun x20 =>
bind1 (er (.iaddrL 1 (.c b) (.c (.int .i64 x13))) h) fun x23 =>
bind1 (er (.load1 (.c x23)) h) fun x24 =>
bind1 (er (.toStr (.c x24)) h) fun v1 =>
castStr v1 fun x25 =>
cB (!(x20 == x25)) (
some (.ret, [(.bool false)], h)) (
self a b x12 (IntKind.i64.wrap (x13 + (1))) h)) (
some ((.exit 0), [], h))
noncomputable def L73_0 (lf : Nat) : Nat → V → V → Int → Int → List Ob → SubR
  | 0 => fun _ _ _ _ _ => none
  | n + 1 => B73_0 lf (L73_0 lf n)
theorem B73_0_eq (lf : Nat) (self : V → V → Int → Int → List Ob → SubR) (a : V) (b : V) (x12 : Int) (x13 : Int) (h : List Ob) : evCK A73 ⟨call73 lf, cvN, subN⟩ k73_0 [(0, a), (1, b), (12, (.int .i64 x12)), (13, (.int .i64 x13))] h (endL [0, 1, 12, 13] [.any, .any, (.int .i64), (.int .i64)] o73_0 (w73_0 self)) = B73_0 lf self a b x12 x13 h := by kernel_rfl
theorem L73_0_ok (lf : Nat) : ∀ n, SubOk Go.Proofs.Try.prog (.loop k73_0.er) [0, 1, 12, 13] o73_0 (w73_0 (L73_0 lf n)) := by
  refine SubOk.loop (A := A73) (σ := ⟨call73 lf, cvN, subN⟩) (c := k73_0) (shs := [.any, .any, (.int .i64), (.int .i64)]) (G := fun n => w73_0 (L73_0 lf n)) (call73_ok lf) cvN_ok (And.intro True.intro (And.intro (And.intro True.intro True.intro) (And.intro (And.intro True.intro (And.intro True.intro (And.intro (And.intro True.intro True.intro) True.intro))) True.intro))) ?_ ?_
  · intro vs h r e0
    simp only [w73_0] at e0
    obtain ⟨c1, l1, rfl, e1⟩ := castCons_inv e0
    obtain ⟨c2, l2, rfl, e2⟩ := castCons_inv e1
    obtain ⟨c3, l3, rfl, e3⟩ := castCons_inv e2
    obtain ⟨y2, rfl, e4⟩ := castInt_inv e3
    obtain ⟨c4, l4, rfl, e5⟩ := castCons_inv e4
    obtain ⟨y3, rfl, e6⟩ := castInt_inv e5
    obtain ⟨rfl, e7⟩ := castNil_inv e6
    have e := e7
    cases e
  · intro n vs h r e0
    simp only [w73_0] at e0
    obtain ⟨c1, l1, rfl, e1⟩ := castCons_inv e0
    obtain ⟨c2, l2, rfl, e2⟩ := castCons_inv e1
    obtain ⟨c3, l3, rfl, e3⟩ := castCons_inv e2
    obtain ⟨y2, rfl, e4⟩ := castInt_inv e3
    obtain ⟨c4, l4, rfl, e5⟩ := castCons_inv e4
    obtain ⟨y3, rfl, e6⟩ := castInt_inv e5
    obtain ⟨rfl, e7⟩ := castNil_inv e6
    have e := e7
    exact (B73_0_eq lf (L73_0 lf n) c1 c2 y2 y3 h).trans e
def k73 : KC := (.seq (.reg [⟨(some 4), none, (.op (.mv (.c (.bool false)))), []⟩]) (.seq (.seq (.reg [⟨(some 6), none, (.op (.mv (.t 0))), []⟩, ⟨(some 7), none, (.op (.lenL (.t 6))), []⟩, ⟨(some 8), none, (.op (.mv (.t 1))), []⟩, ⟨(some 9), none, (.op (.lenL (.t 8))), []⟩, ⟨(some 10), none, (.op (.bin .neq (.t 7) (.t 9))), []⟩]) (.cond (.t 10) (.seq (.reg [⟨(some 4), none, (.op (.mv (.c (.bool false)))), []⟩]) .ret) .skip)) (.seq (.seq (.reg [⟨(some 11), none, (.op (.mv (.t 0))), []⟩, ⟨(some 12), none, (.op (.lenL (.t 11))), []⟩, ⟨(some 13), none, (.op (.mv (.c (.int .i64 0)))), []⟩]) (.block 0 (.sub 0 (.loop k73_0.er) [0, 1, 12, 13] o73_0))) (.seq (.reg [⟨(some 4), none, (.op (.mv (.c (.bool true)))), []⟩]) .ret))))
noncomputable def F73 (lf : Nat) (a : V) (b : V) (h : List Ob) : Option (V × List Ob) :=
bind1 (er (.lenL (.c a)) h) fun v =>
castInt .i64 v fun x7 =>
bind1 (er (.lenL (.c b)) h) fun v1 =>
castInt .i64 v1 fun x9 =>
cB (x7 != x9) (
some ((.bool false), h)) (
bind1 (er (.lenL (.c a)) h) fun v2 =>
castInt .i64 v2 fun x12 =>
bind3 (L73_0 lf lf a b x12 (0) h) fun ex vs h_ =>
cB (decide (ex = (.exit 0))) (
castNil vs (
some ((.bool true), h_))) (
cB (decide (ex = .ret)) (
castCons vs fun c l =>
castBool c fun x4 =>
castNil l (
some ((.bool x4), h_))) (
none)))
theorem F73_eq (lf : Nat) (a : V) (b : V) (h : List Ob) : evCK A73 ⟨call73 lf, cvN, subC 0 (w73_0 (L73_0 lf lf)) (subN)⟩ k73 (entryK [a, b]) h (endF c73.res) = F73 lf a b h := by kernel_rfl
theorem F73_ok (lf : Nat) (a : V) (b : V) (h : List Ob) (r_ : V) (h_r : List Ob) (e_ : F73 lf a b h = some (r_, h_r)) : CD Go.Proofs.Try.prog 73 [a, b] h r_ h_r :=
  CD.ofK (A := A73) (σ := ⟨call73 lf, cvN, subC 0 (w73_0 (L73_0 lf lf)) (subN)⟩) (c := k73) Go.Proofs.Try.func73 ok73 en73 (show 2 ≤ 28 by decide) (by kernel_rfl) (call73_ok lf) cvN_ok (And.intro True.intro (And.intro (And.intro True.intro (And.intro (And.intro True.intro True.intro) True.intro)) (And.intro (And.intro True.intro (L73_0_ok lf lf)) (And.intro True.intro True.intro)))) ((F73_eq lf a b h).trans e_)
def w73 (f : V → V → List Ob → Option (V × List Ob)) (vs : List V) (h : List Ob) : Option (V × List Ob) := castCons vs fun c1 l1 => castCons l1 fun c2 l2 => castNil l2 (f c1 c2 h)
noncomputable def W73 (lf : Nat) : List V → List Ob → Option (V × List Ob) := w73 (F73 lf)
theorem W73_ok (lf : Nat) : ∀ args h v h', W73 lf args h = some (v, h') → CD Go.Proofs.Try.prog 73 args h v h' := by
  intro vs h r h' e0
  simp only [W73, w73] at e0
  obtain ⟨c1, l1, rfl, e1⟩ := castCons_inv e0
  obtain ⟨c2, l2, rfl, e2⟩ := castCons_inv e1
  obtain ⟨rfl, e3⟩ := castNil_inv e2
  have e := e3
  exact F73_ok lf c1 c2 h r h' e

/-! 74: wainscot/wainscotref09.Ints -/
def A74 : List (Nat × Sh) := [(4, .bool), (5, (.int .i64)), (7, (.int .i64)), (9, (.int .i64)), (10, .bool), (12, (.int .i64)), (13, (.int .i64)), (14, .bool), (15, (.int .i64)), (17, (.int .i64)), (19, (.int .i64)), (21, (.int .i64)), (23, (.int .i64)), (24, .bool), (25, (.int .i64))]
noncomputable def call74 (lf : Nat) : CallS := callN
theorem call74_ok (lf : Nat) : CallOk Go.Proofs.Try.prog (call74 lf) := callN_ok
def o74_0 : Outs := [((.exit 0), [], []), (.ret, [4], [.bool])]
def k74_0 : KC := (.seq (.reg [⟨(some 14), none, (.op (.bin .lss (.t 13) (.t 12))), []⟩]) (.seq (.cond (.t 14) .skip (.exit 0)) (.seq (.block 1 (.seq (.reg [⟨(some 15), none, (.op (.mv (.t 13))), []⟩, ⟨(some 5), none, (.op (.mv (.t 15))), []⟩]) (.seq (.reg [⟨(some 16), none, (.op (.mv (.t 0))), []⟩, ⟨(some 17), none, (.op (.mv (.t 5))), []⟩, ⟨(some 18), none, (.op (.iaddrL 1 (.t 16) (.t 17))), []⟩, ⟨(some 19), none, (.op (.load1 (.t 18))), []⟩, ⟨(some 20), none, (.op (.mv (.t 1))), []⟩, ⟨(some 21), none, (.op (.mv (.t 5))), []⟩, ⟨(some 22), none, (.op (.iaddrL 1 (.t 20) (.t 21))), []⟩, ⟨(some 23), none, (.op (.load1 (.t 22))), []⟩, ⟨(some 24), none, (.op (.bin .neq (.t 19) (.t 23))), []⟩]) (.cond (.t 24) (.seq (.reg [⟨(some 4), none, (.op (.mv (.c (.bool false)))), []⟩]) .ret) .skip)))) (.reg [⟨(some 25), none, (.op (.bin .add (.t 13) (.c (.int .i64 1)))), []⟩, ⟨(some 13), none, (.op (.mv (.t 25))), []⟩]))))
def w74_0 (f : V → V → Int → Int → List Ob → SubR) (vs : List V) (h : List Ob) : SubR := castCons vs fun c1 l1 => castCons l1 fun c2 l2 => castCons l2 fun c3 l3 => castInt .i64 c3 fun n4 => castCons l3 fun c5 l5 => castInt .i64 c5 fun n6 => castNil l5 (f c1 c2 n4 n6 h)
noncomputable def B74_0 (lf : Nat) (self : V → V → Int → Int → List Ob → SubR) (a : V) (b : V) (x12 : Int) (x13 : Int) (h : List Ob) : SubR :=
cB (decide (x13 < x12)) (
bind1 (er (.iaddrL 1 (.c a) (.c (.int .i64 x13))) h) fun x18 =>
bind1 (er (.load1 (.c x18)) h) fun v =>
castInt .i64 v fun x19 =>
bind1 (er (.iaddrL 1 (.c b) (.c (.int .i64 x13))) h) fun x22 =>
bind1 (er (.load1 (.c x22)) h) fun v1 =>
castInt .i64 v1 fun x23 =>
cB (x19 != x23) (
some (.ret, [(.bool false)], h)) (
self a b x12 (IntKind.i64.wrap (x13 + (1))) h)) (
some ((.exit 0), [], h))
noncomputable def L74_0 (lf : Nat) : Nat → V → V → Int → Int → List Ob → SubR
  | 0 => fun _ _ _ _ _ => none
  | n + 1 => B74_0 lf (L74_0 lf n)
theorem B74_0_eq (lf : Nat) (self : V → V → Int → Int → List Ob → SubR) (a : V) (b : V) (x12 : Int) (x13 : Int) (h : List Ob) : evCK A74 ⟨call74 lf, cvN, subN⟩ k74_0 [(0, a), (1, b), (12, (.int .i64 x12)), (13, (.int .i64 x13))] h (endL [0, 1, 12, 13] [.any, .any, (.int .i64), (.int .i64)] o74_0 (w74_0 self)) = B74_0 lf self a b x12 x13 h := by kernel_rfl
theorem L74_0_ok (lf : Nat) : ∀ n, SubOk Go.Proofs.Try.prog (.loop k74_0.er) [0, 1, 12, 13] o74_0 (w74_0 (L74_0 lf n)) := by
  refine SubOk.loop (A := A74) (σ := ⟨call74 lf, cvN, subN⟩) (c := k74_0) (shs := [.any, .any, (.int .i64), (.int .i64)]) (G := fun n => w74_0 (L74_0 lf n)) (call74_ok lf) cvN_ok (And.intro True.intro (And.intro (And.intro True.intro True.intro) (And.intro (And.intro True.intro (And.intro True.intro (And.intro (And.intro True.intro True.intro) True.intro))) True.intro))) ?_ ?_
  · intro vs h r e0
    simp only [w74_0] at e0
    obtain ⟨c1, l1, rfl, e1⟩ := castCons_inv e0
    obtain ⟨c2, l2, rfl, e2⟩ := castCons_inv e1
    obtain ⟨c3, l3, rfl, e3⟩ := castCons_inv e2
    obtain ⟨y2, rfl, e4⟩ := castInt_inv e3
    obtain ⟨c4, l4, rfl, e5⟩ := castCons_inv e4
    obtain ⟨y3, rfl, e6⟩ := castInt_inv e5
    obtain ⟨rfl, e7⟩ := castNil_inv e6
    have e := e7
    cases e
  · intro n vs h r e0
    simp only [w74_0] at e0
    obtain ⟨c1, l1, rfl, e1⟩ := castCons_inv e0
    obtain ⟨c2, l2, rfl, e2⟩ := castCons_inv e1
    obtain ⟨c3, l3, rfl, e3⟩ := castCons_inv e2
    obtain ⟨y2, rfl, e4⟩ := castInt_inv e3
    obtain ⟨c4, l4, rfl, e5⟩ := castCons_inv e4
    obtain ⟨y3, rfl, e6⟩ := castInt_inv e5
    obtain ⟨rfl, e7⟩ := castNil_inv e6
    have e := e7
    exact (B74_0_eq lf (L74_0 lf n) c1 c2 y2 y3 h).trans e
def k74 : KC := (.seq (.reg [⟨(some 4), none, (.op (.mv (.c (.bool false)))), []⟩]) (.seq (.seq (.reg [⟨(some 6), none, (.op (.mv (.t 0))), []⟩, ⟨(some 7), none, (.op (.lenL (.t 6))), []⟩, ⟨(some 8), none, (.op (.mv (.t 1))), []⟩, ⟨(some 9), none, (.op (.lenL (.t 8))), []⟩, ⟨(some 10), none, (.op (.bin .neq (.t 7) (.t 9))), []⟩]) (.cond (.t 10) (.seq (.reg [⟨(some 4), none, (.op (.mv (.c (.bool false)))), []⟩]) .ret) .skip)) (.seq (.seq (.reg [⟨(some 11), none, (.op (.mv (.t 0))), []⟩, ⟨(some 12), none, (.op (.lenL (.t 11))), []⟩, ⟨(some 13), none, (.op (.mv (.c (.int .i64 0)))), []⟩]) (.block 0 (.sub 0 (.loop k74_0.er) [0, 1, 12, 13] o74_0))) (.seq (.reg [⟨(some 4), none, (.op (.mv (.c (.bool true)))), []⟩]) .ret))))
noncomputable def F74 (lf : Nat) (a : V) (b : V) (h : List Ob) : Option (V × List Ob) :=
bind1 (er (.lenL (.c a)) h) fun v =>
castInt .i64 v fun x7 =>
bind1 (er (.lenL (.c b)) h) fun v1 =>
castInt .i64 v1 fun x9 =>
cB (x7 != x9) (
some ((.bool false), h)) (
bind1 (er (.lenL (.c a)) h) fun v2 =>
castInt .i64 v2 fun x12 =>
bind3 (L74_0 lf lf a b x12 (0) h) fun ex vs h_ =>
cB (decide (ex = (.exit 0))) (
castNil vs (
some ((.bool true), h_))) (
cB (decide (ex = .ret)) (
castCons vs fun c l =>
castBool c fun x4 =>
castNil l (
some ((.bool x4), h_))) (
none)))
theorem F74_eq (lf : Nat) (a : V) (b : V) (h : List Ob) : evCK A74 ⟨call74 lf, cvN, subC 0 (w74_0 (L74_0 lf lf)) (subN)⟩ k74 (entryK [a, b]) h (endF c74.res) = F74 lf a b h := by kernel_rfl
theorem F74_ok (lf : Nat) (a : V) (b : V) (h : List Ob) (r_ : V) (h_r : List Ob) (e_ : F74 lf a b h = some (r_, h_r)) : CD Go.Proofs.Try.prog 74 [a, b] h r_ h_r :=
  CD.ofK (A := A74) (σ := ⟨call74 lf, cvN, subC 0 (w74_0 (L74_0 lf lf)) (subN)⟩) (c := k74) Go.Proofs.Try.func74 ok74 en74 (show 2 ≤ 26 by decide) (by kernel_rfl) (call74_ok lf) cvN_ok (And.intro True.intro (And.intro (And.intro True.intro (And.intro (And.intro True.intro True.intro) True.intro)) (And.intro (And.intro True.intro (L74_0_ok lf lf)) (And.intro True.intro True.intro)))) ((F74_eq lf a b h).trans e_)
def w74 (f : V → V → List Ob → Option (V × List Ob)) (vs : List V) (h : List Ob) : Option (V × List Ob) := castCons vs fun c1 l1 => castCons l1 fun c2 l2 => castNil l2 (f c1 c2 h)
noncomputable def W74 (lf : Nat) : List V → List Ob → Option (V × List Ob) := w74 (F74 lf)
theorem W74_ok (lf : Nat) : ∀ args h v h', W74 lf args h = some (v, h') → CD Go.Proofs.Try.prog 74 args h v h' := by
  intro vs h r h' e0
  simp only [W74, w74] at e0
  obtain ⟨c1, l1, rfl, e1⟩ := castCons_inv e0
  obtain ⟨c2, l2, rfl, e2⟩ := castCons_inv e1
  obtain ⟨rfl, e3⟩ := castNil_inv e2
  have e := e3
  exact F74_ok lf c1 c2 h r h' e

/-! 48: wainscot/wainscotref09.SameNode -/
def A48 : List (Nat × Sh) := [(0, (.agg [.bool, .any, .any, .any])), (1, (.agg [.bool, .any, .any, .any])), (4, .bool), (6, .bool), (8, .bool), (9, .bool), (10, .bool), (15, .bool), (16, .bool), (17, .bool), (22, .bool), (23, .bool), (24, .bool), (29, .bool), (30, .bool)]
noncomputable def call48 (lf : Nat) : CallS := callC 74 (W74 lf) (callC 73 (W73 lf) (callN))
theorem call48_ok (lf : Nat) : CallOk Go.Proofs.Try.prog (call48 lf) := callC_ok (W74_ok lf) (callC_ok (W73_ok lf) (callN_ok))
def k48 : KC := (.seq (.reg [⟨(some 2), none, (.op (.box false (.t 0))), []⟩, ⟨(some 3), none, (.op (.box false (.t 1))), []⟩, ⟨(some 4), none, (.op (.mv (.c (.bool false)))), []⟩]) (.seq (.reg [⟨(some 5), none, (.op (.faddr 0 (.t 2))), []⟩, ⟨(some 6), none, (.op (.load1 (.t 5))), []⟩, ⟨(some 7), none, (.op (.faddr 0 (.t 3))), []⟩, ⟨(some 8), none, (.op (.load1 (.t 7))), []⟩, ⟨(some 9), none, (.op (.eq false .bool (.t 6) (.t 8))), []⟩, ⟨(some 10), none, (.op (.mv (.t 9))), []⟩, ⟨(some 11), (some (10, true)), (.op (.faddr 1 (.t 2))), []⟩, ⟨(some 12), (some (10, true)), (.op (.load1 (.t 11))), []⟩, ⟨(some 13), (some (10, true)), (.op (.faddr 1 (.t 3))), []⟩, ⟨(some 14), (some (10, true)), (.op (.load1 (.t 13))), []⟩, ⟨(some 15), (some (10, true)), (.call 73 [(.t 12), (.t 14)]), []⟩, ⟨(some 16), none, (.op (.pick (.t 10) (.t 15) (.c (.bool false)))), []⟩, ⟨(some 17), none, (.op (.mv (.t 16))), []⟩, ⟨(some 18), (some (17, true)), (.op (.faddr 2 (.t 2))), []⟩, ⟨(some 19), (some (17, true)), (.op (.load1 (.t 18))), []⟩, ⟨(some 20), (some (17, true)), (.op (.faddr 2 (.t 3))), []⟩, ⟨(some 21), (some (17, true)), (.op (.load1 (.t 20))), []⟩, ⟨(some 22), (some (17, true)), (.call 73 [(.t 19), (.t 21)]), []⟩, ⟨(some 23), none, (.op (.pick (.t 17) (.t 22) (.c (.bool false)))), []⟩, ⟨(some 24), none, (.op (.mv (.t 23))), []⟩, ⟨(some 25), (some (24, true)), (.op (.faddr 3 (.t 2))), []⟩, ⟨(some 26), (some (24, true)), (.op (.load1 (.t 25))), []⟩, ⟨(some 27), (some (24, true)), (.op (.faddr 3 (.t 3))), []⟩, ⟨(some 28), (some (24, true)), (.op (.load1 (.t 27))), []⟩, ⟨(some 29), (some (24, true)), (.call 74 [(.t 26), (.t 28)]), []⟩, ⟨(some 30), none, (.op (.pick (.t 24) (.t 29) (.c (.bool false)))), []⟩, ⟨(some 4), none, (.op (.mv (.t 30))), []⟩]) .ret))
noncomputable def F48 (lf : Nat) (a : Bool) (a1 : V) (a2 : V) (a3 : V) (b : Bool) (b1 : V) (b2 : V) (b3 : V) (h : List Ob) : Option (V × List Ob) :=
bind2 (ev (.box false (.c (.agg [(.bool a), a1, a2, a3]))) h) fun a4 h_ =>
bind2 (ev (.box false (.c (.agg [(.bool b), b1, b2, b3]))) h_) fun b4 h_1 =>
bind1 (er (.faddr 0 (.c a4)) h_1) fun x5 =>
bind1 (er (.load1 (.c x5)) h_1) fun v =>
castBool v fun x6 =>
bind1 (er (.faddr 0 (.c b4)) h_1) fun x7 =>
bind1 (er (.load1 (.c x7)) h_1) fun v1 =>
castBool v1 fun x8 =>
cB (x6 == x8) (
bind1 (er (.faddr 1 (.c a4)) h_1) fun x11 =>
bind1 (er (.load1 (.c x11)) h_1) fun x12 =>
bind1 (er (.faddr 1 (.c b4)) h_1) fun x13 =>
bind1 (er (.load1 (.c x13)) h_1) fun x14 =>
bind2 (F73 lf x12 x14 h_1) fun v2 h_2 =>
castBool v2 fun x15 =>
cB x15 (
bind1 (er (.faddr 2 (.c a4)) h_2) fun x18 =>
bind1 (er (.load1 (.c x18)) h_2) fun x19 =>
bind1 (er (.faddr 2 (.c b4)) h_2) fun x20 =>
bind1 (er (.load1 (.c x20)) h_2) fun x21 =>
bind2 (F73 lf x19 x21 h_2) fun v3 h_3 =>
castBool v3 fun x22 =>
cB x22 (
bind1 (er (.faddr 3 (.c a4)) h_3) fun x25 =>
bind1 (er (.load1 (.c x25)) h_3) fun x26 =>
bind1 (er (.faddr 3 (.c b4)) h_3) fun x27 =>
bind1 (er (.load1 (.c x27)) h_3) fun x28 =>
bind2 (F74 lf x26 x28 h_3) fun v4 h_4 =>
castBool v4 fun x29 =>
some ((.bool x29), h_4)) (
some ((.bool false), h_3))) (
some ((.bool false), h_2))) (
some ((.bool false), h_1))
theorem F48_eq (lf : Nat) (a : Bool) (a1 : V) (a2 : V) (a3 : V) (b : Bool) (b1 : V) (b2 : V) (b3 : V) (h : List Ob) : evCK A48 ⟨call48 lf, cvN, subN⟩ k48 (entryK [(.agg [(.bool a), a1, a2, a3]), (.agg [(.bool b), b1, b2, b3])]) h (endF c48.res) = F48 lf a a1 a2 a3 b b1 b2 b3 h := by kernel_rfl
theorem F48_ok (lf : Nat) (a : Bool) (a1 : V) (a2 : V) (a3 : V) (b : Bool) (b1 : V) (b2 : V) (b3 : V) (h : List Ob) (r_ : V) (h_r : List Ob) (e_ : F48 lf a a1 a2 a3 b b1 b2 b3 h = some (r_, h_r)) : CD Go.Proofs.Try.prog 48 [(.agg [(.bool a), a1, a2, a3]), (.agg [(.bool b), b1, b2, b3])] h r_ h_r :=
  CD.ofK (A := A48) (σ := ⟨call48 lf, cvN, subN⟩) (c := k48) Go.Proofs.Try.func48 ok48 en48 (show 2 ≤ 31 by decide) (by kernel_rfl) (call48_ok lf) cvN_ok (And.intro True.intro (And.intro True.intro True.intro)) ((F48_eq lf a a1 a2 a3 b b1 b2 b3 h).trans e_)
def w48 (f : Bool → V → V → V → Bool → V → V → V → List Ob → Option (V × List Ob)) (vs : List V) (h : List Ob) : Option (V × List Ob) := castCons vs fun c1 l1 => castAgg c1 fun n2 => castCons n2 fun c3 l3 => castBool c3 fun n4 => castCons l3 fun c5 l5 => castCons l5 fun c6 l6 => castCons l6 fun c7 l7 => castNil l7 (castCons l1 fun c8 l8 => castAgg c8 fun n9 => castCons n9 fun c10 l10 => castBool c10 fun n11 => castCons l10 fun c12 l12 => castCons l12 fun c13 l13 => castCons l13 fun c14 l14 => castNil l14 (castNil l8 (f n4 c5 c6 c7 n11 c12 c13 c14 h)))
noncomputable def W48 (lf : Nat) : List V → List Ob → Option (V × List Ob) := w48 (F48 lf)
theorem W48_ok (lf : Nat) : ∀ args h v h', W48 lf args h = some (v, h') → CD Go.Proofs.Try.prog 48 args h v h' := by
  intro vs h r h' e0
  simp only [W48, w48] at e0
  obtain ⟨c1, l1, rfl, e1⟩ := castCons_inv e0
  obtain ⟨l2, rfl, e2⟩ := castAgg_inv e1
  obtain ⟨c3, l3, rfl, e3⟩ := castCons_inv e2
  obtain ⟨y0, rfl, e4⟩ := castBool_inv e3
  obtain ⟨c4, l4, rfl, e5⟩ := castCons_inv e4
  obtain ⟨c5, l5, rfl, e6⟩ := castCons_inv e5
  obtain ⟨c6, l6, rfl, e7⟩ := castCons_inv e6
  obtain ⟨rfl, e8⟩ := castNil_inv e7
  obtain ⟨c7, l7, rfl, e9⟩ := castCons_inv e8
  obtain ⟨l8, rfl, e10⟩ := castAgg_inv e9
  obtain ⟨c9, l9, rfl, e11⟩ := castCons_inv e10
  obtain ⟨y4, rfl, e12⟩ := castBool_inv e11
  obtain ⟨c10, l10, rfl, e13⟩ := castCons_inv e12
  obtain ⟨c11, l11, rfl, e14⟩ := castCons_inv e13
  obtain ⟨c12, l12, rfl, e15⟩ := castCons_inv e14
  obtain ⟨rfl, e16⟩ := castNil_inv e15
  obtain ⟨rfl, e17⟩ := castNil_inv e16
  have e := e17
  exact F48_ok lf y0 c4 c5 c6 y4 c10 c11 c12 h r h' e

end Go.Proofs.Ytdcdmpgigmhhpaa.Nd
