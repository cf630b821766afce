/- Functions of the program as Lean functions, and that each call comes to what its function says. Printed by my own tool. No condition. -/
import Derived.Test.YtdcdmpgigmhhpaaRc
import Derived.Test.YtdcdmpgigmhhpaaE36
import Derived.Test.YtdcdmpgigmhhpaaVas
namespace Go.Proofs.Ytdcdmpgigmhhpaa.Rc
open Go Go.Proofs.Ytdcdmpgigmhhpaa.E
open Go.Proofs.Ytdcdmpgigmhhpaa.Va
set_option maxRecDepth 100000
set_option linter.unusedVariables false
set_option linter.unusedSimpArgs false

/-! 80: slices.IndexFunc[[]wainscot/api.Value,wainscot/api.Value] -/
def A80 : List (Nat × Sh) := [(4, (.int .i64)), (5, (.int .i64)), (7, (.int .i64)), (8, (.int .i64)), (9, .bool), (10, (.int .i64)), (13, (.int .i64)), (15, (.agg [(.int .i64), (.int .i64), .str])), (16, .bool), (17, (.int .i64)), (18, (.int .i64))]
noncomputable def call80 (lf : Nat) (cv : CallVS) : CallS := callN
theorem call80_ok (lf : Nat) (cv : CallVS) (hcv : CvOk Go.Proofs.Try.prog cv) : CallOk Go.Proofs.Try.prog (call80 lf cv) := callN_ok
def o80_0 : Outs := [((.exit 0), [], []), (.ret, [4], [(.int .i64)])]
def k80_0 : KC := (.seq (.reg [⟨(some 9), none, (.op (.bin .lss (.t 8) (.t 7))), []⟩]) (.seq (.cond (.t 9) .skip (.exit 0)) (.seq (.block 1 (.seq (.reg [⟨(some 10), none, (.op (.mv (.t 8))), []⟩, ⟨(some 5), none, (.op (.mv (.t 10))), []⟩]) (.seq (.reg [⟨(some 11), none, (.op (.mv (.t 1))), []⟩, ⟨(some 12), none, (.op (.mv (.t 0))), []⟩, ⟨(some 13), none, (.op (.mv (.t 5))), []⟩, ⟨(some 14), none, (.op (.iaddrL 3 (.t 12) (.t 13))), []⟩, ⟨(some 15), none, (.op (.loadN 3 (.t 14))), []⟩, ⟨(some 16), none, (.callv (.t 11) [(.t 15)]), []⟩]) (.cond (.t 16) (.seq (.reg [⟨(some 17), none, (.op (.mv (.t 5))), []⟩, ⟨(some 4), none, (.op (.mv (.t 17))), []⟩]) .ret) .skip)))) (.reg [⟨(some 18), none, (.op (.bin .add (.t 8) (.c (.int .i64 1)))), []⟩, ⟨(some 8), none, (.op (.mv (.t 18))), []⟩]))))
def w80_0 (f : V → V → Int → Int → List Ob → SubR) (vs : List V) (h : List Ob) : SubR := castCons vs fun c1 l1 => castCons l1 fun c2 l2 => castCons l2 fun c3 l3 => castInt .i64 c3 fun n4 => castCons l3 fun c5 l5 => castInt .i64 c5 fun n6 => castNil l5 (f c1 c2 n4 n6 h)
noncomputable def B80_0 (lf : Nat) (cv : CallVS) (self : V → V → Int → Int → List Ob → SubR) (s : V) (f : V) (x7 : Int) (x8 : Int) (h : List Ob) : SubR :=
cB (decide (x8 < x7)) (
bind1 (er (.iaddrL 3 (.c s) (.c (.int .i64 x8))) h) fun x14 =>
bind1 (er (.loadN 3 (.c x14)) h) fun v =>
castAgg v fun l =>
castCons l fun c l1 =>
castInt .i64 c fun x15_0 =>
castCons l1 fun c1 l2 =>
castInt .i64 c1 fun x15_1 =>
castCons l2 fun c2 l3 =>
castStr c2 fun x15_2 =>
castNil l3 (
bind2 (cv f [(.agg [(.int .i64 x15_0), (.int .i64 x15_1), (.str x15_2)])] h) fun v1 h_ =>
castBool v1 fun x16 =>
cB x16 (
some (.ret, [(.int .i64 x8)], h_)) (
self s f x7 (IntKind.i64.wrap (x8 + (1))) h_))) (
some ((.exit 0), [], h))
noncomputable def L80_0 (lf : Nat) (cv : CallVS) : Nat → V → V → Int → Int → List Ob → SubR
  | 0 => fun _ _ _ _ _ => none
  | n + 1 => B80_0 lf cv (L80_0 lf cv n)
theorem B80_0_eq (lf : Nat) (cv : CallVS) (self : V → V → Int → Int → List Ob → SubR) (s : V) (f : V) (x7 : Int) (x8 : Int) (h : List Ob) : evCK A80 ⟨call80 lf cv, cv, subN⟩ k80_0 [(0, s), (1, f), (7, (.int .i64 x7)), (8, (.int .i64 x8))] h (endL [0, 1, 7, 8] [.any, .any, (.int .i64), (.int .i64)] o80_0 (w80_0 self)) = B80_0 lf cv self s f x7 x8 h := by kernel_rfl
theorem L80_0_ok (lf : Nat) (cv : CallVS) (hcv : CvOk Go.Proofs.Try.prog cv) : ∀ n, SubOk Go.Proofs.Try.prog (.loop k80_0.er) [0, 1, 7, 8] o80_0 (w80_0 (L80_0 lf cv n)) := by
  refine SubOk.loop (A := A80) (σ := ⟨call80 lf cv, cv, subN⟩) (c := k80_0) (shs := [.any, .any, (.int .i64), (.int .i64)]) (G := fun n => w80_0 (L80_0 lf cv n)) (call80_ok lf cv hcv) hcv (And.intro True.intro (And.intro (And.intro True.intro True.intro) (And.intro (And.intro True.intro (And.intro True.intro (And.intro (And.intro True.intro True.intro) True.intro))) True.intro))) ?_ ?_
  · intro vs h r e0
    simp only [w80_0] at e0
    obtain ⟨c1, l1, rfl, e1⟩ := castCons_inv e0
    obtain ⟨c2, l2, rfl, e2⟩ := castCons_inv e1
    obtain ⟨c3, l3, rfl, e3⟩ := castCons_inv e2
    obtain ⟨y2, rfl, e4⟩ := castInt_inv e3
    obtain ⟨c4, l4, rfl, e5⟩ := castCons_inv e4
    obtain ⟨y3, rfl, e6⟩ := castInt_inv e5
    obtain ⟨rfl, e7⟩ := castNil_inv e6
    have e := e7
    cases e
  · intro n vs h r e0
    simp only [w80_0] at e0
    obtain ⟨c1, l1, rfl, e1⟩ := castCons_inv e0
    obtain ⟨c2, l2, rfl, e2⟩ := castCons_inv e1
    obtain ⟨c3, l3, rfl, e3⟩ := castCons_inv e2
    obtain ⟨y2, rfl, e4⟩ := castInt_inv e3
    obtain ⟨c4, l4, rfl, e5⟩ := castCons_inv e4
    obtain ⟨y3, rfl, e6⟩ := castInt_inv e5
    obtain ⟨rfl, e7⟩ := castNil_inv e6
    have e := e7
    exact (B80_0_eq lf cv (L80_0 lf cv n) c1 c2 y2 y3 h).trans e
def k80 : KC := (.seq (.reg [⟨(some 4), none, (.op (.mv (.c (.int .i64 0)))), []⟩]) (.seq (.seq (.reg [⟨(some 6), none, (.op (.mv (.t 0))), []⟩, ⟨(some 7), none, (.op (.lenL (.t 6))), []⟩, ⟨(some 8), none, (.op (.mv (.c (.int .i64 0)))), []⟩]) (.block 0 (.sub 0 (.loop k80_0.er) [0, 1, 7, 8] o80_0))) (.seq (.reg [⟨(some 4), none, (.op (.mv (.c (.int .i64 (-0 - 1))))), []⟩]) .ret)))
noncomputable def F80 (lf : Nat) (cv : CallVS) (s : V) (f : V) (h : List Ob) : Option (V × List Ob) :=
bind1 (er (.lenL (.c s)) h) fun v =>
castInt .i64 v fun x7 =>
bind3 (L80_0 lf cv lf s f x7 (0) h) fun ex vs h_ =>
cB (decide (ex = (.exit 0))) (
castNil vs (
some ((.int .i64 (-1)), h_))) (
cB (decide (ex = .ret)) (
castCons vs fun c l =>
castInt .i64 c fun x4 =>
castNil l (
some ((.int .i64 x4), h_))) (
none))
theorem F80_eq (lf : Nat) (cv : CallVS) (s : V) (f : V) (h : List Ob) : evCK A80 ⟨call80 lf cv, cv, subC 0 (w80_0 (L80_0 lf cv lf)) (subN)⟩ k80 (entryK [s, f]) h (endF c80.res) = F80 lf cv s f h := by kernel_rfl
theorem F80_ok (lf : Nat) (cv : CallVS) (hcv : CvOk Go.Proofs.Try.prog cv) (s : V) (f : V) (h : List Ob) (r_ : V) (h_r : List Ob) (e_ : F80 lf cv s f h = some (r_, h_r)) : CD Go.Proofs.Try.prog 80 [s, f] h r_ h_r :=
  CD.ofK (A := A80) (σ := ⟨call80 lf cv, cv, subC 0 (w80_0 (L80_0 lf cv lf)) (subN)⟩) (c := k80) Go.Proofs.Try.func80 ok80 en80 (show 2 ≤ 19 by decide) (by kernel_rfl) (call80_ok lf cv hcv) hcv (And.intro True.intro (And.intro (And.intro True.intro (L80_0_ok lf cv hcv lf)) (And.intro True.intro True.intro))) ((F80_eq lf cv s f h).trans e_)
def w80 (f : V → V → List Ob → Option (V × List Ob)) (vs : List V) (h : List Ob) : Option (V × List Ob) := castCons vs fun c1 l1 => castCons l1 fun c2 l2 => castNil l2 (f c1 c2 h)
noncomputable def W80 (lf : Nat) (cv : CallVS) : List V → List Ob → Option (V × List Ob) := w80 (F80 lf cv)
theorem W80_ok (lf : Nat) (cv : CallVS) (hcv : CvOk Go.Proofs.Try.prog cv) : ∀ args h v h', W80 lf cv args h = some (v, h') → CD Go.Proofs.Try.prog 80 args h v h' := by
  intro vs h r h' e0
  simp only [W80, w80] at e0
  obtain ⟨c1, l1, rfl, e1⟩ := castCons_inv e0
  obtain ⟨c2, l2, rfl, e2⟩ := castCons_inv e1
  obtain ⟨rfl, e3⟩ := castNil_inv e2
  have e := e3
  exact F80_ok lf cv hcv c1 c2 h r h' e

/-! 58: slices.ContainsFunc[[]wainscot/api.Value,wainscot/api.Value] -/
def A58 : List (Nat × Sh) := [(4, .bool), (7, (.int .i64)), (8, .bool)]
noncomputable def call58 (lf : Nat) (cv : CallVS) : CallS := callC 80 (W80 lf cv) (callN)
theorem call58_ok (lf : Nat) (cv : CallVS) (hcv : CvOk Go.Proofs.Try.prog cv) : CallOk Go.Proofs.Try.prog (call58 lf cv) := callC_ok (W80_ok lf cv hcv) (callN_ok)
def k58 : KC := (.seq (.reg [⟨(some 4), none, (.op (.mv (.c (.bool false)))), []⟩]) (.seq (.reg [⟨(some 5), none, (.op (.mv (.t 0))), []⟩, ⟨(some 6), none, (.op (.mv (.t 1))), []⟩, ⟨(some 7), none, (.call 80 [(.t 5), (.t 6)]), []⟩, ⟨(some 8), none, (.op (.bin .geq (.t 7) (.c (.int .i64 0)))), []⟩, ⟨(some 4), none, (.op (.mv (.t 8))), []⟩]) .ret))
noncomputable def F58 (lf : Nat) (cv : CallVS) (s : V) (f : V) (h : List Ob) : Option (V × List Ob) :=
bind2 (F80 lf cv s f h) fun v h_ =>
castInt .i64 v fun x7 =>
some ((.bool (decide (x7 ≥ (0)))), h_)
theorem F58_eq (lf : Nat) (cv : CallVS) (s : V) (f : V) (h : List Ob) : evCK A58 ⟨call58 lf cv, cv, subN⟩ k58 (entryK [s, f]) h (endF c58.res) = F58 lf cv s f h := by kernel_rfl
theorem F58_ok (lf : Nat) (cv : CallVS) (hcv : CvOk Go.Proofs.Try.prog cv) (s : V) (f : V) (h : List Ob) (r_ : V) (h_r : List Ob) (e_ : F58 lf cv s f h = some (r_, h_r)) : CD Go.Proofs.Try.prog 58 [s, f] h r_ h_r :=
  CD.ofK (A := A58) (σ := ⟨call58 lf cv, cv, subN⟩) (c := k58) Go.Proofs.Try.func58 ok58 en58 (show 2 ≤ 9 by decide) (by kernel_rfl) (call58_ok lf cv hcv) hcv (And.intro True.intro (And.intro True.intro True.intro)) ((F58_eq lf cv s f h).trans e_)
def w58 (f : V → V → List Ob → Option (V × List Ob)) (vs : List V) (h : List Ob) : Option (V × List Ob) := castCons vs fun c1 l1 => castCons l1 fun c2 l2 => castNil l2 (f c1 c2 h)
noncomputable def W58 (lf : Nat) (cv : CallVS) : List V → List Ob → Option (V × List Ob) := w58 (F58 lf cv)
theorem W58_ok (lf : Nat) (cv : CallVS) (hcv : CvOk Go.Proofs.Try.prog cv) : ∀ args h v h', W58 lf cv args h = some (v, h') → CD Go.Proofs.Try.prog 58 args h v h' := by
  intro vs h r h' e0
  simp only [W58, w58] at e0
  obtain ⟨c1, l1, rfl, e1⟩ := castCons_inv e0
  obtain ⟨c2, l2, rfl, e2⟩ := castCons_inv e1
  obtain ⟨rfl, e3⟩ := castNil_inv e2
  have e := e3
  exact F58_ok lf cv hcv c1 c2 h r h' e

/-! 60: wainscot/value.Formed -/
def A60 : List (Nat × Sh) := [(0, (.agg [(.int .i64), (.int .i64), .str])), (2, .bool), (4, (.int .i64)), (5, .bool), (6, .bool), (7, (.agg [(.int .i64), (.int .i64), .str])), (8, (.agg [(.int .i64), (.int .i64), .str])), (9, .bool), (10, .bool), (11, .bool), (13, .str), (14, .bool), (15, .bool), (16, .bool), (18, (.int .i64)), (19, .bool), (20, .bool), (22, .str), (23, (.int .i64)), (24, .bool), (25, .bool)]
noncomputable def call60 (lf : Nat) : CallS := callN
theorem call60_ok (lf : Nat) : CallOk Go.Proofs.Try.prog (call60 lf) := callN_ok
def k60 : KC := (.seq (.reg [⟨(some 1), none, (.op (.box false (.t 0))), []⟩, ⟨(some 2), none, (.op (.mv (.c (.bool false)))), []⟩]) (.seq (.seq (.reg [⟨(some 3), none, (.op (.faddr 0 (.t 1))), []⟩, ⟨(some 4), none, (.op (.load1 (.t 3))), []⟩]) (.block 0 (.seq (.reg [⟨(some 6), none, (.op (.bin .eql (.t 4) (.c (.int .i64 0)))), []⟩, ⟨(some 5), none, (.op (.mv (.t 6))), []⟩]) (.cond (.t 5) (.seq (.reg [⟨(some 7), none, (.op (.loadN 3 (.t 1))), []⟩, ⟨(some 8), none, (.op (.build [(.int .i64 0), (.int .i64 0), (.str [])] [])), []⟩, ⟨(some 9), none, (.op (.eq false (.struct 3 [(0, .i), (1, .i), (2, .s)]) (.t 7) (.t 8))), []⟩, ⟨(some 2), none, (.op (.mv (.t 9))), []⟩]) .ret) (.seq (.reg [⟨(some 11), none, (.op (.bin .eql (.t 4) (.c (.int .i64 1)))), []⟩, ⟨(some 10), none, (.op (.mv (.t 11))), []⟩]) (.cond (.t 10) (.seq (.reg [⟨(some 12), none, (.op (.faddr 2 (.t 1))), []⟩, ⟨(some 13), none, (.op (.load1 (.t 12))), []⟩, ⟨(some 14), none, (.op (.bin .eql (.t 13) (.c (.str [])))), []⟩, ⟨(some 2), none, (.op (.mv (.t 14))), []⟩]) .ret) (.seq (.reg [⟨(some 16), none, (.op (.bin .eql (.t 4) (.c (.int .i64 2)))), []⟩, ⟨(some 15), none, (.op (.mv (.t 16))), []⟩]) (.cond (.t 15) (.seq (.reg [⟨(some 17), none, (.op (.faddr 1 (.t 1))), []⟩, ⟨(some 18), none, (.op (.load1 (.t 17))), []⟩, ⟨(some 19), none, (.op (.bin .eql (.t 18) (.c (.int .i64 0)))), []⟩, ⟨(some 20), none, (.op (.mv (.t 19))), []⟩, ⟨(some 21), (some (20, true)), (.op (.faddr 2 (.t 1))), []⟩, ⟨(some 22), (some (20, true)), (.op (.load1 (.t 21))), []⟩, ⟨(some 23), (some (20, true)), (.op (.lenS (.t 22))), []⟩, ⟨(some 24), (some (20, true)), (.op (.bin .leq (.t 23) (.c (.int .i64 100)))), []⟩, ⟨(some 25), none, (.op (.pick (.t 20) (.t 24) (.c (.bool false)))), []⟩, ⟨(some 2), none, (.op (.mv (.t 25))), []⟩]) .ret) .skip)))))))) (.seq (.reg [⟨(some 2), none, (.op (.mv (.c (.bool false)))), []⟩]) .ret)))
noncomputable def F60 (lf : Nat) (v : Int) (v1 : Int) (v2 : List UInt8) (h : List Ob) : Option (V × List Ob) :=
bind2 (ev (.box false (.c (.agg [(.int .i64 v), (.int .i64 v1), (.str v2)]))) h) fun v3 h_ =>
bind1 (er (.faddr 0 (.c v3)) h_) fun x3 =>
bind1 (er (.load1 (.c x3)) h_) fun v4 =>
castInt .i64 v4 fun x4 =>
cB (x4 == (0)) (
bind1 (er (.loadN 3 (.c v3)) h_) fun v5 =>
castAgg v5 fun l =>
castCons l fun c l1 =>
castInt .i64 c fun x7_0 =>
castCons l1 fun c1 l2 =>
castInt .i64 c1 fun x7_1 =>
castCons l2 fun c2 l3 =>
castStr c2 fun x7_2 =>
castNil l3 (
bind1 (er (.build [(.int .i64 0), (.int .i64 0), (.str [])] []) h_) fun v6 =>
castAgg v6 fun l4 =>
castCons l4 fun c3 l5 =>
castInt .i64 c3 fun x8_0 =>
castCons l5 fun c4 l6 =>
castInt .i64 c4 fun x8_1 =>
castCons l6 fun c5 l7 =>
castStr c5 fun x8_2 =>
castNil l7 (
bind1 (er (.eq false (.struct 3 [(0, .i), (1, .i), (2, .s)]) (.c (.agg [(.int .i64 x7_0), (.int .i64 x7_1), (.str x7_2)])) (.c (.agg [(.int .i64 x8_0), (.int .i64 x8_1), (.str x8_2)]))) h_) fun v7 =>
castBool v7 fun x9 =>
some ((.bool x9), h_)))) (
cB (x4 == (1)) (
bind1 (er (.faddr 2 (.c v3)) h_) fun x12 =>
bind1 (er (.load1 (.c x12)) h_) fun v5 =>
castStr v5 fun x13 =>
some ((.bool (x13 == ([] : List UInt8))), h_)) (
cB (x4 == (2)) (
bind1 (er (.faddr 1 (.c v3)) h_) fun x17 =>
bind1 (er (.load1 (.c x17)) h_) fun v5 =>
castInt .i64 v5 fun x18 =>
cB (x18 == (0)) (
bind1 (er (.faddr 2 (.c v3)) h_) fun x21 =>
bind1 (er (.load1 (.c x21)) h_) fun v6 =>
castStr v6 fun x22 =>
some ((.bool (decide (((x22).length : Int) ≤ (100)))), h_)) (
some ((.bool false), h_))) (
some ((.bool false), h_))))
theorem F60_eq (lf : Nat) (v : Int) (v1 : Int) (v2 : List UInt8) (h : List Ob) : evCK A60 ⟨call60 lf, cvN, subN⟩ k60 (entryK [(.agg [(.int .i64 v), (.int .i64 v1), (.str v2)])]) h (endF c60.res) = F60 lf v v1 v2 h := by kernel_rfl
theorem F60_ok (lf : Nat) (v : Int) (v1 : Int) (v2 : List UInt8) (h : List Ob) (r_ : V) (h_r : List Ob) (e_ : F60 lf v v1 v2 h = some (r_, h_r)) : CD Go.Proofs.Try.prog 60 [(.agg [(.int .i64 v), (.int .i64 v1), (.str v2)])] h r_ h_r :=
  CD.ofK (A := A60) (σ := ⟨call60 lf, cvN, subN⟩) (c := k60) Go.Proofs.Try.func60 ok60 en60 (show 1 ≤ 26 by decide) (by kernel_rfl) (call60_ok lf) cvN_ok (And.intro True.intro (And.intro (And.intro True.intro (And.intro True.intro (And.intro (And.intro True.intro True.intro) (And.intro True.intro (And.intro (And.intro True.intro True.intro) (And.intro True.intro (And.intro (And.intro True.intro True.intro) True.intro))))))) (And.intro True.intro True.intro))) ((F60_eq lf v v1 v2 h).trans e_)
def w60 (f : Int → Int → List UInt8 → List Ob → Option (V × List Ob)) (vs : List V) (h : List Ob) : Option (V × List Ob) := castCons vs fun c1 l1 => castAgg c1 fun n2 => castCons n2 fun c3 l3 => castInt .i64 c3 fun n4 => castCons l3 fun c5 l5 => castInt .i64 c5 fun n6 => castCons l5 fun c7 l7 => castStr c7 fun n8 => castNil l7 (castNil l1 (f n4 n6 n8 h))
noncomputable def W60 (lf : Nat) : List V → List Ob → Option (V × List Ob) := w60 (F60 lf)
theorem W60_ok (lf : Nat) : ∀ args h v h', W60 lf args h = some (v, h') → CD Go.Proofs.Try.prog 60 args h v h' := by
  intro vs h r h' e0
  simp only [W60, w60] at e0
  obtain ⟨c1, l1, rfl, e1⟩ := castCons_inv e0
  obtain ⟨l2, rfl, e2⟩ := castAgg_inv e1
  obtain ⟨c3, l3, rfl, e3⟩ := castCons_inv e2
  obtain ⟨y0, rfl, e4⟩ := castInt_inv e3
  obtain ⟨c4, l4, rfl, e5⟩ := castCons_inv e4
  obtain ⟨y1, rfl, e6⟩ := castInt_inv e5
  obtain ⟨c5, l5, rfl, e7⟩ := castCons_inv e6
  obtain ⟨y2, rfl, e8⟩ := castStr_inv e7
  obtain ⟨rfl, e9⟩ := castNil_inv e8
  obtain ⟨rfl, e10⟩ := castNil_inv e9
  have e := e10
  exact F60_ok lf y0 y1 y2 h r h' e

/-! 59: wainscot/record.Encode$1 -/
def A59 : List (Nat × Sh) := [(0, (.agg [(.int .i64), (.int .i64), .str])), (2, .bool), (3, (.agg [(.int .i64), (.int .i64), .str])), (4, .bool), (5, .bool)]
noncomputable def call59 (lf : Nat) : CallS := callC 60 (W60 lf) (callN)
theorem call59_ok (lf : Nat) : CallOk Go.Proofs.Try.prog (call59 lf) := callC_ok (W60_ok lf) (callN_ok)
def k59 : KC := (.seq (.reg [⟨(some 1), none, (.op (.box false (.t 0))), []⟩, ⟨(some 2), none, (.op (.mv (.c (.bool false)))), []⟩]) (.seq (.reg [⟨(some 3), none, (.op (.loadN 3 (.t 1))), []⟩, ⟨(some 4), none, (.call 60 [(.t 3)]), []⟩, ⟨(some 5), none, (.op (.un .not (.t 4))), []⟩, ⟨(some 2), none, (.op (.mv (.t 5))), []⟩]) .ret))
noncomputable def F59 (lf : Nat) (v : Int) (v1 : Int) (v2 : List UInt8) (h : List Ob) : Option (V × List Ob) :=
bind2 (ev (.box false (.c (.agg [(.int .i64 v), (.int .i64 v1), (.str v2)]))) h) fun v3 h_ =>
bind1 (er (.loadN 3 (.c v3)) h_) fun v4 =>
castAgg v4 fun l =>
castCons l fun c l1 =>
castInt .i64 c fun x3_0 =>
castCons l1 fun c1 l2 =>
castInt .i64 c1 fun x3_1 =>
castCons l2 fun c2 l3 =>
castStr c2 fun x3_2 =>
castNil l3 (
bind2 (F60 lf x3_0 x3_1 x3_2 h_) fun v5 h_1 =>
castBool v5 fun x4 =>
some ((.bool (!x4)), h_1))
theorem F59_eq (lf : Nat) (v : Int) (v1 : Int) (v2 : List UInt8) (h : List Ob) : evCK A59 ⟨call59 lf, cvN, subN⟩ k59 (entryK [(.agg [(.int .i64 v), (.int .i64 v1), (.str v2)])]) h (endF c59.res) = F59 lf v v1 v2 h := by kernel_rfl
theorem F59_ok (lf : Nat) (v : Int) (v1 : Int) (v2 : List UInt8) (h : List Ob) (r_ : V) (h_r : List Ob) (e_ : F59 lf v v1 v2 h = some (r_, h_r)) : CD Go.Proofs.Try.prog 59 [(.agg [(.int .i64 v), (.int .i64 v1), (.str v2)])] h r_ h_r :=
  CD.ofK (A := A59) (σ := ⟨call59 lf, cvN, subN⟩) (c := k59) Go.Proofs.Try.func59 ok59 en59 (show 1 ≤ 6 by decide) (by kernel_rfl) (call59_ok lf) cvN_ok (And.intro True.intro (And.intro True.intro True.intro)) ((F59_eq lf v v1 v2 h).trans e_)
def w59 (f : Int → Int → List UInt8 → List Ob → Option (V × List Ob)) (vs : List V) (h : List Ob) : Option (V × List Ob) := castCons vs fun c1 l1 => castAgg c1 fun n2 => castCons n2 fun c3 l3 => castInt .i64 c3 fun n4 => castCons l3 fun c5 l5 => castInt .i64 c5 fun n6 => castCons l5 fun c7 l7 => castStr c7 fun n8 => castNil l7 (castNil l1 (f n4 n6 n8 h))
noncomputable def W59 (lf : Nat) : List V → List Ob → Option (V × List Ob) := w59 (F59 lf)
theorem W59_ok (lf : Nat) : ∀ args h v h', W59 lf args h = some (v, h') → CD Go.Proofs.Try.prog 59 args h v h' := by
  intro vs h r h' e0
  simp only [W59, w59] at e0
  obtain ⟨c1, l1, rfl, e1⟩ := castCons_inv e0
  obtain ⟨l2, rfl, e2⟩ := castAgg_inv e1
  obtain ⟨c3, l3, rfl, e3⟩ := castCons_inv e2
  obtain ⟨y0, rfl, e4⟩ := castInt_inv e3
  obtain ⟨c4, l4, rfl, e5⟩ := castCons_inv e4
  obtain ⟨y1, rfl, e6⟩ := castInt_inv e5
  obtain ⟨c5, l5, rfl, e7⟩ := castCons_inv e6
  obtain ⟨y2, rfl, e8⟩ := castStr_inv e7
  obtain ⟨rfl, e9⟩ := castNil_inv e8
  obtain ⟨rfl, e10⟩ := castNil_inv e9
  have e := e10
  exact F59_ok lf y0 y1 y2 h r h' e

/-! 37: wainscot/record.Encode -/
def A37 : List (Nat × Sh) := [(3, (.int .i64)), (8, .bool), (10, (.int .i64)), (11, (.int .u64)), (14, (.int .i64)), (15, (.int .i64)), (16, .bool), (18, (.agg [(.int .i64), (.int .i64), .str])), (21, (.int .i64)), (22, (.int .u8)), (26, (.int .i64)), (27, .bool), (28, .bool), (31, (.int .i64)), (33, .bool), (34, .bool), (37, .str), (38, (.int .i64)), (39, (.int .u64)), (42, .str), (45, (.int .i64)), (46, .bool), (47, (.int .i64))]
noncomputable def cv37 (lf : Nat) : CallVS := cvC 59 (W59 lf) (cvN)
theorem cv37_ok (lf : Nat) : CvOk Go.Proofs.Try.prog (cv37 lf) := cvC_ok (W59_ok lf) (cvN_ok)
noncomputable def call37 (lf : Nat) : CallS := callC 58 (W58 lf (cv37 lf)) (callC 29 (W29 lf) (callC 26 (W26 lf) (callN)))
theorem call37_ok (lf : Nat) : CallOk Go.Proofs.Try.prog (call37 lf) := callC_ok (W58_ok lf (cv37 lf) (cv37_ok lf)) (callC_ok (W29_ok lf) (callC_ok (W26_ok lf) (callN_ok)))
def o37_0 : Outs := [(.normal, [4], [.any])]
def k37_0 : KC := (.seq (.reg [⟨(some 25), none, (.op (.faddr 0 (.t 6))), []⟩, ⟨(some 26), none, (.op (.load1 (.t 25))), []⟩]) (.block 2 (.seq (.reg [⟨(some 28), none, (.op (.bin .eql (.t 26) (.c (.int .i64 1)))), []⟩, ⟨(some 27), none, (.op (.mv (.t 28))), []⟩]) (.cond (.t 27) (.reg [⟨(some 29), none, (.op (.mv (.t 4))), []⟩, ⟨(some 30), none, (.op (.faddr 1 (.t 6))), []⟩, ⟨(some 31), none, (.op (.load1 (.t 30))), []⟩, ⟨(some 32), none, (.call 29 [(.t 29), (.t 31)]), []⟩, ⟨(some 4), none, (.op (.mv (.t 32))), []⟩]) (.seq (.reg [⟨(some 34), none, (.op (.bin .eql (.t 26) (.c (.int .i64 2)))), []⟩, ⟨(some 33), none, (.op (.mv (.t 34))), []⟩]) (.cond (.t 33) (.reg [⟨(some 35), none, (.op (.mv (.t 4))), []⟩, ⟨(some 36), none, (.op (.faddr 2 (.t 6))), []⟩, ⟨(some 37), none, (.op (.load1 (.t 36))), []⟩, ⟨(some 38), none, (.op (.lenS (.t 37))), []⟩, ⟨(some 39), none, (.op (.toInt .u64 (.t 38))), []⟩, ⟨(some 41), none, (.op (.faddr 2 (.t 6))), []⟩, ⟨(some 42), none, (.op (.load1 (.t 41))), []⟩, ⟨(some 40), none, (.call 26 [(.t 35), (.t 39)]), [⟨(some 42), none, (.op (.load1 (.t 41)))⟩, ⟨(some 41), none, (.op (.faddr 2 (.t 6)))⟩]⟩, ⟨(some 43), none, (.op (.app 1 1 (.t 40) (.t 42))), []⟩, ⟨(some 4), none, (.op (.mv (.t 43))), []⟩]) .skip))))))
def w37_0 (f : V → V → List Ob → SubR) (vs : List V) (h : List Ob) : SubR := castCons vs fun c1 l1 => castCons l1 fun c2 l2 => castNil l2 (f c1 c2 h)
noncomputable def S37_0 (lf : Nat) (b : V) (v : V) (h : List Ob) : SubR :=
bind1 (er (.faddr 0 (.c v)) h) fun x25 =>
bind1 (er (.load1 (.c x25)) h) fun v1 =>
castInt .i64 v1 fun x26 =>
cB (x26 == (1)) (
bind1 (er (.faddr 1 (.c v)) h) fun x30 =>
bind1 (er (.load1 (.c x30)) h) fun v2 =>
castInt .i64 v2 fun x31 =>
bind2 (F29 lf b x31 h) fun x32 h_ =>
some (.normal, [x32], h_)) (
cB (x26 == (2)) (
bind1 (er (.faddr 2 (.c v)) h) fun x36 =>
bind1 (er (.load1 (.c x36)) h) fun v2 =>
castStr v2 fun x37 =>
bind1 (er (.faddr 2 (.c v)) h) fun x41 =>
bind1 (er (.load1 (.c x41)) h) fun v3 =>
castStr v3 fun x42 =>
bind2 (F26 lf b (IntKind.u64.wrap ((x37).length : Int)) h) fun x40 h_ =>
reP (er (.load1 (.c x41)) h_ = some (.str x42)) (
reP (er (.faddr 2 (.c v)) h_ = some x41) (
bind2 (ev (.app 1 1 (.c x40) (.c (.str x42))) h_) fun x43 h_1 =>
some (.normal, [x43], h_1)))) (
some (.normal, [b], h)))
theorem S37_0_eq (lf : Nat) (b : V) (v : V) (h : List Ob) : evCK A37 ⟨call37 lf, (cv37 lf), subN⟩ k37_0 [(4, b), (6, v)] h (endK o37_0) = S37_0 lf b v h := by kernel_rfl
theorem S37_0_ok (lf : Nat) : SubOk Go.Proofs.Try.prog k37_0.er [4, 6] o37_0 (w37_0 (S37_0 lf)) := by
  refine SubOk.of (A := A37) (σ := ⟨call37 lf, (cv37 lf), subN⟩) (c := k37_0) (call37_ok lf) (cv37_ok lf) (And.intro True.intro (And.intro True.intro (And.intro True.intro (And.intro True.intro (And.intro True.intro True.intro))))) ?_
  intro vs h r e0
  simp only [w37_0] at e0
  obtain ⟨c1, l1, rfl, e1⟩ := castCons_inv e0
  obtain ⟨c2, l2, rfl, e2⟩ := castCons_inv e1
  obtain ⟨rfl, e3⟩ := castNil_inv e2
  have e := e3
  exact (S37_0_eq lf c1 c2 h).trans e
def o37_1 : Outs := [((.exit 0), [4], [.any]), (.ret, [2, 3], [.any, (.int .i64)])]
def k37_1 : KC := (.seq (.reg [⟨(some 16), none, (.op (.bin .lss (.t 15) (.t 14))), []⟩]) (.seq (.cond (.t 16) .skip (.exit 0)) (.seq (.block 1 (.seq (.reg [⟨(some 17), none, (.op (.iaddrL 3 (.t 13) (.t 15))), []⟩, ⟨(some 18), none, (.op (.loadN 3 (.t 17))), []⟩, ⟨(some 6), none, (.op (.alloc false (.agg [(.int .i64 0), (.int .i64 0), (.str [])]))), []⟩, ⟨none, none, (.op (.store 3 (.t 6) (.t 18))), []⟩]) (.seq (.reg [⟨(some 19), none, (.op (.mv (.t 4))), []⟩, ⟨(some 20), none, (.op (.faddr 0 (.t 6))), []⟩, ⟨(some 21), none, (.op (.load1 (.t 20))), []⟩, ⟨(some 22), none, (.op (.toInt .u8 (.t 21))), []⟩, ⟨(some 23), none, (.op (.bslice 1 (.int .u8 0) 1 [(0, (.t 22))])), []⟩, ⟨(some 24), none, (.op (.app 1 1 (.t 19) (.t 23))), []⟩, ⟨(some 4), none, (.op (.mv (.t 24))), []⟩]) (.seq (.sub 0 k37_0.er [4, 6] o37_0) (.seq (.reg [⟨(some 44), none, (.op (.mv (.t 4))), []⟩, ⟨(some 45), none, (.op (.lenL (.t 44))), []⟩, ⟨(some 46), none, (.op (.bin .gtr (.t 45) (.c (.int .i64 140)))), []⟩]) (.cond (.t 46) (.seq (.reg [⟨(some 2), none, (.op (.mv (.c .nils))), []⟩, ⟨(some 3), none, (.op (.mv (.c (.int .i64 14)))), []⟩]) .ret) .skip)))))) (.reg [⟨(some 47), none, (.op (.bin .add (.t 15) (.c (.int .i64 1)))), []⟩, ⟨(some 15), none, (.op (.mv (.t 47))), []⟩]))))
def w37_1 (f : V → V → Int → Int → List Ob → SubR) (vs : List V) (h : List Ob) : SubR := castCons vs fun c1 l1 => castCons l1 fun c2 l2 => castCons l2 fun c3 l3 => castInt .i64 c3 fun n4 => castCons l3 fun c5 l5 => castInt .i64 c5 fun n6 => castNil l5 (f c1 c2 n4 n6 h)
noncomputable def B37_1 (lf : Nat) (self : V → V → Int → Int → List Ob → SubR) (b : V) (x13 : V) (x14 : Int) (x15 : Int) (h : List Ob) : SubR :=
cB (decide (x15 < x14)) (
bind1 (er (.iaddrL 3 (.c x13) (.c (.int .i64 x15))) h) fun x17 =>
bind1 (er (.loadN 3 (.c x17)) h) fun v =>
castAgg v fun l =>
castCons l fun c l1 =>
castInt .i64 c fun x18_0 =>
castCons l1 fun c1 l2 =>
castInt .i64 c1 fun x18_1 =>
castCons l2 fun c2 l3 =>
castStr c2 fun x18_2 =>
castNil l3 (
bind2 (ev (.alloc false (.agg [(.int .i64 0), (.int .i64 0), (.str [])])) h) fun v1 h_ =>
bind2 (ev (.store 3 (.c v1) (.c (.agg [(.int .i64 x18_0), (.int .i64 x18_1), (.str x18_2)]))) h_) fun u h_1 =>
bind1 (er (.faddr 0 (.c v1)) h_1) fun x20 =>
bind1 (er (.load1 (.c x20)) h_1) fun v2 =>
castInt .i64 v2 fun x21 =>
bind2 (ev (.bslice 1 (.int .u8 0) 1 [(0, (.c (.int .u8 (IntKind.u8.wrap x21))))]) h_1) fun x23 h_2 =>
bind2 (ev (.app 1 1 (.c b) (.c x23)) h_2) fun x24 h_3 =>
bind3 (S37_0 lf x24 v1 h_3) fun ex vs h_4 =>
cB (decide (ex = .normal)) (
castCons vs fun b1 l4 =>
castNil l4 (
bind1 (er (.lenL (.c b1)) h_4) fun v3 =>
castInt .i64 v3 fun x45 =>
cB (decide (x45 > (140))) (
some (.ret, [V.nils, (.int .i64 (14))], h_4)) (
self b1 x13 x14 (IntKind.i64.wrap (x15 + (1))) h_4))) (
none))) (
some ((.exit 0), [b], h))
noncomputable def L37_1 (lf : Nat) : Nat → V → V → Int → Int → List Ob → SubR
  | 0 => fun _ _ _ _ _ => none
  | n + 1 => B37_1 lf (L37_1 lf n)
theorem B37_1_eq (lf : Nat) (self : V → V → Int → Int → List Ob → SubR) (b : V) (x13 : V) (x14 : Int) (x15 : Int) (h : List Ob) : evCK A37 ⟨call37 lf, (cv37 lf), subC 0 (w37_0 (S37_0 lf)) (subN)⟩ k37_1 [(4, b), (13, x13), (14, (.int .i64 x14)), (15, (.int .i64 x15))] h (endL [4, 13, 14, 15] [.any, .any, (.int .i64), (.int .i64)] o37_1 (w37_1 self)) = B37_1 lf self b x13 x14 x15 h := by kernel_rfl
theorem L37_1_ok (lf : Nat) : ∀ n, SubOk Go.Proofs.Try.prog (.loop k37_1.er) [4, 13, 14, 15] o37_1 (w37_1 (L37_1 lf n)) := by
  refine SubOk.loop (A := A37) (σ := ⟨call37 lf, (cv37 lf), subC 0 (w37_0 (S37_0 lf)) (subN)⟩) (c := k37_1) (shs := [.any, .any, (.int .i64), (.int .i64)]) (G := fun n => w37_1 (L37_1 lf n)) (call37_ok lf) (cv37_ok lf) (And.intro True.intro (And.intro (And.intro True.intro True.intro) (And.intro (And.intro True.intro (And.intro True.intro (And.intro (S37_0_ok lf) (And.intro True.intro (And.intro (And.intro True.intro True.intro) True.intro))))) True.intro))) ?_ ?_
  · intro vs h r e0
    simp only [w37_1] at e0
    obtain ⟨c1, l1, rfl, e1⟩ := castCons_inv e0
    obtain ⟨c2, l2, rfl, e2⟩ := castCons_inv e1
    obtain ⟨c3, l3, rfl, e3⟩ := castCons_inv e2
    obtain ⟨y2, rfl, e4⟩ := castInt_inv e3
    obtain ⟨c4, l4, rfl, e5⟩ := castCons_inv e4
    obtain ⟨y3, rfl, e6⟩ := castInt_inv e5
    obtain ⟨rfl, e7⟩ := castNil_inv e6
    have e := e7
    cases e
  · intro n vs h r e0
    simp only [w37_1] at e0
    obtain ⟨c1, l1, rfl, e1⟩ := castCons_inv e0
    obtain ⟨c2, l2, rfl, e2⟩ := castCons_inv e1
    obtain ⟨c3, l3, rfl, e3⟩ := castCons_inv e2
    obtain ⟨y2, rfl, e4⟩ := castInt_inv e3
    obtain ⟨c4, l4, rfl, e5⟩ := castCons_inv e4
    obtain ⟨y3, rfl, e6⟩ := castInt_inv e5
    obtain ⟨rfl, e7⟩ := castNil_inv e6
    have e := e7
    exact (B37_1_eq lf (L37_1 lf n) c1 c2 y2 y3 h).trans e
def k37 : KC := (.seq (.reg [⟨(some 2), none, (.op (.mv (.c .nils))), []⟩, ⟨(some 3), none, (.op (.mv (.c (.int .i64 0)))), []⟩]) (.seq (.seq (.reg [⟨(some 7), none, (.op (.mv (.t 0))), []⟩, ⟨(some 8), none, (.call 58 [(.t 7), (.c (.fn 59 []))]), []⟩]) (.cond (.t 8) (.seq (.reg [⟨(some 2), none, (.op (.mv (.c .nils))), []⟩, ⟨(some 3), none, (.op (.mv (.c (.int .i64 1)))), []⟩]) .ret) .skip)) (.seq (.reg [⟨(some 9), none, (.op (.mv (.t 0))), []⟩, ⟨(some 10), none, (.op (.lenL (.t 9))), []⟩, ⟨(some 11), none, (.op (.toInt .u64 (.t 10))), []⟩, ⟨(some 12), none, (.call 26 [(.c .nils), (.t 11)]), []⟩, ⟨(some 4), none, (.op (.mv (.t 12))), []⟩]) (.seq (.seq (.reg [⟨(some 13), none, (.op (.mv (.t 0))), []⟩, ⟨(some 14), none, (.op (.lenL (.t 13))), []⟩, ⟨(some 15), none, (.op (.mv (.c (.int .i64 0)))), []⟩]) (.block 0 (.sub 1 (.loop k37_1.er) [4, 13, 14, 15] o37_1))) (.seq (.reg [⟨(some 48), none, (.op (.mv (.t 4))), []⟩, ⟨(some 2), none, (.op (.mv (.t 48))), []⟩, ⟨(some 3), none, (.op (.mv (.c (.int .i64 0)))), []⟩]) .ret)))))
noncomputable def F37 (lf : Nat) (row : V) (h : List Ob) : Option (V × List Ob) :=
bind2 (F58 lf (cv37 lf) row (.fn 59 []) h) fun v h_ =>
castBool v fun x8 =>
cB x8 (
some ((.tup [V.nils, (.int .i64 (1))]), h_)) (
bind1 (er (.lenL (.c row)) h_) fun v1 =>
castInt .i64 v1 fun x10 =>
bind2 (F26 lf V.nils (IntKind.u64.wrap x10) h_) fun x12 h_1 =>
bind1 (er (.lenL (.c row)) h_1) fun v2 =>
castInt .i64 v2 fun x14 =>
bind3 (L37_1 lf lf x12 row x14 (0) h_1) fun ex vs h_2 =>
cB (decide (ex = (.exit 0))) (
castCons vs fun b l =>
castNil l (
some ((.tup [b, (.int .i64 (0))]), h_2))) (
cB (decide (ex = .ret)) (
castCons vs fun x2 l =>
castCons l fun c l1 =>
castInt .i64 c fun x3 =>
castNil l1 (
some ((.tup [x2, (.int .i64 x3)]), h_2))) (
none)))
theorem F37_eq (lf : Nat) (row : V) (h : List Ob) : evCK A37 ⟨call37 lf, (cv37 lf), subC 1 (w37_1 (L37_1 lf lf)) (subN)⟩ k37 (entryK [row]) h (endF c37.res) = F37 lf row h := by kernel_rfl
theorem F37_ok (lf : Nat) (row : V) (h : List Ob) (r_ : V) (h_r : List Ob) (e_ : F37 lf row h = some (r_, h_r)) : CD Go.Proofs.Try.prog 37 [row] h r_ h_r :=
  CD.ofK (A := A37) (σ := ⟨call37 lf, (cv37 lf), subC 1 (w37_1 (L37_1 lf lf)) (subN)⟩) (c := k37) Go.Proofs.Try.func37 ok37 en37 (show 1 ≤ 49 by decide) (by kernel_rfl) (call37_ok lf) (cv37_ok lf) (And.intro True.intro (And.intro (And.intro True.intro (And.intro (And.intro True.intro True.intro) True.intro)) (And.intro True.intro (And.intro (And.intro True.intro (L37_1_ok lf lf)) (And.intro True.intro True.intro))))) ((F37_eq lf row h).trans e_)
def w37 (f : V → List Ob → Option (V × List Ob)) (vs : List V) (h : List Ob) : Option (V × List Ob) := castCons vs fun c1 l1 => castNil l1 (f c1 h)
noncomputable def W37 (lf : Nat) : List V → List Ob → Option (V × List Ob) := w37 (F37 lf)
theorem W37_ok (lf : Nat) : ∀ args h v h', W37 lf args h = some (v, h') → CD Go.Proofs.Try.prog 37 args h v h' := by
  intro vs h r h' e0
  simp only [W37, w37] at e0
  obtain ⟨c1, l1, rfl, e1⟩ := castCons_inv e0
  obtain ⟨rfl, e2⟩ := castNil_inv e1
  have e := e2
  exact F37_ok lf c1 h r h' e

/-! 36: wainscot/wainscotlaw03.awake -/
def A36 : List (Nat × Sh) := [(0, .bool), (2, (.int .i64)), (3, (.tup [.any, (.int .i64)])), (4, (.agg [(.int .i64), (.int .i64), .str])), (6, (.tup [.any, (.int .i64)])), (8, (.int .i64)), (9, (.int .i64)), (10, .bool), (11, .bool), (13, .str), (14, .bool), (15, .bool)]
noncomputable def call36 (lf : Nat) : CallS := callC 37 (W37 lf) (callN)
theorem call36_ok (lf : Nat) : CallOk Go.Proofs.Try.prog (call36 lf) := callC_ok (W37_ok lf) (callN_ok)
def k36 : KC := (.seq (.reg [⟨(some 0), none, (.op (.mv (.c (.bool false)))), []⟩]) (.seq (.reg [⟨(some 4), none, (.op (.build [(.int .i64 0), (.int .i64 0), (.str [])] [])), []⟩, ⟨(some 5), none, (.op (.bslice 3 (.agg [(.int .i64 0), (.int .i64 0), (.str [])]) 1 [(0, (.t 4))])), []⟩, ⟨(some 6), none, (.call 37 [(.t 5)]), []⟩, ⟨(some 3), none, (.op (.mv (.t 6))), []⟩, ⟨(some 7), none, (.op (.ext 0 (.t 3))), []⟩, ⟨(some 8), none, (.op (.ext 1 (.t 3))), []⟩, ⟨(some 1), none, (.op (.mv (.t 7))), []⟩, ⟨(some 2), none, (.op (.mv (.t 8))), []⟩]) (.seq (.reg [⟨(some 9), none, (.op (.mv (.t 2))), []⟩, ⟨(some 10), none, (.op (.bin .eql (.t 9) (.c (.int .i64 0)))), []⟩, ⟨(some 11), none, (.op (.mv (.t 10))), []⟩, ⟨(some 12), (some (11, true)), (.op (.mv (.t 1))), []⟩, ⟨(some 13), (some (11, true)), (.op (.toStr (.t 12))), []⟩, ⟨(some 14), (some (11, true)), (.op (.bin .eql (.t 13) (.c (.str [1, 0])))), []⟩, ⟨(some 15), none, (.op (.pick (.t 11) (.t 14) (.c (.bool false)))), []⟩, ⟨(some 0), none, (.op (.mv (.t 15))), []⟩]) .ret)))
noncomputable def F36 (lf : Nat) (h : List Ob) : Option (V × List Ob) :=
bind1 (er (.build [(.int .i64 0), (.int .i64 0), (.str [])] []) h) fun v =>
castAgg v fun l =>
castCons l fun c l1 =>
castInt .i64 c fun x4_0 =>
castCons l1 fun c1 l2 =>
castInt .i64 c1 fun x4_1 =>
castCons l2 fun c2 l3 =>
castStr c2 fun x4_2 =>
castNil l3 (
bind2 (ev (.bslice 3 (.agg [(.int .i64 0), (.int .i64 0), (.str [])]) 1 [(0, (.c (.agg [(.int .i64 x4_0), (.int .i64 x4_1), (.str x4_2)])))]) h) fun x5 h_ =>
bind2 (F37 lf x5 h_) fun v1 h_1 =>
castTup v1 fun l4 =>
castCons l4 fun x6_0 l5 =>
castCons l5 fun c3 l6 =>
castInt .i64 c3 fun x6_1 =>
castNil l6 (
cB (x6_1 == (0)) (
bind1 (er (.toStr (.c x6_0)) h_1) fun v2 =>
castStr v2 fun x13 =>
some ((.bool (x13 == [1, 0])), h_1)) (
some ((.bool false), h_1))))
theorem F36_eq (lf : Nat) (h : List Ob) : evCK A36 ⟨call36 lf, cvN, subN⟩ k36 (entryK []) h (endF c36.res) = F36 lf h := by kernel_rfl
theorem F36_ok (lf : Nat) (h : List Ob) (r_ : V) (h_r : List Ob) (e_ : F36 lf h = some (r_, h_r)) : CD Go.Proofs.Try.prog 36 [] h r_ h_r :=
  CD.ofK (A := A36) (σ := ⟨call36 lf, cvN, subN⟩) (c := k36) Go.Proofs.Try.func36 ok36 en36 (show 0 ≤ 16 by decide) (by kernel_rfl) (call36_ok lf) cvN_ok (And.intro True.intro (And.intro True.intro (And.intro True.intro True.intro))) ((F36_eq lf h).trans e_)
def w36 (f : List Ob → Option (V × List Ob)) (vs : List V) (h : List Ob) : Option (V × List Ob) := castNil vs (f h)
noncomputable def W36 (lf : Nat) : List V → List Ob → Option (V × List Ob) := w36 (F36 lf)
theorem W36_ok (lf : Nat) : ∀ args h v h', W36 lf args h = some (v, h') → CD Go.Proofs.Try.prog 36 args h v h' := by
  intro vs h r h' e0
  simp only [W36, w36] at e0
  obtain ⟨rfl, e1⟩ := castNil_inv e0
  have e := e1
  exact F36_ok lf h r h' e

/-! 81: wainscot/wainscotref01.Formed -/
def A81 : List (Nat × Sh) := [(0, (.agg [(.int .i64), (.int .i64), .str])), (2, .bool), (4, (.int .i64)), (5, .bool), (6, .bool), (8, (.int .i64)), (9, .bool), (10, .bool), (12, .str), (13, .bool), (14, .bool), (15, .bool), (16, .bool), (18, .str), (19, .bool), (20, .bool), (21, .bool), (23, (.int .i64)), (24, .bool), (25, .bool), (27, .str), (28, (.int .i64)), (29, .bool), (30, .bool)]
noncomputable def call81 (lf : Nat) : CallS := callN
theorem call81_ok (lf : Nat) : CallOk Go.Proofs.Try.prog (call81 lf) := callN_ok
def k81 : KC := (.seq (.reg [⟨(some 1), none, (.op (.box false (.t 0))), []⟩, ⟨(some 2), none, (.op (.mv (.c (.bool false)))), []⟩]) (.seq (.seq (.reg [⟨(some 3), none, (.op (.faddr 0 (.t 1))), []⟩, ⟨(some 4), none, (.op (.load1 (.t 3))), []⟩]) (.block 0 (.seq (.reg [⟨(some 6), none, (.op (.bin .eql (.t 4) (.c (.int .i64 0)))), []⟩, ⟨(some 5), none, (.op (.mv (.t 6))), []⟩]) (.cond (.t 5) (.seq (.reg [⟨(some 7), none, (.op (.faddr 1 (.t 1))), []⟩, ⟨(some 8), none, (.op (.load1 (.t 7))), []⟩, ⟨(some 9), none, (.op (.bin .eql (.t 8) (.c (.int .i64 0)))), []⟩, ⟨(some 10), none, (.op (.mv (.t 9))), []⟩, ⟨(some 11), (some (10, true)), (.op (.faddr 2 (.t 1))), []⟩, ⟨(some 12), (some (10, true)), (.op (.load1 (.t 11))), []⟩, ⟨(some 13), (some (10, true)), (.op (.bin .eql (.t 12) (.c (.str [])))), []⟩, ⟨(some 14), none, (.op (.pick (.t 10) (.t 13) (.c (.bool false)))), []⟩, ⟨(some 2), none, (.op (.mv (.t 14))), []⟩]) .ret) (.seq (.reg [⟨(some 16), none, (.op (.bin .eql (.t 4) (.c (.int .i64 1)))), []⟩, ⟨(some 15), none, (.op (.mv (.t 16))), []⟩]) (.cond (.t 15) (.seq (.reg [⟨(some 17), none, (.op (.faddr 2 (.t 1))), []⟩, ⟨(some 18), none, (.op (.load1 (.t 17))), []⟩, ⟨(some 19), none, (.op (.bin .eql (.t 18) (.c (.str [])))), []⟩, ⟨(some 2), none, (.op (.mv (.t 19))), []⟩]) .ret) (.seq (.reg [⟨(some 21), none, (.op (.bin .eql (.t 4) (.c (.int .i64 2)))), []⟩, ⟨(some 20), none, (.op (.mv (.t 21))), []⟩]) (.cond (.t 20) (.seq (.reg [⟨(some 22), none, (.op (.faddr 1 (.t 1))), []⟩, ⟨(some 23), none, (.op (.load1 (.t 22))), []⟩, ⟨(some 24), none, (.op (.bin .eql (.t 23) (.c (.int .i64 0)))), []⟩, ⟨(some 25), none, (.op (.mv (.t 24))), []⟩, ⟨(some 26), (some (25, true)), (.op (.faddr 2 (.t 1))), []⟩, ⟨(some 27), (some (25, true)), (.op (.load1 (.t 26))), []⟩, ⟨(some 28), (some (25, true)), (.op (.lenS (.t 27))), []⟩, ⟨(some 29), (some (25, true)), (.op (.bin .leq (.t 28) (.c (.int .i64 100)))), []⟩, ⟨(some 30), none, (.op (.pick (.t 25) (.t 29) (.c (.bool false)))), []⟩, ⟨(some 2), none, (.op (.mv (.t 30))), []⟩]) .ret) .skip)))))))) (.seq (.reg [⟨(some 2), none, (.op (.mv (.c (.bool false)))), []⟩]) .ret)))
noncomputable def F81 (lf : Nat) (v : Int) (v1 : Int) (v2 : List UInt8) (h : List Ob) : Option (V × List Ob) :=
bind2 (ev (.box false (.c (.agg [(.int .i64 v), (.int .i64 v1), (.str v2)]))) h) fun v3 h_ =>
bind1 (er (.faddr 0 (.c v3)) h_) fun x3 =>
bind1 (er (.load1 (.c x3)) h_) fun v4 =>
castInt .i64 v4 fun x4 =>
cB (x4 == (0)) (
bind1 (er (.faddr 1 (.c v3)) h_) fun x7 =>
bind1 (er (.load1 (.c x7)) h_) fun v5 =>
castInt .i64 v5 fun x8 =>
cB (x8 == (0)) (
bind1 (er (.faddr 2 (.c v3)) h_) fun x11 =>
bind1 (er (.load1 (.c x11)) h_) fun v6 =>
castStr v6 fun x12 =>
some ((.bool (x12 == ([] : List UInt8))), h_)) (
some ((.bool false), h_))) (
cB (x4 == (1)) (
bind1 (er (.faddr 2 (.c v3)) h_) fun x17 =>
bind1 (er (.load1 (.c x17)) h_) fun v5 =>
castStr v5 fun x18 =>
some ((.bool (x18 == ([] : List UInt8))), h_)) (
cB (x4 == (2)) (
bind1 (er (.faddr 1 (.c v3)) h_) fun x22 =>
bind1 (er (.load1 (.c x22)) h_) fun v5 =>
castInt .i64 v5 fun x23 =>
cB (x23 == (0)) (
bind1 (er (.faddr 2 (.c v3)) h_) fun x26 =>
bind1 (er (.load1 (.c x26)) h_) fun v6 =>
castStr v6 fun x27 =>
some ((.bool (decide (((x27).length : Int) ≤ (100)))), h_)) (
some ((.bool false), h_))) (
some ((.bool false), h_))))
theorem F81_eq (lf : Nat) (v : Int) (v1 : Int) (v2 : List UInt8) (h : List Ob) : evCK A81 ⟨call81 lf, cvN, subN⟩ k81 (entryK [(.agg [(.int .i64 v), (.int .i64 v1), (.str v2)])]) h (endF c81.res) = F81 lf v v1 v2 h := by kernel_rfl
theorem F81_ok (lf : Nat) (v : Int) (v1 : Int) (v2 : List UInt8) (h : List Ob) (r_ : V) (h_r : List Ob) (e_ : F81 lf v v1 v2 h = some (r_, h_r)) : CD Go.Proofs.Try.prog 81 [(.agg [(.int .i64 v), (.int .i64 v1), (.str v2)])] h r_ h_r :=
  CD.ofK (A := A81) (σ := ⟨call81 lf, cvN, subN⟩) (c := k81) Go.Proofs.Try.func81 ok81 en81 (show 1 ≤ 31 by decide) (by kernel_rfl) (call81_ok lf) cvN_ok (And.intro True.intro (And.intro (And.intro True.intro (And.intro True.intro (And.intro (And.intro True.intro True.intro) (And.intro True.intro (And.intro (And.intro True.intro True.intro) (And.intro True.intro (And.intro (And.intro True.intro True.intro) True.intro))))))) (And.intro True.intro True.intro))) ((F81_eq lf v v1 v2 h).trans e_)
def w81 (f : Int → Int → List UInt8 → List Ob → Option (V × List Ob)) (vs : List V) (h : List Ob) : Option (V × List Ob) := castCons vs fun c1 l1 => castAgg c1 fun n2 => castCons n2 fun c3 l3 => castInt .i64 c3 fun n4 => castCons l3 fun c5 l5 => castInt .i64 c5 fun n6 => castCons l5 fun c7 l7 => castStr c7 fun n8 => castNil l7 (castNil l1 (f n4 n6 n8 h))
noncomputable def W81 (lf : Nat) : List V → List Ob → Option (V × List Ob) := w81 (F81 lf)
theorem W81_ok (lf : Nat) : ∀ args h v h', W81 lf args h = some (v, h') → CD Go.Proofs.Try.prog 81 args h v h' := by
  intro vs h r h' e0
  simp only [W81, w81] at e0
  obtain ⟨c1, l1, rfl, e1⟩ := castCons_inv e0
  obtain ⟨l2, rfl, e2⟩ := castAgg_inv e1
  obtain ⟨c3, l3, rfl, e3⟩ := castCons_inv e2
  obtain ⟨y0, rfl, e4⟩ := castInt_inv e3
  obtain ⟨c4, l4, rfl, e5⟩ := castCons_inv e4
  obtain ⟨y1, rfl, e6⟩ := castInt_inv e5
  obtain ⟨c5, l5, rfl, e7⟩ := castCons_inv e6
  obtain ⟨y2, rfl, e8⟩ := castStr_inv e7
  obtain ⟨rfl, e9⟩ := castNil_inv e8
  obtain ⟨rfl, e10⟩ := castNil_inv e9
  have e := e10
  exact F81_ok lf y0 y1 y2 h r h' e

/-! 61: wainscot/wainscotref01.FormedRow -/
def A61 : List (Nat × Sh) := [(2, .bool), (3, (.int .i64)), (5, (.int .i64)), (6, (.int .i64)), (7, .bool), (8, (.int .i64)), (10, (.int .i64)), (12, (.agg [(.int .i64), (.int .i64), .str])), (13, .bool), (14, .bool), (15, (.int .i64))]
noncomputable def call61 (lf : Nat) : CallS := callC 81 (W81 lf) (callN)
theorem call61_ok (lf : Nat) : CallOk Go.Proofs.Try.prog (call61 lf) := callC_ok (W81_ok lf) (callN_ok)
def o61_0 : Outs := [((.exit 0), [], []), (.ret, [2], [.bool])]
def k61_0 : KC := (.seq (.reg [⟨(some 7), none, (.op (.bin .lss (.t 6) (.t 5))), []⟩]) (.seq (.cond (.t 7) .skip (.exit 0)) (.seq (.block 1 (.seq (.reg [⟨(some 8), none, (.op (.mv (.t 6))), []⟩, ⟨(some 3), none, (.op (.mv (.t 8))), []⟩]) (.seq (.reg [⟨(some 9), none, (.op (.mv (.t 0))), []⟩, ⟨(some 10), none, (.op (.mv (.t 3))), []⟩, ⟨(some 11), none, (.op (.iaddrL 3 (.t 9) (.t 10))), []⟩, ⟨(some 12), none, (.op (.loadN 3 (.t 11))), []⟩, ⟨(some 13), none, (.call 81 [(.t 12)]), []⟩, ⟨(some 14), none, (.op (.un .not (.t 13))), []⟩]) (.cond (.t 14) (.seq (.reg [⟨(some 2), none, (.op (.mv (.c (.bool false)))), []⟩]) .ret) .skip)))) (.reg [⟨(some 15), none, (.op (.bin .add (.t 6) (.c (.int .i64 1)))), []⟩, ⟨(some 6), none, (.op (.mv (.t 15))), []⟩]))))
def w61_0 (f : V → Int → Int → List Ob → SubR) (vs : List V) (h : List Ob) : SubR := castCons vs fun c1 l1 => castCons l1 fun c2 l2 => castInt .i64 c2 fun n3 => castCons l2 fun c4 l4 => castInt .i64 c4 fun n5 => castNil l4 (f c1 n3 n5 h)
noncomputable def B61_0 (lf : Nat) (self : V → Int → Int → List Ob → SubR) (row : V) (x5 : Int) (x6 : Int) (h : List Ob) : SubR :=
cB (decide (x6 < x5)) (
bind1 (er (.iaddrL 3 (.c row) (.c (.int .i64 x6))) h) fun x11 =>
bind1 (er (.loadN 3 (.c x11)) h) fun v =>
castAgg v fun l =>
castCons l fun c l1 =>
castInt .i64 c fun x12_0 =>
castCons l1 fun c1 l2 =>
castInt .i64 c1 fun x12_1 =>
castCons l2 fun c2 l3 =>
castStr c2 fun x12_2 =>
castNil l3 (
bind2 (F81 lf x12_0 x12_1 x12_2 h) fun v1 h_ =>
castBool v1 fun x13 =>
cB (!x13) (
some (.ret, [(.bool false)], h_)) (
self row x5 (IntKind.i64.wrap (x6 + (1))) h_))) (
some ((.exit 0), [], h))
noncomputable def L61_0 (lf : Nat) : Nat → V → Int → Int → List Ob → SubR
  | 0 => fun _ _ _ _ => none
  | n + 1 => B61_0 lf (L61_0 lf n)
theorem B61_0_eq (lf : Nat) (self : V → Int → Int → List Ob → SubR) (row : V) (x5 : Int) (x6 : Int) (h : List Ob) : evCK A61 ⟨call61 lf, cvN, subN⟩ k61_0 [(0, row), (5, (.int .i64 x5)), (6, (.int .i64 x6))] h (endL [0, 5, 6] [.any, (.int .i64), (.int .i64)] o61_0 (w61_0 self)) = B61_0 lf self row x5 x6 h := by kernel_rfl
theorem L61_0_ok (lf : Nat) : ∀ n, SubOk Go.Proofs.Try.prog (.loop k61_0.er) [0, 5, 6] o61_0 (w61_0 (L61_0 lf n)) := by
  refine SubOk.loop (A := A61) (σ := ⟨call61 lf, cvN, subN⟩) (c := k61_0) (shs := [.any, (.int .i64), (.int .i64)]) (G := fun n => w61_0 (L61_0 lf n)) (call61_ok lf) cvN_ok (And.intro True.intro (And.intro (And.intro True.intro True.intro) (And.intro (And.intro True.intro (And.intro True.intro (And.intro (And.intro True.intro True.intro) True.intro))) True.intro))) ?_ ?_
  · intro vs h r e0
    simp only [w61_0] at e0
    obtain ⟨c1, l1, rfl, e1⟩ := castCons_inv e0
    obtain ⟨c2, l2, rfl, e2⟩ := castCons_inv e1
    obtain ⟨y1, rfl, e3⟩ := castInt_inv e2
    obtain ⟨c3, l3, rfl, e4⟩ := castCons_inv e3
    obtain ⟨y2, rfl, e5⟩ := castInt_inv e4
    obtain ⟨rfl, e6⟩ := castNil_inv e5
    have e := e6
    cases e
  · intro n vs h r e0
    simp only [w61_0] at e0
    obtain ⟨c1, l1, rfl, e1⟩ := castCons_inv e0
    obtain ⟨c2, l2, rfl, e2⟩ := castCons_inv e1
    obtain ⟨y1, rfl, e3⟩ := castInt_inv e2
    obtain ⟨c3, l3, rfl, e4⟩ := castCons_inv e3
    obtain ⟨y2, rfl, e5⟩ := castInt_inv e4
    obtain ⟨rfl, e6⟩ := castNil_inv e5
    have e := e6
    exact (B61_0_eq lf (L61_0 lf n) c1 y1 y2 h).trans e
def k61 : KC := (.seq (.reg [⟨(some 2), none, (.op (.mv (.c (.bool false)))), []⟩]) (.seq (.seq (.reg [⟨(some 4), none, (.op (.mv (.t 0))), []⟩, ⟨(some 5), none, (.op (.lenL (.t 4))), []⟩, ⟨(some 6), none, (.op (.mv (.c (.int .i64 0)))), []⟩]) (.block 0 (.sub 0 (.loop k61_0.er) [0, 5, 6] o61_0))) (.seq (.reg [⟨(some 2), none, (.op (.mv (.c (.bool true)))), []⟩]) .ret)))
noncomputable def F61 (lf : Nat) (row : V) (h : List Ob) : Option (V × List Ob) :=
bind1 (er (.lenL (.c row)) h) fun v =>
castInt .i64 v fun x5 =>
bind3 (L61_0 lf lf row x5 (0) h) fun ex vs h_ =>
cB (decide (ex = (.exit 0))) (
castNil vs (
some ((.bool true), h_))) (
cB (decide (ex = .ret)) (
castCons vs fun c l =>
castBool c fun x2 =>
castNil l (
some ((.bool x2), h_))) (
none))
theorem F61_eq (lf : Nat) (row : V) (h : List Ob) : evCK A61 ⟨call61 lf, cvN, subC 0 (w61_0 (L61_0 lf lf)) (subN)⟩ k61 (entryK [row]) h (endF c61.res) = F61 lf row h := by kernel_rfl
theorem F61_ok (lf : Nat) (row : V) (h : List Ob) (r_ : V) (h_r : List Ob) (e_ : F61 lf row h = some (r_, h_r)) : CD Go.Proofs.Try.prog 61 [row] h r_ h_r :=
  CD.ofK (A := A61) (σ := ⟨call61 lf, cvN, subC 0 (w61_0 (L61_0 lf lf)) (subN)⟩) (c := k61) Go.Proofs.Try.func61 ok61 en61 (show 1 ≤ 16 by decide) (by kernel_rfl) (call61_ok lf) cvN_ok (And.intro True.intro (And.intro (And.intro True.intro (L61_0_ok lf lf)) (And.intro True.intro True.intro))) ((F61_eq lf row h).trans e_)
def w61 (f : V → List Ob → Option (V × List Ob)) (vs : List V) (h : List Ob) : Option (V × List Ob) := castCons vs fun c1 l1 => castNil l1 (f c1 h)
noncomputable def W61 (lf : Nat) : List V → List Ob → Option (V × List Ob) := w61 (F61 lf)
theorem W61_ok (lf : Nat) : ∀ args h v h', W61 lf args h = some (v, h') → CD Go.Proofs.Try.prog 61 args h v h' := by
  intro vs h r h' e0
  simp only [W61, w61] at e0
  obtain ⟨c1, l1, rfl, e1⟩ := castCons_inv e0
  obtain ⟨rfl, e2⟩ := castNil_inv e1
  have e := e2
  exact F61_ok lf c1 h r h' e

/-! 38: wainscot/wainscotref01.Encode -/
def A38 : List (Nat × Sh) := [(3, (.int .i64)), (5, (.int .i64)), (8, .bool), (9, .bool), (11, (.int .i64)), (12, (.int .u64)), (15, (.int .i64)), (16, (.int .i64)), (17, .bool), (18, (.int .i64)), (20, (.int .i64)), (22, (.agg [(.int .i64), (.int .i64), .str])), (25, (.int .i64)), (26, (.int .u8)), (30, (.int .i64)), (31, .bool), (32, .bool), (35, (.int .i64)), (38, .bool), (39, .bool), (42, .str), (43, (.int .i64)), (44, (.int .u64)), (49, .str), (52, (.int .i64)), (53, .bool), (54, (.int .i64)), (56, (.int .i64)), (57, .bool)]
noncomputable def call38 (lf : Nat) : CallS := callC 61 (W61 lf) (callC 28 (W28 lf) (callC 27 (W27 lf) (callN)))
theorem call38_ok (lf : Nat) : CallOk Go.Proofs.Try.prog (call38 lf) := callC_ok (W61_ok lf) (callC_ok (W28_ok lf) (callC_ok (W27_ok lf) (callN_ok)))
def o38_0 : Outs := [(.normal, [4], [.any])]
def k38_0 : KC := (.seq (.reg [⟨(some 29), none, (.op (.faddr 0 (.t 6))), []⟩, ⟨(some 30), none, (.op (.load1 (.t 29))), []⟩]) (.block 2 (.seq (.reg [⟨(some 32), none, (.op (.bin .eql (.t 30) (.c (.int .i64 1)))), []⟩, ⟨(some 31), none, (.op (.mv (.t 32))), []⟩]) (.cond (.t 31) (.reg [⟨(some 33), none, (.op (.mv (.t 4))), []⟩, ⟨(some 34), none, (.op (.faddr 1 (.t 6))), []⟩, ⟨(some 35), none, (.op (.load1 (.t 34))), []⟩, ⟨(some 36), none, (.call 28 [(.t 35)]), []⟩, ⟨(some 37), none, (.op (.app 1 1 (.t 33) (.t 36))), []⟩, ⟨(some 4), none, (.op (.mv (.t 37))), []⟩]) (.seq (.reg [⟨(some 39), none, (.op (.bin .eql (.t 30) (.c (.int .i64 2)))), []⟩, ⟨(some 38), none, (.op (.mv (.t 39))), []⟩]) (.cond (.t 38) (.seq (.reg [⟨(some 40), none, (.op (.mv (.t 4))), []⟩, ⟨(some 41), none, (.op (.faddr 2 (.t 6))), []⟩, ⟨(some 42), none, (.op (.load1 (.t 41))), []⟩, ⟨(some 43), none, (.op (.lenS (.t 42))), []⟩, ⟨(some 44), none, (.op (.toInt .u64 (.t 43))), []⟩, ⟨(some 45), none, (.call 27 [(.t 44)]), []⟩, ⟨(some 46), none, (.op (.app 1 1 (.t 40) (.t 45))), []⟩, ⟨(some 4), none, (.op (.mv (.t 46))), []⟩]) (.reg [⟨(some 47), none, (.op (.mv (.t 4))), []⟩, ⟨(some 48), none, (.op (.faddr 2 (.t 6))), []⟩, ⟨(some 49), none, (.op (.load1 (.t 48))), []⟩, ⟨(some 50), none, (.op (.app 1 1 (.t 47) (.t 49))), []⟩, ⟨(some 4), none, (.op (.mv (.t 50))), []⟩])) .skip))))))
def w38_0 (f : V → V → List Ob → SubR) (vs : List V) (h : List Ob) : SubR := castCons vs fun c1 l1 => castCons l1 fun c2 l2 => castNil l2 (f c1 c2 h)
noncomputable def S38_0 (lf : Nat) (b : V) (v : V) (h : List Ob) : SubR :=
bind1 (er (.faddr 0 (.c v)) h) fun x29 =>
bind1 (er (.load1 (.c x29)) h) fun v1 =>
castInt .i64 v1 fun x30 =>
cB (x30 == (1)) (
bind1 (er (.faddr 1 (.c v)) h) fun x34 =>
bind1 (er (.load1 (.c x34)) h) fun v2 =>
castInt .i64 v2 fun x35 =>
bind2 (F28 lf x35 h) fun x36 h_ =>
bind2 (ev (.app 1 1 (.c b) (.c x36)) h_) fun x37 h_1 =>
some (.normal, [x37], h_1)) (
cB (x30 == (2)) (
bind1 (er (.faddr 2 (.c v)) h) fun x41 =>
bind1 (er (.load1 (.c x41)) h) fun v2 =>
castStr v2 fun x42 =>
bind2 (F27 lf (IntKind.u64.wrap ((x42).length : Int)) h) fun x45 h_ =>
bind2 (ev (.app 1 1 (.c b) (.c x45)) h_) fun x46 h_1 =>
bind1 (er (.faddr 2 (.c v)) h_1) fun x48 =>
bind1 (er (.load1 (.c x48)) h_1) fun v3 =>
castStr v3 fun x49 =>
bind2 (ev (.app 1 1 (.c x46) (.c (.str x49))) h_1) fun x50 h_2 =>
some (.normal, [x50], h_2)) (
some (.normal, [b], h)))
theorem S38_0_eq (lf : Nat) (b : V) (v : V) (h : List Ob) : evCK A38 ⟨call38 lf, cvN, subN⟩ k38_0 [(4, b), (6, v)] h (endK o38_0) = S38_0 lf b v h := by kernel_rfl
theorem S38_0_ok (lf : Nat) : SubOk Go.Proofs.Try.prog k38_0.er [4, 6] o38_0 (w38_0 (S38_0 lf)) := by
  refine SubOk.of (A := A38) (σ := ⟨call38 lf, cvN, subN⟩) (c := k38_0) (call38_ok lf) cvN_ok (And.intro True.intro (And.intro True.intro (And.intro True.intro (And.intro True.intro (And.intro (And.intro True.intro True.intro) True.intro))))) ?_
  intro vs h r e0
  simp only [w38_0] at e0
  obtain ⟨c1, l1, rfl, e1⟩ := castCons_inv e0
  obtain ⟨c2, l2, rfl, e2⟩ := castCons_inv e1
  obtain ⟨rfl, e3⟩ := castNil_inv e2
  have e := e3
  exact (S38_0_eq lf c1 c2 h).trans e
def o38_1 : Outs := [((.exit 0), [4], [.any]), (.ret, [2, 3], [.any, (.int .i64)])]
def k38_1 : KC := (.seq (.reg [⟨(some 17), none, (.op (.bin .lss (.t 16) (.t 15))), []⟩]) (.seq (.cond (.t 17) .skip (.exit 0)) (.seq (.block 1 (.seq (.reg [⟨(some 18), none, (.op (.mv (.t 16))), []⟩, ⟨(some 5), none, (.op (.mv (.t 18))), []⟩]) (.seq (.reg [⟨(some 19), none, (.op (.mv (.t 0))), []⟩, ⟨(some 20), none, (.op (.mv (.t 5))), []⟩, ⟨(some 21), none, (.op (.iaddrL 3 (.t 19) (.t 20))), []⟩, ⟨(some 22), none, (.op (.loadN 3 (.t 21))), []⟩, ⟨(some 6), none, (.op (.alloc false (.agg [(.int .i64 0), (.int .i64 0), (.str [])]))), []⟩, ⟨none, none, (.op (.store 3 (.t 6) (.t 22))), []⟩]) (.seq (.reg [⟨(some 23), none, (.op (.mv (.t 4))), []⟩, ⟨(some 24), none, (.op (.faddr 0 (.t 6))), []⟩, ⟨(some 25), none, (.op (.load1 (.t 24))), []⟩, ⟨(some 26), none, (.op (.toInt .u8 (.t 25))), []⟩, ⟨(some 27), none, (.op (.bslice 1 (.int .u8 0) 1 [(0, (.t 26))])), []⟩, ⟨(some 28), none, (.op (.app 1 1 (.t 23) (.t 27))), []⟩, ⟨(some 4), none, (.op (.mv (.t 28))), []⟩]) (.seq (.sub 0 k38_0.er [4, 6] o38_0) (.seq (.reg [⟨(some 51), none, (.op (.mv (.t 4))), []⟩, ⟨(some 52), none, (.op (.lenL (.t 51))), []⟩, ⟨(some 53), none, (.op (.bin .gtr (.t 52) (.c (.int .i64 140)))), []⟩]) (.cond (.t 53) (.seq (.reg [⟨(some 2), none, (.op (.mv (.c .nils))), []⟩, ⟨(some 3), none, (.op (.mv (.c (.int .i64 14)))), []⟩]) .ret) .skip))))))) (.reg [⟨(some 54), none, (.op (.bin .add (.t 16) (.c (.int .i64 1)))), []⟩, ⟨(some 16), none, (.op (.mv (.t 54))), []⟩]))))
def w38_1 (f : V → V → Int → Int → List Ob → SubR) (vs : List V) (h : List Ob) : SubR := castCons vs fun c1 l1 => castCons l1 fun c2 l2 => castCons l2 fun c3 l3 => castInt .i64 c3 fun n4 => castCons l3 fun c5 l5 => castInt .i64 c5 fun n6 => castNil l5 (f c1 c2 n4 n6 h)
noncomputable def B38_1 (lf : Nat) (self : V → V → Int → Int → List Ob → SubR) (row : V) (b : V) (x15 : Int) (x16 : Int) (h : List Ob) : SubR :=
cB (decide (x16 < x15)) (
bind1 (er (.iaddrL 3 (.c row) (.c (.int .i64 x16))) h) fun x21 =>
bind1 (er (.loadN 3 (.c x21)) h) fun v =>
castAgg v fun l =>
castCons l fun c l1 =>
castInt .i64 c fun x22_0 =>
castCons l1 fun c1 l2 =>
castInt .i64 c1 fun x22_1 =>
castCons l2 fun c2 l3 =>
castStr c2 fun x22_2 =>
castNil l3 (
bind2 (ev (.alloc false (.agg [(.int .i64 0), (.int .i64 0), (.str [])])) h) fun v1 h_ =>
bind2 (ev (.store 3 (.c v1) (.c (.agg [(.int .i64 x22_0), (.int .i64 x22_1), (.str x22_2)]))) h_) fun u h_1 =>
bind1 (er (.faddr 0 (.c v1)) h_1) fun x24 =>
bind1 (er (.load1 (.c x24)) h_1) fun v2 =>
castInt .i64 v2 fun x25 =>
bind2 (ev (.bslice 1 (.int .u8 0) 1 [(0, (.c (.int .u8 (IntKind.u8.wrap x25))))]) h_1) fun x27 h_2 =>
bind2 (ev (.app 1 1 (.c b) (.c x27)) h_2) fun x28 h_3 =>
bind3 (S38_0 lf x28 v1 h_3) fun ex vs h_4 =>
cB (decide (ex = .normal)) (
castCons vs fun b1 l4 =>
castNil l4 (
bind1 (er (.lenL (.c b1)) h_4) fun v3 =>
castInt .i64 v3 fun x52 =>
cB (decide (x52 > (140))) (
some (.ret, [V.nils, (.int .i64 (14))], h_4)) (
self row b1 x15 (IntKind.i64.wrap (x16 + (1))) h_4))) (
none))) (
some ((.exit 0), [b], h))
noncomputable def L38_1 (lf : Nat) : Nat → V → V → Int → Int → List Ob → SubR
  | 0 => fun _ _ _ _ _ => none
  | n + 1 => B38_1 lf (L38_1 lf n)
theorem B38_1_eq (lf : Nat) (self : V → V → Int → Int → List Ob → SubR) (row : V) (b : V) (x15 : Int) (x16 : Int) (h : List Ob) : evCK A38 ⟨call38 lf, cvN, subC 0 (w38_0 (S38_0 lf)) (subN)⟩ k38_1 [(0, row), (4, b), (15, (.int .i64 x15)), (16, (.int .i64 x16))] h (endL [0, 4, 15, 16] [.any, .any, (.int .i64), (.int .i64)] o38_1 (w38_1 self)) = B38_1 lf self row b x15 x16 h := by kernel_rfl
theorem L38_1_ok (lf : Nat) : ∀ n, SubOk Go.Proofs.Try.prog (.loop k38_1.er) [0, 4, 15, 16] o38_1 (w38_1 (L38_1 lf n)) := by
  refine SubOk.loop (A := A38) (σ := ⟨call38 lf, cvN, subC 0 (w38_0 (S38_0 lf)) (subN)⟩) (c := k38_1) (shs := [.any, .any, (.int .i64), (.int .i64)]) (G := fun n => w38_1 (L38_1 lf n)) (call38_ok lf) cvN_ok (And.intro True.intro (And.intro (And.intro True.intro True.intro) (And.intro (And.intro True.intro (And.intro True.intro (And.intro True.intro (And.intro (S38_0_ok lf) (And.intro True.intro (And.intro (And.intro True.intro True.intro) True.intro)))))) True.intro))) ?_ ?_
  · intro vs h r e0
    simp only [w38_1] at e0
    obtain ⟨c1, l1, rfl, e1⟩ := castCons_inv e0
    obtain ⟨c2, l2, rfl, e2⟩ := castCons_inv e1
    obtain ⟨c3, l3, rfl, e3⟩ := castCons_inv e2
    obtain ⟨y2, rfl, e4⟩ := castInt_inv e3
    obtain ⟨c4, l4, rfl, e5⟩ := castCons_inv e4
    obtain ⟨y3, rfl, e6⟩ := castInt_inv e5
    obtain ⟨rfl, e7⟩ := castNil_inv e6
    have e := e7
    cases e
  · intro n vs h r e0
    simp only [w38_1] at e0
    obtain ⟨c1, l1, rfl, e1⟩ := castCons_inv e0
    obtain ⟨c2, l2, rfl, e2⟩ := castCons_inv e1
    obtain ⟨c3, l3, rfl, e3⟩ := castCons_inv e2
    obtain ⟨y2, rfl, e4⟩ := castInt_inv e3
    obtain ⟨c4, l4, rfl, e5⟩ := castCons_inv e4
    obtain ⟨y3, rfl, e6⟩ := castInt_inv e5
    obtain ⟨rfl, e7⟩ := castNil_inv e6
    have e := e7
    exact (B38_1_eq lf (L38_1 lf n) c1 c2 y2 y3 h).trans e
def k38 : KC := (.seq (.reg [⟨(some 2), none, (.op (.mv (.c .nils))), []⟩, ⟨(some 3), none, (.op (.mv (.c (.int .i64 0)))), []⟩]) (.seq (.seq (.reg [⟨(some 7), none, (.op (.mv (.t 0))), []⟩, ⟨(some 8), none, (.call 61 [(.t 7)]), []⟩, ⟨(some 9), none, (.op (.un .not (.t 8))), []⟩]) (.cond (.t 9) (.seq (.reg [⟨(some 2), none, (.op (.mv (.c .nils))), []⟩, ⟨(some 3), none, (.op (.mv (.c (.int .i64 1)))), []⟩]) .ret) .skip)) (.seq (.reg [⟨(some 10), none, (.op (.mv (.t 0))), []⟩, ⟨(some 11), none, (.op (.lenL (.t 10))), []⟩, ⟨(some 12), none, (.op (.toInt .u64 (.t 11))), []⟩, ⟨(some 13), none, (.call 27 [(.t 12)]), []⟩, ⟨(some 4), none, (.op (.mv (.t 13))), []⟩]) (.seq (.seq (.reg [⟨(some 14), none, (.op (.mv (.t 0))), []⟩, ⟨(some 15), none, (.op (.lenL (.t 14))), []⟩, ⟨(some 16), none, (.op (.mv (.c (.int .i64 0)))), []⟩]) (.block 0 (.sub 1 (.loop k38_1.er) [0, 4, 15, 16] o38_1))) (.seq (.seq (.reg [⟨(some 55), none, (.op (.mv (.t 4))), []⟩, ⟨(some 56), none, (.op (.lenL (.t 55))), []⟩, ⟨(some 57), none, (.op (.bin .gtr (.t 56) (.c (.int .i64 140)))), []⟩]) (.cond (.t 57) (.seq (.reg [⟨(some 2), none, (.op (.mv (.c .nils))), []⟩, ⟨(some 3), none, (.op (.mv (.c (.int .i64 14)))), []⟩]) .ret) .skip)) (.seq (.reg [⟨(some 58), none, (.op (.mv (.t 4))), []⟩, ⟨(some 2), none, (.op (.mv (.t 58))), []⟩, ⟨(some 3), none, (.op (.mv (.c (.int .i64 0)))), []⟩]) .ret))))))
noncomputable def F38 (lf : Nat) (row : V) (h : List Ob) : Option (V × List Ob) :=
bind2 (F61 lf row h) fun v h_ =>
castBool v fun x8 =>
cB (!x8) (
some ((.tup [V.nils, (.int .i64 (1))]), h_)) (
bind1 (er (.lenL (.c row)) h_) fun v1 =>
castInt .i64 v1 fun x11 =>
bind2 (F27 lf (IntKind.u64.wrap x11) h_) fun x13 h_1 =>
bind1 (er (.lenL (.c row)) h_1) fun v2 =>
castInt .i64 v2 fun x15 =>
bind3 (L38_1 lf lf row x13 x15 (0) h_1) fun ex vs h_2 =>
cB (decide (ex = (.exit 0))) (
castCons vs fun b l =>
castNil l (
bind1 (er (.lenL (.c b)) h_2) fun v3 =>
castInt .i64 v3 fun x56 =>
cB (decide (x56 > (140))) (
some ((.tup [V.nils, (.int .i64 (14))]), h_2)) (
some ((.tup [b, (.int .i64 (0))]), h_2)))) (
cB (decide (ex = .ret)) (
castCons vs fun x2 l =>
castCons l fun c l1 =>
castInt .i64 c fun x3 =>
castNil l1 (
some ((.tup [x2, (.int .i64 x3)]), h_2))) (
none)))
theorem F38_eq (lf : Nat) (row : V) (h : List Ob) : evCK A38 ⟨call38 lf, cvN, subC 1 (w38_1 (L38_1 lf lf)) (subN)⟩ k38 (entryK [row]) h (endF c38.res) = F38 lf row h := by kernel_rfl
theorem F38_ok (lf : Nat) (row : V) (h : List Ob) (r_ : V) (h_r : List Ob) (e_ : F38 lf row h = some (r_, h_r)) : CD Go.Proofs.Try.prog 38 [row] h r_ h_r :=
  CD.ofK (A := A38) (σ := ⟨call38 lf, cvN, subC 1 (w38_1 (L38_1 lf lf)) (subN)⟩) (c := k38) Go.Proofs.Try.func38 ok38 en38 (show 1 ≤ 59 by decide) (by kernel_rfl) (call38_ok lf) cvN_ok (And.intro True.intro (And.intro (And.intro True.intro (And.intro (And.intro True.intro True.intro) True.intro)) (And.intro True.intro (And.intro (And.intro True.intro (L38_1_ok lf lf)) (And.intro (And.intro True.intro (And.intro (And.intro True.intro True.intro) True.intro)) (And.intro True.intro True.intro)))))) ((F38_eq lf row h).trans e_)
def w38 (f : V → List Ob → Option (V × List Ob)) (vs : List V) (h : List Ob) : Option (V × List Ob) := castCons vs fun c1 l1 => castNil l1 (f c1 h)
noncomputable def W38 (lf : Nat) : List V → List Ob → Option (V × List Ob) := w38 (F38 lf)
theorem W38_ok (lf : Nat) : ∀ args h v h', W38 lf args h = some (v, h') → CD Go.Proofs.Try.prog 38 args h v h' := by
  intro vs h r h' e0
  simp only [W38, w38] at e0
  obtain ⟨c1, l1, rfl, e1⟩ := castCons_inv e0
  obtain ⟨rfl, e2⟩ := castNil_inv e1
  have e := e2
  exact F38_ok lf c1 h r h' e

/-! 82: (*wainscot/record.reader).skip -/
def A82 : List (Nat × Sh) := [(1, (.int .i64)), (2, (.int .i64)), (6, (.int .i64)), (7, .bool), (8, .bool), (9, (.int .i64)), (14, (.int .i64)), (15, .bool), (16, .bool), (28, (.int .i64))]
noncomputable def call82 (lf : Nat) : CallS := callN
theorem call82_ok (lf : Nat) : CallOk Go.Proofs.Try.prog (call82 lf) := callN_ok
def o82_0 : Outs := [(.normal, [16], [.bool])]
def k82_0 : KC := (.reg [⟨(some 6), none, (.op (.mv (.t 2))), []⟩, ⟨(some 7), none, (.op (.bin .neq (.t 6) (.c (.int .i64 0)))), []⟩, ⟨(some 8), none, (.op (.mv (.t 7))), []⟩, ⟨(some 9), (some (8, false)), (.op (.mv (.t 1))), []⟩, ⟨(some 10), (some (8, false)), (.op (.mv (.t 0))), []⟩, ⟨(some 11), (some (8, false)), (.op (.nilck (.t 10))), []⟩, ⟨(some 12), (some (8, false)), (.op (.faddr 0 (.t 11))), []⟩, ⟨(some 13), (some (8, false)), (.op (.load1 (.t 12))), []⟩, ⟨(some 14), (some (8, false)), (.op (.lenL (.t 13))), []⟩, ⟨(some 15), (some (8, false)), (.op (.bin .gtr (.t 9) (.t 14))), []⟩, ⟨(some 16), none, (.op (.pick (.t 8) (.c (.bool true)) (.t 15))), []⟩])
def w82_0 (f : V → Int → Int → List Ob → SubR) (vs : List V) (h : List Ob) : SubR := castCons vs fun c1 l1 => castCons l1 fun c2 l2 => castInt .i64 c2 fun n3 => castCons l2 fun c4 l4 => castInt .i64 c4 fun n5 => castNil l4 (f c1 n3 n5 h)
noncomputable def S82_0 (lf : Nat) (r : V) (n_ : Int) (e : Int) (h : List Ob) : SubR :=
cB (e != (0)) (
some (.normal, [(.bool true)], h)) (
bind1 (er (.nilck (.c r)) h) fun x11 =>
bind1 (er (.faddr 0 (.c x11)) h) fun x12 =>
bind1 (er (.load1 (.c x12)) h) fun x13 =>
bind1 (er (.lenL (.c x13)) h) fun v =>
castInt .i64 v fun x14 =>
some (.normal, [(.bool (decide (n_ > x14)))], h))
theorem S82_0_eq (lf : Nat) (r : V) (n_ : Int) (e : Int) (h : List Ob) : evCK A82 ⟨call82 lf, cvN, subN⟩ k82_0 [(0, r), (1, (.int .i64 n_)), (2, (.int .i64 e))] h (endK o82_0) = S82_0 lf r n_ e h := by kernel_rfl
theorem S82_0_ok (lf : Nat) : SubOk Go.Proofs.Try.prog k82_0.er [0, 1, 2] o82_0 (w82_0 (S82_0 lf)) := by
  refine SubOk.of (A := A82) (σ := ⟨call82 lf, cvN, subN⟩) (c := k82_0) (call82_ok lf) cvN_ok True.intro ?_
  intro vs h r e0
  simp only [w82_0] at e0
  obtain ⟨c1, l1, rfl, e1⟩ := castCons_inv e0
  obtain ⟨c2, l2, rfl, e2⟩ := castCons_inv e1
  obtain ⟨y1, rfl, e3⟩ := castInt_inv e2
  obtain ⟨c3, l3, rfl, e4⟩ := castCons_inv e3
  obtain ⟨y2, rfl, e5⟩ := castInt_inv e4
  obtain ⟨rfl, e6⟩ := castNil_inv e5
  have e := e6
  exact (S82_0_eq lf c1 y1 y2 h).trans e
def k82 : KC := (.seq (.seq (.sub 0 k82_0.er [0, 1, 2] o82_0) (.cond (.t 16) (.seq (.reg [⟨(some 17), none, (.op (.mv (.t 0))), []⟩, ⟨(some 18), none, (.op (.mv (.t 0))), []⟩, ⟨(some 19), none, (.op (.nilck (.t 17))), []⟩, ⟨(some 20), none, (.op (.faddr 1 (.t 19))), []⟩, ⟨none, none, (.op (.store 1 (.t 20) (.c (.bool true)))), []⟩, ⟨(some 21), none, (.op (.nilck (.t 18))), []⟩, ⟨(some 22), none, (.op (.faddr 0 (.t 21))), []⟩, ⟨none, none, (.op (.store 1 (.t 22) (.c .nils))), []⟩]) .ret) .skip)) (.reg [⟨(some 23), none, (.op (.mv (.t 0))), []⟩, ⟨(some 24), none, (.op (.mv (.t 0))), []⟩, ⟨(some 25), none, (.op (.nilck (.t 24))), []⟩, ⟨(some 26), none, (.op (.faddr 0 (.t 25))), []⟩, ⟨(some 27), none, (.op (.load1 (.t 26))), []⟩, ⟨(some 28), none, (.op (.mv (.t 1))), []⟩, ⟨(some 29), none, (.op (.slcL 1 (.t 27) (some (.t 28)) none none)), []⟩, ⟨(some 30), none, (.op (.nilck (.t 23))), []⟩, ⟨(some 31), none, (.op (.faddr 0 (.t 30))), []⟩, ⟨none, none, (.op (.store 1 (.t 31) (.t 29))), []⟩]))
noncomputable def F82 (lf : Nat) (r : V) (n_ : Int) (e : Int) (h : List Ob) : Option (V × List Ob) :=
bind3 (S82_0 lf r n_ e h) fun ex vs h_ =>
cB (decide (ex = .normal)) (
castCons vs fun c l =>
castBool c fun x16 =>
castNil l (
cB x16 (
bind1 (er (.nilck (.c r)) h_) fun x19 =>
bind1 (er (.faddr 1 (.c x19)) h_) fun x20 =>
bind2 (ev (.store 1 (.c x20) (.c (.bool true))) h_) fun u h_1 =>
bind1 (er (.nilck (.c r)) h_1) fun x21 =>
bind1 (er (.faddr 0 (.c x21)) h_1) fun x22 =>
bind2 (ev (.store 1 (.c x22) (.c V.nils)) h_1) fun u1 h_2 =>
some ((.tup []), h_2)) (
bind1 (er (.nilck (.c r)) h_) fun x25 =>
bind1 (er (.faddr 0 (.c x25)) h_) fun x26 =>
bind1 (er (.load1 (.c x26)) h_) fun x27 =>
bind1 (er (.slcL 1 (.c x27) (some (.c (.int .i64 n_))) none none) h_) fun x29 =>
bind1 (er (.nilck (.c r)) h_) fun x30 =>
bind1 (er (.faddr 0 (.c x30)) h_) fun x31 =>
bind2 (ev (.store 1 (.c x31) (.c x29)) h_) fun u h_1 =>
some ((.tup []), h_1)))) (
none)
theorem F82_eq (lf : Nat) (r : V) (n_ : Int) (e : Int) (h : List Ob) : evCK A82 ⟨call82 lf, cvN, subC 0 (w82_0 (S82_0 lf)) (subN)⟩ k82 (entryK [r, (.int .i64 n_), (.int .i64 e)]) h (endF c82.res) = F82 lf r n_ e h := by kernel_rfl
theorem F82_ok (lf : Nat) (r : V) (n_ : Int) (e : Int) (h : List Ob) (r_ : V) (h_r : List Ob) (e_ : F82 lf r n_ e h = some (r_, h_r)) : CD Go.Proofs.Try.prog 82 [r, (.int .i64 n_), (.int .i64 e)] h r_ h_r :=
  CD.ofK (A := A82) (σ := ⟨call82 lf, cvN, subC 0 (w82_0 (S82_0 lf)) (subN)⟩) (c := k82) Go.Proofs.Try.func82 ok82 en82 (show 3 ≤ 32 by decide) (by kernel_rfl) (call82_ok lf) cvN_ok (And.intro (And.intro (S82_0_ok lf) (And.intro (And.intro True.intro True.intro) True.intro)) True.intro) ((F82_eq lf r n_ e h).trans e_)
def w82 (f : V → Int → Int → List Ob → Option (V × List Ob)) (vs : List V) (h : List Ob) : Option (V × List Ob) := castCons vs fun c1 l1 => castCons l1 fun c2 l2 => castInt .i64 c2 fun n3 => castCons l2 fun c4 l4 => castInt .i64 c4 fun n5 => castNil l4 (f c1 n3 n5 h)
noncomputable def W82 (lf : Nat) : List V → List Ob → Option (V × List Ob) := w82 (F82 lf)
theorem W82_ok (lf : Nat) : ∀ args h v h', W82 lf args h = some (v, h') → CD Go.Proofs.Try.prog 82 args h v h' := by
  intro vs h r h' e0
  simp only [W82, w82] at e0
  obtain ⟨c1, l1, rfl, e1⟩ := castCons_inv e0
  obtain ⟨c2, l2, rfl, e2⟩ := castCons_inv e1
  obtain ⟨y1, rfl, e3⟩ := castInt_inv e2
  obtain ⟨c3, l3, rfl, e4⟩ := castCons_inv e3
  obtain ⟨y2, rfl, e5⟩ := castInt_inv e4
  obtain ⟨rfl, e6⟩ := castNil_inv e5
  have e := e6
  exact F82_ok lf c1 y1 y2 h r h' e

/-! 62: (*wainscot/record.reader).number -/
def A62 : List (Nat × Sh) := [(2, (.int .u64)), (3, (.int .u64)), (4, (.int .i64)), (5, (.int .i64)), (6, (.tup [(.int .u64), (.int .i64), (.int .i64)])), (11, (.tup [(.int .u64), (.int .i64), (.int .i64)])), (12, (.int .u64)), (13, (.int .i64)), (14, (.int .i64)), (16, (.int .i64)), (17, (.int .i64)), (19, (.int .u64))]
noncomputable def call62 (lf : Nat) : CallS := callC 82 (W82 lf) (callC 15 (W15 lf) (callN))
theorem call62_ok (lf : Nat) : CallOk Go.Proofs.Try.prog (call62 lf) := callC_ok (W82_ok lf) (callC_ok (W15_ok lf) (callN_ok))
def k62 : KC := (.seq (.reg [⟨(some 2), none, (.op (.mv (.c (.int .u64 0)))), []⟩]) (.seq (.reg [⟨(some 7), none, (.op (.mv (.t 0))), []⟩, ⟨(some 8), none, (.op (.nilck (.t 7))), []⟩, ⟨(some 9), none, (.op (.faddr 0 (.t 8))), []⟩, ⟨(some 10), none, (.op (.load1 (.t 9))), []⟩, ⟨(some 11), none, (.call 15 [(.t 10)]), []⟩, ⟨(some 6), none, (.op (.mv (.t 11))), []⟩, ⟨(some 12), none, (.op (.ext 0 (.t 6))), []⟩, ⟨(some 13), none, (.op (.ext 1 (.t 6))), []⟩, ⟨(some 14), none, (.op (.ext 2 (.t 6))), []⟩, ⟨(some 3), none, (.op (.mv (.t 12))), []⟩, ⟨(some 4), none, (.op (.mv (.t 13))), []⟩, ⟨(some 5), none, (.op (.mv (.t 14))), []⟩]) (.seq (.reg [⟨(some 15), none, (.op (.mv (.t 0))), []⟩, ⟨(some 16), none, (.op (.mv (.t 4))), []⟩, ⟨(some 17), none, (.op (.mv (.t 5))), []⟩, ⟨(some 18), none, (.call 82 [(.t 15), (.t 16), (.t 17)]), []⟩]) (.seq (.reg [⟨(some 19), none, (.op (.mv (.t 3))), []⟩, ⟨(some 2), none, (.op (.mv (.t 19))), []⟩]) .ret))))
noncomputable def F62 (lf : Nat) (r : V) (h : List Ob) : Option (V × List Ob) :=
bind1 (er (.nilck (.c r)) h) fun x8 =>
bind1 (er (.faddr 0 (.c x8)) h) fun x9 =>
bind1 (er (.load1 (.c x9)) h) fun x10 =>
bind2 (F15 lf x10 h) fun v h_ =>
castTup v fun l =>
castCons l fun c l1 =>
castInt .u64 c fun x11_0 =>
castCons l1 fun c1 l2 =>
castInt .i64 c1 fun x11_1 =>
castCons l2 fun c2 l3 =>
castInt .i64 c2 fun x11_2 =>
castNil l3 (
bind2 (F82 lf r x11_1 x11_2 h_) fun x18 h_1 =>
some ((.int .u64 x11_0), h_1))
theorem F62_eq (lf : Nat) (r : V) (h : List Ob) : evCK A62 ⟨call62 lf, cvN, subN⟩ k62 (entryK [r]) h (endF c62.res) = F62 lf r h := by kernel_rfl
theorem F62_ok (lf : Nat) (r : V) (h : List Ob) (r_ : V) (h_r : List Ob) (e_ : F62 lf r h = some (r_, h_r)) : CD Go.Proofs.Try.prog 62 [r] h r_ h_r :=
  CD.ofK (A := A62) (σ := ⟨call62 lf, cvN, subN⟩) (c := k62) Go.Proofs.Try.func62 ok62 en62 (show 1 ≤ 20 by decide) (by kernel_rfl) (call62_ok lf) cvN_ok (And.intro True.intro (And.intro True.intro (And.intro True.intro (And.intro True.intro True.intro)))) ((F62_eq lf r h).trans e_)
def w62 (f : V → List Ob → Option (V × List Ob)) (vs : List V) (h : List Ob) : Option (V × List Ob) := castCons vs fun c1 l1 => castNil l1 (f c1 h)
noncomputable def W62 (lf : Nat) : List V → List Ob → Option (V × List Ob) := w62 (F62 lf)
theorem W62_ok (lf : Nat) : ∀ args h v h', W62 lf args h = some (v, h') → CD Go.Proofs.Try.prog 62 args h v h' := by
  intro vs h r h' e0
  simp only [W62, w62] at e0
  obtain ⟨c1, l1, rfl, e1⟩ := castCons_inv e0
  obtain ⟨rfl, e2⟩ := castNil_inv e1
  have e := e2
  exact F62_ok lf c1 h r h' e

/-! 63: (*wainscot/record.reader).value -/
def A63 : List (Nat × Sh) := [(3, (.int .i64)), (4, (.int .i64)), (5, (.int .i64)), (6, (.int .u64)), (11, (.int .i64)), (12, .bool), (16, (.agg [(.int .i64), (.int .i64), .str])), (22, (.int .u8)), (23, (.int .i64)), (28, (.int .i64)), (32, .bool), (33, .bool), (34, .bool), (35, .bool), (36, (.tup [(.int .i64), (.int .i64), (.int .i64)])), (41, (.tup [(.int .i64), (.int .i64), (.int .i64)])), (42, (.int .i64)), (43, (.int .i64)), (44, (.int .i64)), (46, (.int .i64)), (47, (.int .i64)), (49, (.int .i64)), (51, .bool), (52, .bool), (54, (.int .u64)), (55, (.int .u64)), (60, (.int .i64)), (61, (.int .i64)), (62, (.int .u64)), (63, .bool), (67, (.agg [(.int .i64), (.int .i64), .str])), (72, (.int .u64)), (74, .str), (77, (.int .u64)), (78, (.int .i64)), (80, (.agg [(.int .i64), (.int .i64), .str]))]
noncomputable def call63 (lf : Nat) : CallS := callC 82 (W82 lf) (callC 62 (W62 lf) (callC 17 (W17 lf) (callN)))
theorem call63_ok (lf : Nat) : CallOk Go.Proofs.Try.prog (call63 lf) := callC_ok (W82_ok lf) (callC_ok (W62_ok lf) (callC_ok (W17_ok lf) (callN_ok)))
def o63_0 : Outs := [(.normal, [], []), (.ret, [], [])]
def k63_0 : KC := (.seq (.reg [⟨(some 27), none, (.op (.faddr 0 (.t 2))), []⟩, ⟨(some 28), none, (.op (.load1 (.t 27))), []⟩]) (.block 0 (.seq (.reg [⟨(some 33), none, (.op (.bin .eql (.t 28) (.c (.int .i64 0)))), []⟩, ⟨(some 32), none, (.op (.mv (.t 33))), []⟩]) (.cond (.t 32) .skip (.seq (.reg [⟨(some 35), none, (.op (.bin .eql (.t 28) (.c (.int .i64 1)))), []⟩, ⟨(some 34), none, (.op (.mv (.t 35))), []⟩]) (.cond (.t 34) (.seq (.reg [⟨(some 37), none, (.op (.mv (.t 0))), []⟩, ⟨(some 38), none, (.op (.nilck (.t 37))), []⟩, ⟨(some 39), none, (.op (.faddr 0 (.t 38))), []⟩, ⟨(some 40), none, (.op (.load1 (.t 39))), []⟩, ⟨(some 41), none, (.call 17 [(.t 40)]), []⟩, ⟨(some 36), none, (.op (.mv (.t 41))), []⟩, ⟨(some 42), none, (.op (.ext 0 (.t 36))), []⟩, ⟨(some 43), none, (.op (.ext 1 (.t 36))), []⟩, ⟨(some 44), none, (.op (.ext 2 (.t 36))), []⟩, ⟨(some 3), none, (.op (.mv (.t 42))), []⟩, ⟨(some 4), none, (.op (.mv (.t 43))), []⟩, ⟨(some 5), none, (.op (.mv (.t 44))), []⟩]) (.seq (.reg [⟨(some 45), none, (.op (.mv (.t 0))), []⟩, ⟨(some 46), none, (.op (.mv (.t 4))), []⟩, ⟨(some 47), none, (.op (.mv (.t 5))), []⟩, ⟨(some 48), none, (.call 82 [(.t 45), (.t 46), (.t 47)]), []⟩]) (.reg [⟨(some 49), none, (.op (.mv (.t 3))), []⟩, ⟨(some 50), none, (.op (.faddr 1 (.t 2))), []⟩, ⟨none, none, (.op (.store 1 (.t 50) (.t 49))), []⟩]))) (.seq (.reg [⟨(some 52), none, (.op (.bin .eql (.t 28) (.c (.int .i64 2)))), []⟩, ⟨(some 51), none, (.op (.mv (.t 52))), []⟩]) (.cond (.t 51) (.seq (.reg [⟨(some 53), none, (.op (.mv (.t 0))), []⟩, ⟨(some 54), none, (.call 62 [(.t 53)]), []⟩, ⟨(some 6), none, (.op (.mv (.t 54))), []⟩]) (.seq (.seq (.reg [⟨(some 55), none, (.op (.mv (.t 6))), []⟩, ⟨(some 56), none, (.op (.mv (.t 0))), []⟩, ⟨(some 57), none, (.op (.nilck (.t 56))), []⟩, ⟨(some 58), none, (.op (.faddr 0 (.t 57))), []⟩, ⟨(some 59), none, (.op (.load1 (.t 58))), []⟩, ⟨(some 60), none, (.op (.lenL (.t 59))), []⟩, ⟨(some 61), none, (.op (.minmax false (.t 60) (.c (.int .i64 100)))), []⟩, ⟨(some 62), none, (.op (.toInt .u64 (.t 61))), []⟩, ⟨(some 63), none, (.op (.bin .gtr (.t 55) (.t 62))), []⟩]) (.cond (.t 63) (.seq (.reg [⟨(some 64), none, (.op (.mv (.t 0))), []⟩, ⟨(some 65), none, (.op (.nilck (.t 64))), []⟩, ⟨(some 66), none, (.op (.faddr 1 (.t 65))), []⟩, ⟨none, none, (.op (.store 1 (.t 66) (.c (.bool true)))), []⟩]) (.seq (.reg [⟨(some 67), none, (.op (.loadN 3 (.t 2))), []⟩, ⟨none, none, (.op (.store 3 (.t 2) (.t 67))), []⟩]) .ret)) .skip)) (.seq (.reg [⟨(some 68), none, (.op (.mv (.t 0))), []⟩, ⟨(some 69), none, (.op (.nilck (.t 68))), []⟩, ⟨(some 70), none, (.op (.faddr 0 (.t 69))), []⟩, ⟨(some 71), none, (.op (.load1 (.t 70))), []⟩, ⟨(some 72), none, (.op (.mv (.t 6))), []⟩, ⟨(some 73), none, (.op (.slcL 1 (.t 71) none (some (.t 72)) none)), []⟩, ⟨(some 74), none, (.op (.toStr (.t 73))), []⟩, ⟨(some 75), none, (.op (.faddr 2 (.t 2))), []⟩, ⟨none, none, (.op (.store 1 (.t 75) (.t 74))), []⟩]) (.reg [⟨(some 76), none, (.op (.mv (.t 0))), []⟩, ⟨(some 77), none, (.op (.mv (.t 6))), []⟩, ⟨(some 78), none, (.op (.toInt .i64 (.t 77))), []⟩, ⟨(some 79), none, (.call 82 [(.t 76), (.t 78), (.c (.int .i64 0))]), []⟩])))) (.reg [⟨(some 29), none, (.op (.mv (.t 0))), []⟩, ⟨(some 30), none, (.op (.nilck (.t 29))), []⟩, ⟨(some 31), none, (.op (.faddr 1 (.t 30))), []⟩, ⟨none, none, (.op (.store 1 (.t 31) (.c (.bool true)))), []⟩])))))))))
def w63_0 (f : V → V → List Ob → SubR) (vs : List V) (h : List Ob) : SubR := castCons vs fun c1 l1 => castCons l1 fun c2 l2 => castNil l2 (f c1 c2 h)
noncomputable def S63_0 (lf : Nat) (r : V) (v : V) (h : List Ob) : SubR :=
bind1 (er (.faddr 0 (.c v)) h) fun x27 =>
bind1 (er (.load1 (.c x27)) h) fun v1 =>
castInt .i64 v1 fun x28 =>
cB (x28 == (0)) (
some (.normal, [], h)) (
cB (x28 == (1)) (
bind1 (er (.nilck (.c r)) h) fun x38 =>
bind1 (er (.faddr 0 (.c x38)) h) fun x39 =>
bind1 (er (.load1 (.c x39)) h) fun x40 =>
bind2 (F17 lf x40 h) fun v2 h_ =>
castTup v2 fun l =>
castCons l fun c l1 =>
castInt .i64 c fun x41_0 =>
castCons l1 fun c1 l2 =>
castInt .i64 c1 fun x41_1 =>
castCons l2 fun c2 l3 =>
castInt .i64 c2 fun x41_2 =>
castNil l3 (
bind2 (F82 lf r x41_1 x41_2 h_) fun x48 h_1 =>
bind1 (er (.faddr 1 (.c v)) h_1) fun x50 =>
bind2 (ev (.store 1 (.c x50) (.c (.int .i64 x41_0))) h_1) fun u h_2 =>
some (.normal, [], h_2))) (
cB (x28 == (2)) (
bind2 (F62 lf r h) fun v2 h_ =>
castInt .u64 v2 fun x54 =>
bind1 (er (.nilck (.c r)) h_) fun x57 =>
bind1 (er (.faddr 0 (.c x57)) h_) fun x58 =>
bind1 (er (.load1 (.c x58)) h_) fun x59 =>
bind1 (er (.lenL (.c x59)) h_) fun v3 =>
castInt .i64 v3 fun x60 =>
cB (decide (x54 > (IntKind.u64.wrap (if (100) < x60 then (100) else x60)))) (
bind1 (er (.nilck (.c r)) h_) fun x65 =>
bind1 (er (.faddr 1 (.c x65)) h_) fun x66 =>
bind2 (ev (.store 1 (.c x66) (.c (.bool true))) h_) fun u h_1 =>
bind1 (er (.loadN 3 (.c v)) h_1) fun v4 =>
castAgg v4 fun l =>
castCons l fun c l1 =>
castInt .i64 c fun x67_0 =>
castCons l1 fun c1 l2 =>
castInt .i64 c1 fun x67_1 =>
castCons l2 fun c2 l3 =>
castStr c2 fun x67_2 =>
castNil l3 (
bind2 (ev (.store 3 (.c v) (.c (.agg [(.int .i64 x67_0), (.int .i64 x67_1), (.str x67_2)]))) h_1) fun u1 h_2 =>
some (.ret, [], h_2))) (
bind1 (er (.nilck (.c r)) h_) fun x69 =>
bind1 (er (.faddr 0 (.c x69)) h_) fun x70 =>
bind1 (er (.load1 (.c x70)) h_) fun x71 =>
bind1 (er (.slcL 1 (.c x71) none (some (.c (.int .u64 x54))) none) h_) fun x73 =>
bind1 (er (.toStr (.c x73)) h_) fun v4 =>
castStr v4 fun x74 =>
bind1 (er (.faddr 2 (.c v)) h_) fun x75 =>
bind2 (ev (.store 1 (.c x75) (.c (.str x74))) h_) fun u h_1 =>
bind2 (F82 lf r (IntKind.i64.wrap x54) (0) h_1) fun x79 h_2 =>
some (.normal, [], h_2))) (
bind1 (er (.nilck (.c r)) h) fun x30 =>
bind1 (er (.faddr 1 (.c x30)) h) fun x31 =>
bind2 (ev (.store 1 (.c x31) (.c (.bool true))) h) fun u h_ =>
some (.normal, [], h_))))
theorem S63_0_eq (lf : Nat) (r : V) (v : V) (h : List Ob) : evCK A63 ⟨call63 lf, cvN, subN⟩ k63_0 [(0, r), (2, v)] h (endK o63_0) = S63_0 lf r v h := by kernel_rfl
theorem S63_0_ok (lf : Nat) : SubOk Go.Proofs.Try.prog k63_0.er [0, 2] o63_0 (w63_0 (S63_0 lf)) := by
  refine SubOk.of (A := A63) (σ := ⟨call63 lf, cvN, subN⟩) (c := k63_0) (call63_ok lf) cvN_ok (And.intro True.intro (And.intro True.intro (And.intro True.intro (And.intro True.intro (And.intro (And.intro True.intro (And.intro True.intro True.intro)) (And.intro True.intro (And.intro (And.intro True.intro (And.intro (And.intro True.intro (And.intro (And.intro True.intro (And.intro True.intro True.intro)) True.intro)) (And.intro True.intro True.intro))) True.intro))))))) ?_
  intro vs h r e0
  simp only [w63_0] at e0
  obtain ⟨c1, l1, rfl, e1⟩ := castCons_inv e0
  obtain ⟨c2, l2, rfl, e2⟩ := castCons_inv e1
  obtain ⟨rfl, e3⟩ := castNil_inv e2
  have e := e3
  exact (S63_0_eq lf c1 c2 h).trans e
def k63 : KC := (.seq (.reg [⟨(some 2), none, (.op (.alloc false (.agg [(.int .i64 0), (.int .i64 0), (.str [])]))), []⟩]) (.seq (.seq (.reg [⟨(some 7), none, (.op (.mv (.t 0))), []⟩, ⟨(some 8), none, (.op (.nilck (.t 7))), []⟩, ⟨(some 9), none, (.op (.faddr 0 (.t 8))), []⟩, ⟨(some 10), none, (.op (.load1 (.t 9))), []⟩, ⟨(some 11), none, (.op (.lenL (.t 10))), []⟩, ⟨(some 12), none, (.op (.bin .eql (.t 11) (.c (.int .i64 0)))), []⟩]) (.cond (.t 12) (.seq (.reg [⟨(some 13), none, (.op (.mv (.t 0))), []⟩, ⟨(some 14), none, (.op (.nilck (.t 13))), []⟩, ⟨(some 15), none, (.op (.faddr 1 (.t 14))), []⟩, ⟨none, none, (.op (.store 1 (.t 15) (.c (.bool true)))), []⟩]) (.seq (.reg [⟨(some 16), none, (.op (.loadN 3 (.t 2))), []⟩, ⟨none, none, (.op (.store 3 (.t 2) (.t 16))), []⟩]) .ret)) .skip)) (.seq (.reg [⟨(some 17), none, (.op (.mv (.t 0))), []⟩, ⟨(some 18), none, (.op (.nilck (.t 17))), []⟩, ⟨(some 19), none, (.op (.faddr 0 (.t 18))), []⟩, ⟨(some 20), none, (.op (.load1 (.t 19))), []⟩, ⟨(some 21), none, (.op (.iaddrL 1 (.t 20) (.c (.int .i64 0)))), []⟩, ⟨(some 22), none, (.op (.load1 (.t 21))), []⟩, ⟨(some 23), none, (.op (.toInt .i64 (.t 22))), []⟩, ⟨(some 24), none, (.op (.faddr 0 (.t 2))), []⟩, ⟨none, none, (.op (.store 1 (.t 24) (.t 23))), []⟩]) (.seq (.reg [⟨(some 25), none, (.op (.mv (.t 0))), []⟩, ⟨(some 26), none, (.call 82 [(.t 25), (.c (.int .i64 1)), (.c (.int .i64 0))]), []⟩]) (.seq (.sub 0 k63_0.er [0, 2] o63_0) (.seq (.reg [⟨(some 80), none, (.op (.loadN 3 (.t 2))), []⟩, ⟨none, none, (.op (.store 3 (.t 2) (.t 80))), []⟩]) .ret))))))
noncomputable def F63 (lf : Nat) (r : V) (h : List Ob) : Option (V × List Ob) :=
bind2 (ev (.alloc false (.agg [(.int .i64 0), (.int .i64 0), (.str [])])) h) fun v h_ =>
bind1 (er (.nilck (.c r)) h_) fun x8 =>
bind1 (er (.faddr 0 (.c x8)) h_) fun x9 =>
bind1 (er (.load1 (.c x9)) h_) fun x10 =>
bind1 (er (.lenL (.c x10)) h_) fun v1 =>
castInt .i64 v1 fun x11 =>
cB (x11 == (0)) (
bind1 (er (.nilck (.c r)) h_) fun x14 =>
bind1 (er (.faddr 1 (.c x14)) h_) fun x15 =>
bind2 (ev (.store 1 (.c x15) (.c (.bool true))) h_) fun u h_1 =>
bind1 (er (.loadN 3 (.c v)) h_1) fun v2 =>
castAgg v2 fun l =>
castCons l fun c l1 =>
castInt .i64 c fun x16_0 =>
castCons l1 fun c1 l2 =>
castInt .i64 c1 fun x16_1 =>
castCons l2 fun c2 l3 =>
castStr c2 fun x16_2 =>
castNil l3 (
bind2 (ev (.store 3 (.c v) (.c (.agg [(.int .i64 x16_0), (.int .i64 x16_1), (.str x16_2)]))) h_1) fun u1 h_2 =>
bind1 (evLoadN h_2 3 v) fun r1 =>
some (r1, h_2))) (
bind1 (er (.nilck (.c r)) h_) fun x18 =>
bind1 (er (.faddr 0 (.c x18)) h_) fun x19 =>
bind1 (er (.load1 (.c x19)) h_) fun x20 =>
bind1 (er (.iaddrL 1 (.c x20) (.c (.int .i64 (0)))) h_) fun x21 =>
bind1 (er (.load1 (.c x21)) h_) fun v2 =>
castInt .u8 v2 fun x22 =>
bind1 (er (.faddr 0 (.c v)) h_) fun x24 =>
bind2 (ev (.store 1 (.c x24) (.c (.int .i64 (IntKind.i64.wrap x22)))) h_) fun u h_1 =>
bind2 (F82 lf r (1) (0) h_1) fun x26 h_2 =>
bind3 (S63_0 lf r v h_2) fun ex vs h_3 =>
cB (decide (ex = .normal)) (
castNil vs (
bind1 (er (.loadN 3 (.c v)) h_3) fun v3 =>
castAgg v3 fun l =>
castCons l fun c l1 =>
castInt .i64 c fun x80_0 =>
castCons l1 fun c1 l2 =>
castInt .i64 c1 fun x80_1 =>
castCons l2 fun c2 l3 =>
castStr c2 fun x80_2 =>
castNil l3 (
bind2 (ev (.store 3 (.c v) (.c (.agg [(.int .i64 x80_0), (.int .i64 x80_1), (.str x80_2)]))) h_3) fun u1 h_4 =>
bind1 (evLoadN h_4 3 v) fun r1 =>
some (r1, h_4)))) (
cB (decide (ex = .ret)) (
castNil vs (
bind1 (evLoadN h_3 3 v) fun r1 =>
some (r1, h_3))) (
none)))
theorem F63_eq (lf : Nat) (r : V) (h : List Ob) : evCK A63 ⟨call63 lf, cvN, subC 0 (w63_0 (S63_0 lf)) (subN)⟩ k63 (entryK [r]) h (endF c63.res) = F63 lf r h := by kernel_rfl
theorem F63_ok (lf : Nat) (r : V) (h : List Ob) (r_ : V) (h_r : List Ob) (e_ : F63 lf r h = some (r_, h_r)) : CD Go.Proofs.Try.prog 63 [r] h r_ h_r :=
  CD.ofK (A := A63) (σ := ⟨call63 lf, cvN, subC 0 (w63_0 (S63_0 lf)) (subN)⟩) (c := k63) Go.Proofs.Try.func63 ok63 en63 (show 1 ≤ 81 by decide) (by kernel_rfl) (call63_ok lf) cvN_ok (And.intro True.intro (And.intro (And.intro True.intro (And.intro (And.intro True.intro (And.intro True.intro True.intro)) True.intro)) (And.intro True.intro (And.intro True.intro (And.intro (S63_0_ok lf) (And.intro True.intro True.intro)))))) ((F63_eq lf r h).trans e_)
def w63 (f : V → List Ob → Option (V × List Ob)) (vs : List V) (h : List Ob) : Option (V × List Ob) := castCons vs fun c1 l1 => castNil l1 (f c1 h)
noncomputable def W63 (lf : Nat) : List V → List Ob → Option (V × List Ob) := w63 (F63 lf)
theorem W63_ok (lf : Nat) : ∀ args h v h', W63 lf args h = some (v, h') → CD Go.Proofs.Try.prog 63 args h v h' := by
  intro vs h r h' e0
  simp only [W63, w63] at e0
  obtain ⟨c1, l1, rfl, e1⟩ := castCons_inv e0
  obtain ⟨rfl, e2⟩ := castNil_inv e1
  have e := e2
  exact F63_ok lf c1 h r h' e

/-! 39: wainscot/record.Decode -/
def A39 : List (Nat × Sh) := [(3, (.int .i64)), (6, (.int .u64)), (8, (.agg [.any, .bool])), (11, (.int .u64)), (12, (.int .u64)), (13, .bool), (14, .bool), (18, .bool), (19, .bool), (20, .bool), (21, (.int .u64)), (22, (.int .u64)), (25, (.agg [(.int .i64), (.int .i64), .str])), (31, .bool), (32, .bool), (37, (.int .i64)), (38, .bool), (39, .bool), (40, .bool), (42, (.int .i64)), (43, .bool), (44, .bool)]
noncomputable def call39 (lf : Nat) : CallS := callC 63 (W63 lf) (callC 62 (W62 lf) (callN))
theorem call39_ok (lf : Nat) : CallOk Go.Proofs.Try.prog (call39 lf) := callC_ok (W63_ok lf) (callC_ok (W62_ok lf) (callN_ok))
def o39_0 : Outs := [(.normal, [], []), ((.exit 0), [], [])]
def k39_0 : KC := (.seq (.reg [⟨(some 12), none, (.op (.mv (.t 6))), []⟩, ⟨(some 13), none, (.op (.bin .gtr (.t 12) (.c (.int .u64 0)))), []⟩, ⟨(some 14), none, (.op (.mv (.t 13))), []⟩, ⟨(some 15), (some (14, true)), (.op (.mv (.t 4))), []⟩, ⟨(some 16), (some (14, true)), (.op (.nilck (.t 15))), []⟩, ⟨(some 17), (some (14, true)), (.op (.faddr 1 (.t 16))), []⟩, ⟨(some 18), (some (14, true)), (.op (.load1 (.t 17))), []⟩, ⟨(some 19), (some (14, true)), (.op (.un .not (.t 18))), []⟩, ⟨(some 20), none, (.op (.pick (.t 14) (.t 19) (.c (.bool false)))), []⟩]) (.cond (.t 20) .skip (.exit 0)))
def w39_0 (f : V → Int → List Ob → SubR) (vs : List V) (h : List Ob) : SubR := castCons vs fun c1 l1 => castCons l1 fun c2 l2 => castInt .u64 c2 fun n3 => castNil l2 (f c1 n3 h)
noncomputable def S39_0 (lf : Nat) (r : V) (n_ : Int) (h : List Ob) : SubR :=
cB (decide (n_ > (0))) (
bind1 (er (.nilck (.c r)) h) fun x16 =>
bind1 (er (.faddr 1 (.c x16)) h) fun x17 =>
bind1 (er (.load1 (.c x17)) h) fun v =>
castBool v fun x18 =>
cB (!x18) (
some (.normal, [], h)) (
some ((.exit 0), [], h))) (
some ((.exit 0), [], h))
theorem S39_0_eq (lf : Nat) (r : V) (n_ : Int) (h : List Ob) : evCK A39 ⟨call39 lf, cvN, subN⟩ k39_0 [(4, r), (6, (.int .u64 n_))] h (endK o39_0) = S39_0 lf r n_ h := by kernel_rfl
theorem S39_0_ok (lf : Nat) : SubOk Go.Proofs.Try.prog k39_0.er [4, 6] o39_0 (w39_0 (S39_0 lf)) := by
  refine SubOk.of (A := A39) (σ := ⟨call39 lf, cvN, subN⟩) (c := k39_0) (call39_ok lf) cvN_ok (And.intro True.intro (And.intro True.intro True.intro)) ?_
  intro vs h r e0
  simp only [w39_0] at e0
  obtain ⟨c1, l1, rfl, e1⟩ := castCons_inv e0
  obtain ⟨c2, l2, rfl, e2⟩ := castCons_inv e1
  obtain ⟨y1, rfl, e3⟩ := castInt_inv e2
  obtain ⟨rfl, e4⟩ := castNil_inv e3
  have e := e4
  exact (S39_0_eq lf c1 y1 h).trans e
def o39_1 : Outs := [((.exit 0), [5], [.any])]
def k39_1 : KC := (.seq (.sub 0 k39_0.er [4, 6] o39_0) (.seq (.block 1 (.reg [⟨(some 23), none, (.op (.mv (.t 5))), []⟩, ⟨(some 24), none, (.op (.mv (.t 4))), []⟩, ⟨(some 25), none, (.call 63 [(.t 24)]), []⟩, ⟨(some 26), none, (.op (.bslice 3 (.agg [(.int .i64 0), (.int .i64 0), (.str [])]) 1 [(0, (.t 25))])), []⟩, ⟨(some 27), none, (.op (.app 3 32 (.t 23) (.t 26))), []⟩, ⟨(some 5), none, (.op (.mv (.t 27))), []⟩])) (.reg [⟨(some 21), none, (.op (.mv (.t 6))), []⟩, ⟨(some 22), none, (.op (.bin .sub (.t 21) (.c (.int .u64 1)))), []⟩, ⟨(some 6), none, (.op (.mv (.t 22))), []⟩])))
def w39_1 (f : V → V → Int → List Ob → SubR) (vs : List V) (h : List Ob) : SubR := castCons vs fun c1 l1 => castCons l1 fun c2 l2 => castCons l2 fun c3 l3 => castInt .u64 c3 fun n4 => castNil l3 (f c1 c2 n4 h)
noncomputable def B39_1 (lf : Nat) (self : V → V → Int → List Ob → SubR) (r : V) (row : V) (n_ : Int) (h : List Ob) : SubR :=
bind3 (S39_0 lf r n_ h) fun ex vs h_ =>
cB (decide (ex = .normal)) (
castNil vs (
bind2 (F63 lf r h_) fun v h_1 =>
castAgg v fun l =>
castCons l fun c l1 =>
castInt .i64 c fun x25_0 =>
castCons l1 fun c1 l2 =>
castInt .i64 c1 fun x25_1 =>
castCons l2 fun c2 l3 =>
castStr c2 fun x25_2 =>
castNil l3 (
bind2 (ev (.bslice 3 (.agg [(.int .i64 0), (.int .i64 0), (.str [])]) 1 [(0, (.c (.agg [(.int .i64 x25_0), (.int .i64 x25_1), (.str x25_2)])))]) h_1) fun x26 h_2 =>
bind2 (ev (.app 3 32 (.c row) (.c x26)) h_2) fun x27 h_3 =>
self r x27 (IntKind.u64.wrap (n_ - (1))) h_3))) (
cB (decide (ex = (.exit 0))) (
castNil vs (
some ((.exit 0), [row], h_))) (
none))
noncomputable def L39_1 (lf : Nat) : Nat → V → V → Int → List Ob → SubR
  | 0 => fun _ _ _ _ => none
  | n + 1 => B39_1 lf (L39_1 lf n)
theorem B39_1_eq (lf : Nat) (self : V → V → Int → List Ob → SubR) (r : V) (row : V) (n_ : Int) (h : List Ob) : evCK A39 ⟨call39 lf, cvN, subC 0 (w39_0 (S39_0 lf)) (subN)⟩ k39_1 [(4, r), (5, row), (6, (.int .u64 n_))] h (endL [4, 5, 6] [.any, .any, (.int .u64)] o39_1 (w39_1 self)) = B39_1 lf self r row n_ h := by kernel_rfl
theorem L39_1_ok (lf : Nat) : ∀ n, SubOk Go.Proofs.Try.prog (.loop k39_1.er) [4, 5, 6] o39_1 (w39_1 (L39_1 lf n)) := by
  refine SubOk.loop (A := A39) (σ := ⟨call39 lf, cvN, subC 0 (w39_0 (S39_0 lf)) (subN)⟩) (c := k39_1) (shs := [.any, .any, (.int .u64)]) (G := fun n => w39_1 (L39_1 lf n)) (call39_ok lf) cvN_ok (And.intro (S39_0_ok lf) (And.intro True.intro True.intro)) ?_ ?_
  · intro vs h r e0
    simp only [w39_1] at e0
    obtain ⟨c1, l1, rfl, e1⟩ := castCons_inv e0
    obtain ⟨c2, l2, rfl, e2⟩ := castCons_inv e1
    obtain ⟨c3, l3, rfl, e3⟩ := castCons_inv e2
    obtain ⟨y2, rfl, e4⟩ := castInt_inv e3
    obtain ⟨rfl, e5⟩ := castNil_inv e4
    have e := e5
    cases e
  · intro n vs h r e0
    simp only [w39_1] at e0
    obtain ⟨c1, l1, rfl, e1⟩ := castCons_inv e0
    obtain ⟨c2, l2, rfl, e2⟩ := castCons_inv e1
    obtain ⟨c3, l3, rfl, e3⟩ := castCons_inv e2
    obtain ⟨y2, rfl, e4⟩ := castInt_inv e3
    obtain ⟨rfl, e5⟩ := castNil_inv e4
    have e := e5
    exact (B39_1_eq lf (L39_1 lf n) c1 c2 y2 h).trans e
def k39 : KC := (.seq (.reg [⟨(some 2), none, (.op (.mv (.c .nils))), []⟩, ⟨(some 3), none, (.op (.mv (.c (.int .i64 0)))), []⟩]) (.seq (.reg [⟨(some 7), none, (.op (.mv (.t 0))), []⟩, ⟨(some 8), none, (.op (.build [.nils, (.bool false)] [(0, (1, (.t 7)))])), []⟩, ⟨(some 9), none, (.op (.box false (.t 8))), []⟩, ⟨(some 4), none, (.op (.mv (.t 9))), []⟩]) (.seq (.reg [⟨(some 5), none, (.op (.mv (.c .nils))), []⟩]) (.seq (.seq (.reg [⟨(some 10), none, (.op (.mv (.t 4))), []⟩, ⟨(some 11), none, (.call 62 [(.t 10)]), []⟩, ⟨(some 6), none, (.op (.mv (.t 11))), []⟩]) (.block 0 (.sub 1 (.loop k39_1.er) [4, 5, 6] o39_1))) (.seq (.seq (.reg [⟨(some 28), none, (.op (.mv (.t 4))), []⟩, ⟨(some 29), none, (.op (.nilck (.t 28))), []⟩, ⟨(some 30), none, (.op (.faddr 1 (.t 29))), []⟩, ⟨(some 31), none, (.op (.load1 (.t 30))), []⟩, ⟨(some 32), none, (.op (.mv (.t 31))), []⟩, ⟨(some 33), (some (32, false)), (.op (.mv (.t 4))), []⟩, ⟨(some 34), (some (32, false)), (.op (.nilck (.t 33))), []⟩, ⟨(some 35), (some (32, false)), (.op (.faddr 0 (.t 34))), []⟩, ⟨(some 36), (some (32, false)), (.op (.load1 (.t 35))), []⟩, ⟨(some 37), (some (32, false)), (.op (.lenL (.t 36))), []⟩, ⟨(some 38), (some (32, false)), (.op (.bin .gtr (.t 37) (.c (.int .i64 0)))), []⟩, ⟨(some 39), none, (.op (.pick (.t 32) (.c (.bool true)) (.t 38))), []⟩, ⟨(some 40), none, (.op (.mv (.t 39))), []⟩, ⟨(some 41), (some (40, false)), (.op (.mv (.t 0))), []⟩, ⟨(some 42), (some (40, false)), (.op (.lenL (.t 41))), []⟩, ⟨(some 43), (some (40, false)), (.op (.bin .gtr (.t 42) (.c (.int .i64 140)))), []⟩, ⟨(some 44), none, (.op (.pick (.t 40) (.c (.bool true)) (.t 43))), []⟩]) (.cond (.t 44) (.seq (.reg [⟨(some 2), none, (.op (.mv (.c .nils))), []⟩, ⟨(some 3), none, (.op (.mv (.c (.int .i64 2)))), []⟩]) .ret) .skip)) (.seq (.reg [⟨(some 45), none, (.op (.mv (.t 5))), []⟩, ⟨(some 2), none, (.op (.mv (.t 45))), []⟩, ⟨(some 3), none, (.op (.mv (.c (.int .i64 0)))), []⟩]) .ret))))))
noncomputable def F39 (lf : Nat) (b : V) (h : List Ob) : Option (V × List Ob) :=
bind1 (er (.build [.nils, (.bool false)] [(0, (1, (.c b)))]) h) fun v =>
castAgg v fun l =>
castCons l fun x8_0 l1 =>
castCons l1 fun c l2 =>
castBool c fun x8_1 =>
castNil l2 (
bind2 (ev (.box false (.c (.agg [x8_0, (.bool x8_1)]))) h) fun x9 h_ =>
bind2 (F62 lf x9 h_) fun v1 h_1 =>
castInt .u64 v1 fun x11 =>
bind3 (L39_1 lf lf x9 V.nils x11 h_1) fun ex vs h_2 =>
cB (decide (ex = (.exit 0))) (
castCons vs fun row l3 =>
castNil l3 (
bind1 (er (.nilck (.c x9)) h_2) fun x29 =>
bind1 (er (.faddr 1 (.c x29)) h_2) fun x30 =>
bind1 (er (.load1 (.c x30)) h_2) fun v2 =>
castBool v2 fun x31 =>
cB x31 (
some ((.tup [V.nils, (.int .i64 (2))]), h_2)) (
bind1 (er (.nilck (.c x9)) h_2) fun x34 =>
bind1 (er (.faddr 0 (.c x34)) h_2) fun x35 =>
bind1 (er (.load1 (.c x35)) h_2) fun x36 =>
bind1 (er (.lenL (.c x36)) h_2) fun v3 =>
castInt .i64 v3 fun x37 =>
cB (decide (x37 > (0))) (
some ((.tup [V.nils, (.int .i64 (2))]), h_2)) (
bind1 (er (.lenL (.c b)) h_2) fun v4 =>
castInt .i64 v4 fun x42 =>
cB (decide (x42 > (140))) (
some ((.tup [V.nils, (.int .i64 (2))]), h_2)) (
some ((.tup [row, (.int .i64 (0))]), h_2)))))) (
none))
theorem F39_eq (lf : Nat) (b : V) (h : List Ob) : evCK A39 ⟨call39 lf, cvN, subC 1 (w39_1 (L39_1 lf lf)) (subN)⟩ k39 (entryK [b]) h (endF c39.res) = F39 lf b h := by kernel_rfl
theorem F39_ok (lf : Nat) (b : V) (h : List Ob) (r_ : V) (h_r : List Ob) (e_ : F39 lf b h = some (r_, h_r)) : CD Go.Proofs.Try.prog 39 [b] h r_ h_r :=
  CD.ofK (A := A39) (σ := ⟨call39 lf, cvN, subC 1 (w39_1 (L39_1 lf lf)) (subN)⟩) (c := k39) Go.Proofs.Try.func39 ok39 en39 (show 1 ≤ 46 by decide) (by kernel_rfl) (call39_ok lf) cvN_ok (And.intro True.intro (And.intro True.intro (And.intro True.intro (And.intro (And.intro True.intro (L39_1_ok lf lf)) (And.intro (And.intro True.intro (And.intro (And.intro True.intro True.intro) True.intro)) (And.intro True.intro True.intro)))))) ((F39_eq lf b h).trans e_)
def w39 (f : V → List Ob → Option (V × List Ob)) (vs : List V) (h : List Ob) : Option (V × List Ob) := castCons vs fun c1 l1 => castNil l1 (f c1 h)
noncomputable def W39 (lf : Nat) : List V → List Ob → Option (V × List Ob) := w39 (F39 lf)
theorem W39_ok (lf : Nat) : ∀ args h v h', W39 lf args h = some (v, h') → CD Go.Proofs.Try.prog 39 args h v h' := by
  intro vs h r h' e0
  simp only [W39, w39] at e0
  obtain ⟨c1, l1, rfl, e1⟩ := castCons_inv e0
  obtain ⟨rfl, e2⟩ := castNil_inv e1
  have e := e2
  exact F39_ok lf c1 h r h' e

/-! 89: wainscot/wainscotref01.ints -/
def A89 : List (Nat × Sh) := [(0, (.int .i64)), (1, (.int .i64)), (4, (.int .i64)), (5, .bool), (6, (.int .i64)), (7, (.int .i64)), (8, .bool), (9, .bool), (10, (.int .i64)), (11, (.int .i64)), (12, .bool)]
noncomputable def call89 (lf : Nat) : CallS := callN
theorem call89_ok (lf : Nat) : CallOk Go.Proofs.Try.prog (call89 lf) := callN_ok
def k89 : KC := (.seq (.reg [⟨(some 4), none, (.op (.mv (.c (.int .i64 0)))), []⟩]) (.seq (.block 0 (.seq (.reg [⟨(some 6), none, (.op (.mv (.t 0))), []⟩, ⟨(some 7), none, (.op (.mv (.t 1))), []⟩, ⟨(some 8), none, (.op (.bin .lss (.t 6) (.t 7))), []⟩, ⟨(some 5), none, (.op (.mv (.t 8))), []⟩]) (.cond (.t 5) (.seq (.reg [⟨(some 4), none, (.op (.mv (.c (.int .i64 (-0 - 1))))), []⟩]) .ret) (.seq (.reg [⟨(some 10), none, (.op (.mv (.t 0))), []⟩, ⟨(some 11), none, (.op (.mv (.t 1))), []⟩, ⟨(some 12), none, (.op (.bin .gtr (.t 10) (.t 11))), []⟩, ⟨(some 9), none, (.op (.mv (.t 12))), []⟩]) (.cond (.t 9) (.seq (.reg [⟨(some 4), none, (.op (.mv (.c (.int .i64 1)))), []⟩]) .ret) .skip))))) (.seq (.reg [⟨(some 4), none, (.op (.mv (.c (.int .i64 0)))), []⟩]) .ret)))
noncomputable def F89 (lf : Nat) (a : Int) (b : Int) (h : List Ob) : Option (V × List Ob) :=
cB (decide (a < b)) (
some ((.int .i64 (-1)), h)) (
cB (decide (a > b)) (
some ((.int .i64 (1)), h)) (
some ((.int .i64 (0)), h)))
theorem F89_eq (lf : Nat) (a : Int) (b : Int) (h : List Ob) : evCK A89 ⟨call89 lf, cvN, subN⟩ k89 (entryK [(.int .i64 a), (.int .i64 b)]) h (endF c89.res) = F89 lf a b h := by kernel_rfl
theorem F89_ok (lf : Nat) (a : Int) (b : Int) (h : List Ob) (r_ : V) (h_r : List Ob) (e_ : F89 lf a b h = some (r_, h_r)) : CD Go.Proofs.Try.prog 89 [(.int .i64 a), (.int .i64 b)] h r_ h_r :=
  CD.ofK (A := A89) (σ := ⟨call89 lf, cvN, subN⟩) (c := k89) Go.Proofs.Try.func89 ok89 en89 (show 2 ≤ 13 by decide) (by kernel_rfl) (call89_ok lf) cvN_ok (And.intro True.intro (And.intro (And.intro True.intro (And.intro (And.intro True.intro True.intro) (And.intro True.intro (And.intro (And.intro True.intro True.intro) True.intro)))) (And.intro True.intro True.intro))) ((F89_eq lf a b h).trans e_)
def w89 (f : Int → Int → List Ob → Option (V × List Ob)) (vs : List V) (h : List Ob) : Option (V × List Ob) := castCons vs fun c1 l1 => castInt .i64 c1 fun n2 => castCons l1 fun c3 l3 => castInt .i64 c3 fun n4 => castNil l3 (f n2 n4 h)
noncomputable def W89 (lf : Nat) : List V → List Ob → Option (V × List Ob) := w89 (F89 lf)
theorem W89_ok (lf : Nat) : ∀ args h v h', W89 lf args h = some (v, h') → CD Go.Proofs.Try.prog 89 args h v h' := by
  intro vs h r h' e0
  simp only [W89, w89] at e0
  obtain ⟨c1, l1, rfl, e1⟩ := castCons_inv e0
  obtain ⟨y0, rfl, e2⟩ := castInt_inv e1
  obtain ⟨c2, l2, rfl, e3⟩ := castCons_inv e2
  obtain ⟨y1, rfl, e4⟩ := castInt_inv e3
  obtain ⟨rfl, e5⟩ := castNil_inv e4
  have e := e5
  exact F89_ok lf y0 y1 h r h' e

/-! 90: wainscot/wainscotref01.texts -/
def A90 : List (Nat × Sh) := [(0, .str), (1, .str), (4, (.int .i64)), (5, .bool), (6, .str), (7, .str), (8, .bool), (9, .bool), (10, .str), (11, .str), (12, .bool)]
noncomputable def call90 (lf : Nat) : CallS := callN
theorem call90_ok (lf : Nat) : CallOk Go.Proofs.Try.prog (call90 lf) := callN_ok
def k90 : KC := (.seq (.reg [⟨(some 4), none, (.op (.mv (.c (.int .i64 0)))), []⟩]) (.seq (.block 0 (.seq (.reg [⟨(some 6), none, (.op (.mv (.t 0))), []⟩, ⟨(some 7), none, (.op (.mv (.t 1))), []⟩, ⟨(some 8), none, (.op (.bin .lss (.t 6) (.t 7))), []⟩, ⟨(some 5), none, (.op (.mv (.t 8))), []⟩]) (.cond (.t 5) (.seq (.reg [⟨(some 4), none, (.op (.mv (.c (.int .i64 (-0 - 1))))), []⟩]) .ret) (.seq (.reg [⟨(some 10), none, (.op (.mv (.t 0))), []⟩, ⟨(some 11), none, (.op (.mv (.t 1))), []⟩, ⟨(some 12), none, (.op (.bin .gtr (.t 10) (.t 11))), []⟩, ⟨(some 9), none, (.op (.mv (.t 12))), []⟩]) (.cond (.t 9) (.seq (.reg [⟨(some 4), none, (.op (.mv (.c (.int .i64 1)))), []⟩]) .ret) .skip))))) (.seq (.reg [⟨(some 4), none, (.op (.mv (.c (.int .i64 0)))), []⟩]) .ret)))
noncomputable def F90 (lf : Nat) (a : List UInt8) (b : List UInt8) (h : List Ob) : Option (V × List Ob) :=
cB (Op.bytesLess a b) (
some ((.int .i64 (-1)), h)) (
cB (!(Op.bytesLess a b || a == b)) (
some ((.int .i64 (1)), h)) (
some ((.int .i64 (0)), h)))
theorem F90_eq (lf : Nat) (a : List UInt8) (b : List UInt8) (h : List Ob) : evCK A90 ⟨call90 lf, cvN, subN⟩ k90 (entryK [(.str a), (.str b)]) h (endF c90.res) = F90 lf a b h := by kernel_rfl
theorem F90_ok (lf : Nat) (a : List UInt8) (b : List UInt8) (h : List Ob) (r_ : V) (h_r : List Ob) (e_ : F90 lf a b h = some (r_, h_r)) : CD Go.Proofs.Try.prog 90 [(.str a), (.str b)] h r_ h_r :=
  CD.ofK (A := A90) (σ := ⟨call90 lf, cvN, subN⟩) (c := k90) Go.Proofs.Try.func90 ok90 en90 (show 2 ≤ 13 by decide) (by kernel_rfl) (call90_ok lf) cvN_ok (And.intro True.intro (And.intro (And.intro True.intro (And.intro (And.intro True.intro True.intro) (And.intro True.intro (And.intro (And.intro True.intro True.intro) True.intro)))) (And.intro True.intro True.intro))) ((F90_eq lf a b h).trans e_)
def w90 (f : List UInt8 → List UInt8 → List Ob → Option (V × List Ob)) (vs : List V) (h : List Ob) : Option (V × List Ob) := castCons vs fun c1 l1 => castStr c1 fun n2 => castCons l1 fun c3 l3 => castStr c3 fun n4 => castNil l3 (f n2 n4 h)
noncomputable def W90 (lf : Nat) : List V → List Ob → Option (V × List Ob) := w90 (F90 lf)
theorem W90_ok (lf : Nat) : ∀ args h v h', W90 lf args h = some (v, h') → CD Go.Proofs.Try.prog 90 args h v h' := by
  intro vs h r h' e0
  simp only [W90, w90] at e0
  obtain ⟨c1, l1, rfl, e1⟩ := castCons_inv e0
  obtain ⟨y0, rfl, e2⟩ := castStr_inv e1
  obtain ⟨c2, l2, rfl, e3⟩ := castCons_inv e2
  obtain ⟨y1, rfl, e4⟩ := castStr_inv e3
  obtain ⟨rfl, e5⟩ := castNil_inv e4
  have e := e5
  exact F90_ok lf y0 y1 h r h' e

/-! 83: wainscot/wainscotref01.Order -/
def A83 : List (Nat × Sh) := [(0, (.agg [(.int .i64), (.int .i64), .str])), (1, (.agg [(.int .i64), (.int .i64), .str])), (4, (.int .i64)), (6, (.int .i64)), (8, (.int .i64)), (9, .bool), (11, (.int .i64)), (13, (.int .i64)), (14, (.int .i64)), (16, (.int .i64)), (18, (.int .i64)), (19, .bool), (21, (.int .i64)), (23, (.int .i64)), (24, (.int .i64)), (26, .str), (28, .str), (29, (.int .i64))]
noncomputable def call83 (lf : Nat) : CallS := callC 90 (W90 lf) (callC 89 (W89 lf) (callN))
theorem call83_ok (lf : Nat) : CallOk Go.Proofs.Try.prog (call83 lf) := callC_ok (W90_ok lf) (callC_ok (W89_ok lf) (callN_ok))
def k83 : KC := (.seq (.reg [⟨(some 2), none, (.op (.box false (.t 0))), []⟩, ⟨(some 3), none, (.op (.box false (.t 1))), []⟩, ⟨(some 4), none, (.op (.mv (.c (.int .i64 0)))), []⟩]) (.seq (.seq (.reg [⟨(some 5), none, (.op (.faddr 0 (.t 2))), []⟩, ⟨(some 6), none, (.op (.load1 (.t 5))), []⟩, ⟨(some 7), none, (.op (.faddr 0 (.t 3))), []⟩, ⟨(some 8), none, (.op (.load1 (.t 7))), []⟩, ⟨(some 9), none, (.op (.bin .neq (.t 6) (.t 8))), []⟩]) (.cond (.t 9) (.seq (.reg [⟨(some 10), none, (.op (.faddr 0 (.t 2))), []⟩, ⟨(some 11), none, (.op (.load1 (.t 10))), []⟩, ⟨(some 12), none, (.op (.faddr 0 (.t 3))), []⟩, ⟨(some 13), none, (.op (.load1 (.t 12))), []⟩, ⟨(some 14), none, (.call 89 [(.t 11), (.t 13)]), []⟩, ⟨(some 4), none, (.op (.mv (.t 14))), []⟩]) .ret) .skip)) (.seq (.seq (.reg [⟨(some 15), none, (.op (.faddr 1 (.t 2))), []⟩, ⟨(some 16), none, (.op (.load1 (.t 15))), []⟩, ⟨(some 17), none, (.op (.faddr 1 (.t 3))), []⟩, ⟨(some 18), none, (.op (.load1 (.t 17))), []⟩, ⟨(some 19), none, (.op (.bin .neq (.t 16) (.t 18))), []⟩]) (.cond (.t 19) (.seq (.reg [⟨(some 20), none, (.op (.faddr 1 (.t 2))), []⟩, ⟨(some 21), none, (.op (.load1 (.t 20))), []⟩, ⟨(some 22), none, (.op (.faddr 1 (.t 3))), []⟩, ⟨(some 23), none, (.op (.load1 (.t 22))), []⟩, ⟨(some 24), none, (.call 89 [(.t 21), (.t 23)]), []⟩, ⟨(some 4), none, (.op (.mv (.t 24))), []⟩]) .ret) .skip)) (.seq (.reg [⟨(some 25), none, (.op (.faddr 2 (.t 2))), []⟩, ⟨(some 26), none, (.op (.load1 (.t 25))), []⟩, ⟨(some 27), none, (.op (.faddr 2 (.t 3))), []⟩, ⟨(some 28), none, (.op (.load1 (.t 27))), []⟩, ⟨(some 29), none, (.call 90 [(.t 26), (.t 28)]), []⟩, ⟨(some 4), none, (.op (.mv (.t 29))), []⟩]) .ret))))
noncomputable def F83 (lf : Nat) (a : Int) (a1 : Int) (a2 : List UInt8) (b : Int) (b1 : Int) (b2 : List UInt8) (h : List Ob) : Option (V × List Ob) :=
bind2 (ev (.box false (.c (.agg [(.int .i64 a), (.int .i64 a1), (.str a2)]))) h) fun a3 h_ =>
bind2 (ev (.box false (.c (.agg [(.int .i64 b), (.int .i64 b1), (.str b2)]))) h_) fun b3 h_1 =>
bind1 (er (.faddr 0 (.c a3)) h_1) fun x5 =>
bind1 (er (.load1 (.c x5)) h_1) fun v =>
castInt .i64 v fun x6 =>
bind1 (er (.faddr 0 (.c b3)) h_1) fun x7 =>
bind1 (er (.load1 (.c x7)) h_1) fun v1 =>
castInt .i64 v1 fun x8 =>
cB (x6 != x8) (
bind1 (er (.faddr 0 (.c a3)) h_1) fun x10 =>
bind1 (er (.load1 (.c x10)) h_1) fun v2 =>
castInt .i64 v2 fun x11 =>
bind1 (er (.faddr 0 (.c b3)) h_1) fun x12 =>
bind1 (er (.load1 (.c x12)) h_1) fun v3 =>
castInt .i64 v3 fun x13 =>
bind2 (F89 lf x11 x13 h_1) fun v4 h_2 =>
castInt .i64 v4 fun x14 =>
some ((.int .i64 x14), h_2)) (
bind1 (er (.faddr 1 (.c a3)) h_1) fun x15 =>
bind1 (er (.load1 (.c x15)) h_1) fun v2 =>
castInt .i64 v2 fun x16 =>
bind1 (er (.faddr 1 (.c b3)) h_1) fun x17 =>
bind1 (er (.load1 (.c x17)) h_1) fun v3 =>
castInt .i64 v3 fun x18 =>
cB (x16 != x18) (
bind1 (er (.faddr 1 (.c a3)) h_1) fun x20 =>
bind1 (er (.load1 (.c x20)) h_1) fun v4 =>
castInt .i64 v4 fun x21 =>
bind1 (er (.faddr 1 (.c b3)) h_1) fun x22 =>
bind1 (er (.load1 (.c x22)) h_1) fun v5 =>
castInt .i64 v5 fun x23 =>
bind2 (F89 lf x21 x23 h_1) fun v6 h_2 =>
castInt .i64 v6 fun x24 =>
some ((.int .i64 x24), h_2)) (
bind1 (er (.faddr 2 (.c a3)) h_1) fun x25 =>
bind1 (er (.load1 (.c x25)) h_1) fun v4 =>
castStr v4 fun x26 =>
bind1 (er (.faddr 2 (.c b3)) h_1) fun x27 =>
bind1 (er (.load1 (.c x27)) h_1) fun v5 =>
castStr v5 fun x28 =>
bind2 (F90 lf x26 x28 h_1) fun v6 h_2 =>
castInt .i64 v6 fun x29 =>
some ((.int .i64 x29), h_2)))
theorem F83_eq (lf : Nat) (a : Int) (a1 : Int) (a2 : List UInt8) (b : Int) (b1 : Int) (b2 : List UInt8) (h : List Ob) : evCK A83 ⟨call83 lf, cvN, subN⟩ k83 (entryK [(.agg [(.int .i64 a), (.int .i64 a1), (.str a2)]), (.agg [(.int .i64 b), (.int .i64 b1), (.str b2)])]) h (endF c83.res) = F83 lf a a1 a2 b b1 b2 h := by kernel_rfl
theorem F83_ok (lf : Nat) (a : Int) (a1 : Int) (a2 : List UInt8) (b : Int) (b1 : Int) (b2 : List UInt8) (h : List Ob) (r_ : V) (h_r : List Ob) (e_ : F83 lf a a1 a2 b b1 b2 h = some (r_, h_r)) : CD Go.Proofs.Try.prog 83 [(.agg [(.int .i64 a), (.int .i64 a1), (.str a2)]), (.agg [(.int .i64 b), (.int .i64 b1), (.str b2)])] h r_ h_r :=
  CD.ofK (A := A83) (σ := ⟨call83 lf, cvN, subN⟩) (c := k83) Go.Proofs.Try.func83 ok83 en83 (show 2 ≤ 30 by decide) (by kernel_rfl) (call83_ok lf) cvN_ok (And.intro True.intro (And.intro (And.intro True.intro (And.intro (And.intro True.intro True.intro) True.intro)) (And.intro (And.intro True.intro (And.intro (And.intro True.intro True.intro) True.intro)) (And.intro True.intro True.intro)))) ((F83_eq lf a a1 a2 b b1 b2 h).trans e_)
def w83 (f : Int → Int → List UInt8 → Int → Int → List UInt8 → List Ob → Option (V × List Ob)) (vs : List V) (h : List Ob) : Option (V × List Ob) := castCons vs fun c1 l1 => castAgg c1 fun n2 => castCons n2 fun c3 l3 => castInt .i64 c3 fun n4 => castCons l3 fun c5 l5 => castInt .i64 c5 fun n6 => castCons l5 fun c7 l7 => castStr c7 fun n8 => castNil l7 (castCons l1 fun c9 l9 => castAgg c9 fun n10 => castCons n10 fun c11 l11 => castInt .i64 c11 fun n12 => castCons l11 fun c13 l13 => castInt .i64 c13 fun n14 => castCons l13 fun c15 l15 => castStr c15 fun n16 => castNil l15 (castNil l9 (f n4 n6 n8 n12 n14 n16 h)))
noncomputable def W83 (lf : Nat) : List V → List Ob → Option (V × List Ob) := w83 (F83 lf)
theorem W83_ok (lf : Nat) : ∀ args h v h', W83 lf args h = some (v, h') → CD Go.Proofs.Try.prog 83 args h v h' := by
  intro vs h r h' e0
  simp only [W83, w83] at e0
  obtain ⟨c1, l1, rfl, e1⟩ := castCons_inv e0
  obtain ⟨l2, rfl, e2⟩ := castAgg_inv e1
  obtain ⟨c3, l3, rfl, e3⟩ := castCons_inv e2
  obtain ⟨y0, rfl, e4⟩ := castInt_inv e3
  obtain ⟨c4, l4, rfl, e5⟩ := castCons_inv e4
  obtain ⟨y1, rfl, e6⟩ := castInt_inv e5
  obtain ⟨c5, l5, rfl, e7⟩ := castCons_inv e6
  obtain ⟨y2, rfl, e8⟩ := castStr_inv e7
  obtain ⟨rfl, e9⟩ := castNil_inv e8
  obtain ⟨c6, l6, rfl, e10⟩ := castCons_inv e9
  obtain ⟨l7, rfl, e11⟩ := castAgg_inv e10
  obtain ⟨c8, l8, rfl, e12⟩ := castCons_inv e11
  obtain ⟨y3, rfl, e13⟩ := castInt_inv e12
  obtain ⟨c9, l9, rfl, e14⟩ := castCons_inv e13
  obtain ⟨y4, rfl, e15⟩ := castInt_inv e14
  obtain ⟨c10, l10, rfl, e16⟩ := castCons_inv e15
  obtain ⟨y5, rfl, e17⟩ := castStr_inv e16
  obtain ⟨rfl, e18⟩ := castNil_inv e17
  obtain ⟨rfl, e19⟩ := castNil_inv e18
  have e := e19
  exact F83_ok lf y0 y1 y2 y3 y4 y5 h r h' e

/-! 64: wainscot/wainscotref01.Rows -/
def A64 : List (Nat × Sh) := [(4, (.int .i64)), (5, (.int .i64)), (6, (.int .i64)), (8, (.int .i64)), (9, (.int .i64)), (10, .bool), (11, (.int .i64)), (12, (.int .i64)), (14, (.int .i64)), (15, .bool), (17, (.int .i64)), (19, (.agg [(.int .i64), (.int .i64), .str])), (21, (.int .i64)), (23, (.agg [(.int .i64), (.int .i64), .str])), (24, (.int .i64)), (25, (.int .i64)), (26, .bool), (27, (.int .i64)), (28, (.int .i64)), (30, (.int .i64)), (32, (.int .i64)), (33, .bool)]
noncomputable def call64 (lf : Nat) : CallS := callC 83 (W83 lf) (callN)
theorem call64_ok (lf : Nat) : CallOk Go.Proofs.Try.prog (call64 lf) := callC_ok (W83_ok lf) (callN_ok)
def o64_0 : Outs := [((.exit 0), [], []), (.ret, [4], [(.int .i64)])]
def k64_0 : KC := (.seq (.reg [⟨(some 10), none, (.op (.bin .lss (.t 9) (.t 8))), []⟩]) (.seq (.cond (.t 10) .skip (.exit 0)) (.seq (.block 1 (.seq (.reg [⟨(some 11), none, (.op (.mv (.t 9))), []⟩, ⟨(some 5), none, (.op (.mv (.t 11))), []⟩]) (.seq (.seq (.reg [⟨(some 12), none, (.op (.mv (.t 5))), []⟩, ⟨(some 13), none, (.op (.mv (.t 1))), []⟩, ⟨(some 14), none, (.op (.lenL (.t 13))), []⟩, ⟨(some 15), none, (.op (.bin .geq (.t 12) (.t 14))), []⟩]) (.cond (.t 15) (.seq (.reg [⟨(some 4), none, (.op (.mv (.c (.int .i64 1)))), []⟩]) .ret) .skip)) (.seq (.reg [⟨(some 16), none, (.op (.mv (.t 0))), []⟩, ⟨(some 17), none, (.op (.mv (.t 5))), []⟩, ⟨(some 18), none, (.op (.iaddrL 3 (.t 16) (.t 17))), []⟩, ⟨(some 19), none, (.op (.loadN 3 (.t 18))), []⟩, ⟨(some 20), none, (.op (.mv (.t 1))), []⟩, ⟨(some 21), none, (.op (.mv (.t 5))), []⟩, ⟨(some 22), none, (.op (.iaddrL 3 (.t 20) (.t 21))), []⟩, ⟨(some 23), none, (.op (.loadN 3 (.t 22))), []⟩, ⟨(some 24), none, (.call 83 [(.t 19), (.t 23)]), []⟩, ⟨(some 6), none, (.op (.mv (.t 24))), []⟩]) (.seq (.reg [⟨(some 25), none, (.op (.mv (.t 6))), []⟩, ⟨(some 26), none, (.op (.bin .neq (.t 25) (.c (.int .i64 0)))), []⟩]) (.cond (.t 26) (.seq (.reg [⟨(some 27), none, (.op (.mv (.t 6))), []⟩, ⟨(some 4), none, (.op (.mv (.t 27))), []⟩]) .ret) .skip)))))) (.reg [⟨(some 28), none, (.op (.bin .add (.t 9) (.c (.int .i64 1)))), []⟩, ⟨(some 9), none, (.op (.mv (.t 28))), []⟩]))))
def w64_0 (f : V → V → Int → Int → List Ob → SubR) (vs : List V) (h : List Ob) : SubR := castCons vs fun c1 l1 => castCons l1 fun c2 l2 => castCons l2 fun c3 l3 => castInt .i64 c3 fun n4 => castCons l3 fun c5 l5 => castInt .i64 c5 fun n6 => castNil l5 (f c1 c2 n4 n6 h)
noncomputable def B64_0 (lf : Nat) (self : V → V → Int → Int → List Ob → SubR) (a : V) (b : V) (x8 : Int) (x9 : Int) (h : List Ob) : SubR :=
cB (decide (x9 < x8)) (
bind1 (er (.lenL (.c b)) h) fun v =>
castInt .i64 v fun x14 =>
cB (decide (x9 ≥ x14)) (
some (.ret, [(.int .i64 (1))], h)) (
bind1 (er (.iaddrL 3 (.c a) (.c (.int .i64 x9))) h) fun x18 =>
bind1 (er (.loadN 3 (.c x18)) h) fun v1 =>
castAgg v1 fun l =>
castCons l fun c l1 =>
castInt .i64 c fun x19_0 =>
castCons l1 fun c1 l2 =>
castInt .i64 c1 fun x19_1 =>
castCons l2 fun c2 l3 =>
castStr c2 fun x19_2 =>
castNil l3 (
bind1 (er (.iaddrL 3 (.c b) (.c (.int .i64 x9))) h) fun x22 =>
bind1 (er (.loadN 3 (.c x22)) h) fun v2 =>
castAgg v2 fun l4 =>
castCons l4 fun c3 l5 =>
castInt .i64 c3 fun x23_0 =>
castCons l5 fun c4 l6 =>
castInt .i64 c4 fun x23_1 =>
castCons l6 fun c5 l7 =>
castStr c5 fun x23_2 =>
castNil l7 (
bind2 (F83 lf x19_0 x19_1 x19_2 x23_0 x23_1 x23_2 h) fun v3 h_ =>
castInt .i64 v3 fun x24 =>
cB (x24 != (0)) (
some (.ret, [(.int .i64 x24)], h_)) (
self a b x8 (IntKind.i64.wrap (x9 + (1))) h_))))) (
some ((.exit 0), [], h))
noncomputable def L64_0 (lf : Nat) : Nat → V → V → Int → Int → List Ob → SubR
  | 0 => fun _ _ _ _ _ => none
  | n + 1 => B64_0 lf (L64_0 lf n)
theorem B64_0_eq (lf : Nat) (self : V → V → Int → Int → List Ob → SubR) (a : V) (b : V) (x8 : Int) (x9 : Int) (h : List Ob) : evCK A64 ⟨call64 lf, cvN, subN⟩ k64_0 [(0, a), (1, b), (8, (.int .i64 x8)), (9, (.int .i64 x9))] h (endL [0, 1, 8, 9] [.any, .any, (.int .i64), (.int .i64)] o64_0 (w64_0 self)) = B64_0 lf self a b x8 x9 h := by kernel_rfl
theorem L64_0_ok (lf : Nat) : ∀ n, SubOk Go.Proofs.Try.prog (.loop k64_0.er) [0, 1, 8, 9] o64_0 (w64_0 (L64_0 lf n)) := by
  refine SubOk.loop (A := A64) (σ := ⟨call64 lf, cvN, subN⟩) (c := k64_0) (shs := [.any, .any, (.int .i64), (.int .i64)]) (G := fun n => w64_0 (L64_0 lf n)) (call64_ok lf) cvN_ok (And.intro True.intro (And.intro (And.intro True.intro True.intro) (And.intro (And.intro True.intro (And.intro (And.intro True.intro (And.intro (And.intro True.intro True.intro) True.intro)) (And.intro True.intro (And.intro True.intro (And.intro (And.intro True.intro True.intro) True.intro))))) True.intro))) ?_ ?_
  · intro vs h r e0
    simp only [w64_0] at e0
    obtain ⟨c1, l1, rfl, e1⟩ := castCons_inv e0
    obtain ⟨c2, l2, rfl, e2⟩ := castCons_inv e1
    obtain ⟨c3, l3, rfl, e3⟩ := castCons_inv e2
    obtain ⟨y2, rfl, e4⟩ := castInt_inv e3
    obtain ⟨c4, l4, rfl, e5⟩ := castCons_inv e4
    obtain ⟨y3, rfl, e6⟩ := castInt_inv e5
    obtain ⟨rfl, e7⟩ := castNil_inv e6
    have e := e7
    cases e
  · intro n vs h r e0
    simp only [w64_0] at e0
    obtain ⟨c1, l1, rfl, e1⟩ := castCons_inv e0
    obtain ⟨c2, l2, rfl, e2⟩ := castCons_inv e1
    obtain ⟨c3, l3, rfl, e3⟩ := castCons_inv e2
    obtain ⟨y2, rfl, e4⟩ := castInt_inv e3
    obtain ⟨c4, l4, rfl, e5⟩ := castCons_inv e4
    obtain ⟨y3, rfl, e6⟩ := castInt_inv e5
    obtain ⟨rfl, e7⟩ := castNil_inv e6
    have e := e7
    exact (B64_0_eq lf (L64_0 lf n) c1 c2 y2 y3 h).trans e
def k64 : KC := (.seq (.reg [⟨(some 4), none, (.op (.mv (.c (.int .i64 0)))), []⟩]) (.seq (.seq (.reg [⟨(some 7), none, (.op (.mv (.t 0))), []⟩, ⟨(some 8), none, (.op (.lenL (.t 7))), []⟩, ⟨(some 9), none, (.op (.mv (.c (.int .i64 0)))), []⟩]) (.block 0 (.sub 0 (.loop k64_0.er) [0, 1, 8, 9] o64_0))) (.seq (.seq (.reg [⟨(some 29), none, (.op (.mv (.t 0))), []⟩, ⟨(some 30), none, (.op (.lenL (.t 29))), []⟩, ⟨(some 31), none, (.op (.mv (.t 1))), []⟩, ⟨(some 32), none, (.op (.lenL (.t 31))), []⟩, ⟨(some 33), none, (.op (.bin .lss (.t 30) (.t 32))), []⟩]) (.cond (.t 33) (.seq (.reg [⟨(some 4), none, (.op (.mv (.c (.int .i64 (-0 - 1))))), []⟩]) .ret) .skip)) (.seq (.reg [⟨(some 4), none, (.op (.mv (.c (.int .i64 0)))), []⟩]) .ret))))
noncomputable def F64 (lf : Nat) (a : V) (b : V) (h : List Ob) : Option (V × List Ob) :=
bind1 (er (.lenL (.c a)) h) fun v =>
castInt .i64 v fun x8 =>
bind3 (L64_0 lf lf a b x8 (0) h) fun ex vs h_ =>
cB (decide (ex = (.exit 0))) (
castNil vs (
bind1 (er (.lenL (.c a)) h_) fun v1 =>
castInt .i64 v1 fun x30 =>
bind1 (er (.lenL (.c b)) h_) fun v2 =>
castInt .i64 v2 fun x32 =>
cB (decide (x30 < x32)) (
some ((.int .i64 (-1)), h_)) (
some ((.int .i64 (0)), h_)))) (
cB (decide (ex = .ret)) (
castCons vs fun c l =>
castInt .i64 c fun x4 =>
castNil l (
some ((.int .i64 x4), h_))) (
none))
theorem F64_eq (lf : Nat) (a : V) (b : V) (h : List Ob) : evCK A64 ⟨call64 lf, cvN, subC 0 (w64_0 (L64_0 lf lf)) (subN)⟩ k64 (entryK [a, b]) h (endF c64.res) = F64 lf a b h := by kernel_rfl
theorem F64_ok (lf : Nat) (a : V) (b : V) (h : List Ob) (r_ : V) (h_r : List Ob) (e_ : F64 lf a b h = some (r_, h_r)) : CD Go.Proofs.Try.prog 64 [a, b] h r_ h_r :=
  CD.ofK (A := A64) (σ := ⟨call64 lf, cvN, subC 0 (w64_0 (L64_0 lf lf)) (subN)⟩) (c := k64) Go.Proofs.Try.func64 ok64 en64 (show 2 ≤ 34 by decide) (by kernel_rfl) (call64_ok lf) cvN_ok (And.intro True.intro (And.intro (And.intro True.intro (L64_0_ok lf lf)) (And.intro (And.intro True.intro (And.intro (And.intro True.intro True.intro) True.intro)) (And.intro True.intro True.intro)))) ((F64_eq lf a b h).trans e_)
def w64 (f : V → V → List Ob → Option (V × List Ob)) (vs : List V) (h : List Ob) : Option (V × List Ob) := castCons vs fun c1 l1 => castCons l1 fun c2 l2 => castNil l2 (f c1 c2 h)
noncomputable def W64 (lf : Nat) : List V → List Ob → Option (V × List Ob) := w64 (F64 lf)
theorem W64_ok (lf : Nat) : ∀ args h v h', W64 lf args h = some (v, h') → CD Go.Proofs.Try.prog 64 args h v h' := by
  intro vs h r h' e0
  simp only [W64, w64] at e0
  obtain ⟨c1, l1, rfl, e1⟩ := castCons_inv e0
  obtain ⟨c2, l2, rfl, e2⟩ := castCons_inv e1
  obtain ⟨rfl, e3⟩ := castNil_inv e2
  have e := e3
  exact F64_ok lf c1 c2 h r h' e

/-! 40: wainscot/wainscotref01.Same -/
def A40 : List (Nat × Sh) := [(4, .bool), (6, (.int .i64)), (8, (.int .i64)), (9, .bool), (10, .bool), (13, (.int .i64)), (14, .bool), (15, .bool)]
noncomputable def call40 (lf : Nat) : CallS := callC 64 (W64 lf) (callN)
theorem call40_ok (lf : Nat) : CallOk Go.Proofs.Try.prog (call40 lf) := callC_ok (W64_ok lf) (callN_ok)
def k40 : KC := (.seq (.reg [⟨(some 4), none, (.op (.mv (.c (.bool false)))), []⟩]) (.seq (.reg [⟨(some 5), none, (.op (.mv (.t 0))), []⟩, ⟨(some 6), none, (.op (.lenL (.t 5))), []⟩, ⟨(some 7), none, (.op (.mv (.t 1))), []⟩, ⟨(some 8), none, (.op (.lenL (.t 7))), []⟩, ⟨(some 9), none, (.op (.bin .eql (.t 6) (.t 8))), []⟩, ⟨(some 10), none, (.op (.mv (.t 9))), []⟩, ⟨(some 11), (some (10, true)), (.op (.mv (.t 0))), []⟩, ⟨(some 12), (some (10, true)), (.op (.mv (.t 1))), []⟩, ⟨(some 13), (some (10, true)), (.call 64 [(.t 11), (.t 12)]), []⟩, ⟨(some 14), (some (10, true)), (.op (.bin .eql (.t 13) (.c (.int .i64 0)))), []⟩, ⟨(some 15), none, (.op (.pick (.t 10) (.t 14) (.c (.bool false)))), []⟩, ⟨(some 4), none, (.op (.mv (.t 15))), []⟩]) .ret))
noncomputable def F40 (lf : Nat) (a : V) (b : V) (h : List Ob) : Option (V × List Ob) :=
bind1 (er (.lenL (.c a)) h) fun v =>
castInt .i64 v fun x6 =>
bind1 (er (.lenL (.c b)) h) fun v1 =>
castInt .i64 v1 fun x8 =>
cB (x6 == x8) (
bind2 (F64 lf a b h) fun v2 h_ =>
castInt .i64 v2 fun x13 =>
some ((.bool (x13 == (0))), h_)) (
some ((.bool false), h))
theorem F40_eq (lf : Nat) (a : V) (b : V) (h : List Ob) : evCK A40 ⟨call40 lf, cvN, subN⟩ k40 (entryK [a, b]) h (endF c40.res) = F40 lf a b h := by kernel_rfl
theorem F40_ok (lf : Nat) (a : V) (b : V) (h : List Ob) (r_ : V) (h_r : List Ob) (e_ : F40 lf a b h = some (r_, h_r)) : CD Go.Proofs.Try.prog 40 [a, b] h r_ h_r :=
  CD.ofK (A := A40) (σ := ⟨call40 lf, cvN, subN⟩) (c := k40) Go.Proofs.Try.func40 ok40 en40 (show 2 ≤ 16 by decide) (by kernel_rfl) (call40_ok lf) cvN_ok (And.intro True.intro (And.intro True.intro True.intro)) ((F40_eq lf a b h).trans e_)
def w40 (f : V → V → List Ob → Option (V × List Ob)) (vs : List V) (h : List Ob) : Option (V × List Ob) := castCons vs fun c1 l1 => castCons l1 fun c2 l2 => castNil l2 (f c1 c2 h)
noncomputable def W40 (lf : Nat) : List V → List Ob → Option (V × List Ob) := w40 (F40 lf)
theorem W40_ok (lf : Nat) : ∀ args h v h', W40 lf args h = some (v, h') → CD Go.Proofs.Try.prog 40 args h v h' := by
  intro vs h r h' e0
  simp only [W40, w40] at e0
  obtain ⟨c1, l1, rfl, e1⟩ := castCons_inv e0
  obtain ⟨c2, l2, rfl, e2⟩ := castCons_inv e1
  obtain ⟨rfl, e3⟩ := castNil_inv e2
  have e := e3
  exact F40_ok lf c1 c2 h r h' e

end Go.Proofs.Ytdcdmpgigmhhpaa.Rc
