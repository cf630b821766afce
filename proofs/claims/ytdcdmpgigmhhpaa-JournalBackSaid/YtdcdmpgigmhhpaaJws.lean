/- Functions of the program as Lean functions, and that each call comes to what its function says. Printed by my own tool. No condition. -/
import Derived.Test.YtdcdmpgigmhhpaaJw
import Derived.Test.YtdcdmpgigmhhpaaL4
namespace Go.Proofs.Ytdcdmpgigmhhpaa.Jw
open Go Go.Proofs.Ytdcdmpgigmhhpaa.E
set_option maxRecDepth 100000
set_option linter.unusedVariables false
set_option linter.unusedSimpArgs false

/-! 24: wainscot/journal.Sum -/
def A24 : List (Nat × Sh) := [(2, (.int .u32)), (3, (.int .u32)), (5, (.int .u8)), (7, (.int .i64)), (8, (.int .i64)), (9, .bool), (11, (.int .u8)), (12, (.int .u32)), (13, (.int .u8)), (14, (.int .u32)), (15, (.int .u32)), (16, (.int .u32)), (17, (.int .i64)), (18, (.int .u32))]
noncomputable def call24 (lf : Nat) : CallS := callN
theorem call24_ok (lf : Nat) : CallOk Go.Proofs.Try.prog (call24 lf) := callN_ok
def o24_0 : Outs := [((.exit 0), [3], [(.int .u32)])]
def k24_0 : KC := (.seq (.reg [⟨(some 9), none, (.op (.bin .lss (.t 8) (.t 7))), []⟩]) (.seq (.cond (.t 9) .skip (.exit 0)) (.seq (.block 1 (.seq (.reg [⟨(some 10), none, (.op (.iaddrL 1 (.t 6) (.t 8))), []⟩, ⟨(some 11), none, (.op (.load1 (.t 10))), []⟩, ⟨(some 5), none, (.op (.mv (.t 11))), []⟩]) (.reg [⟨(some 12), none, (.op (.mv (.t 3))), []⟩, ⟨(some 13), none, (.op (.mv (.t 5))), []⟩, ⟨(some 14), none, (.op (.toInt .u32 (.t 13))), []⟩, ⟨(some 15), none, (.op (.bin .xor (.t 12) (.t 14))), []⟩, ⟨(some 16), none, (.op (.bin .mul (.t 15) (.c (.int .u32 16777619)))), []⟩, ⟨(some 3), none, (.op (.mv (.t 16))), []⟩]))) (.reg [⟨(some 17), none, (.op (.bin .add (.t 8) (.c (.int .i64 1)))), []⟩, ⟨(some 8), none, (.op (.mv (.t 17))), []⟩]))))
def w24_0 (f : Int → V → Int → Int → List Ob → SubR) (vs : List V) (h : List Ob) : SubR := castCons vs fun c1 l1 => castInt .u32 c1 fun n2 => castCons l1 fun c3 l3 => castCons l3 fun c4 l4 => castInt .i64 c4 fun n5 => castCons l4 fun c6 l6 => castInt .i64 c6 fun n7 => castNil l6 (f n2 c3 n5 n7 h)
noncomputable def B24_0 (lf : Nat) (self : Int → V → Int → Int → List Ob → SubR) (n_ : Int) (x6 : V) (x7 : Int) (x8 : Int) (h : List Ob) : SubR :=
cB (decide (x8 < x7)) (
bind1 (er (.iaddrL 1 (.c x6) (.c (.int .i64 x8))) h) fun x10 =>
bind1 (er (.load1 (.c x10)) h) fun v =>
castInt .u8 v fun x11 =>
self (IntKind.u32.wrap ((bits .xor .u32 n_ (IntKind.u32.wrap x11)) * (16777619))) x6 x7 (IntKind.i64.wrap (x8 + (1))) h) (
some ((.exit 0), [(.int .u32 n_)], h))
noncomputable def L24_0 (lf : Nat) : Nat → Int → V → Int → Int → List Ob → SubR
  | 0 => fun _ _ _ _ _ => none
  | n + 1 => B24_0 lf (L24_0 lf n)
theorem B24_0_eq (lf : Nat) (self : Int → V → Int → Int → List Ob → SubR) (n_ : Int) (x6 : V) (x7 : Int) (x8 : Int) (h : List Ob) : evCK A24 ⟨call24 lf, cvN, subN⟩ k24_0 [(3, (.int .u32 n_)), (6, x6), (7, (.int .i64 x7)), (8, (.int .i64 x8))] h (endL [3, 6, 7, 8] [(.int .u32), .any, (.int .i64), (.int .i64)] o24_0 (w24_0 self)) = B24_0 lf self n_ x6 x7 x8 h := by kernel_rfl
theorem L24_0_ok (lf : Nat) : ∀ n, SubOk Go.Proofs.Try.prog (.loop k24_0.er) [3, 6, 7, 8] o24_0 (w24_0 (L24_0 lf n)) := by
  refine SubOk.loop (A := A24) (σ := ⟨call24 lf, cvN, subN⟩) (c := k24_0) (shs := [(.int .u32), .any, (.int .i64), (.int .i64)]) (G := fun n => w24_0 (L24_0 lf n)) (call24_ok lf) cvN_ok (And.intro True.intro (And.intro (And.intro True.intro True.intro) (And.intro (And.intro True.intro True.intro) True.intro))) ?_ ?_
  · intro vs h r e0
    simp only [w24_0] at e0
    obtain ⟨c1, l1, rfl, e1⟩ := castCons_inv e0
    obtain ⟨y0, rfl, e2⟩ := castInt_inv e1
    obtain ⟨c2, l2, rfl, e3⟩ := castCons_inv e2
    obtain ⟨c3, l3, rfl, e4⟩ := castCons_inv e3
    obtain ⟨y2, rfl, e5⟩ := castInt_inv e4
    obtain ⟨c4, l4, rfl, e6⟩ := castCons_inv e5
    obtain ⟨y3, rfl, e7⟩ := castInt_inv e6
    obtain ⟨rfl, e8⟩ := castNil_inv e7
    have e := e8
    cases e
  · intro n vs h r e0
    simp only [w24_0] at e0
    obtain ⟨c1, l1, rfl, e1⟩ := castCons_inv e0
    obtain ⟨y0, rfl, e2⟩ := castInt_inv e1
    obtain ⟨c2, l2, rfl, e3⟩ := castCons_inv e2
    obtain ⟨c3, l3, rfl, e4⟩ := castCons_inv e3
    obtain ⟨y2, rfl, e5⟩ := castInt_inv e4
    obtain ⟨c4, l4, rfl, e6⟩ := castCons_inv e5
    obtain ⟨y3, rfl, e7⟩ := castInt_inv e6
    obtain ⟨rfl, e8⟩ := castNil_inv e7
    have e := e8
    exact (B24_0_eq lf (L24_0 lf n) y0 c2 y2 y3 h).trans e
def k24 : KC := (.seq (.reg [⟨(some 2), none, (.op (.mv (.c (.int .u32 0)))), []⟩]) (.seq (.reg [⟨(some 3), none, (.op (.mv (.c (.int .u32 2166136261)))), []⟩]) (.seq (.seq (.reg [⟨(some 6), none, (.op (.mv (.t 0))), []⟩, ⟨(some 7), none, (.op (.lenL (.t 6))), []⟩, ⟨(some 8), none, (.op (.mv (.c (.int .i64 0)))), []⟩]) (.block 0 (.sub 0 (.loop k24_0.er) [3, 6, 7, 8] o24_0))) (.seq (.reg [⟨(some 18), none, (.op (.mv (.t 3))), []⟩, ⟨(some 2), none, (.op (.mv (.t 18))), []⟩]) .ret))))
noncomputable def F24 (lf : Nat) (b : V) (h : List Ob) : Option (V × List Ob) :=
bind1 (er (.lenL (.c b)) h) fun v =>
castInt .i64 v fun x7 =>
bind3 (L24_0 lf lf (2166136261) b x7 (0) h) fun ex vs h_ =>
cB (decide (ex = (.exit 0))) (
castCons vs fun c l =>
castInt .u32 c fun n_ =>
castNil l (
some ((.int .u32 n_), h_))) (
none)
theorem F24_eq (lf : Nat) (b : V) (h : List Ob) : evCK A24 ⟨call24 lf, cvN, subC 0 (w24_0 (L24_0 lf lf)) (subN)⟩ k24 (entryK [b]) h (endF c24.res) = F24 lf b h := by kernel_rfl
theorem F24_ok (lf : Nat) (b : V) (h : List Ob) (r_ : V) (h_r : List Ob) (e_ : F24 lf b h = some (r_, h_r)) : CD Go.Proofs.Try.prog 24 [b] h r_ h_r :=
  CD.ofK (A := A24) (σ := ⟨call24 lf, cvN, subC 0 (w24_0 (L24_0 lf lf)) (subN)⟩) (c := k24) Go.Proofs.Try.func24 ok24 en24 (show 1 ≤ 19 by decide) (by kernel_rfl) (call24_ok lf) cvN_ok (And.intro True.intro (And.intro True.intro (And.intro (And.intro True.intro (L24_0_ok lf lf)) (And.intro True.intro True.intro)))) ((F24_eq lf b h).trans e_)
def w24 (f : V → List Ob → Option (V × List Ob)) (vs : List V) (h : List Ob) : Option (V × List Ob) := castCons vs fun c1 l1 => castNil l1 (f c1 h)
noncomputable def W24 (lf : Nat) : List V → List Ob → Option (V × List Ob) := w24 (F24 lf)
theorem W24_ok (lf : Nat) : ∀ args h v h', W24 lf args h = some (v, h') → CD Go.Proofs.Try.prog 24 args h v h' := by
  intro vs h r h' e0
  simp only [W24, w24] at e0
  obtain ⟨c1, l1, rfl, e1⟩ := castCons_inv e0
  obtain ⟨rfl, e2⟩ := castNil_inv e1
  have e := e2
  exact F24_ok lf c1 h r h' e

/-! 49: wainscot/journal.put -/
def A49 : List (Nat × Sh) := [(1, (.int .u64)), (2, (.int .i64)), (7, (.int .i64)), (8, (.int .i64)), (9, (.int .i64)), (10, (.int .i64)), (11, .bool), (12, (.int .i64)), (13, (.int .i64)), (15, (.int .u64)), (16, (.int .i64)), (17, (.int .i64)), (18, (.int .u64)), (19, (.int .u8))]
noncomputable def call49 (lf : Nat) : CallS := callN
theorem call49_ok (lf : Nat) : CallOk Go.Proofs.Try.prog (call49 lf) := callN_ok
def o49_0 : Outs := [((.exit 0), [0], [.any])]
def k49_0 : KC := (.seq (.seq (.reg [⟨(some 10), none, (.op (.mv (.t 7))), []⟩, ⟨(some 11), none, (.op (.bin .geq (.t 10) (.c (.int .i64 0)))), []⟩]) (.cond (.t 11) .skip (.exit 0))) (.seq (.block 1 (.reg [⟨(some 14), none, (.op (.mv (.t 0))), []⟩, ⟨(some 15), none, (.op (.mv (.t 1))), []⟩, ⟨(some 16), none, (.op (.mv (.t 7))), []⟩, ⟨(some 17), none, (.op (.bin .mul (.c (.int .i64 8)) (.t 16))), []⟩, ⟨(some 18), none, (.op (.bin .shr (.t 15) (.t 17))), []⟩, ⟨(some 19), none, (.op (.toInt .u8 (.t 18))), []⟩, ⟨(some 20), none, (.op (.bslice 1 (.int .u8 0) 1 [(0, (.t 19))])), []⟩, ⟨(some 21), none, (.op (.app 1 1 (.t 14) (.t 20))), []⟩, ⟨(some 0), none, (.op (.mv (.t 21))), []⟩])) (.reg [⟨(some 12), none, (.op (.mv (.t 7))), []⟩, ⟨(some 13), none, (.op (.bin .sub (.t 12) (.c (.int .i64 1)))), []⟩, ⟨(some 7), none, (.op (.mv (.t 13))), []⟩])))
def w49_0 (f : V → Int → Int → List Ob → SubR) (vs : List V) (h : List Ob) : SubR := castCons vs fun c1 l1 => castCons l1 fun c2 l2 => castInt .u64 c2 fun n3 => castCons l2 fun c4 l4 => castInt .i64 c4 fun n5 => castNil l4 (f c1 n3 n5 h)
noncomputable def B49_0 (lf : Nat) (self : V → Int → Int → List Ob → SubR) (b : V) (n_ : Int) (i : Int) (h : List Ob) : SubR :=
cB (decide (i ≥ (0))) (
bind1 (er (.bin .shr (.c (.int .u64 n_)) (.c (.int .i64 (IntKind.i64.wrap ((8) * i))))) h) fun v =>
castInt .u64 v fun x18 =>
bind2 (ev (.bslice 1 (.int .u8 0) 1 [(0, (.c (.int .u8 (IntKind.u8.wrap x18))))]) h) fun x20 h_ =>
bind2 (ev (.app 1 1 (.c b) (.c x20)) h_) fun x21 h_1 =>
self x21 n_ (IntKind.i64.wrap (i - (1))) h_1) (
some ((.exit 0), [b], h))
noncomputable def L49_0 (lf : Nat) : Nat → V → Int → Int → List Ob → SubR
  | 0 => fun _ _ _ _ => none
  | n + 1 => B49_0 lf (L49_0 lf n)
theorem B49_0_eq (lf : Nat) (self : V → Int → Int → List Ob → SubR) (b : V) (n_ : Int) (i : Int) (h : List Ob) : evCK A49 ⟨call49 lf, cvN, subN⟩ k49_0 [(0, b), (1, (.int .u64 n_)), (7, (.int .i64 i))] h (endL [0, 1, 7] [.any, (.int .u64), (.int .i64)] o49_0 (w49_0 self)) = B49_0 lf self b n_ i h := by kernel_rfl
theorem L49_0_ok (lf : Nat) : ∀ n, SubOk Go.Proofs.Try.prog (.loop k49_0.er) [0, 1, 7] o49_0 (w49_0 (L49_0 lf n)) := by
  refine SubOk.loop (A := A49) (σ := ⟨call49 lf, cvN, subN⟩) (c := k49_0) (shs := [.any, (.int .u64), (.int .i64)]) (G := fun n => w49_0 (L49_0 lf n)) (call49_ok lf) cvN_ok (And.intro (And.intro True.intro (And.intro True.intro True.intro)) (And.intro True.intro True.intro)) ?_ ?_
  · intro vs h r e0
    simp only [w49_0] at e0
    obtain ⟨c1, l1, rfl, e1⟩ := castCons_inv e0
    obtain ⟨c2, l2, rfl, e2⟩ := castCons_inv e1
    obtain ⟨y1, rfl, e3⟩ := castInt_inv e2
    obtain ⟨c3, l3, rfl, e4⟩ := castCons_inv e3
    obtain ⟨y2, rfl, e5⟩ := castInt_inv e4
    obtain ⟨rfl, e6⟩ := castNil_inv e5
    have e := e6
    cases e
  · intro n vs h r e0
    simp only [w49_0] at e0
    obtain ⟨c1, l1, rfl, e1⟩ := castCons_inv e0
    obtain ⟨c2, l2, rfl, e2⟩ := castCons_inv e1
    obtain ⟨y1, rfl, e3⟩ := castInt_inv e2
    obtain ⟨c3, l3, rfl, e4⟩ := castCons_inv e3
    obtain ⟨y2, rfl, e5⟩ := castInt_inv e4
    obtain ⟨rfl, e6⟩ := castNil_inv e5
    have e := e6
    exact (B49_0_eq lf (L49_0 lf n) c1 y1 y2 h).trans e
def k49 : KC := (.seq (.reg [⟨(some 6), none, (.op (.mv (.c .nils))), []⟩]) (.seq (.seq (.reg [⟨(some 8), none, (.op (.mv (.t 2))), []⟩, ⟨(some 9), none, (.op (.bin .sub (.t 8) (.c (.int .i64 1)))), []⟩, ⟨(some 7), none, (.op (.mv (.t 9))), []⟩]) (.block 0 (.sub 0 (.loop k49_0.er) [0, 1, 7] o49_0))) (.seq (.reg [⟨(some 22), none, (.op (.mv (.t 0))), []⟩, ⟨(some 6), none, (.op (.mv (.t 22))), []⟩]) .ret)))
noncomputable def F49 (lf : Nat) (b : V) (n_ : Int) (size : Int) (h : List Ob) : Option (V × List Ob) :=
bind3 (L49_0 lf lf b n_ (IntKind.i64.wrap (size - (1))) h) fun ex vs h_ =>
cB (decide (ex = (.exit 0))) (
castCons vs fun b1 l =>
castNil l (
some (b1, h_))) (
none)
theorem F49_eq (lf : Nat) (b : V) (n_ : Int) (size : Int) (h : List Ob) : evCK A49 ⟨call49 lf, cvN, subC 0 (w49_0 (L49_0 lf lf)) (subN)⟩ k49 (entryK [b, (.int .u64 n_), (.int .i64 size)]) h (endF c49.res) = F49 lf b n_ size h := by kernel_rfl
theorem F49_ok (lf : Nat) (b : V) (n_ : Int) (size : Int) (h : List Ob) (r_ : V) (h_r : List Ob) (e_ : F49 lf b n_ size h = some (r_, h_r)) : CD Go.Proofs.Try.prog 49 [b, (.int .u64 n_), (.int .i64 size)] h r_ h_r :=
  CD.ofK (A := A49) (σ := ⟨call49 lf, cvN, subC 0 (w49_0 (L49_0 lf lf)) (subN)⟩) (c := k49) Go.Proofs.Try.func49 ok49 en49 (show 3 ≤ 23 by decide) (by kernel_rfl) (call49_ok lf) cvN_ok (And.intro True.intro (And.intro (And.intro True.intro (L49_0_ok lf lf)) (And.intro True.intro True.intro))) ((F49_eq lf b n_ size h).trans e_)
def w49 (f : V → Int → Int → List Ob → Option (V × List Ob)) (vs : List V) (h : List Ob) : Option (V × List Ob) := castCons vs fun c1 l1 => castCons l1 fun c2 l2 => castInt .u64 c2 fun n3 => castCons l2 fun c4 l4 => castInt .i64 c4 fun n5 => castNil l4 (f c1 n3 n5 h)
noncomputable def W49 (lf : Nat) : List V → List Ob → Option (V × List Ob) := w49 (F49 lf)
theorem W49_ok (lf : Nat) : ∀ args h v h', W49 lf args h = some (v, h') → CD Go.Proofs.Try.prog 49 args h v h' := by
  intro vs h r h' e0
  simp only [W49, w49] at e0
  obtain ⟨c1, l1, rfl, e1⟩ := castCons_inv e0
  obtain ⟨c2, l2, rfl, e2⟩ := castCons_inv e1
  obtain ⟨y1, rfl, e3⟩ := castInt_inv e2
  obtain ⟨c3, l3, rfl, e4⟩ := castCons_inv e3
  obtain ⟨y2, rfl, e5⟩ := castInt_inv e4
  obtain ⟨rfl, e6⟩ := castNil_inv e5
  have e := e6
  exact F49_ok lf c1 y1 y2 h r h' e

/-! 50: wainscot/journal.pad -/
def A50 : List (Nat × Sh) := [(1, (.int .i64)), (6, (.int .i64)), (8, (.int .i64)), (9, (.int .i64))]
noncomputable def call50 (lf : Nat) : CallS := callN
theorem call50_ok (lf : Nat) : CallOk Go.Proofs.Try.prog (call50 lf) := callN_ok
def k50 : KC := (.seq (.reg [⟨(some 4), none, (.op (.mv (.c .nils))), []⟩]) (.seq (.reg [⟨(some 5), none, (.op (.mv (.t 0))), []⟩, ⟨(some 6), none, (.op (.mv (.t 1))), []⟩, ⟨(some 7), none, (.op (.mv (.t 0))), []⟩, ⟨(some 8), none, (.op (.lenL (.t 7))), []⟩, ⟨(some 9), none, (.op (.bin .sub (.t 6) (.t 8))), []⟩, ⟨(some 10), none, (.op (.appZ 1 1 .nilp (.t 5) (.t 9))), []⟩, ⟨(some 4), none, (.op (.mv (.t 10))), []⟩]) .ret))
noncomputable def F50 (lf : Nat) (b : V) (size : Int) (h : List Ob) : Option (V × List Ob) :=
bind1 (er (.lenL (.c b)) h) fun v =>
castInt .i64 v fun x8 =>
bind2 (ev (.appZ 1 1 .nilp (.c b) (.c (.int .i64 (IntKind.i64.wrap (size - x8))))) h) fun x10 h_ =>
some (x10, h_)
theorem F50_eq (lf : Nat) (b : V) (size : Int) (h : List Ob) : evCK A50 ⟨call50 lf, cvN, subN⟩ k50 (entryK [b, (.int .i64 size)]) h (endF c50.res) = F50 lf b size h := by kernel_rfl
theorem F50_ok (lf : Nat) (b : V) (size : Int) (h : List Ob) (r_ : V) (h_r : List Ob) (e_ : F50 lf b size h = some (r_, h_r)) : CD Go.Proofs.Try.prog 50 [b, (.int .i64 size)] h r_ h_r :=
  CD.ofK (A := A50) (σ := ⟨call50 lf, cvN, subN⟩) (c := k50) Go.Proofs.Try.func50 ok50 en50 (show 2 ≤ 11 by decide) (by kernel_rfl) (call50_ok lf) cvN_ok (And.intro True.intro (And.intro True.intro True.intro)) ((F50_eq lf b size h).trans e_)
def w50 (f : V → Int → List Ob → Option (V × List Ob)) (vs : List V) (h : List Ob) : Option (V × List Ob) := castCons vs fun c1 l1 => castCons l1 fun c2 l2 => castInt .i64 c2 fun n3 => castNil l2 (f c1 n3 h)
noncomputable def W50 (lf : Nat) : List V → List Ob → Option (V × List Ob) := w50 (F50 lf)
theorem W50_ok (lf : Nat) : ∀ args h v h', W50 lf args h = some (v, h') → CD Go.Proofs.Try.prog 50 args h v h' := by
  intro vs h r h' e0
  simp only [W50, w50] at e0
  obtain ⟨c1, l1, rfl, e1⟩ := castCons_inv e0
  obtain ⟨c2, l2, rfl, e2⟩ := castCons_inv e1
  obtain ⟨y1, rfl, e3⟩ := castInt_inv e2
  obtain ⟨rfl, e4⟩ := castNil_inv e3
  have e := e4
  exact F50_ok lf c1 y1 h r h' e

/-! 20: wainscot/journal.Head -/
def A20 : List (Nat × Sh) := [(0, (.int .u64)), (1, (.int .i64)), (2, (.int .i64)), (7, (.int .i64)), (9, (.int .i64)), (10, .bool), (11, .bool), (12, (.int .i64)), (13, .bool), (14, .bool), (15, .bool), (16, (.int .i64)), (17, .bool), (18, .bool), (19, .bool), (20, (.int .i64)), (21, .bool), (22, .bool), (25, (.int .u64)), (27, (.int .i64)), (28, (.int .u64)), (31, (.int .i64)), (32, (.int .u64)), (36, (.int .u32)), (37, (.int .u64))]
noncomputable def call20 (lf : Nat) : CallS := callC 50 (W50 lf) (callC 49 (W49 lf) (callC 24 (W24 lf) (callN)))
theorem call20_ok (lf : Nat) : CallOk Go.Proofs.Try.prog (call20 lf) := callC_ok (W50_ok lf) (callC_ok (W49_ok lf) (callC_ok (W24_ok lf) (callN_ok)))
def o20_0 : Outs := [(.ret, [6, 7], [.any, (.int .i64)]), (.normal, [], [])]
def k20_0 : KC := (.seq (.reg [⟨(some 9), none, (.op (.mv (.t 1))), []⟩, ⟨(some 10), none, (.op (.bin .lss (.t 9) (.c (.int .i64 0)))), []⟩, ⟨(some 11), none, (.op (.mv (.t 10))), []⟩, ⟨(some 12), (some (11, false)), (.op (.mv (.t 1))), []⟩, ⟨(some 13), (some (11, false)), (.op (.bin .gtr (.t 12) (.c (.int .i64 10000)))), []⟩, ⟨(some 14), none, (.op (.pick (.t 11) (.c (.bool true)) (.t 13))), []⟩, ⟨(some 15), none, (.op (.mv (.t 14))), []⟩, ⟨(some 16), (some (15, false)), (.op (.mv (.t 2))), []⟩, ⟨(some 17), (some (15, false)), (.op (.bin .lss (.t 16) (.c (.int .i64 0)))), []⟩, ⟨(some 18), none, (.op (.pick (.t 15) (.c (.bool true)) (.t 17))), []⟩, ⟨(some 19), none, (.op (.mv (.t 18))), []⟩, ⟨(some 20), (some (19, false)), (.op (.mv (.t 2))), []⟩, ⟨(some 21), (some (19, false)), (.op (.bin .gtr (.t 20) (.c (.int .i64 10000)))), []⟩, ⟨(some 22), none, (.op (.pick (.t 19) (.c (.bool true)) (.t 21))), []⟩]) (.cond (.t 22) (.seq (.reg [⟨(some 6), none, (.op (.mv (.c .nils))), []⟩, ⟨(some 7), none, (.op (.mv (.c (.int .i64 1)))), []⟩]) .ret) .skip))
def w20_0 (f : Int → Int → List Ob → SubR) (vs : List V) (h : List Ob) : SubR := castCons vs fun c1 l1 => castInt .i64 c1 fun n2 => castCons l1 fun c3 l3 => castInt .i64 c3 fun n4 => castNil l3 (f n2 n4 h)
noncomputable def S20_0 (lf : Nat) (pages : Int) (records : Int) (h : List Ob) : SubR :=
cB (decide (pages < (0))) (
some (.ret, [V.nils, (.int .i64 (1))], h)) (
cB (decide (pages > (10000))) (
some (.ret, [V.nils, (.int .i64 (1))], h)) (
cB (decide (records < (0))) (
some (.ret, [V.nils, (.int .i64 (1))], h)) (
cB (decide (records > (10000))) (
some (.ret, [V.nils, (.int .i64 (1))], h)) (
some (.normal, [], h)))))
theorem S20_0_eq (lf : Nat) (pages : Int) (records : Int) (h : List Ob) : evCK A20 ⟨call20 lf, cvN, subN⟩ k20_0 [(1, (.int .i64 pages)), (2, (.int .i64 records))] h (endK o20_0) = S20_0 lf pages records h := by kernel_rfl
theorem S20_0_ok (lf : Nat) : SubOk Go.Proofs.Try.prog k20_0.er [1, 2] o20_0 (w20_0 (S20_0 lf)) := by
  refine SubOk.of (A := A20) (σ := ⟨call20 lf, cvN, subN⟩) (c := k20_0) (call20_ok lf) cvN_ok (And.intro True.intro (And.intro (And.intro True.intro True.intro) True.intro)) ?_
  intro vs h r e0
  simp only [w20_0] at e0
  obtain ⟨c1, l1, rfl, e1⟩ := castCons_inv e0
  obtain ⟨y0, rfl, e2⟩ := castInt_inv e1
  obtain ⟨c2, l2, rfl, e3⟩ := castCons_inv e2
  obtain ⟨y1, rfl, e4⟩ := castInt_inv e3
  obtain ⟨rfl, e5⟩ := castNil_inv e4
  have e := e5
  exact (S20_0_eq lf y0 y1 h).trans e
def k20 : KC := (.seq (.reg [⟨(some 6), none, (.op (.mv (.c .nils))), []⟩, ⟨(some 7), none, (.op (.mv (.c (.int .i64 0)))), []⟩]) (.seq (.sub 0 k20_0.er [1, 2] o20_0) (.seq (.reg [⟨(some 23), none, (.op (.bslice 1 (.int .u8 0) 8 [(0, (.c (.int .u8 119))), (1, (.c (.int .u8 97))), (2, (.c (.int .u8 105))), (3, (.c (.int .u8 110))), (4, (.c (.int .u8 115))), (5, (.c (.int .u8 99))), (6, (.c (.int .u8 111))), (7, (.c (.int .u8 116)))])), []⟩, ⟨(some 24), none, (.op (.strish (.t 23))), []⟩, ⟨(some 25), none, (.op (.mv (.t 0))), []⟩, ⟨(some 26), none, (.call 49 [(.t 24), (.t 25), (.c (.int .i64 8))]), []⟩, ⟨(some 27), none, (.op (.mv (.t 1))), []⟩, ⟨(some 28), none, (.op (.toInt .u64 (.t 27))), []⟩, ⟨(some 29), none, (.call 49 [(.t 26), (.t 28), (.c (.int .i64 4))]), []⟩, ⟨(some 8), none, (.op (.mv (.t 29))), []⟩]) (.seq (.reg [⟨(some 30), none, (.op (.mv (.t 8))), []⟩, ⟨(some 31), none, (.op (.mv (.t 2))), []⟩, ⟨(some 32), none, (.op (.toInt .u64 (.t 31))), []⟩, ⟨(some 33), none, (.call 49 [(.t 30), (.t 32), (.c (.int .i64 4))]), []⟩, ⟨(some 8), none, (.op (.mv (.t 33))), []⟩]) (.seq (.reg [⟨(some 34), none, (.op (.mv (.t 8))), []⟩, ⟨(some 35), none, (.op (.mv (.t 8))), []⟩, ⟨(some 36), none, (.call 24 [(.t 35)]), []⟩, ⟨(some 37), none, (.op (.toInt .u64 (.t 36))), []⟩, ⟨(some 38), none, (.call 49 [(.t 34), (.t 37), (.c (.int .i64 4))]), []⟩, ⟨(some 39), none, (.call 50 [(.t 38), (.c (.int .i64 64))]), []⟩, ⟨(some 6), none, (.op (.mv (.t 39))), []⟩, ⟨(some 7), none, (.op (.mv (.c (.int .i64 0)))), []⟩]) .ret)))))
noncomputable def F20 (lf : Nat) (salt : Int) (pages : Int) (records : Int) (h : List Ob) : Option (V × List Ob) :=
bind3 (S20_0 lf pages records h) fun ex vs h_ =>
cB (decide (ex = .ret)) (
castCons vs fun x6 l =>
castCons l fun c l1 =>
castInt .i64 c fun x7 =>
castNil l1 (
some ((.tup [x6, (.int .i64 x7)]), h_))) (
cB (decide (ex = .normal)) (
castNil vs (
bind2 (ev (.bslice 1 (.int .u8 0) 8 [(0, (.c (.int .u8 (119)))), (1, (.c (.int .u8 (97)))), (2, (.c (.int .u8 (105)))), (3, (.c (.int .u8 (110)))), (4, (.c (.int .u8 (115)))), (5, (.c (.int .u8 (99)))), (6, (.c (.int .u8 (111)))), (7, (.c (.int .u8 (116))))]) h_) fun x23 h_1 =>
bind1 (er (.strish (.c x23)) h_1) fun x24 =>
bind2 (F49 lf x24 salt (8) h_1) fun x26 h_2 =>
bind2 (F49 lf x26 (IntKind.u64.wrap pages) (4) h_2) fun x29 h_3 =>
bind2 (F49 lf x29 (IntKind.u64.wrap records) (4) h_3) fun x33 h_4 =>
bind2 (F24 lf x33 h_4) fun v h_5 =>
castInt .u32 v fun x36 =>
bind2 (F49 lf x33 (IntKind.u64.wrap x36) (4) h_5) fun x38 h_6 =>
bind2 (F50 lf x38 (64) h_6) fun x39 h_7 =>
some ((.tup [x39, (.int .i64 (0))]), h_7))) (
none))
theorem F20_eq (lf : Nat) (salt : Int) (pages : Int) (records : Int) (h : List Ob) : evCK A20 ⟨call20 lf, cvN, subC 0 (w20_0 (S20_0 lf)) (subN)⟩ k20 (entryK [(.int .u64 salt), (.int .i64 pages), (.int .i64 records)]) h (endF c20.res) = F20 lf salt pages records h := by kernel_rfl
theorem F20_ok (lf : Nat) (salt : Int) (pages : Int) (records : Int) (h : List Ob) (r_ : V) (h_r : List Ob) (e_ : F20 lf salt pages records h = some (r_, h_r)) : CD Go.Proofs.Try.prog 20 [(.int .u64 salt), (.int .i64 pages), (.int .i64 records)] h r_ h_r :=
  CD.ofK (A := A20) (σ := ⟨call20 lf, cvN, subC 0 (w20_0 (S20_0 lf)) (subN)⟩) (c := k20) Go.Proofs.Try.func20 ok20 en20 (show 3 ≤ 40 by decide) (by kernel_rfl) (call20_ok lf) cvN_ok (And.intro True.intro (And.intro (S20_0_ok lf) (And.intro True.intro (And.intro True.intro (And.intro True.intro True.intro))))) ((F20_eq lf salt pages records h).trans e_)
def w20 (f : Int → Int → Int → List Ob → Option (V × List Ob)) (vs : List V) (h : List Ob) : Option (V × List Ob) := castCons vs fun c1 l1 => castInt .u64 c1 fun n2 => castCons l1 fun c3 l3 => castInt .i64 c3 fun n4 => castCons l3 fun c5 l5 => castInt .i64 c5 fun n6 => castNil l5 (f n2 n4 n6 h)
noncomputable def W20 (lf : Nat) : List V → List Ob → Option (V × List Ob) := w20 (F20 lf)
theorem W20_ok (lf : Nat) : ∀ args h v h', W20 lf args h = some (v, h') → CD Go.Proofs.Try.prog 20 args h v h' := by
  intro vs h r h' e0
  simp only [W20, w20] at e0
  obtain ⟨c1, l1, rfl, e1⟩ := castCons_inv e0
  obtain ⟨y0, rfl, e2⟩ := castInt_inv e1
  obtain ⟨c2, l2, rfl, e3⟩ := castCons_inv e2
  obtain ⟨y1, rfl, e4⟩ := castInt_inv e3
  obtain ⟨c3, l3, rfl, e5⟩ := castCons_inv e4
  obtain ⟨y2, rfl, e6⟩ := castInt_inv e5
  obtain ⟨rfl, e7⟩ := castNil_inv e6
  have e := e7
  exact F20_ok lf y0 y1 y2 h r h' e

/-! 19: wainscot/wainscotlaw10.awake -/
def A19 : List (Nat × Sh) := [(0, .bool), (2, (.int .i64)), (3, (.tup [.any, (.int .i64)])), (4, (.tup [.any, (.int .i64)])), (6, (.int .i64)), (7, (.int .i64)), (8, .bool), (9, .bool), (11, (.int .i64)), (12, .bool), (13, .bool), (14, .bool), (15, (.int .u32)), (16, .bool), (17, .bool)]
noncomputable def call19 (lf : Nat) : CallS := callC 24 (W24 lf) (callC 20 (W20 lf) (callN))
theorem call19_ok (lf : Nat) : CallOk Go.Proofs.Try.prog (call19 lf) := callC_ok (W24_ok lf) (callC_ok (W20_ok lf) (callN_ok))
def k19 : KC := (.seq (.reg [⟨(some 0), none, (.op (.mv (.c (.bool false)))), []⟩]) (.seq (.reg [⟨(some 4), none, (.call 20 [(.c (.int .u64 1)), (.c (.int .i64 2)), (.c (.int .i64 0))]), []⟩, ⟨(some 3), none, (.op (.mv (.t 4))), []⟩, ⟨(some 5), none, (.op (.ext 0 (.t 3))), []⟩, ⟨(some 6), none, (.op (.ext 1 (.t 3))), []⟩, ⟨(some 1), none, (.op (.mv (.t 5))), []⟩, ⟨(some 2), none, (.op (.mv (.t 6))), []⟩]) (.seq (.reg [⟨(some 7), none, (.op (.mv (.t 2))), []⟩, ⟨(some 8), none, (.op (.bin .eql (.t 7) (.c (.int .i64 0)))), []⟩, ⟨(some 9), none, (.op (.mv (.t 8))), []⟩, ⟨(some 10), (some (9, true)), (.op (.mv (.t 1))), []⟩, ⟨(some 11), (some (9, true)), (.op (.lenL (.t 10))), []⟩, ⟨(some 12), (some (9, true)), (.op (.bin .eql (.t 11) (.c (.int .i64 64)))), []⟩, ⟨(some 13), none, (.op (.pick (.t 9) (.t 12) (.c (.bool false)))), []⟩, ⟨(some 14), none, (.op (.mv (.t 13))), []⟩, ⟨(some 15), (some (14, true)), (.call 24 [(.c .nils)]), []⟩, ⟨(some 16), (some (14, true)), (.op (.bin .eql (.t 15) (.c (.int .u32 2166136261)))), []⟩, ⟨(some 17), none, (.op (.pick (.t 14) (.t 16) (.c (.bool false)))), []⟩, ⟨(some 0), none, (.op (.mv (.t 17))), []⟩]) .ret)))
noncomputable def F19 (lf : Nat) (h : List Ob) : Option (V × List Ob) :=
bind2 (F20 lf (1) (2) (0) h) fun v h_ =>
castTup v fun l =>
castCons l fun x4_0 l1 =>
castCons l1 fun c l2 =>
castInt .i64 c fun x4_1 =>
castNil l2 (
cB (x4_1 == (0)) (
bind1 (er (.lenL (.c x4_0)) h_) fun v1 =>
castInt .i64 v1 fun x11 =>
cB (x11 == (64)) (
bind2 (F24 lf V.nils h_) fun v2 h_1 =>
castInt .u32 v2 fun x15 =>
some ((.bool (x15 == (2166136261))), h_1)) (
some ((.bool false), h_))) (
some ((.bool false), h_)))
theorem F19_eq (lf : Nat) (h : List Ob) : evCK A19 ⟨call19 lf, cvN, subN⟩ k19 (entryK []) h (endF c19.res) = F19 lf h := by kernel_rfl
theorem F19_ok (lf : Nat) (h : List Ob) (r_ : V) (h_r : List Ob) (e_ : F19 lf h = some (r_, h_r)) : CD Go.Proofs.Try.prog 19 [] h r_ h_r :=
  CD.ofK (A := A19) (σ := ⟨call19 lf, cvN, subN⟩) (c := k19) Go.Proofs.Try.func19 ok19 en19 (show 0 ≤ 18 by decide) (by kernel_rfl) (call19_ok lf) cvN_ok (And.intro True.intro (And.intro True.intro (And.intro True.intro True.intro))) ((F19_eq lf h).trans e_)
def w19 (f : List Ob → Option (V × List Ob)) (vs : List V) (h : List Ob) : Option (V × List Ob) := castNil vs (f h)
noncomputable def W19 (lf : Nat) : List V → List Ob → Option (V × List Ob) := w19 (F19 lf)
theorem W19_ok (lf : Nat) : ∀ args h v h', W19 lf args h = some (v, h') → CD Go.Proofs.Try.prog 19 args h v h' := by
  intro vs h r h' e0
  simp only [W19, w19] at e0
  obtain ⟨rfl, e1⟩ := castNil_inv e0
  have e := e1
  exact F19_ok lf h r h' e

/-! 25: wainscot/wainscotref09.Sum -/
def A25 : List (Nat × Sh) := [(2, (.int .u32)), (3, (.int .u32)), (4, (.int .i64)), (6, (.int .i64)), (7, (.int .i64)), (8, .bool), (9, (.int .i64)), (10, (.int .u32)), (12, (.int .i64)), (14, (.int .u8)), (15, (.int .u32)), (16, (.int .u32)), (17, (.int .u32)), (18, (.int .i64)), (19, (.int .u32))]
noncomputable def call25 (lf : Nat) : CallS := callN
theorem call25_ok (lf : Nat) : CallOk Go.Proofs.Try.prog (call25 lf) := callN_ok
def o25_0 : Outs := [((.exit 0), [3], [(.int .u32)])]
def k25_0 : KC := (.seq (.reg [⟨(some 8), none, (.op (.bin .lss (.t 7) (.t 6))), []⟩]) (.seq (.cond (.t 8) .skip (.exit 0)) (.seq (.block 1 (.seq (.reg [⟨(some 9), none, (.op (.mv (.t 7))), []⟩, ⟨(some 4), none, (.op (.mv (.t 9))), []⟩]) (.reg [⟨(some 10), none, (.op (.mv (.t 3))), []⟩, ⟨(some 11), none, (.op (.mv (.t 0))), []⟩, ⟨(some 12), none, (.op (.mv (.t 4))), []⟩, ⟨(some 13), none, (.op (.iaddrL 1 (.t 11) (.t 12))), []⟩, ⟨(some 14), none, (.op (.load1 (.t 13))), []⟩, ⟨(some 15), none, (.op (.toInt .u32 (.t 14))), []⟩, ⟨(some 16), none, (.op (.bin .xor (.t 10) (.t 15))), []⟩, ⟨(some 17), none, (.op (.bin .mul (.t 16) (.c (.int .u32 16777619)))), []⟩, ⟨(some 3), none, (.op (.mv (.t 17))), []⟩]))) (.reg [⟨(some 18), none, (.op (.bin .add (.t 7) (.c (.int .i64 1)))), []⟩, ⟨(some 7), none, (.op (.mv (.t 18))), []⟩]))))
def w25_0 (f : V → Int → Int → Int → List Ob → SubR) (vs : List V) (h : List Ob) : SubR := castCons vs fun c1 l1 => castCons l1 fun c2 l2 => castInt .u32 c2 fun n3 => castCons l2 fun c4 l4 => castInt .i64 c4 fun n5 => castCons l4 fun c6 l6 => castInt .i64 c6 fun n7 => castNil l6 (f c1 n3 n5 n7 h)
noncomputable def B25_0 (lf : Nat) (self : V → Int → Int → Int → List Ob → SubR) (b : V) (n_ : Int) (x6 : Int) (x7 : Int) (h : List Ob) : SubR :=
cB (decide (x7 < x6)) (
bind1 (er (.iaddrL 1 (.c b) (.c (.int .i64 x7))) h) fun x13 =>
bind1 (er (.load1 (.c x13)) h) fun v =>
castInt .u8 v fun x14 =>
self b (IntKind.u32.wrap ((bits .xor .u32 n_ (IntKind.u32.wrap x14)) * (16777619))) x6 (IntKind.i64.wrap (x7 + (1))) h) (
some ((.exit 0), [(.int .u32 n_)], h))
noncomputable def L25_0 (lf : Nat) : Nat → V → Int → Int → Int → List Ob → SubR
  | 0 => fun _ _ _ _ _ => none
  | n + 1 => B25_0 lf (L25_0 lf n)
theorem B25_0_eq (lf : Nat) (self : V → Int → Int → Int → List Ob → SubR) (b : V) (n_ : Int) (x6 : Int) (x7 : Int) (h : List Ob) : evCK A25 ⟨call25 lf, cvN, subN⟩ k25_0 [(0, b), (3, (.int .u32 n_)), (6, (.int .i64 x6)), (7, (.int .i64 x7))] h (endL [0, 3, 6, 7] [.any, (.int .u32), (.int .i64), (.int .i64)] o25_0 (w25_0 self)) = B25_0 lf self b n_ x6 x7 h := by kernel_rfl
theorem L25_0_ok (lf : Nat) : ∀ n, SubOk Go.Proofs.Try.prog (.loop k25_0.er) [0, 3, 6, 7] o25_0 (w25_0 (L25_0 lf n)) := by
  refine SubOk.loop (A := A25) (σ := ⟨call25 lf, cvN, subN⟩) (c := k25_0) (shs := [.any, (.int .u32), (.int .i64), (.int .i64)]) (G := fun n => w25_0 (L25_0 lf n)) (call25_ok lf) cvN_ok (And.intro True.intro (And.intro (And.intro True.intro True.intro) (And.intro (And.intro True.intro True.intro) True.intro))) ?_ ?_
  · intro vs h r e0
    simp only [w25_0] at e0
    obtain ⟨c1, l1, rfl, e1⟩ := castCons_inv e0
    obtain ⟨c2, l2, rfl, e2⟩ := castCons_inv e1
    obtain ⟨y1, rfl, e3⟩ := castInt_inv e2
    obtain ⟨c3, l3, rfl, e4⟩ := castCons_inv e3
    obtain ⟨y2, rfl, e5⟩ := castInt_inv e4
    obtain ⟨c4, l4, rfl, e6⟩ := castCons_inv e5
    obtain ⟨y3, rfl, e7⟩ := castInt_inv e6
    obtain ⟨rfl, e8⟩ := castNil_inv e7
    have e := e8
    cases e
  · intro n vs h r e0
    simp only [w25_0] at e0
    obtain ⟨c1, l1, rfl, e1⟩ := castCons_inv e0
    obtain ⟨c2, l2, rfl, e2⟩ := castCons_inv e1
    obtain ⟨y1, rfl, e3⟩ := castInt_inv e2
    obtain ⟨c3, l3, rfl, e4⟩ := castCons_inv e3
    obtain ⟨y2, rfl, e5⟩ := castInt_inv e4
    obtain ⟨c4, l4, rfl, e6⟩ := castCons_inv e5
    obtain ⟨y3, rfl, e7⟩ := castInt_inv e6
    obtain ⟨rfl, e8⟩ := castNil_inv e7
    have e := e8
    exact (B25_0_eq lf (L25_0 lf n) c1 y1 y2 y3 h).trans e
def k25 : KC := (.seq (.reg [⟨(some 2), none, (.op (.mv (.c (.int .u32 0)))), []⟩]) (.seq (.reg [⟨(some 3), none, (.op (.mv (.c (.int .u32 2166136261)))), []⟩]) (.seq (.seq (.reg [⟨(some 5), none, (.op (.mv (.t 0))), []⟩, ⟨(some 6), none, (.op (.lenL (.t 5))), []⟩, ⟨(some 7), none, (.op (.mv (.c (.int .i64 0)))), []⟩]) (.block 0 (.sub 0 (.loop k25_0.er) [0, 3, 6, 7] o25_0))) (.seq (.reg [⟨(some 19), none, (.op (.mv (.t 3))), []⟩, ⟨(some 2), none, (.op (.mv (.t 19))), []⟩]) .ret))))
noncomputable def F25 (lf : Nat) (b : V) (h : List Ob) : Option (V × List Ob) :=
bind1 (er (.lenL (.c b)) h) fun v =>
castInt .i64 v fun x6 =>
bind3 (L25_0 lf lf b (2166136261) x6 (0) h) fun ex vs h_ =>
cB (decide (ex = (.exit 0))) (
castCons vs fun c l =>
castInt .u32 c fun n_ =>
castNil l (
some ((.int .u32 n_), h_))) (
none)
theorem F25_eq (lf : Nat) (b : V) (h : List Ob) : evCK A25 ⟨call25 lf, cvN, subC 0 (w25_0 (L25_0 lf lf)) (subN)⟩ k25 (entryK [b]) h (endF c25.res) = F25 lf b h := by kernel_rfl
theorem F25_ok (lf : Nat) (b : V) (h : List Ob) (r_ : V) (h_r : List Ob) (e_ : F25 lf b h = some (r_, h_r)) : CD Go.Proofs.Try.prog 25 [b] h r_ h_r :=
  CD.ofK (A := A25) (σ := ⟨call25 lf, cvN, subC 0 (w25_0 (L25_0 lf lf)) (subN)⟩) (c := k25) Go.Proofs.Try.func25 ok25 en25 (show 1 ≤ 20 by decide) (by kernel_rfl) (call25_ok lf) cvN_ok (And.intro True.intro (And.intro True.intro (And.intro (And.intro True.intro (L25_0_ok lf lf)) (And.intro True.intro True.intro)))) ((F25_eq lf b h).trans e_)
def w25 (f : V → List Ob → Option (V × List Ob)) (vs : List V) (h : List Ob) : Option (V × List Ob) := castCons vs fun c1 l1 => castNil l1 (f c1 h)
noncomputable def W25 (lf : Nat) : List V → List Ob → Option (V × List Ob) := w25 (F25 lf)
theorem W25_ok (lf : Nat) : ∀ args h v h', W25 lf args h = some (v, h') → CD Go.Proofs.Try.prog 25 args h v h' := by
  intro vs h r h' e0
  simp only [W25, w25] at e0
  obtain ⟨c1, l1, rfl, e1⟩ := castCons_inv e0
  obtain ⟨rfl, e2⟩ := castNil_inv e1
  have e := e2
  exact F25_ok lf c1 h r h' e

/-! 52: wainscot/wainscotref09.four -/
def A52 : List (Nat × Sh) := [(0, (.int .u32)), (3, (.int .u32)), (4, (.int .u32)), (5, (.int .u8)), (6, (.int .u32)), (7, (.int .u32)), (8, (.int .u8)), (9, (.int .u32)), (10, (.int .u32)), (11, (.int .u8)), (12, (.int .u32)), (13, (.int .u8))]
noncomputable def call52 (lf : Nat) : CallS := callN
theorem call52_ok (lf : Nat) : CallOk Go.Proofs.Try.prog (call52 lf) := callN_ok
def k52 : KC := (.seq (.reg [⟨(some 2), none, (.op (.mv (.c .nils))), []⟩]) (.seq (.reg [⟨(some 3), none, (.op (.mv (.t 0))), []⟩, ⟨(some 4), none, (.op (.bin .shr (.t 3) (.c (.int .u64 24)))), []⟩, ⟨(some 5), none, (.op (.toInt .u8 (.t 4))), []⟩, ⟨(some 6), none, (.op (.mv (.t 0))), []⟩, ⟨(some 7), none, (.op (.bin .shr (.t 6) (.c (.int .u64 16)))), []⟩, ⟨(some 8), none, (.op (.toInt .u8 (.t 7))), []⟩, ⟨(some 9), none, (.op (.mv (.t 0))), []⟩, ⟨(some 10), none, (.op (.bin .shr (.t 9) (.c (.int .u64 8)))), []⟩, ⟨(some 11), none, (.op (.toInt .u8 (.t 10))), []⟩, ⟨(some 12), none, (.op (.mv (.t 0))), []⟩, ⟨(some 13), none, (.op (.toInt .u8 (.t 12))), []⟩, ⟨(some 14), none, (.op (.bslice 1 (.int .u8 0) 4 [(0, (.t 5)), (1, (.t 8)), (2, (.t 11)), (3, (.t 13))])), []⟩, ⟨(some 2), none, (.op (.mv (.t 14))), []⟩]) .ret))
noncomputable def F52 (lf : Nat) (n_ : Int) (h : List Ob) : Option (V × List Ob) :=
bind2 (ev (.bslice 1 (.int .u8 0) 4 [(0, (.c (.int .u8 (IntKind.u8.wrap (Int.fdiv n_ (2 ^ 24)))))), (1, (.c (.int .u8 (IntKind.u8.wrap (Int.fdiv n_ (2 ^ 16)))))), (2, (.c (.int .u8 (IntKind.u8.wrap (Int.fdiv n_ (2 ^ 8)))))), (3, (.c (.int .u8 (IntKind.u8.wrap n_))))]) h) fun x14 h_ =>
some (x14, h_)
theorem F52_eq (lf : Nat) (n_ : Int) (h : List Ob) : evCK A52 ⟨call52 lf, cvN, subN⟩ k52 (entryK [(.int .u32 n_)]) h (endF c52.res) = F52 lf n_ h := by kernel_rfl
theorem F52_ok (lf : Nat) (n_ : Int) (h : List Ob) (r_ : V) (h_r : List Ob) (e_ : F52 lf n_ h = some (r_, h_r)) : CD Go.Proofs.Try.prog 52 [(.int .u32 n_)] h r_ h_r :=
  CD.ofK (A := A52) (σ := ⟨call52 lf, cvN, subN⟩) (c := k52) Go.Proofs.Try.func52 ok52 en52 (show 1 ≤ 15 by decide) (by kernel_rfl) (call52_ok lf) cvN_ok (And.intro True.intro (And.intro True.intro True.intro)) ((F52_eq lf n_ h).trans e_)
def w52 (f : Int → List Ob → Option (V × List Ob)) (vs : List V) (h : List Ob) : Option (V × List Ob) := castCons vs fun c1 l1 => castInt .u32 c1 fun n2 => castNil l1 (f n2 h)
noncomputable def W52 (lf : Nat) : List V → List Ob → Option (V × List Ob) := w52 (F52 lf)
theorem W52_ok (lf : Nat) : ∀ args h v h', W52 lf args h = some (v, h') → CD Go.Proofs.Try.prog 52 args h v h' := by
  intro vs h r h' e0
  simp only [W52, w52] at e0
  obtain ⟨c1, l1, rfl, e1⟩ := castCons_inv e0
  obtain ⟨y0, rfl, e2⟩ := castInt_inv e1
  obtain ⟨rfl, e3⟩ := castNil_inv e2
  have e := e3
  exact F52_ok lf y0 h r h' e

/-! 51: wainscot/wainscotref09.eight -/
def A51 : List (Nat × Sh) := [(0, (.int .u64)), (3, (.int .u64)), (4, (.int .u64)), (5, (.int .u32)), (7, (.int .u64)), (8, (.int .u32))]
noncomputable def call51 (lf : Nat) : CallS := callC 52 (W52 lf) (callN)
theorem call51_ok (lf : Nat) : CallOk Go.Proofs.Try.prog (call51 lf) := callC_ok (W52_ok lf) (callN_ok)
def k51 : KC := (.seq (.reg [⟨(some 2), none, (.op (.mv (.c .nils))), []⟩]) (.seq (.reg [⟨(some 3), none, (.op (.mv (.t 0))), []⟩, ⟨(some 4), none, (.op (.bin .shr (.t 3) (.c (.int .u64 32)))), []⟩, ⟨(some 5), none, (.op (.toInt .u32 (.t 4))), []⟩, ⟨(some 6), none, (.call 52 [(.t 5)]), []⟩, ⟨(some 7), none, (.op (.mv (.t 0))), []⟩, ⟨(some 8), none, (.op (.toInt .u32 (.t 7))), []⟩, ⟨(some 9), none, (.call 52 [(.t 8)]), []⟩, ⟨(some 10), none, (.op (.app 1 1 (.t 6) (.t 9))), []⟩, ⟨(some 2), none, (.op (.mv (.t 10))), []⟩]) .ret))
noncomputable def F51 (lf : Nat) (n_ : Int) (h : List Ob) : Option (V × List Ob) :=
bind2 (F52 lf (IntKind.u32.wrap (Int.fdiv n_ (2 ^ 32))) h) fun x6 h_ =>
bind2 (F52 lf (IntKind.u32.wrap n_) h_) fun x9 h_1 =>
bind2 (ev (.app 1 1 (.c x6) (.c x9)) h_1) fun x10 h_2 =>
some (x10, h_2)
theorem F51_eq (lf : Nat) (n_ : Int) (h : List Ob) : evCK A51 ⟨call51 lf, cvN, subN⟩ k51 (entryK [(.int .u64 n_)]) h (endF c51.res) = F51 lf n_ h := by kernel_rfl
theorem F51_ok (lf : Nat) (n_ : Int) (h : List Ob) (r_ : V) (h_r : List Ob) (e_ : F51 lf n_ h = some (r_, h_r)) : CD Go.Proofs.Try.prog 51 [(.int .u64 n_)] h r_ h_r :=
  CD.ofK (A := A51) (σ := ⟨call51 lf, cvN, subN⟩) (c := k51) Go.Proofs.Try.func51 ok51 en51 (show 1 ≤ 11 by decide) (by kernel_rfl) (call51_ok lf) cvN_ok (And.intro True.intro (And.intro True.intro True.intro)) ((F51_eq lf n_ h).trans e_)
def w51 (f : Int → List Ob → Option (V × List Ob)) (vs : List V) (h : List Ob) : Option (V × List Ob) := castCons vs fun c1 l1 => castInt .u64 c1 fun n2 => castNil l1 (f n2 h)
noncomputable def W51 (lf : Nat) : List V → List Ob → Option (V × List Ob) := w51 (F51 lf)
theorem W51_ok (lf : Nat) : ∀ args h v h', W51 lf args h = some (v, h') → CD Go.Proofs.Try.prog 51 args h v h' := by
  intro vs h r h' e0
  simp only [W51, w51] at e0
  obtain ⟨c1, l1, rfl, e1⟩ := castCons_inv e0
  obtain ⟨y0, rfl, e2⟩ := castInt_inv e1
  obtain ⟨rfl, e3⟩ := castNil_inv e2
  have e := e3
  exact F51_ok lf y0 h r h' e

/-! 53: wainscot/wainscotref09.padded -/
def A53 : List (Nat × Sh) := [(1, (.int .i64)), (6, (.int .i64)), (8, (.int .i64)), (9, (.int .i64))]
noncomputable def call53 (lf : Nat) : CallS := callN
theorem call53_ok (lf : Nat) : CallOk Go.Proofs.Try.prog (call53 lf) := callN_ok
def k53 : KC := (.seq (.reg [⟨(some 4), none, (.op (.mv (.c .nils))), []⟩]) (.seq (.reg [⟨(some 5), none, (.op (.mv (.t 0))), []⟩, ⟨(some 6), none, (.op (.mv (.t 1))), []⟩, ⟨(some 7), none, (.op (.mv (.t 0))), []⟩, ⟨(some 8), none, (.op (.lenL (.t 7))), []⟩, ⟨(some 9), none, (.op (.bin .sub (.t 6) (.t 8))), []⟩, ⟨(some 10), none, (.op (.appZ 1 1 .nilp (.t 5) (.t 9))), []⟩, ⟨(some 4), none, (.op (.mv (.t 10))), []⟩]) .ret))
noncomputable def F53 (lf : Nat) (b : V) (n_ : Int) (h : List Ob) : Option (V × List Ob) :=
bind1 (er (.lenL (.c b)) h) fun v =>
castInt .i64 v fun x8 =>
bind2 (ev (.appZ 1 1 .nilp (.c b) (.c (.int .i64 (IntKind.i64.wrap (n_ - x8))))) h) fun x10 h_ =>
some (x10, h_)
theorem F53_eq (lf : Nat) (b : V) (n_ : Int) (h : List Ob) : evCK A53 ⟨call53 lf, cvN, subN⟩ k53 (entryK [b, (.int .i64 n_)]) h (endF c53.res) = F53 lf b n_ h := by kernel_rfl
theorem F53_ok (lf : Nat) (b : V) (n_ : Int) (h : List Ob) (r_ : V) (h_r : List Ob) (e_ : F53 lf b n_ h = some (r_, h_r)) : CD Go.Proofs.Try.prog 53 [b, (.int .i64 n_)] h r_ h_r :=
  CD.ofK (A := A53) (σ := ⟨call53 lf, cvN, subN⟩) (c := k53) Go.Proofs.Try.func53 ok53 en53 (show 2 ≤ 11 by decide) (by kernel_rfl) (call53_ok lf) cvN_ok (And.intro True.intro (And.intro True.intro True.intro)) ((F53_eq lf b n_ h).trans e_)
def w53 (f : V → Int → List Ob → Option (V × List Ob)) (vs : List V) (h : List Ob) : Option (V × List Ob) := castCons vs fun c1 l1 => castCons l1 fun c2 l2 => castInt .i64 c2 fun n3 => castNil l2 (f c1 n3 h)
noncomputable def W53 (lf : Nat) : List V → List Ob → Option (V × List Ob) := w53 (F53 lf)
theorem W53_ok (lf : Nat) : ∀ args h v h', W53 lf args h = some (v, h') → CD Go.Proofs.Try.prog 53 args h v h' := by
  intro vs h r h' e0
  simp only [W53, w53] at e0
  obtain ⟨c1, l1, rfl, e1⟩ := castCons_inv e0
  obtain ⟨c2, l2, rfl, e2⟩ := castCons_inv e1
  obtain ⟨y1, rfl, e3⟩ := castInt_inv e2
  obtain ⟨rfl, e4⟩ := castNil_inv e3
  have e := e4
  exact F53_ok lf c1 y1 h r h' e

/-! 21: wainscot/wainscotref09.Head -/
def A21 : List (Nat × Sh) := [(0, (.int .u64)), (1, (.int .i64)), (2, (.int .i64)), (7, (.int .i64)), (9, (.int .i64)), (10, .bool), (11, .bool), (12, (.int .i64)), (13, .bool), (14, .bool), (15, .bool), (16, (.int .i64)), (17, .bool), (18, .bool), (19, .bool), (20, (.int .i64)), (21, .bool), (22, .bool), (25, (.int .u64)), (29, (.int .i64)), (30, (.int .u32)), (33, (.int .i64)), (34, (.int .u32)), (39, (.int .u32))]
noncomputable def call21 (lf : Nat) : CallS := callC 53 (W53 lf) (callC 52 (W52 lf) (callC 51 (W51 lf) (callC 25 (W25 lf) (callN))))
theorem call21_ok (lf : Nat) : CallOk Go.Proofs.Try.prog (call21 lf) := callC_ok (W53_ok lf) (callC_ok (W52_ok lf) (callC_ok (W51_ok lf) (callC_ok (W25_ok lf) (callN_ok))))
def o21_0 : Outs := [(.ret, [6, 7], [.any, (.int .i64)]), (.normal, [], [])]
def k21_0 : KC := (.seq (.reg [⟨(some 9), none, (.op (.mv (.t 1))), []⟩, ⟨(some 10), none, (.op (.bin .lss (.t 9) (.c (.int .i64 0)))), []⟩, ⟨(some 11), none, (.op (.mv (.t 10))), []⟩, ⟨(some 12), (some (11, false)), (.op (.mv (.t 1))), []⟩, ⟨(some 13), (some (11, false)), (.op (.bin .gtr (.t 12) (.c (.int .i64 10000)))), []⟩, ⟨(some 14), none, (.op (.pick (.t 11) (.c (.bool true)) (.t 13))), []⟩, ⟨(some 15), none, (.op (.mv (.t 14))), []⟩, ⟨(some 16), (some (15, false)), (.op (.mv (.t 2))), []⟩, ⟨(some 17), (some (15, false)), (.op (.bin .lss (.t 16) (.c (.int .i64 0)))), []⟩, ⟨(some 18), none, (.op (.pick (.t 15) (.c (.bool true)) (.t 17))), []⟩, ⟨(some 19), none, (.op (.mv (.t 18))), []⟩, ⟨(some 20), (some (19, false)), (.op (.mv (.t 2))), []⟩, ⟨(some 21), (some (19, false)), (.op (.bin .gtr (.t 20) (.c (.int .i64 10000)))), []⟩, ⟨(some 22), none, (.op (.pick (.t 19) (.c (.bool true)) (.t 21))), []⟩]) (.cond (.t 22) (.seq (.reg [⟨(some 6), none, (.op (.mv (.c .nils))), []⟩, ⟨(some 7), none, (.op (.mv (.c (.int .i64 1)))), []⟩]) .ret) .skip))
def w21_0 (f : Int → Int → List Ob → SubR) (vs : List V) (h : List Ob) : SubR := castCons vs fun c1 l1 => castInt .i64 c1 fun n2 => castCons l1 fun c3 l3 => castInt .i64 c3 fun n4 => castNil l3 (f n2 n4 h)
noncomputable def S21_0 (lf : Nat) (pages : Int) (records : Int) (h : List Ob) : SubR :=
cB (decide (pages < (0))) (
some (.ret, [V.nils, (.int .i64 (1))], h)) (
cB (decide (pages > (10000))) (
some (.ret, [V.nils, (.int .i64 (1))], h)) (
cB (decide (records < (0))) (
some (.ret, [V.nils, (.int .i64 (1))], h)) (
cB (decide (records > (10000))) (
some (.ret, [V.nils, (.int .i64 (1))], h)) (
some (.normal, [], h)))))
theorem S21_0_eq (lf : Nat) (pages : Int) (records : Int) (h : List Ob) : evCK A21 ⟨call21 lf, cvN, subN⟩ k21_0 [(1, (.int .i64 pages)), (2, (.int .i64 records))] h (endK o21_0) = S21_0 lf pages records h := by kernel_rfl
theorem S21_0_ok (lf : Nat) : SubOk Go.Proofs.Try.prog k21_0.er [1, 2] o21_0 (w21_0 (S21_0 lf)) := by
  refine SubOk.of (A := A21) (σ := ⟨call21 lf, cvN, subN⟩) (c := k21_0) (call21_ok lf) cvN_ok (And.intro True.intro (And.intro (And.intro True.intro True.intro) True.intro)) ?_
  intro vs h r e0
  simp only [w21_0] at e0
  obtain ⟨c1, l1, rfl, e1⟩ := castCons_inv e0
  obtain ⟨y0, rfl, e2⟩ := castInt_inv e1
  obtain ⟨c2, l2, rfl, e3⟩ := castCons_inv e2
  obtain ⟨y1, rfl, e4⟩ := castInt_inv e3
  obtain ⟨rfl, e5⟩ := castNil_inv e4
  have e := e5
  exact (S21_0_eq lf y0 y1 h).trans e
def k21 : KC := (.seq (.reg [⟨(some 6), none, (.op (.mv (.c .nils))), []⟩, ⟨(some 7), none, (.op (.mv (.c (.int .i64 0)))), []⟩]) (.seq (.sub 0 k21_0.er [1, 2] o21_0) (.seq (.reg [⟨(some 23), none, (.op (.bslice 1 (.int .u8 0) 8 [(0, (.c (.int .u8 119))), (1, (.c (.int .u8 97))), (2, (.c (.int .u8 105))), (3, (.c (.int .u8 110))), (4, (.c (.int .u8 115))), (5, (.c (.int .u8 99))), (6, (.c (.int .u8 111))), (7, (.c (.int .u8 116)))])), []⟩, ⟨(some 24), none, (.op (.strish (.t 23))), []⟩, ⟨(some 25), none, (.op (.mv (.t 0))), []⟩, ⟨(some 26), none, (.call 51 [(.t 25)]), []⟩, ⟨(some 27), none, (.op (.app 1 1 (.t 24) (.t 26))), []⟩, ⟨(some 8), none, (.op (.mv (.t 27))), []⟩]) (.seq (.reg [⟨(some 28), none, (.op (.mv (.t 8))), []⟩, ⟨(some 29), none, (.op (.mv (.t 1))), []⟩, ⟨(some 30), none, (.op (.toInt .u32 (.t 29))), []⟩, ⟨(some 31), none, (.call 52 [(.t 30)]), []⟩, ⟨(some 32), none, (.op (.app 1 1 (.t 28) (.t 31))), []⟩, ⟨(some 33), none, (.op (.mv (.t 2))), []⟩, ⟨(some 34), none, (.op (.toInt .u32 (.t 33))), []⟩, ⟨(some 35), none, (.call 52 [(.t 34)]), []⟩, ⟨(some 36), none, (.op (.app 1 1 (.t 32) (.t 35))), []⟩, ⟨(some 8), none, (.op (.mv (.t 36))), []⟩]) (.seq (.reg [⟨(some 37), none, (.op (.mv (.t 8))), []⟩, ⟨(some 38), none, (.op (.mv (.t 8))), []⟩, ⟨(some 39), none, (.call 25 [(.t 38)]), []⟩, ⟨(some 40), none, (.call 52 [(.t 39)]), []⟩, ⟨(some 41), none, (.op (.app 1 1 (.t 37) (.t 40))), []⟩, ⟨(some 42), none, (.call 53 [(.t 41), (.c (.int .i64 64))]), []⟩, ⟨(some 6), none, (.op (.mv (.t 42))), []⟩, ⟨(some 7), none, (.op (.mv (.c (.int .i64 0)))), []⟩]) .ret)))))
noncomputable def F21 (lf : Nat) (salt : Int) (pages : Int) (records : Int) (h : List Ob) : Option (V × List Ob) :=
bind3 (S21_0 lf pages records h) fun ex vs h_ =>
cB (decide (ex = .ret)) (
castCons vs fun x6 l =>
castCons l fun c l1 =>
castInt .i64 c fun x7 =>
castNil l1 (
some ((.tup [x6, (.int .i64 x7)]), h_))) (
cB (decide (ex = .normal)) (
castNil vs (
bind2 (ev (.bslice 1 (.int .u8 0) 8 [(0, (.c (.int .u8 (119)))), (1, (.c (.int .u8 (97)))), (2, (.c (.int .u8 (105)))), (3, (.c (.int .u8 (110)))), (4, (.c (.int .u8 (115)))), (5, (.c (.int .u8 (99)))), (6, (.c (.int .u8 (111)))), (7, (.c (.int .u8 (116))))]) h_) fun x23 h_1 =>
bind1 (er (.strish (.c x23)) h_1) fun x24 =>
bind2 (F51 lf salt h_1) fun x26 h_2 =>
bind2 (ev (.app 1 1 (.c x24) (.c x26)) h_2) fun x27 h_3 =>
bind2 (F52 lf (IntKind.u32.wrap pages) h_3) fun x31 h_4 =>
bind2 (ev (.app 1 1 (.c x27) (.c x31)) h_4) fun x32 h_5 =>
bind2 (F52 lf (IntKind.u32.wrap records) h_5) fun x35 h_6 =>
bind2 (ev (.app 1 1 (.c x32) (.c x35)) h_6) fun x36 h_7 =>
bind2 (F25 lf x36 h_7) fun v h_8 =>
castInt .u32 v fun x39 =>
bind2 (F52 lf x39 h_8) fun x40 h_9 =>
bind2 (ev (.app 1 1 (.c x36) (.c x40)) h_9) fun x41 h_10 =>
bind2 (F53 lf x41 (64) h_10) fun x42 h_11 =>
some ((.tup [x42, (.int .i64 (0))]), h_11))) (
none))
theorem F21_eq (lf : Nat) (salt : Int) (pages : Int) (records : Int) (h : List Ob) : evCK A21 ⟨call21 lf, cvN, subC 0 (w21_0 (S21_0 lf)) (subN)⟩ k21 (entryK [(.int .u64 salt), (.int .i64 pages), (.int .i64 records)]) h (endF c21.res) = F21 lf salt pages records h := by kernel_rfl
theorem F21_ok (lf : Nat) (salt : Int) (pages : Int) (records : Int) (h : List Ob) (r_ : V) (h_r : List Ob) (e_ : F21 lf salt pages records h = some (r_, h_r)) : CD Go.Proofs.Try.prog 21 [(.int .u64 salt), (.int .i64 pages), (.int .i64 records)] h r_ h_r :=
  CD.ofK (A := A21) (σ := ⟨call21 lf, cvN, subC 0 (w21_0 (S21_0 lf)) (subN)⟩) (c := k21) Go.Proofs.Try.func21 ok21 en21 (show 3 ≤ 43 by decide) (by kernel_rfl) (call21_ok lf) cvN_ok (And.intro True.intro (And.intro (S21_0_ok lf) (And.intro True.intro (And.intro True.intro (And.intro True.intro True.intro))))) ((F21_eq lf salt pages records h).trans e_)
def w21 (f : Int → Int → Int → List Ob → Option (V × List Ob)) (vs : List V) (h : List Ob) : Option (V × List Ob) := castCons vs fun c1 l1 => castInt .u64 c1 fun n2 => castCons l1 fun c3 l3 => castInt .i64 c3 fun n4 => castCons l3 fun c5 l5 => castInt .i64 c5 fun n6 => castNil l5 (f n2 n4 n6 h)
noncomputable def W21 (lf : Nat) : List V → List Ob → Option (V × List Ob) := w21 (F21 lf)
theorem W21_ok (lf : Nat) : ∀ args h v h', W21 lf args h = some (v, h') → CD Go.Proofs.Try.prog 21 args h v h' := by
  intro vs h r h' e0
  simp only [W21, w21] at e0
  obtain ⟨c1, l1, rfl, e1⟩ := castCons_inv e0
  obtain ⟨y0, rfl, e2⟩ := castInt_inv e1
  obtain ⟨c2, l2, rfl, e3⟩ := castCons_inv e2
  obtain ⟨y1, rfl, e4⟩ := castInt_inv e3
  obtain ⟨c3, l3, rfl, e5⟩ := castCons_inv e4
  obtain ⟨y2, rfl, e6⟩ := castInt_inv e5
  obtain ⟨rfl, e7⟩ := castNil_inv e6
  have e := e7
  exact F21_ok lf y0 y1 y2 h r h' e

/-! 22: wainscot/journal.Record -/
def A22 : List (Nat × Sh) := [(0, (.int .u64)), (1, (.int .i64)), (7, (.int .i64)), (9, (.int .u32)), (10, (.int .i64)), (11, .bool), (12, .bool), (13, (.int .i64)), (14, .bool), (15, .bool), (16, .bool), (18, (.int .i64)), (19, .bool), (20, .bool), (21, (.int .i64)), (22, (.int .u64)), (26, (.int .u64)), (30, (.int .u32)), (32, (.int .u32)), (33, (.int .u64))]
noncomputable def call22 (lf : Nat) : CallS := callC 50 (W50 lf) (callC 49 (W49 lf) (callC 24 (W24 lf) (callN)))
theorem call22_ok (lf : Nat) : CallOk Go.Proofs.Try.prog (call22 lf) := callC_ok (W50_ok lf) (callC_ok (W49_ok lf) (callC_ok (W24_ok lf) (callN_ok)))
def o22_0 : Outs := [(.ret, [6, 7], [.any, (.int .i64)]), (.normal, [], [])]
def k22_0 : KC := (.seq (.reg [⟨(some 10), none, (.op (.mv (.t 1))), []⟩, ⟨(some 11), none, (.op (.bin .lss (.t 10) (.c (.int .i64 0)))), []⟩, ⟨(some 12), none, (.op (.mv (.t 11))), []⟩, ⟨(some 13), (some (12, false)), (.op (.mv (.t 1))), []⟩, ⟨(some 14), (some (12, false)), (.op (.bin .gtr (.t 13) (.c (.int .i64 10000)))), []⟩, ⟨(some 15), none, (.op (.pick (.t 12) (.c (.bool true)) (.t 14))), []⟩, ⟨(some 16), none, (.op (.mv (.t 15))), []⟩, ⟨(some 17), (some (16, false)), (.op (.mv (.t 2))), []⟩, ⟨(some 18), (some (16, false)), (.op (.lenL (.t 17))), []⟩, ⟨(some 19), (some (16, false)), (.op (.bin .neq (.t 18) (.c (.int .i64 512)))), []⟩, ⟨(some 20), none, (.op (.pick (.t 16) (.c (.bool true)) (.t 19))), []⟩]) (.cond (.t 20) (.seq (.reg [⟨(some 6), none, (.op (.mv (.c .nils))), []⟩, ⟨(some 7), none, (.op (.mv (.c (.int .i64 1)))), []⟩]) .ret) .skip))
def w22_0 (f : Int → V → List Ob → SubR) (vs : List V) (h : List Ob) : SubR := castCons vs fun c1 l1 => castInt .i64 c1 fun n2 => castCons l1 fun c3 l3 => castNil l3 (f n2 c3 h)
noncomputable def S22_0 (lf : Nat) (number : Int) (data : V) (h : List Ob) : SubR :=
cB (decide (number < (0))) (
some (.ret, [V.nils, (.int .i64 (1))], h)) (
cB (decide (number > (10000))) (
some (.ret, [V.nils, (.int .i64 (1))], h)) (
bind1 (er (.lenL (.c data)) h) fun v =>
castInt .i64 v fun x18 =>
cB (x18 != (512)) (
some (.ret, [V.nils, (.int .i64 (1))], h)) (
some (.normal, [], h))))
theorem S22_0_eq (lf : Nat) (number : Int) (data : V) (h : List Ob) : evCK A22 ⟨call22 lf, cvN, subN⟩ k22_0 [(1, (.int .i64 number)), (2, data)] h (endK o22_0) = S22_0 lf number data h := by kernel_rfl
theorem S22_0_ok (lf : Nat) : SubOk Go.Proofs.Try.prog k22_0.er [1, 2] o22_0 (w22_0 (S22_0 lf)) := by
  refine SubOk.of (A := A22) (σ := ⟨call22 lf, cvN, subN⟩) (c := k22_0) (call22_ok lf) cvN_ok (And.intro True.intro (And.intro (And.intro True.intro True.intro) True.intro)) ?_
  intro vs h r e0
  simp only [w22_0] at e0
  obtain ⟨c1, l1, rfl, e1⟩ := castCons_inv e0
  obtain ⟨y0, rfl, e2⟩ := castInt_inv e1
  obtain ⟨c2, l2, rfl, e3⟩ := castCons_inv e2
  obtain ⟨rfl, e4⟩ := castNil_inv e3
  have e := e4
  exact (S22_0_eq lf y0 c2 h).trans e
def k22 : KC := (.seq (.reg [⟨(some 6), none, (.op (.mv (.c .nils))), []⟩, ⟨(some 7), none, (.op (.mv (.c (.int .i64 0)))), []⟩]) (.seq (.sub 0 k22_0.er [1, 2] o22_0) (.seq (.reg [⟨(some 21), none, (.op (.mv (.t 1))), []⟩, ⟨(some 22), none, (.op (.toInt .u64 (.t 21))), []⟩, ⟨(some 23), none, (.call 49 [(.c .nils), (.t 22), (.c (.int .i64 4))]), []⟩, ⟨(some 24), none, (.op (.mv (.t 2))), []⟩, ⟨(some 25), none, (.op (.app 1 1 (.t 23) (.t 24))), []⟩, ⟨(some 8), none, (.op (.mv (.t 25))), []⟩]) (.seq (.reg [⟨(some 26), none, (.op (.mv (.t 0))), []⟩, ⟨(some 27), none, (.call 49 [(.c .nils), (.t 26), (.c (.int .i64 8))]), []⟩, ⟨(some 28), none, (.op (.mv (.t 8))), []⟩, ⟨(some 29), none, (.op (.app 1 1 (.t 27) (.t 28))), []⟩, ⟨(some 30), none, (.call 24 [(.t 29)]), []⟩, ⟨(some 9), none, (.op (.mv (.t 30))), []⟩]) (.seq (.reg [⟨(some 31), none, (.op (.mv (.t 8))), []⟩, ⟨(some 32), none, (.op (.mv (.t 9))), []⟩, ⟨(some 33), none, (.op (.toInt .u64 (.t 32))), []⟩, ⟨(some 34), none, (.call 49 [(.t 31), (.t 33), (.c (.int .i64 4))]), []⟩, ⟨(some 35), none, (.call 50 [(.t 34), (.c (.int .i64 576))]), []⟩, ⟨(some 6), none, (.op (.mv (.t 35))), []⟩, ⟨(some 7), none, (.op (.mv (.c (.int .i64 0)))), []⟩]) .ret)))))
noncomputable def F22 (lf : Nat) (salt : Int) (number : Int) (data : V) (h : List Ob) : Option (V × List Ob) :=
bind3 (S22_0 lf number data h) fun ex vs h_ =>
cB (decide (ex = .ret)) (
castCons vs fun x6 l =>
castCons l fun c l1 =>
castInt .i64 c fun x7 =>
castNil l1 (
some ((.tup [x6, (.int .i64 x7)]), h_))) (
cB (decide (ex = .normal)) (
castNil vs (
bind2 (F49 lf V.nils (IntKind.u64.wrap number) (4) h_) fun x23 h_1 =>
bind2 (ev (.app 1 1 (.c x23) (.c data)) h_1) fun x25 h_2 =>
bind2 (F49 lf V.nils salt (8) h_2) fun x27 h_3 =>
bind2 (ev (.app 1 1 (.c x27) (.c x25)) h_3) fun x29 h_4 =>
bind2 (F24 lf x29 h_4) fun v h_5 =>
castInt .u32 v fun x30 =>
bind2 (F49 lf x25 (IntKind.u64.wrap x30) (4) h_5) fun x34 h_6 =>
bind2 (F50 lf x34 (576) h_6) fun x35 h_7 =>
some ((.tup [x35, (.int .i64 (0))]), h_7))) (
none))
theorem F22_eq (lf : Nat) (salt : Int) (number : Int) (data : V) (h : List Ob) : evCK A22 ⟨call22 lf, cvN, subC 0 (w22_0 (S22_0 lf)) (subN)⟩ k22 (entryK [(.int .u64 salt), (.int .i64 number), data]) h (endF c22.res) = F22 lf salt number data h := by kernel_rfl
theorem F22_ok (lf : Nat) (salt : Int) (number : Int) (data : V) (h : List Ob) (r_ : V) (h_r : List Ob) (e_ : F22 lf salt number data h = some (r_, h_r)) : CD Go.Proofs.Try.prog 22 [(.int .u64 salt), (.int .i64 number), data] h r_ h_r :=
  CD.ofK (A := A22) (σ := ⟨call22 lf, cvN, subC 0 (w22_0 (S22_0 lf)) (subN)⟩) (c := k22) Go.Proofs.Try.func22 ok22 en22 (show 3 ≤ 36 by decide) (by kernel_rfl) (call22_ok lf) cvN_ok (And.intro True.intro (And.intro (S22_0_ok lf) (And.intro True.intro (And.intro True.intro (And.intro True.intro True.intro))))) ((F22_eq lf salt number data h).trans e_)
def w22 (f : Int → Int → V → List Ob → Option (V × List Ob)) (vs : List V) (h : List Ob) : Option (V × List Ob) := castCons vs fun c1 l1 => castInt .u64 c1 fun n2 => castCons l1 fun c3 l3 => castInt .i64 c3 fun n4 => castCons l3 fun c5 l5 => castNil l5 (f n2 n4 c5 h)
noncomputable def W22 (lf : Nat) : List V → List Ob → Option (V × List Ob) := w22 (F22 lf)
theorem W22_ok (lf : Nat) : ∀ args h v h', W22 lf args h = some (v, h') → CD Go.Proofs.Try.prog 22 args h v h' := by
  intro vs h r h' e0
  simp only [W22, w22] at e0
  obtain ⟨c1, l1, rfl, e1⟩ := castCons_inv e0
  obtain ⟨y0, rfl, e2⟩ := castInt_inv e1
  obtain ⟨c2, l2, rfl, e3⟩ := castCons_inv e2
  obtain ⟨y1, rfl, e4⟩ := castInt_inv e3
  obtain ⟨c3, l3, rfl, e5⟩ := castCons_inv e4
  obtain ⟨rfl, e6⟩ := castNil_inv e5
  have e := e6
  exact F22_ok lf y0 y1 c3 h r h' e

/-! 23: wainscot/wainscotref09.Record -/
def A23 : List (Nat × Sh) := [(0, (.int .u64)), (1, (.int .i64)), (7, (.int .i64)), (9, (.int .u32)), (10, (.int .i64)), (11, .bool), (12, .bool), (13, (.int .i64)), (14, .bool), (15, .bool), (16, .bool), (18, (.int .i64)), (19, .bool), (20, .bool), (21, (.int .i64)), (22, (.int .u32)), (26, (.int .u64)), (30, (.int .u32)), (32, (.int .u32))]
noncomputable def call23 (lf : Nat) : CallS := callC 53 (W53 lf) (callC 52 (W52 lf) (callC 51 (W51 lf) (callC 25 (W25 lf) (callN))))
theorem call23_ok (lf : Nat) : CallOk Go.Proofs.Try.prog (call23 lf) := callC_ok (W53_ok lf) (callC_ok (W52_ok lf) (callC_ok (W51_ok lf) (callC_ok (W25_ok lf) (callN_ok))))
def o23_0 : Outs := [(.ret, [6, 7], [.any, (.int .i64)]), (.normal, [], [])]
def k23_0 : KC := (.seq (.reg [⟨(some 10), none, (.op (.mv (.t 1))), []⟩, ⟨(some 11), none, (.op (.bin .lss (.t 10) (.c (.int .i64 0)))), []⟩, ⟨(some 12), none, (.op (.mv (.t 11))), []⟩, ⟨(some 13), (some (12, false)), (.op (.mv (.t 1))), []⟩, ⟨(some 14), (some (12, false)), (.op (.bin .gtr (.t 13) (.c (.int .i64 10000)))), []⟩, ⟨(some 15), none, (.op (.pick (.t 12) (.c (.bool true)) (.t 14))), []⟩, ⟨(some 16), none, (.op (.mv (.t 15))), []⟩, ⟨(some 17), (some (16, false)), (.op (.mv (.t 2))), []⟩, ⟨(some 18), (some (16, false)), (.op (.lenL (.t 17))), []⟩, ⟨(some 19), (some (16, false)), (.op (.bin .neq (.t 18) (.c (.int .i64 512)))), []⟩, ⟨(some 20), none, (.op (.pick (.t 16) (.c (.bool true)) (.t 19))), []⟩]) (.cond (.t 20) (.seq (.reg [⟨(some 6), none, (.op (.mv (.c .nils))), []⟩, ⟨(some 7), none, (.op (.mv (.c (.int .i64 1)))), []⟩]) .ret) .skip))
def w23_0 (f : Int → V → List Ob → SubR) (vs : List V) (h : List Ob) : SubR := castCons vs fun c1 l1 => castInt .i64 c1 fun n2 => castCons l1 fun c3 l3 => castNil l3 (f n2 c3 h)
noncomputable def S23_0 (lf : Nat) (number : Int) (data : V) (h : List Ob) : SubR :=
cB (decide (number < (0))) (
some (.ret, [V.nils, (.int .i64 (1))], h)) (
cB (decide (number > (10000))) (
some (.ret, [V.nils, (.int .i64 (1))], h)) (
bind1 (er (.lenL (.c data)) h) fun v =>
castInt .i64 v fun x18 =>
cB (x18 != (512)) (
some (.ret, [V.nils, (.int .i64 (1))], h)) (
some (.normal, [], h))))
theorem S23_0_eq (lf : Nat) (number : Int) (data : V) (h : List Ob) : evCK A23 ⟨call23 lf, cvN, subN⟩ k23_0 [(1, (.int .i64 number)), (2, data)] h (endK o23_0) = S23_0 lf number data h := by kernel_rfl
theorem S23_0_ok (lf : Nat) : SubOk Go.Proofs.Try.prog k23_0.er [1, 2] o23_0 (w23_0 (S23_0 lf)) := by
  refine SubOk.of (A := A23) (σ := ⟨call23 lf, cvN, subN⟩) (c := k23_0) (call23_ok lf) cvN_ok (And.intro True.intro (And.intro (And.intro True.intro True.intro) True.intro)) ?_
  intro vs h r e0
  simp only [w23_0] at e0
  obtain ⟨c1, l1, rfl, e1⟩ := castCons_inv e0
  obtain ⟨y0, rfl, e2⟩ := castInt_inv e1
  obtain ⟨c2, l2, rfl, e3⟩ := castCons_inv e2
  obtain ⟨rfl, e4⟩ := castNil_inv e3
  have e := e4
  exact (S23_0_eq lf y0 c2 h).trans e
def k23 : KC := (.seq (.reg [⟨(some 6), none, (.op (.mv (.c .nils))), []⟩, ⟨(some 7), none, (.op (.mv (.c (.int .i64 0)))), []⟩]) (.seq (.sub 0 k23_0.er [1, 2] o23_0) (.seq (.reg [⟨(some 21), none, (.op (.mv (.t 1))), []⟩, ⟨(some 22), none, (.op (.toInt .u32 (.t 21))), []⟩, ⟨(some 23), none, (.call 52 [(.t 22)]), []⟩, ⟨(some 24), none, (.op (.mv (.t 2))), []⟩, ⟨(some 25), none, (.op (.app 1 1 (.t 23) (.t 24))), []⟩, ⟨(some 8), none, (.op (.mv (.t 25))), []⟩]) (.seq (.reg [⟨(some 26), none, (.op (.mv (.t 0))), []⟩, ⟨(some 27), none, (.call 51 [(.t 26)]), []⟩, ⟨(some 28), none, (.op (.mv (.t 8))), []⟩, ⟨(some 29), none, (.op (.app 1 1 (.t 27) (.t 28))), []⟩, ⟨(some 30), none, (.call 25 [(.t 29)]), []⟩, ⟨(some 9), none, (.op (.mv (.t 30))), []⟩]) (.seq (.reg [⟨(some 31), none, (.op (.mv (.t 8))), []⟩, ⟨(some 32), none, (.op (.mv (.t 9))), []⟩, ⟨(some 33), none, (.call 52 [(.t 32)]), []⟩, ⟨(some 34), none, (.op (.app 1 1 (.t 31) (.t 33))), []⟩, ⟨(some 35), none, (.call 53 [(.t 34), (.c (.int .i64 576))]), []⟩, ⟨(some 6), none, (.op (.mv (.t 35))), []⟩, ⟨(some 7), none, (.op (.mv (.c (.int .i64 0)))), []⟩]) .ret)))))
noncomputable def F23 (lf : Nat) (salt : Int) (number : Int) (data : V) (h : List Ob) : Option (V × List Ob) :=
bind3 (S23_0 lf number data h) fun ex vs h_ =>
cB (decide (ex = .ret)) (
castCons vs fun x6 l =>
castCons l fun c l1 =>
castInt .i64 c fun x7 =>
castNil l1 (
some ((.tup [x6, (.int .i64 x7)]), h_))) (
cB (decide (ex = .normal)) (
castNil vs (
bind2 (F52 lf (IntKind.u32.wrap number) h_) fun x23 h_1 =>
bind2 (ev (.app 1 1 (.c x23) (.c data)) h_1) fun x25 h_2 =>
bind2 (F51 lf salt h_2) fun x27 h_3 =>
bind2 (ev (.app 1 1 (.c x27) (.c x25)) h_3) fun x29 h_4 =>
bind2 (F25 lf x29 h_4) fun v h_5 =>
castInt .u32 v fun x30 =>
bind2 (F52 lf x30 h_5) fun x33 h_6 =>
bind2 (ev (.app 1 1 (.c x25) (.c x33)) h_6) fun x34 h_7 =>
bind2 (F53 lf x34 (576) h_7) fun x35 h_8 =>
some ((.tup [x35, (.int .i64 (0))]), h_8))) (
none))
theorem F23_eq (lf : Nat) (salt : Int) (number : Int) (data : V) (h : List Ob) : evCK A23 ⟨call23 lf, cvN, subC 0 (w23_0 (S23_0 lf)) (subN)⟩ k23 (entryK [(.int .u64 salt), (.int .i64 number), data]) h (endF c23.res) = F23 lf salt number data h := by kernel_rfl
theorem F23_ok (lf : Nat) (salt : Int) (number : Int) (data : V) (h : List Ob) (r_ : V) (h_r : List Ob) (e_ : F23 lf salt number data h = some (r_, h_r)) : CD Go.Proofs.Try.prog 23 [(.int .u64 salt), (.int .i64 number), data] h r_ h_r :=
  CD.ofK (A := A23) (σ := ⟨call23 lf, cvN, subC 0 (w23_0 (S23_0 lf)) (subN)⟩) (c := k23) Go.Proofs.Try.func23 ok23 en23 (show 3 ≤ 36 by decide) (by kernel_rfl) (call23_ok lf) cvN_ok (And.intro True.intro (And.intro (S23_0_ok lf) (And.intro True.intro (And.intro True.intro (And.intro True.intro True.intro))))) ((F23_eq lf salt number data h).trans e_)
def w23 (f : Int → Int → V → List Ob → Option (V × List Ob)) (vs : List V) (h : List Ob) : Option (V × List Ob) := castCons vs fun c1 l1 => castInt .u64 c1 fun n2 => castCons l1 fun c3 l3 => castInt .i64 c3 fun n4 => castCons l3 fun c5 l5 => castNil l5 (f n2 n4 c5 h)
noncomputable def W23 (lf : Nat) : List V → List Ob → Option (V × List Ob) := w23 (F23 lf)
theorem W23_ok (lf : Nat) : ∀ args h v h', W23 lf args h = some (v, h') → CD Go.Proofs.Try.prog 23 args h v h' := by
  intro vs h r h' e0
  simp only [W23, w23] at e0
  obtain ⟨c1, l1, rfl, e1⟩ := castCons_inv e0
  obtain ⟨y0, rfl, e2⟩ := castInt_inv e1
  obtain ⟨c2, l2, rfl, e3⟩ := castCons_inv e2
  obtain ⟨y1, rfl, e4⟩ := castInt_inv e3
  obtain ⟨c3, l3, rfl, e5⟩ := castCons_inv e4
  obtain ⟨rfl, e6⟩ := castNil_inv e5
  have e := e6
  exact F23_ok lf y0 y1 c3 h r h' e

/-! 4: wainscot/wainscotlaw10.JournalWrites -/
def A4 : List (Nat × Sh) := [(1, (.int .u64)), (2, (.int .i64)), (3, (.int .i64)), (4, (.int .i64)), (12, .bool), (14, (.int .i64)), (16, (.int .i64)), (18, (.int .i64)), (20, (.int .i64)), (21, .bool), (22, .bool), (23, (.tup [.any, (.int .i64)])), (24, (.int .u64)), (25, (.int .i64)), (26, (.int .i64)), (27, (.tup [.any, (.int .i64)])), (29, (.int .i64)), (30, (.tup [.any, (.int .i64)])), (31, (.int .u64)), (32, (.int .i64)), (33, (.int .i64)), (34, (.tup [.any, (.int .i64)])), (36, (.int .i64)), (37, (.tup [.any, (.int .i64)])), (38, (.int .u64)), (39, (.int .i64)), (41, (.tup [.any, (.int .i64)])), (43, (.int .i64)), (44, (.tup [.any, (.int .i64)])), (45, (.int .u64)), (46, (.int .i64)), (48, (.tup [.any, (.int .i64)])), (50, (.int .i64)), (52, (.int .u32)), (54, (.int .u32)), (55, .bool), (56, .bool), (58, .str), (60, .str), (61, .bool), (62, .bool), (63, .bool), (64, (.int .i64)), (65, (.int .i64)), (66, .bool), (67, .bool), (68, .bool), (70, .str), (72, .str), (73, .bool), (74, .bool), (75, .bool), (76, (.int .i64)), (77, (.int .i64)), (78, .bool), (79, .bool)]
noncomputable def call4 (lf : Nat) : CallS := callC 25 (W25 lf) (callC 24 (W24 lf) (callC 23 (W23 lf) (callC 22 (W22 lf) (callC 21 (W21 lf) (callC 20 (W20 lf) (callC 19 (W19 lf) (callN)))))))
theorem call4_ok (lf : Nat) : CallOk Go.Proofs.Try.prog (call4 lf) := callC_ok (W25_ok lf) (callC_ok (W24_ok lf) (callC_ok (W23_ok lf) (callC_ok (W22_ok lf) (callC_ok (W21_ok lf) (callC_ok (W20_ok lf) (callC_ok (W19_ok lf) (callN_ok)))))))
def k4 : KC := (.seq (.reg [⟨(some 12), none, (.op (.mv (.c (.bool false)))), []⟩]) (.seq (.seq (.reg [⟨(some 21), none, (.call 19 []), []⟩, ⟨(some 22), none, (.op (.un .not (.t 21))), []⟩]) (.cond (.t 22) (.seq (.reg [⟨(some 12), none, (.op (.mv (.c (.bool false)))), []⟩]) .ret) .skip)) (.seq (.reg [⟨(some 24), none, (.op (.mv (.t 1))), []⟩, ⟨(some 25), none, (.op (.mv (.t 2))), []⟩, ⟨(some 26), none, (.op (.mv (.t 3))), []⟩, ⟨(some 27), none, (.call 20 [(.t 24), (.t 25), (.t 26)]), []⟩, ⟨(some 23), none, (.op (.mv (.t 27))), []⟩, ⟨(some 28), none, (.op (.ext 0 (.t 23))), []⟩, ⟨(some 29), none, (.op (.ext 1 (.t 23))), []⟩, ⟨(some 13), none, (.op (.mv (.t 28))), []⟩, ⟨(some 14), none, (.op (.mv (.t 29))), []⟩]) (.seq (.reg [⟨(some 31), none, (.op (.mv (.t 1))), []⟩, ⟨(some 32), none, (.op (.mv (.t 2))), []⟩, ⟨(some 33), none, (.op (.mv (.t 3))), []⟩, ⟨(some 34), none, (.call 21 [(.t 31), (.t 32), (.t 33)]), []⟩, ⟨(some 30), none, (.op (.mv (.t 34))), []⟩, ⟨(some 35), none, (.op (.ext 0 (.t 30))), []⟩, ⟨(some 36), none, (.op (.ext 1 (.t 30))), []⟩, ⟨(some 15), none, (.op (.mv (.t 35))), []⟩, ⟨(some 16), none, (.op (.mv (.t 36))), []⟩]) (.seq (.reg [⟨(some 38), none, (.op (.mv (.t 1))), []⟩, ⟨(some 39), none, (.op (.mv (.t 4))), []⟩, ⟨(some 40), none, (.op (.mv (.t 5))), []⟩, ⟨(some 41), none, (.call 22 [(.t 38), (.t 39), (.t 40)]), []⟩, ⟨(some 37), none, (.op (.mv (.t 41))), []⟩, ⟨(some 42), none, (.op (.ext 0 (.t 37))), []⟩, ⟨(some 43), none, (.op (.ext 1 (.t 37))), []⟩, ⟨(some 17), none, (.op (.mv (.t 42))), []⟩, ⟨(some 18), none, (.op (.mv (.t 43))), []⟩]) (.seq (.reg [⟨(some 45), none, (.op (.mv (.t 1))), []⟩, ⟨(some 46), none, (.op (.mv (.t 4))), []⟩, ⟨(some 47), none, (.op (.mv (.t 5))), []⟩, ⟨(some 48), none, (.call 23 [(.t 45), (.t 46), (.t 47)]), []⟩, ⟨(some 44), none, (.op (.mv (.t 48))), []⟩, ⟨(some 49), none, (.op (.ext 0 (.t 44))), []⟩, ⟨(some 50), none, (.op (.ext 1 (.t 44))), []⟩, ⟨(some 19), none, (.op (.mv (.t 49))), []⟩, ⟨(some 20), none, (.op (.mv (.t 50))), []⟩]) (.seq (.reg [⟨(some 51), none, (.op (.mv (.t 0))), []⟩, ⟨(some 52), none, (.call 24 [(.t 51)]), []⟩, ⟨(some 53), none, (.op (.mv (.t 0))), []⟩, ⟨(some 54), none, (.call 25 [(.t 53)]), []⟩, ⟨(some 55), none, (.op (.bin .eql (.t 52) (.t 54))), []⟩, ⟨(some 56), none, (.op (.mv (.t 55))), []⟩, ⟨(some 57), (some (56, true)), (.op (.mv (.t 13))), []⟩, ⟨(some 58), (some (56, true)), (.op (.toStr (.t 57))), []⟩, ⟨(some 59), (some (56, true)), (.op (.mv (.t 15))), []⟩, ⟨(some 60), (some (56, true)), (.op (.toStr (.t 59))), []⟩, ⟨(some 61), (some (56, true)), (.op (.bin .eql (.t 58) (.t 60))), []⟩, ⟨(some 62), none, (.op (.pick (.t 56) (.t 61) (.c (.bool false)))), []⟩, ⟨(some 63), none, (.op (.mv (.t 62))), []⟩, ⟨(some 64), (some (63, true)), (.op (.mv (.t 14))), []⟩, ⟨(some 65), (some (63, true)), (.op (.mv (.t 16))), []⟩, ⟨(some 66), (some (63, true)), (.op (.bin .eql (.t 64) (.t 65))), []⟩, ⟨(some 67), none, (.op (.pick (.t 63) (.t 66) (.c (.bool false)))), []⟩, ⟨(some 68), none, (.op (.mv (.t 67))), []⟩, ⟨(some 69), (some (68, true)), (.op (.mv (.t 17))), []⟩, ⟨(some 70), (some (68, true)), (.op (.toStr (.t 69))), []⟩, ⟨(some 71), (some (68, true)), (.op (.mv (.t 19))), []⟩, ⟨(some 72), (some (68, true)), (.op (.toStr (.t 71))), []⟩, ⟨(some 73), (some (68, true)), (.op (.bin .eql (.t 70) (.t 72))), []⟩, ⟨(some 74), none, (.op (.pick (.t 68) (.t 73) (.c (.bool false)))), []⟩, ⟨(some 75), none, (.op (.mv (.t 74))), []⟩, ⟨(some 76), (some (75, true)), (.op (.mv (.t 18))), []⟩, ⟨(some 77), (some (75, true)), (.op (.mv (.t 20))), []⟩, ⟨(some 78), (some (75, true)), (.op (.bin .eql (.t 76) (.t 77))), []⟩, ⟨(some 79), none, (.op (.pick (.t 75) (.t 78) (.c (.bool false)))), []⟩, ⟨(some 12), none, (.op (.mv (.t 79))), []⟩]) .ret)))))))
noncomputable def F4 (lf : Nat) (b : V) (salt : Int) (pages : Int) (records : Int) (number : Int) (data : V) (h : List Ob) : Option (V × List Ob) :=
bind2 (F19 lf h) fun v h_ =>
castBool v fun x21 =>
cB (!x21) (
some ((.bool false), h_)) (
bind2 (F20 lf salt pages records h_) fun v1 h_1 =>
castTup v1 fun l =>
castCons l fun x27_0 l1 =>
castCons l1 fun c l2 =>
castInt .i64 c fun x27_1 =>
castNil l2 (
bind2 (F21 lf salt pages records h_1) fun v2 h_2 =>
castTup v2 fun l3 =>
castCons l3 fun x34_0 l4 =>
castCons l4 fun c1 l5 =>
castInt .i64 c1 fun x34_1 =>
castNil l5 (
bind2 (F22 lf salt number data h_2) fun v3 h_3 =>
castTup v3 fun l6 =>
castCons l6 fun x41_0 l7 =>
castCons l7 fun c2 l8 =>
castInt .i64 c2 fun x41_1 =>
castNil l8 (
bind2 (F23 lf salt number data h_3) fun v4 h_4 =>
castTup v4 fun l9 =>
castCons l9 fun x48_0 l10 =>
castCons l10 fun c3 l11 =>
castInt .i64 c3 fun x48_1 =>
castNil l11 (
bind2 (F24 lf b h_4) fun v5 h_5 =>
castInt .u32 v5 fun x52 =>
bind2 (F25 lf b h_5) fun v6 h_6 =>
castInt .u32 v6 fun x54 =>
cB (x52 == x54) (
bind1 (er (.toStr (.c x27_0)) h_6) fun v7 =>
castStr v7 fun x58 =>
bind1 (er (.toStr (.c x34_0)) h_6) fun v8 =>
castStr v8 fun x60 =>
cB (x58 == x60) (
cB (x27_1 == x34_1) (
bind1 (er (.toStr (.c x41_0)) h_6) fun v9 =>
castStr v9 fun x70 =>
bind1 (er (.toStr (.c x48_0)) h_6) fun v10 =>
castStr v10 fun x72 =>
cB (x70 == x72) (
some ((.bool (x41_1 == x48_1)), h_6)) (
some ((.bool false), h_6))) (
some ((.bool false), h_6))) (
some ((.bool false), h_6))) (
some ((.bool false), h_6)))))))
theorem F4_eq (lf : Nat) (b : V) (salt : Int) (pages : Int) (records : Int) (number : Int) (data : V) (h : List Ob) : evCK A4 ⟨call4 lf, cvN, subN⟩ k4 (entryK [b, (.int .u64 salt), (.int .i64 pages), (.int .i64 records), (.int .i64 number), data]) h (endF c4.res) = F4 lf b salt pages records number data h := by kernel_rfl
theorem F4_ok (lf : Nat) (b : V) (salt : Int) (pages : Int) (records : Int) (number : Int) (data : V) (h : List Ob) (r_ : V) (h_r : List Ob) (e_ : F4 lf b salt pages records number data h = some (r_, h_r)) : CD Go.Proofs.Try.prog 4 [b, (.int .u64 salt), (.int .i64 pages), (.int .i64 records), (.int .i64 number), data] h r_ h_r :=
  CD.ofK (A := A4) (σ := ⟨call4 lf, cvN, subN⟩) (c := k4) Go.Proofs.Try.func4 ok4 en4 (show 6 ≤ 80 by decide) (by kernel_rfl) (call4_ok lf) cvN_ok (And.intro True.intro (And.intro (And.intro True.intro (And.intro (And.intro True.intro True.intro) True.intro)) (And.intro True.intro (And.intro True.intro (And.intro True.intro (And.intro True.intro (And.intro True.intro True.intro))))))) ((F4_eq lf b salt pages records number data h).trans e_)
def w4 (f : V → Int → Int → Int → Int → V → List Ob → Option (V × List Ob)) (vs : List V) (h : List Ob) : Option (V × List Ob) := castCons vs fun c1 l1 => castCons l1 fun c2 l2 => castInt .u64 c2 fun n3 => castCons l2 fun c4 l4 => castInt .i64 c4 fun n5 => castCons l4 fun c6 l6 => castInt .i64 c6 fun n7 => castCons l6 fun c8 l8 => castInt .i64 c8 fun n9 => castCons l8 fun c10 l10 => castNil l10 (f c1 n3 n5 n7 n9 c10 h)
noncomputable def W4 (lf : Nat) : List V → List Ob → Option (V × List Ob) := w4 (F4 lf)
theorem W4_ok (lf : Nat) : ∀ args h v h', W4 lf args h = some (v, h') → CD Go.Proofs.Try.prog 4 args h v h' := by
  intro vs h r h' e0
  simp only [W4, w4] at e0
  obtain ⟨c1, l1, rfl, e1⟩ := castCons_inv e0
  obtain ⟨c2, l2, rfl, e2⟩ := castCons_inv e1
  obtain ⟨y1, rfl, e3⟩ := castInt_inv e2
  obtain ⟨c3, l3, rfl, e4⟩ := castCons_inv e3
  obtain ⟨y2, rfl, e5⟩ := castInt_inv e4
  obtain ⟨c4, l4, rfl, e6⟩ := castCons_inv e5
  obtain ⟨y3, rfl, e7⟩ := castInt_inv e6
  obtain ⟨c5, l5, rfl, e8⟩ := castCons_inv e7
  obtain ⟨y4, rfl, e9⟩ := castInt_inv e8
  obtain ⟨c6, l6, rfl, e10⟩ := castCons_inv e9
  obtain ⟨rfl, e11⟩ := castNil_inv e10
  have e := e11
  exact F4_ok lf c1 y1 y2 y3 y4 c6 h r h' e

end Go.Proofs.Ytdcdmpgigmhhpaa.Jw
