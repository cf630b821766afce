/- Functions of the program as Lean functions, and that each call comes to what its function says. Printed by my own tool. No condition. -/
import Derived.Test.YtdcdmpgigmhhpaaJb
import Derived.Test.YtdcdmpgigmhhpaaL4
import Derived.Test.YtdcdmpgigmhhpaaJws
namespace Go.Proofs.Ytdcdmpgigmhhpaa.Jb
open Go Go.Proofs.Ytdcdmpgigmhhpaa.E
open Go.Proofs.Ytdcdmpgigmhhpaa.Jw
set_option maxRecDepth 100000
set_option linter.unusedVariables false
set_option linter.unusedSimpArgs false

/-! 30: wainscot/wainscotlaw10.page -/
def A30 : List (Nat × Sh) := [(0, (.int .u8)), (4, (.int .i64)), (7, (.int .i64)), (8, (.int .i64)), (9, .bool), (10, (.int .i64)), (12, (.int .i64)), (13, (.int .u8)), (15, (.int .i64))]
noncomputable def call30 (lf : Nat) : CallS := callN
theorem call30_ok (lf : Nat) : CallOk Go.Proofs.Try.prog (call30 lf) := callN_ok
def o30_0 : Outs := [((.exit 0), [], [])]
def k30_0 : KC := (.seq (.reg [⟨(some 9), none, (.op (.bin .lss (.t 8) (.t 7))), []⟩]) (.seq (.cond (.t 9) .skip (.exit 0)) (.seq (.block 1 (.seq (.reg [⟨(some 10), none, (.op (.mv (.t 8))), []⟩, ⟨(some 4), none, (.op (.mv (.t 10))), []⟩]) (.reg [⟨(some 11), none, (.op (.mv (.t 3))), []⟩, ⟨(some 12), none, (.op (.mv (.t 4))), []⟩, ⟨(some 13), none, (.op (.mv (.t 0))), []⟩, ⟨(some 14), none, (.op (.iaddrL 1 (.t 11) (.t 12))), []⟩, ⟨none, none, (.op (.store 1 (.t 14) (.t 13))), []⟩]))) (.reg [⟨(some 15), none, (.op (.bin .add (.t 8) (.c (.int .i64 1)))), []⟩, ⟨(some 8), none, (.op (.mv (.t 15))), []⟩]))))
def w30_0 (f : Int → V → Int → Int → List Ob → SubR) (vs : List V) (h : List Ob) : SubR := castCons vs fun c1 l1 => castInt .u8 c1 fun n2 => castCons l1 fun c3 l3 => castCons l3 fun c4 l4 => castInt .i64 c4 fun n5 => castCons l4 fun c6 l6 => castInt .i64 c6 fun n7 => castNil l6 (f n2 c3 n5 n7 h)
noncomputable def B30_0 (lf : Nat) (self : Int → V → Int → Int → List Ob → SubR) (b : Int) (out : V) (x7 : Int) (x8 : Int) (h : List Ob) : SubR :=
cB (decide (x8 < x7)) (
bind1 (er (.iaddrL 1 (.c out) (.c (.int .i64 x8))) h) fun x14 =>
bind2 (ev (.store 1 (.c x14) (.c (.int .u8 b))) h) fun u h_ =>
self b out x7 (IntKind.i64.wrap (x8 + (1))) h_) (
some ((.exit 0), [], h))
noncomputable def L30_0 (lf : Nat) : Nat → Int → V → Int → Int → List Ob → SubR
  | 0 => fun _ _ _ _ _ => none
  | n + 1 => B30_0 lf (L30_0 lf n)
theorem B30_0_eq (lf : Nat) (self : Int → V → Int → Int → List Ob → SubR) (b : Int) (out : V) (x7 : Int) (x8 : Int) (h : List Ob) : evCK A30 ⟨call30 lf, cvN, subN⟩ k30_0 [(0, (.int .u8 b)), (3, out), (7, (.int .i64 x7)), (8, (.int .i64 x8))] h (endL [0, 3, 7, 8] [(.int .u8), .any, (.int .i64), (.int .i64)] o30_0 (w30_0 self)) = B30_0 lf self b out x7 x8 h := by kernel_rfl
theorem L30_0_ok (lf : Nat) : ∀ n, SubOk Go.Proofs.Try.prog (.loop k30_0.er) [0, 3, 7, 8] o30_0 (w30_0 (L30_0 lf n)) := by
  refine SubOk.loop (A := A30) (σ := ⟨call30 lf, cvN, subN⟩) (c := k30_0) (shs := [(.int .u8), .any, (.int .i64), (.int .i64)]) (G := fun n => w30_0 (L30_0 lf n)) (call30_ok lf) cvN_ok (And.intro True.intro (And.intro (And.intro True.intro True.intro) (And.intro (And.intro True.intro True.intro) True.intro))) ?_ ?_
  · intro vs h r e0
    simp only [w30_0] at e0
    obtain ⟨c1, l1, rfl, e1⟩ := castCons_inv e0
    obtain ⟨y0, rfl, e2⟩ := castInt_inv e1
    obtain ⟨c2, l2, rfl, e3⟩ := castCons_inv e2
    obtain ⟨c3, l3, rfl, e4⟩ := castCons_inv e3
    obtain ⟨y2, rfl, e5⟩ := castInt_inv e4
    obtain ⟨c4, l4, rfl, e6⟩ := castCons_inv e5
    obtain ⟨y3, rfl, e7⟩ := castInt_inv e6
    obtain ⟨rfl, e8⟩ := castNil_inv e7
    have e := e8
    cases e
  · intro n vs h r e0
    simp only [w30_0] at e0
    obtain ⟨c1, l1, rfl, e1⟩ := castCons_inv e0
    obtain ⟨y0, rfl, e2⟩ := castInt_inv e1
    obtain ⟨c2, l2, rfl, e3⟩ := castCons_inv e2
    obtain ⟨c3, l3, rfl, e4⟩ := castCons_inv e3
    obtain ⟨y2, rfl, e5⟩ := castInt_inv e4
    obtain ⟨c4, l4, rfl, e6⟩ := castCons_inv e5
    obtain ⟨y3, rfl, e7⟩ := castInt_inv e6
    obtain ⟨rfl, e8⟩ := castNil_inv e7
    have e := e8
    exact (B30_0_eq lf (L30_0 lf n) y0 c2 y2 y3 h).trans e
def k30 : KC := (.seq (.reg [⟨(some 2), none, (.op (.mv (.c .nils))), []⟩]) (.seq (.reg [⟨(some 5), none, (.op (.mkslice (.int .u8 0) 1 (.c (.int .i64 512)) (.c (.int .i64 512)))), []⟩, ⟨(some 3), none, (.op (.mv (.t 5))), []⟩]) (.seq (.seq (.reg [⟨(some 6), none, (.op (.mv (.t 3))), []⟩, ⟨(some 7), none, (.op (.lenL (.t 6))), []⟩, ⟨(some 8), none, (.op (.mv (.c (.int .i64 0)))), []⟩]) (.block 0 (.sub 0 (.loop k30_0.er) [0, 3, 7, 8] o30_0))) (.seq (.reg [⟨(some 16), none, (.op (.mv (.t 3))), []⟩, ⟨(some 2), none, (.op (.mv (.t 16))), []⟩]) .ret))))
noncomputable def F30 (lf : Nat) (b : Int) (h : List Ob) : Option (V × List Ob) :=
bind2 (ev (.mkslice (.int .u8 0) 1 (.c (.int .i64 (512))) (.c (.int .i64 (512)))) h) fun x5 h_ =>
bind1 (er (.lenL (.c x5)) h_) fun v =>
castInt .i64 v fun x7 =>
bind3 (L30_0 lf lf b x5 x7 (0) h_) fun ex vs h_1 =>
cB (decide (ex = (.exit 0))) (
castNil vs (
some (x5, h_1))) (
none)
theorem F30_eq (lf : Nat) (b : Int) (h : List Ob) : evCK A30 ⟨call30 lf, cvN, subC 0 (w30_0 (L30_0 lf lf)) (subN)⟩ k30 (entryK [(.int .u8 b)]) h (endF c30.res) = F30 lf b h := by kernel_rfl
theorem F30_ok (lf : Nat) (b : Int) (h : List Ob) (r_ : V) (h_r : List Ob) (e_ : F30 lf b h = some (r_, h_r)) : CD Go.Proofs.Try.prog 30 [(.int .u8 b)] h r_ h_r :=
  CD.ofK (A := A30) (σ := ⟨call30 lf, cvN, subC 0 (w30_0 (L30_0 lf lf)) (subN)⟩) (c := k30) Go.Proofs.Try.func30 ok30 en30 (show 1 ≤ 17 by decide) (by kernel_rfl) (call30_ok lf) cvN_ok (And.intro True.intro (And.intro True.intro (And.intro (And.intro True.intro (L30_0_ok lf lf)) (And.intro True.intro True.intro)))) ((F30_eq lf b h).trans e_)
def w30 (f : Int → List Ob → Option (V × List Ob)) (vs : List V) (h : List Ob) : Option (V × List Ob) := castCons vs fun c1 l1 => castInt .u8 c1 fun n2 => castNil l1 (f n2 h)
noncomputable def W30 (lf : Nat) : List V → List Ob → Option (V × List Ob) := w30 (F30 lf)
theorem W30_ok (lf : Nat) : ∀ args h v h', W30 lf args h = some (v, h') → CD Go.Proofs.Try.prog 30 args h v h' := by
  intro vs h r h' e0
  simp only [W30, w30] at e0
  obtain ⟨c1, l1, rfl, e1⟩ := castCons_inv e0
  obtain ⟨y0, rfl, e2⟩ := castInt_inv e1
  obtain ⟨rfl, e3⟩ := castNil_inv e2
  have e := e3
  exact F30_ok lf y0 h r h' e

/-! 57: bytes.Equal -/
def A57 : List (Nat × Sh) := [(4, .bool), (6, .str), (8, .str), (9, .bool)]
noncomputable def call57 (lf : Nat) : CallS := callN
theorem call57_ok (lf : Nat) : CallOk Go.Proofs.Try.prog (call57 lf) := callN_ok
def k57 : KC := (.seq (.reg [⟨(some 4), none, (.op (.mv (.c (.bool false)))), []⟩]) (.seq (.reg [⟨(some 5), none, (.op (.mv (.t 0))), []⟩, ⟨(some 6), none, (.op (.toStr (.t 5))), []⟩, ⟨(some 7), none, (.op (.mv (.t 1))), []⟩, ⟨(some 8), none, (.op (.toStr (.t 7))), []⟩, ⟨(some 9), none, (.op (.bin .eql (.t 6) (.t 8))), []⟩, ⟨(some 4), none, (.op (.mv (.t 9))), []⟩]) .ret))
noncomputable def F57 (lf : Nat) (a : V) (b : V) (h : List Ob) : Option (V × List Ob) :=
bind1 (er (.toStr (.c a)) h) fun v =>
castStr v fun x6 =>
bind1 (er (.toStr (.c b)) h) fun v1 =>
castStr v1 fun x8 =>
some ((.bool (x6 == x8)), h)
theorem F57_eq (lf : Nat) (a : V) (b : V) (h : List Ob) : evCK A57 ⟨call57 lf, cvN, subN⟩ k57 (entryK [a, b]) h (endF c57.res) = F57 lf a b h := by kernel_rfl
theorem F57_ok (lf : Nat) (a : V) (b : V) (h : List Ob) (r_ : V) (h_r : List Ob) (e_ : F57 lf a b h = some (r_, h_r)) : CD Go.Proofs.Try.prog 57 [a, b] h r_ h_r :=
  CD.ofK (A := A57) (σ := ⟨call57 lf, cvN, subN⟩) (c := k57) Go.Proofs.Try.func57 ok57 en57 (show 2 ≤ 10 by decide) (by kernel_rfl) (call57_ok lf) cvN_ok (And.intro True.intro (And.intro True.intro True.intro)) ((F57_eq lf a b h).trans e_)
def w57 (f : V → V → List Ob → Option (V × List Ob)) (vs : List V) (h : List Ob) : Option (V × List Ob) := castCons vs fun c1 l1 => castCons l1 fun c2 l2 => castNil l2 (f c1 c2 h)
noncomputable def W57 (lf : Nat) : List V → List Ob → Option (V × List Ob) := w57 (F57 lf)
theorem W57_ok (lf : Nat) : ∀ args h v h', W57 lf args h = some (v, h') → CD Go.Proofs.Try.prog 57 args h v h' := by
  intro vs h r h' e0
  simp only [W57, w57] at e0
  obtain ⟨c1, l1, rfl, e1⟩ := castCons_inv e0
  obtain ⟨c2, l2, rfl, e2⟩ := castCons_inv e1
  obtain ⟨rfl, e3⟩ := castNil_inv e2
  have e := e3
  exact F57_ok lf c1 c2 h r h' e

/-! 77: wainscot/journal.get -/
def A77 : List (Nat × Sh) := [(2, (.int .u64)), (4, (.int .u8)), (6, (.int .i64)), (7, (.int .i64)), (8, .bool), (10, (.int .u8)), (11, (.int .u64)), (12, (.int .u64)), (13, (.int .u8)), (14, (.int .u64)), (15, (.int .u64)), (16, (.int .i64)), (17, (.int .u64))]
noncomputable def call77 (lf : Nat) : CallS := callN
theorem call77_ok (lf : Nat) : CallOk Go.Proofs.Try.prog (call77 lf) := callN_ok
def o77_0 : Outs := [((.exit 0), [2], [(.int .u64)])]
def k77_0 : KC := (.seq (.reg [⟨(some 8), none, (.op (.bin .lss (.t 7) (.t 6))), []⟩]) (.seq (.cond (.t 8) .skip (.exit 0)) (.seq (.block 1 (.seq (.reg [⟨(some 9), none, (.op (.iaddrL 1 (.t 5) (.t 7))), []⟩, ⟨(some 10), none, (.op (.load1 (.t 9))), []⟩, ⟨(some 4), none, (.op (.mv (.t 10))), []⟩]) (.reg [⟨(some 11), none, (.op (.mv (.t 2))), []⟩, ⟨(some 12), none, (.op (.bin .shl (.t 11) (.c (.int .u64 8)))), []⟩, ⟨(some 13), none, (.op (.mv (.t 4))), []⟩, ⟨(some 14), none, (.op (.toInt .u64 (.t 13))), []⟩, ⟨(some 15), none, (.op (.bin .or (.t 12) (.t 14))), []⟩, ⟨(some 2), none, (.op (.mv (.t 15))), []⟩]))) (.reg [⟨(some 16), none, (.op (.bin .add (.t 7) (.c (.int .i64 1)))), []⟩, ⟨(some 7), none, (.op (.mv (.t 16))), []⟩]))))
def w77_0 (f : Int → V → Int → Int → List Ob → SubR) (vs : List V) (h : List Ob) : SubR := castCons vs fun c1 l1 => castInt .u64 c1 fun n2 => castCons l1 fun c3 l3 => castCons l3 fun c4 l4 => castInt .i64 c4 fun n5 => castCons l4 fun c6 l6 => castInt .i64 c6 fun n7 => castNil l6 (f n2 c3 n5 n7 h)
noncomputable def B77_0 (lf : Nat) (self : Int → V → Int → Int → List Ob → SubR) (n_ : Int) (x5 : V) (x6 : Int) (x7 : Int) (h : List Ob) : SubR :=
cB (decide (x7 < x6)) (
bind1 (er (.iaddrL 1 (.c x5) (.c (.int .i64 x7))) h) fun x9 =>
bind1 (er (.load1 (.c x9)) h) fun v =>
castInt .u8 v fun x10 =>
self (bits .or .u64 (IntKind.u64.wrap (n_ * 2 ^ 8)) (IntKind.u64.wrap x10)) x5 x6 (IntKind.i64.wrap (x7 + (1))) h) (
some ((.exit 0), [(.int .u64 n_)], h))
noncomputable def L77_0 (lf : Nat) : Nat → Int → V → Int → Int → List Ob → SubR
  | 0 => fun _ _ _ _ _ => none
  | n + 1 => B77_0 lf (L77_0 lf n)
theorem B77_0_eq (lf : Nat) (self : Int → V → Int → Int → List Ob → SubR) (n_ : Int) (x5 : V) (x6 : Int) (x7 : Int) (h : List Ob) : evCK A77 ⟨call77 lf, cvN, subN⟩ k77_0 [(2, (.int .u64 n_)), (5, x5), (6, (.int .i64 x6)), (7, (.int .i64 x7))] h (endL [2, 5, 6, 7] [(.int .u64), .any, (.int .i64), (.int .i64)] o77_0 (w77_0 self)) = B77_0 lf self n_ x5 x6 x7 h := by kernel_rfl
theorem L77_0_ok (lf : Nat) : ∀ n, SubOk Go.Proofs.Try.prog (.loop k77_0.er) [2, 5, 6, 7] o77_0 (w77_0 (L77_0 lf n)) := by
  refine SubOk.loop (A := A77) (σ := ⟨call77 lf, cvN, subN⟩) (c := k77_0) (shs := [(.int .u64), .any, (.int .i64), (.int .i64)]) (G := fun n => w77_0 (L77_0 lf n)) (call77_ok lf) cvN_ok (And.intro True.intro (And.intro (And.intro True.intro True.intro) (And.intro (And.intro True.intro True.intro) True.intro))) ?_ ?_
  · intro vs h r e0
    simp only [w77_0] at e0
    obtain ⟨c1, l1, rfl, e1⟩ := castCons_inv e0
    obtain ⟨y0, rfl, e2⟩ := castInt_inv e1
    obtain ⟨c2, l2, rfl, e3⟩ := castCons_inv e2
    obtain ⟨c3, l3, rfl, e4⟩ := castCons_inv e3
    obtain ⟨y2, rfl, e5⟩ := castInt_inv e4
    obtain ⟨c4, l4, rfl, e6⟩ := castCons_inv e5
    obtain ⟨y3, rfl, e7⟩ := castInt_inv e6
    obtain ⟨rfl, e8⟩ := castNil_inv e7
    have e := e8
    cases e
  · intro n vs h r e0
    simp only [w77_0] at e0
    obtain ⟨c1, l1, rfl, e1⟩ := castCons_inv e0
    obtain ⟨y0, rfl, e2⟩ := castInt_inv e1
    obtain ⟨c2, l2, rfl, e3⟩ := castCons_inv e2
    obtain ⟨c3, l3, rfl, e4⟩ := castCons_inv e3
    obtain ⟨y2, rfl, e5⟩ := castInt_inv e4
    obtain ⟨c4, l4, rfl, e6⟩ := castCons_inv e5
    obtain ⟨y3, rfl, e7⟩ := castInt_inv e6
    obtain ⟨rfl, e8⟩ := castNil_inv e7
    have e := e8
    exact (B77_0_eq lf (L77_0 lf n) y0 c2 y2 y3 h).trans e
def k77 : KC := (.seq (.reg [⟨(some 2), none, (.op (.mv (.c (.int .u64 0)))), []⟩]) (.seq (.seq (.reg [⟨(some 5), none, (.op (.mv (.t 0))), []⟩, ⟨(some 6), none, (.op (.lenL (.t 5))), []⟩, ⟨(some 7), none, (.op (.mv (.c (.int .i64 0)))), []⟩]) (.block 0 (.sub 0 (.loop k77_0.er) [2, 5, 6, 7] o77_0))) (.seq (.reg [⟨(some 17), none, (.op (.mv (.t 2))), []⟩, ⟨(some 2), none, (.op (.mv (.t 17))), []⟩]) .ret)))
noncomputable def F77 (lf : Nat) (b : V) (h : List Ob) : Option (V × List Ob) :=
bind1 (er (.lenL (.c b)) h) fun v =>
castInt .i64 v fun x6 =>
bind3 (L77_0 lf lf (0) b x6 (0) h) fun ex vs h_ =>
cB (decide (ex = (.exit 0))) (
castCons vs fun c l =>
castInt .u64 c fun n_ =>
castNil l (
some ((.int .u64 n_), h_))) (
none)
theorem F77_eq (lf : Nat) (b : V) (h : List Ob) : evCK A77 ⟨call77 lf, cvN, subC 0 (w77_0 (L77_0 lf lf)) (subN)⟩ k77 (entryK [b]) h (endF c77.res) = F77 lf b h := by kernel_rfl
theorem F77_ok (lf : Nat) (b : V) (h : List Ob) (r_ : V) (h_r : List Ob) (e_ : F77 lf b h = some (r_, h_r)) : CD Go.Proofs.Try.prog 77 [b] h r_ h_r :=
  CD.ofK (A := A77) (σ := ⟨call77 lf, cvN, subC 0 (w77_0 (L77_0 lf lf)) (subN)⟩) (c := k77) Go.Proofs.Try.func77 ok77 en77 (show 1 ≤ 18 by decide) (by kernel_rfl) (call77_ok lf) cvN_ok (And.intro True.intro (And.intro (And.intro True.intro (L77_0_ok lf lf)) (And.intro True.intro True.intro))) ((F77_eq lf b h).trans e_)
def w77 (f : V → List Ob → Option (V × List Ob)) (vs : List V) (h : List Ob) : Option (V × List Ob) := castCons vs fun c1 l1 => castNil l1 (f c1 h)
noncomputable def W77 (lf : Nat) : List V → List Ob → Option (V × List Ob) := w77 (F77 lf)
theorem W77_ok (lf : Nat) : ∀ args h v h', W77 lf args h = some (v, h') → CD Go.Proofs.Try.prog 77 args h v h' := by
  intro vs h r h' e0
  simp only [W77, w77] at e0
  obtain ⟨c1, l1, rfl, e1⟩ := castCons_inv e0
  obtain ⟨rfl, e2⟩ := castNil_inv e1
  have e := e2
  exact F77_ok lf c1 h r h' e

/-! 88: bytes.HasPrefix -/
def A88 : List (Nat × Sh) := [(4, .bool), (6, (.int .i64)), (8, (.int .i64)), (9, .bool), (10, .bool), (13, (.int .i64)), (16, .bool), (17, .bool)]
noncomputable def call88 (lf : Nat) : CallS := callC 57 (W57 lf) (callN)
theorem call88_ok (lf : Nat) : CallOk Go.Proofs.Try.prog (call88 lf) := callC_ok (W57_ok lf) (callN_ok)
def k88 : KC := (.seq (.reg [⟨(some 4), none, (.op (.mv (.c (.bool false)))), []⟩]) (.seq (.reg [⟨(some 5), none, (.op (.mv (.t 0))), []⟩, ⟨(some 6), none, (.op (.lenL (.t 5))), []⟩, ⟨(some 7), none, (.op (.mv (.t 1))), []⟩, ⟨(some 8), none, (.op (.lenL (.t 7))), []⟩, ⟨(some 9), none, (.op (.bin .geq (.t 6) (.t 8))), []⟩, ⟨(some 10), none, (.op (.mv (.t 9))), []⟩, ⟨(some 11), (some (10, true)), (.op (.mv (.t 0))), []⟩, ⟨(some 12), (some (10, true)), (.op (.mv (.t 1))), []⟩, ⟨(some 13), (some (10, true)), (.op (.lenL (.t 12))), []⟩, ⟨(some 14), (some (10, true)), (.op (.slcL 1 (.t 11) none (some (.t 13)) none)), []⟩, ⟨(some 15), (some (10, true)), (.op (.mv (.t 1))), []⟩, ⟨(some 16), (some (10, true)), (.call 57 [(.t 14), (.t 15)]), []⟩, ⟨(some 17), none, (.op (.pick (.t 10) (.t 16) (.c (.bool false)))), []⟩, ⟨(some 4), none, (.op (.mv (.t 17))), []⟩]) .ret))
noncomputable def F88 (lf : Nat) (s : V) (prefix_ : V) (h : List Ob) : Option (V × List Ob) :=
bind1 (er (.lenL (.c s)) h) fun v =>
castInt .i64 v fun x6 =>
bind1 (er (.lenL (.c prefix_)) h) fun v1 =>
castInt .i64 v1 fun x8 =>
cB (decide (x6 ≥ x8)) (
bind1 (er (.lenL (.c prefix_)) h) fun v2 =>
castInt .i64 v2 fun x13 =>
bind1 (er (.slcL 1 (.c s) none (some (.c (.int .i64 x13))) none) h) fun x14 =>
bind2 (F57 lf x14 prefix_ h) fun v3 h_ =>
castBool v3 fun x16 =>
some ((.bool x16), h_)) (
some ((.bool false), h))
theorem F88_eq (lf : Nat) (s : V) (prefix_ : V) (h : List Ob) : evCK A88 ⟨call88 lf, cvN, subN⟩ k88 (entryK [s, prefix_]) h (endF c88.res) = F88 lf s prefix_ h := by kernel_rfl
theorem F88_ok (lf : Nat) (s : V) (prefix_ : V) (h : List Ob) (r_ : V) (h_r : List Ob) (e_ : F88 lf s prefix_ h = some (r_, h_r)) : CD Go.Proofs.Try.prog 88 [s, prefix_] h r_ h_r :=
  CD.ofK (A := A88) (σ := ⟨call88 lf, cvN, subN⟩) (c := k88) Go.Proofs.Try.func88 ok88 en88 (show 2 ≤ 18 by decide) (by kernel_rfl) (call88_ok lf) cvN_ok (And.intro True.intro (And.intro True.intro True.intro)) ((F88_eq lf s prefix_ h).trans e_)
def w88 (f : V → V → List Ob → Option (V × List Ob)) (vs : List V) (h : List Ob) : Option (V × List Ob) := castCons vs fun c1 l1 => castCons l1 fun c2 l2 => castNil l2 (f c1 c2 h)
noncomputable def W88 (lf : Nat) : List V → List Ob → Option (V × List Ob) := w88 (F88 lf)
theorem W88_ok (lf : Nat) : ∀ args h v h', W88 lf args h = some (v, h') → CD Go.Proofs.Try.prog 88 args h v h' := by
  intro vs h r h' e0
  simp only [W88, w88] at e0
  obtain ⟨c1, l1, rfl, e1⟩ := castCons_inv e0
  obtain ⟨c2, l2, rfl, e2⟩ := castCons_inv e1
  obtain ⟨rfl, e3⟩ := castNil_inv e2
  have e := e3
  exact F88_ok lf c1 c2 h r h' e

/-! 76: wainscot/journal.head -/
def A76 : List (Nat × Sh) := [(3, (.int .i64)), (4, (.int .i64)), (6, (.int .i64)), (8, (.int .i64)), (10, (.int .i64)), (11, .bool), (12, .bool), (16, .bool), (17, .bool), (18, .bool), (19, (.agg [(.int .u64), (.int .i64), .any, .any])), (21, (.int .i64)), (22, (.int .i64)), (23, (.int .i64)), (25, (.int .u64)), (27, (.int .i64)), (28, (.int .i64)), (29, (.int .i64)), (30, (.int .i64)), (31, (.int .i64)), (33, (.int .u64)), (34, (.int .i64)), (35, (.agg [(.int .u64), (.int .i64), .any, .any])), (37, (.int .i64)), (38, (.int .i64)), (39, (.int .i64)), (40, (.int .i64)), (41, (.int .i64)), (42, (.int .i64)), (44, (.int .u64)), (45, (.int .i64)), (46, (.tup [.any, (.int .i64)])), (48, (.int .u64)), (50, (.int .i64)), (51, (.int .i64)), (52, (.tup [.any, (.int .i64)])), (54, (.int .i64)), (55, (.int .i64)), (56, .bool), (57, .bool), (60, .bool), (61, .bool), (62, .bool), (63, (.agg [(.int .u64), (.int .i64), .any, .any])), (64, (.agg [(.int .u64), (.int .i64), .any, .any])), (65, (.int .i64))]
noncomputable def call76 (lf : Nat) : CallS := callC 88 (W88 lf) (callC 77 (W77 lf) (callC 20 (W20 lf) (callN)))
theorem call76_ok (lf : Nat) : CallOk Go.Proofs.Try.prog (call76 lf) := callC_ok (W88_ok lf) (callC_ok (W77_ok lf) (callC_ok (W20_ok lf) (callN_ok)))
def o76_0 : Outs := [(.ret, [3], [(.int .i64)]), (.normal, [], [])]
def k76_0 : KC := (.seq (.reg [⟨(some 9), none, (.op (.mv (.t 0))), []⟩, ⟨(some 10), none, (.op (.lenL (.t 9))), []⟩, ⟨(some 11), none, (.op (.bin .lss (.t 10) (.c (.int .i64 64)))), []⟩, ⟨(some 12), none, (.op (.mv (.t 11))), []⟩, ⟨(some 13), (some (12, false)), (.op (.mv (.t 0))), []⟩, ⟨(some 14), (some (12, false)), (.op (.bslice 1 (.int .u8 0) 8 [(0, (.c (.int .u8 119))), (1, (.c (.int .u8 97))), (2, (.c (.int .u8 105))), (3, (.c (.int .u8 110))), (4, (.c (.int .u8 115))), (5, (.c (.int .u8 99))), (6, (.c (.int .u8 111))), (7, (.c (.int .u8 116)))])), []⟩, ⟨(some 15), (some (12, false)), (.op (.strish (.t 14))), []⟩, ⟨(some 16), (some (12, false)), (.call 88 [(.t 13), (.t 15)]), []⟩, ⟨(some 17), (some (12, false)), (.op (.un .not (.t 16))), []⟩, ⟨(some 18), none, (.op (.pick (.t 12) (.c (.bool true)) (.t 17))), []⟩]) (.cond (.t 18) (.seq (.reg [⟨(some 19), none, (.op (.build [(.int .u64 0), (.int .i64 0), .nils, .nils] [])), []⟩, ⟨none, none, (.op (.store 4 (.t 2) (.t 19))), []⟩, ⟨(some 3), none, (.op (.mv (.c (.int .i64 (-0 - 1))))), []⟩]) .ret) .skip))
def w76_0 (f : V → V → List Ob → SubR) (vs : List V) (h : List Ob) : SubR := castCons vs fun c1 l1 => castCons l1 fun c2 l2 => castNil l2 (f c1 c2 h)
noncomputable def S76_0 (lf : Nat) (b : V) (x2 : V) (h : List Ob) : SubR :=
bind1 (er (.lenL (.c b)) h) fun v =>
castInt .i64 v fun x10 =>
cB (decide (x10 < (64))) (
bind1 (er (.build [(.int .u64 0), (.int .i64 0), .nils, .nils] []) h) fun v1 =>
castAgg v1 fun l =>
castCons l fun c l1 =>
castInt .u64 c fun x19_0 =>
castCons l1 fun c1 l2 =>
castInt .i64 c1 fun x19_1 =>
castCons l2 fun x19_2 l3 =>
castCons l3 fun x19_3 l4 =>
castNil l4 (
bind2 (ev (.store 4 (.c x2) (.c (.agg [(.int .u64 x19_0), (.int .i64 x19_1), x19_2, x19_3]))) h) fun u h_ =>
some (.ret, [(.int .i64 (-1))], h_))) (
bind2 (ev (.bslice 1 (.int .u8 0) 8 [(0, (.c (.int .u8 (119)))), (1, (.c (.int .u8 (97)))), (2, (.c (.int .u8 (105)))), (3, (.c (.int .u8 (110)))), (4, (.c (.int .u8 (115)))), (5, (.c (.int .u8 (99)))), (6, (.c (.int .u8 (111)))), (7, (.c (.int .u8 (116))))]) h) fun x14 h_ =>
bind1 (er (.strish (.c x14)) h_) fun x15 =>
bind2 (F88 lf b x15 h_) fun v1 h_1 =>
castBool v1 fun x16 =>
cB (!x16) (
bind1 (er (.build [(.int .u64 0), (.int .i64 0), .nils, .nils] []) h_1) fun v2 =>
castAgg v2 fun l =>
castCons l fun c l1 =>
castInt .u64 c fun x19_0 =>
castCons l1 fun c1 l2 =>
castInt .i64 c1 fun x19_1 =>
castCons l2 fun x19_2 l3 =>
castCons l3 fun x19_3 l4 =>
castNil l4 (
bind2 (ev (.store 4 (.c x2) (.c (.agg [(.int .u64 x19_0), (.int .i64 x19_1), x19_2, x19_3]))) h_1) fun u h_2 =>
some (.ret, [(.int .i64 (-1))], h_2))) (
some (.normal, [], h_1)))
theorem S76_0_eq (lf : Nat) (b : V) (x2 : V) (h : List Ob) : evCK A76 ⟨call76 lf, cvN, subN⟩ k76_0 [(0, b), (2, x2)] h (endK o76_0) = S76_0 lf b x2 h := by kernel_rfl
theorem S76_0_ok (lf : Nat) : SubOk Go.Proofs.Try.prog k76_0.er [0, 2] o76_0 (w76_0 (S76_0 lf)) := by
  refine SubOk.of (A := A76) (σ := ⟨call76 lf, cvN, subN⟩) (c := k76_0) (call76_ok lf) cvN_ok (And.intro True.intro (And.intro (And.intro True.intro True.intro) True.intro)) ?_
  intro vs h r e0
  simp only [w76_0] at e0
  obtain ⟨c1, l1, rfl, e1⟩ := castCons_inv e0
  obtain ⟨c2, l2, rfl, e2⟩ := castCons_inv e1
  obtain ⟨rfl, e3⟩ := castNil_inv e2
  have e := e3
  exact (S76_0_eq lf c1 c2 h).trans e
def k76 : KC := (.seq (.reg [⟨(some 2), none, (.op (.alloc false (.agg [(.int .u64 0), (.int .i64 0), .nils, .nils]))), []⟩, ⟨(some 3), none, (.op (.mv (.c (.int .i64 0)))), []⟩]) (.seq (.sub 0 k76_0.er [0, 2] o76_0) (.seq (.reg [⟨(some 4), none, (.op (.mv (.c (.int .i64 8)))), []⟩]) (.seq (.draw [[⟨(some 20), none, (.op (.mv (.t 0))), []⟩, ⟨(some 21), none, (.op (.mv (.t 4))), []⟩, ⟨(some 22), none, (.op (.mv (.t 4))), []⟩, ⟨(some 23), none, (.op (.bin .add (.t 22) (.c (.int .i64 8)))), []⟩, ⟨(some 24), none, (.op (.slcL 1 (.t 20) (some (.t 21)) (some (.t 23)) none)), []⟩, ⟨(some 26), none, (.op (.mv (.t 0))), []⟩, ⟨(some 27), none, (.op (.mv (.t 4))), []⟩, ⟨(some 28), none, (.op (.bin .add (.t 27) (.c (.int .i64 8)))), []⟩, ⟨(some 29), none, (.op (.mv (.t 4))), []⟩, ⟨(some 30), none, (.op (.bin .add (.t 29) (.c (.int .i64 8)))), []⟩, ⟨(some 31), none, (.op (.bin .add (.t 30) (.c (.int .i64 4)))), []⟩, ⟨(some 32), none, (.op (.slcL 1 (.t 26) (some (.t 28)) (some (.t 31)) none)), []⟩, ⟨(some 25), none, (.call 77 [(.t 24)]), [⟨(some 32), none, (.op (.slcL 1 (.t 26) (some (.t 28)) (some (.t 31)) none))⟩]⟩, ⟨(some 33), none, (.call 77 [(.t 32)]), []⟩, ⟨(some 34), none, (.op (.toInt .i64 (.t 33))), []⟩, ⟨(some 35), none, (.op (.build [(.int .u64 0), (.int .i64 0), .nils, .nils] [(0, (1, (.t 25))), (1, (1, (.t 34)))])), []⟩, ⟨(some 5), none, (.op (.alloc false (.agg [(.int .u64 0), (.int .i64 0), .nils, .nils]))), []⟩, ⟨none, none, (.op (.store 4 (.t 5) (.t 35))), []⟩], [⟨(some 20), none, (.op (.mv (.t 0))), []⟩, ⟨(some 21), none, (.op (.mv (.t 4))), []⟩, ⟨(some 22), none, (.op (.mv (.t 4))), []⟩, ⟨(some 23), none, (.op (.bin .add (.t 22) (.c (.int .i64 8)))), []⟩, ⟨(some 24), none, (.op (.slcL 1 (.t 20) (some (.t 21)) (some (.t 23)) none)), []⟩, ⟨(some 26), none, (.op (.mv (.t 0))), []⟩, ⟨(some 27), none, (.op (.mv (.t 4))), []⟩, ⟨(some 28), none, (.op (.bin .add (.t 27) (.c (.int .i64 8)))), []⟩, ⟨(some 29), none, (.op (.mv (.t 4))), []⟩, ⟨(some 30), none, (.op (.bin .add (.t 29) (.c (.int .i64 8)))), []⟩, ⟨(some 31), none, (.op (.bin .add (.t 30) (.c (.int .i64 4)))), []⟩, ⟨(some 32), none, (.op (.slcL 1 (.t 26) (some (.t 28)) (some (.t 31)) none)), []⟩, ⟨(some 25), none, (.call 77 [(.t 24)]), [⟨(some 32), none, (.op (.slcL 1 (.t 26) (some (.t 28)) (some (.t 31)) none))⟩]⟩, ⟨(some 5), none, (.op (.alloc false (.agg [(.int .u64 0), (.int .i64 0), .nils, .nils]))), [⟨(some 32), none, (.op (.slcL 1 (.t 26) (some (.t 28)) (some (.t 31)) none))⟩]⟩, ⟨(some 33), none, (.call 77 [(.t 32)]), []⟩, ⟨(some 34), none, (.op (.toInt .i64 (.t 33))), []⟩, ⟨(some 35), none, (.op (.build [(.int .u64 0), (.int .i64 0), .nils, .nils] [(0, (1, (.t 25))), (1, (1, (.t 34)))])), []⟩, ⟨none, none, (.op (.store 4 (.t 5) (.t 35))), []⟩], [⟨(some 20), none, (.op (.mv (.t 0))), []⟩, ⟨(some 21), none, (.op (.mv (.t 4))), []⟩, ⟨(some 22), none, (.op (.mv (.t 4))), []⟩, ⟨(some 23), none, (.op (.bin .add (.t 22) (.c (.int .i64 8)))), []⟩, ⟨(some 24), none, (.op (.slcL 1 (.t 20) (some (.t 21)) (some (.t 23)) none)), []⟩, ⟨(some 26), none, (.op (.mv (.t 0))), []⟩, ⟨(some 27), none, (.op (.mv (.t 4))), []⟩, ⟨(some 28), none, (.op (.bin .add (.t 27) (.c (.int .i64 8)))), []⟩, ⟨(some 29), none, (.op (.mv (.t 4))), []⟩, ⟨(some 30), none, (.op (.bin .add (.t 29) (.c (.int .i64 8)))), []⟩, ⟨(some 31), none, (.op (.bin .add (.t 30) (.c (.int .i64 4)))), []⟩, ⟨(some 32), none, (.op (.slcL 1 (.t 26) (some (.t 28)) (some (.t 31)) none)), []⟩, ⟨(some 5), none, (.op (.alloc false (.agg [(.int .u64 0), (.int .i64 0), .nils, .nils]))), [⟨(some 32), none, (.op (.slcL 1 (.t 26) (some (.t 28)) (some (.t 31)) none))⟩, ⟨(some 24), none, (.op (.slcL 1 (.t 20) (some (.t 21)) (some (.t 23)) none))⟩]⟩, ⟨(some 25), none, (.call 77 [(.t 24)]), [⟨(some 32), none, (.op (.slcL 1 (.t 26) (some (.t 28)) (some (.t 31)) none))⟩]⟩, ⟨(some 33), none, (.call 77 [(.t 32)]), []⟩, ⟨(some 34), none, (.op (.toInt .i64 (.t 33))), []⟩, ⟨(some 35), none, (.op (.build [(.int .u64 0), (.int .i64 0), .nils, .nils] [(0, (1, (.t 25))), (1, (1, (.t 34)))])), []⟩, ⟨none, none, (.op (.store 4 (.t 5) (.t 35))), []⟩]]) (.seq (.reg [⟨(some 36), none, (.op (.mv (.t 0))), []⟩, ⟨(some 37), none, (.op (.mv (.t 4))), []⟩, ⟨(some 38), none, (.op (.bin .add (.t 37) (.c (.int .i64 8)))), []⟩, ⟨(some 39), none, (.op (.bin .add (.t 38) (.c (.int .i64 4)))), []⟩, ⟨(some 40), none, (.op (.mv (.t 4))), []⟩, ⟨(some 41), none, (.op (.bin .add (.t 40) (.c (.int .i64 8)))), []⟩, ⟨(some 42), none, (.op (.bin .add (.t 41) (.c (.int .i64 8)))), []⟩, ⟨(some 43), none, (.op (.slcL 1 (.t 36) (some (.t 39)) (some (.t 42)) none)), []⟩, ⟨(some 44), none, (.call 77 [(.t 43)]), []⟩, ⟨(some 45), none, (.op (.toInt .i64 (.t 44))), []⟩, ⟨(some 6), none, (.op (.mv (.t 45))), []⟩]) (.seq (.reg [⟨(some 47), none, (.op (.faddr 0 (.t 5))), []⟩, ⟨(some 48), none, (.op (.load1 (.t 47))), []⟩, ⟨(some 49), none, (.op (.faddr 1 (.t 5))), []⟩, ⟨(some 50), none, (.op (.load1 (.t 49))), []⟩, ⟨(some 51), none, (.op (.mv (.t 6))), []⟩, ⟨(some 52), none, (.call 20 [(.t 48), (.t 50), (.t 51)]), []⟩, ⟨(some 46), none, (.op (.mv (.t 52))), []⟩, ⟨(some 53), none, (.op (.ext 0 (.t 46))), []⟩, ⟨(some 54), none, (.op (.ext 1 (.t 46))), []⟩, ⟨(some 7), none, (.op (.mv (.t 53))), []⟩, ⟨(some 8), none, (.op (.mv (.t 54))), []⟩]) (.seq (.seq (.reg [⟨(some 55), none, (.op (.mv (.t 8))), []⟩, ⟨(some 56), none, (.op (.bin .neq (.t 55) (.c (.int .i64 0)))), []⟩, ⟨(some 57), none, (.op (.mv (.t 56))), []⟩, ⟨(some 58), (some (57, false)), (.op (.mv (.t 0))), []⟩, ⟨(some 59), (some (57, false)), (.op (.mv (.t 7))), []⟩, ⟨(some 60), (some (57, false)), (.call 88 [(.t 58), (.t 59)]), []⟩, ⟨(some 61), (some (57, false)), (.op (.un .not (.t 60))), []⟩, ⟨(some 62), none, (.op (.pick (.t 57) (.c (.bool true)) (.t 61))), []⟩]) (.cond (.t 62) (.seq (.reg [⟨(some 63), none, (.op (.build [(.int .u64 0), (.int .i64 0), .nils, .nils] [])), []⟩, ⟨none, none, (.op (.store 4 (.t 2) (.t 63))), []⟩, ⟨(some 3), none, (.op (.mv (.c (.int .i64 (-0 - 1))))), []⟩]) .ret) .skip)) (.seq (.reg [⟨(some 64), none, (.op (.loadN 4 (.t 5))), []⟩, ⟨(some 65), none, (.op (.mv (.t 6))), []⟩, ⟨none, none, (.op (.store 4 (.t 2) (.t 64))), []⟩, ⟨(some 3), none, (.op (.mv (.t 65))), []⟩]) .ret))))))))
noncomputable def F76 (lf : Nat) (b : V) (h : List Ob) : Option (V × List Ob) :=
bind2 (ev (.alloc false (.agg [(.int .u64 0), (.int .i64 0), .nils, .nils])) h) fun x2 h_ =>
bind3 (S76_0 lf b x2 h_) fun ex vs h_1 =>
cB (decide (ex = .ret)) (
castCons vs fun c l =>
castInt .i64 c fun x3 =>
castNil l (
bind1 (evLoadN h_1 4 x2) fun r =>
some ((.tup [r, (.int .i64 x3)]), h_1))) (
cB (decide (ex = .normal)) (
castNil vs (
bind1 (er (.slcL 1 (.c b) (some (.c (.int .i64 (8)))) (some (.c (.int .i64 (IntKind.i64.wrap ((8) + (8)))))) none) h_1) fun x24 =>
bind1 (er (.slcL 1 (.c b) (some (.c (.int .i64 (IntKind.i64.wrap ((8) + (8)))))) (some (.c (.int .i64 (IntKind.i64.wrap ((IntKind.i64.wrap ((8) + (8))) + (4)))))) none) h_1) fun x32 =>
bind2 (F77 lf x24 h_1) fun v h_2 =>
castInt .u64 v fun x25 =>
reP (er (.slcL 1 (.c b) (some (.c (.int .i64 (IntKind.i64.wrap ((8) + (8)))))) (some (.c (.int .i64 (IntKind.i64.wrap ((IntKind.i64.wrap ((8) + (8))) + (4)))))) none) h_2 = some x32) (
bind2 (F77 lf x32 h_2) fun v1 h_3 =>
castInt .u64 v1 fun x33 =>
bind1 (er (.build [(.int .u64 0), (.int .i64 0), .nils, .nils] [(0, (1, (.c (.int .u64 x25)))), (1, (1, (.c (.int .i64 (IntKind.i64.wrap x33)))))]) h_3) fun v2 =>
castAgg v2 fun l =>
castCons l fun c l1 =>
castInt .u64 c fun x35_0 =>
castCons l1 fun c1 l2 =>
castInt .i64 c1 fun x35_1 =>
castCons l2 fun x35_2 l3 =>
castCons l3 fun x35_3 l4 =>
castNil l4 (
bind2 (ev (.alloc false (.agg [(.int .u64 0), (.int .i64 0), .nils, .nils])) h_3) fun f h_4 =>
bind2 (ev (.store 4 (.c f) (.c (.agg [(.int .u64 x35_0), (.int .i64 x35_1), x35_2, x35_3]))) h_4) fun u h_5 =>
reP ((
bind1 (er (.slcL 1 (.c b) (some (.c (.int .i64 (8)))) (some (.c (.int .i64 (IntKind.i64.wrap ((8) + (8)))))) none) h_1) fun x24_1 =>
bind1 (er (.slcL 1 (.c b) (some (.c (.int .i64 (IntKind.i64.wrap ((8) + (8)))))) (some (.c (.int .i64 (IntKind.i64.wrap ((IntKind.i64.wrap ((8) + (8))) + (4)))))) none) h_1) fun x32_1 =>
bind2 (F77 lf x24_1 h_1) fun v3 h_6 =>
castInt .u64 v3 fun x25_1 =>
reP (er (.slcL 1 (.c b) (some (.c (.int .i64 (IntKind.i64.wrap ((8) + (8)))))) (some (.c (.int .i64 (IntKind.i64.wrap ((IntKind.i64.wrap ((8) + (8))) + (4)))))) none) h_6 = some x32_1) (
bind2 (ev (.alloc false (.agg [(.int .u64 0), (.int .i64 0), .nils, .nils])) h_6) fun f1 h_7 =>
reP (er (.slcL 1 (.c b) (some (.c (.int .i64 (IntKind.i64.wrap ((8) + (8)))))) (some (.c (.int .i64 (IntKind.i64.wrap ((IntKind.i64.wrap ((8) + (8))) + (4)))))) none) h_7 = some x32_1) (
bind2 (F77 lf x32_1 h_7) fun v4 h_8 =>
castInt .u64 v4 fun x33_1 =>
bind1 (er (.build [(.int .u64 0), (.int .i64 0), .nils, .nils] [(0, (1, (.c (.int .u64 x25_1)))), (1, (1, (.c (.int .i64 (IntKind.i64.wrap x33_1)))))]) h_8) fun v5 =>
castAgg v5 fun l5 =>
castCons l5 fun c2 l6 =>
castInt .u64 c2 fun x35_0_1 =>
castCons l6 fun c3 l7 =>
castInt .i64 c3 fun x35_1_1 =>
castCons l7 fun x35_2_1 l8 =>
castCons l8 fun x35_3_1 l9 =>
castNil l9 (
bind2 (ev (.store 4 (.c f1) (.c (.agg [(.int .u64 x35_0_1), (.int .i64 x35_1_1), x35_2_1, x35_3_1]))) h_8) fun u1 h_9 =>
some ([b, (.int .i64 (8)), (.int .i64 (8)), (.int .i64 (IntKind.i64.wrap ((8) + (8)))), x24_1, b, (.int .i64 (8)), (.int .i64 (IntKind.i64.wrap ((8) + (8)))), (.int .i64 (8)), (.int .i64 (IntKind.i64.wrap ((8) + (8)))), (.int .i64 (IntKind.i64.wrap ((IntKind.i64.wrap ((8) + (8))) + (4)))), x32_1, (.int .u64 x25_1), (.int .u64 x33_1), (.int .i64 (IntKind.i64.wrap x33_1)), (.agg [(.int .u64 x35_0_1), (.int .i64 x35_1_1), x35_2_1, x35_3_1]), f1], h_9)))) : Option (List V × List Ob)) = some ([b, (.int .i64 (8)), (.int .i64 (8)), (.int .i64 (IntKind.i64.wrap ((8) + (8)))), x24, b, (.int .i64 (8)), (.int .i64 (IntKind.i64.wrap ((8) + (8)))), (.int .i64 (8)), (.int .i64 (IntKind.i64.wrap ((8) + (8)))), (.int .i64 (IntKind.i64.wrap ((IntKind.i64.wrap ((8) + (8))) + (4)))), x32, (.int .u64 x25), (.int .u64 x33), (.int .i64 (IntKind.i64.wrap x33)), (.agg [(.int .u64 x35_0), (.int .i64 x35_1), x35_2, x35_3]), f], h_5)) (
reP ((
bind1 (er (.slcL 1 (.c b) (some (.c (.int .i64 (8)))) (some (.c (.int .i64 (IntKind.i64.wrap ((8) + (8)))))) none) h_1) fun x24_1 =>
bind1 (er (.slcL 1 (.c b) (some (.c (.int .i64 (IntKind.i64.wrap ((8) + (8)))))) (some (.c (.int .i64 (IntKind.i64.wrap ((IntKind.i64.wrap ((8) + (8))) + (4)))))) none) h_1) fun x32_1 =>
bind2 (ev (.alloc false (.agg [(.int .u64 0), (.int .i64 0), .nils, .nils])) h_1) fun f1 h_6 =>
reP (er (.slcL 1 (.c b) (some (.c (.int .i64 (IntKind.i64.wrap ((8) + (8)))))) (some (.c (.int .i64 (IntKind.i64.wrap ((IntKind.i64.wrap ((8) + (8))) + (4)))))) none) h_6 = some x32_1) (
reP (er (.slcL 1 (.c b) (some (.c (.int .i64 (8)))) (some (.c (.int .i64 (IntKind.i64.wrap ((8) + (8)))))) none) h_6 = some x24_1) (
bind2 (F77 lf x24_1 h_6) fun v3 h_7 =>
castInt .u64 v3 fun x25_1 =>
reP (er (.slcL 1 (.c b) (some (.c (.int .i64 (IntKind.i64.wrap ((8) + (8)))))) (some (.c (.int .i64 (IntKind.i64.wrap ((IntKind.i64.wrap ((8) + (8))) + (4)))))) none) h_7 = some x32_1) (
bind2 (F77 lf x32_1 h_7) fun v4 h_8 =>
castInt .u64 v4 fun x33_1 =>
bind1 (er (.build [(.int .u64 0), (.int .i64 0), .nils, .nils] [(0, (1, (.c (.int .u64 x25_1)))), (1, (1, (.c (.int .i64 (IntKind.i64.wrap x33_1)))))]) h_8) fun v5 =>
castAgg v5 fun l5 =>
castCons l5 fun c2 l6 =>
castInt .u64 c2 fun x35_0_1 =>
castCons l6 fun c3 l7 =>
castInt .i64 c3 fun x35_1_1 =>
castCons l7 fun x35_2_1 l8 =>
castCons l8 fun x35_3_1 l9 =>
castNil l9 (
bind2 (ev (.store 4 (.c f1) (.c (.agg [(.int .u64 x35_0_1), (.int .i64 x35_1_1), x35_2_1, x35_3_1]))) h_8) fun u1 h_9 =>
some ([b, (.int .i64 (8)), (.int .i64 (8)), (.int .i64 (IntKind.i64.wrap ((8) + (8)))), x24_1, b, (.int .i64 (8)), (.int .i64 (IntKind.i64.wrap ((8) + (8)))), (.int .i64 (8)), (.int .i64 (IntKind.i64.wrap ((8) + (8)))), (.int .i64 (IntKind.i64.wrap ((IntKind.i64.wrap ((8) + (8))) + (4)))), x32_1, (.int .u64 x25_1), (.int .u64 x33_1), (.int .i64 (IntKind.i64.wrap x33_1)), (.agg [(.int .u64 x35_0_1), (.int .i64 x35_1_1), x35_2_1, x35_3_1]), f1], h_9))))) : Option (List V × List Ob)) = some ([b, (.int .i64 (8)), (.int .i64 (8)), (.int .i64 (IntKind.i64.wrap ((8) + (8)))), x24, b, (.int .i64 (8)), (.int .i64 (IntKind.i64.wrap ((8) + (8)))), (.int .i64 (8)), (.int .i64 (IntKind.i64.wrap ((8) + (8)))), (.int .i64 (IntKind.i64.wrap ((IntKind.i64.wrap ((8) + (8))) + (4)))), x32, (.int .u64 x25), (.int .u64 x33), (.int .i64 (IntKind.i64.wrap x33)), (.agg [(.int .u64 x35_0), (.int .i64 x35_1), x35_2, x35_3]), f], h_5)) (
bind1 (er (.slcL 1 (.c b) (some (.c (.int .i64 (IntKind.i64.wrap ((IntKind.i64.wrap ((8) + (8))) + (4)))))) (some (.c (.int .i64 (IntKind.i64.wrap ((IntKind.i64.wrap ((8) + (8))) + (8)))))) none) h_5) fun x43 =>
bind2 (F77 lf x43 h_5) fun v3 h_6 =>
castInt .u64 v3 fun x44 =>
bind1 (er (.faddr 0 (.c f)) h_6) fun x47 =>
bind1 (er (.load1 (.c x47)) h_6) fun v4 =>
castInt .u64 v4 fun x48 =>
bind1 (er (.faddr 1 (.c f)) h_6) fun x49 =>
bind1 (er (.load1 (.c x49)) h_6) fun v5 =>
castInt .i64 v5 fun x50 =>
bind2 (F20 lf x48 x50 (IntKind.i64.wrap x44) h_6) fun v6 h_7 =>
castTup v6 fun l5 =>
castCons l5 fun x52_0 l6 =>
castCons l6 fun c2 l7 =>
castInt .i64 c2 fun x52_1 =>
castNil l7 (
cB (x52_1 != (0)) (
bind1 (er (.build [(.int .u64 0), (.int .i64 0), .nils, .nils] []) h_7) fun v7 =>
castAgg v7 fun l8 =>
castCons l8 fun c3 l9 =>
castInt .u64 c3 fun x63_0 =>
castCons l9 fun c4 l10 =>
castInt .i64 c4 fun x63_1 =>
castCons l10 fun x63_2 l11 =>
castCons l11 fun x63_3 l12 =>
castNil l12 (
bind2 (ev (.store 4 (.c x2) (.c (.agg [(.int .u64 x63_0), (.int .i64 x63_1), x63_2, x63_3]))) h_7) fun u1 h_8 =>
bind1 (evLoadN h_8 4 x2) fun r =>
some ((.tup [r, (.int .i64 (-1))]), h_8))) (
bind2 (F88 lf b x52_0 h_7) fun v7 h_8 =>
castBool v7 fun x60 =>
cB (!x60) (
bind1 (er (.build [(.int .u64 0), (.int .i64 0), .nils, .nils] []) h_8) fun v8 =>
castAgg v8 fun l8 =>
castCons l8 fun c3 l9 =>
castInt .u64 c3 fun x63_0 =>
castCons l9 fun c4 l10 =>
castInt .i64 c4 fun x63_1 =>
castCons l10 fun x63_2 l11 =>
castCons l11 fun x63_3 l12 =>
castNil l12 (
bind2 (ev (.store 4 (.c x2) (.c (.agg [(.int .u64 x63_0), (.int .i64 x63_1), x63_2, x63_3]))) h_8) fun u1 h_9 =>
bind1 (evLoadN h_9 4 x2) fun r =>
some ((.tup [r, (.int .i64 (-1))]), h_9))) (
bind1 (er (.loadN 4 (.c f)) h_8) fun v8 =>
castAgg v8 fun l8 =>
castCons l8 fun c3 l9 =>
castInt .u64 c3 fun x64_0 =>
castCons l9 fun c4 l10 =>
castInt .i64 c4 fun x64_1 =>
castCons l10 fun x64_2 l11 =>
castCons l11 fun x64_3 l12 =>
castNil l12 (
bind2 (ev (.store 4 (.c x2) (.c (.agg [(.int .u64 x64_0), (.int .i64 x64_1), x64_2, x64_3]))) h_8) fun u1 h_9 =>
bind1 (evLoadN h_9 4 x2) fun r =>
some ((.tup [r, (.int .i64 (IntKind.i64.wrap x44))]), h_9))))))))))) (
none))
theorem F76_eq (lf : Nat) (b : V) (h : List Ob) : evCK A76 ⟨call76 lf, cvN, subC 0 (w76_0 (S76_0 lf)) (subN)⟩ k76 (entryK [b]) h (endF c76.res) = F76 lf b h := by kernel_rfl
theorem F76_ok (lf : Nat) (b : V) (h : List Ob) (r_ : V) (h_r : List Ob) (e_ : F76 lf b h = some (r_, h_r)) : CD Go.Proofs.Try.prog 76 [b] h r_ h_r :=
  CD.ofK (A := A76) (σ := ⟨call76 lf, cvN, subC 0 (w76_0 (S76_0 lf)) (subN)⟩) (c := k76) Go.Proofs.Try.func76 ok76 en76 (show 1 ≤ 66 by decide) (by kernel_rfl) (call76_ok lf) cvN_ok (And.intro True.intro (And.intro (S76_0_ok lf) (And.intro True.intro (And.intro True.intro (And.intro True.intro (And.intro True.intro (And.intro (And.intro True.intro (And.intro (And.intro True.intro True.intro) True.intro)) (And.intro True.intro True.intro)))))))) ((F76_eq lf b h).trans e_)
def w76 (f : V → List Ob → Option (V × List Ob)) (vs : List V) (h : List Ob) : Option (V × List Ob) := castCons vs fun c1 l1 => castNil l1 (f c1 h)
noncomputable def W76 (lf : Nat) : List V → List Ob → Option (V × List Ob) := w76 (F76 lf)
theorem W76_ok (lf : Nat) : ∀ args h v h', W76 lf args h = some (v, h') → CD Go.Proofs.Try.prog 76 args h v h' := by
  intro vs h r h' e0
  simp only [W76, w76] at e0
  obtain ⟨c1, l1, rfl, e1⟩ := castCons_inv e0
  obtain ⟨rfl, e2⟩ := castNil_inv e1
  have e := e2
  exact F76_ok lf c1 h r h' e

/-! 78: slices.Clone[[]byte,byte] -/
def A78 : List (Nat × Sh) := [(4, .bool)]
noncomputable def call78 (lf : Nat) : CallS := callN
theorem call78_ok (lf : Nat) : CallOk Go.Proofs.Try.prog (call78 lf) := callN_ok
def k78 : KC := (.seq (.reg [⟨(some 2), none, (.op (.mv (.c .nils))), []⟩]) (.seq (.seq (.reg [⟨(some 3), none, (.op (.mv (.t 0))), []⟩, ⟨(some 4), none, (.op (.eq false .slice (.t 3) (.c .nils))), []⟩]) (.cond (.t 4) (.seq (.reg [⟨(some 2), none, (.op (.mv (.c .nils))), []⟩]) .ret) .skip)) (.seq (.reg [⟨(some 5), none, (.op (.bslice 1 (.int .u8 0) 0 [])), []⟩, ⟨(some 6), none, (.op (.mv (.t 0))), []⟩, ⟨(some 7), none, (.op (.app 1 1 (.t 5) (.t 6))), []⟩, ⟨(some 2), none, (.op (.mv (.t 7))), []⟩]) .ret)))
noncomputable def F78 (lf : Nat) (s : V) (h : List Ob) : Option (V × List Ob) :=
bind1 (er (.eq false .slice (.c s) (.c V.nils)) h) fun v =>
castBool v fun x4 =>
cB x4 (
some (V.nils, h)) (
bind2 (ev (.bslice 1 (.int .u8 0) 0 []) h) fun x5 h_ =>
bind2 (ev (.app 1 1 (.c x5) (.c s)) h_) fun x7 h_1 =>
some (x7, h_1))
theorem F78_eq (lf : Nat) (s : V) (h : List Ob) : evCK A78 ⟨call78 lf, cvN, subN⟩ k78 (entryK [s]) h (endF c78.res) = F78 lf s h := by kernel_rfl
theorem F78_ok (lf : Nat) (s : V) (h : List Ob) (r_ : V) (h_r : List Ob) (e_ : F78 lf s h = some (r_, h_r)) : CD Go.Proofs.Try.prog 78 [s] h r_ h_r :=
  CD.ofK (A := A78) (σ := ⟨call78 lf, cvN, subN⟩) (c := k78) Go.Proofs.Try.func78 ok78 en78 (show 1 ≤ 8 by decide) (by kernel_rfl) (call78_ok lf) cvN_ok (And.intro True.intro (And.intro (And.intro True.intro (And.intro (And.intro True.intro True.intro) True.intro)) (And.intro True.intro True.intro))) ((F78_eq lf s h).trans e_)
def w78 (f : V → List Ob → Option (V × List Ob)) (vs : List V) (h : List Ob) : Option (V × List Ob) := castCons vs fun c1 l1 => castNil l1 (f c1 h)
noncomputable def W78 (lf : Nat) : List V → List Ob → Option (V × List Ob) := w78 (F78 lf)
theorem W78_ok (lf : Nat) : ∀ args h v h', W78 lf args h = some (v, h') → CD Go.Proofs.Try.prog 78 args h v h' := by
  intro vs h r h' e0
  simp only [W78, w78] at e0
  obtain ⟨c1, l1, rfl, e1⟩ := castCons_inv e0
  obtain ⟨rfl, e2⟩ := castNil_inv e1
  have e := e2
  exact F78_ok lf c1 h r h' e

/-! 55: wainscot/journal.Read -/
def A55 : List (Nat × Sh) := [(3, .bool), (5, (.int .i64)), (7, (.int .i64)), (8, (.int .i64)), (9, (.int .i64)), (11, (.int .i64)), (14, (.int .i64)), (15, (.tup [(.agg [(.int .u64), (.int .i64), .any, .any]), (.int .i64)])), (17, (.tup [(.agg [(.int .u64), (.int .i64), .any, .any]), (.int .i64)])), (18, (.agg [(.int .u64), (.int .i64), .any, .any])), (19, (.int .i64)), (21, (.int .i64)), (22, .bool), (23, (.tup [(.agg [(.int .u64), (.int .i64), .any, .any]), (.int .i64)])), (26, (.tup [(.agg [(.int .u64), (.int .i64), .any, .any]), (.int .i64)])), (27, (.agg [(.int .u64), (.int .i64), .any, .any])), (28, (.int .i64)), (29, (.int .i64)), (30, (.int .i64)), (31, .bool), (32, (.agg [(.int .u64), (.int .i64), .any, .any])), (33, (.int .i64)), (34, (.int .i64)), (35, .bool), (36, .bool), (38, (.int .i64)), (39, (.int .i64)), (40, (.int .i64)), (41, (.int .i64)), (42, .bool), (43, .bool), (44, (.agg [(.int .u64), (.int .i64), .any, .any])), (45, (.int .i64)), (46, (.int .i64)), (47, .bool), (48, (.int .i64)), (49, (.int .i64)), (50, (.int .i64)), (51, (.int .i64)), (53, (.int .i64)), (54, (.int .i64)), (55, (.int .i64)), (59, (.int .u64)), (60, (.int .i64)), (63, (.tup [.any, (.int .i64)])), (65, (.int .u64)), (66, (.int .i64)), (68, (.tup [.any, (.int .i64)])), (70, (.int .i64)), (71, (.int .i64)), (72, .bool), (73, .bool), (76, .bool), (77, .bool), (78, .bool), (79, (.agg [(.int .u64), (.int .i64), .any, .any])), (82, (.int .i64)), (93, (.int .i64)), (94, (.agg [(.int .u64), (.int .i64), .any, .any]))]
noncomputable def call55 (lf : Nat) : CallS := callC 78 (W78 lf) (callC 77 (W77 lf) (callC 76 (W76 lf) (callC 57 (W57 lf) (callC 22 (W22 lf) (callN)))))
theorem call55_ok (lf : Nat) : CallOk Go.Proofs.Try.prog (call55 lf) := callC_ok (W78_ok lf) (callC_ok (W77_ok lf) (callC_ok (W76_ok lf) (callC_ok (W57_ok lf) (callC_ok (W22_ok lf) (callN_ok)))))
def o55_0 : Outs := [(.ret, [3], [.bool]), (.normal, [], [])]
def k55_0 : KC := (.seq (.reg [⟨(some 71), none, (.op (.mv (.t 14))), []⟩, ⟨(some 72), none, (.op (.bin .neq (.t 71) (.c (.int .i64 0)))), []⟩, ⟨(some 73), none, (.op (.mv (.t 72))), []⟩, ⟨(some 74), (some (73, false)), (.op (.mv (.t 13))), []⟩, ⟨(some 75), (some (73, false)), (.op (.mv (.t 10))), []⟩, ⟨(some 76), (some (73, false)), (.call 57 [(.t 74), (.t 75)]), []⟩, ⟨(some 77), (some (73, false)), (.op (.un .not (.t 76))), []⟩, ⟨(some 78), none, (.op (.pick (.t 73) (.c (.bool true)) (.t 77))), []⟩]) (.cond (.t 78) (.seq (.reg [⟨(some 79), none, (.op (.build [(.int .u64 0), (.int .i64 0), .nils, .nils] [])), []⟩, ⟨none, none, (.op (.store 4 (.t 2) (.t 79))), []⟩, ⟨(some 3), none, (.op (.mv (.c (.bool false)))), []⟩]) .ret) .skip))
def w55_0 (f : V → V → V → Int → List Ob → SubR) (vs : List V) (h : List Ob) : SubR := castCons vs fun c1 l1 => castCons l1 fun c2 l2 => castCons l2 fun c3 l3 => castCons l3 fun c4 l4 => castInt .i64 c4 fun n5 => castNil l4 (f c1 c2 c3 n5 h)
noncomputable def S55_0 (lf : Nat) (x2 : V) (part : V) (record : V) (e : Int) (h : List Ob) : SubR :=
cB (e != (0)) (
bind1 (er (.build [(.int .u64 0), (.int .i64 0), .nils, .nils] []) h) fun v =>
castAgg v fun l =>
castCons l fun c l1 =>
castInt .u64 c fun x79_0 =>
castCons l1 fun c1 l2 =>
castInt .i64 c1 fun x79_1 =>
castCons l2 fun x79_2 l3 =>
castCons l3 fun x79_3 l4 =>
castNil l4 (
bind2 (ev (.store 4 (.c x2) (.c (.agg [(.int .u64 x79_0), (.int .i64 x79_1), x79_2, x79_3]))) h) fun u h_ =>
some (.ret, [(.bool false)], h_))) (
bind2 (F57 lf record part h) fun v h_ =>
castBool v fun x76 =>
cB (!x76) (
bind1 (er (.build [(.int .u64 0), (.int .i64 0), .nils, .nils] []) h_) fun v1 =>
castAgg v1 fun l =>
castCons l fun c l1 =>
castInt .u64 c fun x79_0 =>
castCons l1 fun c1 l2 =>
castInt .i64 c1 fun x79_1 =>
castCons l2 fun x79_2 l3 =>
castCons l3 fun x79_3 l4 =>
castNil l4 (
bind2 (ev (.store 4 (.c x2) (.c (.agg [(.int .u64 x79_0), (.int .i64 x79_1), x79_2, x79_3]))) h_) fun u h_1 =>
some (.ret, [(.bool false)], h_1))) (
some (.normal, [], h_)))
theorem S55_0_eq (lf : Nat) (x2 : V) (part : V) (record : V) (e : Int) (h : List Ob) : evCK A55 ⟨call55 lf, cvN, subN⟩ k55_0 [(2, x2), (10, part), (13, record), (14, (.int .i64 e))] h (endK o55_0) = S55_0 lf x2 part record e h := by kernel_rfl
theorem S55_0_ok (lf : Nat) : SubOk Go.Proofs.Try.prog k55_0.er [2, 10, 13, 14] o55_0 (w55_0 (S55_0 lf)) := by
  refine SubOk.of (A := A55) (σ := ⟨call55 lf, cvN, subN⟩) (c := k55_0) (call55_ok lf) cvN_ok (And.intro True.intro (And.intro (And.intro True.intro True.intro) True.intro)) ?_
  intro vs h r e0
  simp only [w55_0] at e0
  obtain ⟨c1, l1, rfl, e1⟩ := castCons_inv e0
  obtain ⟨c2, l2, rfl, e2⟩ := castCons_inv e1
  obtain ⟨c3, l3, rfl, e3⟩ := castCons_inv e2
  obtain ⟨c4, l4, rfl, e4⟩ := castCons_inv e3
  obtain ⟨y3, rfl, e5⟩ := castInt_inv e4
  obtain ⟨rfl, e6⟩ := castNil_inv e5
  have e := e6
  exact (S55_0_eq lf c1 c2 c3 y3 h).trans e
def o55_1 : Outs := [((.exit 0), [], []), (.ret, [3], [.bool])]
def k55_1 : KC := (.seq (.reg [⟨(some 47), none, (.op (.bin .lss (.t 46) (.t 45))), []⟩]) (.seq (.cond (.t 47) .skip (.exit 0)) (.seq (.block 1 (.seq (.reg [⟨(some 48), none, (.op (.mv (.t 46))), []⟩, ⟨(some 8), none, (.op (.mv (.t 48))), []⟩]) (.seq (.reg [⟨(some 49), none, (.op (.mv (.t 8))), []⟩, ⟨(some 50), none, (.op (.bin .mul (.t 49) (.c (.int .i64 576)))), []⟩, ⟨(some 51), none, (.op (.bin .add (.c (.int .i64 128)) (.t 50))), []⟩, ⟨(some 9), none, (.op (.mv (.t 51))), []⟩]) (.seq (.reg [⟨(some 52), none, (.op (.mv (.t 0))), []⟩, ⟨(some 53), none, (.op (.mv (.t 9))), []⟩, ⟨(some 54), none, (.op (.mv (.t 9))), []⟩, ⟨(some 55), none, (.op (.bin .add (.t 54) (.c (.int .i64 576)))), []⟩, ⟨(some 56), none, (.op (.slcL 1 (.t 52) (some (.t 53)) (some (.t 55)) none)), []⟩, ⟨(some 10), none, (.op (.mv (.t 56))), []⟩]) (.seq (.reg [⟨(some 57), none, (.op (.mv (.t 10))), []⟩, ⟨(some 58), none, (.op (.slcL 1 (.t 57) none (some (.c (.int .i64 4))) none)), []⟩, ⟨(some 61), none, (.op (.mv (.t 10))), []⟩, ⟨(some 62), none, (.op (.slcL 1 (.t 61) (some (.c (.int .i64 4))) (some (.c (.int .i64 516))) none)), []⟩, ⟨(some 59), none, (.call 77 [(.t 58)]), [⟨(some 62), none, (.op (.slcL 1 (.t 61) (some (.c (.int .i64 4))) (some (.c (.int .i64 516))) none))⟩]⟩, ⟨(some 60), none, (.op (.toInt .i64 (.t 59))), []⟩, ⟨(some 11), none, (.op (.mv (.t 60))), []⟩, ⟨(some 12), none, (.op (.mv (.t 62))), []⟩]) (.seq (.reg [⟨(some 64), none, (.op (.faddr 0 (.t 4))), []⟩, ⟨(some 65), none, (.op (.load1 (.t 64))), []⟩, ⟨(some 66), none, (.op (.mv (.t 11))), []⟩, ⟨(some 67), none, (.op (.mv (.t 12))), []⟩, ⟨(some 68), none, (.call 22 [(.t 65), (.t 66), (.t 67)]), []⟩, ⟨(some 63), none, (.op (.mv (.t 68))), []⟩, ⟨(some 69), none, (.op (.ext 0 (.t 63))), []⟩, ⟨(some 70), none, (.op (.ext 1 (.t 63))), []⟩, ⟨(some 13), none, (.op (.mv (.t 69))), []⟩, ⟨(some 14), none, (.op (.mv (.t 70))), []⟩]) (.seq (.sub 0 k55_0.er [2, 10, 13, 14] o55_0) (.reg [⟨(some 80), none, (.op (.faddr 2 (.t 4))), []⟩, ⟨(some 81), none, (.op (.load1 (.t 80))), []⟩, ⟨(some 82), none, (.op (.mv (.t 11))), []⟩, ⟨(some 85), none, (.op (.faddr 3 (.t 4))), []⟩, ⟨(some 86), none, (.op (.load1 (.t 85))), []⟩, ⟨(some 87), none, (.op (.mv (.t 12))), []⟩, ⟨(some 83), none, (.op (.bslice 1 (.int .i64 0) 1 [(0, (.t 82))])), [⟨(some 86), none, (.op (.load1 (.t 85)))⟩, ⟨(some 85), none, (.op (.faddr 3 (.t 4)))⟩, ⟨(some 81), none, (.op (.load1 (.t 80)))⟩, ⟨(some 80), none, (.op (.faddr 2 (.t 4)))⟩]⟩, ⟨(some 84), none, (.op (.app 1 8 (.t 81) (.t 83))), [⟨(some 86), none, (.op (.load1 (.t 85)))⟩, ⟨(some 85), none, (.op (.faddr 3 (.t 4)))⟩]⟩, ⟨(some 91), none, (.op (.faddr 2 (.t 4))), []⟩, ⟨(some 88), none, (.call 78 [(.t 87)]), [⟨(some 91), none, (.op (.faddr 2 (.t 4)))⟩, ⟨(some 86), none, (.op (.load1 (.t 85)))⟩, ⟨(some 85), none, (.op (.faddr 3 (.t 4)))⟩]⟩, ⟨(some 89), none, (.op (.bslice 1 .nils 1 [(0, (.t 88))])), [⟨(some 91), none, (.op (.faddr 2 (.t 4)))⟩, ⟨(some 86), none, (.op (.load1 (.t 85)))⟩, ⟨(some 85), none, (.op (.faddr 3 (.t 4)))⟩]⟩, ⟨(some 90), none, (.op (.app 1 24 (.t 86) (.t 89))), [⟨(some 91), none, (.op (.faddr 2 (.t 4)))⟩]⟩, ⟨none, none, (.op (.store 1 (.t 91) (.t 84))), []⟩, ⟨(some 92), none, (.op (.faddr 3 (.t 4))), []⟩, ⟨none, none, (.op (.store 1 (.t 92) (.t 90))), []⟩])))))))) (.reg [⟨(some 93), none, (.op (.bin .add (.t 46) (.c (.int .i64 1)))), []⟩, ⟨(some 46), none, (.op (.mv (.t 93))), []⟩]))))
def w55_1 (f : V → V → V → Int → Int → List Ob → SubR) (vs : List V) (h : List Ob) : SubR := castCons vs fun c1 l1 => castCons l1 fun c2 l2 => castCons l2 fun c3 l3 => castCons l3 fun c4 l4 => castInt .i64 c4 fun n5 => castCons l4 fun c6 l6 => castInt .i64 c6 fun n7 => castNil l6 (f c1 c2 c3 n5 n7 h)
noncomputable def B55_1 (lf : Nat) (self : V → V → V → Int → Int → List Ob → SubR) (b : V) (x2 : V) (f : V) (x45 : Int) (x46 : Int) (h : List Ob) : SubR :=
cB (decide (x46 < x45)) (
bind1 (er (.slcL 1 (.c b) (some (.c (.int .i64 (IntKind.i64.wrap ((128) + (IntKind.i64.wrap (x46 * (576)))))))) (some (.c (.int .i64 (IntKind.i64.wrap ((IntKind.i64.wrap ((128) + (IntKind.i64.wrap (x46 * (576))))) + (576)))))) none) h) fun x56 =>
bind1 (er (.slcL 1 (.c x56) none (some (.c (.int .i64 (4)))) none) h) fun x58 =>
bind1 (er (.slcL 1 (.c x56) (some (.c (.int .i64 (4)))) (some (.c (.int .i64 (516)))) none) h) fun x62 =>
bind2 (F77 lf x58 h) fun v h_ =>
castInt .u64 v fun x59 =>
reP (er (.slcL 1 (.c x56) (some (.c (.int .i64 (4)))) (some (.c (.int .i64 (516)))) none) h_ = some x62) (
bind1 (er (.faddr 0 (.c f)) h_) fun x64 =>
bind1 (er (.load1 (.c x64)) h_) fun v1 =>
castInt .u64 v1 fun x65 =>
bind2 (F22 lf x65 (IntKind.i64.wrap x59) x62 h_) fun v2 h_1 =>
castTup v2 fun l =>
castCons l fun x68_0 l1 =>
castCons l1 fun c l2 =>
castInt .i64 c fun x68_1 =>
castNil l2 (
bind3 (S55_0 lf x2 x56 x68_0 x68_1 h_1) fun ex vs h_2 =>
cB (decide (ex = .ret)) (
castCons vs fun c1 l3 =>
castBool c1 fun x3 =>
castNil l3 (
some (.ret, [(.bool x3)], h_2))) (
cB (decide (ex = .normal)) (
castNil vs (
bind1 (er (.faddr 2 (.c f)) h_2) fun x80 =>
bind1 (er (.load1 (.c x80)) h_2) fun x81 =>
bind1 (er (.faddr 3 (.c f)) h_2) fun x85 =>
bind1 (er (.load1 (.c x85)) h_2) fun x86 =>
bind2 (ev (.bslice 1 (.int .i64 0) 1 [(0, (.c (.int .i64 (IntKind.i64.wrap x59))))]) h_2) fun x83 h_3 =>
reP (er (.load1 (.c x85)) h_3 = some x86) (
reP (er (.faddr 3 (.c f)) h_3 = some x85) (
reP (er (.load1 (.c x80)) h_3 = some x81) (
reP (er (.faddr 2 (.c f)) h_3 = some x80) (
bind2 (ev (.app 1 8 (.c x81) (.c x83)) h_3) fun x84 h_4 =>
reP (er (.load1 (.c x85)) h_4 = some x86) (
reP (er (.faddr 3 (.c f)) h_4 = some x85) (
bind1 (er (.faddr 2 (.c f)) h_4) fun x91 =>
bind2 (F78 lf x62 h_4) fun x88 h_5 =>
reP (er (.faddr 2 (.c f)) h_5 = some x91) (
reP (er (.load1 (.c x85)) h_5 = some x86) (
reP (er (.faddr 3 (.c f)) h_5 = some x85) (
bind2 (ev (.bslice 1 .nils 1 [(0, (.c x88))]) h_5) fun x89 h_6 =>
reP (er (.faddr 2 (.c f)) h_6 = some x91) (
reP (er (.load1 (.c x85)) h_6 = some x86) (
reP (er (.faddr 3 (.c f)) h_6 = some x85) (
bind2 (ev (.app 1 24 (.c x86) (.c x89)) h_6) fun x90 h_7 =>
reP (er (.faddr 2 (.c f)) h_7 = some x91) (
bind2 (ev (.store 1 (.c x91) (.c x84)) h_7) fun u h_8 =>
bind1 (er (.faddr 3 (.c f)) h_8) fun x92 =>
bind2 (ev (.store 1 (.c x92) (.c x90)) h_8) fun u1 h_9 =>
self b x2 f x45 (IntKind.i64.wrap (x46 + (1))) h_9))))))))))))))) (
none))))) (
some ((.exit 0), [], h))
noncomputable def L55_1 (lf : Nat) : Nat → V → V → V → Int → Int → List Ob → SubR
  | 0 => fun _ _ _ _ _ _ => none
  | n + 1 => B55_1 lf (L55_1 lf n)
theorem B55_1_eq (lf : Nat) (self : V → V → V → Int → Int → List Ob → SubR) (b : V) (x2 : V) (f : V) (x45 : Int) (x46 : Int) (h : List Ob) : evCK A55 ⟨call55 lf, cvN, subC 0 (w55_0 (S55_0 lf)) (subN)⟩ k55_1 [(0, b), (2, x2), (4, f), (45, (.int .i64 x45)), (46, (.int .i64 x46))] h (endL [0, 2, 4, 45, 46] [.any, .any, .any, (.int .i64), (.int .i64)] o55_1 (w55_1 self)) = B55_1 lf self b x2 f x45 x46 h := by kernel_rfl
theorem L55_1_ok (lf : Nat) : ∀ n, SubOk Go.Proofs.Try.prog (.loop k55_1.er) [0, 2, 4, 45, 46] o55_1 (w55_1 (L55_1 lf n)) := by
  refine SubOk.loop (A := A55) (σ := ⟨call55 lf, cvN, subC 0 (w55_0 (S55_0 lf)) (subN)⟩) (c := k55_1) (shs := [.any, .any, .any, (.int .i64), (.int .i64)]) (G := fun n => w55_1 (L55_1 lf n)) (call55_ok lf) cvN_ok (And.intro True.intro (And.intro (And.intro True.intro True.intro) (And.intro (And.intro True.intro (And.intro True.intro (And.intro True.intro (And.intro True.intro (And.intro True.intro (And.intro (S55_0_ok lf) True.intro)))))) True.intro))) ?_ ?_
  · intro vs h r e0
    simp only [w55_1] at e0
    obtain ⟨c1, l1, rfl, e1⟩ := castCons_inv e0
    obtain ⟨c2, l2, rfl, e2⟩ := castCons_inv e1
    obtain ⟨c3, l3, rfl, e3⟩ := castCons_inv e2
    obtain ⟨c4, l4, rfl, e4⟩ := castCons_inv e3
    obtain ⟨y3, rfl, e5⟩ := castInt_inv e4
    obtain ⟨c5, l5, rfl, e6⟩ := castCons_inv e5
    obtain ⟨y4, rfl, e7⟩ := castInt_inv e6
    obtain ⟨rfl, e8⟩ := castNil_inv e7
    have e := e8
    cases e
  · intro n vs h r e0
    simp only [w55_1] at e0
    obtain ⟨c1, l1, rfl, e1⟩ := castCons_inv e0
    obtain ⟨c2, l2, rfl, e2⟩ := castCons_inv e1
    obtain ⟨c3, l3, rfl, e3⟩ := castCons_inv e2
    obtain ⟨c4, l4, rfl, e4⟩ := castCons_inv e3
    obtain ⟨y3, rfl, e5⟩ := castInt_inv e4
    obtain ⟨c5, l5, rfl, e6⟩ := castCons_inv e5
    obtain ⟨y4, rfl, e7⟩ := castInt_inv e6
    obtain ⟨rfl, e8⟩ := castNil_inv e7
    have e := e8
    exact (B55_1_eq lf (L55_1 lf n) c1 c2 c3 y3 y4 h).trans e
def o55_2 : Outs := [(.ret, [3], [.bool]), (.normal, [], [])]
def k55_2 : KC := (.seq (.reg [⟨(some 34), none, (.op (.mv (.t 5))), []⟩, ⟨(some 35), none, (.op (.bin .lss (.t 34) (.c (.int .i64 0)))), []⟩, ⟨(some 36), none, (.op (.mv (.t 35))), []⟩, ⟨(some 37), (some (36, false)), (.op (.mv (.t 0))), []⟩, ⟨(some 38), (some (36, false)), (.op (.lenL (.t 37))), []⟩, ⟨(some 39), (some (36, false)), (.op (.bin .sub (.t 38) (.c (.int .i64 128)))), []⟩, ⟨(some 40), (some (36, false)), (.op (.bin .quo (.t 39) (.c (.int .i64 576)))), []⟩, ⟨(some 41), (some (36, false)), (.op (.mv (.t 5))), []⟩, ⟨(some 42), (some (36, false)), (.op (.bin .lss (.t 40) (.t 41))), []⟩, ⟨(some 43), none, (.op (.pick (.t 36) (.c (.bool true)) (.t 42))), []⟩]) (.cond (.t 43) (.seq (.reg [⟨(some 44), none, (.op (.build [(.int .u64 0), (.int .i64 0), .nils, .nils] [])), []⟩, ⟨none, none, (.op (.store 4 (.t 2) (.t 44))), []⟩, ⟨(some 3), none, (.op (.mv (.c (.bool false)))), []⟩]) .ret) .skip))
def w55_2 (f : V → V → Int → List Ob → SubR) (vs : List V) (h : List Ob) : SubR := castCons vs fun c1 l1 => castCons l1 fun c2 l2 => castCons l2 fun c3 l3 => castInt .i64 c3 fun n4 => castNil l3 (f c1 c2 n4 h)
noncomputable def S55_2 (lf : Nat) (b : V) (x2 : V) (many : Int) (h : List Ob) : SubR :=
cB (decide (many < (0))) (
bind1 (er (.build [(.int .u64 0), (.int .i64 0), .nils, .nils] []) h) fun v =>
castAgg v fun l =>
castCons l fun c l1 =>
castInt .u64 c fun x44_0 =>
castCons l1 fun c1 l2 =>
castInt .i64 c1 fun x44_1 =>
castCons l2 fun x44_2 l3 =>
castCons l3 fun x44_3 l4 =>
castNil l4 (
bind2 (ev (.store 4 (.c x2) (.c (.agg [(.int .u64 x44_0), (.int .i64 x44_1), x44_2, x44_3]))) h) fun u h_ =>
some (.ret, [(.bool false)], h_))) (
bind1 (er (.lenL (.c b)) h) fun v =>
castInt .i64 v fun x38 =>
cB (decide ((IntKind.i64.wrap (Int.tdiv (IntKind.i64.wrap (x38 - (128))) (576))) < many)) (
bind1 (er (.build [(.int .u64 0), (.int .i64 0), .nils, .nils] []) h) fun v1 =>
castAgg v1 fun l =>
castCons l fun c l1 =>
castInt .u64 c fun x44_0 =>
castCons l1 fun c1 l2 =>
castInt .i64 c1 fun x44_1 =>
castCons l2 fun x44_2 l3 =>
castCons l3 fun x44_3 l4 =>
castNil l4 (
bind2 (ev (.store 4 (.c x2) (.c (.agg [(.int .u64 x44_0), (.int .i64 x44_1), x44_2, x44_3]))) h) fun u h_ =>
some (.ret, [(.bool false)], h_))) (
some (.normal, [], h)))
theorem S55_2_eq (lf : Nat) (b : V) (x2 : V) (many : Int) (h : List Ob) : evCK A55 ⟨call55 lf, cvN, subN⟩ k55_2 [(0, b), (2, x2), (5, (.int .i64 many))] h (endK o55_2) = S55_2 lf b x2 many h := by kernel_rfl
theorem S55_2_ok (lf : Nat) : SubOk Go.Proofs.Try.prog k55_2.er [0, 2, 5] o55_2 (w55_2 (S55_2 lf)) := by
  refine SubOk.of (A := A55) (σ := ⟨call55 lf, cvN, subN⟩) (c := k55_2) (call55_ok lf) cvN_ok (And.intro True.intro (And.intro (And.intro True.intro True.intro) True.intro)) ?_
  intro vs h r e0
  simp only [w55_2] at e0
  obtain ⟨c1, l1, rfl, e1⟩ := castCons_inv e0
  obtain ⟨c2, l2, rfl, e2⟩ := castCons_inv e1
  obtain ⟨c3, l3, rfl, e3⟩ := castCons_inv e2
  obtain ⟨y2, rfl, e4⟩ := castInt_inv e3
  obtain ⟨rfl, e5⟩ := castNil_inv e4
  have e := e5
  exact (S55_2_eq lf c1 c2 y2 h).trans e
def o55_3 : Outs := [(.normal, [5], [(.int .i64)])]
def k55_3 : KC := (.seq (.reg [⟨(some 20), none, (.op (.mv (.t 0))), []⟩, ⟨(some 21), none, (.op (.lenL (.t 20))), []⟩, ⟨(some 22), none, (.op (.bin .geq (.t 21) (.c (.int .i64 128)))), []⟩]) (.cond (.t 22) (.seq (.reg [⟨(some 24), none, (.op (.mv (.t 0))), []⟩, ⟨(some 25), none, (.op (.slcL 1 (.t 24) (some (.c (.int .i64 64))) none none)), []⟩, ⟨(some 26), none, (.call 76 [(.t 25)]), []⟩, ⟨(some 23), none, (.op (.mv (.t 26))), []⟩, ⟨(some 27), none, (.op (.ext 0 (.t 23))), []⟩, ⟨(some 28), none, (.op (.ext 1 (.t 23))), []⟩, ⟨(some 6), none, (.op (.alloc false (.agg [(.int .u64 0), (.int .i64 0), .nils, .nils]))), []⟩, ⟨none, none, (.op (.store 4 (.t 6) (.t 27))), []⟩, ⟨(some 7), none, (.op (.mv (.t 28))), []⟩]) (.seq (.reg [⟨(some 29), none, (.op (.mv (.t 7))), []⟩, ⟨(some 30), none, (.op (.mv (.t 5))), []⟩, ⟨(some 31), none, (.op (.bin .gtr (.t 29) (.t 30))), []⟩]) (.cond (.t 31) (.reg [⟨(some 32), none, (.op (.loadN 4 (.t 6))), []⟩, ⟨(some 33), none, (.op (.mv (.t 7))), []⟩, ⟨none, none, (.op (.store 4 (.t 4) (.t 32))), []⟩, ⟨(some 5), none, (.op (.mv (.t 33))), []⟩]) .skip))) .skip))
def w55_3 (f : V → V → Int → List Ob → SubR) (vs : List V) (h : List Ob) : SubR := castCons vs fun c1 l1 => castCons l1 fun c2 l2 => castCons l2 fun c3 l3 => castInt .i64 c3 fun n4 => castNil l3 (f c1 c2 n4 h)
noncomputable def S55_3 (lf : Nat) (b : V) (f : V) (many : Int) (h : List Ob) : SubR :=
bind1 (er (.lenL (.c b)) h) fun v =>
castInt .i64 v fun x21 =>
cB (decide (x21 ≥ (128))) (
bind1 (er (.slcL 1 (.c b) (some (.c (.int .i64 (64)))) none none) h) fun x25 =>
bind2 (F76 lf x25 h) fun v1 h_ =>
castTup v1 fun l =>
castCons l fun c l1 =>
castAgg c fun l2 =>
castCons l2 fun c1 l3 =>
castInt .u64 c1 fun x26_0_0 =>
castCons l3 fun c2 l4 =>
castInt .i64 c2 fun x26_0_1 =>
castCons l4 fun x26_0_2 l5 =>
castCons l5 fun x26_0_3 l6 =>
castNil l6 (
castCons l1 fun c3 l7 =>
castInt .i64 c3 fun x26_1 =>
castNil l7 (
bind2 (ev (.alloc false (.agg [(.int .u64 0), (.int .i64 0), .nils, .nils])) h_) fun g h_1 =>
bind2 (ev (.store 4 (.c g) (.c (.agg [(.int .u64 x26_0_0), (.int .i64 x26_0_1), x26_0_2, x26_0_3]))) h_1) fun u h_2 =>
cB (decide (x26_1 > many)) (
bind1 (er (.loadN 4 (.c g)) h_2) fun v2 =>
castAgg v2 fun l8 =>
castCons l8 fun c4 l9 =>
castInt .u64 c4 fun x32_0 =>
castCons l9 fun c5 l10 =>
castInt .i64 c5 fun x32_1 =>
castCons l10 fun x32_2 l11 =>
castCons l11 fun x32_3 l12 =>
castNil l12 (
bind2 (ev (.store 4 (.c f) (.c (.agg [(.int .u64 x32_0), (.int .i64 x32_1), x32_2, x32_3]))) h_2) fun u1 h_3 =>
some (.normal, [(.int .i64 x26_1)], h_3))) (
some (.normal, [(.int .i64 many)], h_2))))) (
some (.normal, [(.int .i64 many)], h))
theorem S55_3_eq (lf : Nat) (b : V) (f : V) (many : Int) (h : List Ob) : evCK A55 ⟨call55 lf, cvN, subN⟩ k55_3 [(0, b), (4, f), (5, (.int .i64 many))] h (endK o55_3) = S55_3 lf b f many h := by kernel_rfl
theorem S55_3_ok (lf : Nat) : SubOk Go.Proofs.Try.prog k55_3.er [0, 4, 5] o55_3 (w55_3 (S55_3 lf)) := by
  refine SubOk.of (A := A55) (σ := ⟨call55 lf, cvN, subN⟩) (c := k55_3) (call55_ok lf) cvN_ok (And.intro True.intro (And.intro (And.intro True.intro (And.intro True.intro (And.intro True.intro True.intro))) True.intro)) ?_
  intro vs h r e0
  simp only [w55_3] at e0
  obtain ⟨c1, l1, rfl, e1⟩ := castCons_inv e0
  obtain ⟨c2, l2, rfl, e2⟩ := castCons_inv e1
  obtain ⟨c3, l3, rfl, e3⟩ := castCons_inv e2
  obtain ⟨y2, rfl, e4⟩ := castInt_inv e3
  obtain ⟨rfl, e5⟩ := castNil_inv e4
  have e := e5
  exact (S55_3_eq lf c1 c2 y2 h).trans e
def k55 : KC := (.seq (.reg [⟨(some 2), none, (.op (.alloc false (.agg [(.int .u64 0), (.int .i64 0), .nils, .nils]))), []⟩, ⟨(some 3), none, (.op (.mv (.c (.bool false)))), []⟩]) (.seq (.reg [⟨(some 16), none, (.op (.mv (.t 0))), []⟩, ⟨(some 17), none, (.call 76 [(.t 16)]), []⟩, ⟨(some 15), none, (.op (.mv (.t 17))), []⟩, ⟨(some 18), none, (.op (.ext 0 (.t 15))), []⟩, ⟨(some 19), none, (.op (.ext 1 (.t 15))), []⟩, ⟨(some 4), none, (.op (.alloc false (.agg [(.int .u64 0), (.int .i64 0), .nils, .nils]))), []⟩, ⟨none, none, (.op (.store 4 (.t 4) (.t 18))), []⟩, ⟨(some 5), none, (.op (.mv (.t 19))), []⟩]) (.seq (.sub 3 k55_3.er [0, 4, 5] o55_3) (.seq (.sub 2 k55_2.er [0, 2, 5] o55_2) (.seq (.seq (.reg [⟨(some 45), none, (.op (.mv (.t 5))), []⟩, ⟨(some 46), none, (.op (.mv (.c (.int .i64 0)))), []⟩]) (.block 0 (.sub 1 (.loop k55_1.er) [0, 2, 4, 45, 46] o55_1))) (.seq (.reg [⟨(some 94), none, (.op (.loadN 4 (.t 4))), []⟩, ⟨none, none, (.op (.store 4 (.t 2) (.t 94))), []⟩, ⟨(some 3), none, (.op (.mv (.c (.bool true)))), []⟩]) .ret))))))
noncomputable def F55 (lf : Nat) (b : V) (h : List Ob) : Option (V × List Ob) :=
bind2 (ev (.alloc false (.agg [(.int .u64 0), (.int .i64 0), .nils, .nils])) h) fun x2 h_ =>
bind2 (F76 lf b h_) fun v h_1 =>
castTup v fun l =>
castCons l fun c l1 =>
castAgg c fun l2 =>
castCons l2 fun c1 l3 =>
castInt .u64 c1 fun x17_0_0 =>
castCons l3 fun c2 l4 =>
castInt .i64 c2 fun x17_0_1 =>
castCons l4 fun x17_0_2 l5 =>
castCons l5 fun x17_0_3 l6 =>
castNil l6 (
castCons l1 fun c3 l7 =>
castInt .i64 c3 fun x17_1 =>
castNil l7 (
bind2 (ev (.alloc false (.agg [(.int .u64 0), (.int .i64 0), .nils, .nils])) h_1) fun f h_2 =>
bind2 (ev (.store 4 (.c f) (.c (.agg [(.int .u64 x17_0_0), (.int .i64 x17_0_1), x17_0_2, x17_0_3]))) h_2) fun u h_3 =>
bind3 (S55_3 lf b f x17_1 h_3) fun ex vs h_4 =>
cB (decide (ex = .normal)) (
castCons vs fun c4 l8 =>
castInt .i64 c4 fun many =>
castNil l8 (
bind3 (S55_2 lf b x2 many h_4) fun ex1 vs1 h_5 =>
cB (decide (ex1 = .ret)) (
castCons vs1 fun c5 l9 =>
castBool c5 fun x3 =>
castNil l9 (
bind1 (evLoadN h_5 4 x2) fun r =>
some ((.tup [r, (.bool x3)]), h_5))) (
cB (decide (ex1 = .normal)) (
castNil vs1 (
bind3 (L55_1 lf lf b x2 f many (0) h_5) fun ex2 vs2 h_6 =>
cB (decide (ex2 = (.exit 0))) (
castNil vs2 (
bind1 (er (.loadN 4 (.c f)) h_6) fun v1 =>
castAgg v1 fun l9 =>
castCons l9 fun c5 l10 =>
castInt .u64 c5 fun x94_0 =>
castCons l10 fun c6 l11 =>
castInt .i64 c6 fun x94_1 =>
castCons l11 fun x94_2 l12 =>
castCons l12 fun x94_3 l13 =>
castNil l13 (
bind2 (ev (.store 4 (.c x2) (.c (.agg [(.int .u64 x94_0), (.int .i64 x94_1), x94_2, x94_3]))) h_6) fun u1 h_7 =>
bind1 (evLoadN h_7 4 x2) fun r =>
some ((.tup [r, (.bool true)]), h_7)))) (
cB (decide (ex2 = .ret)) (
castCons vs2 fun c5 l9 =>
castBool c5 fun x3 =>
castNil l9 (
bind1 (evLoadN h_6 4 x2) fun r =>
some ((.tup [r, (.bool x3)]), h_6))) (
none)))) (
none)))) (
none)))
theorem F55_eq (lf : Nat) (b : V) (h : List Ob) : evCK A55 ⟨call55 lf, cvN, subC 1 (w55_1 (L55_1 lf lf)) (subC 2 (w55_2 (S55_2 lf)) (subC 3 (w55_3 (S55_3 lf)) (subN)))⟩ k55 (entryK [b]) h (endF c55.res) = F55 lf b h := by kernel_rfl
theorem F55_ok (lf : Nat) (b : V) (h : List Ob) (r_ : V) (h_r : List Ob) (e_ : F55 lf b h = some (r_, h_r)) : CD Go.Proofs.Try.prog 55 [b] h r_ h_r :=
  CD.ofK (A := A55) (σ := ⟨call55 lf, cvN, subC 1 (w55_1 (L55_1 lf lf)) (subC 2 (w55_2 (S55_2 lf)) (subC 3 (w55_3 (S55_3 lf)) (subN)))⟩) (c := k55) Go.Proofs.Try.func55 ok55 en55 (show 1 ≤ 95 by decide) (by kernel_rfl) (call55_ok lf) cvN_ok (And.intro True.intro (And.intro True.intro (And.intro (S55_3_ok lf) (And.intro (S55_2_ok lf) (And.intro (And.intro True.intro (L55_1_ok lf lf)) (And.intro True.intro True.intro)))))) ((F55_eq lf b h).trans e_)
def w55 (f : V → List Ob → Option (V × List Ob)) (vs : List V) (h : List Ob) : Option (V × List Ob) := castCons vs fun c1 l1 => castNil l1 (f c1 h)
noncomputable def W55 (lf : Nat) : List V → List Ob → Option (V × List Ob) := w55 (F55 lf)
theorem W55_ok (lf : Nat) : ∀ args h v h', W55 lf args h = some (v, h') → CD Go.Proofs.Try.prog 55 args h v h' := by
  intro vs h r h' e0
  simp only [W55, w55] at e0
  obtain ⟨c1, l1, rfl, e1⟩ := castCons_inv e0
  obtain ⟨rfl, e2⟩ := castNil_inv e1
  have e := e2
  exact F55_ok lf c1 h r h' e

/-! 31: wainscot/wainscotlaw10.read -/
def A31 : List (Nat × Sh) := [(1, (.int .u64)), (2, (.int .i64)), (4, (.int .i64)), (10, .bool), (12, .bool), (13, (.int .i64)), (14, (.tup [(.agg [(.int .u64), (.int .i64), .any, .any]), .bool])), (16, (.tup [(.agg [(.int .u64), (.int .i64), .any, .any]), .bool])), (17, (.agg [(.int .u64), (.int .i64), .any, .any])), (18, .bool), (19, .bool), (20, .bool), (21, .bool), (23, (.int .u64)), (24, (.int .u64)), (25, .bool), (26, .bool), (27, .bool), (29, (.int .i64)), (30, (.int .i64)), (31, .bool), (32, .bool), (33, .bool), (36, (.int .i64)), (37, (.int .i64)), (38, .bool), (39, .bool), (40, .bool), (43, (.int .i64)), (44, (.int .i64)), (45, .bool), (46, .bool), (49, (.int .i64)), (50, (.int .i64)), (51, .bool), (52, (.int .i64)), (55, (.int .i64)), (57, (.int .i64)), (59, (.int .i64)), (62, (.int .i64)), (63, (.int .u16)), (64, (.int .u16)), (65, (.int .i64)), (66, .bool), (67, .bool), (70, (.int .i64)), (73, .str), (75, (.int .i64)), (78, (.int .u8)), (80, .str), (81, .bool), (82, .bool), (83, (.int .i64))]
noncomputable def call31 (lf : Nat) : CallS := callC 55 (W55 lf) (callC 30 (W30 lf) (callN))
theorem call31_ok (lf : Nat) : CallOk Go.Proofs.Try.prog (call31 lf) := callC_ok (W55_ok lf) (callC_ok (W30_ok lf) (callN_ok))
def o31_0 : Outs := [((.exit 0), [], []), (.ret, [10], [.bool])]
def k31_0 : KC := (.seq (.reg [⟨(some 51), none, (.op (.bin .lss (.t 50) (.t 49))), []⟩]) (.seq (.cond (.t 51) .skip (.exit 0)) (.seq (.block 1 (.seq (.reg [⟨(some 52), none, (.op (.mv (.t 50))), []⟩, ⟨(some 13), none, (.op (.mv (.t 52))), []⟩]) (.seq (.reg [⟨(some 53), none, (.op (.faddr 2 (.t 11))), []⟩, ⟨(some 54), none, (.op (.load1 (.t 53))), []⟩, ⟨(some 55), none, (.op (.mv (.t 13))), []⟩, ⟨(some 56), none, (.op (.iaddrL 1 (.t 54) (.t 55))), []⟩, ⟨(some 57), none, (.op (.load1 (.t 56))), []⟩, ⟨(some 58), none, (.op (.mv (.t 3))), []⟩, ⟨(some 59), none, (.op (.mv (.t 13))), []⟩, ⟨(some 60), none, (.op (.iaddrL 4 (.t 58) (.t 59))), []⟩, ⟨(some 61), none, (.op (.faddr 1 (.t 60))), []⟩, ⟨(some 62), none, (.op (.load1 (.t 61))), []⟩, ⟨(some 63), none, (.op (.toInt .u16 (.t 62))), []⟩, ⟨(some 64), none, (.op (.bin .rem (.t 63) (.c (.int .u16 100)))), []⟩, ⟨(some 65), none, (.op (.toInt .i64 (.t 64))), []⟩, ⟨(some 66), none, (.op (.bin .neq (.t 57) (.t 65))), []⟩, ⟨(some 67), none, (.op (.mv (.t 66))), []⟩, ⟨(some 68), (some (67, false)), (.op (.faddr 3 (.t 11))), []⟩, ⟨(some 69), (some (67, false)), (.op (.load1 (.t 68))), []⟩, ⟨(some 70), (some (67, false)), (.op (.mv (.t 13))), []⟩, ⟨(some 71), (some (67, false)), (.op (.iaddrL 1 (.t 69) (.t 70))), []⟩, ⟨(some 72), (some (67, false)), (.op (.load1 (.t 71))), []⟩, ⟨(some 73), (some (67, false)), (.op (.toStr (.t 72))), []⟩, ⟨(some 74), (some (67, false)), (.op (.mv (.t 3))), []⟩, ⟨(some 75), (some (67, false)), (.op (.mv (.t 13))), []⟩, ⟨(some 76), (some (67, false)), (.op (.iaddrL 4 (.t 74) (.t 75))), []⟩, ⟨(some 77), (some (67, false)), (.op (.faddr 3 (.t 76))), []⟩, ⟨(some 78), (some (67, false)), (.op (.load1 (.t 77))), []⟩, ⟨(some 79), (some (67, false)), (.call 30 [(.t 78)]), [⟨(some 73), (some (67, false)), (.op (.toStr (.t 72)))⟩, ⟨(some 72), (some (67, false)), (.op (.load1 (.t 71)))⟩, ⟨(some 71), (some (67, false)), (.op (.iaddrL 1 (.t 69) (.t 70)))⟩, ⟨(some 69), (some (67, false)), (.op (.load1 (.t 68)))⟩, ⟨(some 68), (some (67, false)), (.op (.faddr 3 (.t 11)))⟩]⟩, ⟨(some 80), (some (67, false)), (.op (.toStr (.t 79))), []⟩, ⟨(some 81), (some (67, false)), (.op (.bin .neq (.t 73) (.t 80))), []⟩, ⟨(some 82), none, (.op (.pick (.t 67) (.c (.bool true)) (.t 81))), []⟩]) (.cond (.t 82) (.seq (.reg [⟨(some 10), none, (.op (.mv (.c (.bool false)))), []⟩]) .ret) .skip)))) (.reg [⟨(some 83), none, (.op (.bin .add (.t 50) (.c (.int .i64 1)))), []⟩, ⟨(some 50), none, (.op (.mv (.t 83))), []⟩]))))
def w31_0 (f : V → V → Int → Int → List Ob → SubR) (vs : List V) (h : List Ob) : SubR := castCons vs fun c1 l1 => castCons l1 fun c2 l2 => castCons l2 fun c3 l3 => castInt .i64 c3 fun n4 => castCons l3 fun c5 l5 => castInt .i64 c5 fun n6 => castNil l5 (f c1 c2 n4 n6 h)
noncomputable def B31_0 (lf : Nat) (self : V → V → Int → Int → List Ob → SubR) (list : V) (f : V) (x49 : Int) (x50 : Int) (h : List Ob) : SubR :=
cB (decide (x50 < x49)) (
bind1 (er (.faddr 2 (.c f)) h) fun x53 =>
bind1 (er (.load1 (.c x53)) h) fun x54 =>
bind1 (er (.iaddrL 1 (.c x54) (.c (.int .i64 x50))) h) fun x56 =>
bind1 (er (.load1 (.c x56)) h) fun v =>
castInt .i64 v fun x57 =>
bind1 (er (.iaddrL 4 (.c list) (.c (.int .i64 x50))) h) fun x60 =>
bind1 (er (.faddr 1 (.c x60)) h) fun x61 =>
bind1 (er (.load1 (.c x61)) h) fun v1 =>
castInt .i64 v1 fun x62 =>
cB (x57 != (IntKind.i64.wrap (Int.tmod (IntKind.u16.wrap x62) (100)))) (
some (.ret, [(.bool false)], h)) (
bind1 (er (.faddr 3 (.c f)) h) fun x68 =>
bind1 (er (.load1 (.c x68)) h) fun x69 =>
bind1 (er (.iaddrL 1 (.c x69) (.c (.int .i64 x50))) h) fun x71 =>
bind1 (er (.load1 (.c x71)) h) fun x72 =>
bind1 (er (.toStr (.c x72)) h) fun v2 =>
castStr v2 fun x73 =>
bind1 (er (.iaddrL 4 (.c list) (.c (.int .i64 x50))) h) fun x76 =>
bind1 (er (.faddr 3 (.c x76)) h) fun x77 =>
bind1 (er (.load1 (.c x77)) h) fun v3 =>
castInt .u8 v3 fun x78 =>
bind2 (F30 lf x78 h) fun x79 h_ =>
reP (er (.toStr (.c x72)) h_ = some (.str x73)) (
reP (er (.load1 (.c x71)) h_ = some x72) (
reP (er (.iaddrL 1 (.c x69) (.c (.int .i64 x50))) h_ = some x71) (
reP (er (.load1 (.c x68)) h_ = some x69) (
reP (er (.faddr 3 (.c f)) h_ = some x68) (
bind1 (er (.toStr (.c x79)) h_) fun v4 =>
castStr v4 fun x80 =>
cB (!(x73 == x80)) (
some (.ret, [(.bool false)], h_)) (
self list f x49 (IntKind.i64.wrap (x50 + (1))) h_)))))))) (
some ((.exit 0), [], h))
noncomputable def L31_0 (lf : Nat) : Nat → V → V → Int → Int → List Ob → SubR
  | 0 => fun _ _ _ _ _ => none
  | n + 1 => B31_0 lf (L31_0 lf n)
theorem B31_0_eq (lf : Nat) (self : V → V → Int → Int → List Ob → SubR) (list : V) (f : V) (x49 : Int) (x50 : Int) (h : List Ob) : evCK A31 ⟨call31 lf, cvN, subN⟩ k31_0 [(3, list), (11, f), (49, (.int .i64 x49)), (50, (.int .i64 x50))] h (endL [3, 11, 49, 50] [.any, .any, (.int .i64), (.int .i64)] o31_0 (w31_0 self)) = B31_0 lf self list f x49 x50 h := by kernel_rfl
theorem L31_0_ok (lf : Nat) : ∀ n, SubOk Go.Proofs.Try.prog (.loop k31_0.er) [3, 11, 49, 50] o31_0 (w31_0 (L31_0 lf n)) := by
  refine SubOk.loop (A := A31) (σ := ⟨call31 lf, cvN, subN⟩) (c := k31_0) (shs := [.any, .any, (.int .i64), (.int .i64)]) (G := fun n => w31_0 (L31_0 lf n)) (call31_ok lf) cvN_ok (And.intro True.intro (And.intro (And.intro True.intro True.intro) (And.intro (And.intro True.intro (And.intro True.intro (And.intro (And.intro True.intro True.intro) True.intro))) True.intro))) ?_ ?_
  · intro vs h r e0
    simp only [w31_0] at e0
    obtain ⟨c1, l1, rfl, e1⟩ := castCons_inv e0
    obtain ⟨c2, l2, rfl, e2⟩ := castCons_inv e1
    obtain ⟨c3, l3, rfl, e3⟩ := castCons_inv e2
    obtain ⟨y2, rfl, e4⟩ := castInt_inv e3
    obtain ⟨c4, l4, rfl, e5⟩ := castCons_inv e4
    obtain ⟨y3, rfl, e6⟩ := castInt_inv e5
    obtain ⟨rfl, e7⟩ := castNil_inv e6
    have e := e7
    cases e
  · intro n vs h r e0
    simp only [w31_0] at e0
    obtain ⟨c1, l1, rfl, e1⟩ := castCons_inv e0
    obtain ⟨c2, l2, rfl, e2⟩ := castCons_inv e1
    obtain ⟨c3, l3, rfl, e3⟩ := castCons_inv e2
    obtain ⟨y2, rfl, e4⟩ := castInt_inv e3
    obtain ⟨c4, l4, rfl, e5⟩ := castCons_inv e4
    obtain ⟨y3, rfl, e6⟩ := castInt_inv e5
    obtain ⟨rfl, e7⟩ := castNil_inv e6
    have e := e7
    exact (B31_0_eq lf (L31_0 lf n) c1 c2 y2 y3 h).trans e
def o31_1 : Outs := [(.ret, [10], [.bool]), (.normal, [], [])]
def k31_1 : KC := (.seq (.reg [⟨(some 19), none, (.op (.mv (.t 12))), []⟩, ⟨(some 20), none, (.op (.un .not (.t 19))), []⟩, ⟨(some 21), none, (.op (.mv (.t 20))), []⟩, ⟨(some 22), (some (21, false)), (.op (.faddr 0 (.t 11))), []⟩, ⟨(some 23), (some (21, false)), (.op (.load1 (.t 22))), []⟩, ⟨(some 24), (some (21, false)), (.op (.mv (.t 1))), []⟩, ⟨(some 25), (some (21, false)), (.op (.bin .neq (.t 23) (.t 24))), []⟩, ⟨(some 26), none, (.op (.pick (.t 21) (.c (.bool true)) (.t 25))), []⟩, ⟨(some 27), none, (.op (.mv (.t 26))), []⟩, ⟨(some 28), (some (27, false)), (.op (.faddr 1 (.t 11))), []⟩, ⟨(some 29), (some (27, false)), (.op (.load1 (.t 28))), []⟩, ⟨(some 30), (some (27, false)), (.op (.mv (.t 2))), []⟩, ⟨(some 31), (some (27, false)), (.op (.bin .neq (.t 29) (.t 30))), []⟩, ⟨(some 32), none, (.op (.pick (.t 27) (.c (.bool true)) (.t 31))), []⟩, ⟨(some 33), none, (.op (.mv (.t 32))), []⟩, ⟨(some 34), (some (33, false)), (.op (.faddr 2 (.t 11))), []⟩, ⟨(some 35), (some (33, false)), (.op (.load1 (.t 34))), []⟩, ⟨(some 36), (some (33, false)), (.op (.lenL (.t 35))), []⟩, ⟨(some 37), (some (33, false)), (.op (.mv (.t 4))), []⟩, ⟨(some 38), (some (33, false)), (.op (.bin .neq (.t 36) (.t 37))), []⟩, ⟨(some 39), none, (.op (.pick (.t 33) (.c (.bool true)) (.t 38))), []⟩, ⟨(some 40), none, (.op (.mv (.t 39))), []⟩, ⟨(some 41), (some (40, false)), (.op (.faddr 3 (.t 11))), []⟩, ⟨(some 42), (some (40, false)), (.op (.load1 (.t 41))), []⟩, ⟨(some 43), (some (40, false)), (.op (.lenL (.t 42))), []⟩, ⟨(some 44), (some (40, false)), (.op (.mv (.t 4))), []⟩, ⟨(some 45), (some (40, false)), (.op (.bin .neq (.t 43) (.t 44))), []⟩, ⟨(some 46), none, (.op (.pick (.t 40) (.c (.bool true)) (.t 45))), []⟩]) (.cond (.t 46) (.seq (.reg [⟨(some 10), none, (.op (.mv (.c (.bool false)))), []⟩]) .ret) .skip))
def w31_1 (f : Int → Int → Int → V → Bool → List Ob → SubR) (vs : List V) (h : List Ob) : SubR := castCons vs fun c1 l1 => castInt .u64 c1 fun n2 => castCons l1 fun c3 l3 => castInt .i64 c3 fun n4 => castCons l3 fun c5 l5 => castInt .i64 c5 fun n6 => castCons l5 fun c7 l7 => castCons l7 fun c8 l8 => castBool c8 fun n9 => castNil l8 (f n2 n4 n6 c7 n9 h)
noncomputable def S31_1 (lf : Nat) (salt : Int) (pages : Int) (n_ : Int) (f : V) (ok : Bool) (h : List Ob) : SubR :=
cB (!ok) (
some (.ret, [(.bool false)], h)) (
bind1 (er (.faddr 0 (.c f)) h) fun x22 =>
bind1 (er (.load1 (.c x22)) h) fun v =>
castInt .u64 v fun x23 =>
cB (x23 != salt) (
some (.ret, [(.bool false)], h)) (
bind1 (er (.faddr 1 (.c f)) h) fun x28 =>
bind1 (er (.load1 (.c x28)) h) fun v1 =>
castInt .i64 v1 fun x29 =>
cB (x29 != pages) (
some (.ret, [(.bool false)], h)) (
bind1 (er (.faddr 2 (.c f)) h) fun x34 =>
bind1 (er (.load1 (.c x34)) h) fun x35 =>
bind1 (er (.lenL (.c x35)) h) fun v2 =>
castInt .i64 v2 fun x36 =>
cB (x36 != n_) (
some (.ret, [(.bool false)], h)) (
bind1 (er (.faddr 3 (.c f)) h) fun x41 =>
bind1 (er (.load1 (.c x41)) h) fun x42 =>
bind1 (er (.lenL (.c x42)) h) fun v3 =>
castInt .i64 v3 fun x43 =>
cB (x43 != n_) (
some (.ret, [(.bool false)], h)) (
some (.normal, [], h))))))
theorem S31_1_eq (lf : Nat) (salt : Int) (pages : Int) (n_ : Int) (f : V) (ok : Bool) (h : List Ob) : evCK A31 ⟨call31 lf, cvN, subN⟩ k31_1 [(1, (.int .u64 salt)), (2, (.int .i64 pages)), (4, (.int .i64 n_)), (11, f), (12, (.bool ok))] h (endK o31_1) = S31_1 lf salt pages n_ f ok h := by kernel_rfl
theorem S31_1_ok (lf : Nat) : SubOk Go.Proofs.Try.prog k31_1.er [1, 2, 4, 11, 12] o31_1 (w31_1 (S31_1 lf)) := by
  refine SubOk.of (A := A31) (σ := ⟨call31 lf, cvN, subN⟩) (c := k31_1) (call31_ok lf) cvN_ok (And.intro True.intro (And.intro (And.intro True.intro True.intro) True.intro)) ?_
  intro vs h r e0
  simp only [w31_1] at e0
  obtain ⟨c1, l1, rfl, e1⟩ := castCons_inv e0
  obtain ⟨y0, rfl, e2⟩ := castInt_inv e1
  obtain ⟨c2, l2, rfl, e3⟩ := castCons_inv e2
  obtain ⟨y1, rfl, e4⟩ := castInt_inv e3
  obtain ⟨c3, l3, rfl, e5⟩ := castCons_inv e4
  obtain ⟨y2, rfl, e6⟩ := castInt_inv e5
  obtain ⟨c4, l4, rfl, e7⟩ := castCons_inv e6
  obtain ⟨c5, l5, rfl, e8⟩ := castCons_inv e7
  obtain ⟨y4, rfl, e9⟩ := castBool_inv e8
  obtain ⟨rfl, e10⟩ := castNil_inv e9
  have e := e10
  exact (S31_1_eq lf y0 y1 y2 c4 y4 h).trans e
def k31 : KC := (.seq (.reg [⟨(some 10), none, (.op (.mv (.c (.bool false)))), []⟩]) (.seq (.reg [⟨(some 15), none, (.op (.mv (.t 0))), []⟩, ⟨(some 16), none, (.call 55 [(.t 15)]), []⟩, ⟨(some 14), none, (.op (.mv (.t 16))), []⟩, ⟨(some 17), none, (.op (.ext 0 (.t 14))), []⟩, ⟨(some 18), none, (.op (.ext 1 (.t 14))), []⟩, ⟨(some 11), none, (.op (.alloc false (.agg [(.int .u64 0), (.int .i64 0), .nils, .nils]))), []⟩, ⟨none, none, (.op (.store 4 (.t 11) (.t 17))), []⟩, ⟨(some 12), none, (.op (.mv (.t 18))), []⟩]) (.seq (.sub 1 k31_1.er [1, 2, 4, 11, 12] o31_1) (.seq (.seq (.reg [⟨(some 47), none, (.op (.faddr 2 (.t 11))), []⟩, ⟨(some 48), none, (.op (.load1 (.t 47))), []⟩, ⟨(some 49), none, (.op (.lenL (.t 48))), []⟩, ⟨(some 50), none, (.op (.mv (.c (.int .i64 0)))), []⟩]) (.block 0 (.sub 0 (.loop k31_0.er) [3, 11, 49, 50] o31_0))) (.seq (.reg [⟨(some 10), none, (.op (.mv (.c (.bool true)))), []⟩]) .ret)))))
noncomputable def F31 (lf : Nat) (b : V) (salt : Int) (pages : Int) (list : V) (n_ : Int) (h : List Ob) : Option (V × List Ob) :=
bind2 (F55 lf b h) fun v h_ =>
castTup v fun l =>
castCons l fun c l1 =>
castAgg c fun l2 =>
castCons l2 fun c1 l3 =>
castInt .u64 c1 fun x16_0_0 =>
castCons l3 fun c2 l4 =>
castInt .i64 c2 fun x16_0_1 =>
castCons l4 fun x16_0_2 l5 =>
castCons l5 fun x16_0_3 l6 =>
castNil l6 (
castCons l1 fun c3 l7 =>
castBool c3 fun x16_1 =>
castNil l7 (
bind2 (ev (.alloc false (.agg [(.int .u64 0), (.int .i64 0), .nils, .nils])) h_) fun f h_1 =>
bind2 (ev (.store 4 (.c f) (.c (.agg [(.int .u64 x16_0_0), (.int .i64 x16_0_1), x16_0_2, x16_0_3]))) h_1) fun u h_2 =>
bind3 (S31_1 lf salt pages n_ f x16_1 h_2) fun ex vs h_3 =>
cB (decide (ex = .ret)) (
castCons vs fun c4 l8 =>
castBool c4 fun x10 =>
castNil l8 (
some ((.bool x10), h_3))) (
cB (decide (ex = .normal)) (
castNil vs (
bind1 (er (.faddr 2 (.c f)) h_3) fun x47 =>
bind1 (er (.load1 (.c x47)) h_3) fun x48 =>
bind1 (er (.lenL (.c x48)) h_3) fun v1 =>
castInt .i64 v1 fun x49 =>
bind3 (L31_0 lf lf list f x49 (0) h_3) fun ex1 vs1 h_4 =>
cB (decide (ex1 = (.exit 0))) (
castNil vs1 (
some ((.bool true), h_4))) (
cB (decide (ex1 = .ret)) (
castCons vs1 fun c4 l8 =>
castBool c4 fun x10 =>
castNil l8 (
some ((.bool x10), h_4))) (
none)))) (
none))))
theorem F31_eq (lf : Nat) (b : V) (salt : Int) (pages : Int) (list : V) (n_ : Int) (h : List Ob) : evCK A31 ⟨call31 lf, cvN, subC 0 (w31_0 (L31_0 lf lf)) (subC 1 (w31_1 (S31_1 lf)) (subN))⟩ k31 (entryK [b, (.int .u64 salt), (.int .i64 pages), list, (.int .i64 n_)]) h (endF c31.res) = F31 lf b salt pages list n_ h := by kernel_rfl
theorem F31_ok (lf : Nat) (b : V) (salt : Int) (pages : Int) (list : V) (n_ : Int) (h : List Ob) (r_ : V) (h_r : List Ob) (e_ : F31 lf b salt pages list n_ h = some (r_, h_r)) : CD Go.Proofs.Try.prog 31 [b, (.int .u64 salt), (.int .i64 pages), list, (.int .i64 n_)] h r_ h_r :=
  CD.ofK (A := A31) (σ := ⟨call31 lf, cvN, subC 0 (w31_0 (L31_0 lf lf)) (subC 1 (w31_1 (S31_1 lf)) (subN))⟩) (c := k31) Go.Proofs.Try.func31 ok31 en31 (show 5 ≤ 84 by decide) (by kernel_rfl) (call31_ok lf) cvN_ok (And.intro True.intro (And.intro True.intro (And.intro (S31_1_ok lf) (And.intro (And.intro True.intro (L31_0_ok lf lf)) (And.intro True.intro True.intro))))) ((F31_eq lf b salt pages list n_ h).trans e_)
def w31 (f : V → Int → Int → V → Int → List Ob → Option (V × List Ob)) (vs : List V) (h : List Ob) : Option (V × List Ob) := castCons vs fun c1 l1 => castCons l1 fun c2 l2 => castInt .u64 c2 fun n3 => castCons l2 fun c4 l4 => castInt .i64 c4 fun n5 => castCons l4 fun c6 l6 => castCons l6 fun c7 l7 => castInt .i64 c7 fun n8 => castNil l7 (f c1 n3 n5 c6 n8 h)
noncomputable def W31 (lf : Nat) : List V → List Ob → Option (V × List Ob) := w31 (F31 lf)
theorem W31_ok (lf : Nat) : ∀ args h v h', W31 lf args h = some (v, h') → CD Go.Proofs.Try.prog 31 args h v h' := by
  intro vs h r h' e0
  simp only [W31, w31] at e0
  obtain ⟨c1, l1, rfl, e1⟩ := castCons_inv e0
  obtain ⟨c2, l2, rfl, e2⟩ := castCons_inv e1
  obtain ⟨y1, rfl, e3⟩ := castInt_inv e2
  obtain ⟨c3, l3, rfl, e4⟩ := castCons_inv e3
  obtain ⟨y2, rfl, e5⟩ := castInt_inv e4
  obtain ⟨c4, l4, rfl, e6⟩ := castCons_inv e5
  obtain ⟨c5, l5, rfl, e7⟩ := castCons_inv e6
  obtain ⟨y4, rfl, e8⟩ := castInt_inv e7
  obtain ⟨rfl, e9⟩ := castNil_inv e8
  have e := e9
  exact F31_ok lf c1 y1 y2 c4 y4 h r h' e

/-! 7: wainscot/wainscotlaw10.JournalBack -/
def A7 : List (Nat × Sh) := [(0, (.int .u64)), (1, (.int .u8)), (3, (.int .u8)), (4, (.int .u8)), (5, .bool), (14, .bool), (15, (.int .i64)), (16, (.int .i64)), (17, (.int .i64)), (19, (.int .i64)), (21, (.int .i64)), (23, (.int .i64)), (25, (.int .i64)), (26, (.int .i64)), (28, (.int .i64)), (29, .bool), (30, .bool), (31, .bool), (33, (.int .i64)), (34, .bool), (35, .bool), (36, .bool), (38, (.int .i64)), (39, (.int .i64)), (40, (.int .u8)), (41, (.int .i64)), (42, (.int .i64)), (43, (.int .i64)), (44, (.int .i64)), (45, (.int .i64)), (46, .bool), (47, (.int .u8)), (48, (.int .i64)), (49, (.int .i64)), (50, (.int .i64)), (51, (.tup [.any, (.int .i64)])), (52, (.int .u64)), (53, (.int .u8)), (54, (.int .i64)), (55, (.int .i64)), (56, (.tup [.any, (.int .i64)])), (58, (.int .i64)), (59, (.tup [.any, (.int .i64)])), (60, (.int .u64)), (61, (.int .u8)), (62, (.int .i64)), (63, (.int .i64)), (64, (.tup [.any, (.int .i64)])), (66, (.int .i64)), (67, (.int .i64)), (68, .bool), (69, .bool), (70, (.int .i64)), (71, .bool), (72, .bool), (73, .bool), (75, (.int .i64)), (76, .bool), (77, .bool), (78, .bool), (80, (.int .i64)), (81, .bool), (82, .bool), (88, .bool), (94, (.int .i64)), (95, (.int .i64)), (96, .bool), (97, (.int .i64)), (98, (.tup [.any, (.int .i64)])), (99, (.int .u64)), (101, (.int .i64)), (104, (.int .i64)), (105, (.int .u16)), (106, (.int .u16)), (107, (.int .i64)), (109, (.int .i64)), (112, (.int .u8)), (114, (.tup [.any, (.int .i64)])), (116, (.int .i64)), (117, (.int .i64)), (118, .bool), (119, .bool), (121, (.int .i64)), (122, .bool), (123, .bool), (127, (.int .i64)), (131, (.int .u64)), (132, (.int .u8)), (133, (.int .i64)), (135, (.int .i64)), (136, .bool), (137, .bool), (138, .bool), (142, (.int .i64)), (143, .bool), (144, (.int .i64)), (146, (.int .i64)), (147, (.int .i64)), (148, (.int .i64)), (149, (.int .u8)), (151, (.int .i64)), (155, (.int .u64)), (156, (.int .u8)), (157, (.int .i64)), (159, (.int .i64)), (160, .bool), (161, .bool), (162, (.int .i64)), (163, .bool), (164, .bool)]
noncomputable def call7 (lf : Nat) : CallS := callC 31 (W31 lf) (callC 30 (W30 lf) (callC 22 (W22 lf) (callC 20 (W20 lf) (callC 19 (W19 lf) (callN)))))
theorem call7_ok (lf : Nat) : CallOk Go.Proofs.Try.prog (call7 lf) := callC_ok (W31_ok lf) (callC_ok (W30_ok lf) (callC_ok (W22_ok lf) (callC_ok (W20_ok lf) (callC_ok (W19_ok lf) (callN_ok)))))
def o7_0 : Outs := [((.exit 0), [22], [.any]), (.ret, [14], [.bool])]
def k7_0 : KC := (.seq (.reg [⟨(some 96), none, (.op (.bin .lss (.t 95) (.t 94))), []⟩]) (.seq (.cond (.t 96) .skip (.exit 0)) (.seq (.block 1 (.seq (.reg [⟨(some 97), none, (.op (.mv (.t 95))), []⟩, ⟨(some 23), none, (.op (.mv (.t 97))), []⟩]) (.seq (.reg [⟨(some 99), none, (.op (.mv (.t 0))), []⟩, ⟨(some 100), none, (.op (.mv (.t 2))), []⟩, ⟨(some 101), none, (.op (.mv (.t 23))), []⟩, ⟨(some 102), none, (.op (.iaddrL 4 (.t 100) (.t 101))), []⟩, ⟨(some 103), none, (.op (.faddr 1 (.t 102))), []⟩, ⟨(some 104), none, (.op (.load1 (.t 103))), []⟩, ⟨(some 105), none, (.op (.toInt .u16 (.t 104))), []⟩, ⟨(some 106), none, (.op (.bin .rem (.t 105) (.c (.int .u16 100)))), []⟩, ⟨(some 107), none, (.op (.toInt .i64 (.t 106))), []⟩, ⟨(some 108), none, (.op (.mv (.t 2))), []⟩, ⟨(some 109), none, (.op (.mv (.t 23))), []⟩, ⟨(some 110), none, (.op (.iaddrL 4 (.t 108) (.t 109))), []⟩, ⟨(some 111), none, (.op (.faddr 3 (.t 110))), []⟩, ⟨(some 112), none, (.op (.load1 (.t 111))), []⟩, ⟨(some 113), none, (.call 30 [(.t 112)]), [⟨(some 104), none, (.op (.load1 (.t 103)))⟩, ⟨(some 103), none, (.op (.faddr 1 (.t 102)))⟩, ⟨(some 102), none, (.op (.iaddrL 4 (.t 100) (.t 101)))⟩]⟩, ⟨(some 114), none, (.call 22 [(.t 99), (.t 107), (.t 113)]), []⟩, ⟨(some 98), none, (.op (.mv (.t 114))), []⟩, ⟨(some 115), none, (.op (.ext 0 (.t 98))), []⟩, ⟨(some 116), none, (.op (.ext 1 (.t 98))), []⟩, ⟨(some 24), none, (.op (.mv (.t 115))), []⟩, ⟨(some 25), none, (.op (.mv (.t 116))), []⟩]) (.seq (.seq (.reg [⟨(some 117), none, (.op (.mv (.t 25))), []⟩, ⟨(some 118), none, (.op (.bin .neq (.t 117) (.c (.int .i64 0)))), []⟩, ⟨(some 119), none, (.op (.mv (.t 118))), []⟩, ⟨(some 120), (some (119, false)), (.op (.mv (.t 24))), []⟩, ⟨(some 121), (some (119, false)), (.op (.lenL (.t 120))), []⟩, ⟨(some 122), (some (119, false)), (.op (.bin .neq (.t 121) (.c (.int .i64 576)))), []⟩, ⟨(some 123), none, (.op (.pick (.t 119) (.c (.bool true)) (.t 122))), []⟩]) (.cond (.t 123) (.seq (.reg [⟨(some 14), none, (.op (.mv (.c (.bool false)))), []⟩]) .ret) .skip)) (.reg [⟨(some 124), none, (.op (.mv (.t 22))), []⟩, ⟨(some 125), none, (.op (.mv (.t 24))), []⟩, ⟨(some 126), none, (.op (.app 1 1 (.t 124) (.t 125))), []⟩, ⟨(some 22), none, (.op (.mv (.t 126))), []⟩]))))) (.reg [⟨(some 127), none, (.op (.bin .add (.t 95) (.c (.int .i64 1)))), []⟩, ⟨(some 95), none, (.op (.mv (.t 127))), []⟩]))))
def w7_0 (f : Int → V → V → Int → Int → List Ob → SubR) (vs : List V) (h : List Ob) : SubR := castCons vs fun c1 l1 => castInt .u64 c1 fun n2 => castCons l1 fun c3 l3 => castCons l3 fun c4 l4 => castCons l4 fun c5 l5 => castInt .i64 c5 fun n6 => castCons l5 fun c7 l7 => castInt .i64 c7 fun n8 => castNil l7 (f n2 c3 c4 n6 n8 h)
noncomputable def B7_0 (lf : Nat) (self : Int → V → V → Int → Int → List Ob → SubR) (salt : Int) (list : V) (b : V) (x94 : Int) (x95 : Int) (h : List Ob) : SubR :=
cB (decide (x95 < x94)) (
bind1 (er (.iaddrL 4 (.c list) (.c (.int .i64 x95))) h) fun x102 =>
bind1 (er (.faddr 1 (.c x102)) h) fun x103 =>
bind1 (er (.load1 (.c x103)) h) fun v =>
castInt .i64 v fun x104 =>
bind1 (er (.iaddrL 4 (.c list) (.c (.int .i64 x95))) h) fun x110 =>
bind1 (er (.faddr 3 (.c x110)) h) fun x111 =>
bind1 (er (.load1 (.c x111)) h) fun v1 =>
castInt .u8 v1 fun x112 =>
bind2 (F30 lf x112 h) fun x113 h_ =>
reP (er (.load1 (.c x103)) h_ = some (.int .i64 x104)) (
reP (er (.faddr 1 (.c x102)) h_ = some x103) (
reP (er (.iaddrL 4 (.c list) (.c (.int .i64 x95))) h_ = some x102) (
bind2 (F22 lf salt (IntKind.i64.wrap (Int.tmod (IntKind.u16.wrap x104) (100))) x113 h_) fun v2 h_1 =>
castTup v2 fun l =>
castCons l fun x114_0 l1 =>
castCons l1 fun c l2 =>
castInt .i64 c fun x114_1 =>
castNil l2 (
cB (x114_1 != (0)) (
some (.ret, [(.bool false)], h_1)) (
bind1 (er (.lenL (.c x114_0)) h_1) fun v3 =>
castInt .i64 v3 fun x121 =>
cB (x121 != (576)) (
some (.ret, [(.bool false)], h_1)) (
bind2 (ev (.app 1 1 (.c b) (.c x114_0)) h_1) fun x126 h_2 =>
self salt list x126 x94 (IntKind.i64.wrap (x95 + (1))) h_2))))))) (
some ((.exit 0), [b], h))
noncomputable def L7_0 (lf : Nat) : Nat → Int → V → V → Int → Int → List Ob → SubR
  | 0 => fun _ _ _ _ _ _ => none
  | n + 1 => B7_0 lf (L7_0 lf n)
theorem B7_0_eq (lf : Nat) (self : Int → V → V → Int → Int → List Ob → SubR) (salt : Int) (list : V) (b : V) (x94 : Int) (x95 : Int) (h : List Ob) : evCK A7 ⟨call7 lf, cvN, subN⟩ k7_0 [(0, (.int .u64 salt)), (2, list), (22, b), (94, (.int .i64 x94)), (95, (.int .i64 x95))] h (endL [0, 2, 22, 94, 95] [(.int .u64), .any, .any, (.int .i64), (.int .i64)] o7_0 (w7_0 self)) = B7_0 lf self salt list b x94 x95 h := by kernel_rfl
theorem L7_0_ok (lf : Nat) : ∀ n, SubOk Go.Proofs.Try.prog (.loop k7_0.er) [0, 2, 22, 94, 95] o7_0 (w7_0 (L7_0 lf n)) := by
  refine SubOk.loop (A := A7) (σ := ⟨call7 lf, cvN, subN⟩) (c := k7_0) (shs := [(.int .u64), .any, .any, (.int .i64), (.int .i64)]) (G := fun n => w7_0 (L7_0 lf n)) (call7_ok lf) cvN_ok (And.intro True.intro (And.intro (And.intro True.intro True.intro) (And.intro (And.intro True.intro (And.intro True.intro (And.intro (And.intro True.intro (And.intro (And.intro True.intro True.intro) True.intro)) True.intro))) True.intro))) ?_ ?_
  · intro vs h r e0
    simp only [w7_0] at e0
    obtain ⟨c1, l1, rfl, e1⟩ := castCons_inv e0
    obtain ⟨y0, rfl, e2⟩ := castInt_inv e1
    obtain ⟨c2, l2, rfl, e3⟩ := castCons_inv e2
    obtain ⟨c3, l3, rfl, e4⟩ := castCons_inv e3
    obtain ⟨c4, l4, rfl, e5⟩ := castCons_inv e4
    obtain ⟨y3, rfl, e6⟩ := castInt_inv e5
    obtain ⟨c5, l5, rfl, e7⟩ := castCons_inv e6
    obtain ⟨y4, rfl, e8⟩ := castInt_inv e7
    obtain ⟨rfl, e9⟩ := castNil_inv e8
    have e := e9
    cases e
  · intro n vs h r e0
    simp only [w7_0] at e0
    obtain ⟨c1, l1, rfl, e1⟩ := castCons_inv e0
    obtain ⟨y0, rfl, e2⟩ := castInt_inv e1
    obtain ⟨c2, l2, rfl, e3⟩ := castCons_inv e2
    obtain ⟨c3, l3, rfl, e4⟩ := castCons_inv e3
    obtain ⟨c4, l4, rfl, e5⟩ := castCons_inv e4
    obtain ⟨y3, rfl, e6⟩ := castInt_inv e5
    obtain ⟨c5, l5, rfl, e7⟩ := castCons_inv e6
    obtain ⟨y4, rfl, e8⟩ := castInt_inv e7
    obtain ⟨rfl, e9⟩ := castNil_inv e8
    have e := e9
    exact (B7_0_eq lf (L7_0 lf n) y0 c2 c3 y3 y4 h).trans e
def o7_1 : Outs := [((.exit 2), [], [])]
def k7_1 : KC := (.seq (.reg [⟨(some 143), none, (.op (.bin .lss (.t 142) (.c (.int .i64 64)))), []⟩]) (.seq (.cond (.t 143) .skip (.exit 2)) (.seq (.block 3 (.seq (.reg [⟨(some 144), none, (.op (.mv (.t 142))), []⟩, ⟨(some 28), none, (.op (.mv (.t 144))), []⟩]) (.reg [⟨(some 145), none, (.op (.mv (.t 27))), []⟩, ⟨(some 146), none, (.op (.mv (.t 26))), []⟩, ⟨(some 147), none, (.op (.mv (.t 28))), []⟩, ⟨(some 148), none, (.op (.bin .add (.t 146) (.t 147))), []⟩, ⟨(some 149), none, (.op (.mv (.t 3))), []⟩, ⟨(some 150), none, (.op (.iaddrL 1 (.t 145) (.t 148))), []⟩, ⟨none, none, (.op (.store 1 (.t 150) (.t 149))), []⟩]))) (.reg [⟨(some 151), none, (.op (.bin .add (.t 142) (.c (.int .i64 1)))), []⟩, ⟨(some 142), none, (.op (.mv (.t 151))), []⟩]))))
def w7_1 (f : Int → Int → V → Int → List Ob → SubR) (vs : List V) (h : List Ob) : SubR := castCons vs fun c1 l1 => castInt .u8 c1 fun n2 => castCons l1 fun c3 l3 => castInt .i64 c3 fun n4 => castCons l3 fun c5 l5 => castCons l5 fun c6 l6 => castInt .i64 c6 fun n7 => castNil l6 (f n2 n4 c5 n7 h)
noncomputable def B7_1 (lf : Nat) (self : Int → Int → V → Int → List Ob → SubR) (told : Int) (at_ : Int) (c : V) (x142 : Int) (h : List Ob) : SubR :=
cB (decide (x142 < (64))) (
bind1 (er (.iaddrL 1 (.c c) (.c (.int .i64 (IntKind.i64.wrap (at_ + x142))))) h) fun x150 =>
bind2 (ev (.store 1 (.c x150) (.c (.int .u8 told))) h) fun u h_ =>
self told at_ c (IntKind.i64.wrap (x142 + (1))) h_) (
some ((.exit 2), [], h))
noncomputable def L7_1 (lf : Nat) : Nat → Int → Int → V → Int → List Ob → SubR
  | 0 => fun _ _ _ _ _ => none
  | n + 1 => B7_1 lf (L7_1 lf n)
theorem B7_1_eq (lf : Nat) (self : Int → Int → V → Int → List Ob → SubR) (told : Int) (at_ : Int) (c : V) (x142 : Int) (h : List Ob) : evCK A7 ⟨call7 lf, cvN, subN⟩ k7_1 [(3, (.int .u8 told)), (26, (.int .i64 at_)), (27, c), (142, (.int .i64 x142))] h (endL [3, 26, 27, 142] [(.int .u8), (.int .i64), .any, (.int .i64)] o7_1 (w7_1 self)) = B7_1 lf self told at_ c x142 h := by kernel_rfl
theorem L7_1_ok (lf : Nat) : ∀ n, SubOk Go.Proofs.Try.prog (.loop k7_1.er) [3, 26, 27, 142] o7_1 (w7_1 (L7_1 lf n)) := by
  refine SubOk.loop (A := A7) (σ := ⟨call7 lf, cvN, subN⟩) (c := k7_1) (shs := [(.int .u8), (.int .i64), .any, (.int .i64)]) (G := fun n => w7_1 (L7_1 lf n)) (call7_ok lf) cvN_ok (And.intro True.intro (And.intro (And.intro True.intro True.intro) (And.intro (And.intro True.intro True.intro) True.intro))) ?_ ?_
  · intro vs h r e0
    simp only [w7_1] at e0
    obtain ⟨c1, l1, rfl, e1⟩ := castCons_inv e0
    obtain ⟨y0, rfl, e2⟩ := castInt_inv e1
    obtain ⟨c2, l2, rfl, e3⟩ := castCons_inv e2
    obtain ⟨y1, rfl, e4⟩ := castInt_inv e3
    obtain ⟨c3, l3, rfl, e5⟩ := castCons_inv e4
    obtain ⟨c4, l4, rfl, e6⟩ := castCons_inv e5
    obtain ⟨y3, rfl, e7⟩ := castInt_inv e6
    obtain ⟨rfl, e8⟩ := castNil_inv e7
    have e := e8
    cases e
  · intro n vs h r e0
    simp only [w7_1] at e0
    obtain ⟨c1, l1, rfl, e1⟩ := castCons_inv e0
    obtain ⟨y0, rfl, e2⟩ := castInt_inv e1
    obtain ⟨c2, l2, rfl, e3⟩ := castCons_inv e2
    obtain ⟨y1, rfl, e4⟩ := castInt_inv e3
    obtain ⟨c3, l3, rfl, e5⟩ := castCons_inv e4
    obtain ⟨c4, l4, rfl, e6⟩ := castCons_inv e5
    obtain ⟨y3, rfl, e7⟩ := castInt_inv e6
    obtain ⟨rfl, e8⟩ := castNil_inv e7
    have e := e8
    exact (B7_1_eq lf (L7_1 lf n) y0 y1 c3 y3 h).trans e
def o7_2 : Outs := [(.normal, [26], [(.int .i64)])]
def k7_2 : KC := (.seq (.reg [⟨(some 138), none, (.op (.mv (.t 5))), []⟩]) (.cond (.t 138) (.reg [⟨(some 26), none, (.op (.mv (.c (.int .i64 64)))), []⟩]) .skip))
def w7_2 (f : Bool → Int → List Ob → SubR) (vs : List V) (h : List Ob) : SubR := castCons vs fun c1 l1 => castBool c1 fun n2 => castCons l1 fun c3 l3 => castInt .i64 c3 fun n4 => castNil l3 (f n2 n4 h)
noncomputable def S7_2 (lf : Nat) (second : Bool) (at_ : Int) (h : List Ob) : SubR :=
cB second (
some (.normal, [(.int .i64 (64))], h)) (
some (.normal, [(.int .i64 at_)], h))
theorem S7_2_eq (lf : Nat) (second : Bool) (at_ : Int) (h : List Ob) : evCK A7 ⟨call7 lf, cvN, subN⟩ k7_2 [(5, (.bool second)), (26, (.int .i64 at_))] h (endK o7_2) = S7_2 lf second at_ h := by kernel_rfl
theorem S7_2_ok (lf : Nat) : SubOk Go.Proofs.Try.prog k7_2.er [5, 26] o7_2 (w7_2 (S7_2 lf)) := by
  refine SubOk.of (A := A7) (σ := ⟨call7 lf, cvN, subN⟩) (c := k7_2) (call7_ok lf) cvN_ok (And.intro True.intro (And.intro True.intro True.intro)) ?_
  intro vs h r e0
  simp only [w7_2] at e0
  obtain ⟨c1, l1, rfl, e1⟩ := castCons_inv e0
  obtain ⟨y0, rfl, e2⟩ := castBool_inv e1
  obtain ⟨c2, l2, rfl, e3⟩ := castCons_inv e2
  obtain ⟨y1, rfl, e4⟩ := castInt_inv e3
  obtain ⟨rfl, e5⟩ := castNil_inv e4
  have e := e5
  exact (S7_2_eq lf y0 y1 h).trans e
def o7_3 : Outs := [(.normal, [22], [.any])]
def k7_3 : KC := (.seq (.reg [⟨(some 88), none, (.op (.mv (.t 5))), []⟩]) (.cond (.t 88) (.reg [⟨(some 89), none, (.op (.bslice 1 (.int .u8 0) 0 [])), []⟩, ⟨(some 90), none, (.op (.mv (.t 20))), []⟩, ⟨(some 91), none, (.op (.app 1 1 (.t 89) (.t 90))), []⟩, ⟨(some 92), none, (.op (.mv (.t 18))), []⟩, ⟨(some 93), none, (.op (.app 1 1 (.t 91) (.t 92))), []⟩, ⟨(some 22), none, (.op (.mv (.t 93))), []⟩]) .skip))
def w7_3 (f : Bool → V → V → V → List Ob → SubR) (vs : List V) (h : List Ob) : SubR := castCons vs fun c1 l1 => castBool c1 fun n2 => castCons l1 fun c3 l3 => castCons l3 fun c4 l4 => castCons l4 fun c5 l5 => castNil l5 (f n2 c3 c4 c5 h)
noncomputable def S7_3 (lf : Nat) (second : Bool) (h_ : V) (g : V) (b : V) (h : List Ob) : SubR :=
cB second (
bind2 (ev (.bslice 1 (.int .u8 0) 0 []) h) fun x89 h_1 =>
bind2 (ev (.app 1 1 (.c x89) (.c g)) h_1) fun x91 h_2 =>
bind2 (ev (.app 1 1 (.c x91) (.c h_)) h_2) fun x93 h_3 =>
some (.normal, [x93], h_3)) (
some (.normal, [b], h))
theorem S7_3_eq (lf : Nat) (second : Bool) (h_ : V) (g : V) (b : V) (h : List Ob) : evCK A7 ⟨call7 lf, cvN, subN⟩ k7_3 [(5, (.bool second)), (18, h_), (20, g), (22, b)] h (endK o7_3) = S7_3 lf second h_ g b h := by kernel_rfl
theorem S7_3_ok (lf : Nat) : SubOk Go.Proofs.Try.prog k7_3.er [5, 18, 20, 22] o7_3 (w7_3 (S7_3 lf)) := by
  refine SubOk.of (A := A7) (σ := ⟨call7 lf, cvN, subN⟩) (c := k7_3) (call7_ok lf) cvN_ok (And.intro True.intro (And.intro True.intro True.intro)) ?_
  intro vs h r e0
  simp only [w7_3] at e0
  obtain ⟨c1, l1, rfl, e1⟩ := castCons_inv e0
  obtain ⟨y0, rfl, e2⟩ := castBool_inv e1
  obtain ⟨c2, l2, rfl, e3⟩ := castCons_inv e2
  obtain ⟨c3, l3, rfl, e4⟩ := castCons_inv e3
  obtain ⟨c4, l4, rfl, e5⟩ := castCons_inv e4
  obtain ⟨rfl, e6⟩ := castNil_inv e5
  have e := e6
  exact (S7_3_eq lf y0 c2 c3 c4 h).trans e
def o7_4 : Outs := [(.ret, [14], [.bool]), (.normal, [], [])]
def k7_4 : KC := (.seq (.reg [⟨(some 67), none, (.op (.mv (.t 19))), []⟩, ⟨(some 68), none, (.op (.bin .neq (.t 67) (.c (.int .i64 0)))), []⟩, ⟨(some 69), none, (.op (.mv (.t 68))), []⟩, ⟨(some 70), (some (69, false)), (.op (.mv (.t 21))), []⟩, ⟨(some 71), (some (69, false)), (.op (.bin .neq (.t 70) (.c (.int .i64 0)))), []⟩, ⟨(some 72), none, (.op (.pick (.t 69) (.c (.bool true)) (.t 71))), []⟩, ⟨(some 73), none, (.op (.mv (.t 72))), []⟩, ⟨(some 74), (some (73, false)), (.op (.mv (.t 18))), []⟩, ⟨(some 75), (some (73, false)), (.op (.lenL (.t 74))), []⟩, ⟨(some 76), (some (73, false)), (.op (.bin .neq (.t 75) (.c (.int .i64 64)))), []⟩, ⟨(some 77), none, (.op (.pick (.t 73) (.c (.bool true)) (.t 76))), []⟩, ⟨(some 78), none, (.op (.mv (.t 77))), []⟩, ⟨(some 79), (some (78, false)), (.op (.mv (.t 20))), []⟩, ⟨(some 80), (some (78, false)), (.op (.lenL (.t 79))), []⟩, ⟨(some 81), (some (78, false)), (.op (.bin .neq (.t 80) (.c (.int .i64 64)))), []⟩, ⟨(some 82), none, (.op (.pick (.t 78) (.c (.bool true)) (.t 81))), []⟩]) (.cond (.t 82) (.seq (.reg [⟨(some 14), none, (.op (.mv (.c (.bool false)))), []⟩]) .ret) .skip))
def w7_4 (f : V → Int → V → Int → List Ob → SubR) (vs : List V) (h : List Ob) : SubR := castCons vs fun c1 l1 => castCons l1 fun c2 l2 => castInt .i64 c2 fun n3 => castCons l2 fun c4 l4 => castCons l4 fun c5 l5 => castInt .i64 c5 fun n6 => castNil l5 (f c1 n3 c4 n6 h)
noncomputable def S7_4 (lf : Nat) (h_ : V) (e : Int) (g : V) (f : Int) (h : List Ob) : SubR :=
cB (e != (0)) (
some (.ret, [(.bool false)], h)) (
cB (f != (0)) (
some (.ret, [(.bool false)], h)) (
bind1 (er (.lenL (.c h_)) h) fun v =>
castInt .i64 v fun x75 =>
cB (x75 != (64)) (
some (.ret, [(.bool false)], h)) (
bind1 (er (.lenL (.c g)) h) fun v1 =>
castInt .i64 v1 fun x80 =>
cB (x80 != (64)) (
some (.ret, [(.bool false)], h)) (
some (.normal, [], h)))))
theorem S7_4_eq (lf : Nat) (h_ : V) (e : Int) (g : V) (f : Int) (h : List Ob) : evCK A7 ⟨call7 lf, cvN, subN⟩ k7_4 [(18, h_), (19, (.int .i64 e)), (20, g), (21, (.int .i64 f))] h (endK o7_4) = S7_4 lf h_ e g f h := by kernel_rfl
theorem S7_4_ok (lf : Nat) : SubOk Go.Proofs.Try.prog k7_4.er [18, 19, 20, 21] o7_4 (w7_4 (S7_4 lf)) := by
  refine SubOk.of (A := A7) (σ := ⟨call7 lf, cvN, subN⟩) (c := k7_4) (call7_ok lf) cvN_ok (And.intro True.intro (And.intro (And.intro True.intro True.intro) True.intro)) ?_
  intro vs h r e0
  simp only [w7_4] at e0
  obtain ⟨c1, l1, rfl, e1⟩ := castCons_inv e0
  obtain ⟨c2, l2, rfl, e2⟩ := castCons_inv e1
  obtain ⟨y1, rfl, e3⟩ := castInt_inv e2
  obtain ⟨c3, l3, rfl, e4⟩ := castCons_inv e3
  obtain ⟨c4, l4, rfl, e5⟩ := castCons_inv e4
  obtain ⟨y3, rfl, e6⟩ := castInt_inv e5
  obtain ⟨rfl, e7⟩ := castNil_inv e6
  have e := e7
  exact (S7_4_eq lf c1 y1 c3 y3 h).trans e
def o7_5 : Outs := [(.normal, [17], [(.int .i64)])]
def k7_5 : KC := (.seq (.reg [⟨(some 45), none, (.op (.mv (.t 16))), []⟩, ⟨(some 46), none, (.op (.bin .gtr (.t 45) (.c (.int .i64 0)))), []⟩]) (.cond (.t 46) (.reg [⟨(some 47), none, (.op (.mv (.t 4))), []⟩, ⟨(some 48), none, (.op (.toInt .i64 (.t 47))), []⟩, ⟨(some 49), none, (.op (.mv (.t 16))), []⟩, ⟨(some 50), none, (.op (.bin .rem (.t 48) (.t 49))), []⟩, ⟨(some 17), none, (.op (.mv (.t 50))), []⟩]) .skip))
def w7_5 (f : Int → Int → Int → List Ob → SubR) (vs : List V) (h : List Ob) : SubR := castCons vs fun c1 l1 => castInt .u8 c1 fun n2 => castCons l1 fun c3 l3 => castInt .i64 c3 fun n4 => castCons l3 fun c5 l5 => castInt .i64 c5 fun n6 => castNil l5 (f n2 n4 n6 h)
noncomputable def S7_5 (lf : Nat) (other : Int) (more : Int) (less : Int) (h : List Ob) : SubR :=
cB (decide (more > (0))) (
bind1 (er (.bin .rem (.c (.int .i64 (IntKind.i64.wrap other))) (.c (.int .i64 more))) h) fun v =>
castInt .i64 v fun x50 =>
some (.normal, [(.int .i64 x50)], h)) (
some (.normal, [(.int .i64 less)], h))
theorem S7_5_eq (lf : Nat) (other : Int) (more : Int) (less : Int) (h : List Ob) : evCK A7 ⟨call7 lf, cvN, subN⟩ k7_5 [(4, (.int .u8 other)), (16, (.int .i64 more)), (17, (.int .i64 less))] h (endK o7_5) = S7_5 lf other more less h := by kernel_rfl
theorem S7_5_ok (lf : Nat) : SubOk Go.Proofs.Try.prog k7_5.er [4, 16, 17] o7_5 (w7_5 (S7_5 lf)) := by
  refine SubOk.of (A := A7) (σ := ⟨call7 lf, cvN, subN⟩) (c := k7_5) (call7_ok lf) cvN_ok (And.intro True.intro (And.intro True.intro True.intro)) ?_
  intro vs h r e0
  simp only [w7_5] at e0
  obtain ⟨c1, l1, rfl, e1⟩ := castCons_inv e0
  obtain ⟨y0, rfl, e2⟩ := castInt_inv e1
  obtain ⟨c2, l2, rfl, e3⟩ := castCons_inv e2
  obtain ⟨y1, rfl, e4⟩ := castInt_inv e3
  obtain ⟨c3, l3, rfl, e5⟩ := castCons_inv e4
  obtain ⟨y2, rfl, e6⟩ := castInt_inv e5
  obtain ⟨rfl, e7⟩ := castNil_inv e6
  have e := e7
  exact (S7_5_eq lf y0 y1 y2 h).trans e
def o7_6 : Outs := [(.ret, [14], [.bool]), (.normal, [], [])]
def k7_6 : KC := (.seq (.reg [⟨(some 29), none, (.call 19 []), []⟩, ⟨(some 30), none, (.op (.un .not (.t 29))), []⟩, ⟨(some 31), none, (.op (.mv (.t 30))), []⟩, ⟨(some 32), (some (31, false)), (.op (.mv (.t 6))), []⟩, ⟨(some 33), (some (31, false)), (.op (.lenL (.t 32))), []⟩, ⟨(some 34), (some (31, false)), (.op (.bin .gtr (.t 33) (.c (.int .i64 1000)))), []⟩, ⟨(some 35), none, (.op (.pick (.t 31) (.c (.bool true)) (.t 34))), []⟩]) (.cond (.t 35) (.seq (.reg [⟨(some 36), none, (.call 19 []), []⟩, ⟨(some 14), none, (.op (.mv (.t 36))), []⟩]) .ret) .skip))
def w7_6 (f : V → List Ob → SubR) (vs : List V) (h : List Ob) : SubR := castCons vs fun c1 l1 => castNil l1 (f c1 h)
noncomputable def S7_6 (lf : Nat) (behind : V) (h : List Ob) : SubR :=
bind2 (F19 lf h) fun v h_ =>
castBool v fun x29 =>
cB (!x29) (
bind2 (F19 lf h_) fun v1 h_1 =>
castBool v1 fun x36 =>
some (.ret, [(.bool x36)], h_1)) (
bind1 (er (.lenL (.c behind)) h_) fun v1 =>
castInt .i64 v1 fun x33 =>
cB (decide (x33 > (1000))) (
bind2 (F19 lf h_) fun v2 h_1 =>
castBool v2 fun x36 =>
some (.ret, [(.bool x36)], h_1)) (
some (.normal, [], h_)))
theorem S7_6_eq (lf : Nat) (behind : V) (h : List Ob) : evCK A7 ⟨call7 lf, cvN, subN⟩ k7_6 [(6, behind)] h (endK o7_6) = S7_6 lf behind h := by kernel_rfl
theorem S7_6_ok (lf : Nat) : SubOk Go.Proofs.Try.prog k7_6.er [6] o7_6 (w7_6 (S7_6 lf)) := by
  refine SubOk.of (A := A7) (σ := ⟨call7 lf, cvN, subN⟩) (c := k7_6) (call7_ok lf) cvN_ok (And.intro True.intro (And.intro (And.intro True.intro True.intro) True.intro)) ?_
  intro vs h r e0
  simp only [w7_6] at e0
  obtain ⟨c1, l1, rfl, e1⟩ := castCons_inv e0
  obtain ⟨rfl, e2⟩ := castNil_inv e1
  have e := e2
  exact (S7_6_eq lf c1 h).trans e
def k7 : KC := (.seq (.reg [⟨(some 14), none, (.op (.mv (.c (.bool false)))), []⟩]) (.seq (.sub 6 k7_6.er [6] o7_6) (.seq (.reg [⟨(some 37), none, (.op (.mv (.t 2))), []⟩, ⟨(some 38), none, (.op (.lenL (.t 37))), []⟩, ⟨(some 39), none, (.op (.minmax false (.t 38) (.c (.int .i64 12)))), []⟩, ⟨(some 15), none, (.op (.mv (.t 39))), []⟩]) (.seq (.reg [⟨(some 40), none, (.op (.mv (.t 3))), []⟩, ⟨(some 41), none, (.op (.toInt .i64 (.t 40))), []⟩, ⟨(some 42), none, (.op (.mv (.t 15))), []⟩, ⟨(some 43), none, (.op (.bin .add (.t 42) (.c (.int .i64 1)))), []⟩, ⟨(some 44), none, (.op (.bin .rem (.t 41) (.t 43))), []⟩, ⟨(some 16), none, (.op (.mv (.t 44))), []⟩, ⟨(some 17), none, (.op (.mv (.c (.int .i64 0)))), []⟩]) (.seq (.sub 5 k7_5.er [4, 16, 17] o7_5) (.seq (.reg [⟨(some 52), none, (.op (.mv (.t 0))), []⟩, ⟨(some 53), none, (.op (.mv (.t 1))), []⟩, ⟨(some 54), none, (.op (.toInt .i64 (.t 53))), []⟩, ⟨(some 55), none, (.op (.mv (.t 16))), []⟩, ⟨(some 56), none, (.call 20 [(.t 52), (.t 54), (.t 55)]), []⟩, ⟨(some 51), none, (.op (.mv (.t 56))), []⟩, ⟨(some 57), none, (.op (.ext 0 (.t 51))), []⟩, ⟨(some 58), none, (.op (.ext 1 (.t 51))), []⟩, ⟨(some 18), none, (.op (.mv (.t 57))), []⟩, ⟨(some 19), none, (.op (.mv (.t 58))), []⟩]) (.seq (.reg [⟨(some 60), none, (.op (.mv (.t 0))), []⟩, ⟨(some 61), none, (.op (.mv (.t 1))), []⟩, ⟨(some 62), none, (.op (.toInt .i64 (.t 61))), []⟩, ⟨(some 63), none, (.op (.mv (.t 17))), []⟩, ⟨(some 64), none, (.call 20 [(.t 60), (.t 62), (.t 63)]), []⟩, ⟨(some 59), none, (.op (.mv (.t 64))), []⟩, ⟨(some 65), none, (.op (.ext 0 (.t 59))), []⟩, ⟨(some 66), none, (.op (.ext 1 (.t 59))), []⟩, ⟨(some 20), none, (.op (.mv (.t 65))), []⟩, ⟨(some 21), none, (.op (.mv (.t 66))), []⟩]) (.seq (.sub 4 k7_4.er [18, 19, 20, 21] o7_4) (.seq (.reg [⟨(some 83), none, (.op (.bslice 1 (.int .u8 0) 0 [])), []⟩, ⟨(some 84), none, (.op (.mv (.t 18))), []⟩, ⟨(some 85), none, (.op (.app 1 1 (.t 83) (.t 84))), []⟩, ⟨(some 86), none, (.op (.mv (.t 20))), []⟩, ⟨(some 87), none, (.op (.app 1 1 (.t 85) (.t 86))), []⟩, ⟨(some 22), none, (.op (.mv (.t 87))), []⟩]) (.seq (.sub 3 k7_3.er [5, 18, 20, 22] o7_3) (.seq (.seq (.reg [⟨(some 94), none, (.op (.mv (.t 15))), []⟩, ⟨(some 95), none, (.op (.mv (.c (.int .i64 0)))), []⟩]) (.block 0 (.sub 0 (.loop k7_0.er) [0, 2, 22, 94, 95] o7_0))) (.seq (.seq (.reg [⟨(some 128), none, (.op (.mv (.t 22))), []⟩, ⟨(some 129), none, (.op (.mv (.t 6))), []⟩, ⟨(some 130), none, (.op (.app 1 1 (.t 128) (.t 129))), []⟩, ⟨(some 131), none, (.op (.mv (.t 0))), []⟩, ⟨(some 132), none, (.op (.mv (.t 1))), []⟩, ⟨(some 133), none, (.op (.toInt .i64 (.t 132))), []⟩, ⟨(some 134), none, (.op (.mv (.t 2))), []⟩, ⟨(some 135), none, (.op (.mv (.t 16))), []⟩, ⟨(some 136), none, (.call 31 [(.t 130), (.t 131), (.t 133), (.t 134), (.t 135)]), []⟩, ⟨(some 137), none, (.op (.un .not (.t 136))), []⟩]) (.cond (.t 137) (.seq (.reg [⟨(some 14), none, (.op (.mv (.c (.bool false)))), []⟩]) .ret) .skip)) (.seq (.reg [⟨(some 26), none, (.op (.mv (.c (.int .i64 0)))), []⟩]) (.seq (.sub 2 k7_2.er [5, 26] o7_2) (.seq (.reg [⟨(some 139), none, (.op (.bslice 1 (.int .u8 0) 0 [])), []⟩, ⟨(some 140), none, (.op (.mv (.t 22))), []⟩, ⟨(some 141), none, (.op (.app 1 1 (.t 139) (.t 140))), []⟩, ⟨(some 27), none, (.op (.mv (.t 141))), []⟩]) (.seq (.seq (.reg [⟨(some 142), none, (.op (.mv (.c (.int .i64 0)))), []⟩]) (.block 2 (.sub 1 (.loop k7_1.er) [3, 26, 27, 142] o7_1))) (.seq (.reg [⟨(some 152), none, (.op (.mv (.t 27))), []⟩, ⟨(some 153), none, (.op (.mv (.t 6))), []⟩, ⟨(some 154), none, (.op (.app 1 1 (.t 152) (.t 153))), []⟩, ⟨(some 155), none, (.op (.mv (.t 0))), []⟩, ⟨(some 156), none, (.op (.mv (.t 1))), []⟩, ⟨(some 157), none, (.op (.toInt .i64 (.t 156))), []⟩, ⟨(some 158), none, (.op (.mv (.t 2))), []⟩, ⟨(some 159), none, (.op (.mv (.t 17))), []⟩, ⟨(some 160), none, (.call 31 [(.t 154), (.t 155), (.t 157), (.t 158), (.t 159)]), []⟩, ⟨(some 161), none, (.op (.mv (.t 160))), []⟩, ⟨(some 162), (some (161, false)), (.op (.mv (.t 16))), []⟩, ⟨(some 163), (some (161, false)), (.op (.bin .eql (.t 162) (.c (.int .i64 0)))), []⟩, ⟨(some 164), none, (.op (.pick (.t 161) (.c (.bool true)) (.t 163))), []⟩, ⟨(some 14), none, (.op (.mv (.t 164))), []⟩]) .ret)))))))))))))))))
noncomputable def F7 (lf : Nat) (salt : Int) (pages : Int) (list : V) (told : Int) (other : Int) (second : Bool) (behind : V) (h : List Ob) : Option (V × List Ob) :=
bind3 (S7_6 lf behind h) fun ex vs h_ =>
cB (decide (ex = .ret)) (
castCons vs fun c l =>
castBool c fun x14 =>
castNil l (
some ((.bool x14), h_))) (
cB (decide (ex = .normal)) (
castNil vs (
bind1 (er (.lenL (.c list)) h_) fun v =>
castInt .i64 v fun x38 =>
bind1 (er (.bin .rem (.c (.int .i64 (IntKind.i64.wrap told))) (.c (.int .i64 (IntKind.i64.wrap ((if (12) < x38 then (12) else x38) + (1)))))) h_) fun v1 =>
castInt .i64 v1 fun x44 =>
bind3 (S7_5 lf other x44 (0) h_) fun ex1 vs1 h_1 =>
cB (decide (ex1 = .normal)) (
castCons vs1 fun c l =>
castInt .i64 c fun less =>
castNil l (
bind2 (F20 lf salt (IntKind.i64.wrap pages) x44 h_1) fun v2 h_2 =>
castTup v2 fun l1 =>
castCons l1 fun x56_0 l2 =>
castCons l2 fun c1 l3 =>
castInt .i64 c1 fun x56_1 =>
castNil l3 (
bind2 (F20 lf salt (IntKind.i64.wrap pages) less h_2) fun v3 h_3 =>
castTup v3 fun l4 =>
castCons l4 fun x64_0 l5 =>
castCons l5 fun c2 l6 =>
castInt .i64 c2 fun x64_1 =>
castNil l6 (
bind3 (S7_4 lf x56_0 x56_1 x64_0 x64_1 h_3) fun ex2 vs2 h_4 =>
cB (decide (ex2 = .ret)) (
castCons vs2 fun c3 l7 =>
castBool c3 fun x14 =>
castNil l7 (
some ((.bool x14), h_4))) (
cB (decide (ex2 = .normal)) (
castNil vs2 (
bind2 (ev (.bslice 1 (.int .u8 0) 0 []) h_4) fun x83 h_5 =>
bind2 (ev (.app 1 1 (.c x83) (.c x56_0)) h_5) fun x85 h_6 =>
bind2 (ev (.app 1 1 (.c x85) (.c x64_0)) h_6) fun x87 h_7 =>
bind3 (S7_3 lf second x56_0 x64_0 x87 h_7) fun ex3 vs3 h_8 =>
cB (decide (ex3 = .normal)) (
castCons vs3 fun b l7 =>
castNil l7 (
bind3 (L7_0 lf lf salt list b (if (12) < x38 then (12) else x38) (0) h_8) fun ex4 vs4 h_9 =>
cB (decide (ex4 = (.exit 0))) (
castCons vs4 fun b1 l8 =>
castNil l8 (
bind2 (ev (.app 1 1 (.c b1) (.c behind)) h_9) fun x130 h_10 =>
bind2 (F31 lf x130 salt (IntKind.i64.wrap pages) list x44 h_10) fun v4 h_11 =>
castBool v4 fun x136 =>
cB (!x136) (
some ((.bool false), h_11)) (
bind3 (S7_2 lf second (0) h_11) fun ex5 vs5 h_12 =>
cB (decide (ex5 = .normal)) (
castCons vs5 fun c3 l9 =>
castInt .i64 c3 fun at_ =>
castNil l9 (
bind2 (ev (.bslice 1 (.int .u8 0) 0 []) h_12) fun x139 h_13 =>
bind2 (ev (.app 1 1 (.c x139) (.c b1)) h_13) fun x141 h_14 =>
bind3 (L7_1 lf lf told at_ x141 (0) h_14) fun ex6 vs6 h_15 =>
cB (decide (ex6 = (.exit 2))) (
castNil vs6 (
bind2 (ev (.app 1 1 (.c x141) (.c behind)) h_15) fun x154 h_16 =>
bind2 (F31 lf x154 salt (IntKind.i64.wrap pages) list less h_16) fun v5 h_17 =>
castBool v5 fun x160 =>
cB x160 (
some ((.bool true), h_17)) (
some ((.bool (x44 == (0))), h_17)))) (
none))) (
none)))) (
cB (decide (ex4 = .ret)) (
castCons vs4 fun c3 l8 =>
castBool c3 fun x14 =>
castNil l8 (
some ((.bool x14), h_9))) (
none)))) (
none))) (
none)))))) (
none))) (
none))
theorem F7_eq (lf : Nat) (salt : Int) (pages : Int) (list : V) (told : Int) (other : Int) (second : Bool) (behind : V) (h : List Ob) : evCK A7 ⟨call7 lf, cvN, subC 1 (w7_1 (L7_1 lf lf)) (subC 2 (w7_2 (S7_2 lf)) (subC 0 (w7_0 (L7_0 lf lf)) (subC 3 (w7_3 (S7_3 lf)) (subC 4 (w7_4 (S7_4 lf)) (subC 5 (w7_5 (S7_5 lf)) (subC 6 (w7_6 (S7_6 lf)) (subN)))))))⟩ k7 (entryK [(.int .u64 salt), (.int .u8 pages), list, (.int .u8 told), (.int .u8 other), (.bool second), behind]) h (endF c7.res) = F7 lf salt pages list told other second behind h := by kernel_rfl
theorem F7_ok (lf : Nat) (salt : Int) (pages : Int) (list : V) (told : Int) (other : Int) (second : Bool) (behind : V) (h : List Ob) (r_ : V) (h_r : List Ob) (e_ : F7 lf salt pages list told other second behind h = some (r_, h_r)) : CD Go.Proofs.Try.prog 7 [(.int .u64 salt), (.int .u8 pages), list, (.int .u8 told), (.int .u8 other), (.bool second), behind] h r_ h_r :=
  CD.ofK (A := A7) (σ := ⟨call7 lf, cvN, subC 1 (w7_1 (L7_1 lf lf)) (subC 2 (w7_2 (S7_2 lf)) (subC 0 (w7_0 (L7_0 lf lf)) (subC 3 (w7_3 (S7_3 lf)) (subC 4 (w7_4 (S7_4 lf)) (subC 5 (w7_5 (S7_5 lf)) (subC 6 (w7_6 (S7_6 lf)) (subN)))))))⟩) (c := k7) Go.Proofs.Try.func7 ok7 en7 (show 7 ≤ 165 by decide) (by kernel_rfl) (call7_ok lf) cvN_ok (And.intro True.intro (And.intro (S7_6_ok lf) (And.intro True.intro (And.intro True.intro (And.intro (S7_5_ok lf) (And.intro True.intro (And.intro True.intro (And.intro (S7_4_ok lf) (And.intro True.intro (And.intro (S7_3_ok lf) (And.intro (And.intro True.intro (L7_0_ok lf lf)) (And.intro (And.intro True.intro (And.intro (And.intro True.intro True.intro) True.intro)) (And.intro True.intro (And.intro (S7_2_ok lf) (And.intro True.intro (And.intro (And.intro True.intro (L7_1_ok lf lf)) (And.intro True.intro True.intro))))))))))))))))) ((F7_eq lf salt pages list told other second behind h).trans e_)
def w7 (f : Int → Int → V → Int → Int → Bool → V → List Ob → Option (V × List Ob)) (vs : List V) (h : List Ob) : Option (V × List Ob) := castCons vs fun c1 l1 => castInt .u64 c1 fun n2 => castCons l1 fun c3 l3 => castInt .u8 c3 fun n4 => castCons l3 fun c5 l5 => castCons l5 fun c6 l6 => castInt .u8 c6 fun n7 => castCons l6 fun c8 l8 => castInt .u8 c8 fun n9 => castCons l8 fun c10 l10 => castBool c10 fun n11 => castCons l10 fun c12 l12 => castNil l12 (f n2 n4 c5 n7 n9 n11 c12 h)
noncomputable def W7 (lf : Nat) : List V → List Ob → Option (V × List Ob) := w7 (F7 lf)
theorem W7_ok (lf : Nat) : ∀ args h v h', W7 lf args h = some (v, h') → CD Go.Proofs.Try.prog 7 args h v h' := by
  intro vs h r h' e0
  simp only [W7, w7] at e0
  obtain ⟨c1, l1, rfl, e1⟩ := castCons_inv e0
  obtain ⟨y0, rfl, e2⟩ := castInt_inv e1
  obtain ⟨c2, l2, rfl, e3⟩ := castCons_inv e2
  obtain ⟨y1, rfl, e4⟩ := castInt_inv e3
  obtain ⟨c3, l3, rfl, e5⟩ := castCons_inv e4
  obtain ⟨c4, l4, rfl, e6⟩ := castCons_inv e5
  obtain ⟨y3, rfl, e7⟩ := castInt_inv e6
  obtain ⟨c5, l5, rfl, e8⟩ := castCons_inv e7
  obtain ⟨y4, rfl, e9⟩ := castInt_inv e8
  obtain ⟨c6, l6, rfl, e10⟩ := castCons_inv e9
  obtain ⟨y5, rfl, e11⟩ := castBool_inv e10
  obtain ⟨c7, l7, rfl, e12⟩ := castCons_inv e11
  obtain ⟨rfl, e13⟩ := castNil_inv e12
  have e := e13
  exact F7_ok lf y0 y1 c3 y3 y4 y5 c7 h r h' e

end Go.Proofs.Ytdcdmpgigmhhpaa.Jb
