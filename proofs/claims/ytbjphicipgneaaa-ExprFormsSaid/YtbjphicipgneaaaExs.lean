/- Functions of the program as Lean functions, and that each call comes to what its function says. Printed by my own tool. No condition. -/
import Derived.Test.YtbjphicipgneaaaEx
import Derived.Test.YtbjphicipgneaaaL3
import Derived.Test.YtbjphicipgneaaaL4
import Derived.Test.YtbjphicipgneaaaLns
import Derived.Test.YtbjphicipgneaaaAwA
namespace Go.Proofs.Ytbjphicipgneaaa.Ex
open Go Go.Proofs.Ytbjphicipgneaaa.E
open Go.Proofs.Ytbjphicipgneaaa.Ln
open Go.Proofs.Ytbjphicipgneaaa.Aw
set_option maxRecDepth 100000
set_option linter.unusedVariables false
set_option linter.unusedSimpArgs false

/-! 75: wainscot/wainscotref05.Members -/
def A75 : List (Nat × Sh) := [(0, (.agg [(.int .i64), .str, (.int .i64), (.int .i64), .str, .str, .str, .any])), (1, (.int .i64)), (4, (.int .i64)), (5, (.int .i64)), (6, (.int .i64)), (9, (.int .i64)), (10, (.int .i64)), (11, .bool), (12, (.int .i64)), (13, (.int .i64)), (14, (.int .i64)), (15, .bool), (16, (.int .i64)), (17, (.int .i64)), (20, (.int .i64)), (22, (.agg [(.int .i64), .str, (.int .i64), (.int .i64), .str, .str, .str, .any])), (23, (.int .i64)), (24, (.int .i64)), (25, (.int .i64)), (26, (.int .i64)), (27, (.int .i64)), (28, (.int .i64)), (29, (.int .i64))]
noncomputable def call75 (lf : Nat) (rc : CallS) : CallS := rc
theorem call75_ok (lf : Nat) (rc : CallS) (hrc : CallOk Go.Proofs.Try.prog rc) : CallOk Go.Proofs.Try.prog (call75 lf rc) := hrc
def o75_0 : Outs := [((.exit 0), [5], [(.int .i64)]), (.ret, [4], [(.int .i64)])]
def k75_0 : KC := (.seq (.reg [⟨(some 11), none, (.op (.bin .lss (.t 10) (.t 9))), []⟩]) (.seq (.cond (.t 11) .skip (.exit 0)) (.seq (.block 1 (.seq (.reg [⟨(some 12), none, (.op (.mv (.t 10))), []⟩, ⟨(some 6), none, (.op (.mv (.t 12))), []⟩]) (.seq (.seq (.reg [⟨(some 13), none, (.op (.mv (.t 5))), []⟩, ⟨(some 14), none, (.op (.mv (.t 1))), []⟩, ⟨(some 15), none, (.op (.bin .gtr (.t 13) (.t 14))), []⟩]) (.cond (.t 15) (.seq (.reg [⟨(some 16), none, (.op (.mv (.t 5))), []⟩, ⟨(some 4), none, (.op (.mv (.t 16))), []⟩]) .ret) .skip)) (.reg [⟨(some 17), none, (.op (.mv (.t 5))), []⟩, ⟨(some 18), none, (.op (.faddr 7 (.t 2))), []⟩, ⟨(some 19), none, (.op (.load1 (.t 18))), []⟩, ⟨(some 20), none, (.op (.mv (.t 6))), []⟩, ⟨(some 21), none, (.op (.iaddrL 8 (.t 19) (.t 20))), []⟩, ⟨(some 22), none, (.op (.loadN 8 (.t 21))), []⟩, ⟨(some 23), none, (.op (.mv (.t 1))), []⟩, ⟨(some 24), none, (.op (.mv (.t 5))), []⟩, ⟨(some 25), none, (.op (.bin .sub (.t 23) (.t 24))), []⟩, ⟨(some 26), none, (.call 75 [(.t 22), (.t 25)]), []⟩, ⟨(some 27), none, (.op (.bin .add (.t 17) (.t 26))), []⟩, ⟨(some 5), none, (.op (.mv (.t 27))), []⟩])))) (.reg [⟨(some 28), none, (.op (.bin .add (.t 10) (.c (.int .i64 1)))), []⟩, ⟨(some 10), none, (.op (.mv (.t 28))), []⟩]))))
def w75_0 (f : Int → V → Int → Int → Int → List Ob → SubR) (vs : List V) (h : List Ob) : SubR := castCons vs fun c1 l1 => castInt .i64 c1 fun n2 => castCons l1 fun c3 l3 => castCons l3 fun c4 l4 => castInt .i64 c4 fun n5 => castCons l4 fun c6 l6 => castInt .i64 c6 fun n7 => castCons l6 fun c8 l8 => castInt .i64 c8 fun n9 => castNil l8 (f n2 c3 n5 n7 n9 h)
noncomputable def B75_0 (lf : Nat) (rc : CallS) (self : Int → V → Int → Int → Int → List Ob → SubR) (most : Int) (e : V) (n_ : Int) (x9 : Int) (x10 : Int) (h : List Ob) : SubR :=
cB (decide (x10 < x9)) (
cB (decide (n_ > most)) (
some (.ret, [(.int .i64 n_)], h)) (
bind1 (er (.faddr 7 (.c e)) h) fun x18 =>
bind1 (er (.load1 (.c x18)) h) fun x19 =>
bind1 (er (.iaddrL 8 (.c x19) (.c (.int .i64 x10))) h) fun x21 =>
bind1 (er (.loadN 8 (.c x21)) h) fun v =>
castAgg v fun l =>
castCons l fun c l1 =>
castInt .i64 c fun x22_0 =>
castCons l1 fun c1 l2 =>
castStr c1 fun x22_1 =>
castCons l2 fun c2 l3 =>
castInt .i64 c2 fun x22_2 =>
castCons l3 fun c3 l4 =>
castInt .i64 c3 fun x22_3 =>
castCons l4 fun c4 l5 =>
castStr c4 fun x22_4 =>
castCons l5 fun c5 l6 =>
castStr c5 fun x22_5 =>
castCons l6 fun c6 l7 =>
castStr c6 fun x22_6 =>
castCons l7 fun x22_7 l8 =>
castNil l8 (
bind2 (rc 75 [(.agg [(.int .i64 x22_0), (.str x22_1), (.int .i64 x22_2), (.int .i64 x22_3), (.str x22_4), (.str x22_5), (.str x22_6), x22_7]), (.int .i64 (IntKind.i64.wrap (most - n_)))] h) fun v1 h_ =>
castInt .i64 v1 fun x26 =>
self most e (IntKind.i64.wrap (n_ + x26)) x9 (IntKind.i64.wrap (x10 + (1))) h_))) (
some ((.exit 0), [(.int .i64 n_)], h))
noncomputable def L75_0 (lf : Nat) (rc : CallS) : Nat → Int → V → Int → Int → Int → List Ob → SubR
  | 0 => fun _ _ _ _ _ _ => none
  | n + 1 => B75_0 lf rc (L75_0 lf rc n)
theorem B75_0_eq (lf : Nat) (rc : CallS) (self : Int → V → Int → Int → Int → List Ob → SubR) (most : Int) (e : V) (n_ : Int) (x9 : Int) (x10 : Int) (h : List Ob) : evCK A75 ⟨call75 lf rc, cvN, subN⟩ k75_0 [(1, (.int .i64 most)), (2, e), (5, (.int .i64 n_)), (9, (.int .i64 x9)), (10, (.int .i64 x10))] h (endL [1, 2, 5, 9, 10] [(.int .i64), .any, (.int .i64), (.int .i64), (.int .i64)] o75_0 (w75_0 self)) = B75_0 lf rc self most e n_ x9 x10 h := by kernel_rfl
theorem L75_0_ok (lf : Nat) (rc : CallS) (hrc : CallOk Go.Proofs.Try.prog rc) : ∀ n, SubOk Go.Proofs.Try.prog (.loop k75_0.er) [1, 2, 5, 9, 10] o75_0 (w75_0 (L75_0 lf rc n)) := by
  refine SubOk.loop (A := A75) (σ := ⟨call75 lf rc, cvN, subN⟩) (c := k75_0) (shs := [(.int .i64), .any, (.int .i64), (.int .i64), (.int .i64)]) (G := fun n => w75_0 (L75_0 lf rc n)) (call75_ok lf rc hrc) cvN_ok (And.intro True.intro (And.intro (And.intro True.intro True.intro) (And.intro (And.intro True.intro (And.intro (And.intro True.intro (And.intro (And.intro True.intro True.intro) True.intro)) True.intro)) True.intro))) ?_ ?_
  · intro vs h r e0
    simp only [w75_0] at e0
    obtain ⟨c1, l1, rfl, e1⟩ := castCons_inv e0
    obtain ⟨y0, rfl, e2⟩ := castInt_inv e1
    obtain ⟨c2, l2, rfl, e3⟩ := castCons_inv e2
    obtain ⟨c3, l3, rfl, e4⟩ := castCons_inv e3
    obtain ⟨y2, rfl, e5⟩ := castInt_inv e4
    obtain ⟨c4, l4, rfl, e6⟩ := castCons_inv e5
    obtain ⟨y3, rfl, e7⟩ := castInt_inv e6
    obtain ⟨c5, l5, rfl, e8⟩ := castCons_inv e7
    obtain ⟨y4, rfl, e9⟩ := castInt_inv e8
    obtain ⟨rfl, e10⟩ := castNil_inv e9
    have e := e10
    cases e
  · intro n vs h r e0
    simp only [w75_0] at e0
    obtain ⟨c1, l1, rfl, e1⟩ := castCons_inv e0
    obtain ⟨y0, rfl, e2⟩ := castInt_inv e1
    obtain ⟨c2, l2, rfl, e3⟩ := castCons_inv e2
    obtain ⟨c3, l3, rfl, e4⟩ := castCons_inv e3
    obtain ⟨y2, rfl, e5⟩ := castInt_inv e4
    obtain ⟨c4, l4, rfl, e6⟩ := castCons_inv e5
    obtain ⟨y3, rfl, e7⟩ := castInt_inv e6
    obtain ⟨c5, l5, rfl, e8⟩ := castCons_inv e7
    obtain ⟨y4, rfl, e9⟩ := castInt_inv e8
    obtain ⟨rfl, e10⟩ := castNil_inv e9
    have e := e10
    exact (B75_0_eq lf rc (L75_0 lf rc n) y0 c2 y2 y3 y4 h).trans e
def k75 : KC := (.seq (.reg [⟨(some 2), none, (.op (.box false (.t 0))), []⟩, ⟨(some 4), none, (.op (.mv (.c (.int .i64 0)))), []⟩]) (.seq (.reg [⟨(some 5), none, (.op (.mv (.c (.int .i64 1)))), []⟩]) (.seq (.seq (.reg [⟨(some 7), none, (.op (.faddr 7 (.t 2))), []⟩, ⟨(some 8), none, (.op (.load1 (.t 7))), []⟩, ⟨(some 9), none, (.op (.lenL (.t 8))), []⟩, ⟨(some 10), none, (.op (.mv (.c (.int .i64 0)))), []⟩]) (.block 0 (.sub 0 (.loop k75_0.er) [1, 2, 5, 9, 10] o75_0))) (.seq (.reg [⟨(some 29), none, (.op (.mv (.t 5))), []⟩, ⟨(some 4), none, (.op (.mv (.t 29))), []⟩]) .ret))))
noncomputable def F75 (lf : Nat) (rc : CallS) (e : Int) (e1 : List UInt8) (e2 : Int) (e3 : Int) (e4 : List UInt8) (e5 : List UInt8) (e6 : List UInt8) (e7 : V) (most : Int) (h : List Ob) : Option (V × List Ob) :=
bind2 (ev (.box false (.c (.agg [(.int .i64 e), (.str e1), (.int .i64 e2), (.int .i64 e3), (.str e4), (.str e5), (.str e6), e7]))) h) fun e8 h_ =>
bind1 (er (.faddr 7 (.c e8)) h_) fun x7 =>
bind1 (er (.load1 (.c x7)) h_) fun x8 =>
bind1 (er (.lenL (.c x8)) h_) fun v =>
castInt .i64 v fun x9 =>
bind3 (L75_0 lf rc lf most e8 (1) x9 (0) h_) fun ex vs h_1 =>
cB (decide (ex = (.exit 0))) (
castCons vs fun c l =>
castInt .i64 c fun n_ =>
castNil l (
some ((.int .i64 n_), h_1))) (
cB (decide (ex = .ret)) (
castCons vs fun c l =>
castInt .i64 c fun x4 =>
castNil l (
some ((.int .i64 x4), h_1))) (
none))
theorem F75_eq (lf : Nat) (rc : CallS) (e : Int) (e1 : List UInt8) (e2 : Int) (e3 : Int) (e4 : List UInt8) (e5 : List UInt8) (e6 : List UInt8) (e7 : V) (most : Int) (h : List Ob) : evCK A75 ⟨call75 lf rc, cvN, subC 0 (w75_0 (L75_0 lf rc lf)) (subN)⟩ k75 (entryK [(.agg [(.int .i64 e), (.str e1), (.int .i64 e2), (.int .i64 e3), (.str e4), (.str e5), (.str e6), e7]), (.int .i64 most)]) h (endF c75.res) = F75 lf rc e e1 e2 e3 e4 e5 e6 e7 most h := by kernel_rfl
theorem F75_ok (lf : Nat) (rc : CallS) (hrc : CallOk Go.Proofs.Try.prog rc) (e : Int) (e1 : List UInt8) (e2 : Int) (e3 : Int) (e4 : List UInt8) (e5 : List UInt8) (e6 : List UInt8) (e7 : V) (most : Int) (h : List Ob) (r_ : V) (h_r : List Ob) (e_ : F75 lf rc e e1 e2 e3 e4 e5 e6 e7 most h = some (r_, h_r)) : CD Go.Proofs.Try.prog 75 [(.agg [(.int .i64 e), (.str e1), (.int .i64 e2), (.int .i64 e3), (.str e4), (.str e5), (.str e6), e7]), (.int .i64 most)] h r_ h_r :=
  CD.ofK (A := A75) (σ := ⟨call75 lf rc, cvN, subC 0 (w75_0 (L75_0 lf rc lf)) (subN)⟩) (c := k75) Go.Proofs.Try.func75 ok75 en75 (show 2 ≤ 30 by decide) (by kernel_rfl) (call75_ok lf rc hrc) cvN_ok (And.intro True.intro (And.intro True.intro (And.intro (And.intro True.intro (L75_0_ok lf rc hrc lf)) (And.intro True.intro True.intro)))) ((F75_eq lf rc e e1 e2 e3 e4 e5 e6 e7 most h).trans e_)
def w75 (f : Int → List UInt8 → Int → Int → List UInt8 → List UInt8 → List UInt8 → V → Int → List Ob → Option (V × List Ob)) (vs : List V) (h : List Ob) : Option (V × List Ob) := castCons vs fun c1 l1 => castAgg c1 fun n2 => castCons n2 fun c3 l3 => castInt .i64 c3 fun n4 => castCons l3 fun c5 l5 => castStr c5 fun n6 => castCons l5 fun c7 l7 => castInt .i64 c7 fun n8 => castCons l7 fun c9 l9 => castInt .i64 c9 fun n10 => castCons l9 fun c11 l11 => castStr c11 fun n12 => castCons l11 fun c13 l13 => castStr c13 fun n14 => castCons l13 fun c15 l15 => castStr c15 fun n16 => castCons l15 fun c17 l17 => castNil l17 (castCons l1 fun c18 l18 => castInt .i64 c18 fun n19 => castNil l18 (f n4 n6 n8 n10 n12 n14 n16 c17 n19 h))
noncomputable def W75 (lf : Nat) (rc : CallS) : List V → List Ob → Option (V × List Ob) := w75 (F75 lf rc)
theorem W75_ok (lf : Nat) (rc : CallS) (hrc : CallOk Go.Proofs.Try.prog rc) : ∀ args h v h', W75 lf rc args h = some (v, h') → CD Go.Proofs.Try.prog 75 args h v h' := by
  intro vs h r h' e0
  simp only [W75, w75] at e0
  obtain ⟨c1, l1, rfl, e1⟩ := castCons_inv e0
  obtain ⟨l2, rfl, e2⟩ := castAgg_inv e1
  obtain ⟨c3, l3, rfl, e3⟩ := castCons_inv e2
  obtain ⟨y0, rfl, e4⟩ := castInt_inv e3
  obtain ⟨c4, l4, rfl, e5⟩ := castCons_inv e4
  obtain ⟨y1, rfl, e6⟩ := castStr_inv e5
  obtain ⟨c5, l5, rfl, e7⟩ := castCons_inv e6
  obtain ⟨y2, rfl, e8⟩ := castInt_inv e7
  obtain ⟨c6, l6, rfl, e9⟩ := castCons_inv e8
  obtain ⟨y3, rfl, e10⟩ := castInt_inv e9
  obtain ⟨c7, l7, rfl, e11⟩ := castCons_inv e10
  obtain ⟨y4, rfl, e12⟩ := castStr_inv e11
  obtain ⟨c8, l8, rfl, e13⟩ := castCons_inv e12
  obtain ⟨y5, rfl, e14⟩ := castStr_inv e13
  obtain ⟨c9, l9, rfl, e15⟩ := castCons_inv e14
  obtain ⟨y6, rfl, e16⟩ := castStr_inv e15
  obtain ⟨c10, l10, rfl, e17⟩ := castCons_inv e16
  obtain ⟨rfl, e18⟩ := castNil_inv e17
  obtain ⟨c11, l11, rfl, e19⟩ := castCons_inv e18
  obtain ⟨y8, rfl, e20⟩ := castInt_inv e19
  obtain ⟨rfl, e21⟩ := castNil_inv e20
  have e := e21
  exact F75_ok lf rc hrc y0 y1 y2 y3 y4 y5 y6 c10 y8 h r h' e

/-- What calls itself, so many times: wainscot/wainscotref05.Members. -/
noncomputable def R75 (lf : Nat) : Nat → CallS
  | 0 => callN
  | n + 1 => callC 75 (W75 lf (R75 lf n)) (callN)
theorem R75_ok (lf : Nat) : ∀ n, CallOk Go.Proofs.Try.prog (R75 lf n)
  | 0 => callN_ok
  | n + 1 => callC_ok (W75_ok lf (R75 lf n) (R75_ok lf n)) (callN_ok)

/-! 44: wainscot/wainscotref05.Small -/
def A44 : List (Nat × Sh) := [(0, (.agg [(.int .i64), .str, (.int .i64), (.int .i64), .str, .str, .str, .any])), (2, .bool), (3, (.agg [(.int .i64), .str, (.int .i64), (.int .i64), .str, .str, .str, .any])), (4, (.int .i64)), (5, .bool)]
noncomputable def call44 (lf : Nat) : CallS := callC 75 (W75 lf (R75 lf lf)) (callN)
theorem call44_ok (lf : Nat) : CallOk Go.Proofs.Try.prog (call44 lf) := callC_ok (W75_ok lf (R75 lf lf) (R75_ok lf lf)) (callN_ok)
def k44 : KC := (.seq (.reg [⟨(some 1), none, (.op (.box false (.t 0))), []⟩, ⟨(some 2), none, (.op (.mv (.c (.bool false)))), []⟩]) (.seq (.reg [⟨(some 3), none, (.op (.loadN 8 (.t 1))), []⟩, ⟨(some 4), none, (.call 75 [(.t 3), (.c (.int .i64 300))]), []⟩, ⟨(some 5), none, (.op (.bin .leq (.t 4) (.c (.int .i64 300)))), []⟩, ⟨(some 2), none, (.op (.mv (.t 5))), []⟩]) .ret))
noncomputable def F44 (lf : Nat) (e : Int) (e1 : List UInt8) (e2 : Int) (e3 : Int) (e4 : List UInt8) (e5 : List UInt8) (e6 : List UInt8) (e7 : V) (h : List Ob) : Option (V × List Ob) :=
bind2 (ev (.box false (.c (.agg [(.int .i64 e), (.str e1), (.int .i64 e2), (.int .i64 e3), (.str e4), (.str e5), (.str e6), e7]))) h) fun e8 h_ =>
bind1 (er (.loadN 8 (.c e8)) h_) fun v =>
castAgg v fun l =>
castCons l fun c l1 =>
castInt .i64 c fun x3_0 =>
castCons l1 fun c1 l2 =>
castStr c1 fun x3_1 =>
castCons l2 fun c2 l3 =>
castInt .i64 c2 fun x3_2 =>
castCons l3 fun c3 l4 =>
castInt .i64 c3 fun x3_3 =>
castCons l4 fun c4 l5 =>
castStr c4 fun x3_4 =>
castCons l5 fun c5 l6 =>
castStr c5 fun x3_5 =>
castCons l6 fun c6 l7 =>
castStr c6 fun x3_6 =>
castCons l7 fun x3_7 l8 =>
castNil l8 (
bind2 (F75 lf (R75 lf lf) x3_0 x3_1 x3_2 x3_3 x3_4 x3_5 x3_6 x3_7 (300) h_) fun v1 h_1 =>
castInt .i64 v1 fun x4 =>
some ((.bool (decide (x4 ≤ (300)))), h_1))
theorem F44_eq (lf : Nat) (e : Int) (e1 : List UInt8) (e2 : Int) (e3 : Int) (e4 : List UInt8) (e5 : List UInt8) (e6 : List UInt8) (e7 : V) (h : List Ob) : evCK A44 ⟨call44 lf, cvN, subN⟩ k44 (entryK [(.agg [(.int .i64 e), (.str e1), (.int .i64 e2), (.int .i64 e3), (.str e4), (.str e5), (.str e6), e7])]) h (endF c44.res) = F44 lf e e1 e2 e3 e4 e5 e6 e7 h := by kernel_rfl
theorem F44_ok (lf : Nat) (e : Int) (e1 : List UInt8) (e2 : Int) (e3 : Int) (e4 : List UInt8) (e5 : List UInt8) (e6 : List UInt8) (e7 : V) (h : List Ob) (r_ : V) (h_r : List Ob) (e_ : F44 lf e e1 e2 e3 e4 e5 e6 e7 h = some (r_, h_r)) : CD Go.Proofs.Try.prog 44 [(.agg [(.int .i64 e), (.str e1), (.int .i64 e2), (.int .i64 e3), (.str e4), (.str e5), (.str e6), e7])] h r_ h_r :=
  CD.ofK (A := A44) (σ := ⟨call44 lf, cvN, subN⟩) (c := k44) Go.Proofs.Try.func44 ok44 en44 (show 1 ≤ 6 by decide) (by kernel_rfl) (call44_ok lf) cvN_ok (And.intro True.intro (And.intro True.intro True.intro)) ((F44_eq lf e e1 e2 e3 e4 e5 e6 e7 h).trans e_)
def w44 (f : Int → List UInt8 → Int → Int → List UInt8 → List UInt8 → List UInt8 → V → List Ob → Option (V × List Ob)) (vs : List V) (h : List Ob) : Option (V × List Ob) := castCons vs fun c1 l1 => castAgg c1 fun n2 => castCons n2 fun c3 l3 => castInt .i64 c3 fun n4 => castCons l3 fun c5 l5 => castStr c5 fun n6 => castCons l5 fun c7 l7 => castInt .i64 c7 fun n8 => castCons l7 fun c9 l9 => castInt .i64 c9 fun n10 => castCons l9 fun c11 l11 => castStr c11 fun n12 => castCons l11 fun c13 l13 => castStr c13 fun n14 => castCons l13 fun c15 l15 => castStr c15 fun n16 => castCons l15 fun c17 l17 => castNil l17 (castNil l1 (f n4 n6 n8 n10 n12 n14 n16 c17 h))
noncomputable def W44 (lf : Nat) : List V → List Ob → Option (V × List Ob) := w44 (F44 lf)
theorem W44_ok (lf : Nat) : ∀ args h v h', W44 lf args h = some (v, h') → CD Go.Proofs.Try.prog 44 args h v h' := by
  intro vs h r h' e0
  simp only [W44, w44] at e0
  obtain ⟨c1, l1, rfl, e1⟩ := castCons_inv e0
  obtain ⟨l2, rfl, e2⟩ := castAgg_inv e1
  obtain ⟨c3, l3, rfl, e3⟩ := castCons_inv e2
  obtain ⟨y0, rfl, e4⟩ := castInt_inv e3
  obtain ⟨c4, l4, rfl, e5⟩ := castCons_inv e4
  obtain ⟨y1, rfl, e6⟩ := castStr_inv e5
  obtain ⟨c5, l5, rfl, e7⟩ := castCons_inv e6
  obtain ⟨y2, rfl, e8⟩ := castInt_inv e7
  obtain ⟨c6, l6, rfl, e9⟩ := castCons_inv e8
  obtain ⟨y3, rfl, e10⟩ := castInt_inv e9
  obtain ⟨c7, l7, rfl, e11⟩ := castCons_inv e10
  obtain ⟨y4, rfl, e12⟩ := castStr_inv e11
  obtain ⟨c8, l8, rfl, e13⟩ := castCons_inv e12
  obtain ⟨y5, rfl, e14⟩ := castStr_inv e13
  obtain ⟨c9, l9, rfl, e15⟩ := castCons_inv e14
  obtain ⟨y6, rfl, e16⟩ := castStr_inv e15
  obtain ⟨c10, l10, rfl, e17⟩ := castCons_inv e16
  obtain ⟨rfl, e18⟩ := castNil_inv e17
  obtain ⟨rfl, e19⟩ := castNil_inv e18
  have e := e19
  exact F44_ok lf y0 y1 y2 y3 y4 y5 y6 c10 h r h' e

/-! 45: wainscot/wainscotlaw06.Theirs -/
def A45 : List (Nat × Sh) := [(0, (.agg [(.int .i64), .str, (.int .i64), (.int .i64), .str, .str, .str, .any])), (4, (.int .i64)), (6, (.int .i64)), (8, .str), (10, (.agg [(.int .i64), (.int .i64), .str])), (12, .str), (14, .str), (15, (.agg [(.int .i64), .str, (.int .i64), (.int .i64), .str, .str, .str, .any])), (18, (.int .i64)), (19, (.int .i64)), (20, .bool), (21, (.int .i64)), (26, (.int .i64)), (28, (.agg [(.int .i64), .str, (.int .i64), (.int .i64), .str, .str, .str, .any])), (29, (.agg [(.int .i64), .str, (.int .i64), (.int .i64), .str, .str, .str, .any])), (33, (.int .i64)), (34, (.agg [(.int .i64), .str, (.int .i64), (.int .i64), .str, .str, .str, .any]))]
noncomputable def call45 (lf : Nat) (rc : CallS) : CallS := rc
theorem call45_ok (lf : Nat) (rc : CallS) (hrc : CallOk Go.Proofs.Try.prog rc) : CallOk Go.Proofs.Try.prog (call45 lf rc) := hrc
def o45_0 : Outs := [((.exit 0), [], [])]
def k45_0 : KC := (.seq (.reg [⟨(some 20), none, (.op (.bin .lss (.t 19) (.t 18))), []⟩]) (.seq (.cond (.t 20) .skip (.exit 0)) (.seq (.block 1 (.seq (.reg [⟨(some 21), none, (.op (.mv (.t 19))), []⟩, ⟨(some 4), none, (.op (.mv (.t 21))), []⟩]) (.reg [⟨(some 22), none, (.op (.faddr 7 (.t 3))), []⟩, ⟨(some 23), none, (.op (.load1 (.t 22))), []⟩, ⟨(some 24), none, (.op (.faddr 7 (.t 1))), []⟩, ⟨(some 25), none, (.op (.load1 (.t 24))), []⟩, ⟨(some 26), none, (.op (.mv (.t 4))), []⟩, ⟨(some 27), none, (.op (.iaddrL 8 (.t 25) (.t 26))), []⟩, ⟨(some 28), none, (.op (.loadN 8 (.t 27))), []⟩, ⟨(some 29), none, (.call 45 [(.t 28)]), [⟨(some 23), none, (.op (.load1 (.t 22)))⟩, ⟨(some 22), none, (.op (.faddr 7 (.t 3)))⟩]⟩, ⟨(some 30), none, (.op (.bslice 8 (.agg [(.int .i64 0), (.str []), (.int .i64 0), (.int .i64 0), (.str []), (.str []), (.str []), .nils]) 1 [(0, (.t 29))])), [⟨(some 23), none, (.op (.load1 (.t 22)))⟩, ⟨(some 22), none, (.op (.faddr 7 (.t 3)))⟩]⟩, ⟨(some 31), none, (.op (.app 8 112 (.t 23) (.t 30))), []⟩, ⟨(some 32), none, (.op (.faddr 7 (.t 3))), []⟩, ⟨none, none, (.op (.store 1 (.t 32) (.t 31))), []⟩]))) (.reg [⟨(some 33), none, (.op (.bin .add (.t 19) (.c (.int .i64 1)))), []⟩, ⟨(some 19), none, (.op (.mv (.t 33))), []⟩]))))
def w45_0 (f : V → V → Int → Int → List Ob → SubR) (vs : List V) (h : List Ob) : SubR := castCons vs fun c1 l1 => castCons l1 fun c2 l2 => castCons l2 fun c3 l3 => castInt .i64 c3 fun n4 => castCons l3 fun c5 l5 => castInt .i64 c5 fun n6 => castNil l5 (f c1 c2 n4 n6 h)
noncomputable def B45_0 (lf : Nat) (rc : CallS) (self : V → V → Int → Int → List Ob → SubR) (e : V) (out : V) (x18 : Int) (x19 : Int) (h : List Ob) : SubR :=
cB (decide (x19 < x18)) (
bind1 (er (.faddr 7 (.c out)) h) fun x22 =>
bind1 (er (.load1 (.c x22)) h) fun x23 =>
bind1 (er (.faddr 7 (.c e)) h) fun x24 =>
bind1 (er (.load1 (.c x24)) h) fun x25 =>
bind1 (er (.iaddrL 8 (.c x25) (.c (.int .i64 x19))) h) fun x27 =>
bind1 (er (.loadN 8 (.c x27)) h) fun v =>
castAgg v fun l =>
castCons l fun c l1 =>
castInt .i64 c fun x28_0 =>
castCons l1 fun c1 l2 =>
castStr c1 fun x28_1 =>
castCons l2 fun c2 l3 =>
castInt .i64 c2 fun x28_2 =>
castCons l3 fun c3 l4 =>
castInt .i64 c3 fun x28_3 =>
castCons l4 fun c4 l5 =>
castStr c4 fun x28_4 =>
castCons l5 fun c5 l6 =>
castStr c5 fun x28_5 =>
castCons l6 fun c6 l7 =>
castStr c6 fun x28_6 =>
castCons l7 fun x28_7 l8 =>
castNil l8 (
bind2 (rc 45 [(.agg [(.int .i64 x28_0), (.str x28_1), (.int .i64 x28_2), (.int .i64 x28_3), (.str x28_4), (.str x28_5), (.str x28_6), x28_7])] h) fun v1 h_ =>
castAgg v1 fun l9 =>
castCons l9 fun c7 l10 =>
castInt .i64 c7 fun x29_0 =>
castCons l10 fun c8 l11 =>
castStr c8 fun x29_1 =>
castCons l11 fun c9 l12 =>
castInt .i64 c9 fun x29_2 =>
castCons l12 fun c10 l13 =>
castInt .i64 c10 fun x29_3 =>
castCons l13 fun c11 l14 =>
castStr c11 fun x29_4 =>
castCons l14 fun c12 l15 =>
castStr c12 fun x29_5 =>
castCons l15 fun c13 l16 =>
castStr c13 fun x29_6 =>
castCons l16 fun x29_7 l17 =>
castNil l17 (
reP (er (.load1 (.c x22)) h_ = some x23) (
reP (er (.faddr 7 (.c out)) h_ = some x22) (
bind2 (ev (.bslice 8 (.agg [(.int .i64 0), (.str []), (.int .i64 0), (.int .i64 0), (.str []), (.str []), (.str []), .nils]) 1 [(0, (.c (.agg [(.int .i64 x29_0), (.str x29_1), (.int .i64 x29_2), (.int .i64 x29_3), (.str x29_4), (.str x29_5), (.str x29_6), x29_7])))]) h_) fun x30 h_1 =>
reP (er (.load1 (.c x22)) h_1 = some x23) (
reP (er (.faddr 7 (.c out)) h_1 = some x22) (
bind2 (ev (.app 8 112 (.c x23) (.c x30)) h_1) fun x31 h_2 =>
bind1 (er (.faddr 7 (.c out)) h_2) fun x32 =>
bind2 (ev (.store 1 (.c x32) (.c x31)) h_2) fun u h_3 =>
self e out x18 (IntKind.i64.wrap (x19 + (1))) h_3))))))) (
some ((.exit 0), [], h))
noncomputable def L45_0 (lf : Nat) (rc : CallS) : Nat → V → V → Int → Int → List Ob → SubR
  | 0 => fun _ _ _ _ _ => none
  | n + 1 => B45_0 lf rc (L45_0 lf rc n)
theorem B45_0_eq (lf : Nat) (rc : CallS) (self : V → V → Int → Int → List Ob → SubR) (e : V) (out : V) (x18 : Int) (x19 : Int) (h : List Ob) : evCK A45 ⟨call45 lf rc, cvN, subN⟩ k45_0 [(1, e), (3, out), (18, (.int .i64 x18)), (19, (.int .i64 x19))] h (endL [1, 3, 18, 19] [.any, .any, (.int .i64), (.int .i64)] o45_0 (w45_0 self)) = B45_0 lf rc self e out x18 x19 h := by kernel_rfl
theorem L45_0_ok (lf : Nat) (rc : CallS) (hrc : CallOk Go.Proofs.Try.prog rc) : ∀ n, SubOk Go.Proofs.Try.prog (.loop k45_0.er) [1, 3, 18, 19] o45_0 (w45_0 (L45_0 lf rc n)) := by
  refine SubOk.loop (A := A45) (σ := ⟨call45 lf rc, cvN, subN⟩) (c := k45_0) (shs := [.any, .any, (.int .i64), (.int .i64)]) (G := fun n => w45_0 (L45_0 lf rc n)) (call45_ok lf rc hrc) cvN_ok (And.intro True.intro (And.intro (And.intro True.intro True.intro) (And.intro (And.intro True.intro True.intro) True.intro))) ?_ ?_
  · intro vs h r e0
    simp only [w45_0] at e0
    obtain ⟨c1, l1, rfl, e1⟩ := castCons_inv e0
    obtain ⟨c2, l2, rfl, e2⟩ := castCons_inv e1
    obtain ⟨c3, l3, rfl, e3⟩ := castCons_inv e2
    obtain ⟨y2, rfl, e4⟩ := castInt_inv e3
    obtain ⟨c4, l4, rfl, e5⟩ := castCons_inv e4
    obtain ⟨y3, rfl, e6⟩ := castInt_inv e5
    obtain ⟨rfl, e7⟩ := castNil_inv e6
    have e := e7
    cases e
  · intro n vs h r e0
    simp only [w45_0] at e0
    obtain ⟨c1, l1, rfl, e1⟩ := castCons_inv e0
    obtain ⟨c2, l2, rfl, e2⟩ := castCons_inv e1
    obtain ⟨c3, l3, rfl, e3⟩ := castCons_inv e2
    obtain ⟨y2, rfl, e4⟩ := castInt_inv e3
    obtain ⟨c4, l4, rfl, e5⟩ := castCons_inv e4
    obtain ⟨y3, rfl, e6⟩ := castInt_inv e5
    obtain ⟨rfl, e7⟩ := castNil_inv e6
    have e := e7
    exact (B45_0_eq lf rc (L45_0 lf rc n) c1 c2 y2 y3 h).trans e
def k45 : KC := (.seq (.reg [⟨(some 1), none, (.op (.box false (.t 0))), []⟩, ⟨(some 2), none, (.op (.alloc false (.agg [(.int .i64 0), (.str []), (.int .i64 0), (.int .i64 0), (.str []), (.str []), (.str []), .nils]))), []⟩]) (.seq (.reg [⟨(some 5), none, (.op (.faddr 0 (.t 1))), []⟩, ⟨(some 6), none, (.op (.load1 (.t 5))), []⟩, ⟨(some 7), none, (.op (.faddr 1 (.t 1))), []⟩, ⟨(some 8), none, (.op (.load1 (.t 7))), []⟩, ⟨(some 9), none, (.op (.faddr 2 (.t 1))), []⟩, ⟨(some 10), none, (.op (.loadN 3 (.t 9))), []⟩, ⟨(some 11), none, (.op (.faddr 5 (.t 1))), []⟩, ⟨(some 12), none, (.op (.load1 (.t 11))), []⟩, ⟨(some 13), none, (.op (.faddr 6 (.t 1))), []⟩, ⟨(some 14), none, (.op (.load1 (.t 13))), []⟩, ⟨(some 15), none, (.op (.build [(.int .i64 0), (.str []), (.int .i64 0), (.int .i64 0), (.str []), (.str []), (.str []), .nils] [(0, (1, (.t 6))), (1, (1, (.t 8))), (2, (3, (.t 10))), (5, (1, (.t 12))), (6, (1, (.t 14)))])), []⟩, ⟨(some 3), none, (.op (.alloc false (.agg [(.int .i64 0), (.str []), (.int .i64 0), (.int .i64 0), (.str []), (.str []), (.str []), .nils]))), []⟩, ⟨none, none, (.op (.store 8 (.t 3) (.t 15))), []⟩]) (.seq (.seq (.reg [⟨(some 16), none, (.op (.faddr 7 (.t 1))), []⟩, ⟨(some 17), none, (.op (.load1 (.t 16))), []⟩, ⟨(some 18), none, (.op (.lenL (.t 17))), []⟩, ⟨(some 19), none, (.op (.mv (.c (.int .i64 0)))), []⟩]) (.block 0 (.sub 0 (.loop k45_0.er) [1, 3, 18, 19] o45_0))) (.seq (.reg [⟨(some 34), none, (.op (.loadN 8 (.t 3))), []⟩, ⟨none, none, (.op (.store 8 (.t 2) (.t 34))), []⟩]) .ret))))
noncomputable def F45 (lf : Nat) (rc : CallS) (e : Int) (e1 : List UInt8) (e2 : Int) (e3 : Int) (e4 : List UInt8) (e5 : List UInt8) (e6 : List UInt8) (e7 : V) (h : List Ob) : Option (V × List Ob) :=
bind2 (ev (.box false (.c (.agg [(.int .i64 e), (.str e1), (.int .i64 e2), (.int .i64 e3), (.str e4), (.str e5), (.str e6), e7]))) h) fun e8 h_ =>
bind2 (ev (.alloc false (.agg [(.int .i64 0), (.str []), (.int .i64 0), (.int .i64 0), (.str []), (.str []), (.str []), .nils])) h_) fun x2 h_1 =>
bind1 (er (.faddr 0 (.c e8)) h_1) fun x5 =>
bind1 (er (.load1 (.c x5)) h_1) fun v =>
castInt .i64 v fun x6 =>
bind1 (er (.faddr 1 (.c e8)) h_1) fun x7 =>
bind1 (er (.load1 (.c x7)) h_1) fun v1 =>
castStr v1 fun x8 =>
bind1 (er (.faddr 2 (.c e8)) h_1) fun x9 =>
bind1 (er (.loadN 3 (.c x9)) h_1) fun v2 =>
castAgg v2 fun l =>
castCons l fun c l1 =>
castInt .i64 c fun x10_0 =>
castCons l1 fun c1 l2 =>
castInt .i64 c1 fun x10_1 =>
castCons l2 fun c2 l3 =>
castStr c2 fun x10_2 =>
castNil l3 (
bind1 (er (.faddr 5 (.c e8)) h_1) fun x11 =>
bind1 (er (.load1 (.c x11)) h_1) fun v3 =>
castStr v3 fun x12 =>
bind1 (er (.faddr 6 (.c e8)) h_1) fun x13 =>
bind1 (er (.load1 (.c x13)) h_1) fun v4 =>
castStr v4 fun x14 =>
bind1 (er (.build [(.int .i64 0), (.str []), (.int .i64 0), (.int .i64 0), (.str []), (.str []), (.str []), .nils] [(0, (1, (.c (.int .i64 x6)))), (1, (1, (.c (.str x8)))), (2, (3, (.c (.agg [(.int .i64 x10_0), (.int .i64 x10_1), (.str x10_2)])))), (5, (1, (.c (.str x12)))), (6, (1, (.c (.str x14))))]) h_1) fun v5 =>
castAgg v5 fun l4 =>
castCons l4 fun c3 l5 =>
castInt .i64 c3 fun x15_0 =>
castCons l5 fun c4 l6 =>
castStr c4 fun x15_1 =>
castCons l6 fun c5 l7 =>
castInt .i64 c5 fun x15_2 =>
castCons l7 fun c6 l8 =>
castInt .i64 c6 fun x15_3 =>
castCons l8 fun c7 l9 =>
castStr c7 fun x15_4 =>
castCons l9 fun c8 l10 =>
castStr c8 fun x15_5 =>
castCons l10 fun c9 l11 =>
castStr c9 fun x15_6 =>
castCons l11 fun x15_7 l12 =>
castNil l12 (
bind2 (ev (.alloc false (.agg [(.int .i64 0), (.str []), (.int .i64 0), (.int .i64 0), (.str []), (.str []), (.str []), .nils])) h_1) fun out h_2 =>
bind2 (ev (.store 8 (.c out) (.c (.agg [(.int .i64 x15_0), (.str x15_1), (.int .i64 x15_2), (.int .i64 x15_3), (.str x15_4), (.str x15_5), (.str x15_6), x15_7]))) h_2) fun u h_3 =>
bind1 (er (.faddr 7 (.c e8)) h_3) fun x16 =>
bind1 (er (.load1 (.c x16)) h_3) fun x17 =>
bind1 (er (.lenL (.c x17)) h_3) fun v6 =>
castInt .i64 v6 fun x18 =>
bind3 (L45_0 lf rc lf e8 out x18 (0) h_3) fun ex vs h_4 =>
cB (decide (ex = (.exit 0))) (
castNil vs (
bind1 (er (.loadN 8 (.c out)) h_4) fun v7 =>
castAgg v7 fun l13 =>
castCons l13 fun c10 l14 =>
castInt .i64 c10 fun x34_0 =>
castCons l14 fun c11 l15 =>
castStr c11 fun x34_1 =>
castCons l15 fun c12 l16 =>
castInt .i64 c12 fun x34_2 =>
castCons l16 fun c13 l17 =>
castInt .i64 c13 fun x34_3 =>
castCons l17 fun c14 l18 =>
castStr c14 fun x34_4 =>
castCons l18 fun c15 l19 =>
castStr c15 fun x34_5 =>
castCons l19 fun c16 l20 =>
castStr c16 fun x34_6 =>
castCons l20 fun x34_7 l21 =>
castNil l21 (
bind2 (ev (.store 8 (.c x2) (.c (.agg [(.int .i64 x34_0), (.str x34_1), (.int .i64 x34_2), (.int .i64 x34_3), (.str x34_4), (.str x34_5), (.str x34_6), x34_7]))) h_4) fun u1 h_5 =>
bind1 (evLoadN h_5 8 x2) fun r =>
some (r, h_5)))) (
none)))
theorem F45_eq (lf : Nat) (rc : CallS) (e : Int) (e1 : List UInt8) (e2 : Int) (e3 : Int) (e4 : List UInt8) (e5 : List UInt8) (e6 : List UInt8) (e7 : V) (h : List Ob) : evCK A45 ⟨call45 lf rc, cvN, subC 0 (w45_0 (L45_0 lf rc lf)) (subN)⟩ k45 (entryK [(.agg [(.int .i64 e), (.str e1), (.int .i64 e2), (.int .i64 e3), (.str e4), (.str e5), (.str e6), e7])]) h (endF c45.res) = F45 lf rc e e1 e2 e3 e4 e5 e6 e7 h := by kernel_rfl
theorem F45_ok (lf : Nat) (rc : CallS) (hrc : CallOk Go.Proofs.Try.prog rc) (e : Int) (e1 : List UInt8) (e2 : Int) (e3 : Int) (e4 : List UInt8) (e5 : List UInt8) (e6 : List UInt8) (e7 : V) (h : List Ob) (r_ : V) (h_r : List Ob) (e_ : F45 lf rc e e1 e2 e3 e4 e5 e6 e7 h = some (r_, h_r)) : CD Go.Proofs.Try.prog 45 [(.agg [(.int .i64 e), (.str e1), (.int .i64 e2), (.int .i64 e3), (.str e4), (.str e5), (.str e6), e7])] h r_ h_r :=
  CD.ofK (A := A45) (σ := ⟨call45 lf rc, cvN, subC 0 (w45_0 (L45_0 lf rc lf)) (subN)⟩) (c := k45) Go.Proofs.Try.func45 ok45 en45 (show 1 ≤ 35 by decide) (by kernel_rfl) (call45_ok lf rc hrc) cvN_ok (And.intro True.intro (And.intro True.intro (And.intro (And.intro True.intro (L45_0_ok lf rc hrc lf)) (And.intro True.intro True.intro)))) ((F45_eq lf rc e e1 e2 e3 e4 e5 e6 e7 h).trans e_)
def w45 (f : Int → List UInt8 → Int → Int → List UInt8 → List UInt8 → List UInt8 → V → List Ob → Option (V × List Ob)) (vs : List V) (h : List Ob) : Option (V × List Ob) := castCons vs fun c1 l1 => castAgg c1 fun n2 => castCons n2 fun c3 l3 => castInt .i64 c3 fun n4 => castCons l3 fun c5 l5 => castStr c5 fun n6 => castCons l5 fun c7 l7 => castInt .i64 c7 fun n8 => castCons l7 fun c9 l9 => castInt .i64 c9 fun n10 => castCons l9 fun c11 l11 => castStr c11 fun n12 => castCons l11 fun c13 l13 => castStr c13 fun n14 => castCons l13 fun c15 l15 => castStr c15 fun n16 => castCons l15 fun c17 l17 => castNil l17 (castNil l1 (f n4 n6 n8 n10 n12 n14 n16 c17 h))
noncomputable def W45 (lf : Nat) (rc : CallS) : List V → List Ob → Option (V × List Ob) := w45 (F45 lf rc)
theorem W45_ok (lf : Nat) (rc : CallS) (hrc : CallOk Go.Proofs.Try.prog rc) : ∀ args h v h', W45 lf rc args h = some (v, h') → CD Go.Proofs.Try.prog 45 args h v h' := by
  intro vs h r h' e0
  simp only [W45, w45] at e0
  obtain ⟨c1, l1, rfl, e1⟩ := castCons_inv e0
  obtain ⟨l2, rfl, e2⟩ := castAgg_inv e1
  obtain ⟨c3, l3, rfl, e3⟩ := castCons_inv e2
  obtain ⟨y0, rfl, e4⟩ := castInt_inv e3
  obtain ⟨c4, l4, rfl, e5⟩ := castCons_inv e4
  obtain ⟨y1, rfl, e6⟩ := castStr_inv e5
  obtain ⟨c5, l5, rfl, e7⟩ := castCons_inv e6
  obtain ⟨y2, rfl, e8⟩ := castInt_inv e7
  obtain ⟨c6, l6, rfl, e9⟩ := castCons_inv e8
  obtain ⟨y3, rfl, e10⟩ := castInt_inv e9
  obtain ⟨c7, l7, rfl, e11⟩ := castCons_inv e10
  obtain ⟨y4, rfl, e12⟩ := castStr_inv e11
  obtain ⟨c8, l8, rfl, e13⟩ := castCons_inv e12
  obtain ⟨y5, rfl, e14⟩ := castStr_inv e13
  obtain ⟨c9, l9, rfl, e15⟩ := castCons_inv e14
  obtain ⟨y6, rfl, e16⟩ := castStr_inv e15
  obtain ⟨c10, l10, rfl, e17⟩ := castCons_inv e16
  obtain ⟨rfl, e18⟩ := castNil_inv e17
  obtain ⟨rfl, e19⟩ := castNil_inv e18
  have e := e19
  exact F45_ok lf rc hrc y0 y1 y2 y3 y4 y5 y6 c10 h r h' e

/-- What calls itself, so many times: wainscot/wainscotlaw06.Theirs. -/
noncomputable def R45 (lf : Nat) : Nat → CallS
  | 0 => callN
  | n + 1 => callC 45 (W45 lf (R45 lf n)) (callN)
theorem R45_ok (lf : Nat) : ∀ n, CallOk Go.Proofs.Try.prog (R45 lf n)
  | 0 => callN_ok
  | n + 1 => callC_ok (W45_ok lf (R45 lf n) (R45_ok lf n)) (callN_ok)

/-! 114: wainscot/value.Formed -/
def A114 : List (Nat × Sh) := [(0, (.agg [(.int .i64), (.int .i64), .str])), (2, .bool), (4, (.int .i64)), (5, .bool), (6, .bool), (7, (.agg [(.int .i64), (.int .i64), .str])), (8, (.agg [(.int .i64), (.int .i64), .str])), (9, .bool), (10, .bool), (11, .bool), (13, .str), (14, .bool), (15, .bool), (16, .bool), (18, (.int .i64)), (19, .bool), (20, .bool), (22, .str), (23, (.int .i64)), (24, .bool), (25, .bool)]
noncomputable def call114 (lf : Nat) : CallS := callN
theorem call114_ok (lf : Nat) : CallOk Go.Proofs.Try.prog (call114 lf) := callN_ok
def k114 : KC := (.seq (.reg [⟨(some 1), none, (.op (.box false (.t 0))), []⟩, ⟨(some 2), none, (.op (.mv (.c (.bool false)))), []⟩]) (.seq (.seq (.reg [⟨(some 3), none, (.op (.faddr 0 (.t 1))), []⟩, ⟨(some 4), none, (.op (.load1 (.t 3))), []⟩]) (.block 0 (.seq (.reg [⟨(some 6), none, (.op (.bin .eql (.t 4) (.c (.int .i64 0)))), []⟩, ⟨(some 5), none, (.op (.mv (.t 6))), []⟩]) (.cond (.t 5) (.seq (.reg [⟨(some 7), none, (.op (.loadN 3 (.t 1))), []⟩, ⟨(some 8), none, (.op (.build [(.int .i64 0), (.int .i64 0), (.str [])] [])), []⟩, ⟨(some 9), none, (.op (.eq false (.struct 3 [(0, .i), (1, .i), (2, .s)]) (.t 7) (.t 8))), []⟩, ⟨(some 2), none, (.op (.mv (.t 9))), []⟩]) .ret) (.seq (.reg [⟨(some 11), none, (.op (.bin .eql (.t 4) (.c (.int .i64 1)))), []⟩, ⟨(some 10), none, (.op (.mv (.t 11))), []⟩]) (.cond (.t 10) (.seq (.reg [⟨(some 12), none, (.op (.faddr 2 (.t 1))), []⟩, ⟨(some 13), none, (.op (.load1 (.t 12))), []⟩, ⟨(some 14), none, (.op (.bin .eql (.t 13) (.c (.str [])))), []⟩, ⟨(some 2), none, (.op (.mv (.t 14))), []⟩]) .ret) (.seq (.reg [⟨(some 16), none, (.op (.bin .eql (.t 4) (.c (.int .i64 2)))), []⟩, ⟨(some 15), none, (.op (.mv (.t 16))), []⟩]) (.cond (.t 15) (.seq (.reg [⟨(some 17), none, (.op (.faddr 1 (.t 1))), []⟩, ⟨(some 18), none, (.op (.load1 (.t 17))), []⟩, ⟨(some 19), none, (.op (.bin .eql (.t 18) (.c (.int .i64 0)))), []⟩, ⟨(some 20), none, (.op (.mv (.t 19))), []⟩, ⟨(some 21), (some (20, true)), (.op (.faddr 2 (.t 1))), []⟩, ⟨(some 22), (some (20, true)), (.op (.load1 (.t 21))), []⟩, ⟨(some 23), (some (20, true)), (.op (.lenS (.t 22))), []⟩, ⟨(some 24), (some (20, true)), (.op (.bin .leq (.t 23) (.c (.int .i64 100)))), []⟩, ⟨(some 25), none, (.op (.pick (.t 20) (.t 24) (.c (.bool false)))), []⟩, ⟨(some 2), none, (.op (.mv (.t 25))), []⟩]) .ret) .skip)))))))) (.seq (.reg [⟨(some 2), none, (.op (.mv (.c (.bool false)))), []⟩]) .ret)))
noncomputable def F114 (lf : Nat) (v : Int) (v1 : Int) (v2 : List UInt8) (h : List Ob) : Option (V × List Ob) :=
bind2 (ev (.box false (.c (.agg [(.int .i64 v), (.int .i64 v1), (.str v2)]))) h) fun v3 h_ =>
bind1 (er (.faddr 0 (.c v3)) h_) fun x3 =>
bind1 (er (.load1 (.c x3)) h_) fun v4 =>
castInt .i64 v4 fun x4 =>
cB (x4 == (0)) (
bind1 (er (.loadN 3 (.c v3)) h_) fun v5 =>
castAgg v5 fun l =>
castCons l fun c l1 =>
castInt .i64 c fun x7_0 =>
castCons l1 fun c1 l2 =>
castInt .i64 c1 fun x7_1 =>
castCons l2 fun c2 l3 =>
castStr c2 fun x7_2 =>
castNil l3 (
bind1 (er (.build [(.int .i64 0), (.int .i64 0), (.str [])] []) h_) fun v6 =>
castAgg v6 fun l4 =>
castCons l4 fun c3 l5 =>
castInt .i64 c3 fun x8_0 =>
castCons l5 fun c4 l6 =>
castInt .i64 c4 fun x8_1 =>
castCons l6 fun c5 l7 =>
castStr c5 fun x8_2 =>
castNil l7 (
bind1 (er (.eq false (.struct 3 [(0, .i), (1, .i), (2, .s)]) (.c (.agg [(.int .i64 x7_0), (.int .i64 x7_1), (.str x7_2)])) (.c (.agg [(.int .i64 x8_0), (.int .i64 x8_1), (.str x8_2)]))) h_) fun v7 =>
castBool v7 fun x9 =>
some ((.bool x9), h_)))) (
cB (x4 == (1)) (
bind1 (er (.faddr 2 (.c v3)) h_) fun x12 =>
bind1 (er (.load1 (.c x12)) h_) fun v5 =>
castStr v5 fun x13 =>
some ((.bool (x13 == ([] : List UInt8))), h_)) (
cB (x4 == (2)) (
bind1 (er (.faddr 1 (.c v3)) h_) fun x17 =>
bind1 (er (.load1 (.c x17)) h_) fun v5 =>
castInt .i64 v5 fun x18 =>
cB (x18 == (0)) (
bind1 (er (.faddr 2 (.c v3)) h_) fun x21 =>
bind1 (er (.load1 (.c x21)) h_) fun v6 =>
castStr v6 fun x22 =>
some ((.bool (decide (((x22).length : Int) ≤ (100)))), h_)) (
some ((.bool false), h_))) (
some ((.bool false), h_))))
theorem F114_eq (lf : Nat) (v : Int) (v1 : Int) (v2 : List UInt8) (h : List Ob) : evCK A114 ⟨call114 lf, cvN, subN⟩ k114 (entryK [(.agg [(.int .i64 v), (.int .i64 v1), (.str v2)])]) h (endF c114.res) = F114 lf v v1 v2 h := by kernel_rfl
theorem F114_ok (lf : Nat) (v : Int) (v1 : Int) (v2 : List UInt8) (h : List Ob) (r_ : V) (h_r : List Ob) (e_ : F114 lf v v1 v2 h = some (r_, h_r)) : CD Go.Proofs.Try.prog 114 [(.agg [(.int .i64 v), (.int .i64 v1), (.str v2)])] h r_ h_r :=
  CD.ofK (A := A114) (σ := ⟨call114 lf, cvN, subN⟩) (c := k114) Go.Proofs.Try.func114 ok114 en114 (show 1 ≤ 26 by decide) (by kernel_rfl) (call114_ok lf) cvN_ok (And.intro True.intro (And.intro (And.intro True.intro (And.intro True.intro (And.intro (And.intro True.intro True.intro) (And.intro True.intro (And.intro (And.intro True.intro True.intro) (And.intro True.intro (And.intro (And.intro True.intro True.intro) True.intro))))))) (And.intro True.intro True.intro))) ((F114_eq lf v v1 v2 h).trans e_)
def w114 (f : Int → Int → List UInt8 → List Ob → Option (V × List Ob)) (vs : List V) (h : List Ob) : Option (V × List Ob) := castCons vs fun c1 l1 => castAgg c1 fun n2 => castCons n2 fun c3 l3 => castInt .i64 c3 fun n4 => castCons l3 fun c5 l5 => castInt .i64 c5 fun n6 => castCons l5 fun c7 l7 => castStr c7 fun n8 => castNil l7 (castNil l1 (f n4 n6 n8 h))
noncomputable def W114 (lf : Nat) : List V → List Ob → Option (V × List Ob) := w114 (F114 lf)
theorem W114_ok (lf : Nat) : ∀ args h v h', W114 lf args h = some (v, h') → CD Go.Proofs.Try.prog 114 args h v h' := by
  intro vs h r h' e0
  simp only [W114, w114] at e0
  obtain ⟨c1, l1, rfl, e1⟩ := castCons_inv e0
  obtain ⟨l2, rfl, e2⟩ := castAgg_inv e1
  obtain ⟨c3, l3, rfl, e3⟩ := castCons_inv e2
  obtain ⟨y0, rfl, e4⟩ := castInt_inv e3
  obtain ⟨c4, l4, rfl, e5⟩ := castCons_inv e4
  obtain ⟨y1, rfl, e6⟩ := castInt_inv e5
  obtain ⟨c5, l5, rfl, e7⟩ := castCons_inv e6
  obtain ⟨y2, rfl, e8⟩ := castStr_inv e7
  obtain ⟨rfl, e9⟩ := castNil_inv e8
  obtain ⟨rfl, e10⟩ := castNil_inv e9
  have e := e10
  exact F114_ok lf y0 y1 y2 h r h' e

/-! 115: wainscot/expr.level -/
def A115 : List (Nat × Sh) := [(0, .str), (2, (.int .i64)), (3, .str), (4, .bool), (5, .bool), (6, .bool), (7, .bool), (8, .bool), (9, .bool), (10, .bool), (11, .bool), (12, .bool), (13, .bool), (14, .bool), (15, .bool), (16, .bool), (17, .bool), (18, .bool), (19, .bool)]
noncomputable def call115 (lf : Nat) : CallS := callN
theorem call115_ok (lf : Nat) : CallOk Go.Proofs.Try.prog (call115 lf) := callN_ok
def o115_0 : Outs := [(.normal, [8], [.bool])]
def k115_0 : KC := (.seq (.reg [⟨(some 9), none, (.op (.bin .eql (.t 3) (.c (.str [61])))), []⟩, ⟨(some 8), none, (.op (.mv (.t 9))), []⟩]) (.cond (.t 8) .skip (.seq (.reg [⟨(some 10), none, (.op (.bin .eql (.t 3) (.c (.str [60, 62])))), []⟩, ⟨(some 8), none, (.op (.mv (.t 10))), []⟩]) (.cond (.t 8) .skip (.seq (.reg [⟨(some 11), none, (.op (.bin .eql (.t 3) (.c (.str [60])))), []⟩, ⟨(some 8), none, (.op (.mv (.t 11))), []⟩]) (.cond (.t 8) .skip (.seq (.reg [⟨(some 12), none, (.op (.bin .eql (.t 3) (.c (.str [60, 61])))), []⟩, ⟨(some 8), none, (.op (.mv (.t 12))), []⟩]) (.cond (.t 8) .skip (.seq (.reg [⟨(some 13), none, (.op (.bin .eql (.t 3) (.c (.str [62])))), []⟩, ⟨(some 8), none, (.op (.mv (.t 13))), []⟩]) (.cond (.t 8) .skip (.reg [⟨(some 14), none, (.op (.bin .eql (.t 3) (.c (.str [62, 61])))), []⟩, ⟨(some 8), none, (.op (.mv (.t 14))), []⟩])))))))))))
def w115_0 (f : List UInt8 → List Ob → SubR) (vs : List V) (h : List Ob) : SubR := castCons vs fun c1 l1 => castStr c1 fun n2 => castNil l1 (f n2 h)
noncomputable def S115_0 (lf : Nat) (x3 : List UInt8) (h : List Ob) : SubR :=
cB (x3 == [61]) (
some (.normal, [(.bool true)], h)) (
cB (x3 == [60, 62]) (
some (.normal, [(.bool true)], h)) (
cB (x3 == [60]) (
some (.normal, [(.bool true)], h)) (
cB (x3 == [60, 61]) (
some (.normal, [(.bool true)], h)) (
cB (x3 == [62]) (
some (.normal, [(.bool true)], h)) (
some (.normal, [(.bool (x3 == [62, 61]))], h))))))
theorem S115_0_eq (lf : Nat) (x3 : List UInt8) (h : List Ob) : evCK A115 ⟨call115 lf, cvN, subN⟩ k115_0 [(3, (.str x3))] h (endK o115_0) = S115_0 lf x3 h := by kernel_rfl
theorem S115_0_ok (lf : Nat) : SubOk Go.Proofs.Try.prog k115_0.er [3] o115_0 (w115_0 (S115_0 lf)) := by
  refine SubOk.of (A := A115) (σ := ⟨call115 lf, cvN, subN⟩) (c := k115_0) (call115_ok lf) cvN_ok (And.intro True.intro (And.intro True.intro (And.intro True.intro (And.intro True.intro (And.intro True.intro (And.intro True.intro (And.intro True.intro (And.intro True.intro (And.intro True.intro (And.intro True.intro True.intro)))))))))) ?_
  intro vs h r e0
  simp only [w115_0] at e0
  obtain ⟨c1, l1, rfl, e1⟩ := castCons_inv e0
  obtain ⟨y0, rfl, e2⟩ := castStr_inv e1
  obtain ⟨rfl, e3⟩ := castNil_inv e2
  have e := e3
  exact (S115_0_eq lf y0 h).trans e
def k115 : KC := (.seq (.reg [⟨(some 2), none, (.op (.mv (.c (.int .i64 0)))), []⟩]) (.seq (.seq (.reg [⟨(some 3), none, (.op (.mv (.t 0))), []⟩]) (.block 0 (.seq (.reg [⟨(some 5), none, (.op (.bin .eql (.t 3) (.c (.str [79, 82])))), []⟩, ⟨(some 4), none, (.op (.mv (.t 5))), []⟩]) (.cond (.t 4) (.seq (.reg [⟨(some 2), none, (.op (.mv (.c (.int .i64 0)))), []⟩]) .ret) (.seq (.reg [⟨(some 7), none, (.op (.bin .eql (.t 3) (.c (.str [65, 78, 68])))), []⟩, ⟨(some 6), none, (.op (.mv (.t 7))), []⟩]) (.cond (.t 6) (.seq (.reg [⟨(some 2), none, (.op (.mv (.c (.int .i64 1)))), []⟩]) .ret) (.seq (.sub 0 k115_0.er [3] o115_0) (.cond (.t 8) (.seq (.reg [⟨(some 2), none, (.op (.mv (.c (.int .i64 3)))), []⟩]) .ret) (.seq (.seq (.reg [⟨(some 16), none, (.op (.bin .eql (.t 3) (.c (.str [43])))), []⟩, ⟨(some 15), none, (.op (.mv (.t 16))), []⟩]) (.cond (.t 15) .skip (.reg [⟨(some 17), none, (.op (.bin .eql (.t 3) (.c (.str [45])))), []⟩, ⟨(some 15), none, (.op (.mv (.t 17))), []⟩]))) (.cond (.t 15) (.seq (.reg [⟨(some 2), none, (.op (.mv (.c (.int .i64 4)))), []⟩]) .ret) (.seq (.reg [⟨(some 19), none, (.op (.bin .eql (.t 3) (.c (.str [42])))), []⟩, ⟨(some 18), none, (.op (.mv (.t 19))), []⟩]) (.cond (.t 18) (.seq (.reg [⟨(some 2), none, (.op (.mv (.c (.int .i64 5)))), []⟩]) .ret) .skip)))))))))))) (.seq (.reg [⟨(some 2), none, (.op (.mv (.c (.int .i64 7)))), []⟩]) .ret)))
noncomputable def F115 (lf : Nat) (op : List UInt8) (h : List Ob) : Option (V × List Ob) :=
cB (op == [79, 82]) (
some ((.int .i64 (0)), h)) (
cB (op == [65, 78, 68]) (
some ((.int .i64 (1)), h)) (
bind3 (S115_0 lf op h) fun ex vs h_ =>
cB (decide (ex = .normal)) (
castCons vs fun c l =>
castBool c fun x8 =>
castNil l (
cB x8 (
some ((.int .i64 (3)), h_)) (
cB (op == [43]) (
some ((.int .i64 (4)), h_)) (
cB (op == [45]) (
some ((.int .i64 (4)), h_)) (
cB (op == [42]) (
some ((.int .i64 (5)), h_)) (
some ((.int .i64 (7)), h_))))))) (
none)))
theorem F115_eq (lf : Nat) (op : List UInt8) (h : List Ob) : evCK A115 ⟨call115 lf, cvN, subC 0 (w115_0 (S115_0 lf)) (subN)⟩ k115 (entryK [(.str op)]) h (endF c115.res) = F115 lf op h := by kernel_rfl
theorem F115_ok (lf : Nat) (op : List UInt8) (h : List Ob) (r_ : V) (h_r : List Ob) (e_ : F115 lf op h = some (r_, h_r)) : CD Go.Proofs.Try.prog 115 [(.str op)] h r_ h_r :=
  CD.ofK (A := A115) (σ := ⟨call115 lf, cvN, subC 0 (w115_0 (S115_0 lf)) (subN)⟩) (c := k115) Go.Proofs.Try.func115 ok115 en115 (show 1 ≤ 20 by decide) (by kernel_rfl) (call115_ok lf) cvN_ok (And.intro True.intro (And.intro (And.intro True.intro (And.intro True.intro (And.intro (And.intro True.intro True.intro) (And.intro True.intro (And.intro (And.intro True.intro True.intro) (And.intro (S115_0_ok lf) (And.intro (And.intro True.intro True.intro) (And.intro (And.intro True.intro (And.intro True.intro True.intro)) (And.intro (And.intro True.intro True.intro) (And.intro True.intro (And.intro (And.intro True.intro True.intro) True.intro))))))))))) (And.intro True.intro True.intro))) ((F115_eq lf op h).trans e_)
def w115 (f : List UInt8 → List Ob → Option (V × List Ob)) (vs : List V) (h : List Ob) : Option (V × List Ob) := castCons vs fun c1 l1 => castStr c1 fun n2 => castNil l1 (f n2 h)
noncomputable def W115 (lf : Nat) : List V → List Ob → Option (V × List Ob) := w115 (F115 lf)
theorem W115_ok (lf : Nat) : ∀ args h v h', W115 lf args h = some (v, h') → CD Go.Proofs.Try.prog 115 args h v h' := by
  intro vs h r h' e0
  simp only [W115, w115] at e0
  obtain ⟨c1, l1, rfl, e1⟩ := castCons_inv e0
  obtain ⟨y0, rfl, e2⟩ := castStr_inv e1
  obtain ⟨rfl, e3⟩ := castNil_inv e2
  have e := e3
  exact F115_ok lf y0 h r h' e

/-! 95: slices.Index[[]string,string] -/
def A95 : List (Nat × Sh) := [(1, .str), (4, (.int .i64)), (5, (.int .i64)), (7, (.int .i64)), (8, (.int .i64)), (9, .bool), (10, (.int .i64)), (11, .str), (13, (.int .i64)), (15, .str), (16, .bool), (17, (.int .i64)), (18, (.int .i64))]
noncomputable def call95 (lf : Nat) : CallS := callN
theorem call95_ok (lf : Nat) : CallOk Go.Proofs.Try.prog (call95 lf) := callN_ok
def o95_0 : Outs := [((.exit 0), [], []), (.ret, [4], [(.int .i64)])]
def k95_0 : KC := (.seq (.reg [⟨(some 9), none, (.op (.bin .lss (.t 8) (.t 7))), []⟩]) (.seq (.cond (.t 9) .skip (.exit 0)) (.seq (.block 1 (.seq (.reg [⟨(some 10), none, (.op (.mv (.t 8))), []⟩, ⟨(some 5), none, (.op (.mv (.t 10))), []⟩]) (.seq (.reg [⟨(some 11), none, (.op (.mv (.t 1))), []⟩, ⟨(some 12), none, (.op (.mv (.t 0))), []⟩, ⟨(some 13), none, (.op (.mv (.t 5))), []⟩, ⟨(some 14), none, (.op (.iaddrL 1 (.t 12) (.t 13))), []⟩, ⟨(some 15), none, (.op (.load1 (.t 14))), []⟩, ⟨(some 16), none, (.op (.bin .eql (.t 11) (.t 15))), []⟩]) (.cond (.t 16) (.seq (.reg [⟨(some 17), none, (.op (.mv (.t 5))), []⟩, ⟨(some 4), none, (.op (.mv (.t 17))), []⟩]) .ret) .skip)))) (.reg [⟨(some 18), none, (.op (.bin .add (.t 8) (.c (.int .i64 1)))), []⟩, ⟨(some 8), none, (.op (.mv (.t 18))), []⟩]))))
def w95_0 (f : V → List UInt8 → Int → Int → List Ob → SubR) (vs : List V) (h : List Ob) : SubR := castCons vs fun c1 l1 => castCons l1 fun c2 l2 => castStr c2 fun n3 => castCons l2 fun c4 l4 => castInt .i64 c4 fun n5 => castCons l4 fun c6 l6 => castInt .i64 c6 fun n7 => castNil l6 (f c1 n3 n5 n7 h)
noncomputable def B95_0 (lf : Nat) (self : V → List UInt8 → Int → Int → List Ob → SubR) (s : V) (v : List UInt8) (x7 : Int) (x8 : Int) (h : List Ob) : SubR :=
cB (decide (x8 < x7)) (
bind1 (er (.iaddrL 1 (.c s) (.c (.int .i64 x8))) h) fun x14 =>
bind1 (er (.load1 (.c x14)) h) fun v1 =>
castStr v1 fun x15 =>
cB (v == x15) (
some (.ret, [(.int .i64 x8)], h)) (
self s v x7 (IntKind.i64.wrap (x8 + (1))) h)) (
some ((.exit 0), [], h))
noncomputable def L95_0 (lf : Nat) : Nat → V → List UInt8 → Int → Int → List Ob → SubR
  | 0 => fun _ _ _ _ _ => none
  | n + 1 => B95_0 lf (L95_0 lf n)
theorem B95_0_eq (lf : Nat) (self : V → List UInt8 → Int → Int → List Ob → SubR) (s : V) (v : List UInt8) (x7 : Int) (x8 : Int) (h : List Ob) : evCK A95 ⟨call95 lf, cvN, subN⟩ k95_0 [(0, s), (1, (.str v)), (7, (.int .i64 x7)), (8, (.int .i64 x8))] h (endL [0, 1, 7, 8] [.any, .str, (.int .i64), (.int .i64)] o95_0 (w95_0 self)) = B95_0 lf self s v x7 x8 h := by kernel_rfl
theorem L95_0_ok (lf : Nat) : ∀ n, SubOk Go.Proofs.Try.prog (.loop k95_0.er) [0, 1, 7, 8] o95_0 (w95_0 (L95_0 lf n)) := by
  refine SubOk.loop (A := A95) (σ := ⟨call95 lf, cvN, subN⟩) (c := k95_0) (shs := [.any, .str, (.int .i64), (.int .i64)]) (G := fun n => w95_0 (L95_0 lf n)) (call95_ok lf) cvN_ok (And.intro True.intro (And.intro (And.intro True.intro True.intro) (And.intro (And.intro True.intro (And.intro True.intro (And.intro (And.intro True.intro True.intro) True.intro))) True.intro))) ?_ ?_
  · intro vs h r e0
    simp only [w95_0] at e0
    obtain ⟨c1, l1, rfl, e1⟩ := castCons_inv e0
    obtain ⟨c2, l2, rfl, e2⟩ := castCons_inv e1
    obtain ⟨y1, rfl, e3⟩ := castStr_inv e2
    obtain ⟨c3, l3, rfl, e4⟩ := castCons_inv e3
    obtain ⟨y2, rfl, e5⟩ := castInt_inv e4
    obtain ⟨c4, l4, rfl, e6⟩ := castCons_inv e5
    obtain ⟨y3, rfl, e7⟩ := castInt_inv e6
    obtain ⟨rfl, e8⟩ := castNil_inv e7
    have e := e8
    cases e
  · intro n vs h r e0
    simp only [w95_0] at e0
    obtain ⟨c1, l1, rfl, e1⟩ := castCons_inv e0
    obtain ⟨c2, l2, rfl, e2⟩ := castCons_inv e1
    obtain ⟨y1, rfl, e3⟩ := castStr_inv e2
    obtain ⟨c3, l3, rfl, e4⟩ := castCons_inv e3
    obtain ⟨y2, rfl, e5⟩ := castInt_inv e4
    obtain ⟨c4, l4, rfl, e6⟩ := castCons_inv e5
    obtain ⟨y3, rfl, e7⟩ := castInt_inv e6
    obtain ⟨rfl, e8⟩ := castNil_inv e7
    have e := e8
    exact (B95_0_eq lf (L95_0 lf n) c1 y1 y2 y3 h).trans e
def k95 : KC := (.seq (.reg [⟨(some 4), none, (.op (.mv (.c (.int .i64 0)))), []⟩]) (.seq (.seq (.reg [⟨(some 6), none, (.op (.mv (.t 0))), []⟩, ⟨(some 7), none, (.op (.lenL (.t 6))), []⟩, ⟨(some 8), none, (.op (.mv (.c (.int .i64 0)))), []⟩]) (.block 0 (.sub 0 (.loop k95_0.er) [0, 1, 7, 8] o95_0))) (.seq (.reg [⟨(some 4), none, (.op (.mv (.c (.int .i64 (-0 - 1))))), []⟩]) .ret)))
noncomputable def F95 (lf : Nat) (s : V) (v : List UInt8) (h : List Ob) : Option (V × List Ob) :=
bind1 (er (.lenL (.c s)) h) fun v1 =>
castInt .i64 v1 fun x7 =>
bind3 (L95_0 lf lf s v x7 (0) h) fun ex vs h_ =>
cB (decide (ex = (.exit 0))) (
castNil vs (
some ((.int .i64 (-1)), h_))) (
cB (decide (ex = .ret)) (
castCons vs fun c l =>
castInt .i64 c fun x4 =>
castNil l (
some ((.int .i64 x4), h_))) (
none))
theorem F95_eq (lf : Nat) (s : V) (v : List UInt8) (h : List Ob) : evCK A95 ⟨call95 lf, cvN, subC 0 (w95_0 (L95_0 lf lf)) (subN)⟩ k95 (entryK [s, (.str v)]) h (endF c95.res) = F95 lf s v h := by kernel_rfl
theorem F95_ok (lf : Nat) (s : V) (v : List UInt8) (h : List Ob) (r_ : V) (h_r : List Ob) (e_ : F95 lf s v h = some (r_, h_r)) : CD Go.Proofs.Try.prog 95 [s, (.str v)] h r_ h_r :=
  CD.ofK (A := A95) (σ := ⟨call95 lf, cvN, subC 0 (w95_0 (L95_0 lf lf)) (subN)⟩) (c := k95) Go.Proofs.Try.func95 ok95 en95 (show 2 ≤ 19 by decide) (by kernel_rfl) (call95_ok lf) cvN_ok (And.intro True.intro (And.intro (And.intro True.intro (L95_0_ok lf lf)) (And.intro True.intro True.intro))) ((F95_eq lf s v h).trans e_)
def w95 (f : V → List UInt8 → List Ob → Option (V × List Ob)) (vs : List V) (h : List Ob) : Option (V × List Ob) := castCons vs fun c1 l1 => castCons l1 fun c2 l2 => castStr c2 fun n3 => castNil l2 (f c1 n3 h)
noncomputable def W95 (lf : Nat) : List V → List Ob → Option (V × List Ob) := w95 (F95 lf)
theorem W95_ok (lf : Nat) : ∀ args h v h', W95 lf args h = some (v, h') → CD Go.Proofs.Try.prog 95 args h v h' := by
  intro vs h r h' e0
  simp only [W95, w95] at e0
  obtain ⟨c1, l1, rfl, e1⟩ := castCons_inv e0
  obtain ⟨c2, l2, rfl, e2⟩ := castCons_inv e1
  obtain ⟨y1, rfl, e3⟩ := castStr_inv e2
  obtain ⟨rfl, e4⟩ := castNil_inv e3
  have e := e4
  exact F95_ok lf c1 y1 h r h' e

/-! 73: slices.Contains[[]string,string] -/
def A73 : List (Nat × Sh) := [(1, .str), (4, .bool), (6, .str), (7, (.int .i64)), (8, .bool)]
noncomputable def call73 (lf : Nat) : CallS := callC 95 (W95 lf) (callN)
theorem call73_ok (lf : Nat) : CallOk Go.Proofs.Try.prog (call73 lf) := callC_ok (W95_ok lf) (callN_ok)
def k73 : KC := (.seq (.reg [⟨(some 4), none, (.op (.mv (.c (.bool false)))), []⟩]) (.seq (.reg [⟨(some 5), none, (.op (.mv (.t 0))), []⟩, ⟨(some 6), none, (.op (.mv (.t 1))), []⟩, ⟨(some 7), none, (.call 95 [(.t 5), (.t 6)]), []⟩, ⟨(some 8), none, (.op (.bin .geq (.t 7) (.c (.int .i64 0)))), []⟩, ⟨(some 4), none, (.op (.mv (.t 8))), []⟩]) .ret))
noncomputable def F73 (lf : Nat) (s : V) (v : List UInt8) (h : List Ob) : Option (V × List Ob) :=
bind2 (F95 lf s v h) fun v1 h_ =>
castInt .i64 v1 fun x7 =>
some ((.bool (decide (x7 ≥ (0)))), h_)
theorem F73_eq (lf : Nat) (s : V) (v : List UInt8) (h : List Ob) : evCK A73 ⟨call73 lf, cvN, subN⟩ k73 (entryK [s, (.str v)]) h (endF c73.res) = F73 lf s v h := by kernel_rfl
theorem F73_ok (lf : Nat) (s : V) (v : List UInt8) (h : List Ob) (r_ : V) (h_r : List Ob) (e_ : F73 lf s v h = some (r_, h_r)) : CD Go.Proofs.Try.prog 73 [s, (.str v)] h r_ h_r :=
  CD.ofK (A := A73) (σ := ⟨call73 lf, cvN, subN⟩) (c := k73) Go.Proofs.Try.func73 ok73 en73 (show 2 ≤ 9 by decide) (by kernel_rfl) (call73_ok lf) cvN_ok (And.intro True.intro (And.intro True.intro True.intro)) ((F73_eq lf s v h).trans e_)
def w73 (f : V → List UInt8 → List Ob → Option (V × List Ob)) (vs : List V) (h : List Ob) : Option (V × List Ob) := castCons vs fun c1 l1 => castCons l1 fun c2 l2 => castStr c2 fun n3 => castNil l2 (f c1 n3 h)
noncomputable def W73 (lf : Nat) : List V → List Ob → Option (V × List Ob) := w73 (F73 lf)
theorem W73_ok (lf : Nat) : ∀ args h v h', W73 lf args h = some (v, h') → CD Go.Proofs.Try.prog 73 args h v h' := by
  intro vs h r h' e0
  simp only [W73, w73] at e0
  obtain ⟨c1, l1, rfl, e1⟩ := castCons_inv e0
  obtain ⟨c2, l2, rfl, e2⟩ := castCons_inv e1
  obtain ⟨y1, rfl, e3⟩ := castStr_inv e2
  obtain ⟨rfl, e4⟩ := castNil_inv e3
  have e := e4
  exact F73_ok lf c1 y1 h r h' e

/-! 116: wainscot/expr.aggregate -/
def A116 : List (Nat × Sh) := [(0, .str), (2, .bool), (4, .str), (5, .bool)]
noncomputable def call116 (lf : Nat) : CallS := callC 73 (W73 lf) (callN)
theorem call116_ok (lf : Nat) : CallOk Go.Proofs.Try.prog (call116 lf) := callC_ok (W73_ok lf) (callN_ok)
def k116 : KC := (.seq (.reg [⟨(some 2), none, (.op (.mv (.c (.bool false)))), []⟩]) (.seq (.reg [⟨(some 3), none, (.op (.bslice 1 (.str []) 4 [(0, (.c (.str [67, 79, 85, 78, 84]))), (1, (.c (.str [83, 85, 77]))), (2, (.c (.str [77, 73, 78]))), (3, (.c (.str [77, 65, 88])))])), []⟩, ⟨(some 4), none, (.op (.mv (.t 0))), []⟩, ⟨(some 5), none, (.call 73 [(.t 3), (.t 4)]), []⟩, ⟨(some 2), none, (.op (.mv (.t 5))), []⟩]) .ret))
noncomputable def F116 (lf : Nat) (op : List UInt8) (h : List Ob) : Option (V × List Ob) :=
bind2 (ev (.bslice 1 (.str []) 4 [(0, (.c (.str [67, 79, 85, 78, 84]))), (1, (.c (.str [83, 85, 77]))), (2, (.c (.str [77, 73, 78]))), (3, (.c (.str [77, 65, 88])))]) h) fun x3 h_ =>
bind2 (F73 lf x3 op h_) fun v h_1 =>
castBool v fun x5 =>
some ((.bool x5), h_1)
theorem F116_eq (lf : Nat) (op : List UInt8) (h : List Ob) : evCK A116 ⟨call116 lf, cvN, subN⟩ k116 (entryK [(.str op)]) h (endF c116.res) = F116 lf op h := by kernel_rfl
theorem F116_ok (lf : Nat) (op : List UInt8) (h : List Ob) (r_ : V) (h_r : List Ob) (e_ : F116 lf op h = some (r_, h_r)) : CD Go.Proofs.Try.prog 116 [(.str op)] h r_ h_r :=
  CD.ofK (A := A116) (σ := ⟨call116 lf, cvN, subN⟩) (c := k116) Go.Proofs.Try.func116 ok116 en116 (show 1 ≤ 6 by decide) (by kernel_rfl) (call116_ok lf) cvN_ok (And.intro True.intro (And.intro True.intro True.intro)) ((F116_eq lf op h).trans e_)
def w116 (f : List UInt8 → List Ob → Option (V × List Ob)) (vs : List V) (h : List Ob) : Option (V × List Ob) := castCons vs fun c1 l1 => castStr c1 fun n2 => castNil l1 (f n2 h)
noncomputable def W116 (lf : Nat) : List V → List Ob → Option (V × List Ob) := w116 (F116 lf)
theorem W116_ok (lf : Nat) : ∀ args h v h', W116 lf args h = some (v, h') → CD Go.Proofs.Try.prog 116 args h v h' := by
  intro vs h r h' e0
  simp only [W116, w116] at e0
  obtain ⟨c1, l1, rfl, e1⟩ := castCons_inv e0
  obtain ⟨y0, rfl, e2⟩ := castStr_inv e1
  obtain ⟨rfl, e3⟩ := castNil_inv e2
  have e := e3
  exact F116_ok lf y0 h r h' e

/-! 100: wainscot/expr.shaped -/
def A100 : List (Nat × Sh) := [(0, (.agg [(.int .i64), .str, (.int .i64), (.int .i64), .str, .str, .str, .any])), (2, .bool), (3, (.int .i64)), (4, .bool), (7, (.int .i64)), (9, .str), (10, .bool), (11, .bool), (13, .str), (14, .bool), (15, .bool), (17, (.int .i64)), (18, .bool), (19, .bool), (21, (.agg [(.int .i64), (.int .i64), .str])), (22, (.agg [(.int .i64), (.int .i64), .str])), (23, .bool), (24, .bool), (25, .bool), (27, (.int .i64)), (28, .bool), (29, .bool), (30, .bool), (31, .bool), (32, .bool), (34, (.int .i64)), (35, .bool), (36, .bool), (37, (.int .i64)), (38, .bool), (39, .bool), (41, .str), (42, .bool), (43, .bool), (44, .bool), (46, (.agg [(.int .i64), (.int .i64), .str])), (47, .bool), (48, .bool), (49, .bool), (52, (.int .i64)), (53, .bool), (54, .bool), (55, .bool), (56, .bool), (57, (.int .i64)), (58, .bool), (59, .bool), (61, .str), (62, .bool), (63, .bool), (64, .bool), (66, .str), (67, .bool), (68, .bool), (69, .bool), (71, .str), (72, .bool), (73, .bool), (75, .str), (76, .bool), (77, .bool), (78, .bool), (79, .bool), (80, .bool), (81, (.int .i64)), (82, .bool), (83, .bool), (85, .str), (86, .bool), (87, .bool), (89, .str), (90, .bool), (91, .bool), (92, .bool), (93, .bool), (94, .bool), (95, (.int .i64)), (96, .bool), (97, .bool), (99, .str), (100, (.int .i64)), (101, .bool), (102, .bool), (103, .bool), (104, .bool), (105, (.int .i64)), (106, .bool), (107, .bool), (109, .str), (110, .bool), (111, .bool), (113, .str), (114, .bool), (115, .bool), (116, .bool), (117, .bool), (118, .bool), (119, (.int .i64)), (120, .bool), (121, .bool), (123, .str), (124, .bool), (125, .bool), (126, .bool), (127, (.int .i64)), (128, .bool), (129, .bool), (131, .str), (132, .bool), (133, .bool), (134, .bool)]
noncomputable def call100 (lf : Nat) : CallS := callC 116 (W116 lf) (callC 115 (W115 lf) (callC 114 (W114 lf) (callC 24 (W24 lf) (callN))))
theorem call100_ok (lf : Nat) : CallOk Go.Proofs.Try.prog (call100 lf) := callC_ok (W116_ok lf) (callC_ok (W115_ok lf) (callC_ok (W114_ok lf) (callC_ok (W24_ok lf) (callN_ok))))
def o100_0 : Outs := [(.ret, [2], [.bool]), (.normal, [], [])]
def k100_0 : KC := (.seq (.reg [⟨(some 16), none, (.op (.faddr 0 (.t 1))), []⟩, ⟨(some 17), none, (.op (.load1 (.t 16))), []⟩, ⟨(some 18), none, (.op (.bin .neq (.t 17) (.c (.int .i64 1)))), []⟩, ⟨(some 19), none, (.op (.mv (.t 18))), []⟩, ⟨(some 20), (some (19, true)), (.op (.faddr 2 (.t 1))), []⟩, ⟨(some 21), (some (19, true)), (.op (.loadN 3 (.t 20))), []⟩, ⟨(some 22), (some (19, true)), (.op (.build [(.int .i64 0), (.int .i64 0), (.str [])] [])), []⟩, ⟨(some 23), (some (19, true)), (.op (.eq true (.struct 3 [(0, .i), (1, .i), (2, .s)]) (.t 21) (.t 22))), []⟩, ⟨(some 24), none, (.op (.pick (.t 19) (.t 23) (.c (.bool false)))), []⟩, ⟨(some 25), none, (.op (.mv (.t 24))), []⟩, ⟨(some 26), (some (25, false)), (.op (.faddr 0 (.t 1))), []⟩, ⟨(some 27), (some (25, false)), (.op (.load1 (.t 26))), []⟩, ⟨(some 28), (some (25, false)), (.op (.bin .neq (.t 27) (.c (.int .i64 2)))), []⟩, ⟨(some 29), (some (25, false)), (.op (.mv (.t 28))), []⟩, ⟨(some 30), (some (29, true)), (.op (.mv (.t 4))), []⟩, ⟨(some 31), (some (25, false)), (.op (.pick (.t 29) (.t 30) (.c (.bool false)))), []⟩, ⟨(some 32), none, (.op (.pick (.t 25) (.c (.bool true)) (.t 31))), []⟩]) (.cond (.t 32) (.seq (.reg [⟨(some 2), none, (.op (.mv (.c (.bool false)))), []⟩]) .ret) .skip))
def w100_0 (f : V → Bool → List Ob → SubR) (vs : List V) (h : List Ob) : SubR := castCons vs fun c1 l1 => castCons l1 fun c2 l2 => castBool c2 fun n3 => castNil l2 (f c1 n3 h)
noncomputable def S100_0 (lf : Nat) (e : V) (column : Bool) (h : List Ob) : SubR :=
bind1 (er (.faddr 0 (.c e)) h) fun x16 =>
bind1 (er (.load1 (.c x16)) h) fun v =>
castInt .i64 v fun x17 =>
cB (x17 != (1)) (
bind1 (er (.faddr 2 (.c e)) h) fun x20 =>
bind1 (er (.loadN 3 (.c x20)) h) fun v1 =>
castAgg v1 fun l =>
castCons l fun c l1 =>
castInt .i64 c fun x21_0 =>
castCons l1 fun c1 l2 =>
castInt .i64 c1 fun x21_1 =>
castCons l2 fun c2 l3 =>
castStr c2 fun x21_2 =>
castNil l3 (
bind1 (er (.build [(.int .i64 0), (.int .i64 0), (.str [])] []) h) fun v2 =>
castAgg v2 fun l4 =>
castCons l4 fun c3 l5 =>
castInt .i64 c3 fun x22_0 =>
castCons l5 fun c4 l6 =>
castInt .i64 c4 fun x22_1 =>
castCons l6 fun c5 l7 =>
castStr c5 fun x22_2 =>
castNil l7 (
bind1 (er (.eq true (.struct 3 [(0, .i), (1, .i), (2, .s)]) (.c (.agg [(.int .i64 x21_0), (.int .i64 x21_1), (.str x21_2)])) (.c (.agg [(.int .i64 x22_0), (.int .i64 x22_1), (.str x22_2)]))) h) fun v3 =>
castBool v3 fun x23 =>
cB x23 (
some (.ret, [(.bool false)], h)) (
bind1 (er (.faddr 0 (.c e)) h) fun x26 =>
bind1 (er (.load1 (.c x26)) h) fun v4 =>
castInt .i64 v4 fun x27 =>
cB (x27 != (2)) (
cB column (
some (.ret, [(.bool false)], h)) (
some (.normal, [], h))) (
some (.normal, [], h)))))) (
bind1 (er (.faddr 0 (.c e)) h) fun x26 =>
bind1 (er (.load1 (.c x26)) h) fun v1 =>
castInt .i64 v1 fun x27 =>
cB (x27 != (2)) (
cB column (
some (.ret, [(.bool false)], h)) (
some (.normal, [], h))) (
some (.normal, [], h)))
theorem S100_0_eq (lf : Nat) (e : V) (column : Bool) (h : List Ob) : evCK A100 ⟨call100 lf, cvN, subN⟩ k100_0 [(1, e), (4, (.bool column))] h (endK o100_0) = S100_0 lf e column h := by kernel_rfl
theorem S100_0_ok (lf : Nat) : SubOk Go.Proofs.Try.prog k100_0.er [1, 4] o100_0 (w100_0 (S100_0 lf)) := by
  refine SubOk.of (A := A100) (σ := ⟨call100 lf, cvN, subN⟩) (c := k100_0) (call100_ok lf) cvN_ok (And.intro True.intro (And.intro (And.intro True.intro True.intro) True.intro)) ?_
  intro vs h r e0
  simp only [w100_0] at e0
  obtain ⟨c1, l1, rfl, e1⟩ := castCons_inv e0
  obtain ⟨c2, l2, rfl, e2⟩ := castCons_inv e1
  obtain ⟨y1, rfl, e3⟩ := castBool_inv e2
  obtain ⟨rfl, e4⟩ := castNil_inv e3
  have e := e4
  exact (S100_0_eq lf c1 y1 h).trans e
def o100_1 : Outs := [(.normal, [4], [.bool])]
def k100_1 : KC := (.reg [⟨(some 8), none, (.op (.faddr 5 (.t 1))), []⟩, ⟨(some 9), none, (.op (.load1 (.t 8))), []⟩, ⟨(some 10), none, (.op (.bin .neq (.t 9) (.c (.str [])))), []⟩, ⟨(some 11), none, (.op (.mv (.t 10))), []⟩, ⟨(some 12), (some (11, false)), (.op (.faddr 6 (.t 1))), []⟩, ⟨(some 13), (some (11, false)), (.op (.load1 (.t 12))), []⟩, ⟨(some 14), (some (11, false)), (.op (.bin .neq (.t 13) (.c (.str [])))), []⟩, ⟨(some 15), none, (.op (.pick (.t 11) (.c (.bool true)) (.t 14))), []⟩, ⟨(some 4), none, (.op (.mv (.t 15))), []⟩])
def w100_1 (f : V → List Ob → SubR) (vs : List V) (h : List Ob) : SubR := castCons vs fun c1 l1 => castNil l1 (f c1 h)
noncomputable def S100_1 (lf : Nat) (e : V) (h : List Ob) : SubR :=
bind1 (er (.faddr 5 (.c e)) h) fun x8 =>
bind1 (er (.load1 (.c x8)) h) fun v =>
castStr v fun x9 =>
cB (!(x9 == ([] : List UInt8))) (
some (.normal, [(.bool true)], h)) (
bind1 (er (.faddr 6 (.c e)) h) fun x12 =>
bind1 (er (.load1 (.c x12)) h) fun v1 =>
castStr v1 fun x13 =>
some (.normal, [(.bool (!(x13 == ([] : List UInt8))))], h))
theorem S100_1_eq (lf : Nat) (e : V) (h : List Ob) : evCK A100 ⟨call100 lf, cvN, subN⟩ k100_1 [(1, e)] h (endK o100_1) = S100_1 lf e h := by kernel_rfl
theorem S100_1_ok (lf : Nat) : SubOk Go.Proofs.Try.prog k100_1.er [1] o100_1 (w100_1 (S100_1 lf)) := by
  refine SubOk.of (A := A100) (σ := ⟨call100 lf, cvN, subN⟩) (c := k100_1) (call100_ok lf) cvN_ok True.intro ?_
  intro vs h r e0
  simp only [w100_1] at e0
  obtain ⟨c1, l1, rfl, e1⟩ := castCons_inv e0
  obtain ⟨rfl, e2⟩ := castNil_inv e1
  have e := e2
  exact (S100_1_eq lf c1 h).trans e
def k100 : KC := (.seq (.reg [⟨(some 1), none, (.op (.box false (.t 0))), []⟩, ⟨(some 2), none, (.op (.mv (.c (.bool false)))), []⟩]) (.seq (.reg [⟨(some 5), none, (.op (.faddr 7 (.t 1))), []⟩, ⟨(some 6), none, (.op (.load1 (.t 5))), []⟩, ⟨(some 7), none, (.op (.lenL (.t 6))), []⟩, ⟨(some 3), none, (.op (.mv (.t 7))), []⟩]) (.seq (.sub 1 k100_1.er [1] o100_1) (.seq (.sub 0 k100_0.er [1, 4] o100_0) (.seq (.seq (.reg [⟨(some 33), none, (.op (.faddr 0 (.t 1))), []⟩, ⟨(some 34), none, (.op (.load1 (.t 33))), []⟩]) (.block 0 (.seq (.reg [⟨(some 36), none, (.op (.bin .eql (.t 34) (.c (.int .i64 1)))), []⟩, ⟨(some 35), none, (.op (.mv (.t 36))), []⟩]) (.cond (.t 35) (.seq (.reg [⟨(some 37), none, (.op (.mv (.t 3))), []⟩, ⟨(some 38), none, (.op (.bin .eql (.t 37) (.c (.int .i64 0)))), []⟩, ⟨(some 39), none, (.op (.mv (.t 38))), []⟩, ⟨(some 40), (some (39, true)), (.op (.faddr 1 (.t 1))), []⟩, ⟨(some 41), (some (39, true)), (.op (.load1 (.t 40))), []⟩, ⟨(some 42), (some (39, true)), (.op (.bin .eql (.t 41) (.c (.str [])))), []⟩, ⟨(some 43), none, (.op (.pick (.t 39) (.t 42) (.c (.bool false)))), []⟩, ⟨(some 44), none, (.op (.mv (.t 43))), []⟩, ⟨(some 45), (some (44, true)), (.op (.faddr 2 (.t 1))), []⟩, ⟨(some 46), (some (44, true)), (.op (.loadN 3 (.t 45))), []⟩, ⟨(some 47), (some (44, true)), (.call 114 [(.t 46)]), []⟩, ⟨(some 48), none, (.op (.pick (.t 44) (.t 47) (.c (.bool false)))), []⟩, ⟨(some 49), none, (.op (.mv (.t 48))), []⟩, ⟨(some 50), (some (49, true)), (.op (.faddr 2 (.t 1))), []⟩, ⟨(some 51), (some (49, true)), (.op (.faddr 1 (.t 50))), []⟩, ⟨(some 52), (some (49, true)), (.op (.load1 (.t 51))), []⟩, ⟨(some 53), (some (49, true)), (.op (.bin .geq (.t 52) (.c (.int .i64 0)))), []⟩, ⟨(some 54), none, (.op (.pick (.t 49) (.t 53) (.c (.bool false)))), []⟩, ⟨(some 2), none, (.op (.mv (.t 54))), []⟩]) .ret) (.seq (.reg [⟨(some 56), none, (.op (.bin .eql (.t 34) (.c (.int .i64 2)))), []⟩, ⟨(some 55), none, (.op (.mv (.t 56))), []⟩]) (.cond (.t 55) (.seq (.reg [⟨(some 57), none, (.op (.mv (.t 3))), []⟩, ⟨(some 58), none, (.op (.bin .eql (.t 57) (.c (.int .i64 0)))), []⟩, ⟨(some 59), none, (.op (.mv (.t 58))), []⟩, ⟨(some 60), (some (59, true)), (.op (.faddr 1 (.t 1))), []⟩, ⟨(some 61), (some (59, true)), (.op (.load1 (.t 60))), []⟩, ⟨(some 62), (some (59, true)), (.op (.bin .eql (.t 61) (.c (.str [])))), []⟩, ⟨(some 63), none, (.op (.pick (.t 59) (.t 62) (.c (.bool false)))), []⟩, ⟨(some 64), none, (.op (.mv (.t 63))), []⟩, ⟨(some 65), (some (64, true)), (.op (.faddr 6 (.t 1))), []⟩, ⟨(some 66), (some (64, true)), (.op (.load1 (.t 65))), []⟩, ⟨(some 67), (some (64, true)), (.call 24 [(.t 66)]), []⟩, ⟨(some 68), none, (.op (.pick (.t 64) (.t 67) (.c (.bool false)))), []⟩, ⟨(some 69), none, (.op (.mv (.t 68))), []⟩, ⟨(some 70), (some (69, true)), (.op (.faddr 5 (.t 1))), []⟩, ⟨(some 71), (some (69, true)), (.op (.load1 (.t 70))), []⟩, ⟨(some 72), (some (69, true)), (.op (.bin .eql (.t 71) (.c (.str [])))), []⟩, ⟨(some 73), (some (69, true)), (.op (.mv (.t 72))), []⟩, ⟨(some 74), (some (73, false)), (.op (.faddr 5 (.t 1))), []⟩, ⟨(some 75), (some (73, false)), (.op (.load1 (.t 74))), []⟩, ⟨(some 76), (some (73, false)), (.call 24 [(.t 75)]), []⟩, ⟨(some 77), (some (69, true)), (.op (.pick (.t 73) (.c (.bool true)) (.t 76))), []⟩, ⟨(some 78), none, (.op (.pick (.t 69) (.t 77) (.c (.bool false)))), []⟩, ⟨(some 2), none, (.op (.mv (.t 78))), []⟩]) .ret) (.seq (.reg [⟨(some 80), none, (.op (.bin .eql (.t 34) (.c (.int .i64 3)))), []⟩, ⟨(some 79), none, (.op (.mv (.t 80))), []⟩]) (.cond (.t 79) (.seq (.reg [⟨(some 81), none, (.op (.mv (.t 3))), []⟩, ⟨(some 82), none, (.op (.bin .eql (.t 81) (.c (.int .i64 1)))), []⟩, ⟨(some 83), none, (.op (.mv (.t 82))), []⟩, ⟨(some 84), (some (83, true)), (.op (.faddr 1 (.t 1))), []⟩, ⟨(some 85), (some (83, true)), (.op (.load1 (.t 84))), []⟩, ⟨(some 86), (some (83, true)), (.op (.bin .eql (.t 85) (.c (.str [78, 79, 84])))), []⟩, ⟨(some 87), (some (83, true)), (.op (.mv (.t 86))), []⟩, ⟨(some 88), (some (87, false)), (.op (.faddr 1 (.t 1))), []⟩, ⟨(some 89), (some (87, false)), (.op (.load1 (.t 88))), []⟩, ⟨(some 90), (some (87, false)), (.op (.bin .eql (.t 89) (.c (.str [45])))), []⟩, ⟨(some 91), (some (83, true)), (.op (.pick (.t 87) (.c (.bool true)) (.t 90))), []⟩, ⟨(some 92), none, (.op (.pick (.t 83) (.t 91) (.c (.bool false)))), []⟩, ⟨(some 2), none, (.op (.mv (.t 92))), []⟩]) .ret) (.seq (.reg [⟨(some 94), none, (.op (.bin .eql (.t 34) (.c (.int .i64 4)))), []⟩, ⟨(some 93), none, (.op (.mv (.t 94))), []⟩]) (.cond (.t 93) (.seq (.reg [⟨(some 95), none, (.op (.mv (.t 3))), []⟩, ⟨(some 96), none, (.op (.bin .eql (.t 95) (.c (.int .i64 2)))), []⟩, ⟨(some 97), none, (.op (.mv (.t 96))), []⟩, ⟨(some 98), (some (97, true)), (.op (.faddr 1 (.t 1))), []⟩, ⟨(some 99), (some (97, true)), (.op (.load1 (.t 98))), []⟩, ⟨(some 100), (some (97, true)), (.call 115 [(.t 99)]), []⟩, ⟨(some 101), (some (97, true)), (.op (.bin .neq (.t 100) (.c (.int .i64 7)))), []⟩, ⟨(some 102), none, (.op (.pick (.t 97) (.t 101) (.c (.bool false)))), []⟩, ⟨(some 2), none, (.op (.mv (.t 102))), []⟩]) .ret) (.seq (.reg [⟨(some 104), none, (.op (.bin .eql (.t 34) (.c (.int .i64 5)))), []⟩, ⟨(some 103), none, (.op (.mv (.t 104))), []⟩]) (.cond (.t 103) (.seq (.reg [⟨(some 105), none, (.op (.mv (.t 3))), []⟩, ⟨(some 106), none, (.op (.bin .eql (.t 105) (.c (.int .i64 1)))), []⟩, ⟨(some 107), none, (.op (.mv (.t 106))), []⟩, ⟨(some 108), (some (107, true)), (.op (.faddr 1 (.t 1))), []⟩, ⟨(some 109), (some (107, true)), (.op (.load1 (.t 108))), []⟩, ⟨(some 110), (some (107, true)), (.op (.bin .eql (.t 109) (.c (.str [73, 83, 32, 78, 85, 76, 76])))), []⟩, ⟨(some 111), (some (107, true)), (.op (.mv (.t 110))), []⟩, ⟨(some 112), (some (111, false)), (.op (.faddr 1 (.t 1))), []⟩, ⟨(some 113), (some (111, false)), (.op (.load1 (.t 112))), []⟩, ⟨(some 114), (some (111, false)), (.op (.bin .eql (.t 113) (.c (.str [73, 83, 32, 78, 79, 84, 32, 78, 85, 76, 76])))), []⟩, ⟨(some 115), (some (107, true)), (.op (.pick (.t 111) (.c (.bool true)) (.t 114))), []⟩, ⟨(some 116), none, (.op (.pick (.t 107) (.t 115) (.c (.bool false)))), []⟩, ⟨(some 2), none, (.op (.mv (.t 116))), []⟩]) .ret) (.seq (.reg [⟨(some 118), none, (.op (.bin .eql (.t 34) (.c (.int .i64 6)))), []⟩, ⟨(some 117), none, (.op (.mv (.t 118))), []⟩]) (.cond (.t 117) (.seq (.reg [⟨(some 119), none, (.op (.mv (.t 3))), []⟩, ⟨(some 120), none, (.op (.bin .eql (.t 119) (.c (.int .i64 0)))), []⟩, ⟨(some 121), none, (.op (.mv (.t 120))), []⟩, ⟨(some 122), (some (121, true)), (.op (.faddr 1 (.t 1))), []⟩, ⟨(some 123), (some (121, true)), (.op (.load1 (.t 122))), []⟩, ⟨(some 124), (some (121, true)), (.op (.bin .eql (.t 123) (.c (.str [67, 79, 85, 78, 84])))), []⟩, ⟨(some 125), none, (.op (.pick (.t 121) (.t 124) (.c (.bool false)))), []⟩, ⟨(some 126), none, (.op (.mv (.t 125))), []⟩, ⟨(some 127), (some (126, false)), (.op (.mv (.t 3))), []⟩, ⟨(some 128), (some (126, false)), (.op (.bin .eql (.t 127) (.c (.int .i64 1)))), []⟩, ⟨(some 129), (some (126, false)), (.op (.mv (.t 128))), []⟩, ⟨(some 130), (some (129, true)), (.op (.faddr 1 (.t 1))), []⟩, ⟨(some 131), (some (129, true)), (.op (.load1 (.t 130))), []⟩, ⟨(some 132), (some (129, true)), (.call 116 [(.t 131)]), []⟩, ⟨(some 133), (some (126, false)), (.op (.pick (.t 129) (.t 132) (.c (.bool false)))), []⟩, ⟨(some 134), none, (.op (.pick (.t 126) (.c (.bool true)) (.t 133))), []⟩, ⟨(some 2), none, (.op (.mv (.t 134))), []⟩]) .ret) .skip)))))))))))))) (.seq (.reg [⟨(some 2), none, (.op (.mv (.c (.bool false)))), []⟩]) .ret))))))
noncomputable def F100 (lf : Nat) (e : Int) (e1 : List UInt8) (e2 : Int) (e3 : Int) (e4 : List UInt8) (e5 : List UInt8) (e6 : List UInt8) (e7 : V) (h : List Ob) : Option (V × List Ob) :=
bind2 (ev (.box false (.c (.agg [(.int .i64 e), (.str e1), (.int .i64 e2), (.int .i64 e3), (.str e4), (.str e5), (.str e6), e7]))) h) fun e8 h_ =>
bind1 (er (.faddr 7 (.c e8)) h_) fun x5 =>
bind1 (er (.load1 (.c x5)) h_) fun x6 =>
bind1 (er (.lenL (.c x6)) h_) fun v =>
castInt .i64 v fun x7 =>
bind3 (S100_1 lf e8 h_) fun ex vs h_1 =>
cB (decide (ex = .normal)) (
castCons vs fun c l =>
castBool c fun column =>
castNil l (
bind3 (S100_0 lf e8 column h_1) fun ex1 vs1 h_2 =>
cB (decide (ex1 = .ret)) (
castCons vs1 fun c1 l1 =>
castBool c1 fun x2 =>
castNil l1 (
some ((.bool x2), h_2))) (
cB (decide (ex1 = .normal)) (
castNil vs1 (
bind1 (er (.faddr 0 (.c e8)) h_2) fun x33 =>
bind1 (er (.load1 (.c x33)) h_2) fun v1 =>
castInt .i64 v1 fun x34 =>
cB (x34 == (1)) (
cB (x7 == (0)) (
bind1 (er (.faddr 1 (.c e8)) h_2) fun x40 =>
bind1 (er (.load1 (.c x40)) h_2) fun v2 =>
castStr v2 fun x41 =>
cB (x41 == ([] : List UInt8)) (
bind1 (er (.faddr 2 (.c e8)) h_2) fun x45 =>
bind1 (er (.loadN 3 (.c x45)) h_2) fun v3 =>
castAgg v3 fun l1 =>
castCons l1 fun c1 l2 =>
castInt .i64 c1 fun x46_0 =>
castCons l2 fun c2 l3 =>
castInt .i64 c2 fun x46_1 =>
castCons l3 fun c3 l4 =>
castStr c3 fun x46_2 =>
castNil l4 (
bind2 (F114 lf x46_0 x46_1 x46_2 h_2) fun v4 h_3 =>
castBool v4 fun x47 =>
cB x47 (
bind1 (er (.faddr 2 (.c e8)) h_3) fun x50 =>
bind1 (er (.faddr 1 (.c x50)) h_3) fun x51 =>
bind1 (er (.load1 (.c x51)) h_3) fun v5 =>
castInt .i64 v5 fun x52 =>
some ((.bool (decide (x52 ≥ (0)))), h_3)) (
some ((.bool false), h_3)))) (
some ((.bool false), h_2))) (
some ((.bool false), h_2))) (
cB (x34 == (2)) (
cB (x7 == (0)) (
bind1 (er (.faddr 1 (.c e8)) h_2) fun x60 =>
bind1 (er (.load1 (.c x60)) h_2) fun v2 =>
castStr v2 fun x61 =>
cB (x61 == ([] : List UInt8)) (
bind1 (er (.faddr 6 (.c e8)) h_2) fun x65 =>
bind1 (er (.load1 (.c x65)) h_2) fun v3 =>
castStr v3 fun x66 =>
bind2 (F24 lf x66 h_2) fun v4 h_3 =>
castBool v4 fun x67 =>
cB x67 (
bind1 (er (.faddr 5 (.c e8)) h_3) fun x70 =>
bind1 (er (.load1 (.c x70)) h_3) fun v5 =>
castStr v5 fun x71 =>
cB (x71 == ([] : List UInt8)) (
some ((.bool true), h_3)) (
bind1 (er (.faddr 5 (.c e8)) h_3) fun x74 =>
bind1 (er (.load1 (.c x74)) h_3) fun v6 =>
castStr v6 fun x75 =>
bind2 (F24 lf x75 h_3) fun v7 h_4 =>
castBool v7 fun x76 =>
some ((.bool x76), h_4))) (
some ((.bool false), h_3))) (
some ((.bool false), h_2))) (
some ((.bool false), h_2))) (
cB (x34 == (3)) (
cB (x7 == (1)) (
bind1 (er (.faddr 1 (.c e8)) h_2) fun x84 =>
bind1 (er (.load1 (.c x84)) h_2) fun v2 =>
castStr v2 fun x85 =>
cB (x85 == [78, 79, 84]) (
some ((.bool true), h_2)) (
bind1 (er (.faddr 1 (.c e8)) h_2) fun x88 =>
bind1 (er (.load1 (.c x88)) h_2) fun v3 =>
castStr v3 fun x89 =>
some ((.bool (x89 == [45])), h_2))) (
some ((.bool false), h_2))) (
cB (x34 == (4)) (
cB (x7 == (2)) (
bind1 (er (.faddr 1 (.c e8)) h_2) fun x98 =>
bind1 (er (.load1 (.c x98)) h_2) fun v2 =>
castStr v2 fun x99 =>
bind2 (F115 lf x99 h_2) fun v3 h_3 =>
castInt .i64 v3 fun x100 =>
some ((.bool (x100 != (7))), h_3)) (
some ((.bool false), h_2))) (
cB (x34 == (5)) (
cB (x7 == (1)) (
bind1 (er (.faddr 1 (.c e8)) h_2) fun x108 =>
bind1 (er (.load1 (.c x108)) h_2) fun v2 =>
castStr v2 fun x109 =>
cB (x109 == [73, 83, 32, 78, 85, 76, 76]) (
some ((.bool true), h_2)) (
bind1 (er (.faddr 1 (.c e8)) h_2) fun x112 =>
bind1 (er (.load1 (.c x112)) h_2) fun v3 =>
castStr v3 fun x113 =>
some ((.bool (x113 == [73, 83, 32, 78, 79, 84, 32, 78, 85, 76, 76])), h_2))) (
some ((.bool false), h_2))) (
cB (x34 == (6)) (
cB (x7 == (0)) (
bind1 (er (.faddr 1 (.c e8)) h_2) fun x122 =>
bind1 (er (.load1 (.c x122)) h_2) fun v2 =>
castStr v2 fun x123 =>
cB (x123 == [67, 79, 85, 78, 84]) (
some ((.bool true), h_2)) (
cB (x7 == (1)) (
bind1 (er (.faddr 1 (.c e8)) h_2) fun x130 =>
bind1 (er (.load1 (.c x130)) h_2) fun v3 =>
castStr v3 fun x131 =>
bind2 (F116 lf x131 h_2) fun v4 h_3 =>
castBool v4 fun x132 =>
some ((.bool x132), h_3)) (
some ((.bool false), h_2)))) (
cB (x7 == (1)) (
bind1 (er (.faddr 1 (.c e8)) h_2) fun x130 =>
bind1 (er (.load1 (.c x130)) h_2) fun v2 =>
castStr v2 fun x131 =>
bind2 (F116 lf x131 h_2) fun v3 h_3 =>
castBool v3 fun x132 =>
some ((.bool x132), h_3)) (
some ((.bool false), h_2)))) (
some ((.bool false), h_2))))))))) (
none)))) (
none)
theorem F100_eq (lf : Nat) (e : Int) (e1 : List UInt8) (e2 : Int) (e3 : Int) (e4 : List UInt8) (e5 : List UInt8) (e6 : List UInt8) (e7 : V) (h : List Ob) : evCK A100 ⟨call100 lf, cvN, subC 0 (w100_0 (S100_0 lf)) (subC 1 (w100_1 (S100_1 lf)) (subN))⟩ k100 (entryK [(.agg [(.int .i64 e), (.str e1), (.int .i64 e2), (.int .i64 e3), (.str e4), (.str e5), (.str e6), e7])]) h (endF c100.res) = F100 lf e e1 e2 e3 e4 e5 e6 e7 h := by kernel_rfl
theorem F100_ok (lf : Nat) (e : Int) (e1 : List UInt8) (e2 : Int) (e3 : Int) (e4 : List UInt8) (e5 : List UInt8) (e6 : List UInt8) (e7 : V) (h : List Ob) (r_ : V) (h_r : List Ob) (e_ : F100 lf e e1 e2 e3 e4 e5 e6 e7 h = some (r_, h_r)) : CD Go.Proofs.Try.prog 100 [(.agg [(.int .i64 e), (.str e1), (.int .i64 e2), (.int .i64 e3), (.str e4), (.str e5), (.str e6), e7])] h r_ h_r :=
  CD.ofK (A := A100) (σ := ⟨call100 lf, cvN, subC 0 (w100_0 (S100_0 lf)) (subC 1 (w100_1 (S100_1 lf)) (subN))⟩) (c := k100) Go.Proofs.Try.func100 ok100 en100 (show 1 ≤ 135 by decide) (by kernel_rfl) (call100_ok lf) cvN_ok (And.intro True.intro (And.intro True.intro (And.intro (S100_1_ok lf) (And.intro (S100_0_ok lf) (And.intro (And.intro True.intro (And.intro True.intro (And.intro (And.intro True.intro True.intro) (And.intro True.intro (And.intro (And.intro True.intro True.intro) (And.intro True.intro (And.intro (And.intro True.intro True.intro) (And.intro True.intro (And.intro (And.intro True.intro True.intro) (And.intro True.intro (And.intro (And.intro True.intro True.intro) (And.intro True.intro (And.intro (And.intro True.intro True.intro) True.intro))))))))))))) (And.intro True.intro True.intro)))))) ((F100_eq lf e e1 e2 e3 e4 e5 e6 e7 h).trans e_)
def w100 (f : Int → List UInt8 → Int → Int → List UInt8 → List UInt8 → List UInt8 → V → List Ob → Option (V × List Ob)) (vs : List V) (h : List Ob) : Option (V × List Ob) := castCons vs fun c1 l1 => castAgg c1 fun n2 => castCons n2 fun c3 l3 => castInt .i64 c3 fun n4 => castCons l3 fun c5 l5 => castStr c5 fun n6 => castCons l5 fun c7 l7 => castInt .i64 c7 fun n8 => castCons l7 fun c9 l9 => castInt .i64 c9 fun n10 => castCons l9 fun c11 l11 => castStr c11 fun n12 => castCons l11 fun c13 l13 => castStr c13 fun n14 => castCons l13 fun c15 l15 => castStr c15 fun n16 => castCons l15 fun c17 l17 => castNil l17 (castNil l1 (f n4 n6 n8 n10 n12 n14 n16 c17 h))
noncomputable def W100 (lf : Nat) : List V → List Ob → Option (V × List Ob) := w100 (F100 lf)
theorem W100_ok (lf : Nat) : ∀ args h v h', W100 lf args h = some (v, h') → CD Go.Proofs.Try.prog 100 args h v h' := by
  intro vs h r h' e0
  simp only [W100, w100] at e0
  obtain ⟨c1, l1, rfl, e1⟩ := castCons_inv e0
  obtain ⟨l2, rfl, e2⟩ := castAgg_inv e1
  obtain ⟨c3, l3, rfl, e3⟩ := castCons_inv e2
  obtain ⟨y0, rfl, e4⟩ := castInt_inv e3
  obtain ⟨c4, l4, rfl, e5⟩ := castCons_inv e4
  obtain ⟨y1, rfl, e6⟩ := castStr_inv e5
  obtain ⟨c5, l5, rfl, e7⟩ := castCons_inv e6
  obtain ⟨y2, rfl, e8⟩ := castInt_inv e7
  obtain ⟨c6, l6, rfl, e9⟩ := castCons_inv e8
  obtain ⟨y3, rfl, e10⟩ := castInt_inv e9
  obtain ⟨c7, l7, rfl, e11⟩ := castCons_inv e10
  obtain ⟨y4, rfl, e12⟩ := castStr_inv e11
  obtain ⟨c8, l8, rfl, e13⟩ := castCons_inv e12
  obtain ⟨y5, rfl, e14⟩ := castStr_inv e13
  obtain ⟨c9, l9, rfl, e15⟩ := castCons_inv e14
  obtain ⟨y6, rfl, e16⟩ := castStr_inv e15
  obtain ⟨c10, l10, rfl, e17⟩ := castCons_inv e16
  obtain ⟨rfl, e18⟩ := castNil_inv e17
  obtain ⟨rfl, e19⟩ := castNil_inv e18
  have e := e19
  exact F100_ok lf y0 y1 y2 y3 y4 y5 y6 c10 h r h' e

/-! 117: slices.IndexFunc[[]wainscot/expr.Expr,wainscot/expr.Expr] -/
def A117 : List (Nat × Sh) := [(4, (.int .i64)), (5, (.int .i64)), (7, (.int .i64)), (8, (.int .i64)), (9, .bool), (10, (.int .i64)), (13, (.int .i64)), (15, (.agg [(.int .i64), .str, (.int .i64), (.int .i64), .str, .str, .str, .any])), (16, .bool), (17, (.int .i64)), (18, (.int .i64))]
noncomputable def call117 (lf : Nat) (cv : CallVS) : CallS := callN
theorem call117_ok (lf : Nat) (cv : CallVS) (hcv : CvOk Go.Proofs.Try.prog cv) : CallOk Go.Proofs.Try.prog (call117 lf cv) := callN_ok
def o117_0 : Outs := [((.exit 0), [], []), (.ret, [4], [(.int .i64)])]
def k117_0 : KC := (.seq (.reg [⟨(some 9), none, (.op (.bin .lss (.t 8) (.t 7))), []⟩]) (.seq (.cond (.t 9) .skip (.exit 0)) (.seq (.block 1 (.seq (.reg [⟨(some 10), none, (.op (.mv (.t 8))), []⟩, ⟨(some 5), none, (.op (.mv (.t 10))), []⟩]) (.seq (.reg [⟨(some 11), none, (.op (.mv (.t 1))), []⟩, ⟨(some 12), none, (.op (.mv (.t 0))), []⟩, ⟨(some 13), none, (.op (.mv (.t 5))), []⟩, ⟨(some 14), none, (.op (.iaddrL 8 (.t 12) (.t 13))), []⟩, ⟨(some 15), none, (.op (.loadN 8 (.t 14))), []⟩, ⟨(some 16), none, (.callv (.t 11) [(.t 15)]), []⟩]) (.cond (.t 16) (.seq (.reg [⟨(some 17), none, (.op (.mv (.t 5))), []⟩, ⟨(some 4), none, (.op (.mv (.t 17))), []⟩]) .ret) .skip)))) (.reg [⟨(some 18), none, (.op (.bin .add (.t 8) (.c (.int .i64 1)))), []⟩, ⟨(some 8), none, (.op (.mv (.t 18))), []⟩]))))
def w117_0 (f : V → V → Int → Int → List Ob → SubR) (vs : List V) (h : List Ob) : SubR := castCons vs fun c1 l1 => castCons l1 fun c2 l2 => castCons l2 fun c3 l3 => castInt .i64 c3 fun n4 => castCons l3 fun c5 l5 => castInt .i64 c5 fun n6 => castNil l5 (f c1 c2 n4 n6 h)
noncomputable def B117_0 (lf : Nat) (cv : CallVS) (self : V → V → Int → Int → List Ob → SubR) (s : V) (f : V) (x7 : Int) (x8 : Int) (h : List Ob) : SubR :=
cB (decide (x8 < x7)) (
bind1 (er (.iaddrL 8 (.c s) (.c (.int .i64 x8))) h) fun x14 =>
bind1 (er (.loadN 8 (.c x14)) h) fun v =>
castAgg v fun l =>
castCons l fun c l1 =>
castInt .i64 c fun x15_0 =>
castCons l1 fun c1 l2 =>
castStr c1 fun x15_1 =>
castCons l2 fun c2 l3 =>
castInt .i64 c2 fun x15_2 =>
castCons l3 fun c3 l4 =>
castInt .i64 c3 fun x15_3 =>
castCons l4 fun c4 l5 =>
castStr c4 fun x15_4 =>
castCons l5 fun c5 l6 =>
castStr c5 fun x15_5 =>
castCons l6 fun c6 l7 =>
castStr c6 fun x15_6 =>
castCons l7 fun x15_7 l8 =>
castNil l8 (
bind2 (cv f [(.agg [(.int .i64 x15_0), (.str x15_1), (.int .i64 x15_2), (.int .i64 x15_3), (.str x15_4), (.str x15_5), (.str x15_6), x15_7])] h) fun v1 h_ =>
castBool v1 fun x16 =>
cB x16 (
some (.ret, [(.int .i64 x8)], h_)) (
self s f x7 (IntKind.i64.wrap (x8 + (1))) h_))) (
some ((.exit 0), [], h))
noncomputable def L117_0 (lf : Nat) (cv : CallVS) : Nat → V → V → Int → Int → List Ob → SubR
  | 0 => fun _ _ _ _ _ => none
  | n + 1 => B117_0 lf cv (L117_0 lf cv n)
theorem B117_0_eq (lf : Nat) (cv : CallVS) (self : V → V → Int → Int → List Ob → SubR) (s : V) (f : V) (x7 : Int) (x8 : Int) (h : List Ob) : evCK A117 ⟨call117 lf cv, cv, subN⟩ k117_0 [(0, s), (1, f), (7, (.int .i64 x7)), (8, (.int .i64 x8))] h (endL [0, 1, 7, 8] [.any, .any, (.int .i64), (.int .i64)] o117_0 (w117_0 self)) = B117_0 lf cv self s f x7 x8 h := by kernel_rfl
theorem L117_0_ok (lf : Nat) (cv : CallVS) (hcv : CvOk Go.Proofs.Try.prog cv) : ∀ n, SubOk Go.Proofs.Try.prog (.loop k117_0.er) [0, 1, 7, 8] o117_0 (w117_0 (L117_0 lf cv n)) := by
  refine SubOk.loop (A := A117) (σ := ⟨call117 lf cv, cv, subN⟩) (c := k117_0) (shs := [.any, .any, (.int .i64), (.int .i64)]) (G := fun n => w117_0 (L117_0 lf cv n)) (call117_ok lf cv hcv) hcv (And.intro True.intro (And.intro (And.intro True.intro True.intro) (And.intro (And.intro True.intro (And.intro True.intro (And.intro (And.intro True.intro True.intro) True.intro))) True.intro))) ?_ ?_
  · intro vs h r e0
    simp only [w117_0] at e0
    obtain ⟨c1, l1, rfl, e1⟩ := castCons_inv e0
    obtain ⟨c2, l2, rfl, e2⟩ := castCons_inv e1
    obtain ⟨c3, l3, rfl, e3⟩ := castCons_inv e2
    obtain ⟨y2, rfl, e4⟩ := castInt_inv e3
    obtain ⟨c4, l4, rfl, e5⟩ := castCons_inv e4
    obtain ⟨y3, rfl, e6⟩ := castInt_inv e5
    obtain ⟨rfl, e7⟩ := castNil_inv e6
    have e := e7
    cases e
  · intro n vs h r e0
    simp only [w117_0] at e0
    obtain ⟨c1, l1, rfl, e1⟩ := castCons_inv e0
    obtain ⟨c2, l2, rfl, e2⟩ := castCons_inv e1
    obtain ⟨c3, l3, rfl, e3⟩ := castCons_inv e2
    obtain ⟨y2, rfl, e4⟩ := castInt_inv e3
    obtain ⟨c4, l4, rfl, e5⟩ := castCons_inv e4
    obtain ⟨y3, rfl, e6⟩ := castInt_inv e5
    obtain ⟨rfl, e7⟩ := castNil_inv e6
    have e := e7
    exact (B117_0_eq lf cv (L117_0 lf cv n) c1 c2 y2 y3 h).trans e
def k117 : KC := (.seq (.reg [⟨(some 4), none, (.op (.mv (.c (.int .i64 0)))), []⟩]) (.seq (.seq (.reg [⟨(some 6), none, (.op (.mv (.t 0))), []⟩, ⟨(some 7), none, (.op (.lenL (.t 6))), []⟩, ⟨(some 8), none, (.op (.mv (.c (.int .i64 0)))), []⟩]) (.block 0 (.sub 0 (.loop k117_0.er) [0, 1, 7, 8] o117_0))) (.seq (.reg [⟨(some 4), none, (.op (.mv (.c (.int .i64 (-0 - 1))))), []⟩]) .ret)))
noncomputable def F117 (lf : Nat) (cv : CallVS) (s : V) (f : V) (h : List Ob) : Option (V × List Ob) :=
bind1 (er (.lenL (.c s)) h) fun v =>
castInt .i64 v fun x7 =>
bind3 (L117_0 lf cv lf s f x7 (0) h) fun ex vs h_ =>
cB (decide (ex = (.exit 0))) (
castNil vs (
some ((.int .i64 (-1)), h_))) (
cB (decide (ex = .ret)) (
castCons vs fun c l =>
castInt .i64 c fun x4 =>
castNil l (
some ((.int .i64 x4), h_))) (
none))
theorem F117_eq (lf : Nat) (cv : CallVS) (s : V) (f : V) (h : List Ob) : evCK A117 ⟨call117 lf cv, cv, subC 0 (w117_0 (L117_0 lf cv lf)) (subN)⟩ k117 (entryK [s, f]) h (endF c117.res) = F117 lf cv s f h := by kernel_rfl
theorem F117_ok (lf : Nat) (cv : CallVS) (hcv : CvOk Go.Proofs.Try.prog cv) (s : V) (f : V) (h : List Ob) (r_ : V) (h_r : List Ob) (e_ : F117 lf cv s f h = some (r_, h_r)) : CD Go.Proofs.Try.prog 117 [s, f] h r_ h_r :=
  CD.ofK (A := A117) (σ := ⟨call117 lf cv, cv, subC 0 (w117_0 (L117_0 lf cv lf)) (subN)⟩) (c := k117) Go.Proofs.Try.func117 ok117 en117 (show 2 ≤ 19 by decide) (by kernel_rfl) (call117_ok lf cv hcv) hcv (And.intro True.intro (And.intro (And.intro True.intro (L117_0_ok lf cv hcv lf)) (And.intro True.intro True.intro))) ((F117_eq lf cv s f h).trans e_)
def w117 (f : V → V → List Ob → Option (V × List Ob)) (vs : List V) (h : List Ob) : Option (V × List Ob) := castCons vs fun c1 l1 => castCons l1 fun c2 l2 => castNil l2 (f c1 c2 h)
noncomputable def W117 (lf : Nat) (cv : CallVS) : List V → List Ob → Option (V × List Ob) := w117 (F117 lf cv)
theorem W117_ok (lf : Nat) (cv : CallVS) (hcv : CvOk Go.Proofs.Try.prog cv) : ∀ args h v h', W117 lf cv args h = some (v, h') → CD Go.Proofs.Try.prog 117 args h v h' := by
  intro vs h r h' e0
  simp only [W117, w117] at e0
  obtain ⟨c1, l1, rfl, e1⟩ := castCons_inv e0
  obtain ⟨c2, l2, rfl, e2⟩ := castCons_inv e1
  obtain ⟨rfl, e3⟩ := castNil_inv e2
  have e := e3
  exact F117_ok lf cv hcv c1 c2 h r h' e

/-! 101: slices.ContainsFunc[[]wainscot/expr.Expr,wainscot/expr.Expr] -/
def A101 : List (Nat × Sh) := [(4, .bool), (7, (.int .i64)), (8, .bool)]
noncomputable def call101 (lf : Nat) (cv : CallVS) : CallS := callC 117 (W117 lf cv) (callN)
theorem call101_ok (lf : Nat) (cv : CallVS) (hcv : CvOk Go.Proofs.Try.prog cv) : CallOk Go.Proofs.Try.prog (call101 lf cv) := callC_ok (W117_ok lf cv hcv) (callN_ok)
def k101 : KC := (.seq (.reg [⟨(some 4), none, (.op (.mv (.c (.bool false)))), []⟩]) (.seq (.reg [⟨(some 5), none, (.op (.mv (.t 0))), []⟩, ⟨(some 6), none, (.op (.mv (.t 1))), []⟩, ⟨(some 7), none, (.call 117 [(.t 5), (.t 6)]), []⟩, ⟨(some 8), none, (.op (.bin .geq (.t 7) (.c (.int .i64 0)))), []⟩, ⟨(some 4), none, (.op (.mv (.t 8))), []⟩]) .ret))
noncomputable def F101 (lf : Nat) (cv : CallVS) (s : V) (f : V) (h : List Ob) : Option (V × List Ob) :=
bind2 (F117 lf cv s f h) fun v h_ =>
castInt .i64 v fun x7 =>
some ((.bool (decide (x7 ≥ (0)))), h_)
theorem F101_eq (lf : Nat) (cv : CallVS) (s : V) (f : V) (h : List Ob) : evCK A101 ⟨call101 lf cv, cv, subN⟩ k101 (entryK [s, f]) h (endF c101.res) = F101 lf cv s f h := by kernel_rfl
theorem F101_ok (lf : Nat) (cv : CallVS) (hcv : CvOk Go.Proofs.Try.prog cv) (s : V) (f : V) (h : List Ob) (r_ : V) (h_r : List Ob) (e_ : F101 lf cv s f h = some (r_, h_r)) : CD Go.Proofs.Try.prog 101 [s, f] h r_ h_r :=
  CD.ofK (A := A101) (σ := ⟨call101 lf cv, cv, subN⟩) (c := k101) Go.Proofs.Try.func101 ok101 en101 (show 2 ≤ 9 by decide) (by kernel_rfl) (call101_ok lf cv hcv) hcv (And.intro True.intro (And.intro True.intro True.intro)) ((F101_eq lf cv s f h).trans e_)
def w101 (f : V → V → List Ob → Option (V × List Ob)) (vs : List V) (h : List Ob) : Option (V × List Ob) := castCons vs fun c1 l1 => castCons l1 fun c2 l2 => castNil l2 (f c1 c2 h)
noncomputable def W101 (lf : Nat) (cv : CallVS) : List V → List Ob → Option (V × List Ob) := w101 (F101 lf cv)
theorem W101_ok (lf : Nat) (cv : CallVS) (hcv : CvOk Go.Proofs.Try.prog cv) : ∀ args h v h', W101 lf cv args h = some (v, h') → CD Go.Proofs.Try.prog 101 args h v h' := by
  intro vs h r h' e0
  simp only [W101, w101] at e0
  obtain ⟨c1, l1, rfl, e1⟩ := castCons_inv e0
  obtain ⟨c2, l2, rfl, e2⟩ := castCons_inv e1
  obtain ⟨rfl, e3⟩ := castNil_inv e2
  have e := e3
  exact F101_ok lf cv hcv c1 c2 h r h' e

/-! 102: wainscot/expr.formed$1 -/
def A102 : List (Nat × Sh) := [(0, (.agg [(.int .i64), .str, (.int .i64), (.int .i64), .str, .str, .str, .any])), (3, .bool), (4, (.agg [(.int .i64), .str, (.int .i64), (.int .i64), .str, .str, .str, .any])), (5, (.int .i64)), (6, (.int .i64)), (7, .bool), (8, .bool)]
noncomputable def call102 (lf : Nat) (rc : CallS) : CallS := rc
theorem call102_ok (lf : Nat) (rc : CallS) (hrc : CallOk Go.Proofs.Try.prog rc) : CallOk Go.Proofs.Try.prog (call102 lf rc) := hrc
def k102 : KC := (.seq (.reg [⟨(some 2), none, (.op (.box false (.t 0))), []⟩, ⟨(some 3), none, (.op (.mv (.c (.bool false)))), []⟩]) (.seq (.reg [⟨(some 4), none, (.op (.loadN 8 (.t 2))), []⟩, ⟨(some 5), none, (.op (.load1 (.t 1))), []⟩, ⟨(some 6), none, (.op (.bin .sub (.t 5) (.c (.int .i64 1)))), []⟩, ⟨(some 7), none, (.call 76 [(.t 4), (.t 6)]), []⟩, ⟨(some 8), none, (.op (.un .not (.t 7))), []⟩, ⟨(some 3), none, (.op (.mv (.t 8))), []⟩]) .ret))
noncomputable def F102 (lf : Nat) (rc : CallS) (p : Int) (p1 : List UInt8) (p2 : Int) (p3 : Int) (p4 : List UInt8) (p5 : List UInt8) (p6 : List UInt8) (p7 : V) (x1 : V) (h : List Ob) : Option (V × List Ob) :=
bind2 (ev (.box false (.c (.agg [(.int .i64 p), (.str p1), (.int .i64 p2), (.int .i64 p3), (.str p4), (.str p5), (.str p6), p7]))) h) fun p8 h_ =>
bind1 (er (.loadN 8 (.c p8)) h_) fun v =>
castAgg v fun l =>
castCons l fun c l1 =>
castInt .i64 c fun x4_0 =>
castCons l1 fun c1 l2 =>
castStr c1 fun x4_1 =>
castCons l2 fun c2 l3 =>
castInt .i64 c2 fun x4_2 =>
castCons l3 fun c3 l4 =>
castInt .i64 c3 fun x4_3 =>
castCons l4 fun c4 l5 =>
castStr c4 fun x4_4 =>
castCons l5 fun c5 l6 =>
castStr c5 fun x4_5 =>
castCons l6 fun c6 l7 =>
castStr c6 fun x4_6 =>
castCons l7 fun x4_7 l8 =>
castNil l8 (
bind1 (er (.load1 (.c x1)) h_) fun v1 =>
castInt .i64 v1 fun x5 =>
bind2 (rc 76 [(.agg [(.int .i64 x4_0), (.str x4_1), (.int .i64 x4_2), (.int .i64 x4_3), (.str x4_4), (.str x4_5), (.str x4_6), x4_7]), (.int .i64 (IntKind.i64.wrap (x5 - (1))))] h_) fun v2 h_1 =>
castBool v2 fun x7 =>
some ((.bool (!x7)), h_1))
theorem F102_eq (lf : Nat) (rc : CallS) (p : Int) (p1 : List UInt8) (p2 : Int) (p3 : Int) (p4 : List UInt8) (p5 : List UInt8) (p6 : List UInt8) (p7 : V) (x1 : V) (h : List Ob) : evCK A102 ⟨call102 lf rc, cvN, subN⟩ k102 (entryK [(.agg [(.int .i64 p), (.str p1), (.int .i64 p2), (.int .i64 p3), (.str p4), (.str p5), (.str p6), p7]), x1]) h (endF c102.res) = F102 lf rc p p1 p2 p3 p4 p5 p6 p7 x1 h := by kernel_rfl
theorem F102_ok (lf : Nat) (rc : CallS) (hrc : CallOk Go.Proofs.Try.prog rc) (p : Int) (p1 : List UInt8) (p2 : Int) (p3 : Int) (p4 : List UInt8) (p5 : List UInt8) (p6 : List UInt8) (p7 : V) (x1 : V) (h : List Ob) (r_ : V) (h_r : List Ob) (e_ : F102 lf rc p p1 p2 p3 p4 p5 p6 p7 x1 h = some (r_, h_r)) : CD Go.Proofs.Try.prog 102 [(.agg [(.int .i64 p), (.str p1), (.int .i64 p2), (.int .i64 p3), (.str p4), (.str p5), (.str p6), p7]), x1] h r_ h_r :=
  CD.ofK (A := A102) (σ := ⟨call102 lf rc, cvN, subN⟩) (c := k102) Go.Proofs.Try.func102 ok102 en102 (show 2 ≤ 9 by decide) (by kernel_rfl) (call102_ok lf rc hrc) cvN_ok (And.intro True.intro (And.intro True.intro True.intro)) ((F102_eq lf rc p p1 p2 p3 p4 p5 p6 p7 x1 h).trans e_)
def w102 (f : Int → List UInt8 → Int → Int → List UInt8 → List UInt8 → List UInt8 → V → V → List Ob → Option (V × List Ob)) (vs : List V) (h : List Ob) : Option (V × List Ob) := castCons vs fun c1 l1 => castAgg c1 fun n2 => castCons n2 fun c3 l3 => castInt .i64 c3 fun n4 => castCons l3 fun c5 l5 => castStr c5 fun n6 => castCons l5 fun c7 l7 => castInt .i64 c7 fun n8 => castCons l7 fun c9 l9 => castInt .i64 c9 fun n10 => castCons l9 fun c11 l11 => castStr c11 fun n12 => castCons l11 fun c13 l13 => castStr c13 fun n14 => castCons l13 fun c15 l15 => castStr c15 fun n16 => castCons l15 fun c17 l17 => castNil l17 (castCons l1 fun c18 l18 => castNil l18 (f n4 n6 n8 n10 n12 n14 n16 c17 c18 h))
noncomputable def W102 (lf : Nat) (rc : CallS) : List V → List Ob → Option (V × List Ob) := w102 (F102 lf rc)
theorem W102_ok (lf : Nat) (rc : CallS) (hrc : CallOk Go.Proofs.Try.prog rc) : ∀ args h v h', W102 lf rc args h = some (v, h') → CD Go.Proofs.Try.prog 102 args h v h' := by
  intro vs h r h' e0
  simp only [W102, w102] at e0
  obtain ⟨c1, l1, rfl, e1⟩ := castCons_inv e0
  obtain ⟨l2, rfl, e2⟩ := castAgg_inv e1
  obtain ⟨c3, l3, rfl, e3⟩ := castCons_inv e2
  obtain ⟨y0, rfl, e4⟩ := castInt_inv e3
  obtain ⟨c4, l4, rfl, e5⟩ := castCons_inv e4
  obtain ⟨y1, rfl, e6⟩ := castStr_inv e5
  obtain ⟨c5, l5, rfl, e7⟩ := castCons_inv e6
  obtain ⟨y2, rfl, e8⟩ := castInt_inv e7
  obtain ⟨c6, l6, rfl, e9⟩ := castCons_inv e8
  obtain ⟨y3, rfl, e10⟩ := castInt_inv e9
  obtain ⟨c7, l7, rfl, e11⟩ := castCons_inv e10
  obtain ⟨y4, rfl, e12⟩ := castStr_inv e11
  obtain ⟨c8, l8, rfl, e13⟩ := castCons_inv e12
  obtain ⟨y5, rfl, e14⟩ := castStr_inv e13
  obtain ⟨c9, l9, rfl, e15⟩ := castCons_inv e14
  obtain ⟨y6, rfl, e16⟩ := castStr_inv e15
  obtain ⟨c10, l10, rfl, e17⟩ := castCons_inv e16
  obtain ⟨rfl, e18⟩ := castNil_inv e17
  obtain ⟨c11, l11, rfl, e19⟩ := castCons_inv e18
  obtain ⟨rfl, e20⟩ := castNil_inv e19
  have e := e20
  exact F102_ok lf rc hrc y0 y1 y2 y3 y4 y5 y6 c10 c11 h r h' e

/-! 76: wainscot/expr.formed -/
def A76 : List (Nat × Sh) := [(0, (.agg [(.int .i64), .str, (.int .i64), (.int .i64), .str, .str, .str, .any])), (1, (.int .i64)), (4, .bool), (5, (.int .i64)), (6, .bool), (7, .bool), (8, (.agg [(.int .i64), .str, (.int .i64), (.int .i64), .str, .str, .str, .any])), (9, .bool), (10, .bool), (11, .bool), (15, .bool), (16, .bool), (17, .bool)]
noncomputable def cv76 (lf : Nat) (rc : CallS) : CallVS := cvC 102 (rc 102) (cvN)
theorem cv76_ok (lf : Nat) (rc : CallS) (hrc : CallOk Go.Proofs.Try.prog rc) : CvOk Go.Proofs.Try.prog (cv76 lf rc) := cvC_ok (hrc 102) (cvN_ok)
noncomputable def call76 (lf : Nat) (rc : CallS) : CallS := callC 101 (W101 lf (cv76 lf rc)) (callC 100 (W100 lf) (rc))
theorem call76_ok (lf : Nat) (rc : CallS) (hrc : CallOk Go.Proofs.Try.prog rc) : CallOk Go.Proofs.Try.prog (call76 lf rc) := callC_ok (W101_ok lf (cv76 lf rc) (cv76_ok lf rc hrc)) (callC_ok (W100_ok lf) (hrc))
def k76 : KC := (.seq (.reg [⟨(some 2), none, (.op (.box false (.t 0))), []⟩, ⟨(some 3), none, (.op (.box false (.t 1))), []⟩, ⟨(some 4), none, (.op (.mv (.c (.bool false)))), []⟩]) (.seq (.reg [⟨(some 5), none, (.op (.load1 (.t 3))), []⟩, ⟨(some 6), none, (.op (.bin .gtr (.t 5) (.c (.int .i64 0)))), []⟩, ⟨(some 7), none, (.op (.mv (.t 6))), []⟩, ⟨(some 8), (some (7, true)), (.op (.loadN 8 (.t 2))), []⟩, ⟨(some 9), (some (7, true)), (.call 100 [(.t 8)]), []⟩, ⟨(some 10), none, (.op (.pick (.t 7) (.t 9) (.c (.bool false)))), []⟩, ⟨(some 11), none, (.op (.mv (.t 10))), []⟩, ⟨(some 12), (some (11, true)), (.op (.faddr 7 (.t 2))), []⟩, ⟨(some 13), (some (11, true)), (.op (.load1 (.t 12))), []⟩, ⟨(some 14), (some (11, true)), (.op (.mkfn 102 [(.t 3)])), []⟩, ⟨(some 15), (some (11, true)), (.call 101 [(.t 13), (.t 14)]), []⟩, ⟨(some 16), (some (11, true)), (.op (.un .not (.t 15))), []⟩, ⟨(some 17), none, (.op (.pick (.t 11) (.t 16) (.c (.bool false)))), []⟩, ⟨(some 4), none, (.op (.mv (.t 17))), []⟩]) .ret))
noncomputable def F76 (lf : Nat) (rc : CallS) (e : Int) (e1 : List UInt8) (e2 : Int) (e3 : Int) (e4 : List UInt8) (e5 : List UInt8) (e6 : List UInt8) (e7 : V) (most : Int) (h : List Ob) : Option (V × List Ob) :=
bind2 (ev (.box false (.c (.agg [(.int .i64 e), (.str e1), (.int .i64 e2), (.int .i64 e3), (.str e4), (.str e5), (.str e6), e7]))) h) fun e8 h_ =>
bind2 (ev (.box false (.c (.int .i64 most))) h_) fun most1 h_1 =>
bind1 (er (.load1 (.c most1)) h_1) fun v =>
castInt .i64 v fun x5 =>
cB (decide (x5 > (0))) (
bind1 (er (.loadN 8 (.c e8)) h_1) fun v1 =>
castAgg v1 fun l =>
castCons l fun c l1 =>
castInt .i64 c fun x8_0 =>
castCons l1 fun c1 l2 =>
castStr c1 fun x8_1 =>
castCons l2 fun c2 l3 =>
castInt .i64 c2 fun x8_2 =>
castCons l3 fun c3 l4 =>
castInt .i64 c3 fun x8_3 =>
castCons l4 fun c4 l5 =>
castStr c4 fun x8_4 =>
castCons l5 fun c5 l6 =>
castStr c5 fun x8_5 =>
castCons l6 fun c6 l7 =>
castStr c6 fun x8_6 =>
castCons l7 fun x8_7 l8 =>
castNil l8 (
bind2 (F100 lf x8_0 x8_1 x8_2 x8_3 x8_4 x8_5 x8_6 x8_7 h_1) fun v2 h_2 =>
castBool v2 fun x9 =>
cB x9 (
bind1 (er (.faddr 7 (.c e8)) h_2) fun x12 =>
bind1 (er (.load1 (.c x12)) h_2) fun x13 =>
bind2 (F101 lf (cv76 lf rc) x13 (.fn 102 [most1]) h_2) fun v3 h_3 =>
castBool v3 fun x15 =>
some ((.bool (!x15)), h_3)) (
some ((.bool false), h_2)))) (
some ((.bool false), h_1))
theorem F76_eq (lf : Nat) (rc : CallS) (e : Int) (e1 : List UInt8) (e2 : Int) (e3 : Int) (e4 : List UInt8) (e5 : List UInt8) (e6 : List UInt8) (e7 : V) (most : Int) (h : List Ob) : evCK A76 ⟨call76 lf rc, (cv76 lf rc), subN⟩ k76 (entryK [(.agg [(.int .i64 e), (.str e1), (.int .i64 e2), (.int .i64 e3), (.str e4), (.str e5), (.str e6), e7]), (.int .i64 most)]) h (endF c76.res) = F76 lf rc e e1 e2 e3 e4 e5 e6 e7 most h := by kernel_rfl
theorem F76_ok (lf : Nat) (rc : CallS) (hrc : CallOk Go.Proofs.Try.prog rc) (e : Int) (e1 : List UInt8) (e2 : Int) (e3 : Int) (e4 : List UInt8) (e5 : List UInt8) (e6 : List UInt8) (e7 : V) (most : Int) (h : List Ob) (r_ : V) (h_r : List Ob) (e_ : F76 lf rc e e1 e2 e3 e4 e5 e6 e7 most h = some (r_, h_r)) : CD Go.Proofs.Try.prog 76 [(.agg [(.int .i64 e), (.str e1), (.int .i64 e2), (.int .i64 e3), (.str e4), (.str e5), (.str e6), e7]), (.int .i64 most)] h r_ h_r :=
  CD.ofK (A := A76) (σ := ⟨call76 lf rc, (cv76 lf rc), subN⟩) (c := k76) Go.Proofs.Try.func76 ok76 en76 (show 2 ≤ 18 by decide) (by kernel_rfl) (call76_ok lf rc hrc) (cv76_ok lf rc hrc) (And.intro True.intro (And.intro True.intro True.intro)) ((F76_eq lf rc e e1 e2 e3 e4 e5 e6 e7 most h).trans e_)
def w76 (f : Int → List UInt8 → Int → Int → List UInt8 → List UInt8 → List UInt8 → V → Int → List Ob → Option (V × List Ob)) (vs : List V) (h : List Ob) : Option (V × List Ob) := castCons vs fun c1 l1 => castAgg c1 fun n2 => castCons n2 fun c3 l3 => castInt .i64 c3 fun n4 => castCons l3 fun c5 l5 => castStr c5 fun n6 => castCons l5 fun c7 l7 => castInt .i64 c7 fun n8 => castCons l7 fun c9 l9 => castInt .i64 c9 fun n10 => castCons l9 fun c11 l11 => castStr c11 fun n12 => castCons l11 fun c13 l13 => castStr c13 fun n14 => castCons l13 fun c15 l15 => castStr c15 fun n16 => castCons l15 fun c17 l17 => castNil l17 (castCons l1 fun c18 l18 => castInt .i64 c18 fun n19 => castNil l18 (f n4 n6 n8 n10 n12 n14 n16 c17 n19 h))
noncomputable def W76 (lf : Nat) (rc : CallS) : List V → List Ob → Option (V × List Ob) := w76 (F76 lf rc)
theorem W76_ok (lf : Nat) (rc : CallS) (hrc : CallOk Go.Proofs.Try.prog rc) : ∀ args h v h', W76 lf rc args h = some (v, h') → CD Go.Proofs.Try.prog 76 args h v h' := by
  intro vs h r h' e0
  simp only [W76, w76] at e0
  obtain ⟨c1, l1, rfl, e1⟩ := castCons_inv e0
  obtain ⟨l2, rfl, e2⟩ := castAgg_inv e1
  obtain ⟨c3, l3, rfl, e3⟩ := castCons_inv e2
  obtain ⟨y0, rfl, e4⟩ := castInt_inv e3
  obtain ⟨c4, l4, rfl, e5⟩ := castCons_inv e4
  obtain ⟨y1, rfl, e6⟩ := castStr_inv e5
  obtain ⟨c5, l5, rfl, e7⟩ := castCons_inv e6
  obtain ⟨y2, rfl, e8⟩ := castInt_inv e7
  obtain ⟨c6, l6, rfl, e9⟩ := castCons_inv e8
  obtain ⟨y3, rfl, e10⟩ := castInt_inv e9
  obtain ⟨c7, l7, rfl, e11⟩ := castCons_inv e10
  obtain ⟨y4, rfl, e12⟩ := castStr_inv e11
  obtain ⟨c8, l8, rfl, e13⟩ := castCons_inv e12
  obtain ⟨y5, rfl, e14⟩ := castStr_inv e13
  obtain ⟨c9, l9, rfl, e15⟩ := castCons_inv e14
  obtain ⟨y6, rfl, e16⟩ := castStr_inv e15
  obtain ⟨c10, l10, rfl, e17⟩ := castCons_inv e16
  obtain ⟨rfl, e18⟩ := castNil_inv e17
  obtain ⟨c11, l11, rfl, e19⟩ := castCons_inv e18
  obtain ⟨y8, rfl, e20⟩ := castInt_inv e19
  obtain ⟨rfl, e21⟩ := castNil_inv e20
  have e := e21
  exact F76_ok lf rc hrc y0 y1 y2 y3 y4 y5 y6 c10 y8 h r h' e

/-- What calls itself, so many times: wainscot/expr.formed, wainscot/expr.formed$1. -/
noncomputable def R76 (lf : Nat) : Nat → CallS
  | 0 => callN
  | n + 1 => callC 76 (W76 lf (R76 lf n)) (callC 102 (W102 lf (R76 lf n)) (callN))
theorem R76_ok (lf : Nat) : ∀ n, CallOk Go.Proofs.Try.prog (R76 lf n)
  | 0 => callN_ok
  | n + 1 => callC_ok (W76_ok lf (R76 lf n) (R76_ok lf n)) (callC_ok (W102_ok lf (R76 lf n) (R76_ok lf n)) (callN_ok))

/-! 46: wainscot/expr.Formed -/
def A46 : List (Nat × Sh) := [(0, (.agg [(.int .i64), .str, (.int .i64), (.int .i64), .str, .str, .str, .any])), (2, .bool), (3, (.agg [(.int .i64), .str, (.int .i64), (.int .i64), .str, .str, .str, .any])), (4, .bool)]
noncomputable def call46 (lf : Nat) : CallS := callC 76 (W76 lf (R76 lf lf)) (callN)
theorem call46_ok (lf : Nat) : CallOk Go.Proofs.Try.prog (call46 lf) := callC_ok (W76_ok lf (R76 lf lf) (R76_ok lf lf)) (callN_ok)
def k46 : KC := (.seq (.reg [⟨(some 1), none, (.op (.box false (.t 0))), []⟩, ⟨(some 2), none, (.op (.mv (.c (.bool false)))), []⟩]) (.seq (.reg [⟨(some 3), none, (.op (.loadN 8 (.t 1))), []⟩, ⟨(some 4), none, (.call 76 [(.t 3), (.c (.int .i64 8))]), []⟩, ⟨(some 2), none, (.op (.mv (.t 4))), []⟩]) .ret))
noncomputable def F46 (lf : Nat) (e : Int) (e1 : List UInt8) (e2 : Int) (e3 : Int) (e4 : List UInt8) (e5 : List UInt8) (e6 : List UInt8) (e7 : V) (h : List Ob) : Option (V × List Ob) :=
bind2 (ev (.box false (.c (.agg [(.int .i64 e), (.str e1), (.int .i64 e2), (.int .i64 e3), (.str e4), (.str e5), (.str e6), e7]))) h) fun e8 h_ =>
bind1 (er (.loadN 8 (.c e8)) h_) fun v =>
castAgg v fun l =>
castCons l fun c l1 =>
castInt .i64 c fun x3_0 =>
castCons l1 fun c1 l2 =>
castStr c1 fun x3_1 =>
castCons l2 fun c2 l3 =>
castInt .i64 c2 fun x3_2 =>
castCons l3 fun c3 l4 =>
castInt .i64 c3 fun x3_3 =>
castCons l4 fun c4 l5 =>
castStr c4 fun x3_4 =>
castCons l5 fun c5 l6 =>
castStr c5 fun x3_5 =>
castCons l6 fun c6 l7 =>
castStr c6 fun x3_6 =>
castCons l7 fun x3_7 l8 =>
castNil l8 (
bind2 (F76 lf (R76 lf lf) x3_0 x3_1 x3_2 x3_3 x3_4 x3_5 x3_6 x3_7 (8) h_) fun v1 h_1 =>
castBool v1 fun x4 =>
some ((.bool x4), h_1))
theorem F46_eq (lf : Nat) (e : Int) (e1 : List UInt8) (e2 : Int) (e3 : Int) (e4 : List UInt8) (e5 : List UInt8) (e6 : List UInt8) (e7 : V) (h : List Ob) : evCK A46 ⟨call46 lf, cvN, subN⟩ k46 (entryK [(.agg [(.int .i64 e), (.str e1), (.int .i64 e2), (.int .i64 e3), (.str e4), (.str e5), (.str e6), e7])]) h (endF c46.res) = F46 lf e e1 e2 e3 e4 e5 e6 e7 h := by kernel_rfl
theorem F46_ok (lf : Nat) (e : Int) (e1 : List UInt8) (e2 : Int) (e3 : Int) (e4 : List UInt8) (e5 : List UInt8) (e6 : List UInt8) (e7 : V) (h : List Ob) (r_ : V) (h_r : List Ob) (e_ : F46 lf e e1 e2 e3 e4 e5 e6 e7 h = some (r_, h_r)) : CD Go.Proofs.Try.prog 46 [(.agg [(.int .i64 e), (.str e1), (.int .i64 e2), (.int .i64 e3), (.str e4), (.str e5), (.str e6), e7])] h r_ h_r :=
  CD.ofK (A := A46) (σ := ⟨call46 lf, cvN, subN⟩) (c := k46) Go.Proofs.Try.func46 ok46 en46 (show 1 ≤ 5 by decide) (by kernel_rfl) (call46_ok lf) cvN_ok (And.intro True.intro (And.intro True.intro True.intro)) ((F46_eq lf e e1 e2 e3 e4 e5 e6 e7 h).trans e_)
def w46 (f : Int → List UInt8 → Int → Int → List UInt8 → List UInt8 → List UInt8 → V → List Ob → Option (V × List Ob)) (vs : List V) (h : List Ob) : Option (V × List Ob) := castCons vs fun c1 l1 => castAgg c1 fun n2 => castCons n2 fun c3 l3 => castInt .i64 c3 fun n4 => castCons l3 fun c5 l5 => castStr c5 fun n6 => castCons l5 fun c7 l7 => castInt .i64 c7 fun n8 => castCons l7 fun c9 l9 => castInt .i64 c9 fun n10 => castCons l9 fun c11 l11 => castStr c11 fun n12 => castCons l11 fun c13 l13 => castStr c13 fun n14 => castCons l13 fun c15 l15 => castStr c15 fun n16 => castCons l15 fun c17 l17 => castNil l17 (castNil l1 (f n4 n6 n8 n10 n12 n14 n16 c17 h))
noncomputable def W46 (lf : Nat) : List V → List Ob → Option (V × List Ob) := w46 (F46 lf)
theorem W46_ok (lf : Nat) : ∀ args h v h', W46 lf args h = some (v, h') → CD Go.Proofs.Try.prog 46 args h v h' := by
  intro vs h r h' e0
  simp only [W46, w46] at e0
  obtain ⟨c1, l1, rfl, e1⟩ := castCons_inv e0
  obtain ⟨l2, rfl, e2⟩ := castAgg_inv e1
  obtain ⟨c3, l3, rfl, e3⟩ := castCons_inv e2
  obtain ⟨y0, rfl, e4⟩ := castInt_inv e3
  obtain ⟨c4, l4, rfl, e5⟩ := castCons_inv e4
  obtain ⟨y1, rfl, e6⟩ := castStr_inv e5
  obtain ⟨c5, l5, rfl, e7⟩ := castCons_inv e6
  obtain ⟨y2, rfl, e8⟩ := castInt_inv e7
  obtain ⟨c6, l6, rfl, e9⟩ := castCons_inv e8
  obtain ⟨y3, rfl, e10⟩ := castInt_inv e9
  obtain ⟨c7, l7, rfl, e11⟩ := castCons_inv e10
  obtain ⟨y4, rfl, e12⟩ := castStr_inv e11
  obtain ⟨c8, l8, rfl, e13⟩ := castCons_inv e12
  obtain ⟨y5, rfl, e14⟩ := castStr_inv e13
  obtain ⟨c9, l9, rfl, e15⟩ := castCons_inv e14
  obtain ⟨y6, rfl, e16⟩ := castStr_inv e15
  obtain ⟨c10, l10, rfl, e17⟩ := castCons_inv e16
  obtain ⟨rfl, e18⟩ := castNil_inv e17
  obtain ⟨rfl, e19⟩ := castNil_inv e18
  have e := e19
  exact F46_ok lf y0 y1 y2 y3 y4 y5 y6 c10 h r h' e

/-! 118: wainscot/wainscotref01.Formed -/
def A118 : List (Nat × Sh) := [(0, (.agg [(.int .i64), (.int .i64), .str])), (2, .bool), (4, (.int .i64)), (5, .bool), (6, .bool), (8, (.int .i64)), (9, .bool), (10, .bool), (12, .str), (13, .bool), (14, .bool), (15, .bool), (16, .bool), (18, .str), (19, .bool), (20, .bool), (21, .bool), (23, (.int .i64)), (24, .bool), (25, .bool), (27, .str), (28, (.int .i64)), (29, .bool), (30, .bool)]
noncomputable def call118 (lf : Nat) : CallS := callN
theorem call118_ok (lf : Nat) : CallOk Go.Proofs.Try.prog (call118 lf) := callN_ok
def k118 : KC := (.seq (.reg [⟨(some 1), none, (.op (.box false (.t 0))), []⟩, ⟨(some 2), none, (.op (.mv (.c (.bool false)))), []⟩]) (.seq (.seq (.reg [⟨(some 3), none, (.op (.faddr 0 (.t 1))), []⟩, ⟨(some 4), none, (.op (.load1 (.t 3))), []⟩]) (.block 0 (.seq (.reg [⟨(some 6), none, (.op (.bin .eql (.t 4) (.c (.int .i64 0)))), []⟩, ⟨(some 5), none, (.op (.mv (.t 6))), []⟩]) (.cond (.t 5) (.seq (.reg [⟨(some 7), none, (.op (.faddr 1 (.t 1))), []⟩, ⟨(some 8), none, (.op (.load1 (.t 7))), []⟩, ⟨(some 9), none, (.op (.bin .eql (.t 8) (.c (.int .i64 0)))), []⟩, ⟨(some 10), none, (.op (.mv (.t 9))), []⟩, ⟨(some 11), (some (10, true)), (.op (.faddr 2 (.t 1))), []⟩, ⟨(some 12), (some (10, true)), (.op (.load1 (.t 11))), []⟩, ⟨(some 13), (some (10, true)), (.op (.bin .eql (.t 12) (.c (.str [])))), []⟩, ⟨(some 14), none, (.op (.pick (.t 10) (.t 13) (.c (.bool false)))), []⟩, ⟨(some 2), none, (.op (.mv (.t 14))), []⟩]) .ret) (.seq (.reg [⟨(some 16), none, (.op (.bin .eql (.t 4) (.c (.int .i64 1)))), []⟩, ⟨(some 15), none, (.op (.mv (.t 16))), []⟩]) (.cond (.t 15) (.seq (.reg [⟨(some 17), none, (.op (.faddr 2 (.t 1))), []⟩, ⟨(some 18), none, (.op (.load1 (.t 17))), []⟩, ⟨(some 19), none, (.op (.bin .eql (.t 18) (.c (.str [])))), []⟩, ⟨(some 2), none, (.op (.mv (.t 19))), []⟩]) .ret) (.seq (.reg [⟨(some 21), none, (.op (.bin .eql (.t 4) (.c (.int .i64 2)))), []⟩, ⟨(some 20), none, (.op (.mv (.t 21))), []⟩]) (.cond (.t 20) (.seq (.reg [⟨(some 22), none, (.op (.faddr 1 (.t 1))), []⟩, ⟨(some 23), none, (.op (.load1 (.t 22))), []⟩, ⟨(some 24), none, (.op (.bin .eql (.t 23) (.c (.int .i64 0)))), []⟩, ⟨(some 25), none, (.op (.mv (.t 24))), []⟩, ⟨(some 26), (some (25, true)), (.op (.faddr 2 (.t 1))), []⟩, ⟨(some 27), (some (25, true)), (.op (.load1 (.t 26))), []⟩, ⟨(some 28), (some (25, true)), (.op (.lenS (.t 27))), []⟩, ⟨(some 29), (some (25, true)), (.op (.bin .leq (.t 28) (.c (.int .i64 100)))), []⟩, ⟨(some 30), none, (.op (.pick (.t 25) (.t 29) (.c (.bool false)))), []⟩, ⟨(some 2), none, (.op (.mv (.t 30))), []⟩]) .ret) .skip)))))))) (.seq (.reg [⟨(some 2), none, (.op (.mv (.c (.bool false)))), []⟩]) .ret)))
noncomputable def F118 (lf : Nat) (v : Int) (v1 : Int) (v2 : List UInt8) (h : List Ob) : Option (V × List Ob) :=
bind2 (ev (.box false (.c (.agg [(.int .i64 v), (.int .i64 v1), (.str v2)]))) h) fun v3 h_ =>
bind1 (er (.faddr 0 (.c v3)) h_) fun x3 =>
bind1 (er (.load1 (.c x3)) h_) fun v4 =>
castInt .i64 v4 fun x4 =>
cB (x4 == (0)) (
bind1 (er (.faddr 1 (.c v3)) h_) fun x7 =>
bind1 (er (.load1 (.c x7)) h_) fun v5 =>
castInt .i64 v5 fun x8 =>
cB (x8 == (0)) (
bind1 (er (.faddr 2 (.c v3)) h_) fun x11 =>
bind1 (er (.load1 (.c x11)) h_) fun v6 =>
castStr v6 fun x12 =>
some ((.bool (x12 == ([] : List UInt8))), h_)) (
some ((.bool false), h_))) (
cB (x4 == (1)) (
bind1 (er (.faddr 2 (.c v3)) h_) fun x17 =>
bind1 (er (.load1 (.c x17)) h_) fun v5 =>
castStr v5 fun x18 =>
some ((.bool (x18 == ([] : List UInt8))), h_)) (
cB (x4 == (2)) (
bind1 (er (.faddr 1 (.c v3)) h_) fun x22 =>
bind1 (er (.load1 (.c x22)) h_) fun v5 =>
castInt .i64 v5 fun x23 =>
cB (x23 == (0)) (
bind1 (er (.faddr 2 (.c v3)) h_) fun x26 =>
bind1 (er (.load1 (.c x26)) h_) fun v6 =>
castStr v6 fun x27 =>
some ((.bool (decide (((x27).length : Int) ≤ (100)))), h_)) (
some ((.bool false), h_))) (
some ((.bool false), h_))))
theorem F118_eq (lf : Nat) (v : Int) (v1 : Int) (v2 : List UInt8) (h : List Ob) : evCK A118 ⟨call118 lf, cvN, subN⟩ k118 (entryK [(.agg [(.int .i64 v), (.int .i64 v1), (.str v2)])]) h (endF c118.res) = F118 lf v v1 v2 h := by kernel_rfl
theorem F118_ok (lf : Nat) (v : Int) (v1 : Int) (v2 : List UInt8) (h : List Ob) (r_ : V) (h_r : List Ob) (e_ : F118 lf v v1 v2 h = some (r_, h_r)) : CD Go.Proofs.Try.prog 118 [(.agg [(.int .i64 v), (.int .i64 v1), (.str v2)])] h r_ h_r :=
  CD.ofK (A := A118) (σ := ⟨call118 lf, cvN, subN⟩) (c := k118) Go.Proofs.Try.func118 ok118 en118 (show 1 ≤ 31 by decide) (by kernel_rfl) (call118_ok lf) cvN_ok (And.intro True.intro (And.intro (And.intro True.intro (And.intro True.intro (And.intro (And.intro True.intro True.intro) (And.intro True.intro (And.intro (And.intro True.intro True.intro) (And.intro True.intro (And.intro (And.intro True.intro True.intro) True.intro))))))) (And.intro True.intro True.intro))) ((F118_eq lf v v1 v2 h).trans e_)
def w118 (f : Int → Int → List UInt8 → List Ob → Option (V × List Ob)) (vs : List V) (h : List Ob) : Option (V × List Ob) := castCons vs fun c1 l1 => castAgg c1 fun n2 => castCons n2 fun c3 l3 => castInt .i64 c3 fun n4 => castCons l3 fun c5 l5 => castInt .i64 c5 fun n6 => castCons l5 fun c7 l7 => castStr c7 fun n8 => castNil l7 (castNil l1 (f n4 n6 n8 h))
noncomputable def W118 (lf : Nat) : List V → List Ob → Option (V × List Ob) := w118 (F118 lf)
theorem W118_ok (lf : Nat) : ∀ args h v h', W118 lf args h = some (v, h') → CD Go.Proofs.Try.prog 118 args h v h' := by
  intro vs h r h' e0
  simp only [W118, w118] at e0
  obtain ⟨c1, l1, rfl, e1⟩ := castCons_inv e0
  obtain ⟨l2, rfl, e2⟩ := castAgg_inv e1
  obtain ⟨c3, l3, rfl, e3⟩ := castCons_inv e2
  obtain ⟨y0, rfl, e4⟩ := castInt_inv e3
  obtain ⟨c4, l4, rfl, e5⟩ := castCons_inv e4
  obtain ⟨y1, rfl, e6⟩ := castInt_inv e5
  obtain ⟨c5, l5, rfl, e7⟩ := castCons_inv e6
  obtain ⟨y2, rfl, e8⟩ := castStr_inv e7
  obtain ⟨rfl, e9⟩ := castNil_inv e8
  obtain ⟨rfl, e10⟩ := castNil_inv e9
  have e := e10
  exact F118_ok lf y0 y1 y2 h r h' e

/-! 119: wainscot/wainscotref05.in -/
def A119 : List (Nat × Sh) := [(0, .str), (4, .bool), (5, (.int .i64)), (7, (.int .i64)), (8, (.int .i64)), (9, .bool), (10, (.int .i64)), (12, (.int .i64)), (14, .str), (15, .str), (16, .bool), (17, (.int .i64))]
noncomputable def call119 (lf : Nat) : CallS := callN
theorem call119_ok (lf : Nat) : CallOk Go.Proofs.Try.prog (call119 lf) := callN_ok
def o119_0 : Outs := [((.exit 0), [], []), (.ret, [4], [.bool])]
def k119_0 : KC := (.seq (.reg [⟨(some 9), none, (.op (.bin .lss (.t 8) (.t 7))), []⟩]) (.seq (.cond (.t 9) .skip (.exit 0)) (.seq (.block 1 (.seq (.reg [⟨(some 10), none, (.op (.mv (.t 8))), []⟩, ⟨(some 5), none, (.op (.mv (.t 10))), []⟩]) (.seq (.reg [⟨(some 11), none, (.op (.mv (.t 1))), []⟩, ⟨(some 12), none, (.op (.mv (.t 5))), []⟩, ⟨(some 13), none, (.op (.iaddrL 1 (.t 11) (.t 12))), []⟩, ⟨(some 14), none, (.op (.load1 (.t 13))), []⟩, ⟨(some 15), none, (.op (.mv (.t 0))), []⟩, ⟨(some 16), none, (.op (.bin .eql (.t 14) (.t 15))), []⟩]) (.cond (.t 16) (.seq (.reg [⟨(some 4), none, (.op (.mv (.c (.bool true)))), []⟩]) .ret) .skip)))) (.reg [⟨(some 17), none, (.op (.bin .add (.t 8) (.c (.int .i64 1)))), []⟩, ⟨(some 8), none, (.op (.mv (.t 17))), []⟩]))))
def w119_0 (f : List UInt8 → V → Int → Int → List Ob → SubR) (vs : List V) (h : List Ob) : SubR := castCons vs fun c1 l1 => castStr c1 fun n2 => castCons l1 fun c3 l3 => castCons l3 fun c4 l4 => castInt .i64 c4 fun n5 => castCons l4 fun c6 l6 => castInt .i64 c6 fun n7 => castNil l6 (f n2 c3 n5 n7 h)
noncomputable def B119_0 (lf : Nat) (self : List UInt8 → V → Int → Int → List Ob → SubR) (s : List UInt8) (list : V) (x7 : Int) (x8 : Int) (h : List Ob) : SubR :=
cB (decide (x8 < x7)) (
bind1 (er (.iaddrL 1 (.c list) (.c (.int .i64 x8))) h) fun x13 =>
bind1 (er (.load1 (.c x13)) h) fun v =>
castStr v fun x14 =>
cB (x14 == s) (
some (.ret, [(.bool true)], h)) (
self s list x7 (IntKind.i64.wrap (x8 + (1))) h)) (
some ((.exit 0), [], h))
noncomputable def L119_0 (lf : Nat) : Nat → List UInt8 → V → Int → Int → List Ob → SubR
  | 0 => fun _ _ _ _ _ => none
  | n + 1 => B119_0 lf (L119_0 lf n)
theorem B119_0_eq (lf : Nat) (self : List UInt8 → V → Int → Int → List Ob → SubR) (s : List UInt8) (list : V) (x7 : Int) (x8 : Int) (h : List Ob) : evCK A119 ⟨call119 lf, cvN, subN⟩ k119_0 [(0, (.str s)), (1, list), (7, (.int .i64 x7)), (8, (.int .i64 x8))] h (endL [0, 1, 7, 8] [.str, .any, (.int .i64), (.int .i64)] o119_0 (w119_0 self)) = B119_0 lf self s list x7 x8 h := by kernel_rfl
theorem L119_0_ok (lf : Nat) : ∀ n, SubOk Go.Proofs.Try.prog (.loop k119_0.er) [0, 1, 7, 8] o119_0 (w119_0 (L119_0 lf n)) := by
  refine SubOk.loop (A := A119) (σ := ⟨call119 lf, cvN, subN⟩) (c := k119_0) (shs := [.str, .any, (.int .i64), (.int .i64)]) (G := fun n => w119_0 (L119_0 lf n)) (call119_ok lf) cvN_ok (And.intro True.intro (And.intro (And.intro True.intro True.intro) (And.intro (And.intro True.intro (And.intro True.intro (And.intro (And.intro True.intro True.intro) True.intro))) True.intro))) ?_ ?_
  · intro vs h r e0
    simp only [w119_0] at e0
    obtain ⟨c1, l1, rfl, e1⟩ := castCons_inv e0
    obtain ⟨y0, rfl, e2⟩ := castStr_inv e1
    obtain ⟨c2, l2, rfl, e3⟩ := castCons_inv e2
    obtain ⟨c3, l3, rfl, e4⟩ := castCons_inv e3
    obtain ⟨y2, rfl, e5⟩ := castInt_inv e4
    obtain ⟨c4, l4, rfl, e6⟩ := castCons_inv e5
    obtain ⟨y3, rfl, e7⟩ := castInt_inv e6
    obtain ⟨rfl, e8⟩ := castNil_inv e7
    have e := e8
    cases e
  · intro n vs h r e0
    simp only [w119_0] at e0
    obtain ⟨c1, l1, rfl, e1⟩ := castCons_inv e0
    obtain ⟨y0, rfl, e2⟩ := castStr_inv e1
    obtain ⟨c2, l2, rfl, e3⟩ := castCons_inv e2
    obtain ⟨c3, l3, rfl, e4⟩ := castCons_inv e3
    obtain ⟨y2, rfl, e5⟩ := castInt_inv e4
    obtain ⟨c4, l4, rfl, e6⟩ := castCons_inv e5
    obtain ⟨y3, rfl, e7⟩ := castInt_inv e6
    obtain ⟨rfl, e8⟩ := castNil_inv e7
    have e := e8
    exact (B119_0_eq lf (L119_0 lf n) y0 c2 y2 y3 h).trans e
def k119 : KC := (.seq (.reg [⟨(some 4), none, (.op (.mv (.c (.bool false)))), []⟩]) (.seq (.seq (.reg [⟨(some 6), none, (.op (.mv (.t 1))), []⟩, ⟨(some 7), none, (.op (.lenL (.t 6))), []⟩, ⟨(some 8), none, (.op (.mv (.c (.int .i64 0)))), []⟩]) (.block 0 (.sub 0 (.loop k119_0.er) [0, 1, 7, 8] o119_0))) (.seq (.reg [⟨(some 4), none, (.op (.mv (.c (.bool false)))), []⟩]) .ret)))
noncomputable def F119 (lf : Nat) (s : List UInt8) (list : V) (h : List Ob) : Option (V × List Ob) :=
bind1 (er (.lenL (.c list)) h) fun v =>
castInt .i64 v fun x7 =>
bind3 (L119_0 lf lf s list x7 (0) h) fun ex vs h_ =>
cB (decide (ex = (.exit 0))) (
castNil vs (
some ((.bool false), h_))) (
cB (decide (ex = .ret)) (
castCons vs fun c l =>
castBool c fun x4 =>
castNil l (
some ((.bool x4), h_))) (
none))
theorem F119_eq (lf : Nat) (s : List UInt8) (list : V) (h : List Ob) : evCK A119 ⟨call119 lf, cvN, subC 0 (w119_0 (L119_0 lf lf)) (subN)⟩ k119 (entryK [(.str s), list]) h (endF c119.res) = F119 lf s list h := by kernel_rfl
theorem F119_ok (lf : Nat) (s : List UInt8) (list : V) (h : List Ob) (r_ : V) (h_r : List Ob) (e_ : F119 lf s list h = some (r_, h_r)) : CD Go.Proofs.Try.prog 119 [(.str s), list] h r_ h_r :=
  CD.ofK (A := A119) (σ := ⟨call119 lf, cvN, subC 0 (w119_0 (L119_0 lf lf)) (subN)⟩) (c := k119) Go.Proofs.Try.func119 ok119 en119 (show 2 ≤ 18 by decide) (by kernel_rfl) (call119_ok lf) cvN_ok (And.intro True.intro (And.intro (And.intro True.intro (L119_0_ok lf lf)) (And.intro True.intro True.intro))) ((F119_eq lf s list h).trans e_)
def w119 (f : List UInt8 → V → List Ob → Option (V × List Ob)) (vs : List V) (h : List Ob) : Option (V × List Ob) := castCons vs fun c1 l1 => castStr c1 fun n2 => castCons l1 fun c3 l3 => castNil l3 (f n2 c3 h)
noncomputable def W119 (lf : Nat) : List V → List Ob → Option (V × List Ob) := w119 (F119 lf)
theorem W119_ok (lf : Nat) : ∀ args h v h', W119 lf args h = some (v, h') → CD Go.Proofs.Try.prog 119 args h v h' := by
  intro vs h r h' e0
  simp only [W119, w119] at e0
  obtain ⟨c1, l1, rfl, e1⟩ := castCons_inv e0
  obtain ⟨y0, rfl, e2⟩ := castStr_inv e1
  obtain ⟨c2, l2, rfl, e3⟩ := castCons_inv e2
  obtain ⟨rfl, e4⟩ := castNil_inv e3
  have e := e4
  exact F119_ok lf y0 c2 h r h' e

/-! 103: wainscot/wainscotref05.shape -/
def A103 : List (Nat × Sh) := [(0, (.agg [(.int .i64), .str, (.int .i64), (.int .i64), .str, .str, .str, .any])), (2, .bool), (3, (.int .i64)), (4, .bool), (5, .bool), (8, (.int .i64)), (10, .str), (11, .bool), (12, .bool), (14, .str), (15, .bool), (16, .bool), (18, (.agg [(.int .i64), (.int .i64), .str])), (19, (.agg [(.int .i64), (.int .i64), .str])), (20, .bool), (22, (.int .i64)), (23, .bool), (24, .bool), (25, (.int .i64)), (26, .bool), (27, .bool), (28, .bool), (29, .bool), (30, .bool), (32, .str), (33, .bool), (34, .bool), (35, .bool), (37, (.agg [(.int .i64), (.int .i64), .str])), (38, .bool), (39, .bool), (40, .bool), (43, (.int .i64)), (44, .bool), (45, .bool), (46, .bool), (47, .bool), (48, (.int .i64)), (49, .bool), (50, .bool), (51, .bool), (52, .bool), (53, .bool), (55, .str), (56, .bool), (57, .bool), (58, .bool), (60, .str), (61, .bool), (62, .bool), (63, .bool), (65, .str), (66, .bool), (67, .bool), (69, .str), (70, .bool), (71, .bool), (72, .bool), (73, .bool), (74, .bool), (75, (.int .i64)), (76, .bool), (77, .bool), (78, .bool), (79, .bool), (80, .bool), (81, .bool), (82, .bool), (83, .bool), (85, .str), (87, .bool), (88, .bool), (89, .bool), (90, .bool), (91, (.int .i64)), (92, .bool), (93, .bool), (94, .bool), (95, .bool), (96, .bool), (97, .bool), (98, .bool), (99, .bool), (101, .str), (103, .bool), (104, .bool), (105, .bool), (106, .bool), (107, (.int .i64)), (108, .bool), (109, .bool), (110, .bool), (111, .bool), (112, .bool), (113, .bool), (114, .bool), (115, .bool), (117, .str), (119, .bool), (120, .bool), (121, .bool), (122, .bool), (123, .bool), (124, .bool), (125, .bool), (126, .bool), (127, .bool), (129, .str), (131, .bool), (132, .bool), (133, .bool), (134, (.int .i64)), (135, .bool), (136, .bool), (137, (.int .i64)), (138, .bool), (139, .bool), (141, .str), (142, .bool), (143, .bool), (144, .bool), (145, .bool)]
noncomputable def call103 (lf : Nat) : CallS := callC 119 (W119 lf) (callC 118 (W118 lf) (callC 25 (W25 lf) (callN)))
theorem call103_ok (lf : Nat) : CallOk Go.Proofs.Try.prog (call103 lf) := callC_ok (W119_ok lf) (callC_ok (W118_ok lf) (callC_ok (W25_ok lf) (callN_ok)))
def o103_0 : Outs := [(.normal, [4], [.bool])]
def k103_0 : KC := (.reg [⟨(some 9), none, (.op (.faddr 5 (.t 1))), []⟩, ⟨(some 10), none, (.op (.load1 (.t 9))), []⟩, ⟨(some 11), none, (.op (.bin .eql (.t 10) (.c (.str [])))), []⟩, ⟨(some 12), none, (.op (.mv (.t 11))), []⟩, ⟨(some 13), (some (12, true)), (.op (.faddr 6 (.t 1))), []⟩, ⟨(some 14), (some (12, true)), (.op (.load1 (.t 13))), []⟩, ⟨(some 15), (some (12, true)), (.op (.bin .eql (.t 14) (.c (.str [])))), []⟩, ⟨(some 16), none, (.op (.pick (.t 12) (.t 15) (.c (.bool false)))), []⟩, ⟨(some 4), none, (.op (.mv (.t 16))), []⟩])
def w103_0 (f : V → List Ob → SubR) (vs : List V) (h : List Ob) : SubR := castCons vs fun c1 l1 => castNil l1 (f c1 h)
noncomputable def S103_0 (lf : Nat) (e : V) (h : List Ob) : SubR :=
bind1 (er (.faddr 5 (.c e)) h) fun x9 =>
bind1 (er (.load1 (.c x9)) h) fun v =>
castStr v fun x10 =>
cB (x10 == ([] : List UInt8)) (
bind1 (er (.faddr 6 (.c e)) h) fun x13 =>
bind1 (er (.load1 (.c x13)) h) fun v1 =>
castStr v1 fun x14 =>
some (.normal, [(.bool (x14 == ([] : List UInt8)))], h)) (
some (.normal, [(.bool false)], h))
theorem S103_0_eq (lf : Nat) (e : V) (h : List Ob) : evCK A103 ⟨call103 lf, cvN, subN⟩ k103_0 [(1, e)] h (endK o103_0) = S103_0 lf e h := by kernel_rfl
theorem S103_0_ok (lf : Nat) : SubOk Go.Proofs.Try.prog k103_0.er [1] o103_0 (w103_0 (S103_0 lf)) := by
  refine SubOk.of (A := A103) (σ := ⟨call103 lf, cvN, subN⟩) (c := k103_0) (call103_ok lf) cvN_ok True.intro ?_
  intro vs h r e0
  simp only [w103_0] at e0
  obtain ⟨c1, l1, rfl, e1⟩ := castCons_inv e0
  obtain ⟨rfl, e2⟩ := castNil_inv e1
  have e := e2
  exact (S103_0_eq lf c1 h).trans e
def k103 : KC := (.seq (.reg [⟨(some 1), none, (.op (.box false (.t 0))), []⟩, ⟨(some 2), none, (.op (.mv (.c (.bool false)))), []⟩]) (.seq (.reg [⟨(some 6), none, (.op (.faddr 7 (.t 1))), []⟩, ⟨(some 7), none, (.op (.load1 (.t 6))), []⟩, ⟨(some 8), none, (.op (.lenL (.t 7))), []⟩, ⟨(some 3), none, (.op (.mv (.t 8))), []⟩]) (.seq (.sub 0 k103_0.er [1] o103_0) (.seq (.reg [⟨(some 17), none, (.op (.faddr 2 (.t 1))), []⟩, ⟨(some 18), none, (.op (.loadN 3 (.t 17))), []⟩, ⟨(some 19), none, (.op (.build [(.int .i64 0), (.int .i64 0), (.str [])] [])), []⟩, ⟨(some 20), none, (.op (.eq false (.struct 3 [(0, .i), (1, .i), (2, .s)]) (.t 18) (.t 19))), []⟩, ⟨(some 5), none, (.op (.mv (.t 20))), []⟩]) (.seq (.seq (.reg [⟨(some 21), none, (.op (.faddr 0 (.t 1))), []⟩, ⟨(some 22), none, (.op (.load1 (.t 21))), []⟩]) (.block 0 (.seq (.reg [⟨(some 24), none, (.op (.bin .eql (.t 22) (.c (.int .i64 1)))), []⟩, ⟨(some 23), none, (.op (.mv (.t 24))), []⟩]) (.cond (.t 23) (.seq (.reg [⟨(some 25), none, (.op (.mv (.t 3))), []⟩, ⟨(some 26), none, (.op (.bin .eql (.t 25) (.c (.int .i64 0)))), []⟩, ⟨(some 27), none, (.op (.mv (.t 26))), []⟩, ⟨(some 28), (some (27, true)), (.op (.mv (.t 4))), []⟩, ⟨(some 29), none, (.op (.pick (.t 27) (.t 28) (.c (.bool false)))), []⟩, ⟨(some 30), none, (.op (.mv (.t 29))), []⟩, ⟨(some 31), (some (30, true)), (.op (.faddr 1 (.t 1))), []⟩, ⟨(some 32), (some (30, true)), (.op (.load1 (.t 31))), []⟩, ⟨(some 33), (some (30, true)), (.op (.bin .eql (.t 32) (.c (.str [])))), []⟩, ⟨(some 34), none, (.op (.pick (.t 30) (.t 33) (.c (.bool false)))), []⟩, ⟨(some 35), none, (.op (.mv (.t 34))), []⟩, ⟨(some 36), (some (35, true)), (.op (.faddr 2 (.t 1))), []⟩, ⟨(some 37), (some (35, true)), (.op (.loadN 3 (.t 36))), []⟩, ⟨(some 38), (some (35, true)), (.call 118 [(.t 37)]), []⟩, ⟨(some 39), none, (.op (.pick (.t 35) (.t 38) (.c (.bool false)))), []⟩, ⟨(some 40), none, (.op (.mv (.t 39))), []⟩, ⟨(some 41), (some (40, true)), (.op (.faddr 2 (.t 1))), []⟩, ⟨(some 42), (some (40, true)), (.op (.faddr 1 (.t 41))), []⟩, ⟨(some 43), (some (40, true)), (.op (.load1 (.t 42))), []⟩, ⟨(some 44), (some (40, true)), (.op (.bin .geq (.t 43) (.c (.int .i64 0)))), []⟩, ⟨(some 45), none, (.op (.pick (.t 40) (.t 44) (.c (.bool false)))), []⟩, ⟨(some 2), none, (.op (.mv (.t 45))), []⟩]) .ret) (.seq (.reg [⟨(some 47), none, (.op (.bin .eql (.t 22) (.c (.int .i64 2)))), []⟩, ⟨(some 46), none, (.op (.mv (.t 47))), []⟩]) (.cond (.t 46) (.seq (.reg [⟨(some 48), none, (.op (.mv (.t 3))), []⟩, ⟨(some 49), none, (.op (.bin .eql (.t 48) (.c (.int .i64 0)))), []⟩, ⟨(some 50), none, (.op (.mv (.t 49))), []⟩, ⟨(some 51), (some (50, true)), (.op (.mv (.t 5))), []⟩, ⟨(some 52), none, (.op (.pick (.t 50) (.t 51) (.c (.bool false)))), []⟩, ⟨(some 53), none, (.op (.mv (.t 52))), []⟩, ⟨(some 54), (some (53, true)), (.op (.faddr 1 (.t 1))), []⟩, ⟨(some 55), (some (53, true)), (.op (.load1 (.t 54))), []⟩, ⟨(some 56), (some (53, true)), (.op (.bin .eql (.t 55) (.c (.str [])))), []⟩, ⟨(some 57), none, (.op (.pick (.t 53) (.t 56) (.c (.bool false)))), []⟩, ⟨(some 58), none, (.op (.mv (.t 57))), []⟩, ⟨(some 59), (some (58, true)), (.op (.faddr 6 (.t 1))), []⟩, ⟨(some 60), (some (58, true)), (.op (.load1 (.t 59))), []⟩, ⟨(some 61), (some (58, true)), (.call 25 [(.t 60)]), []⟩, ⟨(some 62), none, (.op (.pick (.t 58) (.t 61) (.c (.bool false)))), []⟩, ⟨(some 63), none, (.op (.mv (.t 62))), []⟩, ⟨(some 64), (some (63, true)), (.op (.faddr 5 (.t 1))), []⟩, ⟨(some 65), (some (63, true)), (.op (.load1 (.t 64))), []⟩, ⟨(some 66), (some (63, true)), (.op (.bin .eql (.t 65) (.c (.str [])))), []⟩, ⟨(some 67), (some (63, true)), (.op (.mv (.t 66))), []⟩, ⟨(some 68), (some (67, false)), (.op (.faddr 5 (.t 1))), []⟩, ⟨(some 69), (some (67, false)), (.op (.load1 (.t 68))), []⟩, ⟨(some 70), (some (67, false)), (.call 25 [(.t 69)]), []⟩, ⟨(some 71), (some (63, true)), (.op (.pick (.t 67) (.c (.bool true)) (.t 70))), []⟩, ⟨(some 72), none, (.op (.pick (.t 63) (.t 71) (.c (.bool false)))), []⟩, ⟨(some 2), none, (.op (.mv (.t 72))), []⟩]) .ret) (.seq (.reg [⟨(some 74), none, (.op (.bin .eql (.t 22) (.c (.int .i64 3)))), []⟩, ⟨(some 73), none, (.op (.mv (.t 74))), []⟩]) (.cond (.t 73) (.seq (.reg [⟨(some 75), none, (.op (.mv (.t 3))), []⟩, ⟨(some 76), none, (.op (.bin .eql (.t 75) (.c (.int .i64 1)))), []⟩, ⟨(some 77), none, (.op (.mv (.t 76))), []⟩, ⟨(some 78), (some (77, true)), (.op (.mv (.t 4))), []⟩, ⟨(some 79), none, (.op (.pick (.t 77) (.t 78) (.c (.bool false)))), []⟩, ⟨(some 80), none, (.op (.mv (.t 79))), []⟩, ⟨(some 81), (some (80, true)), (.op (.mv (.t 5))), []⟩, ⟨(some 82), none, (.op (.pick (.t 80) (.t 81) (.c (.bool false)))), []⟩, ⟨(some 83), none, (.op (.mv (.t 82))), []⟩, ⟨(some 84), (some (83, true)), (.op (.faddr 1 (.t 1))), []⟩, ⟨(some 85), (some (83, true)), (.op (.load1 (.t 84))), []⟩, ⟨(some 86), (some (83, true)), (.op (.bslice 1 (.str []) 2 [(0, (.c (.str [78, 79, 84]))), (1, (.c (.str [45])))])), []⟩, ⟨(some 87), (some (83, true)), (.call 119 [(.t 85), (.t 86)]), []⟩, ⟨(some 88), none, (.op (.pick (.t 83) (.t 87) (.c (.bool false)))), []⟩, ⟨(some 2), none, (.op (.mv (.t 88))), []⟩]) .ret) (.seq (.reg [⟨(some 90), none, (.op (.bin .eql (.t 22) (.c (.int .i64 4)))), []⟩, ⟨(some 89), none, (.op (.mv (.t 90))), []⟩]) (.cond (.t 89) (.seq (.reg [⟨(some 91), none, (.op (.mv (.t 3))), []⟩, ⟨(some 92), none, (.op (.bin .eql (.t 91) (.c (.int .i64 2)))), []⟩, ⟨(some 93), none, (.op (.mv (.t 92))), []⟩, ⟨(some 94), (some (93, true)), (.op (.mv (.t 4))), []⟩, ⟨(some 95), none, (.op (.pick (.t 93) (.t 94) (.c (.bool false)))), []⟩, ⟨(some 96), none, (.op (.mv (.t 95))), []⟩, ⟨(some 97), (some (96, true)), (.op (.mv (.t 5))), []⟩, ⟨(some 98), none, (.op (.pick (.t 96) (.t 97) (.c (.bool false)))), []⟩, ⟨(some 99), none, (.op (.mv (.t 98))), []⟩, ⟨(some 100), (some (99, true)), (.op (.faddr 1 (.t 1))), []⟩, ⟨(some 101), (some (99, true)), (.op (.load1 (.t 100))), []⟩, ⟨(some 102), (some (99, true)), (.op (.bslice 1 (.str []) 11 [(0, (.c (.str [79, 82]))), (1, (.c (.str [65, 78, 68]))), (2, (.c (.str [61]))), (3, (.c (.str [60, 62]))), (4, (.c (.str [60]))), (5, (.c (.str [60, 61]))), (6, (.c (.str [62]))), (7, (.c (.str [62, 61]))), (8, (.c (.str [43]))), (9, (.c (.str [45]))), (10, (.c (.str [42])))])), []⟩, ⟨(some 103), (some (99, true)), (.call 119 [(.t 101), (.t 102)]), []⟩, ⟨(some 104), none, (.op (.pick (.t 99) (.t 103) (.c (.bool false)))), []⟩, ⟨(some 2), none, (.op (.mv (.t 104))), []⟩]) .ret) (.seq (.reg [⟨(some 106), none, (.op (.bin .eql (.t 22) (.c (.int .i64 5)))), []⟩, ⟨(some 105), none, (.op (.mv (.t 106))), []⟩]) (.cond (.t 105) (.seq (.reg [⟨(some 107), none, (.op (.mv (.t 3))), []⟩, ⟨(some 108), none, (.op (.bin .eql (.t 107) (.c (.int .i64 1)))), []⟩, ⟨(some 109), none, (.op (.mv (.t 108))), []⟩, ⟨(some 110), (some (109, true)), (.op (.mv (.t 4))), []⟩, ⟨(some 111), none, (.op (.pick (.t 109) (.t 110) (.c (.bool false)))), []⟩, ⟨(some 112), none, (.op (.mv (.t 111))), []⟩, ⟨(some 113), (some (112, true)), (.op (.mv (.t 5))), []⟩, ⟨(some 114), none, (.op (.pick (.t 112) (.t 113) (.c (.bool false)))), []⟩, ⟨(some 115), none, (.op (.mv (.t 114))), []⟩, ⟨(some 116), (some (115, true)), (.op (.faddr 1 (.t 1))), []⟩, ⟨(some 117), (some (115, true)), (.op (.load1 (.t 116))), []⟩, ⟨(some 118), (some (115, true)), (.op (.bslice 1 (.str []) 2 [(0, (.c (.str [73, 83, 32, 78, 85, 76, 76]))), (1, (.c (.str [73, 83, 32, 78, 79, 84, 32, 78, 85, 76, 76])))])), []⟩, ⟨(some 119), (some (115, true)), (.call 119 [(.t 117), (.t 118)]), []⟩, ⟨(some 120), none, (.op (.pick (.t 115) (.t 119) (.c (.bool false)))), []⟩, ⟨(some 2), none, (.op (.mv (.t 120))), []⟩]) .ret) (.seq (.reg [⟨(some 122), none, (.op (.bin .eql (.t 22) (.c (.int .i64 6)))), []⟩, ⟨(some 121), none, (.op (.mv (.t 122))), []⟩]) (.cond (.t 121) (.seq (.reg [⟨(some 123), none, (.op (.mv (.t 4))), []⟩, ⟨(some 124), none, (.op (.mv (.t 123))), []⟩, ⟨(some 125), (some (124, true)), (.op (.mv (.t 5))), []⟩, ⟨(some 126), none, (.op (.pick (.t 124) (.t 125) (.c (.bool false)))), []⟩, ⟨(some 127), none, (.op (.mv (.t 126))), []⟩, ⟨(some 128), (some (127, true)), (.op (.faddr 1 (.t 1))), []⟩, ⟨(some 129), (some (127, true)), (.op (.load1 (.t 128))), []⟩, ⟨(some 130), (some (127, true)), (.op (.bslice 1 (.str []) 4 [(0, (.c (.str [67, 79, 85, 78, 84]))), (1, (.c (.str [83, 85, 77]))), (2, (.c (.str [77, 73, 78]))), (3, (.c (.str [77, 65, 88])))])), []⟩, ⟨(some 131), (some (127, true)), (.call 119 [(.t 129), (.t 130)]), []⟩, ⟨(some 132), none, (.op (.pick (.t 127) (.t 131) (.c (.bool false)))), []⟩, ⟨(some 133), none, (.op (.mv (.t 132))), []⟩, ⟨(some 134), (some (133, true)), (.op (.mv (.t 3))), []⟩, ⟨(some 135), (some (133, true)), (.op (.bin .eql (.t 134) (.c (.int .i64 1)))), []⟩, ⟨(some 136), (some (133, true)), (.op (.mv (.t 135))), []⟩, ⟨(some 137), (some (136, false)), (.op (.mv (.t 3))), []⟩, ⟨(some 138), (some (136, false)), (.op (.bin .eql (.t 137) (.c (.int .i64 0)))), []⟩, ⟨(some 139), (some (136, false)), (.op (.mv (.t 138))), []⟩, ⟨(some 140), (some (139, true)), (.op (.faddr 1 (.t 1))), []⟩, ⟨(some 141), (some (139, true)), (.op (.load1 (.t 140))), []⟩, ⟨(some 142), (some (139, true)), (.op (.bin .eql (.t 141) (.c (.str [67, 79, 85, 78, 84])))), []⟩, ⟨(some 143), (some (136, false)), (.op (.pick (.t 139) (.t 142) (.c (.bool false)))), []⟩, ⟨(some 144), (some (133, true)), (.op (.pick (.t 136) (.c (.bool true)) (.t 143))), []⟩, ⟨(some 145), none, (.op (.pick (.t 133) (.t 144) (.c (.bool false)))), []⟩, ⟨(some 2), none, (.op (.mv (.t 145))), []⟩]) .ret) .skip)))))))))))))) (.seq (.reg [⟨(some 2), none, (.op (.mv (.c (.bool false)))), []⟩]) .ret))))))
noncomputable def F103 (lf : Nat) (e : Int) (e1 : List UInt8) (e2 : Int) (e3 : Int) (e4 : List UInt8) (e5 : List UInt8) (e6 : List UInt8) (e7 : V) (h : List Ob) : Option (V × List Ob) :=
bind2 (ev (.box false (.c (.agg [(.int .i64 e), (.str e1), (.int .i64 e2), (.int .i64 e3), (.str e4), (.str e5), (.str e6), e7]))) h) fun e8 h_ =>
bind1 (er (.faddr 7 (.c e8)) h_) fun x6 =>
bind1 (er (.load1 (.c x6)) h_) fun x7 =>
bind1 (er (.lenL (.c x7)) h_) fun v =>
castInt .i64 v fun x8 =>
bind3 (S103_0 lf e8 h_) fun ex vs h_1 =>
cB (decide (ex = .normal)) (
castCons vs fun c l =>
castBool c fun plain =>
castNil l (
bind1 (er (.faddr 2 (.c e8)) h_1) fun x17 =>
bind1 (er (.loadN 3 (.c x17)) h_1) fun v1 =>
castAgg v1 fun l1 =>
castCons l1 fun c1 l2 =>
castInt .i64 c1 fun x18_0 =>
castCons l2 fun c2 l3 =>
castInt .i64 c2 fun x18_1 =>
castCons l3 fun c3 l4 =>
castStr c3 fun x18_2 =>
castNil l4 (
bind1 (er (.build [(.int .i64 0), (.int .i64 0), (.str [])] []) h_1) fun v2 =>
castAgg v2 fun l5 =>
castCons l5 fun c4 l6 =>
castInt .i64 c4 fun x19_0 =>
castCons l6 fun c5 l7 =>
castInt .i64 c5 fun x19_1 =>
castCons l7 fun c6 l8 =>
castStr c6 fun x19_2 =>
castNil l8 (
bind1 (er (.eq false (.struct 3 [(0, .i), (1, .i), (2, .s)]) (.c (.agg [(.int .i64 x18_0), (.int .i64 x18_1), (.str x18_2)])) (.c (.agg [(.int .i64 x19_0), (.int .i64 x19_1), (.str x19_2)]))) h_1) fun v3 =>
castBool v3 fun x20 =>
bind1 (er (.faddr 0 (.c e8)) h_1) fun x21 =>
bind1 (er (.load1 (.c x21)) h_1) fun v4 =>
castInt .i64 v4 fun x22 =>
cB (x22 == (1)) (
cB (x8 == (0)) (
cB plain (
bind1 (er (.faddr 1 (.c e8)) h_1) fun x31 =>
bind1 (er (.load1 (.c x31)) h_1) fun v5 =>
castStr v5 fun x32 =>
cB (x32 == ([] : List UInt8)) (
bind1 (er (.faddr 2 (.c e8)) h_1) fun x36 =>
bind1 (er (.loadN 3 (.c x36)) h_1) fun v6 =>
castAgg v6 fun l9 =>
castCons l9 fun c7 l10 =>
castInt .i64 c7 fun x37_0 =>
castCons l10 fun c8 l11 =>
castInt .i64 c8 fun x37_1 =>
castCons l11 fun c9 l12 =>
castStr c9 fun x37_2 =>
castNil l12 (
bind2 (F118 lf x37_0 x37_1 x37_2 h_1) fun v7 h_2 =>
castBool v7 fun x38 =>
cB x38 (
bind1 (er (.faddr 2 (.c e8)) h_2) fun x41 =>
bind1 (er (.faddr 1 (.c x41)) h_2) fun x42 =>
bind1 (er (.load1 (.c x42)) h_2) fun v8 =>
castInt .i64 v8 fun x43 =>
some ((.bool (decide (x43 ≥ (0)))), h_2)) (
some ((.bool false), h_2)))) (
some ((.bool false), h_1))) (
some ((.bool false), h_1))) (
some ((.bool false), h_1))) (
cB (x22 == (2)) (
cB (x8 == (0)) (
cB x20 (
bind1 (er (.faddr 1 (.c e8)) h_1) fun x54 =>
bind1 (er (.load1 (.c x54)) h_1) fun v5 =>
castStr v5 fun x55 =>
cB (x55 == ([] : List UInt8)) (
bind1 (er (.faddr 6 (.c e8)) h_1) fun x59 =>
bind1 (er (.load1 (.c x59)) h_1) fun v6 =>
castStr v6 fun x60 =>
bind2 (F25 lf x60 h_1) fun v7 h_2 =>
castBool v7 fun x61 =>
cB x61 (
bind1 (er (.faddr 5 (.c e8)) h_2) fun x64 =>
bind1 (er (.load1 (.c x64)) h_2) fun v8 =>
castStr v8 fun x65 =>
cB (x65 == ([] : List UInt8)) (
some ((.bool true), h_2)) (
bind1 (er (.faddr 5 (.c e8)) h_2) fun x68 =>
bind1 (er (.load1 (.c x68)) h_2) fun v9 =>
castStr v9 fun x69 =>
bind2 (F25 lf x69 h_2) fun v10 h_3 =>
castBool v10 fun x70 =>
some ((.bool x70), h_3))) (
some ((.bool false), h_2))) (
some ((.bool false), h_1))) (
some ((.bool false), h_1))) (
some ((.bool false), h_1))) (
cB (x22 == (3)) (
cB (x8 == (1)) (
cB plain (
cB x20 (
bind1 (er (.faddr 1 (.c e8)) h_1) fun x84 =>
bind1 (er (.load1 (.c x84)) h_1) fun v5 =>
castStr v5 fun x85 =>
bind2 (ev (.bslice 1 (.str []) 2 [(0, (.c (.str [78, 79, 84]))), (1, (.c (.str [45])))]) h_1) fun x86 h_2 =>
bind2 (F119 lf x85 x86 h_2) fun v6 h_3 =>
castBool v6 fun x87 =>
some ((.bool x87), h_3)) (
some ((.bool false), h_1))) (
some ((.bool false), h_1))) (
some ((.bool false), h_1))) (
cB (x22 == (4)) (
cB (x8 == (2)) (
cB plain (
cB x20 (
bind1 (er (.faddr 1 (.c e8)) h_1) fun x100 =>
bind1 (er (.load1 (.c x100)) h_1) fun v5 =>
castStr v5 fun x101 =>
bind2 (ev (.bslice 1 (.str []) 11 [(0, (.c (.str [79, 82]))), (1, (.c (.str [65, 78, 68]))), (2, (.c (.str [61]))), (3, (.c (.str [60, 62]))), (4, (.c (.str [60]))), (5, (.c (.str [60, 61]))), (6, (.c (.str [62]))), (7, (.c (.str [62, 61]))), (8, (.c (.str [43]))), (9, (.c (.str [45]))), (10, (.c (.str [42])))]) h_1) fun x102 h_2 =>
bind2 (F119 lf x101 x102 h_2) fun v6 h_3 =>
castBool v6 fun x103 =>
some ((.bool x103), h_3)) (
some ((.bool false), h_1))) (
some ((.bool false), h_1))) (
some ((.bool false), h_1))) (
cB (x22 == (5)) (
cB (x8 == (1)) (
cB plain (
cB x20 (
bind1 (er (.faddr 1 (.c e8)) h_1) fun x116 =>
bind1 (er (.load1 (.c x116)) h_1) fun v5 =>
castStr v5 fun x117 =>
bind2 (ev (.bslice 1 (.str []) 2 [(0, (.c (.str [73, 83, 32, 78, 85, 76, 76]))), (1, (.c (.str [73, 83, 32, 78, 79, 84, 32, 78, 85, 76, 76])))]) h_1) fun x118 h_2 =>
bind2 (F119 lf x117 x118 h_2) fun v6 h_3 =>
castBool v6 fun x119 =>
some ((.bool x119), h_3)) (
some ((.bool false), h_1))) (
some ((.bool false), h_1))) (
some ((.bool false), h_1))) (
cB (x22 == (6)) (
cB plain (
cB x20 (
bind1 (er (.faddr 1 (.c e8)) h_1) fun x128 =>
bind1 (er (.load1 (.c x128)) h_1) fun v5 =>
castStr v5 fun x129 =>
bind2 (ev (.bslice 1 (.str []) 4 [(0, (.c (.str [67, 79, 85, 78, 84]))), (1, (.c (.str [83, 85, 77]))), (2, (.c (.str [77, 73, 78]))), (3, (.c (.str [77, 65, 88])))]) h_1) fun x130 h_2 =>
bind2 (F119 lf x129 x130 h_2) fun v6 h_3 =>
castBool v6 fun x131 =>
cB x131 (
cB (x8 == (1)) (
some ((.bool true), h_3)) (
cB (x8 == (0)) (
bind1 (er (.faddr 1 (.c e8)) h_3) fun x140 =>
bind1 (er (.load1 (.c x140)) h_3) fun v7 =>
castStr v7 fun x141 =>
some ((.bool (x141 == [67, 79, 85, 78, 84])), h_3)) (
some ((.bool false), h_3)))) (
some ((.bool false), h_3))) (
some ((.bool false), h_1))) (
some ((.bool false), h_1))) (
some ((.bool false), h_1))))))))))) (
none)
theorem F103_eq (lf : Nat) (e : Int) (e1 : List UInt8) (e2 : Int) (e3 : Int) (e4 : List UInt8) (e5 : List UInt8) (e6 : List UInt8) (e7 : V) (h : List Ob) : evCK A103 ⟨call103 lf, cvN, subC 0 (w103_0 (S103_0 lf)) (subN)⟩ k103 (entryK [(.agg [(.int .i64 e), (.str e1), (.int .i64 e2), (.int .i64 e3), (.str e4), (.str e5), (.str e6), e7])]) h (endF c103.res) = F103 lf e e1 e2 e3 e4 e5 e6 e7 h := by kernel_rfl
theorem F103_ok (lf : Nat) (e : Int) (e1 : List UInt8) (e2 : Int) (e3 : Int) (e4 : List UInt8) (e5 : List UInt8) (e6 : List UInt8) (e7 : V) (h : List Ob) (r_ : V) (h_r : List Ob) (e_ : F103 lf e e1 e2 e3 e4 e5 e6 e7 h = some (r_, h_r)) : CD Go.Proofs.Try.prog 103 [(.agg [(.int .i64 e), (.str e1), (.int .i64 e2), (.int .i64 e3), (.str e4), (.str e5), (.str e6), e7])] h r_ h_r :=
  CD.ofK (A := A103) (σ := ⟨call103 lf, cvN, subC 0 (w103_0 (S103_0 lf)) (subN)⟩) (c := k103) Go.Proofs.Try.func103 ok103 en103 (show 1 ≤ 146 by decide) (by kernel_rfl) (call103_ok lf) cvN_ok (And.intro True.intro (And.intro True.intro (And.intro (S103_0_ok lf) (And.intro True.intro (And.intro (And.intro True.intro (And.intro True.intro (And.intro (And.intro True.intro True.intro) (And.intro True.intro (And.intro (And.intro True.intro True.intro) (And.intro True.intro (And.intro (And.intro True.intro True.intro) (And.intro True.intro (And.intro (And.intro True.intro True.intro) (And.intro True.intro (And.intro (And.intro True.intro True.intro) (And.intro True.intro (And.intro (And.intro True.intro True.intro) True.intro))))))))))))) (And.intro True.intro True.intro)))))) ((F103_eq lf e e1 e2 e3 e4 e5 e6 e7 h).trans e_)
def w103 (f : Int → List UInt8 → Int → Int → List UInt8 → List UInt8 → List UInt8 → V → List Ob → Option (V × List Ob)) (vs : List V) (h : List Ob) : Option (V × List Ob) := castCons vs fun c1 l1 => castAgg c1 fun n2 => castCons n2 fun c3 l3 => castInt .i64 c3 fun n4 => castCons l3 fun c5 l5 => castStr c5 fun n6 => castCons l5 fun c7 l7 => castInt .i64 c7 fun n8 => castCons l7 fun c9 l9 => castInt .i64 c9 fun n10 => castCons l9 fun c11 l11 => castStr c11 fun n12 => castCons l11 fun c13 l13 => castStr c13 fun n14 => castCons l13 fun c15 l15 => castStr c15 fun n16 => castCons l15 fun c17 l17 => castNil l17 (castNil l1 (f n4 n6 n8 n10 n12 n14 n16 c17 h))
noncomputable def W103 (lf : Nat) : List V → List Ob → Option (V × List Ob) := w103 (F103 lf)
theorem W103_ok (lf : Nat) : ∀ args h v h', W103 lf args h = some (v, h') → CD Go.Proofs.Try.prog 103 args h v h' := by
  intro vs h r h' e0
  simp only [W103, w103] at e0
  obtain ⟨c1, l1, rfl, e1⟩ := castCons_inv e0
  obtain ⟨l2, rfl, e2⟩ := castAgg_inv e1
  obtain ⟨c3, l3, rfl, e3⟩ := castCons_inv e2
  obtain ⟨y0, rfl, e4⟩ := castInt_inv e3
  obtain ⟨c4, l4, rfl, e5⟩ := castCons_inv e4
  obtain ⟨y1, rfl, e6⟩ := castStr_inv e5
  obtain ⟨c5, l5, rfl, e7⟩ := castCons_inv e6
  obtain ⟨y2, rfl, e8⟩ := castInt_inv e7
  obtain ⟨c6, l6, rfl, e9⟩ := castCons_inv e8
  obtain ⟨y3, rfl, e10⟩ := castInt_inv e9
  obtain ⟨c7, l7, rfl, e11⟩ := castCons_inv e10
  obtain ⟨y4, rfl, e12⟩ := castStr_inv e11
  obtain ⟨c8, l8, rfl, e13⟩ := castCons_inv e12
  obtain ⟨y5, rfl, e14⟩ := castStr_inv e13
  obtain ⟨c9, l9, rfl, e15⟩ := castCons_inv e14
  obtain ⟨y6, rfl, e16⟩ := castStr_inv e15
  obtain ⟨c10, l10, rfl, e17⟩ := castCons_inv e16
  obtain ⟨rfl, e18⟩ := castNil_inv e17
  obtain ⟨rfl, e19⟩ := castNil_inv e18
  have e := e19
  exact F103_ok lf y0 y1 y2 y3 y4 y5 y6 c10 h r h' e

/-! 77: wainscot/wainscotref05.sound -/
def A77 : List (Nat × Sh) := [(0, (.agg [(.int .i64), .str, (.int .i64), (.int .i64), .str, .str, .str, .any])), (1, (.int .i64)), (4, .bool), (5, (.int .i64)), (6, (.int .i64)), (7, .bool), (8, .bool), (9, (.agg [(.int .i64), .str, (.int .i64), (.int .i64), .str, .str, .str, .any])), (10, .bool), (11, .bool), (12, .bool), (15, (.int .i64)), (16, (.int .i64)), (17, .bool), (18, (.int .i64)), (21, (.int .i64)), (23, (.agg [(.int .i64), .str, (.int .i64), (.int .i64), .str, .str, .str, .any])), (24, (.int .i64)), (25, (.int .i64)), (26, .bool), (27, .bool), (28, (.int .i64))]
noncomputable def call77 (lf : Nat) (rc : CallS) : CallS := callC 103 (W103 lf) (rc)
theorem call77_ok (lf : Nat) (rc : CallS) (hrc : CallOk Go.Proofs.Try.prog rc) : CallOk Go.Proofs.Try.prog (call77 lf rc) := callC_ok (W103_ok lf) (hrc)
def o77_0 : Outs := [((.exit 0), [], []), (.ret, [4], [.bool])]
def k77_0 : KC := (.seq (.reg [⟨(some 17), none, (.op (.bin .lss (.t 16) (.t 15))), []⟩]) (.seq (.cond (.t 17) .skip (.exit 0)) (.seq (.block 1 (.seq (.reg [⟨(some 18), none, (.op (.mv (.t 16))), []⟩, ⟨(some 5), none, (.op (.mv (.t 18))), []⟩]) (.seq (.reg [⟨(some 19), none, (.op (.faddr 7 (.t 2))), []⟩, ⟨(some 20), none, (.op (.load1 (.t 19))), []⟩, ⟨(some 21), none, (.op (.mv (.t 5))), []⟩, ⟨(some 22), none, (.op (.iaddrL 8 (.t 20) (.t 21))), []⟩, ⟨(some 23), none, (.op (.loadN 8 (.t 22))), []⟩, ⟨(some 24), none, (.op (.mv (.t 1))), []⟩, ⟨(some 25), none, (.op (.bin .sub (.t 24) (.c (.int .i64 1)))), []⟩, ⟨(some 26), none, (.call 77 [(.t 23), (.t 25)]), []⟩, ⟨(some 27), none, (.op (.un .not (.t 26))), []⟩]) (.cond (.t 27) (.seq (.reg [⟨(some 4), none, (.op (.mv (.c (.bool false)))), []⟩]) .ret) .skip)))) (.reg [⟨(some 28), none, (.op (.bin .add (.t 16) (.c (.int .i64 1)))), []⟩, ⟨(some 16), none, (.op (.mv (.t 28))), []⟩]))))
def w77_0 (f : Int → V → Int → Int → List Ob → SubR) (vs : List V) (h : List Ob) : SubR := castCons vs fun c1 l1 => castInt .i64 c1 fun n2 => castCons l1 fun c3 l3 => castCons l3 fun c4 l4 => castInt .i64 c4 fun n5 => castCons l4 fun c6 l6 => castInt .i64 c6 fun n7 => castNil l6 (f n2 c3 n5 n7 h)
noncomputable def B77_0 (lf : Nat) (rc : CallS) (self : Int → V → Int → Int → List Ob → SubR) (most : Int) (e : V) (x15 : Int) (x16 : Int) (h : List Ob) : SubR :=
cB (decide (x16 < x15)) (
bind1 (er (.faddr 7 (.c e)) h) fun x19 =>
bind1 (er (.load1 (.c x19)) h) fun x20 =>
bind1 (er (.iaddrL 8 (.c x20) (.c (.int .i64 x16))) h) fun x22 =>
bind1 (er (.loadN 8 (.c x22)) h) fun v =>
castAgg v fun l =>
castCons l fun c l1 =>
castInt .i64 c fun x23_0 =>
castCons l1 fun c1 l2 =>
castStr c1 fun x23_1 =>
castCons l2 fun c2 l3 =>
castInt .i64 c2 fun x23_2 =>
castCons l3 fun c3 l4 =>
castInt .i64 c3 fun x23_3 =>
castCons l4 fun c4 l5 =>
castStr c4 fun x23_4 =>
castCons l5 fun c5 l6 =>
castStr c5 fun x23_5 =>
castCons l6 fun c6 l7 =>
castStr c6 fun x23_6 =>
castCons l7 fun x23_7 l8 =>
castNil l8 (
bind2 (rc 77 [(.agg [(.int .i64 x23_0), (.str x23_1), (.int .i64 x23_2), (.int .i64 x23_3), (.str x23_4), (.str x23_5), (.str x23_6), x23_7]), (.int .i64 (IntKind.i64.wrap (most - (1))))] h) fun v1 h_ =>
castBool v1 fun x26 =>
cB (!x26) (
some (.ret, [(.bool false)], h_)) (
self most e x15 (IntKind.i64.wrap (x16 + (1))) h_))) (
some ((.exit 0), [], h))
noncomputable def L77_0 (lf : Nat) (rc : CallS) : Nat → Int → V → Int → Int → List Ob → SubR
  | 0 => fun _ _ _ _ _ => none
  | n + 1 => B77_0 lf rc (L77_0 lf rc n)
theorem B77_0_eq (lf : Nat) (rc : CallS) (self : Int → V → Int → Int → List Ob → SubR) (most : Int) (e : V) (x15 : Int) (x16 : Int) (h : List Ob) : evCK A77 ⟨call77 lf rc, cvN, subN⟩ k77_0 [(1, (.int .i64 most)), (2, e), (15, (.int .i64 x15)), (16, (.int .i64 x16))] h (endL [1, 2, 15, 16] [(.int .i64), .any, (.int .i64), (.int .i64)] o77_0 (w77_0 self)) = B77_0 lf rc self most e x15 x16 h := by kernel_rfl
theorem L77_0_ok (lf : Nat) (rc : CallS) (hrc : CallOk Go.Proofs.Try.prog rc) : ∀ n, SubOk Go.Proofs.Try.prog (.loop k77_0.er) [1, 2, 15, 16] o77_0 (w77_0 (L77_0 lf rc n)) := by
  refine SubOk.loop (A := A77) (σ := ⟨call77 lf rc, cvN, subN⟩) (c := k77_0) (shs := [(.int .i64), .any, (.int .i64), (.int .i64)]) (G := fun n => w77_0 (L77_0 lf rc n)) (call77_ok lf rc hrc) cvN_ok (And.intro True.intro (And.intro (And.intro True.intro True.intro) (And.intro (And.intro True.intro (And.intro True.intro (And.intro (And.intro True.intro True.intro) True.intro))) True.intro))) ?_ ?_
  · intro vs h r e0
    simp only [w77_0] at e0
    obtain ⟨c1, l1, rfl, e1⟩ := castCons_inv e0
    obtain ⟨y0, rfl, e2⟩ := castInt_inv e1
    obtain ⟨c2, l2, rfl, e3⟩ := castCons_inv e2
    obtain ⟨c3, l3, rfl, e4⟩ := castCons_inv e3
    obtain ⟨y2, rfl, e5⟩ := castInt_inv e4
    obtain ⟨c4, l4, rfl, e6⟩ := castCons_inv e5
    obtain ⟨y3, rfl, e7⟩ := castInt_inv e6
    obtain ⟨rfl, e8⟩ := castNil_inv e7
    have e := e8
    cases e
  · intro n vs h r e0
    simp only [w77_0] at e0
    obtain ⟨c1, l1, rfl, e1⟩ := castCons_inv e0
    obtain ⟨y0, rfl, e2⟩ := castInt_inv e1
    obtain ⟨c2, l2, rfl, e3⟩ := castCons_inv e2
    obtain ⟨c3, l3, rfl, e4⟩ := castCons_inv e3
    obtain ⟨y2, rfl, e5⟩ := castInt_inv e4
    obtain ⟨c4, l4, rfl, e6⟩ := castCons_inv e5
    obtain ⟨y3, rfl, e7⟩ := castInt_inv e6
    obtain ⟨rfl, e8⟩ := castNil_inv e7
    have e := e8
    exact (B77_0_eq lf rc (L77_0 lf rc n) y0 c2 y2 y3 h).trans e
def o77_1 : Outs := [(.ret, [4], [.bool]), (.normal, [], [])]
def k77_1 : KC := (.seq (.reg [⟨(some 6), none, (.op (.mv (.t 1))), []⟩, ⟨(some 7), none, (.op (.bin .lss (.t 6) (.c (.int .i64 1)))), []⟩, ⟨(some 8), none, (.op (.mv (.t 7))), []⟩, ⟨(some 9), (some (8, false)), (.op (.loadN 8 (.t 2))), []⟩, ⟨(some 10), (some (8, false)), (.call 103 [(.t 9)]), []⟩, ⟨(some 11), (some (8, false)), (.op (.un .not (.t 10))), []⟩, ⟨(some 12), none, (.op (.pick (.t 8) (.c (.bool true)) (.t 11))), []⟩]) (.cond (.t 12) (.seq (.reg [⟨(some 4), none, (.op (.mv (.c (.bool false)))), []⟩]) .ret) .skip))
def w77_1 (f : Int → V → List Ob → SubR) (vs : List V) (h : List Ob) : SubR := castCons vs fun c1 l1 => castInt .i64 c1 fun n2 => castCons l1 fun c3 l3 => castNil l3 (f n2 c3 h)
noncomputable def S77_1 (lf : Nat) (rc : CallS) (most : Int) (e : V) (h : List Ob) : SubR :=
cB (decide (most < (1))) (
some (.ret, [(.bool false)], h)) (
bind1 (er (.loadN 8 (.c e)) h) fun v =>
castAgg v fun l =>
castCons l fun c l1 =>
castInt .i64 c fun x9_0 =>
castCons l1 fun c1 l2 =>
castStr c1 fun x9_1 =>
castCons l2 fun c2 l3 =>
castInt .i64 c2 fun x9_2 =>
castCons l3 fun c3 l4 =>
castInt .i64 c3 fun x9_3 =>
castCons l4 fun c4 l5 =>
castStr c4 fun x9_4 =>
castCons l5 fun c5 l6 =>
castStr c5 fun x9_5 =>
castCons l6 fun c6 l7 =>
castStr c6 fun x9_6 =>
castCons l7 fun x9_7 l8 =>
castNil l8 (
bind2 (F103 lf x9_0 x9_1 x9_2 x9_3 x9_4 x9_5 x9_6 x9_7 h) fun v1 h_ =>
castBool v1 fun x10 =>
cB (!x10) (
some (.ret, [(.bool false)], h_)) (
some (.normal, [], h_))))
theorem S77_1_eq (lf : Nat) (rc : CallS) (most : Int) (e : V) (h : List Ob) : evCK A77 ⟨call77 lf rc, cvN, subN⟩ k77_1 [(1, (.int .i64 most)), (2, e)] h (endK o77_1) = S77_1 lf rc most e h := by kernel_rfl
theorem S77_1_ok (lf : Nat) (rc : CallS) (hrc : CallOk Go.Proofs.Try.prog rc) : SubOk Go.Proofs.Try.prog k77_1.er [1, 2] o77_1 (w77_1 (S77_1 lf rc)) := by
  refine SubOk.of (A := A77) (σ := ⟨call77 lf rc, cvN, subN⟩) (c := k77_1) (call77_ok lf rc hrc) cvN_ok (And.intro True.intro (And.intro (And.intro True.intro True.intro) True.intro)) ?_
  intro vs h r e0
  simp only [w77_1] at e0
  obtain ⟨c1, l1, rfl, e1⟩ := castCons_inv e0
  obtain ⟨y0, rfl, e2⟩ := castInt_inv e1
  obtain ⟨c2, l2, rfl, e3⟩ := castCons_inv e2
  obtain ⟨rfl, e4⟩ := castNil_inv e3
  have e := e4
  exact (S77_1_eq lf rc y0 c2 h).trans e
def k77 : KC := (.seq (.reg [⟨(some 2), none, (.op (.box false (.t 0))), []⟩, ⟨(some 4), none, (.op (.mv (.c (.bool false)))), []⟩]) (.seq (.sub 1 k77_1.er [1, 2] o77_1) (.seq (.seq (.reg [⟨(some 13), none, (.op (.faddr 7 (.t 2))), []⟩, ⟨(some 14), none, (.op (.load1 (.t 13))), []⟩, ⟨(some 15), none, (.op (.lenL (.t 14))), []⟩, ⟨(some 16), none, (.op (.mv (.c (.int .i64 0)))), []⟩]) (.block 0 (.sub 0 (.loop k77_0.er) [1, 2, 15, 16] o77_0))) (.seq (.reg [⟨(some 4), none, (.op (.mv (.c (.bool true)))), []⟩]) .ret))))
noncomputable def F77 (lf : Nat) (rc : CallS) (e : Int) (e1 : List UInt8) (e2 : Int) (e3 : Int) (e4 : List UInt8) (e5 : List UInt8) (e6 : List UInt8) (e7 : V) (most : Int) (h : List Ob) : Option (V × List Ob) :=
bind2 (ev (.box false (.c (.agg [(.int .i64 e), (.str e1), (.int .i64 e2), (.int .i64 e3), (.str e4), (.str e5), (.str e6), e7]))) h) fun e8 h_ =>
bind3 (S77_1 lf rc most e8 h_) fun ex vs h_1 =>
cB (decide (ex = .ret)) (
castCons vs fun c l =>
castBool c fun x4 =>
castNil l (
some ((.bool x4), h_1))) (
cB (decide (ex = .normal)) (
castNil vs (
bind1 (er (.faddr 7 (.c e8)) h_1) fun x13 =>
bind1 (er (.load1 (.c x13)) h_1) fun x14 =>
bind1 (er (.lenL (.c x14)) h_1) fun v =>
castInt .i64 v fun x15 =>
bind3 (L77_0 lf rc lf most e8 x15 (0) h_1) fun ex1 vs1 h_2 =>
cB (decide (ex1 = (.exit 0))) (
castNil vs1 (
some ((.bool true), h_2))) (
cB (decide (ex1 = .ret)) (
castCons vs1 fun c l =>
castBool c fun x4 =>
castNil l (
some ((.bool x4), h_2))) (
none)))) (
none))
theorem F77_eq (lf : Nat) (rc : CallS) (e : Int) (e1 : List UInt8) (e2 : Int) (e3 : Int) (e4 : List UInt8) (e5 : List UInt8) (e6 : List UInt8) (e7 : V) (most : Int) (h : List Ob) : evCK A77 ⟨call77 lf rc, cvN, subC 0 (w77_0 (L77_0 lf rc lf)) (subC 1 (w77_1 (S77_1 lf rc)) (subN))⟩ k77 (entryK [(.agg [(.int .i64 e), (.str e1), (.int .i64 e2), (.int .i64 e3), (.str e4), (.str e5), (.str e6), e7]), (.int .i64 most)]) h (endF c77.res) = F77 lf rc e e1 e2 e3 e4 e5 e6 e7 most h := by kernel_rfl
theorem F77_ok (lf : Nat) (rc : CallS) (hrc : CallOk Go.Proofs.Try.prog rc) (e : Int) (e1 : List UInt8) (e2 : Int) (e3 : Int) (e4 : List UInt8) (e5 : List UInt8) (e6 : List UInt8) (e7 : V) (most : Int) (h : List Ob) (r_ : V) (h_r : List Ob) (e_ : F77 lf rc e e1 e2 e3 e4 e5 e6 e7 most h = some (r_, h_r)) : CD Go.Proofs.Try.prog 77 [(.agg [(.int .i64 e), (.str e1), (.int .i64 e2), (.int .i64 e3), (.str e4), (.str e5), (.str e6), e7]), (.int .i64 most)] h r_ h_r :=
  CD.ofK (A := A77) (σ := ⟨call77 lf rc, cvN, subC 0 (w77_0 (L77_0 lf rc lf)) (subC 1 (w77_1 (S77_1 lf rc)) (subN))⟩) (c := k77) Go.Proofs.Try.func77 ok77 en77 (show 2 ≤ 29 by decide) (by kernel_rfl) (call77_ok lf rc hrc) cvN_ok (And.intro True.intro (And.intro (S77_1_ok lf rc hrc) (And.intro (And.intro True.intro (L77_0_ok lf rc hrc lf)) (And.intro True.intro True.intro)))) ((F77_eq lf rc e e1 e2 e3 e4 e5 e6 e7 most h).trans e_)
def w77 (f : Int → List UInt8 → Int → Int → List UInt8 → List UInt8 → List UInt8 → V → Int → List Ob → Option (V × List Ob)) (vs : List V) (h : List Ob) : Option (V × List Ob) := castCons vs fun c1 l1 => castAgg c1 fun n2 => castCons n2 fun c3 l3 => castInt .i64 c3 fun n4 => castCons l3 fun c5 l5 => castStr c5 fun n6 => castCons l5 fun c7 l7 => castInt .i64 c7 fun n8 => castCons l7 fun c9 l9 => castInt .i64 c9 fun n10 => castCons l9 fun c11 l11 => castStr c11 fun n12 => castCons l11 fun c13 l13 => castStr c13 fun n14 => castCons l13 fun c15 l15 => castStr c15 fun n16 => castCons l15 fun c17 l17 => castNil l17 (castCons l1 fun c18 l18 => castInt .i64 c18 fun n19 => castNil l18 (f n4 n6 n8 n10 n12 n14 n16 c17 n19 h))
noncomputable def W77 (lf : Nat) (rc : CallS) : List V → List Ob → Option (V × List Ob) := w77 (F77 lf rc)
theorem W77_ok (lf : Nat) (rc : CallS) (hrc : CallOk Go.Proofs.Try.prog rc) : ∀ args h v h', W77 lf rc args h = some (v, h') → CD Go.Proofs.Try.prog 77 args h v h' := by
  intro vs h r h' e0
  simp only [W77, w77] at e0
  obtain ⟨c1, l1, rfl, e1⟩ := castCons_inv e0
  obtain ⟨l2, rfl, e2⟩ := castAgg_inv e1
  obtain ⟨c3, l3, rfl, e3⟩ := castCons_inv e2
  obtain ⟨y0, rfl, e4⟩ := castInt_inv e3
  obtain ⟨c4, l4, rfl, e5⟩ := castCons_inv e4
  obtain ⟨y1, rfl, e6⟩ := castStr_inv e5
  obtain ⟨c5, l5, rfl, e7⟩ := castCons_inv e6
  obtain ⟨y2, rfl, e8⟩ := castInt_inv e7
  obtain ⟨c6, l6, rfl, e9⟩ := castCons_inv e8
  obtain ⟨y3, rfl, e10⟩ := castInt_inv e9
  obtain ⟨c7, l7, rfl, e11⟩ := castCons_inv e10
  obtain ⟨y4, rfl, e12⟩ := castStr_inv e11
  obtain ⟨c8, l8, rfl, e13⟩ := castCons_inv e12
  obtain ⟨y5, rfl, e14⟩ := castStr_inv e13
  obtain ⟨c9, l9, rfl, e15⟩ := castCons_inv e14
  obtain ⟨y6, rfl, e16⟩ := castStr_inv e15
  obtain ⟨c10, l10, rfl, e17⟩ := castCons_inv e16
  obtain ⟨rfl, e18⟩ := castNil_inv e17
  obtain ⟨c11, l11, rfl, e19⟩ := castCons_inv e18
  obtain ⟨y8, rfl, e20⟩ := castInt_inv e19
  obtain ⟨rfl, e21⟩ := castNil_inv e20
  have e := e21
  exact F77_ok lf rc hrc y0 y1 y2 y3 y4 y5 y6 c10 y8 h r h' e

/-- What calls itself, so many times: wainscot/wainscotref05.sound. -/
noncomputable def R77 (lf : Nat) : Nat → CallS
  | 0 => callN
  | n + 1 => callC 77 (W77 lf (R77 lf n)) (callN)
theorem R77_ok (lf : Nat) : ∀ n, CallOk Go.Proofs.Try.prog (R77 lf n)
  | 0 => callN_ok
  | n + 1 => callC_ok (W77_ok lf (R77 lf n) (R77_ok lf n)) (callN_ok)

/-! 47: wainscot/wainscotref05.Formed -/
def A47 : List (Nat × Sh) := [(0, (.agg [(.int .i64), .str, (.int .i64), (.int .i64), .str, .str, .str, .any])), (2, .bool), (3, (.agg [(.int .i64), .str, (.int .i64), (.int .i64), .str, .str, .str, .any])), (4, .bool)]
noncomputable def call47 (lf : Nat) : CallS := callC 77 (W77 lf (R77 lf lf)) (callN)
theorem call47_ok (lf : Nat) : CallOk Go.Proofs.Try.prog (call47 lf) := callC_ok (W77_ok lf (R77 lf lf) (R77_ok lf lf)) (callN_ok)
def k47 : KC := (.seq (.reg [⟨(some 1), none, (.op (.box false (.t 0))), []⟩, ⟨(some 2), none, (.op (.mv (.c (.bool false)))), []⟩]) (.seq (.reg [⟨(some 3), none, (.op (.loadN 8 (.t 1))), []⟩, ⟨(some 4), none, (.call 77 [(.t 3), (.c (.int .i64 8))]), []⟩, ⟨(some 2), none, (.op (.mv (.t 4))), []⟩]) .ret))
noncomputable def F47 (lf : Nat) (e : Int) (e1 : List UInt8) (e2 : Int) (e3 : Int) (e4 : List UInt8) (e5 : List UInt8) (e6 : List UInt8) (e7 : V) (h : List Ob) : Option (V × List Ob) :=
bind2 (ev (.box false (.c (.agg [(.int .i64 e), (.str e1), (.int .i64 e2), (.int .i64 e3), (.str e4), (.str e5), (.str e6), e7]))) h) fun e8 h_ =>
bind1 (er (.loadN 8 (.c e8)) h_) fun v =>
castAgg v fun l =>
castCons l fun c l1 =>
castInt .i64 c fun x3_0 =>
castCons l1 fun c1 l2 =>
castStr c1 fun x3_1 =>
castCons l2 fun c2 l3 =>
castInt .i64 c2 fun x3_2 =>
castCons l3 fun c3 l4 =>
castInt .i64 c3 fun x3_3 =>
castCons l4 fun c4 l5 =>
castStr c4 fun x3_4 =>
castCons l5 fun c5 l6 =>
castStr c5 fun x3_5 =>
castCons l6 fun c6 l7 =>
castStr c6 fun x3_6 =>
castCons l7 fun x3_7 l8 =>
castNil l8 (
bind2 (F77 lf (R77 lf lf) x3_0 x3_1 x3_2 x3_3 x3_4 x3_5 x3_6 x3_7 (8) h_) fun v1 h_1 =>
castBool v1 fun x4 =>
some ((.bool x4), h_1))
theorem F47_eq (lf : Nat) (e : Int) (e1 : List UInt8) (e2 : Int) (e3 : Int) (e4 : List UInt8) (e5 : List UInt8) (e6 : List UInt8) (e7 : V) (h : List Ob) : evCK A47 ⟨call47 lf, cvN, subN⟩ k47 (entryK [(.agg [(.int .i64 e), (.str e1), (.int .i64 e2), (.int .i64 e3), (.str e4), (.str e5), (.str e6), e7])]) h (endF c47.res) = F47 lf e e1 e2 e3 e4 e5 e6 e7 h := by kernel_rfl
theorem F47_ok (lf : Nat) (e : Int) (e1 : List UInt8) (e2 : Int) (e3 : Int) (e4 : List UInt8) (e5 : List UInt8) (e6 : List UInt8) (e7 : V) (h : List Ob) (r_ : V) (h_r : List Ob) (e_ : F47 lf e e1 e2 e3 e4 e5 e6 e7 h = some (r_, h_r)) : CD Go.Proofs.Try.prog 47 [(.agg [(.int .i64 e), (.str e1), (.int .i64 e2), (.int .i64 e3), (.str e4), (.str e5), (.str e6), e7])] h r_ h_r :=
  CD.ofK (A := A47) (σ := ⟨call47 lf, cvN, subN⟩) (c := k47) Go.Proofs.Try.func47 ok47 en47 (show 1 ≤ 5 by decide) (by kernel_rfl) (call47_ok lf) cvN_ok (And.intro True.intro (And.intro True.intro True.intro)) ((F47_eq lf e e1 e2 e3 e4 e5 e6 e7 h).trans e_)
def w47 (f : Int → List UInt8 → Int → Int → List UInt8 → List UInt8 → List UInt8 → V → List Ob → Option (V × List Ob)) (vs : List V) (h : List Ob) : Option (V × List Ob) := castCons vs fun c1 l1 => castAgg c1 fun n2 => castCons n2 fun c3 l3 => castInt .i64 c3 fun n4 => castCons l3 fun c5 l5 => castStr c5 fun n6 => castCons l5 fun c7 l7 => castInt .i64 c7 fun n8 => castCons l7 fun c9 l9 => castInt .i64 c9 fun n10 => castCons l9 fun c11 l11 => castStr c11 fun n12 => castCons l11 fun c13 l13 => castStr c13 fun n14 => castCons l13 fun c15 l15 => castStr c15 fun n16 => castCons l15 fun c17 l17 => castNil l17 (castNil l1 (f n4 n6 n8 n10 n12 n14 n16 c17 h))
noncomputable def W47 (lf : Nat) : List V → List Ob → Option (V × List Ob) := w47 (F47 lf)
theorem W47_ok (lf : Nat) : ∀ args h v h', W47 lf args h = some (v, h') → CD Go.Proofs.Try.prog 47 args h v h' := by
  intro vs h r h' e0
  simp only [W47, w47] at e0
  obtain ⟨c1, l1, rfl, e1⟩ := castCons_inv e0
  obtain ⟨l2, rfl, e2⟩ := castAgg_inv e1
  obtain ⟨c3, l3, rfl, e3⟩ := castCons_inv e2
  obtain ⟨y0, rfl, e4⟩ := castInt_inv e3
  obtain ⟨c4, l4, rfl, e5⟩ := castCons_inv e4
  obtain ⟨y1, rfl, e6⟩ := castStr_inv e5
  obtain ⟨c5, l5, rfl, e7⟩ := castCons_inv e6
  obtain ⟨y2, rfl, e8⟩ := castInt_inv e7
  obtain ⟨c6, l6, rfl, e9⟩ := castCons_inv e8
  obtain ⟨y3, rfl, e10⟩ := castInt_inv e9
  obtain ⟨c7, l7, rfl, e11⟩ := castCons_inv e10
  obtain ⟨y4, rfl, e12⟩ := castStr_inv e11
  obtain ⟨c8, l8, rfl, e13⟩ := castCons_inv e12
  obtain ⟨y5, rfl, e14⟩ := castStr_inv e13
  obtain ⟨c9, l9, rfl, e15⟩ := castCons_inv e14
  obtain ⟨y6, rfl, e16⟩ := castStr_inv e15
  obtain ⟨c10, l10, rfl, e17⟩ := castCons_inv e16
  obtain ⟨rfl, e18⟩ := castNil_inv e17
  obtain ⟨rfl, e19⟩ := castNil_inv e18
  have e := e19
  exact F47_ok lf y0 y1 y2 y3 y4 y5 y6 c10 h r h' e

/-! 78: slices.EqualFunc[[]wainscot/expr.Expr,[]wainscot/expr.Expr,wainscot/expr.Expr,wainscot/expr.Expr] -/
def A78 : List (Nat × Sh) := [(6, .bool), (7, (.int .i64)), (11, (.int .i64)), (13, (.int .i64)), (14, .bool), (16, (.int .i64)), (17, (.int .i64)), (18, .bool), (19, (.int .i64)), (21, (.agg [(.int .i64), .str, (.int .i64), (.int .i64), .str, .str, .str, .any])), (23, (.int .i64)), (25, (.agg [(.int .i64), .str, (.int .i64), (.int .i64), .str, .str, .str, .any])), (27, (.agg [(.int .i64), .str, (.int .i64), (.int .i64), .str, .str, .str, .any])), (28, (.agg [(.int .i64), .str, (.int .i64), (.int .i64), .str, .str, .str, .any])), (29, .bool), (30, .bool), (31, (.int .i64))]
noncomputable def call78 (lf : Nat) (cv : CallVS) : CallS := callN
theorem call78_ok (lf : Nat) (cv : CallVS) (hcv : CvOk Go.Proofs.Try.prog cv) : CallOk Go.Proofs.Try.prog (call78 lf cv) := callN_ok
def o78_0 : Outs := [((.exit 0), [], []), (.ret, [6], [.bool])]
def k78_0 : KC := (.seq (.reg [⟨(some 18), none, (.op (.bin .lss (.t 17) (.t 16))), []⟩]) (.seq (.cond (.t 18) .skip (.exit 0)) (.seq (.block 1 (.seq (.reg [⟨(some 19), none, (.op (.mv (.t 17))), []⟩, ⟨(some 20), none, (.op (.iaddrL 8 (.t 15) (.t 17))), []⟩, ⟨(some 21), none, (.op (.loadN 8 (.t 20))), []⟩, ⟨(some 8), none, (.op (.alloc false (.agg [(.int .i64 0), (.str []), (.int .i64 0), (.int .i64 0), (.str []), (.str []), (.str []), .nils]))), []⟩, ⟨(some 7), none, (.op (.mv (.t 19))), []⟩, ⟨none, none, (.op (.store 8 (.t 8) (.t 21))), []⟩]) (.seq (.reg [⟨(some 22), none, (.op (.mv (.t 1))), []⟩, ⟨(some 23), none, (.op (.mv (.t 7))), []⟩, ⟨(some 24), none, (.op (.iaddrL 8 (.t 22) (.t 23))), []⟩, ⟨(some 25), none, (.op (.loadN 8 (.t 24))), []⟩, ⟨(some 9), none, (.op (.alloc false (.agg [(.int .i64 0), (.str []), (.int .i64 0), (.int .i64 0), (.str []), (.str []), (.str []), .nils]))), []⟩, ⟨none, none, (.op (.store 8 (.t 9) (.t 25))), []⟩]) (.seq (.reg [⟨(some 26), none, (.op (.mv (.t 2))), []⟩, ⟨(some 27), none, (.op (.loadN 8 (.t 8))), []⟩, ⟨(some 28), none, (.op (.loadN 8 (.t 9))), []⟩, ⟨(some 29), none, (.callv (.t 26) [(.t 27), (.t 28)]), []⟩, ⟨(some 30), none, (.op (.un .not (.t 29))), []⟩]) (.cond (.t 30) (.seq (.reg [⟨(some 6), none, (.op (.mv (.c (.bool false)))), []⟩]) .ret) .skip))))) (.reg [⟨(some 31), none, (.op (.bin .add (.t 17) (.c (.int .i64 1)))), []⟩, ⟨(some 17), none, (.op (.mv (.t 31))), []⟩]))))
def w78_0 (f : V → V → V → Int → Int → List Ob → SubR) (vs : List V) (h : List Ob) : SubR := castCons vs fun c1 l1 => castCons l1 fun c2 l2 => castCons l2 fun c3 l3 => castCons l3 fun c4 l4 => castInt .i64 c4 fun n5 => castCons l4 fun c6 l6 => castInt .i64 c6 fun n7 => castNil l6 (f c1 c2 c3 n5 n7 h)
noncomputable def B78_0 (lf : Nat) (cv : CallVS) (self : V → V → V → Int → Int → List Ob → SubR) (s2 : V) (eq : V) (x15 : V) (x16 : Int) (x17 : Int) (h : List Ob) : SubR :=
cB (decide (x17 < x16)) (
bind1 (er (.iaddrL 8 (.c x15) (.c (.int .i64 x17))) h) fun x20 =>
bind1 (er (.loadN 8 (.c x20)) h) fun v =>
castAgg v fun l =>
castCons l fun c l1 =>
castInt .i64 c fun x21_0 =>
castCons l1 fun c1 l2 =>
castStr c1 fun x21_1 =>
castCons l2 fun c2 l3 =>
castInt .i64 c2 fun x21_2 =>
castCons l3 fun c3 l4 =>
castInt .i64 c3 fun x21_3 =>
castCons l4 fun c4 l5 =>
castStr c4 fun x21_4 =>
castCons l5 fun c5 l6 =>
castStr c5 fun x21_5 =>
castCons l6 fun c6 l7 =>
castStr c6 fun x21_6 =>
castCons l7 fun x21_7 l8 =>
castNil l8 (
bind2 (ev (.alloc false (.agg [(.int .i64 0), (.str []), (.int .i64 0), (.int .i64 0), (.str []), (.str []), (.str []), .nils])) h) fun v1 h_ =>
bind2 (ev (.store 8 (.c v1) (.c (.agg [(.int .i64 x21_0), (.str x21_1), (.int .i64 x21_2), (.int .i64 x21_3), (.str x21_4), (.str x21_5), (.str x21_6), x21_7]))) h_) fun u h_1 =>
bind1 (er (.iaddrL 8 (.c s2) (.c (.int .i64 x17))) h_1) fun x24 =>
bind1 (er (.loadN 8 (.c x24)) h_1) fun v2 =>
castAgg v2 fun l9 =>
castCons l9 fun c7 l10 =>
castInt .i64 c7 fun x25_0 =>
castCons l10 fun c8 l11 =>
castStr c8 fun x25_1 =>
castCons l11 fun c9 l12 =>
castInt .i64 c9 fun x25_2 =>
castCons l12 fun c10 l13 =>
castInt .i64 c10 fun x25_3 =>
castCons l13 fun c11 l14 =>
castStr c11 fun x25_4 =>
castCons l14 fun c12 l15 =>
castStr c12 fun x25_5 =>
castCons l15 fun c13 l16 =>
castStr c13 fun x25_6 =>
castCons l16 fun x25_7 l17 =>
castNil l17 (
bind2 (ev (.alloc false (.agg [(.int .i64 0), (.str []), (.int .i64 0), (.int .i64 0), (.str []), (.str []), (.str []), .nils])) h_1) fun v2_1 h_2 =>
bind2 (ev (.store 8 (.c v2_1) (.c (.agg [(.int .i64 x25_0), (.str x25_1), (.int .i64 x25_2), (.int .i64 x25_3), (.str x25_4), (.str x25_5), (.str x25_6), x25_7]))) h_2) fun u1 h_3 =>
bind1 (er (.loadN 8 (.c v1)) h_3) fun v3 =>
castAgg v3 fun l18 =>
castCons l18 fun c14 l19 =>
castInt .i64 c14 fun x27_0 =>
castCons l19 fun c15 l20 =>
castStr c15 fun x27_1 =>
castCons l20 fun c16 l21 =>
castInt .i64 c16 fun x27_2 =>
castCons l21 fun c17 l22 =>
castInt .i64 c17 fun x27_3 =>
castCons l22 fun c18 l23 =>
castStr c18 fun x27_4 =>
castCons l23 fun c19 l24 =>
castStr c19 fun x27_5 =>
castCons l24 fun c20 l25 =>
castStr c20 fun x27_6 =>
castCons l25 fun x27_7 l26 =>
castNil l26 (
bind1 (er (.loadN 8 (.c v2_1)) h_3) fun v4 =>
castAgg v4 fun l27 =>
castCons l27 fun c21 l28 =>
castInt .i64 c21 fun x28_0 =>
castCons l28 fun c22 l29 =>
castStr c22 fun x28_1 =>
castCons l29 fun c23 l30 =>
castInt .i64 c23 fun x28_2 =>
castCons l30 fun c24 l31 =>
castInt .i64 c24 fun x28_3 =>
castCons l31 fun c25 l32 =>
castStr c25 fun x28_4 =>
castCons l32 fun c26 l33 =>
castStr c26 fun x28_5 =>
castCons l33 fun c27 l34 =>
castStr c27 fun x28_6 =>
castCons l34 fun x28_7 l35 =>
castNil l35 (
bind2 (cv eq [(.agg [(.int .i64 x27_0), (.str x27_1), (.int .i64 x27_2), (.int .i64 x27_3), (.str x27_4), (.str x27_5), (.str x27_6), x27_7]), (.agg [(.int .i64 x28_0), (.str x28_1), (.int .i64 x28_2), (.int .i64 x28_3), (.str x28_4), (.str x28_5), (.str x28_6), x28_7])] h_3) fun v5 h_4 =>
castBool v5 fun x29 =>
cB (!x29) (
some (.ret, [(.bool false)], h_4)) (
self s2 eq x15 x16 (IntKind.i64.wrap (x17 + (1))) h_4)))))) (
some ((.exit 0), [], h))
noncomputable def L78_0 (lf : Nat) (cv : CallVS) : Nat → V → V → V → Int → Int → List Ob → SubR
  | 0 => fun _ _ _ _ _ _ => none
  | n + 1 => B78_0 lf cv (L78_0 lf cv n)
theorem B78_0_eq (lf : Nat) (cv : CallVS) (self : V → V → V → Int → Int → List Ob → SubR) (s2 : V) (eq : V) (x15 : V) (x16 : Int) (x17 : Int) (h : List Ob) : evCK A78 ⟨call78 lf cv, cv, subN⟩ k78_0 [(1, s2), (2, eq), (15, x15), (16, (.int .i64 x16)), (17, (.int .i64 x17))] h (endL [1, 2, 15, 16, 17] [.any, .any, .any, (.int .i64), (.int .i64)] o78_0 (w78_0 self)) = B78_0 lf cv self s2 eq x15 x16 x17 h := by kernel_rfl
theorem L78_0_ok (lf : Nat) (cv : CallVS) (hcv : CvOk Go.Proofs.Try.prog cv) : ∀ n, SubOk Go.Proofs.Try.prog (.loop k78_0.er) [1, 2, 15, 16, 17] o78_0 (w78_0 (L78_0 lf cv n)) := by
  refine SubOk.loop (A := A78) (σ := ⟨call78 lf cv, cv, subN⟩) (c := k78_0) (shs := [.any, .any, .any, (.int .i64), (.int .i64)]) (G := fun n => w78_0 (L78_0 lf cv n)) (call78_ok lf cv hcv) hcv (And.intro True.intro (And.intro (And.intro True.intro True.intro) (And.intro (And.intro True.intro (And.intro True.intro (And.intro True.intro (And.intro (And.intro True.intro True.intro) True.intro)))) True.intro))) ?_ ?_
  · intro vs h r e0
    simp only [w78_0] at e0
    obtain ⟨c1, l1, rfl, e1⟩ := castCons_inv e0
    obtain ⟨c2, l2, rfl, e2⟩ := castCons_inv e1
    obtain ⟨c3, l3, rfl, e3⟩ := castCons_inv e2
    obtain ⟨c4, l4, rfl, e4⟩ := castCons_inv e3
    obtain ⟨y3, rfl, e5⟩ := castInt_inv e4
    obtain ⟨c5, l5, rfl, e6⟩ := castCons_inv e5
    obtain ⟨y4, rfl, e7⟩ := castInt_inv e6
    obtain ⟨rfl, e8⟩ := castNil_inv e7
    have e := e8
    cases e
  · intro n vs h r e0
    simp only [w78_0] at e0
    obtain ⟨c1, l1, rfl, e1⟩ := castCons_inv e0
    obtain ⟨c2, l2, rfl, e2⟩ := castCons_inv e1
    obtain ⟨c3, l3, rfl, e3⟩ := castCons_inv e2
    obtain ⟨c4, l4, rfl, e4⟩ := castCons_inv e3
    obtain ⟨y3, rfl, e5⟩ := castInt_inv e4
    obtain ⟨c5, l5, rfl, e6⟩ := castCons_inv e5
    obtain ⟨y4, rfl, e7⟩ := castInt_inv e6
    obtain ⟨rfl, e8⟩ := castNil_inv e7
    have e := e8
    exact (B78_0_eq lf cv (L78_0 lf cv n) c1 c2 c3 y3 y4 h).trans e
def k78 : KC := (.seq (.reg [⟨(some 6), none, (.op (.mv (.c (.bool false)))), []⟩]) (.seq (.seq (.reg [⟨(some 10), none, (.op (.mv (.t 0))), []⟩, ⟨(some 11), none, (.op (.lenL (.t 10))), []⟩, ⟨(some 12), none, (.op (.mv (.t 1))), []⟩, ⟨(some 13), none, (.op (.lenL (.t 12))), []⟩, ⟨(some 14), none, (.op (.bin .neq (.t 11) (.t 13))), []⟩]) (.cond (.t 14) (.seq (.reg [⟨(some 6), none, (.op (.mv (.c (.bool false)))), []⟩]) .ret) .skip)) (.seq (.seq (.reg [⟨(some 15), none, (.op (.mv (.t 0))), []⟩, ⟨(some 16), none, (.op (.lenL (.t 15))), []⟩, ⟨(some 17), none, (.op (.mv (.c (.int .i64 0)))), []⟩]) (.block 0 (.sub 0 (.loop k78_0.er) [1, 2, 15, 16, 17] o78_0))) (.seq (.reg [⟨(some 6), none, (.op (.mv (.c (.bool true)))), []⟩]) .ret))))
noncomputable def F78 (lf : Nat) (cv : CallVS) (s1 : V) (s2 : V) (eq : V) (h : List Ob) : Option (V × List Ob) :=
bind1 (er (.lenL (.c s1)) h) fun v =>
castInt .i64 v fun x11 =>
bind1 (er (.lenL (.c s2)) h) fun v1 =>
castInt .i64 v1 fun x13 =>
cB (x11 != x13) (
some ((.bool false), h)) (
bind1 (er (.lenL (.c s1)) h) fun v2 =>
castInt .i64 v2 fun x16 =>
bind3 (L78_0 lf cv lf s2 eq s1 x16 (0) h) fun ex vs h_ =>
cB (decide (ex = (.exit 0))) (
castNil vs (
some ((.bool true), h_))) (
cB (decide (ex = .ret)) (
castCons vs fun c l =>
castBool c fun x6 =>
castNil l (
some ((.bool x6), h_))) (
none)))
theorem F78_eq (lf : Nat) (cv : CallVS) (s1 : V) (s2 : V) (eq : V) (h : List Ob) : evCK A78 ⟨call78 lf cv, cv, subC 0 (w78_0 (L78_0 lf cv lf)) (subN)⟩ k78 (entryK [s1, s2, eq]) h (endF c78.res) = F78 lf cv s1 s2 eq h := by kernel_rfl
theorem F78_ok (lf : Nat) (cv : CallVS) (hcv : CvOk Go.Proofs.Try.prog cv) (s1 : V) (s2 : V) (eq : V) (h : List Ob) (r_ : V) (h_r : List Ob) (e_ : F78 lf cv s1 s2 eq h = some (r_, h_r)) : CD Go.Proofs.Try.prog 78 [s1, s2, eq] h r_ h_r :=
  CD.ofK (A := A78) (σ := ⟨call78 lf cv, cv, subC 0 (w78_0 (L78_0 lf cv lf)) (subN)⟩) (c := k78) Go.Proofs.Try.func78 ok78 en78 (show 3 ≤ 32 by decide) (by kernel_rfl) (call78_ok lf cv hcv) hcv (And.intro True.intro (And.intro (And.intro True.intro (And.intro (And.intro True.intro True.intro) True.intro)) (And.intro (And.intro True.intro (L78_0_ok lf cv hcv lf)) (And.intro True.intro True.intro)))) ((F78_eq lf cv s1 s2 eq h).trans e_)
def w78 (f : V → V → V → List Ob → Option (V × List Ob)) (vs : List V) (h : List Ob) : Option (V × List Ob) := castCons vs fun c1 l1 => castCons l1 fun c2 l2 => castCons l2 fun c3 l3 => castNil l3 (f c1 c2 c3 h)
noncomputable def W78 (lf : Nat) (cv : CallVS) : List V → List Ob → Option (V × List Ob) := w78 (F78 lf cv)
theorem W78_ok (lf : Nat) (cv : CallVS) (hcv : CvOk Go.Proofs.Try.prog cv) : ∀ args h v h', W78 lf cv args h = some (v, h') → CD Go.Proofs.Try.prog 78 args h v h' := by
  intro vs h r h' e0
  simp only [W78, w78] at e0
  obtain ⟨c1, l1, rfl, e1⟩ := castCons_inv e0
  obtain ⟨c2, l2, rfl, e2⟩ := castCons_inv e1
  obtain ⟨c3, l3, rfl, e3⟩ := castCons_inv e2
  obtain ⟨rfl, e4⟩ := castNil_inv e3
  have e := e4
  exact F78_ok lf cv hcv c1 c2 c3 h r h' e

/-! 48: wainscot/expr.Same -/
def A48 : List (Nat × Sh) := [(0, (.agg [(.int .i64), .str, (.int .i64), (.int .i64), .str, .str, .str, .any])), (1, (.agg [(.int .i64), .str, (.int .i64), (.int .i64), .str, .str, .str, .any])), (4, .bool), (6, (.int .i64)), (8, (.int .i64)), (9, .bool), (10, .bool), (12, .str), (14, .str), (15, .bool), (16, .bool), (17, .bool), (19, (.agg [(.int .i64), (.int .i64), .str])), (21, (.agg [(.int .i64), (.int .i64), .str])), (22, .bool), (23, .bool), (24, .bool), (26, .str), (28, .str), (29, .bool), (30, .bool), (31, .bool), (33, .str), (35, .str), (36, .bool), (37, .bool), (38, .bool), (43, .bool), (44, .bool)]
noncomputable def cv48 (lf : Nat) (rc : CallS) : CallVS := cvC 48 (rc 48) (cvN)
theorem cv48_ok (lf : Nat) (rc : CallS) (hrc : CallOk Go.Proofs.Try.prog rc) : CvOk Go.Proofs.Try.prog (cv48 lf rc) := cvC_ok (hrc 48) (cvN_ok)
noncomputable def call48 (lf : Nat) (rc : CallS) : CallS := callC 78 (W78 lf (cv48 lf rc)) (rc)
theorem call48_ok (lf : Nat) (rc : CallS) (hrc : CallOk Go.Proofs.Try.prog rc) : CallOk Go.Proofs.Try.prog (call48 lf rc) := callC_ok (W78_ok lf (cv48 lf rc) (cv48_ok lf rc hrc)) (hrc)
def k48 : KC := (.seq (.reg [⟨(some 2), none, (.op (.box false (.t 0))), []⟩, ⟨(some 3), none, (.op (.box false (.t 1))), []⟩, ⟨(some 4), none, (.op (.mv (.c (.bool false)))), []⟩]) (.seq (.reg [⟨(some 5), none, (.op (.faddr 0 (.t 2))), []⟩, ⟨(some 6), none, (.op (.load1 (.t 5))), []⟩, ⟨(some 7), none, (.op (.faddr 0 (.t 3))), []⟩, ⟨(some 8), none, (.op (.load1 (.t 7))), []⟩, ⟨(some 9), none, (.op (.bin .eql (.t 6) (.t 8))), []⟩, ⟨(some 10), none, (.op (.mv (.t 9))), []⟩, ⟨(some 11), (some (10, true)), (.op (.faddr 1 (.t 2))), []⟩, ⟨(some 12), (some (10, true)), (.op (.load1 (.t 11))), []⟩, ⟨(some 13), (some (10, true)), (.op (.faddr 1 (.t 3))), []⟩, ⟨(some 14), (some (10, true)), (.op (.load1 (.t 13))), []⟩, ⟨(some 15), (some (10, true)), (.op (.bin .eql (.t 12) (.t 14))), []⟩, ⟨(some 16), none, (.op (.pick (.t 10) (.t 15) (.c (.bool false)))), []⟩, ⟨(some 17), none, (.op (.mv (.t 16))), []⟩, ⟨(some 18), (some (17, true)), (.op (.faddr 2 (.t 2))), []⟩, ⟨(some 19), (some (17, true)), (.op (.loadN 3 (.t 18))), []⟩, ⟨(some 20), (some (17, true)), (.op (.faddr 2 (.t 3))), []⟩, ⟨(some 21), (some (17, true)), (.op (.loadN 3 (.t 20))), []⟩, ⟨(some 22), (some (17, true)), (.op (.eq false (.struct 3 [(0, .i), (1, .i), (2, .s)]) (.t 19) (.t 21))), []⟩, ⟨(some 23), none, (.op (.pick (.t 17) (.t 22) (.c (.bool false)))), []⟩, ⟨(some 24), none, (.op (.mv (.t 23))), []⟩, ⟨(some 25), (some (24, true)), (.op (.faddr 5 (.t 2))), []⟩, ⟨(some 26), (some (24, true)), (.op (.load1 (.t 25))), []⟩, ⟨(some 27), (some (24, true)), (.op (.faddr 5 (.t 3))), []⟩, ⟨(some 28), (some (24, true)), (.op (.load1 (.t 27))), []⟩, ⟨(some 29), (some (24, true)), (.op (.bin .eql (.t 26) (.t 28))), []⟩, ⟨(some 30), none, (.op (.pick (.t 24) (.t 29) (.c (.bool false)))), []⟩, ⟨(some 31), none, (.op (.mv (.t 30))), []⟩, ⟨(some 32), (some (31, true)), (.op (.faddr 6 (.t 2))), []⟩, ⟨(some 33), (some (31, true)), (.op (.load1 (.t 32))), []⟩, ⟨(some 34), (some (31, true)), (.op (.faddr 6 (.t 3))), []⟩, ⟨(some 35), (some (31, true)), (.op (.load1 (.t 34))), []⟩, ⟨(some 36), (some (31, true)), (.op (.bin .eql (.t 33) (.t 35))), []⟩, ⟨(some 37), none, (.op (.pick (.t 31) (.t 36) (.c (.bool false)))), []⟩, ⟨(some 38), none, (.op (.mv (.t 37))), []⟩, ⟨(some 39), (some (38, true)), (.op (.faddr 7 (.t 2))), []⟩, ⟨(some 40), (some (38, true)), (.op (.load1 (.t 39))), []⟩, ⟨(some 41), (some (38, true)), (.op (.faddr 7 (.t 3))), []⟩, ⟨(some 42), (some (38, true)), (.op (.load1 (.t 41))), []⟩, ⟨(some 43), (some (38, true)), (.call 78 [(.t 40), (.t 42), (.c (.fn 48 []))]), []⟩, ⟨(some 44), none, (.op (.pick (.t 38) (.t 43) (.c (.bool false)))), []⟩, ⟨(some 4), none, (.op (.mv (.t 44))), []⟩]) .ret))
noncomputable def F48 (lf : Nat) (rc : CallS) (a : Int) (a1 : List UInt8) (a2 : Int) (a3 : Int) (a4 : List UInt8) (a5 : List UInt8) (a6 : List UInt8) (a7 : V) (b : Int) (b1 : List UInt8) (b2 : Int) (b3 : Int) (b4 : List UInt8) (b5 : List UInt8) (b6 : List UInt8) (b7 : V) (h : List Ob) : Option (V × List Ob) :=
bind2 (ev (.box false (.c (.agg [(.int .i64 a), (.str a1), (.int .i64 a2), (.int .i64 a3), (.str a4), (.str a5), (.str a6), a7]))) h) fun a8 h_ =>
bind2 (ev (.box false (.c (.agg [(.int .i64 b), (.str b1), (.int .i64 b2), (.int .i64 b3), (.str b4), (.str b5), (.str b6), b7]))) h_) fun b8 h_1 =>
bind1 (er (.faddr 0 (.c a8)) h_1) fun x5 =>
bind1 (er (.load1 (.c x5)) h_1) fun v =>
castInt .i64 v fun x6 =>
bind1 (er (.faddr 0 (.c b8)) h_1) fun x7 =>
bind1 (er (.load1 (.c x7)) h_1) fun v1 =>
castInt .i64 v1 fun x8 =>
cB (x6 == x8) (
bind1 (er (.faddr 1 (.c a8)) h_1) fun x11 =>
bind1 (er (.load1 (.c x11)) h_1) fun v2 =>
castStr v2 fun x12 =>
bind1 (er (.faddr 1 (.c b8)) h_1) fun x13 =>
bind1 (er (.load1 (.c x13)) h_1) fun v3 =>
castStr v3 fun x14 =>
cB (x12 == x14) (
bind1 (er (.faddr 2 (.c a8)) h_1) fun x18 =>
bind1 (er (.loadN 3 (.c x18)) h_1) fun v4 =>
castAgg v4 fun l =>
castCons l fun c l1 =>
castInt .i64 c fun x19_0 =>
castCons l1 fun c1 l2 =>
castInt .i64 c1 fun x19_1 =>
castCons l2 fun c2 l3 =>
castStr c2 fun x19_2 =>
castNil l3 (
bind1 (er (.faddr 2 (.c b8)) h_1) fun x20 =>
bind1 (er (.loadN 3 (.c x20)) h_1) fun v5 =>
castAgg v5 fun l4 =>
castCons l4 fun c3 l5 =>
castInt .i64 c3 fun x21_0 =>
castCons l5 fun c4 l6 =>
castInt .i64 c4 fun x21_1 =>
castCons l6 fun c5 l7 =>
castStr c5 fun x21_2 =>
castNil l7 (
bind1 (er (.eq false (.struct 3 [(0, .i), (1, .i), (2, .s)]) (.c (.agg [(.int .i64 x19_0), (.int .i64 x19_1), (.str x19_2)])) (.c (.agg [(.int .i64 x21_0), (.int .i64 x21_1), (.str x21_2)]))) h_1) fun v6 =>
castBool v6 fun x22 =>
cB x22 (
bind1 (er (.faddr 5 (.c a8)) h_1) fun x25 =>
bind1 (er (.load1 (.c x25)) h_1) fun v7 =>
castStr v7 fun x26 =>
bind1 (er (.faddr 5 (.c b8)) h_1) fun x27 =>
bind1 (er (.load1 (.c x27)) h_1) fun v8 =>
castStr v8 fun x28 =>
cB (x26 == x28) (
bind1 (er (.faddr 6 (.c a8)) h_1) fun x32 =>
bind1 (er (.load1 (.c x32)) h_1) fun v9 =>
castStr v9 fun x33 =>
bind1 (er (.faddr 6 (.c b8)) h_1) fun x34 =>
bind1 (er (.load1 (.c x34)) h_1) fun v10 =>
castStr v10 fun x35 =>
cB (x33 == x35) (
bind1 (er (.faddr 7 (.c a8)) h_1) fun x39 =>
bind1 (er (.load1 (.c x39)) h_1) fun x40 =>
bind1 (er (.faddr 7 (.c b8)) h_1) fun x41 =>
bind1 (er (.load1 (.c x41)) h_1) fun x42 =>
bind2 (F78 lf (cv48 lf rc) x40 x42 (.fn 48 []) h_1) fun v11 h_2 =>
castBool v11 fun x43 =>
some ((.bool x43), h_2)) (
some ((.bool false), h_1))) (
some ((.bool false), h_1))) (
some ((.bool false), h_1))))) (
some ((.bool false), h_1))) (
some ((.bool false), h_1))
theorem F48_eq (lf : Nat) (rc : CallS) (a : Int) (a1 : List UInt8) (a2 : Int) (a3 : Int) (a4 : List UInt8) (a5 : List UInt8) (a6 : List UInt8) (a7 : V) (b : Int) (b1 : List UInt8) (b2 : Int) (b3 : Int) (b4 : List UInt8) (b5 : List UInt8) (b6 : List UInt8) (b7 : V) (h : List Ob) : evCK A48 ⟨call48 lf rc, (cv48 lf rc), subN⟩ k48 (entryK [(.agg [(.int .i64 a), (.str a1), (.int .i64 a2), (.int .i64 a3), (.str a4), (.str a5), (.str a6), a7]), (.agg [(.int .i64 b), (.str b1), (.int .i64 b2), (.int .i64 b3), (.str b4), (.str b5), (.str b6), b7])]) h (endF c48.res) = F48 lf rc a a1 a2 a3 a4 a5 a6 a7 b b1 b2 b3 b4 b5 b6 b7 h := by kernel_rfl
theorem F48_ok (lf : Nat) (rc : CallS) (hrc : CallOk Go.Proofs.Try.prog rc) (a : Int) (a1 : List UInt8) (a2 : Int) (a3 : Int) (a4 : List UInt8) (a5 : List UInt8) (a6 : List UInt8) (a7 : V) (b : Int) (b1 : List UInt8) (b2 : Int) (b3 : Int) (b4 : List UInt8) (b5 : List UInt8) (b6 : List UInt8) (b7 : V) (h : List Ob) (r_ : V) (h_r : List Ob) (e_ : F48 lf rc a a1 a2 a3 a4 a5 a6 a7 b b1 b2 b3 b4 b5 b6 b7 h = some (r_, h_r)) : CD Go.Proofs.Try.prog 48 [(.agg [(.int .i64 a), (.str a1), (.int .i64 a2), (.int .i64 a3), (.str a4), (.str a5), (.str a6), a7]), (.agg [(.int .i64 b), (.str b1), (.int .i64 b2), (.int .i64 b3), (.str b4), (.str b5), (.str b6), b7])] h r_ h_r :=
  CD.ofK (A := A48) (σ := ⟨call48 lf rc, (cv48 lf rc), subN⟩) (c := k48) Go.Proofs.Try.func48 ok48 en48 (show 2 ≤ 45 by decide) (by kernel_rfl) (call48_ok lf rc hrc) (cv48_ok lf rc hrc) (And.intro True.intro (And.intro True.intro True.intro)) ((F48_eq lf rc a a1 a2 a3 a4 a5 a6 a7 b b1 b2 b3 b4 b5 b6 b7 h).trans e_)
def w48 (f : Int → List UInt8 → Int → Int → List UInt8 → List UInt8 → List UInt8 → V → Int → List UInt8 → Int → Int → List UInt8 → List UInt8 → List UInt8 → V → List Ob → Option (V × List Ob)) (vs : List V) (h : List Ob) : Option (V × List Ob) := castCons vs fun c1 l1 => castAgg c1 fun n2 => castCons n2 fun c3 l3 => castInt .i64 c3 fun n4 => castCons l3 fun c5 l5 => castStr c5 fun n6 => castCons l5 fun c7 l7 => castInt .i64 c7 fun n8 => castCons l7 fun c9 l9 => castInt .i64 c9 fun n10 => castCons l9 fun c11 l11 => castStr c11 fun n12 => castCons l11 fun c13 l13 => castStr c13 fun n14 => castCons l13 fun c15 l15 => castStr c15 fun n16 => castCons l15 fun c17 l17 => castNil l17 (castCons l1 fun c18 l18 => castAgg c18 fun n19 => castCons n19 fun c20 l20 => castInt .i64 c20 fun n21 => castCons l20 fun c22 l22 => castStr c22 fun n23 => castCons l22 fun c24 l24 => castInt .i64 c24 fun n25 => castCons l24 fun c26 l26 => castInt .i64 c26 fun n27 => castCons l26 fun c28 l28 => castStr c28 fun n29 => castCons l28 fun c30 l30 => castStr c30 fun n31 => castCons l30 fun c32 l32 => castStr c32 fun n33 => castCons l32 fun c34 l34 => castNil l34 (castNil l18 (f n4 n6 n8 n10 n12 n14 n16 c17 n21 n23 n25 n27 n29 n31 n33 c34 h)))
noncomputable def W48 (lf : Nat) (rc : CallS) : List V → List Ob → Option (V × List Ob) := w48 (F48 lf rc)
theorem W48_ok (lf : Nat) (rc : CallS) (hrc : CallOk Go.Proofs.Try.prog rc) : ∀ args h v h', W48 lf rc args h = some (v, h') → CD Go.Proofs.Try.prog 48 args h v h' := by
  intro vs h r h' e0
  simp only [W48, w48] at e0
  obtain ⟨c1, l1, rfl, e1⟩ := castCons_inv e0
  obtain ⟨l2, rfl, e2⟩ := castAgg_inv e1
  obtain ⟨c3, l3, rfl, e3⟩ := castCons_inv e2
  obtain ⟨y0, rfl, e4⟩ := castInt_inv e3
  obtain ⟨c4, l4, rfl, e5⟩ := castCons_inv e4
  obtain ⟨y1, rfl, e6⟩ := castStr_inv e5
  obtain ⟨c5, l5, rfl, e7⟩ := castCons_inv e6
  obtain ⟨y2, rfl, e8⟩ := castInt_inv e7
  obtain ⟨c6, l6, rfl, e9⟩ := castCons_inv e8
  obtain ⟨y3, rfl, e10⟩ := castInt_inv e9
  obtain ⟨c7, l7, rfl, e11⟩ := castCons_inv e10
  obtain ⟨y4, rfl, e12⟩ := castStr_inv e11
  obtain ⟨c8, l8, rfl, e13⟩ := castCons_inv e12
  obtain ⟨y5, rfl, e14⟩ := castStr_inv e13
  obtain ⟨c9, l9, rfl, e15⟩ := castCons_inv e14
  obtain ⟨y6, rfl, e16⟩ := castStr_inv e15
  obtain ⟨c10, l10, rfl, e17⟩ := castCons_inv e16
  obtain ⟨rfl, e18⟩ := castNil_inv e17
  obtain ⟨c11, l11, rfl, e19⟩ := castCons_inv e18
  obtain ⟨l12, rfl, e20⟩ := castAgg_inv e19
  obtain ⟨c13, l13, rfl, e21⟩ := castCons_inv e20
  obtain ⟨y8, rfl, e22⟩ := castInt_inv e21
  obtain ⟨c14, l14, rfl, e23⟩ := castCons_inv e22
  obtain ⟨y9, rfl, e24⟩ := castStr_inv e23
  obtain ⟨c15, l15, rfl, e25⟩ := castCons_inv e24
  obtain ⟨y10, rfl, e26⟩ := castInt_inv e25
  obtain ⟨c16, l16, rfl, e27⟩ := castCons_inv e26
  obtain ⟨y11, rfl, e28⟩ := castInt_inv e27
  obtain ⟨c17, l17, rfl, e29⟩ := castCons_inv e28
  obtain ⟨y12, rfl, e30⟩ := castStr_inv e29
  obtain ⟨c18, l18, rfl, e31⟩ := castCons_inv e30
  obtain ⟨y13, rfl, e32⟩ := castStr_inv e31
  obtain ⟨c19, l19, rfl, e33⟩ := castCons_inv e32
  obtain ⟨y14, rfl, e34⟩ := castStr_inv e33
  obtain ⟨c20, l20, rfl, e35⟩ := castCons_inv e34
  obtain ⟨rfl, e36⟩ := castNil_inv e35
  obtain ⟨rfl, e37⟩ := castNil_inv e36
  have e := e37
  exact F48_ok lf rc hrc y0 y1 y2 y3 y4 y5 y6 c10 y8 y9 y10 y11 y12 y13 y14 c20 h r h' e

/-- What calls itself, so many times: wainscot/expr.Same. -/
noncomputable def R48 (lf : Nat) : Nat → CallS
  | 0 => callN
  | n + 1 => callC 48 (W48 lf (R48 lf n)) (callN)
theorem R48_ok (lf : Nat) : ∀ n, CallOk Go.Proofs.Try.prog (R48 lf n)
  | 0 => callN_ok
  | n + 1 => callC_ok (W48_ok lf (R48 lf n) (R48_ok lf n)) (callN_ok)

/-! 49: wainscot/wainscotref05.Same -/
def A49 : List (Nat × Sh) := [(0, (.agg [(.int .i64), .str, (.int .i64), (.int .i64), .str, .str, .str, .any])), (1, (.agg [(.int .i64), .str, (.int .i64), (.int .i64), .str, .str, .str, .any])), (4, .bool), (5, (.int .i64)), (7, (.int .i64)), (9, (.int .i64)), (10, .bool), (11, .bool), (13, .str), (15, .str), (16, .bool), (17, .bool), (18, .bool), (20, (.agg [(.int .i64), (.int .i64), .str])), (22, (.agg [(.int .i64), (.int .i64), .str])), (23, .bool), (24, .bool), (25, .bool), (27, .str), (29, .str), (30, .bool), (31, .bool), (32, .bool), (34, .str), (36, .str), (37, .bool), (38, .bool), (39, .bool), (42, (.int .i64)), (45, (.int .i64)), (46, .bool), (47, .bool), (50, (.int .i64)), (51, (.int .i64)), (52, .bool), (53, (.int .i64)), (56, (.int .i64)), (58, (.agg [(.int .i64), .str, (.int .i64), (.int .i64), .str, .str, .str, .any])), (61, (.int .i64)), (63, (.agg [(.int .i64), .str, (.int .i64), (.int .i64), .str, .str, .str, .any])), (64, .bool), (65, .bool), (66, (.int .i64))]
noncomputable def call49 (lf : Nat) (rc : CallS) : CallS := rc
theorem call49_ok (lf : Nat) (rc : CallS) (hrc : CallOk Go.Proofs.Try.prog rc) : CallOk Go.Proofs.Try.prog (call49 lf rc) := hrc
def o49_0 : Outs := [(.normal, [47], [.bool])]
def k49_0 : KC := (.reg [⟨(some 6), none, (.op (.faddr 0 (.t 2))), []⟩, ⟨(some 7), none, (.op (.load1 (.t 6))), []⟩, ⟨(some 8), none, (.op (.faddr 0 (.t 3))), []⟩, ⟨(some 9), none, (.op (.load1 (.t 8))), []⟩, ⟨(some 10), none, (.op (.bin .neq (.t 7) (.t 9))), []⟩, ⟨(some 11), none, (.op (.mv (.t 10))), []⟩, ⟨(some 12), (some (11, false)), (.op (.faddr 1 (.t 2))), []⟩, ⟨(some 13), (some (11, false)), (.op (.load1 (.t 12))), []⟩, ⟨(some 14), (some (11, false)), (.op (.faddr 1 (.t 3))), []⟩, ⟨(some 15), (some (11, false)), (.op (.load1 (.t 14))), []⟩, ⟨(some 16), (some (11, false)), (.op (.bin .neq (.t 13) (.t 15))), []⟩, ⟨(some 17), none, (.op (.pick (.t 11) (.c (.bool true)) (.t 16))), []⟩, ⟨(some 18), none, (.op (.mv (.t 17))), []⟩, ⟨(some 19), (some (18, false)), (.op (.faddr 2 (.t 2))), []⟩, ⟨(some 20), (some (18, false)), (.op (.loadN 3 (.t 19))), []⟩, ⟨(some 21), (some (18, false)), (.op (.faddr 2 (.t 3))), []⟩, ⟨(some 22), (some (18, false)), (.op (.loadN 3 (.t 21))), []⟩, ⟨(some 23), (some (18, false)), (.op (.eq true (.struct 3 [(0, .i), (1, .i), (2, .s)]) (.t 20) (.t 22))), []⟩, ⟨(some 24), none, (.op (.pick (.t 18) (.c (.bool true)) (.t 23))), []⟩, ⟨(some 25), none, (.op (.mv (.t 24))), []⟩, ⟨(some 26), (some (25, false)), (.op (.faddr 5 (.t 2))), []⟩, ⟨(some 27), (some (25, false)), (.op (.load1 (.t 26))), []⟩, ⟨(some 28), (some (25, false)), (.op (.faddr 5 (.t 3))), []⟩, ⟨(some 29), (some (25, false)), (.op (.load1 (.t 28))), []⟩, ⟨(some 30), (some (25, false)), (.op (.bin .neq (.t 27) (.t 29))), []⟩, ⟨(some 31), none, (.op (.pick (.t 25) (.c (.bool true)) (.t 30))), []⟩, ⟨(some 32), none, (.op (.mv (.t 31))), []⟩, ⟨(some 33), (some (32, false)), (.op (.faddr 6 (.t 2))), []⟩, ⟨(some 34), (some (32, false)), (.op (.load1 (.t 33))), []⟩, ⟨(some 35), (some (32, false)), (.op (.faddr 6 (.t 3))), []⟩, ⟨(some 36), (some (32, false)), (.op (.load1 (.t 35))), []⟩, ⟨(some 37), (some (32, false)), (.op (.bin .neq (.t 34) (.t 36))), []⟩, ⟨(some 38), none, (.op (.pick (.t 32) (.c (.bool true)) (.t 37))), []⟩, ⟨(some 39), none, (.op (.mv (.t 38))), []⟩, ⟨(some 40), (some (39, false)), (.op (.faddr 7 (.t 2))), []⟩, ⟨(some 41), (some (39, false)), (.op (.load1 (.t 40))), []⟩, ⟨(some 42), (some (39, false)), (.op (.lenL (.t 41))), []⟩, ⟨(some 43), (some (39, false)), (.op (.faddr 7 (.t 3))), []⟩, ⟨(some 44), (some (39, false)), (.op (.load1 (.t 43))), []⟩, ⟨(some 45), (some (39, false)), (.op (.lenL (.t 44))), []⟩, ⟨(some 46), (some (39, false)), (.op (.bin .neq (.t 42) (.t 45))), []⟩, ⟨(some 47), none, (.op (.pick (.t 39) (.c (.bool true)) (.t 46))), []⟩])
def w49_0 (f : V → V → List Ob → SubR) (vs : List V) (h : List Ob) : SubR := castCons vs fun c1 l1 => castCons l1 fun c2 l2 => castNil l2 (f c1 c2 h)
noncomputable def S49_0 (lf : Nat) (rc : CallS) (a : V) (b : V) (h : List Ob) : SubR :=
bind1 (er (.faddr 0 (.c a)) h) fun x6 =>
bind1 (er (.load1 (.c x6)) h) fun v =>
castInt .i64 v fun x7 =>
bind1 (er (.faddr 0 (.c b)) h) fun x8 =>
bind1 (er (.load1 (.c x8)) h) fun v1 =>
castInt .i64 v1 fun x9 =>
cB (x7 != x9) (
some (.normal, [(.bool true)], h)) (
bind1 (er (.faddr 1 (.c a)) h) fun x12 =>
bind1 (er (.load1 (.c x12)) h) fun v2 =>
castStr v2 fun x13 =>
bind1 (er (.faddr 1 (.c b)) h) fun x14 =>
bind1 (er (.load1 (.c x14)) h) fun v3 =>
castStr v3 fun x15 =>
cB (!(x13 == x15)) (
some (.normal, [(.bool true)], h)) (
bind1 (er (.faddr 2 (.c a)) h) fun x19 =>
bind1 (er (.loadN 3 (.c x19)) h) fun v4 =>
castAgg v4 fun l =>
castCons l fun c l1 =>
castInt .i64 c fun x20_0 =>
castCons l1 fun c1 l2 =>
castInt .i64 c1 fun x20_1 =>
castCons l2 fun c2 l3 =>
castStr c2 fun x20_2 =>
castNil l3 (
bind1 (er (.faddr 2 (.c b)) h) fun x21 =>
bind1 (er (.loadN 3 (.c x21)) h) fun v5 =>
castAgg v5 fun l4 =>
castCons l4 fun c3 l5 =>
castInt .i64 c3 fun x22_0 =>
castCons l5 fun c4 l6 =>
castInt .i64 c4 fun x22_1 =>
castCons l6 fun c5 l7 =>
castStr c5 fun x22_2 =>
castNil l7 (
bind1 (er (.eq true (.struct 3 [(0, .i), (1, .i), (2, .s)]) (.c (.agg [(.int .i64 x20_0), (.int .i64 x20_1), (.str x20_2)])) (.c (.agg [(.int .i64 x22_0), (.int .i64 x22_1), (.str x22_2)]))) h) fun v6 =>
castBool v6 fun x23 =>
cB x23 (
some (.normal, [(.bool true)], h)) (
bind1 (er (.faddr 5 (.c a)) h) fun x26 =>
bind1 (er (.load1 (.c x26)) h) fun v7 =>
castStr v7 fun x27 =>
bind1 (er (.faddr 5 (.c b)) h) fun x28 =>
bind1 (er (.load1 (.c x28)) h) fun v8 =>
castStr v8 fun x29 =>
cB (!(x27 == x29)) (
some (.normal, [(.bool true)], h)) (
bind1 (er (.faddr 6 (.c a)) h) fun x33 =>
bind1 (er (.load1 (.c x33)) h) fun v9 =>
castStr v9 fun x34 =>
bind1 (er (.faddr 6 (.c b)) h) fun x35 =>
bind1 (er (.load1 (.c x35)) h) fun v10 =>
castStr v10 fun x36 =>
cB (!(x34 == x36)) (
some (.normal, [(.bool true)], h)) (
bind1 (er (.faddr 7 (.c a)) h) fun x40 =>
bind1 (er (.load1 (.c x40)) h) fun x41 =>
bind1 (er (.lenL (.c x41)) h) fun v11 =>
castInt .i64 v11 fun x42 =>
bind1 (er (.faddr 7 (.c b)) h) fun x43 =>
bind1 (er (.load1 (.c x43)) h) fun x44 =>
bind1 (er (.lenL (.c x44)) h) fun v12 =>
castInt .i64 v12 fun x45 =>
some (.normal, [(.bool (x42 != x45))], h))))))))
theorem S49_0_eq (lf : Nat) (rc : CallS) (a : V) (b : V) (h : List Ob) : evCK A49 ⟨call49 lf rc, cvN, subN⟩ k49_0 [(2, a), (3, b)] h (endK o49_0) = S49_0 lf rc a b h := by kernel_rfl
theorem S49_0_ok (lf : Nat) (rc : CallS) (hrc : CallOk Go.Proofs.Try.prog rc) : SubOk Go.Proofs.Try.prog k49_0.er [2, 3] o49_0 (w49_0 (S49_0 lf rc)) := by
  refine SubOk.of (A := A49) (σ := ⟨call49 lf rc, cvN, subN⟩) (c := k49_0) (call49_ok lf rc hrc) cvN_ok True.intro ?_
  intro vs h r e0
  simp only [w49_0] at e0
  obtain ⟨c1, l1, rfl, e1⟩ := castCons_inv e0
  obtain ⟨c2, l2, rfl, e2⟩ := castCons_inv e1
  obtain ⟨rfl, e3⟩ := castNil_inv e2
  have e := e3
  exact (S49_0_eq lf rc c1 c2 h).trans e
def o49_1 : Outs := [((.exit 0), [], []), (.ret, [4], [.bool])]
def k49_1 : KC := (.seq (.reg [⟨(some 52), none, (.op (.bin .lss (.t 51) (.t 50))), []⟩]) (.seq (.cond (.t 52) .skip (.exit 0)) (.seq (.block 1 (.seq (.reg [⟨(some 53), none, (.op (.mv (.t 51))), []⟩, ⟨(some 5), none, (.op (.mv (.t 53))), []⟩]) (.seq (.reg [⟨(some 54), none, (.op (.faddr 7 (.t 2))), []⟩, ⟨(some 55), none, (.op (.load1 (.t 54))), []⟩, ⟨(some 56), none, (.op (.mv (.t 5))), []⟩, ⟨(some 57), none, (.op (.iaddrL 8 (.t 55) (.t 56))), []⟩, ⟨(some 58), none, (.op (.loadN 8 (.t 57))), []⟩, ⟨(some 59), none, (.op (.faddr 7 (.t 3))), []⟩, ⟨(some 60), none, (.op (.load1 (.t 59))), []⟩, ⟨(some 61), none, (.op (.mv (.t 5))), []⟩, ⟨(some 62), none, (.op (.iaddrL 8 (.t 60) (.t 61))), []⟩, ⟨(some 63), none, (.op (.loadN 8 (.t 62))), []⟩, ⟨(some 64), none, (.call 49 [(.t 58), (.t 63)]), []⟩, ⟨(some 65), none, (.op (.un .not (.t 64))), []⟩]) (.cond (.t 65) (.seq (.reg [⟨(some 4), none, (.op (.mv (.c (.bool false)))), []⟩]) .ret) .skip)))) (.reg [⟨(some 66), none, (.op (.bin .add (.t 51) (.c (.int .i64 1)))), []⟩, ⟨(some 51), none, (.op (.mv (.t 66))), []⟩]))))
def w49_1 (f : V → V → Int → Int → List Ob → SubR) (vs : List V) (h : List Ob) : SubR := castCons vs fun c1 l1 => castCons l1 fun c2 l2 => castCons l2 fun c3 l3 => castInt .i64 c3 fun n4 => castCons l3 fun c5 l5 => castInt .i64 c5 fun n6 => castNil l5 (f c1 c2 n4 n6 h)
noncomputable def B49_1 (lf : Nat) (rc : CallS) (self : V → V → Int → Int → List Ob → SubR) (a : V) (b : V) (x50 : Int) (x51 : Int) (h : List Ob) : SubR :=
cB (decide (x51 < x50)) (
bind1 (er (.faddr 7 (.c a)) h) fun x54 =>
bind1 (er (.load1 (.c x54)) h) fun x55 =>
bind1 (er (.iaddrL 8 (.c x55) (.c (.int .i64 x51))) h) fun x57 =>
bind1 (er (.loadN 8 (.c x57)) h) fun v =>
castAgg v fun l =>
castCons l fun c l1 =>
castInt .i64 c fun x58_0 =>
castCons l1 fun c1 l2 =>
castStr c1 fun x58_1 =>
castCons l2 fun c2 l3 =>
castInt .i64 c2 fun x58_2 =>
castCons l3 fun c3 l4 =>
castInt .i64 c3 fun x58_3 =>
castCons l4 fun c4 l5 =>
castStr c4 fun x58_4 =>
castCons l5 fun c5 l6 =>
castStr c5 fun x58_5 =>
castCons l6 fun c6 l7 =>
castStr c6 fun x58_6 =>
castCons l7 fun x58_7 l8 =>
castNil l8 (
bind1 (er (.faddr 7 (.c b)) h) fun x59 =>
bind1 (er (.load1 (.c x59)) h) fun x60 =>
bind1 (er (.iaddrL 8 (.c x60) (.c (.int .i64 x51))) h) fun x62 =>
bind1 (er (.loadN 8 (.c x62)) h) fun v1 =>
castAgg v1 fun l9 =>
castCons l9 fun c7 l10 =>
castInt .i64 c7 fun x63_0 =>
castCons l10 fun c8 l11 =>
castStr c8 fun x63_1 =>
castCons l11 fun c9 l12 =>
castInt .i64 c9 fun x63_2 =>
castCons l12 fun c10 l13 =>
castInt .i64 c10 fun x63_3 =>
castCons l13 fun c11 l14 =>
castStr c11 fun x63_4 =>
castCons l14 fun c12 l15 =>
castStr c12 fun x63_5 =>
castCons l15 fun c13 l16 =>
castStr c13 fun x63_6 =>
castCons l16 fun x63_7 l17 =>
castNil l17 (
bind2 (rc 49 [(.agg [(.int .i64 x58_0), (.str x58_1), (.int .i64 x58_2), (.int .i64 x58_3), (.str x58_4), (.str x58_5), (.str x58_6), x58_7]), (.agg [(.int .i64 x63_0), (.str x63_1), (.int .i64 x63_2), (.int .i64 x63_3), (.str x63_4), (.str x63_5), (.str x63_6), x63_7])] h) fun v2 h_ =>
castBool v2 fun x64 =>
cB (!x64) (
some (.ret, [(.bool false)], h_)) (
self a b x50 (IntKind.i64.wrap (x51 + (1))) h_)))) (
some ((.exit 0), [], h))
noncomputable def L49_1 (lf : Nat) (rc : CallS) : Nat → V → V → Int → Int → List Ob → SubR
  | 0 => fun _ _ _ _ _ => none
  | n + 1 => B49_1 lf rc (L49_1 lf rc n)
theorem B49_1_eq (lf : Nat) (rc : CallS) (self : V → V → Int → Int → List Ob → SubR) (a : V) (b : V) (x50 : Int) (x51 : Int) (h : List Ob) : evCK A49 ⟨call49 lf rc, cvN, subN⟩ k49_1 [(2, a), (3, b), (50, (.int .i64 x50)), (51, (.int .i64 x51))] h (endL [2, 3, 50, 51] [.any, .any, (.int .i64), (.int .i64)] o49_1 (w49_1 self)) = B49_1 lf rc self a b x50 x51 h := by kernel_rfl
theorem L49_1_ok (lf : Nat) (rc : CallS) (hrc : CallOk Go.Proofs.Try.prog rc) : ∀ n, SubOk Go.Proofs.Try.prog (.loop k49_1.er) [2, 3, 50, 51] o49_1 (w49_1 (L49_1 lf rc n)) := by
  refine SubOk.loop (A := A49) (σ := ⟨call49 lf rc, cvN, subN⟩) (c := k49_1) (shs := [.any, .any, (.int .i64), (.int .i64)]) (G := fun n => w49_1 (L49_1 lf rc n)) (call49_ok lf rc hrc) cvN_ok (And.intro True.intro (And.intro (And.intro True.intro True.intro) (And.intro (And.intro True.intro (And.intro True.intro (And.intro (And.intro True.intro True.intro) True.intro))) True.intro))) ?_ ?_
  · intro vs h r e0
    simp only [w49_1] at e0
    obtain ⟨c1, l1, rfl, e1⟩ := castCons_inv e0
    obtain ⟨c2, l2, rfl, e2⟩ := castCons_inv e1
    obtain ⟨c3, l3, rfl, e3⟩ := castCons_inv e2
    obtain ⟨y2, rfl, e4⟩ := castInt_inv e3
    obtain ⟨c4, l4, rfl, e5⟩ := castCons_inv e4
    obtain ⟨y3, rfl, e6⟩ := castInt_inv e5
    obtain ⟨rfl, e7⟩ := castNil_inv e6
    have e := e7
    cases e
  · intro n vs h r e0
    simp only [w49_1] at e0
    obtain ⟨c1, l1, rfl, e1⟩ := castCons_inv e0
    obtain ⟨c2, l2, rfl, e2⟩ := castCons_inv e1
    obtain ⟨c3, l3, rfl, e3⟩ := castCons_inv e2
    obtain ⟨y2, rfl, e4⟩ := castInt_inv e3
    obtain ⟨c4, l4, rfl, e5⟩ := castCons_inv e4
    obtain ⟨y3, rfl, e6⟩ := castInt_inv e5
    obtain ⟨rfl, e7⟩ := castNil_inv e6
    have e := e7
    exact (B49_1_eq lf rc (L49_1 lf rc n) c1 c2 y2 y3 h).trans e
def k49 : KC := (.seq (.reg [⟨(some 2), none, (.op (.box false (.t 0))), []⟩, ⟨(some 3), none, (.op (.box false (.t 1))), []⟩, ⟨(some 4), none, (.op (.mv (.c (.bool false)))), []⟩]) (.seq (.seq (.sub 0 k49_0.er [2, 3] o49_0) (.cond (.t 47) (.seq (.reg [⟨(some 4), none, (.op (.mv (.c (.bool false)))), []⟩]) .ret) .skip)) (.seq (.seq (.reg [⟨(some 48), none, (.op (.faddr 7 (.t 2))), []⟩, ⟨(some 49), none, (.op (.load1 (.t 48))), []⟩, ⟨(some 50), none, (.op (.lenL (.t 49))), []⟩, ⟨(some 51), none, (.op (.mv (.c (.int .i64 0)))), []⟩]) (.block 0 (.sub 1 (.loop k49_1.er) [2, 3, 50, 51] o49_1))) (.seq (.reg [⟨(some 4), none, (.op (.mv (.c (.bool true)))), []⟩]) .ret))))
noncomputable def F49 (lf : Nat) (rc : CallS) (a : Int) (a1 : List UInt8) (a2 : Int) (a3 : Int) (a4 : List UInt8) (a5 : List UInt8) (a6 : List UInt8) (a7 : V) (b : Int) (b1 : List UInt8) (b2 : Int) (b3 : Int) (b4 : List UInt8) (b5 : List UInt8) (b6 : List UInt8) (b7 : V) (h : List Ob) : Option (V × List Ob) :=
bind2 (ev (.box false (.c (.agg [(.int .i64 a), (.str a1), (.int .i64 a2), (.int .i64 a3), (.str a4), (.str a5), (.str a6), a7]))) h) fun a8 h_ =>
bind2 (ev (.box false (.c (.agg [(.int .i64 b), (.str b1), (.int .i64 b2), (.int .i64 b3), (.str b4), (.str b5), (.str b6), b7]))) h_) fun b8 h_1 =>
bind3 (S49_0 lf rc a8 b8 h_1) fun ex vs h_2 =>
cB (decide (ex = .normal)) (
castCons vs fun c l =>
castBool c fun x47 =>
castNil l (
cB x47 (
some ((.bool false), h_2)) (
bind1 (er (.faddr 7 (.c a8)) h_2) fun x48 =>
bind1 (er (.load1 (.c x48)) h_2) fun x49 =>
bind1 (er (.lenL (.c x49)) h_2) fun v =>
castInt .i64 v fun x50 =>
bind3 (L49_1 lf rc lf a8 b8 x50 (0) h_2) fun ex1 vs1 h_3 =>
cB (decide (ex1 = (.exit 0))) (
castNil vs1 (
some ((.bool true), h_3))) (
cB (decide (ex1 = .ret)) (
castCons vs1 fun c1 l1 =>
castBool c1 fun x4 =>
castNil l1 (
some ((.bool x4), h_3))) (
none))))) (
none)
theorem F49_eq (lf : Nat) (rc : CallS) (a : Int) (a1 : List UInt8) (a2 : Int) (a3 : Int) (a4 : List UInt8) (a5 : List UInt8) (a6 : List UInt8) (a7 : V) (b : Int) (b1 : List UInt8) (b2 : Int) (b3 : Int) (b4 : List UInt8) (b5 : List UInt8) (b6 : List UInt8) (b7 : V) (h : List Ob) : evCK A49 ⟨call49 lf rc, cvN, subC 1 (w49_1 (L49_1 lf rc lf)) (subC 0 (w49_0 (S49_0 lf rc)) (subN))⟩ k49 (entryK [(.agg [(.int .i64 a), (.str a1), (.int .i64 a2), (.int .i64 a3), (.str a4), (.str a5), (.str a6), a7]), (.agg [(.int .i64 b), (.str b1), (.int .i64 b2), (.int .i64 b3), (.str b4), (.str b5), (.str b6), b7])]) h (endF c49.res) = F49 lf rc a a1 a2 a3 a4 a5 a6 a7 b b1 b2 b3 b4 b5 b6 b7 h := by kernel_rfl
theorem F49_ok (lf : Nat) (rc : CallS) (hrc : CallOk Go.Proofs.Try.prog rc) (a : Int) (a1 : List UInt8) (a2 : Int) (a3 : Int) (a4 : List UInt8) (a5 : List UInt8) (a6 : List UInt8) (a7 : V) (b : Int) (b1 : List UInt8) (b2 : Int) (b3 : Int) (b4 : List UInt8) (b5 : List UInt8) (b6 : List UInt8) (b7 : V) (h : List Ob) (r_ : V) (h_r : List Ob) (e_ : F49 lf rc a a1 a2 a3 a4 a5 a6 a7 b b1 b2 b3 b4 b5 b6 b7 h = some (r_, h_r)) : CD Go.Proofs.Try.prog 49 [(.agg [(.int .i64 a), (.str a1), (.int .i64 a2), (.int .i64 a3), (.str a4), (.str a5), (.str a6), a7]), (.agg [(.int .i64 b), (.str b1), (.int .i64 b2), (.int .i64 b3), (.str b4), (.str b5), (.str b6), b7])] h r_ h_r :=
  CD.ofK (A := A49) (σ := ⟨call49 lf rc, cvN, subC 1 (w49_1 (L49_1 lf rc lf)) (subC 0 (w49_0 (S49_0 lf rc)) (subN))⟩) (c := k49) Go.Proofs.Try.func49 ok49 en49 (show 2 ≤ 67 by decide) (by kernel_rfl) (call49_ok lf rc hrc) cvN_ok (And.intro True.intro (And.intro (And.intro (S49_0_ok lf rc hrc) (And.intro (And.intro True.intro True.intro) True.intro)) (And.intro (And.intro True.intro (L49_1_ok lf rc hrc lf)) (And.intro True.intro True.intro)))) ((F49_eq lf rc a a1 a2 a3 a4 a5 a6 a7 b b1 b2 b3 b4 b5 b6 b7 h).trans e_)
def w49 (f : Int → List UInt8 → Int → Int → List UInt8 → List UInt8 → List UInt8 → V → Int → List UInt8 → Int → Int → List UInt8 → List UInt8 → List UInt8 → V → List Ob → Option (V × List Ob)) (vs : List V) (h : List Ob) : Option (V × List Ob) := castCons vs fun c1 l1 => castAgg c1 fun n2 => castCons n2 fun c3 l3 => castInt .i64 c3 fun n4 => castCons l3 fun c5 l5 => castStr c5 fun n6 => castCons l5 fun c7 l7 => castInt .i64 c7 fun n8 => castCons l7 fun c9 l9 => castInt .i64 c9 fun n10 => castCons l9 fun c11 l11 => castStr c11 fun n12 => castCons l11 fun c13 l13 => castStr c13 fun n14 => castCons l13 fun c15 l15 => castStr c15 fun n16 => castCons l15 fun c17 l17 => castNil l17 (castCons l1 fun c18 l18 => castAgg c18 fun n19 => castCons n19 fun c20 l20 => castInt .i64 c20 fun n21 => castCons l20 fun c22 l22 => castStr c22 fun n23 => castCons l22 fun c24 l24 => castInt .i64 c24 fun n25 => castCons l24 fun c26 l26 => castInt .i64 c26 fun n27 => castCons l26 fun c28 l28 => castStr c28 fun n29 => castCons l28 fun c30 l30 => castStr c30 fun n31 => castCons l30 fun c32 l32 => castStr c32 fun n33 => castCons l32 fun c34 l34 => castNil l34 (castNil l18 (f n4 n6 n8 n10 n12 n14 n16 c17 n21 n23 n25 n27 n29 n31 n33 c34 h)))
noncomputable def W49 (lf : Nat) (rc : CallS) : List V → List Ob → Option (V × List Ob) := w49 (F49 lf rc)
theorem W49_ok (lf : Nat) (rc : CallS) (hrc : CallOk Go.Proofs.Try.prog rc) : ∀ args h v h', W49 lf rc args h = some (v, h') → CD Go.Proofs.Try.prog 49 args h v h' := by
  intro vs h r h' e0
  simp only [W49, w49] at e0
  obtain ⟨c1, l1, rfl, e1⟩ := castCons_inv e0
  obtain ⟨l2, rfl, e2⟩ := castAgg_inv e1
  obtain ⟨c3, l3, rfl, e3⟩ := castCons_inv e2
  obtain ⟨y0, rfl, e4⟩ := castInt_inv e3
  obtain ⟨c4, l4, rfl, e5⟩ := castCons_inv e4
  obtain ⟨y1, rfl, e6⟩ := castStr_inv e5
  obtain ⟨c5, l5, rfl, e7⟩ := castCons_inv e6
  obtain ⟨y2, rfl, e8⟩ := castInt_inv e7
  obtain ⟨c6, l6, rfl, e9⟩ := castCons_inv e8
  obtain ⟨y3, rfl, e10⟩ := castInt_inv e9
  obtain ⟨c7, l7, rfl, e11⟩ := castCons_inv e10
  obtain ⟨y4, rfl, e12⟩ := castStr_inv e11
  obtain ⟨c8, l8, rfl, e13⟩ := castCons_inv e12
  obtain ⟨y5, rfl, e14⟩ := castStr_inv e13
  obtain ⟨c9, l9, rfl, e15⟩ := castCons_inv e14
  obtain ⟨y6, rfl, e16⟩ := castStr_inv e15
  obtain ⟨c10, l10, rfl, e17⟩ := castCons_inv e16
  obtain ⟨rfl, e18⟩ := castNil_inv e17
  obtain ⟨c11, l11, rfl, e19⟩ := castCons_inv e18
  obtain ⟨l12, rfl, e20⟩ := castAgg_inv e19
  obtain ⟨c13, l13, rfl, e21⟩ := castCons_inv e20
  obtain ⟨y8, rfl, e22⟩ := castInt_inv e21
  obtain ⟨c14, l14, rfl, e23⟩ := castCons_inv e22
  obtain ⟨y9, rfl, e24⟩ := castStr_inv e23
  obtain ⟨c15, l15, rfl, e25⟩ := castCons_inv e24
  obtain ⟨y10, rfl, e26⟩ := castInt_inv e25
  obtain ⟨c16, l16, rfl, e27⟩ := castCons_inv e26
  obtain ⟨y11, rfl, e28⟩ := castInt_inv e27
  obtain ⟨c17, l17, rfl, e29⟩ := castCons_inv e28
  obtain ⟨y12, rfl, e30⟩ := castStr_inv e29
  obtain ⟨c18, l18, rfl, e31⟩ := castCons_inv e30
  obtain ⟨y13, rfl, e32⟩ := castStr_inv e31
  obtain ⟨c19, l19, rfl, e33⟩ := castCons_inv e32
  obtain ⟨y14, rfl, e34⟩ := castStr_inv e33
  obtain ⟨c20, l20, rfl, e35⟩ := castCons_inv e34
  obtain ⟨rfl, e36⟩ := castNil_inv e35
  obtain ⟨rfl, e37⟩ := castNil_inv e36
  have e := e37
  exact F49_ok lf rc hrc y0 y1 y2 y3 y4 y5 y6 c10 y8 y9 y10 y11 y12 y13 y14 c20 h r h' e

/-- What calls itself, so many times: wainscot/wainscotref05.Same. -/
noncomputable def R49 (lf : Nat) : Nat → CallS
  | 0 => callN
  | n + 1 => callC 49 (W49 lf (R49 lf n)) (callN)
theorem R49_ok (lf : Nat) : ∀ n, CallOk Go.Proofs.Try.prog (R49 lf n)
  | 0 => callN_ok
  | n + 1 => callC_ok (W49_ok lf (R49 lf n) (R49_ok lf n)) (callN_ok)

/-! 9: wainscot/wainscotlaw06.ExprForms -/
def A9 : List (Nat × Sh) := [(0, (.agg [(.int .i64), .str, (.int .i64), (.int .i64), .str, .str, .str, .any])), (1, (.agg [(.int .i64), .str, (.int .i64), (.int .i64), .str, .str, .str, .any])), (4, .bool), (7, .bool), (8, .bool), (9, .bool), (10, (.agg [(.int .i64), .str, (.int .i64), (.int .i64), .str, .str, .str, .any])), (11, .bool), (12, .bool), (13, .bool), (14, .bool), (15, (.agg [(.int .i64), .str, (.int .i64), (.int .i64), .str, .str, .str, .any])), (16, .bool), (17, .bool), (18, .bool), (19, .bool), (20, (.agg [(.int .i64), .str, (.int .i64), (.int .i64), .str, .str, .str, .any])), (21, (.agg [(.int .i64), .str, (.int .i64), (.int .i64), .str, .str, .str, .any])), (22, (.agg [(.int .i64), .str, (.int .i64), (.int .i64), .str, .str, .str, .any])), (23, (.agg [(.int .i64), .str, (.int .i64), (.int .i64), .str, .str, .str, .any])), (24, (.agg [(.int .i64), .str, (.int .i64), (.int .i64), .str, .str, .str, .any])), (25, .bool), (26, (.agg [(.int .i64), .str, (.int .i64), (.int .i64), .str, .str, .str, .any])), (27, .bool), (28, .bool), (29, .bool), (30, (.agg [(.int .i64), .str, (.int .i64), (.int .i64), .str, .str, .str, .any])), (31, (.agg [(.int .i64), .str, (.int .i64), (.int .i64), .str, .str, .str, .any])), (32, .bool), (33, (.agg [(.int .i64), .str, (.int .i64), (.int .i64), .str, .str, .str, .any])), (34, (.agg [(.int .i64), .str, (.int .i64), (.int .i64), .str, .str, .str, .any])), (35, .bool), (36, .bool), (37, .bool), (38, .bool), (39, (.agg [(.int .i64), .str, (.int .i64), (.int .i64), .str, .str, .str, .any])), (40, (.agg [(.int .i64), .str, (.int .i64), (.int .i64), .str, .str, .str, .any])), (41, .bool), (42, .bool)]
noncomputable def call9 (lf : Nat) : CallS := callC 49 (W49 lf (R49 lf lf)) (callC 48 (W48 lf (R48 lf lf)) (callC 47 (W47 lf) (callC 46 (W46 lf) (callC 45 (W45 lf (R45 lf lf)) (callC 44 (W44 lf) (callC 43 (W43 lf) (callN)))))))
theorem call9_ok (lf : Nat) : CallOk Go.Proofs.Try.prog (call9 lf) := callC_ok (W49_ok lf (R49 lf lf) (R49_ok lf lf)) (callC_ok (W48_ok lf (R48 lf lf) (R48_ok lf lf)) (callC_ok (W47_ok lf) (callC_ok (W46_ok lf) (callC_ok (W45_ok lf (R45 lf lf) (R45_ok lf lf)) (callC_ok (W44_ok lf) (callC_ok (W43_ok lf) (callN_ok)))))))
def o9_0 : Outs := [(.ret, [4], [.bool])]
def k9_0 : KC := (.seq (.reg [⟨(some 24), none, (.op (.loadN 8 (.t 5))), []⟩, ⟨(some 26), none, (.op (.loadN 8 (.t 2))), []⟩, ⟨(some 25), none, (.call 46 [(.t 24)]), [⟨(some 26), none, (.op (.loadN 8 (.t 2)))⟩]⟩, ⟨(some 27), none, (.call 47 [(.t 26)]), []⟩, ⟨(some 28), none, (.op (.eq false .bool (.t 25) (.t 27))), []⟩, ⟨(some 29), none, (.op (.mv (.t 28))), []⟩, ⟨(some 30), (some (29, true)), (.op (.loadN 8 (.t 5))), []⟩, ⟨(some 31), (some (29, true)), (.op (.loadN 8 (.t 6))), []⟩, ⟨(some 33), (some (29, true)), (.op (.loadN 8 (.t 2))), []⟩, ⟨(some 34), (some (29, true)), (.op (.loadN 8 (.t 3))), []⟩, ⟨(some 32), (some (29, true)), (.call 48 [(.t 30), (.t 31)]), [⟨(some 34), (some (29, true)), (.op (.loadN 8 (.t 3)))⟩, ⟨(some 33), (some (29, true)), (.op (.loadN 8 (.t 2)))⟩]⟩, ⟨(some 35), (some (29, true)), (.call 49 [(.t 33), (.t 34)]), []⟩, ⟨(some 36), (some (29, true)), (.op (.eq false .bool (.t 32) (.t 35))), []⟩, ⟨(some 37), none, (.op (.pick (.t 29) (.t 36) (.c (.bool false)))), []⟩, ⟨(some 38), none, (.op (.mv (.t 37))), []⟩, ⟨(some 39), (some (38, true)), (.op (.loadN 8 (.t 5))), []⟩, ⟨(some 40), (some (38, true)), (.op (.loadN 8 (.t 5))), []⟩, ⟨(some 41), (some (38, true)), (.call 48 [(.t 39), (.t 40)]), []⟩, ⟨(some 42), none, (.op (.pick (.t 38) (.t 41) (.c (.bool false)))), []⟩, ⟨(some 4), none, (.op (.mv (.t 42))), []⟩]) .ret)
def w9_0 (f : V → V → V → V → List Ob → SubR) (vs : List V) (h : List Ob) : SubR := castCons vs fun c1 l1 => castCons l1 fun c2 l2 => castCons l2 fun c3 l3 => castCons l3 fun c4 l4 => castNil l4 (f c1 c2 c3 c4 h)
noncomputable def S9_0 (lf : Nat) (a : V) (b : V) (x : V) (y : V) (h : List Ob) : SubR :=
bind1 (er (.loadN 8 (.c x)) h) fun v =>
castAgg v fun l =>
castCons l fun c l1 =>
castInt .i64 c fun x24_0 =>
castCons l1 fun c1 l2 =>
castStr c1 fun x24_1 =>
castCons l2 fun c2 l3 =>
castInt .i64 c2 fun x24_2 =>
castCons l3 fun c3 l4 =>
castInt .i64 c3 fun x24_3 =>
castCons l4 fun c4 l5 =>
castStr c4 fun x24_4 =>
castCons l5 fun c5 l6 =>
castStr c5 fun x24_5 =>
castCons l6 fun c6 l7 =>
castStr c6 fun x24_6 =>
castCons l7 fun x24_7 l8 =>
castNil l8 (
bind1 (er (.loadN 8 (.c a)) h) fun v1 =>
castAgg v1 fun l9 =>
castCons l9 fun c7 l10 =>
castInt .i64 c7 fun x26_0 =>
castCons l10 fun c8 l11 =>
castStr c8 fun x26_1 =>
castCons l11 fun c9 l12 =>
castInt .i64 c9 fun x26_2 =>
castCons l12 fun c10 l13 =>
castInt .i64 c10 fun x26_3 =>
castCons l13 fun c11 l14 =>
castStr c11 fun x26_4 =>
castCons l14 fun c12 l15 =>
castStr c12 fun x26_5 =>
castCons l15 fun c13 l16 =>
castStr c13 fun x26_6 =>
castCons l16 fun x26_7 l17 =>
castNil l17 (
bind2 (F46 lf x24_0 x24_1 x24_2 x24_3 x24_4 x24_5 x24_6 x24_7 h) fun v2 h_ =>
castBool v2 fun x25 =>
reP (er (.loadN 8 (.c a)) h_ = some (.agg [(.int .i64 x26_0), (.str x26_1), (.int .i64 x26_2), (.int .i64 x26_3), (.str x26_4), (.str x26_5), (.str x26_6), x26_7])) (
bind2 (F47 lf x26_0 x26_1 x26_2 x26_3 x26_4 x26_5 x26_6 x26_7 h_) fun v3 h_1 =>
castBool v3 fun x27 =>
cB (x25 == x27) (
bind1 (er (.loadN 8 (.c x)) h_1) fun v4 =>
castAgg v4 fun l18 =>
castCons l18 fun c14 l19 =>
castInt .i64 c14 fun x30_0 =>
castCons l19 fun c15 l20 =>
castStr c15 fun x30_1 =>
castCons l20 fun c16 l21 =>
castInt .i64 c16 fun x30_2 =>
castCons l21 fun c17 l22 =>
castInt .i64 c17 fun x30_3 =>
castCons l22 fun c18 l23 =>
castStr c18 fun x30_4 =>
castCons l23 fun c19 l24 =>
castStr c19 fun x30_5 =>
castCons l24 fun c20 l25 =>
castStr c20 fun x30_6 =>
castCons l25 fun x30_7 l26 =>
castNil l26 (
bind1 (er (.loadN 8 (.c y)) h_1) fun v5 =>
castAgg v5 fun l27 =>
castCons l27 fun c21 l28 =>
castInt .i64 c21 fun x31_0 =>
castCons l28 fun c22 l29 =>
castStr c22 fun x31_1 =>
castCons l29 fun c23 l30 =>
castInt .i64 c23 fun x31_2 =>
castCons l30 fun c24 l31 =>
castInt .i64 c24 fun x31_3 =>
castCons l31 fun c25 l32 =>
castStr c25 fun x31_4 =>
castCons l32 fun c26 l33 =>
castStr c26 fun x31_5 =>
castCons l33 fun c27 l34 =>
castStr c27 fun x31_6 =>
castCons l34 fun x31_7 l35 =>
castNil l35 (
bind1 (er (.loadN 8 (.c a)) h_1) fun v6 =>
castAgg v6 fun l36 =>
castCons l36 fun c28 l37 =>
castInt .i64 c28 fun x33_0 =>
castCons l37 fun c29 l38 =>
castStr c29 fun x33_1 =>
castCons l38 fun c30 l39 =>
castInt .i64 c30 fun x33_2 =>
castCons l39 fun c31 l40 =>
castInt .i64 c31 fun x33_3 =>
castCons l40 fun c32 l41 =>
castStr c32 fun x33_4 =>
castCons l41 fun c33 l42 =>
castStr c33 fun x33_5 =>
castCons l42 fun c34 l43 =>
castStr c34 fun x33_6 =>
castCons l43 fun x33_7 l44 =>
castNil l44 (
bind1 (er (.loadN 8 (.c b)) h_1) fun v7 =>
castAgg v7 fun l45 =>
castCons l45 fun c35 l46 =>
castInt .i64 c35 fun x34_0 =>
castCons l46 fun c36 l47 =>
castStr c36 fun x34_1 =>
castCons l47 fun c37 l48 =>
castInt .i64 c37 fun x34_2 =>
castCons l48 fun c38 l49 =>
castInt .i64 c38 fun x34_3 =>
castCons l49 fun c39 l50 =>
castStr c39 fun x34_4 =>
castCons l50 fun c40 l51 =>
castStr c40 fun x34_5 =>
castCons l51 fun c41 l52 =>
castStr c41 fun x34_6 =>
castCons l52 fun x34_7 l53 =>
castNil l53 (
bind2 (F48 lf (R48 lf lf) x30_0 x30_1 x30_2 x30_3 x30_4 x30_5 x30_6 x30_7 x31_0 x31_1 x31_2 x31_3 x31_4 x31_5 x31_6 x31_7 h_1) fun v8 h_2 =>
castBool v8 fun x32 =>
reP (er (.loadN 8 (.c b)) h_2 = some (.agg [(.int .i64 x34_0), (.str x34_1), (.int .i64 x34_2), (.int .i64 x34_3), (.str x34_4), (.str x34_5), (.str x34_6), x34_7])) (
reP (er (.loadN 8 (.c a)) h_2 = some (.agg [(.int .i64 x33_0), (.str x33_1), (.int .i64 x33_2), (.int .i64 x33_3), (.str x33_4), (.str x33_5), (.str x33_6), x33_7])) (
bind2 (F49 lf (R49 lf lf) x33_0 x33_1 x33_2 x33_3 x33_4 x33_5 x33_6 x33_7 x34_0 x34_1 x34_2 x34_3 x34_4 x34_5 x34_6 x34_7 h_2) fun v9 h_3 =>
castBool v9 fun x35 =>
cB (x32 == x35) (
bind1 (er (.loadN 8 (.c x)) h_3) fun v10 =>
castAgg v10 fun l54 =>
castCons l54 fun c42 l55 =>
castInt .i64 c42 fun x39_0 =>
castCons l55 fun c43 l56 =>
castStr c43 fun x39_1 =>
castCons l56 fun c44 l57 =>
castInt .i64 c44 fun x39_2 =>
castCons l57 fun c45 l58 =>
castInt .i64 c45 fun x39_3 =>
castCons l58 fun c46 l59 =>
castStr c46 fun x39_4 =>
castCons l59 fun c47 l60 =>
castStr c47 fun x39_5 =>
castCons l60 fun c48 l61 =>
castStr c48 fun x39_6 =>
castCons l61 fun x39_7 l62 =>
castNil l62 (
bind1 (er (.loadN 8 (.c x)) h_3) fun v11 =>
castAgg v11 fun l63 =>
castCons l63 fun c49 l64 =>
castInt .i64 c49 fun x40_0 =>
castCons l64 fun c50 l65 =>
castStr c50 fun x40_1 =>
castCons l65 fun c51 l66 =>
castInt .i64 c51 fun x40_2 =>
castCons l66 fun c52 l67 =>
castInt .i64 c52 fun x40_3 =>
castCons l67 fun c53 l68 =>
castStr c53 fun x40_4 =>
castCons l68 fun c54 l69 =>
castStr c54 fun x40_5 =>
castCons l69 fun c55 l70 =>
castStr c55 fun x40_6 =>
castCons l70 fun x40_7 l71 =>
castNil l71 (
bind2 (F48 lf (R48 lf lf) x39_0 x39_1 x39_2 x39_3 x39_4 x39_5 x39_6 x39_7 x40_0 x40_1 x40_2 x40_3 x40_4 x40_5 x40_6 x40_7 h_3) fun v12 h_4 =>
castBool v12 fun x41 =>
some (.ret, [(.bool x41)], h_4)))) (
some (.ret, [(.bool false)], h_3))))))))) (
some (.ret, [(.bool false)], h_1)))))
theorem S9_0_eq (lf : Nat) (a : V) (b : V) (x : V) (y : V) (h : List Ob) : evCK A9 ⟨call9 lf, cvN, subN⟩ k9_0 [(2, a), (3, b), (5, x), (6, y)] h (endK o9_0) = S9_0 lf a b x y h := by kernel_rfl
theorem S9_0_ok (lf : Nat) : SubOk Go.Proofs.Try.prog k9_0.er [2, 3, 5, 6] o9_0 (w9_0 (S9_0 lf)) := by
  refine SubOk.of (A := A9) (σ := ⟨call9 lf, cvN, subN⟩) (c := k9_0) (call9_ok lf) cvN_ok (And.intro True.intro True.intro) ?_
  intro vs h r e0
  simp only [w9_0] at e0
  obtain ⟨c1, l1, rfl, e1⟩ := castCons_inv e0
  obtain ⟨c2, l2, rfl, e2⟩ := castCons_inv e1
  obtain ⟨c3, l3, rfl, e3⟩ := castCons_inv e2
  obtain ⟨c4, l4, rfl, e4⟩ := castCons_inv e3
  obtain ⟨rfl, e5⟩ := castNil_inv e4
  have e := e5
  exact (S9_0_eq lf c1 c2 c3 c4 h).trans e
def o9_1 : Outs := [(.ret, [4], [.bool]), (.normal, [], [])]
def k9_1 : KC := (.seq (.reg [⟨(some 7), none, (.call 43 []), []⟩, ⟨(some 8), none, (.op (.un .not (.t 7))), []⟩, ⟨(some 9), none, (.op (.mv (.t 8))), []⟩, ⟨(some 10), (some (9, false)), (.op (.loadN 8 (.t 2))), []⟩, ⟨(some 11), (some (9, false)), (.call 44 [(.t 10)]), []⟩, ⟨(some 12), (some (9, false)), (.op (.un .not (.t 11))), []⟩, ⟨(some 13), none, (.op (.pick (.t 9) (.c (.bool true)) (.t 12))), []⟩, ⟨(some 14), none, (.op (.mv (.t 13))), []⟩, ⟨(some 15), (some (14, false)), (.op (.loadN 8 (.t 3))), []⟩, ⟨(some 16), (some (14, false)), (.call 44 [(.t 15)]), []⟩, ⟨(some 17), (some (14, false)), (.op (.un .not (.t 16))), []⟩, ⟨(some 18), none, (.op (.pick (.t 14) (.c (.bool true)) (.t 17))), []⟩]) (.cond (.t 18) (.seq (.reg [⟨(some 19), none, (.call 43 []), []⟩, ⟨(some 4), none, (.op (.mv (.t 19))), []⟩]) .ret) .skip))
def w9_1 (f : V → V → List Ob → SubR) (vs : List V) (h : List Ob) : SubR := castCons vs fun c1 l1 => castCons l1 fun c2 l2 => castNil l2 (f c1 c2 h)
noncomputable def S9_1 (lf : Nat) (a : V) (b : V) (h : List Ob) : SubR :=
bind2 (F43 lf h) fun v h_ =>
castBool v fun x7 =>
cB (!x7) (
bind2 (F43 lf h_) fun v1 h_1 =>
castBool v1 fun x19 =>
some (.ret, [(.bool x19)], h_1)) (
bind1 (er (.loadN 8 (.c a)) h_) fun v1 =>
castAgg v1 fun l =>
castCons l fun c l1 =>
castInt .i64 c fun x10_0 =>
castCons l1 fun c1 l2 =>
castStr c1 fun x10_1 =>
castCons l2 fun c2 l3 =>
castInt .i64 c2 fun x10_2 =>
castCons l3 fun c3 l4 =>
castInt .i64 c3 fun x10_3 =>
castCons l4 fun c4 l5 =>
castStr c4 fun x10_4 =>
castCons l5 fun c5 l6 =>
castStr c5 fun x10_5 =>
castCons l6 fun c6 l7 =>
castStr c6 fun x10_6 =>
castCons l7 fun x10_7 l8 =>
castNil l8 (
bind2 (F44 lf x10_0 x10_1 x10_2 x10_3 x10_4 x10_5 x10_6 x10_7 h_) fun v2 h_1 =>
castBool v2 fun x11 =>
cB (!x11) (
bind2 (F43 lf h_1) fun v3 h_2 =>
castBool v3 fun x19 =>
some (.ret, [(.bool x19)], h_2)) (
bind1 (er (.loadN 8 (.c b)) h_1) fun v3 =>
castAgg v3 fun l9 =>
castCons l9 fun c7 l10 =>
castInt .i64 c7 fun x15_0 =>
castCons l10 fun c8 l11 =>
castStr c8 fun x15_1 =>
castCons l11 fun c9 l12 =>
castInt .i64 c9 fun x15_2 =>
castCons l12 fun c10 l13 =>
castInt .i64 c10 fun x15_3 =>
castCons l13 fun c11 l14 =>
castStr c11 fun x15_4 =>
castCons l14 fun c12 l15 =>
castStr c12 fun x15_5 =>
castCons l15 fun c13 l16 =>
castStr c13 fun x15_6 =>
castCons l16 fun x15_7 l17 =>
castNil l17 (
bind2 (F44 lf x15_0 x15_1 x15_2 x15_3 x15_4 x15_5 x15_6 x15_7 h_1) fun v4 h_2 =>
castBool v4 fun x16 =>
cB (!x16) (
bind2 (F43 lf h_2) fun v5 h_3 =>
castBool v5 fun x19 =>
some (.ret, [(.bool x19)], h_3)) (
some (.normal, [], h_2))))))
theorem S9_1_eq (lf : Nat) (a : V) (b : V) (h : List Ob) : evCK A9 ⟨call9 lf, cvN, subN⟩ k9_1 [(2, a), (3, b)] h (endK o9_1) = S9_1 lf a b h := by kernel_rfl
theorem S9_1_ok (lf : Nat) : SubOk Go.Proofs.Try.prog k9_1.er [2, 3] o9_1 (w9_1 (S9_1 lf)) := by
  refine SubOk.of (A := A9) (σ := ⟨call9 lf, cvN, subN⟩) (c := k9_1) (call9_ok lf) cvN_ok (And.intro True.intro (And.intro (And.intro True.intro True.intro) True.intro)) ?_
  intro vs h r e0
  simp only [w9_1] at e0
  obtain ⟨c1, l1, rfl, e1⟩ := castCons_inv e0
  obtain ⟨c2, l2, rfl, e2⟩ := castCons_inv e1
  obtain ⟨rfl, e3⟩ := castNil_inv e2
  have e := e3
  exact (S9_1_eq lf c1 c2 h).trans e
def k9 : KC := (.seq (.reg [⟨(some 2), none, (.op (.box false (.t 0))), []⟩, ⟨(some 3), none, (.op (.box false (.t 1))), []⟩, ⟨(some 4), none, (.op (.mv (.c (.bool false)))), []⟩]) (.seq (.sub 1 k9_1.er [2, 3] o9_1) (.seq (.draw [[⟨(some 20), none, (.op (.loadN 8 (.t 2))), []⟩, ⟨(some 22), none, (.op (.loadN 8 (.t 3))), []⟩, ⟨(some 21), none, (.call 45 [(.t 20)]), [⟨(some 22), none, (.op (.loadN 8 (.t 3)))⟩]⟩, ⟨(some 23), none, (.call 45 [(.t 22)]), []⟩, ⟨(some 5), none, (.op (.alloc false (.agg [(.int .i64 0), (.str []), (.int .i64 0), (.int .i64 0), (.str []), (.str []), (.str []), .nils]))), []⟩, ⟨(some 6), none, (.op (.alloc false (.agg [(.int .i64 0), (.str []), (.int .i64 0), (.int .i64 0), (.str []), (.str []), (.str []), .nils]))), []⟩, ⟨none, none, (.op (.store 8 (.t 5) (.t 21))), []⟩, ⟨none, none, (.op (.store 8 (.t 6) (.t 23))), []⟩], [⟨(some 20), none, (.op (.loadN 8 (.t 2))), []⟩, ⟨(some 22), none, (.op (.loadN 8 (.t 3))), []⟩, ⟨(some 21), none, (.call 45 [(.t 20)]), [⟨(some 22), none, (.op (.loadN 8 (.t 3)))⟩]⟩, ⟨(some 23), none, (.call 45 [(.t 22)]), []⟩, ⟨(some 6), none, (.op (.alloc false (.agg [(.int .i64 0), (.str []), (.int .i64 0), (.int .i64 0), (.str []), (.str []), (.str []), .nils]))), []⟩, ⟨(some 5), none, (.op (.alloc false (.agg [(.int .i64 0), (.str []), (.int .i64 0), (.int .i64 0), (.str []), (.str []), (.str []), .nils]))), []⟩, ⟨none, none, (.op (.store 8 (.t 5) (.t 21))), []⟩, ⟨none, none, (.op (.store 8 (.t 6) (.t 23))), []⟩], [⟨(some 20), none, (.op (.loadN 8 (.t 2))), []⟩, ⟨(some 22), none, (.op (.loadN 8 (.t 3))), []⟩, ⟨(some 21), none, (.call 45 [(.t 20)]), [⟨(some 22), none, (.op (.loadN 8 (.t 3)))⟩]⟩, ⟨(some 5), none, (.op (.alloc false (.agg [(.int .i64 0), (.str []), (.int .i64 0), (.int .i64 0), (.str []), (.str []), (.str []), .nils]))), [⟨(some 22), none, (.op (.loadN 8 (.t 3)))⟩]⟩, ⟨(some 23), none, (.call 45 [(.t 22)]), []⟩, ⟨(some 6), none, (.op (.alloc false (.agg [(.int .i64 0), (.str []), (.int .i64 0), (.int .i64 0), (.str []), (.str []), (.str []), .nils]))), []⟩, ⟨none, none, (.op (.store 8 (.t 5) (.t 21))), []⟩, ⟨none, none, (.op (.store 8 (.t 6) (.t 23))), []⟩], [⟨(some 20), none, (.op (.loadN 8 (.t 2))), []⟩, ⟨(some 22), none, (.op (.loadN 8 (.t 3))), []⟩, ⟨(some 21), none, (.call 45 [(.t 20)]), [⟨(some 22), none, (.op (.loadN 8 (.t 3)))⟩]⟩, ⟨(some 5), none, (.op (.alloc false (.agg [(.int .i64 0), (.str []), (.int .i64 0), (.int .i64 0), (.str []), (.str []), (.str []), .nils]))), [⟨(some 22), none, (.op (.loadN 8 (.t 3)))⟩]⟩, ⟨(some 6), none, (.op (.alloc false (.agg [(.int .i64 0), (.str []), (.int .i64 0), (.int .i64 0), (.str []), (.str []), (.str []), .nils]))), [⟨(some 22), none, (.op (.loadN 8 (.t 3)))⟩]⟩, ⟨(some 23), none, (.call 45 [(.t 22)]), []⟩, ⟨none, none, (.op (.store 8 (.t 5) (.t 21))), []⟩, ⟨none, none, (.op (.store 8 (.t 6) (.t 23))), []⟩], [⟨(some 20), none, (.op (.loadN 8 (.t 2))), []⟩, ⟨(some 22), none, (.op (.loadN 8 (.t 3))), []⟩, ⟨(some 21), none, (.call 45 [(.t 20)]), [⟨(some 22), none, (.op (.loadN 8 (.t 3)))⟩]⟩, ⟨(some 6), none, (.op (.alloc false (.agg [(.int .i64 0), (.str []), (.int .i64 0), (.int .i64 0), (.str []), (.str []), (.str []), .nils]))), [⟨(some 22), none, (.op (.loadN 8 (.t 3)))⟩]⟩, ⟨(some 23), none, (.call 45 [(.t 22)]), []⟩, ⟨(some 5), none, (.op (.alloc false (.agg [(.int .i64 0), (.str []), (.int .i64 0), (.int .i64 0), (.str []), (.str []), (.str []), .nils]))), []⟩, ⟨none, none, (.op (.store 8 (.t 5) (.t 21))), []⟩, ⟨none, none, (.op (.store 8 (.t 6) (.t 23))), []⟩], [⟨(some 20), none, (.op (.loadN 8 (.t 2))), []⟩, ⟨(some 22), none, (.op (.loadN 8 (.t 3))), []⟩, ⟨(some 21), none, (.call 45 [(.t 20)]), [⟨(some 22), none, (.op (.loadN 8 (.t 3)))⟩]⟩, ⟨(some 6), none, (.op (.alloc false (.agg [(.int .i64 0), (.str []), (.int .i64 0), (.int .i64 0), (.str []), (.str []), (.str []), .nils]))), [⟨(some 22), none, (.op (.loadN 8 (.t 3)))⟩]⟩, ⟨(some 5), none, (.op (.alloc false (.agg [(.int .i64 0), (.str []), (.int .i64 0), (.int .i64 0), (.str []), (.str []), (.str []), .nils]))), [⟨(some 22), none, (.op (.loadN 8 (.t 3)))⟩]⟩, ⟨(some 23), none, (.call 45 [(.t 22)]), []⟩, ⟨none, none, (.op (.store 8 (.t 5) (.t 21))), []⟩, ⟨none, none, (.op (.store 8 (.t 6) (.t 23))), []⟩], [⟨(some 20), none, (.op (.loadN 8 (.t 2))), []⟩, ⟨(some 22), none, (.op (.loadN 8 (.t 3))), []⟩, ⟨(some 5), none, (.op (.alloc false (.agg [(.int .i64 0), (.str []), (.int .i64 0), (.int .i64 0), (.str []), (.str []), (.str []), .nils]))), [⟨(some 22), none, (.op (.loadN 8 (.t 3)))⟩, ⟨(some 20), none, (.op (.loadN 8 (.t 2)))⟩]⟩, ⟨(some 21), none, (.call 45 [(.t 20)]), [⟨(some 22), none, (.op (.loadN 8 (.t 3)))⟩]⟩, ⟨(some 23), none, (.call 45 [(.t 22)]), []⟩, ⟨(some 6), none, (.op (.alloc false (.agg [(.int .i64 0), (.str []), (.int .i64 0), (.int .i64 0), (.str []), (.str []), (.str []), .nils]))), []⟩, ⟨none, none, (.op (.store 8 (.t 5) (.t 21))), []⟩, ⟨none, none, (.op (.store 8 (.t 6) (.t 23))), []⟩], [⟨(some 20), none, (.op (.loadN 8 (.t 2))), []⟩, ⟨(some 22), none, (.op (.loadN 8 (.t 3))), []⟩, ⟨(some 5), none, (.op (.alloc false (.agg [(.int .i64 0), (.str []), (.int .i64 0), (.int .i64 0), (.str []), (.str []), (.str []), .nils]))), [⟨(some 22), none, (.op (.loadN 8 (.t 3)))⟩, ⟨(some 20), none, (.op (.loadN 8 (.t 2)))⟩]⟩, ⟨(some 21), none, (.call 45 [(.t 20)]), [⟨(some 22), none, (.op (.loadN 8 (.t 3)))⟩]⟩, ⟨(some 6), none, (.op (.alloc false (.agg [(.int .i64 0), (.str []), (.int .i64 0), (.int .i64 0), (.str []), (.str []), (.str []), .nils]))), [⟨(some 22), none, (.op (.loadN 8 (.t 3)))⟩]⟩, ⟨(some 23), none, (.call 45 [(.t 22)]), []⟩, ⟨none, none, (.op (.store 8 (.t 5) (.t 21))), []⟩, ⟨none, none, (.op (.store 8 (.t 6) (.t 23))), []⟩], [⟨(some 20), none, (.op (.loadN 8 (.t 2))), []⟩, ⟨(some 22), none, (.op (.loadN 8 (.t 3))), []⟩, ⟨(some 5), none, (.op (.alloc false (.agg [(.int .i64 0), (.str []), (.int .i64 0), (.int .i64 0), (.str []), (.str []), (.str []), .nils]))), [⟨(some 22), none, (.op (.loadN 8 (.t 3)))⟩, ⟨(some 20), none, (.op (.loadN 8 (.t 2)))⟩]⟩, ⟨(some 6), none, (.op (.alloc false (.agg [(.int .i64 0), (.str []), (.int .i64 0), (.int .i64 0), (.str []), (.str []), (.str []), .nils]))), [⟨(some 22), none, (.op (.loadN 8 (.t 3)))⟩, ⟨(some 20), none, (.op (.loadN 8 (.t 2)))⟩]⟩, ⟨(some 21), none, (.call 45 [(.t 20)]), [⟨(some 22), none, (.op (.loadN 8 (.t 3)))⟩]⟩, ⟨(some 23), none, (.call 45 [(.t 22)]), []⟩, ⟨none, none, (.op (.store 8 (.t 5) (.t 21))), []⟩, ⟨none, none, (.op (.store 8 (.t 6) (.t 23))), []⟩], [⟨(some 20), none, (.op (.loadN 8 (.t 2))), []⟩, ⟨(some 22), none, (.op (.loadN 8 (.t 3))), []⟩, ⟨(some 6), none, (.op (.alloc false (.agg [(.int .i64 0), (.str []), (.int .i64 0), (.int .i64 0), (.str []), (.str []), (.str []), .nils]))), [⟨(some 22), none, (.op (.loadN 8 (.t 3)))⟩, ⟨(some 20), none, (.op (.loadN 8 (.t 2)))⟩]⟩, ⟨(some 21), none, (.call 45 [(.t 20)]), [⟨(some 22), none, (.op (.loadN 8 (.t 3)))⟩]⟩, ⟨(some 23), none, (.call 45 [(.t 22)]), []⟩, ⟨(some 5), none, (.op (.alloc false (.agg [(.int .i64 0), (.str []), (.int .i64 0), (.int .i64 0), (.str []), (.str []), (.str []), .nils]))), []⟩, ⟨none, none, (.op (.store 8 (.t 5) (.t 21))), []⟩, ⟨none, none, (.op (.store 8 (.t 6) (.t 23))), []⟩], [⟨(some 20), none, (.op (.loadN 8 (.t 2))), []⟩, ⟨(some 22), none, (.op (.loadN 8 (.t 3))), []⟩, ⟨(some 6), none, (.op (.alloc false (.agg [(.int .i64 0), (.str []), (.int .i64 0), (.int .i64 0), (.str []), (.str []), (.str []), .nils]))), [⟨(some 22), none, (.op (.loadN 8 (.t 3)))⟩, ⟨(some 20), none, (.op (.loadN 8 (.t 2)))⟩]⟩, ⟨(some 21), none, (.call 45 [(.t 20)]), [⟨(some 22), none, (.op (.loadN 8 (.t 3)))⟩]⟩, ⟨(some 5), none, (.op (.alloc false (.agg [(.int .i64 0), (.str []), (.int .i64 0), (.int .i64 0), (.str []), (.str []), (.str []), .nils]))), [⟨(some 22), none, (.op (.loadN 8 (.t 3)))⟩]⟩, ⟨(some 23), none, (.call 45 [(.t 22)]), []⟩, ⟨none, none, (.op (.store 8 (.t 5) (.t 21))), []⟩, ⟨none, none, (.op (.store 8 (.t 6) (.t 23))), []⟩], [⟨(some 20), none, (.op (.loadN 8 (.t 2))), []⟩, ⟨(some 22), none, (.op (.loadN 8 (.t 3))), []⟩, ⟨(some 6), none, (.op (.alloc false (.agg [(.int .i64 0), (.str []), (.int .i64 0), (.int .i64 0), (.str []), (.str []), (.str []), .nils]))), [⟨(some 22), none, (.op (.loadN 8 (.t 3)))⟩, ⟨(some 20), none, (.op (.loadN 8 (.t 2)))⟩]⟩, ⟨(some 5), none, (.op (.alloc false (.agg [(.int .i64 0), (.str []), (.int .i64 0), (.int .i64 0), (.str []), (.str []), (.str []), .nils]))), [⟨(some 22), none, (.op (.loadN 8 (.t 3)))⟩, ⟨(some 20), none, (.op (.loadN 8 (.t 2)))⟩]⟩, ⟨(some 21), none, (.call 45 [(.t 20)]), [⟨(some 22), none, (.op (.loadN 8 (.t 3)))⟩]⟩, ⟨(some 23), none, (.call 45 [(.t 22)]), []⟩, ⟨none, none, (.op (.store 8 (.t 5) (.t 21))), []⟩, ⟨none, none, (.op (.store 8 (.t 6) (.t 23))), []⟩]]) (.sub 0 k9_0.er [2, 3, 5, 6] o9_0))))
noncomputable def A9_0 (lf : Nat) (Q : V → List Ob → Prop) (a8 b8 : V) (h_2 : List Ob) : Option Prop :=
bind1 (er (.loadN 8 (.c a8)) h_2) fun v =>
castAgg v fun l =>
castCons l fun c l1 =>
castInt .i64 c fun x20_0 =>
castCons l1 fun c1 l2 =>
castStr c1 fun x20_1 =>
castCons l2 fun c2 l3 =>
castInt .i64 c2 fun x20_2 =>
castCons l3 fun c3 l4 =>
castInt .i64 c3 fun x20_3 =>
castCons l4 fun c4 l5 =>
castStr c4 fun x20_4 =>
castCons l5 fun c5 l6 =>
castStr c5 fun x20_5 =>
castCons l6 fun c6 l7 =>
castStr c6 fun x20_6 =>
castCons l7 fun x20_7 l8 =>
castNil l8 (
bind1 (er (.loadN 8 (.c b8)) h_2) fun v1 =>
castAgg v1 fun l9 =>
castCons l9 fun c7 l10 =>
castInt .i64 c7 fun x22_0 =>
castCons l10 fun c8 l11 =>
castStr c8 fun x22_1 =>
castCons l11 fun c9 l12 =>
castInt .i64 c9 fun x22_2 =>
castCons l12 fun c10 l13 =>
castInt .i64 c10 fun x22_3 =>
castCons l13 fun c11 l14 =>
castStr c11 fun x22_4 =>
castCons l14 fun c12 l15 =>
castStr c12 fun x22_5 =>
castCons l15 fun c13 l16 =>
castStr c13 fun x22_6 =>
castCons l16 fun x22_7 l17 =>
castNil l17 (
bind2 (F45 lf (R45 lf lf) x20_0 x20_1 x20_2 x20_3 x20_4 x20_5 x20_6 x20_7 h_2) fun v2 h_3 =>
castAgg v2 fun l18 =>
castCons l18 fun c14 l19 =>
castInt .i64 c14 fun x21_0 =>
castCons l19 fun c15 l20 =>
castStr c15 fun x21_1 =>
castCons l20 fun c16 l21 =>
castInt .i64 c16 fun x21_2 =>
castCons l21 fun c17 l22 =>
castInt .i64 c17 fun x21_3 =>
castCons l22 fun c18 l23 =>
castStr c18 fun x21_4 =>
castCons l23 fun c19 l24 =>
castStr c19 fun x21_5 =>
castCons l24 fun c20 l25 =>
castStr c20 fun x21_6 =>
castCons l25 fun x21_7 l26 =>
castNil l26 (
reP (er (.loadN 8 (.c b8)) h_3 = some (.agg [(.int .i64 x22_0), (.str x22_1), (.int .i64 x22_2), (.int .i64 x22_3), (.str x22_4), (.str x22_5), (.str x22_6), x22_7])) (
bind2 (F45 lf (R45 lf lf) x22_0 x22_1 x22_2 x22_3 x22_4 x22_5 x22_6 x22_7 h_3) fun v3 h_4 =>
castAgg v3 fun l27 =>
castCons l27 fun c21 l28 =>
castInt .i64 c21 fun x23_0 =>
castCons l28 fun c22 l29 =>
castStr c22 fun x23_1 =>
castCons l29 fun c23 l30 =>
castInt .i64 c23 fun x23_2 =>
castCons l30 fun c24 l31 =>
castInt .i64 c24 fun x23_3 =>
castCons l31 fun c25 l32 =>
castStr c25 fun x23_4 =>
castCons l32 fun c26 l33 =>
castStr c26 fun x23_5 =>
castCons l33 fun c27 l34 =>
castStr c27 fun x23_6 =>
castCons l34 fun x23_7 l35 =>
castNil l35 (
bind2 (ev (.alloc false (.agg [(.int .i64 0), (.str []), (.int .i64 0), (.int .i64 0), (.str []), (.str []), (.str []), .nils])) h_4) fun x h_5 =>
bind2 (ev (.alloc false (.agg [(.int .i64 0), (.str []), (.int .i64 0), (.int .i64 0), (.str []), (.str []), (.str []), .nils])) h_5) fun y h_6 =>
bind2 (ev (.store 8 (.c x) (.c (.agg [(.int .i64 x21_0), (.str x21_1), (.int .i64 x21_2), (.int .i64 x21_3), (.str x21_4), (.str x21_5), (.str x21_6), x21_7]))) h_6) fun u h_7 =>
bind2 (ev (.store 8 (.c y) (.c (.agg [(.int .i64 x23_0), (.str x23_1), (.int .i64 x23_2), (.int .i64 x23_3), (.str x23_4), (.str x23_5), (.str x23_6), x23_7]))) h_7) fun u1 h_8 =>
bind3 (S9_0 lf a8 b8 x y h_8) fun ex1 vs1 h_9 =>
cB (decide (ex1 = .ret)) (
castCons vs1 fun c28 l36 =>
castBool c28 fun x4 =>
castNil l36 (
some (Q (.bool x4) h_9))) (
none))))))
noncomputable def A9_1 (lf : Nat) (Q : V → List Ob → Prop) (a8 b8 : V) (h_2 : List Ob) : Option Prop :=
bind1 (er (.loadN 8 (.c a8)) h_2) fun v =>
castAgg v fun l =>
castCons l fun c l1 =>
castInt .i64 c fun x20_0 =>
castCons l1 fun c1 l2 =>
castStr c1 fun x20_1 =>
castCons l2 fun c2 l3 =>
castInt .i64 c2 fun x20_2 =>
castCons l3 fun c3 l4 =>
castInt .i64 c3 fun x20_3 =>
castCons l4 fun c4 l5 =>
castStr c4 fun x20_4 =>
castCons l5 fun c5 l6 =>
castStr c5 fun x20_5 =>
castCons l6 fun c6 l7 =>
castStr c6 fun x20_6 =>
castCons l7 fun x20_7 l8 =>
castNil l8 (
bind1 (er (.loadN 8 (.c b8)) h_2) fun v1 =>
castAgg v1 fun l9 =>
castCons l9 fun c7 l10 =>
castInt .i64 c7 fun x22_0 =>
castCons l10 fun c8 l11 =>
castStr c8 fun x22_1 =>
castCons l11 fun c9 l12 =>
castInt .i64 c9 fun x22_2 =>
castCons l12 fun c10 l13 =>
castInt .i64 c10 fun x22_3 =>
castCons l13 fun c11 l14 =>
castStr c11 fun x22_4 =>
castCons l14 fun c12 l15 =>
castStr c12 fun x22_5 =>
castCons l15 fun c13 l16 =>
castStr c13 fun x22_6 =>
castCons l16 fun x22_7 l17 =>
castNil l17 (
bind2 (F45 lf (R45 lf lf) x20_0 x20_1 x20_2 x20_3 x20_4 x20_5 x20_6 x20_7 h_2) fun v2 h_3 =>
castAgg v2 fun l18 =>
castCons l18 fun c14 l19 =>
castInt .i64 c14 fun x21_0 =>
castCons l19 fun c15 l20 =>
castStr c15 fun x21_1 =>
castCons l20 fun c16 l21 =>
castInt .i64 c16 fun x21_2 =>
castCons l21 fun c17 l22 =>
castInt .i64 c17 fun x21_3 =>
castCons l22 fun c18 l23 =>
castStr c18 fun x21_4 =>
castCons l23 fun c19 l24 =>
castStr c19 fun x21_5 =>
castCons l24 fun c20 l25 =>
castStr c20 fun x21_6 =>
castCons l25 fun x21_7 l26 =>
castNil l26 (
reP (er (.loadN 8 (.c b8)) h_3 = some (.agg [(.int .i64 x22_0), (.str x22_1), (.int .i64 x22_2), (.int .i64 x22_3), (.str x22_4), (.str x22_5), (.str x22_6), x22_7])) (
bind2 (F45 lf (R45 lf lf) x22_0 x22_1 x22_2 x22_3 x22_4 x22_5 x22_6 x22_7 h_3) fun v3 h_4 =>
castAgg v3 fun l27 =>
castCons l27 fun c21 l28 =>
castInt .i64 c21 fun x23_0 =>
castCons l28 fun c22 l29 =>
castStr c22 fun x23_1 =>
castCons l29 fun c23 l30 =>
castInt .i64 c23 fun x23_2 =>
castCons l30 fun c24 l31 =>
castInt .i64 c24 fun x23_3 =>
castCons l31 fun c25 l32 =>
castStr c25 fun x23_4 =>
castCons l32 fun c26 l33 =>
castStr c26 fun x23_5 =>
castCons l33 fun c27 l34 =>
castStr c27 fun x23_6 =>
castCons l34 fun x23_7 l35 =>
castNil l35 (
bind2 (ev (.alloc false (.agg [(.int .i64 0), (.str []), (.int .i64 0), (.int .i64 0), (.str []), (.str []), (.str []), .nils])) h_4) fun y h_5 =>
bind2 (ev (.alloc false (.agg [(.int .i64 0), (.str []), (.int .i64 0), (.int .i64 0), (.str []), (.str []), (.str []), .nils])) h_5) fun x h_6 =>
bind2 (ev (.store 8 (.c x) (.c (.agg [(.int .i64 x21_0), (.str x21_1), (.int .i64 x21_2), (.int .i64 x21_3), (.str x21_4), (.str x21_5), (.str x21_6), x21_7]))) h_6) fun u h_7 =>
bind2 (ev (.store 8 (.c y) (.c (.agg [(.int .i64 x23_0), (.str x23_1), (.int .i64 x23_2), (.int .i64 x23_3), (.str x23_4), (.str x23_5), (.str x23_6), x23_7]))) h_7) fun u1 h_8 =>
bind3 (S9_0 lf a8 b8 x y h_8) fun ex1 vs1 h_9 =>
cB (decide (ex1 = .ret)) (
castCons vs1 fun c28 l36 =>
castBool c28 fun x4 =>
castNil l36 (
some (Q (.bool x4) h_9))) (
none))))))
noncomputable def A9_2 (lf : Nat) (Q : V → List Ob → Prop) (a8 b8 : V) (h_2 : List Ob) : Option Prop :=
bind1 (er (.loadN 8 (.c a8)) h_2) fun v =>
castAgg v fun l =>
castCons l fun c l1 =>
castInt .i64 c fun x20_0 =>
castCons l1 fun c1 l2 =>
castStr c1 fun x20_1 =>
castCons l2 fun c2 l3 =>
castInt .i64 c2 fun x20_2 =>
castCons l3 fun c3 l4 =>
castInt .i64 c3 fun x20_3 =>
castCons l4 fun c4 l5 =>
castStr c4 fun x20_4 =>
castCons l5 fun c5 l6 =>
castStr c5 fun x20_5 =>
castCons l6 fun c6 l7 =>
castStr c6 fun x20_6 =>
castCons l7 fun x20_7 l8 =>
castNil l8 (
bind1 (er (.loadN 8 (.c b8)) h_2) fun v1 =>
castAgg v1 fun l9 =>
castCons l9 fun c7 l10 =>
castInt .i64 c7 fun x22_0 =>
castCons l10 fun c8 l11 =>
castStr c8 fun x22_1 =>
castCons l11 fun c9 l12 =>
castInt .i64 c9 fun x22_2 =>
castCons l12 fun c10 l13 =>
castInt .i64 c10 fun x22_3 =>
castCons l13 fun c11 l14 =>
castStr c11 fun x22_4 =>
castCons l14 fun c12 l15 =>
castStr c12 fun x22_5 =>
castCons l15 fun c13 l16 =>
castStr c13 fun x22_6 =>
castCons l16 fun x22_7 l17 =>
castNil l17 (
bind2 (F45 lf (R45 lf lf) x20_0 x20_1 x20_2 x20_3 x20_4 x20_5 x20_6 x20_7 h_2) fun v2 h_3 =>
castAgg v2 fun l18 =>
castCons l18 fun c14 l19 =>
castInt .i64 c14 fun x21_0 =>
castCons l19 fun c15 l20 =>
castStr c15 fun x21_1 =>
castCons l20 fun c16 l21 =>
castInt .i64 c16 fun x21_2 =>
castCons l21 fun c17 l22 =>
castInt .i64 c17 fun x21_3 =>
castCons l22 fun c18 l23 =>
castStr c18 fun x21_4 =>
castCons l23 fun c19 l24 =>
castStr c19 fun x21_5 =>
castCons l24 fun c20 l25 =>
castStr c20 fun x21_6 =>
castCons l25 fun x21_7 l26 =>
castNil l26 (
reP (er (.loadN 8 (.c b8)) h_3 = some (.agg [(.int .i64 x22_0), (.str x22_1), (.int .i64 x22_2), (.int .i64 x22_3), (.str x22_4), (.str x22_5), (.str x22_6), x22_7])) (
bind2 (ev (.alloc false (.agg [(.int .i64 0), (.str []), (.int .i64 0), (.int .i64 0), (.str []), (.str []), (.str []), .nils])) h_3) fun x h_4 =>
reP (er (.loadN 8 (.c b8)) h_4 = some (.agg [(.int .i64 x22_0), (.str x22_1), (.int .i64 x22_2), (.int .i64 x22_3), (.str x22_4), (.str x22_5), (.str x22_6), x22_7])) (
bind2 (F45 lf (R45 lf lf) x22_0 x22_1 x22_2 x22_3 x22_4 x22_5 x22_6 x22_7 h_4) fun v3 h_5 =>
castAgg v3 fun l27 =>
castCons l27 fun c21 l28 =>
castInt .i64 c21 fun x23_0 =>
castCons l28 fun c22 l29 =>
castStr c22 fun x23_1 =>
castCons l29 fun c23 l30 =>
castInt .i64 c23 fun x23_2 =>
castCons l30 fun c24 l31 =>
castInt .i64 c24 fun x23_3 =>
castCons l31 fun c25 l32 =>
castStr c25 fun x23_4 =>
castCons l32 fun c26 l33 =>
castStr c26 fun x23_5 =>
castCons l33 fun c27 l34 =>
castStr c27 fun x23_6 =>
castCons l34 fun x23_7 l35 =>
castNil l35 (
bind2 (ev (.alloc false (.agg [(.int .i64 0), (.str []), (.int .i64 0), (.int .i64 0), (.str []), (.str []), (.str []), .nils])) h_5) fun y h_6 =>
bind2 (ev (.store 8 (.c x) (.c (.agg [(.int .i64 x21_0), (.str x21_1), (.int .i64 x21_2), (.int .i64 x21_3), (.str x21_4), (.str x21_5), (.str x21_6), x21_7]))) h_6) fun u h_7 =>
bind2 (ev (.store 8 (.c y) (.c (.agg [(.int .i64 x23_0), (.str x23_1), (.int .i64 x23_2), (.int .i64 x23_3), (.str x23_4), (.str x23_5), (.str x23_6), x23_7]))) h_7) fun u1 h_8 =>
bind3 (S9_0 lf a8 b8 x y h_8) fun ex1 vs1 h_9 =>
cB (decide (ex1 = .ret)) (
castCons vs1 fun c28 l36 =>
castBool c28 fun x4 =>
castNil l36 (
some (Q (.bool x4) h_9))) (
none)))))))
noncomputable def A9_3 (lf : Nat) (Q : V → List Ob → Prop) (a8 b8 : V) (h_2 : List Ob) : Option Prop :=
bind1 (er (.loadN 8 (.c a8)) h_2) fun v =>
castAgg v fun l =>
castCons l fun c l1 =>
castInt .i64 c fun x20_0 =>
castCons l1 fun c1 l2 =>
castStr c1 fun x20_1 =>
castCons l2 fun c2 l3 =>
castInt .i64 c2 fun x20_2 =>
castCons l3 fun c3 l4 =>
castInt .i64 c3 fun x20_3 =>
castCons l4 fun c4 l5 =>
castStr c4 fun x20_4 =>
castCons l5 fun c5 l6 =>
castStr c5 fun x20_5 =>
castCons l6 fun c6 l7 =>
castStr c6 fun x20_6 =>
castCons l7 fun x20_7 l8 =>
castNil l8 (
bind1 (er (.loadN 8 (.c b8)) h_2) fun v1 =>
castAgg v1 fun l9 =>
castCons l9 fun c7 l10 =>
castInt .i64 c7 fun x22_0 =>
castCons l10 fun c8 l11 =>
castStr c8 fun x22_1 =>
castCons l11 fun c9 l12 =>
castInt .i64 c9 fun x22_2 =>
castCons l12 fun c10 l13 =>
castInt .i64 c10 fun x22_3 =>
castCons l13 fun c11 l14 =>
castStr c11 fun x22_4 =>
castCons l14 fun c12 l15 =>
castStr c12 fun x22_5 =>
castCons l15 fun c13 l16 =>
castStr c13 fun x22_6 =>
castCons l16 fun x22_7 l17 =>
castNil l17 (
bind2 (F45 lf (R45 lf lf) x20_0 x20_1 x20_2 x20_3 x20_4 x20_5 x20_6 x20_7 h_2) fun v2 h_3 =>
castAgg v2 fun l18 =>
castCons l18 fun c14 l19 =>
castInt .i64 c14 fun x21_0 =>
castCons l19 fun c15 l20 =>
castStr c15 fun x21_1 =>
castCons l20 fun c16 l21 =>
castInt .i64 c16 fun x21_2 =>
castCons l21 fun c17 l22 =>
castInt .i64 c17 fun x21_3 =>
castCons l22 fun c18 l23 =>
castStr c18 fun x21_4 =>
castCons l23 fun c19 l24 =>
castStr c19 fun x21_5 =>
castCons l24 fun c20 l25 =>
castStr c20 fun x21_6 =>
castCons l25 fun x21_7 l26 =>
castNil l26 (
reP (er (.loadN 8 (.c b8)) h_3 = some (.agg [(.int .i64 x22_0), (.str x22_1), (.int .i64 x22_2), (.int .i64 x22_3), (.str x22_4), (.str x22_5), (.str x22_6), x22_7])) (
bind2 (ev (.alloc false (.agg [(.int .i64 0), (.str []), (.int .i64 0), (.int .i64 0), (.str []), (.str []), (.str []), .nils])) h_3) fun x h_4 =>
reP (er (.loadN 8 (.c b8)) h_4 = some (.agg [(.int .i64 x22_0), (.str x22_1), (.int .i64 x22_2), (.int .i64 x22_3), (.str x22_4), (.str x22_5), (.str x22_6), x22_7])) (
bind2 (ev (.alloc false (.agg [(.int .i64 0), (.str []), (.int .i64 0), (.int .i64 0), (.str []), (.str []), (.str []), .nils])) h_4) fun y h_5 =>
reP (er (.loadN 8 (.c b8)) h_5 = some (.agg [(.int .i64 x22_0), (.str x22_1), (.int .i64 x22_2), (.int .i64 x22_3), (.str x22_4), (.str x22_5), (.str x22_6), x22_7])) (
bind2 (F45 lf (R45 lf lf) x22_0 x22_1 x22_2 x22_3 x22_4 x22_5 x22_6 x22_7 h_5) fun v3 h_6 =>
castAgg v3 fun l27 =>
castCons l27 fun c21 l28 =>
castInt .i64 c21 fun x23_0 =>
castCons l28 fun c22 l29 =>
castStr c22 fun x23_1 =>
castCons l29 fun c23 l30 =>
castInt .i64 c23 fun x23_2 =>
castCons l30 fun c24 l31 =>
castInt .i64 c24 fun x23_3 =>
castCons l31 fun c25 l32 =>
castStr c25 fun x23_4 =>
castCons l32 fun c26 l33 =>
castStr c26 fun x23_5 =>
castCons l33 fun c27 l34 =>
castStr c27 fun x23_6 =>
castCons l34 fun x23_7 l35 =>
castNil l35 (
bind2 (ev (.store 8 (.c x) (.c (.agg [(.int .i64 x21_0), (.str x21_1), (.int .i64 x21_2), (.int .i64 x21_3), (.str x21_4), (.str x21_5), (.str x21_6), x21_7]))) h_6) fun u h_7 =>
bind2 (ev (.store 8 (.c y) (.c (.agg [(.int .i64 x23_0), (.str x23_1), (.int .i64 x23_2), (.int .i64 x23_3), (.str x23_4), (.str x23_5), (.str x23_6), x23_7]))) h_7) fun u1 h_8 =>
bind3 (S9_0 lf a8 b8 x y h_8) fun ex1 vs1 h_9 =>
cB (decide (ex1 = .ret)) (
castCons vs1 fun c28 l36 =>
castBool c28 fun x4 =>
castNil l36 (
some (Q (.bool x4) h_9))) (
none))))))))
noncomputable def A9_4 (lf : Nat) (Q : V → List Ob → Prop) (a8 b8 : V) (h_2 : List Ob) : Option Prop :=
bind1 (er (.loadN 8 (.c a8)) h_2) fun v =>
castAgg v fun l =>
castCons l fun c l1 =>
castInt .i64 c fun x20_0 =>
castCons l1 fun c1 l2 =>
castStr c1 fun x20_1 =>
castCons l2 fun c2 l3 =>
castInt .i64 c2 fun x20_2 =>
castCons l3 fun c3 l4 =>
castInt .i64 c3 fun x20_3 =>
castCons l4 fun c4 l5 =>
castStr c4 fun x20_4 =>
castCons l5 fun c5 l6 =>
castStr c5 fun x20_5 =>
castCons l6 fun c6 l7 =>
castStr c6 fun x20_6 =>
castCons l7 fun x20_7 l8 =>
castNil l8 (
bind1 (er (.loadN 8 (.c b8)) h_2) fun v1 =>
castAgg v1 fun l9 =>
castCons l9 fun c7 l10 =>
castInt .i64 c7 fun x22_0 =>
castCons l10 fun c8 l11 =>
castStr c8 fun x22_1 =>
castCons l11 fun c9 l12 =>
castInt .i64 c9 fun x22_2 =>
castCons l12 fun c10 l13 =>
castInt .i64 c10 fun x22_3 =>
castCons l13 fun c11 l14 =>
castStr c11 fun x22_4 =>
castCons l14 fun c12 l15 =>
castStr c12 fun x22_5 =>
castCons l15 fun c13 l16 =>
castStr c13 fun x22_6 =>
castCons l16 fun x22_7 l17 =>
castNil l17 (
bind2 (F45 lf (R45 lf lf) x20_0 x20_1 x20_2 x20_3 x20_4 x20_5 x20_6 x20_7 h_2) fun v2 h_3 =>
castAgg v2 fun l18 =>
castCons l18 fun c14 l19 =>
castInt .i64 c14 fun x21_0 =>
castCons l19 fun c15 l20 =>
castStr c15 fun x21_1 =>
castCons l20 fun c16 l21 =>
castInt .i64 c16 fun x21_2 =>
castCons l21 fun c17 l22 =>
castInt .i64 c17 fun x21_3 =>
castCons l22 fun c18 l23 =>
castStr c18 fun x21_4 =>
castCons l23 fun c19 l24 =>
castStr c19 fun x21_5 =>
castCons l24 fun c20 l25 =>
castStr c20 fun x21_6 =>
castCons l25 fun x21_7 l26 =>
castNil l26 (
reP (er (.loadN 8 (.c b8)) h_3 = some (.agg [(.int .i64 x22_0), (.str x22_1), (.int .i64 x22_2), (.int .i64 x22_3), (.str x22_4), (.str x22_5), (.str x22_6), x22_7])) (
bind2 (ev (.alloc false (.agg [(.int .i64 0), (.str []), (.int .i64 0), (.int .i64 0), (.str []), (.str []), (.str []), .nils])) h_3) fun y h_4 =>
reP (er (.loadN 8 (.c b8)) h_4 = some (.agg [(.int .i64 x22_0), (.str x22_1), (.int .i64 x22_2), (.int .i64 x22_3), (.str x22_4), (.str x22_5), (.str x22_6), x22_7])) (
bind2 (F45 lf (R45 lf lf) x22_0 x22_1 x22_2 x22_3 x22_4 x22_5 x22_6 x22_7 h_4) fun v3 h_5 =>
castAgg v3 fun l27 =>
castCons l27 fun c21 l28 =>
castInt .i64 c21 fun x23_0 =>
castCons l28 fun c22 l29 =>
castStr c22 fun x23_1 =>
castCons l29 fun c23 l30 =>
castInt .i64 c23 fun x23_2 =>
castCons l30 fun c24 l31 =>
castInt .i64 c24 fun x23_3 =>
castCons l31 fun c25 l32 =>
castStr c25 fun x23_4 =>
castCons l32 fun c26 l33 =>
castStr c26 fun x23_5 =>
castCons l33 fun c27 l34 =>
castStr c27 fun x23_6 =>
castCons l34 fun x23_7 l35 =>
castNil l35 (
bind2 (ev (.alloc false (.agg [(.int .i64 0), (.str []), (.int .i64 0), (.int .i64 0), (.str []), (.str []), (.str []), .nils])) h_5) fun x h_6 =>
bind2 (ev (.store 8 (.c x) (.c (.agg [(.int .i64 x21_0), (.str x21_1), (.int .i64 x21_2), (.int .i64 x21_3), (.str x21_4), (.str x21_5), (.str x21_6), x21_7]))) h_6) fun u h_7 =>
bind2 (ev (.store 8 (.c y) (.c (.agg [(.int .i64 x23_0), (.str x23_1), (.int .i64 x23_2), (.int .i64 x23_3), (.str x23_4), (.str x23_5), (.str x23_6), x23_7]))) h_7) fun u1 h_8 =>
bind3 (S9_0 lf a8 b8 x y h_8) fun ex1 vs1 h_9 =>
cB (decide (ex1 = .ret)) (
castCons vs1 fun c28 l36 =>
castBool c28 fun x4 =>
castNil l36 (
some (Q (.bool x4) h_9))) (
none)))))))
noncomputable def A9_5 (lf : Nat) (Q : V → List Ob → Prop) (a8 b8 : V) (h_2 : List Ob) : Option Prop :=
bind1 (er (.loadN 8 (.c a8)) h_2) fun v =>
castAgg v fun l =>
castCons l fun c l1 =>
castInt .i64 c fun x20_0 =>
castCons l1 fun c1 l2 =>
castStr c1 fun x20_1 =>
castCons l2 fun c2 l3 =>
castInt .i64 c2 fun x20_2 =>
castCons l3 fun c3 l4 =>
castInt .i64 c3 fun x20_3 =>
castCons l4 fun c4 l5 =>
castStr c4 fun x20_4 =>
castCons l5 fun c5 l6 =>
castStr c5 fun x20_5 =>
castCons l6 fun c6 l7 =>
castStr c6 fun x20_6 =>
castCons l7 fun x20_7 l8 =>
castNil l8 (
bind1 (er (.loadN 8 (.c b8)) h_2) fun v1 =>
castAgg v1 fun l9 =>
castCons l9 fun c7 l10 =>
castInt .i64 c7 fun x22_0 =>
castCons l10 fun c8 l11 =>
castStr c8 fun x22_1 =>
castCons l11 fun c9 l12 =>
castInt .i64 c9 fun x22_2 =>
castCons l12 fun c10 l13 =>
castInt .i64 c10 fun x22_3 =>
castCons l13 fun c11 l14 =>
castStr c11 fun x22_4 =>
castCons l14 fun c12 l15 =>
castStr c12 fun x22_5 =>
castCons l15 fun c13 l16 =>
castStr c13 fun x22_6 =>
castCons l16 fun x22_7 l17 =>
castNil l17 (
bind2 (F45 lf (R45 lf lf) x20_0 x20_1 x20_2 x20_3 x20_4 x20_5 x20_6 x20_7 h_2) fun v2 h_3 =>
castAgg v2 fun l18 =>
castCons l18 fun c14 l19 =>
castInt .i64 c14 fun x21_0 =>
castCons l19 fun c15 l20 =>
castStr c15 fun x21_1 =>
castCons l20 fun c16 l21 =>
castInt .i64 c16 fun x21_2 =>
castCons l21 fun c17 l22 =>
castInt .i64 c17 fun x21_3 =>
castCons l22 fun c18 l23 =>
castStr c18 fun x21_4 =>
castCons l23 fun c19 l24 =>
castStr c19 fun x21_5 =>
castCons l24 fun c20 l25 =>
castStr c20 fun x21_6 =>
castCons l25 fun x21_7 l26 =>
castNil l26 (
reP (er (.loadN 8 (.c b8)) h_3 = some (.agg [(.int .i64 x22_0), (.str x22_1), (.int .i64 x22_2), (.int .i64 x22_3), (.str x22_4), (.str x22_5), (.str x22_6), x22_7])) (
bind2 (ev (.alloc false (.agg [(.int .i64 0), (.str []), (.int .i64 0), (.int .i64 0), (.str []), (.str []), (.str []), .nils])) h_3) fun y h_4 =>
reP (er (.loadN 8 (.c b8)) h_4 = some (.agg [(.int .i64 x22_0), (.str x22_1), (.int .i64 x22_2), (.int .i64 x22_3), (.str x22_4), (.str x22_5), (.str x22_6), x22_7])) (
bind2 (ev (.alloc false (.agg [(.int .i64 0), (.str []), (.int .i64 0), (.int .i64 0), (.str []), (.str []), (.str []), .nils])) h_4) fun x h_5 =>
reP (er (.loadN 8 (.c b8)) h_5 = some (.agg [(.int .i64 x22_0), (.str x22_1), (.int .i64 x22_2), (.int .i64 x22_3), (.str x22_4), (.str x22_5), (.str x22_6), x22_7])) (
bind2 (F45 lf (R45 lf lf) x22_0 x22_1 x22_2 x22_3 x22_4 x22_5 x22_6 x22_7 h_5) fun v3 h_6 =>
castAgg v3 fun l27 =>
castCons l27 fun c21 l28 =>
castInt .i64 c21 fun x23_0 =>
castCons l28 fun c22 l29 =>
castStr c22 fun x23_1 =>
castCons l29 fun c23 l30 =>
castInt .i64 c23 fun x23_2 =>
castCons l30 fun c24 l31 =>
castInt .i64 c24 fun x23_3 =>
castCons l31 fun c25 l32 =>
castStr c25 fun x23_4 =>
castCons l32 fun c26 l33 =>
castStr c26 fun x23_5 =>
castCons l33 fun c27 l34 =>
castStr c27 fun x23_6 =>
castCons l34 fun x23_7 l35 =>
castNil l35 (
bind2 (ev (.store 8 (.c x) (.c (.agg [(.int .i64 x21_0), (.str x21_1), (.int .i64 x21_2), (.int .i64 x21_3), (.str x21_4), (.str x21_5), (.str x21_6), x21_7]))) h_6) fun u h_7 =>
bind2 (ev (.store 8 (.c y) (.c (.agg [(.int .i64 x23_0), (.str x23_1), (.int .i64 x23_2), (.int .i64 x23_3), (.str x23_4), (.str x23_5), (.str x23_6), x23_7]))) h_7) fun u1 h_8 =>
bind3 (S9_0 lf a8 b8 x y h_8) fun ex1 vs1 h_9 =>
cB (decide (ex1 = .ret)) (
castCons vs1 fun c28 l36 =>
castBool c28 fun x4 =>
castNil l36 (
some (Q (.bool x4) h_9))) (
none))))))))
noncomputable def A9_6 (lf : Nat) (Q : V → List Ob → Prop) (a8 b8 : V) (h_2 : List Ob) : Option Prop :=
bind1 (er (.loadN 8 (.c a8)) h_2) fun v =>
castAgg v fun l =>
castCons l fun c l1 =>
castInt .i64 c fun x20_0 =>
castCons l1 fun c1 l2 =>
castStr c1 fun x20_1 =>
castCons l2 fun c2 l3 =>
castInt .i64 c2 fun x20_2 =>
castCons l3 fun c3 l4 =>
castInt .i64 c3 fun x20_3 =>
castCons l4 fun c4 l5 =>
castStr c4 fun x20_4 =>
castCons l5 fun c5 l6 =>
castStr c5 fun x20_5 =>
castCons l6 fun c6 l7 =>
castStr c6 fun x20_6 =>
castCons l7 fun x20_7 l8 =>
castNil l8 (
bind1 (er (.loadN 8 (.c b8)) h_2) fun v1 =>
castAgg v1 fun l9 =>
castCons l9 fun c7 l10 =>
castInt .i64 c7 fun x22_0 =>
castCons l10 fun c8 l11 =>
castStr c8 fun x22_1 =>
castCons l11 fun c9 l12 =>
castInt .i64 c9 fun x22_2 =>
castCons l12 fun c10 l13 =>
castInt .i64 c10 fun x22_3 =>
castCons l13 fun c11 l14 =>
castStr c11 fun x22_4 =>
castCons l14 fun c12 l15 =>
castStr c12 fun x22_5 =>
castCons l15 fun c13 l16 =>
castStr c13 fun x22_6 =>
castCons l16 fun x22_7 l17 =>
castNil l17 (
bind2 (ev (.alloc false (.agg [(.int .i64 0), (.str []), (.int .i64 0), (.int .i64 0), (.str []), (.str []), (.str []), .nils])) h_2) fun x h_3 =>
reP (er (.loadN 8 (.c b8)) h_3 = some (.agg [(.int .i64 x22_0), (.str x22_1), (.int .i64 x22_2), (.int .i64 x22_3), (.str x22_4), (.str x22_5), (.str x22_6), x22_7])) (
reP (er (.loadN 8 (.c a8)) h_3 = some (.agg [(.int .i64 x20_0), (.str x20_1), (.int .i64 x20_2), (.int .i64 x20_3), (.str x20_4), (.str x20_5), (.str x20_6), x20_7])) (
bind2 (F45 lf (R45 lf lf) x20_0 x20_1 x20_2 x20_3 x20_4 x20_5 x20_6 x20_7 h_3) fun v2 h_4 =>
castAgg v2 fun l18 =>
castCons l18 fun c14 l19 =>
castInt .i64 c14 fun x21_0 =>
castCons l19 fun c15 l20 =>
castStr c15 fun x21_1 =>
castCons l20 fun c16 l21 =>
castInt .i64 c16 fun x21_2 =>
castCons l21 fun c17 l22 =>
castInt .i64 c17 fun x21_3 =>
castCons l22 fun c18 l23 =>
castStr c18 fun x21_4 =>
castCons l23 fun c19 l24 =>
castStr c19 fun x21_5 =>
castCons l24 fun c20 l25 =>
castStr c20 fun x21_6 =>
castCons l25 fun x21_7 l26 =>
castNil l26 (
reP (er (.loadN 8 (.c b8)) h_4 = some (.agg [(.int .i64 x22_0), (.str x22_1), (.int .i64 x22_2), (.int .i64 x22_3), (.str x22_4), (.str x22_5), (.str x22_6), x22_7])) (
bind2 (F45 lf (R45 lf lf) x22_0 x22_1 x22_2 x22_3 x22_4 x22_5 x22_6 x22_7 h_4) fun v3 h_5 =>
castAgg v3 fun l27 =>
castCons l27 fun c21 l28 =>
castInt .i64 c21 fun x23_0 =>
castCons l28 fun c22 l29 =>
castStr c22 fun x23_1 =>
castCons l29 fun c23 l30 =>
castInt .i64 c23 fun x23_2 =>
castCons l30 fun c24 l31 =>
castInt .i64 c24 fun x23_3 =>
castCons l31 fun c25 l32 =>
castStr c25 fun x23_4 =>
castCons l32 fun c26 l33 =>
castStr c26 fun x23_5 =>
castCons l33 fun c27 l34 =>
castStr c27 fun x23_6 =>
castCons l34 fun x23_7 l35 =>
castNil l35 (
bind2 (ev (.alloc false (.agg [(.int .i64 0), (.str []), (.int .i64 0), (.int .i64 0), (.str []), (.str []), (.str []), .nils])) h_5) fun y h_6 =>
bind2 (ev (.store 8 (.c x) (.c (.agg [(.int .i64 x21_0), (.str x21_1), (.int .i64 x21_2), (.int .i64 x21_3), (.str x21_4), (.str x21_5), (.str x21_6), x21_7]))) h_6) fun u h_7 =>
bind2 (ev (.store 8 (.c y) (.c (.agg [(.int .i64 x23_0), (.str x23_1), (.int .i64 x23_2), (.int .i64 x23_3), (.str x23_4), (.str x23_5), (.str x23_6), x23_7]))) h_7) fun u1 h_8 =>
bind3 (S9_0 lf a8 b8 x y h_8) fun ex1 vs1 h_9 =>
cB (decide (ex1 = .ret)) (
castCons vs1 fun c28 l36 =>
castBool c28 fun x4 =>
castNil l36 (
some (Q (.bool x4) h_9))) (
none))))))))
noncomputable def A9_7 (lf : Nat) (Q : V → List Ob → Prop) (a8 b8 : V) (h_2 : List Ob) : Option Prop :=
bind1 (er (.loadN 8 (.c a8)) h_2) fun v =>
castAgg v fun l =>
castCons l fun c l1 =>
castInt .i64 c fun x20_0 =>
castCons l1 fun c1 l2 =>
castStr c1 fun x20_1 =>
castCons l2 fun c2 l3 =>
castInt .i64 c2 fun x20_2 =>
castCons l3 fun c3 l4 =>
castInt .i64 c3 fun x20_3 =>
castCons l4 fun c4 l5 =>
castStr c4 fun x20_4 =>
castCons l5 fun c5 l6 =>
castStr c5 fun x20_5 =>
castCons l6 fun c6 l7 =>
castStr c6 fun x20_6 =>
castCons l7 fun x20_7 l8 =>
castNil l8 (
bind1 (er (.loadN 8 (.c b8)) h_2) fun v1 =>
castAgg v1 fun l9 =>
castCons l9 fun c7 l10 =>
castInt .i64 c7 fun x22_0 =>
castCons l10 fun c8 l11 =>
castStr c8 fun x22_1 =>
castCons l11 fun c9 l12 =>
castInt .i64 c9 fun x22_2 =>
castCons l12 fun c10 l13 =>
castInt .i64 c10 fun x22_3 =>
castCons l13 fun c11 l14 =>
castStr c11 fun x22_4 =>
castCons l14 fun c12 l15 =>
castStr c12 fun x22_5 =>
castCons l15 fun c13 l16 =>
castStr c13 fun x22_6 =>
castCons l16 fun x22_7 l17 =>
castNil l17 (
bind2 (ev (.alloc false (.agg [(.int .i64 0), (.str []), (.int .i64 0), (.int .i64 0), (.str []), (.str []), (.str []), .nils])) h_2) fun x h_3 =>
reP (er (.loadN 8 (.c b8)) h_3 = some (.agg [(.int .i64 x22_0), (.str x22_1), (.int .i64 x22_2), (.int .i64 x22_3), (.str x22_4), (.str x22_5), (.str x22_6), x22_7])) (
reP (er (.loadN 8 (.c a8)) h_3 = some (.agg [(.int .i64 x20_0), (.str x20_1), (.int .i64 x20_2), (.int .i64 x20_3), (.str x20_4), (.str x20_5), (.str x20_6), x20_7])) (
bind2 (F45 lf (R45 lf lf) x20_0 x20_1 x20_2 x20_3 x20_4 x20_5 x20_6 x20_7 h_3) fun v2 h_4 =>
castAgg v2 fun l18 =>
castCons l18 fun c14 l19 =>
castInt .i64 c14 fun x21_0 =>
castCons l19 fun c15 l20 =>
castStr c15 fun x21_1 =>
castCons l20 fun c16 l21 =>
castInt .i64 c16 fun x21_2 =>
castCons l21 fun c17 l22 =>
castInt .i64 c17 fun x21_3 =>
castCons l22 fun c18 l23 =>
castStr c18 fun x21_4 =>
castCons l23 fun c19 l24 =>
castStr c19 fun x21_5 =>
castCons l24 fun c20 l25 =>
castStr c20 fun x21_6 =>
castCons l25 fun x21_7 l26 =>
castNil l26 (
reP (er (.loadN 8 (.c b8)) h_4 = some (.agg [(.int .i64 x22_0), (.str x22_1), (.int .i64 x22_2), (.int .i64 x22_3), (.str x22_4), (.str x22_5), (.str x22_6), x22_7])) (
bind2 (ev (.alloc false (.agg [(.int .i64 0), (.str []), (.int .i64 0), (.int .i64 0), (.str []), (.str []), (.str []), .nils])) h_4) fun y h_5 =>
reP (er (.loadN 8 (.c b8)) h_5 = some (.agg [(.int .i64 x22_0), (.str x22_1), (.int .i64 x22_2), (.int .i64 x22_3), (.str x22_4), (.str x22_5), (.str x22_6), x22_7])) (
bind2 (F45 lf (R45 lf lf) x22_0 x22_1 x22_2 x22_3 x22_4 x22_5 x22_6 x22_7 h_5) fun v3 h_6 =>
castAgg v3 fun l27 =>
castCons l27 fun c21 l28 =>
castInt .i64 c21 fun x23_0 =>
castCons l28 fun c22 l29 =>
castStr c22 fun x23_1 =>
castCons l29 fun c23 l30 =>
castInt .i64 c23 fun x23_2 =>
castCons l30 fun c24 l31 =>
castInt .i64 c24 fun x23_3 =>
castCons l31 fun c25 l32 =>
castStr c25 fun x23_4 =>
castCons l32 fun c26 l33 =>
castStr c26 fun x23_5 =>
castCons l33 fun c27 l34 =>
castStr c27 fun x23_6 =>
castCons l34 fun x23_7 l35 =>
castNil l35 (
bind2 (ev (.store 8 (.c x) (.c (.agg [(.int .i64 x21_0), (.str x21_1), (.int .i64 x21_2), (.int .i64 x21_3), (.str x21_4), (.str x21_5), (.str x21_6), x21_7]))) h_6) fun u h_7 =>
bind2 (ev (.store 8 (.c y) (.c (.agg [(.int .i64 x23_0), (.str x23_1), (.int .i64 x23_2), (.int .i64 x23_3), (.str x23_4), (.str x23_5), (.str x23_6), x23_7]))) h_7) fun u1 h_8 =>
bind3 (S9_0 lf a8 b8 x y h_8) fun ex1 vs1 h_9 =>
cB (decide (ex1 = .ret)) (
castCons vs1 fun c28 l36 =>
castBool c28 fun x4 =>
castNil l36 (
some (Q (.bool x4) h_9))) (
none)))))))))
noncomputable def A9_8 (lf : Nat) (Q : V → List Ob → Prop) (a8 b8 : V) (h_2 : List Ob) : Option Prop :=
bind1 (er (.loadN 8 (.c a8)) h_2) fun v =>
castAgg v fun l =>
castCons l fun c l1 =>
castInt .i64 c fun x20_0 =>
castCons l1 fun c1 l2 =>
castStr c1 fun x20_1 =>
castCons l2 fun c2 l3 =>
castInt .i64 c2 fun x20_2 =>
castCons l3 fun c3 l4 =>
castInt .i64 c3 fun x20_3 =>
castCons l4 fun c4 l5 =>
castStr c4 fun x20_4 =>
castCons l5 fun c5 l6 =>
castStr c5 fun x20_5 =>
castCons l6 fun c6 l7 =>
castStr c6 fun x20_6 =>
castCons l7 fun x20_7 l8 =>
castNil l8 (
bind1 (er (.loadN 8 (.c b8)) h_2) fun v1 =>
castAgg v1 fun l9 =>
castCons l9 fun c7 l10 =>
castInt .i64 c7 fun x22_0 =>
castCons l10 fun c8 l11 =>
castStr c8 fun x22_1 =>
castCons l11 fun c9 l12 =>
castInt .i64 c9 fun x22_2 =>
castCons l12 fun c10 l13 =>
castInt .i64 c10 fun x22_3 =>
castCons l13 fun c11 l14 =>
castStr c11 fun x22_4 =>
castCons l14 fun c12 l15 =>
castStr c12 fun x22_5 =>
castCons l15 fun c13 l16 =>
castStr c13 fun x22_6 =>
castCons l16 fun x22_7 l17 =>
castNil l17 (
bind2 (ev (.alloc false (.agg [(.int .i64 0), (.str []), (.int .i64 0), (.int .i64 0), (.str []), (.str []), (.str []), .nils])) h_2) fun x h_3 =>
reP (er (.loadN 8 (.c b8)) h_3 = some (.agg [(.int .i64 x22_0), (.str x22_1), (.int .i64 x22_2), (.int .i64 x22_3), (.str x22_4), (.str x22_5), (.str x22_6), x22_7])) (
reP (er (.loadN 8 (.c a8)) h_3 = some (.agg [(.int .i64 x20_0), (.str x20_1), (.int .i64 x20_2), (.int .i64 x20_3), (.str x20_4), (.str x20_5), (.str x20_6), x20_7])) (
bind2 (ev (.alloc false (.agg [(.int .i64 0), (.str []), (.int .i64 0), (.int .i64 0), (.str []), (.str []), (.str []), .nils])) h_3) fun y h_4 =>
reP (er (.loadN 8 (.c b8)) h_4 = some (.agg [(.int .i64 x22_0), (.str x22_1), (.int .i64 x22_2), (.int .i64 x22_3), (.str x22_4), (.str x22_5), (.str x22_6), x22_7])) (
reP (er (.loadN 8 (.c a8)) h_4 = some (.agg [(.int .i64 x20_0), (.str x20_1), (.int .i64 x20_2), (.int .i64 x20_3), (.str x20_4), (.str x20_5), (.str x20_6), x20_7])) (
bind2 (F45 lf (R45 lf lf) x20_0 x20_1 x20_2 x20_3 x20_4 x20_5 x20_6 x20_7 h_4) fun v2 h_5 =>
castAgg v2 fun l18 =>
castCons l18 fun c14 l19 =>
castInt .i64 c14 fun x21_0 =>
castCons l19 fun c15 l20 =>
castStr c15 fun x21_1 =>
castCons l20 fun c16 l21 =>
castInt .i64 c16 fun x21_2 =>
castCons l21 fun c17 l22 =>
castInt .i64 c17 fun x21_3 =>
castCons l22 fun c18 l23 =>
castStr c18 fun x21_4 =>
castCons l23 fun c19 l24 =>
castStr c19 fun x21_5 =>
castCons l24 fun c20 l25 =>
castStr c20 fun x21_6 =>
castCons l25 fun x21_7 l26 =>
castNil l26 (
reP (er (.loadN 8 (.c b8)) h_5 = some (.agg [(.int .i64 x22_0), (.str x22_1), (.int .i64 x22_2), (.int .i64 x22_3), (.str x22_4), (.str x22_5), (.str x22_6), x22_7])) (
bind2 (F45 lf (R45 lf lf) x22_0 x22_1 x22_2 x22_3 x22_4 x22_5 x22_6 x22_7 h_5) fun v3 h_6 =>
castAgg v3 fun l27 =>
castCons l27 fun c21 l28 =>
castInt .i64 c21 fun x23_0 =>
castCons l28 fun c22 l29 =>
castStr c22 fun x23_1 =>
castCons l29 fun c23 l30 =>
castInt .i64 c23 fun x23_2 =>
castCons l30 fun c24 l31 =>
castInt .i64 c24 fun x23_3 =>
castCons l31 fun c25 l32 =>
castStr c25 fun x23_4 =>
castCons l32 fun c26 l33 =>
castStr c26 fun x23_5 =>
castCons l33 fun c27 l34 =>
castStr c27 fun x23_6 =>
castCons l34 fun x23_7 l35 =>
castNil l35 (
bind2 (ev (.store 8 (.c x) (.c (.agg [(.int .i64 x21_0), (.str x21_1), (.int .i64 x21_2), (.int .i64 x21_3), (.str x21_4), (.str x21_5), (.str x21_6), x21_7]))) h_6) fun u h_7 =>
bind2 (ev (.store 8 (.c y) (.c (.agg [(.int .i64 x23_0), (.str x23_1), (.int .i64 x23_2), (.int .i64 x23_3), (.str x23_4), (.str x23_5), (.str x23_6), x23_7]))) h_7) fun u1 h_8 =>
bind3 (S9_0 lf a8 b8 x y h_8) fun ex1 vs1 h_9 =>
cB (decide (ex1 = .ret)) (
castCons vs1 fun c28 l36 =>
castBool c28 fun x4 =>
castNil l36 (
some (Q (.bool x4) h_9))) (
none))))))))))
noncomputable def A9_9 (lf : Nat) (Q : V → List Ob → Prop) (a8 b8 : V) (h_2 : List Ob) : Option Prop :=
bind1 (er (.loadN 8 (.c a8)) h_2) fun v =>
castAgg v fun l =>
castCons l fun c l1 =>
castInt .i64 c fun x20_0 =>
castCons l1 fun c1 l2 =>
castStr c1 fun x20_1 =>
castCons l2 fun c2 l3 =>
castInt .i64 c2 fun x20_2 =>
castCons l3 fun c3 l4 =>
castInt .i64 c3 fun x20_3 =>
castCons l4 fun c4 l5 =>
castStr c4 fun x20_4 =>
castCons l5 fun c5 l6 =>
castStr c5 fun x20_5 =>
castCons l6 fun c6 l7 =>
castStr c6 fun x20_6 =>
castCons l7 fun x20_7 l8 =>
castNil l8 (
bind1 (er (.loadN 8 (.c b8)) h_2) fun v1 =>
castAgg v1 fun l9 =>
castCons l9 fun c7 l10 =>
castInt .i64 c7 fun x22_0 =>
castCons l10 fun c8 l11 =>
castStr c8 fun x22_1 =>
castCons l11 fun c9 l12 =>
castInt .i64 c9 fun x22_2 =>
castCons l12 fun c10 l13 =>
castInt .i64 c10 fun x22_3 =>
castCons l13 fun c11 l14 =>
castStr c11 fun x22_4 =>
castCons l14 fun c12 l15 =>
castStr c12 fun x22_5 =>
castCons l15 fun c13 l16 =>
castStr c13 fun x22_6 =>
castCons l16 fun x22_7 l17 =>
castNil l17 (
bind2 (ev (.alloc false (.agg [(.int .i64 0), (.str []), (.int .i64 0), (.int .i64 0), (.str []), (.str []), (.str []), .nils])) h_2) fun y h_3 =>
reP (er (.loadN 8 (.c b8)) h_3 = some (.agg [(.int .i64 x22_0), (.str x22_1), (.int .i64 x22_2), (.int .i64 x22_3), (.str x22_4), (.str x22_5), (.str x22_6), x22_7])) (
reP (er (.loadN 8 (.c a8)) h_3 = some (.agg [(.int .i64 x20_0), (.str x20_1), (.int .i64 x20_2), (.int .i64 x20_3), (.str x20_4), (.str x20_5), (.str x20_6), x20_7])) (
bind2 (F45 lf (R45 lf lf) x20_0 x20_1 x20_2 x20_3 x20_4 x20_5 x20_6 x20_7 h_3) fun v2 h_4 =>
castAgg v2 fun l18 =>
castCons l18 fun c14 l19 =>
castInt .i64 c14 fun x21_0 =>
castCons l19 fun c15 l20 =>
castStr c15 fun x21_1 =>
castCons l20 fun c16 l21 =>
castInt .i64 c16 fun x21_2 =>
castCons l21 fun c17 l22 =>
castInt .i64 c17 fun x21_3 =>
castCons l22 fun c18 l23 =>
castStr c18 fun x21_4 =>
castCons l23 fun c19 l24 =>
castStr c19 fun x21_5 =>
castCons l24 fun c20 l25 =>
castStr c20 fun x21_6 =>
castCons l25 fun x21_7 l26 =>
castNil l26 (
reP (er (.loadN 8 (.c b8)) h_4 = some (.agg [(.int .i64 x22_0), (.str x22_1), (.int .i64 x22_2), (.int .i64 x22_3), (.str x22_4), (.str x22_5), (.str x22_6), x22_7])) (
bind2 (F45 lf (R45 lf lf) x22_0 x22_1 x22_2 x22_3 x22_4 x22_5 x22_6 x22_7 h_4) fun v3 h_5 =>
castAgg v3 fun l27 =>
castCons l27 fun c21 l28 =>
castInt .i64 c21 fun x23_0 =>
castCons l28 fun c22 l29 =>
castStr c22 fun x23_1 =>
castCons l29 fun c23 l30 =>
castInt .i64 c23 fun x23_2 =>
castCons l30 fun c24 l31 =>
castInt .i64 c24 fun x23_3 =>
castCons l31 fun c25 l32 =>
castStr c25 fun x23_4 =>
castCons l32 fun c26 l33 =>
castStr c26 fun x23_5 =>
castCons l33 fun c27 l34 =>
castStr c27 fun x23_6 =>
castCons l34 fun x23_7 l35 =>
castNil l35 (
bind2 (ev (.alloc false (.agg [(.int .i64 0), (.str []), (.int .i64 0), (.int .i64 0), (.str []), (.str []), (.str []), .nils])) h_5) fun x h_6 =>
bind2 (ev (.store 8 (.c x) (.c (.agg [(.int .i64 x21_0), (.str x21_1), (.int .i64 x21_2), (.int .i64 x21_3), (.str x21_4), (.str x21_5), (.str x21_6), x21_7]))) h_6) fun u h_7 =>
bind2 (ev (.store 8 (.c y) (.c (.agg [(.int .i64 x23_0), (.str x23_1), (.int .i64 x23_2), (.int .i64 x23_3), (.str x23_4), (.str x23_5), (.str x23_6), x23_7]))) h_7) fun u1 h_8 =>
bind3 (S9_0 lf a8 b8 x y h_8) fun ex1 vs1 h_9 =>
cB (decide (ex1 = .ret)) (
castCons vs1 fun c28 l36 =>
castBool c28 fun x4 =>
castNil l36 (
some (Q (.bool x4) h_9))) (
none))))))))
noncomputable def A9_10 (lf : Nat) (Q : V → List Ob → Prop) (a8 b8 : V) (h_2 : List Ob) : Option Prop :=
bind1 (er (.loadN 8 (.c a8)) h_2) fun v =>
castAgg v fun l =>
castCons l fun c l1 =>
castInt .i64 c fun x20_0 =>
castCons l1 fun c1 l2 =>
castStr c1 fun x20_1 =>
castCons l2 fun c2 l3 =>
castInt .i64 c2 fun x20_2 =>
castCons l3 fun c3 l4 =>
castInt .i64 c3 fun x20_3 =>
castCons l4 fun c4 l5 =>
castStr c4 fun x20_4 =>
castCons l5 fun c5 l6 =>
castStr c5 fun x20_5 =>
castCons l6 fun c6 l7 =>
castStr c6 fun x20_6 =>
castCons l7 fun x20_7 l8 =>
castNil l8 (
bind1 (er (.loadN 8 (.c b8)) h_2) fun v1 =>
castAgg v1 fun l9 =>
castCons l9 fun c7 l10 =>
castInt .i64 c7 fun x22_0 =>
castCons l10 fun c8 l11 =>
castStr c8 fun x22_1 =>
castCons l11 fun c9 l12 =>
castInt .i64 c9 fun x22_2 =>
castCons l12 fun c10 l13 =>
castInt .i64 c10 fun x22_3 =>
castCons l13 fun c11 l14 =>
castStr c11 fun x22_4 =>
castCons l14 fun c12 l15 =>
castStr c12 fun x22_5 =>
castCons l15 fun c13 l16 =>
castStr c13 fun x22_6 =>
castCons l16 fun x22_7 l17 =>
castNil l17 (
bind2 (ev (.alloc false (.agg [(.int .i64 0), (.str []), (.int .i64 0), (.int .i64 0), (.str []), (.str []), (.str []), .nils])) h_2) fun y h_3 =>
reP (er (.loadN 8 (.c b8)) h_3 = some (.agg [(.int .i64 x22_0), (.str x22_1), (.int .i64 x22_2), (.int .i64 x22_3), (.str x22_4), (.str x22_5), (.str x22_6), x22_7])) (
reP (er (.loadN 8 (.c a8)) h_3 = some (.agg [(.int .i64 x20_0), (.str x20_1), (.int .i64 x20_2), (.int .i64 x20_3), (.str x20_4), (.str x20_5), (.str x20_6), x20_7])) (
bind2 (F45 lf (R45 lf lf) x20_0 x20_1 x20_2 x20_3 x20_4 x20_5 x20_6 x20_7 h_3) fun v2 h_4 =>
castAgg v2 fun l18 =>
castCons l18 fun c14 l19 =>
castInt .i64 c14 fun x21_0 =>
castCons l19 fun c15 l20 =>
castStr c15 fun x21_1 =>
castCons l20 fun c16 l21 =>
castInt .i64 c16 fun x21_2 =>
castCons l21 fun c17 l22 =>
castInt .i64 c17 fun x21_3 =>
castCons l22 fun c18 l23 =>
castStr c18 fun x21_4 =>
castCons l23 fun c19 l24 =>
castStr c19 fun x21_5 =>
castCons l24 fun c20 l25 =>
castStr c20 fun x21_6 =>
castCons l25 fun x21_7 l26 =>
castNil l26 (
reP (er (.loadN 8 (.c b8)) h_4 = some (.agg [(.int .i64 x22_0), (.str x22_1), (.int .i64 x22_2), (.int .i64 x22_3), (.str x22_4), (.str x22_5), (.str x22_6), x22_7])) (
bind2 (ev (.alloc false (.agg [(.int .i64 0), (.str []), (.int .i64 0), (.int .i64 0), (.str []), (.str []), (.str []), .nils])) h_4) fun x h_5 =>
reP (er (.loadN 8 (.c b8)) h_5 = some (.agg [(.int .i64 x22_0), (.str x22_1), (.int .i64 x22_2), (.int .i64 x22_3), (.str x22_4), (.str x22_5), (.str x22_6), x22_7])) (
bind2 (F45 lf (R45 lf lf) x22_0 x22_1 x22_2 x22_3 x22_4 x22_5 x22_6 x22_7 h_5) fun v3 h_6 =>
castAgg v3 fun l27 =>
castCons l27 fun c21 l28 =>
castInt .i64 c21 fun x23_0 =>
castCons l28 fun c22 l29 =>
castStr c22 fun x23_1 =>
castCons l29 fun c23 l30 =>
castInt .i64 c23 fun x23_2 =>
castCons l30 fun c24 l31 =>
castInt .i64 c24 fun x23_3 =>
castCons l31 fun c25 l32 =>
castStr c25 fun x23_4 =>
castCons l32 fun c26 l33 =>
castStr c26 fun x23_5 =>
castCons l33 fun c27 l34 =>
castStr c27 fun x23_6 =>
castCons l34 fun x23_7 l35 =>
castNil l35 (
bind2 (ev (.store 8 (.c x) (.c (.agg [(.int .i64 x21_0), (.str x21_1), (.int .i64 x21_2), (.int .i64 x21_3), (.str x21_4), (.str x21_5), (.str x21_6), x21_7]))) h_6) fun u h_7 =>
bind2 (ev (.store 8 (.c y) (.c (.agg [(.int .i64 x23_0), (.str x23_1), (.int .i64 x23_2), (.int .i64 x23_3), (.str x23_4), (.str x23_5), (.str x23_6), x23_7]))) h_7) fun u1 h_8 =>
bind3 (S9_0 lf a8 b8 x y h_8) fun ex1 vs1 h_9 =>
cB (decide (ex1 = .ret)) (
castCons vs1 fun c28 l36 =>
castBool c28 fun x4 =>
castNil l36 (
some (Q (.bool x4) h_9))) (
none)))))))))
noncomputable def A9_11 (lf : Nat) (Q : V → List Ob → Prop) (a8 b8 : V) (h_2 : List Ob) : Option Prop :=
bind1 (er (.loadN 8 (.c a8)) h_2) fun v =>
castAgg v fun l =>
castCons l fun c l1 =>
castInt .i64 c fun x20_0 =>
castCons l1 fun c1 l2 =>
castStr c1 fun x20_1 =>
castCons l2 fun c2 l3 =>
castInt .i64 c2 fun x20_2 =>
castCons l3 fun c3 l4 =>
castInt .i64 c3 fun x20_3 =>
castCons l4 fun c4 l5 =>
castStr c4 fun x20_4 =>
castCons l5 fun c5 l6 =>
castStr c5 fun x20_5 =>
castCons l6 fun c6 l7 =>
castStr c6 fun x20_6 =>
castCons l7 fun x20_7 l8 =>
castNil l8 (
bind1 (er (.loadN 8 (.c b8)) h_2) fun v1 =>
castAgg v1 fun l9 =>
castCons l9 fun c7 l10 =>
castInt .i64 c7 fun x22_0 =>
castCons l10 fun c8 l11 =>
castStr c8 fun x22_1 =>
castCons l11 fun c9 l12 =>
castInt .i64 c9 fun x22_2 =>
castCons l12 fun c10 l13 =>
castInt .i64 c10 fun x22_3 =>
castCons l13 fun c11 l14 =>
castStr c11 fun x22_4 =>
castCons l14 fun c12 l15 =>
castStr c12 fun x22_5 =>
castCons l15 fun c13 l16 =>
castStr c13 fun x22_6 =>
castCons l16 fun x22_7 l17 =>
castNil l17 (
bind2 (ev (.alloc false (.agg [(.int .i64 0), (.str []), (.int .i64 0), (.int .i64 0), (.str []), (.str []), (.str []), .nils])) h_2) fun y h_3 =>
reP (er (.loadN 8 (.c b8)) h_3 = some (.agg [(.int .i64 x22_0), (.str x22_1), (.int .i64 x22_2), (.int .i64 x22_3), (.str x22_4), (.str x22_5), (.str x22_6), x22_7])) (
reP (er (.loadN 8 (.c a8)) h_3 = some (.agg [(.int .i64 x20_0), (.str x20_1), (.int .i64 x20_2), (.int .i64 x20_3), (.str x20_4), (.str x20_5), (.str x20_6), x20_7])) (
bind2 (ev (.alloc false (.agg [(.int .i64 0), (.str []), (.int .i64 0), (.int .i64 0), (.str []), (.str []), (.str []), .nils])) h_3) fun x h_4 =>
reP (er (.loadN 8 (.c b8)) h_4 = some (.agg [(.int .i64 x22_0), (.str x22_1), (.int .i64 x22_2), (.int .i64 x22_3), (.str x22_4), (.str x22_5), (.str x22_6), x22_7])) (
reP (er (.loadN 8 (.c a8)) h_4 = some (.agg [(.int .i64 x20_0), (.str x20_1), (.int .i64 x20_2), (.int .i64 x20_3), (.str x20_4), (.str x20_5), (.str x20_6), x20_7])) (
bind2 (F45 lf (R45 lf lf) x20_0 x20_1 x20_2 x20_3 x20_4 x20_5 x20_6 x20_7 h_4) fun v2 h_5 =>
castAgg v2 fun l18 =>
castCons l18 fun c14 l19 =>
castInt .i64 c14 fun x21_0 =>
castCons l19 fun c15 l20 =>
castStr c15 fun x21_1 =>
castCons l20 fun c16 l21 =>
castInt .i64 c16 fun x21_2 =>
castCons l21 fun c17 l22 =>
castInt .i64 c17 fun x21_3 =>
castCons l22 fun c18 l23 =>
castStr c18 fun x21_4 =>
castCons l23 fun c19 l24 =>
castStr c19 fun x21_5 =>
castCons l24 fun c20 l25 =>
castStr c20 fun x21_6 =>
castCons l25 fun x21_7 l26 =>
castNil l26 (
reP (er (.loadN 8 (.c b8)) h_5 = some (.agg [(.int .i64 x22_0), (.str x22_1), (.int .i64 x22_2), (.int .i64 x22_3), (.str x22_4), (.str x22_5), (.str x22_6), x22_7])) (
bind2 (F45 lf (R45 lf lf) x22_0 x22_1 x22_2 x22_3 x22_4 x22_5 x22_6 x22_7 h_5) fun v3 h_6 =>
castAgg v3 fun l27 =>
castCons l27 fun c21 l28 =>
castInt .i64 c21 fun x23_0 =>
castCons l28 fun c22 l29 =>
castStr c22 fun x23_1 =>
castCons l29 fun c23 l30 =>
castInt .i64 c23 fun x23_2 =>
castCons l30 fun c24 l31 =>
castInt .i64 c24 fun x23_3 =>
castCons l31 fun c25 l32 =>
castStr c25 fun x23_4 =>
castCons l32 fun c26 l33 =>
castStr c26 fun x23_5 =>
castCons l33 fun c27 l34 =>
castStr c27 fun x23_6 =>
castCons l34 fun x23_7 l35 =>
castNil l35 (
bind2 (ev (.store 8 (.c x) (.c (.agg [(.int .i64 x21_0), (.str x21_1), (.int .i64 x21_2), (.int .i64 x21_3), (.str x21_4), (.str x21_5), (.str x21_6), x21_7]))) h_6) fun u h_7 =>
bind2 (ev (.store 8 (.c y) (.c (.agg [(.int .i64 x23_0), (.str x23_1), (.int .i64 x23_2), (.int .i64 x23_3), (.str x23_4), (.str x23_5), (.str x23_6), x23_7]))) h_7) fun u1 h_8 =>
bind3 (S9_0 lf a8 b8 x y h_8) fun ex1 vs1 h_9 =>
cB (decide (ex1 = .ret)) (
castCons vs1 fun c28 l36 =>
castBool c28 fun x4 =>
castNil l36 (
some (Q (.bool x4) h_9))) (
none))))))))))
noncomputable def F9 (lf : Nat) (Q : V → List Ob → Prop) (a : Int) (a1 : List UInt8) (a2 : Int) (a3 : Int) (a4 : List UInt8) (a5 : List UInt8) (a6 : List UInt8) (a7 : V) (b : Int) (b1 : List UInt8) (b2 : Int) (b3 : Int) (b4 : List UInt8) (b5 : List UInt8) (b6 : List UInt8) (b7 : V) (h : List Ob) : Option Prop :=
bind2 (ev (.box false (.c (.agg [(.int .i64 a), (.str a1), (.int .i64 a2), (.int .i64 a3), (.str a4), (.str a5), (.str a6), a7]))) h) fun a8 h_ =>
bind2 (ev (.box false (.c (.agg [(.int .i64 b), (.str b1), (.int .i64 b2), (.int .i64 b3), (.str b4), (.str b5), (.str b6), b7]))) h_) fun b8 h_1 =>
bind3 (S9_1 lf a8 b8 h_1) fun ex vs h_2 =>
cB (decide (ex = .ret)) (
castCons vs fun c l =>
castBool c fun x4 =>
castNil l (
some (Q (.bool x4) h_2))) (
cB (decide (ex = .normal)) (
castNil vs (
andO (A9_0 lf Q a8 b8 h_2) (andO (A9_1 lf Q a8 b8 h_2) (andO (A9_2 lf Q a8 b8 h_2) (andO (A9_3 lf Q a8 b8 h_2) (andO (A9_4 lf Q a8 b8 h_2) (andO (A9_5 lf Q a8 b8 h_2) (andO (A9_6 lf Q a8 b8 h_2) (andO (A9_7 lf Q a8 b8 h_2) (andO (A9_8 lf Q a8 b8 h_2) (andO (A9_9 lf Q a8 b8 h_2) (andO (A9_10 lf Q a8 b8 h_2) (andO (A9_11 lf Q a8 b8 h_2) (some True)))))))))))))) (
none))
theorem F9_eq (lf : Nat) (Q : V → List Ob → Prop) (a : Int) (a1 : List UInt8) (a2 : Int) (a3 : Int) (a4 : List UInt8) (a5 : List UInt8) (a6 : List UInt8) (a7 : V) (b : Int) (b1 : List UInt8) (b2 : Int) (b3 : Int) (b4 : List UInt8) (b5 : List UInt8) (b6 : List UInt8) (b7 : V) (h : List Ob) : evCL A9 ⟨call9 lf, cvN, subC 0 (w9_0 (S9_0 lf)) (subC 1 (w9_1 (S9_1 lf)) (subN))⟩ k9 (entryK [(.agg [(.int .i64 a), (.str a1), (.int .i64 a2), (.int .i64 a3), (.str a4), (.str a5), (.str a6), a7]), (.agg [(.int .i64 b), (.str b1), (.int .i64 b2), (.int .i64 b3), (.str b4), (.str b5), (.str b6), b7])]) h (endFP Q c9.res) = F9 lf Q a a1 a2 a3 a4 a5 a6 a7 b b1 b2 b3 b4 b5 b6 b7 h := by kernel_rfl
theorem F9_ok (lf : Nat) (Q : V → List Ob → Prop) (a : Int) (a1 : List UInt8) (a2 : Int) (a3 : Int) (a4 : List UInt8) (a5 : List UInt8) (a6 : List UInt8) (a7 : V) (b : Int) (b1 : List UInt8) (b2 : Int) (b3 : Int) (b4 : List UInt8) (b5 : List UInt8) (b6 : List UInt8) (b7 : V) (h : List Ob) (p_ : Prop) (e_ : F9 lf Q a a1 a2 a3 a4 a5 a6 a7 b b1 b2 b3 b4 b5 b6 b7 h = some p_) (hp_ : p_) : CE Go.Proofs.Try.prog 9 [(.agg [(.int .i64 a), (.str a1), (.int .i64 a2), (.int .i64 a3), (.str a4), (.str a5), (.str a6), a7]), (.agg [(.int .i64 b), (.str b1), (.int .i64 b2), (.int .i64 b3), (.str b4), (.str b5), (.str b6), b7])] h Q :=
  CE.ofL (A := A9) (σ := ⟨call9 lf, cvN, subC 0 (w9_0 (S9_0 lf)) (subC 1 (w9_1 (S9_1 lf)) (subN))⟩) (c := k9) Go.Proofs.Try.func9 ok9 (show 2 ≤ 43 by decide) (by kernel_rfl) (call9_ok lf) cvN_ok (And.intro True.intro (And.intro (S9_1_ok lf) (And.intro True.intro (S9_0_ok lf)))) ((F9_eq lf Q a a1 a2 a3 a4 a5 a6 a7 b b1 b2 b3 b4 b5 b6 b7 h).trans e_) hp_

end Go.Proofs.Ytbjphicipgneaaa.Ex
