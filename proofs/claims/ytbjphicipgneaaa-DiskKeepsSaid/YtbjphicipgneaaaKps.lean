/- Functions of the program as Lean functions, and that each call comes to what its function says. Printed by my own tool. No condition. -/
import Derived.Test.YtbjphicipgneaaaKp
import Derived.Test.YtbjphicipgneaaaL3
import Derived.Test.YtbjphicipgneaaaDks
namespace Go.Proofs.Ytbjphicipgneaaa.Kp
open Go Go.Proofs.Ytbjphicipgneaaa.E
open Go.Proofs.Ytbjphicipgneaaa.Dk
set_option maxRecDepth 100000
set_option linter.unusedVariables false
set_option linter.unusedSimpArgs false

/-! 53: (*wainscot/disk.file).settle -/
def A53 : List (Nat × Sh) := []
noncomputable def call53 (lf : Nat) : CallS := callC 52 (W52 lf) (callN)
theorem call53_ok (lf : Nat) : CallOk Go.Proofs.Try.prog (call53 lf) := callC_ok (W52_ok lf) (callN_ok)
def k53 : KC := (.reg [⟨(some 2), none, (.op (.mv (.t 0))), []⟩, ⟨(some 3), none, (.op (.mv (.t 0))), []⟩, ⟨(some 4), none, (.op (.mv (.t 0))), []⟩, ⟨(some 5), none, (.op (.nilck (.t 4))), []⟩, ⟨(some 6), none, (.op (.faddr 0 (.t 5))), []⟩, ⟨(some 7), none, (.op (.load1 (.t 6))), []⟩, ⟨(some 8), none, (.call 52 [(.t 7)]), []⟩, ⟨(some 9), none, (.op (.nilck (.t 2))), []⟩, ⟨(some 10), none, (.op (.faddr 1 (.t 9))), []⟩, ⟨none, none, (.op (.store 1 (.t 10) (.t 8))), []⟩, ⟨(some 11), none, (.op (.nilck (.t 3))), []⟩, ⟨(some 12), none, (.op (.faddr 2 (.t 11))), []⟩, ⟨none, none, (.op (.store 1 (.t 12) (.c .nilm))), []⟩])
noncomputable def F53 (lf : Nat) (f : V) (h : List Ob) : Option (V × List Ob) :=
bind1 (er (.nilck (.c f)) h) fun x5 =>
bind1 (er (.faddr 0 (.c x5)) h) fun x6 =>
bind1 (er (.load1 (.c x6)) h) fun x7 =>
bind2 (F52 lf x7 h) fun x8 h_ =>
bind1 (er (.nilck (.c f)) h_) fun x9 =>
bind1 (er (.faddr 1 (.c x9)) h_) fun x10 =>
bind2 (ev (.store 1 (.c x10) (.c x8)) h_) fun u h_1 =>
bind1 (er (.nilck (.c f)) h_1) fun x11 =>
bind1 (er (.faddr 2 (.c x11)) h_1) fun x12 =>
bind2 (ev (.store 1 (.c x12) (.c V.nilm)) h_1) fun u1 h_2 =>
some ((.tup []), h_2)
theorem F53_eq (lf : Nat) (f : V) (h : List Ob) : evCK A53 ⟨call53 lf, cvN, subN⟩ k53 (entryK [f]) h (endF c53.res) = F53 lf f h := by kernel_rfl
theorem F53_ok (lf : Nat) (f : V) (h : List Ob) (r_ : V) (h_r : List Ob) (e_ : F53 lf f h = some (r_, h_r)) : CD Go.Proofs.Try.prog 53 [f] h r_ h_r :=
  CD.ofK (A := A53) (σ := ⟨call53 lf, cvN, subN⟩) (c := k53) Go.Proofs.Try.func53 ok53 en53 (show 1 ≤ 13 by decide) (by kernel_rfl) (call53_ok lf) cvN_ok True.intro ((F53_eq lf f h).trans e_)
def w53 (f : V → List Ob → Option (V × List Ob)) (vs : List V) (h : List Ob) : Option (V × List Ob) := castCons vs fun c1 l1 => castNil l1 (f c1 h)
noncomputable def W53 (lf : Nat) : List V → List Ob → Option (V × List Ob) := w53 (F53 lf)
theorem W53_ok (lf : Nat) : ∀ args h v h', W53 lf args h = some (v, h') → CD Go.Proofs.Try.prog 53 args h v h' := by
  intro vs h r h' e0
  simp only [W53, w53] at e0
  obtain ⟨c1, l1, rfl, e1⟩ := castCons_inv e0
  obtain ⟨rfl, e2⟩ := castNil_inv e1
  have e := e2
  exact F53_ok lf c1 h r h' e

/-! 18: (*wainscot/disk.Disk).Sync -/
def A18 : List (Nat × Sh) := [(1, (.int .i64)), (4, (.int .i64)), (6, (.int .i64)), (7, (.tup [.any, (.int .i64)])), (9, (.int .i64)), (10, (.tup [.any, (.int .i64)])), (12, (.int .i64)), (13, (.int .i64)), (14, .bool), (15, (.int .i64)), (17, (.int .i64)), (18, (.int .i64)), (19, .bool), (22, (.int .i64))]
noncomputable def call18 (lf : Nat) : CallS := callC 53 (W53 lf) (callC 51 (W51 lf) (callC 50 (W50 lf) (callN)))
theorem call18_ok (lf : Nat) : CallOk Go.Proofs.Try.prog (call18 lf) := callC_ok (W53_ok lf) (callC_ok (W51_ok lf) (callC_ok (W50_ok lf) (callN_ok)))
def k18 : KC := (.seq (.reg [⟨(some 4), none, (.op (.mv (.c (.int .i64 0)))), []⟩]) (.seq (.reg [⟨(some 8), none, (.op (.mv (.t 0))), []⟩, ⟨(some 9), none, (.op (.mv (.t 1))), []⟩, ⟨(some 10), none, (.call 50 [(.t 8), (.t 9)]), []⟩, ⟨(some 7), none, (.op (.mv (.t 10))), []⟩, ⟨(some 11), none, (.op (.ext 0 (.t 7))), []⟩, ⟨(some 12), none, (.op (.ext 1 (.t 7))), []⟩, ⟨(some 5), none, (.op (.mv (.t 11))), []⟩, ⟨(some 6), none, (.op (.mv (.t 12))), []⟩]) (.seq (.seq (.reg [⟨(some 13), none, (.op (.mv (.t 6))), []⟩, ⟨(some 14), none, (.op (.bin .neq (.t 13) (.c (.int .i64 0)))), []⟩]) (.cond (.t 14) (.seq (.reg [⟨(some 15), none, (.op (.mv (.t 6))), []⟩, ⟨(some 4), none, (.op (.mv (.t 15))), []⟩]) .ret) .skip)) (.seq (.seq (.reg [⟨(some 16), none, (.op (.mv (.t 0))), []⟩, ⟨(some 17), none, (.call 51 [(.t 16)]), []⟩, ⟨(some 6), none, (.op (.mv (.t 17))), []⟩]) (.seq (.reg [⟨(some 18), none, (.op (.mv (.t 6))), []⟩, ⟨(some 19), none, (.op (.bin .eql (.t 18) (.c (.int .i64 0)))), []⟩]) (.cond (.t 19) (.reg [⟨(some 20), none, (.op (.mv (.t 5))), []⟩, ⟨(some 21), none, (.call 53 [(.t 20)]), []⟩]) .skip))) (.seq (.reg [⟨(some 22), none, (.op (.mv (.t 6))), []⟩, ⟨(some 4), none, (.op (.mv (.t 22))), []⟩]) .ret)))))
noncomputable def F18 (lf : Nat) (d : V) (n_ : Int) (h : List Ob) : Option (V × List Ob) :=
bind2 (F50 lf d n_ h) fun v h_ =>
castTup v fun l =>
castCons l fun x10_0 l1 =>
castCons l1 fun c l2 =>
castInt .i64 c fun x10_1 =>
castNil l2 (
cB (x10_1 != (0)) (
some ((.int .i64 x10_1), h_)) (
bind2 (F51 lf d h_) fun v1 h_1 =>
castInt .i64 v1 fun x17 =>
cB (x17 == (0)) (
bind2 (F53 lf x10_0 h_1) fun x21 h_2 =>
some ((.int .i64 x17), h_2)) (
some ((.int .i64 x17), h_1))))
theorem F18_eq (lf : Nat) (d : V) (n_ : Int) (h : List Ob) : evCK A18 ⟨call18 lf, cvN, subN⟩ k18 (entryK [d, (.int .i64 n_)]) h (endF c18.res) = F18 lf d n_ h := by kernel_rfl
theorem F18_ok (lf : Nat) (d : V) (n_ : Int) (h : List Ob) (r_ : V) (h_r : List Ob) (e_ : F18 lf d n_ h = some (r_, h_r)) : CD Go.Proofs.Try.prog 18 [d, (.int .i64 n_)] h r_ h_r :=
  CD.ofK (A := A18) (σ := ⟨call18 lf, cvN, subN⟩) (c := k18) Go.Proofs.Try.func18 ok18 en18 (show 2 ≤ 23 by decide) (by kernel_rfl) (call18_ok lf) cvN_ok (And.intro True.intro (And.intro True.intro (And.intro (And.intro True.intro (And.intro (And.intro True.intro True.intro) True.intro)) (And.intro (And.intro True.intro (And.intro True.intro (And.intro True.intro True.intro))) (And.intro True.intro True.intro))))) ((F18_eq lf d n_ h).trans e_)
def w18 (f : V → Int → List Ob → Option (V × List Ob)) (vs : List V) (h : List Ob) : Option (V × List Ob) := castCons vs fun c1 l1 => castCons l1 fun c2 l2 => castInt .i64 c2 fun n3 => castNil l2 (f c1 n3 h)
noncomputable def W18 (lf : Nat) : List V → List Ob → Option (V × List Ob) := w18 (F18 lf)
theorem W18_ok (lf : Nat) : ∀ args h v h', W18 lf args h = some (v, h') → CD Go.Proofs.Try.prog 18 args h v h' := by
  intro vs h r h' e0
  simp only [W18, w18] at e0
  obtain ⟨c1, l1, rfl, e1⟩ := castCons_inv e0
  obtain ⟨c2, l2, rfl, e2⟩ := castCons_inv e1
  obtain ⟨y1, rfl, e3⟩ := castInt_inv e2
  obtain ⟨rfl, e4⟩ := castNil_inv e3
  have e := e4
  exact F18_ok lf c1 y1 h r h' e

/-! 54: (*wainscot/disk.file).crash -/
def A54 : List (Nat × Sh) := [(4, (.int .i64)), (5, (.int .i64)), (7, (.int .i64)), (8, (.int .i64)), (9, (.int .i64)), (11, (.int .i64)), (16, (.int .i64)), (17, (.int .i64)), (22, (.int .i64)), (23, .bool), (24, (.int .i64)), (25, (.int .i64)), (30, (.int .i64)), (31, .bool), (32, .bool), (34, (.int .i64)), (35, (.int .i64)), (36, (.int .i64)), (37, (.int .i64)), (38, (.int .i64)), (39, .bool), (40, (.int .i64)), (41, (.int .i64)), (46, (.int .i64)), (47, (.int .i64)), (48, (.int .i64)), (53, (.int .i64)), (54, (.int .i64)), (57, (.int .i64)), (58, .bool), (60, (.int .i64)), (61, (.int .i64)), (62, .bool), (63, (.int .i64)), (65, (.int .i64)), (66, (.int .i64)), (67, (.int .u8)), (69, (.int .i64)), (71, (.int .i64)), (73, (.int .i64)), (74, (.int .i64)), (76, (.int .i64)), (77, (.int .i64)), (78, (.int .i64)), (81, (.int .i64)), (84, (.int .i64)), (91, (.int .i64))]
noncomputable def call54 (lf : Nat) (cv : CallVS) : CallS := callC 53 (W53 lf) (callC 52 (W52 lf) (callN))
theorem call54_ok (lf : Nat) (cv : CallVS) (hcv : CvOk Go.Proofs.Try.prog cv) : CallOk Go.Proofs.Try.prog (call54 lf cv) := callC_ok (W53_ok lf) (callC_ok (W52_ok lf) (callN_ok))
def o54_0 : Outs := [((.exit 2), [], [])]
def k54_0 : KC := (.seq (.reg [⟨(some 62), none, (.op (.bin .lss (.t 61) (.t 60))), []⟩]) (.seq (.cond (.t 62) .skip (.exit 2)) (.seq (.block 3 (.seq (.reg [⟨(some 63), none, (.op (.mv (.t 61))), []⟩, ⟨(some 11), none, (.op (.mv (.t 63))), []⟩]) (.reg [⟨(some 64), none, (.op (.mv (.t 10))), []⟩, ⟨(some 65), none, (.op (.mv (.t 11))), []⟩, ⟨(some 66), none, (.op (.mv (.t 8))), []⟩, ⟨(some 67), none, (.op (.toInt .u8 (.t 66))), []⟩, ⟨(some 68), none, (.op (.iaddrL 1 (.t 64) (.t 65))), []⟩, ⟨none, none, (.op (.store 1 (.t 68) (.t 67))), []⟩]))) (.reg [⟨(some 69), none, (.op (.bin .add (.t 61) (.c (.int .i64 1)))), []⟩, ⟨(some 61), none, (.op (.mv (.t 69))), []⟩]))))
def w54_0 (f : Int → V → Int → Int → List Ob → SubR) (vs : List V) (h : List Ob) : SubR := castCons vs fun c1 l1 => castInt .i64 c1 fun n2 => castCons l1 fun c3 l3 => castCons l3 fun c4 l4 => castInt .i64 c4 fun n5 => castCons l4 fun c6 l6 => castInt .i64 c6 fun n7 => castNil l6 (f n2 c3 n5 n7 h)
noncomputable def B54_0 (lf : Nat) (cv : CallVS) (self : Int → V → Int → Int → List Ob → SubR) (k : Int) (sector : V) (x60 : Int) (x61 : Int) (h : List Ob) : SubR :=
cB (decide (x61 < x60)) (
bind1 (er (.iaddrL 1 (.c sector) (.c (.int .i64 x61))) h) fun x68 =>
bind2 (ev (.store 1 (.c x68) (.c (.int .u8 (IntKind.u8.wrap k)))) h) fun u h_ =>
self k sector x60 (IntKind.i64.wrap (x61 + (1))) h_) (
some ((.exit 2), [], h))
noncomputable def L54_0 (lf : Nat) (cv : CallVS) : Nat → Int → V → Int → Int → List Ob → SubR
  | 0 => fun _ _ _ _ _ => none
  | n + 1 => B54_0 lf cv (L54_0 lf cv n)
theorem B54_0_eq (lf : Nat) (cv : CallVS) (self : Int → V → Int → Int → List Ob → SubR) (k : Int) (sector : V) (x60 : Int) (x61 : Int) (h : List Ob) : evCK A54 ⟨call54 lf cv, cv, subN⟩ k54_0 [(8, (.int .i64 k)), (10, sector), (60, (.int .i64 x60)), (61, (.int .i64 x61))] h (endL [8, 10, 60, 61] [(.int .i64), .any, (.int .i64), (.int .i64)] o54_0 (w54_0 self)) = B54_0 lf cv self k sector x60 x61 h := by kernel_rfl
theorem L54_0_ok (lf : Nat) (cv : CallVS) (hcv : CvOk Go.Proofs.Try.prog cv) : ∀ n, SubOk Go.Proofs.Try.prog (.loop k54_0.er) [8, 10, 60, 61] o54_0 (w54_0 (L54_0 lf cv n)) := by
  refine SubOk.loop (A := A54) (σ := ⟨call54 lf cv, cv, subN⟩) (c := k54_0) (shs := [(.int .i64), .any, (.int .i64), (.int .i64)]) (G := fun n => w54_0 (L54_0 lf cv n)) (call54_ok lf cv hcv) hcv (And.intro True.intro (And.intro (And.intro True.intro True.intro) (And.intro (And.intro True.intro True.intro) True.intro))) ?_ ?_
  · intro vs h r e0
    simp only [w54_0] at e0
    obtain ⟨c1, l1, rfl, e1⟩ := castCons_inv e0
    obtain ⟨y0, rfl, e2⟩ := castInt_inv e1
    obtain ⟨c2, l2, rfl, e3⟩ := castCons_inv e2
    obtain ⟨c3, l3, rfl, e4⟩ := castCons_inv e3
    obtain ⟨y2, rfl, e5⟩ := castInt_inv e4
    obtain ⟨c4, l4, rfl, e6⟩ := castCons_inv e5
    obtain ⟨y3, rfl, e7⟩ := castInt_inv e6
    obtain ⟨rfl, e8⟩ := castNil_inv e7
    have e := e8
    cases e
  · intro n vs h r e0
    simp only [w54_0] at e0
    obtain ⟨c1, l1, rfl, e1⟩ := castCons_inv e0
    obtain ⟨y0, rfl, e2⟩ := castInt_inv e1
    obtain ⟨c2, l2, rfl, e3⟩ := castCons_inv e2
    obtain ⟨c3, l3, rfl, e4⟩ := castCons_inv e3
    obtain ⟨y2, rfl, e5⟩ := castInt_inv e4
    obtain ⟨c4, l4, rfl, e6⟩ := castCons_inv e5
    obtain ⟨y3, rfl, e7⟩ := castInt_inv e6
    obtain ⟨rfl, e8⟩ := castNil_inv e7
    have e := e8
    exact (B54_0_eq lf cv (L54_0 lf cv n) y0 c2 y2 y3 h).trans e
def o54_1 : Outs := [(.normal, [], [])]
def k54_1 : KC := (.seq (.reg [⟨(some 57), none, (.op (.mv (.t 8))), []⟩, ⟨(some 58), none, (.op (.bin .neq (.t 57) (.c (.int .i64 1)))), []⟩]) (.cond (.t 58) (.seq (.reg [⟨(some 59), none, (.op (.mv (.t 10))), []⟩, ⟨(some 60), none, (.op (.lenL (.t 59))), []⟩, ⟨(some 61), none, (.op (.mv (.c (.int .i64 0)))), []⟩]) (.block 2 (.sub 0 (.loop k54_0.er) [8, 10, 60, 61] o54_0))) .skip))
def w54_1 (f : Int → V → List Ob → SubR) (vs : List V) (h : List Ob) : SubR := castCons vs fun c1 l1 => castInt .i64 c1 fun n2 => castCons l1 fun c3 l3 => castNil l3 (f n2 c3 h)
noncomputable def S54_1 (lf : Nat) (cv : CallVS) (k : Int) (sector : V) (h : List Ob) : SubR :=
cB (k != (1)) (
bind1 (er (.lenL (.c sector)) h) fun v =>
castInt .i64 v fun x60 =>
bind3 (L54_0 lf cv lf k sector x60 (0) h) fun ex vs h_ =>
cB (decide (ex = (.exit 2))) (
castNil vs (
some (.normal, [], h_))) (
none)) (
some (.normal, [], h))
theorem S54_1_eq (lf : Nat) (cv : CallVS) (k : Int) (sector : V) (h : List Ob) : evCK A54 ⟨call54 lf cv, cv, subC 0 (w54_0 (L54_0 lf cv lf)) (subN)⟩ k54_1 [(8, (.int .i64 k)), (10, sector)] h (endK o54_1) = S54_1 lf cv k sector h := by kernel_rfl
theorem S54_1_ok (lf : Nat) (cv : CallVS) (hcv : CvOk Go.Proofs.Try.prog cv) : SubOk Go.Proofs.Try.prog k54_1.er [8, 10] o54_1 (w54_1 (S54_1 lf cv)) := by
  refine SubOk.of (A := A54) (σ := ⟨call54 lf cv, cv, subC 0 (w54_0 (L54_0 lf cv lf)) (subN)⟩) (c := k54_1) (call54_ok lf cv hcv) hcv (And.intro True.intro (And.intro (And.intro True.intro (L54_0_ok lf cv hcv lf)) True.intro)) ?_
  intro vs h r e0
  simp only [w54_1] at e0
  obtain ⟨c1, l1, rfl, e1⟩ := castCons_inv e0
  obtain ⟨y0, rfl, e2⟩ := castInt_inv e1
  obtain ⟨c2, l2, rfl, e3⟩ := castCons_inv e2
  obtain ⟨rfl, e4⟩ := castNil_inv e3
  have e := e4
  exact (S54_1_eq lf cv y0 c2 h).trans e
def o54_2 : Outs := [((.exit 0), [5, 6], [(.int .i64), .any])]
def k54_2 : KC := (.seq (.seq (.reg [⟨(some 16), none, (.op (.mv (.t 7))), []⟩, ⟨(some 17), none, (.op (.bin .mul (.t 16) (.c (.int .i64 64)))), []⟩, ⟨(some 18), none, (.op (.mv (.t 0))), []⟩, ⟨(some 19), none, (.op (.nilck (.t 18))), []⟩, ⟨(some 20), none, (.op (.faddr 0 (.t 19))), []⟩, ⟨(some 21), none, (.op (.load1 (.t 20))), []⟩, ⟨(some 22), none, (.op (.lenL (.t 21))), []⟩, ⟨(some 23), none, (.op (.bin .lss (.t 17) (.t 22))), []⟩]) (.cond (.t 23) .skip (.exit 0))) (.seq (.block 1 (.seq (.seq (.reg [⟨(some 26), none, (.op (.mv (.t 0))), []⟩, ⟨(some 27), none, (.op (.nilck (.t 26))), []⟩, ⟨(some 28), none, (.op (.faddr 2 (.t 27))), []⟩, ⟨(some 29), none, (.op (.load1 (.t 28))), []⟩, ⟨(some 30), none, (.op (.mv (.t 7))), []⟩, ⟨(some 31), none, (.op (.lookup .i (.bool false) false (.t 29) (.t 30))), []⟩, ⟨(some 32), none, (.op (.un .not (.t 31))), []⟩]) (.cond (.t 32) (.exit 1) .skip)) (.seq (.reg [⟨(some 33), none, (.op (.mv (.t 1))), []⟩, ⟨(some 34), none, (.op (.mv (.t 5))), []⟩, ⟨(some 35), none, (.callv (.t 33) [(.t 34)]), []⟩, ⟨(some 8), none, (.op (.mv (.t 35))), []⟩]) (.seq (.reg [⟨(some 36), none, (.op (.mv (.t 5))), []⟩, ⟨(some 37), none, (.op (.bin .add (.t 36) (.c (.int .i64 1)))), []⟩, ⟨(some 5), none, (.op (.mv (.t 37))), []⟩]) (.seq (.seq (.reg [⟨(some 38), none, (.op (.mv (.t 8))), []⟩, ⟨(some 39), none, (.op (.bin .eql (.t 38) (.c (.int .i64 0)))), []⟩]) (.cond (.t 39) (.exit 1) .skip)) (.seq (.reg [⟨(some 40), none, (.op (.mv (.t 7))), []⟩, ⟨(some 41), none, (.op (.bin .mul (.t 40) (.c (.int .i64 64)))), []⟩, ⟨(some 9), none, (.op (.mv (.t 41))), []⟩]) (.seq (.reg [⟨(some 42), none, (.op (.mv (.t 0))), []⟩, ⟨(some 43), none, (.op (.nilck (.t 42))), []⟩, ⟨(some 44), none, (.op (.faddr 0 (.t 43))), []⟩, ⟨(some 45), none, (.op (.load1 (.t 44))), []⟩, ⟨(some 46), none, (.op (.mv (.t 9))), []⟩, ⟨(some 47), none, (.op (.mv (.t 9))), []⟩, ⟨(some 48), none, (.op (.bin .add (.t 47) (.c (.int .i64 64)))), []⟩, ⟨(some 49), none, (.op (.mv (.t 0))), []⟩, ⟨(some 50), none, (.op (.nilck (.t 49))), []⟩, ⟨(some 51), none, (.op (.faddr 0 (.t 50))), []⟩, ⟨(some 52), none, (.op (.load1 (.t 51))), []⟩, ⟨(some 53), none, (.op (.lenL (.t 52))), []⟩, ⟨(some 54), none, (.op (.minmax false (.t 48) (.t 53))), []⟩, ⟨(some 55), none, (.op (.slcL 1 (.t 45) (some (.t 46)) (some (.t 54)) none)), []⟩, ⟨(some 56), none, (.call 52 [(.t 55)]), []⟩, ⟨(some 10), none, (.op (.mv (.t 56))), []⟩]) (.seq (.sub 1 k54_1.er [8, 10] o54_1) (.seq (.reg [⟨(some 70), none, (.op (.mv (.t 6))), []⟩, ⟨(some 71), none, (.op (.mv (.t 9))), []⟩, ⟨(some 72), none, (.op (.mv (.t 10))), []⟩, ⟨(some 73), none, (.op (.lenL (.t 72))), []⟩, ⟨(some 74), none, (.op (.bin .add (.t 71) (.t 73))), []⟩, ⟨(some 75), none, (.op (.mv (.t 6))), []⟩, ⟨(some 76), none, (.op (.lenL (.t 75))), []⟩, ⟨(some 77), none, (.op (.bin .sub (.t 74) (.t 76))), []⟩, ⟨(some 78), none, (.op (.minmax true (.c (.int .i64 0)) (.t 77))), []⟩, ⟨(some 79), none, (.op (.appZ 1 1 .nilp (.t 70) (.t 78))), []⟩, ⟨(some 6), none, (.op (.mv (.t 79))), []⟩]) (.reg [⟨(some 80), none, (.op (.mv (.t 6))), []⟩, ⟨(some 81), none, (.op (.mv (.t 9))), []⟩, ⟨(some 82), none, (.op (.slcL 1 (.t 80) (some (.t 81)) none none)), []⟩, ⟨(some 83), none, (.op (.mv (.t 10))), []⟩, ⟨(some 84), none, (.op (.copy 1 (.t 82) (.t 83))), []⟩])))))))))) (.reg [⟨(some 24), none, (.op (.mv (.t 7))), []⟩, ⟨(some 25), none, (.op (.bin .add (.t 24) (.c (.int .i64 1)))), []⟩, ⟨(some 7), none, (.op (.mv (.t 25))), []⟩])))
def w54_2 (f : V → V → Int → V → Int → List Ob → SubR) (vs : List V) (h : List Ob) : SubR := castCons vs fun c1 l1 => castCons l1 fun c2 l2 => castCons l2 fun c3 l3 => castInt .i64 c3 fun n4 => castCons l3 fun c5 l5 => castCons l5 fun c6 l6 => castInt .i64 c6 fun n7 => castNil l6 (f c1 c2 n4 c5 n7 h)
noncomputable def B54_2 (lf : Nat) (cv : CallVS) (self : V → V → Int → V → Int → List Ob → SubR) (f : V) (choice : V) (turn : Int) (out : V) (s : Int) (h : List Ob) : SubR :=
bind1 (er (.nilck (.c f)) h) fun x19 =>
bind1 (er (.faddr 0 (.c x19)) h) fun x20 =>
bind1 (er (.load1 (.c x20)) h) fun x21 =>
bind1 (er (.lenL (.c x21)) h) fun v =>
castInt .i64 v fun x22 =>
cB (decide ((IntKind.i64.wrap (s * (64))) < x22)) (
bind1 (er (.nilck (.c f)) h) fun x27 =>
bind1 (er (.faddr 2 (.c x27)) h) fun x28 =>
bind1 (er (.load1 (.c x28)) h) fun x29 =>
bind1 (er (.lookup .i (.bool false) false (.c x29) (.c (.int .i64 s))) h) fun v1 =>
castBool v1 fun x31 =>
cB (!x31) (
self f choice turn out (IntKind.i64.wrap (s + (1))) h) (
bind2 (cv choice [(.int .i64 turn)] h) fun v2 h_ =>
castInt .i64 v2 fun x35 =>
cB (x35 == (0)) (
self f choice (IntKind.i64.wrap (turn + (1))) out (IntKind.i64.wrap (s + (1))) h_) (
bind1 (er (.nilck (.c f)) h_) fun x43 =>
bind1 (er (.faddr 0 (.c x43)) h_) fun x44 =>
bind1 (er (.load1 (.c x44)) h_) fun x45 =>
bind1 (er (.nilck (.c f)) h_) fun x50 =>
bind1 (er (.faddr 0 (.c x50)) h_) fun x51 =>
bind1 (er (.load1 (.c x51)) h_) fun x52 =>
bind1 (er (.lenL (.c x52)) h_) fun v3 =>
castInt .i64 v3 fun x53 =>
bind1 (er (.slcL 1 (.c x45) (some (.c (.int .i64 (IntKind.i64.wrap (s * (64)))))) (some (.c (.int .i64 (if x53 < (IntKind.i64.wrap ((IntKind.i64.wrap (s * (64))) + (64))) then x53 else (IntKind.i64.wrap ((IntKind.i64.wrap (s * (64))) + (64))))))) none) h_) fun x55 =>
bind2 (F52 lf x55 h_) fun x56 h_1 =>
bind3 (S54_1 lf cv x35 x56 h_1) fun ex vs h_2 =>
cB (decide (ex = .normal)) (
castNil vs (
bind1 (er (.lenL (.c x56)) h_2) fun v4 =>
castInt .i64 v4 fun x73 =>
bind1 (er (.lenL (.c out)) h_2) fun v5 =>
castInt .i64 v5 fun x76 =>
bind2 (ev (.appZ 1 1 .nilp (.c out) (.c (.int .i64 (if (IntKind.i64.wrap ((IntKind.i64.wrap ((IntKind.i64.wrap (s * (64))) + x73)) - x76)) > (0) then (IntKind.i64.wrap ((IntKind.i64.wrap ((IntKind.i64.wrap (s * (64))) + x73)) - x76)) else (0))))) h_2) fun x79 h_3 =>
bind1 (er (.slcL 1 (.c x79) (some (.c (.int .i64 (IntKind.i64.wrap (s * (64)))))) none none) h_3) fun x82 =>
bind2 (ev (.copy 1 (.c x82) (.c x56)) h_3) fun v6 h_4 =>
castInt .i64 v6 fun x84 =>
self f choice (IntKind.i64.wrap (turn + (1))) x79 (IntKind.i64.wrap (s + (1))) h_4)) (
none)))) (
some ((.exit 0), [(.int .i64 turn), out], h))
noncomputable def L54_2 (lf : Nat) (cv : CallVS) : Nat → V → V → Int → V → Int → List Ob → SubR
  | 0 => fun _ _ _ _ _ _ => none
  | n + 1 => B54_2 lf cv (L54_2 lf cv n)
theorem B54_2_eq (lf : Nat) (cv : CallVS) (self : V → V → Int → V → Int → List Ob → SubR) (f : V) (choice : V) (turn : Int) (out : V) (s : Int) (h : List Ob) : evCK A54 ⟨call54 lf cv, cv, subC 1 (w54_1 (S54_1 lf cv)) (subN)⟩ k54_2 [(0, f), (1, choice), (5, (.int .i64 turn)), (6, out), (7, (.int .i64 s))] h (endL [0, 1, 5, 6, 7] [.any, .any, (.int .i64), .any, (.int .i64)] o54_2 (w54_2 self)) = B54_2 lf cv self f choice turn out s h := by kernel_rfl
theorem L54_2_ok (lf : Nat) (cv : CallVS) (hcv : CvOk Go.Proofs.Try.prog cv) : ∀ n, SubOk Go.Proofs.Try.prog (.loop k54_2.er) [0, 1, 5, 6, 7] o54_2 (w54_2 (L54_2 lf cv n)) := by
  refine SubOk.loop (A := A54) (σ := ⟨call54 lf cv, cv, subC 1 (w54_1 (S54_1 lf cv)) (subN)⟩) (c := k54_2) (shs := [.any, .any, (.int .i64), .any, (.int .i64)]) (G := fun n => w54_2 (L54_2 lf cv n)) (call54_ok lf cv hcv) hcv (And.intro (And.intro True.intro (And.intro True.intro True.intro)) (And.intro (And.intro (And.intro True.intro (And.intro True.intro True.intro)) (And.intro True.intro (And.intro True.intro (And.intro (And.intro True.intro (And.intro True.intro True.intro)) (And.intro True.intro (And.intro True.intro (And.intro (S54_1_ok lf cv hcv) (And.intro True.intro True.intro)))))))) True.intro)) ?_ ?_
  · intro vs h r e0
    simp only [w54_2] at e0
    obtain ⟨c1, l1, rfl, e1⟩ := castCons_inv e0
    obtain ⟨c2, l2, rfl, e2⟩ := castCons_inv e1
    obtain ⟨c3, l3, rfl, e3⟩ := castCons_inv e2
    obtain ⟨y2, rfl, e4⟩ := castInt_inv e3
    obtain ⟨c4, l4, rfl, e5⟩ := castCons_inv e4
    obtain ⟨c5, l5, rfl, e6⟩ := castCons_inv e5
    obtain ⟨y4, rfl, e7⟩ := castInt_inv e6
    obtain ⟨rfl, e8⟩ := castNil_inv e7
    have e := e8
    cases e
  · intro n vs h r e0
    simp only [w54_2] at e0
    obtain ⟨c1, l1, rfl, e1⟩ := castCons_inv e0
    obtain ⟨c2, l2, rfl, e2⟩ := castCons_inv e1
    obtain ⟨c3, l3, rfl, e3⟩ := castCons_inv e2
    obtain ⟨y2, rfl, e4⟩ := castInt_inv e3
    obtain ⟨c4, l4, rfl, e5⟩ := castCons_inv e4
    obtain ⟨c5, l5, rfl, e6⟩ := castCons_inv e5
    obtain ⟨y4, rfl, e7⟩ := castInt_inv e6
    obtain ⟨rfl, e8⟩ := castNil_inv e7
    have e := e8
    exact (B54_2_eq lf cv (L54_2 lf cv n) c1 c2 y2 c4 y4 h).trans e
def k54 : KC := (.seq (.reg [⟨(some 4), none, (.op (.mv (.c (.int .i64 0)))), []⟩]) (.seq (.reg [⟨(some 5), none, (.op (.mv (.c (.int .i64 0)))), []⟩]) (.seq (.reg [⟨(some 12), none, (.op (.mv (.t 0))), []⟩, ⟨(some 13), none, (.op (.nilck (.t 12))), []⟩, ⟨(some 14), none, (.op (.faddr 1 (.t 13))), []⟩, ⟨(some 15), none, (.op (.load1 (.t 14))), []⟩, ⟨(some 6), none, (.op (.mv (.t 15))), []⟩]) (.seq (.seq (.reg [⟨(some 7), none, (.op (.mv (.c (.int .i64 0)))), []⟩]) (.block 0 (.sub 2 (.loop k54_2.er) [0, 1, 5, 6, 7] o54_2))) (.seq (.reg [⟨(some 85), none, (.op (.mv (.t 0))), []⟩, ⟨(some 86), none, (.op (.mv (.t 6))), []⟩, ⟨(some 87), none, (.op (.nilck (.t 85))), []⟩, ⟨(some 88), none, (.op (.faddr 0 (.t 87))), []⟩, ⟨none, none, (.op (.store 1 (.t 88) (.t 86))), []⟩]) (.seq (.reg [⟨(some 89), none, (.op (.mv (.t 0))), []⟩, ⟨(some 90), none, (.call 53 [(.t 89)]), []⟩]) (.seq (.reg [⟨(some 91), none, (.op (.mv (.t 5))), []⟩, ⟨(some 4), none, (.op (.mv (.t 91))), []⟩]) .ret)))))))
noncomputable def F54 (lf : Nat) (cv : CallVS) (f : V) (choice : V) (h : List Ob) : Option (V × List Ob) :=
bind1 (er (.nilck (.c f)) h) fun x13 =>
bind1 (er (.faddr 1 (.c x13)) h) fun x14 =>
bind1 (er (.load1 (.c x14)) h) fun x15 =>
bind3 (L54_2 lf cv lf f choice (0) x15 (0) h) fun ex vs h_ =>
cB (decide (ex = (.exit 0))) (
castCons vs fun c l =>
castInt .i64 c fun turn =>
castCons l fun out l1 =>
castNil l1 (
bind1 (er (.nilck (.c f)) h_) fun x87 =>
bind1 (er (.faddr 0 (.c x87)) h_) fun x88 =>
bind2 (ev (.store 1 (.c x88) (.c out)) h_) fun u h_1 =>
bind2 (F53 lf f h_1) fun x90 h_2 =>
some ((.int .i64 turn), h_2))) (
none)
theorem F54_eq (lf : Nat) (cv : CallVS) (f : V) (choice : V) (h : List Ob) : evCK A54 ⟨call54 lf cv, cv, subC 2 (w54_2 (L54_2 lf cv lf)) (subN)⟩ k54 (entryK [f, choice]) h (endF c54.res) = F54 lf cv f choice h := by kernel_rfl
theorem F54_ok (lf : Nat) (cv : CallVS) (hcv : CvOk Go.Proofs.Try.prog cv) (f : V) (choice : V) (h : List Ob) (r_ : V) (h_r : List Ob) (e_ : F54 lf cv f choice h = some (r_, h_r)) : CD Go.Proofs.Try.prog 54 [f, choice] h r_ h_r :=
  CD.ofK (A := A54) (σ := ⟨call54 lf cv, cv, subC 2 (w54_2 (L54_2 lf cv lf)) (subN)⟩) (c := k54) Go.Proofs.Try.func54 ok54 en54 (show 2 ≤ 92 by decide) (by kernel_rfl) (call54_ok lf cv hcv) hcv (And.intro True.intro (And.intro True.intro (And.intro True.intro (And.intro (And.intro True.intro (L54_2_ok lf cv hcv lf)) (And.intro True.intro (And.intro True.intro (And.intro True.intro True.intro))))))) ((F54_eq lf cv f choice h).trans e_)
def w54 (f : V → V → List Ob → Option (V × List Ob)) (vs : List V) (h : List Ob) : Option (V × List Ob) := castCons vs fun c1 l1 => castCons l1 fun c2 l2 => castNil l2 (f c1 c2 h)
noncomputable def W54 (lf : Nat) (cv : CallVS) : List V → List Ob → Option (V × List Ob) := w54 (F54 lf cv)
theorem W54_ok (lf : Nat) (cv : CallVS) (hcv : CvOk Go.Proofs.Try.prog cv) : ∀ args h v h', W54 lf cv args h = some (v, h') → CD Go.Proofs.Try.prog 54 args h v h' := by
  intro vs h r h' e0
  simp only [W54, w54] at e0
  obtain ⟨c1, l1, rfl, e1⟩ := castCons_inv e0
  obtain ⟨c2, l2, rfl, e2⟩ := castCons_inv e1
  obtain ⟨rfl, e3⟩ := castNil_inv e2
  have e := e3
  exact F54_ok lf cv hcv c1 c2 h r h' e

/-! 55: (*wainscot/disk.Disk).Crash$1 -/
def A55 : List (Nat × Sh) := [(0, (.int .i64)), (4, (.int .i64)), (6, (.int .i64)), (7, .bool), (9, (.int .i64)), (10, (.int .i64)), (11, (.int .i64)), (13, (.int .i64)), (14, (.int .i64)), (16, (.int .i64))]
noncomputable def call55 (lf : Nat) : CallS := callN
theorem call55_ok (lf : Nat) : CallOk Go.Proofs.Try.prog (call55 lf) := callN_ok
def k55 : KC := (.seq (.reg [⟨(some 4), none, (.op (.mv (.c (.int .i64 0)))), []⟩]) (.seq (.seq (.reg [⟨(some 5), none, (.op (.load1 (.t 1))), []⟩, ⟨(some 6), none, (.op (.lenL (.t 5))), []⟩, ⟨(some 7), none, (.op (.bin .eql (.t 6) (.c (.int .i64 0)))), []⟩]) (.cond (.t 7) (.seq (.reg [⟨(some 4), none, (.op (.mv (.c (.int .i64 0)))), []⟩]) .ret) .skip)) (.seq (.reg [⟨(some 8), none, (.op (.load1 (.t 1))), []⟩, ⟨(some 9), none, (.op (.load1 (.t 2))), []⟩, ⟨(some 10), none, (.op (.mv (.t 0))), []⟩, ⟨(some 11), none, (.op (.bin .add (.t 9) (.t 10))), []⟩, ⟨(some 12), none, (.op (.load1 (.t 1))), []⟩, ⟨(some 13), none, (.op (.lenL (.t 12))), []⟩, ⟨(some 14), none, (.op (.bin .rem (.t 11) (.t 13))), []⟩, ⟨(some 15), none, (.op (.iaddrL 1 (.t 8) (.t 14))), []⟩, ⟨(some 16), none, (.op (.load1 (.t 15))), []⟩, ⟨(some 4), none, (.op (.mv (.t 16))), []⟩]) .ret)))
noncomputable def F55 (lf : Nat) (n_ : Int) (x1 : V) (x2 : V) (h : List Ob) : Option (V × List Ob) :=
bind1 (er (.load1 (.c x1)) h) fun x5 =>
bind1 (er (.lenL (.c x5)) h) fun v =>
castInt .i64 v fun x6 =>
cB (x6 == (0)) (
some ((.int .i64 (0)), h)) (
bind1 (er (.load1 (.c x1)) h) fun x8 =>
bind1 (er (.load1 (.c x2)) h) fun v1 =>
castInt .i64 v1 fun x9 =>
bind1 (er (.load1 (.c x1)) h) fun x12 =>
bind1 (er (.lenL (.c x12)) h) fun v2 =>
castInt .i64 v2 fun x13 =>
bind1 (er (.bin .rem (.c (.int .i64 (IntKind.i64.wrap (x9 + n_)))) (.c (.int .i64 x13))) h) fun v3 =>
castInt .i64 v3 fun x14 =>
bind1 (er (.iaddrL 1 (.c x8) (.c (.int .i64 x14))) h) fun x15 =>
bind1 (er (.load1 (.c x15)) h) fun v4 =>
castInt .i64 v4 fun x16 =>
some ((.int .i64 x16), h))
theorem F55_eq (lf : Nat) (n_ : Int) (x1 : V) (x2 : V) (h : List Ob) : evCK A55 ⟨call55 lf, cvN, subN⟩ k55 (entryK [(.int .i64 n_), x1, x2]) h (endF c55.res) = F55 lf n_ x1 x2 h := by kernel_rfl
theorem F55_ok (lf : Nat) (n_ : Int) (x1 : V) (x2 : V) (h : List Ob) (r_ : V) (h_r : List Ob) (e_ : F55 lf n_ x1 x2 h = some (r_, h_r)) : CD Go.Proofs.Try.prog 55 [(.int .i64 n_), x1, x2] h r_ h_r :=
  CD.ofK (A := A55) (σ := ⟨call55 lf, cvN, subN⟩) (c := k55) Go.Proofs.Try.func55 ok55 en55 (show 3 ≤ 17 by decide) (by kernel_rfl) (call55_ok lf) cvN_ok (And.intro True.intro (And.intro (And.intro True.intro (And.intro (And.intro True.intro True.intro) True.intro)) (And.intro True.intro True.intro))) ((F55_eq lf n_ x1 x2 h).trans e_)
def w55 (f : Int → V → V → List Ob → Option (V × List Ob)) (vs : List V) (h : List Ob) : Option (V × List Ob) := castCons vs fun c1 l1 => castInt .i64 c1 fun n2 => castCons l1 fun c3 l3 => castCons l3 fun c4 l4 => castNil l4 (f n2 c3 c4 h)
noncomputable def W55 (lf : Nat) : List V → List Ob → Option (V × List Ob) := w55 (F55 lf)
theorem W55_ok (lf : Nat) : ∀ args h v h', W55 lf args h = some (v, h') → CD Go.Proofs.Try.prog 55 args h v h' := by
  intro vs h r h' e0
  simp only [W55, w55] at e0
  obtain ⟨c1, l1, rfl, e1⟩ := castCons_inv e0
  obtain ⟨y0, rfl, e2⟩ := castInt_inv e1
  obtain ⟨c2, l2, rfl, e3⟩ := castCons_inv e2
  obtain ⟨c3, l3, rfl, e4⟩ := castCons_inv e3
  obtain ⟨rfl, e5⟩ := castNil_inv e4
  have e := e5
  exact F55_ok lf y0 c2 c3 h r h' e

/-! 19: (*wainscot/disk.Disk).Crash -/
def A19 : List (Nat × Sh) := [(5, (.int .i64)), (7, .bool), (8, (.int .i64)), (9, .bool), (10, (.int .i64)), (11, (.int .i64)), (13, (.int .i64)), (18, (.int .i64)), (19, (.int .i64)), (20, (.int .i64))]
noncomputable def cv19 (lf : Nat) : CallVS := cvC 55 (W55 lf) (cvN)
theorem cv19_ok (lf : Nat) : CvOk Go.Proofs.Try.prog (cv19 lf) := cvC_ok (W55_ok lf) (cvN_ok)
noncomputable def call19 (lf : Nat) : CallS := callC 54 (W54 lf (cv19 lf)) (callN)
theorem call19_ok (lf : Nat) : CallOk Go.Proofs.Try.prog (call19 lf) := callC_ok (W54_ok lf (cv19 lf) (cv19_ok lf)) (callN_ok)
def o19_0 : Outs := [((.exit 0), [], [])]
def k19_0 : KC := (.seq (.reg [⟨(some 9), none, (.op (.bin .lss (.t 8) (.c (.int .i64 2)))), []⟩]) (.seq (.cond (.t 9) .skip (.exit 0)) (.seq (.block 1 (.seq (.reg [⟨(some 10), none, (.op (.mv (.t 8))), []⟩, ⟨(some 5), none, (.op (.mv (.t 10))), []⟩]) (.reg [⟨(some 11), none, (.op (.load1 (.t 4))), []⟩, ⟨(some 12), none, (.op (.mv (.t 0))), []⟩, ⟨(some 13), none, (.op (.mv (.t 5))), []⟩, ⟨(some 14), none, (.op (.nilck (.t 12))), []⟩, ⟨(some 15), none, (.op (.faddr 0 (.t 14))), []⟩, ⟨(some 16), none, (.op (.iaddrA 2 3 (.t 15) (.t 13))), []⟩, ⟨(some 17), none, (.op (.mkfn 55 [(.t 3), (.t 4)])), []⟩, ⟨(some 18), none, (.call 54 [(.t 16), (.t 17)]), [⟨(some 11), none, (.op (.load1 (.t 4)))⟩]⟩, ⟨(some 19), none, (.op (.bin .add (.t 11) (.t 18))), []⟩, ⟨none, none, (.op (.store 1 (.t 4) (.t 19))), []⟩]))) (.reg [⟨(some 20), none, (.op (.bin .add (.t 8) (.c (.int .i64 1)))), []⟩, ⟨(some 8), none, (.op (.mv (.t 20))), []⟩]))))
def w19_0 (f : V → V → V → Int → List Ob → SubR) (vs : List V) (h : List Ob) : SubR := castCons vs fun c1 l1 => castCons l1 fun c2 l2 => castCons l2 fun c3 l3 => castCons l3 fun c4 l4 => castInt .i64 c4 fun n5 => castNil l4 (f c1 c2 c3 n5 h)
noncomputable def B19_0 (lf : Nat) (self : V → V → V → Int → List Ob → SubR) (d : V) (keep : V) (turn : V) (x8 : Int) (h : List Ob) : SubR :=
cB (decide (x8 < (2))) (
bind1 (er (.load1 (.c turn)) h) fun v =>
castInt .i64 v fun x11 =>
bind1 (er (.nilck (.c d)) h) fun x14 =>
bind1 (er (.faddr 0 (.c x14)) h) fun x15 =>
bind1 (er (.iaddrA 2 3 (.c x15) (.c (.int .i64 x8))) h) fun x16 =>
bind2 (F54 lf (cv19 lf) x16 (.fn 55 [keep, turn]) h) fun v1 h_ =>
castInt .i64 v1 fun x18 =>
reP (er (.load1 (.c turn)) h_ = some (.int .i64 x11)) (
bind2 (ev (.store 1 (.c turn) (.c (.int .i64 (IntKind.i64.wrap (x11 + x18))))) h_) fun u h_1 =>
self d keep turn (IntKind.i64.wrap (x8 + (1))) h_1)) (
some ((.exit 0), [], h))
noncomputable def L19_0 (lf : Nat) : Nat → V → V → V → Int → List Ob → SubR
  | 0 => fun _ _ _ _ _ => none
  | n + 1 => B19_0 lf (L19_0 lf n)
theorem B19_0_eq (lf : Nat) (self : V → V → V → Int → List Ob → SubR) (d : V) (keep : V) (turn : V) (x8 : Int) (h : List Ob) : evCK A19 ⟨call19 lf, (cv19 lf), subN⟩ k19_0 [(0, d), (3, keep), (4, turn), (8, (.int .i64 x8))] h (endL [0, 3, 4, 8] [.any, .any, .any, (.int .i64)] o19_0 (w19_0 self)) = B19_0 lf self d keep turn x8 h := by kernel_rfl
theorem L19_0_ok (lf : Nat) : ∀ n, SubOk Go.Proofs.Try.prog (.loop k19_0.er) [0, 3, 4, 8] o19_0 (w19_0 (L19_0 lf n)) := by
  refine SubOk.loop (A := A19) (σ := ⟨call19 lf, (cv19 lf), subN⟩) (c := k19_0) (shs := [.any, .any, .any, (.int .i64)]) (G := fun n => w19_0 (L19_0 lf n)) (call19_ok lf) (cv19_ok lf) (And.intro True.intro (And.intro (And.intro True.intro True.intro) (And.intro (And.intro True.intro True.intro) True.intro))) ?_ ?_
  · intro vs h r e0
    simp only [w19_0] at e0
    obtain ⟨c1, l1, rfl, e1⟩ := castCons_inv e0
    obtain ⟨c2, l2, rfl, e2⟩ := castCons_inv e1
    obtain ⟨c3, l3, rfl, e3⟩ := castCons_inv e2
    obtain ⟨c4, l4, rfl, e4⟩ := castCons_inv e3
    obtain ⟨y3, rfl, e5⟩ := castInt_inv e4
    obtain ⟨rfl, e6⟩ := castNil_inv e5
    have e := e6
    cases e
  · intro n vs h r e0
    simp only [w19_0] at e0
    obtain ⟨c1, l1, rfl, e1⟩ := castCons_inv e0
    obtain ⟨c2, l2, rfl, e2⟩ := castCons_inv e1
    obtain ⟨c3, l3, rfl, e3⟩ := castCons_inv e2
    obtain ⟨c4, l4, rfl, e4⟩ := castCons_inv e3
    obtain ⟨y3, rfl, e5⟩ := castInt_inv e4
    obtain ⟨rfl, e6⟩ := castNil_inv e5
    have e := e6
    exact (B19_0_eq lf (L19_0 lf n) c1 c2 c3 y3 h).trans e
def k19 : KC := (.seq (.reg [⟨(some 3), none, (.op (.box false (.t 1))), []⟩]) (.seq (.seq (.reg [⟨(some 6), none, (.op (.mv (.t 0))), []⟩, ⟨(some 7), none, (.op (.eq false .ptr (.t 6) (.c .nilp))), []⟩]) (.cond (.t 7) .ret .skip)) (.seq (.reg [⟨(some 4), none, (.op (.alloc false (.int .i64 0))), []⟩, ⟨none, none, (.op (.store 1 (.t 4) (.c (.int .i64 0)))), []⟩]) (.seq (.seq (.reg [⟨(some 8), none, (.op (.mv (.c (.int .i64 0)))), []⟩]) (.block 0 (.sub 0 (.loop k19_0.er) [0, 3, 4, 8] o19_0))) (.reg [⟨(some 21), none, (.op (.mv (.t 0))), []⟩, ⟨(some 22), none, (.op (.mv (.t 0))), []⟩, ⟨(some 23), none, (.op (.nilck (.t 21))), []⟩, ⟨(some 24), none, (.op (.faddr 8 (.t 23))), []⟩, ⟨none, none, (.op (.store 1 (.t 24) (.c (.bool false)))), []⟩, ⟨(some 25), none, (.op (.nilck (.t 22))), []⟩, ⟨(some 26), none, (.op (.faddr 7 (.t 25))), []⟩, ⟨none, none, (.op (.store 1 (.t 26) (.c (.int .i64 (-0 - 1))))), []⟩])))))
noncomputable def F19 (lf : Nat) (d : V) (keep : V) (h : List Ob) : Option (V × List Ob) :=
bind2 (ev (.box false (.c keep)) h) fun keep1 h_ =>
bind1 (er (.eq false .ptr (.c d) (.c V.nilp)) h_) fun v =>
castBool v fun x7 =>
cB x7 (
some ((.tup []), h_)) (
bind2 (ev (.alloc false (.int .i64 0)) h_) fun turn h_1 =>
bind2 (ev (.store 1 (.c turn) (.c (.int .i64 (0)))) h_1) fun u h_2 =>
bind3 (L19_0 lf lf d keep1 turn (0) h_2) fun ex vs h_3 =>
cB (decide (ex = (.exit 0))) (
castNil vs (
bind1 (er (.nilck (.c d)) h_3) fun x23 =>
bind1 (er (.faddr 8 (.c x23)) h_3) fun x24 =>
bind2 (ev (.store 1 (.c x24) (.c (.bool false))) h_3) fun u1 h_4 =>
bind1 (er (.nilck (.c d)) h_4) fun x25 =>
bind1 (er (.faddr 7 (.c x25)) h_4) fun x26 =>
bind2 (ev (.store 1 (.c x26) (.c (.int .i64 (-1)))) h_4) fun u2 h_5 =>
some ((.tup []), h_5))) (
none))
theorem F19_eq (lf : Nat) (d : V) (keep : V) (h : List Ob) : evCK A19 ⟨call19 lf, (cv19 lf), subC 0 (w19_0 (L19_0 lf lf)) (subN)⟩ k19 (entryK [d, keep]) h (endF c19.res) = F19 lf d keep h := by kernel_rfl
theorem F19_ok (lf : Nat) (d : V) (keep : V) (h : List Ob) (r_ : V) (h_r : List Ob) (e_ : F19 lf d keep h = some (r_, h_r)) : CD Go.Proofs.Try.prog 19 [d, keep] h r_ h_r :=
  CD.ofK (A := A19) (σ := ⟨call19 lf, (cv19 lf), subC 0 (w19_0 (L19_0 lf lf)) (subN)⟩) (c := k19) Go.Proofs.Try.func19 ok19 en19 (show 2 ≤ 27 by decide) (by kernel_rfl) (call19_ok lf) (cv19_ok lf) (And.intro True.intro (And.intro (And.intro True.intro (And.intro True.intro True.intro)) (And.intro True.intro (And.intro (And.intro True.intro (L19_0_ok lf lf)) True.intro)))) ((F19_eq lf d keep h).trans e_)
def w19 (f : V → V → List Ob → Option (V × List Ob)) (vs : List V) (h : List Ob) : Option (V × List Ob) := castCons vs fun c1 l1 => castCons l1 fun c2 l2 => castNil l2 (f c1 c2 h)
noncomputable def W19 (lf : Nat) : List V → List Ob → Option (V × List Ob) := w19 (F19 lf)
theorem W19_ok (lf : Nat) : ∀ args h v h', W19 lf args h = some (v, h') → CD Go.Proofs.Try.prog 19 args h v h' := by
  intro vs h r h' e0
  simp only [W19, w19] at e0
  obtain ⟨c1, l1, rfl, e1⟩ := castCons_inv e0
  obtain ⟨c2, l2, rfl, e2⟩ := castCons_inv e1
  obtain ⟨rfl, e3⟩ := castNil_inv e2
  have e := e3
  exact F19_ok lf c1 c2 h r h' e

/-! 4: wainscot/wainscotlaw09.DiskKeeps -/
def A4 : List (Nat × Sh) := [(4, .bool), (6, (.int .i64)), (9, (.int .i64)), (11, (.int .i64)), (13, (.int .i64)), (15, (.int .i64)), (16, .bool), (17, .bool), (18, .bool), (20, .bool), (21, .bool), (22, .bool), (23, .bool), (25, (.int .i64)), (26, .bool), (27, .bool), (28, .bool), (31, (.int .i64)), (32, (.int .i64)), (33, .bool), (34, (.int .i64)), (36, (.int .i64)), (38, (.agg [(.int .i64), (.int .i64), (.int .i64), (.int .i64), .any, .any])), (40, (.int .i64)), (41, .bool), (44, (.int .i64)), (46, (.int .i64)), (49, (.int .i64)), (50, (.int .i64)), (52, (.int .i64)), (53, .bool), (54, .bool), (56, (.int .i64)), (57, .bool), (58, .bool), (59, .bool), (61, (.int .i64)), (62, .bool), (63, .bool), (64, (.tup [.any, (.int .i64)])), (67, (.int .i64)), (68, (.tup [.any, (.int .i64)])), (70, (.int .i64)), (71, (.tup [.any, (.int .i64)])), (74, (.int .i64)), (75, (.tup [.any, (.int .i64)])), (77, (.int .i64)), (80, (.int .i64)), (83, (.int .i64)), (84, .bool), (88, (.tup [.any, (.int .i64)])), (91, (.int .i64)), (93, (.int .i64)), (94, (.int .i64)), (95, (.int .i64)), (96, (.tup [.any, (.int .i64)])), (98, (.int .i64)), (99, (.tup [.any, (.int .i64)])), (102, (.int .i64)), (103, (.tup [.any, (.int .i64)])), (105, (.int .i64)), (106, (.int .i64)), (107, .bool), (108, .bool), (109, (.int .i64)), (110, .bool), (111, .bool), (112, .bool), (114, .str), (117, (.int .i64)), (119, (.int .i64)), (120, (.int .i64)), (121, (.int .i64)), (123, .str), (124, .bool), (125, .bool), (126, .bool), (128, .str), (130, .str), (131, .bool), (132, .bool), (133, .bool), (135, (.int .i64)), (137, (.int .i64)), (138, .bool), (139, .bool)]
noncomputable def call4 (lf : Nat) : CallS := callC 19 (W19 lf) (callC 18 (W18 lf) (callC 16 (W16 lf) (callC 15 (W15 lf) (callC 14 (W14 lf) (callC 13 (W13 lf) (callC 12 (W12 lf) (callC 11 (W11 lf) (callC 10 (W10 lf) (callN)))))))))
theorem call4_ok (lf : Nat) : CallOk Go.Proofs.Try.prog (call4 lf) := callC_ok (W19_ok lf) (callC_ok (W18_ok lf) (callC_ok (W16_ok lf) (callC_ok (W15_ok lf) (callC_ok (W14_ok lf) (callC_ok (W13_ok lf) (callC_ok (W12_ok lf) (callC_ok (W11_ok lf) (callC_ok (W10_ok lf) (callN_ok)))))))))
def o4_0 : Outs := [((.exit 0), [], [])]
def k4_0 : KC := (.seq (.reg [⟨(some 33), none, (.op (.bin .lss (.t 32) (.t 31))), []⟩]) (.seq (.cond (.t 33) .skip (.exit 0)) (.seq (.block 1 (.seq (.reg [⟨(some 34), none, (.op (.mv (.t 32))), []⟩, ⟨(some 6), none, (.op (.mv (.t 34))), []⟩]) (.seq (.reg [⟨(some 35), none, (.op (.mv (.t 0))), []⟩, ⟨(some 36), none, (.op (.mv (.t 6))), []⟩, ⟨(some 37), none, (.op (.iaddrL 6 (.t 35) (.t 36))), []⟩, ⟨(some 38), none, (.op (.loadN 6 (.t 37))), []⟩, ⟨(some 7), none, (.op (.alloc false (.agg [(.int .i64 0), (.int .i64 0), (.int .i64 0), (.int .i64 0), .nils, .nils]))), []⟩, ⟨none, none, (.op (.store 6 (.t 7) (.t 38))), []⟩]) (.seq (.reg [⟨(some 39), none, (.op (.faddr 0 (.t 7))), []⟩, ⟨(some 40), none, (.op (.load1 (.t 39))), []⟩, ⟨(some 41), none, (.op (.bin .eql (.t 40) (.c (.int .i64 1)))), []⟩]) (.cond (.t 41) (.reg [⟨(some 42), none, (.op (.mv (.t 5))), []⟩, ⟨(some 43), none, (.op (.faddr 1 (.t 7))), []⟩, ⟨(some 44), none, (.op (.load1 (.t 43))), []⟩, ⟨(some 45), none, (.op (.faddr 2 (.t 7))), []⟩, ⟨(some 46), none, (.op (.load1 (.t 45))), []⟩, ⟨(some 47), none, (.op (.faddr 4 (.t 7))), []⟩, ⟨(some 48), none, (.op (.load1 (.t 47))), []⟩, ⟨(some 49), none, (.call 13 [(.t 42), (.t 44), (.t 46), (.t 48)]), []⟩]) .skip))))) (.reg [⟨(some 50), none, (.op (.bin .add (.t 32) (.c (.int .i64 1)))), []⟩, ⟨(some 32), none, (.op (.mv (.t 50))), []⟩]))))
def w4_0 (f : V → V → Int → Int → List Ob → SubR) (vs : List V) (h : List Ob) : SubR := castCons vs fun c1 l1 => castCons l1 fun c2 l2 => castCons l2 fun c3 l3 => castInt .i64 c3 fun n4 => castCons l3 fun c5 l5 => castInt .i64 c5 fun n6 => castNil l5 (f c1 c2 n4 n6 h)
noncomputable def B4_0 (lf : Nat) (self : V → V → Int → Int → List Ob → SubR) (script : V) (d : V) (x31 : Int) (x32 : Int) (h : List Ob) : SubR :=
cB (decide (x32 < x31)) (
bind1 (er (.iaddrL 6 (.c script) (.c (.int .i64 x32))) h) fun x37 =>
bind1 (er (.loadN 6 (.c x37)) h) fun v =>
castAgg v fun l =>
castCons l fun c l1 =>
castInt .i64 c fun x38_0 =>
castCons l1 fun c1 l2 =>
castInt .i64 c1 fun x38_1 =>
castCons l2 fun c2 l3 =>
castInt .i64 c2 fun x38_2 =>
castCons l3 fun c3 l4 =>
castInt .i64 c3 fun x38_3 =>
castCons l4 fun x38_4 l5 =>
castCons l5 fun x38_5 l6 =>
castNil l6 (
bind2 (ev (.alloc false (.agg [(.int .i64 0), (.int .i64 0), (.int .i64 0), (.int .i64 0), .nils, .nils])) h) fun o h_ =>
bind2 (ev (.store 6 (.c o) (.c (.agg [(.int .i64 x38_0), (.int .i64 x38_1), (.int .i64 x38_2), (.int .i64 x38_3), x38_4, x38_5]))) h_) fun u h_1 =>
bind1 (er (.faddr 0 (.c o)) h_1) fun x39 =>
bind1 (er (.load1 (.c x39)) h_1) fun v1 =>
castInt .i64 v1 fun x40 =>
cB (x40 == (1)) (
bind1 (er (.faddr 1 (.c o)) h_1) fun x43 =>
bind1 (er (.load1 (.c x43)) h_1) fun v2 =>
castInt .i64 v2 fun x44 =>
bind1 (er (.faddr 2 (.c o)) h_1) fun x45 =>
bind1 (er (.load1 (.c x45)) h_1) fun v3 =>
castInt .i64 v3 fun x46 =>
bind1 (er (.faddr 4 (.c o)) h_1) fun x47 =>
bind1 (er (.load1 (.c x47)) h_1) fun x48 =>
bind2 (F13 lf d x44 x46 x48 h_1) fun v4 h_2 =>
castInt .i64 v4 fun x49 =>
self script d x31 (IntKind.i64.wrap (x32 + (1))) h_2) (
self script d x31 (IntKind.i64.wrap (x32 + (1))) h_1))) (
some ((.exit 0), [], h))
noncomputable def L4_0 (lf : Nat) : Nat → V → V → Int → Int → List Ob → SubR
  | 0 => fun _ _ _ _ _ => none
  | n + 1 => B4_0 lf (L4_0 lf n)
theorem B4_0_eq (lf : Nat) (self : V → V → Int → Int → List Ob → SubR) (script : V) (d : V) (x31 : Int) (x32 : Int) (h : List Ob) : evCK A4 ⟨call4 lf, cvN, subN⟩ k4_0 [(0, script), (5, d), (31, (.int .i64 x31)), (32, (.int .i64 x32))] h (endL [0, 5, 31, 32] [.any, .any, (.int .i64), (.int .i64)] o4_0 (w4_0 self)) = B4_0 lf self script d x31 x32 h := by kernel_rfl
theorem L4_0_ok (lf : Nat) : ∀ n, SubOk Go.Proofs.Try.prog (.loop k4_0.er) [0, 5, 31, 32] o4_0 (w4_0 (L4_0 lf n)) := by
  refine SubOk.loop (A := A4) (σ := ⟨call4 lf, cvN, subN⟩) (c := k4_0) (shs := [.any, .any, (.int .i64), (.int .i64)]) (G := fun n => w4_0 (L4_0 lf n)) (call4_ok lf) cvN_ok (And.intro True.intro (And.intro (And.intro True.intro True.intro) (And.intro (And.intro True.intro (And.intro True.intro (And.intro True.intro (And.intro True.intro True.intro)))) True.intro))) ?_ ?_
  · intro vs h r e0
    simp only [w4_0] at e0
    obtain ⟨c1, l1, rfl, e1⟩ := castCons_inv e0
    obtain ⟨c2, l2, rfl, e2⟩ := castCons_inv e1
    obtain ⟨c3, l3, rfl, e3⟩ := castCons_inv e2
    obtain ⟨y2, rfl, e4⟩ := castInt_inv e3
    obtain ⟨c4, l4, rfl, e5⟩ := castCons_inv e4
    obtain ⟨y3, rfl, e6⟩ := castInt_inv e5
    obtain ⟨rfl, e7⟩ := castNil_inv e6
    have e := e7
    cases e
  · intro n vs h r e0
    simp only [w4_0] at e0
    obtain ⟨c1, l1, rfl, e1⟩ := castCons_inv e0
    obtain ⟨c2, l2, rfl, e2⟩ := castCons_inv e1
    obtain ⟨c3, l3, rfl, e3⟩ := castCons_inv e2
    obtain ⟨y2, rfl, e4⟩ := castInt_inv e3
    obtain ⟨c4, l4, rfl, e5⟩ := castCons_inv e4
    obtain ⟨y3, rfl, e6⟩ := castInt_inv e5
    obtain ⟨rfl, e7⟩ := castNil_inv e6
    have e := e7
    exact (B4_0_eq lf (L4_0 lf n) c1 c2 y2 y3 h).trans e
def o4_1 : Outs := [(.ret, [4], [.bool]), (.normal, [], [])]
def k4_1 : KC := (.seq (.reg [⟨(some 51), none, (.op (.mv (.t 5))), []⟩, ⟨(some 52), none, (.call 18 [(.t 51), (.c (.int .i64 0))]), []⟩, ⟨(some 53), none, (.op (.bin .neq (.t 52) (.c (.int .i64 0)))), []⟩, ⟨(some 54), none, (.op (.mv (.t 53))), []⟩, ⟨(some 55), (some (54, false)), (.op (.mv (.t 5))), []⟩, ⟨(some 56), (some (54, false)), (.call 18 [(.t 55), (.c (.int .i64 1))]), []⟩, ⟨(some 57), (some (54, false)), (.op (.bin .neq (.t 56) (.c (.int .i64 0)))), []⟩, ⟨(some 58), none, (.op (.pick (.t 54) (.c (.bool true)) (.t 57))), []⟩, ⟨(some 59), none, (.op (.mv (.t 58))), []⟩, ⟨(some 60), (some (59, false)), (.op (.mv (.t 5))), []⟩, ⟨(some 61), (some (59, false)), (.call 16 [(.t 60)]), []⟩, ⟨(some 62), (some (59, false)), (.op (.bin .neq (.t 61) (.c (.int .i64 0)))), []⟩, ⟨(some 63), none, (.op (.pick (.t 59) (.c (.bool true)) (.t 62))), []⟩]) (.cond (.t 63) (.seq (.reg [⟨(some 4), none, (.op (.mv (.c (.bool false)))), []⟩]) .ret) .skip))
def w4_1 (f : V → List Ob → SubR) (vs : List V) (h : List Ob) : SubR := castCons vs fun c1 l1 => castNil l1 (f c1 h)
noncomputable def S4_1 (lf : Nat) (d : V) (h : List Ob) : SubR :=
bind2 (F18 lf d (0) h) fun v h_ =>
castInt .i64 v fun x52 =>
cB (x52 != (0)) (
some (.ret, [(.bool false)], h_)) (
bind2 (F18 lf d (1) h_) fun v1 h_1 =>
castInt .i64 v1 fun x56 =>
cB (x56 != (0)) (
some (.ret, [(.bool false)], h_1)) (
bind2 (F16 lf d h_1) fun v2 h_2 =>
castInt .i64 v2 fun x61 =>
cB (x61 != (0)) (
some (.ret, [(.bool false)], h_2)) (
some (.normal, [], h_2))))
theorem S4_1_eq (lf : Nat) (d : V) (h : List Ob) : evCK A4 ⟨call4 lf, cvN, subN⟩ k4_1 [(5, d)] h (endK o4_1) = S4_1 lf d h := by kernel_rfl
theorem S4_1_ok (lf : Nat) : SubOk Go.Proofs.Try.prog k4_1.er [5] o4_1 (w4_1 (S4_1 lf)) := by
  refine SubOk.of (A := A4) (σ := ⟨call4 lf, cvN, subN⟩) (c := k4_1) (call4_ok lf) cvN_ok (And.intro True.intro (And.intro (And.intro True.intro True.intro) True.intro)) ?_
  intro vs h r e0
  simp only [w4_1] at e0
  obtain ⟨c1, l1, rfl, e1⟩ := castCons_inv e0
  obtain ⟨rfl, e2⟩ := castNil_inv e1
  have e := e2
  exact (S4_1_eq lf c1 h).trans e
def o4_2 : Outs := [(.ret, [4], [.bool]), (.normal, [], [])]
def k4_2 : KC := (.seq (.reg [⟨(some 16), none, (.call 10 []), []⟩, ⟨(some 17), none, (.op (.un .not (.t 16))), []⟩, ⟨(some 18), none, (.op (.mv (.t 17))), []⟩, ⟨(some 19), (some (18, false)), (.op (.mv (.t 0))), []⟩, ⟨(some 20), (some (18, false)), (.call 11 [(.t 19)]), []⟩, ⟨(some 21), (some (18, false)), (.op (.un .not (.t 20))), []⟩, ⟨(some 22), none, (.op (.pick (.t 18) (.c (.bool true)) (.t 21))), []⟩, ⟨(some 23), none, (.op (.mv (.t 22))), []⟩, ⟨(some 24), (some (23, false)), (.op (.mv (.t 1))), []⟩, ⟨(some 25), (some (23, false)), (.op (.lenL (.t 24))), []⟩, ⟨(some 26), (some (23, false)), (.op (.bin .gtr (.t 25) (.c (.int .i64 200)))), []⟩, ⟨(some 27), none, (.op (.pick (.t 23) (.c (.bool true)) (.t 26))), []⟩]) (.cond (.t 27) (.seq (.reg [⟨(some 28), none, (.call 10 []), []⟩, ⟨(some 4), none, (.op (.mv (.t 28))), []⟩]) .ret) .skip))
def w4_2 (f : V → V → List Ob → SubR) (vs : List V) (h : List Ob) : SubR := castCons vs fun c1 l1 => castCons l1 fun c2 l2 => castNil l2 (f c1 c2 h)
noncomputable def S4_2 (lf : Nat) (script : V) (keep : V) (h : List Ob) : SubR :=
bind2 (F10 lf h) fun v h_ =>
castBool v fun x16 =>
cB (!x16) (
bind2 (F10 lf h_) fun v1 h_1 =>
castBool v1 fun x28 =>
some (.ret, [(.bool x28)], h_1)) (
bind2 (F11 lf script h_) fun v1 h_1 =>
castBool v1 fun x20 =>
cB (!x20) (
bind2 (F10 lf h_1) fun v2 h_2 =>
castBool v2 fun x28 =>
some (.ret, [(.bool x28)], h_2)) (
bind1 (er (.lenL (.c keep)) h_1) fun v2 =>
castInt .i64 v2 fun x25 =>
cB (decide (x25 > (200))) (
bind2 (F10 lf h_1) fun v3 h_2 =>
castBool v3 fun x28 =>
some (.ret, [(.bool x28)], h_2)) (
some (.normal, [], h_1))))
theorem S4_2_eq (lf : Nat) (script : V) (keep : V) (h : List Ob) : evCK A4 ⟨call4 lf, cvN, subN⟩ k4_2 [(0, script), (1, keep)] h (endK o4_2) = S4_2 lf script keep h := by kernel_rfl
theorem S4_2_ok (lf : Nat) : SubOk Go.Proofs.Try.prog k4_2.er [0, 1] o4_2 (w4_2 (S4_2 lf)) := by
  refine SubOk.of (A := A4) (σ := ⟨call4 lf, cvN, subN⟩) (c := k4_2) (call4_ok lf) cvN_ok (And.intro True.intro (And.intro (And.intro True.intro True.intro) True.intro)) ?_
  intro vs h r e0
  simp only [w4_2] at e0
  obtain ⟨c1, l1, rfl, e1⟩ := castCons_inv e0
  obtain ⟨c2, l2, rfl, e2⟩ := castCons_inv e1
  obtain ⟨rfl, e3⟩ := castNil_inv e2
  have e := e3
  exact (S4_2_eq lf c1 c2 h).trans e
def k4 : KC := (.seq (.reg [⟨(some 4), none, (.op (.mv (.c (.bool false)))), []⟩]) (.seq (.sub 2 k4_2.er [0, 1] o4_2) (.seq (.reg [⟨(some 29), none, (.call 12 [(.c (.int .i64 1073741824))]), []⟩, ⟨(some 5), none, (.op (.mv (.t 29))), []⟩]) (.seq (.seq (.reg [⟨(some 30), none, (.op (.mv (.t 0))), []⟩, ⟨(some 31), none, (.op (.lenL (.t 30))), []⟩, ⟨(some 32), none, (.op (.mv (.c (.int .i64 0)))), []⟩]) (.block 0 (.sub 0 (.loop k4_0.er) [0, 5, 31, 32] o4_0))) (.seq (.sub 1 k4_1.er [5] o4_1) (.seq (.reg [⟨(some 65), none, (.op (.mv (.t 5))), []⟩, ⟨(some 66), none, (.op (.mv (.t 5))), []⟩, ⟨(some 67), none, (.call 15 [(.t 66), (.c (.int .i64 0))]), []⟩, ⟨(some 68), none, (.call 14 [(.t 65), (.c (.int .i64 0)), (.c (.int .i64 0)), (.t 67)]), []⟩, ⟨(some 64), none, (.op (.mv (.t 68))), []⟩, ⟨(some 69), none, (.op (.ext 0 (.t 64))), []⟩, ⟨(some 70), none, (.op (.ext 1 (.t 64))), []⟩, ⟨(some 8), none, (.op (.mv (.t 69))), []⟩, ⟨(some 9), none, (.op (.mv (.t 70))), []⟩]) (.seq (.reg [⟨(some 72), none, (.op (.mv (.t 5))), []⟩, ⟨(some 73), none, (.op (.mv (.t 5))), []⟩, ⟨(some 74), none, (.call 15 [(.t 73), (.c (.int .i64 1))]), []⟩, ⟨(some 75), none, (.call 14 [(.t 72), (.c (.int .i64 1)), (.c (.int .i64 0)), (.t 74)]), []⟩, ⟨(some 71), none, (.op (.mv (.t 75))), []⟩, ⟨(some 76), none, (.op (.ext 0 (.t 71))), []⟩, ⟨(some 77), none, (.op (.ext 1 (.t 71))), []⟩, ⟨(some 10), none, (.op (.mv (.t 76))), []⟩, ⟨(some 11), none, (.op (.mv (.t 77))), []⟩]) (.seq (.seq (.reg [⟨(some 78), none, (.op (.mv (.t 5))), []⟩, ⟨(some 79), none, (.op (.mv (.t 8))), []⟩, ⟨(some 80), none, (.op (.lenL (.t 79))), []⟩, ⟨(some 81), none, (.op (.bslice 1 (.int .u8 0) 1 [(0, (.c (.int .u8 120)))])), []⟩, ⟨(some 82), none, (.op (.strish (.t 81))), []⟩, ⟨(some 83), none, (.call 13 [(.t 78), (.c (.int .i64 0)), (.t 80), (.t 82)]), []⟩, ⟨(some 84), none, (.op (.bin .neq (.t 83) (.c (.int .i64 0)))), []⟩]) (.cond (.t 84) (.seq (.reg [⟨(some 4), none, (.op (.mv (.c (.bool false)))), []⟩]) .ret) .skip)) (.seq (.reg [⟨(some 85), none, (.op (.mv (.t 5))), []⟩, ⟨(some 86), none, (.op (.mv (.t 1))), []⟩, ⟨(some 87), none, (.call 19 [(.t 85), (.t 86)]), []⟩]) (.seq (.reg [⟨(some 89), none, (.op (.mv (.t 5))), []⟩, ⟨(some 90), none, (.op (.mv (.t 8))), []⟩, ⟨(some 91), none, (.op (.lenL (.t 90))), []⟩, ⟨(some 92), none, (.op (.mv (.t 8))), []⟩, ⟨(some 93), none, (.op (.lenL (.t 92))), []⟩, ⟨(some 94), none, (.op (.bin .rem (.t 93) (.c (.int .i64 64)))), []⟩, ⟨(some 95), none, (.op (.bin .sub (.t 91) (.t 94))), []⟩, ⟨(some 96), none, (.call 14 [(.t 89), (.c (.int .i64 0)), (.c (.int .i64 0)), (.t 95)]), []⟩, ⟨(some 88), none, (.op (.mv (.t 96))), []⟩, ⟨(some 97), none, (.op (.ext 0 (.t 88))), []⟩, ⟨(some 98), none, (.op (.ext 1 (.t 88))), []⟩, ⟨(some 12), none, (.op (.mv (.t 97))), []⟩, ⟨(some 13), none, (.op (.mv (.t 98))), []⟩]) (.seq (.reg [⟨(some 100), none, (.op (.mv (.t 5))), []⟩, ⟨(some 101), none, (.op (.mv (.t 5))), []⟩, ⟨(some 102), none, (.call 15 [(.t 101), (.c (.int .i64 1))]), []⟩, ⟨(some 103), none, (.call 14 [(.t 100), (.c (.int .i64 1)), (.c (.int .i64 0)), (.t 102)]), []⟩, ⟨(some 99), none, (.op (.mv (.t 103))), []⟩, ⟨(some 104), none, (.op (.ext 0 (.t 99))), []⟩, ⟨(some 105), none, (.op (.ext 1 (.t 99))), []⟩, ⟨(some 14), none, (.op (.mv (.t 104))), []⟩, ⟨(some 15), none, (.op (.mv (.t 105))), []⟩]) (.seq (.reg [⟨(some 106), none, (.op (.mv (.t 13))), []⟩, ⟨(some 107), none, (.op (.bin .eql (.t 106) (.c (.int .i64 0)))), []⟩, ⟨(some 108), none, (.op (.mv (.t 107))), []⟩, ⟨(some 109), (some (108, true)), (.op (.mv (.t 15))), []⟩, ⟨(some 110), (some (108, true)), (.op (.bin .eql (.t 109) (.c (.int .i64 0)))), []⟩, ⟨(some 111), none, (.op (.pick (.t 108) (.t 110) (.c (.bool false)))), []⟩, ⟨(some 112), none, (.op (.mv (.t 111))), []⟩, ⟨(some 113), (some (112, true)), (.op (.mv (.t 12))), []⟩, ⟨(some 114), (some (112, true)), (.op (.toStr (.t 113))), []⟩, ⟨(some 115), (some (112, true)), (.op (.mv (.t 8))), []⟩, ⟨(some 116), (some (112, true)), (.op (.mv (.t 8))), []⟩, ⟨(some 117), (some (112, true)), (.op (.lenL (.t 116))), []⟩, ⟨(some 118), (some (112, true)), (.op (.mv (.t 8))), []⟩, ⟨(some 119), (some (112, true)), (.op (.lenL (.t 118))), []⟩, ⟨(some 120), (some (112, true)), (.op (.bin .rem (.t 119) (.c (.int .i64 64)))), []⟩, ⟨(some 121), (some (112, true)), (.op (.bin .sub (.t 117) (.t 120))), []⟩, ⟨(some 122), (some (112, true)), (.op (.slcL 1 (.t 115) none (some (.t 121)) none)), []⟩, ⟨(some 123), (some (112, true)), (.op (.toStr (.t 122))), []⟩, ⟨(some 124), (some (112, true)), (.op (.bin .eql (.t 114) (.t 123))), []⟩, ⟨(some 125), none, (.op (.pick (.t 112) (.t 124) (.c (.bool false)))), []⟩, ⟨(some 126), none, (.op (.mv (.t 125))), []⟩, ⟨(some 127), (some (126, true)), (.op (.mv (.t 14))), []⟩, ⟨(some 128), (some (126, true)), (.op (.toStr (.t 127))), []⟩, ⟨(some 129), (some (126, true)), (.op (.mv (.t 10))), []⟩, ⟨(some 130), (some (126, true)), (.op (.toStr (.t 129))), []⟩, ⟨(some 131), (some (126, true)), (.op (.bin .eql (.t 128) (.t 130))), []⟩, ⟨(some 132), none, (.op (.pick (.t 126) (.t 131) (.c (.bool false)))), []⟩, ⟨(some 133), none, (.op (.mv (.t 132))), []⟩, ⟨(some 134), (some (133, true)), (.op (.mv (.t 5))), []⟩, ⟨(some 136), (some (133, true)), (.op (.mv (.t 8))), []⟩, ⟨(some 137), (some (133, true)), (.op (.lenL (.t 136))), []⟩, ⟨(some 135), (some (133, true)), (.call 15 [(.t 134), (.c (.int .i64 0))]), [⟨(some 137), (some (133, true)), (.op (.lenL (.t 136)))⟩]⟩, ⟨(some 138), (some (133, true)), (.op (.bin .geq (.t 135) (.t 137))), []⟩, ⟨(some 139), none, (.op (.pick (.t 133) (.t 138) (.c (.bool false)))), []⟩, ⟨(some 4), none, (.op (.mv (.t 139))), []⟩]) .ret))))))))))))
noncomputable def F4 (lf : Nat) (script : V) (keep : V) (h : List Ob) : Option (V × List Ob) :=
bind3 (S4_2 lf script keep h) fun ex vs h_ =>
cB (decide (ex = .ret)) (
castCons vs fun c l =>
castBool c fun x4 =>
castNil l (
some ((.bool x4), h_))) (
cB (decide (ex = .normal)) (
castNil vs (
bind2 (F12 lf (1073741824) h_) fun x29 h_1 =>
bind1 (er (.lenL (.c script)) h_1) fun v =>
castInt .i64 v fun x31 =>
bind3 (L4_0 lf lf script x29 x31 (0) h_1) fun ex1 vs1 h_2 =>
cB (decide (ex1 = (.exit 0))) (
castNil vs1 (
bind3 (S4_1 lf x29 h_2) fun ex2 vs2 h_3 =>
cB (decide (ex2 = .ret)) (
castCons vs2 fun c l =>
castBool c fun x4 =>
castNil l (
some ((.bool x4), h_3))) (
cB (decide (ex2 = .normal)) (
castNil vs2 (
bind2 (F15 lf x29 (0) h_3) fun v1 h_4 =>
castInt .i64 v1 fun x67 =>
bind2 (F14 lf x29 (0) (0) x67 h_4) fun v2 h_5 =>
castTup v2 fun l =>
castCons l fun x68_0 l1 =>
castCons l1 fun c l2 =>
castInt .i64 c fun x68_1 =>
castNil l2 (
bind2 (F15 lf x29 (1) h_5) fun v3 h_6 =>
castInt .i64 v3 fun x74 =>
bind2 (F14 lf x29 (1) (0) x74 h_6) fun v4 h_7 =>
castTup v4 fun l3 =>
castCons l3 fun x75_0 l4 =>
castCons l4 fun c1 l5 =>
castInt .i64 c1 fun x75_1 =>
castNil l5 (
bind1 (er (.lenL (.c x68_0)) h_7) fun v5 =>
castInt .i64 v5 fun x80 =>
bind2 (ev (.bslice 1 (.int .u8 0) 1 [(0, (.c (.int .u8 (120))))]) h_7) fun x81 h_8 =>
bind1 (er (.strish (.c x81)) h_8) fun x82 =>
bind2 (F13 lf x29 (0) x80 x82 h_8) fun v6 h_9 =>
castInt .i64 v6 fun x83 =>
cB (x83 != (0)) (
some ((.bool false), h_9)) (
bind2 (F19 lf x29 keep h_9) fun x87 h_10 =>
bind1 (er (.lenL (.c x68_0)) h_10) fun v7 =>
castInt .i64 v7 fun x91 =>
bind1 (er (.lenL (.c x68_0)) h_10) fun v8 =>
castInt .i64 v8 fun x93 =>
bind2 (F14 lf x29 (0) (0) (IntKind.i64.wrap (x91 - (Int.tmod x93 (64)))) h_10) fun v9 h_11 =>
castTup v9 fun l6 =>
castCons l6 fun x96_0 l7 =>
castCons l7 fun c2 l8 =>
castInt .i64 c2 fun x96_1 =>
castNil l8 (
bind2 (F15 lf x29 (1) h_11) fun v10 h_12 =>
castInt .i64 v10 fun x102 =>
bind2 (F14 lf x29 (1) (0) x102 h_12) fun v11 h_13 =>
castTup v11 fun l9 =>
castCons l9 fun x103_0 l10 =>
castCons l10 fun c3 l11 =>
castInt .i64 c3 fun x103_1 =>
castNil l11 (
cB (x96_1 == (0)) (
cB (x103_1 == (0)) (
bind1 (er (.toStr (.c x96_0)) h_13) fun v12 =>
castStr v12 fun x114 =>
bind1 (er (.lenL (.c x68_0)) h_13) fun v13 =>
castInt .i64 v13 fun x117 =>
bind1 (er (.lenL (.c x68_0)) h_13) fun v14 =>
castInt .i64 v14 fun x119 =>
bind1 (er (.slcL 1 (.c x68_0) none (some (.c (.int .i64 (IntKind.i64.wrap (x117 - (Int.tmod x119 (64))))))) none) h_13) fun x122 =>
bind1 (er (.toStr (.c x122)) h_13) fun v15 =>
castStr v15 fun x123 =>
cB (x114 == x123) (
bind1 (er (.toStr (.c x103_0)) h_13) fun v16 =>
castStr v16 fun x128 =>
bind1 (er (.toStr (.c x75_0)) h_13) fun v17 =>
castStr v17 fun x130 =>
cB (x128 == x130) (
bind1 (er (.lenL (.c x68_0)) h_13) fun v18 =>
castInt .i64 v18 fun x137 =>
bind2 (F15 lf x29 (0) h_13) fun v19 h_14 =>
castInt .i64 v19 fun x135 =>
reP (er (.lenL (.c x68_0)) h_14 = some (.int .i64 x137)) (
some ((.bool (decide (x135 ≥ x137))), h_14))) (
some ((.bool false), h_13))) (
some ((.bool false), h_13))) (
some ((.bool false), h_13))) (
some ((.bool false), h_13))))))))) (
none)))) (
none))) (
none))
theorem F4_eq (lf : Nat) (script : V) (keep : V) (h : List Ob) : evCK A4 ⟨call4 lf, cvN, subC 1 (w4_1 (S4_1 lf)) (subC 0 (w4_0 (L4_0 lf lf)) (subC 2 (w4_2 (S4_2 lf)) (subN)))⟩ k4 (entryK [script, keep]) h (endF c4.res) = F4 lf script keep h := by kernel_rfl
theorem F4_ok (lf : Nat) (script : V) (keep : V) (h : List Ob) (r_ : V) (h_r : List Ob) (e_ : F4 lf script keep h = some (r_, h_r)) : CD Go.Proofs.Try.prog 4 [script, keep] h r_ h_r :=
  CD.ofK (A := A4) (σ := ⟨call4 lf, cvN, subC 1 (w4_1 (S4_1 lf)) (subC 0 (w4_0 (L4_0 lf lf)) (subC 2 (w4_2 (S4_2 lf)) (subN)))⟩) (c := k4) Go.Proofs.Try.func4 ok4 en4 (show 2 ≤ 140 by decide) (by kernel_rfl) (call4_ok lf) cvN_ok (And.intro True.intro (And.intro (S4_2_ok lf) (And.intro True.intro (And.intro (And.intro True.intro (L4_0_ok lf lf)) (And.intro (S4_1_ok lf) (And.intro True.intro (And.intro True.intro (And.intro (And.intro True.intro (And.intro (And.intro True.intro True.intro) True.intro)) (And.intro True.intro (And.intro True.intro (And.intro True.intro (And.intro True.intro True.intro)))))))))))) ((F4_eq lf script keep h).trans e_)
def w4 (f : V → V → List Ob → Option (V × List Ob)) (vs : List V) (h : List Ob) : Option (V × List Ob) := castCons vs fun c1 l1 => castCons l1 fun c2 l2 => castNil l2 (f c1 c2 h)
noncomputable def W4 (lf : Nat) : List V → List Ob → Option (V × List Ob) := w4 (F4 lf)
theorem W4_ok (lf : Nat) : ∀ args h v h', W4 lf args h = some (v, h') → CD Go.Proofs.Try.prog 4 args h v h' := by
  intro vs h r h' e0
  simp only [W4, w4] at e0
  obtain ⟨c1, l1, rfl, e1⟩ := castCons_inv e0
  obtain ⟨c2, l2, rfl, e2⟩ := castCons_inv e1
  obtain ⟨rfl, e3⟩ := castNil_inv e2
  have e := e3
  exact F4_ok lf c1 c2 h r h' e

end Go.Proofs.Ytbjphicipgneaaa.Kp
