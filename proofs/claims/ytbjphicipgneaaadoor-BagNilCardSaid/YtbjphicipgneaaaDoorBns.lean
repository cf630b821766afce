/- Functions of the program as Lean functions, and that each call comes to what its function says. Printed by my own tool. No condition. -/
import Derived.Test.YtbjphicipgneaaaDoorBn
import Derived.Test.YtbjphicipgneaaaDoorL3
namespace Go.Proofs.YtbjphicipgneaaaDoor.Bn
open Go Go.Proofs.YtbjphicipgneaaaDoor.E
set_option maxRecDepth 100000
set_option linter.unusedVariables false
set_option linter.unusedSimpArgs false

/-! 25: wainscot/value.Formed -/
def A25 : List (Nat × Sh) := [(0, (.agg [(.int .i64), (.int .i64), .str])), (2, .bool), (4, (.int .i64)), (5, .bool), (6, .bool), (7, (.agg [(.int .i64), (.int .i64), .str])), (8, (.agg [(.int .i64), (.int .i64), .str])), (9, .bool), (10, .bool), (11, .bool), (13, .str), (14, .bool), (15, .bool), (16, .bool), (18, (.int .i64)), (19, .bool), (20, .bool), (22, .str), (23, (.int .i64)), (24, .bool), (25, .bool)]
noncomputable def call25 (lf : Nat) : CallS := callN
theorem call25_ok (lf : Nat) : CallOk Go.Proofs.Tryd.prog (call25 lf) := callN_ok
def k25 : KC := (.seq (.reg [⟨(some 1), none, (.op (.box false (.t 0))), []⟩, ⟨(some 2), none, (.op (.mv (.c (.bool false)))), []⟩]) (.seq (.seq (.reg [⟨(some 3), none, (.op (.faddr 0 (.t 1))), []⟩, ⟨(some 4), none, (.op (.load1 (.t 3))), []⟩]) (.block 0 (.seq (.reg [⟨(some 6), none, (.op (.bin .eql (.t 4) (.c (.int .i64 0)))), []⟩, ⟨(some 5), none, (.op (.mv (.t 6))), []⟩]) (.cond (.t 5) (.seq (.reg [⟨(some 7), none, (.op (.loadN 3 (.t 1))), []⟩, ⟨(some 8), none, (.op (.build [(.int .i64 0), (.int .i64 0), (.str [])] [])), []⟩, ⟨(some 9), none, (.op (.eq false (.struct 3 [(0, .i), (1, .i), (2, .s)]) (.t 7) (.t 8))), []⟩, ⟨(some 2), none, (.op (.mv (.t 9))), []⟩]) .ret) (.seq (.reg [⟨(some 11), none, (.op (.bin .eql (.t 4) (.c (.int .i64 1)))), []⟩, ⟨(some 10), none, (.op (.mv (.t 11))), []⟩]) (.cond (.t 10) (.seq (.reg [⟨(some 12), none, (.op (.faddr 2 (.t 1))), []⟩, ⟨(some 13), none, (.op (.load1 (.t 12))), []⟩, ⟨(some 14), none, (.op (.bin .eql (.t 13) (.c (.str [])))), []⟩, ⟨(some 2), none, (.op (.mv (.t 14))), []⟩]) .ret) (.seq (.reg [⟨(some 16), none, (.op (.bin .eql (.t 4) (.c (.int .i64 2)))), []⟩, ⟨(some 15), none, (.op (.mv (.t 16))), []⟩]) (.cond (.t 15) (.seq (.reg [⟨(some 17), none, (.op (.faddr 1 (.t 1))), []⟩, ⟨(some 18), none, (.op (.load1 (.t 17))), []⟩, ⟨(some 19), none, (.op (.bin .eql (.t 18) (.c (.int .i64 0)))), []⟩, ⟨(some 20), none, (.op (.mv (.t 19))), []⟩, ⟨(some 21), (some (20, true)), (.op (.faddr 2 (.t 1))), []⟩, ⟨(some 22), (some (20, true)), (.op (.load1 (.t 21))), []⟩, ⟨(some 23), (some (20, true)), (.op (.lenS (.t 22))), []⟩, ⟨(some 24), (some (20, true)), (.op (.bin .leq (.t 23) (.c (.int .i64 100)))), []⟩, ⟨(some 25), none, (.op (.pick (.t 20) (.t 24) (.c (.bool false)))), []⟩, ⟨(some 2), none, (.op (.mv (.t 25))), []⟩]) .ret) .skip)))))))) (.seq (.reg [⟨(some 2), none, (.op (.mv (.c (.bool false)))), []⟩]) .ret)))
noncomputable def F25 (lf : Nat) (v : Int) (v1 : Int) (v2 : List UInt8) (h : List Ob) : Option (V × List Ob) :=
bind2 (ev (.box false (.c (.agg [(.int .i64 v), (.int .i64 v1), (.str v2)]))) h) fun v3 h_ =>
bind1 (er (.faddr 0 (.c v3)) h_) fun x3 =>
bind1 (er (.load1 (.c x3)) h_) fun v4 =>
castInt .i64 v4 fun x4 =>
cB (x4 == (0)) (
bind1 (er (.loadN 3 (.c v3)) h_) fun v5 =>
castAgg v5 fun l =>
castCons l fun c l1 =>
castInt .i64 c fun x7_0 =>
castCons l1 fun c1 l2 =>
castInt .i64 c1 fun x7_1 =>
castCons l2 fun c2 l3 =>
castStr c2 fun x7_2 =>
castNil l3 (
bind1 (er (.build [(.int .i64 0), (.int .i64 0), (.str [])] []) h_) fun v6 =>
castAgg v6 fun l4 =>
castCons l4 fun c3 l5 =>
castInt .i64 c3 fun x8_0 =>
castCons l5 fun c4 l6 =>
castInt .i64 c4 fun x8_1 =>
castCons l6 fun c5 l7 =>
castStr c5 fun x8_2 =>
castNil l7 (
bind1 (er (.eq false (.struct 3 [(0, .i), (1, .i), (2, .s)]) (.c (.agg [(.int .i64 x7_0), (.int .i64 x7_1), (.str x7_2)])) (.c (.agg [(.int .i64 x8_0), (.int .i64 x8_1), (.str x8_2)]))) h_) fun v7 =>
castBool v7 fun x9 =>
some ((.bool x9), h_)))) (
cB (x4 == (1)) (
bind1 (er (.faddr 2 (.c v3)) h_) fun x12 =>
bind1 (er (.load1 (.c x12)) h_) fun v5 =>
castStr v5 fun x13 =>
some ((.bool (x13 == ([] : List UInt8))), h_)) (
cB (x4 == (2)) (
bind1 (er (.faddr 1 (.c v3)) h_) fun x17 =>
bind1 (er (.load1 (.c x17)) h_) fun v5 =>
castInt .i64 v5 fun x18 =>
cB (x18 == (0)) (
bind1 (er (.faddr 2 (.c v3)) h_) fun x21 =>
bind1 (er (.load1 (.c x21)) h_) fun v6 =>
castStr v6 fun x22 =>
some ((.bool (decide (((x22).length : Int) ≤ (100)))), h_)) (
some ((.bool false), h_))) (
some ((.bool false), h_))))
theorem F25_eq (lf : Nat) (v : Int) (v1 : Int) (v2 : List UInt8) (h : List Ob) : evCK A25 ⟨call25 lf, cvN, subN⟩ k25 (entryK [(.agg [(.int .i64 v), (.int .i64 v1), (.str v2)])]) h (endF c25.res) = F25 lf v v1 v2 h := by kernel_rfl
theorem F25_ok (lf : Nat) (v : Int) (v1 : Int) (v2 : List UInt8) (h : List Ob) (r_ : V) (h_r : List Ob) (e_ : F25 lf v v1 v2 h = some (r_, h_r)) : CD Go.Proofs.Tryd.prog 25 [(.agg [(.int .i64 v), (.int .i64 v1), (.str v2)])] h r_ h_r :=
  CD.ofK (A := A25) (σ := ⟨call25 lf, cvN, subN⟩) (c := k25) Go.Proofs.Tryd.func25 ok25 en25 (show 1 ≤ 26 by decide) (by kernel_rfl) (call25_ok lf) cvN_ok (And.intro True.intro (And.intro (And.intro True.intro (And.intro True.intro (And.intro (And.intro True.intro True.intro) (And.intro True.intro (And.intro (And.intro True.intro True.intro) (And.intro True.intro (And.intro (And.intro True.intro True.intro) True.intro))))))) (And.intro True.intro True.intro))) ((F25_eq lf v v1 v2 h).trans e_)
def w25 (f : Int → Int → List UInt8 → List Ob → Option (V × List Ob)) (vs : List V) (h : List Ob) : Option (V × List Ob) := castCons vs fun c1 l1 => castAgg c1 fun n2 => castCons n2 fun c3 l3 => castInt .i64 c3 fun n4 => castCons l3 fun c5 l5 => castInt .i64 c5 fun n6 => castCons l5 fun c7 l7 => castStr c7 fun n8 => castNil l7 (castNil l1 (f n4 n6 n8 h))
noncomputable def W25 (lf : Nat) : List V → List Ob → Option (V × List Ob) := w25 (F25 lf)
theorem W25_ok (lf : Nat) : ∀ args h v h', W25 lf args h = some (v, h') → CD Go.Proofs.Tryd.prog 25 args h v h' := by
  intro vs h r h' e0
  simp only [W25, w25] at e0
  obtain ⟨c1, l1, rfl, e1⟩ := castCons_inv e0
  obtain ⟨l2, rfl, e2⟩ := castAgg_inv e1
  obtain ⟨c3, l3, rfl, e3⟩ := castCons_inv e2
  obtain ⟨y0, rfl, e4⟩ := castInt_inv e3
  obtain ⟨c4, l4, rfl, e5⟩ := castCons_inv e4
  obtain ⟨y1, rfl, e6⟩ := castInt_inv e5
  obtain ⟨c5, l5, rfl, e7⟩ := castCons_inv e6
  obtain ⟨y2, rfl, e8⟩ := castStr_inv e7
  obtain ⟨rfl, e9⟩ := castNil_inv e8
  obtain ⟨rfl, e10⟩ := castNil_inv e9
  have e := e10
  exact F25_ok lf y0 y1 y2 h r h' e

/-! 59: bytes.IndexByte -/
def A59 : List (Nat × Sh) := [(1, (.int .u8)), (4, (.int .i64)), (6, (.int .u8)), (7, (.int .i64))]
noncomputable def call59 (lf : Nat) : CallS := callN
theorem call59_ok (lf : Nat) : CallOk Go.Proofs.Tryd.prog (call59 lf) := callN_ok
def k59 : KC := (.seq (.reg [⟨(some 4), none, (.op (.mv (.c (.int .i64 0)))), []⟩]) (.seq (.reg [⟨(some 5), none, (.op (.mv (.t 0))), []⟩, ⟨(some 6), none, (.op (.mv (.t 1))), []⟩, ⟨(some 7), none, (.op (.idxB (.t 5) (.t 6))), []⟩, ⟨(some 4), none, (.op (.mv (.t 7))), []⟩]) .ret))
noncomputable def F59 (lf : Nat) (b : V) (c : Int) (h : List Ob) : Option (V × List Ob) :=
bind1 (er (.idxB (.c b) (.c (.int .u8 c))) h) fun v =>
castInt .i64 v fun x7 =>
some ((.int .i64 x7), h)
theorem F59_eq (lf : Nat) (b : V) (c : Int) (h : List Ob) : evCK A59 ⟨call59 lf, cvN, subN⟩ k59 (entryK [b, (.int .u8 c)]) h (endF c59.res) = F59 lf b c h := by kernel_rfl
theorem F59_ok (lf : Nat) (b : V) (c : Int) (h : List Ob) (r_ : V) (h_r : List Ob) (e_ : F59 lf b c h = some (r_, h_r)) : CD Go.Proofs.Tryd.prog 59 [b, (.int .u8 c)] h r_ h_r :=
  CD.ofK (A := A59) (σ := ⟨call59 lf, cvN, subN⟩) (c := k59) Go.Proofs.Tryd.func59 ok59 en59 (show 2 ≤ 8 by decide) (by kernel_rfl) (call59_ok lf) cvN_ok (And.intro True.intro (And.intro True.intro True.intro)) ((F59_eq lf b c h).trans e_)
def w59 (f : V → Int → List Ob → Option (V × List Ob)) (vs : List V) (h : List Ob) : Option (V × List Ob) := castCons vs fun c1 l1 => castCons l1 fun c2 l2 => castInt .u8 c2 fun n3 => castNil l2 (f c1 n3 h)
noncomputable def W59 (lf : Nat) : List V → List Ob → Option (V × List Ob) := w59 (F59 lf)
theorem W59_ok (lf : Nat) : ∀ args h v h', W59 lf args h = some (v, h') → CD Go.Proofs.Tryd.prog 59 args h v h' := by
  intro vs h r h' e0
  simp only [W59, w59] at e0
  obtain ⟨c1, l1, rfl, e1⟩ := castCons_inv e0
  obtain ⟨c2, l2, rfl, e2⟩ := castCons_inv e1
  obtain ⟨y1, rfl, e3⟩ := castInt_inv e2
  obtain ⟨rfl, e4⟩ := castNil_inv e3
  have e := e4
  exact F59_ok lf c1 y1 h r h' e

/-! 47: bytes.Index -/
def A47 : List (Nat × Sh) := [(4, (.int .i64)), (5, (.int .i64)), (6, (.int .u8)), (7, (.int .u8)), (8, (.int .i64)), (9, (.int .i64)), (10, (.int .i64)), (11, (.int .i64)), (12, (.int .i64)), (13, (.int .u8)), (14, (.int .u8)), (15, (.int .i64)), (16, (.int .i64)), (17, (.int .i64)), (18, (.int .i64)), (19, (.int .i64)), (21, (.int .i64)), (22, .bool), (23, (.int .i64)), (24, .bool), (25, .bool), (26, (.int .i64)), (27, .bool), (31, (.int .u8)), (32, (.int .i64)), (33, .bool), (34, (.int .i64)), (36, (.int .i64)), (37, .bool), (40, .bool), (41, .bool), (42, (.int .i64)), (44, (.int .i64)), (45, .bool), (46, .bool), (47, (.int .i64)), (48, (.int .i64)), (49, .bool), (51, (.int .i64)), (52, .bool), (55, (.int .i64)), (58, (.int .u8)), (61, (.int .u8)), (63, (.int .i64)), (64, (.int .i64)), (65, (.int .i64)), (66, (.int .i64)), (67, (.int .i64)), (68, (.int .i64)), (69, .bool), (71, (.int .i64)), (73, (.int .u8)), (74, (.int .u8)), (75, .bool), (77, (.int .i64)), (78, (.int .i64)), (79, (.int .i64)), (81, (.int .u8)), (82, (.int .i64)), (83, (.int .i64)), (84, .bool), (85, (.int .i64)), (86, (.int .i64)), (87, (.int .i64)), (88, (.int .i64)), (90, (.int .i64)), (91, (.int .i64)), (93, (.int .u8)), (94, (.int .u8)), (95, .bool), (96, .bool), (98, (.int .i64)), (99, (.int .i64)), (100, (.int .i64)), (101, (.int .i64)), (104, .bool), (105, .bool), (106, (.int .i64)), (107, (.int .i64)), (108, (.int .i64)), (109, (.int .i64)), (110, (.int .i64)), (111, (.int .i64)), (112, (.int .i64)), (113, (.int .i64)), (114, .bool), (116, (.int .i64)), (119, (.int .i64)), (120, (.int .i64)), (121, .bool), (122, (.int .i64)), (123, (.int .i64)), (124, (.int .i64)), (127, (.int .u8)), (130, (.int .u8)), (132, (.int .i64)), (133, (.int .i64)), (134, (.int .i64)), (135, (.int .i64)), (136, (.int .i64)), (137, (.int .i64)), (138, .bool), (140, (.int .i64)), (142, (.int .u8)), (143, (.int .u8)), (144, .bool), (146, (.int .i64)), (147, (.int .i64)), (148, (.int .i64)), (150, (.int .u8)), (151, (.int .i64)), (152, (.int .i64)), (153, .bool), (154, (.int .i64)), (155, (.int .i64)), (156, (.int .i64)), (157, (.int .i64)), (159, (.int .i64)), (160, (.int .i64)), (162, (.int .u8)), (163, (.int .u8)), (164, .bool), (165, .bool), (167, (.int .i64)), (168, (.int .i64)), (169, (.int .i64)), (170, (.int .i64)), (173, .bool), (174, .bool), (175, (.int .i64)), (176, (.int .i64)), (177, (.int .i64)), (178, (.int .i64)), (179, (.int .i64)), (180, (.int .i64)), (181, (.int .i64)), (182, (.int .i64)), (183, (.int .i64)), (184, .bool), (185, .bool), (186, (.int .i64)), (187, (.int .i64)), (188, .bool), (189, .bool), (191, (.int .i64)), (194, (.int .i64)), (195, (.int .i64)), (196, .bool), (197, (.int .i64)), (198, (.int .i64)), (199, (.int .i64))]
noncomputable def call47 (lf : Nat) : CallS := callC 59 (W59 lf) (callN)
theorem call47_ok (lf : Nat) : CallOk Go.Proofs.Tryd.prog (call47 lf) := callC_ok (W59_ok lf) (callN_ok)
def o47_0 : Outs := [(.ret, [4], [(.int .i64)]), (.normal, [], [])]
def k47_0 : KC := (.seq (.reg [⟨(some 89), none, (.op (.mv (.t 0))), []⟩, ⟨(some 90), none, (.op (.mv (.t 8))), []⟩, ⟨(some 91), none, (.op (.bin .add (.t 90) (.c (.int .i64 1)))), []⟩, ⟨(some 92), none, (.op (.iaddrL 1 (.t 89) (.t 91))), []⟩, ⟨(some 93), none, (.op (.load1 (.t 92))), []⟩, ⟨(some 94), none, (.op (.mv (.t 7))), []⟩, ⟨(some 95), none, (.op (.bin .eql (.t 93) (.t 94))), []⟩, ⟨(some 96), none, (.op (.mv (.t 95))), []⟩, ⟨(some 97), (some (96, true)), (.op (.mv (.t 0))), []⟩, ⟨(some 98), (some (96, true)), (.op (.mv (.t 8))), []⟩, ⟨(some 99), (some (96, true)), (.op (.mv (.t 8))), []⟩, ⟨(some 100), (some (96, true)), (.op (.mv (.t 5))), []⟩, ⟨(some 101), (some (96, true)), (.op (.bin .add (.t 99) (.t 100))), []⟩, ⟨(some 102), (some (96, true)), (.op (.slcL 1 (.t 97) (some (.t 98)) (some (.t 101)) none)), []⟩, ⟨(some 103), (some (96, true)), (.op (.mv (.t 1))), []⟩, ⟨(some 104), (some (96, true)), (.call 60 [(.t 102), (.t 103)]), []⟩, ⟨(some 105), none, (.op (.pick (.t 96) (.t 104) (.c (.bool false)))), []⟩]) (.cond (.t 105) (.seq (.reg [⟨(some 106), none, (.op (.mv (.t 8))), []⟩, ⟨(some 4), none, (.op (.mv (.t 106))), []⟩]) .ret) .skip))
def w47_0 (f : V → V → Int → Int → Int → List Ob → SubR) (vs : List V) (h : List Ob) : SubR := castCons vs fun c1 l1 => castCons l1 fun c2 l2 => castCons l2 fun c3 l3 => castInt .i64 c3 fun n4 => castCons l3 fun c5 l5 => castInt .u8 c5 fun n6 => castCons l5 fun c7 l7 => castInt .i64 c7 fun n8 => castNil l7 (f c1 c2 n4 n6 n8 h)
noncomputable def S47_0 (lf : Nat) (s : V) (sep : V) (n_ : Int) (c1 : Int) (i : Int) (h : List Ob) : SubR :=
bind1 (er (.iaddrL 1 (.c s) (.c (.int .i64 (IntKind.i64.wrap (i + (1)))))) h) fun x92 =>
bind1 (er (.load1 (.c x92)) h) fun v =>
castInt .u8 v fun x93 =>
cB (x93 == c1) (
bind1 (er (.slcL 1 (.c s) (some (.c (.int .i64 i))) (some (.c (.int .i64 (IntKind.i64.wrap (i + n_))))) none) h) fun x102 =>
none) (
some (.normal, [], h))
theorem S47_0_eq (lf : Nat) (s : V) (sep : V) (n_ : Int) (c1 : Int) (i : Int) (h : List Ob) : evCK A47 ⟨call47 lf, cvN, subN⟩ k47_0 [(0, s), (1, sep), (5, (.int .i64 n_)), (7, (.int .u8 c1)), (8, (.int .i64 i))] h (endK o47_0) = S47_0 lf s sep n_ c1 i h := by kernel_rfl
theorem S47_0_ok (lf : Nat) : SubOk Go.Proofs.Tryd.prog k47_0.er [0, 1, 5, 7, 8] o47_0 (w47_0 (S47_0 lf)) := by
  refine SubOk.of (A := A47) (σ := ⟨call47 lf, cvN, subN⟩) (c := k47_0) (call47_ok lf) cvN_ok (And.intro True.intro (And.intro (And.intro True.intro True.intro) True.intro)) ?_
  intro vs h r e0
  simp only [w47_0] at e0
  obtain ⟨c1, l1, rfl, e1⟩ := castCons_inv e0
  obtain ⟨c2, l2, rfl, e2⟩ := castCons_inv e1
  obtain ⟨c3, l3, rfl, e3⟩ := castCons_inv e2
  obtain ⟨y2, rfl, e4⟩ := castInt_inv e3
  obtain ⟨c4, l4, rfl, e5⟩ := castCons_inv e4
  obtain ⟨y3, rfl, e6⟩ := castInt_inv e5
  obtain ⟨c5, l5, rfl, e7⟩ := castCons_inv e6
  obtain ⟨y4, rfl, e8⟩ := castInt_inv e7
  obtain ⟨rfl, e9⟩ := castNil_inv e8
  have e := e9
  exact (S47_0_eq lf c1 c2 y2 y3 y4 h).trans e
def o47_1 : Outs := [(.ret, [4], [(.int .i64)]), (.normal, [8], [(.int .i64)])]
def k47_1 : KC := (.seq (.reg [⟨(some 70), none, (.op (.mv (.t 0))), []⟩, ⟨(some 71), none, (.op (.mv (.t 8))), []⟩, ⟨(some 72), none, (.op (.iaddrL 1 (.t 70) (.t 71))), []⟩, ⟨(some 73), none, (.op (.load1 (.t 72))), []⟩, ⟨(some 74), none, (.op (.mv (.t 6))), []⟩, ⟨(some 75), none, (.op (.bin .neq (.t 73) (.t 74))), []⟩]) (.cond (.t 75) (.seq (.reg [⟨(some 76), none, (.op (.mv (.t 0))), []⟩, ⟨(some 77), none, (.op (.mv (.t 8))), []⟩, ⟨(some 78), none, (.op (.bin .add (.t 77) (.c (.int .i64 1)))), []⟩, ⟨(some 79), none, (.op (.mv (.t 9))), []⟩, ⟨(some 80), none, (.op (.slcL 1 (.t 76) (some (.t 78)) (some (.t 79)) none)), []⟩, ⟨(some 81), none, (.op (.mv (.t 6))), []⟩, ⟨(some 82), none, (.call 59 [(.t 80), (.t 81)]), []⟩, ⟨(some 11), none, (.op (.mv (.t 82))), []⟩]) (.seq (.seq (.reg [⟨(some 83), none, (.op (.mv (.t 11))), []⟩, ⟨(some 84), none, (.op (.bin .lss (.t 83) (.c (.int .i64 0)))), []⟩]) (.cond (.t 84) (.seq (.reg [⟨(some 4), none, (.op (.mv (.c (.int .i64 (-0 - 1))))), []⟩]) .ret) .skip)) (.reg [⟨(some 85), none, (.op (.mv (.t 8))), []⟩, ⟨(some 86), none, (.op (.mv (.t 11))), []⟩, ⟨(some 87), none, (.op (.bin .add (.t 86) (.c (.int .i64 1)))), []⟩, ⟨(some 88), none, (.op (.bin .add (.t 85) (.t 87))), []⟩, ⟨(some 8), none, (.op (.mv (.t 88))), []⟩]))) .skip))
def w47_1 (f : V → Int → Int → Int → List Ob → SubR) (vs : List V) (h : List Ob) : SubR := castCons vs fun c1 l1 => castCons l1 fun c2 l2 => castInt .u8 c2 fun n3 => castCons l2 fun c4 l4 => castInt .i64 c4 fun n5 => castCons l4 fun c6 l6 => castInt .i64 c6 fun n7 => castNil l6 (f c1 n3 n5 n7 h)
noncomputable def S47_1 (lf : Nat) (s : V) (c0 : Int) (i : Int) (t : Int) (h : List Ob) : SubR :=
bind1 (er (.iaddrL 1 (.c s) (.c (.int .i64 i))) h) fun x72 =>
bind1 (er (.load1 (.c x72)) h) fun v =>
castInt .u8 v fun x73 =>
cB (x73 != c0) (
bind1 (er (.slcL 1 (.c s) (some (.c (.int .i64 (IntKind.i64.wrap (i + (1)))))) (some (.c (.int .i64 t))) none) h) fun x80 =>
bind2 (F59 lf x80 c0 h) fun v1 h_ =>
castInt .i64 v1 fun x82 =>
cB (decide (x82 < (0))) (
some (.ret, [(.int .i64 (-1))], h_)) (
some (.normal, [(.int .i64 (IntKind.i64.wrap (i + (IntKind.i64.wrap (x82 + (1))))))], h_))) (
some (.normal, [(.int .i64 i)], h))
theorem S47_1_eq (lf : Nat) (s : V) (c0 : Int) (i : Int) (t : Int) (h : List Ob) : evCK A47 ⟨call47 lf, cvN, subN⟩ k47_1 [(0, s), (6, (.int .u8 c0)), (8, (.int .i64 i)), (9, (.int .i64 t))] h (endK o47_1) = S47_1 lf s c0 i t h := by kernel_rfl
theorem S47_1_ok (lf : Nat) : SubOk Go.Proofs.Tryd.prog k47_1.er [0, 6, 8, 9] o47_1 (w47_1 (S47_1 lf)) := by
  refine SubOk.of (A := A47) (σ := ⟨call47 lf, cvN, subN⟩) (c := k47_1) (call47_ok lf) cvN_ok (And.intro True.intro (And.intro (And.intro True.intro (And.intro (And.intro True.intro (And.intro (And.intro True.intro True.intro) True.intro)) True.intro)) True.intro)) ?_
  intro vs h r e0
  simp only [w47_1] at e0
  obtain ⟨c1, l1, rfl, e1⟩ := castCons_inv e0
  obtain ⟨c2, l2, rfl, e2⟩ := castCons_inv e1
  obtain ⟨y1, rfl, e3⟩ := castInt_inv e2
  obtain ⟨c3, l3, rfl, e4⟩ := castCons_inv e3
  obtain ⟨y2, rfl, e5⟩ := castInt_inv e4
  obtain ⟨c4, l4, rfl, e6⟩ := castCons_inv e5
  obtain ⟨y3, rfl, e7⟩ := castInt_inv e6
  obtain ⟨rfl, e8⟩ := castNil_inv e7
  have e := e8
  exact (S47_1_eq lf c1 y1 y2 y3 h).trans e
def o47_2 : Outs := [((.exit 1), [], []), (.ret, [4], [(.int .i64)])]
def k47_2 : KC := (.seq (.seq (.reg [⟨(some 67), none, (.op (.mv (.t 8))), []⟩, ⟨(some 68), none, (.op (.mv (.t 9))), []⟩, ⟨(some 69), none, (.op (.bin .lss (.t 67) (.t 68))), []⟩]) (.cond (.t 69) .skip (.exit 1))) (.block 2 (.seq (.sub 1 k47_1.er [0, 6, 8, 9] o47_1) (.seq (.sub 0 k47_0.er [0, 1, 5, 7, 8] o47_0) (.seq (.reg [⟨(some 107), none, (.op (.mv (.t 10))), []⟩, ⟨(some 108), none, (.op (.bin .add (.t 107) (.c (.int .i64 1)))), []⟩, ⟨(some 10), none, (.op (.mv (.t 108))), []⟩]) (.seq (.reg [⟨(some 109), none, (.op (.mv (.t 8))), []⟩, ⟨(some 110), none, (.op (.bin .add (.t 109) (.c (.int .i64 1)))), []⟩, ⟨(some 8), none, (.op (.mv (.t 110))), []⟩]) (.seq (.reg [⟨(some 111), none, (.op (.mv (.t 10))), []⟩, ⟨(some 112), none, (.op (.mv (.t 8))), []⟩, ⟨(some 113), none, (.call 62 [(.t 112)]), []⟩, ⟨(some 114), none, (.op (.bin .gtr (.t 111) (.t 113))), []⟩]) (.cond (.t 114) (.seq (.reg [⟨(some 115), none, (.op (.mv (.t 0))), []⟩, ⟨(some 116), none, (.op (.mv (.t 8))), []⟩, ⟨(some 117), none, (.op (.slcL 1 (.t 115) (some (.t 116)) none none)), []⟩, ⟨(some 118), none, (.op (.mv (.t 1))), []⟩, ⟨(some 119), none, .bad, []⟩, ⟨(some 12), none, (.op (.mv (.t 119))), []⟩]) (.seq (.seq (.reg [⟨(some 120), none, (.op (.mv (.t 12))), []⟩, ⟨(some 121), none, (.op (.bin .geq (.t 120) (.c (.int .i64 0)))), []⟩]) (.cond (.t 121) (.seq (.reg [⟨(some 122), none, (.op (.mv (.t 12))), []⟩, ⟨(some 123), none, (.op (.mv (.t 8))), []⟩, ⟨(some 124), none, (.op (.bin .add (.t 122) (.t 123))), []⟩, ⟨(some 4), none, (.op (.mv (.t 124))), []⟩]) .ret) .skip)) (.seq (.reg [⟨(some 4), none, (.op (.mv (.c (.int .i64 (-0 - 1))))), []⟩]) .ret))) .skip))))))))
def w47_2 (f : V → V → Int → Int → Int → Int → Int → Int → List Ob → SubR) (vs : List V) (h : List Ob) : SubR := castCons vs fun c1 l1 => castCons l1 fun c2 l2 => castCons l2 fun c3 l3 => castInt .i64 c3 fun n4 => castCons l3 fun c5 l5 => castInt .u8 c5 fun n6 => castCons l5 fun c7 l7 => castInt .u8 c7 fun n8 => castCons l7 fun c9 l9 => castInt .i64 c9 fun n10 => castCons l9 fun c11 l11 => castInt .i64 c11 fun n12 => castCons l11 fun c13 l13 => castInt .i64 c13 fun n14 => castNil l13 (f c1 c2 n4 n6 n8 n10 n12 n14 h)
noncomputable def B47_2 (lf : Nat) (self : V → V → Int → Int → Int → Int → Int → Int → List Ob → SubR) (s : V) (sep : V) (n_ : Int) (c0 : Int) (c1 : Int) (i : Int) (t : Int) (fails : Int) (h : List Ob) : SubR :=
cB (decide (i < t)) (
bind3 (S47_1 lf s c0 i t h) fun ex vs h_ =>
cB (decide (ex = .ret)) (
castCons vs fun c l =>
castInt .i64 c fun x4 =>
castNil l (
some (.ret, [(.int .i64 x4)], h_))) (
cB (decide (ex = .normal)) (
castCons vs fun c l =>
castInt .i64 c fun i1 =>
castNil l (
bind3 (S47_0 lf s sep n_ c1 i1 h_) fun ex1 vs1 h_1 =>
cB (decide (ex1 = .ret)) (
castCons vs1 fun c2 l1 =>
castInt .i64 c2 fun x4 =>
castNil l1 (
some (.ret, [(.int .i64 x4)], h_1))) (
cB (decide (ex1 = .normal)) (
castNil vs1 (
none)) (
none)))) (
none))) (
some ((.exit 1), [], h))
noncomputable def L47_2 (lf : Nat) : Nat → V → V → Int → Int → Int → Int → Int → Int → List Ob → SubR
  | 0 => fun _ _ _ _ _ _ _ _ _ => none
  | n + 1 => B47_2 lf (L47_2 lf n)
theorem B47_2_eq (lf : Nat) (self : V → V → Int → Int → Int → Int → Int → Int → List Ob → SubR) (s : V) (sep : V) (n_ : Int) (c0 : Int) (c1 : Int) (i : Int) (t : Int) (fails : Int) (h : List Ob) : evCK A47 ⟨call47 lf, cvN, subC 0 (w47_0 (S47_0 lf)) (subC 1 (w47_1 (S47_1 lf)) (subN))⟩ k47_2 [(0, s), (1, sep), (5, (.int .i64 n_)), (6, (.int .u8 c0)), (7, (.int .u8 c1)), (8, (.int .i64 i)), (9, (.int .i64 t)), (10, (.int .i64 fails))] h (endL [0, 1, 5, 6, 7, 8, 9, 10] [.any, .any, (.int .i64), (.int .u8), (.int .u8), (.int .i64), (.int .i64), (.int .i64)] o47_2 (w47_2 self)) = B47_2 lf self s sep n_ c0 c1 i t fails h := by kernel_rfl
theorem L47_2_ok (lf : Nat) : ∀ n, SubOk Go.Proofs.Tryd.prog (.loop k47_2.er) [0, 1, 5, 6, 7, 8, 9, 10] o47_2 (w47_2 (L47_2 lf n)) := by
  refine SubOk.loop (A := A47) (σ := ⟨call47 lf, cvN, subC 0 (w47_0 (S47_0 lf)) (subC 1 (w47_1 (S47_1 lf)) (subN))⟩) (c := k47_2) (shs := [.any, .any, (.int .i64), (.int .u8), (.int .u8), (.int .i64), (.int .i64), (.int .i64)]) (G := fun n => w47_2 (L47_2 lf n)) (call47_ok lf) cvN_ok (And.intro (And.intro True.intro (And.intro True.intro True.intro)) (And.intro (S47_1_ok lf) (And.intro (S47_0_ok lf) (And.intro True.intro (And.intro True.intro (And.intro True.intro (And.intro (And.intro True.intro (And.intro (And.intro True.intro (And.intro (And.intro True.intro True.intro) True.intro)) (And.intro True.intro True.intro))) True.intro))))))) ?_ ?_
  · intro vs h r e0
    simp only [w47_2] at e0
    obtain ⟨c1, l1, rfl, e1⟩ := castCons_inv e0
    obtain ⟨c2, l2, rfl, e2⟩ := castCons_inv e1
    obtain ⟨c3, l3, rfl, e3⟩ := castCons_inv e2
    obtain ⟨y2, rfl, e4⟩ := castInt_inv e3
    obtain ⟨c4, l4, rfl, e5⟩ := castCons_inv e4
    obtain ⟨y3, rfl, e6⟩ := castInt_inv e5
    obtain ⟨c5, l5, rfl, e7⟩ := castCons_inv e6
    obtain ⟨y4, rfl, e8⟩ := castInt_inv e7
    obtain ⟨c6, l6, rfl, e9⟩ := castCons_inv e8
    obtain ⟨y5, rfl, e10⟩ := castInt_inv e9
    obtain ⟨c7, l7, rfl, e11⟩ := castCons_inv e10
    obtain ⟨y6, rfl, e12⟩ := castInt_inv e11
    obtain ⟨c8, l8, rfl, e13⟩ := castCons_inv e12
    obtain ⟨y7, rfl, e14⟩ := castInt_inv e13
    obtain ⟨rfl, e15⟩ := castNil_inv e14
    have e := e15
    cases e
  · intro n vs h r e0
    simp only [w47_2] at e0
    obtain ⟨c1, l1, rfl, e1⟩ := castCons_inv e0
    obtain ⟨c2, l2, rfl, e2⟩ := castCons_inv e1
    obtain ⟨c3, l3, rfl, e3⟩ := castCons_inv e2
    obtain ⟨y2, rfl, e4⟩ := castInt_inv e3
    obtain ⟨c4, l4, rfl, e5⟩ := castCons_inv e4
    obtain ⟨y3, rfl, e6⟩ := castInt_inv e5
    obtain ⟨c5, l5, rfl, e7⟩ := castCons_inv e6
    obtain ⟨y4, rfl, e8⟩ := castInt_inv e7
    obtain ⟨c6, l6, rfl, e9⟩ := castCons_inv e8
    obtain ⟨y5, rfl, e10⟩ := castInt_inv e9
    obtain ⟨c7, l7, rfl, e11⟩ := castCons_inv e10
    obtain ⟨y6, rfl, e12⟩ := castInt_inv e11
    obtain ⟨c8, l8, rfl, e13⟩ := castCons_inv e12
    obtain ⟨y7, rfl, e14⟩ := castInt_inv e13
    obtain ⟨rfl, e15⟩ := castNil_inv e14
    have e := e15
    exact (B47_2_eq lf (L47_2 lf n) c1 c2 y2 y3 y4 y5 y6 y7 h).trans e
def o47_3 : Outs := [(.normal, [189], [.bool])]
def k47_3 : KC := (.reg [⟨(some 180), none, (.op (.mv (.t 16))), []⟩, ⟨(some 181), none, (.op (.mv (.t 15))), []⟩, ⟨(some 182), none, (.op (.bin .shr (.t 181) (.c (.int .u64 4)))), []⟩, ⟨(some 183), none, (.op (.bin .add (.c (.int .i64 4)) (.t 182))), []⟩, ⟨(some 184), none, (.op (.bin .geq (.t 180) (.t 183))), []⟩, ⟨(some 185), none, (.op (.mv (.t 184))), []⟩, ⟨(some 186), (some (185, true)), (.op (.mv (.t 15))), []⟩, ⟨(some 187), (some (185, true)), (.op (.mv (.t 17))), []⟩, ⟨(some 188), (some (185, true)), (.op (.bin .lss (.t 186) (.t 187))), []⟩, ⟨(some 189), none, (.op (.pick (.t 185) (.t 188) (.c (.bool false)))), []⟩])
def w47_3 (f : Int → Int → Int → List Ob → SubR) (vs : List V) (h : List Ob) : SubR := castCons vs fun c1 l1 => castInt .i64 c1 fun n2 => castCons l1 fun c3 l3 => castInt .i64 c3 fun n4 => castCons l3 fun c5 l5 => castInt .i64 c5 fun n6 => castNil l5 (f n2 n4 n6 h)
noncomputable def S47_3 (lf : Nat) (i : Int) (fails : Int) (t : Int) (h : List Ob) : SubR :=
cB (decide (fails ≥ (IntKind.i64.wrap ((4) + (Int.fdiv i (2 ^ 4)))))) (
some (.normal, [(.bool (decide (i < t)))], h)) (
some (.normal, [(.bool false)], h))
theorem S47_3_eq (lf : Nat) (i : Int) (fails : Int) (t : Int) (h : List Ob) : evCK A47 ⟨call47 lf, cvN, subN⟩ k47_3 [(15, (.int .i64 i)), (16, (.int .i64 fails)), (17, (.int .i64 t))] h (endK o47_3) = S47_3 lf i fails t h := by kernel_rfl
theorem S47_3_ok (lf : Nat) : SubOk Go.Proofs.Tryd.prog k47_3.er [15, 16, 17] o47_3 (w47_3 (S47_3 lf)) := by
  refine SubOk.of (A := A47) (σ := ⟨call47 lf, cvN, subN⟩) (c := k47_3) (call47_ok lf) cvN_ok True.intro ?_
  intro vs h r e0
  simp only [w47_3] at e0
  obtain ⟨c1, l1, rfl, e1⟩ := castCons_inv e0
  obtain ⟨y0, rfl, e2⟩ := castInt_inv e1
  obtain ⟨c2, l2, rfl, e3⟩ := castCons_inv e2
  obtain ⟨y1, rfl, e4⟩ := castInt_inv e3
  obtain ⟨c3, l3, rfl, e5⟩ := castCons_inv e4
  obtain ⟨y2, rfl, e6⟩ := castInt_inv e5
  obtain ⟨rfl, e7⟩ := castNil_inv e6
  have e := e7
  exact (S47_3_eq lf y0 y1 y2 h).trans e
def o47_4 : Outs := [(.ret, [4], [(.int .i64)]), (.normal, [], [])]
def k47_4 : KC := (.seq (.reg [⟨(some 158), none, (.op (.mv (.t 0))), []⟩, ⟨(some 159), none, (.op (.mv (.t 15))), []⟩, ⟨(some 160), none, (.op (.bin .add (.t 159) (.c (.int .i64 1)))), []⟩, ⟨(some 161), none, (.op (.iaddrL 1 (.t 158) (.t 160))), []⟩, ⟨(some 162), none, (.op (.load1 (.t 161))), []⟩, ⟨(some 163), none, (.op (.mv (.t 14))), []⟩, ⟨(some 164), none, (.op (.bin .eql (.t 162) (.t 163))), []⟩, ⟨(some 165), none, (.op (.mv (.t 164))), []⟩, ⟨(some 166), (some (165, true)), (.op (.mv (.t 0))), []⟩, ⟨(some 167), (some (165, true)), (.op (.mv (.t 15))), []⟩, ⟨(some 168), (some (165, true)), (.op (.mv (.t 15))), []⟩, ⟨(some 169), (some (165, true)), (.op (.mv (.t 5))), []⟩, ⟨(some 170), (some (165, true)), (.op (.bin .add (.t 168) (.t 169))), []⟩, ⟨(some 171), (some (165, true)), (.op (.slcL 1 (.t 166) (some (.t 167)) (some (.t 170)) none)), []⟩, ⟨(some 172), (some (165, true)), (.op (.mv (.t 1))), []⟩, ⟨(some 173), (some (165, true)), (.call 60 [(.t 171), (.t 172)]), []⟩, ⟨(some 174), none, (.op (.pick (.t 165) (.t 173) (.c (.bool false)))), []⟩]) (.cond (.t 174) (.seq (.reg [⟨(some 175), none, (.op (.mv (.t 15))), []⟩, ⟨(some 4), none, (.op (.mv (.t 175))), []⟩]) .ret) .skip))
def w47_4 (f : V → V → Int → Int → Int → List Ob → SubR) (vs : List V) (h : List Ob) : SubR := castCons vs fun c1 l1 => castCons l1 fun c2 l2 => castCons l2 fun c3 l3 => castInt .i64 c3 fun n4 => castCons l3 fun c5 l5 => castInt .u8 c5 fun n6 => castCons l5 fun c7 l7 => castInt .i64 c7 fun n8 => castNil l7 (f c1 c2 n4 n6 n8 h)
noncomputable def S47_4 (lf : Nat) (s : V) (sep : V) (n_ : Int) (c1 : Int) (i : Int) (h : List Ob) : SubR :=
bind1 (er (.iaddrL 1 (.c s) (.c (.int .i64 (IntKind.i64.wrap (i + (1)))))) h) fun x161 =>
bind1 (er (.load1 (.c x161)) h) fun v =>
castInt .u8 v fun x162 =>
cB (x162 == c1) (
bind1 (er (.slcL 1 (.c s) (some (.c (.int .i64 i))) (some (.c (.int .i64 (IntKind.i64.wrap (i + n_))))) none) h) fun x171 =>
none) (
some (.normal, [], h))
theorem S47_4_eq (lf : Nat) (s : V) (sep : V) (n_ : Int) (c1 : Int) (i : Int) (h : List Ob) : evCK A47 ⟨call47 lf, cvN, subN⟩ k47_4 [(0, s), (1, sep), (5, (.int .i64 n_)), (14, (.int .u8 c1)), (15, (.int .i64 i))] h (endK o47_4) = S47_4 lf s sep n_ c1 i h := by kernel_rfl
theorem S47_4_ok (lf : Nat) : SubOk Go.Proofs.Tryd.prog k47_4.er [0, 1, 5, 14, 15] o47_4 (w47_4 (S47_4 lf)) := by
  refine SubOk.of (A := A47) (σ := ⟨call47 lf, cvN, subN⟩) (c := k47_4) (call47_ok lf) cvN_ok (And.intro True.intro (And.intro (And.intro True.intro True.intro) True.intro)) ?_
  intro vs h r e0
  simp only [w47_4] at e0
  obtain ⟨c1, l1, rfl, e1⟩ := castCons_inv e0
  obtain ⟨c2, l2, rfl, e2⟩ := castCons_inv e1
  obtain ⟨c3, l3, rfl, e3⟩ := castCons_inv e2
  obtain ⟨y2, rfl, e4⟩ := castInt_inv e3
  obtain ⟨c4, l4, rfl, e5⟩ := castCons_inv e4
  obtain ⟨y3, rfl, e6⟩ := castInt_inv e5
  obtain ⟨c5, l5, rfl, e7⟩ := castCons_inv e6
  obtain ⟨y4, rfl, e8⟩ := castInt_inv e7
  obtain ⟨rfl, e9⟩ := castNil_inv e8
  have e := e9
  exact (S47_4_eq lf c1 c2 y2 y3 y4 h).trans e
def o47_5 : Outs := [((.exit 3), [], []), (.normal, [15], [(.int .i64)])]
def k47_5 : KC := (.seq (.reg [⟨(some 139), none, (.op (.mv (.t 0))), []⟩, ⟨(some 140), none, (.op (.mv (.t 15))), []⟩, ⟨(some 141), none, (.op (.iaddrL 1 (.t 139) (.t 140))), []⟩, ⟨(some 142), none, (.op (.load1 (.t 141))), []⟩, ⟨(some 143), none, (.op (.mv (.t 13))), []⟩, ⟨(some 144), none, (.op (.bin .neq (.t 142) (.t 143))), []⟩]) (.cond (.t 144) (.seq (.reg [⟨(some 145), none, (.op (.mv (.t 0))), []⟩, ⟨(some 146), none, (.op (.mv (.t 15))), []⟩, ⟨(some 147), none, (.op (.bin .add (.t 146) (.c (.int .i64 1)))), []⟩, ⟨(some 148), none, (.op (.mv (.t 17))), []⟩, ⟨(some 149), none, (.op (.slcL 1 (.t 145) (some (.t 147)) (some (.t 148)) none)), []⟩, ⟨(some 150), none, (.op (.mv (.t 13))), []⟩, ⟨(some 151), none, (.call 59 [(.t 149), (.t 150)]), []⟩, ⟨(some 18), none, (.op (.mv (.t 151))), []⟩]) (.seq (.seq (.reg [⟨(some 152), none, (.op (.mv (.t 18))), []⟩, ⟨(some 153), none, (.op (.bin .lss (.t 152) (.c (.int .i64 0)))), []⟩]) (.cond (.t 153) (.exit 3) .skip)) (.reg [⟨(some 154), none, (.op (.mv (.t 15))), []⟩, ⟨(some 155), none, (.op (.mv (.t 18))), []⟩, ⟨(some 156), none, (.op (.bin .add (.t 155) (.c (.int .i64 1)))), []⟩, ⟨(some 157), none, (.op (.bin .add (.t 154) (.t 156))), []⟩, ⟨(some 15), none, (.op (.mv (.t 157))), []⟩]))) .skip))
def w47_5 (f : V → Int → Int → Int → List Ob → SubR) (vs : List V) (h : List Ob) : SubR := castCons vs fun c1 l1 => castCons l1 fun c2 l2 => castInt .u8 c2 fun n3 => castCons l2 fun c4 l4 => castInt .i64 c4 fun n5 => castCons l4 fun c6 l6 => castInt .i64 c6 fun n7 => castNil l6 (f c1 n3 n5 n7 h)
noncomputable def S47_5 (lf : Nat) (s : V) (c0 : Int) (i : Int) (t : Int) (h : List Ob) : SubR :=
bind1 (er (.iaddrL 1 (.c s) (.c (.int .i64 i))) h) fun x141 =>
bind1 (er (.load1 (.c x141)) h) fun v =>
castInt .u8 v fun x142 =>
cB (x142 != c0) (
bind1 (er (.slcL 1 (.c s) (some (.c (.int .i64 (IntKind.i64.wrap (i + (1)))))) (some (.c (.int .i64 t))) none) h) fun x149 =>
bind2 (F59 lf x149 c0 h) fun v1 h_ =>
castInt .i64 v1 fun x151 =>
cB (decide (x151 < (0))) (
some ((.exit 3), [], h_)) (
some (.normal, [(.int .i64 (IntKind.i64.wrap (i + (IntKind.i64.wrap (x151 + (1))))))], h_))) (
some (.normal, [(.int .i64 i)], h))
theorem S47_5_eq (lf : Nat) (s : V) (c0 : Int) (i : Int) (t : Int) (h : List Ob) : evCK A47 ⟨call47 lf, cvN, subN⟩ k47_5 [(0, s), (13, (.int .u8 c0)), (15, (.int .i64 i)), (17, (.int .i64 t))] h (endK o47_5) = S47_5 lf s c0 i t h := by kernel_rfl
theorem S47_5_ok (lf : Nat) : SubOk Go.Proofs.Tryd.prog k47_5.er [0, 13, 15, 17] o47_5 (w47_5 (S47_5 lf)) := by
  refine SubOk.of (A := A47) (σ := ⟨call47 lf, cvN, subN⟩) (c := k47_5) (call47_ok lf) cvN_ok (And.intro True.intro (And.intro (And.intro True.intro (And.intro (And.intro True.intro (And.intro True.intro True.intro)) True.intro)) True.intro)) ?_
  intro vs h r e0
  simp only [w47_5] at e0
  obtain ⟨c1, l1, rfl, e1⟩ := castCons_inv e0
  obtain ⟨c2, l2, rfl, e2⟩ := castCons_inv e1
  obtain ⟨y1, rfl, e3⟩ := castInt_inv e2
  obtain ⟨c3, l3, rfl, e4⟩ := castCons_inv e3
  obtain ⟨y2, rfl, e5⟩ := castInt_inv e4
  obtain ⟨c4, l4, rfl, e6⟩ := castCons_inv e5
  obtain ⟨y3, rfl, e7⟩ := castInt_inv e6
  obtain ⟨rfl, e8⟩ := castNil_inv e7
  have e := e8
  exact (S47_5_eq lf c1 y1 y2 y3 h).trans e
def o47_6 : Outs := [((.exit 3), [], []), (.ret, [4], [(.int .i64)])]
def k47_6 : KC := (.seq (.seq (.reg [⟨(some 136), none, (.op (.mv (.t 15))), []⟩, ⟨(some 137), none, (.op (.mv (.t 17))), []⟩, ⟨(some 138), none, (.op (.bin .lss (.t 136) (.t 137))), []⟩]) (.cond (.t 138) .skip (.exit 3))) (.block 4 (.seq (.sub 5 k47_5.er [0, 13, 15, 17] o47_5) (.seq (.sub 4 k47_4.er [0, 1, 5, 14, 15] o47_4) (.seq (.reg [⟨(some 176), none, (.op (.mv (.t 15))), []⟩, ⟨(some 177), none, (.op (.bin .add (.t 176) (.c (.int .i64 1)))), []⟩, ⟨(some 15), none, (.op (.mv (.t 177))), []⟩]) (.seq (.reg [⟨(some 178), none, (.op (.mv (.t 16))), []⟩, ⟨(some 179), none, (.op (.bin .add (.t 178) (.c (.int .i64 1)))), []⟩, ⟨(some 16), none, (.op (.mv (.t 179))), []⟩]) (.seq (.sub 3 k47_3.er [15, 16, 17] o47_3) (.cond (.t 189) (.seq (.reg [⟨(some 190), none, (.op (.mv (.t 0))), []⟩, ⟨(some 191), none, (.op (.mv (.t 15))), []⟩, ⟨(some 192), none, (.op (.slcL 1 (.t 190) (some (.t 191)) none none)), []⟩, ⟨(some 193), none, (.op (.mv (.t 1))), []⟩, ⟨(some 194), none, (.call 63 [(.t 192), (.t 193)]), []⟩, ⟨(some 19), none, (.op (.mv (.t 194))), []⟩]) (.seq (.seq (.reg [⟨(some 195), none, (.op (.mv (.t 19))), []⟩, ⟨(some 196), none, (.op (.bin .lss (.t 195) (.c (.int .i64 0)))), []⟩]) (.cond (.t 196) (.seq (.reg [⟨(some 4), none, (.op (.mv (.c (.int .i64 (-0 - 1))))), []⟩]) .ret) .skip)) (.seq (.reg [⟨(some 197), none, (.op (.mv (.t 15))), []⟩, ⟨(some 198), none, (.op (.mv (.t 19))), []⟩, ⟨(some 199), none, (.op (.bin .add (.t 197) (.t 198))), []⟩, ⟨(some 4), none, (.op (.mv (.t 199))), []⟩]) .ret))) .skip))))))))
def w47_6 (f : V → V → Int → Int → Int → Int → Int → Int → List Ob → SubR) (vs : List V) (h : List Ob) : SubR := castCons vs fun c1 l1 => castCons l1 fun c2 l2 => castCons l2 fun c3 l3 => castInt .i64 c3 fun n4 => castCons l3 fun c5 l5 => castInt .u8 c5 fun n6 => castCons l5 fun c7 l7 => castInt .u8 c7 fun n8 => castCons l7 fun c9 l9 => castInt .i64 c9 fun n10 => castCons l9 fun c11 l11 => castInt .i64 c11 fun n12 => castCons l11 fun c13 l13 => castInt .i64 c13 fun n14 => castNil l13 (f c1 c2 n4 n6 n8 n10 n12 n14 h)
noncomputable def B47_6 (lf : Nat) (self : V → V → Int → Int → Int → Int → Int → Int → List Ob → SubR) (s : V) (sep : V) (n_ : Int) (c0 : Int) (c1 : Int) (i : Int) (fails : Int) (t : Int) (h : List Ob) : SubR :=
cB (decide (i < t)) (
bind3 (S47_5 lf s c0 i t h) fun ex vs h_ =>
cB (decide (ex = (.exit 3))) (
castNil vs (
some ((.exit 3), [], h_))) (
cB (decide (ex = .normal)) (
castCons vs fun c l =>
castInt .i64 c fun i1 =>
castNil l (
bind3 (S47_4 lf s sep n_ c1 i1 h_) fun ex1 vs1 h_1 =>
cB (decide (ex1 = .ret)) (
castCons vs1 fun c2 l1 =>
castInt .i64 c2 fun x4 =>
castNil l1 (
some (.ret, [(.int .i64 x4)], h_1))) (
cB (decide (ex1 = .normal)) (
castNil vs1 (
bind3 (S47_3 lf (IntKind.i64.wrap (i1 + (1))) (IntKind.i64.wrap (fails + (1))) t h_1) fun ex2 vs2 h_2 =>
cB (decide (ex2 = .normal)) (
castCons vs2 fun c2 l1 =>
castBool c2 fun x189 =>
castNil l1 (
cB x189 (
bind1 (er (.slcL 1 (.c s) (some (.c (.int .i64 (IntKind.i64.wrap (i1 + (1)))))) none none) h_2) fun x192 =>
none) (
self s sep n_ c0 c1 (IntKind.i64.wrap (i1 + (1))) (IntKind.i64.wrap (fails + (1))) t h_2))) (
none))) (
none)))) (
none))) (
some ((.exit 3), [], h))
noncomputable def L47_6 (lf : Nat) : Nat → V → V → Int → Int → Int → Int → Int → Int → List Ob → SubR
  | 0 => fun _ _ _ _ _ _ _ _ _ => none
  | n + 1 => B47_6 lf (L47_6 lf n)
theorem B47_6_eq (lf : Nat) (self : V → V → Int → Int → Int → Int → Int → Int → List Ob → SubR) (s : V) (sep : V) (n_ : Int) (c0 : Int) (c1 : Int) (i : Int) (fails : Int) (t : Int) (h : List Ob) : evCK A47 ⟨call47 lf, cvN, subC 3 (w47_3 (S47_3 lf)) (subC 4 (w47_4 (S47_4 lf)) (subC 5 (w47_5 (S47_5 lf)) (subN)))⟩ k47_6 [(0, s), (1, sep), (5, (.int .i64 n_)), (13, (.int .u8 c0)), (14, (.int .u8 c1)), (15, (.int .i64 i)), (16, (.int .i64 fails)), (17, (.int .i64 t))] h (endL [0, 1, 5, 13, 14, 15, 16, 17] [.any, .any, (.int .i64), (.int .u8), (.int .u8), (.int .i64), (.int .i64), (.int .i64)] o47_6 (w47_6 self)) = B47_6 lf self s sep n_ c0 c1 i fails t h := by kernel_rfl
theorem L47_6_ok (lf : Nat) : ∀ n, SubOk Go.Proofs.Tryd.prog (.loop k47_6.er) [0, 1, 5, 13, 14, 15, 16, 17] o47_6 (w47_6 (L47_6 lf n)) := by
  refine SubOk.loop (A := A47) (σ := ⟨call47 lf, cvN, subC 3 (w47_3 (S47_3 lf)) (subC 4 (w47_4 (S47_4 lf)) (subC 5 (w47_5 (S47_5 lf)) (subN)))⟩) (c := k47_6) (shs := [.any, .any, (.int .i64), (.int .u8), (.int .u8), (.int .i64), (.int .i64), (.int .i64)]) (G := fun n => w47_6 (L47_6 lf n)) (call47_ok lf) cvN_ok (And.intro (And.intro True.intro (And.intro True.intro True.intro)) (And.intro (S47_5_ok lf) (And.intro (S47_4_ok lf) (And.intro True.intro (And.intro True.intro (And.intro (S47_3_ok lf) (And.intro (And.intro True.intro (And.intro (And.intro True.intro (And.intro (And.intro True.intro True.intro) True.intro)) (And.intro True.intro True.intro))) True.intro))))))) ?_ ?_
  · intro vs h r e0
    simp only [w47_6] at e0
    obtain ⟨c1, l1, rfl, e1⟩ := castCons_inv e0
    obtain ⟨c2, l2, rfl, e2⟩ := castCons_inv e1
    obtain ⟨c3, l3, rfl, e3⟩ := castCons_inv e2
    obtain ⟨y2, rfl, e4⟩ := castInt_inv e3
    obtain ⟨c4, l4, rfl, e5⟩ := castCons_inv e4
    obtain ⟨y3, rfl, e6⟩ := castInt_inv e5
    obtain ⟨c5, l5, rfl, e7⟩ := castCons_inv e6
    obtain ⟨y4, rfl, e8⟩ := castInt_inv e7
    obtain ⟨c6, l6, rfl, e9⟩ := castCons_inv e8
    obtain ⟨y5, rfl, e10⟩ := castInt_inv e9
    obtain ⟨c7, l7, rfl, e11⟩ := castCons_inv e10
    obtain ⟨y6, rfl, e12⟩ := castInt_inv e11
    obtain ⟨c8, l8, rfl, e13⟩ := castCons_inv e12
    obtain ⟨y7, rfl, e14⟩ := castInt_inv e13
    obtain ⟨rfl, e15⟩ := castNil_inv e14
    have e := e15
    cases e
  · intro n vs h r e0
    simp only [w47_6] at e0
    obtain ⟨c1, l1, rfl, e1⟩ := castCons_inv e0
    obtain ⟨c2, l2, rfl, e2⟩ := castCons_inv e1
    obtain ⟨c3, l3, rfl, e3⟩ := castCons_inv e2
    obtain ⟨y2, rfl, e4⟩ := castInt_inv e3
    obtain ⟨c4, l4, rfl, e5⟩ := castCons_inv e4
    obtain ⟨y3, rfl, e6⟩ := castInt_inv e5
    obtain ⟨c5, l5, rfl, e7⟩ := castCons_inv e6
    obtain ⟨y4, rfl, e8⟩ := castInt_inv e7
    obtain ⟨c6, l6, rfl, e9⟩ := castCons_inv e8
    obtain ⟨y5, rfl, e10⟩ := castInt_inv e9
    obtain ⟨c7, l7, rfl, e11⟩ := castCons_inv e10
    obtain ⟨y6, rfl, e12⟩ := castInt_inv e11
    obtain ⟨c8, l8, rfl, e13⟩ := castCons_inv e12
    obtain ⟨y7, rfl, e14⟩ := castInt_inv e13
    obtain ⟨rfl, e15⟩ := castNil_inv e14
    have e := e15
    exact (B47_6_eq lf (L47_6 lf n) c1 c2 y2 y3 y4 y5 y6 y7 h).trans e
def k47 : KC := (.seq (.reg [⟨(some 4), none, (.op (.mv (.c (.int .i64 0)))), []⟩]) (.seq (.reg [⟨(some 20), none, (.op (.mv (.t 1))), []⟩, ⟨(some 21), none, (.op (.lenL (.t 20))), []⟩, ⟨(some 5), none, (.op (.mv (.t 21))), []⟩]) (.seq (.block 0 (.seq (.reg [⟨(some 23), none, (.op (.mv (.t 5))), []⟩, ⟨(some 24), none, (.op (.bin .eql (.t 23) (.c (.int .i64 0)))), []⟩, ⟨(some 22), none, (.op (.mv (.t 24))), []⟩]) (.cond (.t 22) (.seq (.reg [⟨(some 4), none, (.op (.mv (.c (.int .i64 0)))), []⟩]) .ret) (.seq (.reg [⟨(some 26), none, (.op (.mv (.t 5))), []⟩, ⟨(some 27), none, (.op (.bin .eql (.t 26) (.c (.int .i64 1)))), []⟩, ⟨(some 25), none, (.op (.mv (.t 27))), []⟩]) (.cond (.t 25) (.seq (.reg [⟨(some 28), none, (.op (.mv (.t 0))), []⟩, ⟨(some 29), none, (.op (.mv (.t 1))), []⟩, ⟨(some 30), none, (.op (.iaddrL 1 (.t 29) (.c (.int .i64 0)))), []⟩, ⟨(some 31), none, (.op (.load1 (.t 30))), []⟩, ⟨(some 32), none, (.call 59 [(.t 28), (.t 31)]), []⟩, ⟨(some 4), none, (.op (.mv (.t 32))), []⟩]) .ret) (.seq (.reg [⟨(some 34), none, (.op (.mv (.t 5))), []⟩, ⟨(some 35), none, (.op (.mv (.t 0))), []⟩, ⟨(some 36), none, (.op (.lenL (.t 35))), []⟩, ⟨(some 37), none, (.op (.bin .eql (.t 34) (.t 36))), []⟩, ⟨(some 33), none, (.op (.mv (.t 37))), []⟩]) (.cond (.t 33) (.seq (.seq (.reg [⟨(some 38), none, (.op (.mv (.t 1))), []⟩, ⟨(some 39), none, (.op (.mv (.t 0))), []⟩, ⟨(some 40), none, (.call 60 [(.t 38), (.t 39)]), []⟩]) (.cond (.t 40) (.seq (.reg [⟨(some 4), none, (.op (.mv (.c (.int .i64 0)))), []⟩]) .ret) .skip)) (.seq (.reg [⟨(some 4), none, (.op (.mv (.c (.int .i64 (-0 - 1))))), []⟩]) .ret)) (.seq (.reg [⟨(some 42), none, (.op (.mv (.t 5))), []⟩, ⟨(some 43), none, (.op (.mv (.t 0))), []⟩, ⟨(some 44), none, (.op (.lenL (.t 43))), []⟩, ⟨(some 45), none, (.op (.bin .gtr (.t 42) (.t 44))), []⟩, ⟨(some 41), none, (.op (.mv (.t 45))), []⟩]) (.cond (.t 41) (.seq (.reg [⟨(some 4), none, (.op (.mv (.c (.int .i64 (-0 - 1))))), []⟩]) .ret) (.seq (.reg [⟨(some 47), none, (.op (.mv (.t 5))), []⟩, ⟨(some 48), none, .bad, []⟩, ⟨(some 49), none, (.op (.bin .leq (.t 47) (.t 48))), []⟩, ⟨(some 46), none, (.op (.mv (.t 49))), []⟩]) (.cond (.t 46) (.seq (.seq (.reg [⟨(some 50), none, (.op (.mv (.t 0))), []⟩, ⟨(some 51), none, (.op (.lenL (.t 50))), []⟩, ⟨(some 52), none, (.op (.bin .leq (.t 51) (.c (.int .i64 64)))), []⟩]) (.cond (.t 52) (.seq (.reg [⟨(some 53), none, (.op (.mv (.t 0))), []⟩, ⟨(some 54), none, (.op (.mv (.t 1))), []⟩, ⟨(some 55), none, .bad, []⟩, ⟨(some 4), none, (.op (.mv (.t 55))), []⟩]) .ret) .skip)) (.seq (.reg [⟨(some 56), none, (.op (.mv (.t 1))), []⟩, ⟨(some 57), none, (.op (.iaddrL 1 (.t 56) (.c (.int .i64 0)))), []⟩, ⟨(some 58), none, (.op (.load1 (.t 57))), []⟩, ⟨(some 6), none, (.op (.mv (.t 58))), []⟩]) (.seq (.reg [⟨(some 59), none, (.op (.mv (.t 1))), []⟩, ⟨(some 60), none, (.op (.iaddrL 1 (.t 59) (.c (.int .i64 1)))), []⟩, ⟨(some 61), none, (.op (.load1 (.t 60))), []⟩, ⟨(some 7), none, (.op (.mv (.t 61))), []⟩]) (.seq (.reg [⟨(some 8), none, (.op (.mv (.c (.int .i64 0)))), []⟩]) (.seq (.reg [⟨(some 62), none, (.op (.mv (.t 0))), []⟩, ⟨(some 63), none, (.op (.lenL (.t 62))), []⟩, ⟨(some 64), none, (.op (.mv (.t 5))), []⟩, ⟨(some 65), none, (.op (.bin .sub (.t 63) (.t 64))), []⟩, ⟨(some 66), none, (.op (.bin .add (.t 65) (.c (.int .i64 1)))), []⟩, ⟨(some 9), none, (.op (.mv (.t 66))), []⟩]) (.seq (.reg [⟨(some 10), none, (.op (.mv (.c (.int .i64 0)))), []⟩]) (.seq (.block 1 (.sub 2 (.loop k47_2.er) [0, 1, 5, 6, 7, 8, 9, 10] o47_2)) (.seq (.reg [⟨(some 4), none, (.op (.mv (.c (.int .i64 (-0 - 1))))), []⟩]) .ret)))))))) .skip))))))))))) (.seq (.reg [⟨(some 125), none, (.op (.mv (.t 1))), []⟩, ⟨(some 126), none, (.op (.iaddrL 1 (.t 125) (.c (.int .i64 0)))), []⟩, ⟨(some 127), none, (.op (.load1 (.t 126))), []⟩, ⟨(some 13), none, (.op (.mv (.t 127))), []⟩]) (.seq (.reg [⟨(some 128), none, (.op (.mv (.t 1))), []⟩, ⟨(some 129), none, (.op (.iaddrL 1 (.t 128) (.c (.int .i64 1)))), []⟩, ⟨(some 130), none, (.op (.load1 (.t 129))), []⟩, ⟨(some 14), none, (.op (.mv (.t 130))), []⟩]) (.seq (.reg [⟨(some 15), none, (.op (.mv (.c (.int .i64 0)))), []⟩]) (.seq (.reg [⟨(some 16), none, (.op (.mv (.c (.int .i64 0)))), []⟩]) (.seq (.reg [⟨(some 131), none, (.op (.mv (.t 0))), []⟩, ⟨(some 132), none, (.op (.lenL (.t 131))), []⟩, ⟨(some 133), none, (.op (.mv (.t 5))), []⟩, ⟨(some 134), none, (.op (.bin .sub (.t 132) (.t 133))), []⟩, ⟨(some 135), none, (.op (.bin .add (.t 134) (.c (.int .i64 1)))), []⟩, ⟨(some 17), none, (.op (.mv (.t 135))), []⟩]) (.seq (.block 3 (.sub 6 (.loop k47_6.er) [0, 1, 5, 13, 14, 15, 16, 17] o47_6)) (.seq (.reg [⟨(some 4), none, (.op (.mv (.c (.int .i64 (-0 - 1))))), []⟩]) .ret))))))))))
noncomputable def F47 (lf : Nat) (s : V) (sep : V) (h : List Ob) : Option (V × List Ob) :=
bind1 (er (.lenL (.c sep)) h) fun v =>
castInt .i64 v fun x21 =>
cB (x21 == (0)) (
some ((.int .i64 (0)), h)) (
cB (x21 == (1)) (
bind1 (er (.iaddrL 1 (.c sep) (.c (.int .i64 (0)))) h) fun x30 =>
bind1 (er (.load1 (.c x30)) h) fun v1 =>
castInt .u8 v1 fun x31 =>
bind2 (F59 lf s x31 h) fun v2 h_ =>
castInt .i64 v2 fun x32 =>
some ((.int .i64 x32), h_)) (
bind1 (er (.lenL (.c s)) h) fun v1 =>
castInt .i64 v1 fun x36 =>
cB (x21 == x36) (
none) (
bind1 (er (.lenL (.c s)) h) fun v2 =>
castInt .i64 v2 fun x44 =>
cB (decide (x21 > x44)) (
some ((.int .i64 (-1)), h)) (
none))))
theorem F47_eq (lf : Nat) (s : V) (sep : V) (h : List Ob) : evCK A47 ⟨call47 lf, cvN, subC 6 (w47_6 (L47_6 lf lf)) (subC 2 (w47_2 (L47_2 lf lf)) (subN))⟩ k47 (entryK [s, sep]) h (endF c47.res) = F47 lf s sep h := by kernel_rfl
theorem F47_ok (lf : Nat) (s : V) (sep : V) (h : List Ob) (r_ : V) (h_r : List Ob) (e_ : F47 lf s sep h = some (r_, h_r)) : CD Go.Proofs.Tryd.prog 47 [s, sep] h r_ h_r :=
  CD.ofK (A := A47) (σ := ⟨call47 lf, cvN, subC 6 (w47_6 (L47_6 lf lf)) (subC 2 (w47_2 (L47_2 lf lf)) (subN))⟩) (c := k47) Go.Proofs.Tryd.func47 ok47 en47 (show 2 ≤ 200 by decide) (by kernel_rfl) (call47_ok lf) cvN_ok (And.intro True.intro (And.intro True.intro (And.intro (And.intro True.intro (And.intro (And.intro True.intro True.intro) (And.intro True.intro (And.intro (And.intro True.intro True.intro) (And.intro True.intro (And.intro (And.intro (And.intro True.intro (And.intro (And.intro True.intro True.intro) True.intro)) (And.intro True.intro True.intro)) (And.intro True.intro (And.intro (And.intro True.intro True.intro) (And.intro True.intro (And.intro (And.intro (And.intro True.intro (And.intro (And.intro True.intro True.intro) True.intro)) (And.intro True.intro (And.intro True.intro (And.intro True.intro (And.intro True.intro (And.intro True.intro (And.intro (L47_2_ok lf lf) (And.intro True.intro True.intro)))))))) True.intro)))))))))) (And.intro True.intro (And.intro True.intro (And.intro True.intro (And.intro True.intro (And.intro True.intro (And.intro (L47_6_ok lf lf) (And.intro True.intro True.intro)))))))))) ((F47_eq lf s sep h).trans e_)
def w47 (f : V → V → List Ob → Option (V × List Ob)) (vs : List V) (h : List Ob) : Option (V × List Ob) := castCons vs fun c1 l1 => castCons l1 fun c2 l2 => castNil l2 (f c1 c2 h)
noncomputable def W47 (lf : Nat) : List V → List Ob → Option (V × List Ob) := w47 (F47 lf)
theorem W47_ok (lf : Nat) : ∀ args h v h', W47 lf args h = some (v, h') → CD Go.Proofs.Tryd.prog 47 args h v h' := by
  intro vs h r h' e0
  simp only [W47, w47] at e0
  obtain ⟨c1, l1, rfl, e1⟩ := castCons_inv e0
  obtain ⟨c2, l2, rfl, e2⟩ := castCons_inv e1
  obtain ⟨rfl, e3⟩ := castNil_inv e2
  have e := e3
  exact F47_ok lf c1 c2 h r h' e

/-! 46: bytes.Count -/
def A46 : List (Nat × Sh) := [(4, (.int .i64)), (5, (.int .i64)), (6, (.int .i64)), (8, (.int .i64)), (9, .bool), (11, (.int .i64)), (12, (.int .i64)), (14, (.int .i64)), (15, .bool), (19, (.int .u8)), (20, (.int .i64)), (23, (.int .i64)), (24, (.int .i64)), (25, .bool), (26, (.int .i64)), (27, (.int .i64)), (28, (.int .i64)), (30, (.int .i64)), (32, (.int .i64)), (33, (.int .i64))]
noncomputable def call46 (lf : Nat) : CallS := callC 47 (W47 lf) (callN)
theorem call46_ok (lf : Nat) : CallOk Go.Proofs.Tryd.prog (call46 lf) := callC_ok (W47_ok lf) (callN_ok)
def o46_0 : Outs := [(.ret, [4], [(.int .i64)])]
def k46_0 : KC := (.block 1 (.seq (.reg [⟨(some 21), none, (.op (.mv (.t 0))), []⟩, ⟨(some 22), none, (.op (.mv (.t 1))), []⟩, ⟨(some 23), none, (.call 47 [(.t 21), (.t 22)]), []⟩, ⟨(some 6), none, (.op (.mv (.t 23))), []⟩]) (.seq (.seq (.reg [⟨(some 24), none, (.op (.mv (.t 6))), []⟩, ⟨(some 25), none, (.op (.bin .eql (.t 24) (.c (.int .i64 (-0 - 1))))), []⟩]) (.cond (.t 25) (.seq (.reg [⟨(some 26), none, (.op (.mv (.t 5))), []⟩, ⟨(some 4), none, (.op (.mv (.t 26))), []⟩]) .ret) .skip)) (.seq (.reg [⟨(some 27), none, (.op (.mv (.t 5))), []⟩, ⟨(some 28), none, (.op (.bin .add (.t 27) (.c (.int .i64 1)))), []⟩, ⟨(some 5), none, (.op (.mv (.t 28))), []⟩]) (.reg [⟨(some 29), none, (.op (.mv (.t 0))), []⟩, ⟨(some 30), none, (.op (.mv (.t 6))), []⟩, ⟨(some 31), none, (.op (.mv (.t 1))), []⟩, ⟨(some 32), none, (.op (.lenL (.t 31))), []⟩, ⟨(some 33), none, (.op (.bin .add (.t 30) (.t 32))), []⟩, ⟨(some 34), none, (.op (.slcL 1 (.t 29) (some (.t 33)) none none)), []⟩, ⟨(some 0), none, (.op (.mv (.t 34))), []⟩])))))
def w46_0 (f : V → V → Int → List Ob → SubR) (vs : List V) (h : List Ob) : SubR := castCons vs fun c1 l1 => castCons l1 fun c2 l2 => castCons l2 fun c3 l3 => castInt .i64 c3 fun n4 => castNil l3 (f c1 c2 n4 h)
noncomputable def B46_0 (lf : Nat) (self : V → V → Int → List Ob → SubR) (s : V) (sep : V) (n_ : Int) (h : List Ob) : SubR :=
bind2 (F47 lf s sep h) fun v h_ =>
castInt .i64 v fun x23 =>
cB (x23 == (-1)) (
some (.ret, [(.int .i64 n_)], h_)) (
bind1 (er (.lenL (.c sep)) h_) fun v1 =>
castInt .i64 v1 fun x32 =>
bind1 (er (.slcL 1 (.c s) (some (.c (.int .i64 (IntKind.i64.wrap (x23 + x32))))) none none) h_) fun x34 =>
self x34 sep (IntKind.i64.wrap (n_ + (1))) h_)
noncomputable def L46_0 (lf : Nat) : Nat → V → V → Int → List Ob → SubR
  | 0 => fun _ _ _ _ => none
  | n + 1 => B46_0 lf (L46_0 lf n)
theorem B46_0_eq (lf : Nat) (self : V → V → Int → List Ob → SubR) (s : V) (sep : V) (n_ : Int) (h : List Ob) : evCK A46 ⟨call46 lf, cvN, subN⟩ k46_0 [(0, s), (1, sep), (5, (.int .i64 n_))] h (endL [0, 1, 5] [.any, .any, (.int .i64)] o46_0 (w46_0 self)) = B46_0 lf self s sep n_ h := by kernel_rfl
theorem L46_0_ok (lf : Nat) : ∀ n, SubOk Go.Proofs.Tryd.prog (.loop k46_0.er) [0, 1, 5] o46_0 (w46_0 (L46_0 lf n)) := by
  refine SubOk.loop (A := A46) (σ := ⟨call46 lf, cvN, subN⟩) (c := k46_0) (shs := [.any, .any, (.int .i64)]) (G := fun n => w46_0 (L46_0 lf n)) (call46_ok lf) cvN_ok (And.intro True.intro (And.intro (And.intro True.intro (And.intro (And.intro True.intro True.intro) True.intro)) (And.intro True.intro True.intro))) ?_ ?_
  · intro vs h r e0
    simp only [w46_0] at e0
    obtain ⟨c1, l1, rfl, e1⟩ := castCons_inv e0
    obtain ⟨c2, l2, rfl, e2⟩ := castCons_inv e1
    obtain ⟨c3, l3, rfl, e3⟩ := castCons_inv e2
    obtain ⟨y2, rfl, e4⟩ := castInt_inv e3
    obtain ⟨rfl, e5⟩ := castNil_inv e4
    have e := e5
    cases e
  · intro n vs h r e0
    simp only [w46_0] at e0
    obtain ⟨c1, l1, rfl, e1⟩ := castCons_inv e0
    obtain ⟨c2, l2, rfl, e2⟩ := castCons_inv e1
    obtain ⟨c3, l3, rfl, e3⟩ := castCons_inv e2
    obtain ⟨y2, rfl, e4⟩ := castInt_inv e3
    obtain ⟨rfl, e5⟩ := castNil_inv e4
    have e := e5
    exact (B46_0_eq lf (L46_0 lf n) c1 c2 y2 h).trans e
def k46 : KC := (.seq (.reg [⟨(some 4), none, (.op (.mv (.c (.int .i64 0)))), []⟩]) (.seq (.seq (.reg [⟨(some 7), none, (.op (.mv (.t 1))), []⟩, ⟨(some 8), none, (.op (.lenL (.t 7))), []⟩, ⟨(some 9), none, (.op (.bin .eql (.t 8) (.c (.int .i64 0)))), []⟩]) (.cond (.t 9) (.seq (.reg [⟨(some 10), none, (.op (.mv (.t 0))), []⟩, ⟨(some 11), none, (.call 57 [(.t 10)]), []⟩, ⟨(some 12), none, (.op (.bin .add (.t 11) (.c (.int .i64 1)))), []⟩, ⟨(some 4), none, (.op (.mv (.t 12))), []⟩]) .ret) .skip)) (.seq (.seq (.reg [⟨(some 13), none, (.op (.mv (.t 1))), []⟩, ⟨(some 14), none, (.op (.lenL (.t 13))), []⟩, ⟨(some 15), none, (.op (.bin .eql (.t 14) (.c (.int .i64 1)))), []⟩]) (.cond (.t 15) (.seq (.reg [⟨(some 16), none, (.op (.mv (.t 0))), []⟩, ⟨(some 17), none, (.op (.mv (.t 1))), []⟩, ⟨(some 18), none, (.op (.iaddrL 1 (.t 17) (.c (.int .i64 0)))), []⟩, ⟨(some 19), none, (.op (.load1 (.t 18))), []⟩, ⟨(some 20), none, (.op (.cntB (.t 16) (.t 19))), []⟩, ⟨(some 4), none, (.op (.mv (.t 20))), []⟩]) .ret) .skip)) (.seq (.reg [⟨(some 5), none, (.op (.mv (.c (.int .i64 0)))), []⟩]) (.block 0 (.sub 0 (.loop k46_0.er) [0, 1, 5] o46_0))))))
noncomputable def F46 (lf : Nat) (s : V) (sep : V) (h : List Ob) : Option (V × List Ob) :=
bind1 (er (.lenL (.c sep)) h) fun v =>
castInt .i64 v fun x8 =>
cB (x8 == (0)) (
none) (
bind1 (er (.lenL (.c sep)) h) fun v1 =>
castInt .i64 v1 fun x14 =>
cB (x14 == (1)) (
bind1 (er (.iaddrL 1 (.c sep) (.c (.int .i64 (0)))) h) fun x18 =>
bind1 (er (.load1 (.c x18)) h) fun v2 =>
castInt .u8 v2 fun x19 =>
bind1 (er (.cntB (.c s) (.c (.int .u8 x19))) h) fun v3 =>
castInt .i64 v3 fun x20 =>
some ((.int .i64 x20), h)) (
bind3 (L46_0 lf lf s sep (0) h) fun ex vs h_ =>
cB (decide (ex = .ret)) (
castCons vs fun c l =>
castInt .i64 c fun x4 =>
castNil l (
some ((.int .i64 x4), h_))) (
none)))
theorem F46_eq (lf : Nat) (s : V) (sep : V) (h : List Ob) : evCK A46 ⟨call46 lf, cvN, subC 0 (w46_0 (L46_0 lf lf)) (subN)⟩ k46 (entryK [s, sep]) h (endF c46.res) = F46 lf s sep h := by kernel_rfl
theorem F46_ok (lf : Nat) (s : V) (sep : V) (h : List Ob) (r_ : V) (h_r : List Ob) (e_ : F46 lf s sep h = some (r_, h_r)) : CD Go.Proofs.Tryd.prog 46 [s, sep] h r_ h_r :=
  CD.ofK (A := A46) (σ := ⟨call46 lf, cvN, subC 0 (w46_0 (L46_0 lf lf)) (subN)⟩) (c := k46) Go.Proofs.Tryd.func46 ok46 en46 (show 2 ≤ 35 by decide) (by kernel_rfl) (call46_ok lf) cvN_ok (And.intro True.intro (And.intro (And.intro True.intro (And.intro (And.intro True.intro True.intro) True.intro)) (And.intro (And.intro True.intro (And.intro (And.intro True.intro True.intro) True.intro)) (And.intro True.intro (L46_0_ok lf lf))))) ((F46_eq lf s sep h).trans e_)
def w46 (f : V → V → List Ob → Option (V × List Ob)) (vs : List V) (h : List Ob) : Option (V × List Ob) := castCons vs fun c1 l1 => castCons l1 fun c2 l2 => castNil l2 (f c1 c2 h)
noncomputable def W46 (lf : Nat) : List V → List Ob → Option (V × List Ob) := w46 (F46 lf)
theorem W46_ok (lf : Nat) : ∀ args h v h', W46 lf args h = some (v, h') → CD Go.Proofs.Tryd.prog 46 args h v h' := by
  intro vs h r h' e0
  simp only [W46, w46] at e0
  obtain ⟨c1, l1, rfl, e1⟩ := castCons_inv e0
  obtain ⟨c2, l2, rfl, e2⟩ := castCons_inv e1
  obtain ⟨rfl, e3⟩ := castNil_inv e2
  have e := e3
  exact F46_ok lf c1 c2 h r h' e

/-! 31: bytes.Replace -/
def A31 : List (Nat × Sh) := [(3, (.int .i64)), (9, (.int .i64)), (11, (.int .i64)), (12, (.int .i64)), (13, (.int .i64)), (14, (.int .i32)), (15, (.int .i64)), (16, (.int .i64)), (17, (.int .i64)), (18, .bool), (21, (.int .i64)), (22, (.int .i64)), (23, .bool), (26, (.int .i64)), (27, .bool), (28, .bool), (29, (.int .i64)), (30, (.int .i64)), (31, .bool), (32, .bool), (33, (.int .i64)), (35, (.int .i64)), (36, (.int .i64)), (38, (.int .i64)), (40, (.int .i64)), (41, (.int .i64)), (42, (.int .i64)), (43, (.int .i64)), (46, (.int .i64)), (47, .bool), (48, (.int .i64)), (49, (.int .i64)), (50, .bool), (51, (.int .i64)), (53, (.int .i64)), (56, (.int .i64)), (57, (.int .i64)), (58, (.int .i64)), (60, (.int .i64)), (63, (.int .i64)), (64, (.int .i64)), (66, (.int .i64)), (67, (.int .i64)), (68, (.int .i64)), (70, (.int .i64)), (73, (.int .i64)), (74, (.int .i64)), (75, (.int .i64)), (77, (.int .i64)), (78, (.int .i64)), (79, (.int .i64)), (80, (.int .i64)), (82, (.int .i64)), (85, (.int .i64)), (86, (.int .i64)), (87, (.int .i64)), (88, (.int .i64)), (89, (.int .i64)), (90, .bool), (91, (.tup [(.int .i32), (.int .i64)])), (93, (.int .i64)), (95, (.tup [(.int .i32), (.int .i64)])), (96, (.int .i32)), (97, (.int .i64)), (98, (.int .i64)), (99, (.int .i64)), (100, (.int .i64)), (101, (.int .i64)), (103, (.int .i64)), (106, (.int .i64)), (107, (.int .i64)), (109, (.int .i64)), (110, (.int .i64)), (111, (.int .i64)), (113, (.int .i64)), (116, (.int .i64)), (117, (.int .i64)), (118, (.int .i64)), (119, (.int .i64)), (120, (.int .i64)), (122, (.int .i64)), (125, (.int .i64)), (127, (.int .i64)), (128, (.int .i64)), (130, (.int .i64))]
noncomputable def call31 (lf : Nat) : CallS := callC 47 (W47 lf) (callC 46 (W46 lf) (callN))
theorem call31_ok (lf : Nat) : CallOk Go.Proofs.Tryd.prog (call31 lf) := callC_ok (W47_ok lf) (callC_ok (W46_ok lf) (callN_ok))
def o31_0 : Outs := [((.exit 0), [11, 12], [(.int .i64), (.int .i64)])]
def k31_0 : KC := (.seq (.reg [⟨(some 50), none, (.op (.bin .lss (.t 49) (.t 48))), []⟩]) (.seq (.cond (.t 50) .skip (.exit 0)) (.seq (.block 1 (.seq (.reg [⟨(some 51), none, (.op (.mv (.t 12))), []⟩, ⟨(some 52), none, (.op (.mv (.t 0))), []⟩, ⟨(some 53), none, (.op (.mv (.t 12))), []⟩, ⟨(some 54), none, (.op (.slcL 1 (.t 52) (some (.t 53)) none none)), []⟩, ⟨(some 55), none, (.op (.mv (.t 1))), []⟩, ⟨(some 56), none, (.call 47 [(.t 54), (.t 55)]), []⟩, ⟨(some 57), none, (.op (.bin .add (.t 51) (.t 56))), []⟩, ⟨(some 13), none, (.op (.mv (.t 57))), []⟩]) (.seq (.reg [⟨(some 58), none, (.op (.mv (.t 11))), []⟩, ⟨(some 59), none, (.op (.mv (.t 10))), []⟩, ⟨(some 60), none, (.op (.mv (.t 11))), []⟩, ⟨(some 61), none, (.op (.slcL 1 (.t 59) (some (.t 60)) none none)), []⟩, ⟨(some 62), none, (.op (.mv (.t 0))), []⟩, ⟨(some 63), none, (.op (.mv (.t 12))), []⟩, ⟨(some 64), none, (.op (.mv (.t 13))), []⟩, ⟨(some 65), none, (.op (.slcL 1 (.t 62) (some (.t 63)) (some (.t 64)) none)), []⟩, ⟨(some 66), none, (.op (.copy 1 (.t 61) (.t 65))), []⟩, ⟨(some 67), none, (.op (.bin .add (.t 58) (.t 66))), []⟩, ⟨(some 11), none, (.op (.mv (.t 67))), []⟩]) (.seq (.reg [⟨(some 68), none, (.op (.mv (.t 11))), []⟩, ⟨(some 69), none, (.op (.mv (.t 10))), []⟩, ⟨(some 70), none, (.op (.mv (.t 11))), []⟩, ⟨(some 71), none, (.op (.slcL 1 (.t 69) (some (.t 70)) none none)), []⟩, ⟨(some 72), none, (.op (.mv (.t 2))), []⟩, ⟨(some 73), none, (.op (.copy 1 (.t 71) (.t 72))), []⟩, ⟨(some 74), none, (.op (.bin .add (.t 68) (.t 73))), []⟩, ⟨(some 11), none, (.op (.mv (.t 74))), []⟩]) (.reg [⟨(some 75), none, (.op (.mv (.t 13))), []⟩, ⟨(some 76), none, (.op (.mv (.t 1))), []⟩, ⟨(some 77), none, (.op (.lenL (.t 76))), []⟩, ⟨(some 78), none, (.op (.bin .add (.t 75) (.t 77))), []⟩, ⟨(some 12), none, (.op (.mv (.t 78))), []⟩]))))) (.reg [⟨(some 79), none, (.op (.bin .add (.t 49) (.c (.int .i64 1)))), []⟩, ⟨(some 49), none, (.op (.mv (.t 79))), []⟩]))))
def w31_0 (f : V → V → V → V → Int → Int → Int → Int → List Ob → SubR) (vs : List V) (h : List Ob) : SubR := castCons vs fun c1 l1 => castCons l1 fun c2 l2 => castCons l2 fun c3 l3 => castCons l3 fun c4 l4 => castCons l4 fun c5 l5 => castInt .i64 c5 fun n6 => castCons l5 fun c7 l7 => castInt .i64 c7 fun n8 => castCons l7 fun c9 l9 => castInt .i64 c9 fun n10 => castCons l9 fun c11 l11 => castInt .i64 c11 fun n12 => castNil l11 (f c1 c2 c3 c4 n6 n8 n10 n12 h)
noncomputable def B31_0 (lf : Nat) (self : V → V → V → V → Int → Int → Int → Int → List Ob → SubR) (s : V) (old : V) (new : V) (t : V) (w : Int) (start : Int) (x48 : Int) (x49 : Int) (h : List Ob) : SubR :=
cB (decide (x49 < x48)) (
bind1 (er (.slcL 1 (.c s) (some (.c (.int .i64 start))) none none) h) fun x54 =>
bind2 (F47 lf x54 old h) fun v h_ =>
castInt .i64 v fun x56 =>
bind1 (er (.slcL 1 (.c t) (some (.c (.int .i64 w))) none none) h_) fun x61 =>
bind1 (er (.slcL 1 (.c s) (some (.c (.int .i64 start))) (some (.c (.int .i64 (IntKind.i64.wrap (start + x56))))) none) h_) fun x65 =>
bind2 (ev (.copy 1 (.c x61) (.c x65)) h_) fun v1 h_1 =>
castInt .i64 v1 fun x66 =>
bind1 (er (.slcL 1 (.c t) (some (.c (.int .i64 (IntKind.i64.wrap (w + x66))))) none none) h_1) fun x71 =>
bind2 (ev (.copy 1 (.c x71) (.c new)) h_1) fun v2 h_2 =>
castInt .i64 v2 fun x73 =>
bind1 (er (.lenL (.c old)) h_2) fun v3 =>
castInt .i64 v3 fun x77 =>
self s old new t (IntKind.i64.wrap ((IntKind.i64.wrap (w + x66)) + x73)) (IntKind.i64.wrap ((IntKind.i64.wrap (start + x56)) + x77)) x48 (IntKind.i64.wrap (x49 + (1))) h_2) (
some ((.exit 0), [(.int .i64 w), (.int .i64 start)], h))
noncomputable def L31_0 (lf : Nat) : Nat → V → V → V → V → Int → Int → Int → Int → List Ob → SubR
  | 0 => fun _ _ _ _ _ _ _ _ _ => none
  | n + 1 => B31_0 lf (L31_0 lf n)
theorem B31_0_eq (lf : Nat) (self : V → V → V → V → Int → Int → Int → Int → List Ob → SubR) (s : V) (old : V) (new : V) (t : V) (w : Int) (start : Int) (x48 : Int) (x49 : Int) (h : List Ob) : evCK A31 ⟨call31 lf, cvN, subN⟩ k31_0 [(0, s), (1, old), (2, new), (10, t), (11, (.int .i64 w)), (12, (.int .i64 start)), (48, (.int .i64 x48)), (49, (.int .i64 x49))] h (endL [0, 1, 2, 10, 11, 12, 48, 49] [.any, .any, .any, .any, (.int .i64), (.int .i64), (.int .i64), (.int .i64)] o31_0 (w31_0 self)) = B31_0 lf self s old new t w start x48 x49 h := by kernel_rfl
theorem L31_0_ok (lf : Nat) : ∀ n, SubOk Go.Proofs.Tryd.prog (.loop k31_0.er) [0, 1, 2, 10, 11, 12, 48, 49] o31_0 (w31_0 (L31_0 lf n)) := by
  refine SubOk.loop (A := A31) (σ := ⟨call31 lf, cvN, subN⟩) (c := k31_0) (shs := [.any, .any, .any, .any, (.int .i64), (.int .i64), (.int .i64), (.int .i64)]) (G := fun n => w31_0 (L31_0 lf n)) (call31_ok lf) cvN_ok (And.intro True.intro (And.intro (And.intro True.intro True.intro) (And.intro (And.intro True.intro (And.intro True.intro (And.intro True.intro True.intro))) True.intro))) ?_ ?_
  · intro vs h r e0
    simp only [w31_0] at e0
    obtain ⟨c1, l1, rfl, e1⟩ := castCons_inv e0
    obtain ⟨c2, l2, rfl, e2⟩ := castCons_inv e1
    obtain ⟨c3, l3, rfl, e3⟩ := castCons_inv e2
    obtain ⟨c4, l4, rfl, e4⟩ := castCons_inv e3
    obtain ⟨c5, l5, rfl, e5⟩ := castCons_inv e4
    obtain ⟨y4, rfl, e6⟩ := castInt_inv e5
    obtain ⟨c6, l6, rfl, e7⟩ := castCons_inv e6
    obtain ⟨y5, rfl, e8⟩ := castInt_inv e7
    obtain ⟨c7, l7, rfl, e9⟩ := castCons_inv e8
    obtain ⟨y6, rfl, e10⟩ := castInt_inv e9
    obtain ⟨c8, l8, rfl, e11⟩ := castCons_inv e10
    obtain ⟨y7, rfl, e12⟩ := castInt_inv e11
    obtain ⟨rfl, e13⟩ := castNil_inv e12
    have e := e13
    cases e
  · intro n vs h r e0
    simp only [w31_0] at e0
    obtain ⟨c1, l1, rfl, e1⟩ := castCons_inv e0
    obtain ⟨c2, l2, rfl, e2⟩ := castCons_inv e1
    obtain ⟨c3, l3, rfl, e3⟩ := castCons_inv e2
    obtain ⟨c4, l4, rfl, e4⟩ := castCons_inv e3
    obtain ⟨c5, l5, rfl, e5⟩ := castCons_inv e4
    obtain ⟨y4, rfl, e6⟩ := castInt_inv e5
    obtain ⟨c6, l6, rfl, e7⟩ := castCons_inv e6
    obtain ⟨y5, rfl, e8⟩ := castInt_inv e7
    obtain ⟨c7, l7, rfl, e9⟩ := castCons_inv e8
    obtain ⟨y6, rfl, e10⟩ := castInt_inv e9
    obtain ⟨c8, l8, rfl, e11⟩ := castCons_inv e10
    obtain ⟨y7, rfl, e12⟩ := castInt_inv e11
    obtain ⟨rfl, e13⟩ := castNil_inv e12
    have e := e13
    exact (B31_0_eq lf (L31_0 lf n) c1 c2 c3 c4 y4 y5 y6 y7 h).trans e
def o31_1 : Outs := [((.exit 2), [11, 12], [(.int .i64), (.int .i64)])]
def k31_1 : KC := (.seq (.reg [⟨(some 90), none, (.op (.bin .lss (.t 89) (.t 88))), []⟩]) (.seq (.cond (.t 90) .skip (.exit 2)) (.seq (.block 3 (.seq (.reg [⟨(some 92), none, (.op (.mv (.t 0))), []⟩, ⟨(some 93), none, (.op (.mv (.t 12))), []⟩, ⟨(some 94), none, (.op (.slcL 1 (.t 92) (some (.t 93)) none none)), []⟩, ⟨(some 95), none, (.call 48 [(.t 94)]), []⟩, ⟨(some 91), none, (.op (.mv (.t 95))), []⟩, ⟨(some 96), none, (.op (.ext 0 (.t 91))), []⟩, ⟨(some 97), none, (.op (.ext 1 (.t 91))), []⟩, ⟨(some 14), none, (.op (.mv (.t 96))), []⟩, ⟨(some 15), none, (.op (.mv (.t 97))), []⟩]) (.seq (.reg [⟨(some 98), none, (.op (.mv (.t 12))), []⟩, ⟨(some 99), none, (.op (.mv (.t 15))), []⟩, ⟨(some 100), none, (.op (.bin .add (.t 98) (.t 99))), []⟩, ⟨(some 16), none, (.op (.mv (.t 100))), []⟩]) (.seq (.reg [⟨(some 101), none, (.op (.mv (.t 11))), []⟩, ⟨(some 102), none, (.op (.mv (.t 10))), []⟩, ⟨(some 103), none, (.op (.mv (.t 11))), []⟩, ⟨(some 104), none, (.op (.slcL 1 (.t 102) (some (.t 103)) none none)), []⟩, ⟨(some 105), none, (.op (.mv (.t 0))), []⟩, ⟨(some 106), none, (.op (.mv (.t 12))), []⟩, ⟨(some 107), none, (.op (.mv (.t 16))), []⟩, ⟨(some 108), none, (.op (.slcL 1 (.t 105) (some (.t 106)) (some (.t 107)) none)), []⟩, ⟨(some 109), none, (.op (.copy 1 (.t 104) (.t 108))), []⟩, ⟨(some 110), none, (.op (.bin .add (.t 101) (.t 109))), []⟩, ⟨(some 11), none, (.op (.mv (.t 110))), []⟩]) (.seq (.reg [⟨(some 111), none, (.op (.mv (.t 11))), []⟩, ⟨(some 112), none, (.op (.mv (.t 10))), []⟩, ⟨(some 113), none, (.op (.mv (.t 11))), []⟩, ⟨(some 114), none, (.op (.slcL 1 (.t 112) (some (.t 113)) none none)), []⟩, ⟨(some 115), none, (.op (.mv (.t 2))), []⟩, ⟨(some 116), none, (.op (.copy 1 (.t 114) (.t 115))), []⟩, ⟨(some 117), none, (.op (.bin .add (.t 111) (.t 116))), []⟩, ⟨(some 11), none, (.op (.mv (.t 117))), []⟩]) (.reg [⟨(some 118), none, (.op (.mv (.t 16))), []⟩, ⟨(some 12), none, (.op (.mv (.t 118))), []⟩])))))) (.reg [⟨(some 119), none, (.op (.bin .add (.t 89) (.c (.int .i64 1)))), []⟩, ⟨(some 89), none, (.op (.mv (.t 119))), []⟩]))))
def w31_1 (f : V → V → V → Int → Int → Int → Int → List Ob → SubR) (vs : List V) (h : List Ob) : SubR := castCons vs fun c1 l1 => castCons l1 fun c2 l2 => castCons l2 fun c3 l3 => castCons l3 fun c4 l4 => castInt .i64 c4 fun n5 => castCons l4 fun c6 l6 => castInt .i64 c6 fun n7 => castCons l6 fun c8 l8 => castInt .i64 c8 fun n9 => castCons l8 fun c10 l10 => castInt .i64 c10 fun n11 => castNil l10 (f c1 c2 c3 n5 n7 n9 n11 h)
noncomputable def B31_1 (lf : Nat) (self : V → V → V → Int → Int → Int → Int → List Ob → SubR) (s : V) (new : V) (t : V) (w : Int) (start : Int) (x88 : Int) (x89 : Int) (h : List Ob) : SubR :=
cB (decide (x89 < x88)) (
bind1 (er (.slcL 1 (.c s) (some (.c (.int .i64 start))) none none) h) fun x94 =>
none) (
some ((.exit 2), [(.int .i64 w), (.int .i64 start)], h))
noncomputable def L31_1 (lf : Nat) : Nat → V → V → V → Int → Int → Int → Int → List Ob → SubR
  | 0 => fun _ _ _ _ _ _ _ _ => none
  | n + 1 => B31_1 lf (L31_1 lf n)
theorem B31_1_eq (lf : Nat) (self : V → V → V → Int → Int → Int → Int → List Ob → SubR) (s : V) (new : V) (t : V) (w : Int) (start : Int) (x88 : Int) (x89 : Int) (h : List Ob) : evCK A31 ⟨call31 lf, cvN, subN⟩ k31_1 [(0, s), (2, new), (10, t), (11, (.int .i64 w)), (12, (.int .i64 start)), (88, (.int .i64 x88)), (89, (.int .i64 x89))] h (endL [0, 2, 10, 11, 12, 88, 89] [.any, .any, .any, (.int .i64), (.int .i64), (.int .i64), (.int .i64)] o31_1 (w31_1 self)) = B31_1 lf self s new t w start x88 x89 h := by kernel_rfl
theorem L31_1_ok (lf : Nat) : ∀ n, SubOk Go.Proofs.Tryd.prog (.loop k31_1.er) [0, 2, 10, 11, 12, 88, 89] o31_1 (w31_1 (L31_1 lf n)) := by
  refine SubOk.loop (A := A31) (σ := ⟨call31 lf, cvN, subN⟩) (c := k31_1) (shs := [.any, .any, .any, (.int .i64), (.int .i64), (.int .i64), (.int .i64)]) (G := fun n => w31_1 (L31_1 lf n)) (call31_ok lf) cvN_ok (And.intro True.intro (And.intro (And.intro True.intro True.intro) (And.intro (And.intro True.intro (And.intro True.intro (And.intro True.intro (And.intro True.intro True.intro)))) True.intro))) ?_ ?_
  · intro vs h r e0
    simp only [w31_1] at e0
    obtain ⟨c1, l1, rfl, e1⟩ := castCons_inv e0
    obtain ⟨c2, l2, rfl, e2⟩ := castCons_inv e1
    obtain ⟨c3, l3, rfl, e3⟩ := castCons_inv e2
    obtain ⟨c4, l4, rfl, e4⟩ := castCons_inv e3
    obtain ⟨y3, rfl, e5⟩ := castInt_inv e4
    obtain ⟨c5, l5, rfl, e6⟩ := castCons_inv e5
    obtain ⟨y4, rfl, e7⟩ := castInt_inv e6
    obtain ⟨c6, l6, rfl, e8⟩ := castCons_inv e7
    obtain ⟨y5, rfl, e9⟩ := castInt_inv e8
    obtain ⟨c7, l7, rfl, e10⟩ := castCons_inv e9
    obtain ⟨y6, rfl, e11⟩ := castInt_inv e10
    obtain ⟨rfl, e12⟩ := castNil_inv e11
    have e := e12
    cases e
  · intro n vs h r e0
    simp only [w31_1] at e0
    obtain ⟨c1, l1, rfl, e1⟩ := castCons_inv e0
    obtain ⟨c2, l2, rfl, e2⟩ := castCons_inv e1
    obtain ⟨c3, l3, rfl, e3⟩ := castCons_inv e2
    obtain ⟨c4, l4, rfl, e4⟩ := castCons_inv e3
    obtain ⟨y3, rfl, e5⟩ := castInt_inv e4
    obtain ⟨c5, l5, rfl, e6⟩ := castCons_inv e5
    obtain ⟨y4, rfl, e7⟩ := castInt_inv e6
    obtain ⟨c6, l6, rfl, e8⟩ := castCons_inv e7
    obtain ⟨y5, rfl, e9⟩ := castInt_inv e8
    obtain ⟨c7, l7, rfl, e10⟩ := castCons_inv e9
    obtain ⟨y6, rfl, e11⟩ := castInt_inv e10
    obtain ⟨rfl, e12⟩ := castNil_inv e11
    have e := e12
    exact (B31_1_eq lf (L31_1 lf n) c1 c2 c3 y3 y4 y5 y6 h).trans e
def o31_2 : Outs := [(.normal, [11, 12], [(.int .i64), (.int .i64)])]
def k31_2 : KC := (.seq (.reg [⟨(some 45), none, (.op (.mv (.t 1))), []⟩, ⟨(some 46), none, (.op (.lenL (.t 45))), []⟩, ⟨(some 47), none, (.op (.bin .gtr (.t 46) (.c (.int .i64 0)))), []⟩]) (.cond (.t 47) (.seq (.reg [⟨(some 48), none, (.op (.mv (.t 3))), []⟩, ⟨(some 49), none, (.op (.mv (.c (.int .i64 0)))), []⟩]) (.block 0 (.sub 0 (.loop k31_0.er) [0, 1, 2, 10, 11, 12, 48, 49] o31_0))) (.seq (.reg [⟨(some 80), none, (.op (.mv (.t 11))), []⟩, ⟨(some 81), none, (.op (.mv (.t 10))), []⟩, ⟨(some 82), none, (.op (.mv (.t 11))), []⟩, ⟨(some 83), none, (.op (.slcL 1 (.t 81) (some (.t 82)) none none)), []⟩, ⟨(some 84), none, (.op (.mv (.t 2))), []⟩, ⟨(some 85), none, (.op (.copy 1 (.t 83) (.t 84))), []⟩, ⟨(some 86), none, (.op (.bin .add (.t 80) (.t 85))), []⟩, ⟨(some 11), none, (.op (.mv (.t 86))), []⟩]) (.seq (.reg [⟨(some 87), none, (.op (.mv (.t 3))), []⟩, ⟨(some 88), none, (.op (.bin .sub (.t 87) (.c (.int .i64 1)))), []⟩, ⟨(some 89), none, (.op (.mv (.c (.int .i64 0)))), []⟩]) (.block 2 (.sub 1 (.loop k31_1.er) [0, 2, 10, 11, 12, 88, 89] o31_1))))))
def w31_2 (f : V → V → V → Int → V → Int → Int → List Ob → SubR) (vs : List V) (h : List Ob) : SubR := castCons vs fun c1 l1 => castCons l1 fun c2 l2 => castCons l2 fun c3 l3 => castCons l3 fun c4 l4 => castInt .i64 c4 fun n5 => castCons l4 fun c6 l6 => castCons l6 fun c7 l7 => castInt .i64 c7 fun n8 => castCons l7 fun c9 l9 => castInt .i64 c9 fun n10 => castNil l9 (f c1 c2 c3 n5 c6 n8 n10 h)
noncomputable def S31_2 (lf : Nat) (s : V) (old : V) (new : V) (n_ : Int) (t : V) (w : Int) (start : Int) (h : List Ob) : SubR :=
bind1 (er (.lenL (.c old)) h) fun v =>
castInt .i64 v fun x46 =>
cB (decide (x46 > (0))) (
bind3 (L31_0 lf lf s old new t w start n_ (0) h) fun ex vs h_ =>
cB (decide (ex = (.exit 0))) (
castCons vs fun c l =>
castInt .i64 c fun w1 =>
castCons l fun c1 l1 =>
castInt .i64 c1 fun start1 =>
castNil l1 (
some (.normal, [(.int .i64 w1), (.int .i64 start1)], h_))) (
none)) (
bind1 (er (.slcL 1 (.c t) (some (.c (.int .i64 w))) none none) h) fun x83 =>
bind2 (ev (.copy 1 (.c x83) (.c new)) h) fun v1 h_ =>
castInt .i64 v1 fun x85 =>
bind3 (L31_1 lf lf s new t (IntKind.i64.wrap (w + x85)) start (IntKind.i64.wrap (n_ - (1))) (0) h_) fun ex vs h_1 =>
cB (decide (ex = (.exit 2))) (
castCons vs fun c l =>
castInt .i64 c fun w1 =>
castCons l fun c1 l1 =>
castInt .i64 c1 fun start1 =>
castNil l1 (
some (.normal, [(.int .i64 w1), (.int .i64 start1)], h_1))) (
none))
theorem S31_2_eq (lf : Nat) (s : V) (old : V) (new : V) (n_ : Int) (t : V) (w : Int) (start : Int) (h : List Ob) : evCK A31 ⟨call31 lf, cvN, subC 1 (w31_1 (L31_1 lf lf)) (subC 0 (w31_0 (L31_0 lf lf)) (subN))⟩ k31_2 [(0, s), (1, old), (2, new), (3, (.int .i64 n_)), (10, t), (11, (.int .i64 w)), (12, (.int .i64 start))] h (endK o31_2) = S31_2 lf s old new n_ t w start h := by kernel_rfl
theorem S31_2_ok (lf : Nat) : SubOk Go.Proofs.Tryd.prog k31_2.er [0, 1, 2, 3, 10, 11, 12] o31_2 (w31_2 (S31_2 lf)) := by
  refine SubOk.of (A := A31) (σ := ⟨call31 lf, cvN, subC 1 (w31_1 (L31_1 lf lf)) (subC 0 (w31_0 (L31_0 lf lf)) (subN))⟩) (c := k31_2) (call31_ok lf) cvN_ok (And.intro True.intro (And.intro (And.intro True.intro (L31_0_ok lf lf)) (And.intro True.intro (And.intro True.intro (L31_1_ok lf lf))))) ?_
  intro vs h r e0
  simp only [w31_2] at e0
  obtain ⟨c1, l1, rfl, e1⟩ := castCons_inv e0
  obtain ⟨c2, l2, rfl, e2⟩ := castCons_inv e1
  obtain ⟨c3, l3, rfl, e3⟩ := castCons_inv e2
  obtain ⟨c4, l4, rfl, e4⟩ := castCons_inv e3
  obtain ⟨y3, rfl, e5⟩ := castInt_inv e4
  obtain ⟨c5, l5, rfl, e6⟩ := castCons_inv e5
  obtain ⟨c6, l6, rfl, e7⟩ := castCons_inv e6
  obtain ⟨y5, rfl, e8⟩ := castInt_inv e7
  obtain ⟨c7, l7, rfl, e9⟩ := castCons_inv e8
  obtain ⟨y6, rfl, e10⟩ := castInt_inv e9
  obtain ⟨rfl, e11⟩ := castNil_inv e10
  have e := e11
  exact (S31_2_eq lf c1 c2 c3 y3 c5 y5 y6 h).trans e
def o31_3 : Outs := [(.normal, [3], [(.int .i64)])]
def k31_3 : KC := (.seq (.reg [⟨(some 26), none, (.op (.mv (.t 3))), []⟩, ⟨(some 27), none, (.op (.bin .lss (.t 26) (.c (.int .i64 0)))), []⟩, ⟨(some 28), none, (.op (.mv (.t 27))), []⟩, ⟨(some 29), (some (28, false)), (.op (.mv (.t 9))), []⟩, ⟨(some 30), (some (28, false)), (.op (.mv (.t 3))), []⟩, ⟨(some 31), (some (28, false)), (.op (.bin .lss (.t 29) (.t 30))), []⟩, ⟨(some 32), none, (.op (.pick (.t 28) (.c (.bool true)) (.t 31))), []⟩]) (.cond (.t 32) (.reg [⟨(some 33), none, (.op (.mv (.t 9))), []⟩, ⟨(some 3), none, (.op (.mv (.t 33))), []⟩]) .skip))
def w31_3 (f : Int → Int → List Ob → SubR) (vs : List V) (h : List Ob) : SubR := castCons vs fun c1 l1 => castInt .i64 c1 fun n2 => castCons l1 fun c3 l3 => castInt .i64 c3 fun n4 => castNil l3 (f n2 n4 h)
noncomputable def S31_3 (lf : Nat) (n_ : Int) (m : Int) (h : List Ob) : SubR :=
cB (decide (n_ < (0))) (
some (.normal, [(.int .i64 m)], h)) (
cB (decide (m < n_)) (
some (.normal, [(.int .i64 m)], h)) (
some (.normal, [(.int .i64 n_)], h)))
theorem S31_3_eq (lf : Nat) (n_ : Int) (m : Int) (h : List Ob) : evCK A31 ⟨call31 lf, cvN, subN⟩ k31_3 [(3, (.int .i64 n_)), (9, (.int .i64 m))] h (endK o31_3) = S31_3 lf n_ m h := by kernel_rfl
theorem S31_3_ok (lf : Nat) : SubOk Go.Proofs.Tryd.prog k31_3.er [3, 9] o31_3 (w31_3 (S31_3 lf)) := by
  refine SubOk.of (A := A31) (σ := ⟨call31 lf, cvN, subN⟩) (c := k31_3) (call31_ok lf) cvN_ok (And.intro True.intro (And.intro True.intro True.intro)) ?_
  intro vs h r e0
  simp only [w31_3] at e0
  obtain ⟨c1, l1, rfl, e1⟩ := castCons_inv e0
  obtain ⟨y0, rfl, e2⟩ := castInt_inv e1
  obtain ⟨c2, l2, rfl, e3⟩ := castCons_inv e2
  obtain ⟨y1, rfl, e4⟩ := castInt_inv e3
  obtain ⟨rfl, e5⟩ := castNil_inv e4
  have e := e5
  exact (S31_3_eq lf y0 y1 h).trans e
def o31_4 : Outs := [(.normal, [9], [(.int .i64)])]
def k31_4 : KC := (.seq (.reg [⟨(some 17), none, (.op (.mv (.t 3))), []⟩, ⟨(some 18), none, (.op (.bin .neq (.t 17) (.c (.int .i64 0)))), []⟩]) (.cond (.t 18) (.reg [⟨(some 19), none, (.op (.mv (.t 0))), []⟩, ⟨(some 20), none, (.op (.mv (.t 1))), []⟩, ⟨(some 21), none, (.call 46 [(.t 19), (.t 20)]), []⟩, ⟨(some 9), none, (.op (.mv (.t 21))), []⟩]) .skip))
def w31_4 (f : V → V → Int → Int → List Ob → SubR) (vs : List V) (h : List Ob) : SubR := castCons vs fun c1 l1 => castCons l1 fun c2 l2 => castCons l2 fun c3 l3 => castInt .i64 c3 fun n4 => castCons l3 fun c5 l5 => castInt .i64 c5 fun n6 => castNil l5 (f c1 c2 n4 n6 h)
noncomputable def S31_4 (lf : Nat) (s : V) (old : V) (n_ : Int) (m : Int) (h : List Ob) : SubR :=
cB (n_ != (0)) (
bind2 (F46 lf s old h) fun v h_ =>
castInt .i64 v fun x21 =>
some (.normal, [(.int .i64 x21)], h_)) (
some (.normal, [(.int .i64 m)], h))
theorem S31_4_eq (lf : Nat) (s : V) (old : V) (n_ : Int) (m : Int) (h : List Ob) : evCK A31 ⟨call31 lf, cvN, subN⟩ k31_4 [(0, s), (1, old), (3, (.int .i64 n_)), (9, (.int .i64 m))] h (endK o31_4) = S31_4 lf s old n_ m h := by kernel_rfl
theorem S31_4_ok (lf : Nat) : SubOk Go.Proofs.Tryd.prog k31_4.er [0, 1, 3, 9] o31_4 (w31_4 (S31_4 lf)) := by
  refine SubOk.of (A := A31) (σ := ⟨call31 lf, cvN, subN⟩) (c := k31_4) (call31_ok lf) cvN_ok (And.intro True.intro (And.intro True.intro True.intro)) ?_
  intro vs h r e0
  simp only [w31_4] at e0
  obtain ⟨c1, l1, rfl, e1⟩ := castCons_inv e0
  obtain ⟨c2, l2, rfl, e2⟩ := castCons_inv e1
  obtain ⟨c3, l3, rfl, e3⟩ := castCons_inv e2
  obtain ⟨y2, rfl, e4⟩ := castInt_inv e3
  obtain ⟨c4, l4, rfl, e5⟩ := castCons_inv e4
  obtain ⟨y3, rfl, e6⟩ := castInt_inv e5
  obtain ⟨rfl, e7⟩ := castNil_inv e6
  have e := e7
  exact (S31_4_eq lf c1 c2 y2 y3 h).trans e
def k31 : KC := (.seq (.reg [⟨(some 8), none, (.op (.mv (.c .nils))), []⟩]) (.seq (.reg [⟨(some 9), none, (.op (.mv (.c (.int .i64 0)))), []⟩]) (.seq (.sub 4 k31_4.er [0, 1, 3, 9] o31_4) (.seq (.seq (.reg [⟨(some 22), none, (.op (.mv (.t 9))), []⟩, ⟨(some 23), none, (.op (.bin .eql (.t 22) (.c (.int .i64 0)))), []⟩]) (.cond (.t 23) (.seq (.reg [⟨(some 24), none, (.op (.mv (.t 0))), []⟩, ⟨(some 25), none, (.op (.app 1 1 (.c .nils) (.t 24))), []⟩, ⟨(some 8), none, (.op (.mv (.t 25))), []⟩]) .ret) .skip)) (.seq (.sub 3 k31_3.er [3, 9] o31_3) (.seq (.reg [⟨(some 34), none, (.op (.mv (.t 0))), []⟩, ⟨(some 35), none, (.op (.lenL (.t 34))), []⟩, ⟨(some 36), none, (.op (.mv (.t 3))), []⟩, ⟨(some 37), none, (.op (.mv (.t 2))), []⟩, ⟨(some 38), none, (.op (.lenL (.t 37))), []⟩, ⟨(some 39), none, (.op (.mv (.t 1))), []⟩, ⟨(some 40), none, (.op (.lenL (.t 39))), []⟩, ⟨(some 41), none, (.op (.bin .sub (.t 38) (.t 40))), []⟩, ⟨(some 42), none, (.op (.bin .mul (.t 36) (.t 41))), []⟩, ⟨(some 43), none, (.op (.bin .add (.t 35) (.t 42))), []⟩, ⟨(some 44), none, (.op (.mkslice (.int .u8 0) 1 (.t 43) (.t 43))), []⟩, ⟨(some 10), none, (.op (.mv (.t 44))), []⟩]) (.seq (.reg [⟨(some 11), none, (.op (.mv (.c (.int .i64 0)))), []⟩]) (.seq (.reg [⟨(some 12), none, (.op (.mv (.c (.int .i64 0)))), []⟩]) (.seq (.sub 2 k31_2.er [0, 1, 2, 3, 10, 11, 12] o31_2) (.seq (.reg [⟨(some 120), none, (.op (.mv (.t 11))), []⟩, ⟨(some 121), none, (.op (.mv (.t 10))), []⟩, ⟨(some 122), none, (.op (.mv (.t 11))), []⟩, ⟨(some 123), none, (.op (.slcL 1 (.t 121) (some (.t 122)) none none)), []⟩, ⟨(some 124), none, (.op (.mv (.t 0))), []⟩, ⟨(some 125), none, (.op (.mv (.t 12))), []⟩, ⟨(some 126), none, (.op (.slcL 1 (.t 124) (some (.t 125)) none none)), []⟩, ⟨(some 127), none, (.op (.copy 1 (.t 123) (.t 126))), []⟩, ⟨(some 128), none, (.op (.bin .add (.t 120) (.t 127))), []⟩, ⟨(some 11), none, (.op (.mv (.t 128))), []⟩]) (.seq (.reg [⟨(some 129), none, (.op (.mv (.t 10))), []⟩, ⟨(some 130), none, (.op (.mv (.t 11))), []⟩, ⟨(some 131), none, (.op (.slcL 1 (.t 129) (some (.c (.int .i64 0))) (some (.t 130)) none)), []⟩, ⟨(some 8), none, (.op (.mv (.t 131))), []⟩]) .ret)))))))))))
noncomputable def F31 (lf : Nat) (s : V) (old : V) (new : V) (n_ : Int) (h : List Ob) : Option (V × List Ob) :=
bind3 (S31_4 lf s old n_ (0) h) fun ex vs h_ =>
cB (decide (ex = .normal)) (
castCons vs fun c l =>
castInt .i64 c fun m =>
castNil l (
cB (m == (0)) (
bind2 (ev (.app 1 1 (.c V.nils) (.c s)) h_) fun x25 h_1 =>
some (x25, h_1)) (
bind3 (S31_3 lf n_ m h_) fun ex1 vs1 h_1 =>
cB (decide (ex1 = .normal)) (
castCons vs1 fun c1 l1 =>
castInt .i64 c1 fun n_1 =>
castNil l1 (
bind1 (er (.lenL (.c s)) h_1) fun v =>
castInt .i64 v fun x35 =>
bind1 (er (.lenL (.c new)) h_1) fun v1 =>
castInt .i64 v1 fun x38 =>
bind1 (er (.lenL (.c old)) h_1) fun v2 =>
castInt .i64 v2 fun x40 =>
bind2 (ev (.mkslice (.int .u8 0) 1 (.c (.int .i64 (IntKind.i64.wrap (x35 + (IntKind.i64.wrap (n_1 * (IntKind.i64.wrap (x38 - x40)))))))) (.c (.int .i64 (IntKind.i64.wrap (x35 + (IntKind.i64.wrap (n_1 * (IntKind.i64.wrap (x38 - x40))))))))) h_1) fun x44 h_2 =>
bind3 (S31_2 lf s old new n_1 x44 (0) (0) h_2) fun ex2 vs2 h_3 =>
cB (decide (ex2 = .normal)) (
castCons vs2 fun c2 l2 =>
castInt .i64 c2 fun w =>
castCons l2 fun c3 l3 =>
castInt .i64 c3 fun start =>
castNil l3 (
bind1 (er (.slcL 1 (.c x44) (some (.c (.int .i64 w))) none none) h_3) fun x123 =>
bind1 (er (.slcL 1 (.c s) (some (.c (.int .i64 start))) none none) h_3) fun x126 =>
bind2 (ev (.copy 1 (.c x123) (.c x126)) h_3) fun v3 h_4 =>
castInt .i64 v3 fun x127 =>
bind1 (er (.slcL 1 (.c x44) (some (.c (.int .i64 (0)))) (some (.c (.int .i64 (IntKind.i64.wrap (w + x127))))) none) h_4) fun x131 =>
some (x131, h_4))) (
none))) (
none)))) (
none)
theorem F31_eq (lf : Nat) (s : V) (old : V) (new : V) (n_ : Int) (h : List Ob) : evCK A31 ⟨call31 lf, cvN, subC 2 (w31_2 (S31_2 lf)) (subC 3 (w31_3 (S31_3 lf)) (subC 4 (w31_4 (S31_4 lf)) (subN)))⟩ k31 (entryK [s, old, new, (.int .i64 n_)]) h (endF c31.res) = F31 lf s old new n_ h := by kernel_rfl
theorem F31_ok (lf : Nat) (s : V) (old : V) (new : V) (n_ : Int) (h : List Ob) (r_ : V) (h_r : List Ob) (e_ : F31 lf s old new n_ h = some (r_, h_r)) : CD Go.Proofs.Tryd.prog 31 [s, old, new, (.int .i64 n_)] h r_ h_r :=
  CD.ofK (A := A31) (σ := ⟨call31 lf, cvN, subC 2 (w31_2 (S31_2 lf)) (subC 3 (w31_3 (S31_3 lf)) (subC 4 (w31_4 (S31_4 lf)) (subN)))⟩) (c := k31) Go.Proofs.Tryd.func31 ok31 en31 (show 4 ≤ 132 by decide) (by kernel_rfl) (call31_ok lf) cvN_ok (And.intro True.intro (And.intro True.intro (And.intro (S31_4_ok lf) (And.intro (And.intro True.intro (And.intro (And.intro True.intro True.intro) True.intro)) (And.intro (S31_3_ok lf) (And.intro True.intro (And.intro True.intro (And.intro True.intro (And.intro (S31_2_ok lf) (And.intro True.intro (And.intro True.intro True.intro))))))))))) ((F31_eq lf s old new n_ h).trans e_)
def w31 (f : V → V → V → Int → List Ob → Option (V × List Ob)) (vs : List V) (h : List Ob) : Option (V × List Ob) := castCons vs fun c1 l1 => castCons l1 fun c2 l2 => castCons l2 fun c3 l3 => castCons l3 fun c4 l4 => castInt .i64 c4 fun n5 => castNil l4 (f c1 c2 c3 n5 h)
noncomputable def W31 (lf : Nat) : List V → List Ob → Option (V × List Ob) := w31 (F31 lf)
theorem W31_ok (lf : Nat) : ∀ args h v h', W31 lf args h = some (v, h') → CD Go.Proofs.Tryd.prog 31 args h v h' := by
  intro vs h r h' e0
  simp only [W31, w31] at e0
  obtain ⟨c1, l1, rfl, e1⟩ := castCons_inv e0
  obtain ⟨c2, l2, rfl, e2⟩ := castCons_inv e1
  obtain ⟨c3, l3, rfl, e3⟩ := castCons_inv e2
  obtain ⟨c4, l4, rfl, e4⟩ := castCons_inv e3
  obtain ⟨y3, rfl, e5⟩ := castInt_inv e4
  obtain ⟨rfl, e6⟩ := castNil_inv e5
  have e := e6
  exact F31_ok lf c1 c2 c3 y3 h r h' e

/-! 26: bytes.ReplaceAll -/
def A26 : List (Nat × Sh) := []
noncomputable def call26 (lf : Nat) : CallS := callC 31 (W31 lf) (callN)
theorem call26_ok (lf : Nat) : CallOk Go.Proofs.Tryd.prog (call26 lf) := callC_ok (W31_ok lf) (callN_ok)
def k26 : KC := (.seq (.reg [⟨(some 6), none, (.op (.mv (.c .nils))), []⟩]) (.seq (.reg [⟨(some 7), none, (.op (.mv (.t 0))), []⟩, ⟨(some 8), none, (.op (.mv (.t 1))), []⟩, ⟨(some 9), none, (.op (.mv (.t 2))), []⟩, ⟨(some 10), none, (.call 31 [(.t 7), (.t 8), (.t 9), (.c (.int .i64 (-0 - 1)))]), []⟩, ⟨(some 6), none, (.op (.mv (.t 10))), []⟩]) .ret))
noncomputable def F26 (lf : Nat) (s : V) (old : V) (new : V) (h : List Ob) : Option (V × List Ob) :=
bind2 (F31 lf s old new (-1) h) fun x10 h_ =>
some (x10, h_)
theorem F26_eq (lf : Nat) (s : V) (old : V) (new : V) (h : List Ob) : evCK A26 ⟨call26 lf, cvN, subN⟩ k26 (entryK [s, old, new]) h (endF c26.res) = F26 lf s old new h := by kernel_rfl
theorem F26_ok (lf : Nat) (s : V) (old : V) (new : V) (h : List Ob) (r_ : V) (h_r : List Ob) (e_ : F26 lf s old new h = some (r_, h_r)) : CD Go.Proofs.Tryd.prog 26 [s, old, new] h r_ h_r :=
  CD.ofK (A := A26) (σ := ⟨call26 lf, cvN, subN⟩) (c := k26) Go.Proofs.Tryd.func26 ok26 en26 (show 3 ≤ 11 by decide) (by kernel_rfl) (call26_ok lf) cvN_ok (And.intro True.intro (And.intro True.intro True.intro)) ((F26_eq lf s old new h).trans e_)
def w26 (f : V → V → V → List Ob → Option (V × List Ob)) (vs : List V) (h : List Ob) : Option (V × List Ob) := castCons vs fun c1 l1 => castCons l1 fun c2 l2 => castCons l2 fun c3 l3 => castNil l3 (f c1 c2 c3 h)
noncomputable def W26 (lf : Nat) : List V → List Ob → Option (V × List Ob) := w26 (F26 lf)
theorem W26_ok (lf : Nat) : ∀ args h v h', W26 lf args h = some (v, h') → CD Go.Proofs.Tryd.prog 26 args h v h' := by
  intro vs h r h' e0
  simp only [W26, w26] at e0
  obtain ⟨c1, l1, rfl, e1⟩ := castCons_inv e0
  obtain ⟨c2, l2, rfl, e2⟩ := castCons_inv e1
  obtain ⟨c3, l3, rfl, e3⟩ := castCons_inv e2
  obtain ⟨rfl, e4⟩ := castNil_inv e3
  have e := e4
  exact F26_ok lf c1 c2 c3 h r h' e

/-! 16: wainscot/keys.Key -/
def A16 : List (Nat × Sh) := [(3, (.int .i64)), (7, (.int .i64)), (9, (.int .i64)), (10, (.int .i64)), (11, .bool), (13, (.agg [(.int .i64), (.int .i64), .str])), (14, (.agg [(.int .i64), (.int .i64), .str])), (15, .bool), (16, .bool), (18, (.int .i64)), (24, .str), (33, .bool), (34, .bool), (38, .bool), (39, .bool), (43, (.int .i64)), (44, .bool), (45, (.int .i64)), (46, (.int .i64)), (49, (.int .i64)), (50, (.int .u64)), (51, (.int .u64)), (52, (.int .i64)), (53, (.int .u64)), (54, (.int .u8)), (57, (.int .i64))]
noncomputable def call16 (lf : Nat) : CallS := callC 26 (W26 lf) (callC 25 (W25 lf) (callN))
theorem call16_ok (lf : Nat) : CallOk Go.Proofs.Tryd.prog (call16 lf) := callC_ok (W26_ok lf) (callC_ok (W25_ok lf) (callN_ok))
def o16_0 : Outs := [((.exit 3), [4], [.any])]
def k16_0 : KC := (.seq (.seq (.reg [⟨(some 43), none, (.op (.mv (.t 7))), []⟩, ⟨(some 44), none, (.op (.bin .geq (.t 43) (.c (.int .i64 0)))), []⟩]) (.cond (.t 44) .skip (.exit 3))) (.seq (.block 4 (.reg [⟨(some 47), none, (.op (.mv (.t 4))), []⟩, ⟨(some 48), none, (.op (.faddr 1 (.t 6))), []⟩, ⟨(some 49), none, (.op (.load1 (.t 48))), []⟩, ⟨(some 50), none, (.op (.toInt .u64 (.t 49))), []⟩, ⟨(some 51), none, (.op (.bin .xor (.t 50) (.c (.int .u64 9223372036854775808)))), []⟩, ⟨(some 52), none, (.op (.mv (.t 7))), []⟩, ⟨(some 53), none, (.op (.bin .shr (.t 51) (.t 52))), []⟩, ⟨(some 54), none, (.op (.toInt .u8 (.t 53))), []⟩, ⟨(some 55), none, (.op (.bslice 1 (.int .u8 0) 1 [(0, (.t 54))])), []⟩, ⟨(some 56), none, (.op (.app 1 1 (.t 47) (.t 55))), []⟩, ⟨(some 4), none, (.op (.mv (.t 56))), []⟩])) (.reg [⟨(some 45), none, (.op (.mv (.t 7))), []⟩, ⟨(some 46), none, (.op (.bin .sub (.t 45) (.c (.int .i64 8)))), []⟩, ⟨(some 7), none, (.op (.mv (.t 46))), []⟩])))
def w16_0 (f : V → V → Int → List Ob → SubR) (vs : List V) (h : List Ob) : SubR := castCons vs fun c1 l1 => castCons l1 fun c2 l2 => castCons l2 fun c3 l3 => castInt .i64 c3 fun n4 => castNil l3 (f c1 c2 n4 h)
noncomputable def B16_0 (lf : Nat) (self : V → V → Int → List Ob → SubR) (b : V) (v : V) (shift : Int) (h : List Ob) : SubR :=
cB (decide (shift ≥ (0))) (
bind1 (er (.faddr 1 (.c v)) h) fun x48 =>
bind1 (er (.load1 (.c x48)) h) fun v1 =>
castInt .i64 v1 fun x49 =>
bind1 (er (.bin .shr (.c (.int .u64 (bits .xor .u64 (IntKind.u64.wrap x49) (9223372036854775808)))) (.c (.int .i64 shift))) h) fun v2 =>
castInt .u64 v2 fun x53 =>
bind2 (ev (.bslice 1 (.int .u8 0) 1 [(0, (.c (.int .u8 (IntKind.u8.wrap x53))))]) h) fun x55 h_ =>
bind2 (ev (.app 1 1 (.c b) (.c x55)) h_) fun x56 h_1 =>
self x56 v (IntKind.i64.wrap (shift - (8))) h_1) (
some ((.exit 3), [b], h))
noncomputable def L16_0 (lf : Nat) : Nat → V → V → Int → List Ob → SubR
  | 0 => fun _ _ _ _ => none
  | n + 1 => B16_0 lf (L16_0 lf n)
theorem B16_0_eq (lf : Nat) (self : V → V → Int → List Ob → SubR) (b : V) (v : V) (shift : Int) (h : List Ob) : evCK A16 ⟨call16 lf, cvN, subN⟩ k16_0 [(4, b), (6, v), (7, (.int .i64 shift))] h (endL [4, 6, 7] [.any, .any, (.int .i64)] o16_0 (w16_0 self)) = B16_0 lf self b v shift h := by kernel_rfl
theorem L16_0_ok (lf : Nat) : ∀ n, SubOk Go.Proofs.Tryd.prog (.loop k16_0.er) [4, 6, 7] o16_0 (w16_0 (L16_0 lf n)) := by
  refine SubOk.loop (A := A16) (σ := ⟨call16 lf, cvN, subN⟩) (c := k16_0) (shs := [.any, .any, (.int .i64)]) (G := fun n => w16_0 (L16_0 lf n)) (call16_ok lf) cvN_ok (And.intro (And.intro True.intro (And.intro True.intro True.intro)) (And.intro True.intro True.intro)) ?_ ?_
  · intro vs h r e0
    simp only [w16_0] at e0
    obtain ⟨c1, l1, rfl, e1⟩ := castCons_inv e0
    obtain ⟨c2, l2, rfl, e2⟩ := castCons_inv e1
    obtain ⟨c3, l3, rfl, e3⟩ := castCons_inv e2
    obtain ⟨y2, rfl, e4⟩ := castInt_inv e3
    obtain ⟨rfl, e5⟩ := castNil_inv e4
    have e := e5
    cases e
  · intro n vs h r e0
    simp only [w16_0] at e0
    obtain ⟨c1, l1, rfl, e1⟩ := castCons_inv e0
    obtain ⟨c2, l2, rfl, e2⟩ := castCons_inv e1
    obtain ⟨c3, l3, rfl, e3⟩ := castCons_inv e2
    obtain ⟨y2, rfl, e4⟩ := castInt_inv e3
    obtain ⟨rfl, e5⟩ := castNil_inv e4
    have e := e5
    exact (B16_0_eq lf (L16_0 lf n) c1 c2 y2 h).trans e
def o16_1 : Outs := [((.exit 0), [4], [.any]), (.ret, [2, 3], [.any, (.int .i64)])]
def k16_1 : KC := (.seq (.reg [⟨(some 11), none, (.op (.bin .lss (.t 10) (.t 9))), []⟩]) (.seq (.cond (.t 11) .skip (.exit 0)) (.seq (.block 1 (.seq (.reg [⟨(some 12), none, (.op (.iaddrL 3 (.t 8) (.t 10))), []⟩, ⟨(some 13), none, (.op (.loadN 3 (.t 12))), []⟩, ⟨(some 6), none, (.op (.alloc false (.agg [(.int .i64 0), (.int .i64 0), (.str [])]))), []⟩, ⟨none, none, (.op (.store 3 (.t 6) (.t 13))), []⟩]) (.seq (.seq (.reg [⟨(some 14), none, (.op (.loadN 3 (.t 6))), []⟩, ⟨(some 15), none, (.call 25 [(.t 14)]), []⟩, ⟨(some 16), none, (.op (.un .not (.t 15))), []⟩]) (.cond (.t 16) (.seq (.reg [⟨(some 2), none, (.op (.mv (.c .nils))), []⟩, ⟨(some 3), none, (.op (.mv (.c (.int .i64 1)))), []⟩]) .ret) .skip)) (.seq (.reg [⟨(some 17), none, (.op (.faddr 0 (.t 6))), []⟩, ⟨(some 18), none, (.op (.load1 (.t 17))), []⟩]) (.block 2 (.seq (.reg [⟨(some 34), none, (.op (.bin .eql (.t 18) (.c (.int .i64 0)))), []⟩, ⟨(some 33), none, (.op (.mv (.t 34))), []⟩]) (.cond (.t 33) (.reg [⟨(some 35), none, (.op (.mv (.t 4))), []⟩, ⟨(some 36), none, (.op (.bslice 1 (.int .u8 0) 1 [(0, (.c (.int .u8 5)))])), []⟩, ⟨(some 37), none, (.op (.app 1 1 (.t 35) (.t 36))), []⟩, ⟨(some 4), none, (.op (.mv (.t 37))), []⟩]) (.seq (.reg [⟨(some 39), none, (.op (.bin .eql (.t 18) (.c (.int .i64 1)))), []⟩, ⟨(some 38), none, (.op (.mv (.t 39))), []⟩]) (.cond (.t 38) (.seq (.reg [⟨(some 40), none, (.op (.mv (.t 4))), []⟩, ⟨(some 41), none, (.op (.bslice 1 (.int .u8 0) 1 [(0, (.c (.int .u8 16)))])), []⟩, ⟨(some 42), none, (.op (.app 1 1 (.t 40) (.t 41))), []⟩, ⟨(some 4), none, (.op (.mv (.t 42))), []⟩]) (.seq (.reg [⟨(some 7), none, (.op (.mv (.c (.int .i64 56)))), []⟩]) (.block 3 (.sub 0 (.loop k16_0.er) [4, 6, 7] o16_0)))) (.seq (.reg [⟨(some 19), none, (.op (.mv (.t 4))), []⟩, ⟨(some 20), none, (.op (.bslice 1 (.int .u8 0) 1 [(0, (.c (.int .u8 32)))])), []⟩, ⟨(some 21), none, (.op (.app 1 1 (.t 19) (.t 20))), []⟩, ⟨(some 4), none, (.op (.mv (.t 21))), []⟩]) (.seq (.reg [⟨(some 22), none, (.op (.mv (.t 4))), []⟩, ⟨(some 23), none, (.op (.faddr 2 (.t 6))), []⟩, ⟨(some 24), none, (.op (.load1 (.t 23))), []⟩, ⟨(some 25), none, (.op (.toBytes (.t 24))), []⟩, ⟨(some 26), none, (.op (.bslice 1 (.int .u8 0) 1 [(0, (.c (.int .u8 0)))])), []⟩, ⟨(some 27), none, (.op (.bslice 1 (.int .u8 0) 2 [(0, (.c (.int .u8 0))), (1, (.c (.int .u8 255)))])), []⟩, ⟨(some 28), none, (.call 26 [(.t 25), (.t 26), (.t 27)]), []⟩, ⟨(some 29), none, (.op (.app 1 1 (.t 22) (.t 28))), []⟩, ⟨(some 4), none, (.op (.mv (.t 29))), []⟩]) (.reg [⟨(some 30), none, (.op (.mv (.t 4))), []⟩, ⟨(some 31), none, (.op (.bslice 1 (.int .u8 0) 2 [(0, (.c (.int .u8 0))), (1, (.c (.int .u8 0)))])), []⟩, ⟨(some 32), none, (.op (.app 1 1 (.t 30) (.t 31))), []⟩, ⟨(some 4), none, (.op (.mv (.t 32))), []⟩])))))))))))) (.reg [⟨(some 57), none, (.op (.bin .add (.t 10) (.c (.int .i64 1)))), []⟩, ⟨(some 10), none, (.op (.mv (.t 57))), []⟩]))))
def w16_1 (f : V → V → Int → Int → List Ob → SubR) (vs : List V) (h : List Ob) : SubR := castCons vs fun c1 l1 => castCons l1 fun c2 l2 => castCons l2 fun c3 l3 => castInt .i64 c3 fun n4 => castCons l3 fun c5 l5 => castInt .i64 c5 fun n6 => castNil l5 (f c1 c2 n4 n6 h)
noncomputable def B16_1 (lf : Nat) (self : V → V → Int → Int → List Ob → SubR) (b : V) (x8 : V) (x9 : Int) (x10 : Int) (h : List Ob) : SubR :=
cB (decide (x10 < x9)) (
bind1 (er (.iaddrL 3 (.c x8) (.c (.int .i64 x10))) h) fun x12 =>
bind1 (er (.loadN 3 (.c x12)) h) fun v =>
castAgg v fun l =>
castCons l fun c l1 =>
castInt .i64 c fun x13_0 =>
castCons l1 fun c1 l2 =>
castInt .i64 c1 fun x13_1 =>
castCons l2 fun c2 l3 =>
castStr c2 fun x13_2 =>
castNil l3 (
bind2 (ev (.alloc false (.agg [(.int .i64 0), (.int .i64 0), (.str [])])) h) fun v1 h_ =>
bind2 (ev (.store 3 (.c v1) (.c (.agg [(.int .i64 x13_0), (.int .i64 x13_1), (.str x13_2)]))) h_) fun u h_1 =>
bind1 (er (.loadN 3 (.c v1)) h_1) fun v2 =>
castAgg v2 fun l4 =>
castCons l4 fun c3 l5 =>
castInt .i64 c3 fun x14_0 =>
castCons l5 fun c4 l6 =>
castInt .i64 c4 fun x14_1 =>
castCons l6 fun c5 l7 =>
castStr c5 fun x14_2 =>
castNil l7 (
bind2 (F25 lf x14_0 x14_1 x14_2 h_1) fun v3 h_2 =>
castBool v3 fun x15 =>
cB (!x15) (
some (.ret, [V.nils, (.int .i64 (1))], h_2)) (
bind1 (er (.faddr 0 (.c v1)) h_2) fun x17 =>
bind1 (er (.load1 (.c x17)) h_2) fun v4 =>
castInt .i64 v4 fun x18 =>
cB (x18 == (0)) (
bind2 (ev (.bslice 1 (.int .u8 0) 1 [(0, (.c (.int .u8 (5))))]) h_2) fun x36 h_3 =>
bind2 (ev (.app 1 1 (.c b) (.c x36)) h_3) fun x37 h_4 =>
self x37 x8 x9 (IntKind.i64.wrap (x10 + (1))) h_4) (
cB (x18 == (1)) (
bind2 (ev (.bslice 1 (.int .u8 0) 1 [(0, (.c (.int .u8 (16))))]) h_2) fun x41 h_3 =>
bind2 (ev (.app 1 1 (.c b) (.c x41)) h_3) fun x42 h_4 =>
bind3 (L16_0 lf lf x42 v1 (56) h_4) fun ex vs h_5 =>
cB (decide (ex = (.exit 3))) (
castCons vs fun b1 l8 =>
castNil l8 (
self b1 x8 x9 (IntKind.i64.wrap (x10 + (1))) h_5)) (
none)) (
bind2 (ev (.bslice 1 (.int .u8 0) 1 [(0, (.c (.int .u8 (32))))]) h_2) fun x20 h_3 =>
bind2 (ev (.app 1 1 (.c b) (.c x20)) h_3) fun x21 h_4 =>
bind1 (er (.faddr 2 (.c v1)) h_4) fun x23 =>
bind1 (er (.load1 (.c x23)) h_4) fun v5 =>
castStr v5 fun x24 =>
bind2 (ev (.toBytes (.c (.str x24))) h_4) fun x25 h_5 =>
bind2 (ev (.bslice 1 (.int .u8 0) 1 [(0, (.c (.int .u8 (0))))]) h_5) fun x26 h_6 =>
bind2 (ev (.bslice 1 (.int .u8 0) 2 [(0, (.c (.int .u8 (0)))), (1, (.c (.int .u8 (255))))]) h_6) fun x27 h_7 =>
bind2 (F26 lf x25 x26 x27 h_7) fun x28 h_8 =>
bind2 (ev (.app 1 1 (.c x21) (.c x28)) h_8) fun x29 h_9 =>
bind2 (ev (.bslice 1 (.int .u8 0) 2 [(0, (.c (.int .u8 (0)))), (1, (.c (.int .u8 (0))))]) h_9) fun x31 h_10 =>
bind2 (ev (.app 1 1 (.c x29) (.c x31)) h_10) fun x32 h_11 =>
self x32 x8 x9 (IntKind.i64.wrap (x10 + (1))) h_11)))))) (
some ((.exit 0), [b], h))
noncomputable def L16_1 (lf : Nat) : Nat → V → V → Int → Int → List Ob → SubR
  | 0 => fun _ _ _ _ _ => none
  | n + 1 => B16_1 lf (L16_1 lf n)
theorem B16_1_eq (lf : Nat) (self : V → V → Int → Int → List Ob → SubR) (b : V) (x8 : V) (x9 : Int) (x10 : Int) (h : List Ob) : evCK A16 ⟨call16 lf, cvN, subC 0 (w16_0 (L16_0 lf lf)) (subN)⟩ k16_1 [(4, b), (8, x8), (9, (.int .i64 x9)), (10, (.int .i64 x10))] h (endL [4, 8, 9, 10] [.any, .any, (.int .i64), (.int .i64)] o16_1 (w16_1 self)) = B16_1 lf self b x8 x9 x10 h := by kernel_rfl
theorem L16_1_ok (lf : Nat) : ∀ n, SubOk Go.Proofs.Tryd.prog (.loop k16_1.er) [4, 8, 9, 10] o16_1 (w16_1 (L16_1 lf n)) := by
  refine SubOk.loop (A := A16) (σ := ⟨call16 lf, cvN, subC 0 (w16_0 (L16_0 lf lf)) (subN)⟩) (c := k16_1) (shs := [.any, .any, (.int .i64), (.int .i64)]) (G := fun n => w16_1 (L16_1 lf n)) (call16_ok lf) cvN_ok (And.intro True.intro (And.intro (And.intro True.intro True.intro) (And.intro (And.intro True.intro (And.intro (And.intro True.intro (And.intro (And.intro True.intro True.intro) True.intro)) (And.intro True.intro (And.intro True.intro (And.intro True.intro (And.intro True.intro (And.intro (And.intro True.intro (And.intro True.intro (L16_0_ok lf lf))) (And.intro True.intro (And.intro True.intro True.intro))))))))) True.intro))) ?_ ?_
  · intro vs h r e0
    simp only [w16_1] at e0
    obtain ⟨c1, l1, rfl, e1⟩ := castCons_inv e0
    obtain ⟨c2, l2, rfl, e2⟩ := castCons_inv e1
    obtain ⟨c3, l3, rfl, e3⟩ := castCons_inv e2
    obtain ⟨y2, rfl, e4⟩ := castInt_inv e3
    obtain ⟨c4, l4, rfl, e5⟩ := castCons_inv e4
    obtain ⟨y3, rfl, e6⟩ := castInt_inv e5
    obtain ⟨rfl, e7⟩ := castNil_inv e6
    have e := e7
    cases e
  · intro n vs h r e0
    simp only [w16_1] at e0
    obtain ⟨c1, l1, rfl, e1⟩ := castCons_inv e0
    obtain ⟨c2, l2, rfl, e2⟩ := castCons_inv e1
    obtain ⟨c3, l3, rfl, e3⟩ := castCons_inv e2
    obtain ⟨y2, rfl, e4⟩ := castInt_inv e3
    obtain ⟨c4, l4, rfl, e5⟩ := castCons_inv e4
    obtain ⟨y3, rfl, e6⟩ := castInt_inv e5
    obtain ⟨rfl, e7⟩ := castNil_inv e6
    have e := e7
    exact (B16_1_eq lf (L16_1 lf n) c1 c2 y2 y3 h).trans e
def k16 : KC := (.seq (.reg [⟨(some 2), none, (.op (.mv (.c .nils))), []⟩, ⟨(some 3), none, (.op (.mv (.c (.int .i64 0)))), []⟩]) (.seq (.reg [⟨(some 4), none, (.op (.mv (.c .nils))), []⟩]) (.seq (.seq (.reg [⟨(some 8), none, (.op (.mv (.t 0))), []⟩, ⟨(some 9), none, (.op (.lenL (.t 8))), []⟩, ⟨(some 10), none, (.op (.mv (.c (.int .i64 0)))), []⟩]) (.block 0 (.sub 1 (.loop k16_1.er) [4, 8, 9, 10] o16_1))) (.seq (.reg [⟨(some 58), none, (.op (.mv (.t 4))), []⟩, ⟨(some 2), none, (.op (.mv (.t 58))), []⟩, ⟨(some 3), none, (.op (.mv (.c (.int .i64 0)))), []⟩]) .ret))))
noncomputable def F16 (lf : Nat) (row : V) (h : List Ob) : Option (V × List Ob) :=
bind1 (er (.lenL (.c row)) h) fun v =>
castInt .i64 v fun x9 =>
bind3 (L16_1 lf lf V.nils row x9 (0) h) fun ex vs h_ =>
cB (decide (ex = (.exit 0))) (
castCons vs fun b l =>
castNil l (
some ((.tup [b, (.int .i64 (0))]), h_))) (
cB (decide (ex = .ret)) (
castCons vs fun x2 l =>
castCons l fun c l1 =>
castInt .i64 c fun x3 =>
castNil l1 (
some ((.tup [x2, (.int .i64 x3)]), h_))) (
none))
theorem F16_eq (lf : Nat) (row : V) (h : List Ob) : evCK A16 ⟨call16 lf, cvN, subC 1 (w16_1 (L16_1 lf lf)) (subN)⟩ k16 (entryK [row]) h (endF c16.res) = F16 lf row h := by kernel_rfl
theorem F16_ok (lf : Nat) (row : V) (h : List Ob) (r_ : V) (h_r : List Ob) (e_ : F16 lf row h = some (r_, h_r)) : CD Go.Proofs.Tryd.prog 16 [row] h r_ h_r :=
  CD.ofK (A := A16) (σ := ⟨call16 lf, cvN, subC 1 (w16_1 (L16_1 lf lf)) (subN)⟩) (c := k16) Go.Proofs.Tryd.func16 ok16 en16 (show 1 ≤ 59 by decide) (by kernel_rfl) (call16_ok lf) cvN_ok (And.intro True.intro (And.intro True.intro (And.intro (And.intro True.intro (L16_1_ok lf lf)) (And.intro True.intro True.intro)))) ((F16_eq lf row h).trans e_)
def w16 (f : V → List Ob → Option (V × List Ob)) (vs : List V) (h : List Ob) : Option (V × List Ob) := castCons vs fun c1 l1 => castNil l1 (f c1 h)
noncomputable def W16 (lf : Nat) : List V → List Ob → Option (V × List Ob) := w16 (F16 lf)
theorem W16_ok (lf : Nat) : ∀ args h v h', W16 lf args h = some (v, h') → CD Go.Proofs.Tryd.prog 16 args h v h' := by
  intro vs h r h' e0
  simp only [W16, w16] at e0
  obtain ⟨c1, l1, rfl, e1⟩ := castCons_inv e0
  obtain ⟨rfl, e2⟩ := castNil_inv e1
  have e := e2
  exact F16_ok lf c1 h r h' e

/-! 17: wainscot/bag.sum -/
def A17 : List (Nat × Sh) := [(0, (.int .i64)), (1, (.int .i64)), (4, (.int .i64)), (5, .bool), (6, (.int .i64)), (7, (.int .i64)), (8, (.int .i64)), (9, (.int .i64)), (10, (.int .i64)), (11, (.int .i64)), (12, (.int .i64)), (13, .bool), (14, (.int .i64)), (15, .bool), (16, .bool)]
noncomputable def call17 (lf : Nat) : CallS := callN
theorem call17_ok (lf : Nat) : CallOk Go.Proofs.Tryd.prog (call17 lf) := callN_ok
def k17 : KC := (.seq (.reg [⟨(some 4), none, (.op (.mv (.c (.int .i64 0)))), []⟩, ⟨(some 5), none, (.op (.mv (.c (.bool false)))), []⟩]) (.seq (.reg [⟨(some 7), none, (.op (.mv (.t 0))), []⟩, ⟨(some 8), none, (.op (.mv (.t 1))), []⟩, ⟨(some 9), none, (.op (.bin .add (.t 7) (.t 8))), []⟩, ⟨(some 6), none, (.op (.mv (.t 9))), []⟩]) (.seq (.reg [⟨(some 10), none, (.op (.mv (.t 6))), []⟩, ⟨(some 11), none, (.op (.mv (.t 6))), []⟩, ⟨(some 12), none, (.op (.mv (.t 0))), []⟩, ⟨(some 13), none, (.op (.bin .lss (.t 11) (.t 12))), []⟩, ⟨(some 14), none, (.op (.mv (.t 1))), []⟩, ⟨(some 15), none, (.op (.bin .lss (.t 14) (.c (.int .i64 0)))), []⟩, ⟨(some 16), none, (.op (.eq false .bool (.t 13) (.t 15))), []⟩, ⟨(some 4), none, (.op (.mv (.t 10))), []⟩, ⟨(some 5), none, (.op (.mv (.t 16))), []⟩]) .ret)))
noncomputable def F17 (lf : Nat) (a : Int) (b : Int) (h : List Ob) : Option (V × List Ob) :=
some ((.tup [(.int .i64 (IntKind.i64.wrap (a + b))), (.bool ((decide ((IntKind.i64.wrap (a + b)) < a)) == (decide (b < (0)))))]), h)
theorem F17_eq (lf : Nat) (a : Int) (b : Int) (h : List Ob) : evCK A17 ⟨call17 lf, cvN, subN⟩ k17 (entryK [(.int .i64 a), (.int .i64 b)]) h (endF c17.res) = F17 lf a b h := by kernel_rfl
theorem F17_ok (lf : Nat) (a : Int) (b : Int) (h : List Ob) (r_ : V) (h_r : List Ob) (e_ : F17 lf a b h = some (r_, h_r)) : CD Go.Proofs.Tryd.prog 17 [(.int .i64 a), (.int .i64 b)] h r_ h_r :=
  CD.ofK (A := A17) (σ := ⟨call17 lf, cvN, subN⟩) (c := k17) Go.Proofs.Tryd.func17 ok17 en17 (show 2 ≤ 17 by decide) (by kernel_rfl) (call17_ok lf) cvN_ok (And.intro True.intro (And.intro True.intro (And.intro True.intro True.intro))) ((F17_eq lf a b h).trans e_)
def w17 (f : Int → Int → List Ob → Option (V × List Ob)) (vs : List V) (h : List Ob) : Option (V × List Ob) := castCons vs fun c1 l1 => castInt .i64 c1 fun n2 => castCons l1 fun c3 l3 => castInt .i64 c3 fun n4 => castNil l3 (f n2 n4 h)
noncomputable def W17 (lf : Nat) : List V → List Ob → Option (V × List Ob) := w17 (F17 lf)
theorem W17_ok (lf : Nat) : ∀ args h v h', W17 lf args h = some (v, h') → CD Go.Proofs.Tryd.prog 17 args h v h' := by
  intro vs h r h' e0
  simp only [W17, w17] at e0
  obtain ⟨c1, l1, rfl, e1⟩ := castCons_inv e0
  obtain ⟨y0, rfl, e2⟩ := castInt_inv e1
  obtain ⟨c2, l2, rfl, e3⟩ := castCons_inv e2
  obtain ⟨y1, rfl, e4⟩ := castInt_inv e3
  obtain ⟨rfl, e5⟩ := castNil_inv e4
  have e := e5
  exact F17_ok lf y0 y1 h r h' e

/-! 15: slices.Clone[[]wainscot/api.Value,wainscot/api.Value] -/
def A15 : List (Nat × Sh) := [(4, .bool)]
noncomputable def call15 (lf : Nat) : CallS := callN
theorem call15_ok (lf : Nat) : CallOk Go.Proofs.Tryd.prog (call15 lf) := callN_ok
def k15 : KC := (.seq (.reg [⟨(some 2), none, (.op (.mv (.c .nils))), []⟩]) (.seq (.seq (.reg [⟨(some 3), none, (.op (.mv (.t 0))), []⟩, ⟨(some 4), none, (.op (.eq false .slice (.t 3) (.c .nils))), []⟩]) (.cond (.t 4) (.seq (.reg [⟨(some 2), none, (.op (.mv (.c .nils))), []⟩]) .ret) .skip)) (.seq (.reg [⟨(some 5), none, (.op (.bslice 3 (.agg [(.int .i64 0), (.int .i64 0), (.str [])]) 0 [])), []⟩, ⟨(some 6), none, (.op (.mv (.t 0))), []⟩, ⟨(some 7), none, (.op (.app 3 32 (.t 5) (.t 6))), []⟩, ⟨(some 2), none, (.op (.mv (.t 7))), []⟩]) .ret)))
noncomputable def F15 (lf : Nat) (s : V) (h : List Ob) : Option (V × List Ob) :=
bind1 (er (.eq false .slice (.c s) (.c V.nils)) h) fun v =>
castBool v fun x4 =>
cB x4 (
some (V.nils, h)) (
bind2 (ev (.bslice 3 (.agg [(.int .i64 0), (.int .i64 0), (.str [])]) 0 []) h) fun x5 h_ =>
bind2 (ev (.app 3 32 (.c x5) (.c s)) h_) fun x7 h_1 =>
some (x7, h_1))
theorem F15_eq (lf : Nat) (s : V) (h : List Ob) : evCK A15 ⟨call15 lf, cvN, subN⟩ k15 (entryK [s]) h (endF c15.res) = F15 lf s h := by kernel_rfl
theorem F15_ok (lf : Nat) (s : V) (h : List Ob) (r_ : V) (h_r : List Ob) (e_ : F15 lf s h = some (r_, h_r)) : CD Go.Proofs.Tryd.prog 15 [s] h r_ h_r :=
  CD.ofK (A := A15) (σ := ⟨call15 lf, cvN, subN⟩) (c := k15) Go.Proofs.Tryd.func15 ok15 en15 (show 1 ≤ 8 by decide) (by kernel_rfl) (call15_ok lf) cvN_ok (And.intro True.intro (And.intro (And.intro True.intro (And.intro (And.intro True.intro True.intro) True.intro)) (And.intro True.intro True.intro))) ((F15_eq lf s h).trans e_)
def w15 (f : V → List Ob → Option (V × List Ob)) (vs : List V) (h : List Ob) : Option (V × List Ob) := castCons vs fun c1 l1 => castNil l1 (f c1 h)
noncomputable def W15 (lf : Nat) : List V → List Ob → Option (V × List Ob) := w15 (F15 lf)
theorem W15_ok (lf : Nat) : ∀ args h v h', W15 lf args h = some (v, h') → CD Go.Proofs.Tryd.prog 15 args h v h' := by
  intro vs h r h' e0
  simp only [W15, w15] at e0
  obtain ⟨c1, l1, rfl, e1⟩ := castCons_inv e0
  obtain ⟨rfl, e2⟩ := castNil_inv e1
  have e := e2
  exact F15_ok lf c1 h r h' e

/-! 18: (*wainscot/bag.Bag).put -/
def A18 : List (Nat × Sh) := [(1, .str), (3, (.int .i64)), (8, (.int .i64)), (9, .bool), (14, .str), (19, .bool), (28, .str), (31, (.int .i64)), (32, (.agg [.any, (.int .i64)]))]
noncomputable def call18 (lf : Nat) : CallS := callC 15 (W15 lf) (callN)
theorem call18_ok (lf : Nat) : CallOk Go.Proofs.Tryd.prog (call18 lf) := callC_ok (W15_ok lf) (callN_ok)
def o18_0 : Outs := [(.normal, [], [])]
def k18_0 : KC := (.seq (.reg [⟨(some 15), none, (.op (.mv (.t 0))), []⟩, ⟨(some 16), none, (.op (.nilck (.t 15))), []⟩, ⟨(some 17), none, (.op (.faddr 0 (.t 16))), []⟩, ⟨(some 18), none, (.op (.load1 (.t 17))), []⟩, ⟨(some 19), none, (.op (.eq false .map (.t 18) (.c .nilm))), []⟩]) (.cond (.t 19) (.reg [⟨(some 20), none, (.op (.mv (.t 0))), []⟩, ⟨(some 21), none, (.op .mkmap), []⟩, ⟨(some 22), none, (.op (.nilck (.t 20))), []⟩, ⟨(some 23), none, (.op (.faddr 0 (.t 22))), []⟩, ⟨none, none, (.op (.store 1 (.t 23) (.t 21))), []⟩]) .skip))
def w18_0 (f : V → List Ob → SubR) (vs : List V) (h : List Ob) : SubR := castCons vs fun c1 l1 => castNil l1 (f c1 h)
noncomputable def S18_0 (lf : Nat) (b : V) (h : List Ob) : SubR :=
bind1 (er (.nilck (.c b)) h) fun x16 =>
bind1 (er (.faddr 0 (.c x16)) h) fun x17 =>
bind1 (er (.load1 (.c x17)) h) fun x18 =>
bind1 (er (.eq false .map (.c x18) (.c V.nilm)) h) fun v =>
castBool v fun x19 =>
cB x19 (
bind2 (ev .mkmap h) fun x21 h_ =>
bind1 (er (.nilck (.c b)) h_) fun x22 =>
bind1 (er (.faddr 0 (.c x22)) h_) fun x23 =>
bind2 (ev (.store 1 (.c x23) (.c x21)) h_) fun u h_1 =>
some (.normal, [], h_1)) (
some (.normal, [], h))
theorem S18_0_eq (lf : Nat) (b : V) (h : List Ob) : evCK A18 ⟨call18 lf, cvN, subN⟩ k18_0 [(0, b)] h (endK o18_0) = S18_0 lf b h := by kernel_rfl
theorem S18_0_ok (lf : Nat) : SubOk Go.Proofs.Tryd.prog k18_0.er [0] o18_0 (w18_0 (S18_0 lf)) := by
  refine SubOk.of (A := A18) (σ := ⟨call18 lf, cvN, subN⟩) (c := k18_0) (call18_ok lf) cvN_ok (And.intro True.intro (And.intro True.intro True.intro)) ?_
  intro vs h r e0
  simp only [w18_0] at e0
  obtain ⟨c1, l1, rfl, e1⟩ := castCons_inv e0
  obtain ⟨rfl, e2⟩ := castNil_inv e1
  have e := e2
  exact (S18_0_eq lf c1 h).trans e
def k18 : KC := (.seq (.seq (.reg [⟨(some 8), none, (.op (.mv (.t 3))), []⟩, ⟨(some 9), none, (.op (.bin .eql (.t 8) (.c (.int .i64 0)))), []⟩]) (.cond (.t 9) (.seq (.reg [⟨(some 10), none, (.op (.mv (.t 0))), []⟩, ⟨(some 11), none, (.op (.nilck (.t 10))), []⟩, ⟨(some 12), none, (.op (.faddr 0 (.t 11))), []⟩, ⟨(some 13), none, (.op (.load1 (.t 12))), []⟩, ⟨(some 14), none, (.op (.mv (.t 1))), []⟩, ⟨none, none, (.op (.delete .s (.t 13) (.t 14))), []⟩]) .ret) .skip)) (.seq (.sub 0 k18_0.er [0] o18_0) (.reg [⟨(some 24), none, (.op (.mv (.t 0))), []⟩, ⟨(some 25), none, (.op (.nilck (.t 24))), []⟩, ⟨(some 26), none, (.op (.faddr 0 (.t 25))), []⟩, ⟨(some 27), none, (.op (.load1 (.t 26))), []⟩, ⟨(some 28), none, (.op (.mv (.t 1))), []⟩, ⟨(some 29), none, (.op (.mv (.t 2))), []⟩, ⟨(some 31), none, (.op (.mv (.t 3))), []⟩, ⟨(some 30), none, (.call 15 [(.t 29)]), [⟨(some 27), none, (.op (.load1 (.t 26)))⟩, ⟨(some 26), none, (.op (.faddr 0 (.t 25)))⟩, ⟨(some 25), none, (.op (.nilck (.t 24)))⟩]⟩, ⟨(some 32), none, (.op (.build [.nils, (.int .i64 0)] [(0, (1, (.t 30))), (1, (1, (.t 31)))])), []⟩, ⟨none, none, (.op (.mapupd .s (.t 27) (.t 28) (.t 32))), []⟩])))
noncomputable def F18 (lf : Nat) (b : V) (key : List UInt8) (row : V) (n_ : Int) (h : List Ob) : Option (V × List Ob) :=
cB (n_ == (0)) (
bind1 (er (.nilck (.c b)) h) fun x11 =>
bind1 (er (.faddr 0 (.c x11)) h) fun x12 =>
bind1 (er (.load1 (.c x12)) h) fun x13 =>
bind2 (ev (.delete .s (.c x13) (.c (.str key))) h) fun u h_ =>
some ((.tup []), h_)) (
bind3 (S18_0 lf b h) fun ex vs h_ =>
cB (decide (ex = .normal)) (
castNil vs (
bind1 (er (.nilck (.c b)) h_) fun x25 =>
bind1 (er (.faddr 0 (.c x25)) h_) fun x26 =>
bind1 (er (.load1 (.c x26)) h_) fun x27 =>
bind2 (F15 lf row h_) fun x30 h_1 =>
reP (er (.load1 (.c x26)) h_1 = some x27) (
reP (er (.faddr 0 (.c x25)) h_1 = some x26) (
reP (er (.nilck (.c b)) h_1 = some x25) (
bind1 (er (.build [.nils, (.int .i64 0)] [(0, (1, (.c x30))), (1, (1, (.c (.int .i64 n_))))]) h_1) fun v =>
castAgg v fun l =>
castCons l fun x32_0 l1 =>
castCons l1 fun c l2 =>
castInt .i64 c fun x32_1 =>
castNil l2 (
bind2 (ev (.mapupd .s (.c x27) (.c (.str key)) (.c (.agg [x32_0, (.int .i64 x32_1)]))) h_1) fun u h_2 =>
some ((.tup []), h_2))))))) (
none))
theorem F18_eq (lf : Nat) (b : V) (key : List UInt8) (row : V) (n_ : Int) (h : List Ob) : evCK A18 ⟨call18 lf, cvN, subC 0 (w18_0 (S18_0 lf)) (subN)⟩ k18 (entryK [b, (.str key), row, (.int .i64 n_)]) h (endF c18.res) = F18 lf b key row n_ h := by kernel_rfl
theorem F18_ok (lf : Nat) (b : V) (key : List UInt8) (row : V) (n_ : Int) (h : List Ob) (r_ : V) (h_r : List Ob) (e_ : F18 lf b key row n_ h = some (r_, h_r)) : CD Go.Proofs.Tryd.prog 18 [b, (.str key), row, (.int .i64 n_)] h r_ h_r :=
  CD.ofK (A := A18) (σ := ⟨call18 lf, cvN, subC 0 (w18_0 (S18_0 lf)) (subN)⟩) (c := k18) Go.Proofs.Tryd.func18 ok18 en18 (show 4 ≤ 33 by decide) (by kernel_rfl) (call18_ok lf) cvN_ok (And.intro (And.intro True.intro (And.intro (And.intro True.intro True.intro) True.intro)) (And.intro (S18_0_ok lf) True.intro)) ((F18_eq lf b key row n_ h).trans e_)
def w18 (f : V → List UInt8 → V → Int → List Ob → Option (V × List Ob)) (vs : List V) (h : List Ob) : Option (V × List Ob) := castCons vs fun c1 l1 => castCons l1 fun c2 l2 => castStr c2 fun n3 => castCons l2 fun c4 l4 => castCons l4 fun c5 l5 => castInt .i64 c5 fun n6 => castNil l5 (f c1 n3 c4 n6 h)
noncomputable def W18 (lf : Nat) : List V → List Ob → Option (V × List Ob) := w18 (F18 lf)
theorem W18_ok (lf : Nat) : ∀ args h v h', W18 lf args h = some (v, h') → CD Go.Proofs.Tryd.prog 18 args h v h' := by
  intro vs h r h' e0
  simp only [W18, w18] at e0
  obtain ⟨c1, l1, rfl, e1⟩ := castCons_inv e0
  obtain ⟨c2, l2, rfl, e2⟩ := castCons_inv e1
  obtain ⟨y1, rfl, e3⟩ := castStr_inv e2
  obtain ⟨c3, l3, rfl, e4⟩ := castCons_inv e3
  obtain ⟨c4, l4, rfl, e5⟩ := castCons_inv e4
  obtain ⟨y3, rfl, e6⟩ := castInt_inv e5
  obtain ⟨rfl, e7⟩ := castNil_inv e6
  have e := e7
  exact F18_ok lf c1 y1 c3 y3 h r h' e

/-! 6: (*wainscot/bag.Bag).Add -/
def A6 : List (Nat × Sh) := [(2, (.int .i64)), (6, (.int .i64)), (8, (.int .i64)), (9, .bool), (11, .bool), (12, (.tup [.any, (.int .i64)])), (14, (.tup [.any, (.int .i64)])), (16, (.int .i64)), (17, (.int .i64)), (18, .bool), (19, (.int .i64)), (20, (.tup [(.int .i64), .bool])), (26, .str), (27, (.agg [.any, (.int .i64)])), (28, (.int .i64)), (29, (.int .i64)), (30, (.tup [(.int .i64), .bool])), (31, (.int .i64)), (32, .bool), (33, .bool), (34, .bool), (37, .str), (39, (.int .i64))]
noncomputable def call6 (lf : Nat) : CallS := callC 18 (W18 lf) (callC 17 (W17 lf) (callC 16 (W16 lf) (callN)))
theorem call6_ok (lf : Nat) : CallOk Go.Proofs.Tryd.prog (call6 lf) := callC_ok (W18_ok lf) (callC_ok (W17_ok lf) (callC_ok (W16_ok lf) (callN_ok)))
def k6 : KC := (.seq (.reg [⟨(some 6), none, (.op (.mv (.c (.int .i64 0)))), []⟩]) (.seq (.seq (.reg [⟨(some 10), none, (.op (.mv (.t 0))), []⟩, ⟨(some 11), none, (.op (.eq false .ptr (.t 10) (.c .nilp))), []⟩]) (.cond (.t 11) (.seq (.reg [⟨(some 6), none, (.op (.mv (.c (.int .i64 1)))), []⟩]) .ret) .skip)) (.seq (.reg [⟨(some 13), none, (.op (.mv (.t 1))), []⟩, ⟨(some 14), none, (.call 16 [(.t 13)]), []⟩, ⟨(some 12), none, (.op (.mv (.t 14))), []⟩, ⟨(some 15), none, (.op (.ext 0 (.t 12))), []⟩, ⟨(some 16), none, (.op (.ext 1 (.t 12))), []⟩, ⟨(some 7), none, (.op (.mv (.t 15))), []⟩, ⟨(some 8), none, (.op (.mv (.t 16))), []⟩]) (.seq (.seq (.reg [⟨(some 17), none, (.op (.mv (.t 8))), []⟩, ⟨(some 18), none, (.op (.bin .neq (.t 17) (.c (.int .i64 0)))), []⟩]) (.cond (.t 18) (.seq (.reg [⟨(some 19), none, (.op (.mv (.t 8))), []⟩, ⟨(some 6), none, (.op (.mv (.t 19))), []⟩]) .ret) .skip)) (.seq (.reg [⟨(some 21), none, (.op (.mv (.t 0))), []⟩, ⟨(some 22), none, (.op (.nilck (.t 21))), []⟩, ⟨(some 23), none, (.op (.faddr 0 (.t 22))), []⟩, ⟨(some 24), none, (.op (.load1 (.t 23))), []⟩, ⟨(some 25), none, (.op (.mv (.t 7))), []⟩, ⟨(some 26), none, (.op (.toStr (.t 25))), []⟩, ⟨(some 27), none, (.op (.lookup .s (.agg [.nils, (.int .i64 0)]) false (.t 24) (.t 26))), []⟩, ⟨(some 28), none, (.op (.field1 1 (.t 27))), []⟩, ⟨(some 29), none, (.op (.mv (.t 2))), []⟩, ⟨(some 30), none, (.call 17 [(.t 28), (.t 29)]), []⟩, ⟨(some 20), none, (.op (.mv (.t 30))), []⟩, ⟨(some 31), none, (.op (.ext 0 (.t 20))), []⟩, ⟨(some 32), none, (.op (.ext 1 (.t 20))), []⟩, ⟨(some 2), none, (.op (.mv (.t 31))), []⟩, ⟨(some 9), none, (.op (.mv (.t 32))), []⟩]) (.seq (.seq (.reg [⟨(some 33), none, (.op (.mv (.t 9))), []⟩, ⟨(some 34), none, (.op (.un .not (.t 33))), []⟩]) (.cond (.t 34) (.seq (.reg [⟨(some 6), none, (.op (.mv (.c (.int .i64 13)))), []⟩]) .ret) .skip)) (.seq (.reg [⟨(some 35), none, (.op (.mv (.t 0))), []⟩, ⟨(some 36), none, (.op (.mv (.t 7))), []⟩, ⟨(some 37), none, (.op (.toStr (.t 36))), []⟩, ⟨(some 38), none, (.op (.mv (.t 1))), []⟩, ⟨(some 39), none, (.op (.mv (.t 2))), []⟩, ⟨(some 40), none, (.call 18 [(.t 35), (.t 37), (.t 38), (.t 39)]), []⟩]) (.seq (.reg [⟨(some 6), none, (.op (.mv (.c (.int .i64 0)))), []⟩]) .ret))))))))
noncomputable def F6 (lf : Nat) (b : V) (row : V) (n_ : Int) (h : List Ob) : Option (V × List Ob) :=
bind1 (er (.eq false .ptr (.c b) (.c V.nilp)) h) fun v =>
castBool v fun x11 =>
cB x11 (
some ((.int .i64 (1)), h)) (
bind2 (F16 lf row h) fun v1 h_ =>
castTup v1 fun l =>
castCons l fun x14_0 l1 =>
castCons l1 fun c l2 =>
castInt .i64 c fun x14_1 =>
castNil l2 (
cB (x14_1 != (0)) (
some ((.int .i64 x14_1), h_)) (
bind1 (er (.nilck (.c b)) h_) fun x22 =>
bind1 (er (.faddr 0 (.c x22)) h_) fun x23 =>
bind1 (er (.load1 (.c x23)) h_) fun x24 =>
bind1 (er (.toStr (.c x14_0)) h_) fun v2 =>
castStr v2 fun x26 =>
bind1 (er (.lookup .s (.agg [.nils, (.int .i64 0)]) false (.c x24) (.c (.str x26))) h_) fun v3 =>
castAgg v3 fun l3 =>
castCons l3 fun x27_0 l4 =>
castCons l4 fun c1 l5 =>
castInt .i64 c1 fun x27_1 =>
castNil l5 (
bind2 (F17 lf x27_1 n_ h_) fun v4 h_1 =>
castTup v4 fun l6 =>
castCons l6 fun c2 l7 =>
castInt .i64 c2 fun x30_0 =>
castCons l7 fun c3 l8 =>
castBool c3 fun x30_1 =>
castNil l8 (
cB (!x30_1) (
some ((.int .i64 (13)), h_1)) (
bind1 (er (.toStr (.c x14_0)) h_1) fun v5 =>
castStr v5 fun x37 =>
bind2 (F18 lf b x37 row x30_0 h_1) fun x40 h_2 =>
some ((.int .i64 (0)), h_2)))))))
theorem F6_eq (lf : Nat) (b : V) (row : V) (n_ : Int) (h : List Ob) : evCK A6 ⟨call6 lf, cvN, subN⟩ k6 (entryK [b, row, (.int .i64 n_)]) h (endF c6.res) = F6 lf b row n_ h := by kernel_rfl
theorem F6_ok (lf : Nat) (b : V) (row : V) (n_ : Int) (h : List Ob) (r_ : V) (h_r : List Ob) (e_ : F6 lf b row n_ h = some (r_, h_r)) : CD Go.Proofs.Tryd.prog 6 [b, row, (.int .i64 n_)] h r_ h_r :=
  CD.ofK (A := A6) (σ := ⟨call6 lf, cvN, subN⟩) (c := k6) Go.Proofs.Tryd.func6 ok6 en6 (show 3 ≤ 41 by decide) (by kernel_rfl) (call6_ok lf) cvN_ok (And.intro True.intro (And.intro (And.intro True.intro (And.intro (And.intro True.intro True.intro) True.intro)) (And.intro True.intro (And.intro (And.intro True.intro (And.intro (And.intro True.intro True.intro) True.intro)) (And.intro True.intro (And.intro (And.intro True.intro (And.intro (And.intro True.intro True.intro) True.intro)) (And.intro True.intro (And.intro True.intro True.intro)))))))) ((F6_eq lf b row n_ h).trans e_)
def w6 (f : V → V → Int → List Ob → Option (V × List Ob)) (vs : List V) (h : List Ob) : Option (V × List Ob) := castCons vs fun c1 l1 => castCons l1 fun c2 l2 => castCons l2 fun c3 l3 => castInt .i64 c3 fun n4 => castNil l3 (f c1 c2 n4 h)
noncomputable def W6 (lf : Nat) : List V → List Ob → Option (V × List Ob) := w6 (F6 lf)
theorem W6_ok (lf : Nat) : ∀ args h v h', W6 lf args h = some (v, h') → CD Go.Proofs.Tryd.prog 6 args h v h' := by
  intro vs h r h' e0
  simp only [W6, w6] at e0
  obtain ⟨c1, l1, rfl, e1⟩ := castCons_inv e0
  obtain ⟨c2, l2, rfl, e2⟩ := castCons_inv e1
  obtain ⟨c3, l3, rfl, e3⟩ := castCons_inv e2
  obtain ⟨y2, rfl, e4⟩ := castInt_inv e3
  obtain ⟨rfl, e5⟩ := castNil_inv e4
  have e := e5
  exact F6_ok lf c1 c2 y2 h r h' e

/-! 8: (*wainscot/bag.Bag).Len -/
def A8 : List (Nat × Sh) := [(2, (.int .i64)), (4, .bool), (9, (.int .i64))]
noncomputable def call8 (lf : Nat) : CallS := callN
theorem call8_ok (lf : Nat) : CallOk Go.Proofs.Tryd.prog (call8 lf) := callN_ok
def k8 : KC := (.seq (.reg [⟨(some 2), none, (.op (.mv (.c (.int .i64 0)))), []⟩]) (.seq (.seq (.reg [⟨(some 3), none, (.op (.mv (.t 0))), []⟩, ⟨(some 4), none, (.op (.eq false .ptr (.t 3) (.c .nilp))), []⟩]) (.cond (.t 4) (.seq (.reg [⟨(some 2), none, (.op (.mv (.c (.int .i64 0)))), []⟩]) .ret) .skip)) (.seq (.reg [⟨(some 5), none, (.op (.mv (.t 0))), []⟩, ⟨(some 6), none, (.op (.nilck (.t 5))), []⟩, ⟨(some 7), none, (.op (.faddr 0 (.t 6))), []⟩, ⟨(some 8), none, (.op (.load1 (.t 7))), []⟩, ⟨(some 9), none, (.op (.lenM (.t 8))), []⟩, ⟨(some 2), none, (.op (.mv (.t 9))), []⟩]) .ret)))
noncomputable def F8 (lf : Nat) (b : V) (h : List Ob) : Option (V × List Ob) :=
bind1 (er (.eq false .ptr (.c b) (.c V.nilp)) h) fun v =>
castBool v fun x4 =>
cB x4 (
some ((.int .i64 (0)), h)) (
bind1 (er (.nilck (.c b)) h) fun x6 =>
bind1 (er (.faddr 0 (.c x6)) h) fun x7 =>
bind1 (er (.load1 (.c x7)) h) fun x8 =>
bind1 (er (.lenM (.c x8)) h) fun v1 =>
castInt .i64 v1 fun x9 =>
some ((.int .i64 x9), h))
theorem F8_eq (lf : Nat) (b : V) (h : List Ob) : evCK A8 ⟨call8 lf, cvN, subN⟩ k8 (entryK [b]) h (endF c8.res) = F8 lf b h := by kernel_rfl
theorem F8_ok (lf : Nat) (b : V) (h : List Ob) (r_ : V) (h_r : List Ob) (e_ : F8 lf b h = some (r_, h_r)) : CD Go.Proofs.Tryd.prog 8 [b] h r_ h_r :=
  CD.ofK (A := A8) (σ := ⟨call8 lf, cvN, subN⟩) (c := k8) Go.Proofs.Tryd.func8 ok8 en8 (show 1 ≤ 10 by decide) (by kernel_rfl) (call8_ok lf) cvN_ok (And.intro True.intro (And.intro (And.intro True.intro (And.intro (And.intro True.intro True.intro) True.intro)) (And.intro True.intro True.intro))) ((F8_eq lf b h).trans e_)
def w8 (f : V → List Ob → Option (V × List Ob)) (vs : List V) (h : List Ob) : Option (V × List Ob) := castCons vs fun c1 l1 => castNil l1 (f c1 h)
noncomputable def W8 (lf : Nat) : List V → List Ob → Option (V × List Ob) := w8 (F8 lf)
theorem W8_ok (lf : Nat) : ∀ args h v h', W8 lf args h = some (v, h') → CD Go.Proofs.Tryd.prog 8 args h v h' := by
  intro vs h r h' e0
  simp only [W8, w8] at e0
  obtain ⟨c1, l1, rfl, e1⟩ := castCons_inv e0
  obtain ⟨rfl, e2⟩ := castNil_inv e1
  have e := e2
  exact F8_ok lf c1 h r h' e

/-! 11: wainscot/bag.New -/
def A11 : List (Nat × Sh) := [(1, (.agg [.any]))]
noncomputable def call11 (lf : Nat) : CallS := callN
theorem call11_ok (lf : Nat) : CallOk Go.Proofs.Tryd.prog (call11 lf) := callN_ok
def k11 : KC := (.seq (.reg [⟨(some 0), none, (.op (.mv (.c .nilp))), []⟩]) (.seq (.reg [⟨(some 1), none, (.op (.build [.nilm] [])), []⟩, ⟨(some 2), none, (.op (.box false (.t 1))), []⟩, ⟨(some 0), none, (.op (.mv (.t 2))), []⟩]) .ret))
noncomputable def F11 (lf : Nat) (h : List Ob) : Option (V × List Ob) :=
bind1 (er (.build [.nilm] []) h) fun v =>
castAgg v fun l =>
castCons l fun x1_0 l1 =>
castNil l1 (
bind2 (ev (.box false (.c (.agg [x1_0]))) h) fun x2 h_ =>
some (x2, h_))
theorem F11_eq (lf : Nat) (h : List Ob) : evCK A11 ⟨call11 lf, cvN, subN⟩ k11 (entryK []) h (endF c11.res) = F11 lf h := by kernel_rfl
theorem F11_ok (lf : Nat) (h : List Ob) (r_ : V) (h_r : List Ob) (e_ : F11 lf h = some (r_, h_r)) : CD Go.Proofs.Tryd.prog 11 [] h r_ h_r :=
  CD.ofK (A := A11) (σ := ⟨call11 lf, cvN, subN⟩) (c := k11) Go.Proofs.Tryd.func11 ok11 en11 (show 0 ≤ 3 by decide) (by kernel_rfl) (call11_ok lf) cvN_ok (And.intro True.intro (And.intro True.intro True.intro)) ((F11_eq lf h).trans e_)
def w11 (f : List Ob → Option (V × List Ob)) (vs : List V) (h : List Ob) : Option (V × List Ob) := castNil vs (f h)
noncomputable def W11 (lf : Nat) : List V → List Ob → Option (V × List Ob) := w11 (F11 lf)
theorem W11_ok (lf : Nat) : ∀ args h v h', W11 lf args h = some (v, h') → CD Go.Proofs.Tryd.prog 11 args h v h' := by
  intro vs h r h' e0
  simp only [W11, w11] at e0
  obtain ⟨rfl, e1⟩ := castNil_inv e0
  have e := e1
  exact F11_ok lf h r h' e

/-! 4: wainscot/wainscotlaw14.awake -/
def A4 : List (Nat × Sh) := [(0, .bool), (4, .bool), (5, .bool), (7, (.agg [(.int .i64), (.int .i64), .str])), (9, (.int .i64)), (10, .bool), (11, .bool), (12, .bool), (14, (.int .i64)), (15, .bool), (16, .bool)]
noncomputable def call4 (lf : Nat) : CallS := callC 11 (W11 lf) (callC 8 (W8 lf) (callC 6 (W6 lf) (callN)))
theorem call4_ok (lf : Nat) : CallOk Go.Proofs.Tryd.prog (call4 lf) := callC_ok (W11_ok lf) (callC_ok (W8_ok lf) (callC_ok (W6_ok lf) (callN_ok)))
def k4 : KC := (.seq (.reg [⟨(some 0), none, (.op (.mv (.c (.bool false)))), []⟩]) (.seq (.reg [⟨(some 2), none, (.call 11 []), []⟩, ⟨(some 1), none, (.op (.mv (.t 2))), []⟩]) (.seq (.reg [⟨(some 3), none, (.op (.mv (.t 1))), []⟩, ⟨(some 4), none, (.op (.eq true .ptr (.t 3) (.c .nilp))), []⟩, ⟨(some 5), none, (.op (.mv (.t 4))), []⟩, ⟨(some 6), (some (5, true)), (.op (.mv (.t 1))), []⟩, ⟨(some 7), (some (5, true)), (.op (.build [(.int .i64 0), (.int .i64 0), (.str [])] [(0, (1, (.c (.int .i64 1)))), (1, (1, (.c (.int .i64 1))))])), []⟩, ⟨(some 8), (some (5, true)), (.op (.bslice 3 (.agg [(.int .i64 0), (.int .i64 0), (.str [])]) 1 [(0, (.t 7))])), []⟩, ⟨(some 9), (some (5, true)), (.call 6 [(.t 6), (.t 8), (.c (.int .i64 2))]), []⟩, ⟨(some 10), (some (5, true)), (.op (.bin .eql (.t 9) (.c (.int .i64 0)))), []⟩, ⟨(some 11), none, (.op (.pick (.t 5) (.t 10) (.c (.bool false)))), []⟩, ⟨(some 12), none, (.op (.mv (.t 11))), []⟩, ⟨(some 13), (some (12, true)), (.op (.mv (.t 1))), []⟩, ⟨(some 14), (some (12, true)), (.call 8 [(.t 13)]), []⟩, ⟨(some 15), (some (12, true)), (.op (.bin .eql (.t 14) (.c (.int .i64 1)))), []⟩, ⟨(some 16), none, (.op (.pick (.t 12) (.t 15) (.c (.bool false)))), []⟩, ⟨(some 0), none, (.op (.mv (.t 16))), []⟩]) .ret)))
noncomputable def F4 (lf : Nat) (h : List Ob) : Option (V × List Ob) :=
bind2 (F11 lf h) fun x2 h_ =>
bind1 (er (.eq true .ptr (.c x2) (.c V.nilp)) h_) fun v =>
castBool v fun x4 =>
cB x4 (
bind1 (er (.build [(.int .i64 0), (.int .i64 0), (.str [])] [(0, (1, (.c (.int .i64 (1))))), (1, (1, (.c (.int .i64 (1)))))]) h_) fun v1 =>
castAgg v1 fun l =>
castCons l fun c l1 =>
castInt .i64 c fun x7_0 =>
castCons l1 fun c1 l2 =>
castInt .i64 c1 fun x7_1 =>
castCons l2 fun c2 l3 =>
castStr c2 fun x7_2 =>
castNil l3 (
bind2 (ev (.bslice 3 (.agg [(.int .i64 0), (.int .i64 0), (.str [])]) 1 [(0, (.c (.agg [(.int .i64 x7_0), (.int .i64 x7_1), (.str x7_2)])))]) h_) fun x8 h_1 =>
bind2 (F6 lf x2 x8 (2) h_1) fun v2 h_2 =>
castInt .i64 v2 fun x9 =>
cB (x9 == (0)) (
bind2 (F8 lf x2 h_2) fun v3 h_3 =>
castInt .i64 v3 fun x14 =>
some ((.bool (x14 == (1))), h_3)) (
some ((.bool false), h_2)))) (
some ((.bool false), h_))
theorem F4_eq (lf : Nat) (h : List Ob) : evCK A4 ⟨call4 lf, cvN, subN⟩ k4 (entryK []) h (endF c4.res) = F4 lf h := by kernel_rfl
theorem F4_ok (lf : Nat) (h : List Ob) (r_ : V) (h_r : List Ob) (e_ : F4 lf h = some (r_, h_r)) : CD Go.Proofs.Tryd.prog 4 [] h r_ h_r :=
  CD.ofK (A := A4) (σ := ⟨call4 lf, cvN, subN⟩) (c := k4) Go.Proofs.Tryd.func4 ok4 en4 (show 0 ≤ 17 by decide) (by kernel_rfl) (call4_ok lf) cvN_ok (And.intro True.intro (And.intro True.intro (And.intro True.intro True.intro))) ((F4_eq lf h).trans e_)
def w4 (f : List Ob → Option (V × List Ob)) (vs : List V) (h : List Ob) : Option (V × List Ob) := castNil vs (f h)
noncomputable def W4 (lf : Nat) : List V → List Ob → Option (V × List Ob) := w4 (F4 lf)
theorem W4_ok (lf : Nat) : ∀ args h v h', W4 lf args h = some (v, h') → CD Go.Proofs.Tryd.prog 4 args h v h' := by
  intro vs h r h' e0
  simp only [W4, w4] at e0
  obtain ⟨rfl, e1⟩ := castNil_inv e0
  have e := e1
  exact F4_ok lf h r h' e

/-! 32: slices.insertionSortCmpFunc[wainscot/bag.Entry] -/
def A32 : List (Nat × Sh) := [(1, (.int .i64)), (2, (.int .i64)), (8, (.int .i64)), (9, (.int .i64)), (10, (.int .i64)), (11, (.int .i64)), (12, (.int .i64)), (13, (.int .i64)), (14, .bool), (15, (.int .i64)), (16, (.int .i64)), (17, (.int .i64)), (18, (.int .i64)), (19, (.int .i64)), (20, .bool), (21, .bool), (24, (.int .i64)), (26, (.agg [.any, (.int .i64)])), (28, (.int .i64)), (29, (.int .i64)), (31, (.agg [.any, (.int .i64)])), (32, (.int .i64)), (33, .bool), (34, .bool), (35, (.int .i64)), (36, (.int .i64)), (38, (.int .i64)), (40, (.int .i64)), (41, (.int .i64)), (43, (.int .i64)), (44, (.int .i64)), (46, (.agg [.any, (.int .i64)])), (48, (.int .i64)), (50, (.agg [.any, (.int .i64)]))]
noncomputable def call32 (lf : Nat) (cv : CallVS) : CallS := callN
theorem call32_ok (lf : Nat) (cv : CallVS) (hcv : CvOk Go.Proofs.Tryd.prog cv) : CallOk Go.Proofs.Tryd.prog (call32 lf cv) := callN_ok
def o32_0 : Outs := [(.normal, [], []), ((.exit 2), [], [])]
def k32_0 : KC := (.seq (.reg [⟨(some 18), none, (.op (.mv (.t 9))), []⟩, ⟨(some 19), none, (.op (.mv (.t 1))), []⟩, ⟨(some 20), none, (.op (.bin .gtr (.t 18) (.t 19))), []⟩, ⟨(some 21), none, (.op (.mv (.t 20))), []⟩, ⟨(some 22), (some (21, true)), (.op (.mv (.t 3))), []⟩, ⟨(some 23), (some (21, true)), (.op (.mv (.t 0))), []⟩, ⟨(some 24), (some (21, true)), (.op (.mv (.t 9))), []⟩, ⟨(some 25), (some (21, true)), (.op (.iaddrL 2 (.t 23) (.t 24))), []⟩, ⟨(some 26), (some (21, true)), (.op (.loadN 2 (.t 25))), []⟩, ⟨(some 27), (some (21, true)), (.op (.mv (.t 0))), []⟩, ⟨(some 28), (some (21, true)), (.op (.mv (.t 9))), []⟩, ⟨(some 29), (some (21, true)), (.op (.bin .sub (.t 28) (.c (.int .i64 1)))), []⟩, ⟨(some 30), (some (21, true)), (.op (.iaddrL 2 (.t 27) (.t 29))), []⟩, ⟨(some 31), (some (21, true)), (.op (.loadN 2 (.t 30))), []⟩, ⟨(some 32), (some (21, true)), (.callv (.t 22) [(.t 26), (.t 31)]), []⟩, ⟨(some 33), (some (21, true)), (.op (.bin .lss (.t 32) (.c (.int .i64 0)))), []⟩, ⟨(some 34), none, (.op (.pick (.t 21) (.t 33) (.c (.bool false)))), []⟩]) (.cond (.t 34) .skip (.exit 2)))
def w32_0 (f : V → Int → V → Int → List Ob → SubR) (vs : List V) (h : List Ob) : SubR := castCons vs fun c1 l1 => castCons l1 fun c2 l2 => castInt .i64 c2 fun n3 => castCons l2 fun c4 l4 => castCons l4 fun c5 l5 => castInt .i64 c5 fun n6 => castNil l5 (f c1 n3 c4 n6 h)
noncomputable def S32_0 (lf : Nat) (cv : CallVS) (data : V) (a : Int) (cmp : V) (j : Int) (h : List Ob) : SubR :=
cB (decide (j > a)) (
bind1 (er (.iaddrL 2 (.c data) (.c (.int .i64 j))) h) fun x25 =>
bind1 (er (.loadN 2 (.c x25)) h) fun v =>
castAgg v fun l =>
castCons l fun x26_0 l1 =>
castCons l1 fun c l2 =>
castInt .i64 c fun x26_1 =>
castNil l2 (
bind1 (er (.iaddrL 2 (.c data) (.c (.int .i64 (IntKind.i64.wrap (j - (1)))))) h) fun x30 =>
bind1 (er (.loadN 2 (.c x30)) h) fun v1 =>
castAgg v1 fun l3 =>
castCons l3 fun x31_0 l4 =>
castCons l4 fun c1 l5 =>
castInt .i64 c1 fun x31_1 =>
castNil l5 (
bind2 (cv cmp [(.agg [x26_0, (.int .i64 x26_1)]), (.agg [x31_0, (.int .i64 x31_1)])] h) fun v2 h_ =>
castInt .i64 v2 fun x32 =>
cB (decide (x32 < (0))) (
some (.normal, [], h_)) (
some ((.exit 2), [], h_))))) (
some ((.exit 2), [], h))
theorem S32_0_eq (lf : Nat) (cv : CallVS) (data : V) (a : Int) (cmp : V) (j : Int) (h : List Ob) : evCK A32 ⟨call32 lf cv, cv, subN⟩ k32_0 [(0, data), (1, (.int .i64 a)), (3, cmp), (9, (.int .i64 j))] h (endK o32_0) = S32_0 lf cv data a cmp j h := by kernel_rfl
theorem S32_0_ok (lf : Nat) (cv : CallVS) (hcv : CvOk Go.Proofs.Tryd.prog cv) : SubOk Go.Proofs.Tryd.prog k32_0.er [0, 1, 3, 9] o32_0 (w32_0 (S32_0 lf cv)) := by
  refine SubOk.of (A := A32) (σ := ⟨call32 lf cv, cv, subN⟩) (c := k32_0) (call32_ok lf cv hcv) hcv (And.intro True.intro (And.intro True.intro True.intro)) ?_
  intro vs h r e0
  simp only [w32_0] at e0
  obtain ⟨c1, l1, rfl, e1⟩ := castCons_inv e0
  obtain ⟨c2, l2, rfl, e2⟩ := castCons_inv e1
  obtain ⟨y1, rfl, e3⟩ := castInt_inv e2
  obtain ⟨c3, l3, rfl, e4⟩ := castCons_inv e3
  obtain ⟨c4, l4, rfl, e5⟩ := castCons_inv e4
  obtain ⟨y3, rfl, e6⟩ := castInt_inv e5
  obtain ⟨rfl, e7⟩ := castNil_inv e6
  have e := e7
  exact (S32_0_eq lf cv c1 y1 c3 y3 h).trans e
def o32_1 : Outs := [((.exit 2), [], [])]
def k32_1 : KC := (.seq (.sub 0 k32_0.er [0, 1, 3, 9] o32_0) (.seq (.block 3 (.reg [⟨(some 37), none, (.op (.mv (.t 0))), []⟩, ⟨(some 38), none, (.op (.mv (.t 9))), []⟩, ⟨(some 39), none, (.op (.mv (.t 0))), []⟩, ⟨(some 40), none, (.op (.mv (.t 9))), []⟩, ⟨(some 41), none, (.op (.bin .sub (.t 40) (.c (.int .i64 1)))), []⟩, ⟨(some 42), none, (.op (.mv (.t 0))), []⟩, ⟨(some 43), none, (.op (.mv (.t 9))), []⟩, ⟨(some 44), none, (.op (.bin .sub (.t 43) (.c (.int .i64 1)))), []⟩, ⟨(some 45), none, (.op (.iaddrL 2 (.t 42) (.t 44))), []⟩, ⟨(some 46), none, (.op (.loadN 2 (.t 45))), []⟩, ⟨(some 47), none, (.op (.mv (.t 0))), []⟩, ⟨(some 48), none, (.op (.mv (.t 9))), []⟩, ⟨(some 49), none, (.op (.iaddrL 2 (.t 47) (.t 48))), []⟩, ⟨(some 50), none, (.op (.loadN 2 (.t 49))), []⟩, ⟨(some 51), none, (.op (.iaddrL 2 (.t 37) (.t 38))), []⟩, ⟨none, none, (.op (.store 2 (.t 51) (.t 46))), []⟩, ⟨(some 52), none, (.op (.iaddrL 2 (.t 39) (.t 41))), []⟩, ⟨none, none, (.op (.store 2 (.t 52) (.t 50))), []⟩])) (.reg [⟨(some 35), none, (.op (.mv (.t 9))), []⟩, ⟨(some 36), none, (.op (.bin .sub (.t 35) (.c (.int .i64 1)))), []⟩, ⟨(some 9), none, (.op (.mv (.t 36))), []⟩])))
def w32_1 (f : V → Int → V → Int → List Ob → SubR) (vs : List V) (h : List Ob) : SubR := castCons vs fun c1 l1 => castCons l1 fun c2 l2 => castInt .i64 c2 fun n3 => castCons l2 fun c4 l4 => castCons l4 fun c5 l5 => castInt .i64 c5 fun n6 => castNil l5 (f c1 n3 c4 n6 h)
noncomputable def B32_1 (lf : Nat) (cv : CallVS) (self : V → Int → V → Int → List Ob → SubR) (data : V) (a : Int) (cmp : V) (j : Int) (h : List Ob) : SubR :=
bind3 (S32_0 lf cv data a cmp j h) fun ex vs h_ =>
cB (decide (ex = .normal)) (
castNil vs (
bind1 (er (.iaddrL 2 (.c data) (.c (.int .i64 (IntKind.i64.wrap (j - (1)))))) h_) fun x45 =>
bind1 (er (.loadN 2 (.c x45)) h_) fun v =>
castAgg v fun l =>
castCons l fun x46_0 l1 =>
castCons l1 fun c l2 =>
castInt .i64 c fun x46_1 =>
castNil l2 (
bind1 (er (.iaddrL 2 (.c data) (.c (.int .i64 j))) h_) fun x49 =>
bind1 (er (.loadN 2 (.c x49)) h_) fun v1 =>
castAgg v1 fun l3 =>
castCons l3 fun x50_0 l4 =>
castCons l4 fun c1 l5 =>
castInt .i64 c1 fun x50_1 =>
castNil l5 (
bind1 (er (.iaddrL 2 (.c data) (.c (.int .i64 j))) h_) fun x51 =>
bind2 (ev (.store 2 (.c x51) (.c (.agg [x46_0, (.int .i64 x46_1)]))) h_) fun u h_1 =>
bind1 (er (.iaddrL 2 (.c data) (.c (.int .i64 (IntKind.i64.wrap (j - (1)))))) h_1) fun x52 =>
bind2 (ev (.store 2 (.c x52) (.c (.agg [x50_0, (.int .i64 x50_1)]))) h_1) fun u1 h_2 =>
self data a cmp (IntKind.i64.wrap (j - (1))) h_2)))) (
cB (decide (ex = (.exit 2))) (
castNil vs (
some ((.exit 2), [], h_))) (
none))
noncomputable def L32_1 (lf : Nat) (cv : CallVS) : Nat → V → Int → V → Int → List Ob → SubR
  | 0 => fun _ _ _ _ _ => none
  | n + 1 => B32_1 lf cv (L32_1 lf cv n)
theorem B32_1_eq (lf : Nat) (cv : CallVS) (self : V → Int → V → Int → List Ob → SubR) (data : V) (a : Int) (cmp : V) (j : Int) (h : List Ob) : evCK A32 ⟨call32 lf cv, cv, subC 0 (w32_0 (S32_0 lf cv)) (subN)⟩ k32_1 [(0, data), (1, (.int .i64 a)), (3, cmp), (9, (.int .i64 j))] h (endL [0, 1, 3, 9] [.any, (.int .i64), .any, (.int .i64)] o32_1 (w32_1 self)) = B32_1 lf cv self data a cmp j h := by kernel_rfl
theorem L32_1_ok (lf : Nat) (cv : CallVS) (hcv : CvOk Go.Proofs.Tryd.prog cv) : ∀ n, SubOk Go.Proofs.Tryd.prog (.loop k32_1.er) [0, 1, 3, 9] o32_1 (w32_1 (L32_1 lf cv n)) := by
  refine SubOk.loop (A := A32) (σ := ⟨call32 lf cv, cv, subC 0 (w32_0 (S32_0 lf cv)) (subN)⟩) (c := k32_1) (shs := [.any, (.int .i64), .any, (.int .i64)]) (G := fun n => w32_1 (L32_1 lf cv n)) (call32_ok lf cv hcv) hcv (And.intro (S32_0_ok lf cv hcv) (And.intro True.intro True.intro)) ?_ ?_
  · intro vs h r e0
    simp only [w32_1] at e0
    obtain ⟨c1, l1, rfl, e1⟩ := castCons_inv e0
    obtain ⟨c2, l2, rfl, e2⟩ := castCons_inv e1
    obtain ⟨y1, rfl, e3⟩ := castInt_inv e2
    obtain ⟨c3, l3, rfl, e4⟩ := castCons_inv e3
    obtain ⟨c4, l4, rfl, e5⟩ := castCons_inv e4
    obtain ⟨y3, rfl, e6⟩ := castInt_inv e5
    obtain ⟨rfl, e7⟩ := castNil_inv e6
    have e := e7
    cases e
  · intro n vs h r e0
    simp only [w32_1] at e0
    obtain ⟨c1, l1, rfl, e1⟩ := castCons_inv e0
    obtain ⟨c2, l2, rfl, e2⟩ := castCons_inv e1
    obtain ⟨y1, rfl, e3⟩ := castInt_inv e2
    obtain ⟨c3, l3, rfl, e4⟩ := castCons_inv e3
    obtain ⟨c4, l4, rfl, e5⟩ := castCons_inv e4
    obtain ⟨y3, rfl, e6⟩ := castInt_inv e5
    obtain ⟨rfl, e7⟩ := castNil_inv e6
    have e := e7
    exact (B32_1_eq lf cv (L32_1 lf cv n) c1 y1 c3 y3 h).trans e
def o32_2 : Outs := [((.exit 0), [], [])]
def k32_2 : KC := (.seq (.seq (.reg [⟨(some 12), none, (.op (.mv (.t 8))), []⟩, ⟨(some 13), none, (.op (.mv (.t 2))), []⟩, ⟨(some 14), none, (.op (.bin .lss (.t 12) (.t 13))), []⟩]) (.cond (.t 14) .skip (.exit 0))) (.seq (.block 1 (.seq (.reg [⟨(some 17), none, (.op (.mv (.t 8))), []⟩, ⟨(some 9), none, (.op (.mv (.t 17))), []⟩]) (.block 2 (.sub 1 (.loop k32_1.er) [0, 1, 3, 9] o32_1)))) (.reg [⟨(some 15), none, (.op (.mv (.t 8))), []⟩, ⟨(some 16), none, (.op (.bin .add (.t 15) (.c (.int .i64 1)))), []⟩, ⟨(some 8), none, (.op (.mv (.t 16))), []⟩])))
def w32_2 (f : V → Int → Int → V → Int → List Ob → SubR) (vs : List V) (h : List Ob) : SubR := castCons vs fun c1 l1 => castCons l1 fun c2 l2 => castInt .i64 c2 fun n3 => castCons l2 fun c4 l4 => castInt .i64 c4 fun n5 => castCons l4 fun c6 l6 => castCons l6 fun c7 l7 => castInt .i64 c7 fun n8 => castNil l7 (f c1 n3 n5 c6 n8 h)
noncomputable def B32_2 (lf : Nat) (cv : CallVS) (self : V → Int → Int → V → Int → List Ob → SubR) (data : V) (a : Int) (b : Int) (cmp : V) (i : Int) (h : List Ob) : SubR :=
cB (decide (i < b)) (
bind3 (L32_1 lf cv lf data a cmp i h) fun ex vs h_ =>
cB (decide (ex = (.exit 2))) (
castNil vs (
self data a b cmp (IntKind.i64.wrap (i + (1))) h_)) (
none)) (
some ((.exit 0), [], h))
noncomputable def L32_2 (lf : Nat) (cv : CallVS) : Nat → V → Int → Int → V → Int → List Ob → SubR
  | 0 => fun _ _ _ _ _ _ => none
  | n + 1 => B32_2 lf cv (L32_2 lf cv n)
theorem B32_2_eq (lf : Nat) (cv : CallVS) (self : V → Int → Int → V → Int → List Ob → SubR) (data : V) (a : Int) (b : Int) (cmp : V) (i : Int) (h : List Ob) : evCK A32 ⟨call32 lf cv, cv, subC 1 (w32_1 (L32_1 lf cv lf)) (subN)⟩ k32_2 [(0, data), (1, (.int .i64 a)), (2, (.int .i64 b)), (3, cmp), (8, (.int .i64 i))] h (endL [0, 1, 2, 3, 8] [.any, (.int .i64), (.int .i64), .any, (.int .i64)] o32_2 (w32_2 self)) = B32_2 lf cv self data a b cmp i h := by kernel_rfl
theorem L32_2_ok (lf : Nat) (cv : CallVS) (hcv : CvOk Go.Proofs.Tryd.prog cv) : ∀ n, SubOk Go.Proofs.Tryd.prog (.loop k32_2.er) [0, 1, 2, 3, 8] o32_2 (w32_2 (L32_2 lf cv n)) := by
  refine SubOk.loop (A := A32) (σ := ⟨call32 lf cv, cv, subC 1 (w32_1 (L32_1 lf cv lf)) (subN)⟩) (c := k32_2) (shs := [.any, (.int .i64), (.int .i64), .any, (.int .i64)]) (G := fun n => w32_2 (L32_2 lf cv n)) (call32_ok lf cv hcv) hcv (And.intro (And.intro True.intro (And.intro True.intro True.intro)) (And.intro (And.intro True.intro (L32_1_ok lf cv hcv lf)) True.intro)) ?_ ?_
  · intro vs h r e0
    simp only [w32_2] at e0
    obtain ⟨c1, l1, rfl, e1⟩ := castCons_inv e0
    obtain ⟨c2, l2, rfl, e2⟩ := castCons_inv e1
    obtain ⟨y1, rfl, e3⟩ := castInt_inv e2
    obtain ⟨c3, l3, rfl, e4⟩ := castCons_inv e3
    obtain ⟨y2, rfl, e5⟩ := castInt_inv e4
    obtain ⟨c4, l4, rfl, e6⟩ := castCons_inv e5
    obtain ⟨c5, l5, rfl, e7⟩ := castCons_inv e6
    obtain ⟨y4, rfl, e8⟩ := castInt_inv e7
    obtain ⟨rfl, e9⟩ := castNil_inv e8
    have e := e9
    cases e
  · intro n vs h r e0
    simp only [w32_2] at e0
    obtain ⟨c1, l1, rfl, e1⟩ := castCons_inv e0
    obtain ⟨c2, l2, rfl, e2⟩ := castCons_inv e1
    obtain ⟨y1, rfl, e3⟩ := castInt_inv e2
    obtain ⟨c3, l3, rfl, e4⟩ := castCons_inv e3
    obtain ⟨y2, rfl, e5⟩ := castInt_inv e4
    obtain ⟨c4, l4, rfl, e6⟩ := castCons_inv e5
    obtain ⟨c5, l5, rfl, e7⟩ := castCons_inv e6
    obtain ⟨y4, rfl, e8⟩ := castInt_inv e7
    obtain ⟨rfl, e9⟩ := castNil_inv e8
    have e := e9
    exact (B32_2_eq lf cv (L32_2 lf cv n) c1 y1 y2 c4 y4 h).trans e
def k32 : KC := (.seq (.reg [⟨(some 10), none, (.op (.mv (.t 1))), []⟩, ⟨(some 11), none, (.op (.bin .add (.t 10) (.c (.int .i64 1)))), []⟩, ⟨(some 8), none, (.op (.mv (.t 11))), []⟩]) (.block 0 (.sub 2 (.loop k32_2.er) [0, 1, 2, 3, 8] o32_2)))
noncomputable def F32 (lf : Nat) (cv : CallVS) (data : V) (a : Int) (b : Int) (cmp : V) (h : List Ob) : Option (V × List Ob) :=
bind3 (L32_2 lf cv lf data a b cmp (IntKind.i64.wrap (a + (1))) h) fun ex vs h_ =>
cB (decide (ex = (.exit 0))) (
castNil vs (
some ((.tup []), h_))) (
none)
theorem F32_eq (lf : Nat) (cv : CallVS) (data : V) (a : Int) (b : Int) (cmp : V) (h : List Ob) : evCK A32 ⟨call32 lf cv, cv, subC 2 (w32_2 (L32_2 lf cv lf)) (subN)⟩ k32 (entryK [data, (.int .i64 a), (.int .i64 b), cmp]) h (endF c32.res) = F32 lf cv data a b cmp h := by kernel_rfl
theorem F32_ok (lf : Nat) (cv : CallVS) (hcv : CvOk Go.Proofs.Tryd.prog cv) (data : V) (a : Int) (b : Int) (cmp : V) (h : List Ob) (r_ : V) (h_r : List Ob) (e_ : F32 lf cv data a b cmp h = some (r_, h_r)) : CD Go.Proofs.Tryd.prog 32 [data, (.int .i64 a), (.int .i64 b), cmp] h r_ h_r :=
  CD.ofK (A := A32) (σ := ⟨call32 lf cv, cv, subC 2 (w32_2 (L32_2 lf cv lf)) (subN)⟩) (c := k32) Go.Proofs.Tryd.func32 ok32 en32 (show 4 ≤ 53 by decide) (by kernel_rfl) (call32_ok lf cv hcv) hcv (And.intro True.intro (L32_2_ok lf cv hcv lf)) ((F32_eq lf cv data a b cmp h).trans e_)
def w32 (f : V → Int → Int → V → List Ob → Option (V × List Ob)) (vs : List V) (h : List Ob) : Option (V × List Ob) := castCons vs fun c1 l1 => castCons l1 fun c2 l2 => castInt .i64 c2 fun n3 => castCons l2 fun c4 l4 => castInt .i64 c4 fun n5 => castCons l4 fun c6 l6 => castNil l6 (f c1 n3 n5 c6 h)
noncomputable def W32 (lf : Nat) (cv : CallVS) : List V → List Ob → Option (V × List Ob) := w32 (F32 lf cv)
theorem W32_ok (lf : Nat) (cv : CallVS) (hcv : CvOk Go.Proofs.Tryd.prog cv) : ∀ args h v h', W32 lf cv args h = some (v, h') → CD Go.Proofs.Tryd.prog 32 args h v h' := by
  intro vs h r h' e0
  simp only [W32, w32] at e0
  obtain ⟨c1, l1, rfl, e1⟩ := castCons_inv e0
  obtain ⟨c2, l2, rfl, e2⟩ := castCons_inv e1
  obtain ⟨y1, rfl, e3⟩ := castInt_inv e2
  obtain ⟨c3, l3, rfl, e4⟩ := castCons_inv e3
  obtain ⟨y2, rfl, e5⟩ := castInt_inv e4
  obtain ⟨c4, l4, rfl, e6⟩ := castCons_inv e5
  obtain ⟨rfl, e7⟩ := castNil_inv e6
  have e := e7
  exact F32_ok lf cv hcv c1 y1 y2 c4 h r h' e

/-! 27: slices.pdqsortCmpFunc[wainscot/bag.Entry] -/
def A27 : List (Nat × Sh) := [(1, (.int .i64)), (2, (.int .i64)), (3, (.int .i64)), (10, .bool), (11, .bool), (12, (.int .i64)), (13, (.int .i64)), (14, (.int .i64)), (15, (.int .i64)), (16, (.int .i64)), (17, .bool), (18, (.int .i64)), (19, (.int .i64)), (20, (.int .i64)), (21, (.int .i64)), (22, (.int .i64)), (23, (.int .i64)), (24, (.int .i64)), (25, .bool), (27, (.int .i64)), (28, (.int .i64)), (31, (.int .i64)), (32, .bool), (34, (.int .i64)), (35, (.int .i64)), (38, .bool), (39, .bool), (41, (.int .i64)), (42, (.int .i64)), (45, (.int .i64)), (46, (.int .i64)), (47, (.tup [(.int .i64), (.int .i64)])), (49, (.int .i64)), (50, (.int .i64)), (52, (.tup [(.int .i64), (.int .i64)])), (53, (.int .i64)), (54, (.int .i64)), (55, (.int .i64)), (56, .bool), (58, (.int .i64)), (59, (.int .i64)), (62, (.int .i64)), (63, (.int .i64)), (64, (.int .i64)), (65, (.int .i64)), (66, (.int .i64)), (67, (.int .i64)), (68, .bool), (69, .bool), (70, .bool), (71, .bool), (72, .bool), (73, (.int .i64)), (74, .bool), (75, .bool), (77, (.int .i64)), (78, (.int .i64)), (80, .bool), (81, (.int .i64)), (82, .bool), (83, .bool), (86, (.int .i64)), (87, (.int .i64)), (89, (.agg [.any, (.int .i64)])), (91, (.int .i64)), (93, (.agg [.any, (.int .i64)])), (94, (.int .i64)), (95, .bool), (96, .bool), (97, .bool), (99, (.int .i64)), (100, (.int .i64)), (101, (.int .i64)), (103, (.int .i64)), (104, (.int .i64)), (105, (.tup [(.int .i64), .bool])), (107, (.int .i64)), (108, (.int .i64)), (109, (.int .i64)), (111, (.tup [(.int .i64), .bool])), (112, (.int .i64)), (113, .bool), (114, .bool), (115, (.int .i64)), (116, (.int .i64)), (117, (.int .i64)), (118, (.int .i64)), (119, (.int .i64)), (120, (.int .i64)), (121, (.int .i64)), (122, (.int .i64)), (123, (.int .i64)), (124, (.int .i64)), (125, .bool), (126, (.int .i64)), (127, (.int .i64)), (128, .bool), (130, (.int .i64)), (131, (.int .i64)), (132, (.int .i64)), (135, (.int .i64)), (136, (.int .i64)), (137, (.int .i64)), (138, (.int .i64)), (139, .bool), (141, (.int .i64)), (142, (.int .i64)), (143, (.int .i64)), (144, (.int .i64)), (147, (.int .i64))]
noncomputable def call27 (lf : Nat) (cv : CallVS) : CallS := callC 32 (W32 lf cv) (callN)
theorem call27_ok (lf : Nat) (cv : CallVS) (hcv : CvOk Go.Proofs.Tryd.prog cv) : CallOk Go.Proofs.Tryd.prog (call27 lf cv) := callC_ok (W32_ok lf cv hcv) (callN_ok)
def o27_0 : Outs := [(.normal, [75], [.bool])]
def k27_0 : KC := (.reg [⟨(some 68), none, (.op (.mv (.t 10))), []⟩, ⟨(some 69), none, (.op (.mv (.t 68))), []⟩, ⟨(some 70), (some (69, true)), (.op (.mv (.t 11))), []⟩, ⟨(some 71), none, (.op (.pick (.t 69) (.t 70) (.c (.bool false)))), []⟩, ⟨(some 72), none, (.op (.mv (.t 71))), []⟩, ⟨(some 73), (some (72, true)), (.op (.mv (.t 14))), []⟩, ⟨(some 74), (some (72, true)), (.op (.bin .eql (.t 73) (.c (.int .i64 1)))), []⟩, ⟨(some 75), none, (.op (.pick (.t 72) (.t 74) (.c (.bool false)))), []⟩])
def w27_0 (f : Bool → Bool → Int → List Ob → SubR) (vs : List V) (h : List Ob) : SubR := castCons vs fun c1 l1 => castBool c1 fun n2 => castCons l1 fun c3 l3 => castBool c3 fun n4 => castCons l3 fun c5 l5 => castInt .i64 c5 fun n6 => castNil l5 (f n2 n4 n6 h)
noncomputable def S27_0 (lf : Nat) (cv : CallVS) (wasBalanced : Bool) (wasPartitioned : Bool) (hint : Int) (h : List Ob) : SubR :=
cB wasBalanced (
cB wasPartitioned (
some (.normal, [(.bool (hint == (1)))], h)) (
some (.normal, [(.bool false)], h))) (
some (.normal, [(.bool false)], h))
theorem S27_0_eq (lf : Nat) (cv : CallVS) (wasBalanced : Bool) (wasPartitioned : Bool) (hint : Int) (h : List Ob) : evCK A27 ⟨call27 lf cv, cv, subN⟩ k27_0 [(10, (.bool wasBalanced)), (11, (.bool wasPartitioned)), (14, (.int .i64 hint))] h (endK o27_0) = S27_0 lf cv wasBalanced wasPartitioned hint h := by kernel_rfl
theorem S27_0_ok (lf : Nat) (cv : CallVS) (hcv : CvOk Go.Proofs.Tryd.prog cv) : SubOk Go.Proofs.Tryd.prog k27_0.er [10, 11, 14] o27_0 (w27_0 (S27_0 lf cv)) := by
  refine SubOk.of (A := A27) (σ := ⟨call27 lf cv, cv, subN⟩) (c := k27_0) (call27_ok lf cv hcv) hcv True.intro ?_
  intro vs h r e0
  simp only [w27_0] at e0
  obtain ⟨c1, l1, rfl, e1⟩ := castCons_inv e0
  obtain ⟨y0, rfl, e2⟩ := castBool_inv e1
  obtain ⟨c2, l2, rfl, e3⟩ := castCons_inv e2
  obtain ⟨y1, rfl, e4⟩ := castBool_inv e3
  obtain ⟨c3, l3, rfl, e5⟩ := castCons_inv e4
  obtain ⟨y2, rfl, e6⟩ := castInt_inv e5
  obtain ⟨rfl, e7⟩ := castNil_inv e6
  have e := e7
  exact (S27_0_eq lf cv y0 y1 y2 h).trans e
def o27_1 : Outs := [(.normal, [97], [.bool])]
def k27_1 : KC := (.reg [⟨(some 81), none, (.op (.mv (.t 1))), []⟩, ⟨(some 82), none, (.op (.bin .gtr (.t 81) (.c (.int .i64 0)))), []⟩, ⟨(some 83), none, (.op (.mv (.t 82))), []⟩, ⟨(some 84), (some (83, true)), (.op (.mv (.t 4))), []⟩, ⟨(some 85), (some (83, true)), (.op (.mv (.t 0))), []⟩, ⟨(some 86), (some (83, true)), (.op (.mv (.t 1))), []⟩, ⟨(some 87), (some (83, true)), (.op (.bin .sub (.t 86) (.c (.int .i64 1)))), []⟩, ⟨(some 88), (some (83, true)), (.op (.iaddrL 2 (.t 85) (.t 87))), []⟩, ⟨(some 89), (some (83, true)), (.op (.loadN 2 (.t 88))), []⟩, ⟨(some 90), (some (83, true)), (.op (.mv (.t 0))), []⟩, ⟨(some 91), (some (83, true)), (.op (.mv (.t 13))), []⟩, ⟨(some 92), (some (83, true)), (.op (.iaddrL 2 (.t 90) (.t 91))), []⟩, ⟨(some 93), (some (83, true)), (.op (.loadN 2 (.t 92))), []⟩, ⟨(some 94), (some (83, true)), (.callv (.t 84) [(.t 89), (.t 93)]), []⟩, ⟨(some 95), (some (83, true)), (.op (.bin .lss (.t 94) (.c (.int .i64 0)))), []⟩, ⟨(some 96), (some (83, true)), (.op (.un .not (.t 95))), []⟩, ⟨(some 97), none, (.op (.pick (.t 83) (.t 96) (.c (.bool false)))), []⟩])
def w27_1 (f : V → Int → V → Int → List Ob → SubR) (vs : List V) (h : List Ob) : SubR := castCons vs fun c1 l1 => castCons l1 fun c2 l2 => castInt .i64 c2 fun n3 => castCons l2 fun c4 l4 => castCons l4 fun c5 l5 => castInt .i64 c5 fun n6 => castNil l5 (f c1 n3 c4 n6 h)
noncomputable def S27_1 (lf : Nat) (cv : CallVS) (data : V) (a : Int) (cmp : V) (pivot : Int) (h : List Ob) : SubR :=
cB (decide (a > (0))) (
bind1 (er (.iaddrL 2 (.c data) (.c (.int .i64 (IntKind.i64.wrap (a - (1)))))) h) fun x88 =>
bind1 (er (.loadN 2 (.c x88)) h) fun v =>
castAgg v fun l =>
castCons l fun x89_0 l1 =>
castCons l1 fun c l2 =>
castInt .i64 c fun x89_1 =>
castNil l2 (
bind1 (er (.iaddrL 2 (.c data) (.c (.int .i64 pivot))) h) fun x92 =>
bind1 (er (.loadN 2 (.c x92)) h) fun v1 =>
castAgg v1 fun l3 =>
castCons l3 fun x93_0 l4 =>
castCons l4 fun c1 l5 =>
castInt .i64 c1 fun x93_1 =>
castNil l5 (
bind2 (cv cmp [(.agg [x89_0, (.int .i64 x89_1)]), (.agg [x93_0, (.int .i64 x93_1)])] h) fun v2 h_ =>
castInt .i64 v2 fun x94 =>
some (.normal, [(.bool (!(decide (x94 < (0)))))], h_)))) (
some (.normal, [(.bool false)], h))
theorem S27_1_eq (lf : Nat) (cv : CallVS) (data : V) (a : Int) (cmp : V) (pivot : Int) (h : List Ob) : evCK A27 ⟨call27 lf cv, cv, subN⟩ k27_1 [(0, data), (1, (.int .i64 a)), (4, cmp), (13, (.int .i64 pivot))] h (endK o27_1) = S27_1 lf cv data a cmp pivot h := by kernel_rfl
theorem S27_1_ok (lf : Nat) (cv : CallVS) (hcv : CvOk Go.Proofs.Tryd.prog cv) : SubOk Go.Proofs.Tryd.prog k27_1.er [0, 1, 4, 13] o27_1 (w27_1 (S27_1 lf cv)) := by
  refine SubOk.of (A := A27) (σ := ⟨call27 lf cv, cv, subN⟩) (c := k27_1) (call27_ok lf cv hcv) hcv True.intro ?_
  intro vs h r e0
  simp only [w27_1] at e0
  obtain ⟨c1, l1, rfl, e1⟩ := castCons_inv e0
  obtain ⟨c2, l2, rfl, e2⟩ := castCons_inv e1
  obtain ⟨y1, rfl, e3⟩ := castInt_inv e2
  obtain ⟨c3, l3, rfl, e4⟩ := castCons_inv e3
  obtain ⟨c4, l4, rfl, e5⟩ := castCons_inv e4
  obtain ⟨y3, rfl, e6⟩ := castInt_inv e5
  obtain ⟨rfl, e7⟩ := castNil_inv e6
  have e := e7
  exact (S27_1_eq lf cv c1 y1 c3 y3 h).trans e
def o27_2 : Outs := [(.ret, [], []), (.normal, [], [])]
def k27_2 : KC := (.seq (.sub 0 k27_0.er [10, 11, 14] o27_0) (.cond (.t 75) (.seq (.reg [⟨(some 76), none, (.op (.mv (.t 0))), []⟩, ⟨(some 77), none, (.op (.mv (.t 1))), []⟩, ⟨(some 78), none, (.op (.mv (.t 2))), []⟩, ⟨(some 79), none, (.op (.mv (.t 4))), []⟩, ⟨(some 80), none, (.call 37 [(.t 76), (.t 77), (.t 78), (.t 79)]), []⟩]) (.cond (.t 80) .ret .skip)) .skip))
def w27_2 (f : V → Int → Int → V → Bool → Bool → Int → List Ob → SubR) (vs : List V) (h : List Ob) : SubR := castCons vs fun c1 l1 => castCons l1 fun c2 l2 => castInt .i64 c2 fun n3 => castCons l2 fun c4 l4 => castInt .i64 c4 fun n5 => castCons l4 fun c6 l6 => castCons l6 fun c7 l7 => castBool c7 fun n8 => castCons l7 fun c9 l9 => castBool c9 fun n10 => castCons l9 fun c11 l11 => castInt .i64 c11 fun n12 => castNil l11 (f c1 n3 n5 c6 n8 n10 n12 h)
noncomputable def S27_2 (lf : Nat) (cv : CallVS) (data : V) (a : Int) (b : Int) (cmp : V) (wasBalanced : Bool) (wasPartitioned : Bool) (hint : Int) (h : List Ob) : SubR :=
bind3 (S27_0 lf cv wasBalanced wasPartitioned hint h) fun ex vs h_ =>
cB (decide (ex = .normal)) (
castCons vs fun c l =>
castBool c fun x75 =>
castNil l (
cB x75 (
none) (
some (.normal, [], h_)))) (
none)
theorem S27_2_eq (lf : Nat) (cv : CallVS) (data : V) (a : Int) (b : Int) (cmp : V) (wasBalanced : Bool) (wasPartitioned : Bool) (hint : Int) (h : List Ob) : evCK A27 ⟨call27 lf cv, cv, subC 0 (w27_0 (S27_0 lf cv)) (subN)⟩ k27_2 [(0, data), (1, (.int .i64 a)), (2, (.int .i64 b)), (4, cmp), (10, (.bool wasBalanced)), (11, (.bool wasPartitioned)), (14, (.int .i64 hint))] h (endK o27_2) = S27_2 lf cv data a b cmp wasBalanced wasPartitioned hint h := by kernel_rfl
theorem S27_2_ok (lf : Nat) (cv : CallVS) (hcv : CvOk Go.Proofs.Tryd.prog cv) : SubOk Go.Proofs.Tryd.prog k27_2.er [0, 1, 2, 4, 10, 11, 14] o27_2 (w27_2 (S27_2 lf cv)) := by
  refine SubOk.of (A := A27) (σ := ⟨call27 lf cv, cv, subC 0 (w27_0 (S27_0 lf cv)) (subN)⟩) (c := k27_2) (call27_ok lf cv hcv) hcv (And.intro (S27_0_ok lf cv hcv) (And.intro (And.intro True.intro (And.intro True.intro True.intro)) True.intro)) ?_
  intro vs h r e0
  simp only [w27_2] at e0
  obtain ⟨c1, l1, rfl, e1⟩ := castCons_inv e0
  obtain ⟨c2, l2, rfl, e2⟩ := castCons_inv e1
  obtain ⟨y1, rfl, e3⟩ := castInt_inv e2
  obtain ⟨c3, l3, rfl, e4⟩ := castCons_inv e3
  obtain ⟨y2, rfl, e5⟩ := castInt_inv e4
  obtain ⟨c4, l4, rfl, e6⟩ := castCons_inv e5
  obtain ⟨c5, l5, rfl, e7⟩ := castCons_inv e6
  obtain ⟨y4, rfl, e8⟩ := castBool_inv e7
  obtain ⟨c6, l6, rfl, e9⟩ := castCons_inv e8
  obtain ⟨y5, rfl, e10⟩ := castBool_inv e9
  obtain ⟨c7, l7, rfl, e11⟩ := castCons_inv e10
  obtain ⟨y6, rfl, e12⟩ := castInt_inv e11
  obtain ⟨rfl, e13⟩ := castNil_inv e12
  have e := e13
  exact (S27_2_eq lf cv c1 y1 y2 c4 y4 y5 y6 h).trans e
def o27_3 : Outs := [(.normal, [13, 14], [(.int .i64), (.int .i64)])]
def k27_3 : KC := (.seq (.reg [⟨(some 55), none, (.op (.mv (.t 14))), []⟩, ⟨(some 56), none, (.op (.bin .eql (.t 55) (.c (.int .i64 2)))), []⟩]) (.cond (.t 56) (.seq (.reg [⟨(some 57), none, (.op (.mv (.t 0))), []⟩, ⟨(some 58), none, (.op (.mv (.t 1))), []⟩, ⟨(some 59), none, (.op (.mv (.t 2))), []⟩, ⟨(some 60), none, (.op (.mv (.t 4))), []⟩, ⟨(some 61), none, (.call 36 [(.t 57), (.t 58), (.t 59), (.t 60)]), []⟩]) (.seq (.reg [⟨(some 62), none, (.op (.mv (.t 2))), []⟩, ⟨(some 63), none, (.op (.bin .sub (.t 62) (.c (.int .i64 1)))), []⟩, ⟨(some 64), none, (.op (.mv (.t 13))), []⟩, ⟨(some 65), none, (.op (.mv (.t 1))), []⟩, ⟨(some 66), none, (.op (.bin .sub (.t 64) (.t 65))), []⟩, ⟨(some 67), none, (.op (.bin .sub (.t 63) (.t 66))), []⟩, ⟨(some 13), none, (.op (.mv (.t 67))), []⟩]) (.reg [⟨(some 14), none, (.op (.mv (.c (.int .i64 1)))), []⟩]))) .skip))
def w27_3 (f : V → Int → Int → V → Int → Int → List Ob → SubR) (vs : List V) (h : List Ob) : SubR := castCons vs fun c1 l1 => castCons l1 fun c2 l2 => castInt .i64 c2 fun n3 => castCons l2 fun c4 l4 => castInt .i64 c4 fun n5 => castCons l4 fun c6 l6 => castCons l6 fun c7 l7 => castInt .i64 c7 fun n8 => castCons l7 fun c9 l9 => castInt .i64 c9 fun n10 => castNil l9 (f c1 n3 n5 c6 n8 n10 h)
noncomputable def S27_3 (lf : Nat) (cv : CallVS) (data : V) (a : Int) (b : Int) (cmp : V) (pivot : Int) (hint : Int) (h : List Ob) : SubR :=
cB (hint == (2)) (
none) (
some (.normal, [(.int .i64 pivot), (.int .i64 hint)], h))
theorem S27_3_eq (lf : Nat) (cv : CallVS) (data : V) (a : Int) (b : Int) (cmp : V) (pivot : Int) (hint : Int) (h : List Ob) : evCK A27 ⟨call27 lf cv, cv, subN⟩ k27_3 [(0, data), (1, (.int .i64 a)), (2, (.int .i64 b)), (4, cmp), (13, (.int .i64 pivot)), (14, (.int .i64 hint))] h (endK o27_3) = S27_3 lf cv data a b cmp pivot hint h := by kernel_rfl
theorem S27_3_ok (lf : Nat) (cv : CallVS) (hcv : CvOk Go.Proofs.Tryd.prog cv) : SubOk Go.Proofs.Tryd.prog k27_3.er [0, 1, 2, 4, 13, 14] o27_3 (w27_3 (S27_3 lf cv)) := by
  refine SubOk.of (A := A27) (σ := ⟨call27 lf cv, cv, subN⟩) (c := k27_3) (call27_ok lf cv hcv) hcv (And.intro True.intro (And.intro (And.intro True.intro (And.intro True.intro True.intro)) True.intro)) ?_
  intro vs h r e0
  simp only [w27_3] at e0
  obtain ⟨c1, l1, rfl, e1⟩ := castCons_inv e0
  obtain ⟨c2, l2, rfl, e2⟩ := castCons_inv e1
  obtain ⟨y1, rfl, e3⟩ := castInt_inv e2
  obtain ⟨c3, l3, rfl, e4⟩ := castCons_inv e3
  obtain ⟨y2, rfl, e5⟩ := castInt_inv e4
  obtain ⟨c4, l4, rfl, e6⟩ := castCons_inv e5
  obtain ⟨c5, l5, rfl, e7⟩ := castCons_inv e6
  obtain ⟨y4, rfl, e8⟩ := castInt_inv e7
  obtain ⟨c6, l6, rfl, e9⟩ := castCons_inv e8
  obtain ⟨y5, rfl, e10⟩ := castInt_inv e9
  obtain ⟨rfl, e11⟩ := castNil_inv e10
  have e := e11
  exact (S27_3_eq lf cv c1 y1 y2 c4 y4 y5 h).trans e
def o27_4 : Outs := [(.normal, [3], [(.int .i64)])]
def k27_4 : KC := (.seq (.reg [⟨(some 38), none, (.op (.mv (.t 10))), []⟩, ⟨(some 39), none, (.op (.un .not (.t 38))), []⟩]) (.cond (.t 39) (.seq (.reg [⟨(some 40), none, (.op (.mv (.t 0))), []⟩, ⟨(some 41), none, (.op (.mv (.t 1))), []⟩, ⟨(some 42), none, (.op (.mv (.t 2))), []⟩, ⟨(some 43), none, (.op (.mv (.t 4))), []⟩, ⟨(some 44), none, (.call 34 [(.t 40), (.t 41), (.t 42), (.t 43)]), []⟩]) (.reg [⟨(some 45), none, (.op (.mv (.t 3))), []⟩, ⟨(some 46), none, (.op (.bin .sub (.t 45) (.c (.int .i64 1)))), []⟩, ⟨(some 3), none, (.op (.mv (.t 46))), []⟩])) .skip))
def w27_4 (f : V → Int → Int → Int → V → Bool → List Ob → SubR) (vs : List V) (h : List Ob) : SubR := castCons vs fun c1 l1 => castCons l1 fun c2 l2 => castInt .i64 c2 fun n3 => castCons l2 fun c4 l4 => castInt .i64 c4 fun n5 => castCons l4 fun c6 l6 => castInt .i64 c6 fun n7 => castCons l6 fun c8 l8 => castCons l8 fun c9 l9 => castBool c9 fun n10 => castNil l9 (f c1 n3 n5 n7 c8 n10 h)
noncomputable def S27_4 (lf : Nat) (cv : CallVS) (data : V) (a : Int) (b : Int) (limit : Int) (cmp : V) (wasBalanced : Bool) (h : List Ob) : SubR :=
cB (!wasBalanced) (
none) (
some (.normal, [(.int .i64 limit)], h))
theorem S27_4_eq (lf : Nat) (cv : CallVS) (data : V) (a : Int) (b : Int) (limit : Int) (cmp : V) (wasBalanced : Bool) (h : List Ob) : evCK A27 ⟨call27 lf cv, cv, subN⟩ k27_4 [(0, data), (1, (.int .i64 a)), (2, (.int .i64 b)), (3, (.int .i64 limit)), (4, cmp), (10, (.bool wasBalanced))] h (endK o27_4) = S27_4 lf cv data a b limit cmp wasBalanced h := by kernel_rfl
theorem S27_4_ok (lf : Nat) (cv : CallVS) (hcv : CvOk Go.Proofs.Tryd.prog cv) : SubOk Go.Proofs.Tryd.prog k27_4.er [0, 1, 2, 3, 4, 10] o27_4 (w27_4 (S27_4 lf cv)) := by
  refine SubOk.of (A := A27) (σ := ⟨call27 lf cv, cv, subN⟩) (c := k27_4) (call27_ok lf cv hcv) hcv (And.intro True.intro (And.intro (And.intro True.intro True.intro) True.intro)) ?_
  intro vs h r e0
  simp only [w27_4] at e0
  obtain ⟨c1, l1, rfl, e1⟩ := castCons_inv e0
  obtain ⟨c2, l2, rfl, e2⟩ := castCons_inv e1
  obtain ⟨y1, rfl, e3⟩ := castInt_inv e2
  obtain ⟨c3, l3, rfl, e4⟩ := castCons_inv e3
  obtain ⟨y2, rfl, e5⟩ := castInt_inv e4
  obtain ⟨c4, l4, rfl, e6⟩ := castCons_inv e5
  obtain ⟨y3, rfl, e7⟩ := castInt_inv e6
  obtain ⟨c5, l5, rfl, e8⟩ := castCons_inv e7
  obtain ⟨c6, l6, rfl, e9⟩ := castCons_inv e8
  obtain ⟨y5, rfl, e10⟩ := castBool_inv e9
  obtain ⟨rfl, e11⟩ := castNil_inv e10
  have e := e11
  exact (S27_4_eq lf cv c1 y1 y2 y3 c5 y5 h).trans e
def o27_5 : Outs := [(.ret, [], [])]
def k27_5 : KC := (.block 1 (.seq (.reg [⟨(some 21), none, (.op (.mv (.t 2))), []⟩, ⟨(some 22), none, (.op (.mv (.t 1))), []⟩, ⟨(some 23), none, (.op (.bin .sub (.t 21) (.t 22))), []⟩, ⟨(some 12), none, (.op (.mv (.t 23))), []⟩]) (.seq (.seq (.reg [⟨(some 24), none, (.op (.mv (.t 12))), []⟩, ⟨(some 25), none, (.op (.bin .leq (.t 24) (.c (.int .i64 12)))), []⟩]) (.cond (.t 25) (.seq (.reg [⟨(some 26), none, (.op (.mv (.t 0))), []⟩, ⟨(some 27), none, (.op (.mv (.t 1))), []⟩, ⟨(some 28), none, (.op (.mv (.t 2))), []⟩, ⟨(some 29), none, (.op (.mv (.t 4))), []⟩, ⟨(some 30), none, (.call 32 [(.t 26), (.t 27), (.t 28), (.t 29)]), []⟩]) .ret) .skip)) (.seq (.seq (.reg [⟨(some 31), none, (.op (.mv (.t 3))), []⟩, ⟨(some 32), none, (.op (.bin .eql (.t 31) (.c (.int .i64 0)))), []⟩]) (.cond (.t 32) (.seq (.reg [⟨(some 33), none, (.op (.mv (.t 0))), []⟩, ⟨(some 34), none, (.op (.mv (.t 1))), []⟩, ⟨(some 35), none, (.op (.mv (.t 2))), []⟩, ⟨(some 36), none, (.op (.mv (.t 4))), []⟩, ⟨(some 37), none, (.call 33 [(.t 33), (.t 34), (.t 35), (.t 36)]), []⟩]) .ret) .skip)) (.seq (.sub 4 k27_4.er [0, 1, 2, 3, 4, 10] o27_4) (.seq (.reg [⟨(some 48), none, (.op (.mv (.t 0))), []⟩, ⟨(some 49), none, (.op (.mv (.t 1))), []⟩, ⟨(some 50), none, (.op (.mv (.t 2))), []⟩, ⟨(some 51), none, (.op (.mv (.t 4))), []⟩, ⟨(some 52), none, (.call 35 [(.t 48), (.t 49), (.t 50), (.t 51)]), []⟩, ⟨(some 47), none, (.op (.mv (.t 52))), []⟩, ⟨(some 53), none, (.op (.ext 0 (.t 47))), []⟩, ⟨(some 54), none, (.op (.ext 1 (.t 47))), []⟩, ⟨(some 13), none, (.op (.mv (.t 53))), []⟩, ⟨(some 14), none, (.op (.mv (.t 54))), []⟩]) (.seq (.sub 3 k27_3.er [0, 1, 2, 4, 13, 14] o27_3) (.seq (.sub 2 k27_2.er [0, 1, 2, 4, 10, 11, 14] o27_2) (.seq (.seq (.sub 1 k27_1.er [0, 1, 4, 13] o27_1) (.cond (.t 97) (.seq (.reg [⟨(some 98), none, (.op (.mv (.t 0))), []⟩, ⟨(some 99), none, (.op (.mv (.t 1))), []⟩, ⟨(some 100), none, (.op (.mv (.t 2))), []⟩, ⟨(some 101), none, (.op (.mv (.t 13))), []⟩, ⟨(some 102), none, (.op (.mv (.t 4))), []⟩, ⟨(some 103), none, (.call 38 [(.t 98), (.t 99), (.t 100), (.t 101), (.t 102)]), []⟩, ⟨(some 15), none, (.op (.mv (.t 103))), []⟩]) (.seq (.reg [⟨(some 104), none, (.op (.mv (.t 15))), []⟩, ⟨(some 1), none, (.op (.mv (.t 104))), []⟩]) (.exit 1))) .skip)) (.seq (.reg [⟨(some 106), none, (.op (.mv (.t 0))), []⟩, ⟨(some 107), none, (.op (.mv (.t 1))), []⟩, ⟨(some 108), none, (.op (.mv (.t 2))), []⟩, ⟨(some 109), none, (.op (.mv (.t 13))), []⟩, ⟨(some 110), none, (.op (.mv (.t 4))), []⟩, ⟨(some 111), none, (.call 39 [(.t 106), (.t 107), (.t 108), (.t 109), (.t 110)]), []⟩, ⟨(some 105), none, (.op (.mv (.t 111))), []⟩, ⟨(some 112), none, (.op (.ext 0 (.t 105))), []⟩, ⟨(some 113), none, (.op (.ext 1 (.t 105))), []⟩, ⟨(some 16), none, (.op (.mv (.t 112))), []⟩, ⟨(some 17), none, (.op (.mv (.t 113))), []⟩]) (.seq (.reg [⟨(some 114), none, (.op (.mv (.t 17))), []⟩, ⟨(some 11), none, (.op (.mv (.t 114))), []⟩]) (.seq (.reg [⟨(some 115), none, (.op (.mv (.t 16))), []⟩, ⟨(some 116), none, (.op (.mv (.t 1))), []⟩, ⟨(some 117), none, (.op (.bin .sub (.t 115) (.t 116))), []⟩, ⟨(some 118), none, (.op (.mv (.t 2))), []⟩, ⟨(some 119), none, (.op (.mv (.t 16))), []⟩, ⟨(some 120), none, (.op (.bin .sub (.t 118) (.t 119))), []⟩, ⟨(some 18), none, (.op (.mv (.t 117))), []⟩, ⟨(some 19), none, (.op (.mv (.t 120))), []⟩]) (.seq (.reg [⟨(some 121), none, (.op (.mv (.t 12))), []⟩, ⟨(some 122), none, (.op (.bin .quo (.t 121) (.c (.int .i64 8)))), []⟩, ⟨(some 20), none, (.op (.mv (.t 122))), []⟩]) (.seq (.reg [⟨(some 123), none, (.op (.mv (.t 18))), []⟩, ⟨(some 124), none, (.op (.mv (.t 19))), []⟩, ⟨(some 125), none, (.op (.bin .lss (.t 123) (.t 124))), []⟩]) (.cond (.t 125) (.seq (.reg [⟨(some 126), none, (.op (.mv (.t 18))), []⟩, ⟨(some 127), none, (.op (.mv (.t 20))), []⟩, ⟨(some 128), none, (.op (.bin .geq (.t 126) (.t 127))), []⟩, ⟨(some 10), none, (.op (.mv (.t 128))), []⟩]) (.seq (.reg [⟨(some 129), none, (.op (.mv (.t 0))), []⟩, ⟨(some 130), none, (.op (.mv (.t 1))), []⟩, ⟨(some 131), none, (.op (.mv (.t 16))), []⟩, ⟨(some 132), none, (.op (.mv (.t 3))), []⟩, ⟨(some 133), none, (.op (.mv (.t 4))), []⟩, ⟨(some 134), none, (.call 27 [(.t 129), (.t 130), (.t 131), (.t 132), (.t 133)]), []⟩]) (.reg [⟨(some 135), none, (.op (.mv (.t 16))), []⟩, ⟨(some 136), none, (.op (.bin .add (.t 135) (.c (.int .i64 1)))), []⟩, ⟨(some 1), none, (.op (.mv (.t 136))), []⟩]))) (.seq (.reg [⟨(some 137), none, (.op (.mv (.t 19))), []⟩, ⟨(some 138), none, (.op (.mv (.t 20))), []⟩, ⟨(some 139), none, (.op (.bin .geq (.t 137) (.t 138))), []⟩, ⟨(some 10), none, (.op (.mv (.t 139))), []⟩]) (.seq (.reg [⟨(some 140), none, (.op (.mv (.t 0))), []⟩, ⟨(some 141), none, (.op (.mv (.t 16))), []⟩, ⟨(some 142), none, (.op (.bin .add (.t 141) (.c (.int .i64 1)))), []⟩, ⟨(some 143), none, (.op (.mv (.t 2))), []⟩, ⟨(some 144), none, (.op (.mv (.t 3))), []⟩, ⟨(some 145), none, (.op (.mv (.t 4))), []⟩, ⟨(some 146), none, (.call 27 [(.t 140), (.t 142), (.t 143), (.t 144), (.t 145)]), []⟩]) (.reg [⟨(some 147), none, (.op (.mv (.t 16))), []⟩, ⟨(some 2), none, (.op (.mv (.t 147))), []⟩]))))))))))))))))))
def w27_5 (f : V → Int → Int → Int → V → Bool → Bool → List Ob → SubR) (vs : List V) (h : List Ob) : SubR := castCons vs fun c1 l1 => castCons l1 fun c2 l2 => castInt .i64 c2 fun n3 => castCons l2 fun c4 l4 => castInt .i64 c4 fun n5 => castCons l4 fun c6 l6 => castInt .i64 c6 fun n7 => castCons l6 fun c8 l8 => castCons l8 fun c9 l9 => castBool c9 fun n10 => castCons l9 fun c11 l11 => castBool c11 fun n12 => castNil l11 (f c1 n3 n5 n7 c8 n10 n12 h)
noncomputable def B27_5 (lf : Nat) (cv : CallVS) (self : V → Int → Int → Int → V → Bool → Bool → List Ob → SubR) (data : V) (a : Int) (b : Int) (limit : Int) (cmp : V) (wasBalanced : Bool) (wasPartitioned : Bool) (h : List Ob) : SubR :=
cB (decide ((IntKind.i64.wrap (b - a)) ≤ (12))) (
bind2 (F32 lf cv data a b cmp h) fun x30 h_ =>
some (.ret, [], h_)) (
cB (limit == (0)) (
none) (
bind3 (S27_4 lf cv data a b limit cmp wasBalanced h) fun ex vs h_ =>
cB (decide (ex = .normal)) (
castCons vs fun c l =>
castInt .i64 c fun limit1 =>
castNil l (
none)) (
none)))
noncomputable def L27_5 (lf : Nat) (cv : CallVS) : Nat → V → Int → Int → Int → V → Bool → Bool → List Ob → SubR
  | 0 => fun _ _ _ _ _ _ _ _ => none
  | n + 1 => B27_5 lf cv (L27_5 lf cv n)
theorem B27_5_eq (lf : Nat) (cv : CallVS) (self : V → Int → Int → Int → V → Bool → Bool → List Ob → SubR) (data : V) (a : Int) (b : Int) (limit : Int) (cmp : V) (wasBalanced : Bool) (wasPartitioned : Bool) (h : List Ob) : evCK A27 ⟨call27 lf cv, cv, subC 1 (w27_1 (S27_1 lf cv)) (subC 2 (w27_2 (S27_2 lf cv)) (subC 3 (w27_3 (S27_3 lf cv)) (subC 4 (w27_4 (S27_4 lf cv)) (subN))))⟩ k27_5 [(0, data), (1, (.int .i64 a)), (2, (.int .i64 b)), (3, (.int .i64 limit)), (4, cmp), (10, (.bool wasBalanced)), (11, (.bool wasPartitioned))] h (endL [0, 1, 2, 3, 4, 10, 11] [.any, (.int .i64), (.int .i64), (.int .i64), .any, .bool, .bool] o27_5 (w27_5 self)) = B27_5 lf cv self data a b limit cmp wasBalanced wasPartitioned h := by kernel_rfl
theorem L27_5_ok (lf : Nat) (cv : CallVS) (hcv : CvOk Go.Proofs.Tryd.prog cv) : ∀ n, SubOk Go.Proofs.Tryd.prog (.loop k27_5.er) [0, 1, 2, 3, 4, 10, 11] o27_5 (w27_5 (L27_5 lf cv n)) := by
  refine SubOk.loop (A := A27) (σ := ⟨call27 lf cv, cv, subC 1 (w27_1 (S27_1 lf cv)) (subC 2 (w27_2 (S27_2 lf cv)) (subC 3 (w27_3 (S27_3 lf cv)) (subC 4 (w27_4 (S27_4 lf cv)) (subN))))⟩) (c := k27_5) (shs := [.any, (.int .i64), (.int .i64), (.int .i64), .any, .bool, .bool]) (G := fun n => w27_5 (L27_5 lf cv n)) (call27_ok lf cv hcv) hcv (And.intro True.intro (And.intro (And.intro True.intro (And.intro (And.intro True.intro True.intro) True.intro)) (And.intro (And.intro True.intro (And.intro (And.intro True.intro True.intro) True.intro)) (And.intro (S27_4_ok lf cv hcv) (And.intro True.intro (And.intro (S27_3_ok lf cv hcv) (And.intro (S27_2_ok lf cv hcv) (And.intro (And.intro (S27_1_ok lf cv hcv) (And.intro (And.intro True.intro (And.intro True.intro True.intro)) True.intro)) (And.intro True.intro (And.intro True.intro (And.intro True.intro (And.intro True.intro (And.intro True.intro (And.intro (And.intro True.intro (And.intro True.intro True.intro)) (And.intro True.intro (And.intro True.intro True.intro)))))))))))))))) ?_ ?_
  · intro vs h r e0
    simp only [w27_5] at e0
    obtain ⟨c1, l1, rfl, e1⟩ := castCons_inv e0
    obtain ⟨c2, l2, rfl, e2⟩ := castCons_inv e1
    obtain ⟨y1, rfl, e3⟩ := castInt_inv e2
    obtain ⟨c3, l3, rfl, e4⟩ := castCons_inv e3
    obtain ⟨y2, rfl, e5⟩ := castInt_inv e4
    obtain ⟨c4, l4, rfl, e6⟩ := castCons_inv e5
    obtain ⟨y3, rfl, e7⟩ := castInt_inv e6
    obtain ⟨c5, l5, rfl, e8⟩ := castCons_inv e7
    obtain ⟨c6, l6, rfl, e9⟩ := castCons_inv e8
    obtain ⟨y5, rfl, e10⟩ := castBool_inv e9
    obtain ⟨c7, l7, rfl, e11⟩ := castCons_inv e10
    obtain ⟨y6, rfl, e12⟩ := castBool_inv e11
    obtain ⟨rfl, e13⟩ := castNil_inv e12
    have e := e13
    cases e
  · intro n vs h r e0
    simp only [w27_5] at e0
    obtain ⟨c1, l1, rfl, e1⟩ := castCons_inv e0
    obtain ⟨c2, l2, rfl, e2⟩ := castCons_inv e1
    obtain ⟨y1, rfl, e3⟩ := castInt_inv e2
    obtain ⟨c3, l3, rfl, e4⟩ := castCons_inv e3
    obtain ⟨y2, rfl, e5⟩ := castInt_inv e4
    obtain ⟨c4, l4, rfl, e6⟩ := castCons_inv e5
    obtain ⟨y3, rfl, e7⟩ := castInt_inv e6
    obtain ⟨c5, l5, rfl, e8⟩ := castCons_inv e7
    obtain ⟨c6, l6, rfl, e9⟩ := castCons_inv e8
    obtain ⟨y5, rfl, e10⟩ := castBool_inv e9
    obtain ⟨c7, l7, rfl, e11⟩ := castCons_inv e10
    obtain ⟨y6, rfl, e12⟩ := castBool_inv e11
    obtain ⟨rfl, e13⟩ := castNil_inv e12
    have e := e13
    exact (B27_5_eq lf cv (L27_5 lf cv n) c1 y1 y2 y3 c5 y5 y6 h).trans e
def k27 : KC := (.seq (.reg [⟨(some 10), none, (.op (.mv (.c (.bool true)))), []⟩]) (.seq (.reg [⟨(some 11), none, (.op (.mv (.c (.bool true)))), []⟩]) (.block 0 (.sub 5 (.loop k27_5.er) [0, 1, 2, 3, 4, 10, 11] o27_5))))
noncomputable def F27 (lf : Nat) (cv : CallVS) (data : V) (a : Int) (b : Int) (limit : Int) (cmp : V) (h : List Ob) : Option (V × List Ob) :=
bind3 (L27_5 lf cv lf data a b limit cmp true true h) fun ex vs h_ =>
cB (decide (ex = .ret)) (
castNil vs (
some ((.tup []), h_))) (
none)
theorem F27_eq (lf : Nat) (cv : CallVS) (data : V) (a : Int) (b : Int) (limit : Int) (cmp : V) (h : List Ob) : evCK A27 ⟨call27 lf cv, cv, subC 5 (w27_5 (L27_5 lf cv lf)) (subN)⟩ k27 (entryK [data, (.int .i64 a), (.int .i64 b), (.int .i64 limit), cmp]) h (endF c27.res) = F27 lf cv data a b limit cmp h := by kernel_rfl
theorem F27_ok (lf : Nat) (cv : CallVS) (hcv : CvOk Go.Proofs.Tryd.prog cv) (data : V) (a : Int) (b : Int) (limit : Int) (cmp : V) (h : List Ob) (r_ : V) (h_r : List Ob) (e_ : F27 lf cv data a b limit cmp h = some (r_, h_r)) : CD Go.Proofs.Tryd.prog 27 [data, (.int .i64 a), (.int .i64 b), (.int .i64 limit), cmp] h r_ h_r :=
  CD.ofK (A := A27) (σ := ⟨call27 lf cv, cv, subC 5 (w27_5 (L27_5 lf cv lf)) (subN)⟩) (c := k27) Go.Proofs.Tryd.func27 ok27 en27 (show 5 ≤ 148 by decide) (by kernel_rfl) (call27_ok lf cv hcv) hcv (And.intro True.intro (And.intro True.intro (L27_5_ok lf cv hcv lf))) ((F27_eq lf cv data a b limit cmp h).trans e_)
def w27 (f : V → Int → Int → Int → V → List Ob → Option (V × List Ob)) (vs : List V) (h : List Ob) : Option (V × List Ob) := castCons vs fun c1 l1 => castCons l1 fun c2 l2 => castInt .i64 c2 fun n3 => castCons l2 fun c4 l4 => castInt .i64 c4 fun n5 => castCons l4 fun c6 l6 => castInt .i64 c6 fun n7 => castCons l6 fun c8 l8 => castNil l8 (f c1 n3 n5 n7 c8 h)
noncomputable def W27 (lf : Nat) (cv : CallVS) : List V → List Ob → Option (V × List Ob) := w27 (F27 lf cv)
theorem W27_ok (lf : Nat) (cv : CallVS) (hcv : CvOk Go.Proofs.Tryd.prog cv) : ∀ args h v h', W27 lf cv args h = some (v, h') → CD Go.Proofs.Tryd.prog 27 args h v h' := by
  intro vs h r h' e0
  simp only [W27, w27] at e0
  obtain ⟨c1, l1, rfl, e1⟩ := castCons_inv e0
  obtain ⟨c2, l2, rfl, e2⟩ := castCons_inv e1
  obtain ⟨y1, rfl, e3⟩ := castInt_inv e2
  obtain ⟨c3, l3, rfl, e4⟩ := castCons_inv e3
  obtain ⟨y2, rfl, e5⟩ := castInt_inv e4
  obtain ⟨c4, l4, rfl, e6⟩ := castCons_inv e5
  obtain ⟨y3, rfl, e7⟩ := castInt_inv e6
  obtain ⟨c5, l5, rfl, e8⟩ := castCons_inv e7
  obtain ⟨rfl, e9⟩ := castNil_inv e8
  have e := e9
  exact F27_ok lf cv hcv c1 y1 y2 y3 c5 h r h' e

/-! 41: math/bits.Len64 -/
def A41 : List (Nat × Sh) := [(0, (.int .u64)), (2, (.int .i64)), (3, (.int .u64)), (4, .bool), (5, (.int .u64)), (6, (.int .u64)), (7, (.int .u64)), (8, .bool), (9, (.int .u64)), (10, (.int .u64)), (11, (.int .i64)), (12, (.int .i64)), (13, (.int .u64)), (14, .bool), (15, (.int .u64)), (16, (.int .u64)), (17, (.int .i64)), (18, (.int .i64)), (19, (.int .i64)), (20, (.int .u64)), (21, (.int .u8)), (22, (.int .u8)), (23, (.int .i64)), (24, (.int .i64))]
noncomputable def call41 (lf : Nat) : CallS := callN
theorem call41_ok (lf : Nat) : CallOk Go.Proofs.Tryd.prog (call41 lf) := callN_ok
def o41_0 : Outs := [(.normal, [0, 2], [(.int .u64), (.int .i64)])]
def k41_0 : KC := (.seq (.reg [⟨(some 7), none, (.op (.mv (.t 0))), []⟩, ⟨(some 8), none, (.op (.bin .geq (.t 7) (.c (.int .u64 65536)))), []⟩]) (.cond (.t 8) (.seq (.reg [⟨(some 9), none, (.op (.mv (.t 0))), []⟩, ⟨(some 10), none, (.op (.bin .shr (.t 9) (.c (.int .u64 16)))), []⟩, ⟨(some 0), none, (.op (.mv (.t 10))), []⟩]) (.reg [⟨(some 11), none, (.op (.mv (.t 2))), []⟩, ⟨(some 12), none, (.op (.bin .add (.t 11) (.c (.int .i64 16)))), []⟩, ⟨(some 2), none, (.op (.mv (.t 12))), []⟩])) .skip))
def w41_0 (f : Int → Int → List Ob → SubR) (vs : List V) (h : List Ob) : SubR := castCons vs fun c1 l1 => castInt .u64 c1 fun n2 => castCons l1 fun c3 l3 => castInt .i64 c3 fun n4 => castNil l3 (f n2 n4 h)
noncomputable def S41_0 (lf : Nat) (x : Int) (n_ : Int) (h : List Ob) : SubR :=
cB (decide (x ≥ (65536))) (
some (.normal, [(.int .u64 (Int.fdiv x (2 ^ 16))), (.int .i64 (IntKind.i64.wrap (n_ + (16))))], h)) (
some (.normal, [(.int .u64 x), (.int .i64 n_)], h))
theorem S41_0_eq (lf : Nat) (x : Int) (n_ : Int) (h : List Ob) : evCK A41 ⟨call41 lf, cvN, subN⟩ k41_0 [(0, (.int .u64 x)), (2, (.int .i64 n_))] h (endK o41_0) = S41_0 lf x n_ h := by kernel_rfl
theorem S41_0_ok (lf : Nat) : SubOk Go.Proofs.Tryd.prog k41_0.er [0, 2] o41_0 (w41_0 (S41_0 lf)) := by
  refine SubOk.of (A := A41) (σ := ⟨call41 lf, cvN, subN⟩) (c := k41_0) (call41_ok lf) cvN_ok (And.intro True.intro (And.intro (And.intro True.intro True.intro) True.intro)) ?_
  intro vs h r e0
  simp only [w41_0] at e0
  obtain ⟨c1, l1, rfl, e1⟩ := castCons_inv e0
  obtain ⟨y0, rfl, e2⟩ := castInt_inv e1
  obtain ⟨c2, l2, rfl, e3⟩ := castCons_inv e2
  obtain ⟨y1, rfl, e4⟩ := castInt_inv e3
  obtain ⟨rfl, e5⟩ := castNil_inv e4
  have e := e5
  exact (S41_0_eq lf y0 y1 h).trans e
def o41_1 : Outs := [(.normal, [0, 2], [(.int .u64), (.int .i64)])]
def k41_1 : KC := (.seq (.reg [⟨(some 3), none, (.op (.mv (.t 0))), []⟩, ⟨(some 4), none, (.op (.bin .geq (.t 3) (.c (.int .u64 4294967296)))), []⟩]) (.cond (.t 4) (.seq (.reg [⟨(some 5), none, (.op (.mv (.t 0))), []⟩, ⟨(some 6), none, (.op (.bin .shr (.t 5) (.c (.int .u64 32)))), []⟩, ⟨(some 0), none, (.op (.mv (.t 6))), []⟩]) (.reg [⟨(some 2), none, (.op (.mv (.c (.int .i64 32)))), []⟩])) .skip))
def w41_1 (f : Int → Int → List Ob → SubR) (vs : List V) (h : List Ob) : SubR := castCons vs fun c1 l1 => castInt .u64 c1 fun n2 => castCons l1 fun c3 l3 => castInt .i64 c3 fun n4 => castNil l3 (f n2 n4 h)
noncomputable def S41_1 (lf : Nat) (x : Int) (n_ : Int) (h : List Ob) : SubR :=
cB (decide (x ≥ (4294967296))) (
some (.normal, [(.int .u64 (Int.fdiv x (2 ^ 32))), (.int .i64 (32))], h)) (
some (.normal, [(.int .u64 x), (.int .i64 n_)], h))
theorem S41_1_eq (lf : Nat) (x : Int) (n_ : Int) (h : List Ob) : evCK A41 ⟨call41 lf, cvN, subN⟩ k41_1 [(0, (.int .u64 x)), (2, (.int .i64 n_))] h (endK o41_1) = S41_1 lf x n_ h := by kernel_rfl
theorem S41_1_ok (lf : Nat) : SubOk Go.Proofs.Tryd.prog k41_1.er [0, 2] o41_1 (w41_1 (S41_1 lf)) := by
  refine SubOk.of (A := A41) (σ := ⟨call41 lf, cvN, subN⟩) (c := k41_1) (call41_ok lf) cvN_ok (And.intro True.intro (And.intro (And.intro True.intro True.intro) True.intro)) ?_
  intro vs h r e0
  simp only [w41_1] at e0
  obtain ⟨c1, l1, rfl, e1⟩ := castCons_inv e0
  obtain ⟨y0, rfl, e2⟩ := castInt_inv e1
  obtain ⟨c2, l2, rfl, e3⟩ := castCons_inv e2
  obtain ⟨y1, rfl, e4⟩ := castInt_inv e3
  obtain ⟨rfl, e5⟩ := castNil_inv e4
  have e := e5
  exact (S41_1_eq lf y0 y1 h).trans e
def k41 : KC := (.seq (.reg [⟨(some 2), none, (.op (.mv (.c (.int .i64 0)))), []⟩]) (.seq (.sub 1 k41_1.er [0, 2] o41_1) (.seq (.sub 0 k41_0.er [0, 2] o41_0) (.seq (.seq (.reg [⟨(some 13), none, (.op (.mv (.t 0))), []⟩, ⟨(some 14), none, (.op (.bin .geq (.t 13) (.c (.int .u64 256)))), []⟩]) (.cond (.t 14) (.seq (.reg [⟨(some 15), none, (.op (.mv (.t 0))), []⟩, ⟨(some 16), none, (.op (.bin .shr (.t 15) (.c (.int .u64 8)))), []⟩, ⟨(some 0), none, (.op (.mv (.t 16))), []⟩]) (.reg [⟨(some 17), none, (.op (.mv (.t 2))), []⟩, ⟨(some 18), none, (.op (.bin .add (.t 17) (.c (.int .i64 8)))), []⟩, ⟨(some 2), none, (.op (.mv (.t 18))), []⟩])) .skip)) (.seq (.reg [⟨(some 19), none, (.op (.mv (.t 2))), []⟩, ⟨(some 20), none, (.op (.mv (.t 0))), []⟩, ⟨(some 21), none, (.op (.toInt .u8 (.t 20))), []⟩, ⟨(some 22), none, (.op (.idxS (.c (.str [0, 1, 2, 2, 3, 3, 3, 3, 4, 4, 4, 4, 4, 4, 4, 4, 5, 5, 5, 5, 5, 5, 5, 5, 5, 5, 5, 5, 5, 5, 5, 5, 6, 6, 6, 6, 6, 6, 6, 6, 6, 6, 6, 6, 6, 6, 6, 6, 6, 6, 6, 6, 6, 6, 6, 6, 6, 6, 6, 6, 6, 6, 6, 6, 7, 7, 7, 7, 7, 7, 7, 7, 7, 7, 7, 7, 7, 7, 7, 7, 7, 7, 7, 7, 7, 7, 7, 7, 7, 7, 7, 7, 7, 7, 7, 7, 7, 7, 7, 7, 7, 7, 7, 7, 7, 7, 7, 7, 7, 7, 7, 7, 7, 7, 7, 7, 7, 7, 7, 7, 7, 7, 7, 7, 7, 7, 7, 7, 8, 8, 8, 8, 8, 8, 8, 8, 8, 8, 8, 8, 8, 8, 8, 8, 8, 8, 8, 8, 8, 8, 8, 8, 8, 8, 8, 8, 8, 8, 8, 8, 8, 8, 8, 8, 8, 8, 8, 8, 8, 8, 8, 8, 8, 8, 8, 8, 8, 8, 8, 8, 8, 8, 8, 8, 8, 8, 8, 8, 8, 8, 8, 8, 8, 8, 8, 8, 8, 8, 8, 8, 8, 8, 8, 8, 8, 8, 8, 8, 8, 8, 8, 8, 8, 8, 8, 8, 8, 8, 8, 8, 8, 8, 8, 8, 8, 8, 8, 8, 8, 8, 8, 8, 8, 8, 8, 8, 8, 8, 8, 8, 8, 8, 8, 8, 8, 8, 8, 8, 8, 8, 8, 8, 8, 8, 8, 8])) (.t 21))), []⟩, ⟨(some 23), none, (.op (.toInt .i64 (.t 22))), []⟩, ⟨(some 24), none, (.op (.bin .add (.t 19) (.t 23))), []⟩, ⟨(some 2), none, (.op (.mv (.t 24))), []⟩]) .ret)))))
noncomputable def F41 (lf : Nat) (x : Int) (h : List Ob) : Option (V × List Ob) :=
bind3 (S41_1 lf x (0) h) fun ex vs h_ =>
cB (decide (ex = .normal)) (
castCons vs fun c l =>
castInt .u64 c fun x1 =>
castCons l fun c1 l1 =>
castInt .i64 c1 fun n_ =>
castNil l1 (
bind3 (S41_0 lf x1 n_ h_) fun ex1 vs1 h_1 =>
cB (decide (ex1 = .normal)) (
castCons vs1 fun c2 l2 =>
castInt .u64 c2 fun x2 =>
castCons l2 fun c3 l3 =>
castInt .i64 c3 fun n_1 =>
castNil l3 (
cB (decide (x2 ≥ (256))) (
bind1 (er (.idxS (.c (.str [0, 1, 2, 2, 3, 3, 3, 3, 4, 4, 4, 4, 4, 4, 4, 4, 5, 5, 5, 5, 5, 5, 5, 5, 5, 5, 5, 5, 5, 5, 5, 5, 6, 6, 6, 6, 6, 6, 6, 6, 6, 6, 6, 6, 6, 6, 6, 6, 6, 6, 6, 6, 6, 6, 6, 6, 6, 6, 6, 6, 6, 6, 6, 6, 7, 7, 7, 7, 7, 7, 7, 7, 7, 7, 7, 7, 7, 7, 7, 7, 7, 7, 7, 7, 7, 7, 7, 7, 7, 7, 7, 7, 7, 7, 7, 7, 7, 7, 7, 7, 7, 7, 7, 7, 7, 7, 7, 7, 7, 7, 7, 7, 7, 7, 7, 7, 7, 7, 7, 7, 7, 7, 7, 7, 7, 7, 7, 7, 8, 8, 8, 8, 8, 8, 8, 8, 8, 8, 8, 8, 8, 8, 8, 8, 8, 8, 8, 8, 8, 8, 8, 8, 8, 8, 8, 8, 8, 8, 8, 8, 8, 8, 8, 8, 8, 8, 8, 8, 8, 8, 8, 8, 8, 8, 8, 8, 8, 8, 8, 8, 8, 8, 8, 8, 8, 8, 8, 8, 8, 8, 8, 8, 8, 8, 8, 8, 8, 8, 8, 8, 8, 8, 8, 8, 8, 8, 8, 8, 8, 8, 8, 8, 8, 8, 8, 8, 8, 8, 8, 8, 8, 8, 8, 8, 8, 8, 8, 8, 8, 8, 8, 8, 8, 8, 8, 8, 8, 8, 8, 8, 8, 8, 8, 8, 8, 8, 8, 8, 8, 8, 8, 8, 8, 8, 8, 8])) (.c (.int .u8 (IntKind.u8.wrap (Int.fdiv x2 (2 ^ 8)))))) h_1) fun v =>
castInt .u8 v fun x22 =>
some ((.int .i64 (IntKind.i64.wrap ((IntKind.i64.wrap (n_1 + (8))) + (IntKind.i64.wrap x22)))), h_1)) (
bind1 (er (.idxS (.c (.str [0, 1, 2, 2, 3, 3, 3, 3, 4, 4, 4, 4, 4, 4, 4, 4, 5, 5, 5, 5, 5, 5, 5, 5, 5, 5, 5, 5, 5, 5, 5, 5, 6, 6, 6, 6, 6, 6, 6, 6, 6, 6, 6, 6, 6, 6, 6, 6, 6, 6, 6, 6, 6, 6, 6, 6, 6, 6, 6, 6, 6, 6, 6, 6, 7, 7, 7, 7, 7, 7, 7, 7, 7, 7, 7, 7, 7, 7, 7, 7, 7, 7, 7, 7, 7, 7, 7, 7, 7, 7, 7, 7, 7, 7, 7, 7, 7, 7, 7, 7, 7, 7, 7, 7, 7, 7, 7, 7, 7, 7, 7, 7, 7, 7, 7, 7, 7, 7, 7, 7, 7, 7, 7, 7, 7, 7, 7, 7, 8, 8, 8, 8, 8, 8, 8, 8, 8, 8, 8, 8, 8, 8, 8, 8, 8, 8, 8, 8, 8, 8, 8, 8, 8, 8, 8, 8, 8, 8, 8, 8, 8, 8, 8, 8, 8, 8, 8, 8, 8, 8, 8, 8, 8, 8, 8, 8, 8, 8, 8, 8, 8, 8, 8, 8, 8, 8, 8, 8, 8, 8, 8, 8, 8, 8, 8, 8, 8, 8, 8, 8, 8, 8, 8, 8, 8, 8, 8, 8, 8, 8, 8, 8, 8, 8, 8, 8, 8, 8, 8, 8, 8, 8, 8, 8, 8, 8, 8, 8, 8, 8, 8, 8, 8, 8, 8, 8, 8, 8, 8, 8, 8, 8, 8, 8, 8, 8, 8, 8, 8, 8, 8, 8, 8, 8, 8, 8])) (.c (.int .u8 (IntKind.u8.wrap x2)))) h_1) fun v =>
castInt .u8 v fun x22 =>
some ((.int .i64 (IntKind.i64.wrap (n_1 + (IntKind.i64.wrap x22)))), h_1)))) (
none))) (
none)
theorem F41_eq (lf : Nat) (x : Int) (h : List Ob) : evCK A41 ⟨call41 lf, cvN, subC 0 (w41_0 (S41_0 lf)) (subC 1 (w41_1 (S41_1 lf)) (subN))⟩ k41 (entryK [(.int .u64 x)]) h (endF c41.res) = F41 lf x h := by kernel_rfl
theorem F41_ok (lf : Nat) (x : Int) (h : List Ob) (r_ : V) (h_r : List Ob) (e_ : F41 lf x h = some (r_, h_r)) : CD Go.Proofs.Tryd.prog 41 [(.int .u64 x)] h r_ h_r :=
  CD.ofK (A := A41) (σ := ⟨call41 lf, cvN, subC 0 (w41_0 (S41_0 lf)) (subC 1 (w41_1 (S41_1 lf)) (subN))⟩) (c := k41) Go.Proofs.Tryd.func41 ok41 en41 (show 1 ≤ 25 by decide) (by kernel_rfl) (call41_ok lf) cvN_ok (And.intro True.intro (And.intro (S41_1_ok lf) (And.intro (S41_0_ok lf) (And.intro (And.intro True.intro (And.intro (And.intro True.intro True.intro) True.intro)) (And.intro True.intro True.intro))))) ((F41_eq lf x h).trans e_)
def w41 (f : Int → List Ob → Option (V × List Ob)) (vs : List V) (h : List Ob) : Option (V × List Ob) := castCons vs fun c1 l1 => castInt .u64 c1 fun n2 => castNil l1 (f n2 h)
noncomputable def W41 (lf : Nat) : List V → List Ob → Option (V × List Ob) := w41 (F41 lf)
theorem W41_ok (lf : Nat) : ∀ args h v h', W41 lf args h = some (v, h') → CD Go.Proofs.Tryd.prog 41 args h v h' := by
  intro vs h r h' e0
  simp only [W41, w41] at e0
  obtain ⟨c1, l1, rfl, e1⟩ := castCons_inv e0
  obtain ⟨y0, rfl, e2⟩ := castInt_inv e1
  obtain ⟨rfl, e3⟩ := castNil_inv e2
  have e := e3
  exact F41_ok lf y0 h r h' e

/-! 28: math/bits.Len -/
def A28 : List (Nat × Sh) := [(0, (.int .u64)), (2, (.int .i64)), (3, (.int .u64)), (4, (.int .u32)), (5, (.int .i64)), (6, (.int .u64)), (7, (.int .i64))]
noncomputable def call28 (lf : Nat) : CallS := callC 41 (W41 lf) (callN)
theorem call28_ok (lf : Nat) : CallOk Go.Proofs.Tryd.prog (call28 lf) := callC_ok (W41_ok lf) (callN_ok)
def k28 : KC := (.seq (.reg [⟨(some 2), none, (.op (.mv (.c (.int .i64 0)))), []⟩]) (.seq (.cond (.c (.bool false)) (.seq (.reg [⟨(some 3), none, (.op (.mv (.t 0))), []⟩, ⟨(some 4), none, (.op (.toInt .u32 (.t 3))), []⟩, ⟨(some 5), none, (.call 40 [(.t 4)]), []⟩, ⟨(some 2), none, (.op (.mv (.t 5))), []⟩]) .ret) .skip) (.seq (.reg [⟨(some 6), none, (.op (.mv (.t 0))), []⟩, ⟨(some 7), none, (.call 41 [(.t 6)]), []⟩, ⟨(some 2), none, (.op (.mv (.t 7))), []⟩]) .ret)))
noncomputable def F28 (lf : Nat) (x : Int) (h : List Ob) : Option (V × List Ob) :=
bind2 (F41 lf x h) fun v h_ =>
castInt .i64 v fun x7 =>
some ((.int .i64 x7), h_)
theorem F28_eq (lf : Nat) (x : Int) (h : List Ob) : evCK A28 ⟨call28 lf, cvN, subN⟩ k28 (entryK [(.int .u64 x)]) h (endF c28.res) = F28 lf x h := by kernel_rfl
theorem F28_ok (lf : Nat) (x : Int) (h : List Ob) (r_ : V) (h_r : List Ob) (e_ : F28 lf x h = some (r_, h_r)) : CD Go.Proofs.Tryd.prog 28 [(.int .u64 x)] h r_ h_r :=
  CD.ofK (A := A28) (σ := ⟨call28 lf, cvN, subN⟩) (c := k28) Go.Proofs.Tryd.func28 ok28 en28 (show 1 ≤ 8 by decide) (by kernel_rfl) (call28_ok lf) cvN_ok (And.intro True.intro (And.intro (And.intro (And.intro True.intro True.intro) True.intro) (And.intro True.intro True.intro))) ((F28_eq lf x h).trans e_)
def w28 (f : Int → List Ob → Option (V × List Ob)) (vs : List V) (h : List Ob) : Option (V × List Ob) := castCons vs fun c1 l1 => castInt .u64 c1 fun n2 => castNil l1 (f n2 h)
noncomputable def W28 (lf : Nat) : List V → List Ob → Option (V × List Ob) := w28 (F28 lf)
theorem W28_ok (lf : Nat) : ∀ args h v h', W28 lf args h = some (v, h') → CD Go.Proofs.Tryd.prog 28 args h v h' := by
  intro vs h r h' e0
  simp only [W28, w28] at e0
  obtain ⟨c1, l1, rfl, e1⟩ := castCons_inv e0
  obtain ⟨y0, rfl, e2⟩ := castInt_inv e1
  obtain ⟨rfl, e3⟩ := castNil_inv e2
  have e := e3
  exact F28_ok lf y0 h r h' e

/-! 19: slices.SortFunc[[]wainscot/bag.Entry,wainscot/bag.Entry] -/
def A19 : List (Nat × Sh) := [(4, (.int .i64)), (6, (.int .i64)), (8, (.int .i64)), (9, (.int .i64)), (10, (.int .u64)), (11, (.int .i64))]
noncomputable def call19 (lf : Nat) (cv : CallVS) : CallS := callC 28 (W28 lf) (callC 27 (W27 lf cv) (callN))
theorem call19_ok (lf : Nat) (cv : CallVS) (hcv : CvOk Go.Proofs.Tryd.prog cv) : CallOk Go.Proofs.Tryd.prog (call19 lf cv) := callC_ok (W28_ok lf) (callC_ok (W27_ok lf cv hcv) (callN_ok))
def k19 : KC := (.seq (.reg [⟨(some 5), none, (.op (.mv (.t 0))), []⟩, ⟨(some 6), none, (.op (.lenL (.t 5))), []⟩, ⟨(some 4), none, (.op (.mv (.t 6))), []⟩]) (.reg [⟨(some 7), none, (.op (.mv (.t 0))), []⟩, ⟨(some 8), none, (.op (.mv (.t 4))), []⟩, ⟨(some 9), none, (.op (.mv (.t 4))), []⟩, ⟨(some 10), none, (.op (.toInt .u64 (.t 9))), []⟩, ⟨(some 11), none, (.call 28 [(.t 10)]), []⟩, ⟨(some 12), none, (.op (.mv (.t 1))), []⟩, ⟨(some 13), none, (.call 27 [(.t 7), (.c (.int .i64 0)), (.t 8), (.t 11), (.t 12)]), []⟩]))
noncomputable def F19 (lf : Nat) (cv : CallVS) (x : V) (cmp : V) (h : List Ob) : Option (V × List Ob) :=
bind1 (er (.lenL (.c x)) h) fun v =>
castInt .i64 v fun x6 =>
bind2 (F28 lf (IntKind.u64.wrap x6) h) fun v1 h_ =>
castInt .i64 v1 fun x11 =>
bind2 (F27 lf cv x (0) x6 x11 cmp h_) fun x13 h_1 =>
some ((.tup []), h_1)
theorem F19_eq (lf : Nat) (cv : CallVS) (x : V) (cmp : V) (h : List Ob) : evCK A19 ⟨call19 lf cv, cv, subN⟩ k19 (entryK [x, cmp]) h (endF c19.res) = F19 lf cv x cmp h := by kernel_rfl
theorem F19_ok (lf : Nat) (cv : CallVS) (hcv : CvOk Go.Proofs.Tryd.prog cv) (x : V) (cmp : V) (h : List Ob) (r_ : V) (h_r : List Ob) (e_ : F19 lf cv x cmp h = some (r_, h_r)) : CD Go.Proofs.Tryd.prog 19 [x, cmp] h r_ h_r :=
  CD.ofK (A := A19) (σ := ⟨call19 lf cv, cv, subN⟩) (c := k19) Go.Proofs.Tryd.func19 ok19 en19 (show 2 ≤ 14 by decide) (by kernel_rfl) (call19_ok lf cv hcv) hcv (And.intro True.intro True.intro) ((F19_eq lf cv x cmp h).trans e_)
def w19 (f : V → V → List Ob → Option (V × List Ob)) (vs : List V) (h : List Ob) : Option (V × List Ob) := castCons vs fun c1 l1 => castCons l1 fun c2 l2 => castNil l2 (f c1 c2 h)
noncomputable def W19 (lf : Nat) (cv : CallVS) : List V → List Ob → Option (V × List Ob) := w19 (F19 lf cv)
theorem W19_ok (lf : Nat) (cv : CallVS) (hcv : CvOk Go.Proofs.Tryd.prog cv) : ∀ args h v h', W19 lf cv args h = some (v, h') → CD Go.Proofs.Tryd.prog 19 args h v h' := by
  intro vs h r h' e0
  simp only [W19, w19] at e0
  obtain ⟨c1, l1, rfl, e1⟩ := castCons_inv e0
  obtain ⟨c2, l2, rfl, e2⟩ := castCons_inv e1
  obtain ⟨rfl, e3⟩ := castNil_inv e2
  have e := e3
  exact F19_ok lf cv hcv c1 c2 h r h' e

/-! 9: (*wainscot/bag.Bag).Entries -/
def A9 : List (Nat × Sh) := [(7, .bool), (14, .bool), (16, (.agg [.any, (.int .i64)])), (22, (.int .i64)), (23, (.agg [.any, (.int .i64)]))]
noncomputable def cv9 (lf : Nat) : CallVS := cvN
theorem cv9_ok (lf : Nat) : CvOk Go.Proofs.Tryd.prog (cv9 lf) := cvN_ok
noncomputable def call9 (lf : Nat) : CallS := callC 19 (W19 lf (cv9 lf)) (callC 15 (W15 lf) (callN))
theorem call9_ok (lf : Nat) : CallOk Go.Proofs.Tryd.prog (call9 lf) := callC_ok (W19_ok lf (cv9 lf) (cv9_ok lf)) (callC_ok (W15_ok lf) (callN_ok))
def o9_0 : Outs := [((.exit 0), [3], [.any])]
def k9_0 : KC := (.seq (.reg [⟨(some 13), none, (.nextM (.t 12)), []⟩, ⟨(some 14), none, (.op (.ext 0 (.t 13))), []⟩]) (.seq (.cond (.t 14) .skip (.exit 0)) (.block 1 (.seq (.reg [⟨(some 15), none, (.op (.entry (.t 12))), []⟩, ⟨(some 16), none, (.op (.ext 1 (.t 15))), []⟩, ⟨(some 5), none, (.op (.alloc false (.agg [.nils, (.int .i64 0)]))), []⟩, ⟨none, none, (.op (.store 2 (.t 5) (.t 16))), []⟩]) (.reg [⟨(some 17), none, (.op (.mv (.t 3))), []⟩, ⟨(some 18), none, (.op (.faddr 0 (.t 5))), []⟩, ⟨(some 19), none, (.op (.load1 (.t 18))), []⟩, ⟨(some 21), none, (.op (.faddr 1 (.t 5))), []⟩, ⟨(some 22), none, (.op (.load1 (.t 21))), []⟩, ⟨(some 20), none, (.call 15 [(.t 19)]), [⟨(some 22), none, (.op (.load1 (.t 21)))⟩, ⟨(some 21), none, (.op (.faddr 1 (.t 5)))⟩]⟩, ⟨(some 23), none, (.op (.build [.nils, (.int .i64 0)] [(0, (1, (.t 20))), (1, (1, (.t 22)))])), []⟩, ⟨(some 24), none, (.op (.bslice 2 (.agg [.nils, (.int .i64 0)]) 1 [(0, (.t 23))])), []⟩, ⟨(some 25), none, (.op (.app 2 32 (.t 17) (.t 24))), []⟩, ⟨(some 3), none, (.op (.mv (.t 25))), []⟩])))))
def w9_0 (f : V → V → List Ob → SubR) (vs : List V) (h : List Ob) : SubR := castCons vs fun c1 l1 => castCons l1 fun c2 l2 => castNil l2 (f c1 c2 h)
noncomputable def B9_0 (lf : Nat) (self : V → V → List Ob → SubR) (list : V) (x12 : V) (h : List Ob) : SubR :=
one2 (evNextM h x12) fun v h_ =>
bind1 (er (.ext 0 (.c v)) h_) fun v1 =>
castBool v1 fun x14 =>
cB x14 (
bind1 (er (.entry (.c x12)) h_) fun x15 =>
bind1 (er (.ext 1 (.c x15)) h_) fun v2 =>
castAgg v2 fun l =>
castCons l fun x16_0 l1 =>
castCons l1 fun c l2 =>
castInt .i64 c fun x16_1 =>
castNil l2 (
bind2 (ev (.alloc false (.agg [.nils, (.int .i64 0)])) h_) fun e h_1 =>
bind2 (ev (.store 2 (.c e) (.c (.agg [x16_0, (.int .i64 x16_1)]))) h_1) fun u h_2 =>
bind1 (er (.faddr 0 (.c e)) h_2) fun x18 =>
bind1 (er (.load1 (.c x18)) h_2) fun x19 =>
bind1 (er (.faddr 1 (.c e)) h_2) fun x21 =>
bind1 (er (.load1 (.c x21)) h_2) fun v3 =>
castInt .i64 v3 fun x22 =>
bind2 (F15 lf x19 h_2) fun x20 h_3 =>
reP (er (.load1 (.c x21)) h_3 = some (.int .i64 x22)) (
reP (er (.faddr 1 (.c e)) h_3 = some x21) (
bind1 (er (.build [.nils, (.int .i64 0)] [(0, (1, (.c x20))), (1, (1, (.c (.int .i64 x22))))]) h_3) fun v4 =>
castAgg v4 fun l3 =>
castCons l3 fun x23_0 l4 =>
castCons l4 fun c1 l5 =>
castInt .i64 c1 fun x23_1 =>
castNil l5 (
bind2 (ev (.bslice 2 (.agg [.nils, (.int .i64 0)]) 1 [(0, (.c (.agg [x23_0, (.int .i64 x23_1)])))]) h_3) fun x24 h_4 =>
bind2 (ev (.app 2 32 (.c list) (.c x24)) h_4) fun x25 h_5 =>
self x25 x12 h_5))))) (
some ((.exit 0), [list], h_))
noncomputable def L9_0 (lf : Nat) : Nat → V → V → List Ob → SubR
  | 0 => fun _ _ _ => none
  | n + 1 => B9_0 lf (L9_0 lf n)
theorem B9_0_eq (lf : Nat) (self : V → V → List Ob → SubR) (list : V) (x12 : V) (h : List Ob) : evCK A9 ⟨call9 lf, (cv9 lf), subN⟩ k9_0 [(3, list), (12, x12)] h (endL [3, 12] [.any, .any] o9_0 (w9_0 self)) = B9_0 lf self list x12 h := by kernel_rfl
theorem L9_0_ok (lf : Nat) : ∀ n, SubOk Go.Proofs.Tryd.prog (.loop k9_0.er) [3, 12] o9_0 (w9_0 (L9_0 lf n)) := by
  refine SubOk.loop (A := A9) (σ := ⟨call9 lf, (cv9 lf), subN⟩) (c := k9_0) (shs := [.any, .any]) (G := fun n => w9_0 (L9_0 lf n)) (call9_ok lf) (cv9_ok lf) (And.intro True.intro (And.intro (And.intro True.intro True.intro) (And.intro True.intro True.intro))) ?_ ?_
  · intro vs h r e0
    simp only [w9_0] at e0
    obtain ⟨c1, l1, rfl, e1⟩ := castCons_inv e0
    obtain ⟨c2, l2, rfl, e2⟩ := castCons_inv e1
    obtain ⟨rfl, e3⟩ := castNil_inv e2
    have e := e3
    cases e
  · intro n vs h r e0
    simp only [w9_0] at e0
    obtain ⟨c1, l1, rfl, e1⟩ := castCons_inv e0
    obtain ⟨c2, l2, rfl, e2⟩ := castCons_inv e1
    obtain ⟨rfl, e3⟩ := castNil_inv e2
    have e := e3
    exact (B9_0_eq lf (L9_0 lf n) c1 c2 h).trans e
def k9 : KC := (.seq (.reg [⟨(some 2), none, (.op (.mv (.c .nils))), []⟩]) (.seq (.seq (.reg [⟨(some 6), none, (.op (.mv (.t 0))), []⟩, ⟨(some 7), none, (.op (.eq false .ptr (.t 6) (.c .nilp))), []⟩]) (.cond (.t 7) (.seq (.reg [⟨(some 2), none, (.op (.mv (.c .nils))), []⟩]) .ret) .skip)) (.seq (.reg [⟨(some 3), none, (.op (.mv (.c .nils))), []⟩]) (.seq (.seq (.reg [⟨(some 8), none, (.op (.mv (.t 0))), []⟩, ⟨(some 9), none, (.op (.nilck (.t 8))), []⟩, ⟨(some 10), none, (.op (.faddr 0 (.t 9))), []⟩, ⟨(some 11), none, (.op (.load1 (.t 10))), []⟩, ⟨(some 12), none, (.op (.rangeM (.t 11))), []⟩]) (.block 0 (.sub 0 (.loop k9_0.er) [3, 12] o9_0))) (.seq (.reg [⟨(some 26), none, (.op (.mv (.t 3))), []⟩, ⟨(some 27), none, (.call 19 [(.t 26), (.c (.fn 20 []))]), []⟩]) (.seq (.reg [⟨(some 28), none, (.op (.mv (.t 3))), []⟩, ⟨(some 2), none, (.op (.mv (.t 28))), []⟩]) .ret))))))
noncomputable def F9 (lf : Nat) (b : V) (h : List Ob) : Option (V × List Ob) :=
bind1 (er (.eq false .ptr (.c b) (.c V.nilp)) h) fun v =>
castBool v fun x7 =>
cB x7 (
some (V.nils, h)) (
bind1 (er (.nilck (.c b)) h) fun x9 =>
bind1 (er (.faddr 0 (.c x9)) h) fun x10 =>
bind1 (er (.load1 (.c x10)) h) fun x11 =>
bind2 (ev (.rangeM (.c x11)) h) fun x12 h_ =>
bind3 (L9_0 lf lf V.nils x12 h_) fun ex vs h_1 =>
cB (decide (ex = (.exit 0))) (
castCons vs fun list l =>
castNil l (
bind2 (F19 lf (cv9 lf) list (.fn 20 []) h_1) fun x27 h_2 =>
some (list, h_2))) (
none))
theorem F9_eq (lf : Nat) (b : V) (h : List Ob) : evCK A9 ⟨call9 lf, (cv9 lf), subC 0 (w9_0 (L9_0 lf lf)) (subN)⟩ k9 (entryK [b]) h (endF c9.res) = F9 lf b h := by kernel_rfl
theorem F9_ok (lf : Nat) (b : V) (h : List Ob) (r_ : V) (h_r : List Ob) (e_ : F9 lf b h = some (r_, h_r)) : CD Go.Proofs.Tryd.prog 9 [b] h r_ h_r :=
  CD.ofK (A := A9) (σ := ⟨call9 lf, (cv9 lf), subC 0 (w9_0 (L9_0 lf lf)) (subN)⟩) (c := k9) Go.Proofs.Tryd.func9 ok9 en9 (show 1 ≤ 29 by decide) (by kernel_rfl) (call9_ok lf) (cv9_ok lf) (And.intro True.intro (And.intro (And.intro True.intro (And.intro (And.intro True.intro True.intro) True.intro)) (And.intro True.intro (And.intro (And.intro True.intro (L9_0_ok lf lf)) (And.intro True.intro (And.intro True.intro True.intro)))))) ((F9_eq lf b h).trans e_)
def w9 (f : V → List Ob → Option (V × List Ob)) (vs : List V) (h : List Ob) : Option (V × List Ob) := castCons vs fun c1 l1 => castNil l1 (f c1 h)
noncomputable def W9 (lf : Nat) : List V → List Ob → Option (V × List Ob) := w9 (F9 lf)
theorem W9_ok (lf : Nat) : ∀ args h v h', W9 lf args h = some (v, h') → CD Go.Proofs.Tryd.prog 9 args h v h' := by
  intro vs h r h' e0
  simp only [W9, w9] at e0
  obtain ⟨c1, l1, rfl, e1⟩ := castCons_inv e0
  obtain ⟨rfl, e2⟩ := castNil_inv e1
  have e := e2
  exact F9_ok lf c1 h r h' e

/-! 5: (*wainscot/bag.Bag).Rows -/
def A5 : List (Nat × Sh) := [(3, (.int .i64)), (5, (.int .i64)), (12, .bool), (16, .bool), (18, (.int .i64)), (19, (.int .i64)), (20, .bool), (22, (.agg [.any, (.int .i64)])), (24, (.int .i64)), (25, (.int .i64)), (26, .bool), (27, (.int .i64)), (29, (.int .i64)), (30, (.int .i64)), (31, (.int .i64)), (33, (.int .i64)), (34, (.int .i64)), (35, .bool), (37, (.agg [.any, (.int .i64)])), (39, (.int .i64)), (40, (.int .i64)), (41, .bool), (48, (.int .i64)), (49, (.int .i64))]
noncomputable def call5 (lf : Nat) : CallS := callC 15 (W15 lf) (callC 9 (W9 lf) (callN))
theorem call5_ok (lf : Nat) : CallOk Go.Proofs.Tryd.prog (call5 lf) := callC_ok (W15_ok lf) (callC_ok (W9_ok lf) (callN_ok))
def o5_0 : Outs := [((.exit 0), [], []), (.ret, [2, 3], [.any, (.int .i64)])]
def k5_0 : KC := (.seq (.reg [⟨(some 20), none, (.op (.bin .lss (.t 19) (.t 18))), []⟩]) (.seq (.cond (.t 20) .skip (.exit 0)) (.seq (.block 1 (.seq (.reg [⟨(some 21), none, (.op (.iaddrL 2 (.t 17) (.t 19))), []⟩, ⟨(some 22), none, (.op (.loadN 2 (.t 21))), []⟩, ⟨(some 7), none, (.op (.alloc false (.agg [.nils, (.int .i64 0)]))), []⟩, ⟨none, none, (.op (.store 2 (.t 7) (.t 22))), []⟩]) (.seq (.seq (.reg [⟨(some 23), none, (.op (.faddr 1 (.t 7))), []⟩, ⟨(some 24), none, (.op (.load1 (.t 23))), []⟩, ⟨(some 25), none, (.op (.mv (.t 5))), []⟩, ⟨(some 26), none, (.op (.bin .gtr (.t 24) (.t 25))), []⟩]) (.cond (.t 26) (.seq (.reg [⟨(some 2), none, (.op (.mv (.c .nils))), []⟩, ⟨(some 3), none, (.op (.mv (.c (.int .i64 14)))), []⟩]) .ret) .skip)) (.reg [⟨(some 27), none, (.op (.mv (.t 5))), []⟩, ⟨(some 28), none, (.op (.faddr 1 (.t 7))), []⟩, ⟨(some 29), none, (.op (.load1 (.t 28))), []⟩, ⟨(some 30), none, (.op (.bin .sub (.t 27) (.t 29))), []⟩, ⟨(some 5), none, (.op (.mv (.t 30))), []⟩])))) (.reg [⟨(some 31), none, (.op (.bin .add (.t 19) (.c (.int .i64 1)))), []⟩, ⟨(some 19), none, (.op (.mv (.t 31))), []⟩]))))
def w5_0 (f : Int → V → Int → Int → List Ob → SubR) (vs : List V) (h : List Ob) : SubR := castCons vs fun c1 l1 => castInt .i64 c1 fun n2 => castCons l1 fun c3 l3 => castCons l3 fun c4 l4 => castInt .i64 c4 fun n5 => castCons l4 fun c6 l6 => castInt .i64 c6 fun n7 => castNil l6 (f n2 c3 n5 n7 h)
noncomputable def B5_0 (lf : Nat) (self : Int → V → Int → Int → List Ob → SubR) (left : Int) (x17 : V) (x18 : Int) (x19 : Int) (h : List Ob) : SubR :=
cB (decide (x19 < x18)) (
bind1 (er (.iaddrL 2 (.c x17) (.c (.int .i64 x19))) h) fun x21 =>
bind1 (er (.loadN 2 (.c x21)) h) fun v =>
castAgg v fun l =>
castCons l fun x22_0 l1 =>
castCons l1 fun c l2 =>
castInt .i64 c fun x22_1 =>
castNil l2 (
bind2 (ev (.alloc false (.agg [.nils, (.int .i64 0)])) h) fun e h_ =>
bind2 (ev (.store 2 (.c e) (.c (.agg [x22_0, (.int .i64 x22_1)]))) h_) fun u h_1 =>
bind1 (er (.faddr 1 (.c e)) h_1) fun x23 =>
bind1 (er (.load1 (.c x23)) h_1) fun v1 =>
castInt .i64 v1 fun x24 =>
cB (decide (x24 > left)) (
some (.ret, [V.nils, (.int .i64 (14))], h_1)) (
bind1 (er (.faddr 1 (.c e)) h_1) fun x28 =>
bind1 (er (.load1 (.c x28)) h_1) fun v2 =>
castInt .i64 v2 fun x29 =>
self (IntKind.i64.wrap (left - x29)) x17 x18 (IntKind.i64.wrap (x19 + (1))) h_1))) (
some ((.exit 0), [], h))
noncomputable def L5_0 (lf : Nat) : Nat → Int → V → Int → Int → List Ob → SubR
  | 0 => fun _ _ _ _ _ => none
  | n + 1 => B5_0 lf (L5_0 lf n)
theorem B5_0_eq (lf : Nat) (self : Int → V → Int → Int → List Ob → SubR) (left : Int) (x17 : V) (x18 : Int) (x19 : Int) (h : List Ob) : evCK A5 ⟨call5 lf, cvN, subN⟩ k5_0 [(5, (.int .i64 left)), (17, x17), (18, (.int .i64 x18)), (19, (.int .i64 x19))] h (endL [5, 17, 18, 19] [(.int .i64), .any, (.int .i64), (.int .i64)] o5_0 (w5_0 self)) = B5_0 lf self left x17 x18 x19 h := by kernel_rfl
theorem L5_0_ok (lf : Nat) : ∀ n, SubOk Go.Proofs.Tryd.prog (.loop k5_0.er) [5, 17, 18, 19] o5_0 (w5_0 (L5_0 lf n)) := by
  refine SubOk.loop (A := A5) (σ := ⟨call5 lf, cvN, subN⟩) (c := k5_0) (shs := [(.int .i64), .any, (.int .i64), (.int .i64)]) (G := fun n => w5_0 (L5_0 lf n)) (call5_ok lf) cvN_ok (And.intro True.intro (And.intro (And.intro True.intro True.intro) (And.intro (And.intro True.intro (And.intro (And.intro True.intro (And.intro (And.intro True.intro True.intro) True.intro)) True.intro)) True.intro))) ?_ ?_
  · intro vs h r e0
    simp only [w5_0] at e0
    obtain ⟨c1, l1, rfl, e1⟩ := castCons_inv e0
    obtain ⟨y0, rfl, e2⟩ := castInt_inv e1
    obtain ⟨c2, l2, rfl, e3⟩ := castCons_inv e2
    obtain ⟨c3, l3, rfl, e4⟩ := castCons_inv e3
    obtain ⟨y2, rfl, e5⟩ := castInt_inv e4
    obtain ⟨c4, l4, rfl, e6⟩ := castCons_inv e5
    obtain ⟨y3, rfl, e7⟩ := castInt_inv e6
    obtain ⟨rfl, e8⟩ := castNil_inv e7
    have e := e8
    cases e
  · intro n vs h r e0
    simp only [w5_0] at e0
    obtain ⟨c1, l1, rfl, e1⟩ := castCons_inv e0
    obtain ⟨y0, rfl, e2⟩ := castInt_inv e1
    obtain ⟨c2, l2, rfl, e3⟩ := castCons_inv e2
    obtain ⟨c3, l3, rfl, e4⟩ := castCons_inv e3
    obtain ⟨y2, rfl, e5⟩ := castInt_inv e4
    obtain ⟨c4, l4, rfl, e6⟩ := castCons_inv e5
    obtain ⟨y3, rfl, e7⟩ := castInt_inv e6
    obtain ⟨rfl, e8⟩ := castNil_inv e7
    have e := e8
    exact (B5_0_eq lf (L5_0 lf n) y0 c2 y2 y3 h).trans e
def o5_1 : Outs := [((.exit 4), [8], [.any])]
def k5_1 : KC := (.seq (.reg [⟨(some 41), none, (.op (.bin .lss (.t 40) (.t 39))), []⟩]) (.seq (.cond (.t 41) .skip (.exit 4)) (.seq (.block 5 (.reg [⟨(some 42), none, (.op (.mv (.t 8))), []⟩, ⟨(some 43), none, (.op (.faddr 0 (.t 10))), []⟩, ⟨(some 44), none, (.op (.load1 (.t 43))), []⟩, ⟨(some 45), none, (.call 15 [(.t 44)]), []⟩, ⟨(some 46), none, (.op (.bslice 1 .nils 1 [(0, (.t 45))])), []⟩, ⟨(some 47), none, (.op (.app 1 24 (.t 42) (.t 46))), []⟩, ⟨(some 8), none, (.op (.mv (.t 47))), []⟩])) (.reg [⟨(some 48), none, (.op (.bin .add (.t 40) (.c (.int .i64 1)))), []⟩, ⟨(some 40), none, (.op (.mv (.t 48))), []⟩]))))
def w5_1 (f : V → V → Int → Int → List Ob → SubR) (vs : List V) (h : List Ob) : SubR := castCons vs fun c1 l1 => castCons l1 fun c2 l2 => castCons l2 fun c3 l3 => castInt .i64 c3 fun n4 => castCons l3 fun c5 l5 => castInt .i64 c5 fun n6 => castNil l5 (f c1 c2 n4 n6 h)
noncomputable def B5_1 (lf : Nat) (self : V → V → Int → Int → List Ob → SubR) (out : V) (e : V) (x39 : Int) (x40 : Int) (h : List Ob) : SubR :=
cB (decide (x40 < x39)) (
bind1 (er (.faddr 0 (.c e)) h) fun x43 =>
bind1 (er (.load1 (.c x43)) h) fun x44 =>
bind2 (F15 lf x44 h) fun x45 h_ =>
bind2 (ev (.bslice 1 .nils 1 [(0, (.c x45))]) h_) fun x46 h_1 =>
bind2 (ev (.app 1 24 (.c out) (.c x46)) h_1) fun x47 h_2 =>
self x47 e x39 (IntKind.i64.wrap (x40 + (1))) h_2) (
some ((.exit 4), [out], h))
noncomputable def L5_1 (lf : Nat) : Nat → V → V → Int → Int → List Ob → SubR
  | 0 => fun _ _ _ _ _ => none
  | n + 1 => B5_1 lf (L5_1 lf n)
theorem B5_1_eq (lf : Nat) (self : V → V → Int → Int → List Ob → SubR) (out : V) (e : V) (x39 : Int) (x40 : Int) (h : List Ob) : evCK A5 ⟨call5 lf, cvN, subN⟩ k5_1 [(8, out), (10, e), (39, (.int .i64 x39)), (40, (.int .i64 x40))] h (endL [8, 10, 39, 40] [.any, .any, (.int .i64), (.int .i64)] o5_1 (w5_1 self)) = B5_1 lf self out e x39 x40 h := by kernel_rfl
theorem L5_1_ok (lf : Nat) : ∀ n, SubOk Go.Proofs.Tryd.prog (.loop k5_1.er) [8, 10, 39, 40] o5_1 (w5_1 (L5_1 lf n)) := by
  refine SubOk.loop (A := A5) (σ := ⟨call5 lf, cvN, subN⟩) (c := k5_1) (shs := [.any, .any, (.int .i64), (.int .i64)]) (G := fun n => w5_1 (L5_1 lf n)) (call5_ok lf) cvN_ok (And.intro True.intro (And.intro (And.intro True.intro True.intro) (And.intro True.intro True.intro))) ?_ ?_
  · intro vs h r e0
    simp only [w5_1] at e0
    obtain ⟨c1, l1, rfl, e1⟩ := castCons_inv e0
    obtain ⟨c2, l2, rfl, e2⟩ := castCons_inv e1
    obtain ⟨c3, l3, rfl, e3⟩ := castCons_inv e2
    obtain ⟨y2, rfl, e4⟩ := castInt_inv e3
    obtain ⟨c4, l4, rfl, e5⟩ := castCons_inv e4
    obtain ⟨y3, rfl, e6⟩ := castInt_inv e5
    obtain ⟨rfl, e7⟩ := castNil_inv e6
    have e := e7
    cases e
  · intro n vs h r e0
    simp only [w5_1] at e0
    obtain ⟨c1, l1, rfl, e1⟩ := castCons_inv e0
    obtain ⟨c2, l2, rfl, e2⟩ := castCons_inv e1
    obtain ⟨c3, l3, rfl, e3⟩ := castCons_inv e2
    obtain ⟨y2, rfl, e4⟩ := castInt_inv e3
    obtain ⟨c4, l4, rfl, e5⟩ := castCons_inv e4
    obtain ⟨y3, rfl, e6⟩ := castInt_inv e5
    obtain ⟨rfl, e7⟩ := castNil_inv e6
    have e := e7
    exact (B5_1_eq lf (L5_1 lf n) c1 c2 y2 y3 h).trans e
def o5_2 : Outs := [((.exit 2), [8], [.any])]
def k5_2 : KC := (.seq (.reg [⟨(some 35), none, (.op (.bin .lss (.t 34) (.t 33))), []⟩]) (.seq (.cond (.t 35) .skip (.exit 2)) (.seq (.block 3 (.seq (.reg [⟨(some 36), none, (.op (.iaddrL 2 (.t 32) (.t 34))), []⟩, ⟨(some 37), none, (.op (.loadN 2 (.t 36))), []⟩, ⟨(some 10), none, (.op (.alloc false (.agg [.nils, (.int .i64 0)]))), []⟩, ⟨none, none, (.op (.store 2 (.t 10) (.t 37))), []⟩]) (.seq (.reg [⟨(some 38), none, (.op (.faddr 1 (.t 10))), []⟩, ⟨(some 39), none, (.op (.load1 (.t 38))), []⟩, ⟨(some 40), none, (.op (.mv (.c (.int .i64 0)))), []⟩]) (.block 4 (.sub 1 (.loop k5_1.er) [8, 10, 39, 40] o5_1))))) (.reg [⟨(some 49), none, (.op (.bin .add (.t 34) (.c (.int .i64 1)))), []⟩, ⟨(some 34), none, (.op (.mv (.t 49))), []⟩]))))
def w5_2 (f : V → V → Int → Int → List Ob → SubR) (vs : List V) (h : List Ob) : SubR := castCons vs fun c1 l1 => castCons l1 fun c2 l2 => castCons l2 fun c3 l3 => castInt .i64 c3 fun n4 => castCons l3 fun c5 l5 => castInt .i64 c5 fun n6 => castNil l5 (f c1 c2 n4 n6 h)
noncomputable def B5_2 (lf : Nat) (self : V → V → Int → Int → List Ob → SubR) (out : V) (x32 : V) (x33 : Int) (x34 : Int) (h : List Ob) : SubR :=
cB (decide (x34 < x33)) (
bind1 (er (.iaddrL 2 (.c x32) (.c (.int .i64 x34))) h) fun x36 =>
bind1 (er (.loadN 2 (.c x36)) h) fun v =>
castAgg v fun l =>
castCons l fun x37_0 l1 =>
castCons l1 fun c l2 =>
castInt .i64 c fun x37_1 =>
castNil l2 (
bind2 (ev (.alloc false (.agg [.nils, (.int .i64 0)])) h) fun e h_ =>
bind2 (ev (.store 2 (.c e) (.c (.agg [x37_0, (.int .i64 x37_1)]))) h_) fun u h_1 =>
bind1 (er (.faddr 1 (.c e)) h_1) fun x38 =>
bind1 (er (.load1 (.c x38)) h_1) fun v1 =>
castInt .i64 v1 fun x39 =>
bind3 (L5_1 lf lf out e x39 (0) h_1) fun ex vs h_2 =>
cB (decide (ex = (.exit 4))) (
castCons vs fun out1 l3 =>
castNil l3 (
self out1 x32 x33 (IntKind.i64.wrap (x34 + (1))) h_2)) (
none))) (
some ((.exit 2), [out], h))
noncomputable def L5_2 (lf : Nat) : Nat → V → V → Int → Int → List Ob → SubR
  | 0 => fun _ _ _ _ _ => none
  | n + 1 => B5_2 lf (L5_2 lf n)
theorem B5_2_eq (lf : Nat) (self : V → V → Int → Int → List Ob → SubR) (out : V) (x32 : V) (x33 : Int) (x34 : Int) (h : List Ob) : evCK A5 ⟨call5 lf, cvN, subC 1 (w5_1 (L5_1 lf lf)) (subN)⟩ k5_2 [(8, out), (32, x32), (33, (.int .i64 x33)), (34, (.int .i64 x34))] h (endL [8, 32, 33, 34] [.any, .any, (.int .i64), (.int .i64)] o5_2 (w5_2 self)) = B5_2 lf self out x32 x33 x34 h := by kernel_rfl
theorem L5_2_ok (lf : Nat) : ∀ n, SubOk Go.Proofs.Tryd.prog (.loop k5_2.er) [8, 32, 33, 34] o5_2 (w5_2 (L5_2 lf n)) := by
  refine SubOk.loop (A := A5) (σ := ⟨call5 lf, cvN, subC 1 (w5_1 (L5_1 lf lf)) (subN)⟩) (c := k5_2) (shs := [.any, .any, (.int .i64), (.int .i64)]) (G := fun n => w5_2 (L5_2 lf n)) (call5_ok lf) cvN_ok (And.intro True.intro (And.intro (And.intro True.intro True.intro) (And.intro (And.intro True.intro (And.intro True.intro (L5_1_ok lf lf))) True.intro))) ?_ ?_
  · intro vs h r e0
    simp only [w5_2] at e0
    obtain ⟨c1, l1, rfl, e1⟩ := castCons_inv e0
    obtain ⟨c2, l2, rfl, e2⟩ := castCons_inv e1
    obtain ⟨c3, l3, rfl, e3⟩ := castCons_inv e2
    obtain ⟨y2, rfl, e4⟩ := castInt_inv e3
    obtain ⟨c4, l4, rfl, e5⟩ := castCons_inv e4
    obtain ⟨y3, rfl, e6⟩ := castInt_inv e5
    obtain ⟨rfl, e7⟩ := castNil_inv e6
    have e := e7
    cases e
  · intro n vs h r e0
    simp only [w5_2] at e0
    obtain ⟨c1, l1, rfl, e1⟩ := castCons_inv e0
    obtain ⟨c2, l2, rfl, e2⟩ := castCons_inv e1
    obtain ⟨c3, l3, rfl, e3⟩ := castCons_inv e2
    obtain ⟨y2, rfl, e4⟩ := castInt_inv e3
    obtain ⟨c4, l4, rfl, e5⟩ := castCons_inv e4
    obtain ⟨y3, rfl, e6⟩ := castInt_inv e5
    obtain ⟨rfl, e7⟩ := castNil_inv e6
    have e := e7
    exact (B5_2_eq lf (L5_2 lf n) c1 c2 y2 y3 h).trans e
def k5 : KC := (.seq (.reg [⟨(some 2), none, (.op (.mv (.c .nils))), []⟩, ⟨(some 3), none, (.op (.mv (.c (.int .i64 0)))), []⟩]) (.seq (.seq (.reg [⟨(some 11), none, (.op (.mv (.t 0))), []⟩, ⟨(some 12), none, (.op (.eq false .ptr (.t 11) (.c .nilp))), []⟩]) (.cond (.t 12) (.seq (.reg [⟨(some 2), none, (.op (.mv (.c .nils))), []⟩, ⟨(some 3), none, (.op (.mv (.c (.int .i64 1)))), []⟩]) .ret) .skip)) (.seq (.reg [⟨(some 13), none, (.op (.mv (.t 0))), []⟩, ⟨(some 14), none, (.call 9 [(.t 13)]), []⟩, ⟨(some 4), none, (.op (.mv (.t 14))), []⟩]) (.seq (.seq (.reg [⟨(some 15), none, (.op (.mv (.t 4))), []⟩, ⟨(some 16), none, (.call 13 [(.t 15), (.c (.fn 14 []))]), []⟩]) (.cond (.t 16) (.seq (.reg [⟨(some 2), none, (.op (.mv (.c .nils))), []⟩, ⟨(some 3), none, (.op (.mv (.c (.int .i64 12)))), []⟩]) .ret) .skip)) (.seq (.reg [⟨(some 5), none, (.op (.mv (.c (.int .i64 100000)))), []⟩]) (.seq (.seq (.reg [⟨(some 17), none, (.op (.mv (.t 4))), []⟩, ⟨(some 18), none, (.op (.lenL (.t 17))), []⟩, ⟨(some 19), none, (.op (.mv (.c (.int .i64 0)))), []⟩]) (.block 0 (.sub 0 (.loop k5_0.er) [5, 17, 18, 19] o5_0))) (.seq (.reg [⟨(some 8), none, (.op (.mv (.c .nils))), []⟩]) (.seq (.seq (.reg [⟨(some 32), none, (.op (.mv (.t 4))), []⟩, ⟨(some 33), none, (.op (.lenL (.t 32))), []⟩, ⟨(some 34), none, (.op (.mv (.c (.int .i64 0)))), []⟩]) (.block 2 (.sub 2 (.loop k5_2.er) [8, 32, 33, 34] o5_2))) (.seq (.reg [⟨(some 50), none, (.op (.mv (.t 8))), []⟩, ⟨(some 2), none, (.op (.mv (.t 50))), []⟩, ⟨(some 3), none, (.op (.mv (.c (.int .i64 0)))), []⟩]) .ret)))))))))
noncomputable def F5 (lf : Nat) (b : V) (h : List Ob) : Option (V × List Ob) :=
bind1 (er (.eq false .ptr (.c b) (.c V.nilp)) h) fun v =>
castBool v fun x12 =>
cB x12 (
some ((.tup [V.nils, (.int .i64 (1))]), h)) (
bind2 (F9 lf b h) fun x14 h_ =>
none)
theorem F5_eq (lf : Nat) (b : V) (h : List Ob) : evCK A5 ⟨call5 lf, cvN, subC 2 (w5_2 (L5_2 lf lf)) (subC 0 (w5_0 (L5_0 lf lf)) (subN))⟩ k5 (entryK [b]) h (endF c5.res) = F5 lf b h := by kernel_rfl
theorem F5_ok (lf : Nat) (b : V) (h : List Ob) (r_ : V) (h_r : List Ob) (e_ : F5 lf b h = some (r_, h_r)) : CD Go.Proofs.Tryd.prog 5 [b] h r_ h_r :=
  CD.ofK (A := A5) (σ := ⟨call5 lf, cvN, subC 2 (w5_2 (L5_2 lf lf)) (subC 0 (w5_0 (L5_0 lf lf)) (subN))⟩) (c := k5) Go.Proofs.Tryd.func5 ok5 en5 (show 1 ≤ 51 by decide) (by kernel_rfl) (call5_ok lf) cvN_ok (And.intro True.intro (And.intro (And.intro True.intro (And.intro (And.intro True.intro True.intro) True.intro)) (And.intro True.intro (And.intro (And.intro True.intro (And.intro (And.intro True.intro True.intro) True.intro)) (And.intro True.intro (And.intro (And.intro True.intro (L5_0_ok lf lf)) (And.intro True.intro (And.intro (And.intro True.intro (L5_2_ok lf lf)) (And.intro True.intro True.intro))))))))) ((F5_eq lf b h).trans e_)
def w5 (f : V → List Ob → Option (V × List Ob)) (vs : List V) (h : List Ob) : Option (V × List Ob) := castCons vs fun c1 l1 => castNil l1 (f c1 h)
noncomputable def W5 (lf : Nat) : List V → List Ob → Option (V × List Ob) := w5 (F5 lf)
theorem W5_ok (lf : Nat) : ∀ args h v h', W5 lf args h = some (v, h') → CD Go.Proofs.Tryd.prog 5 args h v h' := by
  intro vs h r h' e0
  simp only [W5, w5] at e0
  obtain ⟨c1, l1, rfl, e1⟩ := castCons_inv e0
  obtain ⟨rfl, e2⟩ := castNil_inv e1
  have e := e2
  exact F5_ok lf c1 h r h' e

/-! 7: (*wainscot/bag.Bag).Count -/
def A7 : List (Nat × Sh) := [(4, (.int .i64)), (6, (.int .i64)), (7, (.tup [.any, (.int .i64)])), (9, (.tup [.any, (.int .i64)])), (11, (.int .i64)), (13, .bool), (14, .bool), (15, (.int .i64)), (16, .bool), (17, .bool), (23, .str), (24, (.agg [.any, (.int .i64)])), (25, (.int .i64))]
noncomputable def call7 (lf : Nat) : CallS := callC 16 (W16 lf) (callN)
theorem call7_ok (lf : Nat) : CallOk Go.Proofs.Tryd.prog (call7 lf) := callC_ok (W16_ok lf) (callN_ok)
def o7_0 : Outs := [(.ret, [4], [(.int .i64)]), (.normal, [], [])]
def k7_0 : KC := (.seq (.reg [⟨(some 12), none, (.op (.mv (.t 0))), []⟩, ⟨(some 13), none, (.op (.eq false .ptr (.t 12) (.c .nilp))), []⟩, ⟨(some 14), none, (.op (.mv (.t 13))), []⟩, ⟨(some 15), (some (14, false)), (.op (.mv (.t 6))), []⟩, ⟨(some 16), (some (14, false)), (.op (.bin .neq (.t 15) (.c (.int .i64 0)))), []⟩, ⟨(some 17), none, (.op (.pick (.t 14) (.c (.bool true)) (.t 16))), []⟩]) (.cond (.t 17) (.seq (.reg [⟨(some 4), none, (.op (.mv (.c (.int .i64 0)))), []⟩]) .ret) .skip))
def w7_0 (f : V → Int → List Ob → SubR) (vs : List V) (h : List Ob) : SubR := castCons vs fun c1 l1 => castCons l1 fun c2 l2 => castInt .i64 c2 fun n3 => castNil l2 (f c1 n3 h)
noncomputable def S7_0 (lf : Nat) (b : V) (e : Int) (h : List Ob) : SubR :=
bind1 (er (.eq false .ptr (.c b) (.c V.nilp)) h) fun v =>
castBool v fun x13 =>
cB x13 (
some (.ret, [(.int .i64 (0))], h)) (
cB (e != (0)) (
some (.ret, [(.int .i64 (0))], h)) (
some (.normal, [], h)))
theorem S7_0_eq (lf : Nat) (b : V) (e : Int) (h : List Ob) : evCK A7 ⟨call7 lf, cvN, subN⟩ k7_0 [(0, b), (6, (.int .i64 e))] h (endK o7_0) = S7_0 lf b e h := by kernel_rfl
theorem S7_0_ok (lf : Nat) : SubOk Go.Proofs.Tryd.prog k7_0.er [0, 6] o7_0 (w7_0 (S7_0 lf)) := by
  refine SubOk.of (A := A7) (σ := ⟨call7 lf, cvN, subN⟩) (c := k7_0) (call7_ok lf) cvN_ok (And.intro True.intro (And.intro (And.intro True.intro True.intro) True.intro)) ?_
  intro vs h r e0
  simp only [w7_0] at e0
  obtain ⟨c1, l1, rfl, e1⟩ := castCons_inv e0
  obtain ⟨c2, l2, rfl, e2⟩ := castCons_inv e1
  obtain ⟨y1, rfl, e3⟩ := castInt_inv e2
  obtain ⟨rfl, e4⟩ := castNil_inv e3
  have e := e4
  exact (S7_0_eq lf c1 y1 h).trans e
def k7 : KC := (.seq (.reg [⟨(some 4), none, (.op (.mv (.c (.int .i64 0)))), []⟩]) (.seq (.reg [⟨(some 8), none, (.op (.mv (.t 1))), []⟩, ⟨(some 9), none, (.call 16 [(.t 8)]), []⟩, ⟨(some 7), none, (.op (.mv (.t 9))), []⟩, ⟨(some 10), none, (.op (.ext 0 (.t 7))), []⟩, ⟨(some 11), none, (.op (.ext 1 (.t 7))), []⟩, ⟨(some 5), none, (.op (.mv (.t 10))), []⟩, ⟨(some 6), none, (.op (.mv (.t 11))), []⟩]) (.seq (.sub 0 k7_0.er [0, 6] o7_0) (.seq (.reg [⟨(some 18), none, (.op (.mv (.t 0))), []⟩, ⟨(some 19), none, (.op (.nilck (.t 18))), []⟩, ⟨(some 20), none, (.op (.faddr 0 (.t 19))), []⟩, ⟨(some 21), none, (.op (.load1 (.t 20))), []⟩, ⟨(some 22), none, (.op (.mv (.t 5))), []⟩, ⟨(some 23), none, (.op (.toStr (.t 22))), []⟩, ⟨(some 24), none, (.op (.lookup .s (.agg [.nils, (.int .i64 0)]) false (.t 21) (.t 23))), []⟩, ⟨(some 25), none, (.op (.field1 1 (.t 24))), []⟩, ⟨(some 4), none, (.op (.mv (.t 25))), []⟩]) .ret))))
noncomputable def F7 (lf : Nat) (b : V) (row : V) (h : List Ob) : Option (V × List Ob) :=
bind2 (F16 lf row h) fun v h_ =>
castTup v fun l =>
castCons l fun x9_0 l1 =>
castCons l1 fun c l2 =>
castInt .i64 c fun x9_1 =>
castNil l2 (
bind3 (S7_0 lf b x9_1 h_) fun ex vs h_1 =>
cB (decide (ex = .ret)) (
castCons vs fun c1 l3 =>
castInt .i64 c1 fun x4 =>
castNil l3 (
some ((.int .i64 x4), h_1))) (
cB (decide (ex = .normal)) (
castNil vs (
bind1 (er (.nilck (.c b)) h_1) fun x19 =>
bind1 (er (.faddr 0 (.c x19)) h_1) fun x20 =>
bind1 (er (.load1 (.c x20)) h_1) fun x21 =>
bind1 (er (.toStr (.c x9_0)) h_1) fun v1 =>
castStr v1 fun x23 =>
bind1 (er (.lookup .s (.agg [.nils, (.int .i64 0)]) false (.c x21) (.c (.str x23))) h_1) fun v2 =>
castAgg v2 fun l3 =>
castCons l3 fun x24_0 l4 =>
castCons l4 fun c1 l5 =>
castInt .i64 c1 fun x24_1 =>
castNil l5 (
some ((.int .i64 x24_1), h_1)))) (
none)))
theorem F7_eq (lf : Nat) (b : V) (row : V) (h : List Ob) : evCK A7 ⟨call7 lf, cvN, subC 0 (w7_0 (S7_0 lf)) (subN)⟩ k7 (entryK [b, row]) h (endF c7.res) = F7 lf b row h := by kernel_rfl
theorem F7_ok (lf : Nat) (b : V) (row : V) (h : List Ob) (r_ : V) (h_r : List Ob) (e_ : F7 lf b row h = some (r_, h_r)) : CD Go.Proofs.Tryd.prog 7 [b, row] h r_ h_r :=
  CD.ofK (A := A7) (σ := ⟨call7 lf, cvN, subC 0 (w7_0 (S7_0 lf)) (subN)⟩) (c := k7) Go.Proofs.Tryd.func7 ok7 en7 (show 2 ≤ 26 by decide) (by kernel_rfl) (call7_ok lf) cvN_ok (And.intro True.intro (And.intro True.intro (And.intro (S7_0_ok lf) (And.intro True.intro True.intro)))) ((F7_eq lf b row h).trans e_)
def w7 (f : V → V → List Ob → Option (V × List Ob)) (vs : List V) (h : List Ob) : Option (V × List Ob) := castCons vs fun c1 l1 => castCons l1 fun c2 l2 => castNil l2 (f c1 c2 h)
noncomputable def W7 (lf : Nat) : List V → List Ob → Option (V × List Ob) := w7 (F7 lf)
theorem W7_ok (lf : Nat) : ∀ args h v h', W7 lf args h = some (v, h') → CD Go.Proofs.Tryd.prog 7 args h v h' := by
  intro vs h r h' e0
  simp only [W7, w7] at e0
  obtain ⟨c1, l1, rfl, e1⟩ := castCons_inv e0
  obtain ⟨c2, l2, rfl, e2⟩ := castCons_inv e1
  obtain ⟨rfl, e3⟩ := castNil_inv e2
  have e := e3
  exact F7_ok lf c1 c2 h r h' e

/-! 10: (*wainscot/bag.Bag).Join -/
def A10 : List (Nat × Sh) := [(2, (.int .i64)), (6, (.int .i64)), (8, .str), (10, (.int .i64)), (11, .bool), (13, .str), (14, .str), (15, (.int .i64)), (17, .bool), (18, .bool), (20, .bool), (21, .bool), (22, .bool), (23, (.int .i64)), (24, .bool), (25, .bool), (26, (.int .i64)), (27, .bool), (28, .bool), (29, .bool), (37, .bool), (39, .str), (40, (.agg [.any, (.int .i64)])), (41, (.tup [(.int .i64), .bool])), (46, .str), (47, (.agg [.any, (.int .i64)])), (48, (.int .i64)), (50, (.int .i64)), (51, (.tup [(.int .i64), .bool])), (52, (.int .i64)), (53, .bool), (54, (.int .i64)), (55, .bool), (60, .str), (61, (.agg [.any, (.int .i64)])), (62, (.int .i64)), (64, (.int .i64)), (65, (.int .i64)), (70, .str), (71, (.agg [.any, (.int .i64)])), (72, (.int .i64)), (74, (.int .i64)), (75, (.int .i64)), (80, .str), (81, (.agg [.any, (.int .i64)])), (82, (.int .i64)), (83, .bool), (85, (.int .i64)), (86, .bool), (87, .bool), (88, .bool), (89, .bool), (91, .str), (92, (.int .i64)), (97, .bool), (99, .str), (101, .str), (106, .str), (107, (.agg [.any, (.int .i64)])), (112, .bool), (114, .str), (115, (.int .i64)), (117, .str), (119, .str), (121, (.int .i64))]
noncomputable def call10 (lf : Nat) : CallS := callC 18 (W18 lf) (callC 17 (W17 lf) (callN))
theorem call10_ok (lf : Nat) : CallOk Go.Proofs.Tryd.prog (call10 lf) := callC_ok (W18_ok lf) (callC_ok (W17_ok lf) (callN_ok))
def o10_0 : Outs := [(.normal, [10, 11], [(.int .i64), .bool])]
def k10_0 : KC := (.seq (.reg [⟨(some 54), none, (.op (.mv (.t 2))), []⟩, ⟨(some 55), none, (.op (.bin .lss (.t 54) (.c (.int .i64 0)))), []⟩]) (.cond (.t 55) (.reg [⟨(some 56), none, (.op (.mv (.t 0))), []⟩, ⟨(some 57), none, (.op (.nilck (.t 56))), []⟩, ⟨(some 58), none, (.op (.faddr 0 (.t 57))), []⟩, ⟨(some 59), none, (.op (.load1 (.t 58))), []⟩, ⟨(some 60), none, (.op (.mv (.t 8))), []⟩, ⟨(some 61), none, (.op (.lookup .s (.agg [.nils, (.int .i64 0)]) false (.t 59) (.t 60))), []⟩, ⟨(some 62), none, (.op (.field1 1 (.t 61))), []⟩, ⟨(some 63), none, (.op (.faddr 1 (.t 9))), []⟩, ⟨(some 64), none, (.op (.load1 (.t 63))), []⟩, ⟨(some 65), none, (.op (.bin .sub (.t 62) (.t 64))), []⟩, ⟨(some 66), none, (.op (.mv (.t 0))), []⟩, ⟨(some 67), none, (.op (.nilck (.t 66))), []⟩, ⟨(some 68), none, (.op (.faddr 0 (.t 67))), []⟩, ⟨(some 69), none, (.op (.load1 (.t 68))), []⟩, ⟨(some 70), none, (.op (.mv (.t 8))), []⟩, ⟨(some 71), none, (.op (.lookup .s (.agg [.nils, (.int .i64 0)]) false (.t 69) (.t 70))), []⟩, ⟨(some 72), none, (.op (.field1 1 (.t 71))), []⟩, ⟨(some 73), none, (.op (.faddr 1 (.t 9))), []⟩, ⟨(some 74), none, (.op (.load1 (.t 73))), []⟩, ⟨(some 75), none, (.op (.bin .sub (.t 72) (.t 74))), []⟩, ⟨(some 76), none, (.op (.mv (.t 0))), []⟩, ⟨(some 77), none, (.op (.nilck (.t 76))), []⟩, ⟨(some 78), none, (.op (.faddr 0 (.t 77))), []⟩, ⟨(some 79), none, (.op (.load1 (.t 78))), []⟩, ⟨(some 80), none, (.op (.mv (.t 8))), []⟩, ⟨(some 81), none, (.op (.lookup .s (.agg [.nils, (.int .i64 0)]) false (.t 79) (.t 80))), []⟩, ⟨(some 82), none, (.op (.field1 1 (.t 81))), []⟩, ⟨(some 83), none, (.op (.bin .gtr (.t 75) (.t 82))), []⟩, ⟨(some 84), none, (.op (.faddr 1 (.t 9))), []⟩, ⟨(some 85), none, (.op (.load1 (.t 84))), []⟩, ⟨(some 86), none, (.op (.bin .lss (.t 85) (.c (.int .i64 0)))), []⟩, ⟨(some 87), none, (.op (.eq false .bool (.t 83) (.t 86))), []⟩, ⟨(some 10), none, (.op (.mv (.t 65))), []⟩, ⟨(some 11), none, (.op (.mv (.t 87))), []⟩]) .skip))
def w10_0 (f : V → Int → List UInt8 → V → Int → Bool → List Ob → SubR) (vs : List V) (h : List Ob) : SubR := castCons vs fun c1 l1 => castCons l1 fun c2 l2 => castInt .i64 c2 fun n3 => castCons l2 fun c4 l4 => castStr c4 fun n5 => castCons l4 fun c6 l6 => castCons l6 fun c7 l7 => castInt .i64 c7 fun n8 => castCons l7 fun c9 l9 => castBool c9 fun n10 => castNil l9 (f c1 n3 n5 c6 n8 n10 h)
noncomputable def S10_0 (lf : Nat) (b : V) (sign : Int) (key : List UInt8) (x : V) (n_ : Int) (ok : Bool) (h : List Ob) : SubR :=
cB (decide (sign < (0))) (
bind1 (er (.nilck (.c b)) h) fun x57 =>
bind1 (er (.faddr 0 (.c x57)) h) fun x58 =>
bind1 (er (.load1 (.c x58)) h) fun x59 =>
bind1 (er (.lookup .s (.agg [.nils, (.int .i64 0)]) false (.c x59) (.c (.str key))) h) fun v =>
castAgg v fun l =>
castCons l fun x61_0 l1 =>
castCons l1 fun c l2 =>
castInt .i64 c fun x61_1 =>
castNil l2 (
bind1 (er (.faddr 1 (.c x)) h) fun x63 =>
bind1 (er (.load1 (.c x63)) h) fun v1 =>
castInt .i64 v1 fun x64 =>
bind1 (er (.nilck (.c b)) h) fun x67 =>
bind1 (er (.faddr 0 (.c x67)) h) fun x68 =>
bind1 (er (.load1 (.c x68)) h) fun x69 =>
bind1 (er (.lookup .s (.agg [.nils, (.int .i64 0)]) false (.c x69) (.c (.str key))) h) fun v2 =>
castAgg v2 fun l3 =>
castCons l3 fun x71_0 l4 =>
castCons l4 fun c1 l5 =>
castInt .i64 c1 fun x71_1 =>
castNil l5 (
bind1 (er (.faddr 1 (.c x)) h) fun x73 =>
bind1 (er (.load1 (.c x73)) h) fun v3 =>
castInt .i64 v3 fun x74 =>
bind1 (er (.nilck (.c b)) h) fun x77 =>
bind1 (er (.faddr 0 (.c x77)) h) fun x78 =>
bind1 (er (.load1 (.c x78)) h) fun x79 =>
bind1 (er (.lookup .s (.agg [.nils, (.int .i64 0)]) false (.c x79) (.c (.str key))) h) fun v4 =>
castAgg v4 fun l6 =>
castCons l6 fun x81_0 l7 =>
castCons l7 fun c2 l8 =>
castInt .i64 c2 fun x81_1 =>
castNil l8 (
bind1 (er (.faddr 1 (.c x)) h) fun x84 =>
bind1 (er (.load1 (.c x84)) h) fun v5 =>
castInt .i64 v5 fun x85 =>
some (.normal, [(.int .i64 (IntKind.i64.wrap (x61_1 - x64))), (.bool ((decide ((IntKind.i64.wrap (x71_1 - x74)) > x81_1)) == (decide (x85 < (0)))))], h))))) (
some (.normal, [(.int .i64 n_), (.bool ok)], h))
theorem S10_0_eq (lf : Nat) (b : V) (sign : Int) (key : List UInt8) (x : V) (n_ : Int) (ok : Bool) (h : List Ob) : evCK A10 ⟨call10 lf, cvN, subN⟩ k10_0 [(0, b), (2, (.int .i64 sign)), (8, (.str key)), (9, x), (10, (.int .i64 n_)), (11, (.bool ok))] h (endK o10_0) = S10_0 lf b sign key x n_ ok h := by kernel_rfl
theorem S10_0_ok (lf : Nat) : SubOk Go.Proofs.Tryd.prog k10_0.er [0, 2, 8, 9, 10, 11] o10_0 (w10_0 (S10_0 lf)) := by
  refine SubOk.of (A := A10) (σ := ⟨call10 lf, cvN, subN⟩) (c := k10_0) (call10_ok lf) cvN_ok (And.intro True.intro (And.intro True.intro True.intro)) ?_
  intro vs h r e0
  simp only [w10_0] at e0
  obtain ⟨c1, l1, rfl, e1⟩ := castCons_inv e0
  obtain ⟨c2, l2, rfl, e2⟩ := castCons_inv e1
  obtain ⟨y1, rfl, e3⟩ := castInt_inv e2
  obtain ⟨c3, l3, rfl, e4⟩ := castCons_inv e3
  obtain ⟨y2, rfl, e5⟩ := castStr_inv e4
  obtain ⟨c4, l4, rfl, e6⟩ := castCons_inv e5
  obtain ⟨c5, l5, rfl, e7⟩ := castCons_inv e6
  obtain ⟨y4, rfl, e8⟩ := castInt_inv e7
  obtain ⟨c6, l6, rfl, e9⟩ := castCons_inv e8
  obtain ⟨y5, rfl, e10⟩ := castBool_inv e9
  obtain ⟨rfl, e11⟩ := castNil_inv e10
  have e := e11
  exact (S10_0_eq lf c1 y1 y2 c4 y4 y5 h).trans e
def o10_1 : Outs := [((.exit 0), [], []), (.ret, [6], [(.int .i64)])]
def k10_1 : KC := (.seq (.reg [⟨(some 36), none, (.nextM (.t 35)), []⟩, ⟨(some 37), none, (.op (.ext 0 (.t 36))), []⟩]) (.seq (.cond (.t 37) .skip (.exit 0)) (.block 1 (.seq (.reg [⟨(some 38), none, (.op (.entry (.t 35))), []⟩, ⟨(some 39), none, (.op (.ext 0 (.t 38))), []⟩, ⟨(some 40), none, (.op (.ext 1 (.t 38))), []⟩, ⟨(some 9), none, (.op (.alloc false (.agg [.nils, (.int .i64 0)]))), []⟩, ⟨(some 8), none, (.op (.mv (.t 39))), []⟩, ⟨none, none, (.op (.store 2 (.t 9) (.t 40))), []⟩]) (.seq (.reg [⟨(some 42), none, (.op (.mv (.t 0))), []⟩, ⟨(some 43), none, (.op (.nilck (.t 42))), []⟩, ⟨(some 44), none, (.op (.faddr 0 (.t 43))), []⟩, ⟨(some 45), none, (.op (.load1 (.t 44))), []⟩, ⟨(some 46), none, (.op (.mv (.t 8))), []⟩, ⟨(some 47), none, (.op (.lookup .s (.agg [.nils, (.int .i64 0)]) false (.t 45) (.t 46))), []⟩, ⟨(some 48), none, (.op (.field1 1 (.t 47))), []⟩, ⟨(some 49), none, (.op (.faddr 1 (.t 9))), []⟩, ⟨(some 50), none, (.op (.load1 (.t 49))), []⟩, ⟨(some 51), none, (.call 17 [(.t 48), (.t 50)]), []⟩, ⟨(some 41), none, (.op (.mv (.t 51))), []⟩, ⟨(some 52), none, (.op (.ext 0 (.t 41))), []⟩, ⟨(some 53), none, (.op (.ext 1 (.t 41))), []⟩, ⟨(some 10), none, (.op (.mv (.t 52))), []⟩, ⟨(some 11), none, (.op (.mv (.t 53))), []⟩]) (.seq (.sub 0 k10_0.er [0, 2, 8, 9, 10, 11] o10_0) (.seq (.seq (.reg [⟨(some 88), none, (.op (.mv (.t 11))), []⟩, ⟨(some 89), none, (.op (.un .not (.t 88))), []⟩]) (.cond (.t 89) (.seq (.reg [⟨(some 6), none, (.op (.mv (.c (.int .i64 13)))), []⟩]) .ret) .skip)) (.reg [⟨(some 90), none, (.op (.mv (.t 7))), []⟩, ⟨(some 91), none, (.op (.mv (.t 8))), []⟩, ⟨(some 92), none, (.op (.mv (.t 10))), []⟩, ⟨none, none, (.op (.mapupd .s (.t 90) (.t 91) (.t 92))), []⟩]))))))))
def w10_1 (f : V → Int → V → V → List Ob → SubR) (vs : List V) (h : List Ob) : SubR := castCons vs fun c1 l1 => castCons l1 fun c2 l2 => castInt .i64 c2 fun n3 => castCons l2 fun c4 l4 => castCons l4 fun c5 l5 => castNil l5 (f c1 n3 c4 c5 h)
noncomputable def B10_1 (lf : Nat) (self : V → Int → V → V → List Ob → SubR) (b : V) (sign : Int) (next : V) (x35 : V) (h : List Ob) : SubR :=
one2 (evNextM h x35) fun v h_ =>
bind1 (er (.ext 0 (.c v)) h_) fun v1 =>
castBool v1 fun x37 =>
cB x37 (
bind1 (er (.entry (.c x35)) h_) fun x38 =>
bind1 (er (.ext 0 (.c x38)) h_) fun v2 =>
castStr v2 fun x39 =>
bind1 (er (.ext 1 (.c x38)) h_) fun v3 =>
castAgg v3 fun l =>
castCons l fun x40_0 l1 =>
castCons l1 fun c l2 =>
castInt .i64 c fun x40_1 =>
castNil l2 (
bind2 (ev (.alloc false (.agg [.nils, (.int .i64 0)])) h_) fun x h_1 =>
bind2 (ev (.store 2 (.c x) (.c (.agg [x40_0, (.int .i64 x40_1)]))) h_1) fun u h_2 =>
bind1 (er (.nilck (.c b)) h_2) fun x43 =>
bind1 (er (.faddr 0 (.c x43)) h_2) fun x44 =>
bind1 (er (.load1 (.c x44)) h_2) fun x45 =>
bind1 (er (.lookup .s (.agg [.nils, (.int .i64 0)]) false (.c x45) (.c (.str x39))) h_2) fun v4 =>
castAgg v4 fun l3 =>
castCons l3 fun x47_0 l4 =>
castCons l4 fun c1 l5 =>
castInt .i64 c1 fun x47_1 =>
castNil l5 (
bind1 (er (.faddr 1 (.c x)) h_2) fun x49 =>
bind1 (er (.load1 (.c x49)) h_2) fun v5 =>
castInt .i64 v5 fun x50 =>
bind2 (F17 lf x47_1 x50 h_2) fun v6 h_3 =>
castTup v6 fun l6 =>
castCons l6 fun c2 l7 =>
castInt .i64 c2 fun x51_0 =>
castCons l7 fun c3 l8 =>
castBool c3 fun x51_1 =>
castNil l8 (
bind3 (S10_0 lf b sign x39 x x51_0 x51_1 h_3) fun ex vs h_4 =>
cB (decide (ex = .normal)) (
castCons vs fun c4 l9 =>
castInt .i64 c4 fun n_ =>
castCons l9 fun c5 l10 =>
castBool c5 fun ok =>
castNil l10 (
cB (!ok) (
some (.ret, [(.int .i64 (13))], h_4)) (
bind2 (ev (.mapupd .s (.c next) (.c (.str x39)) (.c (.int .i64 n_))) h_4) fun u1 h_5 =>
self b sign next x35 h_5))) (
none))))) (
some ((.exit 0), [], h_))
noncomputable def L10_1 (lf : Nat) : Nat → V → Int → V → V → List Ob → SubR
  | 0 => fun _ _ _ _ _ => none
  | n + 1 => B10_1 lf (L10_1 lf n)
theorem B10_1_eq (lf : Nat) (self : V → Int → V → V → List Ob → SubR) (b : V) (sign : Int) (next : V) (x35 : V) (h : List Ob) : evCK A10 ⟨call10 lf, cvN, subC 0 (w10_0 (S10_0 lf)) (subN)⟩ k10_1 [(0, b), (2, (.int .i64 sign)), (7, next), (35, x35)] h (endL [0, 2, 7, 35] [.any, (.int .i64), .any, .any] o10_1 (w10_1 self)) = B10_1 lf self b sign next x35 h := by kernel_rfl
theorem L10_1_ok (lf : Nat) : ∀ n, SubOk Go.Proofs.Tryd.prog (.loop k10_1.er) [0, 2, 7, 35] o10_1 (w10_1 (L10_1 lf n)) := by
  refine SubOk.loop (A := A10) (σ := ⟨call10 lf, cvN, subC 0 (w10_0 (S10_0 lf)) (subN)⟩) (c := k10_1) (shs := [.any, (.int .i64), .any, .any]) (G := fun n => w10_1 (L10_1 lf n)) (call10_ok lf) cvN_ok (And.intro True.intro (And.intro (And.intro True.intro True.intro) (And.intro True.intro (And.intro True.intro (And.intro (S10_0_ok lf) (And.intro (And.intro True.intro (And.intro (And.intro True.intro True.intro) True.intro)) True.intro)))))) ?_ ?_
  · intro vs h r e0
    simp only [w10_1] at e0
    obtain ⟨c1, l1, rfl, e1⟩ := castCons_inv e0
    obtain ⟨c2, l2, rfl, e2⟩ := castCons_inv e1
    obtain ⟨y1, rfl, e3⟩ := castInt_inv e2
    obtain ⟨c3, l3, rfl, e4⟩ := castCons_inv e3
    obtain ⟨c4, l4, rfl, e5⟩ := castCons_inv e4
    obtain ⟨rfl, e6⟩ := castNil_inv e5
    have e := e6
    cases e
  · intro n vs h r e0
    simp only [w10_1] at e0
    obtain ⟨c1, l1, rfl, e1⟩ := castCons_inv e0
    obtain ⟨c2, l2, rfl, e2⟩ := castCons_inv e1
    obtain ⟨y1, rfl, e3⟩ := castInt_inv e2
    obtain ⟨c3, l3, rfl, e4⟩ := castCons_inv e3
    obtain ⟨c4, l4, rfl, e5⟩ := castCons_inv e4
    obtain ⟨rfl, e6⟩ := castNil_inv e5
    have e := e6
    exact (B10_1_eq lf (L10_1 lf n) c1 y1 c3 c4 h).trans e
def o10_2 : Outs := [((.exit 2), [], [])]
def k10_2 : KC := (.seq (.reg [⟨(some 96), none, (.nextM (.t 95)), []⟩, ⟨(some 97), none, (.op (.ext 0 (.t 96))), []⟩]) (.seq (.cond (.t 97) .skip (.exit 2)) (.block 3 (.seq (.reg [⟨(some 98), none, (.op (.entry (.t 95))), []⟩, ⟨(some 99), none, (.op (.ext 0 (.t 98))), []⟩, ⟨(some 13), none, (.op (.mv (.t 99))), []⟩]) (.reg [⟨(some 100), none, (.op (.mv (.t 12))), []⟩, ⟨(some 101), none, (.op (.mv (.t 13))), []⟩, ⟨(some 102), none, (.op (.mv (.t 1))), []⟩, ⟨(some 103), none, (.op (.nilck (.t 102))), []⟩, ⟨(some 104), none, (.op (.faddr 0 (.t 103))), []⟩, ⟨(some 105), none, (.op (.load1 (.t 104))), []⟩, ⟨(some 106), none, (.op (.mv (.t 13))), []⟩, ⟨(some 107), none, (.op (.lookup .s (.agg [.nils, (.int .i64 0)]) false (.t 105) (.t 106))), []⟩, ⟨(some 108), none, (.op (.field1 0 (.t 107))), []⟩, ⟨none, none, (.op (.mapupd .s (.t 100) (.t 101) (.t 108))), []⟩])))))
def w10_2 (f : V → V → V → List Ob → SubR) (vs : List V) (h : List Ob) : SubR := castCons vs fun c1 l1 => castCons l1 fun c2 l2 => castCons l2 fun c3 l3 => castNil l3 (f c1 c2 c3 h)
noncomputable def B10_2 (lf : Nat) (self : V → V → V → List Ob → SubR) (c : V) (rows : V) (x95 : V) (h : List Ob) : SubR :=
one2 (evNextM h x95) fun v h_ =>
bind1 (er (.ext 0 (.c v)) h_) fun v1 =>
castBool v1 fun x97 =>
cB x97 (
bind1 (er (.entry (.c x95)) h_) fun x98 =>
bind1 (er (.ext 0 (.c x98)) h_) fun v2 =>
castStr v2 fun x99 =>
bind1 (er (.nilck (.c c)) h_) fun x103 =>
bind1 (er (.faddr 0 (.c x103)) h_) fun x104 =>
bind1 (er (.load1 (.c x104)) h_) fun x105 =>
bind1 (er (.lookup .s (.agg [.nils, (.int .i64 0)]) false (.c x105) (.c (.str x99))) h_) fun v3 =>
castAgg v3 fun l =>
castCons l fun x107_0 l1 =>
castCons l1 fun c1 l2 =>
castInt .i64 c1 fun x107_1 =>
castNil l2 (
bind2 (ev (.mapupd .s (.c rows) (.c (.str x99)) (.c x107_0)) h_) fun u h_1 =>
self c rows x95 h_1)) (
some ((.exit 2), [], h_))
noncomputable def L10_2 (lf : Nat) : Nat → V → V → V → List Ob → SubR
  | 0 => fun _ _ _ _ => none
  | n + 1 => B10_2 lf (L10_2 lf n)
theorem B10_2_eq (lf : Nat) (self : V → V → V → List Ob → SubR) (c : V) (rows : V) (x95 : V) (h : List Ob) : evCK A10 ⟨call10 lf, cvN, subN⟩ k10_2 [(1, c), (12, rows), (95, x95)] h (endL [1, 12, 95] [.any, .any, .any] o10_2 (w10_2 self)) = B10_2 lf self c rows x95 h := by kernel_rfl
theorem L10_2_ok (lf : Nat) : ∀ n, SubOk Go.Proofs.Tryd.prog (.loop k10_2.er) [1, 12, 95] o10_2 (w10_2 (L10_2 lf n)) := by
  refine SubOk.loop (A := A10) (σ := ⟨call10 lf, cvN, subN⟩) (c := k10_2) (shs := [.any, .any, .any]) (G := fun n => w10_2 (L10_2 lf n)) (call10_ok lf) cvN_ok (And.intro True.intro (And.intro (And.intro True.intro True.intro) (And.intro True.intro True.intro))) ?_ ?_
  · intro vs h r e0
    simp only [w10_2] at e0
    obtain ⟨c1, l1, rfl, e1⟩ := castCons_inv e0
    obtain ⟨c2, l2, rfl, e2⟩ := castCons_inv e1
    obtain ⟨c3, l3, rfl, e3⟩ := castCons_inv e2
    obtain ⟨rfl, e4⟩ := castNil_inv e3
    have e := e4
    cases e
  · intro n vs h r e0
    simp only [w10_2] at e0
    obtain ⟨c1, l1, rfl, e1⟩ := castCons_inv e0
    obtain ⟨c2, l2, rfl, e2⟩ := castCons_inv e1
    obtain ⟨c3, l3, rfl, e3⟩ := castCons_inv e2
    obtain ⟨rfl, e4⟩ := castNil_inv e3
    have e := e4
    exact (B10_2_eq lf (L10_2 lf n) c1 c2 c3 h).trans e
def o10_3 : Outs := [((.exit 4), [], [])]
def k10_3 : KC := (.seq (.reg [⟨(some 111), none, (.nextM (.t 110)), []⟩, ⟨(some 112), none, (.op (.ext 0 (.t 111))), []⟩]) (.seq (.cond (.t 112) .skip (.exit 4)) (.block 5 (.seq (.reg [⟨(some 113), none, (.op (.entry (.t 110))), []⟩, ⟨(some 114), none, (.op (.ext 0 (.t 113))), []⟩, ⟨(some 115), none, (.op (.ext 1 (.t 113))), []⟩, ⟨(some 14), none, (.op (.mv (.t 114))), []⟩, ⟨(some 15), none, (.op (.mv (.t 115))), []⟩]) (.reg [⟨(some 116), none, (.op (.mv (.t 0))), []⟩, ⟨(some 117), none, (.op (.mv (.t 14))), []⟩, ⟨(some 118), none, (.op (.mv (.t 12))), []⟩, ⟨(some 119), none, (.op (.mv (.t 14))), []⟩, ⟨(some 120), none, (.op (.lookup .s .nils false (.t 118) (.t 119))), []⟩, ⟨(some 121), none, (.op (.mv (.t 15))), []⟩, ⟨(some 122), none, (.call 18 [(.t 116), (.t 117), (.t 120), (.t 121)]), []⟩])))))
def w10_3 (f : V → V → V → List Ob → SubR) (vs : List V) (h : List Ob) : SubR := castCons vs fun c1 l1 => castCons l1 fun c2 l2 => castCons l2 fun c3 l3 => castNil l3 (f c1 c2 c3 h)
noncomputable def B10_3 (lf : Nat) (self : V → V → V → List Ob → SubR) (b : V) (rows : V) (x110 : V) (h : List Ob) : SubR :=
one2 (evNextM h x110) fun v h_ =>
bind1 (er (.ext 0 (.c v)) h_) fun v1 =>
castBool v1 fun x112 =>
cB x112 (
bind1 (er (.entry (.c x110)) h_) fun x113 =>
bind1 (er (.ext 0 (.c x113)) h_) fun v2 =>
castStr v2 fun x114 =>
bind1 (er (.ext 1 (.c x113)) h_) fun v3 =>
castInt .i64 v3 fun x115 =>
bind1 (er (.lookup .s .nils false (.c rows) (.c (.str x114))) h_) fun x120 =>
bind2 (F18 lf b x114 x120 x115 h_) fun x122 h_1 =>
self b rows x110 h_1) (
some ((.exit 4), [], h_))
noncomputable def L10_3 (lf : Nat) : Nat → V → V → V → List Ob → SubR
  | 0 => fun _ _ _ _ => none
  | n + 1 => B10_3 lf (L10_3 lf n)
theorem B10_3_eq (lf : Nat) (self : V → V → V → List Ob → SubR) (b : V) (rows : V) (x110 : V) (h : List Ob) : evCK A10 ⟨call10 lf, cvN, subN⟩ k10_3 [(0, b), (12, rows), (110, x110)] h (endL [0, 12, 110] [.any, .any, .any] o10_3 (w10_3 self)) = B10_3 lf self b rows x110 h := by kernel_rfl
theorem L10_3_ok (lf : Nat) : ∀ n, SubOk Go.Proofs.Tryd.prog (.loop k10_3.er) [0, 12, 110] o10_3 (w10_3 (L10_3 lf n)) := by
  refine SubOk.loop (A := A10) (σ := ⟨call10 lf, cvN, subN⟩) (c := k10_3) (shs := [.any, .any, .any]) (G := fun n => w10_3 (L10_3 lf n)) (call10_ok lf) cvN_ok (And.intro True.intro (And.intro (And.intro True.intro True.intro) (And.intro True.intro True.intro))) ?_ ?_
  · intro vs h r e0
    simp only [w10_3] at e0
    obtain ⟨c1, l1, rfl, e1⟩ := castCons_inv e0
    obtain ⟨c2, l2, rfl, e2⟩ := castCons_inv e1
    obtain ⟨c3, l3, rfl, e3⟩ := castCons_inv e2
    obtain ⟨rfl, e4⟩ := castNil_inv e3
    have e := e4
    cases e
  · intro n vs h r e0
    simp only [w10_3] at e0
    obtain ⟨c1, l1, rfl, e1⟩ := castCons_inv e0
    obtain ⟨c2, l2, rfl, e2⟩ := castCons_inv e1
    obtain ⟨c3, l3, rfl, e3⟩ := castCons_inv e2
    obtain ⟨rfl, e4⟩ := castNil_inv e3
    have e := e4
    exact (B10_3_eq lf (L10_3 lf n) c1 c2 c3 h).trans e
def o10_4 : Outs := [(.ret, [6], [(.int .i64)]), (.normal, [], [])]
def k10_4 : KC := (.seq (.reg [⟨(some 16), none, (.op (.mv (.t 0))), []⟩, ⟨(some 17), none, (.op (.eq false .ptr (.t 16) (.c .nilp))), []⟩, ⟨(some 18), none, (.op (.mv (.t 17))), []⟩, ⟨(some 19), (some (18, false)), (.op (.mv (.t 1))), []⟩, ⟨(some 20), (some (18, false)), (.op (.eq false .ptr (.t 19) (.c .nilp))), []⟩, ⟨(some 21), none, (.op (.pick (.t 18) (.c (.bool true)) (.t 20))), []⟩, ⟨(some 22), none, (.op (.mv (.t 21))), []⟩, ⟨(some 23), (some (22, false)), (.op (.mv (.t 2))), []⟩, ⟨(some 24), (some (22, false)), (.op (.bin .neq (.t 23) (.c (.int .i64 1)))), []⟩, ⟨(some 25), (some (22, false)), (.op (.mv (.t 24))), []⟩, ⟨(some 26), (some (25, true)), (.op (.mv (.t 2))), []⟩, ⟨(some 27), (some (25, true)), (.op (.bin .neq (.t 26) (.c (.int .i64 (-0 - 1))))), []⟩, ⟨(some 28), (some (22, false)), (.op (.pick (.t 25) (.t 27) (.c (.bool false)))), []⟩, ⟨(some 29), none, (.op (.pick (.t 22) (.c (.bool true)) (.t 28))), []⟩]) (.cond (.t 29) (.seq (.reg [⟨(some 6), none, (.op (.mv (.c (.int .i64 1)))), []⟩]) .ret) .skip))
def w10_4 (f : V → V → Int → List Ob → SubR) (vs : List V) (h : List Ob) : SubR := castCons vs fun c1 l1 => castCons l1 fun c2 l2 => castCons l2 fun c3 l3 => castInt .i64 c3 fun n4 => castNil l3 (f c1 c2 n4 h)
noncomputable def S10_4 (lf : Nat) (b : V) (c : V) (sign : Int) (h : List Ob) : SubR :=
bind1 (er (.eq false .ptr (.c b) (.c V.nilp)) h) fun v =>
castBool v fun x17 =>
cB x17 (
some (.ret, [(.int .i64 (1))], h)) (
bind1 (er (.eq false .ptr (.c c) (.c V.nilp)) h) fun v1 =>
castBool v1 fun x20 =>
cB x20 (
some (.ret, [(.int .i64 (1))], h)) (
cB (sign != (1)) (
cB (sign != (-1)) (
some (.ret, [(.int .i64 (1))], h)) (
some (.normal, [], h))) (
some (.normal, [], h))))
theorem S10_4_eq (lf : Nat) (b : V) (c : V) (sign : Int) (h : List Ob) : evCK A10 ⟨call10 lf, cvN, subN⟩ k10_4 [(0, b), (1, c), (2, (.int .i64 sign))] h (endK o10_4) = S10_4 lf b c sign h := by kernel_rfl
theorem S10_4_ok (lf : Nat) : SubOk Go.Proofs.Tryd.prog k10_4.er [0, 1, 2] o10_4 (w10_4 (S10_4 lf)) := by
  refine SubOk.of (A := A10) (σ := ⟨call10 lf, cvN, subN⟩) (c := k10_4) (call10_ok lf) cvN_ok (And.intro True.intro (And.intro (And.intro True.intro True.intro) True.intro)) ?_
  intro vs h r e0
  simp only [w10_4] at e0
  obtain ⟨c1, l1, rfl, e1⟩ := castCons_inv e0
  obtain ⟨c2, l2, rfl, e2⟩ := castCons_inv e1
  obtain ⟨c3, l3, rfl, e3⟩ := castCons_inv e2
  obtain ⟨y2, rfl, e4⟩ := castInt_inv e3
  obtain ⟨rfl, e5⟩ := castNil_inv e4
  have e := e5
  exact (S10_4_eq lf c1 c2 y2 h).trans e
def k10 : KC := (.seq (.reg [⟨(some 6), none, (.op (.mv (.c (.int .i64 0)))), []⟩]) (.seq (.sub 4 k10_4.er [0, 1, 2] o10_4) (.seq (.reg [⟨(some 30), none, (.op .mkmap), []⟩, ⟨(some 7), none, (.op (.mv (.t 30))), []⟩]) (.seq (.seq (.reg [⟨(some 31), none, (.op (.mv (.t 1))), []⟩, ⟨(some 32), none, (.op (.nilck (.t 31))), []⟩, ⟨(some 33), none, (.op (.faddr 0 (.t 32))), []⟩, ⟨(some 34), none, (.op (.load1 (.t 33))), []⟩, ⟨(some 35), none, (.op (.rangeM (.t 34))), []⟩]) (.block 0 (.sub 1 (.loop k10_1.er) [0, 2, 7, 35] o10_1))) (.seq (.reg [⟨(some 93), none, (.op .mkmap), []⟩, ⟨(some 12), none, (.op (.mv (.t 93))), []⟩]) (.seq (.seq (.reg [⟨(some 94), none, (.op (.mv (.t 7))), []⟩, ⟨(some 95), none, (.op (.rangeM (.t 94))), []⟩]) (.block 2 (.sub 2 (.loop k10_2.er) [1, 12, 95] o10_2))) (.seq (.seq (.reg [⟨(some 109), none, (.op (.mv (.t 7))), []⟩, ⟨(some 110), none, (.op (.rangeM (.t 109))), []⟩]) (.block 4 (.sub 3 (.loop k10_3.er) [0, 12, 110] o10_3))) (.seq (.reg [⟨(some 6), none, (.op (.mv (.c (.int .i64 0)))), []⟩]) .ret))))))))
noncomputable def F10 (lf : Nat) (b : V) (c : V) (sign : Int) (h : List Ob) : Option (V × List Ob) :=
bind3 (S10_4 lf b c sign h) fun ex vs h_ =>
cB (decide (ex = .ret)) (
castCons vs fun c1 l =>
castInt .i64 c1 fun x6 =>
castNil l (
some ((.int .i64 x6), h_))) (
cB (decide (ex = .normal)) (
castNil vs (
bind2 (ev .mkmap h_) fun x30 h_1 =>
bind1 (er (.nilck (.c c)) h_1) fun x32 =>
bind1 (er (.faddr 0 (.c x32)) h_1) fun x33 =>
bind1 (er (.load1 (.c x33)) h_1) fun x34 =>
bind2 (ev (.rangeM (.c x34)) h_1) fun x35 h_2 =>
bind3 (L10_1 lf lf b sign x30 x35 h_2) fun ex1 vs1 h_3 =>
cB (decide (ex1 = (.exit 0))) (
castNil vs1 (
bind2 (ev .mkmap h_3) fun x93 h_4 =>
bind2 (ev (.rangeM (.c x30)) h_4) fun x95 h_5 =>
bind3 (L10_2 lf lf c x93 x95 h_5) fun ex2 vs2 h_6 =>
cB (decide (ex2 = (.exit 2))) (
castNil vs2 (
bind2 (ev (.rangeM (.c x30)) h_6) fun x110 h_7 =>
bind3 (L10_3 lf lf b x93 x110 h_7) fun ex3 vs3 h_8 =>
cB (decide (ex3 = (.exit 4))) (
castNil vs3 (
some ((.int .i64 (0)), h_8))) (
none))) (
none))) (
cB (decide (ex1 = .ret)) (
castCons vs1 fun c1 l =>
castInt .i64 c1 fun x6 =>
castNil l (
some ((.int .i64 x6), h_3))) (
none)))) (
none))
theorem F10_eq (lf : Nat) (b : V) (c : V) (sign : Int) (h : List Ob) : evCK A10 ⟨call10 lf, cvN, subC 3 (w10_3 (L10_3 lf lf)) (subC 2 (w10_2 (L10_2 lf lf)) (subC 1 (w10_1 (L10_1 lf lf)) (subC 4 (w10_4 (S10_4 lf)) (subN))))⟩ k10 (entryK [b, c, (.int .i64 sign)]) h (endF c10.res) = F10 lf b c sign h := by kernel_rfl
theorem F10_ok (lf : Nat) (b : V) (c : V) (sign : Int) (h : List Ob) (r_ : V) (h_r : List Ob) (e_ : F10 lf b c sign h = some (r_, h_r)) : CD Go.Proofs.Tryd.prog 10 [b, c, (.int .i64 sign)] h r_ h_r :=
  CD.ofK (A := A10) (σ := ⟨call10 lf, cvN, subC 3 (w10_3 (L10_3 lf lf)) (subC 2 (w10_2 (L10_2 lf lf)) (subC 1 (w10_1 (L10_1 lf lf)) (subC 4 (w10_4 (S10_4 lf)) (subN))))⟩) (c := k10) Go.Proofs.Tryd.func10 ok10 en10 (show 3 ≤ 123 by decide) (by kernel_rfl) (call10_ok lf) cvN_ok (And.intro True.intro (And.intro (S10_4_ok lf) (And.intro True.intro (And.intro (And.intro True.intro (L10_1_ok lf lf)) (And.intro True.intro (And.intro (And.intro True.intro (L10_2_ok lf lf)) (And.intro (And.intro True.intro (L10_3_ok lf lf)) (And.intro True.intro True.intro)))))))) ((F10_eq lf b c sign h).trans e_)
def w10 (f : V → V → Int → List Ob → Option (V × List Ob)) (vs : List V) (h : List Ob) : Option (V × List Ob) := castCons vs fun c1 l1 => castCons l1 fun c2 l2 => castCons l2 fun c3 l3 => castInt .i64 c3 fun n4 => castNil l3 (f c1 c2 n4 h)
noncomputable def W10 (lf : Nat) : List V → List Ob → Option (V × List Ob) := w10 (F10 lf)
theorem W10_ok (lf : Nat) : ∀ args h v h', W10 lf args h = some (v, h') → CD Go.Proofs.Tryd.prog 10 args h v h' := by
  intro vs h r h' e0
  simp only [W10, w10] at e0
  obtain ⟨c1, l1, rfl, e1⟩ := castCons_inv e0
  obtain ⟨c2, l2, rfl, e2⟩ := castCons_inv e1
  obtain ⟨c3, l3, rfl, e3⟩ := castCons_inv e2
  obtain ⟨y2, rfl, e4⟩ := castInt_inv e3
  obtain ⟨rfl, e5⟩ := castNil_inv e4
  have e := e5
  exact F10_ok lf c1 c2 y2 h r h' e

/-! 22: slices.EqualFunc[[]wainscot/bag.Entry,[]wainscot/bag.Entry,wainscot/bag.Entry,wainscot/bag.Entry] -/
def A22 : List (Nat × Sh) := [(6, .bool), (7, (.int .i64)), (11, (.int .i64)), (13, (.int .i64)), (14, .bool), (16, (.int .i64)), (17, (.int .i64)), (18, .bool), (19, (.int .i64)), (21, (.agg [.any, (.int .i64)])), (23, (.int .i64)), (25, (.agg [.any, (.int .i64)])), (27, (.agg [.any, (.int .i64)])), (28, (.agg [.any, (.int .i64)])), (29, .bool), (30, .bool), (31, (.int .i64))]
noncomputable def call22 (lf : Nat) (cv : CallVS) : CallS := callN
theorem call22_ok (lf : Nat) (cv : CallVS) (hcv : CvOk Go.Proofs.Tryd.prog cv) : CallOk Go.Proofs.Tryd.prog (call22 lf cv) := callN_ok
def o22_0 : Outs := [((.exit 0), [], []), (.ret, [6], [.bool])]
def k22_0 : KC := (.seq (.reg [⟨(some 18), none, (.op (.bin .lss (.t 17) (.t 16))), []⟩]) (.seq (.cond (.t 18) .skip (.exit 0)) (.seq (.block 1 (.seq (.reg [⟨(some 19), none, (.op (.mv (.t 17))), []⟩, ⟨(some 20), none, (.op (.iaddrL 2 (.t 15) (.t 17))), []⟩, ⟨(some 21), none, (.op (.loadN 2 (.t 20))), []⟩, ⟨(some 8), none, (.op (.alloc false (.agg [.nils, (.int .i64 0)]))), []⟩, ⟨(some 7), none, (.op (.mv (.t 19))), []⟩, ⟨none, none, (.op (.store 2 (.t 8) (.t 21))), []⟩]) (.seq (.reg [⟨(some 22), none, (.op (.mv (.t 1))), []⟩, ⟨(some 23), none, (.op (.mv (.t 7))), []⟩, ⟨(some 24), none, (.op (.iaddrL 2 (.t 22) (.t 23))), []⟩, ⟨(some 25), none, (.op (.loadN 2 (.t 24))), []⟩, ⟨(some 9), none, (.op (.alloc false (.agg [.nils, (.int .i64 0)]))), []⟩, ⟨none, none, (.op (.store 2 (.t 9) (.t 25))), []⟩]) (.seq (.reg [⟨(some 26), none, (.op (.mv (.t 2))), []⟩, ⟨(some 27), none, (.op (.loadN 2 (.t 8))), []⟩, ⟨(some 28), none, (.op (.loadN 2 (.t 9))), []⟩, ⟨(some 29), none, (.callv (.t 26) [(.t 27), (.t 28)]), []⟩, ⟨(some 30), none, (.op (.un .not (.t 29))), []⟩]) (.cond (.t 30) (.seq (.reg [⟨(some 6), none, (.op (.mv (.c (.bool false)))), []⟩]) .ret) .skip))))) (.reg [⟨(some 31), none, (.op (.bin .add (.t 17) (.c (.int .i64 1)))), []⟩, ⟨(some 17), none, (.op (.mv (.t 31))), []⟩]))))
def w22_0 (f : V → V → V → Int → Int → List Ob → SubR) (vs : List V) (h : List Ob) : SubR := castCons vs fun c1 l1 => castCons l1 fun c2 l2 => castCons l2 fun c3 l3 => castCons l3 fun c4 l4 => castInt .i64 c4 fun n5 => castCons l4 fun c6 l6 => castInt .i64 c6 fun n7 => castNil l6 (f c1 c2 c3 n5 n7 h)
noncomputable def B22_0 (lf : Nat) (cv : CallVS) (self : V → V → V → Int → Int → List Ob → SubR) (s2 : V) (eq : V) (x15 : V) (x16 : Int) (x17 : Int) (h : List Ob) : SubR :=
cB (decide (x17 < x16)) (
bind1 (er (.iaddrL 2 (.c x15) (.c (.int .i64 x17))) h) fun x20 =>
bind1 (er (.loadN 2 (.c x20)) h) fun v =>
castAgg v fun l =>
castCons l fun x21_0 l1 =>
castCons l1 fun c l2 =>
castInt .i64 c fun x21_1 =>
castNil l2 (
bind2 (ev (.alloc false (.agg [.nils, (.int .i64 0)])) h) fun v1 h_ =>
bind2 (ev (.store 2 (.c v1) (.c (.agg [x21_0, (.int .i64 x21_1)]))) h_) fun u h_1 =>
bind1 (er (.iaddrL 2 (.c s2) (.c (.int .i64 x17))) h_1) fun x24 =>
bind1 (er (.loadN 2 (.c x24)) h_1) fun v2 =>
castAgg v2 fun l3 =>
castCons l3 fun x25_0 l4 =>
castCons l4 fun c1 l5 =>
castInt .i64 c1 fun x25_1 =>
castNil l5 (
bind2 (ev (.alloc false (.agg [.nils, (.int .i64 0)])) h_1) fun v2_1 h_2 =>
bind2 (ev (.store 2 (.c v2_1) (.c (.agg [x25_0, (.int .i64 x25_1)]))) h_2) fun u1 h_3 =>
bind1 (er (.loadN 2 (.c v1)) h_3) fun v3 =>
castAgg v3 fun l6 =>
castCons l6 fun x27_0 l7 =>
castCons l7 fun c2 l8 =>
castInt .i64 c2 fun x27_1 =>
castNil l8 (
bind1 (er (.loadN 2 (.c v2_1)) h_3) fun v4 =>
castAgg v4 fun l9 =>
castCons l9 fun x28_0 l10 =>
castCons l10 fun c3 l11 =>
castInt .i64 c3 fun x28_1 =>
castNil l11 (
bind2 (cv eq [(.agg [x27_0, (.int .i64 x27_1)]), (.agg [x28_0, (.int .i64 x28_1)])] h_3) fun v5 h_4 =>
castBool v5 fun x29 =>
cB (!x29) (
some (.ret, [(.bool false)], h_4)) (
self s2 eq x15 x16 (IntKind.i64.wrap (x17 + (1))) h_4)))))) (
some ((.exit 0), [], h))
noncomputable def L22_0 (lf : Nat) (cv : CallVS) : Nat → V → V → V → Int → Int → List Ob → SubR
  | 0 => fun _ _ _ _ _ _ => none
  | n + 1 => B22_0 lf cv (L22_0 lf cv n)
theorem B22_0_eq (lf : Nat) (cv : CallVS) (self : V → V → V → Int → Int → List Ob → SubR) (s2 : V) (eq : V) (x15 : V) (x16 : Int) (x17 : Int) (h : List Ob) : evCK A22 ⟨call22 lf cv, cv, subN⟩ k22_0 [(1, s2), (2, eq), (15, x15), (16, (.int .i64 x16)), (17, (.int .i64 x17))] h (endL [1, 2, 15, 16, 17] [.any, .any, .any, (.int .i64), (.int .i64)] o22_0 (w22_0 self)) = B22_0 lf cv self s2 eq x15 x16 x17 h := by kernel_rfl
theorem L22_0_ok (lf : Nat) (cv : CallVS) (hcv : CvOk Go.Proofs.Tryd.prog cv) : ∀ n, SubOk Go.Proofs.Tryd.prog (.loop k22_0.er) [1, 2, 15, 16, 17] o22_0 (w22_0 (L22_0 lf cv n)) := by
  refine SubOk.loop (A := A22) (σ := ⟨call22 lf cv, cv, subN⟩) (c := k22_0) (shs := [.any, .any, .any, (.int .i64), (.int .i64)]) (G := fun n => w22_0 (L22_0 lf cv n)) (call22_ok lf cv hcv) hcv (And.intro True.intro (And.intro (And.intro True.intro True.intro) (And.intro (And.intro True.intro (And.intro True.intro (And.intro True.intro (And.intro (And.intro True.intro True.intro) True.intro)))) True.intro))) ?_ ?_
  · intro vs h r e0
    simp only [w22_0] at e0
    obtain ⟨c1, l1, rfl, e1⟩ := castCons_inv e0
    obtain ⟨c2, l2, rfl, e2⟩ := castCons_inv e1
    obtain ⟨c3, l3, rfl, e3⟩ := castCons_inv e2
    obtain ⟨c4, l4, rfl, e4⟩ := castCons_inv e3
    obtain ⟨y3, rfl, e5⟩ := castInt_inv e4
    obtain ⟨c5, l5, rfl, e6⟩ := castCons_inv e5
    obtain ⟨y4, rfl, e7⟩ := castInt_inv e6
    obtain ⟨rfl, e8⟩ := castNil_inv e7
    have e := e8
    cases e
  · intro n vs h r e0
    simp only [w22_0] at e0
    obtain ⟨c1, l1, rfl, e1⟩ := castCons_inv e0
    obtain ⟨c2, l2, rfl, e2⟩ := castCons_inv e1
    obtain ⟨c3, l3, rfl, e3⟩ := castCons_inv e2
    obtain ⟨c4, l4, rfl, e4⟩ := castCons_inv e3
    obtain ⟨y3, rfl, e5⟩ := castInt_inv e4
    obtain ⟨c5, l5, rfl, e6⟩ := castCons_inv e5
    obtain ⟨y4, rfl, e7⟩ := castInt_inv e6
    obtain ⟨rfl, e8⟩ := castNil_inv e7
    have e := e8
    exact (B22_0_eq lf cv (L22_0 lf cv n) c1 c2 c3 y3 y4 h).trans e
def k22 : KC := (.seq (.reg [⟨(some 6), none, (.op (.mv (.c (.bool false)))), []⟩]) (.seq (.seq (.reg [⟨(some 10), none, (.op (.mv (.t 0))), []⟩, ⟨(some 11), none, (.op (.lenL (.t 10))), []⟩, ⟨(some 12), none, (.op (.mv (.t 1))), []⟩, ⟨(some 13), none, (.op (.lenL (.t 12))), []⟩, ⟨(some 14), none, (.op (.bin .neq (.t 11) (.t 13))), []⟩]) (.cond (.t 14) (.seq (.reg [⟨(some 6), none, (.op (.mv (.c (.bool false)))), []⟩]) .ret) .skip)) (.seq (.seq (.reg [⟨(some 15), none, (.op (.mv (.t 0))), []⟩, ⟨(some 16), none, (.op (.lenL (.t 15))), []⟩, ⟨(some 17), none, (.op (.mv (.c (.int .i64 0)))), []⟩]) (.block 0 (.sub 0 (.loop k22_0.er) [1, 2, 15, 16, 17] o22_0))) (.seq (.reg [⟨(some 6), none, (.op (.mv (.c (.bool true)))), []⟩]) .ret))))
noncomputable def F22 (lf : Nat) (cv : CallVS) (s1 : V) (s2 : V) (eq : V) (h : List Ob) : Option (V × List Ob) :=
bind1 (er (.lenL (.c s1)) h) fun v =>
castInt .i64 v fun x11 =>
bind1 (er (.lenL (.c s2)) h) fun v1 =>
castInt .i64 v1 fun x13 =>
cB (x11 != x13) (
some ((.bool false), h)) (
bind1 (er (.lenL (.c s1)) h) fun v2 =>
castInt .i64 v2 fun x16 =>
bind3 (L22_0 lf cv lf s2 eq s1 x16 (0) h) fun ex vs h_ =>
cB (decide (ex = (.exit 0))) (
castNil vs (
some ((.bool true), h_))) (
cB (decide (ex = .ret)) (
castCons vs fun c l =>
castBool c fun x6 =>
castNil l (
some ((.bool x6), h_))) (
none)))
theorem F22_eq (lf : Nat) (cv : CallVS) (s1 : V) (s2 : V) (eq : V) (h : List Ob) : evCK A22 ⟨call22 lf cv, cv, subC 0 (w22_0 (L22_0 lf cv lf)) (subN)⟩ k22 (entryK [s1, s2, eq]) h (endF c22.res) = F22 lf cv s1 s2 eq h := by kernel_rfl
theorem F22_ok (lf : Nat) (cv : CallVS) (hcv : CvOk Go.Proofs.Tryd.prog cv) (s1 : V) (s2 : V) (eq : V) (h : List Ob) (r_ : V) (h_r : List Ob) (e_ : F22 lf cv s1 s2 eq h = some (r_, h_r)) : CD Go.Proofs.Tryd.prog 22 [s1, s2, eq] h r_ h_r :=
  CD.ofK (A := A22) (σ := ⟨call22 lf cv, cv, subC 0 (w22_0 (L22_0 lf cv lf)) (subN)⟩) (c := k22) Go.Proofs.Tryd.func22 ok22 en22 (show 3 ≤ 32 by decide) (by kernel_rfl) (call22_ok lf cv hcv) hcv (And.intro True.intro (And.intro (And.intro True.intro (And.intro (And.intro True.intro True.intro) True.intro)) (And.intro (And.intro True.intro (L22_0_ok lf cv hcv lf)) (And.intro True.intro True.intro)))) ((F22_eq lf cv s1 s2 eq h).trans e_)
def w22 (f : V → V → V → List Ob → Option (V × List Ob)) (vs : List V) (h : List Ob) : Option (V × List Ob) := castCons vs fun c1 l1 => castCons l1 fun c2 l2 => castCons l2 fun c3 l3 => castNil l3 (f c1 c2 c3 h)
noncomputable def W22 (lf : Nat) (cv : CallVS) : List V → List Ob → Option (V × List Ob) := w22 (F22 lf cv)
theorem W22_ok (lf : Nat) (cv : CallVS) (hcv : CvOk Go.Proofs.Tryd.prog cv) : ∀ args h v h', W22 lf cv args h = some (v, h') → CD Go.Proofs.Tryd.prog 22 args h v h' := by
  intro vs h r h' e0
  simp only [W22, w22] at e0
  obtain ⟨c1, l1, rfl, e1⟩ := castCons_inv e0
  obtain ⟨c2, l2, rfl, e2⟩ := castCons_inv e1
  obtain ⟨c3, l3, rfl, e3⟩ := castCons_inv e2
  obtain ⟨rfl, e4⟩ := castNil_inv e3
  have e := e4
  exact F22_ok lf cv hcv c1 c2 c3 h r h' e

/-! 12: wainscot/bag.Same -/
def A12 : List (Nat × Sh) := [(4, .bool), (9, .bool)]
noncomputable def cv12 (lf : Nat) : CallVS := cvN
theorem cv12_ok (lf : Nat) : CvOk Go.Proofs.Tryd.prog (cv12 lf) := cvN_ok
noncomputable def call12 (lf : Nat) : CallS := callC 22 (W22 lf (cv12 lf)) (callC 9 (W9 lf) (callN))
theorem call12_ok (lf : Nat) : CallOk Go.Proofs.Tryd.prog (call12 lf) := callC_ok (W22_ok lf (cv12 lf) (cv12_ok lf)) (callC_ok (W9_ok lf) (callN_ok))
def k12 : KC := (.seq (.reg [⟨(some 4), none, (.op (.mv (.c (.bool false)))), []⟩]) (.seq (.reg [⟨(some 5), none, (.op (.mv (.t 0))), []⟩, ⟨(some 6), none, (.call 9 [(.t 5)]), []⟩, ⟨(some 7), none, (.op (.mv (.t 1))), []⟩, ⟨(some 8), none, (.call 9 [(.t 7)]), []⟩, ⟨(some 9), none, (.call 22 [(.t 6), (.t 8), (.c (.fn 23 []))]), []⟩, ⟨(some 4), none, (.op (.mv (.t 9))), []⟩]) .ret))
noncomputable def F12 (lf : Nat) (a : V) (b : V) (h : List Ob) : Option (V × List Ob) :=
bind2 (F9 lf a h) fun x6 h_ =>
bind2 (F9 lf b h_) fun x8 h_1 =>
bind2 (F22 lf (cv12 lf) x6 x8 (.fn 23 []) h_1) fun v h_2 =>
castBool v fun x9 =>
some ((.bool x9), h_2)
theorem F12_eq (lf : Nat) (a : V) (b : V) (h : List Ob) : evCK A12 ⟨call12 lf, (cv12 lf), subN⟩ k12 (entryK [a, b]) h (endF c12.res) = F12 lf a b h := by kernel_rfl
theorem F12_ok (lf : Nat) (a : V) (b : V) (h : List Ob) (r_ : V) (h_r : List Ob) (e_ : F12 lf a b h = some (r_, h_r)) : CD Go.Proofs.Tryd.prog 12 [a, b] h r_ h_r :=
  CD.ofK (A := A12) (σ := ⟨call12 lf, (cv12 lf), subN⟩) (c := k12) Go.Proofs.Tryd.func12 ok12 en12 (show 2 ≤ 10 by decide) (by kernel_rfl) (call12_ok lf) (cv12_ok lf) (And.intro True.intro (And.intro True.intro True.intro)) ((F12_eq lf a b h).trans e_)
def w12 (f : V → V → List Ob → Option (V × List Ob)) (vs : List V) (h : List Ob) : Option (V × List Ob) := castCons vs fun c1 l1 => castCons l1 fun c2 l2 => castNil l2 (f c1 c2 h)
noncomputable def W12 (lf : Nat) : List V → List Ob → Option (V × List Ob) := w12 (F12 lf)
theorem W12_ok (lf : Nat) : ∀ args h v h', W12 lf args h = some (v, h') → CD Go.Proofs.Tryd.prog 12 args h v h' := by
  intro vs h r h' e0
  simp only [W12, w12] at e0
  obtain ⟨c1, l1, rfl, e1⟩ := castCons_inv e0
  obtain ⟨c2, l2, rfl, e2⟩ := castCons_inv e1
  obtain ⟨rfl, e3⟩ := castNil_inv e2
  have e := e3
  exact F12_ok lf c1 c2 h r h' e

/-! 3: wainscot/wainscotlaw14.BagNil -/
def A3 : List (Nat × Sh) := [(1, (.int .i64)), (4, .bool), (7, (.int .i64)), (8, .bool), (9, .bool), (10, .bool), (12, (.int .i64)), (13, .bool), (14, .bool), (15, .bool), (16, (.tup [.any, (.int .i64)])), (18, (.tup [.any, (.int .i64)])), (20, (.int .i64)), (23, (.int .i64)), (24, (.int .i64)), (25, .bool), (26, .bool), (29, (.int .i64)), (30, .bool), (31, .bool), (32, .bool), (34, (.int .i64)), (35, .bool), (36, .bool), (37, .bool), (40, (.int .i64)), (41, .bool), (42, .bool), (43, .bool), (44, (.int .i64)), (45, .bool), (46, .bool), (47, .bool), (50, (.int .i64)), (51, .bool), (52, .bool), (53, .bool), (55, (.int .i64)), (56, .bool), (57, .bool), (58, .bool), (61, .bool), (62, .bool), (63, .bool), (66, .bool), (67, .bool)]
noncomputable def call3 (lf : Nat) : CallS := callC 12 (W12 lf) (callC 11 (W11 lf) (callC 10 (W10 lf) (callC 9 (W9 lf) (callC 8 (W8 lf) (callC 7 (W7 lf) (callC 6 (W6 lf) (callC 5 (W5 lf) (callC 4 (W4 lf) (callN)))))))))
theorem call3_ok (lf : Nat) : CallOk Go.Proofs.Tryd.prog (call3 lf) := callC_ok (W12_ok lf) (callC_ok (W11_ok lf) (callC_ok (W10_ok lf) (callC_ok (W9_ok lf) (callC_ok (W8_ok lf) (callC_ok (W7_ok lf) (callC_ok (W6_ok lf) (callC_ok (W5_ok lf) (callC_ok (W4_ok lf) (callN_ok)))))))))
def o3_0 : Outs := [(.ret, [4], [.bool]), (.normal, [], [])]
def k3_0 : KC := (.seq (.reg [⟨(some 8), none, (.call 4 []), []⟩, ⟨(some 9), none, (.op (.un .not (.t 8))), []⟩, ⟨(some 10), none, (.op (.mv (.t 9))), []⟩, ⟨(some 11), (some (10, false)), (.op (.mv (.t 0))), []⟩, ⟨(some 12), (some (10, false)), (.op (.lenL (.t 11))), []⟩, ⟨(some 13), (some (10, false)), (.op (.bin .gtr (.t 12) (.c (.int .i64 50)))), []⟩, ⟨(some 14), none, (.op (.pick (.t 10) (.c (.bool true)) (.t 13))), []⟩]) (.cond (.t 14) (.seq (.reg [⟨(some 15), none, (.call 4 []), []⟩, ⟨(some 4), none, (.op (.mv (.t 15))), []⟩]) .ret) .skip))
def w3_0 (f : V → List Ob → SubR) (vs : List V) (h : List Ob) : SubR := castCons vs fun c1 l1 => castNil l1 (f c1 h)
noncomputable def S3_0 (lf : Nat) (row : V) (h : List Ob) : SubR :=
bind2 (F4 lf h) fun v h_ =>
castBool v fun x8 =>
cB (!x8) (
bind2 (F4 lf h_) fun v1 h_1 =>
castBool v1 fun x15 =>
some (.ret, [(.bool x15)], h_1)) (
bind1 (er (.lenL (.c row)) h_) fun v1 =>
castInt .i64 v1 fun x12 =>
cB (decide (x12 > (50))) (
bind2 (F4 lf h_) fun v2 h_1 =>
castBool v2 fun x15 =>
some (.ret, [(.bool x15)], h_1)) (
some (.normal, [], h_)))
theorem S3_0_eq (lf : Nat) (row : V) (h : List Ob) : evCK A3 ⟨call3 lf, cvN, subN⟩ k3_0 [(0, row)] h (endK o3_0) = S3_0 lf row h := by kernel_rfl
theorem S3_0_ok (lf : Nat) : SubOk Go.Proofs.Tryd.prog k3_0.er [0] o3_0 (w3_0 (S3_0 lf)) := by
  refine SubOk.of (A := A3) (σ := ⟨call3 lf, cvN, subN⟩) (c := k3_0) (call3_ok lf) cvN_ok (And.intro True.intro (And.intro (And.intro True.intro True.intro) True.intro)) ?_
  intro vs h r e0
  simp only [w3_0] at e0
  obtain ⟨c1, l1, rfl, e1⟩ := castCons_inv e0
  obtain ⟨rfl, e2⟩ := castNil_inv e1
  have e := e2
  exact (S3_0_eq lf c1 h).trans e
def k3 : KC := (.seq (.reg [⟨(some 4), none, (.op (.mv (.c (.bool false)))), []⟩]) (.seq (.sub 0 k3_0.er [0] o3_0) (.seq (.reg [⟨(some 5), none, (.op (.mv (.c .nilp))), []⟩]) (.seq (.reg [⟨(some 17), none, (.op (.mv (.t 5))), []⟩, ⟨(some 18), none, (.call 5 [(.t 17)]), []⟩, ⟨(some 16), none, (.op (.mv (.t 18))), []⟩, ⟨(some 19), none, (.op (.ext 0 (.t 16))), []⟩, ⟨(some 20), none, (.op (.ext 1 (.t 16))), []⟩, ⟨(some 6), none, (.op (.mv (.t 19))), []⟩, ⟨(some 7), none, (.op (.mv (.t 20))), []⟩]) (.seq (.reg [⟨(some 21), none, (.op (.mv (.t 5))), []⟩, ⟨(some 22), none, (.op (.mv (.t 0))), []⟩, ⟨(some 23), none, (.op (.mv (.t 1))), []⟩, ⟨(some 24), none, (.call 6 [(.t 21), (.t 22), (.t 23)]), []⟩, ⟨(some 25), none, (.op (.bin .eql (.t 24) (.c (.int .i64 1)))), []⟩, ⟨(some 26), none, (.op (.mv (.t 25))), []⟩, ⟨(some 27), (some (26, true)), (.op (.mv (.t 5))), []⟩, ⟨(some 28), (some (26, true)), (.op (.mv (.t 0))), []⟩, ⟨(some 29), (some (26, true)), (.call 7 [(.t 27), (.t 28)]), []⟩, ⟨(some 30), (some (26, true)), (.op (.bin .eql (.t 29) (.c (.int .i64 0)))), []⟩, ⟨(some 31), none, (.op (.pick (.t 26) (.t 30) (.c (.bool false)))), []⟩, ⟨(some 32), none, (.op (.mv (.t 31))), []⟩, ⟨(some 33), (some (32, true)), (.op (.mv (.t 5))), []⟩, ⟨(some 34), (some (32, true)), (.call 8 [(.t 33)]), []⟩, ⟨(some 35), (some (32, true)), (.op (.bin .eql (.t 34) (.c (.int .i64 0)))), []⟩, ⟨(some 36), none, (.op (.pick (.t 32) (.t 35) (.c (.bool false)))), []⟩, ⟨(some 37), none, (.op (.mv (.t 36))), []⟩, ⟨(some 38), (some (37, true)), (.op (.mv (.t 5))), []⟩, ⟨(some 39), (some (37, true)), (.call 9 [(.t 38)]), []⟩, ⟨(some 40), (some (37, true)), (.op (.lenL (.t 39))), []⟩, ⟨(some 41), (some (37, true)), (.op (.bin .eql (.t 40) (.c (.int .i64 0)))), []⟩, ⟨(some 42), none, (.op (.pick (.t 37) (.t 41) (.c (.bool false)))), []⟩, ⟨(some 43), none, (.op (.mv (.t 42))), []⟩, ⟨(some 44), (some (43, true)), (.op (.mv (.t 7))), []⟩, ⟨(some 45), (some (43, true)), (.op (.bin .eql (.t 44) (.c (.int .i64 1)))), []⟩, ⟨(some 46), none, (.op (.pick (.t 43) (.t 45) (.c (.bool false)))), []⟩, ⟨(some 47), none, (.op (.mv (.t 46))), []⟩, ⟨(some 48), (some (47, true)), (.op (.mv (.t 5))), []⟩, ⟨(some 49), (some (47, true)), (.call 11 []), []⟩, ⟨(some 50), (some (47, true)), (.call 10 [(.t 48), (.t 49), (.c (.int .i64 1))]), []⟩, ⟨(some 51), (some (47, true)), (.op (.bin .eql (.t 50) (.c (.int .i64 1)))), []⟩, ⟨(some 52), none, (.op (.pick (.t 47) (.t 51) (.c (.bool false)))), []⟩, ⟨(some 53), none, (.op (.mv (.t 52))), []⟩, ⟨(some 54), (some (53, true)), (.call 11 []), []⟩, ⟨(some 55), (some (53, true)), (.call 10 [(.t 54), (.c .nilp), (.c (.int .i64 1))]), []⟩, ⟨(some 56), (some (53, true)), (.op (.bin .eql (.t 55) (.c (.int .i64 1)))), []⟩, ⟨(some 57), none, (.op (.pick (.t 53) (.t 56) (.c (.bool false)))), []⟩, ⟨(some 58), none, (.op (.mv (.t 57))), []⟩, ⟨(some 59), (some (58, true)), (.op (.mv (.t 5))), []⟩, ⟨(some 60), (some (58, true)), (.call 11 []), []⟩, ⟨(some 61), (some (58, true)), (.call 12 [(.t 59), (.t 60)]), []⟩, ⟨(some 62), none, (.op (.pick (.t 58) (.t 61) (.c (.bool false)))), []⟩, ⟨(some 63), none, (.op (.mv (.t 62))), []⟩, ⟨(some 64), (some (63, true)), (.call 11 []), []⟩, ⟨(some 65), (some (63, true)), (.op (.mv (.t 5))), []⟩, ⟨(some 66), (some (63, true)), (.call 12 [(.t 64), (.t 65)]), []⟩, ⟨(some 67), none, (.op (.pick (.t 63) (.t 66) (.c (.bool false)))), []⟩, ⟨(some 4), none, (.op (.mv (.t 67))), []⟩]) .ret)))))
noncomputable def F3 (lf : Nat) (row : V) (n_ : Int) (h : List Ob) : Option (V × List Ob) :=
bind3 (S3_0 lf row h) fun ex vs h_ =>
cB (decide (ex = .ret)) (
castCons vs fun c l =>
castBool c fun x4 =>
castNil l (
some ((.bool x4), h_))) (
cB (decide (ex = .normal)) (
castNil vs (
bind2 (F5 lf V.nilp h_) fun v h_1 =>
castTup v fun l =>
castCons l fun x18_0 l1 =>
castCons l1 fun c l2 =>
castInt .i64 c fun x18_1 =>
castNil l2 (
bind2 (F6 lf V.nilp row n_ h_1) fun v1 h_2 =>
castInt .i64 v1 fun x24 =>
cB (x24 == (1)) (
bind2 (F7 lf V.nilp row h_2) fun v2 h_3 =>
castInt .i64 v2 fun x29 =>
cB (x29 == (0)) (
bind2 (F8 lf V.nilp h_3) fun v3 h_4 =>
castInt .i64 v3 fun x34 =>
cB (x34 == (0)) (
bind2 (F9 lf V.nilp h_4) fun x39 h_5 =>
bind1 (er (.lenL (.c x39)) h_5) fun v4 =>
castInt .i64 v4 fun x40 =>
cB (x40 == (0)) (
cB (x18_1 == (1)) (
bind2 (F11 lf h_5) fun x49 h_6 =>
bind2 (F10 lf V.nilp x49 (1) h_6) fun v5 h_7 =>
castInt .i64 v5 fun x50 =>
cB (x50 == (1)) (
bind2 (F11 lf h_7) fun x54 h_8 =>
bind2 (F10 lf x54 V.nilp (1) h_8) fun v6 h_9 =>
castInt .i64 v6 fun x55 =>
cB (x55 == (1)) (
bind2 (F11 lf h_9) fun x60 h_10 =>
bind2 (F12 lf V.nilp x60 h_10) fun v7 h_11 =>
castBool v7 fun x61 =>
cB x61 (
bind2 (F11 lf h_11) fun x64 h_12 =>
bind2 (F12 lf x64 V.nilp h_12) fun v8 h_13 =>
castBool v8 fun x66 =>
some ((.bool x66), h_13)) (
some ((.bool false), h_11))) (
some ((.bool false), h_9))) (
some ((.bool false), h_7))) (
some ((.bool false), h_5))) (
some ((.bool false), h_5))) (
some ((.bool false), h_4))) (
some ((.bool false), h_3))) (
some ((.bool false), h_2))))) (
none))
theorem F3_eq (lf : Nat) (row : V) (n_ : Int) (h : List Ob) : evCK A3 ⟨call3 lf, cvN, subC 0 (w3_0 (S3_0 lf)) (subN)⟩ k3 (entryK [row, (.int .i64 n_)]) h (endF c3.res) = F3 lf row n_ h := by kernel_rfl
theorem F3_ok (lf : Nat) (row : V) (n_ : Int) (h : List Ob) (r_ : V) (h_r : List Ob) (e_ : F3 lf row n_ h = some (r_, h_r)) : CD Go.Proofs.Tryd.prog 3 [row, (.int .i64 n_)] h r_ h_r :=
  CD.ofK (A := A3) (σ := ⟨call3 lf, cvN, subC 0 (w3_0 (S3_0 lf)) (subN)⟩) (c := k3) Go.Proofs.Tryd.func3 ok3 en3 (show 2 ≤ 68 by decide) (by kernel_rfl) (call3_ok lf) cvN_ok (And.intro True.intro (And.intro (S3_0_ok lf) (And.intro True.intro (And.intro True.intro (And.intro True.intro True.intro))))) ((F3_eq lf row n_ h).trans e_)
def w3 (f : V → Int → List Ob → Option (V × List Ob)) (vs : List V) (h : List Ob) : Option (V × List Ob) := castCons vs fun c1 l1 => castCons l1 fun c2 l2 => castInt .i64 c2 fun n3 => castNil l2 (f c1 n3 h)
noncomputable def W3 (lf : Nat) : List V → List Ob → Option (V × List Ob) := w3 (F3 lf)
theorem W3_ok (lf : Nat) : ∀ args h v h', W3 lf args h = some (v, h') → CD Go.Proofs.Tryd.prog 3 args h v h' := by
  intro vs h r h' e0
  simp only [W3, w3] at e0
  obtain ⟨c1, l1, rfl, e1⟩ := castCons_inv e0
  obtain ⟨c2, l2, rfl, e2⟩ := castCons_inv e1
  obtain ⟨y1, rfl, e3⟩ := castInt_inv e2
  obtain ⟨rfl, e4⟩ := castNil_inv e3
  have e := e4
  exact F3_ok lf c1 y1 h r h' e

end Go.Proofs.YtbjphicipgneaaaDoor.Bn
