/- Functions of the program as Lean functions, and that each call comes to what its function says. Printed by my own tool. No condition. -/
import Derived.Test.YtjpjeilfmjdhcaaProg
import Derived.Test.YtjpjeilfmjdhcaaL4
import Derived.Test.YtjpjeilfmjdhcaaSts
namespace Go.Proofs.Ytjpjeilfmjdhcaa.Ps
open Go Go.Proofs.Ytjpjeilfmjdhcaa.E
open Go.Proofs.Ytjpjeilfmjdhcaa.E.K
open Go.Proofs.Ytjpjeilfmjdhcaa.Ln
open Go.Proofs.Ytjpjeilfmjdhcaa.Ex
open Go.Proofs.Ytjpjeilfmjdhcaa.Rd
open Go.Proofs.Ytjpjeilfmjdhcaa.St
set_option maxRecDepth 100000
set_option linter.unusedVariables false
def zPs1:Sh := .agg [Sb,Sb,Sa,Sa,Sa,Sa,Sa,Si]
def zPs2:V := .agg [(.int .i64 0),(.str []),(.str []),(.bool false),.nils,.nils,.nils,.nils,.nils,(.bool false),(.bool false),.nils,.nils,.nils,.nils,.nils,(.int .i64 0)]
def zPs3:Sh := .agg [Si,Ss,Ss,Sb,Sa,Sa,Sa,Sa,Sa,Sb,Sb,Sa,Sa,Sa,Sa,Sa,Si]
def zPs4:Sh := .tup [zPs3,Si]
def zPs5:Sh := .agg [Ss,Si,Ss,Si,Si,Ss,Ss,Ss,Sa]
def zPs6:V := .agg [(.str []),(.int .i64 0),(.str []),(.int .i64 0),(.int .i64 0),(.str []),(.str []),(.str []),.nils]
def zPs7:Sh := .agg [Si,Ss,Si,Si,Ss,Ss,Ss,Sa]
def zPs8:Sh := .agg [Si,Ss,Si,Si,Ss,Ss,Ss,Sa,Ss]
def zPs9:V := .agg [(.int .i64 0),(.str []),(.int .i64 0),(.int .i64 0),(.str []),(.str []),(.str []),.nils,(.str [])]
def zPs10:Sh := .agg [Ss,Ss,Si,Ss,Si,Si,Ss,Ss,Ss,Sa]
def zPs11:V := .agg [(.str []),(.str []),(.int .i64 0),(.str []),(.int .i64 0),(.int .i64 0),(.str []),(.str []),(.str []),.nils]
def zPs12:Sh := .agg [Si,Ss,Si,Si,Ss,Ss,Ss,Sa,Sb]
def zPs13:V := .agg [(.int .i64 0),(.str []),(.int .i64 0),(.int .i64 0),(.str []),(.str []),(.str []),.nils,(.bool false)]
def A14 := mkA [(Sb,[2,32,41,42,46,47,48,52,53]),(Si,[4,11,14,17,20,23,26,27,30,31,35,37,38,39,40,45,51]),(zPs1,[8])]
noncomputable def x14 (lf:Nat):Cx Go.Proofs.Try.prog := .o
noncomputable def B14_0 (lf:Nat) (self:Int → V → Int → Int → List Ob → SubR) (most:Int) (x29:V) (x30:Int) (x31:Int) (h:List Ob):SubR :=
cB (decide (x31 < x30)) (
bind1 (er (.iaddrL 1 (.c x29) (.c (.int .i64 x31))) h) fun x33 =>
bind1 (er (.load1 (.c x33)) h) fun x34 =>
bind1 (er (.lenL (.c x34)) h) fun v =>
castInt .i64 v fun x37 =>
self (if x37 > most then x37 else most) x29 x30 (IntKind.i64.wrap (x31 + (1))) h) (
some ((.exit 0),[(.int .i64 most)],h))
noncomputable def L14_0 (lf:Nat):Nat → Int → V → Int → Int → List Ob → SubR
  | 0 => fun _ _ _ _ _ => none
  | n + 1 => B14_0 lf (L14_0 lf n)
noncomputable def p14_0 (lf:Nat):Pt Go.Proofs.Try.prog := .loop A14 (x14 lf) [] (sq [.reg [o 32 (.bin .lss 31 30)],.cond 32 .skip (.exit 0),.block 1 (sq [.reg [o 33 (.iaddrL 1 29 31),l1 34 33,mv 6 34],.reg [mv 35 4,mv 36 6,o 37 (.lenL 36),o 38 (.minmax true 35 37),mv 4 38]]),.reg [o 39 (.bin .add 31 (ci 1)),mv 31 39]]) [Si,Sa,Si,Si] [4,29,30,31] [((.exit 0),[4],[Si])] (B14_0 lf) (L14_0 lf) (fun _ _ _ _ _ => rfl) (fun _ => rfl) (fun _ _ _ _ _ _ => by kernel_rfl) lf
noncomputable def F14 (lf:Nat) (s:V) (h:List Ob):Option (V × List Ob) :=
bind2 (ev (.box false (.c s)) h) fun s1 h_ =>
bind1 (er (.faddr 9 (.c s1)) h_) fun x7 =>
bind1 (er (.loadN 8 (.c x7)) h_) fun v =>
castAgg v fun l =>
castCons l fun c l1 =>
castBool c fun x8_0 =>
castCons l1 fun c1 l2 =>
castBool c1 fun x8_1 =>
castCons l2 fun x8_2 l3 =>
castCons l3 fun x8_3 l4 =>
castCons l4 fun x8_4 l5 =>
castCons l5 fun x8_5 l6 =>
castCons l6 fun x8_6 l7 =>
castCons l7 fun c2 l8 =>
castInt .i64 c2 fun x8_7 =>
castNil l8 (
bind2 (ev (.alloc false (.agg [(.bool false),(.bool false),.nils,.nils,.nils,.nils,.nils,(.int .i64 0)])) h_) fun q h_1 =>
bind2 (ev (.store 8 (.c q) (.c (.agg [(.bool x8_0),(.bool x8_1),x8_2,x8_3,x8_4,x8_5,x8_6,(.int .i64 x8_7)]))) h_1) fun u h_2 =>
bind1 (er (.faddr 4 (.c s1)) h_2) fun x9 =>
bind1 (er (.load1 (.c x9)) h_2) fun x10 =>
bind1 (er (.lenL (.c x10)) h_2) fun v1 =>
castInt .i64 v1 fun x11 =>
bind1 (er (.faddr 5 (.c s1)) h_2) fun x12 =>
bind1 (er (.load1 (.c x12)) h_2) fun x13 =>
bind1 (er (.lenL (.c x13)) h_2) fun v2 =>
castInt .i64 v2 fun x14 =>
bind1 (er (.faddr 7 (.c s1)) h_2) fun x15 =>
bind1 (er (.load1 (.c x15)) h_2) fun x16 =>
bind1 (er (.lenL (.c x16)) h_2) fun v3 =>
castInt .i64 v3 fun x17 =>
bind1 (er (.faddr 2 (.c q)) h_2) fun x18 =>
bind1 (er (.load1 (.c x18)) h_2) fun x19 =>
bind1 (er (.lenL (.c x19)) h_2) fun v4 =>
castInt .i64 v4 fun x20 =>
bind1 (er (.faddr 5 (.c q)) h_2) fun x21 =>
bind1 (er (.load1 (.c x21)) h_2) fun x22 =>
bind1 (er (.lenL (.c x22)) h_2) fun v5 =>
castInt .i64 v5 fun x23 =>
bind1 (er (.faddr 6 (.c q)) h_2) fun x24 =>
bind1 (er (.load1 (.c x24)) h_2) fun x25 =>
bind1 (er (.lenL (.c x25)) h_2) fun v6 =>
castInt .i64 v6 fun x26 =>
bind1 (er (.faddr 6 (.c s1)) h_2) fun x28 =>
bind1 (er (.load1 (.c x28)) h_2) fun x29 =>
bind1 (er (.lenL (.c x29)) h_2) fun v7 =>
castInt .i64 v7 fun x30 =>
bind3 (L14_0 lf lf (mx2 (mx2 (mx2 (mx2 (mx2 x11 x14) x17) x20) x23) x26) x29 x30 (0) h_2) fun ex vs h_3 =>
cB (decide (ex = (.exit 0))) (
castCons vs fun c3 l9 =>
castInt .i64 c3 fun most =>
castNil l9 (
cB (decide (most > (8))) (
some ((.bool true),h_3)) (
bind1 (er (.faddr 6 (.c s1)) h_3) fun x43 =>
bind1 (er (.load1 (.c x43)) h_3) fun x44 =>
bind1 (er (.lenL (.c x44)) h_3) fun v8 =>
castInt .i64 v8 fun x45 =>
cB (decide (x45 > (10))) (
some ((.bool true),h_3)) (
bind1 (er (.faddr 3 (.c q)) h_3) fun x49 =>
bind1 (er (.load1 (.c x49)) h_3) fun x50 =>
bind1 (er (.lenL (.c x50)) h_3) fun v9 =>
castInt .i64 v9 fun x51 =>
some ((.bool (decide (x51 > (3)))),h_3))))) (
none))
noncomputable def W14 (lf:Nat):List V → List Ob → Option (V × List Ob) := wG [Sa] (F14 lf)
theorem W14_ok (lf:Nat):WOk Go.Proofs.Try.prog 14 (W14 lf) := FOk 54 [(.t 2)] A14 (x14 lf) [p14_0 lf] (sq [.reg [o 1 (.box false 0),mv 2 cF],.reg [fa 7 9 1,ln 8 8 7,o 3 (.alloc false (.agg [(.bool false),(.bool false),.nils,.nils,.nils,.nils,.nils,(.int .i64 0)])),st 8 3 8],.reg [fa 9 4 1,l1 10 9,o 11 (.lenL 10),fa 12 5 1,l1 13 12,o 14 (.lenL 13),fa 15 7 1,l1 16 15,o 17 (.lenL 16),fa 18 2 3,l1 19 18,o 20 (.lenL 19),fa 21 5 3,l1 22 21,o 23 (.lenL 22),fa 24 6 3,l1 25 24,o 26 (.lenL 25),o 27 (.maxN 11 [14,17,20,23,26]),mv 4 27],sq [.reg [fa 28 6 1,l1 29 28,o 30 (.lenL 29),mv 31 (ci 0)],.block 0 (.sub 0)],.reg [mv 40 4,o 41 (.bin .gtr 40 (ci 8)),mv 42 41,oF 43 42 (.faddr 6 1),oF 44 42 (.load1 43),oF 45 42 (.lenL 44),oF 46 42 (.bin .gtr 45 (ci 10)),o 47 (.pick 42 cT 46),mv 48 47,oF 49 48 (.faddr 3 3),oF 50 48 (.load1 49),oF 51 48 (.lenL 50),oF 52 48 (.bin .gtr 51 (ci 3)),o 53 (.pick 48 cT 52),mv 2 53],.ret]) [Sa] _ Go.Proofs.Try.func14 (by kernel_rfl) (by kernel_rfl) (by kernel_rfl) (fun _ _ => by kernel_rfl)
def A5 := mkA [(Ss,[0,9]),(Si,[3,5,12,13,16,44,51]),(.tup [Sa,Si],[8,10]),(Sb,[14,27,32,33,39,45,52,54]),(.agg [Sa],[19])]
noncomputable def x5 (lf:Nat):Cx Go.Proofs.Try.prog := .c (.c (.c (.c (.c (.c (.c (.c .o (W7_ok lf)) (W8_ok lf)) (W9_ok lf)) (W10_ok lf)) (W11_ok lf)) (W12_ok lf)) (W13_ok lf)) (W14_ok lf)
noncomputable def S5_0 (lf:Nat) (r:V) (h:List Ob):SubR :=
bind1 (er (.nilck (.c r)) h) fun x29 =>
bind1 (er (.faddr 0 (.c x29)) h) fun x30 =>
bind1 (er (.load1 (.c x30)) h) fun x31 =>
bind2 (F11 lf x31 h) fun v h_ =>
castBool v fun x32 =>
cB (!x32) (
bind1 (er (.nilck (.c r)) h_) fun x35 =>
bind1 (er (.faddr 0 (.c x35)) h_) fun x36 =>
bind1 (er (.load1 (.c x36)) h_) fun x37 =>
bind2 (F12 lf x37 h_) fun x38 h_1 =>
some (.normal,[],h_1)) (
some (.normal,[],h_))
noncomputable def p5_0 (lf:Nat):Pt Go.Proofs.Try.prog := .of A5 (x5 lf) [] (sq [.reg [mv 28 6,nk 29 28,fa 30 0 29,l1 31 30,ca 32 11 [31],o 33 (.un .not 32)],.cond 33 (.reg [mv 34 6,nk 35 34,fa 36 0 35,l1 37 36,ca 38 12 [37]]) .skip]) [Sa] [6] [(.normal,[],[])] (S5_0 lf) (fun _ _ => by kernel_rfl)
noncomputable def F5 (lf:Nat) (text:List UInt8) (h:List Ob):Option (V × List Ob) :=
bind2 (ev (.alloc false (.agg [(.int .i64 0),(.str []),(.str []),(.bool false),.nils,.nils,.nils,.nils,.nils,(.bool false),(.bool false),.nils,.nils,.nils,.nils,.nils,(.int .i64 0)])) h) fun x2 h_ =>
bind2 (F7 lf text h_) fun v h_1 =>
castTup v fun l =>
castCons l fun x10_0 l1 =>
castCons l1 fun c l2 =>
castInt .i64 c fun x10_1 =>
castNil l2 (
cB (x10_1 != (0)) (
bind1 (er (.build [(.int .i64 0),(.str []),(.str []),(.bool false),.nils,.nils,.nils,.nils,.nils,(.bool false),(.bool false),.nils,.nils,.nils,.nils,.nils,(.int .i64 0)] []) h_1) fun x15 =>
bind2 (ev (.store 17 (.c x2) (.c x15)) h_1) fun u h_2 =>
bind1 (evLoadN h_2 17 x2) fun r =>
some ((.tup [r,(.int .i64 x10_1)]),h_2)) (
bind2 (F8 lf x10_0 h_1) fun x18 h_2 =>
bind1 (er (.build [.nilp] [(0,(1,(.c x18)))]) h_2) fun v1 =>
castAgg v1 fun l3 =>
castCons l3 fun x19_0 l4 =>
castNil l4 (
bind2 (ev (.box false (.c (.agg [x19_0]))) h_2) fun x20 h_3 =>
bind2 (F9 lf x20 h_3) fun x22 h_4 =>
bind2 (ev (.alloc false (.agg [(.int .i64 0),(.str []),(.str []),(.bool false),.nils,.nils,.nils,.nils,.nils,(.bool false),(.bool false),.nils,.nils,.nils,.nils,.nils,(.int .i64 0)])) h_4) fun s h_5 =>
bind2 (ev (.store 17 (.c s) (.c x22)) h_5) fun u h_6 =>
bind1 (er (.nilck (.c x20)) h_6) fun x24 =>
bind1 (er (.faddr 0 (.c x24)) h_6) fun x25 =>
bind1 (er (.load1 (.c x25)) h_6) fun x26 =>
bind2 (F10 lf x26 [59] h_6) fun v2 h_7 =>
castBool v2 fun x27 =>
bind3 (S5_0 lf x20 h_7) fun ex vs h_8 =>
cB (decide (ex = .normal)) (
castNil vs (
bind1 (er (.nilck (.c x20)) h_8) fun x41 =>
bind1 (er (.faddr 0 (.c x41)) h_8) fun x42 =>
bind1 (er (.load1 (.c x42)) h_8) fun x43 =>
bind2 (F13 lf x43 h_8) fun v3 h_9 =>
castInt .i64 v3 fun x44 =>
cB (x44 != (0)) (
bind1 (er (.build [(.int .i64 0),(.str []),(.str []),(.bool false),.nils,.nils,.nils,.nils,.nils,(.bool false),(.bool false),.nils,.nils,.nils,.nils,.nils,(.int .i64 0)] []) h_9) fun x46 =>
bind1 (er (.nilck (.c x20)) h_9) fun x48 =>
bind1 (er (.faddr 0 (.c x48)) h_9) fun x49 =>
bind1 (er (.load1 (.c x49)) h_9) fun x50 =>
bind2 (F13 lf x50 h_9) fun v4 h_10 =>
castInt .i64 v4 fun x51 =>
bind2 (ev (.store 17 (.c x2) (.c x46)) h_10) fun u1 h_11 =>
bind1 (evLoadN h_11 17 x2) fun r =>
some ((.tup [r,(.int .i64 x51)]),h_11)) (
bind1 (er (.loadN 17 (.c s)) h_9) fun x53 =>
bind2 (F14 lf x53 h_9) fun v4 h_10 =>
castBool v4 fun x54 =>
cB x54 (
bind1 (er (.build [(.int .i64 0),(.str []),(.str []),(.bool false),.nils,.nils,.nils,.nils,.nils,(.bool false),(.bool false),.nils,.nils,.nils,.nils,.nils,(.int .i64 0)] []) h_10) fun x55 =>
bind2 (ev (.store 17 (.c x2) (.c x55)) h_10) fun u1 h_11 =>
bind1 (evLoadN h_11 17 x2) fun r =>
some ((.tup [r,(.int .i64 (5))]),h_11)) (
bind1 (er (.loadN 17 (.c s)) h_10) fun x56 =>
bind2 (ev (.store 17 (.c x2) (.c x56)) h_10) fun u1 h_11 =>
bind1 (evLoadN h_11 17 x2) fun r =>
some ((.tup [r,(.int .i64 (0))]),h_11))))) (
none))))
noncomputable def W5 (lf:Nat):List V → List Ob → Option (V × List Ob) := wG [Ss] (F5 lf)
theorem W5_ok (lf:Nat):WOk Go.Proofs.Try.prog 5 (W5 lf) := FOk 57 [(.ln 17 2),(.t 3)] A5 (x5 lf) [p5_0 lf] (sq [.reg [o 2 (.alloc false zPs2),mv 3 (ci 0)],.reg [mv 9 0,ca 10 7 [9],mv 8 10,o 11 (.ext 0 8),o 12 (.ext 1 8),mv 4 11,mv 5 12],sq [.reg [mv 13 5,o 14 (.bin .neq 13 (ci 0))],.cond 14 (sq [.reg [o 15 (.build [(.int .i64 0),(.str []),(.str []),(.bool false),.nils,.nils,.nils,.nils,.nils,(.bool false),(.bool false),.nils,.nils,.nils,.nils,.nils,(.int .i64 0)] []),mv 16 5,st 17 2 15,mv 3 16],.ret]) .skip],.reg [mv 17 4,ca 18 8 [17],o 19 (.build [.nilp] [(0,(1,18))]),o 20 (.box false 19),mv 6 20],.reg [mv 21 6,ca 22 9 [21],o 7 (.alloc false zPs2),st 17 7 22],.reg [mv 23 6,nk 24 23,fa 25 0 24,l1 26 25,ca 27 10 [26,(.c (.str [59]))]],.sub 0,.block 0 (sq [.reg [mv 40 6,nk 41 40,fa 42 0 41,l1 43 42,ca 44 13 [43],o 45 (.bin .neq 44 (ci 0)),mv 39 45],.cond 39 (sq [.reg [o 46 (.build [(.int .i64 0),(.str []),(.str []),(.bool false),.nils,.nils,.nils,.nils,.nils,(.bool false),(.bool false),.nils,.nils,.nils,.nils,.nils,(.int .i64 0)] []),mv 47 6,nk 48 47,fa 49 0 48,l1 50 49,ca 51 13 [50],st 17 2 46,mv 3 51],.ret]) (sq [.reg [ln 53 17 7,ca 54 14 [53],mv 52 54],.cond 52 (sq [.reg [o 55 (.build [(.int .i64 0),(.str []),(.str []),(.bool false),.nils,.nils,.nils,.nils,.nils,(.bool false),(.bool false),.nils,.nils,.nils,.nils,.nils,(.int .i64 0)] []),st 17 2 55,mv 3 (ci 5)],.ret]) .skip])]),.reg [ln 56 17 7,st 17 2 56,mv 3 (ci 0)],.ret]) [Ss] _ Go.Proofs.Try.func5 (by kernel_rfl) (by kernel_rfl) (by kernel_rfl) (fun _ _ => by kernel_rfl)
def A4 := mkA [(Sb,[0,8,9,12,13,14,17,18]),(Si,[2,6,7,11]),(zPs4,[3,4]),(Ss,[16])]
noncomputable def x4 (lf:Nat):Cx Go.Proofs.Try.prog := .c .o (W5_ok lf)
noncomputable def F4 (lf:Nat) (h:List Ob):Option (V × List Ob) :=
bind2 (F5 lf [68,82,79,80,32,84,65,66,76,69,32,116,59] h) fun v h_ =>
castTup v fun l =>
castCons l fun c l1 =>
castAgg c fun l2 =>
castCons l2 fun c1 l3 =>
castInt .i64 c1 fun x4_0_0 =>
castCons l3 fun c2 l4 =>
castStr c2 fun x4_0_1 =>
castCons l4 fun c3 l5 =>
castStr c3 fun x4_0_2 =>
castCons l5 fun c4 l6 =>
castBool c4 fun x4_0_3 =>
castCons l6 fun x4_0_4 l7 =>
castCons l7 fun x4_0_5 l8 =>
castCons l8 fun x4_0_6 l9 =>
castCons l9 fun x4_0_7 l10 =>
castCons l10 fun x4_0_8 l11 =>
castCons l11 fun c5 l12 =>
castBool c5 fun x4_0_9 =>
castCons l12 fun c6 l13 =>
castBool c6 fun x4_0_10 =>
castCons l13 fun x4_0_11 l14 =>
castCons l14 fun x4_0_12 l15 =>
castCons l15 fun x4_0_13 l16 =>
castCons l16 fun x4_0_14 l17 =>
castCons l17 fun x4_0_15 l18 =>
castCons l18 fun c7 l19 =>
castInt .i64 c7 fun x4_0_16 =>
castNil l19 (
castCons l1 fun c8 l20 =>
castInt .i64 c8 fun x4_1 =>
castNil l20 (
bind2 (ev (.alloc false (.agg [(.int .i64 0),(.str []),(.str []),(.bool false),.nils,.nils,.nils,.nils,.nils,(.bool false),(.bool false),.nils,.nils,.nils,.nils,.nils,(.int .i64 0)])) h_) fun s h_1 =>
bind2 (ev (.store 17 (.c s) (.c (.agg [(.int .i64 x4_0_0),(.str x4_0_1),(.str x4_0_2),(.bool x4_0_3),x4_0_4,x4_0_5,x4_0_6,x4_0_7,x4_0_8,(.bool x4_0_9),(.bool x4_0_10),x4_0_11,x4_0_12,x4_0_13,x4_0_14,x4_0_15,(.int .i64 x4_0_16)]))) h_1) fun u h_2 =>
cB (x4_1 == (0)) (
bind1 (er (.faddr 0 (.c s)) h_2) fun x10 =>
bind1 (er (.load1 (.c x10)) h_2) fun v1 =>
castInt .i64 v1 fun x11 =>
cB (x11 == (4)) (
bind1 (er (.faddr 1 (.c s)) h_2) fun x15 =>
bind1 (er (.load1 (.c x15)) h_2) fun v2 =>
castStr v2 fun x16 =>
some ((.bool (x16 == [116])),h_2)) (
some ((.bool false),h_2))) (
some ((.bool false),h_2))))
noncomputable def W4 (lf:Nat):List V → List Ob → Option (V × List Ob) := wG [] (F4 lf)
theorem W4_ok (lf:Nat):WOk Go.Proofs.Try.prog 4 (W4 lf) := FOk 19 [(.t 0)] A4 (x4 lf) [] (sq [.reg [mv 0 cF],.reg [ca 4 5 [(.c (.str [68,82,79,80,32,84,65,66,76,69,32,116,59]))],mv 3 4,o 5 (.ext 0 3),o 6 (.ext 1 3),o 1 (.alloc false zPs2),st 17 1 5,mv 2 6],.reg [mv 7 2,o 8 (.bin .eql 7 (ci 0)),mv 9 8,oT 10 9 (.faddr 0 1),oT 11 9 (.load1 10),oT 12 9 (.bin .eql 11 (ci 4)),o 13 (.pick 9 12 cF),mv 14 13,oT 15 14 (.faddr 1 1),oT 16 14 (.load1 15),oT 17 14 (.bin .eql 16 (.c (.str [116]))),o 18 (.pick 14 17 cF),mv 0 18],.ret]) [] _ Go.Proofs.Try.func4 (by kernel_rfl) (by kernel_rfl) (by kernel_rfl) (fun _ => by kernel_rfl)
def A15 := mkA [(Sb,[4,10,14,24]),(Si,[5,7,9,12,13,15,17,21,25]),(.agg [Ss,Si,Sb,Sb],[19,23])]
noncomputable def x15 (lf:Nat):Cx Go.Proofs.Try.prog := .o
noncomputable def B15_0 (lf:Nat) (self:V → V → Int → Int → List Ob → SubR) (s1:V) (s2:V) (x12:Int) (x13:Int) (h:List Ob):SubR :=
cB (decide (x13 < x12)) (
bind1 (er (.iaddrL 4 (.c s1) (.c (.int .i64 x13))) h) fun x18 =>
bind1 (er (.loadN 4 (.c x18)) h) fun v =>
castAgg v fun l =>
castCons l fun c l1 =>
castStr c fun x19_0 =>
castCons l1 fun c1 l2 =>
castInt .i64 c1 fun x19_1 =>
castCons l2 fun c2 l3 =>
castBool c2 fun x19_2 =>
castCons l3 fun c3 l4 =>
castBool c3 fun x19_3 =>
castNil l4 (
bind1 (er (.iaddrL 4 (.c s2) (.c (.int .i64 x13))) h) fun x22 =>
bind1 (er (.loadN 4 (.c x22)) h) fun v1 =>
castAgg v1 fun l5 =>
castCons l5 fun c4 l6 =>
castStr c4 fun x23_0 =>
castCons l6 fun c5 l7 =>
castInt .i64 c5 fun x23_1 =>
castCons l7 fun c6 l8 =>
castBool c6 fun x23_2 =>
castCons l8 fun c7 l9 =>
castBool c7 fun x23_3 =>
castNil l9 (
bind1 (er (.eq true (.struct 4 [(0,.s),(1,.i),(2,.b),(3,.b)]) (.c (.agg [(.str x19_0),(.int .i64 x19_1),(.bool x19_2),(.bool x19_3)])) (.c (.agg [(.str x23_0),(.int .i64 x23_1),(.bool x23_2),(.bool x23_3)]))) h) fun v2 =>
castBool v2 fun x24 =>
cB x24 (
some (.ret,[(.bool false)],h)) (
self s1 s2 x12 (IntKind.i64.wrap (x13 + (1))) h)))) (
some ((.exit 0),[],h))
noncomputable def L15_0 (lf:Nat):Nat → V → V → Int → Int → List Ob → SubR
  | 0 => fun _ _ _ _ _ => none
  | n + 1 => B15_0 lf (L15_0 lf n)
noncomputable def p15_0 (lf:Nat):Pt Go.Proofs.Try.prog := .loop A15 (x15 lf) [] (sq [.reg [o 14 (.bin .lss 13 12)],.cond 14 .skip (.exit 0),.block 1 (sq [.reg [mv 15 13,mv 5 15],.reg [mv 16 0,mv 17 5,o 18 (.iaddrL 4 16 17),ln 19 4 18,mv 20 1,mv 21 5,o 22 (.iaddrL 4 20 21),ln 23 4 22,o 24 (.eq true (.struct 4 [(0,.s),(1,.i),(2,.b),(3,.b)]) 19 23)],.cond 24 (sq [.reg [mv 4 cF],.ret]) .skip]),.reg [o 25 (.bin .add 13 (ci 1)),mv 13 25]]) [Sa,Sa,Si,Si] [0,1,12,13] [((.exit 0),[],[]),(.ret,[4],[Sb])] (B15_0 lf) (L15_0 lf) (fun _ _ _ _ _ => rfl) (fun _ => rfl) (fun _ _ _ _ _ _ => by kernel_rfl) lf
noncomputable def F15 (lf:Nat) (s1:V) (s2:V) (h:List Ob):Option (V × List Ob) :=
bind1 (er (.lenL (.c s1)) h) fun v =>
castInt .i64 v fun x7 =>
bind1 (er (.lenL (.c s2)) h) fun v1 =>
castInt .i64 v1 fun x9 =>
cB (x7 != x9) (
some ((.bool false),h)) (
bind1 (er (.lenL (.c s1)) h) fun v2 =>
castInt .i64 v2 fun x12 =>
bind3 (L15_0 lf lf s1 s2 x12 (0) h) fun ex vs h_ =>
cB (decide (ex = (.exit 0))) (
castNil vs (
some ((.bool true),h_))) (
cB (decide (ex = .ret)) (
castCons vs fun c l =>
castBool c fun x4 =>
castNil l (
some ((.bool x4),h_))) (
none)))
noncomputable def W15 (lf:Nat):List V → List Ob → Option (V × List Ob) := wG [Sa,Sa] (F15 lf)
theorem W15_ok (lf:Nat):WOk Go.Proofs.Try.prog 15 (W15 lf) := FOk 26 [(.t 4)] A15 (x15 lf) [p15_0 lf] (sq [.reg [mv 4 cF],sq [.reg [mv 6 0,o 7 (.lenL 6),mv 8 1,o 9 (.lenL 8),o 10 (.bin .neq 7 9)],.cond 10 (sq [.reg [mv 4 cF],.ret]) .skip],sq [.reg [mv 11 0,o 12 (.lenL 11),mv 13 (ci 0)],.block 0 (.sub 0)],.reg [mv 4 cT],.ret]) [Sa,Sa] _ Go.Proofs.Try.func15 (by kernel_rfl) (by kernel_rfl) (by kernel_rfl) (fun _ _ _ => by kernel_rfl)
def A16 := mkA [(Sb,[4,10,14,24]),(Si,[5,7,9,12,13,15,17,21,25]),(Ss,[19,23])]
noncomputable def x16 (lf:Nat):Cx Go.Proofs.Try.prog := .o
noncomputable def B16_0 (lf:Nat) (self:V → V → Int → Int → List Ob → SubR) (s1:V) (s2:V) (x12:Int) (x13:Int) (h:List Ob):SubR :=
cB (decide (x13 < x12)) (
bind1 (er (.iaddrL 1 (.c s1) (.c (.int .i64 x13))) h) fun x18 =>
bind1 (er (.load1 (.c x18)) h) fun v =>
castStr v fun x19 =>
bind1 (er (.iaddrL 1 (.c s2) (.c (.int .i64 x13))) h) fun x22 =>
bind1 (er (.load1 (.c x22)) h) fun v1 =>
castStr v1 fun x23 =>
cB (!(x19 == x23)) (
some (.ret,[(.bool false)],h)) (
self s1 s2 x12 (IntKind.i64.wrap (x13 + (1))) h)) (
some ((.exit 0),[],h))
noncomputable def L16_0 (lf:Nat):Nat → V → V → Int → Int → List Ob → SubR
  | 0 => fun _ _ _ _ _ => none
  | n + 1 => B16_0 lf (L16_0 lf n)
noncomputable def p16_0 (lf:Nat):Pt Go.Proofs.Try.prog := .loop A16 (x16 lf) [] (sq [.reg [o 14 (.bin .lss 13 12)],.cond 14 .skip (.exit 0),.block 1 (sq [.reg [mv 15 13,mv 5 15],.reg [mv 16 0,mv 17 5,o 18 (.iaddrL 1 16 17),l1 19 18,mv 20 1,mv 21 5,o 22 (.iaddrL 1 20 21),l1 23 22,o 24 (.bin .neq 19 23)],.cond 24 (sq [.reg [mv 4 cF],.ret]) .skip]),.reg [o 25 (.bin .add 13 (ci 1)),mv 13 25]]) [Sa,Sa,Si,Si] [0,1,12,13] [((.exit 0),[],[]),(.ret,[4],[Sb])] (B16_0 lf) (L16_0 lf) (fun _ _ _ _ _ => rfl) (fun _ => rfl) (fun _ _ _ _ _ _ => by kernel_rfl) lf
noncomputable def F16 (lf:Nat) (s1:V) (s2:V) (h:List Ob):Option (V × List Ob) :=
bind1 (er (.lenL (.c s1)) h) fun v =>
castInt .i64 v fun x7 =>
bind1 (er (.lenL (.c s2)) h) fun v1 =>
castInt .i64 v1 fun x9 =>
cB (x7 != x9) (
some ((.bool false),h)) (
bind1 (er (.lenL (.c s1)) h) fun v2 =>
castInt .i64 v2 fun x12 =>
bind3 (L16_0 lf lf s1 s2 x12 (0) h) fun ex vs h_ =>
cB (decide (ex = (.exit 0))) (
castNil vs (
some ((.bool true),h_))) (
cB (decide (ex = .ret)) (
castCons vs fun c l =>
castBool c fun x4 =>
castNil l (
some ((.bool x4),h_))) (
none)))
noncomputable def W16 (lf:Nat):List V → List Ob → Option (V × List Ob) := wG [Sa,Sa] (F16 lf)
theorem W16_ok (lf:Nat):WOk Go.Proofs.Try.prog 16 (W16 lf) := FOk 26 [(.t 4)] A16 (x16 lf) [p16_0 lf] (sq [.reg [mv 4 cF],sq [.reg [mv 6 0,o 7 (.lenL 6),mv 8 1,o 9 (.lenL 8),o 10 (.bin .neq 7 9)],.cond 10 (sq [.reg [mv 4 cF],.ret]) .skip],sq [.reg [mv 11 0,o 12 (.lenL 11),mv 13 (ci 0)],.block 0 (.sub 0)],.reg [mv 4 cT],.ret]) [Sa,Sa] _ Go.Proofs.Try.func16 (by kernel_rfl) (by kernel_rfl) (by kernel_rfl) (fun _ _ _ => by kernel_rfl)
def A19 := mkA [(Sb,[6,14,18,29,30]),(Si,[7,11,13,16,17,19,23,31])]
noncomputable def x19 (lf:Nat) (cv:CallVS) (hcv:CvOk Go.Proofs.Try.prog cv):Cx Go.Proofs.Try.prog := .v .o hcv
noncomputable def B19_0 (lf:Nat) (cv:CallVS) (self:V → V → V → Int → Int → List Ob → SubR) (s2:V) (eq:V) (x15:V) (x16:Int) (x17:Int) (h:List Ob):SubR :=
cB (decide (x17 < x16)) (
bind1 (er (.iaddrL 1 (.c x15) (.c (.int .i64 x17))) h) fun x20 =>
bind1 (er (.load1 (.c x20)) h) fun x21 =>
bind1 (er (.iaddrL 1 (.c s2) (.c (.int .i64 x17))) h) fun x24 =>
bind1 (er (.load1 (.c x24)) h) fun x25 =>
bind2 (cv eq [x21,x25] h) fun v h_ =>
castBool v fun x29 =>
cB (!x29) (
some (.ret,[(.bool false)],h_)) (
self s2 eq x15 x16 (IntKind.i64.wrap (x17 + (1))) h_)) (
some ((.exit 0),[],h))
noncomputable def L19_0 (lf:Nat) (cv:CallVS):Nat → V → V → V → Int → Int → List Ob → SubR
  | 0 => fun _ _ _ _ _ _ => none
  | n + 1 => B19_0 lf cv (L19_0 lf cv n)
noncomputable def p19_0 (lf:Nat) (cv:CallVS) (hcv:CvOk Go.Proofs.Try.prog cv):Pt Go.Proofs.Try.prog := .loop A19 (x19 lf cv hcv) [] (sq [.reg [o 18 (.bin .lss 17 16)],.cond 18 .skip (.exit 0),.block 1 (sq [.reg [mv 19 17,o 20 (.iaddrL 1 15 17),l1 21 20,mv 7 19,mv 8 21],.reg [mv 22 1,mv 23 7,o 24 (.iaddrL 1 22 23),l1 25 24,mv 9 25],.reg [mv 26 2,mv 27 8,mv 28 9,cw 29 26 [27,28],o 30 (.un .not 29)],.cond 30 (sq [.reg [mv 6 cF],.ret]) .skip]),.reg [o 31 (.bin .add 17 (ci 1)),mv 17 31]]) [Sa,Sa,Sa,Si,Si] [1,2,15,16,17] [((.exit 0),[],[]),(.ret,[6],[Sb])] (B19_0 lf cv) (L19_0 lf cv) (fun _ _ _ _ _ _ => rfl) (fun _ => rfl) (fun _ _ _ _ _ _ _ => by kernel_rfl) lf
noncomputable def F19 (lf:Nat) (cv:CallVS) (s1:V) (s2:V) (eq:V) (h:List Ob):Option (V × List Ob) :=
bind1 (er (.lenL (.c s1)) h) fun v =>
castInt .i64 v fun x11 =>
bind1 (er (.lenL (.c s2)) h) fun v1 =>
castInt .i64 v1 fun x13 =>
cB (x11 != x13) (
some ((.bool false),h)) (
bind1 (er (.lenL (.c s1)) h) fun v2 =>
castInt .i64 v2 fun x16 =>
bind3 (L19_0 lf cv lf s2 eq s1 x16 (0) h) fun ex vs h_ =>
cB (decide (ex = (.exit 0))) (
castNil vs (
some ((.bool true),h_))) (
cB (decide (ex = .ret)) (
castCons vs fun c l =>
castBool c fun x6 =>
castNil l (
some ((.bool x6),h_))) (
none)))
noncomputable def W19 (lf:Nat) (cv:CallVS):List V → List Ob → Option (V × List Ob) := wG [Sa,Sa,Sa] (F19 lf cv)
theorem W19_ok (lf:Nat) (cv:CallVS) (hcv:CvOk Go.Proofs.Try.prog cv):WOk Go.Proofs.Try.prog 19 (W19 lf cv) := FOk 32 [(.t 6)] A19 (x19 lf cv hcv) [p19_0 lf cv hcv] (sq [.reg [mv 6 cF],sq [.reg [mv 10 0,o 11 (.lenL 10),mv 12 1,o 13 (.lenL 12),o 14 (.bin .neq 11 13)],.cond 14 (sq [.reg [mv 6 cF],.ret]) .skip],sq [.reg [mv 15 0,o 16 (.lenL 15),mv 17 (ci 0)],.block 0 (.sub 0)],.reg [mv 6 cT],.ret]) [Sa,Sa,Sa] _ Go.Proofs.Try.func19 (by kernel_rfl) (by kernel_rfl) (by kernel_rfl) (fun _ _ _ _ => by kernel_rfl)
noncomputable def cv20 (lf:Nat):CallVS := cvC 18 (W18 lf (R18 lf lf)) (cvN)
theorem cv20_ok (lf:Nat):CvOk Go.Proofs.Try.prog (cv20 lf) := cvC_ok (W18_ok lf (R18 lf lf) (R18_ok lf lf)) (cvN_ok)
def A20 := mkA [(Sb,[4,7])]
noncomputable def x20 (lf:Nat):Cx Go.Proofs.Try.prog := .v (.c .o (W17_ok lf (cv20 lf) (cv20_ok lf))) (cv20_ok lf)
noncomputable def F20 (lf:Nat) (a:V) (b:V) (h:List Ob):Option (V × List Ob) :=
bind2 (F17 lf (cv20 lf) a b (.fn 18 []) h) fun v h_ =>
castBool v fun x7 =>
some ((.bool x7),h_)
noncomputable def W20 (lf:Nat):List V → List Ob → Option (V × List Ob) := wG [Sa,Sa] (F20 lf)
theorem W20_ok (lf:Nat):WOk Go.Proofs.Try.prog 20 (W20 lf) := FOk 8 [(.t 4)] A20 (x20 lf) [] (sq [.reg [mv 4 cF],.reg [mv 5 0,mv 6 1,ca 7 17 [5,6,(.c (.fn 18 []))],mv 4 7],.ret]) [Sa,Sa] _ Go.Proofs.Try.func20 (by kernel_rfl) (by kernel_rfl) (by kernel_rfl) (fun _ _ _ => by kernel_rfl)
def A21 := mkA [(Sb,[6,14,18,29,30]),(Si,[7,11,13,16,17,19,23,31]),(zPs5,[21,25,27,28])]
noncomputable def x21 (lf:Nat) (cv:CallVS) (hcv:CvOk Go.Proofs.Try.prog cv):Cx Go.Proofs.Try.prog := .v .o hcv
noncomputable def B21_0 (lf:Nat) (cv:CallVS) (self:V → V → V → Int → Int → List Ob → SubR) (s2:V) (eq:V) (x15:V) (x16:Int) (x17:Int) (h:List Ob):SubR :=
cB (decide (x17 < x16)) (
bind1 (er (.iaddrL 9 (.c x15) (.c (.int .i64 x17))) h) fun x20 =>
bind1 (er (.loadN 9 (.c x20)) h) fun v =>
castAgg v fun l =>
castCons l fun c l1 =>
castStr c fun x21_0 =>
castCons l1 fun c1 l2 =>
castInt .i64 c1 fun x21_1 =>
castCons l2 fun c2 l3 =>
castStr c2 fun x21_2 =>
castCons l3 fun c3 l4 =>
castInt .i64 c3 fun x21_3 =>
castCons l4 fun c4 l5 =>
castInt .i64 c4 fun x21_4 =>
castCons l5 fun c5 l6 =>
castStr c5 fun x21_5 =>
castCons l6 fun c6 l7 =>
castStr c6 fun x21_6 =>
castCons l7 fun c7 l8 =>
castStr c7 fun x21_7 =>
castCons l8 fun x21_8 l9 =>
castNil l9 (
bind2 (ev (.alloc false (.agg [(.str []),(.int .i64 0),(.str []),(.int .i64 0),(.int .i64 0),(.str []),(.str []),(.str []),.nils])) h) fun v1 h_ =>
bind2 (ev (.store 9 (.c v1) (.c (.agg [(.str x21_0),(.int .i64 x21_1),(.str x21_2),(.int .i64 x21_3),(.int .i64 x21_4),(.str x21_5),(.str x21_6),(.str x21_7),x21_8]))) h_) fun u h_1 =>
bind1 (er (.iaddrL 9 (.c s2) (.c (.int .i64 x17))) h_1) fun x24 =>
bind1 (er (.loadN 9 (.c x24)) h_1) fun v2 =>
castAgg v2 fun l10 =>
castCons l10 fun c8 l11 =>
castStr c8 fun x25_0 =>
castCons l11 fun c9 l12 =>
castInt .i64 c9 fun x25_1 =>
castCons l12 fun c10 l13 =>
castStr c10 fun x25_2 =>
castCons l13 fun c11 l14 =>
castInt .i64 c11 fun x25_3 =>
castCons l14 fun c12 l15 =>
castInt .i64 c12 fun x25_4 =>
castCons l15 fun c13 l16 =>
castStr c13 fun x25_5 =>
castCons l16 fun c14 l17 =>
castStr c14 fun x25_6 =>
castCons l17 fun c15 l18 =>
castStr c15 fun x25_7 =>
castCons l18 fun x25_8 l19 =>
castNil l19 (
bind2 (ev (.alloc false (.agg [(.str []),(.int .i64 0),(.str []),(.int .i64 0),(.int .i64 0),(.str []),(.str []),(.str []),.nils])) h_1) fun v2_1 h_2 =>
bind2 (ev (.store 9 (.c v2_1) (.c (.agg [(.str x25_0),(.int .i64 x25_1),(.str x25_2),(.int .i64 x25_3),(.int .i64 x25_4),(.str x25_5),(.str x25_6),(.str x25_7),x25_8]))) h_2) fun u1 h_3 =>
bind1 (er (.loadN 9 (.c v1)) h_3) fun v3 =>
castAgg v3 fun l20 =>
castCons l20 fun c16 l21 =>
castStr c16 fun x27_0 =>
castCons l21 fun c17 l22 =>
castInt .i64 c17 fun x27_1 =>
castCons l22 fun c18 l23 =>
castStr c18 fun x27_2 =>
castCons l23 fun c19 l24 =>
castInt .i64 c19 fun x27_3 =>
castCons l24 fun c20 l25 =>
castInt .i64 c20 fun x27_4 =>
castCons l25 fun c21 l26 =>
castStr c21 fun x27_5 =>
castCons l26 fun c22 l27 =>
castStr c22 fun x27_6 =>
castCons l27 fun c23 l28 =>
castStr c23 fun x27_7 =>
castCons l28 fun x27_8 l29 =>
castNil l29 (
bind1 (er (.loadN 9 (.c v2_1)) h_3) fun v4 =>
castAgg v4 fun l30 =>
castCons l30 fun c24 l31 =>
castStr c24 fun x28_0 =>
castCons l31 fun c25 l32 =>
castInt .i64 c25 fun x28_1 =>
castCons l32 fun c26 l33 =>
castStr c26 fun x28_2 =>
castCons l33 fun c27 l34 =>
castInt .i64 c27 fun x28_3 =>
castCons l34 fun c28 l35 =>
castInt .i64 c28 fun x28_4 =>
castCons l35 fun c29 l36 =>
castStr c29 fun x28_5 =>
castCons l36 fun c30 l37 =>
castStr c30 fun x28_6 =>
castCons l37 fun c31 l38 =>
castStr c31 fun x28_7 =>
castCons l38 fun x28_8 l39 =>
castNil l39 (
bind2 (cv eq [(.agg [(.str x27_0),(.int .i64 x27_1),(.str x27_2),(.int .i64 x27_3),(.int .i64 x27_4),(.str x27_5),(.str x27_6),(.str x27_7),x27_8]),(.agg [(.str x28_0),(.int .i64 x28_1),(.str x28_2),(.int .i64 x28_3),(.int .i64 x28_4),(.str x28_5),(.str x28_6),(.str x28_7),x28_8])] h_3) fun v5 h_4 =>
castBool v5 fun x29 =>
cB (!x29) (
some (.ret,[(.bool false)],h_4)) (
self s2 eq x15 x16 (IntKind.i64.wrap (x17 + (1))) h_4)))))) (
some ((.exit 0),[],h))
noncomputable def L21_0 (lf:Nat) (cv:CallVS):Nat → V → V → V → Int → Int → List Ob → SubR
  | 0 => fun _ _ _ _ _ _ => none
  | n + 1 => B21_0 lf cv (L21_0 lf cv n)
noncomputable def p21_0 (lf:Nat) (cv:CallVS) (hcv:CvOk Go.Proofs.Try.prog cv):Pt Go.Proofs.Try.prog := .loop A21 (x21 lf cv hcv) [] (sq [.reg [o 18 (.bin .lss 17 16)],.cond 18 .skip (.exit 0),.block 1 (sq [.reg [mv 19 17,o 20 (.iaddrL 9 15 17),ln 21 9 20,o 8 (.alloc false zPs6),mv 7 19,st 9 8 21],.reg [mv 22 1,mv 23 7,o 24 (.iaddrL 9 22 23),ln 25 9 24,o 9 (.alloc false zPs6),st 9 9 25],.reg [mv 26 2,ln 27 9 8,ln 28 9 9,cw 29 26 [27,28],o 30 (.un .not 29)],.cond 30 (sq [.reg [mv 6 cF],.ret]) .skip]),.reg [o 31 (.bin .add 17 (ci 1)),mv 17 31]]) [Sa,Sa,Sa,Si,Si] [1,2,15,16,17] [((.exit 0),[],[]),(.ret,[6],[Sb])] (B21_0 lf cv) (L21_0 lf cv) (fun _ _ _ _ _ _ => rfl) (fun _ => rfl) (fun _ _ _ _ _ _ _ => by kernel_rfl) lf
noncomputable def F21 (lf:Nat) (cv:CallVS) (s1:V) (s2:V) (eq:V) (h:List Ob):Option (V × List Ob) :=
bind1 (er (.lenL (.c s1)) h) fun v =>
castInt .i64 v fun x11 =>
bind1 (er (.lenL (.c s2)) h) fun v1 =>
castInt .i64 v1 fun x13 =>
cB (x11 != x13) (
some ((.bool false),h)) (
bind1 (er (.lenL (.c s1)) h) fun v2 =>
castInt .i64 v2 fun x16 =>
bind3 (L21_0 lf cv lf s2 eq s1 x16 (0) h) fun ex vs h_ =>
cB (decide (ex = (.exit 0))) (
castNil vs (
some ((.bool true),h_))) (
cB (decide (ex = .ret)) (
castCons vs fun c l =>
castBool c fun x6 =>
castNil l (
some ((.bool x6),h_))) (
none)))
noncomputable def W21 (lf:Nat) (cv:CallVS):List V → List Ob → Option (V × List Ob) := wG [Sa,Sa,Sa] (F21 lf cv)
theorem W21_ok (lf:Nat) (cv:CallVS) (hcv:CvOk Go.Proofs.Try.prog cv):WOk Go.Proofs.Try.prog 21 (W21 lf cv) := FOk 32 [(.t 6)] A21 (x21 lf cv hcv) [p21_0 lf cv hcv] (sq [.reg [mv 6 cF],sq [.reg [mv 10 0,o 11 (.lenL 10),mv 12 1,o 13 (.lenL 12),o 14 (.bin .neq 11 13)],.cond 14 (sq [.reg [mv 6 cF],.ret]) .skip],sq [.reg [mv 15 0,o 16 (.lenL 15),mv 17 (ci 0)],.block 0 (.sub 0)],.reg [mv 6 cT],.ret]) [Sa,Sa,Sa] _ Go.Proofs.Try.func21 (by kernel_rfl) (by kernel_rfl) (by kernel_rfl) (fun _ _ _ _ => by kernel_rfl)
def A22 := mkA [(zPs5,[0,1]),(Sb,[4,9,10,15,16]),(Ss,[6,8]),(zPs7,[12,14])]
noncomputable def x22 (lf:Nat):Cx Go.Proofs.Try.prog := .c .o (W18_ok lf (R18 lf lf) (R18_ok lf lf))
noncomputable def F22 (lf:Nat) (a:List UInt8) (a1:Int) (a2:List UInt8) (a3:Int) (a4:Int) (a5:List UInt8) (a6:List UInt8) (a7:List UInt8) (a8:V) (b:List UInt8) (b1:Int) (b2:List UInt8) (b3:Int) (b4:Int) (b5:List UInt8) (b6:List UInt8) (b7:List UInt8) (b8:V) (h:List Ob):Option (V × List Ob) :=
bind2 (ev (.box false (.c (.agg [(.str a),(.int .i64 a1),(.str a2),(.int .i64 a3),(.int .i64 a4),(.str a5),(.str a6),(.str a7),a8]))) h) fun a9 h_ =>
bind2 (ev (.box false (.c (.agg [(.str b),(.int .i64 b1),(.str b2),(.int .i64 b3),(.int .i64 b4),(.str b5),(.str b6),(.str b7),b8]))) h_) fun b9 h_1 =>
bind1 (er (.faddr 0 (.c a9)) h_1) fun x5 =>
bind1 (er (.load1 (.c x5)) h_1) fun v =>
castStr v fun x6 =>
bind1 (er (.faddr 0 (.c b9)) h_1) fun x7 =>
bind1 (er (.load1 (.c x7)) h_1) fun v1 =>
castStr v1 fun x8 =>
cB (x6 == x8) (
bind1 (er (.faddr 1 (.c a9)) h_1) fun x11 =>
bind1 (er (.loadN 8 (.c x11)) h_1) fun v2 =>
castAgg v2 fun l =>
castCons l fun c l1 =>
castInt .i64 c fun x12_0 =>
castCons l1 fun c1 l2 =>
castStr c1 fun x12_1 =>
castCons l2 fun c2 l3 =>
castInt .i64 c2 fun x12_2 =>
castCons l3 fun c3 l4 =>
castInt .i64 c3 fun x12_3 =>
castCons l4 fun c4 l5 =>
castStr c4 fun x12_4 =>
castCons l5 fun c5 l6 =>
castStr c5 fun x12_5 =>
castCons l6 fun c6 l7 =>
castStr c6 fun x12_6 =>
castCons l7 fun x12_7 l8 =>
castNil l8 (
bind1 (er (.faddr 1 (.c b9)) h_1) fun x13 =>
bind1 (er (.loadN 8 (.c x13)) h_1) fun v3 =>
castAgg v3 fun l9 =>
castCons l9 fun c7 l10 =>
castInt .i64 c7 fun x14_0 =>
castCons l10 fun c8 l11 =>
castStr c8 fun x14_1 =>
castCons l11 fun c9 l12 =>
castInt .i64 c9 fun x14_2 =>
castCons l12 fun c10 l13 =>
castInt .i64 c10 fun x14_3 =>
castCons l13 fun c11 l14 =>
castStr c11 fun x14_4 =>
castCons l14 fun c12 l15 =>
castStr c12 fun x14_5 =>
castCons l15 fun c13 l16 =>
castStr c13 fun x14_6 =>
castCons l16 fun x14_7 l17 =>
castNil l17 (
bind2 (F18 lf (R18 lf lf) x12_0 x12_1 x12_2 x12_3 x12_4 x12_5 x12_6 x12_7 x14_0 x14_1 x14_2 x14_3 x14_4 x14_5 x14_6 x14_7 h_1) fun v4 h_2 =>
castBool v4 fun x15 =>
some ((.bool x15),h_2)))) (
some ((.bool false),h_1))
noncomputable def W22 (lf:Nat):List V → List Ob → Option (V × List Ob) := wG [zPs5,zPs5] (F22 lf)
theorem W22_ok (lf:Nat):WOk Go.Proofs.Try.prog 22 (W22 lf) := FOk 17 [(.t 4)] A22 (x22 lf) [] (sq [.reg [o 2 (.box false 0),o 3 (.box false 1),mv 4 cF],.reg [fa 5 0 2,l1 6 5,fa 7 0 3,l1 8 7,o 9 (.bin .eql 6 8),mv 10 9,oT 11 10 (.faddr 1 2),oT 12 10 (.loadN 8 11),oT 13 10 (.faddr 1 3),oT 14 10 (.loadN 8 13),caT 15 10 18 [12,14],o 16 (.pick 10 15 cF),mv 4 16],.ret]) [zPs5,zPs5] _ Go.Proofs.Try.func22 (by kernel_rfl) (by kernel_rfl) (by kernel_rfl) (fun _ _ _ _ _ _ _ _ _ _ _ _ _ _ _ _ _ _ _ => by kernel_rfl)
def A34 := mkA [(Sb,[6,14,18,29,30]),(Si,[7,11,13,16,17,19,23,31]),(zPs8,[21,25,27,28])]
noncomputable def x34 (lf:Nat) (cv:CallVS) (hcv:CvOk Go.Proofs.Try.prog cv):Cx Go.Proofs.Try.prog := .v .o hcv
noncomputable def B34_0 (lf:Nat) (cv:CallVS) (self:V → V → V → Int → Int → List Ob → SubR) (s2:V) (eq:V) (x15:V) (x16:Int) (x17:Int) (h:List Ob):SubR :=
cB (decide (x17 < x16)) (
bind1 (er (.iaddrL 9 (.c x15) (.c (.int .i64 x17))) h) fun x20 =>
bind1 (er (.loadN 9 (.c x20)) h) fun v =>
castAgg v fun l =>
castCons l fun c l1 =>
castInt .i64 c fun x21_0 =>
castCons l1 fun c1 l2 =>
castStr c1 fun x21_1 =>
castCons l2 fun c2 l3 =>
castInt .i64 c2 fun x21_2 =>
castCons l3 fun c3 l4 =>
castInt .i64 c3 fun x21_3 =>
castCons l4 fun c4 l5 =>
castStr c4 fun x21_4 =>
castCons l5 fun c5 l6 =>
castStr c5 fun x21_5 =>
castCons l6 fun c6 l7 =>
castStr c6 fun x21_6 =>
castCons l7 fun x21_7 l8 =>
castCons l8 fun c7 l9 =>
castStr c7 fun x21_8 =>
castNil l9 (
bind2 (ev (.alloc false (.agg [(.int .i64 0),(.str []),(.int .i64 0),(.int .i64 0),(.str []),(.str []),(.str []),.nils,(.str [])])) h) fun v1 h_ =>
bind2 (ev (.store 9 (.c v1) (.c (.agg [(.int .i64 x21_0),(.str x21_1),(.int .i64 x21_2),(.int .i64 x21_3),(.str x21_4),(.str x21_5),(.str x21_6),x21_7,(.str x21_8)]))) h_) fun u h_1 =>
bind1 (er (.iaddrL 9 (.c s2) (.c (.int .i64 x17))) h_1) fun x24 =>
bind1 (er (.loadN 9 (.c x24)) h_1) fun v2 =>
castAgg v2 fun l10 =>
castCons l10 fun c8 l11 =>
castInt .i64 c8 fun x25_0 =>
castCons l11 fun c9 l12 =>
castStr c9 fun x25_1 =>
castCons l12 fun c10 l13 =>
castInt .i64 c10 fun x25_2 =>
castCons l13 fun c11 l14 =>
castInt .i64 c11 fun x25_3 =>
castCons l14 fun c12 l15 =>
castStr c12 fun x25_4 =>
castCons l15 fun c13 l16 =>
castStr c13 fun x25_5 =>
castCons l16 fun c14 l17 =>
castStr c14 fun x25_6 =>
castCons l17 fun x25_7 l18 =>
castCons l18 fun c15 l19 =>
castStr c15 fun x25_8 =>
castNil l19 (
bind2 (ev (.alloc false (.agg [(.int .i64 0),(.str []),(.int .i64 0),(.int .i64 0),(.str []),(.str []),(.str []),.nils,(.str [])])) h_1) fun v2_1 h_2 =>
bind2 (ev (.store 9 (.c v2_1) (.c (.agg [(.int .i64 x25_0),(.str x25_1),(.int .i64 x25_2),(.int .i64 x25_3),(.str x25_4),(.str x25_5),(.str x25_6),x25_7,(.str x25_8)]))) h_2) fun u1 h_3 =>
bind1 (er (.loadN 9 (.c v1)) h_3) fun v3 =>
castAgg v3 fun l20 =>
castCons l20 fun c16 l21 =>
castInt .i64 c16 fun x27_0 =>
castCons l21 fun c17 l22 =>
castStr c17 fun x27_1 =>
castCons l22 fun c18 l23 =>
castInt .i64 c18 fun x27_2 =>
castCons l23 fun c19 l24 =>
castInt .i64 c19 fun x27_3 =>
castCons l24 fun c20 l25 =>
castStr c20 fun x27_4 =>
castCons l25 fun c21 l26 =>
castStr c21 fun x27_5 =>
castCons l26 fun c22 l27 =>
castStr c22 fun x27_6 =>
castCons l27 fun x27_7 l28 =>
castCons l28 fun c23 l29 =>
castStr c23 fun x27_8 =>
castNil l29 (
bind1 (er (.loadN 9 (.c v2_1)) h_3) fun v4 =>
castAgg v4 fun l30 =>
castCons l30 fun c24 l31 =>
castInt .i64 c24 fun x28_0 =>
castCons l31 fun c25 l32 =>
castStr c25 fun x28_1 =>
castCons l32 fun c26 l33 =>
castInt .i64 c26 fun x28_2 =>
castCons l33 fun c27 l34 =>
castInt .i64 c27 fun x28_3 =>
castCons l34 fun c28 l35 =>
castStr c28 fun x28_4 =>
castCons l35 fun c29 l36 =>
castStr c29 fun x28_5 =>
castCons l36 fun c30 l37 =>
castStr c30 fun x28_6 =>
castCons l37 fun x28_7 l38 =>
castCons l38 fun c31 l39 =>
castStr c31 fun x28_8 =>
castNil l39 (
bind2 (cv eq [(.agg [(.int .i64 x27_0),(.str x27_1),(.int .i64 x27_2),(.int .i64 x27_3),(.str x27_4),(.str x27_5),(.str x27_6),x27_7,(.str x27_8)]),(.agg [(.int .i64 x28_0),(.str x28_1),(.int .i64 x28_2),(.int .i64 x28_3),(.str x28_4),(.str x28_5),(.str x28_6),x28_7,(.str x28_8)])] h_3) fun v5 h_4 =>
castBool v5 fun x29 =>
cB (!x29) (
some (.ret,[(.bool false)],h_4)) (
self s2 eq x15 x16 (IntKind.i64.wrap (x17 + (1))) h_4)))))) (
some ((.exit 0),[],h))
noncomputable def L34_0 (lf:Nat) (cv:CallVS):Nat → V → V → V → Int → Int → List Ob → SubR
  | 0 => fun _ _ _ _ _ _ => none
  | n + 1 => B34_0 lf cv (L34_0 lf cv n)
noncomputable def p34_0 (lf:Nat) (cv:CallVS) (hcv:CvOk Go.Proofs.Try.prog cv):Pt Go.Proofs.Try.prog := .loop A34 (x34 lf cv hcv) [] (sq [.reg [o 18 (.bin .lss 17 16)],.cond 18 .skip (.exit 0),.block 1 (sq [.reg [mv 19 17,o 20 (.iaddrL 9 15 17),ln 21 9 20,o 8 (.alloc false zPs9),mv 7 19,st 9 8 21],.reg [mv 22 1,mv 23 7,o 24 (.iaddrL 9 22 23),ln 25 9 24,o 9 (.alloc false zPs9),st 9 9 25],.reg [mv 26 2,ln 27 9 8,ln 28 9 9,cw 29 26 [27,28],o 30 (.un .not 29)],.cond 30 (sq [.reg [mv 6 cF],.ret]) .skip]),.reg [o 31 (.bin .add 17 (ci 1)),mv 17 31]]) [Sa,Sa,Sa,Si,Si] [1,2,15,16,17] [((.exit 0),[],[]),(.ret,[6],[Sb])] (B34_0 lf cv) (L34_0 lf cv) (fun _ _ _ _ _ _ => rfl) (fun _ => rfl) (fun _ _ _ _ _ _ _ => by kernel_rfl) lf
noncomputable def F34 (lf:Nat) (cv:CallVS) (s1:V) (s2:V) (eq:V) (h:List Ob):Option (V × List Ob) :=
bind1 (er (.lenL (.c s1)) h) fun v =>
castInt .i64 v fun x11 =>
bind1 (er (.lenL (.c s2)) h) fun v1 =>
castInt .i64 v1 fun x13 =>
cB (x11 != x13) (
some ((.bool false),h)) (
bind1 (er (.lenL (.c s1)) h) fun v2 =>
castInt .i64 v2 fun x16 =>
bind3 (L34_0 lf cv lf s2 eq s1 x16 (0) h) fun ex vs h_ =>
cB (decide (ex = (.exit 0))) (
castNil vs (
some ((.bool true),h_))) (
cB (decide (ex = .ret)) (
castCons vs fun c l =>
castBool c fun x6 =>
castNil l (
some ((.bool x6),h_))) (
none)))
noncomputable def W34 (lf:Nat) (cv:CallVS):List V → List Ob → Option (V × List Ob) := wG [Sa,Sa,Sa] (F34 lf cv)
theorem W34_ok (lf:Nat) (cv:CallVS) (hcv:CvOk Go.Proofs.Try.prog cv):WOk Go.Proofs.Try.prog 34 (W34 lf cv) := FOk 32 [(.t 6)] A34 (x34 lf cv hcv) [p34_0 lf cv hcv] (sq [.reg [mv 6 cF],sq [.reg [mv 10 0,o 11 (.lenL 10),mv 12 1,o 13 (.lenL 12),o 14 (.bin .neq 11 13)],.cond 14 (sq [.reg [mv 6 cF],.ret]) .skip],sq [.reg [mv 15 0,o 16 (.lenL 15),mv 17 (ci 0)],.block 0 (.sub 0)],.reg [mv 6 cT],.ret]) [Sa,Sa,Sa] _ Go.Proofs.Try.func34 (by kernel_rfl) (by kernel_rfl) (by kernel_rfl) (fun _ _ _ _ => by kernel_rfl)
def A35 := mkA [(zPs8,[0,1]),(Sb,[4,9,10,15,16]),(Ss,[6,8]),(zPs7,[12,14])]
noncomputable def x35 (lf:Nat):Cx Go.Proofs.Try.prog := .c .o (W18_ok lf (R18 lf lf) (R18_ok lf lf))
noncomputable def F35 (lf:Nat) (a:Int) (a1:List UInt8) (a2:Int) (a3:Int) (a4:List UInt8) (a5:List UInt8) (a6:List UInt8) (a7:V) (a8:List UInt8) (b:Int) (b1:List UInt8) (b2:Int) (b3:Int) (b4:List UInt8) (b5:List UInt8) (b6:List UInt8) (b7:V) (b8:List UInt8) (h:List Ob):Option (V × List Ob) :=
bind2 (ev (.box false (.c (.agg [(.int .i64 a),(.str a1),(.int .i64 a2),(.int .i64 a3),(.str a4),(.str a5),(.str a6),a7,(.str a8)]))) h) fun a9 h_ =>
bind2 (ev (.box false (.c (.agg [(.int .i64 b),(.str b1),(.int .i64 b2),(.int .i64 b3),(.str b4),(.str b5),(.str b6),b7,(.str b8)]))) h_) fun b9 h_1 =>
bind1 (er (.faddr 8 (.c a9)) h_1) fun x5 =>
bind1 (er (.load1 (.c x5)) h_1) fun v =>
castStr v fun x6 =>
bind1 (er (.faddr 8 (.c b9)) h_1) fun x7 =>
bind1 (er (.load1 (.c x7)) h_1) fun v1 =>
castStr v1 fun x8 =>
cB (x6 == x8) (
bind1 (er (.faddr 0 (.c a9)) h_1) fun x11 =>
bind1 (er (.loadN 8 (.c x11)) h_1) fun v2 =>
castAgg v2 fun l =>
castCons l fun c l1 =>
castInt .i64 c fun x12_0 =>
castCons l1 fun c1 l2 =>
castStr c1 fun x12_1 =>
castCons l2 fun c2 l3 =>
castInt .i64 c2 fun x12_2 =>
castCons l3 fun c3 l4 =>
castInt .i64 c3 fun x12_3 =>
castCons l4 fun c4 l5 =>
castStr c4 fun x12_4 =>
castCons l5 fun c5 l6 =>
castStr c5 fun x12_5 =>
castCons l6 fun c6 l7 =>
castStr c6 fun x12_6 =>
castCons l7 fun x12_7 l8 =>
castNil l8 (
bind1 (er (.faddr 0 (.c b9)) h_1) fun x13 =>
bind1 (er (.loadN 8 (.c x13)) h_1) fun v3 =>
castAgg v3 fun l9 =>
castCons l9 fun c7 l10 =>
castInt .i64 c7 fun x14_0 =>
castCons l10 fun c8 l11 =>
castStr c8 fun x14_1 =>
castCons l11 fun c9 l12 =>
castInt .i64 c9 fun x14_2 =>
castCons l12 fun c10 l13 =>
castInt .i64 c10 fun x14_3 =>
castCons l13 fun c11 l14 =>
castStr c11 fun x14_4 =>
castCons l14 fun c12 l15 =>
castStr c12 fun x14_5 =>
castCons l15 fun c13 l16 =>
castStr c13 fun x14_6 =>
castCons l16 fun x14_7 l17 =>
castNil l17 (
bind2 (F18 lf (R18 lf lf) x12_0 x12_1 x12_2 x12_3 x12_4 x12_5 x12_6 x12_7 x14_0 x14_1 x14_2 x14_3 x14_4 x14_5 x14_6 x14_7 h_1) fun v4 h_2 =>
castBool v4 fun x15 =>
some ((.bool x15),h_2)))) (
some ((.bool false),h_1))
noncomputable def W35 (lf:Nat):List V → List Ob → Option (V × List Ob) := wG [zPs8,zPs8] (F35 lf)
theorem W35_ok (lf:Nat):WOk Go.Proofs.Try.prog 35 (W35 lf) := FOk 17 [(.t 4)] A35 (x35 lf) [] (sq [.reg [o 2 (.box false 0),o 3 (.box false 1),mv 4 cF],.reg [fa 5 8 2,l1 6 5,fa 7 8 3,l1 8 7,o 9 (.bin .eql 6 8),mv 10 9,oT 11 10 (.faddr 0 2),oT 12 10 (.loadN 8 11),oT 13 10 (.faddr 0 3),oT 14 10 (.loadN 8 13),caT 15 10 18 [12,14],o 16 (.pick 10 15 cF),mv 4 16],.ret]) [zPs8,zPs8] _ Go.Proofs.Try.func35 (by kernel_rfl) (by kernel_rfl) (by kernel_rfl) (fun _ _ _ _ _ _ _ _ _ _ _ _ _ _ _ _ _ _ _ => by kernel_rfl)
def A36 := mkA [(Sb,[6,14,18,29,30]),(Si,[7,11,13,16,17,19,23,31]),(zPs10,[21,25,27,28])]
noncomputable def x36 (lf:Nat) (cv:CallVS) (hcv:CvOk Go.Proofs.Try.prog cv):Cx Go.Proofs.Try.prog := .v .o hcv
noncomputable def B36_0 (lf:Nat) (cv:CallVS) (self:V → V → V → Int → Int → List Ob → SubR) (s2:V) (eq:V) (x15:V) (x16:Int) (x17:Int) (h:List Ob):SubR :=
cB (decide (x17 < x16)) (
bind1 (er (.iaddrL 10 (.c x15) (.c (.int .i64 x17))) h) fun x20 =>
bind1 (er (.loadN 10 (.c x20)) h) fun v =>
castAgg v fun l =>
castCons l fun c l1 =>
castStr c fun x21_0 =>
castCons l1 fun c1 l2 =>
castStr c1 fun x21_1 =>
castCons l2 fun c2 l3 =>
castInt .i64 c2 fun x21_2 =>
castCons l3 fun c3 l4 =>
castStr c3 fun x21_3 =>
castCons l4 fun c4 l5 =>
castInt .i64 c4 fun x21_4 =>
castCons l5 fun c5 l6 =>
castInt .i64 c5 fun x21_5 =>
castCons l6 fun c6 l7 =>
castStr c6 fun x21_6 =>
castCons l7 fun c7 l8 =>
castStr c7 fun x21_7 =>
castCons l8 fun c8 l9 =>
castStr c8 fun x21_8 =>
castCons l9 fun x21_9 l10 =>
castNil l10 (
bind2 (ev (.alloc false (.agg [(.str []),(.str []),(.int .i64 0),(.str []),(.int .i64 0),(.int .i64 0),(.str []),(.str []),(.str []),.nils])) h) fun v1 h_ =>
bind2 (ev (.store 10 (.c v1) (.c (.agg [(.str x21_0),(.str x21_1),(.int .i64 x21_2),(.str x21_3),(.int .i64 x21_4),(.int .i64 x21_5),(.str x21_6),(.str x21_7),(.str x21_8),x21_9]))) h_) fun u h_1 =>
bind1 (er (.iaddrL 10 (.c s2) (.c (.int .i64 x17))) h_1) fun x24 =>
bind1 (er (.loadN 10 (.c x24)) h_1) fun v2 =>
castAgg v2 fun l11 =>
castCons l11 fun c9 l12 =>
castStr c9 fun x25_0 =>
castCons l12 fun c10 l13 =>
castStr c10 fun x25_1 =>
castCons l13 fun c11 l14 =>
castInt .i64 c11 fun x25_2 =>
castCons l14 fun c12 l15 =>
castStr c12 fun x25_3 =>
castCons l15 fun c13 l16 =>
castInt .i64 c13 fun x25_4 =>
castCons l16 fun c14 l17 =>
castInt .i64 c14 fun x25_5 =>
castCons l17 fun c15 l18 =>
castStr c15 fun x25_6 =>
castCons l18 fun c16 l19 =>
castStr c16 fun x25_7 =>
castCons l19 fun c17 l20 =>
castStr c17 fun x25_8 =>
castCons l20 fun x25_9 l21 =>
castNil l21 (
bind2 (ev (.alloc false (.agg [(.str []),(.str []),(.int .i64 0),(.str []),(.int .i64 0),(.int .i64 0),(.str []),(.str []),(.str []),.nils])) h_1) fun v2_1 h_2 =>
bind2 (ev (.store 10 (.c v2_1) (.c (.agg [(.str x25_0),(.str x25_1),(.int .i64 x25_2),(.str x25_3),(.int .i64 x25_4),(.int .i64 x25_5),(.str x25_6),(.str x25_7),(.str x25_8),x25_9]))) h_2) fun u1 h_3 =>
bind1 (er (.loadN 10 (.c v1)) h_3) fun v3 =>
castAgg v3 fun l22 =>
castCons l22 fun c18 l23 =>
castStr c18 fun x27_0 =>
castCons l23 fun c19 l24 =>
castStr c19 fun x27_1 =>
castCons l24 fun c20 l25 =>
castInt .i64 c20 fun x27_2 =>
castCons l25 fun c21 l26 =>
castStr c21 fun x27_3 =>
castCons l26 fun c22 l27 =>
castInt .i64 c22 fun x27_4 =>
castCons l27 fun c23 l28 =>
castInt .i64 c23 fun x27_5 =>
castCons l28 fun c24 l29 =>
castStr c24 fun x27_6 =>
castCons l29 fun c25 l30 =>
castStr c25 fun x27_7 =>
castCons l30 fun c26 l31 =>
castStr c26 fun x27_8 =>
castCons l31 fun x27_9 l32 =>
castNil l32 (
bind1 (er (.loadN 10 (.c v2_1)) h_3) fun v4 =>
castAgg v4 fun l33 =>
castCons l33 fun c27 l34 =>
castStr c27 fun x28_0 =>
castCons l34 fun c28 l35 =>
castStr c28 fun x28_1 =>
castCons l35 fun c29 l36 =>
castInt .i64 c29 fun x28_2 =>
castCons l36 fun c30 l37 =>
castStr c30 fun x28_3 =>
castCons l37 fun c31 l38 =>
castInt .i64 c31 fun x28_4 =>
castCons l38 fun c32 l39 =>
castInt .i64 c32 fun x28_5 =>
castCons l39 fun c33 l40 =>
castStr c33 fun x28_6 =>
castCons l40 fun c34 l41 =>
castStr c34 fun x28_7 =>
castCons l41 fun c35 l42 =>
castStr c35 fun x28_8 =>
castCons l42 fun x28_9 l43 =>
castNil l43 (
bind2 (cv eq [(.agg [(.str x27_0),(.str x27_1),(.int .i64 x27_2),(.str x27_3),(.int .i64 x27_4),(.int .i64 x27_5),(.str x27_6),(.str x27_7),(.str x27_8),x27_9]),(.agg [(.str x28_0),(.str x28_1),(.int .i64 x28_2),(.str x28_3),(.int .i64 x28_4),(.int .i64 x28_5),(.str x28_6),(.str x28_7),(.str x28_8),x28_9])] h_3) fun v5 h_4 =>
castBool v5 fun x29 =>
cB (!x29) (
some (.ret,[(.bool false)],h_4)) (
self s2 eq x15 x16 (IntKind.i64.wrap (x17 + (1))) h_4)))))) (
some ((.exit 0),[],h))
noncomputable def L36_0 (lf:Nat) (cv:CallVS):Nat → V → V → V → Int → Int → List Ob → SubR
  | 0 => fun _ _ _ _ _ _ => none
  | n + 1 => B36_0 lf cv (L36_0 lf cv n)
noncomputable def p36_0 (lf:Nat) (cv:CallVS) (hcv:CvOk Go.Proofs.Try.prog cv):Pt Go.Proofs.Try.prog := .loop A36 (x36 lf cv hcv) [] (sq [.reg [o 18 (.bin .lss 17 16)],.cond 18 .skip (.exit 0),.block 1 (sq [.reg [mv 19 17,o 20 (.iaddrL 10 15 17),ln 21 10 20,o 8 (.alloc false zPs11),mv 7 19,st 10 8 21],.reg [mv 22 1,mv 23 7,o 24 (.iaddrL 10 22 23),ln 25 10 24,o 9 (.alloc false zPs11),st 10 9 25],.reg [mv 26 2,ln 27 10 8,ln 28 10 9,cw 29 26 [27,28],o 30 (.un .not 29)],.cond 30 (sq [.reg [mv 6 cF],.ret]) .skip]),.reg [o 31 (.bin .add 17 (ci 1)),mv 17 31]]) [Sa,Sa,Sa,Si,Si] [1,2,15,16,17] [((.exit 0),[],[]),(.ret,[6],[Sb])] (B36_0 lf cv) (L36_0 lf cv) (fun _ _ _ _ _ _ => rfl) (fun _ => rfl) (fun _ _ _ _ _ _ _ => by kernel_rfl) lf
noncomputable def F36 (lf:Nat) (cv:CallVS) (s1:V) (s2:V) (eq:V) (h:List Ob):Option (V × List Ob) :=
bind1 (er (.lenL (.c s1)) h) fun v =>
castInt .i64 v fun x11 =>
bind1 (er (.lenL (.c s2)) h) fun v1 =>
castInt .i64 v1 fun x13 =>
cB (x11 != x13) (
some ((.bool false),h)) (
bind1 (er (.lenL (.c s1)) h) fun v2 =>
castInt .i64 v2 fun x16 =>
bind3 (L36_0 lf cv lf s2 eq s1 x16 (0) h) fun ex vs h_ =>
cB (decide (ex = (.exit 0))) (
castNil vs (
some ((.bool true),h_))) (
cB (decide (ex = .ret)) (
castCons vs fun c l =>
castBool c fun x6 =>
castNil l (
some ((.bool x6),h_))) (
none)))
noncomputable def W36 (lf:Nat) (cv:CallVS):List V → List Ob → Option (V × List Ob) := wG [Sa,Sa,Sa] (F36 lf cv)
theorem W36_ok (lf:Nat) (cv:CallVS) (hcv:CvOk Go.Proofs.Try.prog cv):WOk Go.Proofs.Try.prog 36 (W36 lf cv) := FOk 32 [(.t 6)] A36 (x36 lf cv hcv) [p36_0 lf cv hcv] (sq [.reg [mv 6 cF],sq [.reg [mv 10 0,o 11 (.lenL 10),mv 12 1,o 13 (.lenL 12),o 14 (.bin .neq 11 13)],.cond 14 (sq [.reg [mv 6 cF],.ret]) .skip],sq [.reg [mv 15 0,o 16 (.lenL 15),mv 17 (ci 0)],.block 0 (.sub 0)],.reg [mv 6 cT],.ret]) [Sa,Sa,Sa] _ Go.Proofs.Try.func36 (by kernel_rfl) (by kernel_rfl) (by kernel_rfl) (fun _ _ _ _ => by kernel_rfl)
def A37 := mkA [(zPs10,[0,1]),(Sb,[4,9,10,15,16,17,22,23]),(Ss,[6,8,12,14]),(zPs7,[19,21])]
noncomputable def x37 (lf:Nat):Cx Go.Proofs.Try.prog := .c .o (W18_ok lf (R18 lf lf) (R18_ok lf lf))
noncomputable def F37 (lf:Nat) (a:List UInt8) (a1:List UInt8) (a2:Int) (a3:List UInt8) (a4:Int) (a5:Int) (a6:List UInt8) (a7:List UInt8) (a8:List UInt8) (a9:V) (b:List UInt8) (b1:List UInt8) (b2:Int) (b3:List UInt8) (b4:Int) (b5:Int) (b6:List UInt8) (b7:List UInt8) (b8:List UInt8) (b9:V) (h:List Ob):Option (V × List Ob) :=
bind2 (ev (.box false (.c (.agg [(.str a),(.str a1),(.int .i64 a2),(.str a3),(.int .i64 a4),(.int .i64 a5),(.str a6),(.str a7),(.str a8),a9]))) h) fun a10 h_ =>
bind2 (ev (.box false (.c (.agg [(.str b),(.str b1),(.int .i64 b2),(.str b3),(.int .i64 b4),(.int .i64 b5),(.str b6),(.str b7),(.str b8),b9]))) h_) fun b10 h_1 =>
bind1 (er (.faddr 0 (.c a10)) h_1) fun x5 =>
bind1 (er (.load1 (.c x5)) h_1) fun v =>
castStr v fun x6 =>
bind1 (er (.faddr 0 (.c b10)) h_1) fun x7 =>
bind1 (er (.load1 (.c x7)) h_1) fun v1 =>
castStr v1 fun x8 =>
cB (x6 == x8) (
bind1 (er (.faddr 1 (.c a10)) h_1) fun x11 =>
bind1 (er (.load1 (.c x11)) h_1) fun v2 =>
castStr v2 fun x12 =>
bind1 (er (.faddr 1 (.c b10)) h_1) fun x13 =>
bind1 (er (.load1 (.c x13)) h_1) fun v3 =>
castStr v3 fun x14 =>
cB (x12 == x14) (
bind1 (er (.faddr 2 (.c a10)) h_1) fun x18 =>
bind1 (er (.loadN 8 (.c x18)) h_1) fun v4 =>
castAgg v4 fun l =>
castCons l fun c l1 =>
castInt .i64 c fun x19_0 =>
castCons l1 fun c1 l2 =>
castStr c1 fun x19_1 =>
castCons l2 fun c2 l3 =>
castInt .i64 c2 fun x19_2 =>
castCons l3 fun c3 l4 =>
castInt .i64 c3 fun x19_3 =>
castCons l4 fun c4 l5 =>
castStr c4 fun x19_4 =>
castCons l5 fun c5 l6 =>
castStr c5 fun x19_5 =>
castCons l6 fun c6 l7 =>
castStr c6 fun x19_6 =>
castCons l7 fun x19_7 l8 =>
castNil l8 (
bind1 (er (.faddr 2 (.c b10)) h_1) fun x20 =>
bind1 (er (.loadN 8 (.c x20)) h_1) fun v5 =>
castAgg v5 fun l9 =>
castCons l9 fun c7 l10 =>
castInt .i64 c7 fun x21_0 =>
castCons l10 fun c8 l11 =>
castStr c8 fun x21_1 =>
castCons l11 fun c9 l12 =>
castInt .i64 c9 fun x21_2 =>
castCons l12 fun c10 l13 =>
castInt .i64 c10 fun x21_3 =>
castCons l13 fun c11 l14 =>
castStr c11 fun x21_4 =>
castCons l14 fun c12 l15 =>
castStr c12 fun x21_5 =>
castCons l15 fun c13 l16 =>
castStr c13 fun x21_6 =>
castCons l16 fun x21_7 l17 =>
castNil l17 (
bind2 (F18 lf (R18 lf lf) x19_0 x19_1 x19_2 x19_3 x19_4 x19_5 x19_6 x19_7 x21_0 x21_1 x21_2 x21_3 x21_4 x21_5 x21_6 x21_7 h_1) fun v6 h_2 =>
castBool v6 fun x22 =>
some ((.bool x22),h_2)))) (
some ((.bool false),h_1))) (
some ((.bool false),h_1))
noncomputable def W37 (lf:Nat):List V → List Ob → Option (V × List Ob) := wG [zPs10,zPs10] (F37 lf)
theorem W37_ok (lf:Nat):WOk Go.Proofs.Try.prog 37 (W37 lf) := FOk 24 [(.t 4)] A37 (x37 lf) [] (sq [.reg [o 2 (.box false 0),o 3 (.box false 1),mv 4 cF],.reg [fa 5 0 2,l1 6 5,fa 7 0 3,l1 8 7,o 9 (.bin .eql 6 8),mv 10 9,oT 11 10 (.faddr 1 2),oT 12 10 (.load1 11),oT 13 10 (.faddr 1 3),oT 14 10 (.load1 13),oT 15 10 (.bin .eql 12 14),o 16 (.pick 10 15 cF),mv 17 16,oT 18 17 (.faddr 2 2),oT 19 17 (.loadN 8 18),oT 20 17 (.faddr 2 3),oT 21 17 (.loadN 8 20),caT 22 17 18 [19,21],o 23 (.pick 17 22 cF),mv 4 23],.ret]) [zPs10,zPs10] _ Go.Proofs.Try.func37 (by kernel_rfl) (by kernel_rfl) (by kernel_rfl) (fun _ _ _ _ _ _ _ _ _ _ _ _ _ _ _ _ _ _ _ _ _ => by kernel_rfl)
def A38 := mkA [(Sb,[6,14,18,29,30]),(Si,[7,11,13,16,17,19,23,31]),(zPs12,[21,25,27,28])]
noncomputable def x38 (lf:Nat) (cv:CallVS) (hcv:CvOk Go.Proofs.Try.prog cv):Cx Go.Proofs.Try.prog := .v .o hcv
noncomputable def B38_0 (lf:Nat) (cv:CallVS) (self:V → V → V → Int → Int → List Ob → SubR) (s2:V) (eq:V) (x15:V) (x16:Int) (x17:Int) (h:List Ob):SubR :=
cB (decide (x17 < x16)) (
bind1 (er (.iaddrL 9 (.c x15) (.c (.int .i64 x17))) h) fun x20 =>
bind1 (er (.loadN 9 (.c x20)) h) fun v =>
castAgg v fun l =>
castCons l fun c l1 =>
castInt .i64 c fun x21_0 =>
castCons l1 fun c1 l2 =>
castStr c1 fun x21_1 =>
castCons l2 fun c2 l3 =>
castInt .i64 c2 fun x21_2 =>
castCons l3 fun c3 l4 =>
castInt .i64 c3 fun x21_3 =>
castCons l4 fun c4 l5 =>
castStr c4 fun x21_4 =>
castCons l5 fun c5 l6 =>
castStr c5 fun x21_5 =>
castCons l6 fun c6 l7 =>
castStr c6 fun x21_6 =>
castCons l7 fun x21_7 l8 =>
castCons l8 fun c7 l9 =>
castBool c7 fun x21_8 =>
castNil l9 (
bind2 (ev (.alloc false (.agg [(.int .i64 0),(.str []),(.int .i64 0),(.int .i64 0),(.str []),(.str []),(.str []),.nils,(.bool false)])) h) fun v1 h_ =>
bind2 (ev (.store 9 (.c v1) (.c (.agg [(.int .i64 x21_0),(.str x21_1),(.int .i64 x21_2),(.int .i64 x21_3),(.str x21_4),(.str x21_5),(.str x21_6),x21_7,(.bool x21_8)]))) h_) fun u h_1 =>
bind1 (er (.iaddrL 9 (.c s2) (.c (.int .i64 x17))) h_1) fun x24 =>
bind1 (er (.loadN 9 (.c x24)) h_1) fun v2 =>
castAgg v2 fun l10 =>
castCons l10 fun c8 l11 =>
castInt .i64 c8 fun x25_0 =>
castCons l11 fun c9 l12 =>
castStr c9 fun x25_1 =>
castCons l12 fun c10 l13 =>
castInt .i64 c10 fun x25_2 =>
castCons l13 fun c11 l14 =>
castInt .i64 c11 fun x25_3 =>
castCons l14 fun c12 l15 =>
castStr c12 fun x25_4 =>
castCons l15 fun c13 l16 =>
castStr c13 fun x25_5 =>
castCons l16 fun c14 l17 =>
castStr c14 fun x25_6 =>
castCons l17 fun x25_7 l18 =>
castCons l18 fun c15 l19 =>
castBool c15 fun x25_8 =>
castNil l19 (
bind2 (ev (.alloc false (.agg [(.int .i64 0),(.str []),(.int .i64 0),(.int .i64 0),(.str []),(.str []),(.str []),.nils,(.bool false)])) h_1) fun v2_1 h_2 =>
bind2 (ev (.store 9 (.c v2_1) (.c (.agg [(.int .i64 x25_0),(.str x25_1),(.int .i64 x25_2),(.int .i64 x25_3),(.str x25_4),(.str x25_5),(.str x25_6),x25_7,(.bool x25_8)]))) h_2) fun u1 h_3 =>
bind1 (er (.loadN 9 (.c v1)) h_3) fun v3 =>
castAgg v3 fun l20 =>
castCons l20 fun c16 l21 =>
castInt .i64 c16 fun x27_0 =>
castCons l21 fun c17 l22 =>
castStr c17 fun x27_1 =>
castCons l22 fun c18 l23 =>
castInt .i64 c18 fun x27_2 =>
castCons l23 fun c19 l24 =>
castInt .i64 c19 fun x27_3 =>
castCons l24 fun c20 l25 =>
castStr c20 fun x27_4 =>
castCons l25 fun c21 l26 =>
castStr c21 fun x27_5 =>
castCons l26 fun c22 l27 =>
castStr c22 fun x27_6 =>
castCons l27 fun x27_7 l28 =>
castCons l28 fun c23 l29 =>
castBool c23 fun x27_8 =>
castNil l29 (
bind1 (er (.loadN 9 (.c v2_1)) h_3) fun v4 =>
castAgg v4 fun l30 =>
castCons l30 fun c24 l31 =>
castInt .i64 c24 fun x28_0 =>
castCons l31 fun c25 l32 =>
castStr c25 fun x28_1 =>
castCons l32 fun c26 l33 =>
castInt .i64 c26 fun x28_2 =>
castCons l33 fun c27 l34 =>
castInt .i64 c27 fun x28_3 =>
castCons l34 fun c28 l35 =>
castStr c28 fun x28_4 =>
castCons l35 fun c29 l36 =>
castStr c29 fun x28_5 =>
castCons l36 fun c30 l37 =>
castStr c30 fun x28_6 =>
castCons l37 fun x28_7 l38 =>
castCons l38 fun c31 l39 =>
castBool c31 fun x28_8 =>
castNil l39 (
bind2 (cv eq [(.agg [(.int .i64 x27_0),(.str x27_1),(.int .i64 x27_2),(.int .i64 x27_3),(.str x27_4),(.str x27_5),(.str x27_6),x27_7,(.bool x27_8)]),(.agg [(.int .i64 x28_0),(.str x28_1),(.int .i64 x28_2),(.int .i64 x28_3),(.str x28_4),(.str x28_5),(.str x28_6),x28_7,(.bool x28_8)])] h_3) fun v5 h_4 =>
castBool v5 fun x29 =>
cB (!x29) (
some (.ret,[(.bool false)],h_4)) (
self s2 eq x15 x16 (IntKind.i64.wrap (x17 + (1))) h_4)))))) (
some ((.exit 0),[],h))
noncomputable def L38_0 (lf:Nat) (cv:CallVS):Nat → V → V → V → Int → Int → List Ob → SubR
  | 0 => fun _ _ _ _ _ _ => none
  | n + 1 => B38_0 lf cv (L38_0 lf cv n)
noncomputable def p38_0 (lf:Nat) (cv:CallVS) (hcv:CvOk Go.Proofs.Try.prog cv):Pt Go.Proofs.Try.prog := .loop A38 (x38 lf cv hcv) [] (sq [.reg [o 18 (.bin .lss 17 16)],.cond 18 .skip (.exit 0),.block 1 (sq [.reg [mv 19 17,o 20 (.iaddrL 9 15 17),ln 21 9 20,o 8 (.alloc false zPs13),mv 7 19,st 9 8 21],.reg [mv 22 1,mv 23 7,o 24 (.iaddrL 9 22 23),ln 25 9 24,o 9 (.alloc false zPs13),st 9 9 25],.reg [mv 26 2,ln 27 9 8,ln 28 9 9,cw 29 26 [27,28],o 30 (.un .not 29)],.cond 30 (sq [.reg [mv 6 cF],.ret]) .skip]),.reg [o 31 (.bin .add 17 (ci 1)),mv 17 31]]) [Sa,Sa,Sa,Si,Si] [1,2,15,16,17] [((.exit 0),[],[]),(.ret,[6],[Sb])] (B38_0 lf cv) (L38_0 lf cv) (fun _ _ _ _ _ _ => rfl) (fun _ => rfl) (fun _ _ _ _ _ _ _ => by kernel_rfl) lf
noncomputable def F38 (lf:Nat) (cv:CallVS) (s1:V) (s2:V) (eq:V) (h:List Ob):Option (V × List Ob) :=
bind1 (er (.lenL (.c s1)) h) fun v =>
castInt .i64 v fun x11 =>
bind1 (er (.lenL (.c s2)) h) fun v1 =>
castInt .i64 v1 fun x13 =>
cB (x11 != x13) (
some ((.bool false),h)) (
bind1 (er (.lenL (.c s1)) h) fun v2 =>
castInt .i64 v2 fun x16 =>
bind3 (L38_0 lf cv lf s2 eq s1 x16 (0) h) fun ex vs h_ =>
cB (decide (ex = (.exit 0))) (
castNil vs (
some ((.bool true),h_))) (
cB (decide (ex = .ret)) (
castCons vs fun c l =>
castBool c fun x6 =>
castNil l (
some ((.bool x6),h_))) (
none)))
noncomputable def W38 (lf:Nat) (cv:CallVS):List V → List Ob → Option (V × List Ob) := wG [Sa,Sa,Sa] (F38 lf cv)
theorem W38_ok (lf:Nat) (cv:CallVS) (hcv:CvOk Go.Proofs.Try.prog cv):WOk Go.Proofs.Try.prog 38 (W38 lf cv) := FOk 32 [(.t 6)] A38 (x38 lf cv hcv) [p38_0 lf cv hcv] (sq [.reg [mv 6 cF],sq [.reg [mv 10 0,o 11 (.lenL 10),mv 12 1,o 13 (.lenL 12),o 14 (.bin .neq 11 13)],.cond 14 (sq [.reg [mv 6 cF],.ret]) .skip],sq [.reg [mv 15 0,o 16 (.lenL 15),mv 17 (ci 0)],.block 0 (.sub 0)],.reg [mv 6 cT],.ret]) [Sa,Sa,Sa] _ Go.Proofs.Try.func38 (by kernel_rfl) (by kernel_rfl) (by kernel_rfl) (fun _ _ _ _ => by kernel_rfl)
def A39 := mkA [(zPs12,[0,1]),(Sb,[4,6,8,9,10,15,16]),(zPs7,[12,14])]
noncomputable def x39 (lf:Nat):Cx Go.Proofs.Try.prog := .c .o (W18_ok lf (R18 lf lf) (R18_ok lf lf))
noncomputable def F39 (lf:Nat) (a:Int) (a1:List UInt8) (a2:Int) (a3:Int) (a4:List UInt8) (a5:List UInt8) (a6:List UInt8) (a7:V) (a8:Bool) (b:Int) (b1:List UInt8) (b2:Int) (b3:Int) (b4:List UInt8) (b5:List UInt8) (b6:List UInt8) (b7:V) (b8:Bool) (h:List Ob):Option (V × List Ob) :=
bind2 (ev (.box false (.c (.agg [(.int .i64 a),(.str a1),(.int .i64 a2),(.int .i64 a3),(.str a4),(.str a5),(.str a6),a7,(.bool a8)]))) h) fun a9 h_ =>
bind2 (ev (.box false (.c (.agg [(.int .i64 b),(.str b1),(.int .i64 b2),(.int .i64 b3),(.str b4),(.str b5),(.str b6),b7,(.bool b8)]))) h_) fun b9 h_1 =>
bind1 (er (.faddr 8 (.c a9)) h_1) fun x5 =>
bind1 (er (.load1 (.c x5)) h_1) fun v =>
castBool v fun x6 =>
bind1 (er (.faddr 8 (.c b9)) h_1) fun x7 =>
bind1 (er (.load1 (.c x7)) h_1) fun v1 =>
castBool v1 fun x8 =>
cB (x6 == x8) (
bind1 (er (.faddr 0 (.c a9)) h_1) fun x11 =>
bind1 (er (.loadN 8 (.c x11)) h_1) fun v2 =>
castAgg v2 fun l =>
castCons l fun c l1 =>
castInt .i64 c fun x12_0 =>
castCons l1 fun c1 l2 =>
castStr c1 fun x12_1 =>
castCons l2 fun c2 l3 =>
castInt .i64 c2 fun x12_2 =>
castCons l3 fun c3 l4 =>
castInt .i64 c3 fun x12_3 =>
castCons l4 fun c4 l5 =>
castStr c4 fun x12_4 =>
castCons l5 fun c5 l6 =>
castStr c5 fun x12_5 =>
castCons l6 fun c6 l7 =>
castStr c6 fun x12_6 =>
castCons l7 fun x12_7 l8 =>
castNil l8 (
bind1 (er (.faddr 0 (.c b9)) h_1) fun x13 =>
bind1 (er (.loadN 8 (.c x13)) h_1) fun v3 =>
castAgg v3 fun l9 =>
castCons l9 fun c7 l10 =>
castInt .i64 c7 fun x14_0 =>
castCons l10 fun c8 l11 =>
castStr c8 fun x14_1 =>
castCons l11 fun c9 l12 =>
castInt .i64 c9 fun x14_2 =>
castCons l12 fun c10 l13 =>
castInt .i64 c10 fun x14_3 =>
castCons l13 fun c11 l14 =>
castStr c11 fun x14_4 =>
castCons l14 fun c12 l15 =>
castStr c12 fun x14_5 =>
castCons l15 fun c13 l16 =>
castStr c13 fun x14_6 =>
castCons l16 fun x14_7 l17 =>
castNil l17 (
bind2 (F18 lf (R18 lf lf) x12_0 x12_1 x12_2 x12_3 x12_4 x12_5 x12_6 x12_7 x14_0 x14_1 x14_2 x14_3 x14_4 x14_5 x14_6 x14_7 h_1) fun v4 h_2 =>
castBool v4 fun x15 =>
some ((.bool x15),h_2)))) (
some ((.bool false),h_1))
noncomputable def W39 (lf:Nat):List V → List Ob → Option (V × List Ob) := wG [zPs12,zPs12] (F39 lf)
theorem W39_ok (lf:Nat):WOk Go.Proofs.Try.prog 39 (W39 lf) := FOk 17 [(.t 4)] A39 (x39 lf) [] (sq [.reg [o 2 (.box false 0),o 3 (.box false 1),mv 4 cF],.reg [fa 5 8 2,l1 6 5,fa 7 8 3,l1 8 7,o 9 (.eq false .bool 6 8),mv 10 9,oT 11 10 (.faddr 0 2),oT 12 10 (.loadN 8 11),oT 13 10 (.faddr 0 3),oT 14 10 (.loadN 8 13),caT 15 10 18 [12,14],o 16 (.pick 10 15 cF),mv 4 16],.ret]) [zPs12,zPs12] _ Go.Proofs.Try.func39 (by kernel_rfl) (by kernel_rfl) (by kernel_rfl) (fun _ _ _ _ _ _ _ _ _ _ _ _ _ _ _ _ _ _ _ => by kernel_rfl)
noncomputable def cv23 (lf:Nat):CallVS := cvC 39 (W39 lf) (cvC 37 (W37 lf) (cvC 35 (W35 lf) (cvC 18 (W18 lf (R18 lf lf)) (cvN))))
theorem cv23_ok (lf:Nat):CvOk Go.Proofs.Try.prog (cv23 lf) := cvC_ok (W39_ok lf) (cvC_ok (W37_ok lf) (cvC_ok (W35_ok lf) (cvC_ok (W18_ok lf (R18 lf lf) (R18_ok lf lf)) (cvN_ok))))
def A23 := mkA [(zPs1,[0,1]),(Sb,[4,6,8,9,10,12,14,15,16,17,22,23,24,29,30,31,36,37,38,43,44,45,50,51,52,57,58]),(Si,[19,21])]
noncomputable def x23 (lf:Nat):Cx Go.Proofs.Try.prog := .v (.c (.c (.c (.c .o (W17_ok lf (cv23 lf) (cv23_ok lf))) (W34_ok lf (cv23 lf) (cv23_ok lf))) (W36_ok lf (cv23 lf) (cv23_ok lf))) (W38_ok lf (cv23 lf) (cv23_ok lf))) (cv23_ok lf)
noncomputable def F23 (lf:Nat) (a:Bool) (a1:Bool) (a2:V) (a3:V) (a4:V) (a5:V) (a6:V) (a7:Int) (b:Bool) (b1:Bool) (b2:V) (b3:V) (b4:V) (b5:V) (b6:V) (b7:Int) (h:List Ob):Option (V × List Ob) :=
bind2 (ev (.box false (.c (.agg [(.bool a),(.bool a1),a2,a3,a4,a5,a6,(.int .i64 a7)]))) h) fun a8 h_ =>
bind2 (ev (.box false (.c (.agg [(.bool b),(.bool b1),b2,b3,b4,b5,b6,(.int .i64 b7)]))) h_) fun b8 h_1 =>
bind1 (er (.faddr 0 (.c a8)) h_1) fun x5 =>
bind1 (er (.load1 (.c x5)) h_1) fun v =>
castBool v fun x6 =>
bind1 (er (.faddr 0 (.c b8)) h_1) fun x7 =>
bind1 (er (.load1 (.c x7)) h_1) fun v1 =>
castBool v1 fun x8 =>
cB (x6 == x8) (
bind1 (er (.faddr 1 (.c a8)) h_1) fun x11 =>
bind1 (er (.load1 (.c x11)) h_1) fun v2 =>
castBool v2 fun x12 =>
bind1 (er (.faddr 1 (.c b8)) h_1) fun x13 =>
bind1 (er (.load1 (.c x13)) h_1) fun v3 =>
castBool v3 fun x14 =>
cB (x12 == x14) (
bind1 (er (.faddr 7 (.c a8)) h_1) fun x18 =>
bind1 (er (.load1 (.c x18)) h_1) fun v4 =>
castInt .i64 v4 fun x19 =>
bind1 (er (.faddr 7 (.c b8)) h_1) fun x20 =>
bind1 (er (.load1 (.c x20)) h_1) fun v5 =>
castInt .i64 v5 fun x21 =>
cB (x19 == x21) (
bind1 (er (.faddr 2 (.c a8)) h_1) fun x25 =>
bind1 (er (.load1 (.c x25)) h_1) fun x26 =>
bind1 (er (.faddr 2 (.c b8)) h_1) fun x27 =>
bind1 (er (.load1 (.c x27)) h_1) fun x28 =>
bind2 (F34 lf (cv23 lf) x26 x28 (.fn 35 []) h_1) fun v6 h_2 =>
castBool v6 fun x29 =>
cB x29 (
bind1 (er (.faddr 3 (.c a8)) h_2) fun x32 =>
bind1 (er (.load1 (.c x32)) h_2) fun x33 =>
bind1 (er (.faddr 3 (.c b8)) h_2) fun x34 =>
bind1 (er (.load1 (.c x34)) h_2) fun x35 =>
bind2 (F36 lf (cv23 lf) x33 x35 (.fn 37 []) h_2) fun v7 h_3 =>
castBool v7 fun x36 =>
cB x36 (
bind1 (er (.faddr 4 (.c a8)) h_3) fun x39 =>
bind1 (er (.load1 (.c x39)) h_3) fun x40 =>
bind1 (er (.faddr 4 (.c b8)) h_3) fun x41 =>
bind1 (er (.load1 (.c x41)) h_3) fun x42 =>
bind2 (F17 lf (cv23 lf) x40 x42 (.fn 18 []) h_3) fun v8 h_4 =>
castBool v8 fun x43 =>
cB x43 (
bind1 (er (.faddr 5 (.c a8)) h_4) fun x46 =>
bind1 (er (.load1 (.c x46)) h_4) fun x47 =>
bind1 (er (.faddr 5 (.c b8)) h_4) fun x48 =>
bind1 (er (.load1 (.c x48)) h_4) fun x49 =>
bind2 (F17 lf (cv23 lf) x47 x49 (.fn 18 []) h_4) fun v9 h_5 =>
castBool v9 fun x50 =>
cB x50 (
bind1 (er (.faddr 6 (.c a8)) h_5) fun x53 =>
bind1 (er (.load1 (.c x53)) h_5) fun x54 =>
bind1 (er (.faddr 6 (.c b8)) h_5) fun x55 =>
bind1 (er (.load1 (.c x55)) h_5) fun x56 =>
bind2 (F38 lf (cv23 lf) x54 x56 (.fn 39 []) h_5) fun v10 h_6 =>
castBool v10 fun x57 =>
some ((.bool x57),h_6)) (
some ((.bool false),h_5))) (
some ((.bool false),h_4))) (
some ((.bool false),h_3))) (
some ((.bool false),h_2))) (
some ((.bool false),h_1))) (
some ((.bool false),h_1))) (
some ((.bool false),h_1))
noncomputable def W23 (lf:Nat):List V → List Ob → Option (V × List Ob) := wG [zPs1,zPs1] (F23 lf)
theorem W23_ok (lf:Nat):WOk Go.Proofs.Try.prog 23 (W23 lf) := FOk 59 [(.t 4)] A23 (x23 lf) [] (sq [.reg [o 2 (.box false 0),o 3 (.box false 1),mv 4 cF],.reg [fa 5 0 2,l1 6 5,fa 7 0 3,l1 8 7,o 9 (.eq false .bool 6 8),mv 10 9,oT 11 10 (.faddr 1 2),oT 12 10 (.load1 11),oT 13 10 (.faddr 1 3),oT 14 10 (.load1 13),oT 15 10 (.eq false .bool 12 14),o 16 (.pick 10 15 cF),mv 17 16,oT 18 17 (.faddr 7 2),oT 19 17 (.load1 18),oT 20 17 (.faddr 7 3),oT 21 17 (.load1 20),oT 22 17 (.bin .eql 19 21),o 23 (.pick 17 22 cF),mv 24 23,oT 25 24 (.faddr 2 2),oT 26 24 (.load1 25),oT 27 24 (.faddr 2 3),oT 28 24 (.load1 27),caT 29 24 34 [26,28,(.c (.fn 35 []))],o 30 (.pick 24 29 cF),mv 31 30,oT 32 31 (.faddr 3 2),oT 33 31 (.load1 32),oT 34 31 (.faddr 3 3),oT 35 31 (.load1 34),caT 36 31 36 [33,35,(.c (.fn 37 []))],o 37 (.pick 31 36 cF),mv 38 37,oT 39 38 (.faddr 4 2),oT 40 38 (.load1 39),oT 41 38 (.faddr 4 3),oT 42 38 (.load1 41),caT 43 38 17 [40,42,(.c (.fn 18 []))],o 44 (.pick 38 43 cF),mv 45 44,oT 46 45 (.faddr 5 2),oT 47 45 (.load1 46),oT 48 45 (.faddr 5 3),oT 49 45 (.load1 48),caT 50 45 17 [47,49,(.c (.fn 18 []))],o 51 (.pick 45 50 cF),mv 52 51,oT 53 52 (.faddr 6 2),oT 54 52 (.load1 53),oT 55 52 (.faddr 6 3),oT 56 52 (.load1 55),caT 57 52 38 [54,56,(.c (.fn 39 []))],o 58 (.pick 52 57 cF),mv 4 58],.ret]) [zPs1,zPs1] _ Go.Proofs.Try.func23 (by kernel_rfl) (by kernel_rfl) (by kernel_rfl) (fun _ _ _ _ _ _ _ _ _ _ _ _ _ _ _ _ _ => by kernel_rfl)
noncomputable def cv6 (lf:Nat):CallVS := cvC 22 (W22 lf) (cvC 20 (W20 lf) (cvC 18 (W18 lf (R18 lf lf)) (cvN)))
theorem cv6_ok (lf:Nat):CvOk Go.Proofs.Try.prog (cv6 lf) := cvC_ok (W22_ok lf) (cvC_ok (W20_ok lf) (cvC_ok (W18_ok lf (R18 lf lf) (R18_ok lf lf)) (cvN_ok)))
def A6 := mkA [(Sb,[4,9,10,15,16,17,22,23,24,26,28,29,30,31,36,37,38,43,44,45,50,51,52,57,58,59,64,65,66,71,72]),(Si,[6,8]),(Ss,[12,14,19,21]),(zPs1,[68,70])]
noncomputable def x6 (lf:Nat):Cx Go.Proofs.Try.prog := .v (.c (.c (.c (.c (.c (.c .o (W15_ok lf)) (W16_ok lf)) (W17_ok lf (cv6 lf) (cv6_ok lf))) (W19_ok lf (cv6 lf) (cv6_ok lf))) (W21_ok lf (cv6 lf) (cv6_ok lf))) (W23_ok lf)) (cv6_ok lf)
noncomputable def F6 (lf:Nat) (a:V) (b:V) (h:List Ob):Option (V × List Ob) :=
bind2 (ev (.box false (.c a)) h) fun a1 h_ =>
bind2 (ev (.box false (.c b)) h_) fun b1 h_1 =>
bind1 (er (.faddr 0 (.c a1)) h_1) fun x5 =>
bind1 (er (.load1 (.c x5)) h_1) fun v =>
castInt .i64 v fun x6 =>
bind1 (er (.faddr 0 (.c b1)) h_1) fun x7 =>
bind1 (er (.load1 (.c x7)) h_1) fun v1 =>
castInt .i64 v1 fun x8 =>
cB (x6 == x8) (
bind1 (er (.faddr 1 (.c a1)) h_1) fun x11 =>
bind1 (er (.load1 (.c x11)) h_1) fun v2 =>
castStr v2 fun x12 =>
bind1 (er (.faddr 1 (.c b1)) h_1) fun x13 =>
bind1 (er (.load1 (.c x13)) h_1) fun v3 =>
castStr v3 fun x14 =>
cB (x12 == x14) (
bind1 (er (.faddr 2 (.c a1)) h_1) fun x18 =>
bind1 (er (.load1 (.c x18)) h_1) fun v4 =>
castStr v4 fun x19 =>
bind1 (er (.faddr 2 (.c b1)) h_1) fun x20 =>
bind1 (er (.load1 (.c x20)) h_1) fun v5 =>
castStr v5 fun x21 =>
cB (x19 == x21) (
bind1 (er (.faddr 3 (.c a1)) h_1) fun x25 =>
bind1 (er (.load1 (.c x25)) h_1) fun v6 =>
castBool v6 fun x26 =>
bind1 (er (.faddr 3 (.c b1)) h_1) fun x27 =>
bind1 (er (.load1 (.c x27)) h_1) fun v7 =>
castBool v7 fun x28 =>
cB (x26 == x28) (
bind1 (er (.faddr 4 (.c a1)) h_1) fun x32 =>
bind1 (er (.load1 (.c x32)) h_1) fun x33 =>
bind1 (er (.faddr 4 (.c b1)) h_1) fun x34 =>
bind1 (er (.load1 (.c x34)) h_1) fun x35 =>
bind2 (F15 lf x33 x35 h_1) fun v8 h_2 =>
castBool v8 fun x36 =>
cB x36 (
bind1 (er (.faddr 5 (.c a1)) h_2) fun x39 =>
bind1 (er (.load1 (.c x39)) h_2) fun x40 =>
bind1 (er (.faddr 5 (.c b1)) h_2) fun x41 =>
bind1 (er (.load1 (.c x41)) h_2) fun x42 =>
bind2 (F16 lf x40 x42 h_2) fun v9 h_3 =>
castBool v9 fun x43 =>
cB x43 (
bind1 (er (.faddr 8 (.c a1)) h_3) fun x46 =>
bind1 (er (.load1 (.c x46)) h_3) fun x47 =>
bind1 (er (.faddr 8 (.c b1)) h_3) fun x48 =>
bind1 (er (.load1 (.c x48)) h_3) fun x49 =>
bind2 (F17 lf (cv6 lf) x47 x49 (.fn 18 []) h_3) fun v10 h_4 =>
castBool v10 fun x50 =>
cB x50 (
bind1 (er (.faddr 6 (.c a1)) h_4) fun x53 =>
bind1 (er (.load1 (.c x53)) h_4) fun x54 =>
bind1 (er (.faddr 6 (.c b1)) h_4) fun x55 =>
bind1 (er (.load1 (.c x55)) h_4) fun x56 =>
bind2 (F19 lf (cv6 lf) x54 x56 (.fn 20 []) h_4) fun v11 h_5 =>
castBool v11 fun x57 =>
cB x57 (
bind1 (er (.faddr 7 (.c a1)) h_5) fun x60 =>
bind1 (er (.load1 (.c x60)) h_5) fun x61 =>
bind1 (er (.faddr 7 (.c b1)) h_5) fun x62 =>
bind1 (er (.load1 (.c x62)) h_5) fun x63 =>
bind2 (F21 lf (cv6 lf) x61 x63 (.fn 22 []) h_5) fun v12 h_6 =>
castBool v12 fun x64 =>
cB x64 (
bind1 (er (.faddr 9 (.c a1)) h_6) fun x67 =>
bind1 (er (.loadN 8 (.c x67)) h_6) fun v13 =>
castAgg v13 fun l =>
castCons l fun c l1 =>
castBool c fun x68_0 =>
castCons l1 fun c1 l2 =>
castBool c1 fun x68_1 =>
castCons l2 fun x68_2 l3 =>
castCons l3 fun x68_3 l4 =>
castCons l4 fun x68_4 l5 =>
castCons l5 fun x68_5 l6 =>
castCons l6 fun x68_6 l7 =>
castCons l7 fun c2 l8 =>
castInt .i64 c2 fun x68_7 =>
castNil l8 (
bind1 (er (.faddr 9 (.c b1)) h_6) fun x69 =>
bind1 (er (.loadN 8 (.c x69)) h_6) fun v14 =>
castAgg v14 fun l9 =>
castCons l9 fun c3 l10 =>
castBool c3 fun x70_0 =>
castCons l10 fun c4 l11 =>
castBool c4 fun x70_1 =>
castCons l11 fun x70_2 l12 =>
castCons l12 fun x70_3 l13 =>
castCons l13 fun x70_4 l14 =>
castCons l14 fun x70_5 l15 =>
castCons l15 fun x70_6 l16 =>
castCons l16 fun c5 l17 =>
castInt .i64 c5 fun x70_7 =>
castNil l17 (
bind2 (F23 lf x68_0 x68_1 x68_2 x68_3 x68_4 x68_5 x68_6 x68_7 x70_0 x70_1 x70_2 x70_3 x70_4 x70_5 x70_6 x70_7 h_6) fun v15 h_7 =>
castBool v15 fun x71 =>
some ((.bool x71),h_7)))) (
some ((.bool false),h_6))) (
some ((.bool false),h_5))) (
some ((.bool false),h_4))) (
some ((.bool false),h_3))) (
some ((.bool false),h_2))) (
some ((.bool false),h_1))) (
some ((.bool false),h_1))) (
some ((.bool false),h_1))) (
some ((.bool false),h_1))
noncomputable def W6 (lf:Nat):List V → List Ob → Option (V × List Ob) := wG [Sa,Sa] (F6 lf)
theorem W6_ok (lf:Nat):WOk Go.Proofs.Try.prog 6 (W6 lf) := FOk 73 [(.t 4)] A6 (x6 lf) [] (sq [.reg [o 2 (.box false 0),o 3 (.box false 1),mv 4 cF],.reg [fa 5 0 2,l1 6 5,fa 7 0 3,l1 8 7,o 9 (.bin .eql 6 8),mv 10 9,oT 11 10 (.faddr 1 2),oT 12 10 (.load1 11),oT 13 10 (.faddr 1 3),oT 14 10 (.load1 13),oT 15 10 (.bin .eql 12 14),o 16 (.pick 10 15 cF),mv 17 16,oT 18 17 (.faddr 2 2),oT 19 17 (.load1 18),oT 20 17 (.faddr 2 3),oT 21 17 (.load1 20),oT 22 17 (.bin .eql 19 21),o 23 (.pick 17 22 cF),mv 24 23,oT 25 24 (.faddr 3 2),oT 26 24 (.load1 25),oT 27 24 (.faddr 3 3),oT 28 24 (.load1 27),oT 29 24 (.eq false .bool 26 28),o 30 (.pick 24 29 cF),mv 31 30,oT 32 31 (.faddr 4 2),oT 33 31 (.load1 32),oT 34 31 (.faddr 4 3),oT 35 31 (.load1 34),caT 36 31 15 [33,35],o 37 (.pick 31 36 cF),mv 38 37,oT 39 38 (.faddr 5 2),oT 40 38 (.load1 39),oT 41 38 (.faddr 5 3),oT 42 38 (.load1 41),caT 43 38 16 [40,42],o 44 (.pick 38 43 cF),mv 45 44,oT 46 45 (.faddr 8 2),oT 47 45 (.load1 46),oT 48 45 (.faddr 8 3),oT 49 45 (.load1 48),caT 50 45 17 [47,49,(.c (.fn 18 []))],o 51 (.pick 45 50 cF),mv 52 51,oT 53 52 (.faddr 6 2),oT 54 52 (.load1 53),oT 55 52 (.faddr 6 3),oT 56 52 (.load1 55),caT 57 52 19 [54,56,(.c (.fn 20 []))],o 58 (.pick 52 57 cF),mv 59 58,oT 60 59 (.faddr 7 2),oT 61 59 (.load1 60),oT 62 59 (.faddr 7 3),oT 63 59 (.load1 62),caT 64 59 21 [61,63,(.c (.fn 22 []))],o 65 (.pick 59 64 cF),mv 66 65,oT 67 66 (.faddr 9 2),oT 68 66 (.loadN 8 67),oT 69 66 (.faddr 9 3),oT 70 66 (.loadN 8 69),caT 71 66 23 [68,70],o 72 (.pick 66 71 cF),mv 4 72],.ret]) [Sa,Sa] _ Go.Proofs.Try.func6 (by kernel_rfl) (by kernel_rfl) (by kernel_rfl) (fun _ _ _ => by kernel_rfl)
def A3 := mkA [(Ss,[0,1,13,18,23,28,34,41,42,43,44,45,46,47,48]),(Sb,[4,10,11,12,15,16,17,20,21,22,26,31,39,53,54,57,58]),(Si,[5,7,9,14,19,24,25,27,29,32,37,38,51,52]),(.int .u8,[30]),(zPs4,[33,35,40,49])]
noncomputable def x3 (lf:Nat):Cx Go.Proofs.Try.prog := .c (.c (.c .o (W4_ok lf)) (W5_ok lf)) (W6_ok lf)
noncomputable def B3_0 (lf:Nat) (self:List UInt8 → Int → Int → List Ob → SubR) (note:List UInt8) (x24:Int) (x25:Int) (h:List Ob):SubR :=
cB (decide (x25 < x24)) (
bind1 (er (.idxS (.c (.str note)) (.c (.int .i64 x25))) h) fun v =>
castInt .u8 v fun x30 =>
cB (x30 == (10)) (
some (.ret,[(.bool true)],h)) (
self note x24 (IntKind.i64.wrap (x25 + (1))) h)) (
some ((.exit 0),[],h))
noncomputable def L3_0 (lf:Nat):Nat → List UInt8 → Int → Int → List Ob → SubR
  | 0 => fun _ _ _ _ => none
  | n + 1 => B3_0 lf (L3_0 lf n)
noncomputable def p3_0 (lf:Nat):Pt Go.Proofs.Try.prog := .loop A3 (x3 lf) [] (sq [.reg [o 26 (.bin .lss 25 24)],.cond 26 .skip (.exit 0),.block 1 (sq [.reg [mv 27 25,mv 5 27],.reg [mv 28 1,mv 29 5,o 30 (.idxS 28 29),o 31 (.bin .eql 30 (c8 10))],.cond 31 (sq [.reg [mv 4 cT],.ret]) .skip]),.reg [o 32 (.bin .add 25 (ci 1)),mv 25 32]]) [Ss,Si,Si] [1,24,25] [((.exit 0),[],[]),(.ret,[4],[Sb])] (B3_0 lf) (L3_0 lf) (fun _ _ _ _ => rfl) (fun _ => rfl) (fun _ _ _ _ _ => by kernel_rfl) lf
noncomputable def S3_1 (lf:Nat) (text:List UInt8) (note:List UInt8) (h:List Ob):SubR :=
bind2 (F4 lf h) fun v h_ =>
castBool v fun x10 =>
cB (!x10) (
bind2 (F4 lf h_) fun v1 h_1 =>
castBool v1 fun x22 =>
some (.ret,[(.bool x22)],h_1)) (
cB (decide (((text).length:Int) > (1500))) (
bind2 (F4 lf h_) fun v1 h_1 =>
castBool v1 fun x22 =>
some (.ret,[(.bool x22)],h_1)) (
cB (decide (((note).length:Int) > (1000))) (
bind2 (F4 lf h_) fun v1 h_1 =>
castBool v1 fun x22 =>
some (.ret,[(.bool x22)],h_1)) (
some (.normal,[],h_))))
noncomputable def p3_1 (lf:Nat):Pt Go.Proofs.Try.prog := .of A3 (x3 lf) [] (sq [.reg [ca 10 4 [],o 11 (.un .not 10),mv 12 11,oF 13 12 (.mv 0),oF 14 12 (.lenS 13),oF 15 12 (.bin .gtr 14 (ci 1500)),o 16 (.pick 12 cT 15),mv 17 16,oF 18 17 (.mv 1),oF 19 17 (.lenS 18),oF 20 17 (.bin .gtr 19 (ci 1000)),o 21 (.pick 17 cT 20)],.cond 21 (sq [.reg [ca 22 4 [],mv 4 22],.ret]) .skip]) [Ss,Ss] [0,1] [(.ret,[4],[Sb]),(.normal,[],[])] (S3_1 lf) (fun _ _ _ => by kernel_rfl)
noncomputable def F3 (lf:Nat) (text:List UInt8) (note:List UInt8) (h:List Ob):Option (V × List Ob) :=
bind3 (S3_1 lf text note h) fun ex vs h_ =>
cB (decide (ex = .ret)) (
castCons vs fun c l =>
castBool c fun x4 =>
castNil l (
some ((.bool x4),h_))) (
cB (decide (ex = .normal)) (
castNil vs (
bind3 (L3_0 lf lf note ((note).length:Int) (0) h_) fun ex1 vs1 h_1 =>
cB (decide (ex1 = (.exit 0))) (
castNil vs1 (
bind2 (F5 lf text h_1) fun v h_2 =>
castTup v fun l =>
castCons l fun c l1 =>
castAgg c fun l2 =>
castCons l2 fun c1 l3 =>
castInt .i64 c1 fun x35_0_0 =>
castCons l3 fun c2 l4 =>
castStr c2 fun x35_0_1 =>
castCons l4 fun c3 l5 =>
castStr c3 fun x35_0_2 =>
castCons l5 fun c4 l6 =>
castBool c4 fun x35_0_3 =>
castCons l6 fun x35_0_4 l7 =>
castCons l7 fun x35_0_5 l8 =>
castCons l8 fun x35_0_6 l9 =>
castCons l9 fun x35_0_7 l10 =>
castCons l10 fun x35_0_8 l11 =>
castCons l11 fun c5 l12 =>
castBool c5 fun x35_0_9 =>
castCons l12 fun c6 l13 =>
castBool c6 fun x35_0_10 =>
castCons l13 fun x35_0_11 l14 =>
castCons l14 fun x35_0_12 l15 =>
castCons l15 fun x35_0_13 l16 =>
castCons l16 fun x35_0_14 l17 =>
castCons l17 fun x35_0_15 l18 =>
castCons l18 fun c7 l19 =>
castInt .i64 c7 fun x35_0_16 =>
castNil l19 (
castCons l1 fun c8 l20 =>
castInt .i64 c8 fun x35_1 =>
castNil l20 (
bind2 (ev (.alloc false (.agg [(.int .i64 0),(.str []),(.str []),(.bool false),.nils,.nils,.nils,.nils,.nils,(.bool false),(.bool false),.nils,.nils,.nils,.nils,.nils,(.int .i64 0)])) h_2) fun x h_3 =>
bind2 (ev (.store 17 (.c x) (.c (.agg [(.int .i64 x35_0_0),(.str x35_0_1),(.str x35_0_2),(.bool x35_0_3),x35_0_4,x35_0_5,x35_0_6,x35_0_7,x35_0_8,(.bool x35_0_9),(.bool x35_0_10),x35_0_11,x35_0_12,x35_0_13,x35_0_14,x35_0_15,(.int .i64 x35_0_16)]))) h_3) fun u h_4 =>
cB (x35_1 != (0)) (
some ((.bool true),h_4)) (
bind1 (er (.bin .add (.c (.str [32,9,10,45,45])) (.c (.str note))) h_4) fun v1 =>
castStr v1 fun x42 =>
bind1 (er (.bin .add (.c (.str x42)) (.c (.str [10]))) h_4) fun v2 =>
castStr v2 fun x43 =>
bind1 (er (.bin .add (.c (.str x43)) (.c (.str text))) h_4) fun v3 =>
castStr v3 fun x45 =>
bind1 (er (.bin .add (.c (.str x45)) (.c (.str [10,32,45,45]))) h_4) fun v4 =>
castStr v4 fun x46 =>
bind1 (er (.bin .add (.c (.str x46)) (.c (.str note))) h_4) fun v5 =>
castStr v5 fun x48 =>
bind2 (F5 lf x48 h_4) fun v6 h_5 =>
castTup v6 fun l21 =>
castCons l21 fun c9 l22 =>
castAgg c9 fun l23 =>
castCons l23 fun c10 l24 =>
castInt .i64 c10 fun x49_0_0 =>
castCons l24 fun c11 l25 =>
castStr c11 fun x49_0_1 =>
castCons l25 fun c12 l26 =>
castStr c12 fun x49_0_2 =>
castCons l26 fun c13 l27 =>
castBool c13 fun x49_0_3 =>
castCons l27 fun x49_0_4 l28 =>
castCons l28 fun x49_0_5 l29 =>
castCons l29 fun x49_0_6 l30 =>
castCons l30 fun x49_0_7 l31 =>
castCons l31 fun x49_0_8 l32 =>
castCons l32 fun c14 l33 =>
castBool c14 fun x49_0_9 =>
castCons l33 fun c15 l34 =>
castBool c15 fun x49_0_10 =>
castCons l34 fun x49_0_11 l35 =>
castCons l35 fun x49_0_12 l36 =>
castCons l36 fun x49_0_13 l37 =>
castCons l37 fun x49_0_14 l38 =>
castCons l38 fun x49_0_15 l39 =>
castCons l39 fun c16 l40 =>
castInt .i64 c16 fun x49_0_16 =>
castNil l40 (
castCons l22 fun c17 l41 =>
castInt .i64 c17 fun x49_1 =>
castNil l41 (
bind2 (ev (.alloc false (.agg [(.int .i64 0),(.str []),(.str []),(.bool false),.nils,.nils,.nils,.nils,.nils,(.bool false),(.bool false),.nils,.nils,.nils,.nils,.nils,(.int .i64 0)])) h_5) fun y h_6 =>
bind2 (ev (.store 17 (.c y) (.c (.agg [(.int .i64 x49_0_0),(.str x49_0_1),(.str x49_0_2),(.bool x49_0_3),x49_0_4,x49_0_5,x49_0_6,x49_0_7,x49_0_8,(.bool x49_0_9),(.bool x49_0_10),x49_0_11,x49_0_12,x49_0_13,x49_0_14,x49_0_15,(.int .i64 x49_0_16)]))) h_6) fun u1 h_7 =>
cB (x49_1 == (0)) (
bind1 (er (.loadN 17 (.c x)) h_7) fun x55 =>
bind1 (er (.loadN 17 (.c y)) h_7) fun x56 =>
bind2 (F6 lf x55 x56 h_7) fun v7 h_8 =>
castBool v7 fun x57 =>
some ((.bool x57),h_8)) (
some ((.bool false),h_7))))))))) (
cB (decide (ex1 = .ret)) (
castCons vs1 fun c l =>
castBool c fun x4 =>
castNil l (
some ((.bool x4),h_1))) (
none)))) (
none))
noncomputable def W3 (lf:Nat):List V → List Ob → Option (V × List Ob) := wG [Ss,Ss] (F3 lf)
theorem W3_ok (lf:Nat):WOk Go.Proofs.Try.prog 3 (W3 lf) := FOk 59 [(.t 4)] A3 (x3 lf) [p3_1 lf,p3_0 lf] (sq [.reg [mv 4 cF],.sub 0,sq [.reg [mv 23 1,o 24 (.lenS 23),mv 25 (ci 0)],.block 0 (.sub 1)],.reg [mv 34 0,ca 35 5 [34],mv 33 35,o 36 (.ext 0 33),o 37 (.ext 1 33),o 6 (.alloc false zPs2),st 17 6 36,mv 7 37],sq [.reg [mv 38 7,o 39 (.bin .neq 38 (ci 0))],.cond 39 (sq [.reg [mv 4 cT],.ret]) .skip],.reg [mv 41 1,o 42 (.bin .add (.c (.str [32,9,10,45,45])) 41),o 43 (.bin .add 42 (.c (.str [10]))),mv 44 0,o 45 (.bin .add 43 44),o 46 (.bin .add 45 (.c (.str [10,32,45,45]))),mv 47 1,o 48 (.bin .add 46 47),ca 49 5 [48],mv 40 49,o 50 (.ext 0 40),o 51 (.ext 1 40),o 8 (.alloc false zPs2),st 17 8 50,mv 9 51],.reg [mv 52 9,o 53 (.bin .eql 52 (ci 0)),mv 54 53,oT 55 54 (.loadN 17 6),oT 56 54 (.loadN 17 8),caT 57 54 6 [55,56],o 58 (.pick 54 57 cF),mv 4 58],.ret]) [Ss,Ss] _ Go.Proofs.Try.func3 (by kernel_rfl) (by kernel_rfl) (by kernel_rfl) (fun _ _ _ => by kernel_rfl)
end Go.Proofs.Ytjpjeilfmjdhcaa.Ps
