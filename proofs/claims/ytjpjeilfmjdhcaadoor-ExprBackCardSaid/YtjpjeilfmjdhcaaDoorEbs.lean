/- Functions of the program as Lean functions, and that each call comes to what its function says. Printed by my own tool. No condition. -/
import Derived.Test.YtjpjeilfmjdhcaaDoorProg
import Derived.Test.YtjpjeilfmjdhcaaDoorL4
import Derived.Test.YtjpjeilfmjdhcaaDoorRds
import Derived.Test.YtjpjeilfmjdhcaaDoorLb
namespace Go.Proofs.YtjpjeilfmjdhcaaDoor.Eb
open Go Go.Proofs.YtjpjeilfmjdhcaaDoor.E
open Go.Proofs.YtjpjeilfmjdhcaaDoor.E.K
open Go.Proofs.YtjpjeilfmjdhcaaDoor.Ln
open Go.Proofs.YtjpjeilfmjdhcaaDoor.Ex
open Go.Proofs.YtjpjeilfmjdhcaaDoor.Rd
open Go.Proofs.YtjpjeilfmjdhcaaDoor.Lb
set_option maxRecDepth 100000
set_option linter.unusedVariables false
def zEb1:Sh := .agg [Si,Ss,Si,Si,Ss,Ss,Ss,Sa]
def zEb2:V := .agg [(.int .i64 0),(.str []),(.int .i64 0),(.int .i64 0),(.str []),(.str []),(.str []),.nils]
def zEb3:Sh := .tup [zEb1,Si]
def A8 := mkA [(Ss,[0,9]),(Si,[3,5,12,13,16,24,36,42]),(.tup [Sa,Si],[8,10]),(Sb,[14,25,26,28,29,30,37]),(zEb1,[15,20,38,43])]
noncomputable def x8 (lf:Nat):Cx Go.Proofs.Tryd.prog := .c (.c (.c (.c (.c .o (W13_ok lf)) (W14_ok lf)) (W15_ok lf)) (W16_ok lf)) (W17_ok lf)
noncomputable def S8_0 (lf:Nat) (r:V) (h:List Ob):SubR :=
bind1 (er (.nilck (.c r)) h) fun x22 =>
bind1 (er (.faddr 2 (.c x22)) h) fun x23 =>
bind1 (er (.load1 (.c x23)) h) fun v =>
castInt .i64 v fun x24 =>
cB (x24 == (0)) (
bind2 (F16 lf r h) fun v1 h_ =>
castBool v1 fun x28 =>
cB (!x28) (
bind2 (F17 lf r h_) fun x32 h_1 =>
some (.normal,[],h_1)) (
some (.normal,[],h_))) (
some (.normal,[],h))
noncomputable def p8_0 (lf:Nat):Pt Go.Proofs.Tryd.prog := .of A8 (x8 lf) [] (sq [.reg [mv 21 6,nk 22 21,fa 23 2 22,l1 24 23,o 25 (.bin .eql 24 (ci 0)),mv 26 25,oT 27 26 (.mv 6),caT 28 26 16 [27],oT 29 26 (.un .not 28),o 30 (.pick 26 29 cF)],.cond 30 (.reg [mv 31 6,ca 32 17 [31]]) .skip]) [Sa] [6] [(.normal,[],[])] (S8_0 lf) (fun _ _ => by kernel_rfl)
noncomputable def F8 (lf:Nat) (s:List UInt8) (h:List Ob):Option (V × List Ob) :=
bind2 (ev (.alloc false (.agg [(.int .i64 0),(.str []),(.int .i64 0),(.int .i64 0),(.str []),(.str []),(.str []),.nils])) h) fun x2 h_ =>
bind2 (F13 lf s h_) fun v h_1 =>
castTup v fun l =>
castCons l fun x10_0 l1 =>
castCons l1 fun c l2 =>
castInt .i64 c fun x10_1 =>
castNil l2 (
cB (x10_1 != (0)) (
bind1 (er (.build [(.int .i64 0),(.str []),(.int .i64 0),(.int .i64 0),(.str []),(.str []),(.str []),.nils] []) h_1) fun v1 =>
castAgg v1 fun l3 =>
castCons l3 fun c1 l4 =>
castInt .i64 c1 fun x15_0 =>
castCons l4 fun c2 l5 =>
castStr c2 fun x15_1 =>
castCons l5 fun c3 l6 =>
castInt .i64 c3 fun x15_2 =>
castCons l6 fun c4 l7 =>
castInt .i64 c4 fun x15_3 =>
castCons l7 fun c5 l8 =>
castStr c5 fun x15_4 =>
castCons l8 fun c6 l9 =>
castStr c6 fun x15_5 =>
castCons l9 fun c7 l10 =>
castStr c7 fun x15_6 =>
castCons l10 fun x15_7 l11 =>
castNil l11 (
bind2 (ev (.store 8 (.c x2) (.c (.agg [(.int .i64 x15_0),(.str x15_1),(.int .i64 x15_2),(.int .i64 x15_3),(.str x15_4),(.str x15_5),(.str x15_6),x15_7]))) h_1) fun u h_2 =>
bind1 (evLoadN h_2 8 x2) fun r =>
some ((.tup [r,(.int .i64 x10_1)]),h_2))) (
bind2 (F14 lf x10_0 h_1) fun x18 h_2 =>
bind2 (F15 lf x18 h_2) fun v1 h_3 =>
castAgg v1 fun l3 =>
castCons l3 fun c1 l4 =>
castInt .i64 c1 fun x20_0 =>
castCons l4 fun c2 l5 =>
castStr c2 fun x20_1 =>
castCons l5 fun c3 l6 =>
castInt .i64 c3 fun x20_2 =>
castCons l6 fun c4 l7 =>
castInt .i64 c4 fun x20_3 =>
castCons l7 fun c5 l8 =>
castStr c5 fun x20_4 =>
castCons l8 fun c6 l9 =>
castStr c6 fun x20_5 =>
castCons l9 fun c7 l10 =>
castStr c7 fun x20_6 =>
castCons l10 fun x20_7 l11 =>
castNil l11 (
bind2 (ev (.alloc false (.agg [(.int .i64 0),(.str []),(.int .i64 0),(.int .i64 0),(.str []),(.str []),(.str []),.nils])) h_3) fun x h_4 =>
bind2 (ev (.store 8 (.c x) (.c (.agg [(.int .i64 x20_0),(.str x20_1),(.int .i64 x20_2),(.int .i64 x20_3),(.str x20_4),(.str x20_5),(.str x20_6),x20_7]))) h_4) fun u h_5 =>
bind3 (S8_0 lf x18 h_5) fun ex vs h_6 =>
cB (decide (ex = .normal)) (
castNil vs (
bind1 (er (.nilck (.c x18)) h_6) fun x34 =>
bind1 (er (.faddr 2 (.c x34)) h_6) fun x35 =>
bind1 (er (.load1 (.c x35)) h_6) fun v2 =>
castInt .i64 v2 fun x36 =>
cB (x36 != (0)) (
bind1 (er (.build [(.int .i64 0),(.str []),(.int .i64 0),(.int .i64 0),(.str []),(.str []),(.str []),.nils] []) h_6) fun v3 =>
castAgg v3 fun l12 =>
castCons l12 fun c8 l13 =>
castInt .i64 c8 fun x38_0 =>
castCons l13 fun c9 l14 =>
castStr c9 fun x38_1 =>
castCons l14 fun c10 l15 =>
castInt .i64 c10 fun x38_2 =>
castCons l15 fun c11 l16 =>
castInt .i64 c11 fun x38_3 =>
castCons l16 fun c12 l17 =>
castStr c12 fun x38_4 =>
castCons l17 fun c13 l18 =>
castStr c13 fun x38_5 =>
castCons l18 fun c14 l19 =>
castStr c14 fun x38_6 =>
castCons l19 fun x38_7 l20 =>
castNil l20 (
bind1 (er (.nilck (.c x18)) h_6) fun x40 =>
bind1 (er (.faddr 2 (.c x40)) h_6) fun x41 =>
bind1 (er (.load1 (.c x41)) h_6) fun v4 =>
castInt .i64 v4 fun x42 =>
bind2 (ev (.store 8 (.c x2) (.c (.agg [(.int .i64 x38_0),(.str x38_1),(.int .i64 x38_2),(.int .i64 x38_3),(.str x38_4),(.str x38_5),(.str x38_6),x38_7]))) h_6) fun u1 h_7 =>
reP (er (.load1 (.c x41)) h_7 = some (.int .i64 x42)) (
reP (er (.faddr 2 (.c x40)) h_7 = some x41) (
reP (er (.nilck (.c x18)) h_7 = some x40) (
bind1 (evLoadN h_7 8 x2) fun r =>
some ((.tup [r,(.int .i64 x42)]),h_7)))))) (
bind1 (er (.loadN 8 (.c x)) h_6) fun v3 =>
castAgg v3 fun l12 =>
castCons l12 fun c8 l13 =>
castInt .i64 c8 fun x43_0 =>
castCons l13 fun c9 l14 =>
castStr c9 fun x43_1 =>
castCons l14 fun c10 l15 =>
castInt .i64 c10 fun x43_2 =>
castCons l15 fun c11 l16 =>
castInt .i64 c11 fun x43_3 =>
castCons l16 fun c12 l17 =>
castStr c12 fun x43_4 =>
castCons l17 fun c13 l18 =>
castStr c13 fun x43_5 =>
castCons l18 fun c14 l19 =>
castStr c14 fun x43_6 =>
castCons l19 fun x43_7 l20 =>
castNil l20 (
bind2 (ev (.store 8 (.c x2) (.c (.agg [(.int .i64 x43_0),(.str x43_1),(.int .i64 x43_2),(.int .i64 x43_3),(.str x43_4),(.str x43_5),(.str x43_6),x43_7]))) h_6) fun u1 h_7 =>
bind1 (evLoadN h_7 8 x2) fun r =>
some ((.tup [r,(.int .i64 (0))]),h_7))))) (
none))))
noncomputable def W8 (lf:Nat):List V → List Ob → Option (V × List Ob) := wG [Ss] (F8 lf)
theorem W8_ok (lf:Nat):WOk Go.Proofs.Tryd.prog 8 (W8 lf) := FOk 44 [(.ln 8 2),(.t 3)] A8 (x8 lf) [p8_0 lf] (sq [.reg [o 2 (.alloc false zEb2),mv 3 (ci 0)],.reg [mv 9 0,ca 10 13 [9],mv 8 10,o 11 (.ext 0 8),o 12 (.ext 1 8),mv 4 11,mv 5 12],sq [.reg [mv 13 5,o 14 (.bin .neq 13 (ci 0))],.cond 14 (sq [.reg [o 15 (.build [(.int .i64 0),(.str []),(.int .i64 0),(.int .i64 0),(.str []),(.str []),(.str []),.nils] []),mv 16 5,st 8 2 15,mv 3 16],.ret]) .skip],.reg [mv 17 4,ca 18 14 [17],mv 6 18],.reg [mv 19 6,ca 20 15 [19],o 7 (.alloc false zEb2),st 8 7 20],.sub 0,sq [.reg [mv 33 6,nk 34 33,fa 35 2 34,l1 36 35,o 37 (.bin .neq 36 (ci 0))],.cond 37 (sq [.reg [o 38 (.build [(.int .i64 0),(.str []),(.int .i64 0),(.int .i64 0),(.str []),(.str []),(.str []),.nils] []),mv 39 6,nk 40 39,fa 41 2 40,l1 42 41,⟨none,none,(.op (.store 8 (.t 2) (.t 38))),[⟨(some 42),none,(.op (.load1 (.t 41)))⟩,⟨(some 41),none,(.op (.faddr 2 (.t 40)))⟩,⟨(some 40),none,(.op (.nilck (.t 39)))⟩]⟩,mv 3 42],.ret]) .skip],.reg [ln 43 8 7,st 8 2 43,mv 3 (ci 0)],.ret]) [Ss] _ Go.Proofs.Tryd.func8 (by kernel_rfl) (by kernel_rfl) (by kernel_rfl) (fun _ _ => by kernel_rfl)
def A4 := mkA [(Sb,[0,8,9,12,13,14,17,18,19,23,24]),(Si,[2,6,7,11,22]),(zEb3,[3,4]),(zEb1,[5]),(Ss,[16])]
noncomputable def x4 (lf:Nat):Cx Go.Proofs.Tryd.prog := .c .o (W8_ok lf)
noncomputable def F4 (lf:Nat) (h:List Ob):Option (V × List Ob) :=
bind2 (F8 lf [97,32,43,32,49] h) fun v h_ =>
castTup v fun l =>
castCons l fun c l1 =>
castAgg c fun l2 =>
castCons l2 fun c1 l3 =>
castInt .i64 c1 fun x4_0_0 =>
castCons l3 fun c2 l4 =>
castStr c2 fun x4_0_1 =>
castCons l4 fun c3 l5 =>
castInt .i64 c3 fun x4_0_2 =>
castCons l5 fun c4 l6 =>
castInt .i64 c4 fun x4_0_3 =>
castCons l6 fun c5 l7 =>
castStr c5 fun x4_0_4 =>
castCons l7 fun c6 l8 =>
castStr c6 fun x4_0_5 =>
castCons l8 fun c7 l9 =>
castStr c7 fun x4_0_6 =>
castCons l9 fun x4_0_7 l10 =>
castNil l10 (
castCons l1 fun c8 l11 =>
castInt .i64 c8 fun x4_1 =>
castNil l11 (
bind2 (ev (.alloc false (.agg [(.int .i64 0),(.str []),(.int .i64 0),(.int .i64 0),(.str []),(.str []),(.str []),.nils])) h_) fun e h_1 =>
bind2 (ev (.store 8 (.c e) (.c (.agg [(.int .i64 x4_0_0),(.str x4_0_1),(.int .i64 x4_0_2),(.int .i64 x4_0_3),(.str x4_0_4),(.str x4_0_5),(.str x4_0_6),x4_0_7]))) h_1) fun u h_2 =>
cB (x4_1 == (0)) (
bind1 (er (.faddr 0 (.c e)) h_2) fun x10 =>
bind1 (er (.load1 (.c x10)) h_2) fun v1 =>
castInt .i64 v1 fun x11 =>
cB (x11 == (4)) (
bind1 (er (.faddr 1 (.c e)) h_2) fun x15 =>
bind1 (er (.load1 (.c x15)) h_2) fun v2 =>
castStr v2 fun x16 =>
cB (x16 == [43]) (
bind1 (er (.faddr 7 (.c e)) h_2) fun x20 =>
bind1 (er (.load1 (.c x20)) h_2) fun x21 =>
bind1 (er (.lenL (.c x21)) h_2) fun v3 =>
castInt .i64 v3 fun x22 =>
some ((.bool (x22 == (2))),h_2)) (
some ((.bool false),h_2))) (
some ((.bool false),h_2))) (
some ((.bool false),h_2))))
noncomputable def W4 (lf:Nat):List V → List Ob → Option (V × List Ob) := wG [] (F4 lf)
theorem W4_ok (lf:Nat):WOk Go.Proofs.Tryd.prog 4 (W4 lf) := FOk 25 [(.t 0)] A4 (x4 lf) [] (sq [.reg [mv 0 cF],.reg [ca 4 8 [(.c (.str [97,32,43,32,49]))],mv 3 4,o 5 (.ext 0 3),o 6 (.ext 1 3),o 1 (.alloc false zEb2),st 8 1 5,mv 2 6],.reg [mv 7 2,o 8 (.bin .eql 7 (ci 0)),mv 9 8,oT 10 9 (.faddr 0 1),oT 11 9 (.load1 10),oT 12 9 (.bin .eql 11 (ci 4)),o 13 (.pick 9 12 cF),mv 14 13,oT 15 14 (.faddr 1 1),oT 16 14 (.load1 15),oT 17 14 (.bin .eql 16 (.c (.str [43]))),o 18 (.pick 14 17 cF),mv 19 18,oT 20 19 (.faddr 7 1),oT 21 19 (.load1 20),oT 22 19 (.lenL 21),oT 23 19 (.bin .eql 22 (ci 2)),o 24 (.pick 19 23 cF),mv 0 24],.ret]) [] _ Go.Proofs.Tryd.func4 (by kernel_rfl) (by kernel_rfl) (by kernel_rfl) (fun _ => by kernel_rfl)
def A10 := mkA [(zEb1,[0,22]),(Si,[1,4,5,6,9,10,12,13,14,16,17,20,23,24,25,26,27,28,29]),(Sb,[11,15])]
noncomputable def x10 (lf:Nat) (rc:CallS) (hrc:CallOk Go.Proofs.Tryd.prog rc):Cx Go.Proofs.Tryd.prog := .r .o hrc
noncomputable def B10_0 (lf:Nat) (rc:CallS) (self:Int → V → Int → Int → Int → List Ob → SubR) (most:Int) (e:V) (n_:Int) (x9:Int) (x10:Int) (h:List Ob):SubR :=
cB (decide (x10 < x9)) (
cB (decide (n_ > most)) (
some (.ret,[(.int .i64 n_)],h)) (
bind1 (er (.faddr 7 (.c e)) h) fun x18 =>
bind1 (er (.load1 (.c x18)) h) fun x19 =>
bind1 (er (.iaddrL 8 (.c x19) (.c (.int .i64 x10))) h) fun x21 =>
bind1 (er (.loadN 8 (.c x21)) h) fun v =>
castAgg v fun l =>
castCons l fun c l1 =>
castInt .i64 c fun x22_0 =>
castCons l1 fun c1 l2 =>
castStr c1 fun x22_1 =>
castCons l2 fun c2 l3 =>
castInt .i64 c2 fun x22_2 =>
castCons l3 fun c3 l4 =>
castInt .i64 c3 fun x22_3 =>
castCons l4 fun c4 l5 =>
castStr c4 fun x22_4 =>
castCons l5 fun c5 l6 =>
castStr c5 fun x22_5 =>
castCons l6 fun c6 l7 =>
castStr c6 fun x22_6 =>
castCons l7 fun x22_7 l8 =>
castNil l8 (
bind2 (rc 10 [(.agg [(.int .i64 x22_0),(.str x22_1),(.int .i64 x22_2),(.int .i64 x22_3),(.str x22_4),(.str x22_5),(.str x22_6),x22_7]),(.int .i64 (IntKind.i64.wrap (most - n_)))] h) fun v1 h_ =>
castInt .i64 v1 fun x26 =>
self most e (IntKind.i64.wrap (n_ + x26)) x9 (IntKind.i64.wrap (x10 + (1))) h_))) (
some ((.exit 0),[(.int .i64 n_)],h))
noncomputable def L10_0 (lf:Nat) (rc:CallS):Nat → Int → V → Int → Int → Int → List Ob → SubR
  | 0 => fun _ _ _ _ _ _ => none
  | n + 1 => B10_0 lf rc (L10_0 lf rc n)
noncomputable def p10_0 (lf:Nat) (rc:CallS) (hrc:CallOk Go.Proofs.Tryd.prog rc):Pt Go.Proofs.Tryd.prog := .loop A10 (x10 lf rc hrc) [] (sq [.reg [o 11 (.bin .lss 10 9)],.cond 11 .skip (.exit 0),.block 1 (sq [.reg [mv 12 10,mv 6 12],sq [.reg [mv 13 5,mv 14 1,o 15 (.bin .gtr 13 14)],.cond 15 (sq [.reg [mv 16 5,mv 4 16],.ret]) .skip],.reg [mv 17 5,fa 18 7 2,l1 19 18,mv 20 6,o 21 (.iaddrL 8 19 20),ln 22 8 21,mv 23 1,mv 24 5,o 25 (.bin .sub 23 24),ca 26 10 [22,25],o 27 (.bin .add 17 26),mv 5 27]]),.reg [o 28 (.bin .add 10 (ci 1)),mv 10 28]]) [Si,Sa,Si,Si,Si] [1,2,5,9,10] [((.exit 0),[5],[Si]),(.ret,[4],[Si])] (B10_0 lf rc) (L10_0 lf rc) (fun _ _ _ _ _ _ => rfl) (fun _ => rfl) (fun _ _ _ _ _ _ _ => by kernel_rfl) lf
noncomputable def F10 (lf:Nat) (rc:CallS) (e:Int) (e1:List UInt8) (e2:Int) (e3:Int) (e4:List UInt8) (e5:List UInt8) (e6:List UInt8) (e7:V) (most:Int) (h:List Ob):Option (V × List Ob) :=
bind2 (ev (.box false (.c (.agg [(.int .i64 e),(.str e1),(.int .i64 e2),(.int .i64 e3),(.str e4),(.str e5),(.str e6),e7]))) h) fun e8 h_ =>
bind1 (er (.faddr 7 (.c e8)) h_) fun x7 =>
bind1 (er (.load1 (.c x7)) h_) fun x8 =>
bind1 (er (.lenL (.c x8)) h_) fun v =>
castInt .i64 v fun x9 =>
bind3 (L10_0 lf rc lf most e8 (1) x9 (0) h_) fun ex vs h_1 =>
cB (decide (ex = (.exit 0))) (
castCons vs fun c l =>
castInt .i64 c fun n_ =>
castNil l (
some ((.int .i64 n_),h_1))) (
cB (decide (ex = .ret)) (
castCons vs fun c l =>
castInt .i64 c fun x4 =>
castNil l (
some ((.int .i64 x4),h_1))) (
none))
noncomputable def W10 (lf:Nat) (rc:CallS):List V → List Ob → Option (V × List Ob) := wG [zEb1,Si] (F10 lf rc)
theorem W10_ok (lf:Nat) (rc:CallS) (hrc:CallOk Go.Proofs.Tryd.prog rc):WOk Go.Proofs.Tryd.prog 10 (W10 lf rc) := FOk 30 [(.t 4)] A10 (x10 lf rc hrc) [p10_0 lf rc hrc] (sq [.reg [o 2 (.box false 0),mv 4 (ci 0)],.reg [mv 5 (ci 1)],sq [.reg [fa 7 7 2,l1 8 7,o 9 (.lenL 8),mv 10 (ci 0)],.block 0 (.sub 0)],.reg [mv 29 5,mv 4 29],.ret]) [zEb1,Si] _ Go.Proofs.Tryd.func10 (by kernel_rfl) (by kernel_rfl) (by kernel_rfl) (fun _ _ _ _ _ _ _ _ _ _ => by kernel_rfl)
noncomputable def R10 (lf:Nat):Nat → CallS
  | 0 => callN
  | n + 1 => callC 10 (W10 lf (R10 lf n)) (callN)
theorem R10_ok (lf:Nat):∀ n,CallOk Go.Proofs.Tryd.prog (R10 lf n)
  | 0 => callN_ok
  | n + 1 => callC_ok (W10_ok lf (R10 lf n) (R10_ok lf n)) (callN_ok)
def A5 := mkA [(zEb1,[0,3]),(Sb,[2,5]),(Si,[4])]
noncomputable def x5 (lf:Nat):Cx Go.Proofs.Tryd.prog := .c .o (W10_ok lf (R10 lf lf) (R10_ok lf lf))
noncomputable def F5 (lf:Nat) (e:Int) (e1:List UInt8) (e2:Int) (e3:Int) (e4:List UInt8) (e5:List UInt8) (e6:List UInt8) (e7:V) (h:List Ob):Option (V × List Ob) :=
bind2 (ev (.box false (.c (.agg [(.int .i64 e),(.str e1),(.int .i64 e2),(.int .i64 e3),(.str e4),(.str e5),(.str e6),e7]))) h) fun e8 h_ =>
bind1 (er (.loadN 8 (.c e8)) h_) fun v =>
castAgg v fun l =>
castCons l fun c l1 =>
castInt .i64 c fun x3_0 =>
castCons l1 fun c1 l2 =>
castStr c1 fun x3_1 =>
castCons l2 fun c2 l3 =>
castInt .i64 c2 fun x3_2 =>
castCons l3 fun c3 l4 =>
castInt .i64 c3 fun x3_3 =>
castCons l4 fun c4 l5 =>
castStr c4 fun x3_4 =>
castCons l5 fun c5 l6 =>
castStr c5 fun x3_5 =>
castCons l6 fun c6 l7 =>
castStr c6 fun x3_6 =>
castCons l7 fun x3_7 l8 =>
castNil l8 (
bind2 (F10 lf (R10 lf lf) x3_0 x3_1 x3_2 x3_3 x3_4 x3_5 x3_6 x3_7 (300) h_) fun v1 h_1 =>
castInt .i64 v1 fun x4 =>
some ((.bool (decide (x4 ≤ (300)))),h_1))
noncomputable def W5 (lf:Nat):List V → List Ob → Option (V × List Ob) := wG [zEb1] (F5 lf)
theorem W5_ok (lf:Nat):WOk Go.Proofs.Tryd.prog 5 (W5 lf) := FOk 6 [(.t 2)] A5 (x5 lf) [] (sq [.reg [o 1 (.box false 0),mv 2 cF],.reg [ln 3 8 1,ca 4 10 [3,(ci 300)],o 5 (.bin .leq 4 (ci 300)),mv 2 5],.ret]) [zEb1] _ Go.Proofs.Tryd.func5 (by kernel_rfl) (by kernel_rfl) (by kernel_rfl) (fun _ _ _ _ _ _ _ _ _ => by kernel_rfl)
def A11 := mkA [(zEb1,[0,3]),(Sb,[2,4])]
noncomputable def x11 (lf:Nat):Cx Go.Proofs.Tryd.prog := .c .o (W19_ok lf (R19 lf lf) (R19_ok lf lf))
noncomputable def F11 (lf:Nat) (e:Int) (e1:List UInt8) (e2:Int) (e3:Int) (e4:List UInt8) (e5:List UInt8) (e6:List UInt8) (e7:V) (h:List Ob):Option (V × List Ob) :=
bind2 (ev (.box false (.c (.agg [(.int .i64 e),(.str e1),(.int .i64 e2),(.int .i64 e3),(.str e4),(.str e5),(.str e6),e7]))) h) fun e8 h_ =>
bind1 (er (.loadN 8 (.c e8)) h_) fun v =>
castAgg v fun l =>
castCons l fun c l1 =>
castInt .i64 c fun x3_0 =>
castCons l1 fun c1 l2 =>
castStr c1 fun x3_1 =>
castCons l2 fun c2 l3 =>
castInt .i64 c2 fun x3_2 =>
castCons l3 fun c3 l4 =>
castInt .i64 c3 fun x3_3 =>
castCons l4 fun c4 l5 =>
castStr c4 fun x3_4 =>
castCons l5 fun c5 l6 =>
castStr c5 fun x3_5 =>
castCons l6 fun c6 l7 =>
castStr c6 fun x3_6 =>
castCons l7 fun x3_7 l8 =>
castNil l8 (
bind2 (F19 lf (R19 lf lf) x3_0 x3_1 x3_2 x3_3 x3_4 x3_5 x3_6 x3_7 (8) h_) fun v1 h_1 =>
castBool v1 fun x4 =>
some ((.bool x4),h_1))
noncomputable def W11 (lf:Nat):List V → List Ob → Option (V × List Ob) := wG [zEb1] (F11 lf)
theorem W11_ok (lf:Nat):WOk Go.Proofs.Tryd.prog 11 (W11 lf) := FOk 5 [(.t 2)] A11 (x11 lf) [] (sq [.reg [o 1 (.box false 0),mv 2 cF],.reg [ln 3 8 1,ca 4 19 [3,(ci 8)],mv 2 4],.ret]) [zEb1] _ Go.Proofs.Tryd.func11 (by kernel_rfl) (by kernel_rfl) (by kernel_rfl) (fun _ _ _ _ _ _ _ _ _ => by kernel_rfl)
def A30 := mkA [(Ss,[0,2,3,4,5,6])]
noncomputable def x30 (lf:Nat):Cx Go.Proofs.Tryd.prog := .c .o (W50_ok lf)
noncomputable def F30 (lf:Nat) (s:List UInt8) (h:List Ob):Option (V × List Ob) :=
bind2 (F50 lf s [39] [39,39] h) fun v h_ =>
castStr v fun x4 =>
bind1 (er (.bin .add (.c (.str [39])) (.c (.str x4))) h_) fun v1 =>
castStr v1 fun x5 =>
bind1 (er (.bin .add (.c (.str x5)) (.c (.str [39]))) h_) fun v2 =>
castStr v2 fun x6 =>
some ((.str x6),h_)
noncomputable def W30 (lf:Nat):List V → List Ob → Option (V × List Ob) := wG [Ss] (F30 lf)
theorem W30_ok (lf:Nat):WOk Go.Proofs.Tryd.prog 30 (W30 lf) := FOk 7 [(.t 2)] A30 (x30 lf) [] (sq [.reg [mv 2 (.c (.str []))],.reg [mv 3 0,ca 4 50 [3,(.c (.str [39])),(.c (.str [39,39]))],o 5 (.bin .add (.c (.str [39])) 4),o 6 (.bin .add 5 (.c (.str [39]))),mv 2 6],.ret]) [Ss] _ Go.Proofs.Tryd.func30 (by kernel_rfl) (by kernel_rfl) (by kernel_rfl) (fun _ _ => by kernel_rfl)
def A20 := mkA [(.agg [Si,Si,Ss],[0]),(Ss,[2,9,13,14]),(Si,[4,8]),(Sb,[5,6,10,11])]
noncomputable def x20 (lf:Nat):Cx Go.Proofs.Tryd.prog := .c (.c .o (W29_ok lf)) (W30_ok lf)
noncomputable def F20 (lf:Nat) (v:Int) (v1:Int) (v2:List UInt8) (h:List Ob):Option (V × List Ob) :=
bind2 (ev (.box false (.c (.agg [(.int .i64 v),(.int .i64 v1),(.str v2)]))) h) fun v3 h_ =>
bind1 (er (.faddr 0 (.c v3)) h_) fun x3 =>
bind1 (er (.load1 (.c x3)) h_) fun v4 =>
castInt .i64 v4 fun x4 =>
cB (x4 == (1)) (
bind1 (er (.faddr 1 (.c v3)) h_) fun x7 =>
bind1 (er (.load1 (.c x7)) h_) fun v5 =>
castInt .i64 v5 fun x8 =>
bind2 (F29 lf x8 (10) h_) fun v6 h_1 =>
castStr v6 fun x9 =>
some ((.str x9),h_1)) (
cB (x4 == (2)) (
bind1 (er (.faddr 2 (.c v3)) h_) fun x12 =>
bind1 (er (.load1 (.c x12)) h_) fun v5 =>
castStr v5 fun x13 =>
bind2 (F30 lf x13 h_) fun v6 h_1 =>
castStr v6 fun x14 =>
some ((.str x14),h_1)) (
some ((.str [78,85,76,76]),h_)))
noncomputable def W20 (lf:Nat):List V → List Ob → Option (V × List Ob) := wG [.agg [Si,Si,Ss]] (F20 lf)
theorem W20_ok (lf:Nat):WOk Go.Proofs.Tryd.prog 20 (W20 lf) := FOk 15 [(.t 2)] A20 (x20 lf) [] (sq [.reg [o 1 (.box false 0),mv 2 (.c (.str []))],sq [.reg [fa 3 0 1,l1 4 3],.block 0 (sq [.reg [o 6 (.bin .eql 4 (ci 1)),mv 5 6],.cond 5 (sq [.reg [fa 7 1 1,l1 8 7,ca 9 29 [8,(ci 10)],mv 2 9],.ret]) (sq [.reg [o 11 (.bin .eql 4 (ci 2)),mv 10 11],.cond 10 (sq [.reg [fa 12 2 1,l1 13 12,ca 14 30 [13],mv 2 14],.ret]) .skip])])],.reg [mv 2 (.c (.str [78,85,76,76]))],.ret]) [.agg [Si,Si,Ss]] _ Go.Proofs.Tryd.func20 (by kernel_rfl) (by kernel_rfl) (by kernel_rfl) (fun _ _ _ _ => by kernel_rfl)
def A31 := mkA [(Ss,[0,1,4,5,6,8,9,11,12]),(Sb,[7]),(Si,[10])]
noncomputable def x31 (lf:Nat):Cx Go.Proofs.Tryd.prog := .c .o (W32_ok lf)
noncomputable def F31 (lf:Nat) (s:List UInt8) (prefix_:List UInt8) (h:List Ob):Option (V × List Ob) :=
bind2 (F32 lf s prefix_ h) fun v h_ =>
castBool v fun x7 =>
cB x7 (
bind1 (er (.slcS (.c (.str s)) (some (.c (.int .i64 ((prefix_).length:Int)))) none) h_) fun v1 =>
castStr v1 fun x11 =>
some ((.str x11),h_)) (
some ((.str s),h_))
noncomputable def W31 (lf:Nat):List V → List Ob → Option (V × List Ob) := wG [Ss,Ss] (F31 lf)
theorem W31_ok (lf:Nat):WOk Go.Proofs.Tryd.prog 31 (W31 lf) := FOk 13 [(.t 4)] A31 (x31 lf) [] (sq [.reg [mv 4 (.c (.str []))],sq [.reg [mv 5 0,mv 6 1,ca 7 32 [5,6]],.cond 7 (sq [.reg [mv 8 0,mv 9 1,o 10 (.lenS 9),o 11 (.slcS 8 (some 10) none),mv 4 11],.ret]) .skip],.reg [mv 12 0,mv 4 12],.ret]) [Ss,Ss] _ Go.Proofs.Tryd.func31 (by kernel_rfl) (by kernel_rfl) (by kernel_rfl) (fun _ _ _ => by kernel_rfl)
def A21 := mkA [(Ss,[0,1,4,5,6,7])]
noncomputable def x21 (lf:Nat):Cx Go.Proofs.Tryd.prog := .c .o (W31_ok lf)
noncomputable def F21 (lf:Nat) (s:List UInt8) (prefix_:List UInt8) (h:List Ob):Option (V × List Ob) :=
bind2 (F31 lf s prefix_ h) fun v h_ =>
castStr v fun x7 =>
some ((.str x7),h_)
noncomputable def W21 (lf:Nat):List V → List Ob → Option (V × List Ob) := wG [Ss,Ss] (F21 lf)
theorem W21_ok (lf:Nat):WOk Go.Proofs.Tryd.prog 21 (W21 lf) := FOk 8 [(.t 4)] A21 (x21 lf) [] (sq [.reg [mv 4 (.c (.str []))],.reg [mv 5 0,mv 6 1,ca 7 31 [5,6],mv 4 7],.ret]) [Ss,Ss] _ Go.Proofs.Tryd.func21 (by kernel_rfl) (by kernel_rfl) (by kernel_rfl) (fun _ _ _ => by kernel_rfl)
def A12 := mkA [(zEb1,[0,33,39,55,66,76,91]),(Si,[1,5,7,10,46,47,48,50,51,56,67,68,86,99,100]),(Ss,[4,6,8,15,19,20,22,23,24,28,34,35,40,41,45,57,58,60,61,62,69,70,77,78,80,81,92,94,95,96,97,98,102,103,104,105]),(Sb,[11,12,16,17,25,26,29,42,43,49,71,72,82,83,87,101]),(.agg [Si,Si,Ss],[14])]
noncomputable def x12 (lf:Nat) (rc:CallS) (hrc:CallOk Go.Proofs.Tryd.prog rc):Cx Go.Proofs.Tryd.prog := .c (.c (.c (.r .o hrc) (W20_ok lf)) (W21_ok lf)) (W22_ok lf)
noncomputable def S12_0 (lf:Nat) (rc:CallS) (of:Int) (left:Int) (h:List Ob):SubR :=
cB (of == (3)) (
some (.normal,[(.int .i64 (IntKind.i64.wrap (left + (1))))],h)) (
some (.normal,[(.int .i64 left)],h))
noncomputable def p12_0 (lf:Nat) (rc:CallS) (hrc:CallOk Go.Proofs.Tryd.prog rc):Pt Go.Proofs.Tryd.prog := .of A12 (x12 lf rc hrc) [] (sq [.reg [mv 48 5,o 49 (.bin .eql 48 (ci 3))],.cond 49 (.reg [mv 50 7,o 51 (.bin .add 50 (ci 1)),mv 7 51]) .skip]) [Si,Si] [5,7] [(.normal,[7],[Si])] (S12_0 lf rc) (fun _ _ _ => by kernel_rfl)
noncomputable def S12_1 (lf:Nat) (rc:CallS) (e:V) (of:Int) (s:List UInt8) (h:List Ob):SubR :=
bind1 (er (.faddr 0 (.c e)) h) fun x9 =>
bind1 (er (.load1 (.c x9)) h) fun v =>
castInt .i64 v fun x10 =>
cB (x10 == (1)) (
bind1 (er (.faddr 2 (.c e)) h) fun x13 =>
bind1 (er (.loadN 3 (.c x13)) h) fun v1 =>
castAgg v1 fun l =>
castCons l fun c l1 =>
castInt .i64 c fun x14_0 =>
castCons l1 fun c1 l2 =>
castInt .i64 c1 fun x14_1 =>
castCons l2 fun c2 l3 =>
castStr c2 fun x14_2 =>
castNil l3 (
bind2 (F20 lf x14_0 x14_1 x14_2 h) fun v2 h_ =>
castStr v2 fun x15 =>
some (.normal,[(.int .i64 of),(.str x15)],h_))) (
cB (x10 == (2)) (
bind1 (er (.faddr 5 (.c e)) h) fun x18 =>
bind1 (er (.load1 (.c x18)) h) fun v1 =>
castStr v1 fun x19 =>
bind1 (er (.bin .add (.c (.str x19)) (.c (.str [46]))) h) fun v2 =>
castStr v2 fun x20 =>
bind1 (er (.faddr 6 (.c e)) h) fun x21 =>
bind1 (er (.load1 (.c x21)) h) fun v3 =>
castStr v3 fun x22 =>
bind1 (er (.bin .add (.c (.str x20)) (.c (.str x22))) h) fun v4 =>
castStr v4 fun x23 =>
bind2 (F21 lf x23 [46] h) fun v5 h_ =>
castStr v5 fun x24 =>
some (.normal,[(.int .i64 of),(.str x24)],h_)) (
cB (x10 == (3)) (
bind1 (er (.faddr 1 (.c e)) h) fun x27 =>
bind1 (er (.load1 (.c x27)) h) fun v1 =>
castStr v1 fun x28 =>
cB (x28 == [78,79,84]) (
bind1 (er (.faddr 7 (.c e)) h) fun x30 =>
bind1 (er (.load1 (.c x30)) h) fun x31 =>
bind1 (er (.iaddrL 8 (.c x31) (.c (.int .i64 (0)))) h) fun x32 =>
bind1 (er (.loadN 8 (.c x32)) h) fun v2 =>
castAgg v2 fun l =>
castCons l fun c l1 =>
castInt .i64 c fun x33_0 =>
castCons l1 fun c1 l2 =>
castStr c1 fun x33_1 =>
castCons l2 fun c2 l3 =>
castInt .i64 c2 fun x33_2 =>
castCons l3 fun c3 l4 =>
castInt .i64 c3 fun x33_3 =>
castCons l4 fun c4 l5 =>
castStr c4 fun x33_4 =>
castCons l5 fun c5 l6 =>
castStr c5 fun x33_5 =>
castCons l6 fun c6 l7 =>
castStr c6 fun x33_6 =>
castCons l7 fun x33_7 l8 =>
castNil l8 (
bind2 (rc 12 [(.agg [(.int .i64 x33_0),(.str x33_1),(.int .i64 x33_2),(.int .i64 x33_3),(.str x33_4),(.str x33_5),(.str x33_6),x33_7]),(.int .i64 (2))] h) fun v3 h_ =>
castStr v3 fun x34 =>
bind1 (er (.bin .add (.c (.str [78,79,84,32])) (.c (.str x34))) h_) fun v4 =>
castStr v4 fun x35 =>
some (.normal,[(.int .i64 (2)),(.str x35)],h_))) (
bind1 (er (.faddr 7 (.c e)) h) fun x36 =>
bind1 (er (.load1 (.c x36)) h) fun x37 =>
bind1 (er (.iaddrL 8 (.c x37) (.c (.int .i64 (0)))) h) fun x38 =>
bind1 (er (.loadN 8 (.c x38)) h) fun v2 =>
castAgg v2 fun l =>
castCons l fun c l1 =>
castInt .i64 c fun x39_0 =>
castCons l1 fun c1 l2 =>
castStr c1 fun x39_1 =>
castCons l2 fun c2 l3 =>
castInt .i64 c2 fun x39_2 =>
castCons l3 fun c3 l4 =>
castInt .i64 c3 fun x39_3 =>
castCons l4 fun c4 l5 =>
castStr c4 fun x39_4 =>
castCons l5 fun c5 l6 =>
castStr c5 fun x39_5 =>
castCons l6 fun c6 l7 =>
castStr c6 fun x39_6 =>
castCons l7 fun x39_7 l8 =>
castNil l8 (
bind2 (rc 12 [(.agg [(.int .i64 x39_0),(.str x39_1),(.int .i64 x39_2),(.int .i64 x39_3),(.str x39_4),(.str x39_5),(.str x39_6),x39_7]),(.int .i64 (7))] h) fun v3 h_ =>
castStr v3 fun x40 =>
bind1 (er (.bin .add (.c (.str [45])) (.c (.str x40))) h_) fun v4 =>
castStr v4 fun x41 =>
some (.normal,[(.int .i64 (6)),(.str x41)],h_)))) (
cB (x10 == (4)) (
bind1 (er (.faddr 1 (.c e)) h) fun x44 =>
bind1 (er (.load1 (.c x44)) h) fun v1 =>
castStr v1 fun x45 =>
bind2 (F22 lf x45 h) fun v2 h_ =>
castInt .i64 v2 fun x46 =>
bind3 (S12_0 lf rc x46 x46 h_) fun ex vs h_1 =>
cB (decide (ex = .normal)) (
castCons vs fun c l =>
castInt .i64 c fun left =>
castNil l (
bind1 (er (.faddr 7 (.c e)) h_1) fun x52 =>
bind1 (er (.load1 (.c x52)) h_1) fun x53 =>
bind1 (er (.iaddrL 8 (.c x53) (.c (.int .i64 (0)))) h_1) fun x54 =>
bind1 (er (.loadN 8 (.c x54)) h_1) fun v3 =>
castAgg v3 fun l1 =>
castCons l1 fun c1 l2 =>
castInt .i64 c1 fun x55_0 =>
castCons l2 fun c2 l3 =>
castStr c2 fun x55_1 =>
castCons l3 fun c3 l4 =>
castInt .i64 c3 fun x55_2 =>
castCons l4 fun c4 l5 =>
castInt .i64 c4 fun x55_3 =>
castCons l5 fun c5 l6 =>
castStr c5 fun x55_4 =>
castCons l6 fun c6 l7 =>
castStr c6 fun x55_5 =>
castCons l7 fun c7 l8 =>
castStr c7 fun x55_6 =>
castCons l8 fun x55_7 l9 =>
castNil l9 (
bind1 (er (.faddr 1 (.c e)) h_1) fun x59 =>
bind1 (er (.load1 (.c x59)) h_1) fun v4 =>
castStr v4 fun x60 =>
bind1 (er (.faddr 7 (.c e)) h_1) fun x63 =>
bind1 (er (.load1 (.c x63)) h_1) fun x64 =>
bind1 (er (.iaddrL 8 (.c x64) (.c (.int .i64 (1)))) h_1) fun x65 =>
bind1 (er (.loadN 8 (.c x65)) h_1) fun v5 =>
castAgg v5 fun l10 =>
castCons l10 fun c8 l11 =>
castInt .i64 c8 fun x66_0 =>
castCons l11 fun c9 l12 =>
castStr c9 fun x66_1 =>
castCons l12 fun c10 l13 =>
castInt .i64 c10 fun x66_2 =>
castCons l13 fun c11 l14 =>
castInt .i64 c11 fun x66_3 =>
castCons l14 fun c12 l15 =>
castStr c12 fun x66_4 =>
castCons l15 fun c13 l16 =>
castStr c13 fun x66_5 =>
castCons l16 fun c14 l17 =>
castStr c14 fun x66_6 =>
castCons l17 fun x66_7 l18 =>
castNil l18 (
bind2 (rc 12 [(.agg [(.int .i64 x55_0),(.str x55_1),(.int .i64 x55_2),(.int .i64 x55_3),(.str x55_4),(.str x55_5),(.str x55_6),x55_7]),(.int .i64 left)] h_1) fun v6 h_2 =>
castStr v6 fun x57 =>
reP (er (.loadN 8 (.c x65)) h_2 = some (.agg [(.int .i64 x66_0),(.str x66_1),(.int .i64 x66_2),(.int .i64 x66_3),(.str x66_4),(.str x66_5),(.str x66_6),x66_7])) (
reP (er (.iaddrL 8 (.c x64) (.c (.int .i64 (1)))) h_2 = some x65) (
reP (er (.load1 (.c x63)) h_2 = some x64) (
reP (er (.faddr 7 (.c e)) h_2 = some x63) (
reP (er (.load1 (.c x59)) h_2 = some (.str x60)) (
reP (er (.faddr 1 (.c e)) h_2 = some x59) (
bind1 (er (.bin .add (.c (.str x57)) (.c (.str [32]))) h_2) fun v7 =>
castStr v7 fun x58 =>
bind1 (er (.bin .add (.c (.str x58)) (.c (.str x60))) h_2) fun v8 =>
castStr v8 fun x61 =>
bind1 (er (.bin .add (.c (.str x61)) (.c (.str [32]))) h_2) fun v9 =>
castStr v9 fun x62 =>
bind2 (rc 12 [(.agg [(.int .i64 x66_0),(.str x66_1),(.int .i64 x66_2),(.int .i64 x66_3),(.str x66_4),(.str x66_5),(.str x66_6),x66_7]),(.int .i64 (IntKind.i64.wrap (x46 + (1))))] h_2) fun v10 h_3 =>
castStr v10 fun x69 =>
reP (er (.load1 (.c x59)) h_3 = some (.str x60)) (
reP (er (.faddr 1 (.c e)) h_3 = some x59) (
bind1 (er (.bin .add (.c (.str x62)) (.c (.str x69))) h_3) fun v11 =>
castStr v11 fun x70 =>
some (.normal,[(.int .i64 x46),(.str x70)],h_3))))))))))))) (
none)) (
cB (x10 == (5)) (
bind1 (er (.faddr 7 (.c e)) h) fun x73 =>
bind1 (er (.load1 (.c x73)) h) fun x74 =>
bind1 (er (.iaddrL 8 (.c x74) (.c (.int .i64 (0)))) h) fun x75 =>
bind1 (er (.loadN 8 (.c x75)) h) fun v1 =>
castAgg v1 fun l =>
castCons l fun c l1 =>
castInt .i64 c fun x76_0 =>
castCons l1 fun c1 l2 =>
castStr c1 fun x76_1 =>
castCons l2 fun c2 l3 =>
castInt .i64 c2 fun x76_2 =>
castCons l3 fun c3 l4 =>
castInt .i64 c3 fun x76_3 =>
castCons l4 fun c4 l5 =>
castStr c4 fun x76_4 =>
castCons l5 fun c5 l6 =>
castStr c5 fun x76_5 =>
castCons l6 fun c6 l7 =>
castStr c6 fun x76_6 =>
castCons l7 fun x76_7 l8 =>
castNil l8 (
bind1 (er (.faddr 1 (.c e)) h) fun x79 =>
bind1 (er (.load1 (.c x79)) h) fun v2 =>
castStr v2 fun x80 =>
bind2 (rc 12 [(.agg [(.int .i64 x76_0),(.str x76_1),(.int .i64 x76_2),(.int .i64 x76_3),(.str x76_4),(.str x76_5),(.str x76_6),x76_7]),(.int .i64 (4))] h) fun v3 h_ =>
castStr v3 fun x77 =>
reP (er (.load1 (.c x79)) h_ = some (.str x80)) (
reP (er (.faddr 1 (.c e)) h_ = some x79) (
bind1 (er (.bin .add (.c (.str x77)) (.c (.str [32]))) h_) fun v4 =>
castStr v4 fun x78 =>
bind1 (er (.bin .add (.c (.str x78)) (.c (.str x80))) h_) fun v5 =>
castStr v5 fun x81 =>
some (.normal,[(.int .i64 (3)),(.str x81)],h_))))) (
cB (x10 == (6)) (
bind1 (er (.faddr 7 (.c e)) h) fun x84 =>
bind1 (er (.load1 (.c x84)) h) fun x85 =>
bind1 (er (.lenL (.c x85)) h) fun v1 =>
castInt .i64 v1 fun x86 =>
cB (decide (x86 > (0))) (
bind1 (er (.faddr 7 (.c e)) h) fun x88 =>
bind1 (er (.load1 (.c x88)) h) fun x89 =>
bind1 (er (.iaddrL 8 (.c x89) (.c (.int .i64 (0)))) h) fun x90 =>
bind1 (er (.loadN 8 (.c x90)) h) fun v2 =>
castAgg v2 fun l =>
castCons l fun c l1 =>
castInt .i64 c fun x91_0 =>
castCons l1 fun c1 l2 =>
castStr c1 fun x91_1 =>
castCons l2 fun c2 l3 =>
castInt .i64 c2 fun x91_2 =>
castCons l3 fun c3 l4 =>
castInt .i64 c3 fun x91_3 =>
castCons l4 fun c4 l5 =>
castStr c4 fun x91_4 =>
castCons l5 fun c5 l6 =>
castStr c5 fun x91_5 =>
castCons l6 fun c6 l7 =>
castStr c6 fun x91_6 =>
castCons l7 fun x91_7 l8 =>
castNil l8 (
bind2 (rc 12 [(.agg [(.int .i64 x91_0),(.str x91_1),(.int .i64 x91_2),(.int .i64 x91_3),(.str x91_4),(.str x91_5),(.str x91_6),x91_7]),(.int .i64 (0))] h) fun v3 h_ =>
castStr v3 fun x92 =>
bind1 (er (.faddr 1 (.c e)) h_) fun x93 =>
bind1 (er (.load1 (.c x93)) h_) fun v4 =>
castStr v4 fun x94 =>
bind1 (er (.bin .add (.c (.str x94)) (.c (.str [40]))) h_) fun v5 =>
castStr v5 fun x95 =>
bind1 (er (.bin .add (.c (.str x95)) (.c (.str x92))) h_) fun v6 =>
castStr v6 fun x97 =>
bind1 (er (.bin .add (.c (.str x97)) (.c (.str [41]))) h_) fun v7 =>
castStr v7 fun x98 =>
some (.normal,[(.int .i64 of),(.str x98)],h_))) (
bind1 (er (.faddr 1 (.c e)) h) fun x93 =>
bind1 (er (.load1 (.c x93)) h) fun v2 =>
castStr v2 fun x94 =>
bind1 (er (.bin .add (.c (.str x94)) (.c (.str [40]))) h) fun v3 =>
castStr v3 fun x95 =>
bind1 (er (.bin .add (.c (.str x95)) (.c (.str [42]))) h) fun v4 =>
castStr v4 fun x97 =>
bind1 (er (.bin .add (.c (.str x97)) (.c (.str [41]))) h) fun v5 =>
castStr v5 fun x98 =>
some (.normal,[(.int .i64 of),(.str x98)],h))) (
some (.normal,[(.int .i64 of),(.str s)],h)))))))
noncomputable def p12_1 (lf:Nat) (rc:CallS) (hrc:CallOk Go.Proofs.Tryd.prog rc):Pt Go.Proofs.Tryd.prog := .of A12 (x12 lf rc hrc) [p12_0 lf rc hrc] (sq [.reg [fa 9 0 2,l1 10 9],.block 0 (sq [.reg [o 12 (.bin .eql 10 (ci 1)),mv 11 12],.cond 11 (.reg [fa 13 2 2,ln 14 3 13,ca 15 20 [14],mv 6 15]) (sq [.reg [o 17 (.bin .eql 10 (ci 2)),mv 16 17],.cond 16 (.reg [fa 18 5 2,l1 19 18,o 20 (.bin .add 19 (.c (.str [46]))),fa 21 6 2,l1 22 21,o 23 (.bin .add 20 22),ca 24 21 [23,(.c (.str [46]))],mv 6 24]) (sq [.reg [o 26 (.bin .eql 10 (ci 3)),mv 25 26],.cond 25 (sq [.reg [mv 5 (ci 6)],.reg [fa 27 1 2,l1 28 27,o 29 (.bin .eql 28 (.c (.str [78,79,84])))],.cond 29 (.reg [fa 30 7 2,l1 31 30,o 32 (.iaddrL 8 31 (ci 0)),ln 33 8 32,ca 34 12 [33,(ci 2)],o 35 (.bin .add (.c (.str [78,79,84,32])) 34),mv 5 (ci 2),mv 6 35]) (.reg [fa 36 7 2,l1 37 36,o 38 (.iaddrL 8 37 (ci 0)),ln 39 8 38,ca 40 12 [39,(ci 7)],o 41 (.bin .add (.c (.str [45])) 40),mv 6 41])]) (sq [.reg [o 43 (.bin .eql 10 (ci 4)),mv 42 43],.cond 42 (sq [.reg [fa 44 1 2,l1 45 44,ca 46 22 [45],mv 5 46],.reg [mv 47 5,mv 7 47],.sub 0,.reg [fa 52 7 2,l1 53 52,o 54 (.iaddrL 8 53 (ci 0)),ln 55 8 54,mv 56 7,fa 59 1 2,l1 60 59,fa 63 7 2,l1 64 63,o 65 (.iaddrL 8 64 (ci 1)),ln 66 8 65,mv 67 5,o 68 (.bin .add 67 (ci 1)),⟨(some 57),none,(.call 12 [(.t 55),(.t 56)]),[⟨(some 66),none,(.op (.loadN 8 (.t 65)))⟩,⟨(some 65),none,(.op (.iaddrL 8 (.t 64) (.c (.int .i64 1))))⟩,⟨(some 64),none,(.op (.load1 (.t 63)))⟩,⟨(some 63),none,(.op (.faddr 7 (.t 2)))⟩,⟨(some 60),none,(.op (.load1 (.t 59)))⟩,⟨(some 59),none,(.op (.faddr 1 (.t 2)))⟩]⟩,o 58 (.bin .add 57 (.c (.str [32]))),o 61 (.bin .add 58 60),o 62 (.bin .add 61 (.c (.str [32]))),⟨(some 69),none,(.call 12 [(.t 66),(.t 68)]),[⟨(some 60),none,(.op (.load1 (.t 59)))⟩,⟨(some 59),none,(.op (.faddr 1 (.t 2)))⟩]⟩,o 70 (.bin .add 62 69),mv 6 70]]) (sq [.reg [o 72 (.bin .eql 10 (ci 5)),mv 71 72],.cond 71 (sq [.reg [mv 5 (ci 3)],.reg [fa 73 7 2,l1 74 73,o 75 (.iaddrL 8 74 (ci 0)),ln 76 8 75,fa 79 1 2,l1 80 79,⟨(some 77),none,(.call 12 [(.t 76),(.c (.int .i64 4))]),[⟨(some 80),none,(.op (.load1 (.t 79)))⟩,⟨(some 79),none,(.op (.faddr 1 (.t 2)))⟩]⟩,o 78 (.bin .add 77 (.c (.str [32]))),o 81 (.bin .add 78 80),mv 6 81]]) (sq [.reg [o 83 (.bin .eql 10 (ci 6)),mv 82 83],.cond 82 (sq [.reg [mv 8 (.c (.str [42]))],sq [.reg [fa 84 7 2,l1 85 84,o 86 (.lenL 85),o 87 (.bin .gtr 86 (ci 0))],.cond 87 (.reg [fa 88 7 2,l1 89 88,o 90 (.iaddrL 8 89 (ci 0)),ln 91 8 90,ca 92 12 [91,(ci 0)],mv 8 92]) .skip],.reg [fa 93 1 2,l1 94 93,o 95 (.bin .add 94 (.c (.str [40]))),mv 96 8,o 97 (.bin .add 95 96),o 98 (.bin .add 97 (.c (.str [41]))),mv 6 98]]) .skip])])])])])])]) [Sa,Si,Ss] [2,5,6] [(.normal,[5,6],[Si,Ss])] (S12_1 lf rc) (fun _ _ _ _ => by kernel_rfl)
noncomputable def F12 (lf:Nat) (rc:CallS) (e:Int) (e1:List UInt8) (e2:Int) (e3:Int) (e4:List UInt8) (e5:List UInt8) (e6:List UInt8) (e7:V) (least:Int) (h:List Ob):Option (V × List Ob) :=
bind2 (ev (.box false (.c (.agg [(.int .i64 e),(.str e1),(.int .i64 e2),(.int .i64 e3),(.str e4),(.str e5),(.str e6),e7]))) h) fun e8 h_ =>
bind3 (S12_1 lf rc e8 (7) ([]:List UInt8) h_) fun ex vs h_1 =>
cB (decide (ex = .normal)) (
castCons vs fun c l =>
castInt .i64 c fun of =>
castCons l fun c1 l1 =>
castStr c1 fun s =>
castNil l1 (
cB (decide (of < least)) (
bind1 (er (.bin .add (.c (.str [40])) (.c (.str s))) h_1) fun v =>
castStr v fun x103 =>
bind1 (er (.bin .add (.c (.str x103)) (.c (.str [41]))) h_1) fun v1 =>
castStr v1 fun x104 =>
some ((.str x104),h_1)) (
some ((.str s),h_1)))) (
none)
noncomputable def W12 (lf:Nat) (rc:CallS):List V → List Ob → Option (V × List Ob) := wG [zEb1,Si] (F12 lf rc)
theorem W12_ok (lf:Nat) (rc:CallS) (hrc:CallOk Go.Proofs.Tryd.prog rc):WOk Go.Proofs.Tryd.prog 12 (W12 lf rc) := FOk 106 [(.t 4)] A12 (x12 lf rc hrc) [p12_1 lf rc hrc] (sq [.reg [o 2 (.box false 0),mv 4 (.c (.str []))],.reg [mv 5 (ci 7)],.reg [mv 6 (.c (.str []))],.sub 0,sq [.reg [mv 99 5,mv 100 1,o 101 (.bin .lss 99 100)],.cond 101 (sq [.reg [mv 102 6,o 103 (.bin .add (.c (.str [40])) 102),o 104 (.bin .add 103 (.c (.str [41]))),mv 4 104],.ret]) .skip],.reg [mv 105 6,mv 4 105],.ret]) [zEb1,Si] _ Go.Proofs.Tryd.func12 (by kernel_rfl) (by kernel_rfl) (by kernel_rfl) (fun _ _ _ _ _ _ _ _ _ _ => by kernel_rfl)
noncomputable def R12 (lf:Nat):Nat → CallS
  | 0 => callN
  | n + 1 => callC 12 (W12 lf (R12 lf n)) (callN)
theorem R12_ok (lf:Nat):∀ n,CallOk Go.Proofs.Tryd.prog (R12 lf n)
  | 0 => callN_ok
  | n + 1 => callC_ok (W12_ok lf (R12 lf n) (R12_ok lf n)) (callN_ok)
def A6 := mkA [(zEb1,[0,4,7]),(Ss,[2,8]),(Si,[3]),(Sb,[5,6])]
noncomputable def x6 (lf:Nat):Cx Go.Proofs.Tryd.prog := .c (.c .o (W11_ok lf)) (W12_ok lf (R12 lf lf) (R12_ok lf lf))
noncomputable def F6 (lf:Nat) (e:Int) (e1:List UInt8) (e2:Int) (e3:Int) (e4:List UInt8) (e5:List UInt8) (e6:List UInt8) (e7:V) (h:List Ob):Option (V × List Ob) :=
bind2 (ev (.box false (.c (.agg [(.int .i64 e),(.str e1),(.int .i64 e2),(.int .i64 e3),(.str e4),(.str e5),(.str e6),e7]))) h) fun e8 h_ =>
bind1 (er (.loadN 8 (.c e8)) h_) fun v =>
castAgg v fun l =>
castCons l fun c l1 =>
castInt .i64 c fun x4_0 =>
castCons l1 fun c1 l2 =>
castStr c1 fun x4_1 =>
castCons l2 fun c2 l3 =>
castInt .i64 c2 fun x4_2 =>
castCons l3 fun c3 l4 =>
castInt .i64 c3 fun x4_3 =>
castCons l4 fun c4 l5 =>
castStr c4 fun x4_4 =>
castCons l5 fun c5 l6 =>
castStr c5 fun x4_5 =>
castCons l6 fun c6 l7 =>
castStr c6 fun x4_6 =>
castCons l7 fun x4_7 l8 =>
castNil l8 (
bind2 (F11 lf x4_0 x4_1 x4_2 x4_3 x4_4 x4_5 x4_6 x4_7 h_) fun v1 h_1 =>
castBool v1 fun x5 =>
cB (!x5) (
some ((.tup [(.str ([]:List UInt8)),(.int .i64 (1))]),h_1)) (
bind1 (er (.loadN 8 (.c e8)) h_1) fun v2 =>
castAgg v2 fun l9 =>
castCons l9 fun c7 l10 =>
castInt .i64 c7 fun x7_0 =>
castCons l10 fun c8 l11 =>
castStr c8 fun x7_1 =>
castCons l11 fun c9 l12 =>
castInt .i64 c9 fun x7_2 =>
castCons l12 fun c10 l13 =>
castInt .i64 c10 fun x7_3 =>
castCons l13 fun c11 l14 =>
castStr c11 fun x7_4 =>
castCons l14 fun c12 l15 =>
castStr c12 fun x7_5 =>
castCons l15 fun c13 l16 =>
castStr c13 fun x7_6 =>
castCons l16 fun x7_7 l17 =>
castNil l17 (
bind2 (F12 lf (R12 lf lf) x7_0 x7_1 x7_2 x7_3 x7_4 x7_5 x7_6 x7_7 (0) h_1) fun v3 h_2 =>
castStr v3 fun x8 =>
some ((.tup [(.str x8),(.int .i64 (0))]),h_2))))
noncomputable def W6 (lf:Nat):List V → List Ob → Option (V × List Ob) := wG [zEb1] (F6 lf)
theorem W6_ok (lf:Nat):WOk Go.Proofs.Tryd.prog 6 (W6 lf) := FOk 9 [(.t 2),(.t 3)] A6 (x6 lf) [] (sq [.reg [o 1 (.box false 0),mv 2 (.c (.str [])),mv 3 (ci 0)],sq [.reg [ln 4 8 1,ca 5 11 [4],o 6 (.un .not 5)],.cond 6 (sq [.reg [mv 2 (.c (.str [])),mv 3 (ci 1)],.ret]) .skip],.reg [ln 7 8 1,ca 8 12 [7,(ci 0)],mv 2 8,mv 3 (ci 0)],.ret]) [zEb1] _ Go.Proofs.Tryd.func6 (by kernel_rfl) (by kernel_rfl) (by kernel_rfl) (fun _ _ _ _ _ _ _ _ _ => by kernel_rfl)
def A7 := mkA [(zEb1,[0,15,28,29,34]),(Si,[4,6,18,19,21,26,33]),(Ss,[8,12,14]),(.agg [Si,Si,Ss],[10]),(Sb,[20])]
noncomputable def x7 (lf:Nat) (rc:CallS) (hrc:CallOk Go.Proofs.Tryd.prog rc):Cx Go.Proofs.Tryd.prog := .r .o hrc
noncomputable def B7_0 (lf:Nat) (rc:CallS) (self:V → V → Int → Int → List Ob → SubR) (e:V) (out:V) (x18:Int) (x19:Int) (h:List Ob):SubR :=
cB (decide (x19 < x18)) (
bind1 (er (.faddr 7 (.c out)) h) fun x22 =>
bind1 (er (.load1 (.c x22)) h) fun x23 =>
bind1 (er (.faddr 7 (.c e)) h) fun x24 =>
bind1 (er (.load1 (.c x24)) h) fun x25 =>
bind1 (er (.iaddrL 8 (.c x25) (.c (.int .i64 x19))) h) fun x27 =>
bind1 (er (.loadN 8 (.c x27)) h) fun v =>
castAgg v fun l =>
castCons l fun c l1 =>
castInt .i64 c fun x28_0 =>
castCons l1 fun c1 l2 =>
castStr c1 fun x28_1 =>
castCons l2 fun c2 l3 =>
castInt .i64 c2 fun x28_2 =>
castCons l3 fun c3 l4 =>
castInt .i64 c3 fun x28_3 =>
castCons l4 fun c4 l5 =>
castStr c4 fun x28_4 =>
castCons l5 fun c5 l6 =>
castStr c5 fun x28_5 =>
castCons l6 fun c6 l7 =>
castStr c6 fun x28_6 =>
castCons l7 fun x28_7 l8 =>
castNil l8 (
bind2 (rc 7 [(.agg [(.int .i64 x28_0),(.str x28_1),(.int .i64 x28_2),(.int .i64 x28_3),(.str x28_4),(.str x28_5),(.str x28_6),x28_7])] h) fun v1 h_ =>
castAgg v1 fun l9 =>
castCons l9 fun c7 l10 =>
castInt .i64 c7 fun x29_0 =>
castCons l10 fun c8 l11 =>
castStr c8 fun x29_1 =>
castCons l11 fun c9 l12 =>
castInt .i64 c9 fun x29_2 =>
castCons l12 fun c10 l13 =>
castInt .i64 c10 fun x29_3 =>
castCons l13 fun c11 l14 =>
castStr c11 fun x29_4 =>
castCons l14 fun c12 l15 =>
castStr c12 fun x29_5 =>
castCons l15 fun c13 l16 =>
castStr c13 fun x29_6 =>
castCons l16 fun x29_7 l17 =>
castNil l17 (
reP (er (.load1 (.c x22)) h_ = some x23) (
reP (er (.faddr 7 (.c out)) h_ = some x22) (
bind2 (ev (.bslice 8 (.agg [(.int .i64 0),(.str []),(.int .i64 0),(.int .i64 0),(.str []),(.str []),(.str []),.nils]) 1 [(0,(.c (.agg [(.int .i64 x29_0),(.str x29_1),(.int .i64 x29_2),(.int .i64 x29_3),(.str x29_4),(.str x29_5),(.str x29_6),x29_7])))]) h_) fun x30 h_1 =>
reP (er (.load1 (.c x22)) h_1 = some x23) (
reP (er (.faddr 7 (.c out)) h_1 = some x22) (
bind2 (ev (.app 8 112 (.c x23) (.c x30)) h_1) fun x31 h_2 =>
bind1 (er (.faddr 7 (.c out)) h_2) fun x32 =>
bind2 (ev (.store 1 (.c x32) (.c x31)) h_2) fun u h_3 =>
self e out x18 (IntKind.i64.wrap (x19 + (1))) h_3))))))) (
some ((.exit 0),[],h))
noncomputable def L7_0 (lf:Nat) (rc:CallS):Nat → V → V → Int → Int → List Ob → SubR
  | 0 => fun _ _ _ _ _ => none
  | n + 1 => B7_0 lf rc (L7_0 lf rc n)
noncomputable def p7_0 (lf:Nat) (rc:CallS) (hrc:CallOk Go.Proofs.Tryd.prog rc):Pt Go.Proofs.Tryd.prog := .loop A7 (x7 lf rc hrc) [] (sq [.reg [o 20 (.bin .lss 19 18)],.cond 20 .skip (.exit 0),.block 1 (sq [.reg [mv 21 19,mv 4 21],.reg [fa 22 7 3,l1 23 22,fa 24 7 1,l1 25 24,mv 26 4,o 27 (.iaddrL 8 25 26),ln 28 8 27,⟨(some 29),none,(.call 7 [(.t 28)]),[⟨(some 23),none,(.op (.load1 (.t 22)))⟩,⟨(some 22),none,(.op (.faddr 7 (.t 3)))⟩]⟩,⟨(some 30),none,(.op (.bslice 8 (.agg [(.int .i64 0),(.str []),(.int .i64 0),(.int .i64 0),(.str []),(.str []),(.str []),.nils]) 1 [(0,(.t 29))])),[⟨(some 23),none,(.op (.load1 (.t 22)))⟩,⟨(some 22),none,(.op (.faddr 7 (.t 3)))⟩]⟩,o 31 (.app 8 112 23 30),fa 32 7 3,st 1 32 31]]),.reg [o 33 (.bin .add 19 (ci 1)),mv 19 33]]) [Sa,Sa,Si,Si] [1,3,18,19] [((.exit 0),[],[])] (B7_0 lf rc) (L7_0 lf rc) (fun _ _ _ _ _ => rfl) (fun _ => rfl) (fun _ _ _ _ _ _ => by kernel_rfl) lf
noncomputable def F7 (lf:Nat) (rc:CallS) (e:Int) (e1:List UInt8) (e2:Int) (e3:Int) (e4:List UInt8) (e5:List UInt8) (e6:List UInt8) (e7:V) (h:List Ob):Option (V × List Ob) :=
bind2 (ev (.box false (.c (.agg [(.int .i64 e),(.str e1),(.int .i64 e2),(.int .i64 e3),(.str e4),(.str e5),(.str e6),e7]))) h) fun e8 h_ =>
bind2 (ev (.alloc false (.agg [(.int .i64 0),(.str []),(.int .i64 0),(.int .i64 0),(.str []),(.str []),(.str []),.nils])) h_) fun x2 h_1 =>
bind1 (er (.faddr 0 (.c e8)) h_1) fun x5 =>
bind1 (er (.load1 (.c x5)) h_1) fun v =>
castInt .i64 v fun x6 =>
bind1 (er (.faddr 1 (.c e8)) h_1) fun x7 =>
bind1 (er (.load1 (.c x7)) h_1) fun v1 =>
castStr v1 fun x8 =>
bind1 (er (.faddr 2 (.c e8)) h_1) fun x9 =>
bind1 (er (.loadN 3 (.c x9)) h_1) fun v2 =>
castAgg v2 fun l =>
castCons l fun c l1 =>
castInt .i64 c fun x10_0 =>
castCons l1 fun c1 l2 =>
castInt .i64 c1 fun x10_1 =>
castCons l2 fun c2 l3 =>
castStr c2 fun x10_2 =>
castNil l3 (
bind1 (er (.faddr 5 (.c e8)) h_1) fun x11 =>
bind1 (er (.load1 (.c x11)) h_1) fun v3 =>
castStr v3 fun x12 =>
bind1 (er (.faddr 6 (.c e8)) h_1) fun x13 =>
bind1 (er (.load1 (.c x13)) h_1) fun v4 =>
castStr v4 fun x14 =>
bind1 (er (.build [(.int .i64 0),(.str []),(.int .i64 0),(.int .i64 0),(.str []),(.str []),(.str []),.nils] [(0,(1,(.c (.int .i64 x6)))),(1,(1,(.c (.str x8)))),(2,(3,(.c (.agg [(.int .i64 x10_0),(.int .i64 x10_1),(.str x10_2)])))),(5,(1,(.c (.str x12)))),(6,(1,(.c (.str x14))))]) h_1) fun v5 =>
castAgg v5 fun l4 =>
castCons l4 fun c3 l5 =>
castInt .i64 c3 fun x15_0 =>
castCons l5 fun c4 l6 =>
castStr c4 fun x15_1 =>
castCons l6 fun c5 l7 =>
castInt .i64 c5 fun x15_2 =>
castCons l7 fun c6 l8 =>
castInt .i64 c6 fun x15_3 =>
castCons l8 fun c7 l9 =>
castStr c7 fun x15_4 =>
castCons l9 fun c8 l10 =>
castStr c8 fun x15_5 =>
castCons l10 fun c9 l11 =>
castStr c9 fun x15_6 =>
castCons l11 fun x15_7 l12 =>
castNil l12 (
bind2 (ev (.alloc false (.agg [(.int .i64 0),(.str []),(.int .i64 0),(.int .i64 0),(.str []),(.str []),(.str []),.nils])) h_1) fun out h_2 =>
bind2 (ev (.store 8 (.c out) (.c (.agg [(.int .i64 x15_0),(.str x15_1),(.int .i64 x15_2),(.int .i64 x15_3),(.str x15_4),(.str x15_5),(.str x15_6),x15_7]))) h_2) fun u h_3 =>
bind1 (er (.faddr 7 (.c e8)) h_3) fun x16 =>
bind1 (er (.load1 (.c x16)) h_3) fun x17 =>
bind1 (er (.lenL (.c x17)) h_3) fun v6 =>
castInt .i64 v6 fun x18 =>
bind3 (L7_0 lf rc lf e8 out x18 (0) h_3) fun ex vs h_4 =>
cB (decide (ex = (.exit 0))) (
castNil vs (
bind1 (er (.loadN 8 (.c out)) h_4) fun v7 =>
castAgg v7 fun l13 =>
castCons l13 fun c10 l14 =>
castInt .i64 c10 fun x34_0 =>
castCons l14 fun c11 l15 =>
castStr c11 fun x34_1 =>
castCons l15 fun c12 l16 =>
castInt .i64 c12 fun x34_2 =>
castCons l16 fun c13 l17 =>
castInt .i64 c13 fun x34_3 =>
castCons l17 fun c14 l18 =>
castStr c14 fun x34_4 =>
castCons l18 fun c15 l19 =>
castStr c15 fun x34_5 =>
castCons l19 fun c16 l20 =>
castStr c16 fun x34_6 =>
castCons l20 fun x34_7 l21 =>
castNil l21 (
bind2 (ev (.store 8 (.c x2) (.c (.agg [(.int .i64 x34_0),(.str x34_1),(.int .i64 x34_2),(.int .i64 x34_3),(.str x34_4),(.str x34_5),(.str x34_6),x34_7]))) h_4) fun u1 h_5 =>
bind1 (evLoadN h_5 8 x2) fun r =>
some (r,h_5)))) (
none)))
noncomputable def W7 (lf:Nat) (rc:CallS):List V → List Ob → Option (V × List Ob) := wG [zEb1] (F7 lf rc)
theorem W7_ok (lf:Nat) (rc:CallS) (hrc:CallOk Go.Proofs.Tryd.prog rc):WOk Go.Proofs.Tryd.prog 7 (W7 lf rc) := FOk 35 [(.ln 8 2)] A7 (x7 lf rc hrc) [p7_0 lf rc hrc] (sq [.reg [o 1 (.box false 0),o 2 (.alloc false zEb2)],.reg [fa 5 0 1,l1 6 5,fa 7 1 1,l1 8 7,fa 9 2 1,ln 10 3 9,fa 11 5 1,l1 12 11,fa 13 6 1,l1 14 13,o 15 (.build [(.int .i64 0),(.str []),(.int .i64 0),(.int .i64 0),(.str []),(.str []),(.str []),.nils] [(0,(1,6)),(1,(1,8)),(2,(3,10)),(5,(1,12)),(6,(1,14))]),o 3 (.alloc false zEb2),st 8 3 15],sq [.reg [fa 16 7 1,l1 17 16,o 18 (.lenL 17),mv 19 (ci 0)],.block 0 (.sub 0)],.reg [ln 34 8 3,st 8 2 34],.ret]) [zEb1] _ Go.Proofs.Tryd.func7 (by kernel_rfl) (by kernel_rfl) (by kernel_rfl) (fun _ _ _ _ _ _ _ _ _ => by kernel_rfl)
noncomputable def R7 (lf:Nat):Nat → CallS
  | 0 => callN
  | n + 1 => callC 7 (W7 lf (R7 lf n)) (callN)
theorem R7_ok (lf:Nat):∀ n,CallOk Go.Proofs.Tryd.prog (R7 lf n)
  | 0 => callN_ok
  | n + 1 => callC_ok (W7_ok lf (R7 lf n) (R7_ok lf n)) (callN_ok)
def A3 := mkA [(zEb1,[0,10,16,17,28,36,37,38]),(Sb,[2,7,8,9,11,12,13,14,22,24,31,32,34,35,39,40,41]),(Ss,[3,19,23,26]),(Si,[4,6,20,21,29,30,33]),(.tup [Ss,Si],[15,18]),(zEb3,[25,27])]
noncomputable def x3 (lf:Nat):Cx Go.Proofs.Tryd.prog := .c (.c (.c (.c (.c (.c .o (W4_ok lf)) (W5_ok lf)) (W6_ok lf)) (W7_ok lf (R7 lf lf) (R7_ok lf lf))) (W8_ok lf)) (W9_ok lf (R9 lf lf) (R9_ok lf lf))
noncomputable def S3_0 (lf:Nat) (e:V) (h:List Ob):SubR :=
bind2 (F4 lf h) fun v h_ =>
castBool v fun x7 =>
cB (!x7) (
bind2 (F4 lf h_) fun v1 h_1 =>
castBool v1 fun x14 =>
some (.ret,[(.bool x14)],h_1)) (
bind1 (er (.loadN 8 (.c e)) h_) fun v1 =>
castAgg v1 fun l =>
castCons l fun c l1 =>
castInt .i64 c fun x10_0 =>
castCons l1 fun c1 l2 =>
castStr c1 fun x10_1 =>
castCons l2 fun c2 l3 =>
castInt .i64 c2 fun x10_2 =>
castCons l3 fun c3 l4 =>
castInt .i64 c3 fun x10_3 =>
castCons l4 fun c4 l5 =>
castStr c4 fun x10_4 =>
castCons l5 fun c5 l6 =>
castStr c5 fun x10_5 =>
castCons l6 fun c6 l7 =>
castStr c6 fun x10_6 =>
castCons l7 fun x10_7 l8 =>
castNil l8 (
bind2 (F5 lf x10_0 x10_1 x10_2 x10_3 x10_4 x10_5 x10_6 x10_7 h_) fun v2 h_1 =>
castBool v2 fun x11 =>
cB (!x11) (
bind2 (F4 lf h_1) fun v3 h_2 =>
castBool v3 fun x14 =>
some (.ret,[(.bool x14)],h_2)) (
some (.normal,[],h_1))))
noncomputable def p3_0 (lf:Nat):Pt Go.Proofs.Tryd.prog := .of A3 (x3 lf) [] (sq [.reg [ca 7 4 [],o 8 (.un .not 7),mv 9 8,oF 10 9 (.loadN 8 1),caF 11 9 5 [10],oF 12 9 (.un .not 11),o 13 (.pick 9 cT 12)],.cond 13 (sq [.reg [ca 14 4 [],mv 2 14],.ret]) .skip]) [Sa] [1] [(.ret,[2],[Sb]),(.normal,[],[])] (S3_0 lf) (fun _ _ => by kernel_rfl)
noncomputable def F3 (lf:Nat) (e:Int) (e1:List UInt8) (e2:Int) (e3:Int) (e4:List UInt8) (e5:List UInt8) (e6:List UInt8) (e7:V) (h:List Ob):Option (V × List Ob) :=
bind2 (ev (.box false (.c (.agg [(.int .i64 e),(.str e1),(.int .i64 e2),(.int .i64 e3),(.str e4),(.str e5),(.str e6),e7]))) h) fun e8 h_ =>
bind3 (S3_0 lf e8 h_) fun ex vs h_1 =>
cB (decide (ex = .ret)) (
castCons vs fun c l =>
castBool c fun x2 =>
castNil l (
some ((.bool x2),h_1))) (
cB (decide (ex = .normal)) (
castNil vs (
bind1 (er (.loadN 8 (.c e8)) h_1) fun v =>
castAgg v fun l =>
castCons l fun c l1 =>
castInt .i64 c fun x16_0 =>
castCons l1 fun c1 l2 =>
castStr c1 fun x16_1 =>
castCons l2 fun c2 l3 =>
castInt .i64 c2 fun x16_2 =>
castCons l3 fun c3 l4 =>
castInt .i64 c3 fun x16_3 =>
castCons l4 fun c4 l5 =>
castStr c4 fun x16_4 =>
castCons l5 fun c5 l6 =>
castStr c5 fun x16_5 =>
castCons l6 fun c6 l7 =>
castStr c6 fun x16_6 =>
castCons l7 fun x16_7 l8 =>
castNil l8 (
bind2 (F7 lf (R7 lf lf) x16_0 x16_1 x16_2 x16_3 x16_4 x16_5 x16_6 x16_7 h_1) fun v1 h_2 =>
castAgg v1 fun l9 =>
castCons l9 fun c7 l10 =>
castInt .i64 c7 fun x17_0 =>
castCons l10 fun c8 l11 =>
castStr c8 fun x17_1 =>
castCons l11 fun c9 l12 =>
castInt .i64 c9 fun x17_2 =>
castCons l12 fun c10 l13 =>
castInt .i64 c10 fun x17_3 =>
castCons l13 fun c11 l14 =>
castStr c11 fun x17_4 =>
castCons l14 fun c12 l15 =>
castStr c12 fun x17_5 =>
castCons l15 fun c13 l16 =>
castStr c13 fun x17_6 =>
castCons l16 fun x17_7 l17 =>
castNil l17 (
bind2 (F6 lf x17_0 x17_1 x17_2 x17_3 x17_4 x17_5 x17_6 x17_7 h_2) fun v2 h_3 =>
castTup v2 fun l18 =>
castCons l18 fun c14 l19 =>
castStr c14 fun x18_0 =>
castCons l19 fun c15 l20 =>
castInt .i64 c15 fun x18_1 =>
castNil l20 (
cB (x18_1 != (0)) (
some ((.bool (x18_0 == ([]:List UInt8))),h_3)) (
bind2 (F8 lf x18_0 h_3) fun v3 h_4 =>
castTup v3 fun l21 =>
castCons l21 fun c16 l22 =>
castAgg c16 fun l23 =>
castCons l23 fun c17 l24 =>
castInt .i64 c17 fun x27_0_0 =>
castCons l24 fun c18 l25 =>
castStr c18 fun x27_0_1 =>
castCons l25 fun c19 l26 =>
castInt .i64 c19 fun x27_0_2 =>
castCons l26 fun c20 l27 =>
castInt .i64 c20 fun x27_0_3 =>
castCons l27 fun c21 l28 =>
castStr c21 fun x27_0_4 =>
castCons l28 fun c22 l29 =>
castStr c22 fun x27_0_5 =>
castCons l29 fun c23 l30 =>
castStr c23 fun x27_0_6 =>
castCons l30 fun x27_0_7 l31 =>
castNil l31 (
castCons l22 fun c24 l32 =>
castInt .i64 c24 fun x27_1 =>
castNil l32 (
bind2 (ev (.alloc false (.agg [(.int .i64 0),(.str []),(.int .i64 0),(.int .i64 0),(.str []),(.str []),(.str []),.nils])) h_4) fun x h_5 =>
bind2 (ev (.store 8 (.c x) (.c (.agg [(.int .i64 x27_0_0),(.str x27_0_1),(.int .i64 x27_0_2),(.int .i64 x27_0_3),(.str x27_0_4),(.str x27_0_5),(.str x27_0_6),x27_0_7]))) h_5) fun u h_6 =>
cB (x27_1 == (5)) (
some ((.bool true),h_6)) (
cB (x27_1 == (0)) (
bind1 (er (.loadN 8 (.c x)) h_6) fun v4 =>
castAgg v4 fun l33 =>
castCons l33 fun c25 l34 =>
castInt .i64 c25 fun x36_0 =>
castCons l34 fun c26 l35 =>
castStr c26 fun x36_1 =>
castCons l35 fun c27 l36 =>
castInt .i64 c27 fun x36_2 =>
castCons l36 fun c28 l37 =>
castInt .i64 c28 fun x36_3 =>
castCons l37 fun c29 l38 =>
castStr c29 fun x36_4 =>
castCons l38 fun c30 l39 =>
castStr c30 fun x36_5 =>
castCons l39 fun c31 l40 =>
castStr c31 fun x36_6 =>
castCons l40 fun x36_7 l41 =>
castNil l41 (
bind1 (er (.loadN 8 (.c e8)) h_6) fun v5 =>
castAgg v5 fun l42 =>
castCons l42 fun c32 l43 =>
castInt .i64 c32 fun x37_0 =>
castCons l43 fun c33 l44 =>
castStr c33 fun x37_1 =>
castCons l44 fun c34 l45 =>
castInt .i64 c34 fun x37_2 =>
castCons l45 fun c35 l46 =>
castInt .i64 c35 fun x37_3 =>
castCons l46 fun c36 l47 =>
castStr c36 fun x37_4 =>
castCons l47 fun c37 l48 =>
castStr c37 fun x37_5 =>
castCons l48 fun c38 l49 =>
castStr c38 fun x37_6 =>
castCons l49 fun x37_7 l50 =>
castNil l50 (
bind2 (F7 lf (R7 lf lf) x37_0 x37_1 x37_2 x37_3 x37_4 x37_5 x37_6 x37_7 h_6) fun v6 h_7 =>
castAgg v6 fun l51 =>
castCons l51 fun c39 l52 =>
castInt .i64 c39 fun x38_0 =>
castCons l52 fun c40 l53 =>
castStr c40 fun x38_1 =>
castCons l53 fun c41 l54 =>
castInt .i64 c41 fun x38_2 =>
castCons l54 fun c42 l55 =>
castInt .i64 c42 fun x38_3 =>
castCons l55 fun c43 l56 =>
castStr c43 fun x38_4 =>
castCons l56 fun c44 l57 =>
castStr c44 fun x38_5 =>
castCons l57 fun c45 l58 =>
castStr c45 fun x38_6 =>
castCons l58 fun x38_7 l59 =>
castNil l59 (
reP (er (.loadN 8 (.c x)) h_7 = some (.agg [(.int .i64 x36_0),(.str x36_1),(.int .i64 x36_2),(.int .i64 x36_3),(.str x36_4),(.str x36_5),(.str x36_6),x36_7])) (
bind2 (F9 lf (R9 lf lf) x36_0 x36_1 x36_2 x36_3 x36_4 x36_5 x36_6 x36_7 x38_0 x38_1 x38_2 x38_3 x38_4 x38_5 x38_6 x38_7 h_7) fun v7 h_8 =>
castBool v7 fun x39 =>
some ((.bool x39),h_8)))))) (
some ((.bool false),h_6))))))))))) (
none))
noncomputable def W3 (lf:Nat):List V → List Ob → Option (V × List Ob) := wG [zEb1] (F3 lf)
theorem W3_ok (lf:Nat):WOk Go.Proofs.Tryd.prog 3 (W3 lf) := FOk 42 [(.t 2)] A3 (x3 lf) [p3_0 lf] (sq [.reg [o 1 (.box false 0),mv 2 cF],.sub 0,.reg [ln 16 8 1,ca 17 7 [16],ca 18 6 [17],mv 15 18,o 19 (.ext 0 15),o 20 (.ext 1 15),mv 3 19,mv 4 20],sq [.reg [mv 21 4,o 22 (.bin .neq 21 (ci 0))],.cond 22 (sq [.reg [mv 23 3,o 24 (.bin .eql 23 (.c (.str []))),mv 2 24],.ret]) .skip],.reg [mv 26 3,ca 27 8 [26],mv 25 27,o 28 (.ext 0 25),o 29 (.ext 1 25),o 5 (.alloc false zEb2),st 8 5 28,mv 6 29],.reg [mv 30 6,o 31 (.bin .eql 30 (ci 5)),mv 32 31,oF 33 32 (.mv 6),oF 34 32 (.bin .eql 33 (ci 0)),oF 35 32 (.mv 34),oT 36 35 (.loadN 8 5),oT 37 35 (.loadN 8 1),⟨(some 38),(some (35,true)),(.call 7 [(.t 37)]),[⟨(some 36),(some (35,true)),(.op (.loadN 8 (.t 5)))⟩]⟩,caT 39 35 9 [36,38],oF 40 32 (.pick 35 39 cF),o 41 (.pick 32 cT 40),mv 2 41],.ret]) [zEb1] _ Go.Proofs.Tryd.func3 (by kernel_rfl) (by kernel_rfl) (by kernel_rfl) (fun _ _ _ _ _ _ _ _ _ => by kernel_rfl)
end Go.Proofs.YtjpjeilfmjdhcaaDoor.Eb
