/- Functions of the program as Lean functions, and that each call comes to what its function says. Printed by my own tool. No condition. -/
import Derived.Test.YtjpjeilfmjdhcaaDoorProg
import Derived.Test.YtjpjeilfmjdhcaaDoorL4
import Derived.Test.YtjpjeilfmjdhcaaDoorExs
namespace Go.Proofs.YtjpjeilfmjdhcaaDoor.Rd
open Go Go.Proofs.YtjpjeilfmjdhcaaDoor.E
open Go.Proofs.YtjpjeilfmjdhcaaDoor.E.K
open Go.Proofs.YtjpjeilfmjdhcaaDoor.Ln
open Go.Proofs.YtjpjeilfmjdhcaaDoor.Ex
set_option maxRecDepth 100000
set_option linter.unusedVariables false
def zRd1:V := .agg [(.int .i64 0),(.str []),(.int .i64 0)]
def zRd2:Sh := .tup [.agg [Si,Ss,Si],Sb]
def zRd3:Sh := .agg [Si,Ss,Si,Si,Ss,Ss,Ss,Sa]
def zRd4:V := .agg [(.int .i64 0),(.str []),(.int .i64 0),(.int .i64 0),(.str []),(.str []),(.str []),.nils]
def A14 := mkA [(.agg [Sa,Si,Si],[4])]
noncomputable def x14 (lf:Nat):Cx Go.Proofs.Tryd.prog := .o
noncomputable def F14 (lf:Nat) (words:V) (h:List Ob):Option (V × List Ob) :=
bind1 (er (.build [.nils,(.int .i64 0),(.int .i64 0)] [(0,(1,(.c words)))]) h) fun v =>
castAgg v fun l =>
castCons l fun x4_0 l1 =>
castCons l1 fun c l2 =>
castInt .i64 c fun x4_1 =>
castCons l2 fun c1 l3 =>
castInt .i64 c1 fun x4_2 =>
castNil l3 (
bind2 (ev (.box false (.c (.agg [x4_0,(.int .i64 x4_1),(.int .i64 x4_2)]))) h) fun x5 h_ =>
some (x5,h_))
noncomputable def W14 (lf:Nat):List V → List Ob → Option (V × List Ob) := wG [Sa] (F14 lf)
theorem W14_ok (lf:Nat):WOk Go.Proofs.Tryd.prog 14 (W14 lf) := FOk 6 [(.t 2)] A14 (x14 lf) [] (sq [.reg [mv 2 (.c .nilp)],.reg [mv 3 0,o 4 (.build [.nils,(.int .i64 0),(.int .i64 0)] [(0,(1,3))]),o 5 (.box false 4),mv 2 5],.ret]) [Sa] _ Go.Proofs.Tryd.func14 (by kernel_rfl) (by kernel_rfl) (by kernel_rfl) (fun _ _ => by kernel_rfl)
def A16 := mkA [(Sb,[2,12]),(Si,[6,11])]
noncomputable def x16 (lf:Nat):Cx Go.Proofs.Tryd.prog := .o
noncomputable def F16 (lf:Nat) (r:V) (h:List Ob):Option (V × List Ob) :=
bind1 (er (.nilck (.c r)) h) fun x4 =>
bind1 (er (.faddr 1 (.c x4)) h) fun x5 =>
bind1 (er (.load1 (.c x5)) h) fun v =>
castInt .i64 v fun x6 =>
bind1 (er (.nilck (.c r)) h) fun x8 =>
bind1 (er (.faddr 0 (.c x8)) h) fun x9 =>
bind1 (er (.load1 (.c x9)) h) fun x10 =>
bind1 (er (.lenL (.c x10)) h) fun v1 =>
castInt .i64 v1 fun x11 =>
some ((.bool (x6 == x11)),h)
noncomputable def W16 (lf:Nat):List V → List Ob → Option (V × List Ob) := wG [Sa] (F16 lf)
theorem W16_ok (lf:Nat):WOk Go.Proofs.Tryd.prog 16 (W16 lf) := FOk 13 [(.t 2)] A16 (x16 lf) [] (sq [.reg [mv 2 cF],.reg [mv 3 0,nk 4 3,fa 5 1 4,l1 6 5,mv 7 0,nk 8 7,fa 9 0 8,l1 10 9,o 11 (.lenL 10),o 12 (.bin .eql 6 11),mv 2 12],.ret]) [Sa] _ Go.Proofs.Tryd.func16 (by kernel_rfl) (by kernel_rfl) (by kernel_rfl) (fun _ _ => by kernel_rfl)
def A55 := mkA [(Si,[1,9,23,26,27,38]),(Sb,[5,10,11,13,14,15,28,29]),(.agg [Si,Ss,Si],[30,40])]
noncomputable def x55 (lf:Nat):Cx Go.Proofs.Tryd.prog := .c .o (W16_ok lf)
noncomputable def S55_0 (lf:Nat) (r:V) (kind:Int) (h:List Ob):SubR :=
bind1 (er (.nilck (.c r)) h) fun x7 =>
bind1 (er (.faddr 2 (.c x7)) h) fun x8 =>
bind1 (er (.load1 (.c x8)) h) fun v =>
castInt .i64 v fun x9 =>
cB (x9 != (0)) (
some (.normal,[(.bool true)],h)) (
bind2 (F16 lf r h) fun v1 h_ =>
castBool v1 fun x13 =>
cB x13 (
some (.normal,[(.bool true)],h_)) (
bind1 (er (.nilck (.c r)) h_) fun x17 =>
bind1 (er (.faddr 0 (.c x17)) h_) fun x18 =>
bind1 (er (.load1 (.c x18)) h_) fun x19 =>
bind1 (er (.nilck (.c r)) h_) fun x21 =>
bind1 (er (.faddr 1 (.c x21)) h_) fun x22 =>
bind1 (er (.load1 (.c x22)) h_) fun v2 =>
castInt .i64 v2 fun x23 =>
bind1 (er (.iaddrL 3 (.c x19) (.c (.int .i64 x23))) h_) fun x24 =>
bind1 (er (.faddr 0 (.c x24)) h_) fun x25 =>
bind1 (er (.load1 (.c x25)) h_) fun v3 =>
castInt .i64 v3 fun x26 =>
some (.normal,[(.bool (x26 != kind))],h_)))
noncomputable def p55_0 (lf:Nat):Pt Go.Proofs.Tryd.prog := .of A55 (x55 lf) [] (.reg [mv 6 0,nk 7 6,fa 8 2 7,l1 9 8,o 10 (.bin .neq 9 (ci 0)),mv 11 10,oF 12 11 (.mv 0),caF 13 11 16 [12],o 14 (.pick 11 cT 13),mv 15 14,oF 16 15 (.mv 0),oF 17 15 (.nilck 16),oF 18 15 (.faddr 0 17),oF 19 15 (.load1 18),oF 20 15 (.mv 0),oF 21 15 (.nilck 20),oF 22 15 (.faddr 1 21),oF 23 15 (.load1 22),oF 24 15 (.iaddrL 3 19 23),oF 25 15 (.faddr 0 24),oF 26 15 (.load1 25),oF 27 15 (.mv 1),oF 28 15 (.bin .neq 26 27),o 29 (.pick 15 cT 28)]) [Sa,Si] [0,1] [(.normal,[29],[Sb])] (S55_0 lf) (fun _ _ _ => by kernel_rfl)
noncomputable def F55 (lf:Nat) (r:V) (kind:Int) (h:List Ob):Option (V × List Ob) :=
bind2 (ev (.alloc false (.agg [(.int .i64 0),(.str []),(.int .i64 0)])) h) fun x4 h_ =>
bind3 (S55_0 lf r kind h_) fun ex vs h_1 =>
cB (decide (ex = .normal)) (
castCons vs fun c l =>
castBool c fun x29 =>
castNil l (
cB x29 (
bind1 (er (.build [(.int .i64 0),(.str []),(.int .i64 0)] []) h_1) fun v =>
castAgg v fun l1 =>
castCons l1 fun c1 l2 =>
castInt .i64 c1 fun x30_0 =>
castCons l2 fun c2 l3 =>
castStr c2 fun x30_1 =>
castCons l3 fun c3 l4 =>
castInt .i64 c3 fun x30_2 =>
castNil l4 (
bind2 (ev (.store 3 (.c x4) (.c (.agg [(.int .i64 x30_0),(.str x30_1),(.int .i64 x30_2)]))) h_1) fun u h_2 =>
bind1 (evLoadN h_2 3 x4) fun r1 =>
some ((.tup [r1,(.bool false)]),h_2))) (
bind1 (er (.nilck (.c r)) h_1) fun x32 =>
bind1 (er (.faddr 0 (.c x32)) h_1) fun x33 =>
bind1 (er (.load1 (.c x33)) h_1) fun x34 =>
bind1 (er (.nilck (.c r)) h_1) fun x36 =>
bind1 (er (.faddr 1 (.c x36)) h_1) fun x37 =>
bind1 (er (.load1 (.c x37)) h_1) fun v =>
castInt .i64 v fun x38 =>
bind1 (er (.iaddrL 3 (.c x34) (.c (.int .i64 x38))) h_1) fun x39 =>
bind1 (er (.loadN 3 (.c x39)) h_1) fun v1 =>
castAgg v1 fun l1 =>
castCons l1 fun c1 l2 =>
castInt .i64 c1 fun x40_0 =>
castCons l2 fun c2 l3 =>
castStr c2 fun x40_1 =>
castCons l3 fun c3 l4 =>
castInt .i64 c3 fun x40_2 =>
castNil l4 (
bind2 (ev (.store 3 (.c x4) (.c (.agg [(.int .i64 x40_0),(.str x40_1),(.int .i64 x40_2)]))) h_1) fun u h_2 =>
bind1 (evLoadN h_2 3 x4) fun r1 =>
some ((.tup [r1,(.bool true)]),h_2))))) (
none)
noncomputable def W55 (lf:Nat):List V → List Ob → Option (V × List Ob) := wG [Sa,Si] (F55 lf)
theorem W55_ok (lf:Nat):WOk Go.Proofs.Tryd.prog 55 (W55 lf) := FOk 41 [(.ln 3 4),(.t 5)] A55 (x55 lf) [p55_0 lf] (sq [.reg [o 4 (.alloc false zRd1),mv 5 cF],sq [.sub 0,.cond 29 (sq [.reg [o 30 (.build [(.int .i64 0),(.str []),(.int .i64 0)] []),st 3 4 30,mv 5 cF],.ret]) .skip],.reg [mv 31 0,nk 32 31,fa 33 0 32,l1 34 33,mv 35 0,nk 36 35,fa 37 1 36,l1 38 37,o 39 (.iaddrL 3 34 38),ln 40 3 39,st 3 4 40,mv 5 cT],.ret]) [Sa,Si] _ Go.Proofs.Tryd.func55 (by kernel_rfl) (by kernel_rfl) (by kernel_rfl) (fun _ _ _ => by kernel_rfl)
def A41 := mkA [(Ss,[1,8,19,20]),(Sb,[4,7,9,15,16,17,21,22,23,31]),(Si,[5,12,27,28]),(zRd2,[10,13]),(.agg [Si,Ss,Si],[14])]
noncomputable def x41 (lf:Nat):Cx Go.Proofs.Tryd.prog := .c (.c .o (W54_ok lf)) (W55_ok lf)
noncomputable def S41_0 (lf:Nat) (s:List UInt8) (w:V) (ok:Bool) (h:List Ob):SubR :=
cB ok (
bind1 (er (.faddr 1 (.c w)) h) fun x18 =>
bind1 (er (.load1 (.c x18)) h) fun v =>
castStr v fun x19 =>
some (.normal,[(.bool (x19 == s))],h)) (
some (.normal,[(.bool false)],h))
noncomputable def p41_0 (lf:Nat):Pt Go.Proofs.Tryd.prog := .of A41 (x41 lf) [] (.reg [mv 16 7,mv 17 16,oT 18 17 (.faddr 1 6),oT 19 17 (.load1 18),oT 20 17 (.mv 1),oT 21 17 (.bin .eql 19 20),o 22 (.pick 17 21 cF),mv 7 22]) [Ss,Sa,Sb] [1,6,7] [(.normal,[7],[Sb])] (S41_0 lf) (fun _ _ _ _ => by kernel_rfl)
noncomputable def S41_1 (lf:Nat) (s:List UInt8) (kind:Int) (h:List Ob):SubR :=
bind2 (F54 lf s h) fun v h_ =>
castBool v fun x9 =>
cB x9 (
some (.normal,[(.int .i64 (1))],h_)) (
some (.normal,[(.int .i64 kind)],h_))
noncomputable def p41_1 (lf:Nat):Pt Go.Proofs.Tryd.prog := .of A41 (x41 lf) [] (sq [.reg [mv 8 1,ca 9 54 [8]],.cond 9 (.reg [mv 5 (ci 1)]) .skip]) [Ss,Si] [1,5] [(.normal,[5],[Si])] (S41_1 lf) (fun _ _ _ => by kernel_rfl)
noncomputable def F41 (lf:Nat) (r:V) (s:List UInt8) (h:List Ob):Option (V × List Ob) :=
bind3 (S41_1 lf s (4) h) fun ex vs h_ =>
cB (decide (ex = .normal)) (
castCons vs fun c l =>
castInt .i64 c fun kind =>
castNil l (
bind2 (F55 lf r kind h_) fun v h_1 =>
castTup v fun l1 =>
castCons l1 fun c1 l2 =>
castAgg c1 fun l3 =>
castCons l3 fun c2 l4 =>
castInt .i64 c2 fun x13_0_0 =>
castCons l4 fun c3 l5 =>
castStr c3 fun x13_0_1 =>
castCons l5 fun c4 l6 =>
castInt .i64 c4 fun x13_0_2 =>
castNil l6 (
castCons l2 fun c5 l7 =>
castBool c5 fun x13_1 =>
castNil l7 (
bind2 (ev (.alloc false (.agg [(.int .i64 0),(.str []),(.int .i64 0)])) h_1) fun w h_2 =>
bind2 (ev (.store 3 (.c w) (.c (.agg [(.int .i64 x13_0_0),(.str x13_0_1),(.int .i64 x13_0_2)]))) h_2) fun u h_3 =>
bind3 (S41_0 lf s w x13_1 h_3) fun ex1 vs1 h_4 =>
cB (decide (ex1 = .normal)) (
castCons vs1 fun c6 l8 =>
castBool c6 fun ok =>
castNil l8 (
cB ok (
bind1 (er (.nilck (.c r)) h_4) fun x25 =>
bind1 (er (.faddr 1 (.c x25)) h_4) fun x26 =>
bind1 (er (.load1 (.c x26)) h_4) fun v1 =>
castInt .i64 v1 fun x27 =>
bind1 (er (.nilck (.c r)) h_4) fun x29 =>
bind1 (er (.faddr 1 (.c x29)) h_4) fun x30 =>
bind2 (ev (.store 1 (.c x30) (.c (.int .i64 (IntKind.i64.wrap (x27 + (1)))))) h_4) fun u1 h_5 =>
some ((.bool ok),h_5)) (
some ((.bool ok),h_4)))) (
none))))) (
none)
noncomputable def W41 (lf:Nat):List V → List Ob → Option (V × List Ob) := wG [Sa,Ss] (F41 lf)
theorem W41_ok (lf:Nat):WOk Go.Proofs.Tryd.prog 41 (W41 lf) := FOk 32 [(.t 4)] A41 (x41 lf) [p41_1 lf,p41_0 lf] (sq [.reg [mv 4 cF],.reg [mv 5 (ci 4)],.sub 0,.reg [mv 11 0,mv 12 5,ca 13 55 [11,12],mv 10 13,o 14 (.ext 0 10),o 15 (.ext 1 10),o 6 (.alloc false zRd1),st 3 6 14,mv 7 15],sq [.sub 1,.reg [mv 23 7],.cond 23 (.reg [mv 24 0,nk 25 24,fa 26 1 25,l1 27 26,o 28 (.bin .add 27 (ci 1)),nk 29 24,fa 30 1 29,st 1 30 28]) .skip],.reg [mv 31 7,mv 4 31],.ret]) [Sa,Ss] _ Go.Proofs.Tryd.func41 (by kernel_rfl) (by kernel_rfl) (by kernel_rfl) (fun _ _ _ => by kernel_rfl)
def A44 := mkA [(Si,[1,25,26,32,33]),(Ss,[4,24,37]),(Sb,[5,7,12,13,14,19,20,21,22,27,28]),(zRd2,[8,10,15,17]),(.agg [Si,Ss,Si],[11,18])]
noncomputable def x44 (lf:Nat):Cx Go.Proofs.Tryd.prog := .c (.c .o (W22_ok lf)) (W55_ok lf)
noncomputable def S44_0 (lf:Nat) (of:Int) (w:V) (ok:Bool) (h:List Ob):SubR :=
cB (!ok) (
some (.ret,[(.str ([]:List UInt8)),(.bool false)],h)) (
bind1 (er (.faddr 1 (.c w)) h) fun x23 =>
bind1 (er (.load1 (.c x23)) h) fun v =>
castStr v fun x24 =>
bind2 (F22 lf x24 h) fun v1 h_ =>
castInt .i64 v1 fun x25 =>
cB (x25 != of) (
some (.ret,[(.str ([]:List UInt8)),(.bool false)],h_)) (
some (.normal,[],h_)))
noncomputable def p44_0 (lf:Nat):Pt Go.Proofs.Tryd.prog := .of A44 (x44 lf) [] (sq [.reg [mv 20 7,o 21 (.un .not 20),mv 22 21,oF 23 22 (.faddr 1 6),oF 24 22 (.load1 23),caF 25 22 22 [24],oF 26 22 (.mv 1),oF 27 22 (.bin .neq 25 26),o 28 (.pick 22 cT 27)],.cond 28 (sq [.reg [mv 4 (.c (.str [])),mv 5 cF],.ret]) .skip]) [Si,Sa,Sb] [1,6,7] [(.ret,[4,5],[Ss,Sb]),(.normal,[],[])] (S44_0 lf) (fun _ _ _ _ => by kernel_rfl)
noncomputable def S44_1 (lf:Nat) (r:V) (w:V) (ok:Bool) (h:List Ob):SubR :=
cB (!ok) (
bind2 (F55 lf r (1) h) fun v h_ =>
castTup v fun l =>
castCons l fun c l1 =>
castAgg c fun l2 =>
castCons l2 fun c1 l3 =>
castInt .i64 c1 fun x17_0_0 =>
castCons l3 fun c2 l4 =>
castStr c2 fun x17_0_1 =>
castCons l4 fun c3 l5 =>
castInt .i64 c3 fun x17_0_2 =>
castNil l5 (
castCons l1 fun c4 l6 =>
castBool c4 fun x17_1 =>
castNil l6 (
bind2 (ev (.store 3 (.c w) (.c (.agg [(.int .i64 x17_0_0),(.str x17_0_1),(.int .i64 x17_0_2)]))) h_) fun u h_1 =>
some (.normal,[(.bool x17_1)],h_1)))) (
some (.normal,[(.bool ok)],h))
noncomputable def p44_1 (lf:Nat):Pt Go.Proofs.Tryd.prog := .of A44 (x44 lf) [] (sq [.reg [mv 13 7,o 14 (.un .not 13)],.cond 14 (.reg [mv 16 0,ca 17 55 [16,(ci 1)],mv 15 17,o 18 (.ext 0 15),o 19 (.ext 1 15),st 3 6 18,mv 7 19]) .skip]) [Sa,Sa,Sb] [0,6,7] [(.normal,[7],[Sb])] (S44_1 lf) (fun _ _ _ _ => by kernel_rfl)
noncomputable def F44 (lf:Nat) (r:V) (of:Int) (h:List Ob):Option (V × List Ob) :=
bind2 (F55 lf r (4) h) fun v h_ =>
castTup v fun l =>
castCons l fun c l1 =>
castAgg c fun l2 =>
castCons l2 fun c1 l3 =>
castInt .i64 c1 fun x10_0_0 =>
castCons l3 fun c2 l4 =>
castStr c2 fun x10_0_1 =>
castCons l4 fun c3 l5 =>
castInt .i64 c3 fun x10_0_2 =>
castNil l5 (
castCons l1 fun c4 l6 =>
castBool c4 fun x10_1 =>
castNil l6 (
bind2 (ev (.alloc false (.agg [(.int .i64 0),(.str []),(.int .i64 0)])) h_) fun w h_1 =>
bind2 (ev (.store 3 (.c w) (.c (.agg [(.int .i64 x10_0_0),(.str x10_0_1),(.int .i64 x10_0_2)]))) h_1) fun u h_2 =>
bind3 (S44_1 lf r w x10_1 h_2) fun ex vs h_3 =>
cB (decide (ex = .normal)) (
castCons vs fun c5 l7 =>
castBool c5 fun ok =>
castNil l7 (
bind3 (S44_0 lf of w ok h_3) fun ex1 vs1 h_4 =>
cB (decide (ex1 = .ret)) (
castCons vs1 fun c6 l8 =>
castStr c6 fun x4 =>
castCons l8 fun c7 l9 =>
castBool c7 fun x5 =>
castNil l9 (
some ((.tup [(.str x4),(.bool x5)]),h_4))) (
cB (decide (ex1 = .normal)) (
castNil vs1 (
bind1 (er (.nilck (.c r)) h_4) fun x30 =>
bind1 (er (.faddr 1 (.c x30)) h_4) fun x31 =>
bind1 (er (.load1 (.c x31)) h_4) fun v1 =>
castInt .i64 v1 fun x32 =>
bind1 (er (.nilck (.c r)) h_4) fun x34 =>
bind1 (er (.faddr 1 (.c x34)) h_4) fun x35 =>
bind2 (ev (.store 1 (.c x35) (.c (.int .i64 (IntKind.i64.wrap (x32 + (1)))))) h_4) fun u1 h_5 =>
bind1 (er (.faddr 1 (.c w)) h_5) fun x36 =>
bind1 (er (.load1 (.c x36)) h_5) fun v2 =>
castStr v2 fun x37 =>
some ((.tup [(.str x37),(.bool true)]),h_5))) (
none)))) (
none)))
noncomputable def W44 (lf:Nat):List V → List Ob → Option (V × List Ob) := wG [Sa,Si] (F44 lf)
theorem W44_ok (lf:Nat):WOk Go.Proofs.Tryd.prog 44 (W44 lf) := FOk 38 [(.t 4),(.t 5)] A44 (x44 lf) [p44_1 lf,p44_0 lf] (sq [.reg [mv 4 (.c (.str [])),mv 5 cF],.reg [mv 9 0,ca 10 55 [9,(ci 4)],mv 8 10,o 11 (.ext 0 8),o 12 (.ext 1 8),o 6 (.alloc false zRd1),st 3 6 11,mv 7 12],.sub 0,.sub 1,.reg [mv 29 0,nk 30 29,fa 31 1 30,l1 32 31,o 33 (.bin .add 32 (ci 1)),nk 34 29,fa 35 1 34,st 1 35 33],.reg [fa 36 1 6,l1 37 36,mv 4 37,mv 5 cT],.ret]) [Sa,Si] _ Go.Proofs.Tryd.func44 (by kernel_rfl) (by kernel_rfl) (by kernel_rfl) (fun _ _ _ => by kernel_rfl)
def A17 := mkA [(Si,[5]),(Sb,[6])]
noncomputable def x17 (lf:Nat):Cx Go.Proofs.Tryd.prog := .o
noncomputable def F17 (lf:Nat) (r:V) (h:List Ob):Option (V × List Ob) :=
bind1 (er (.nilck (.c r)) h) fun x3 =>
bind1 (er (.faddr 2 (.c x3)) h) fun x4 =>
bind1 (er (.load1 (.c x4)) h) fun v =>
castInt .i64 v fun x5 =>
cB (x5 == (0)) (
bind1 (er (.nilck (.c r)) h) fun x8 =>
bind1 (er (.faddr 2 (.c x8)) h) fun x9 =>
bind2 (ev (.store 1 (.c x9) (.c (.int .i64 (3)))) h) fun u h_ =>
some ((.tup []),h_)) (
some ((.tup []),h))
noncomputable def W17 (lf:Nat):List V → List Ob → Option (V × List Ob) := wG [Sa] (F17 lf)
theorem W17_ok (lf:Nat):WOk Go.Proofs.Tryd.prog 17 (W17 lf) := FOk 10 [] A17 (x17 lf) [] (sq [.reg [mv 2 0,nk 3 2,fa 4 2 3,l1 5 4,o 6 (.bin .eql 5 (ci 0))],.cond 6 (.reg [mv 7 0,nk 8 7,fa 9 2 8,st 1 9 (ci 3)]) .skip]) [Sa] _ Go.Proofs.Tryd.func17 (by kernel_rfl) (by kernel_rfl) (by kernel_rfl) (fun _ _ => by kernel_rfl)
def A56 := mkA [(Ss,[5,11,13]),(Si,[7,8,18]),(Sb,[9,14,15])]
noncomputable def x56 (lf:Nat):Cx Go.Proofs.Tryd.prog := .c (.c .o (W17_ok lf)) (W41_ok lf)
noncomputable def B56_0 (lf:Nat) (self:V → V → Int → Int → List Ob → SubR) (r:V) (x6:V) (x7:Int) (x8:Int) (h:List Ob):SubR :=
cB (decide (x8 < x7)) (
bind1 (er (.iaddrL 1 (.c x6) (.c (.int .i64 x8))) h) fun x10 =>
bind1 (er (.load1 (.c x10)) h) fun v =>
castStr v fun x11 =>
bind2 (F41 lf r x11 h) fun v1 h_ =>
castBool v1 fun x14 =>
cB (!x14) (
bind2 (F17 lf r h_) fun x17 h_1 =>
self r x6 x7 (IntKind.i64.wrap (x8 + (1))) h_1) (
self r x6 x7 (IntKind.i64.wrap (x8 + (1))) h_)) (
some ((.exit 0),[],h))
noncomputable def L56_0 (lf:Nat):Nat → V → V → Int → Int → List Ob → SubR
  | 0 => fun _ _ _ _ _ => none
  | n + 1 => B56_0 lf (L56_0 lf n)
noncomputable def p56_0 (lf:Nat):Pt Go.Proofs.Tryd.prog := .loop A56 (x56 lf) [] (sq [.reg [o 9 (.bin .lss 8 7)],.cond 9 .skip (.exit 0),.block 1 (sq [.reg [o 10 (.iaddrL 1 6 8),l1 11 10,mv 5 11],.reg [mv 12 0,mv 13 5,ca 14 41 [12,13],o 15 (.un .not 14)],.cond 15 (.reg [mv 16 0,ca 17 17 [16]]) .skip]),.reg [o 18 (.bin .add 8 (ci 1)),mv 8 18]]) [Sa,Sa,Si,Si] [0,6,7,8] [((.exit 0),[],[])] (B56_0 lf) (L56_0 lf) (fun _ _ _ _ _ => rfl) (fun _ => rfl) (fun _ _ _ _ _ _ => by kernel_rfl) lf
noncomputable def F56 (lf:Nat) (r:V) (list:V) (h:List Ob):Option (V × List Ob) :=
bind1 (er (.lenL (.c list)) h) fun v =>
castInt .i64 v fun x7 =>
bind3 (L56_0 lf lf r list x7 (0) h) fun ex vs h_ =>
cB (decide (ex = (.exit 0))) (
castNil vs (
some ((.tup []),h_))) (
none)
noncomputable def W56 (lf:Nat):List V → List Ob → Option (V × List Ob) := wG [Sa,Sa] (F56 lf)
theorem W56_ok (lf:Nat):WOk Go.Proofs.Tryd.prog 56 (W56 lf) := FOk 19 [] A56 (x56 lf) [p56_0 lf] (sq [.reg [mv 6 1,o 7 (.lenL 6),mv 8 (ci 0)],.block 0 (.sub 0)]) [Sa,Sa] _ Go.Proofs.Tryd.func56 (by kernel_rfl) (by kernel_rfl) (by kernel_rfl) (fun _ _ _ => by kernel_rfl)
def A42 := mkA [(Ss,[4,6,12,15,30]),(Sb,[5,13,14,22,23,26]),(zRd3,[8,16,18,20,24,31,33]),(.tup [Ss,Sb],[9,11])]
noncomputable def x42 (lf:Nat) (rc:CallS) (hrc:CallOk Go.Proofs.Tryd.prog rc):Cx Go.Proofs.Tryd.prog := .c (.c (.c (.r .o hrc) (W41_ok lf)) (W44_ok lf)) (W56_ok lf)
noncomputable def S42_0 (lf:Nat) (rc:CallS) (r:V) (op:List UInt8) (h:List Ob):SubR :=
bind2 (F41 lf r [78,79,84] h) fun v h_ =>
castBool v fun x26 =>
cB x26 (
some (.normal,[(.str [73,83,32,78,79,84,32,78,85,76,76])],h_)) (
some (.normal,[(.str op)],h_))
noncomputable def p42_0 (lf:Nat) (rc:CallS) (hrc:CallOk Go.Proofs.Tryd.prog rc):Pt Go.Proofs.Tryd.prog := .of A42 (x42 lf rc hrc) [] (sq [.reg [mv 25 0,ca 26 41 [25,(.c (.str [78,79,84]))]],.cond 26 (.reg [mv 6 (.c (.str [73,83,32,78,79,84,32,78,85,76,76]))]) .skip]) [Sa,Ss] [0,6] [(.normal,[6],[Ss])] (S42_0 lf rc) (fun _ _ _ => by kernel_rfl)
noncomputable def F42 (lf:Nat) (rc:CallS) (r:V) (h:List Ob):Option (V × List Ob) :=
bind2 (ev (.alloc false (.agg [(.int .i64 0),(.str []),(.int .i64 0),(.int .i64 0),(.str []),(.str []),(.str []),.nils])) h) fun x2 h_ =>
bind2 (rc 25 [r,(.int .i64 (4))] h_) fun v h_1 =>
castAgg v fun l =>
castCons l fun c l1 =>
castInt .i64 c fun x8_0 =>
castCons l1 fun c1 l2 =>
castStr c1 fun x8_1 =>
castCons l2 fun c2 l3 =>
castInt .i64 c2 fun x8_2 =>
castCons l3 fun c3 l4 =>
castInt .i64 c3 fun x8_3 =>
castCons l4 fun c4 l5 =>
castStr c4 fun x8_4 =>
castCons l5 fun c5 l6 =>
castStr c5 fun x8_5 =>
castCons l6 fun c6 l7 =>
castStr c6 fun x8_6 =>
castCons l7 fun x8_7 l8 =>
castNil l8 (
bind2 (ev (.alloc false (.agg [(.int .i64 0),(.str []),(.int .i64 0),(.int .i64 0),(.str []),(.str []),(.str []),.nils])) h_1) fun e h_2 =>
bind2 (ev (.store 8 (.c e) (.c (.agg [(.int .i64 x8_0),(.str x8_1),(.int .i64 x8_2),(.int .i64 x8_3),(.str x8_4),(.str x8_5),(.str x8_6),x8_7]))) h_2) fun u h_3 =>
bind2 (F44 lf r (3) h_3) fun v1 h_4 =>
castTup v1 fun l9 =>
castCons l9 fun c7 l10 =>
castStr c7 fun x11_0 =>
castCons l10 fun c8 l11 =>
castBool c8 fun x11_1 =>
castNil l11 (
cB x11_1 (
bind1 (er (.loadN 8 (.c e)) h_4) fun v2 =>
castAgg v2 fun l12 =>
castCons l12 fun c9 l13 =>
castInt .i64 c9 fun x16_0 =>
castCons l13 fun c10 l14 =>
castStr c10 fun x16_1 =>
castCons l14 fun c11 l15 =>
castInt .i64 c11 fun x16_2 =>
castCons l15 fun c12 l16 =>
castInt .i64 c12 fun x16_3 =>
castCons l16 fun c13 l17 =>
castStr c13 fun x16_4 =>
castCons l17 fun c14 l18 =>
castStr c14 fun x16_5 =>
castCons l18 fun c15 l19 =>
castStr c15 fun x16_6 =>
castCons l19 fun x16_7 l20 =>
castNil l20 (
bind2 (rc 25 [r,(.int .i64 (4))] h_4) fun v3 h_5 =>
castAgg v3 fun l21 =>
castCons l21 fun c16 l22 =>
castInt .i64 c16 fun x18_0 =>
castCons l22 fun c17 l23 =>
castStr c17 fun x18_1 =>
castCons l23 fun c18 l24 =>
castInt .i64 c18 fun x18_2 =>
castCons l24 fun c19 l25 =>
castInt .i64 c19 fun x18_3 =>
castCons l25 fun c20 l26 =>
castStr c20 fun x18_4 =>
castCons l26 fun c21 l27 =>
castStr c21 fun x18_5 =>
castCons l27 fun c22 l28 =>
castStr c22 fun x18_6 =>
castCons l28 fun x18_7 l29 =>
castNil l29 (
reP (er (.loadN 8 (.c e)) h_5 = some (.agg [(.int .i64 x16_0),(.str x16_1),(.int .i64 x16_2),(.int .i64 x16_3),(.str x16_4),(.str x16_5),(.str x16_6),x16_7])) (
bind2 (ev (.bslice 8 (.agg [(.int .i64 0),(.str []),(.int .i64 0),(.int .i64 0),(.str []),(.str []),(.str []),.nils]) 2 [(0,(.c (.agg [(.int .i64 x16_0),(.str x16_1),(.int .i64 x16_2),(.int .i64 x16_3),(.str x16_4),(.str x16_5),(.str x16_6),x16_7]))),(1,(.c (.agg [(.int .i64 x18_0),(.str x18_1),(.int .i64 x18_2),(.int .i64 x18_3),(.str x18_4),(.str x18_5),(.str x18_6),x18_7])))]) h_5) fun x19 h_6 =>
bind1 (er (.build [(.int .i64 0),(.str []),(.int .i64 0),(.int .i64 0),(.str []),(.str []),(.str []),.nils] [(0,(1,(.c (.int .i64 (4))))),(1,(1,(.c (.str x11_0)))),(7,(1,(.c x19)))]) h_6) fun v4 =>
castAgg v4 fun l30 =>
castCons l30 fun c23 l31 =>
castInt .i64 c23 fun x20_0 =>
castCons l31 fun c24 l32 =>
castStr c24 fun x20_1 =>
castCons l32 fun c25 l33 =>
castInt .i64 c25 fun x20_2 =>
castCons l33 fun c26 l34 =>
castInt .i64 c26 fun x20_3 =>
castCons l34 fun c27 l35 =>
castStr c27 fun x20_4 =>
castCons l35 fun c28 l36 =>
castStr c28 fun x20_5 =>
castCons l36 fun c29 l37 =>
castStr c29 fun x20_6 =>
castCons l37 fun x20_7 l38 =>
castNil l38 (
bind2 (ev (.store 8 (.c x2) (.c (.agg [(.int .i64 x20_0),(.str x20_1),(.int .i64 x20_2),(.int .i64 x20_3),(.str x20_4),(.str x20_5),(.str x20_6),x20_7]))) h_6) fun u1 h_7 =>
bind1 (evLoadN h_7 8 x2) fun r1 =>
some (r1,h_7)))))) (
bind2 (F41 lf r [73,83] h_4) fun v2 h_5 =>
castBool v2 fun x22 =>
cB (!x22) (
bind1 (er (.loadN 8 (.c e)) h_5) fun v3 =>
castAgg v3 fun l12 =>
castCons l12 fun c9 l13 =>
castInt .i64 c9 fun x24_0 =>
castCons l13 fun c10 l14 =>
castStr c10 fun x24_1 =>
castCons l14 fun c11 l15 =>
castInt .i64 c11 fun x24_2 =>
castCons l15 fun c12 l16 =>
castInt .i64 c12 fun x24_3 =>
castCons l16 fun c13 l17 =>
castStr c13 fun x24_4 =>
castCons l17 fun c14 l18 =>
castStr c14 fun x24_5 =>
castCons l18 fun c15 l19 =>
castStr c15 fun x24_6 =>
castCons l19 fun x24_7 l20 =>
castNil l20 (
bind2 (ev (.store 8 (.c x2) (.c (.agg [(.int .i64 x24_0),(.str x24_1),(.int .i64 x24_2),(.int .i64 x24_3),(.str x24_4),(.str x24_5),(.str x24_6),x24_7]))) h_5) fun u1 h_6 =>
bind1 (evLoadN h_6 8 x2) fun r1 =>
some (r1,h_6))) (
bind3 (S42_0 lf rc r [73,83,32,78,85,76,76] h_5) fun ex vs h_6 =>
cB (decide (ex = .normal)) (
castCons vs fun c9 l12 =>
castStr c9 fun op =>
castNil l12 (
bind2 (ev (.bslice 1 (.str []) 1 [(0,(.c (.str [78,85,76,76])))]) h_6) fun x28 h_7 =>
bind2 (F56 lf r x28 h_7) fun x29 h_8 =>
bind1 (er (.loadN 8 (.c e)) h_8) fun v3 =>
castAgg v3 fun l13 =>
castCons l13 fun c10 l14 =>
castInt .i64 c10 fun x31_0 =>
castCons l14 fun c11 l15 =>
castStr c11 fun x31_1 =>
castCons l15 fun c12 l16 =>
castInt .i64 c12 fun x31_2 =>
castCons l16 fun c13 l17 =>
castInt .i64 c13 fun x31_3 =>
castCons l17 fun c14 l18 =>
castStr c14 fun x31_4 =>
castCons l18 fun c15 l19 =>
castStr c15 fun x31_5 =>
castCons l19 fun c16 l20 =>
castStr c16 fun x31_6 =>
castCons l20 fun x31_7 l21 =>
castNil l21 (
bind2 (ev (.bslice 8 (.agg [(.int .i64 0),(.str []),(.int .i64 0),(.int .i64 0),(.str []),(.str []),(.str []),.nils]) 1 [(0,(.c (.agg [(.int .i64 x31_0),(.str x31_1),(.int .i64 x31_2),(.int .i64 x31_3),(.str x31_4),(.str x31_5),(.str x31_6),x31_7])))]) h_8) fun x32 h_9 =>
bind1 (er (.build [(.int .i64 0),(.str []),(.int .i64 0),(.int .i64 0),(.str []),(.str []),(.str []),.nils] [(0,(1,(.c (.int .i64 (5))))),(1,(1,(.c (.str op)))),(7,(1,(.c x32)))]) h_9) fun v4 =>
castAgg v4 fun l22 =>
castCons l22 fun c17 l23 =>
castInt .i64 c17 fun x33_0 =>
castCons l23 fun c18 l24 =>
castStr c18 fun x33_1 =>
castCons l24 fun c19 l25 =>
castInt .i64 c19 fun x33_2 =>
castCons l25 fun c20 l26 =>
castInt .i64 c20 fun x33_3 =>
castCons l26 fun c21 l27 =>
castStr c21 fun x33_4 =>
castCons l27 fun c22 l28 =>
castStr c22 fun x33_5 =>
castCons l28 fun c23 l29 =>
castStr c23 fun x33_6 =>
castCons l29 fun x33_7 l30 =>
castNil l30 (
bind2 (ev (.store 8 (.c x2) (.c (.agg [(.int .i64 x33_0),(.str x33_1),(.int .i64 x33_2),(.int .i64 x33_3),(.str x33_4),(.str x33_5),(.str x33_6),x33_7]))) h_9) fun u1 h_10 =>
bind1 (evLoadN h_10 8 x2) fun r1 =>
some (r1,h_10))))) (
none)))))
noncomputable def W42 (lf:Nat) (rc:CallS):List V → List Ob → Option (V × List Ob) := wG [Sa] (F42 lf rc)
theorem W42_ok (lf:Nat) (rc:CallS) (hrc:CallOk Go.Proofs.Tryd.prog rc):WOk Go.Proofs.Tryd.prog 42 (W42 lf rc) := FOk 34 [(.ln 8 2)] A42 (x42 lf rc hrc) [p42_0 lf rc hrc] (sq [.reg [o 2 (.alloc false zRd4)],.reg [mv 7 0,ca 8 25 [7,(ci 4)],o 3 (.alloc false zRd4),st 8 3 8],sq [.reg [mv 10 0,ca 11 44 [10,(ci 3)],mv 9 11,o 12 (.ext 0 9),o 13 (.ext 1 9),mv 4 12,mv 5 13],.reg [mv 14 5],.cond 14 (sq [.reg [mv 15 4,ln 16 8 3,mv 17 0,⟨(some 18),none,(.call 25 [(.t 17),(.c (.int .i64 4))]),[⟨(some 16),none,(.op (.loadN 8 (.t 3)))⟩]⟩,o 19 (.bslice 8 zRd4 2 [(0,16),(1,18)]),o 20 (.build [(.int .i64 0),(.str []),(.int .i64 0),(.int .i64 0),(.str []),(.str []),(.str []),.nils] [(0,(1,(ci 4))),(1,(1,15)),(7,(1,19))]),st 8 2 20],.ret]) .skip],sq [.reg [mv 21 0,ca 22 41 [21,(.c (.str [73,83]))],o 23 (.un .not 22)],.cond 23 (sq [.reg [ln 24 8 3,st 8 2 24],.ret]) .skip],.reg [mv 6 (.c (.str [73,83,32,78,85,76,76]))],.sub 0,.reg [mv 27 0,o 28 (.bslice 1 (.str []) 1 [(0,(.c (.str [78,85,76,76])))]),ca 29 56 [27,28]],.reg [mv 30 6,ln 31 8 3,o 32 (.bslice 8 zRd4 1 [(0,31)]),o 33 (.build [(.int .i64 0),(.str []),(.int .i64 0),(.int .i64 0),(.str []),(.str []),(.str []),.nils] [(0,(1,(ci 5))),(1,(1,30)),(7,(1,32))]),st 8 2 33],.ret]) [Sa] _ Go.Proofs.Tryd.func42 (by kernel_rfl) (by kernel_rfl) (by kernel_rfl) (fun _ _ => by kernel_rfl)
def A65 := mkA [(Si,[11,19,20]),(Ss,[14,27]),(zRd3,[15,35,41]),(Sb,[28,29,31,32,33])]
noncomputable def x65 (lf:Nat) (rc:CallS) (hrc:CallOk Go.Proofs.Tryd.prog rc):Cx Go.Proofs.Tryd.prog := .c (.c (.r .o hrc) (W41_ok lf)) (W56_ok lf)
noncomputable def S65_0 (lf:Nat) (rc:CallS) (r:V) (e:V) (h:List Ob):SubR :=
bind1 (er (.faddr 1 (.c e)) h) fun x26 =>
bind1 (er (.load1 (.c x26)) h) fun v =>
castStr v fun x27 =>
cB (!(x27 == [67,79,85,78,84])) (
some (.normal,[(.bool true)],h)) (
bind2 (F41 lf r [42] h) fun v1 h_ =>
castBool v1 fun x31 =>
some (.normal,[(.bool (!x31))],h_))
noncomputable def p65_0 (lf:Nat) (rc:CallS) (hrc:CallOk Go.Proofs.Tryd.prog rc):Pt Go.Proofs.Tryd.prog := .of A65 (x65 lf rc hrc) [] (.reg [fa 26 1 3,l1 27 26,o 28 (.bin .neq 27 (.c (.str [67,79,85,78,84]))),mv 29 28,oF 30 29 (.mv 0),caF 31 29 41 [30,(.c (.str [42]))],oF 32 29 (.un .not 31),o 33 (.pick 29 cT 32)]) [Sa,Sa] [0,3] [(.normal,[33],[Sb])] (S65_0 lf rc) (fun _ _ _ => by kernel_rfl)
noncomputable def S65_1 (lf:Nat) (rc:CallS) (r:V) (e:V) (h:List Ob):SubR :=
bind3 (S65_0 lf rc r e h) fun ex vs h_ =>
cB (decide (ex = .normal)) (
castCons vs fun c l =>
castBool c fun x33 =>
castNil l (
cB x33 (
bind2 (rc 25 [r,(.int .i64 (0))] h_) fun v h_1 =>
castAgg v fun l1 =>
castCons l1 fun c1 l2 =>
castInt .i64 c1 fun x35_0 =>
castCons l2 fun c2 l3 =>
castStr c2 fun x35_1 =>
castCons l3 fun c3 l4 =>
castInt .i64 c3 fun x35_2 =>
castCons l4 fun c4 l5 =>
castInt .i64 c4 fun x35_3 =>
castCons l5 fun c5 l6 =>
castStr c5 fun x35_4 =>
castCons l6 fun c6 l7 =>
castStr c6 fun x35_5 =>
castCons l7 fun c7 l8 =>
castStr c7 fun x35_6 =>
castCons l8 fun x35_7 l9 =>
castNil l9 (
bind2 (ev (.bslice 8 (.agg [(.int .i64 0),(.str []),(.int .i64 0),(.int .i64 0),(.str []),(.str []),(.str []),.nils]) 1 [(0,(.c (.agg [(.int .i64 x35_0),(.str x35_1),(.int .i64 x35_2),(.int .i64 x35_3),(.str x35_4),(.str x35_5),(.str x35_6),x35_7])))]) h_1) fun x36 h_2 =>
bind1 (er (.faddr 7 (.c e)) h_2) fun x37 =>
bind2 (ev (.store 1 (.c x37) (.c x36)) h_2) fun u h_3 =>
some (.normal,[],h_3))) (
some (.normal,[],h_)))) (
none)
noncomputable def p65_1 (lf:Nat) (rc:CallS) (hrc:CallOk Go.Proofs.Tryd.prog rc):Pt Go.Proofs.Tryd.prog := .of A65 (x65 lf rc hrc) [p65_0 lf rc hrc] (sq [.sub 0,.cond 33 (.reg [mv 34 0,ca 35 25 [34,(ci 0)],o 36 (.bslice 8 zRd4 1 [(0,35)]),fa 37 7 3,st 1 37 36]) .skip]) [Sa,Sa] [0,3] [(.normal,[],[])] (S65_1 lf rc) (fun _ _ _ => by kernel_rfl)
noncomputable def F65 (lf:Nat) (rc:CallS) (r:V) (h:List Ob):Option (V × List Ob) :=
bind2 (ev (.alloc false (.agg [(.int .i64 0),(.str []),(.int .i64 0),(.int .i64 0),(.str []),(.str []),(.str []),.nils])) h) fun x2 h_ =>
bind1 (er (.nilck (.c r)) h_) fun x5 =>
bind1 (er (.faddr 0 (.c x5)) h_) fun x6 =>
bind1 (er (.load1 (.c x6)) h_) fun x7 =>
bind1 (er (.nilck (.c r)) h_) fun x9 =>
bind1 (er (.faddr 1 (.c x9)) h_) fun x10 =>
bind1 (er (.load1 (.c x10)) h_) fun v =>
castInt .i64 v fun x11 =>
bind1 (er (.iaddrL 3 (.c x7) (.c (.int .i64 x11))) h_) fun x12 =>
bind1 (er (.faddr 1 (.c x12)) h_) fun x13 =>
bind1 (er (.load1 (.c x13)) h_) fun v1 =>
castStr v1 fun x14 =>
bind1 (er (.build [(.int .i64 0),(.str []),(.int .i64 0),(.int .i64 0),(.str []),(.str []),(.str []),.nils] [(0,(1,(.c (.int .i64 (6))))),(1,(1,(.c (.str x14))))]) h_) fun v2 =>
castAgg v2 fun l =>
castCons l fun c l1 =>
castInt .i64 c fun x15_0 =>
castCons l1 fun c1 l2 =>
castStr c1 fun x15_1 =>
castCons l2 fun c2 l3 =>
castInt .i64 c2 fun x15_2 =>
castCons l3 fun c3 l4 =>
castInt .i64 c3 fun x15_3 =>
castCons l4 fun c4 l5 =>
castStr c4 fun x15_4 =>
castCons l5 fun c5 l6 =>
castStr c5 fun x15_5 =>
castCons l6 fun c6 l7 =>
castStr c6 fun x15_6 =>
castCons l7 fun x15_7 l8 =>
castNil l8 (
bind2 (ev (.alloc false (.agg [(.int .i64 0),(.str []),(.int .i64 0),(.int .i64 0),(.str []),(.str []),(.str []),.nils])) h_) fun e h_1 =>
reP (er (.load1 (.c x13)) h_1 = some (.str x14)) (
reP (er (.faddr 1 (.c x12)) h_1 = some x13) (
reP (er (.iaddrL 3 (.c x7) (.c (.int .i64 x11))) h_1 = some x12) (
reP (er (.load1 (.c x10)) h_1 = some (.int .i64 x11)) (
reP (er (.faddr 1 (.c x9)) h_1 = some x10) (
reP (er (.nilck (.c r)) h_1 = some x9) (
reP (er (.load1 (.c x6)) h_1 = some x7) (
reP (er (.faddr 0 (.c x5)) h_1 = some x6) (
reP (er (.nilck (.c r)) h_1 = some x5) (
bind2 (ev (.store 8 (.c e) (.c (.agg [(.int .i64 x15_0),(.str x15_1),(.int .i64 x15_2),(.int .i64 x15_3),(.str x15_4),(.str x15_5),(.str x15_6),x15_7]))) h_1) fun u h_2 =>
bind1 (er (.nilck (.c r)) h_2) fun x17 =>
bind1 (er (.faddr 1 (.c x17)) h_2) fun x18 =>
bind1 (er (.load1 (.c x18)) h_2) fun v3 =>
castInt .i64 v3 fun x19 =>
bind1 (er (.nilck (.c r)) h_2) fun x21 =>
bind1 (er (.faddr 1 (.c x21)) h_2) fun x22 =>
bind2 (ev (.store 1 (.c x22) (.c (.int .i64 (IntKind.i64.wrap (x19 + (1)))))) h_2) fun u1 h_3 =>
bind2 (ev (.bslice 1 (.str []) 1 [(0,(.c (.str [40])))]) h_3) fun x24 h_4 =>
bind2 (F56 lf r x24 h_4) fun x25 h_5 =>
bind3 (S65_1 lf rc r e h_5) fun ex vs h_6 =>
cB (decide (ex = .normal)) (
castNil vs (
bind2 (ev (.bslice 1 (.str []) 1 [(0,(.c (.str [41])))]) h_6) fun x39 h_7 =>
bind2 (F56 lf r x39 h_7) fun x40 h_8 =>
bind1 (er (.loadN 8 (.c e)) h_8) fun v4 =>
castAgg v4 fun l9 =>
castCons l9 fun c7 l10 =>
castInt .i64 c7 fun x41_0 =>
castCons l10 fun c8 l11 =>
castStr c8 fun x41_1 =>
castCons l11 fun c9 l12 =>
castInt .i64 c9 fun x41_2 =>
castCons l12 fun c10 l13 =>
castInt .i64 c10 fun x41_3 =>
castCons l13 fun c11 l14 =>
castStr c11 fun x41_4 =>
castCons l14 fun c12 l15 =>
castStr c12 fun x41_5 =>
castCons l15 fun c13 l16 =>
castStr c13 fun x41_6 =>
castCons l16 fun x41_7 l17 =>
castNil l17 (
bind2 (ev (.store 8 (.c x2) (.c (.agg [(.int .i64 x41_0),(.str x41_1),(.int .i64 x41_2),(.int .i64 x41_3),(.str x41_4),(.str x41_5),(.str x41_6),x41_7]))) h_8) fun u2 h_9 =>
bind1 (evLoadN h_9 8 x2) fun r1 =>
some (r1,h_9)))) (
none)))))))))))
noncomputable def W65 (lf:Nat) (rc:CallS):List V → List Ob → Option (V × List Ob) := wG [Sa] (F65 lf rc)
theorem W65_ok (lf:Nat) (rc:CallS) (hrc:CallOk Go.Proofs.Tryd.prog rc):WOk Go.Proofs.Tryd.prog 65 (W65 lf rc) := FOk 42 [(.ln 8 2)] A65 (x65 lf rc hrc) [p65_1 lf rc hrc] (sq [.reg [o 2 (.alloc false zRd4)],.reg [mv 4 0,nk 5 4,fa 6 0 5,l1 7 6,mv 8 0,nk 9 8,fa 10 1 9,l1 11 10,o 12 (.iaddrL 3 7 11),fa 13 1 12,l1 14 13,o 15 (.build [(.int .i64 0),(.str []),(.int .i64 0),(.int .i64 0),(.str []),(.str []),(.str []),.nils] [(0,(1,(ci 6))),(1,(1,14))]),⟨(some 3),none,(.op (.alloc false (.agg [(.int .i64 0),(.str []),(.int .i64 0),(.int .i64 0),(.str []),(.str []),(.str []),.nils]))),[⟨(some 14),none,(.op (.load1 (.t 13)))⟩,⟨(some 13),none,(.op (.faddr 1 (.t 12)))⟩,⟨(some 12),none,(.op (.iaddrL 3 (.t 7) (.t 11)))⟩,⟨(some 11),none,(.op (.load1 (.t 10)))⟩,⟨(some 10),none,(.op (.faddr 1 (.t 9)))⟩,⟨(some 9),none,(.op (.nilck (.t 8)))⟩,⟨(some 7),none,(.op (.load1 (.t 6)))⟩,⟨(some 6),none,(.op (.faddr 0 (.t 5)))⟩,⟨(some 5),none,(.op (.nilck (.t 4)))⟩]⟩,st 8 3 15],.reg [mv 16 0,nk 17 16,fa 18 1 17,l1 19 18,o 20 (.bin .add 19 (ci 1)),nk 21 16,fa 22 1 21,st 1 22 20],.reg [mv 23 0,o 24 (.bslice 1 (.str []) 1 [(0,(.c (.str [40])))]),ca 25 56 [23,24]],.sub 0,.reg [mv 38 0,o 39 (.bslice 1 (.str []) 1 [(0,(.c (.str [41])))]),ca 40 56 [38,39]],.reg [ln 41 8 3,st 8 2 41],.ret]) [Sa] _ Go.Proofs.Tryd.func65 (by kernel_rfl) (by kernel_rfl) (by kernel_rfl) (fun _ _ => by kernel_rfl)
def A66 := mkA [(Ss,[2,14,27]),(Sb,[4,9,10,11,12,15,16]),(zRd2,[5,7]),(.agg [Si,Ss,Si],[8]),(Si,[22,23])]
noncomputable def x66 (lf:Nat):Cx Go.Proofs.Tryd.prog := .c (.c (.c .o (W17_ok lf)) (W54_ok lf)) (W55_ok lf)
noncomputable def S66_0 (lf:Nat) (r:V) (w:V) (ok:Bool) (h:List Ob):SubR :=
cB (!ok) (
bind2 (F17 lf r h) fun x18 h_ =>
some (.ret,[(.str ([]:List UInt8))],h_)) (
bind1 (er (.faddr 1 (.c w)) h) fun x13 =>
bind1 (er (.load1 (.c x13)) h) fun v =>
castStr v fun x14 =>
bind2 (F54 lf x14 h) fun v1 h_ =>
castBool v1 fun x15 =>
cB x15 (
bind2 (F17 lf r h_) fun x18 h_1 =>
some (.ret,[(.str ([]:List UInt8))],h_1)) (
some (.normal,[],h_)))
noncomputable def p66_0 (lf:Nat):Pt Go.Proofs.Tryd.prog := .of A66 (x66 lf) [] (sq [.reg [mv 10 4,o 11 (.un .not 10),mv 12 11,oF 13 12 (.faddr 1 3),oF 14 12 (.load1 13),caF 15 12 54 [14],o 16 (.pick 12 cT 15)],.cond 16 (sq [.reg [mv 17 0,ca 18 17 [17]],.reg [mv 2 (.c (.str []))],.ret]) .skip]) [Sa,Sa,Sb] [0,3,4] [(.ret,[2],[Ss]),(.normal,[],[])] (S66_0 lf) (fun _ _ _ _ => by kernel_rfl)
noncomputable def F66 (lf:Nat) (r:V) (h:List Ob):Option (V × List Ob) :=
bind2 (F55 lf r (1) h) fun v h_ =>
castTup v fun l =>
castCons l fun c l1 =>
castAgg c fun l2 =>
castCons l2 fun c1 l3 =>
castInt .i64 c1 fun x7_0_0 =>
castCons l3 fun c2 l4 =>
castStr c2 fun x7_0_1 =>
castCons l4 fun c3 l5 =>
castInt .i64 c3 fun x7_0_2 =>
castNil l5 (
castCons l1 fun c4 l6 =>
castBool c4 fun x7_1 =>
castNil l6 (
bind2 (ev (.alloc false (.agg [(.int .i64 0),(.str []),(.int .i64 0)])) h_) fun w h_1 =>
bind2 (ev (.store 3 (.c w) (.c (.agg [(.int .i64 x7_0_0),(.str x7_0_1),(.int .i64 x7_0_2)]))) h_1) fun u h_2 =>
bind3 (S66_0 lf r w x7_1 h_2) fun ex vs h_3 =>
cB (decide (ex = .ret)) (
castCons vs fun c5 l7 =>
castStr c5 fun x2 =>
castNil l7 (
some ((.str x2),h_3))) (
cB (decide (ex = .normal)) (
castNil vs (
bind1 (er (.nilck (.c r)) h_3) fun x20 =>
bind1 (er (.faddr 1 (.c x20)) h_3) fun x21 =>
bind1 (er (.load1 (.c x21)) h_3) fun v1 =>
castInt .i64 v1 fun x22 =>
bind1 (er (.nilck (.c r)) h_3) fun x24 =>
bind1 (er (.faddr 1 (.c x24)) h_3) fun x25 =>
bind2 (ev (.store 1 (.c x25) (.c (.int .i64 (IntKind.i64.wrap (x22 + (1)))))) h_3) fun u1 h_4 =>
bind1 (er (.faddr 1 (.c w)) h_4) fun x26 =>
bind1 (er (.load1 (.c x26)) h_4) fun v2 =>
castStr v2 fun x27 =>
some ((.str x27),h_4))) (
none))))
noncomputable def W66 (lf:Nat):List V → List Ob → Option (V × List Ob) := wG [Sa] (F66 lf)
theorem W66_ok (lf:Nat):WOk Go.Proofs.Tryd.prog 66 (W66 lf) := FOk 28 [(.t 2)] A66 (x66 lf) [p66_0 lf] (sq [.reg [mv 2 (.c (.str []))],.reg [mv 6 0,ca 7 55 [6,(ci 1)],mv 5 7,o 8 (.ext 0 5),o 9 (.ext 1 5),o 3 (.alloc false zRd1),st 3 3 8,mv 4 9],.sub 0,.reg [mv 19 0,nk 20 19,fa 21 1 20,l1 22 21,o 23 (.bin .add 22 (ci 1)),nk 24 19,fa 25 1 24,st 1 25 23],.reg [fa 26 1 3,l1 27 26,mv 2 27],.ret]) [Sa] _ Go.Proofs.Tryd.func66 (by kernel_rfl) (by kernel_rfl) (by kernel_rfl) (fun _ _ => by kernel_rfl)
def A57 := mkA [(Sb,[5,7,9,12,23,24,40,41,54,60,61,62,65,66,73]),(zRd3,[14,18,35,52,55,68,71,80]),(zRd2,[19,21,36,38,56,58]),(.agg [Si,Ss,Si],[22,39,59]),(Si,[28,29,33,45,46]),(.agg [Si,Si,Ss],[34,51]),(Ss,[50,64,70,75,77])]
noncomputable def x57 (lf:Nat) (rc:CallS) (hrc:CallOk Go.Proofs.Tryd.prog rc):Cx Go.Proofs.Tryd.prog := .c (.c (.c (.c (.c (.r .o hrc) (W41_ok lf)) (W47_ok lf)) (W55_ok lf)) (W56_ok lf)) (W66_ok lf)
noncomputable def S57_0 (lf:Nat) (rc:CallS) (r:V) (x2:V) (h:List Ob):SubR :=
bind2 (F55 lf r (1) h) fun v h_ =>
castTup v fun l =>
castCons l fun c l1 =>
castAgg c fun l2 =>
castCons l2 fun c1 l3 =>
castInt .i64 c1 fun x58_0_0 =>
castCons l3 fun c2 l4 =>
castStr c2 fun x58_0_1 =>
castCons l4 fun c3 l5 =>
castInt .i64 c3 fun x58_0_2 =>
castNil l5 (
castCons l1 fun c4 l6 =>
castBool c4 fun x58_1 =>
castNil l6 (
bind2 (ev (.alloc false (.agg [(.int .i64 0),(.str []),(.int .i64 0)])) h_) fun w h_1 =>
bind2 (ev (.store 3 (.c w) (.c (.agg [(.int .i64 x58_0_0),(.str x58_0_1),(.int .i64 x58_0_2)]))) h_1) fun u h_2 =>
cB x58_1 (
bind1 (er (.faddr 1 (.c w)) h_2) fun x63 =>
bind1 (er (.load1 (.c x63)) h_2) fun v1 =>
castStr v1 fun x64 =>
bind2 (F47 lf x64 h_2) fun v2 h_3 =>
castBool v2 fun x65 =>
cB x65 (
bind2 (rc 65 [r] h_3) fun v3 h_4 =>
castAgg v3 fun l7 =>
castCons l7 fun c5 l8 =>
castInt .i64 c5 fun x68_0 =>
castCons l8 fun c6 l9 =>
castStr c6 fun x68_1 =>
castCons l9 fun c7 l10 =>
castInt .i64 c7 fun x68_2 =>
castCons l10 fun c8 l11 =>
castInt .i64 c8 fun x68_3 =>
castCons l11 fun c9 l12 =>
castStr c9 fun x68_4 =>
castCons l12 fun c10 l13 =>
castStr c10 fun x68_5 =>
castCons l13 fun c11 l14 =>
castStr c11 fun x68_6 =>
castCons l14 fun x68_7 l15 =>
castNil l15 (
bind2 (ev (.store 8 (.c x2) (.c (.agg [(.int .i64 x68_0),(.str x68_1),(.int .i64 x68_2),(.int .i64 x68_3),(.str x68_4),(.str x68_5),(.str x68_6),x68_7]))) h_4) fun u1 h_5 =>
some (.ret,[],h_5))) (
some (.normal,[],h_3))) (
some (.normal,[],h_2))))
noncomputable def p57_0 (lf:Nat) (rc:CallS) (hrc:CallOk Go.Proofs.Tryd.prog rc):Pt Go.Proofs.Tryd.prog := .of A57 (x57 lf rc hrc) [] (sq [.reg [mv 57 0,ca 58 55 [57,(ci 1)],mv 56 58,o 59 (.ext 0 56),o 60 (.ext 1 56),o 8 (.alloc false zRd1),st 3 8 59,mv 9 60],.reg [mv 61 9,mv 62 61,oT 63 62 (.faddr 1 8),oT 64 62 (.load1 63),caT 65 62 47 [64],o 66 (.pick 62 65 cF)],.cond 66 (sq [.reg [mv 67 0,ca 68 65 [67],st 8 2 68],.ret]) .skip]) [Sa,Sa] [0,2] [(.ret,[],[]),(.normal,[],[])] (S57_0 lf rc) (fun _ _ _ => by kernel_rfl)
noncomputable def F57 (lf:Nat) (rc:CallS) (r:V) (h:List Ob):Option (V × List Ob) :=
bind2 (ev (.alloc false (.agg [(.int .i64 0),(.str []),(.int .i64 0),(.int .i64 0),(.str []),(.str []),(.str []),.nils])) h) fun x2 h_ =>
bind2 (F41 lf r [40] h_) fun v h_1 =>
castBool v fun x12 =>
cB x12 (
bind2 (rc 25 [r,(.int .i64 (0))] h_1) fun v1 h_2 =>
castAgg v1 fun l =>
castCons l fun c l1 =>
castInt .i64 c fun x14_0 =>
castCons l1 fun c1 l2 =>
castStr c1 fun x14_1 =>
castCons l2 fun c2 l3 =>
castInt .i64 c2 fun x14_2 =>
castCons l3 fun c3 l4 =>
castInt .i64 c3 fun x14_3 =>
castCons l4 fun c4 l5 =>
castStr c4 fun x14_4 =>
castCons l5 fun c5 l6 =>
castStr c5 fun x14_5 =>
castCons l6 fun c6 l7 =>
castStr c6 fun x14_6 =>
castCons l7 fun x14_7 l8 =>
castNil l8 (
bind2 (ev (.alloc false (.agg [(.int .i64 0),(.str []),(.int .i64 0),(.int .i64 0),(.str []),(.str []),(.str []),.nils])) h_2) fun e h_3 =>
bind2 (ev (.store 8 (.c e) (.c (.agg [(.int .i64 x14_0),(.str x14_1),(.int .i64 x14_2),(.int .i64 x14_3),(.str x14_4),(.str x14_5),(.str x14_6),x14_7]))) h_3) fun u h_4 =>
bind2 (ev (.bslice 1 (.str []) 1 [(0,(.c (.str [41])))]) h_4) fun x16 h_5 =>
bind2 (F56 lf r x16 h_5) fun x17 h_6 =>
bind1 (er (.loadN 8 (.c e)) h_6) fun v2 =>
castAgg v2 fun l9 =>
castCons l9 fun c7 l10 =>
castInt .i64 c7 fun x18_0 =>
castCons l10 fun c8 l11 =>
castStr c8 fun x18_1 =>
castCons l11 fun c9 l12 =>
castInt .i64 c9 fun x18_2 =>
castCons l12 fun c10 l13 =>
castInt .i64 c10 fun x18_3 =>
castCons l13 fun c11 l14 =>
castStr c11 fun x18_4 =>
castCons l14 fun c12 l15 =>
castStr c12 fun x18_5 =>
castCons l15 fun c13 l16 =>
castStr c13 fun x18_6 =>
castCons l16 fun x18_7 l17 =>
castNil l17 (
bind2 (ev (.store 8 (.c x2) (.c (.agg [(.int .i64 x18_0),(.str x18_1),(.int .i64 x18_2),(.int .i64 x18_3),(.str x18_4),(.str x18_5),(.str x18_6),x18_7]))) h_6) fun u1 h_7 =>
bind1 (evLoadN h_7 8 x2) fun r1 =>
some (r1,h_7)))) (
bind2 (F55 lf r (2) h_1) fun v1 h_2 =>
castTup v1 fun l =>
castCons l fun c l1 =>
castAgg c fun l2 =>
castCons l2 fun c1 l3 =>
castInt .i64 c1 fun x21_0_0 =>
castCons l3 fun c2 l4 =>
castStr c2 fun x21_0_1 =>
castCons l4 fun c3 l5 =>
castInt .i64 c3 fun x21_0_2 =>
castNil l5 (
castCons l1 fun c4 l6 =>
castBool c4 fun x21_1 =>
castNil l6 (
bind2 (ev (.alloc false (.agg [(.int .i64 0),(.str []),(.int .i64 0)])) h_2) fun w h_3 =>
bind2 (ev (.store 3 (.c w) (.c (.agg [(.int .i64 x21_0_0),(.str x21_0_1),(.int .i64 x21_0_2)]))) h_3) fun u h_4 =>
cB x21_1 (
bind1 (er (.nilck (.c r)) h_4) fun x26 =>
bind1 (er (.faddr 1 (.c x26)) h_4) fun x27 =>
bind1 (er (.load1 (.c x27)) h_4) fun v2 =>
castInt .i64 v2 fun x28 =>
bind1 (er (.nilck (.c r)) h_4) fun x30 =>
bind1 (er (.faddr 1 (.c x30)) h_4) fun x31 =>
bind2 (ev (.store 1 (.c x31) (.c (.int .i64 (IntKind.i64.wrap (x28 + (1)))))) h_4) fun u1 h_5 =>
bind1 (er (.faddr 2 (.c w)) h_5) fun x32 =>
bind1 (er (.load1 (.c x32)) h_5) fun v3 =>
castInt .i64 v3 fun x33 =>
bind1 (er (.build [(.int .i64 0),(.int .i64 0),(.str [])] [(0,(1,(.c (.int .i64 (1))))),(1,(1,(.c (.int .i64 x33))))]) h_5) fun v4 =>
castAgg v4 fun l7 =>
castCons l7 fun c5 l8 =>
castInt .i64 c5 fun x34_0 =>
castCons l8 fun c6 l9 =>
castInt .i64 c6 fun x34_1 =>
castCons l9 fun c7 l10 =>
castStr c7 fun x34_2 =>
castNil l10 (
bind1 (er (.build [(.int .i64 0),(.str []),(.int .i64 0),(.int .i64 0),(.str []),(.str []),(.str []),.nils] [(0,(1,(.c (.int .i64 (1))))),(2,(3,(.c (.agg [(.int .i64 x34_0),(.int .i64 x34_1),(.str x34_2)]))))]) h_5) fun v5 =>
castAgg v5 fun l11 =>
castCons l11 fun c8 l12 =>
castInt .i64 c8 fun x35_0 =>
castCons l12 fun c9 l13 =>
castStr c9 fun x35_1 =>
castCons l13 fun c10 l14 =>
castInt .i64 c10 fun x35_2 =>
castCons l14 fun c11 l15 =>
castInt .i64 c11 fun x35_3 =>
castCons l15 fun c12 l16 =>
castStr c12 fun x35_4 =>
castCons l16 fun c13 l17 =>
castStr c13 fun x35_5 =>
castCons l17 fun c14 l18 =>
castStr c14 fun x35_6 =>
castCons l18 fun x35_7 l19 =>
castNil l19 (
bind2 (ev (.store 8 (.c x2) (.c (.agg [(.int .i64 x35_0),(.str x35_1),(.int .i64 x35_2),(.int .i64 x35_3),(.str x35_4),(.str x35_5),(.str x35_6),x35_7]))) h_5) fun u2 h_6 =>
bind1 (evLoadN h_6 8 x2) fun r1 =>
some (r1,h_6)))) (
bind2 (F55 lf r (3) h_4) fun v2 h_5 =>
castTup v2 fun l7 =>
castCons l7 fun c5 l8 =>
castAgg c5 fun l9 =>
castCons l9 fun c6 l10 =>
castInt .i64 c6 fun x38_0_0 =>
castCons l10 fun c7 l11 =>
castStr c7 fun x38_0_1 =>
castCons l11 fun c8 l12 =>
castInt .i64 c8 fun x38_0_2 =>
castNil l12 (
castCons l8 fun c9 l13 =>
castBool c9 fun x38_1 =>
castNil l13 (
bind2 (ev (.alloc false (.agg [(.int .i64 0),(.str []),(.int .i64 0)])) h_5) fun w1 h_6 =>
bind2 (ev (.store 3 (.c w1) (.c (.agg [(.int .i64 x38_0_0),(.str x38_0_1),(.int .i64 x38_0_2)]))) h_6) fun u1 h_7 =>
cB x38_1 (
bind1 (er (.nilck (.c r)) h_7) fun x43 =>
bind1 (er (.faddr 1 (.c x43)) h_7) fun x44 =>
bind1 (er (.load1 (.c x44)) h_7) fun v3 =>
castInt .i64 v3 fun x45 =>
bind1 (er (.nilck (.c r)) h_7) fun x47 =>
bind1 (er (.faddr 1 (.c x47)) h_7) fun x48 =>
bind2 (ev (.store 1 (.c x48) (.c (.int .i64 (IntKind.i64.wrap (x45 + (1)))))) h_7) fun u2 h_8 =>
bind1 (er (.faddr 1 (.c w1)) h_8) fun x49 =>
bind1 (er (.load1 (.c x49)) h_8) fun v4 =>
castStr v4 fun x50 =>
bind1 (er (.build [(.int .i64 0),(.int .i64 0),(.str [])] [(0,(1,(.c (.int .i64 (2))))),(2,(1,(.c (.str x50))))]) h_8) fun v5 =>
castAgg v5 fun l14 =>
castCons l14 fun c10 l15 =>
castInt .i64 c10 fun x51_0 =>
castCons l15 fun c11 l16 =>
castInt .i64 c11 fun x51_1 =>
castCons l16 fun c12 l17 =>
castStr c12 fun x51_2 =>
castNil l17 (
bind1 (er (.build [(.int .i64 0),(.str []),(.int .i64 0),(.int .i64 0),(.str []),(.str []),(.str []),.nils] [(0,(1,(.c (.int .i64 (1))))),(2,(3,(.c (.agg [(.int .i64 x51_0),(.int .i64 x51_1),(.str x51_2)]))))]) h_8) fun v6 =>
castAgg v6 fun l18 =>
castCons l18 fun c13 l19 =>
castInt .i64 c13 fun x52_0 =>
castCons l19 fun c14 l20 =>
castStr c14 fun x52_1 =>
castCons l20 fun c15 l21 =>
castInt .i64 c15 fun x52_2 =>
castCons l21 fun c16 l22 =>
castInt .i64 c16 fun x52_3 =>
castCons l22 fun c17 l23 =>
castStr c17 fun x52_4 =>
castCons l23 fun c18 l24 =>
castStr c18 fun x52_5 =>
castCons l24 fun c19 l25 =>
castStr c19 fun x52_6 =>
castCons l25 fun x52_7 l26 =>
castNil l26 (
bind2 (ev (.store 8 (.c x2) (.c (.agg [(.int .i64 x52_0),(.str x52_1),(.int .i64 x52_2),(.int .i64 x52_3),(.str x52_4),(.str x52_5),(.str x52_6),x52_7]))) h_8) fun u3 h_9 =>
bind1 (evLoadN h_9 8 x2) fun r1 =>
some (r1,h_9)))) (
bind2 (F41 lf r [78,85,76,76] h_7) fun v3 h_8 =>
castBool v3 fun x54 =>
cB x54 (
bind1 (er (.build [(.int .i64 0),(.str []),(.int .i64 0),(.int .i64 0),(.str []),(.str []),(.str []),.nils] [(0,(1,(.c (.int .i64 (1)))))]) h_8) fun v4 =>
castAgg v4 fun l14 =>
castCons l14 fun c10 l15 =>
castInt .i64 c10 fun x55_0 =>
castCons l15 fun c11 l16 =>
castStr c11 fun x55_1 =>
castCons l16 fun c12 l17 =>
castInt .i64 c12 fun x55_2 =>
castCons l17 fun c13 l18 =>
castInt .i64 c13 fun x55_3 =>
castCons l18 fun c14 l19 =>
castStr c14 fun x55_4 =>
castCons l19 fun c15 l20 =>
castStr c15 fun x55_5 =>
castCons l20 fun c16 l21 =>
castStr c16 fun x55_6 =>
castCons l21 fun x55_7 l22 =>
castNil l22 (
bind2 (ev (.store 8 (.c x2) (.c (.agg [(.int .i64 x55_0),(.str x55_1),(.int .i64 x55_2),(.int .i64 x55_3),(.str x55_4),(.str x55_5),(.str x55_6),x55_7]))) h_8) fun u2 h_9 =>
bind1 (evLoadN h_9 8 x2) fun r1 =>
some (r1,h_9))) (
bind3 (S57_0 lf rc r x2 h_8) fun ex vs h_9 =>
cB (decide (ex = .ret)) (
castNil vs (
bind1 (evLoadN h_9 8 x2) fun r1 =>
some (r1,h_9))) (
cB (decide (ex = .normal)) (
castNil vs (
bind2 (F66 lf r h_9) fun v4 h_10 =>
castStr v4 fun x70 =>
bind1 (er (.build [(.int .i64 0),(.str []),(.int .i64 0),(.int .i64 0),(.str []),(.str []),(.str []),.nils] [(0,(1,(.c (.int .i64 (2))))),(6,(1,(.c (.str x70))))]) h_10) fun v5 =>
castAgg v5 fun l14 =>
castCons l14 fun c10 l15 =>
castInt .i64 c10 fun x71_0 =>
castCons l15 fun c11 l16 =>
castStr c11 fun x71_1 =>
castCons l16 fun c12 l17 =>
castInt .i64 c12 fun x71_2 =>
castCons l17 fun c13 l18 =>
castInt .i64 c13 fun x71_3 =>
castCons l18 fun c14 l19 =>
castStr c14 fun x71_4 =>
castCons l19 fun c15 l20 =>
castStr c15 fun x71_5 =>
castCons l20 fun c16 l21 =>
castStr c16 fun x71_6 =>
castCons l21 fun x71_7 l22 =>
castNil l22 (
bind2 (ev (.alloc false (.agg [(.int .i64 0),(.str []),(.int .i64 0),(.int .i64 0),(.str []),(.str []),(.str []),.nils])) h_10) fun e h_11 =>
bind2 (ev (.store 8 (.c e) (.c (.agg [(.int .i64 x71_0),(.str x71_1),(.int .i64 x71_2),(.int .i64 x71_3),(.str x71_4),(.str x71_5),(.str x71_6),x71_7]))) h_11) fun u2 h_12 =>
bind2 (F41 lf r [46] h_12) fun v6 h_13 =>
castBool v6 fun x73 =>
cB x73 (
bind1 (er (.faddr 6 (.c e)) h_13) fun x74 =>
bind1 (er (.load1 (.c x74)) h_13) fun v7 =>
castStr v7 fun x75 =>
bind1 (er (.faddr 5 (.c e)) h_13) fun x78 =>
bind2 (F66 lf r h_13) fun v8 h_14 =>
castStr v8 fun x77 =>
reP (er (.faddr 5 (.c e)) h_14 = some x78) (
reP (er (.load1 (.c x74)) h_14 = some (.str x75)) (
reP (er (.faddr 6 (.c e)) h_14 = some x74) (
bind2 (ev (.store 1 (.c x78) (.c (.str x75))) h_14) fun u3 h_15 =>
bind1 (er (.faddr 6 (.c e)) h_15) fun x79 =>
bind2 (ev (.store 1 (.c x79) (.c (.str x77))) h_15) fun u4 h_16 =>
bind1 (er (.loadN 8 (.c e)) h_16) fun v9 =>
castAgg v9 fun l23 =>
castCons l23 fun c17 l24 =>
castInt .i64 c17 fun x80_0 =>
castCons l24 fun c18 l25 =>
castStr c18 fun x80_1 =>
castCons l25 fun c19 l26 =>
castInt .i64 c19 fun x80_2 =>
castCons l26 fun c20 l27 =>
castInt .i64 c20 fun x80_3 =>
castCons l27 fun c21 l28 =>
castStr c21 fun x80_4 =>
castCons l28 fun c22 l29 =>
castStr c22 fun x80_5 =>
castCons l29 fun c23 l30 =>
castStr c23 fun x80_6 =>
castCons l30 fun x80_7 l31 =>
castNil l31 (
bind2 (ev (.store 8 (.c x2) (.c (.agg [(.int .i64 x80_0),(.str x80_1),(.int .i64 x80_2),(.int .i64 x80_3),(.str x80_4),(.str x80_5),(.str x80_6),x80_7]))) h_16) fun u5 h_17 =>
bind1 (evLoadN h_17 8 x2) fun r1 =>
some (r1,h_17)))))) (
bind1 (er (.loadN 8 (.c e)) h_13) fun v7 =>
castAgg v7 fun l23 =>
castCons l23 fun c17 l24 =>
castInt .i64 c17 fun x80_0 =>
castCons l24 fun c18 l25 =>
castStr c18 fun x80_1 =>
castCons l25 fun c19 l26 =>
castInt .i64 c19 fun x80_2 =>
castCons l26 fun c20 l27 =>
castInt .i64 c20 fun x80_3 =>
castCons l27 fun c21 l28 =>
castStr c21 fun x80_4 =>
castCons l28 fun c22 l29 =>
castStr c22 fun x80_5 =>
castCons l29 fun c23 l30 =>
castStr c23 fun x80_6 =>
castCons l30 fun x80_7 l31 =>
castNil l31 (
bind2 (ev (.store 8 (.c x2) (.c (.agg [(.int .i64 x80_0),(.str x80_1),(.int .i64 x80_2),(.int .i64 x80_3),(.str x80_4),(.str x80_5),(.str x80_6),x80_7]))) h_13) fun u3 h_14 =>
bind1 (evLoadN h_14 8 x2) fun r1 =>
some (r1,h_14)))))) (
none))))))))))
noncomputable def W57 (lf:Nat) (rc:CallS):List V → List Ob → Option (V × List Ob) := wG [Sa] (F57 lf rc)
theorem W57_ok (lf:Nat) (rc:CallS) (hrc:CallOk Go.Proofs.Tryd.prog rc):WOk Go.Proofs.Tryd.prog 57 (W57 lf rc) := FOk 81 [(.ln 8 2)] A57 (x57 lf rc hrc) [p57_0 lf rc hrc] (sq [.reg [o 2 (.alloc false zRd4)],sq [.reg [mv 11 0,ca 12 41 [11,(.c (.str [40]))]],.cond 12 (sq [.reg [mv 13 0,ca 14 25 [13,(ci 0)],o 3 (.alloc false zRd4),st 8 3 14],.reg [mv 15 0,o 16 (.bslice 1 (.str []) 1 [(0,(.c (.str [41])))]),ca 17 56 [15,16]],.reg [ln 18 8 3,st 8 2 18],.ret]) .skip],sq [.reg [mv 20 0,ca 21 55 [20,(ci 2)],mv 19 21,o 22 (.ext 0 19),o 23 (.ext 1 19),o 4 (.alloc false zRd1),st 3 4 22,mv 5 23],.reg [mv 24 5],.cond 24 (sq [.reg [mv 25 0,nk 26 25,fa 27 1 26,l1 28 27,o 29 (.bin .add 28 (ci 1)),nk 30 25,fa 31 1 30,st 1 31 29],.reg [fa 32 2 4,l1 33 32,o 34 (.build [(.int .i64 0),(.int .i64 0),(.str [])] [(0,(1,(ci 1))),(1,(1,33))]),o 35 (.build [(.int .i64 0),(.str []),(.int .i64 0),(.int .i64 0),(.str []),(.str []),(.str []),.nils] [(0,(1,(ci 1))),(2,(3,34))]),st 8 2 35],.ret]) .skip],sq [.reg [mv 37 0,ca 38 55 [37,(ci 3)],mv 36 38,o 39 (.ext 0 36),o 40 (.ext 1 36),o 6 (.alloc false zRd1),st 3 6 39,mv 7 40],.reg [mv 41 7],.cond 41 (sq [.reg [mv 42 0,nk 43 42,fa 44 1 43,l1 45 44,o 46 (.bin .add 45 (ci 1)),nk 47 42,fa 48 1 47,st 1 48 46],.reg [fa 49 1 6,l1 50 49,o 51 (.build [(.int .i64 0),(.int .i64 0),(.str [])] [(0,(1,(ci 2))),(2,(1,50))]),o 52 (.build [(.int .i64 0),(.str []),(.int .i64 0),(.int .i64 0),(.str []),(.str []),(.str []),.nils] [(0,(1,(ci 1))),(2,(3,51))]),st 8 2 52],.ret]) .skip],sq [.reg [mv 53 0,ca 54 41 [53,(.c (.str [78,85,76,76]))]],.cond 54 (sq [.reg [o 55 (.build [(.int .i64 0),(.str []),(.int .i64 0),(.int .i64 0),(.str []),(.str []),(.str []),.nils] [(0,(1,(ci 1)))]),st 8 2 55],.ret]) .skip],.sub 0,.reg [mv 69 0,ca 70 66 [69],o 71 (.build [(.int .i64 0),(.str []),(.int .i64 0),(.int .i64 0),(.str []),(.str []),(.str []),.nils] [(0,(1,(ci 2))),(6,(1,70))]),o 10 (.alloc false zRd4),st 8 10 71],sq [.reg [mv 72 0,ca 73 41 [72,(.c (.str [46]))]],.cond 73 (.reg [fa 74 6 10,l1 75 74,mv 76 0,fa 78 5 10,⟨(some 77),none,(.call 66 [(.t 76)]),[⟨(some 78),none,(.op (.faddr 5 (.t 10)))⟩,⟨(some 75),none,(.op (.load1 (.t 74)))⟩,⟨(some 74),none,(.op (.faddr 6 (.t 10)))⟩]⟩,st 1 78 75,fa 79 6 10,st 1 79 77]) .skip],.reg [ln 80 8 10,st 8 2 80],.ret]) [Sa] _ Go.Proofs.Tryd.func57 (by kernel_rfl) (by kernel_rfl) (by kernel_rfl) (fun _ _ => by kernel_rfl)
def A43 := mkA [(Sb,[4]),(zRd3,[6,8,10])]
noncomputable def x43 (lf:Nat) (rc:CallS) (hrc:CallOk Go.Proofs.Tryd.prog rc):Cx Go.Proofs.Tryd.prog := .c (.r .o hrc) (W41_ok lf)
noncomputable def F43 (lf:Nat) (rc:CallS) (r:V) (h:List Ob):Option (V × List Ob) :=
bind2 (ev (.alloc false (.agg [(.int .i64 0),(.str []),(.int .i64 0),(.int .i64 0),(.str []),(.str []),(.str []),.nils])) h) fun x2 h_ =>
bind2 (F41 lf r [45] h_) fun v h_1 =>
castBool v fun x4 =>
cB x4 (
bind2 (rc 43 [r] h_1) fun v1 h_2 =>
castAgg v1 fun l =>
castCons l fun c l1 =>
castInt .i64 c fun x6_0 =>
castCons l1 fun c1 l2 =>
castStr c1 fun x6_1 =>
castCons l2 fun c2 l3 =>
castInt .i64 c2 fun x6_2 =>
castCons l3 fun c3 l4 =>
castInt .i64 c3 fun x6_3 =>
castCons l4 fun c4 l5 =>
castStr c4 fun x6_4 =>
castCons l5 fun c5 l6 =>
castStr c5 fun x6_5 =>
castCons l6 fun c6 l7 =>
castStr c6 fun x6_6 =>
castCons l7 fun x6_7 l8 =>
castNil l8 (
bind2 (ev (.bslice 8 (.agg [(.int .i64 0),(.str []),(.int .i64 0),(.int .i64 0),(.str []),(.str []),(.str []),.nils]) 1 [(0,(.c (.agg [(.int .i64 x6_0),(.str x6_1),(.int .i64 x6_2),(.int .i64 x6_3),(.str x6_4),(.str x6_5),(.str x6_6),x6_7])))]) h_2) fun x7 h_3 =>
bind1 (er (.build [(.int .i64 0),(.str []),(.int .i64 0),(.int .i64 0),(.str []),(.str []),(.str []),.nils] [(0,(1,(.c (.int .i64 (3))))),(1,(1,(.c (.str [45])))),(7,(1,(.c x7)))]) h_3) fun v2 =>
castAgg v2 fun l9 =>
castCons l9 fun c7 l10 =>
castInt .i64 c7 fun x8_0 =>
castCons l10 fun c8 l11 =>
castStr c8 fun x8_1 =>
castCons l11 fun c9 l12 =>
castInt .i64 c9 fun x8_2 =>
castCons l12 fun c10 l13 =>
castInt .i64 c10 fun x8_3 =>
castCons l13 fun c11 l14 =>
castStr c11 fun x8_4 =>
castCons l14 fun c12 l15 =>
castStr c12 fun x8_5 =>
castCons l15 fun c13 l16 =>
castStr c13 fun x8_6 =>
castCons l16 fun x8_7 l17 =>
castNil l17 (
bind2 (ev (.store 8 (.c x2) (.c (.agg [(.int .i64 x8_0),(.str x8_1),(.int .i64 x8_2),(.int .i64 x8_3),(.str x8_4),(.str x8_5),(.str x8_6),x8_7]))) h_3) fun u h_4 =>
bind1 (evLoadN h_4 8 x2) fun r1 =>
some (r1,h_4)))) (
bind2 (rc 57 [r] h_1) fun v1 h_2 =>
castAgg v1 fun l =>
castCons l fun c l1 =>
castInt .i64 c fun x10_0 =>
castCons l1 fun c1 l2 =>
castStr c1 fun x10_1 =>
castCons l2 fun c2 l3 =>
castInt .i64 c2 fun x10_2 =>
castCons l3 fun c3 l4 =>
castInt .i64 c3 fun x10_3 =>
castCons l4 fun c4 l5 =>
castStr c4 fun x10_4 =>
castCons l5 fun c5 l6 =>
castStr c5 fun x10_5 =>
castCons l6 fun c6 l7 =>
castStr c6 fun x10_6 =>
castCons l7 fun x10_7 l8 =>
castNil l8 (
bind2 (ev (.store 8 (.c x2) (.c (.agg [(.int .i64 x10_0),(.str x10_1),(.int .i64 x10_2),(.int .i64 x10_3),(.str x10_4),(.str x10_5),(.str x10_6),x10_7]))) h_2) fun u h_3 =>
bind1 (evLoadN h_3 8 x2) fun r1 =>
some (r1,h_3)))
noncomputable def W43 (lf:Nat) (rc:CallS):List V → List Ob → Option (V × List Ob) := wG [Sa] (F43 lf rc)
theorem W43_ok (lf:Nat) (rc:CallS) (hrc:CallOk Go.Proofs.Tryd.prog rc):WOk Go.Proofs.Tryd.prog 43 (W43 lf rc) := FOk 11 [(.ln 8 2)] A43 (x43 lf rc hrc) [] (sq [.reg [o 2 (.alloc false zRd4)],sq [.reg [mv 3 0,ca 4 41 [3,(.c (.str [45]))]],.cond 4 (sq [.reg [mv 5 0,ca 6 43 [5],o 7 (.bslice 8 zRd4 1 [(0,6)]),o 8 (.build [(.int .i64 0),(.str []),(.int .i64 0),(.int .i64 0),(.str []),(.str []),(.str []),.nils] [(0,(1,(ci 3))),(1,(1,(.c (.str [45])))),(7,(1,7))]),st 8 2 8],.ret]) .skip],.reg [mv 9 0,ca 10 57 [9],st 8 2 10],.ret]) [Sa] _ Go.Proofs.Tryd.func43 (by kernel_rfl) (by kernel_rfl) (by kernel_rfl) (fun _ _ => by kernel_rfl)
def A25 := mkA [(Si,[1,9,20,25,30,31,35,45,46]),(Ss,[6,37,42]),(Sb,[7,8,10,11,13,14,19,21,24,26,38,39,40]),(zRd3,[16,18,23,28,32,41,43,47,49]),(.tup [Ss,Sb],[33,36])]
noncomputable def x25 (lf:Nat) (rc:CallS) (hrc:CallOk Go.Proofs.Tryd.prog rc):Cx Go.Proofs.Tryd.prog := .c (.c (.r .o hrc) (W41_ok lf)) (W44_ok lf)
noncomputable def S25_0 (lf:Nat) (rc:CallS) (r:V) (of:Int) (h:List Ob):SubR :=
cB (of == (2)) (
bind2 (F41 lf r [78,79,84] h) fun v h_ =>
castBool v fun x13 =>
some (.normal,[(.bool x13)],h_)) (
some (.normal,[(.bool false)],h))
noncomputable def p25_0 (lf:Nat) (rc:CallS) (hrc:CallOk Go.Proofs.Tryd.prog rc):Pt Go.Proofs.Tryd.prog := .of A25 (x25 lf rc hrc) [] (.reg [mv 9 1,o 10 (.bin .eql 9 (ci 2)),mv 11 10,oT 12 11 (.mv 0),caT 13 11 41 [12,(.c (.str [78,79,84]))],o 14 (.pick 11 13 cF),mv 8 14]) [Sa,Si] [0,1] [(.normal,[8],[Sb])] (S25_0 lf rc) (fun _ _ _ => by kernel_rfl)
noncomputable def B25_1 (lf:Nat) (rc:CallS) (self:V → Int → V → V → List Ob → SubR) (r:V) (of:Int) (x4:V) (e:V) (h:List Ob):SubR :=
bind2 (F44 lf r of h) fun v h_ =>
castTup v fun l =>
castCons l fun c l1 =>
castStr c fun x36_0 =>
castCons l1 fun c1 l2 =>
castBool c1 fun x36_1 =>
castNil l2 (
cB (!x36_1) (
bind1 (er (.loadN 8 (.c e)) h_) fun v1 =>
castAgg v1 fun l3 =>
castCons l3 fun c2 l4 =>
castInt .i64 c2 fun x41_0 =>
castCons l4 fun c3 l5 =>
castStr c3 fun x41_1 =>
castCons l5 fun c4 l6 =>
castInt .i64 c4 fun x41_2 =>
castCons l6 fun c5 l7 =>
castInt .i64 c5 fun x41_3 =>
castCons l7 fun c6 l8 =>
castStr c6 fun x41_4 =>
castCons l8 fun c7 l9 =>
castStr c7 fun x41_5 =>
castCons l9 fun c8 l10 =>
castStr c8 fun x41_6 =>
castCons l10 fun x41_7 l11 =>
castNil l11 (
bind2 (ev (.store 8 (.c x4) (.c (.agg [(.int .i64 x41_0),(.str x41_1),(.int .i64 x41_2),(.int .i64 x41_3),(.str x41_4),(.str x41_5),(.str x41_6),x41_7]))) h_) fun u h_1 =>
some (.ret,[],h_1))) (
bind1 (er (.loadN 8 (.c e)) h_) fun v1 =>
castAgg v1 fun l3 =>
castCons l3 fun c2 l4 =>
castInt .i64 c2 fun x43_0 =>
castCons l4 fun c3 l5 =>
castStr c3 fun x43_1 =>
castCons l5 fun c4 l6 =>
castInt .i64 c4 fun x43_2 =>
castCons l6 fun c5 l7 =>
castInt .i64 c5 fun x43_3 =>
castCons l7 fun c6 l8 =>
castStr c6 fun x43_4 =>
castCons l8 fun c7 l9 =>
castStr c7 fun x43_5 =>
castCons l9 fun c8 l10 =>
castStr c8 fun x43_6 =>
castCons l10 fun x43_7 l11 =>
castNil l11 (
bind2 (rc 25 [r,(.int .i64 (IntKind.i64.wrap (of + (1))))] h_) fun v2 h_1 =>
castAgg v2 fun l12 =>
castCons l12 fun c9 l13 =>
castInt .i64 c9 fun x47_0 =>
castCons l13 fun c10 l14 =>
castStr c10 fun x47_1 =>
castCons l14 fun c11 l15 =>
castInt .i64 c11 fun x47_2 =>
castCons l15 fun c12 l16 =>
castInt .i64 c12 fun x47_3 =>
castCons l16 fun c13 l17 =>
castStr c13 fun x47_4 =>
castCons l17 fun c14 l18 =>
castStr c14 fun x47_5 =>
castCons l18 fun c15 l19 =>
castStr c15 fun x47_6 =>
castCons l19 fun x47_7 l20 =>
castNil l20 (
reP (er (.loadN 8 (.c e)) h_1 = some (.agg [(.int .i64 x43_0),(.str x43_1),(.int .i64 x43_2),(.int .i64 x43_3),(.str x43_4),(.str x43_5),(.str x43_6),x43_7])) (
bind2 (ev (.bslice 8 (.agg [(.int .i64 0),(.str []),(.int .i64 0),(.int .i64 0),(.str []),(.str []),(.str []),.nils]) 2 [(0,(.c (.agg [(.int .i64 x43_0),(.str x43_1),(.int .i64 x43_2),(.int .i64 x43_3),(.str x43_4),(.str x43_5),(.str x43_6),x43_7]))),(1,(.c (.agg [(.int .i64 x47_0),(.str x47_1),(.int .i64 x47_2),(.int .i64 x47_3),(.str x47_4),(.str x47_5),(.str x47_6),x47_7])))]) h_1) fun x48 h_2 =>
bind1 (er (.build [(.int .i64 0),(.str []),(.int .i64 0),(.int .i64 0),(.str []),(.str []),(.str []),.nils] [(0,(1,(.c (.int .i64 (4))))),(1,(1,(.c (.str x36_0)))),(7,(1,(.c x48)))]) h_2) fun v3 =>
castAgg v3 fun l21 =>
castCons l21 fun c16 l22 =>
castInt .i64 c16 fun x49_0 =>
castCons l22 fun c17 l23 =>
castStr c17 fun x49_1 =>
castCons l23 fun c18 l24 =>
castInt .i64 c18 fun x49_2 =>
castCons l24 fun c19 l25 =>
castInt .i64 c19 fun x49_3 =>
castCons l25 fun c20 l26 =>
castStr c20 fun x49_4 =>
castCons l26 fun c21 l27 =>
castStr c21 fun x49_5 =>
castCons l27 fun c22 l28 =>
castStr c22 fun x49_6 =>
castCons l28 fun x49_7 l29 =>
castNil l29 (
bind2 (ev (.store 8 (.c e) (.c (.agg [(.int .i64 x49_0),(.str x49_1),(.int .i64 x49_2),(.int .i64 x49_3),(.str x49_4),(.str x49_5),(.str x49_6),x49_7]))) h_2) fun u h_3 =>
self r of x4 e h_3))))))
noncomputable def L25_1 (lf:Nat) (rc:CallS):Nat → V → Int → V → V → List Ob → SubR
  | 0 => fun _ _ _ _ _ => none
  | n + 1 => B25_1 lf rc (L25_1 lf rc n)
noncomputable def p25_1 (lf:Nat) (rc:CallS) (hrc:CallOk Go.Proofs.Tryd.prog rc):Pt Go.Proofs.Tryd.prog := .loop A25 (x25 lf rc hrc) [] (.block 2 (sq [.reg [mv 34 0,mv 35 1,ca 36 44 [34,35],mv 33 36,o 37 (.ext 0 33),o 38 (.ext 1 33),mv 6 37,mv 7 38],sq [.reg [mv 39 7,o 40 (.un .not 39)],.cond 40 (sq [.reg [ln 41 8 5,st 8 4 41],.ret]) .skip],.reg [mv 42 6,ln 43 8 5,mv 44 0,mv 45 1,o 46 (.bin .add 45 (ci 1)),⟨(some 47),none,(.call 25 [(.t 44),(.t 46)]),[⟨(some 43),none,(.op (.loadN 8 (.t 5)))⟩]⟩,o 48 (.bslice 8 zRd4 2 [(0,43),(1,47)]),o 49 (.build [(.int .i64 0),(.str []),(.int .i64 0),(.int .i64 0),(.str []),(.str []),(.str []),.nils] [(0,(1,(ci 4))),(1,(1,42)),(7,(1,48))]),st 8 5 49]])) [Sa,Si,Sa,Sa] [0,1,4,5] [(.ret,[],[])] (B25_1 lf rc) (L25_1 lf rc) (fun _ _ _ _ _ => rfl) (fun _ => rfl) (fun _ _ _ _ _ _ => by kernel_rfl) lf
noncomputable def F25 (lf:Nat) (rc:CallS) (r:V) (of:Int) (h:List Ob):Option (V × List Ob) :=
bind2 (ev (.alloc false (.agg [(.int .i64 0),(.str []),(.int .i64 0),(.int .i64 0),(.str []),(.str []),(.str []),.nils])) h) fun x4 h_ =>
bind3 (S25_0 lf rc r of h_) fun ex vs h_1 =>
cB (decide (ex = .normal)) (
castCons vs fun c l =>
castBool c fun x8 =>
castNil l (
cB x8 (
bind2 (rc 25 [r,(.int .i64 (2))] h_1) fun v h_2 =>
castAgg v fun l1 =>
castCons l1 fun c1 l2 =>
castInt .i64 c1 fun x16_0 =>
castCons l2 fun c2 l3 =>
castStr c2 fun x16_1 =>
castCons l3 fun c3 l4 =>
castInt .i64 c3 fun x16_2 =>
castCons l4 fun c4 l5 =>
castInt .i64 c4 fun x16_3 =>
castCons l5 fun c5 l6 =>
castStr c5 fun x16_4 =>
castCons l6 fun c6 l7 =>
castStr c6 fun x16_5 =>
castCons l7 fun c7 l8 =>
castStr c7 fun x16_6 =>
castCons l8 fun x16_7 l9 =>
castNil l9 (
bind2 (ev (.bslice 8 (.agg [(.int .i64 0),(.str []),(.int .i64 0),(.int .i64 0),(.str []),(.str []),(.str []),.nils]) 1 [(0,(.c (.agg [(.int .i64 x16_0),(.str x16_1),(.int .i64 x16_2),(.int .i64 x16_3),(.str x16_4),(.str x16_5),(.str x16_6),x16_7])))]) h_2) fun x17 h_3 =>
bind1 (er (.build [(.int .i64 0),(.str []),(.int .i64 0),(.int .i64 0),(.str []),(.str []),(.str []),.nils] [(0,(1,(.c (.int .i64 (3))))),(1,(1,(.c (.str [78,79,84])))),(7,(1,(.c x17)))]) h_3) fun v1 =>
castAgg v1 fun l10 =>
castCons l10 fun c8 l11 =>
castInt .i64 c8 fun x18_0 =>
castCons l11 fun c9 l12 =>
castStr c9 fun x18_1 =>
castCons l12 fun c10 l13 =>
castInt .i64 c10 fun x18_2 =>
castCons l13 fun c11 l14 =>
castInt .i64 c11 fun x18_3 =>
castCons l14 fun c12 l15 =>
castStr c12 fun x18_4 =>
castCons l15 fun c13 l16 =>
castStr c13 fun x18_5 =>
castCons l16 fun c14 l17 =>
castStr c14 fun x18_6 =>
castCons l17 fun x18_7 l18 =>
castNil l18 (
bind2 (ev (.store 8 (.c x4) (.c (.agg [(.int .i64 x18_0),(.str x18_1),(.int .i64 x18_2),(.int .i64 x18_3),(.str x18_4),(.str x18_5),(.str x18_6),x18_7]))) h_3) fun u h_4 =>
bind1 (evLoadN h_4 8 x4) fun r1 =>
some (r1,h_4)))) (
cB (of == (2)) (
bind2 (rc 42 [r] h_1) fun v h_2 =>
castAgg v fun l1 =>
castCons l1 fun c1 l2 =>
castInt .i64 c1 fun x23_0 =>
castCons l2 fun c2 l3 =>
castStr c2 fun x23_1 =>
castCons l3 fun c3 l4 =>
castInt .i64 c3 fun x23_2 =>
castCons l4 fun c4 l5 =>
castInt .i64 c4 fun x23_3 =>
castCons l5 fun c5 l6 =>
castStr c5 fun x23_4 =>
castCons l6 fun c6 l7 =>
castStr c6 fun x23_5 =>
castCons l7 fun c7 l8 =>
castStr c7 fun x23_6 =>
castCons l8 fun x23_7 l9 =>
castNil l9 (
bind2 (ev (.store 8 (.c x4) (.c (.agg [(.int .i64 x23_0),(.str x23_1),(.int .i64 x23_2),(.int .i64 x23_3),(.str x23_4),(.str x23_5),(.str x23_6),x23_7]))) h_2) fun u h_3 =>
bind1 (evLoadN h_3 8 x4) fun r1 =>
some (r1,h_3))) (
cB (of == (6)) (
bind2 (rc 43 [r] h_1) fun v h_2 =>
castAgg v fun l1 =>
castCons l1 fun c1 l2 =>
castInt .i64 c1 fun x28_0 =>
castCons l2 fun c2 l3 =>
castStr c2 fun x28_1 =>
castCons l3 fun c3 l4 =>
castInt .i64 c3 fun x28_2 =>
castCons l4 fun c4 l5 =>
castInt .i64 c4 fun x28_3 =>
castCons l5 fun c5 l6 =>
castStr c5 fun x28_4 =>
castCons l6 fun c6 l7 =>
castStr c6 fun x28_5 =>
castCons l7 fun c7 l8 =>
castStr c7 fun x28_6 =>
castCons l8 fun x28_7 l9 =>
castNil l9 (
bind2 (ev (.store 8 (.c x4) (.c (.agg [(.int .i64 x28_0),(.str x28_1),(.int .i64 x28_2),(.int .i64 x28_3),(.str x28_4),(.str x28_5),(.str x28_6),x28_7]))) h_2) fun u h_3 =>
bind1 (evLoadN h_3 8 x4) fun r1 =>
some (r1,h_3))) (
bind2 (rc 25 [r,(.int .i64 (IntKind.i64.wrap (of + (1))))] h_1) fun v h_2 =>
castAgg v fun l1 =>
castCons l1 fun c1 l2 =>
castInt .i64 c1 fun x32_0 =>
castCons l2 fun c2 l3 =>
castStr c2 fun x32_1 =>
castCons l3 fun c3 l4 =>
castInt .i64 c3 fun x32_2 =>
castCons l4 fun c4 l5 =>
castInt .i64 c4 fun x32_3 =>
castCons l5 fun c5 l6 =>
castStr c5 fun x32_4 =>
castCons l6 fun c6 l7 =>
castStr c6 fun x32_5 =>
castCons l7 fun c7 l8 =>
castStr c7 fun x32_6 =>
castCons l8 fun x32_7 l9 =>
castNil l9 (
bind2 (ev (.alloc false (.agg [(.int .i64 0),(.str []),(.int .i64 0),(.int .i64 0),(.str []),(.str []),(.str []),.nils])) h_2) fun e h_3 =>
bind2 (ev (.store 8 (.c e) (.c (.agg [(.int .i64 x32_0),(.str x32_1),(.int .i64 x32_2),(.int .i64 x32_3),(.str x32_4),(.str x32_5),(.str x32_6),x32_7]))) h_3) fun u h_4 =>
bind3 (L25_1 lf rc lf r of x4 e h_4) fun ex1 vs1 h_5 =>
cB (decide (ex1 = .ret)) (
castNil vs1 (
bind1 (evLoadN h_5 8 x4) fun r1 =>
some (r1,h_5))) (
none))))))) (
none)
noncomputable def W25 (lf:Nat) (rc:CallS):List V → List Ob → Option (V × List Ob) := wG [Sa,Si] (F25 lf rc)
theorem W25_ok (lf:Nat) (rc:CallS) (hrc:CallOk Go.Proofs.Tryd.prog rc):WOk Go.Proofs.Tryd.prog 25 (W25 lf rc) := FOk 50 [(.ln 8 4)] A25 (x25 lf rc hrc) [p25_0 lf rc hrc,p25_1 lf rc hrc] (sq [.reg [o 4 (.alloc false zRd4)],.block 0 (sq [.sub 0,.cond 8 (sq [.reg [mv 15 0,ca 16 25 [15,(ci 2)],o 17 (.bslice 8 zRd4 1 [(0,16)]),o 18 (.build [(.int .i64 0),(.str []),(.int .i64 0),(.int .i64 0),(.str []),(.str []),(.str []),.nils] [(0,(1,(ci 3))),(1,(1,(.c (.str [78,79,84])))),(7,(1,17))]),st 8 4 18],.ret]) (sq [.reg [mv 20 1,o 21 (.bin .eql 20 (ci 2)),mv 19 21],.cond 19 (sq [.reg [mv 22 0,ca 23 42 [22],st 8 4 23],.ret]) (sq [.reg [mv 25 1,o 26 (.bin .eql 25 (ci 6)),mv 24 26],.cond 24 (sq [.reg [mv 27 0,ca 28 43 [27],st 8 4 28],.ret]) .skip])])]),.reg [mv 29 0,mv 30 1,o 31 (.bin .add 30 (ci 1)),ca 32 25 [29,31],o 5 (.alloc false zRd4),st 8 5 32],.block 1 (.sub 1)]) [Sa,Si] _ Go.Proofs.Tryd.func25 (by kernel_rfl) (by kernel_rfl) (by kernel_rfl) (fun _ _ _ => by kernel_rfl)
noncomputable def R25 (lf:Nat):Nat → CallS
  | 0 => callN
  | n + 1 => callC 25 (W25 lf (R25 lf n)) (callC 42 (W42 lf (R25 lf n)) (callC 43 (W43 lf (R25 lf n)) (callC 57 (W57 lf (R25 lf n)) (callC 65 (W65 lf (R25 lf n)) (callN)))))
theorem R25_ok (lf:Nat):∀ n,CallOk Go.Proofs.Tryd.prog (R25 lf n)
  | 0 => callN_ok
  | n + 1 => callC_ok (W25_ok lf (R25 lf n) (R25_ok lf n)) (callC_ok (W42_ok lf (R25 lf n) (R25_ok lf n)) (callC_ok (W43_ok lf (R25 lf n) (R25_ok lf n)) (callC_ok (W57_ok lf (R25 lf n) (R25_ok lf n)) (callC_ok (W65_ok lf (R25 lf n) (R25_ok lf n)) (callN_ok)))))
def A15 := mkA [(zRd3,[5,12,19]),(Si,[9]),(Sb,[10,11,13,14,15])]
noncomputable def x15 (lf:Nat):Cx Go.Proofs.Tryd.prog := .c (.c .o (W19_ok lf (R19 lf lf) (R19_ok lf lf))) (W25_ok lf (R25 lf lf) (R25_ok lf lf))
noncomputable def S15_0 (lf:Nat) (r:V) (e:V) (h:List Ob):SubR :=
bind1 (er (.nilck (.c r)) h) fun x7 =>
bind1 (er (.faddr 2 (.c x7)) h) fun x8 =>
bind1 (er (.load1 (.c x8)) h) fun v =>
castInt .i64 v fun x9 =>
cB (x9 == (0)) (
bind1 (er (.loadN 8 (.c e)) h) fun v1 =>
castAgg v1 fun l =>
castCons l fun c l1 =>
castInt .i64 c fun x12_0 =>
castCons l1 fun c1 l2 =>
castStr c1 fun x12_1 =>
castCons l2 fun c2 l3 =>
castInt .i64 c2 fun x12_2 =>
castCons l3 fun c3 l4 =>
castInt .i64 c3 fun x12_3 =>
castCons l4 fun c4 l5 =>
castStr c4 fun x12_4 =>
castCons l5 fun c5 l6 =>
castStr c5 fun x12_5 =>
castCons l6 fun c6 l7 =>
castStr c6 fun x12_6 =>
castCons l7 fun x12_7 l8 =>
castNil l8 (
bind2 (F19 lf (R19 lf lf) x12_0 x12_1 x12_2 x12_3 x12_4 x12_5 x12_6 x12_7 (8) h) fun v2 h_ =>
castBool v2 fun x13 =>
cB (!x13) (
bind1 (er (.nilck (.c r)) h_) fun x17 =>
bind1 (er (.faddr 2 (.c x17)) h_) fun x18 =>
bind2 (ev (.store 1 (.c x18) (.c (.int .i64 (4)))) h_) fun u h_1 =>
some (.normal,[],h_1)) (
some (.normal,[],h_)))) (
some (.normal,[],h))
noncomputable def p15_0 (lf:Nat):Pt Go.Proofs.Tryd.prog := .of A15 (x15 lf) [] (sq [.reg [mv 6 0,nk 7 6,fa 8 2 7,l1 9 8,o 10 (.bin .eql 9 (ci 0)),mv 11 10,oT 12 11 (.loadN 8 3),caT 13 11 19 [12,(ci 8)],oT 14 11 (.un .not 13),o 15 (.pick 11 14 cF)],.cond 15 (.reg [mv 16 0,nk 17 16,fa 18 2 17,st 1 18 (ci 4)]) .skip]) [Sa,Sa] [0,3] [(.normal,[],[])] (S15_0 lf) (fun _ _ _ => by kernel_rfl)
noncomputable def F15 (lf:Nat) (r:V) (h:List Ob):Option (V × List Ob) :=
bind2 (ev (.alloc false (.agg [(.int .i64 0),(.str []),(.int .i64 0),(.int .i64 0),(.str []),(.str []),(.str []),.nils])) h) fun x2 h_ =>
bind2 (F25 lf (R25 lf lf) r (0) h_) fun v h_1 =>
castAgg v fun l =>
castCons l fun c l1 =>
castInt .i64 c fun x5_0 =>
castCons l1 fun c1 l2 =>
castStr c1 fun x5_1 =>
castCons l2 fun c2 l3 =>
castInt .i64 c2 fun x5_2 =>
castCons l3 fun c3 l4 =>
castInt .i64 c3 fun x5_3 =>
castCons l4 fun c4 l5 =>
castStr c4 fun x5_4 =>
castCons l5 fun c5 l6 =>
castStr c5 fun x5_5 =>
castCons l6 fun c6 l7 =>
castStr c6 fun x5_6 =>
castCons l7 fun x5_7 l8 =>
castNil l8 (
bind2 (ev (.alloc false (.agg [(.int .i64 0),(.str []),(.int .i64 0),(.int .i64 0),(.str []),(.str []),(.str []),.nils])) h_1) fun e h_2 =>
bind2 (ev (.store 8 (.c e) (.c (.agg [(.int .i64 x5_0),(.str x5_1),(.int .i64 x5_2),(.int .i64 x5_3),(.str x5_4),(.str x5_5),(.str x5_6),x5_7]))) h_2) fun u h_3 =>
bind3 (S15_0 lf r e h_3) fun ex vs h_4 =>
cB (decide (ex = .normal)) (
castNil vs (
bind1 (er (.loadN 8 (.c e)) h_4) fun v1 =>
castAgg v1 fun l9 =>
castCons l9 fun c7 l10 =>
castInt .i64 c7 fun x19_0 =>
castCons l10 fun c8 l11 =>
castStr c8 fun x19_1 =>
castCons l11 fun c9 l12 =>
castInt .i64 c9 fun x19_2 =>
castCons l12 fun c10 l13 =>
castInt .i64 c10 fun x19_3 =>
castCons l13 fun c11 l14 =>
castStr c11 fun x19_4 =>
castCons l14 fun c12 l15 =>
castStr c12 fun x19_5 =>
castCons l15 fun c13 l16 =>
castStr c13 fun x19_6 =>
castCons l16 fun x19_7 l17 =>
castNil l17 (
bind2 (ev (.store 8 (.c x2) (.c (.agg [(.int .i64 x19_0),(.str x19_1),(.int .i64 x19_2),(.int .i64 x19_3),(.str x19_4),(.str x19_5),(.str x19_6),x19_7]))) h_4) fun u1 h_5 =>
bind1 (evLoadN h_5 8 x2) fun r1 =>
some (r1,h_5)))) (
none))
noncomputable def W15 (lf:Nat):List V → List Ob → Option (V × List Ob) := wG [Sa] (F15 lf)
theorem W15_ok (lf:Nat):WOk Go.Proofs.Tryd.prog 15 (W15 lf) := FOk 20 [(.ln 8 2)] A15 (x15 lf) [p15_0 lf] (sq [.reg [o 2 (.alloc false zRd4)],.reg [mv 4 0,ca 5 25 [4,(ci 0)],o 3 (.alloc false zRd4),st 8 3 5],.sub 0,.reg [ln 19 8 3,st 8 2 19],.ret]) [Sa] _ Go.Proofs.Tryd.func15 (by kernel_rfl) (by kernel_rfl) (by kernel_rfl) (fun _ _ => by kernel_rfl)
end Go.Proofs.YtjpjeilfmjdhcaaDoor.Rd
