/- Functions of the program as Lean functions, and that each call comes to what its function says. Printed by my own tool. No condition. -/
import Derived.Test.YtjpjeilfmjdhcaaDoorProg
import Derived.Test.YtjpjeilfmjdhcaaDoorL4
import Derived.Test.YtjpjeilfmjdhcaaDoorLns
namespace Go.Proofs.YtjpjeilfmjdhcaaDoor.Ex
open Go Go.Proofs.YtjpjeilfmjdhcaaDoor.E
open Go.Proofs.YtjpjeilfmjdhcaaDoor.E.K
open Go.Proofs.YtjpjeilfmjdhcaaDoor.Ln
set_option maxRecDepth 100000
set_option linter.unusedVariables false
def zEx1:Sh := .agg [Si,Ss,Si,Si,Ss,Ss,Ss,Sa]
def zEx2:V := .agg [(.int .i64 0),(.str []),(.int .i64 0),(.int .i64 0),(.str []),(.str []),(.str []),.nils]
def A18 := mkA [(Sb,[6,14,18,29,30]),(Si,[7,11,13,16,17,19,23,31]),(zEx1,[21,25,27,28])]
noncomputable def x18 (lf:Nat) (cv:CallVS) (hcv:CvOk Go.Proofs.Tryd.prog cv):Cx Go.Proofs.Tryd.prog := .v .o hcv
noncomputable def B18_0 (lf:Nat) (cv:CallVS) (self:V → V → V → Int → Int → List Ob → SubR) (s2:V) (eq:V) (x15:V) (x16:Int) (x17:Int) (h:List Ob):SubR :=
cB (decide (x17 < x16)) (
bind1 (er (.iaddrL 8 (.c x15) (.c (.int .i64 x17))) h) fun x20 =>
bind1 (er (.loadN 8 (.c x20)) h) fun v =>
castAgg v fun l =>
castCons l fun c l1 =>
castInt .i64 c fun x21_0 =>
castCons l1 fun c1 l2 =>
castStr c1 fun x21_1 =>
castCons l2 fun c2 l3 =>
castInt .i64 c2 fun x21_2 =>
castCons l3 fun c3 l4 =>
castInt .i64 c3 fun x21_3 =>
castCons l4 fun c4 l5 =>
castStr c4 fun x21_4 =>
castCons l5 fun c5 l6 =>
castStr c5 fun x21_5 =>
castCons l6 fun c6 l7 =>
castStr c6 fun x21_6 =>
castCons l7 fun x21_7 l8 =>
castNil l8 (
bind2 (ev (.alloc false (.agg [(.int .i64 0),(.str []),(.int .i64 0),(.int .i64 0),(.str []),(.str []),(.str []),.nils])) h) fun v1 h_ =>
bind2 (ev (.store 8 (.c v1) (.c (.agg [(.int .i64 x21_0),(.str x21_1),(.int .i64 x21_2),(.int .i64 x21_3),(.str x21_4),(.str x21_5),(.str x21_6),x21_7]))) h_) fun u h_1 =>
bind1 (er (.iaddrL 8 (.c s2) (.c (.int .i64 x17))) h_1) fun x24 =>
bind1 (er (.loadN 8 (.c x24)) h_1) fun v2 =>
castAgg v2 fun l9 =>
castCons l9 fun c7 l10 =>
castInt .i64 c7 fun x25_0 =>
castCons l10 fun c8 l11 =>
castStr c8 fun x25_1 =>
castCons l11 fun c9 l12 =>
castInt .i64 c9 fun x25_2 =>
castCons l12 fun c10 l13 =>
castInt .i64 c10 fun x25_3 =>
castCons l13 fun c11 l14 =>
castStr c11 fun x25_4 =>
castCons l14 fun c12 l15 =>
castStr c12 fun x25_5 =>
castCons l15 fun c13 l16 =>
castStr c13 fun x25_6 =>
castCons l16 fun x25_7 l17 =>
castNil l17 (
bind2 (ev (.alloc false (.agg [(.int .i64 0),(.str []),(.int .i64 0),(.int .i64 0),(.str []),(.str []),(.str []),.nils])) h_1) fun v2_1 h_2 =>
bind2 (ev (.store 8 (.c v2_1) (.c (.agg [(.int .i64 x25_0),(.str x25_1),(.int .i64 x25_2),(.int .i64 x25_3),(.str x25_4),(.str x25_5),(.str x25_6),x25_7]))) h_2) fun u1 h_3 =>
bind1 (er (.loadN 8 (.c v1)) h_3) fun v3 =>
castAgg v3 fun l18 =>
castCons l18 fun c14 l19 =>
castInt .i64 c14 fun x27_0 =>
castCons l19 fun c15 l20 =>
castStr c15 fun x27_1 =>
castCons l20 fun c16 l21 =>
castInt .i64 c16 fun x27_2 =>
castCons l21 fun c17 l22 =>
castInt .i64 c17 fun x27_3 =>
castCons l22 fun c18 l23 =>
castStr c18 fun x27_4 =>
castCons l23 fun c19 l24 =>
castStr c19 fun x27_5 =>
castCons l24 fun c20 l25 =>
castStr c20 fun x27_6 =>
castCons l25 fun x27_7 l26 =>
castNil l26 (
bind1 (er (.loadN 8 (.c v2_1)) h_3) fun v4 =>
castAgg v4 fun l27 =>
castCons l27 fun c21 l28 =>
castInt .i64 c21 fun x28_0 =>
castCons l28 fun c22 l29 =>
castStr c22 fun x28_1 =>
castCons l29 fun c23 l30 =>
castInt .i64 c23 fun x28_2 =>
castCons l30 fun c24 l31 =>
castInt .i64 c24 fun x28_3 =>
castCons l31 fun c25 l32 =>
castStr c25 fun x28_4 =>
castCons l32 fun c26 l33 =>
castStr c26 fun x28_5 =>
castCons l33 fun c27 l34 =>
castStr c27 fun x28_6 =>
castCons l34 fun x28_7 l35 =>
castNil l35 (
bind2 (cv eq [(.agg [(.int .i64 x27_0),(.str x27_1),(.int .i64 x27_2),(.int .i64 x27_3),(.str x27_4),(.str x27_5),(.str x27_6),x27_7]),(.agg [(.int .i64 x28_0),(.str x28_1),(.int .i64 x28_2),(.int .i64 x28_3),(.str x28_4),(.str x28_5),(.str x28_6),x28_7])] h_3) fun v5 h_4 =>
castBool v5 fun x29 =>
cB (!x29) (
some (.ret,[(.bool false)],h_4)) (
self s2 eq x15 x16 (IntKind.i64.wrap (x17 + (1))) h_4)))))) (
some ((.exit 0),[],h))
noncomputable def L18_0 (lf:Nat) (cv:CallVS):Nat → V → V → V → Int → Int → List Ob → SubR
  | 0 => fun _ _ _ _ _ _ => none
  | n + 1 => B18_0 lf cv (L18_0 lf cv n)
noncomputable def p18_0 (lf:Nat) (cv:CallVS) (hcv:CvOk Go.Proofs.Tryd.prog cv):Pt Go.Proofs.Tryd.prog := .loop A18 (x18 lf cv hcv) [] (sq [.reg [o 18 (.bin .lss 17 16)],.cond 18 .skip (.exit 0),.block 1 (sq [.reg [mv 19 17,o 20 (.iaddrL 8 15 17),ln 21 8 20,o 8 (.alloc false zEx2),mv 7 19,st 8 8 21],.reg [mv 22 1,mv 23 7,o 24 (.iaddrL 8 22 23),ln 25 8 24,o 9 (.alloc false zEx2),st 8 9 25],.reg [mv 26 2,ln 27 8 8,ln 28 8 9,cw 29 26 [27,28],o 30 (.un .not 29)],.cond 30 (sq [.reg [mv 6 cF],.ret]) .skip]),.reg [o 31 (.bin .add 17 (ci 1)),mv 17 31]]) [Sa,Sa,Sa,Si,Si] [1,2,15,16,17] [((.exit 0),[],[]),(.ret,[6],[Sb])] (B18_0 lf cv) (L18_0 lf cv) (fun _ _ _ _ _ _ => rfl) (fun _ => rfl) (fun _ _ _ _ _ _ _ => by kernel_rfl) lf
noncomputable def F18 (lf:Nat) (cv:CallVS) (s1:V) (s2:V) (eq:V) (h:List Ob):Option (V × List Ob) :=
bind1 (er (.lenL (.c s1)) h) fun v =>
castInt .i64 v fun x11 =>
bind1 (er (.lenL (.c s2)) h) fun v1 =>
castInt .i64 v1 fun x13 =>
cB (x11 != x13) (
some ((.bool false),h)) (
bind1 (er (.lenL (.c s1)) h) fun v2 =>
castInt .i64 v2 fun x16 =>
bind3 (L18_0 lf cv lf s2 eq s1 x16 (0) h) fun ex vs h_ =>
cB (decide (ex = (.exit 0))) (
castNil vs (
some ((.bool true),h_))) (
cB (decide (ex = .ret)) (
castCons vs fun c l =>
castBool c fun x6 =>
castNil l (
some ((.bool x6),h_))) (
none)))
noncomputable def W18 (lf:Nat) (cv:CallVS):List V → List Ob → Option (V × List Ob) := wG [Sa,Sa,Sa] (F18 lf cv)
theorem W18_ok (lf:Nat) (cv:CallVS) (hcv:CvOk Go.Proofs.Tryd.prog cv):WOk Go.Proofs.Tryd.prog 18 (W18 lf cv) := FOk 32 [(.t 6)] A18 (x18 lf cv hcv) [p18_0 lf cv hcv] (sq [.reg [mv 6 cF],sq [.reg [mv 10 0,o 11 (.lenL 10),mv 12 1,o 13 (.lenL 12),o 14 (.bin .neq 11 13)],.cond 14 (sq [.reg [mv 6 cF],.ret]) .skip],sq [.reg [mv 15 0,o 16 (.lenL 15),mv 17 (ci 0)],.block 0 (.sub 0)],.reg [mv 6 cT],.ret]) [Sa,Sa,Sa] _ Go.Proofs.Tryd.func18 (by kernel_rfl) (by kernel_rfl) (by kernel_rfl) (fun _ _ _ _ => by kernel_rfl)
noncomputable def cv9 (lf:Nat) (rc:CallS):CallVS := cvC 9 (rc 9) (cvN)
theorem cv9_ok (lf:Nat) (rc:CallS) (hrc:CallOk Go.Proofs.Tryd.prog rc):CvOk Go.Proofs.Tryd.prog (cv9 lf rc) := cvC_ok (hrc 9) (cvN_ok)
def A9 := mkA [(zEx1,[0,1]),(Sb,[4,9,10,15,16,17,22,23,24,29,30,31,36,37,38,43,44]),(Si,[6,8]),(Ss,[12,14,26,28,33,35]),(.agg [Si,Si,Ss],[19,21])]
noncomputable def x9 (lf:Nat) (rc:CallS) (hrc:CallOk Go.Proofs.Tryd.prog rc):Cx Go.Proofs.Tryd.prog := .v (.c (.r .o hrc) (W18_ok lf (cv9 lf rc) (cv9_ok lf rc hrc))) (cv9_ok lf rc hrc)
noncomputable def F9 (lf:Nat) (rc:CallS) (a:Int) (a1:List UInt8) (a2:Int) (a3:Int) (a4:List UInt8) (a5:List UInt8) (a6:List UInt8) (a7:V) (b:Int) (b1:List UInt8) (b2:Int) (b3:Int) (b4:List UInt8) (b5:List UInt8) (b6:List UInt8) (b7:V) (h:List Ob):Option (V × List Ob) :=
bind2 (ev (.box false (.c (.agg [(.int .i64 a),(.str a1),(.int .i64 a2),(.int .i64 a3),(.str a4),(.str a5),(.str a6),a7]))) h) fun a8 h_ =>
bind2 (ev (.box false (.c (.agg [(.int .i64 b),(.str b1),(.int .i64 b2),(.int .i64 b3),(.str b4),(.str b5),(.str b6),b7]))) h_) fun b8 h_1 =>
bind1 (er (.faddr 0 (.c a8)) h_1) fun x5 =>
bind1 (er (.load1 (.c x5)) h_1) fun v =>
castInt .i64 v fun x6 =>
bind1 (er (.faddr 0 (.c b8)) h_1) fun x7 =>
bind1 (er (.load1 (.c x7)) h_1) fun v1 =>
castInt .i64 v1 fun x8 =>
cB (x6 == x8) (
bind1 (er (.faddr 1 (.c a8)) h_1) fun x11 =>
bind1 (er (.load1 (.c x11)) h_1) fun v2 =>
castStr v2 fun x12 =>
bind1 (er (.faddr 1 (.c b8)) h_1) fun x13 =>
bind1 (er (.load1 (.c x13)) h_1) fun v3 =>
castStr v3 fun x14 =>
cB (x12 == x14) (
bind1 (er (.faddr 2 (.c a8)) h_1) fun x18 =>
bind1 (er (.loadN 3 (.c x18)) h_1) fun v4 =>
castAgg v4 fun l =>
castCons l fun c l1 =>
castInt .i64 c fun x19_0 =>
castCons l1 fun c1 l2 =>
castInt .i64 c1 fun x19_1 =>
castCons l2 fun c2 l3 =>
castStr c2 fun x19_2 =>
castNil l3 (
bind1 (er (.faddr 2 (.c b8)) h_1) fun x20 =>
bind1 (er (.loadN 3 (.c x20)) h_1) fun v5 =>
castAgg v5 fun l4 =>
castCons l4 fun c3 l5 =>
castInt .i64 c3 fun x21_0 =>
castCons l5 fun c4 l6 =>
castInt .i64 c4 fun x21_1 =>
castCons l6 fun c5 l7 =>
castStr c5 fun x21_2 =>
castNil l7 (
bind1 (er (.eq false (.struct 3 [(0,.i),(1,.i),(2,.s)]) (.c (.agg [(.int .i64 x19_0),(.int .i64 x19_1),(.str x19_2)])) (.c (.agg [(.int .i64 x21_0),(.int .i64 x21_1),(.str x21_2)]))) h_1) fun v6 =>
castBool v6 fun x22 =>
cB x22 (
bind1 (er (.faddr 5 (.c a8)) h_1) fun x25 =>
bind1 (er (.load1 (.c x25)) h_1) fun v7 =>
castStr v7 fun x26 =>
bind1 (er (.faddr 5 (.c b8)) h_1) fun x27 =>
bind1 (er (.load1 (.c x27)) h_1) fun v8 =>
castStr v8 fun x28 =>
cB (x26 == x28) (
bind1 (er (.faddr 6 (.c a8)) h_1) fun x32 =>
bind1 (er (.load1 (.c x32)) h_1) fun v9 =>
castStr v9 fun x33 =>
bind1 (er (.faddr 6 (.c b8)) h_1) fun x34 =>
bind1 (er (.load1 (.c x34)) h_1) fun v10 =>
castStr v10 fun x35 =>
cB (x33 == x35) (
bind1 (er (.faddr 7 (.c a8)) h_1) fun x39 =>
bind1 (er (.load1 (.c x39)) h_1) fun x40 =>
bind1 (er (.faddr 7 (.c b8)) h_1) fun x41 =>
bind1 (er (.load1 (.c x41)) h_1) fun x42 =>
bind2 (F18 lf (cv9 lf rc) x40 x42 (.fn 9 []) h_1) fun v11 h_2 =>
castBool v11 fun x43 =>
some ((.bool x43),h_2)) (
some ((.bool false),h_1))) (
some ((.bool false),h_1))) (
some ((.bool false),h_1))))) (
some ((.bool false),h_1))) (
some ((.bool false),h_1))
noncomputable def W9 (lf:Nat) (rc:CallS):List V → List Ob → Option (V × List Ob) := wG [zEx1,zEx1] (F9 lf rc)
theorem W9_ok (lf:Nat) (rc:CallS) (hrc:CallOk Go.Proofs.Tryd.prog rc):WOk Go.Proofs.Tryd.prog 9 (W9 lf rc) := FOk 45 [(.t 4)] A9 (x9 lf rc hrc) [] (sq [.reg [o 2 (.box false 0),o 3 (.box false 1),mv 4 cF],.reg [fa 5 0 2,l1 6 5,fa 7 0 3,l1 8 7,o 9 (.bin .eql 6 8),mv 10 9,oT 11 10 (.faddr 1 2),oT 12 10 (.load1 11),oT 13 10 (.faddr 1 3),oT 14 10 (.load1 13),oT 15 10 (.bin .eql 12 14),o 16 (.pick 10 15 cF),mv 17 16,oT 18 17 (.faddr 2 2),oT 19 17 (.loadN 3 18),oT 20 17 (.faddr 2 3),oT 21 17 (.loadN 3 20),oT 22 17 (.eq false (.struct 3 [(0,.i),(1,.i),(2,.s)]) 19 21),o 23 (.pick 17 22 cF),mv 24 23,oT 25 24 (.faddr 5 2),oT 26 24 (.load1 25),oT 27 24 (.faddr 5 3),oT 28 24 (.load1 27),oT 29 24 (.bin .eql 26 28),o 30 (.pick 24 29 cF),mv 31 30,oT 32 31 (.faddr 6 2),oT 33 31 (.load1 32),oT 34 31 (.faddr 6 3),oT 35 31 (.load1 34),oT 36 31 (.bin .eql 33 35),o 37 (.pick 31 36 cF),mv 38 37,oT 39 38 (.faddr 7 2),oT 40 38 (.load1 39),oT 41 38 (.faddr 7 3),oT 42 38 (.load1 41),caT 43 38 18 [40,42,(.c (.fn 9 []))],o 44 (.pick 38 43 cF),mv 4 44],.ret]) [zEx1,zEx1] _ Go.Proofs.Tryd.func9 (by kernel_rfl) (by kernel_rfl) (by kernel_rfl) (fun _ _ _ _ _ _ _ _ _ _ _ _ _ _ _ _ _ => by kernel_rfl)
noncomputable def R9 (lf:Nat):Nat → CallS
  | 0 => callN
  | n + 1 => callC 9 (W9 lf (R9 lf n)) (callN)
theorem R9_ok (lf:Nat):∀ n,CallOk Go.Proofs.Tryd.prog (R9 lf n)
  | 0 => callN_ok
  | n + 1 => callC_ok (W9_ok lf (R9 lf n) (R9_ok lf n)) (callN_ok)
def A22 := mkA [(Ss,[0,3]),(Si,[2]),(Sb,[4,5,6,7,8,9,10,11,12,13,14,15,16,17,18,19])]
noncomputable def x22 (lf:Nat):Cx Go.Proofs.Tryd.prog := .o
noncomputable def S22_0 (lf:Nat) (x3:List UInt8) (h:List Ob):SubR :=
cB (x3 == [61]) (
some (.normal,[(.bool true)],h)) (
cB (x3 == [60,62]) (
some (.normal,[(.bool true)],h)) (
cB (x3 == [60]) (
some (.normal,[(.bool true)],h)) (
cB (x3 == [60,61]) (
some (.normal,[(.bool true)],h)) (
cB (x3 == [62]) (
some (.normal,[(.bool true)],h)) (
some (.normal,[(.bool (x3 == [62,61]))],h))))))
noncomputable def p22_0 (lf:Nat):Pt Go.Proofs.Tryd.prog := .of A22 (x22 lf) [] (sq [.reg [o 9 (.bin .eql 3 (.c (.str [61]))),mv 8 9],.cond 8 .skip (sq [.reg [o 10 (.bin .eql 3 (.c (.str [60,62]))),mv 8 10],.cond 8 .skip (sq [.reg [o 11 (.bin .eql 3 (.c (.str [60]))),mv 8 11],.cond 8 .skip (sq [.reg [o 12 (.bin .eql 3 (.c (.str [60,61]))),mv 8 12],.cond 8 .skip (sq [.reg [o 13 (.bin .eql 3 (.c (.str [62]))),mv 8 13],.cond 8 .skip (.reg [o 14 (.bin .eql 3 (.c (.str [62,61]))),mv 8 14])])])])])]) [Ss] [3] [(.normal,[8],[Sb])] (S22_0 lf) (fun _ _ => by kernel_rfl)
noncomputable def F22 (lf:Nat) (op:List UInt8) (h:List Ob):Option (V × List Ob) :=
cB (op == [79,82]) (
some ((.int .i64 (0)),h)) (
cB (op == [65,78,68]) (
some ((.int .i64 (1)),h)) (
bind3 (S22_0 lf op h) fun ex vs h_ =>
cB (decide (ex = .normal)) (
castCons vs fun c l =>
castBool c fun x8 =>
castNil l (
cB x8 (
some ((.int .i64 (3)),h_)) (
cB (op == [43]) (
some ((.int .i64 (4)),h_)) (
cB (op == [45]) (
some ((.int .i64 (4)),h_)) (
cB (op == [42]) (
some ((.int .i64 (5)),h_)) (
some ((.int .i64 (7)),h_))))))) (
none)))
noncomputable def W22 (lf:Nat):List V → List Ob → Option (V × List Ob) := wG [Ss] (F22 lf)
theorem W22_ok (lf:Nat):WOk Go.Proofs.Tryd.prog 22 (W22 lf) := FOk 20 [(.t 2)] A22 (x22 lf) [p22_0 lf] (sq [.reg [mv 2 (ci 0)],sq [.reg [mv 3 0],.block 0 (sq [.reg [o 5 (.bin .eql 3 (.c (.str [79,82]))),mv 4 5],.cond 4 (sq [.reg [mv 2 (ci 0)],.ret]) (sq [.reg [o 7 (.bin .eql 3 (.c (.str [65,78,68]))),mv 6 7],.cond 6 (sq [.reg [mv 2 (ci 1)],.ret]) (sq [.sub 0,.cond 8 (sq [.reg [mv 2 (ci 3)],.ret]) (sq [sq [.reg [o 16 (.bin .eql 3 (.c (.str [43]))),mv 15 16],.cond 15 .skip (.reg [o 17 (.bin .eql 3 (.c (.str [45]))),mv 15 17])],.cond 15 (sq [.reg [mv 2 (ci 4)],.ret]) (sq [.reg [o 19 (.bin .eql 3 (.c (.str [42]))),mv 18 19],.cond 18 (sq [.reg [mv 2 (ci 5)],.ret]) .skip])])])])])],.reg [mv 2 (ci 7)],.ret]) [Ss] _ Go.Proofs.Tryd.func22 (by kernel_rfl) (by kernel_rfl) (by kernel_rfl) (fun _ _ => by kernel_rfl)
def A45 := mkA [(.agg [Si,Si,Ss],[0,7,8]),(Sb,[2,5,6,9,10,11,14,15,16,19,20,24,25]),(Si,[4,18,23]),(Ss,[13,22])]
noncomputable def x45 (lf:Nat):Cx Go.Proofs.Tryd.prog := .o
noncomputable def F45 (lf:Nat) (v:Int) (v1:Int) (v2:List UInt8) (h:List Ob):Option (V × List Ob) :=
bind2 (ev (.box false (.c (.agg [(.int .i64 v),(.int .i64 v1),(.str v2)]))) h) fun v3 h_ =>
bind1 (er (.faddr 0 (.c v3)) h_) fun x3 =>
bind1 (er (.load1 (.c x3)) h_) fun v4 =>
castInt .i64 v4 fun x4 =>
cB (x4 == (0)) (
bind1 (er (.loadN 3 (.c v3)) h_) fun v5 =>
castAgg v5 fun l =>
castCons l fun c l1 =>
castInt .i64 c fun x7_0 =>
castCons l1 fun c1 l2 =>
castInt .i64 c1 fun x7_1 =>
castCons l2 fun c2 l3 =>
castStr c2 fun x7_2 =>
castNil l3 (
bind1 (er (.build [(.int .i64 0),(.int .i64 0),(.str [])] []) h_) fun v6 =>
castAgg v6 fun l4 =>
castCons l4 fun c3 l5 =>
castInt .i64 c3 fun x8_0 =>
castCons l5 fun c4 l6 =>
castInt .i64 c4 fun x8_1 =>
castCons l6 fun c5 l7 =>
castStr c5 fun x8_2 =>
castNil l7 (
bind1 (er (.eq false (.struct 3 [(0,.i),(1,.i),(2,.s)]) (.c (.agg [(.int .i64 x7_0),(.int .i64 x7_1),(.str x7_2)])) (.c (.agg [(.int .i64 x8_0),(.int .i64 x8_1),(.str x8_2)]))) h_) fun v7 =>
castBool v7 fun x9 =>
some ((.bool x9),h_)))) (
cB (x4 == (1)) (
bind1 (er (.faddr 2 (.c v3)) h_) fun x12 =>
bind1 (er (.load1 (.c x12)) h_) fun v5 =>
castStr v5 fun x13 =>
some ((.bool (x13 == ([]:List UInt8))),h_)) (
cB (x4 == (2)) (
bind1 (er (.faddr 1 (.c v3)) h_) fun x17 =>
bind1 (er (.load1 (.c x17)) h_) fun v5 =>
castInt .i64 v5 fun x18 =>
cB (x18 == (0)) (
bind1 (er (.faddr 2 (.c v3)) h_) fun x21 =>
bind1 (er (.load1 (.c x21)) h_) fun v6 =>
castStr v6 fun x22 =>
some ((.bool (decide (((x22).length:Int) ≤ (100)))),h_)) (
some ((.bool false),h_))) (
some ((.bool false),h_))))
noncomputable def W45 (lf:Nat):List V → List Ob → Option (V × List Ob) := wG [.agg [Si,Si,Ss]] (F45 lf)
theorem W45_ok (lf:Nat):WOk Go.Proofs.Tryd.prog 45 (W45 lf) := FOk 26 [(.t 2)] A45 (x45 lf) [] (sq [.reg [o 1 (.box false 0),mv 2 cF],sq [.reg [fa 3 0 1,l1 4 3],.block 0 (sq [.reg [o 6 (.bin .eql 4 (ci 0)),mv 5 6],.cond 5 (sq [.reg [ln 7 3 1,o 8 (.build [(.int .i64 0),(.int .i64 0),(.str [])] []),o 9 (.eq false (.struct 3 [(0,.i),(1,.i),(2,.s)]) 7 8),mv 2 9],.ret]) (sq [.reg [o 11 (.bin .eql 4 (ci 1)),mv 10 11],.cond 10 (sq [.reg [fa 12 2 1,l1 13 12,o 14 (.bin .eql 13 (.c (.str []))),mv 2 14],.ret]) (sq [.reg [o 16 (.bin .eql 4 (ci 2)),mv 15 16],.cond 15 (sq [.reg [fa 17 1 1,l1 18 17,o 19 (.bin .eql 18 (ci 0)),mv 20 19,oT 21 20 (.faddr 2 1),oT 22 20 (.load1 21),oT 23 20 (.lenS 22),oT 24 20 (.bin .leq 23 (ci 100)),o 25 (.pick 20 24 cF),mv 2 25],.ret]) .skip])])])],.reg [mv 2 cF],.ret]) [.agg [Si,Si,Ss]] _ Go.Proofs.Tryd.func45 (by kernel_rfl) (by kernel_rfl) (by kernel_rfl) (fun _ _ _ _ => by kernel_rfl)
def A67 := mkA [(Ss,[1,11,15]),(Si,[4,5,7,8,10,13,17,18]),(Sb,[9,16])]
noncomputable def x67 (lf:Nat):Cx Go.Proofs.Tryd.prog := .o
noncomputable def B67_0 (lf:Nat) (self:V → List UInt8 → Int → Int → List Ob → SubR) (s:V) (v:List UInt8) (x7:Int) (x8:Int) (h:List Ob):SubR :=
cB (decide (x8 < x7)) (
bind1 (er (.iaddrL 1 (.c s) (.c (.int .i64 x8))) h) fun x14 =>
bind1 (er (.load1 (.c x14)) h) fun v1 =>
castStr v1 fun x15 =>
cB (v == x15) (
some (.ret,[(.int .i64 x8)],h)) (
self s v x7 (IntKind.i64.wrap (x8 + (1))) h)) (
some ((.exit 0),[],h))
noncomputable def L67_0 (lf:Nat):Nat → V → List UInt8 → Int → Int → List Ob → SubR
  | 0 => fun _ _ _ _ _ => none
  | n + 1 => B67_0 lf (L67_0 lf n)
noncomputable def p67_0 (lf:Nat):Pt Go.Proofs.Tryd.prog := .loop A67 (x67 lf) [] (sq [.reg [o 9 (.bin .lss 8 7)],.cond 9 .skip (.exit 0),.block 1 (sq [.reg [mv 10 8,mv 5 10],.reg [mv 11 1,mv 12 0,mv 13 5,o 14 (.iaddrL 1 12 13),l1 15 14,o 16 (.bin .eql 11 15)],.cond 16 (sq [.reg [mv 17 5,mv 4 17],.ret]) .skip]),.reg [o 18 (.bin .add 8 (ci 1)),mv 8 18]]) [Sa,Ss,Si,Si] [0,1,7,8] [((.exit 0),[],[]),(.ret,[4],[Si])] (B67_0 lf) (L67_0 lf) (fun _ _ _ _ _ => rfl) (fun _ => rfl) (fun _ _ _ _ _ _ => by kernel_rfl) lf
noncomputable def F67 (lf:Nat) (s:V) (v:List UInt8) (h:List Ob):Option (V × List Ob) :=
bind1 (er (.lenL (.c s)) h) fun v1 =>
castInt .i64 v1 fun x7 =>
bind3 (L67_0 lf lf s v x7 (0) h) fun ex vs h_ =>
cB (decide (ex = (.exit 0))) (
castNil vs (
some ((.int .i64 (-1)),h_))) (
cB (decide (ex = .ret)) (
castCons vs fun c l =>
castInt .i64 c fun x4 =>
castNil l (
some ((.int .i64 x4),h_))) (
none))
noncomputable def W67 (lf:Nat):List V → List Ob → Option (V × List Ob) := wG [Sa,Ss] (F67 lf)
theorem W67_ok (lf:Nat):WOk Go.Proofs.Tryd.prog 67 (W67 lf) := FOk 19 [(.t 4)] A67 (x67 lf) [p67_0 lf] (sq [.reg [mv 4 (ci 0)],sq [.reg [mv 6 0,o 7 (.lenL 6),mv 8 (ci 0)],.block 0 (.sub 0)],.reg [mv 4 (ci (-1))],.ret]) [Sa,Ss] _ Go.Proofs.Tryd.func67 (by kernel_rfl) (by kernel_rfl) (by kernel_rfl) (fun _ _ _ => by kernel_rfl)
def A58 := mkA [(Ss,[1,6]),(Sb,[4,8]),(Si,[7])]
noncomputable def x58 (lf:Nat):Cx Go.Proofs.Tryd.prog := .c .o (W67_ok lf)
noncomputable def F58 (lf:Nat) (s:V) (v:List UInt8) (h:List Ob):Option (V × List Ob) :=
bind2 (F67 lf s v h) fun v1 h_ =>
castInt .i64 v1 fun x7 =>
some ((.bool (decide (x7 ≥ (0)))),h_)
noncomputable def W58 (lf:Nat):List V → List Ob → Option (V × List Ob) := wG [Sa,Ss] (F58 lf)
theorem W58_ok (lf:Nat):WOk Go.Proofs.Tryd.prog 58 (W58 lf) := FOk 9 [(.t 4)] A58 (x58 lf) [] (sq [.reg [mv 4 cF],.reg [mv 5 0,mv 6 1,ca 7 67 [5,6],o 8 (.bin .geq 7 (ci 0)),mv 4 8],.ret]) [Sa,Ss] _ Go.Proofs.Tryd.func58 (by kernel_rfl) (by kernel_rfl) (by kernel_rfl) (fun _ _ _ => by kernel_rfl)
def A47 := mkA [(Ss,[0,4]),(Sb,[2,5])]
noncomputable def x47 (lf:Nat):Cx Go.Proofs.Tryd.prog := .c .o (W58_ok lf)
noncomputable def F47 (lf:Nat) (op:List UInt8) (h:List Ob):Option (V × List Ob) :=
bind2 (ev (.bslice 1 (.str []) 4 [(0,(.c (.str [67,79,85,78,84]))),(1,(.c (.str [83,85,77]))),(2,(.c (.str [77,73,78]))),(3,(.c (.str [77,65,88])))]) h) fun x3 h_ =>
bind2 (F58 lf x3 op h_) fun v h_1 =>
castBool v fun x5 =>
some ((.bool x5),h_1)
noncomputable def W47 (lf:Nat):List V → List Ob → Option (V × List Ob) := wG [Ss] (F47 lf)
theorem W47_ok (lf:Nat):WOk Go.Proofs.Tryd.prog 47 (W47 lf) := FOk 6 [(.t 2)] A47 (x47 lf) [] (sq [.reg [mv 2 cF],.reg [o 3 (.bslice 1 (.str []) 4 [(0,(.c (.str [67,79,85,78,84]))),(1,(.c (.str [83,85,77]))),(2,(.c (.str [77,73,78]))),(3,(.c (.str [77,65,88])))]),mv 4 0,ca 5 58 [3,4],mv 2 5],.ret]) [Ss] _ Go.Proofs.Tryd.func47 (by kernel_rfl) (by kernel_rfl) (by kernel_rfl) (fun _ _ => by kernel_rfl)
def A26 := mkA [(zEx1,[0]),(Sb,[2,4,10,11,14,15,18,19,23,24,25,28,29,30,31,32,35,36,38,39,42,43,44,47,48,49,53,54,55,56,58,59,62,63,64,67,68,69,72,73,76,77,78,79,80,82,83,86,87,90,91,92,93,94,96,97,101,102,103,104,106,107,110,111,114,115,116,117,118,120,121,124,125,126,128,129,132,133,134]),(Si,[3,7,17,27,34,37,52,57,81,95,100,105,119,127]),(Ss,[9,13,41,61,66,71,75,85,89,99,109,113,123,131]),(.agg [Si,Si,Ss],[21,22,46])]
noncomputable def x26 (lf:Nat):Cx Go.Proofs.Tryd.prog := .c (.c (.c (.c .o (W22_ok lf)) (W45_ok lf)) (W46_ok lf)) (W47_ok lf)
noncomputable def S26_0 (lf:Nat) (e:V) (column:Bool) (h:List Ob):SubR :=
bind1 (er (.faddr 0 (.c e)) h) fun x16 =>
bind1 (er (.load1 (.c x16)) h) fun v =>
castInt .i64 v fun x17 =>
cB (x17 != (1)) (
bind1 (er (.faddr 2 (.c e)) h) fun x20 =>
bind1 (er (.loadN 3 (.c x20)) h) fun v1 =>
castAgg v1 fun l =>
castCons l fun c l1 =>
castInt .i64 c fun x21_0 =>
castCons l1 fun c1 l2 =>
castInt .i64 c1 fun x21_1 =>
castCons l2 fun c2 l3 =>
castStr c2 fun x21_2 =>
castNil l3 (
bind1 (er (.build [(.int .i64 0),(.int .i64 0),(.str [])] []) h) fun v2 =>
castAgg v2 fun l4 =>
castCons l4 fun c3 l5 =>
castInt .i64 c3 fun x22_0 =>
castCons l5 fun c4 l6 =>
castInt .i64 c4 fun x22_1 =>
castCons l6 fun c5 l7 =>
castStr c5 fun x22_2 =>
castNil l7 (
bind1 (er (.eq true (.struct 3 [(0,.i),(1,.i),(2,.s)]) (.c (.agg [(.int .i64 x21_0),(.int .i64 x21_1),(.str x21_2)])) (.c (.agg [(.int .i64 x22_0),(.int .i64 x22_1),(.str x22_2)]))) h) fun v3 =>
castBool v3 fun x23 =>
cB x23 (
some (.ret,[(.bool false)],h)) (
bind1 (er (.faddr 0 (.c e)) h) fun x26 =>
bind1 (er (.load1 (.c x26)) h) fun v4 =>
castInt .i64 v4 fun x27 =>
cB (x27 != (2)) (
cB column (
some (.ret,[(.bool false)],h)) (
some (.normal,[],h))) (
some (.normal,[],h)))))) (
bind1 (er (.faddr 0 (.c e)) h) fun x26 =>
bind1 (er (.load1 (.c x26)) h) fun v1 =>
castInt .i64 v1 fun x27 =>
cB (x27 != (2)) (
cB column (
some (.ret,[(.bool false)],h)) (
some (.normal,[],h))) (
some (.normal,[],h)))
noncomputable def p26_0 (lf:Nat):Pt Go.Proofs.Tryd.prog := .of A26 (x26 lf) [] (sq [.reg [fa 16 0 1,l1 17 16,o 18 (.bin .neq 17 (ci 1)),mv 19 18,oT 20 19 (.faddr 2 1),oT 21 19 (.loadN 3 20),oT 22 19 (.build [(.int .i64 0),(.int .i64 0),(.str [])] []),oT 23 19 (.eq true (.struct 3 [(0,.i),(1,.i),(2,.s)]) 21 22),o 24 (.pick 19 23 cF),mv 25 24,oF 26 25 (.faddr 0 1),oF 27 25 (.load1 26),oF 28 25 (.bin .neq 27 (ci 2)),oF 29 25 (.mv 28),oT 30 29 (.mv 4),oF 31 25 (.pick 29 30 cF),o 32 (.pick 25 cT 31)],.cond 32 (sq [.reg [mv 2 cF],.ret]) .skip]) [Sa,Sb] [1,4] [(.ret,[2],[Sb]),(.normal,[],[])] (S26_0 lf) (fun _ _ _ => by kernel_rfl)
noncomputable def S26_1 (lf:Nat) (e:V) (h:List Ob):SubR :=
bind1 (er (.faddr 5 (.c e)) h) fun x8 =>
bind1 (er (.load1 (.c x8)) h) fun v =>
castStr v fun x9 =>
cB (!(x9 == ([]:List UInt8))) (
some (.normal,[(.bool true)],h)) (
bind1 (er (.faddr 6 (.c e)) h) fun x12 =>
bind1 (er (.load1 (.c x12)) h) fun v1 =>
castStr v1 fun x13 =>
some (.normal,[(.bool (!(x13 == ([]:List UInt8))))],h))
noncomputable def p26_1 (lf:Nat):Pt Go.Proofs.Tryd.prog := .of A26 (x26 lf) [] (.reg [fa 8 5 1,l1 9 8,o 10 (.bin .neq 9 (.c (.str []))),mv 11 10,oF 12 11 (.faddr 6 1),oF 13 11 (.load1 12),oF 14 11 (.bin .neq 13 (.c (.str []))),o 15 (.pick 11 cT 14),mv 4 15]) [Sa] [1] [(.normal,[4],[Sb])] (S26_1 lf) (fun _ _ => by kernel_rfl)
noncomputable def F26 (lf:Nat) (e:Int) (e1:List UInt8) (e2:Int) (e3:Int) (e4:List UInt8) (e5:List UInt8) (e6:List UInt8) (e7:V) (h:List Ob):Option (V × List Ob) :=
bind2 (ev (.box false (.c (.agg [(.int .i64 e),(.str e1),(.int .i64 e2),(.int .i64 e3),(.str e4),(.str e5),(.str e6),e7]))) h) fun e8 h_ =>
bind1 (er (.faddr 7 (.c e8)) h_) fun x5 =>
bind1 (er (.load1 (.c x5)) h_) fun x6 =>
bind1 (er (.lenL (.c x6)) h_) fun v =>
castInt .i64 v fun x7 =>
bind3 (S26_1 lf e8 h_) fun ex vs h_1 =>
cB (decide (ex = .normal)) (
castCons vs fun c l =>
castBool c fun column =>
castNil l (
bind3 (S26_0 lf e8 column h_1) fun ex1 vs1 h_2 =>
cB (decide (ex1 = .ret)) (
castCons vs1 fun c1 l1 =>
castBool c1 fun x2 =>
castNil l1 (
some ((.bool x2),h_2))) (
cB (decide (ex1 = .normal)) (
castNil vs1 (
bind1 (er (.faddr 0 (.c e8)) h_2) fun x33 =>
bind1 (er (.load1 (.c x33)) h_2) fun v1 =>
castInt .i64 v1 fun x34 =>
cB (x34 == (1)) (
cB (x7 == (0)) (
bind1 (er (.faddr 1 (.c e8)) h_2) fun x40 =>
bind1 (er (.load1 (.c x40)) h_2) fun v2 =>
castStr v2 fun x41 =>
cB (x41 == ([]:List UInt8)) (
bind1 (er (.faddr 2 (.c e8)) h_2) fun x45 =>
bind1 (er (.loadN 3 (.c x45)) h_2) fun v3 =>
castAgg v3 fun l1 =>
castCons l1 fun c1 l2 =>
castInt .i64 c1 fun x46_0 =>
castCons l2 fun c2 l3 =>
castInt .i64 c2 fun x46_1 =>
castCons l3 fun c3 l4 =>
castStr c3 fun x46_2 =>
castNil l4 (
bind2 (F45 lf x46_0 x46_1 x46_2 h_2) fun v4 h_3 =>
castBool v4 fun x47 =>
cB x47 (
bind1 (er (.faddr 2 (.c e8)) h_3) fun x50 =>
bind1 (er (.faddr 1 (.c x50)) h_3) fun x51 =>
bind1 (er (.load1 (.c x51)) h_3) fun v5 =>
castInt .i64 v5 fun x52 =>
some ((.bool (decide (x52 ≥ (0)))),h_3)) (
some ((.bool false),h_3)))) (
some ((.bool false),h_2))) (
some ((.bool false),h_2))) (
cB (x34 == (2)) (
cB (x7 == (0)) (
bind1 (er (.faddr 1 (.c e8)) h_2) fun x60 =>
bind1 (er (.load1 (.c x60)) h_2) fun v2 =>
castStr v2 fun x61 =>
cB (x61 == ([]:List UInt8)) (
bind1 (er (.faddr 6 (.c e8)) h_2) fun x65 =>
bind1 (er (.load1 (.c x65)) h_2) fun v3 =>
castStr v3 fun x66 =>
bind2 (F46 lf x66 h_2) fun v4 h_3 =>
castBool v4 fun x67 =>
cB x67 (
bind1 (er (.faddr 5 (.c e8)) h_3) fun x70 =>
bind1 (er (.load1 (.c x70)) h_3) fun v5 =>
castStr v5 fun x71 =>
cB (x71 == ([]:List UInt8)) (
some ((.bool true),h_3)) (
bind1 (er (.faddr 5 (.c e8)) h_3) fun x74 =>
bind1 (er (.load1 (.c x74)) h_3) fun v6 =>
castStr v6 fun x75 =>
bind2 (F46 lf x75 h_3) fun v7 h_4 =>
castBool v7 fun x76 =>
some ((.bool x76),h_4))) (
some ((.bool false),h_3))) (
some ((.bool false),h_2))) (
some ((.bool false),h_2))) (
cB (x34 == (3)) (
cB (x7 == (1)) (
bind1 (er (.faddr 1 (.c e8)) h_2) fun x84 =>
bind1 (er (.load1 (.c x84)) h_2) fun v2 =>
castStr v2 fun x85 =>
cB (x85 == [78,79,84]) (
some ((.bool true),h_2)) (
bind1 (er (.faddr 1 (.c e8)) h_2) fun x88 =>
bind1 (er (.load1 (.c x88)) h_2) fun v3 =>
castStr v3 fun x89 =>
some ((.bool (x89 == [45])),h_2))) (
some ((.bool false),h_2))) (
cB (x34 == (4)) (
cB (x7 == (2)) (
bind1 (er (.faddr 1 (.c e8)) h_2) fun x98 =>
bind1 (er (.load1 (.c x98)) h_2) fun v2 =>
castStr v2 fun x99 =>
bind2 (F22 lf x99 h_2) fun v3 h_3 =>
castInt .i64 v3 fun x100 =>
some ((.bool (x100 != (7))),h_3)) (
some ((.bool false),h_2))) (
cB (x34 == (5)) (
cB (x7 == (1)) (
bind1 (er (.faddr 1 (.c e8)) h_2) fun x108 =>
bind1 (er (.load1 (.c x108)) h_2) fun v2 =>
castStr v2 fun x109 =>
cB (x109 == [73,83,32,78,85,76,76]) (
some ((.bool true),h_2)) (
bind1 (er (.faddr 1 (.c e8)) h_2) fun x112 =>
bind1 (er (.load1 (.c x112)) h_2) fun v3 =>
castStr v3 fun x113 =>
some ((.bool (x113 == [73,83,32,78,79,84,32,78,85,76,76])),h_2))) (
some ((.bool false),h_2))) (
cB (x34 == (6)) (
cB (x7 == (0)) (
bind1 (er (.faddr 1 (.c e8)) h_2) fun x122 =>
bind1 (er (.load1 (.c x122)) h_2) fun v2 =>
castStr v2 fun x123 =>
cB (x123 == [67,79,85,78,84]) (
some ((.bool true),h_2)) (
cB (x7 == (1)) (
bind1 (er (.faddr 1 (.c e8)) h_2) fun x130 =>
bind1 (er (.load1 (.c x130)) h_2) fun v3 =>
castStr v3 fun x131 =>
bind2 (F47 lf x131 h_2) fun v4 h_3 =>
castBool v4 fun x132 =>
some ((.bool x132),h_3)) (
some ((.bool false),h_2)))) (
cB (x7 == (1)) (
bind1 (er (.faddr 1 (.c e8)) h_2) fun x130 =>
bind1 (er (.load1 (.c x130)) h_2) fun v2 =>
castStr v2 fun x131 =>
bind2 (F47 lf x131 h_2) fun v3 h_3 =>
castBool v3 fun x132 =>
some ((.bool x132),h_3)) (
some ((.bool false),h_2)))) (
some ((.bool false),h_2))))))))) (
none)))) (
none)
noncomputable def W26 (lf:Nat):List V → List Ob → Option (V × List Ob) := wG [zEx1] (F26 lf)
theorem W26_ok (lf:Nat):WOk Go.Proofs.Tryd.prog 26 (W26 lf) := FOk 135 [(.t 2)] A26 (x26 lf) [p26_1 lf,p26_0 lf] (sq [.reg [o 1 (.box false 0),mv 2 cF],.reg [fa 5 7 1,l1 6 5,o 7 (.lenL 6),mv 3 7],.sub 0,.sub 1,sq [.reg [fa 33 0 1,l1 34 33],.block 0 (sq [.reg [o 36 (.bin .eql 34 (ci 1)),mv 35 36],.cond 35 (sq [.reg [mv 37 3,o 38 (.bin .eql 37 (ci 0)),mv 39 38,oT 40 39 (.faddr 1 1),oT 41 39 (.load1 40),oT 42 39 (.bin .eql 41 (.c (.str []))),o 43 (.pick 39 42 cF),mv 44 43,oT 45 44 (.faddr 2 1),oT 46 44 (.loadN 3 45),caT 47 44 45 [46],o 48 (.pick 44 47 cF),mv 49 48,oT 50 49 (.faddr 2 1),oT 51 49 (.faddr 1 50),oT 52 49 (.load1 51),oT 53 49 (.bin .geq 52 (ci 0)),o 54 (.pick 49 53 cF),mv 2 54],.ret]) (sq [.reg [o 56 (.bin .eql 34 (ci 2)),mv 55 56],.cond 55 (sq [.reg [mv 57 3,o 58 (.bin .eql 57 (ci 0)),mv 59 58,oT 60 59 (.faddr 1 1),oT 61 59 (.load1 60),oT 62 59 (.bin .eql 61 (.c (.str []))),o 63 (.pick 59 62 cF),mv 64 63,oT 65 64 (.faddr 6 1),oT 66 64 (.load1 65),caT 67 64 46 [66],o 68 (.pick 64 67 cF),mv 69 68,oT 70 69 (.faddr 5 1),oT 71 69 (.load1 70),oT 72 69 (.bin .eql 71 (.c (.str []))),oT 73 69 (.mv 72),oF 74 73 (.faddr 5 1),oF 75 73 (.load1 74),caF 76 73 46 [75],oT 77 69 (.pick 73 cT 76),o 78 (.pick 69 77 cF),mv 2 78],.ret]) (sq [.reg [o 80 (.bin .eql 34 (ci 3)),mv 79 80],.cond 79 (sq [.reg [mv 81 3,o 82 (.bin .eql 81 (ci 1)),mv 83 82,oT 84 83 (.faddr 1 1),oT 85 83 (.load1 84),oT 86 83 (.bin .eql 85 (.c (.str [78,79,84]))),oT 87 83 (.mv 86),oF 88 87 (.faddr 1 1),oF 89 87 (.load1 88),oF 90 87 (.bin .eql 89 (.c (.str [45]))),oT 91 83 (.pick 87 cT 90),o 92 (.pick 83 91 cF),mv 2 92],.ret]) (sq [.reg [o 94 (.bin .eql 34 (ci 4)),mv 93 94],.cond 93 (sq [.reg [mv 95 3,o 96 (.bin .eql 95 (ci 2)),mv 97 96,oT 98 97 (.faddr 1 1),oT 99 97 (.load1 98),caT 100 97 22 [99],oT 101 97 (.bin .neq 100 (ci 7)),o 102 (.pick 97 101 cF),mv 2 102],.ret]) (sq [.reg [o 104 (.bin .eql 34 (ci 5)),mv 103 104],.cond 103 (sq [.reg [mv 105 3,o 106 (.bin .eql 105 (ci 1)),mv 107 106,oT 108 107 (.faddr 1 1),oT 109 107 (.load1 108),oT 110 107 (.bin .eql 109 (.c (.str [73,83,32,78,85,76,76]))),oT 111 107 (.mv 110),oF 112 111 (.faddr 1 1),oF 113 111 (.load1 112),oF 114 111 (.bin .eql 113 (.c (.str [73,83,32,78,79,84,32,78,85,76,76]))),oT 115 107 (.pick 111 cT 114),o 116 (.pick 107 115 cF),mv 2 116],.ret]) (sq [.reg [o 118 (.bin .eql 34 (ci 6)),mv 117 118],.cond 117 (sq [.reg [mv 119 3,o 120 (.bin .eql 119 (ci 0)),mv 121 120,oT 122 121 (.faddr 1 1),oT 123 121 (.load1 122),oT 124 121 (.bin .eql 123 (.c (.str [67,79,85,78,84]))),o 125 (.pick 121 124 cF),mv 126 125,oF 127 126 (.mv 3),oF 128 126 (.bin .eql 127 (ci 1)),oF 129 126 (.mv 128),oT 130 129 (.faddr 1 1),oT 131 129 (.load1 130),caT 132 129 47 [131],oF 133 126 (.pick 129 132 cF),o 134 (.pick 126 cT 133),mv 2 134],.ret]) .skip])])])])])])],.reg [mv 2 cF],.ret]) [zEx1] _ Go.Proofs.Tryd.func26 (by kernel_rfl) (by kernel_rfl) (by kernel_rfl) (fun _ _ _ _ _ _ _ _ _ => by kernel_rfl)
def A48 := mkA [(Si,[4,5,7,8,10,13,17,18]),(Sb,[9,16]),(zEx1,[15])]
noncomputable def x48 (lf:Nat) (cv:CallVS) (hcv:CvOk Go.Proofs.Tryd.prog cv):Cx Go.Proofs.Tryd.prog := .v .o hcv
noncomputable def B48_0 (lf:Nat) (cv:CallVS) (self:V → V → Int → Int → List Ob → SubR) (s:V) (f:V) (x7:Int) (x8:Int) (h:List Ob):SubR :=
cB (decide (x8 < x7)) (
bind1 (er (.iaddrL 8 (.c s) (.c (.int .i64 x8))) h) fun x14 =>
bind1 (er (.loadN 8 (.c x14)) h) fun v =>
castAgg v fun l =>
castCons l fun c l1 =>
castInt .i64 c fun x15_0 =>
castCons l1 fun c1 l2 =>
castStr c1 fun x15_1 =>
castCons l2 fun c2 l3 =>
castInt .i64 c2 fun x15_2 =>
castCons l3 fun c3 l4 =>
castInt .i64 c3 fun x15_3 =>
castCons l4 fun c4 l5 =>
castStr c4 fun x15_4 =>
castCons l5 fun c5 l6 =>
castStr c5 fun x15_5 =>
castCons l6 fun c6 l7 =>
castStr c6 fun x15_6 =>
castCons l7 fun x15_7 l8 =>
castNil l8 (
bind2 (cv f [(.agg [(.int .i64 x15_0),(.str x15_1),(.int .i64 x15_2),(.int .i64 x15_3),(.str x15_4),(.str x15_5),(.str x15_6),x15_7])] h) fun v1 h_ =>
castBool v1 fun x16 =>
cB x16 (
some (.ret,[(.int .i64 x8)],h_)) (
self s f x7 (IntKind.i64.wrap (x8 + (1))) h_))) (
some ((.exit 0),[],h))
noncomputable def L48_0 (lf:Nat) (cv:CallVS):Nat → V → V → Int → Int → List Ob → SubR
  | 0 => fun _ _ _ _ _ => none
  | n + 1 => B48_0 lf cv (L48_0 lf cv n)
noncomputable def p48_0 (lf:Nat) (cv:CallVS) (hcv:CvOk Go.Proofs.Tryd.prog cv):Pt Go.Proofs.Tryd.prog := .loop A48 (x48 lf cv hcv) [] (sq [.reg [o 9 (.bin .lss 8 7)],.cond 9 .skip (.exit 0),.block 1 (sq [.reg [mv 10 8,mv 5 10],.reg [mv 11 1,mv 12 0,mv 13 5,o 14 (.iaddrL 8 12 13),ln 15 8 14,cw 16 11 [15]],.cond 16 (sq [.reg [mv 17 5,mv 4 17],.ret]) .skip]),.reg [o 18 (.bin .add 8 (ci 1)),mv 8 18]]) [Sa,Sa,Si,Si] [0,1,7,8] [((.exit 0),[],[]),(.ret,[4],[Si])] (B48_0 lf cv) (L48_0 lf cv) (fun _ _ _ _ _ => rfl) (fun _ => rfl) (fun _ _ _ _ _ _ => by kernel_rfl) lf
noncomputable def F48 (lf:Nat) (cv:CallVS) (s:V) (f:V) (h:List Ob):Option (V × List Ob) :=
bind1 (er (.lenL (.c s)) h) fun v =>
castInt .i64 v fun x7 =>
bind3 (L48_0 lf cv lf s f x7 (0) h) fun ex vs h_ =>
cB (decide (ex = (.exit 0))) (
castNil vs (
some ((.int .i64 (-1)),h_))) (
cB (decide (ex = .ret)) (
castCons vs fun c l =>
castInt .i64 c fun x4 =>
castNil l (
some ((.int .i64 x4),h_))) (
none))
noncomputable def W48 (lf:Nat) (cv:CallVS):List V → List Ob → Option (V × List Ob) := wG [Sa,Sa] (F48 lf cv)
theorem W48_ok (lf:Nat) (cv:CallVS) (hcv:CvOk Go.Proofs.Tryd.prog cv):WOk Go.Proofs.Tryd.prog 48 (W48 lf cv) := FOk 19 [(.t 4)] A48 (x48 lf cv hcv) [p48_0 lf cv hcv] (sq [.reg [mv 4 (ci 0)],sq [.reg [mv 6 0,o 7 (.lenL 6),mv 8 (ci 0)],.block 0 (.sub 0)],.reg [mv 4 (ci (-1))],.ret]) [Sa,Sa] _ Go.Proofs.Tryd.func48 (by kernel_rfl) (by kernel_rfl) (by kernel_rfl) (fun _ _ _ => by kernel_rfl)
def A27 := mkA [(Sb,[4,8]),(Si,[7])]
noncomputable def x27 (lf:Nat) (cv:CallVS) (hcv:CvOk Go.Proofs.Tryd.prog cv):Cx Go.Proofs.Tryd.prog := .v (.c .o (W48_ok lf cv hcv)) hcv
noncomputable def F27 (lf:Nat) (cv:CallVS) (s:V) (f:V) (h:List Ob):Option (V × List Ob) :=
bind2 (F48 lf cv s f h) fun v h_ =>
castInt .i64 v fun x7 =>
some ((.bool (decide (x7 ≥ (0)))),h_)
noncomputable def W27 (lf:Nat) (cv:CallVS):List V → List Ob → Option (V × List Ob) := wG [Sa,Sa] (F27 lf cv)
theorem W27_ok (lf:Nat) (cv:CallVS) (hcv:CvOk Go.Proofs.Tryd.prog cv):WOk Go.Proofs.Tryd.prog 27 (W27 lf cv) := FOk 9 [(.t 4)] A27 (x27 lf cv hcv) [] (sq [.reg [mv 4 cF],.reg [mv 5 0,mv 6 1,ca 7 48 [5,6],o 8 (.bin .geq 7 (ci 0)),mv 4 8],.ret]) [Sa,Sa] _ Go.Proofs.Tryd.func27 (by kernel_rfl) (by kernel_rfl) (by kernel_rfl) (fun _ _ _ => by kernel_rfl)
def A28 := mkA [(zEx1,[0,4]),(Sb,[3,7,8]),(Si,[5,6])]
noncomputable def x28 (lf:Nat) (rc:CallS) (hrc:CallOk Go.Proofs.Tryd.prog rc):Cx Go.Proofs.Tryd.prog := .r .o hrc
noncomputable def F28 (lf:Nat) (rc:CallS) (p:Int) (p1:List UInt8) (p2:Int) (p3:Int) (p4:List UInt8) (p5:List UInt8) (p6:List UInt8) (p7:V) (x1:V) (h:List Ob):Option (V × List Ob) :=
bind2 (ev (.box false (.c (.agg [(.int .i64 p),(.str p1),(.int .i64 p2),(.int .i64 p3),(.str p4),(.str p5),(.str p6),p7]))) h) fun p8 h_ =>
bind1 (er (.loadN 8 (.c p8)) h_) fun v =>
castAgg v fun l =>
castCons l fun c l1 =>
castInt .i64 c fun x4_0 =>
castCons l1 fun c1 l2 =>
castStr c1 fun x4_1 =>
castCons l2 fun c2 l3 =>
castInt .i64 c2 fun x4_2 =>
castCons l3 fun c3 l4 =>
castInt .i64 c3 fun x4_3 =>
castCons l4 fun c4 l5 =>
castStr c4 fun x4_4 =>
castCons l5 fun c5 l6 =>
castStr c5 fun x4_5 =>
castCons l6 fun c6 l7 =>
castStr c6 fun x4_6 =>
castCons l7 fun x4_7 l8 =>
castNil l8 (
bind1 (er (.load1 (.c x1)) h_) fun v1 =>
castInt .i64 v1 fun x5 =>
bind2 (rc 19 [(.agg [(.int .i64 x4_0),(.str x4_1),(.int .i64 x4_2),(.int .i64 x4_3),(.str x4_4),(.str x4_5),(.str x4_6),x4_7]),(.int .i64 (IntKind.i64.wrap (x5 - (1))))] h_) fun v2 h_1 =>
castBool v2 fun x7 =>
some ((.bool (!x7)),h_1))
noncomputable def W28 (lf:Nat) (rc:CallS):List V → List Ob → Option (V × List Ob) := wG [zEx1,Sa] (F28 lf rc)
theorem W28_ok (lf:Nat) (rc:CallS) (hrc:CallOk Go.Proofs.Tryd.prog rc):WOk Go.Proofs.Tryd.prog 28 (W28 lf rc) := FOk 9 [(.t 3)] A28 (x28 lf rc hrc) [] (sq [.reg [o 2 (.box false 0),mv 3 cF],.reg [ln 4 8 2,l1 5 1,o 6 (.bin .sub 5 (ci 1)),ca 7 19 [4,6],o 8 (.un .not 7),mv 3 8],.ret]) [zEx1,Sa] _ Go.Proofs.Tryd.func28 (by kernel_rfl) (by kernel_rfl) (by kernel_rfl) (fun _ _ _ _ _ _ _ _ _ _ => by kernel_rfl)
noncomputable def cv19 (lf:Nat) (rc:CallS):CallVS := cvC 28 (rc 28) (cvN)
theorem cv19_ok (lf:Nat) (rc:CallS) (hrc:CallOk Go.Proofs.Tryd.prog rc):CvOk Go.Proofs.Tryd.prog (cv19 lf rc) := cvC_ok (hrc 28) (cvN_ok)
def A19 := mkA [(zEx1,[0,8]),(Si,[1,5]),(Sb,[4,6,7,9,10,11,15,16,17])]
noncomputable def x19 (lf:Nat) (rc:CallS) (hrc:CallOk Go.Proofs.Tryd.prog rc):Cx Go.Proofs.Tryd.prog := .v (.c (.c (.r .o hrc) (W26_ok lf)) (W27_ok lf (cv19 lf rc) (cv19_ok lf rc hrc))) (cv19_ok lf rc hrc)
noncomputable def F19 (lf:Nat) (rc:CallS) (e:Int) (e1:List UInt8) (e2:Int) (e3:Int) (e4:List UInt8) (e5:List UInt8) (e6:List UInt8) (e7:V) (most:Int) (h:List Ob):Option (V × List Ob) :=
bind2 (ev (.box false (.c (.agg [(.int .i64 e),(.str e1),(.int .i64 e2),(.int .i64 e3),(.str e4),(.str e5),(.str e6),e7]))) h) fun e8 h_ =>
bind2 (ev (.box false (.c (.int .i64 most))) h_) fun most1 h_1 =>
bind1 (er (.load1 (.c most1)) h_1) fun v =>
castInt .i64 v fun x5 =>
cB (decide (x5 > (0))) (
bind1 (er (.loadN 8 (.c e8)) h_1) fun v1 =>
castAgg v1 fun l =>
castCons l fun c l1 =>
castInt .i64 c fun x8_0 =>
castCons l1 fun c1 l2 =>
castStr c1 fun x8_1 =>
castCons l2 fun c2 l3 =>
castInt .i64 c2 fun x8_2 =>
castCons l3 fun c3 l4 =>
castInt .i64 c3 fun x8_3 =>
castCons l4 fun c4 l5 =>
castStr c4 fun x8_4 =>
castCons l5 fun c5 l6 =>
castStr c5 fun x8_5 =>
castCons l6 fun c6 l7 =>
castStr c6 fun x8_6 =>
castCons l7 fun x8_7 l8 =>
castNil l8 (
bind2 (F26 lf x8_0 x8_1 x8_2 x8_3 x8_4 x8_5 x8_6 x8_7 h_1) fun v2 h_2 =>
castBool v2 fun x9 =>
cB x9 (
bind1 (er (.faddr 7 (.c e8)) h_2) fun x12 =>
bind1 (er (.load1 (.c x12)) h_2) fun x13 =>
bind2 (F27 lf (cv19 lf rc) x13 (.fn 28 [most1]) h_2) fun v3 h_3 =>
castBool v3 fun x15 =>
some ((.bool (!x15)),h_3)) (
some ((.bool false),h_2)))) (
some ((.bool false),h_1))
noncomputable def W19 (lf:Nat) (rc:CallS):List V → List Ob → Option (V × List Ob) := wG [zEx1,Si] (F19 lf rc)
theorem W19_ok (lf:Nat) (rc:CallS) (hrc:CallOk Go.Proofs.Tryd.prog rc):WOk Go.Proofs.Tryd.prog 19 (W19 lf rc) := FOk 18 [(.t 4)] A19 (x19 lf rc hrc) [] (sq [.reg [o 2 (.box false 0),o 3 (.box false 1),mv 4 cF],.reg [l1 5 3,o 6 (.bin .gtr 5 (ci 0)),mv 7 6,oT 8 7 (.loadN 8 2),caT 9 7 26 [8],o 10 (.pick 7 9 cF),mv 11 10,oT 12 11 (.faddr 7 2),oT 13 11 (.load1 12),oT 14 11 (.mkfn 28 [3]),caT 15 11 27 [13,14],oT 16 11 (.un .not 15),o 17 (.pick 11 16 cF),mv 4 17],.ret]) [zEx1,Si] _ Go.Proofs.Tryd.func19 (by kernel_rfl) (by kernel_rfl) (by kernel_rfl) (fun _ _ _ _ _ _ _ _ _ _ => by kernel_rfl)
noncomputable def R19 (lf:Nat):Nat → CallS
  | 0 => callN
  | n + 1 => callC 19 (W19 lf (R19 lf n)) (callC 28 (W28 lf (R19 lf n)) (callN))
theorem R19_ok (lf:Nat):∀ n,CallOk Go.Proofs.Tryd.prog (R19 lf n)
  | 0 => callN_ok
  | n + 1 => callC_ok (W19_ok lf (R19 lf n) (R19_ok lf n)) (callC_ok (W28_ok lf (R19 lf n) (R19_ok lf n)) (callN_ok))
end Go.Proofs.YtjpjeilfmjdhcaaDoor.Ex
