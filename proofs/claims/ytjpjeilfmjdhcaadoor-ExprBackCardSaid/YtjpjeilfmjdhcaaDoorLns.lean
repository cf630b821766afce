/- Functions of the program as Lean functions, and that each call comes to what its function says. Printed by my own tool. No condition. -/
import Derived.Test.YtjpjeilfmjdhcaaDoorProg
import Derived.Test.YtjpjeilfmjdhcaaDoorL4
namespace Go.Proofs.YtjpjeilfmjdhcaaDoor.Ln
open Go Go.Proofs.YtjpjeilfmjdhcaaDoor.E
open Go.Proofs.YtjpjeilfmjdhcaaDoor.E.K
set_option maxRecDepth 100000
set_option linter.unusedVariables false
def A32 := mkA [(Ss,[0,1,5,7,11,12,14,15]),(Sb,[4,9,10,16,17]),(Si,[6,8,13])]
noncomputable def x32 (lf:Nat):Cx Go.Proofs.Tryd.prog := .o
noncomputable def F32 (lf:Nat) (s:List UInt8) (prefix_:List UInt8) (h:List Ob):Option (V × List Ob) :=
cB (decide (((s).length:Int) ≥ ((prefix_).length:Int))) (
bind1 (er (.slcS (.c (.str s)) none (some (.c (.int .i64 ((prefix_).length:Int))))) h) fun v =>
castStr v fun x14 =>
some ((.bool (x14 == prefix_)),h)) (
some ((.bool false),h))
noncomputable def W32 (lf:Nat):List V → List Ob → Option (V × List Ob) := wG [Ss,Ss] (F32 lf)
theorem W32_ok (lf:Nat):WOk Go.Proofs.Tryd.prog 32 (W32 lf) := FOk 18 [(.t 4)] A32 (x32 lf) [] (sq [.reg [mv 4 cF],.reg [mv 5 0,o 6 (.lenS 5),mv 7 1,o 8 (.lenS 7),o 9 (.bin .geq 6 8),mv 10 9,oT 11 10 (.mv 0),oT 12 10 (.mv 1),oT 13 10 (.lenS 12),oT 14 10 (.slcS 11 none (some 13)),oT 15 10 (.mv 1),oT 16 10 (.bin .eql 14 15),o 17 (.pick 10 16 cF),mv 4 17],.ret]) [Ss,Ss] _ Go.Proofs.Tryd.func32 (by kernel_rfl) (by kernel_rfl) (by kernel_rfl) (fun _ _ _ => by kernel_rfl)
def A23 := mkA [(Ss,[0,1,5,6]),(Sb,[4,7])]
noncomputable def x23 (lf:Nat):Cx Go.Proofs.Tryd.prog := .c .o (W32_ok lf)
noncomputable def F23 (lf:Nat) (s:List UInt8) (prefix_:List UInt8) (h:List Ob):Option (V × List Ob) :=
bind2 (F32 lf s prefix_ h) fun v h_ =>
castBool v fun x7 =>
some ((.bool x7),h_)
noncomputable def W23 (lf:Nat):List V → List Ob → Option (V × List Ob) := wG [Ss,Ss] (F23 lf)
theorem W23_ok (lf:Nat):WOk Go.Proofs.Tryd.prog 23 (W23 lf) := FOk 8 [(.t 4)] A23 (x23 lf) [] (sq [.reg [mv 4 cF],.reg [mv 5 0,mv 6 1,ca 7 32 [5,6],mv 4 7],.ret]) [Ss,Ss] _ Go.Proofs.Tryd.func23 (by kernel_rfl) (by kernel_rfl) (by kernel_rfl) (fun _ _ _ => by kernel_rfl)
def A36 := mkA [(.agg [Si,Ss,Si],[1,11]),(Sb,[2,16,17,18,22,28]),(Si,[27])]
noncomputable def x36 (lf:Nat):Cx Go.Proofs.Tryd.prog := .o
noncomputable def F36 (lf:Nat) (x:V) (w:Int) (w1:List UInt8) (w2:Int) (ok:Bool) (h:List Ob):Option (V × List Ob) :=
bind2 (ev (.box false (.c (.agg [(.int .i64 w),(.str w1),(.int .i64 w2)]))) h) fun w3 h_ =>
cB (!ok) (
bind1 (er (.nilck (.c x)) h_) fun x20 =>
bind1 (er (.faddr 2 (.c x20)) h_) fun x21 =>
bind2 (ev (.store 1 (.c x21) (.c (.int .i64 (3)))) h_) fun u h_1 =>
some ((.tup []),h_1)) (
bind1 (er (.nilck (.c x)) h_) fun x24 =>
bind1 (er (.faddr 1 (.c x24)) h_) fun x25 =>
bind1 (er (.load1 (.c x25)) h_) fun x26 =>
bind1 (er (.lenL (.c x26)) h_) fun v =>
castInt .i64 v fun x27 =>
cB (x27 == (600)) (
bind1 (er (.nilck (.c x)) h_) fun x30 =>
bind1 (er (.faddr 2 (.c x30)) h_) fun x31 =>
bind2 (ev (.store 1 (.c x31) (.c (.int .i64 (5)))) h_) fun u h_1 =>
some ((.tup []),h_1)) (
bind1 (er (.nilck (.c x)) h_) fun x8 =>
bind1 (er (.faddr 1 (.c x8)) h_) fun x9 =>
bind1 (er (.load1 (.c x9)) h_) fun x10 =>
bind1 (er (.loadN 3 (.c w3)) h_) fun v1 =>
castAgg v1 fun l =>
castCons l fun c l1 =>
castInt .i64 c fun x11_0 =>
castCons l1 fun c1 l2 =>
castStr c1 fun x11_1 =>
castCons l2 fun c2 l3 =>
castInt .i64 c2 fun x11_2 =>
castNil l3 (
bind2 (ev (.bslice 3 (.agg [(.int .i64 0),(.str []),(.int .i64 0)]) 1 [(0,(.c (.agg [(.int .i64 x11_0),(.str x11_1),(.int .i64 x11_2)])))]) h_) fun x12 h_1 =>
reP (er (.load1 (.c x9)) h_1 = some x10) (
reP (er (.faddr 1 (.c x8)) h_1 = some x9) (
reP (er (.nilck (.c x)) h_1 = some x8) (
bind2 (ev (.app 3 32 (.c x10) (.c x12)) h_1) fun x13 h_2 =>
bind1 (er (.nilck (.c x)) h_2) fun x14 =>
bind1 (er (.faddr 1 (.c x14)) h_2) fun x15 =>
bind2 (ev (.store 1 (.c x15) (.c x13)) h_2) fun u h_3 =>
some ((.tup []),h_3)))))))
noncomputable def W36 (lf:Nat):List V → List Ob → Option (V × List Ob) := wG [Sa,.agg [Si,Ss,Si],Sb] (F36 lf)
theorem W36_ok (lf:Nat):WOk Go.Proofs.Tryd.prog 36 (W36 lf) := FOk 32 [] A36 (x36 lf) [] (sq [.reg [o 4 (.box false 1)],.block 0 (sq [.reg [mv 17 2,o 18 (.un .not 17),mv 16 18],.cond 16 (.reg [mv 19 0,nk 20 19,fa 21 2 20,st 1 21 (ci 3)]) (sq [.reg [mv 23 0,nk 24 23,fa 25 1 24,l1 26 25,o 27 (.lenL 26),o 28 (.bin .eql 27 (ci 600)),mv 22 28],.cond 22 (.reg [mv 29 0,nk 30 29,fa 31 2 30,st 1 31 (ci 5)]) (.reg [mv 6 0,mv 7 0,nk 8 7,fa 9 1 8,l1 10 9,ln 11 3 4,⟨(some 12),none,(.op (.bslice 3 (.agg [(.int .i64 0),(.str []),(.int .i64 0)]) 1 [(0,(.t 11))])),[⟨(some 10),none,(.op (.load1 (.t 9)))⟩,⟨(some 9),none,(.op (.faddr 1 (.t 8)))⟩,⟨(some 8),none,(.op (.nilck (.t 7)))⟩]⟩,o 13 (.app 3 32 10 12),nk 14 6,fa 15 1 14,st 1 15 13])])])]) [Sa,.agg [Si,Ss,Si],Sb] _ Go.Proofs.Tryd.func36 (by kernel_rfl) (by kernel_rfl) (by kernel_rfl) (fun _ _ _ _ _ _ => by kernel_rfl)
def A33 := mkA [(Ss,[1,8,15,24,29,35,37,40,50]),(Si,[4,6,7,9,11,12,18,21,22,25,30,36,41,45,46,51]),(Sb,[10,19,23,27,34,38]),(.agg [Si,Ss,Si],[16]),(.int .u8,[26,31,42])]
noncomputable def x33 (lf:Nat):Cx Go.Proofs.Tryd.prog := .c (.c .o (W23_ok lf)) (W36_ok lf)
noncomputable def B33_0 (lf:Nat) (self:V → List UInt8 → V → Int → List Ob → SubR) (x:V) (s:List UInt8) (b:V) (i:Int) (h:List Ob):SubR :=
cB (decide (i < ((s).length:Int))) (
bind1 (er (.idxS (.c (.str s)) (.c (.int .i64 i))) h) fun v =>
castInt .u8 v fun x26 =>
cB (x26 != (39)) (
bind1 (er (.idxS (.c (.str s)) (.c (.int .i64 i))) h) fun v1 =>
castInt .u8 v1 fun x31 =>
bind2 (ev (.bslice 1 (.int .u8 0) 1 [(0,(.c (.int .u8 x31)))]) h) fun x32 h_ =>
bind2 (ev (.app 1 1 (.c b) (.c x32)) h_) fun x33 h_1 =>
self x s x33 (IntKind.i64.wrap (i + (1))) h_1) (
bind1 (er (.slcS (.c (.str s)) (some (.c (.int .i64 i))) none) h) fun v1 =>
castStr v1 fun x37 =>
bind2 (F23 lf x37 [39,39] h) fun v2 h_ =>
castBool v2 fun x38 =>
cB x38 (
bind1 (er (.idxS (.c (.str s)) (.c (.int .i64 i))) h_) fun v3 =>
castInt .u8 v3 fun x42 =>
bind2 (ev (.bslice 1 (.int .u8 0) 1 [(0,(.c (.int .u8 x42)))]) h_) fun x43 h_1 =>
bind2 (ev (.app 1 1 (.c b) (.c x43)) h_1) fun x44 h_2 =>
self x s x44 (IntKind.i64.wrap ((IntKind.i64.wrap (i + (1))) + (1))) h_2) (
bind1 (er (.toStr (.c b)) h_) fun v3 =>
castStr v3 fun x15 =>
bind1 (er (.build [(.int .i64 0),(.str []),(.int .i64 0)] [(0,(1,(.c (.int .i64 (3))))),(1,(1,(.c (.str x15))))]) h_) fun v4 =>
castAgg v4 fun l =>
castCons l fun c l1 =>
castInt .i64 c fun x16_0 =>
castCons l1 fun c1 l2 =>
castStr c1 fun x16_1 =>
castCons l2 fun c2 l3 =>
castInt .i64 c2 fun x16_2 =>
castNil l3 (
bind1 (er (.lenL (.c b)) h_) fun v5 =>
castInt .i64 v5 fun x18 =>
bind2 (F36 lf x x16_0 x16_1 x16_2 (decide (x18 ≤ (100))) h_) fun x20 h_1 =>
some (.ret,[(.int .i64 (IntKind.i64.wrap (i + (1))))],h_1))))) (
some ((.exit 0),[],h))
noncomputable def L33_0 (lf:Nat):Nat → V → List UInt8 → V → Int → List Ob → SubR
  | 0 => fun _ _ _ _ _ => none
  | n + 1 => B33_0 lf (L33_0 lf n)
noncomputable def p33_0 (lf:Nat):Pt Go.Proofs.Tryd.prog := .loop A33 (x33 lf) [] (sq [sq [.reg [mv 7 6,mv 8 1,o 9 (.lenS 8),o 10 (.bin .lss 7 9)],.cond 10 .skip (.exit 0)],.block 1 (.block 2 (sq [.reg [mv 24 1,mv 25 6,o 26 (.idxS 24 25),o 27 (.bin .neq 26 (c8 39)),mv 23 27],.cond 23 (.reg [mv 28 5,mv 29 1,mv 30 6,o 31 (.idxS 29 30),o 32 (.bslice 1 (.int .u8 0) 1 [(0,31)]),o 33 (.app 1 1 28 32),mv 5 33]) (sq [.reg [mv 35 1,mv 36 6,o 37 (.slcS 35 (some 36) none),ca 38 23 [37,(.c (.str [39,39]))],mv 34 38],.cond 34 (sq [.reg [mv 39 5,mv 40 1,mv 41 6,o 42 (.idxS 40 41),o 43 (.bslice 1 (.int .u8 0) 1 [(0,42)]),o 44 (.app 1 1 39 43),mv 5 44],.reg [mv 45 6,o 46 (.bin .add 45 (ci 1)),mv 6 46]]) (sq [.reg [mv 13 0,mv 14 5,o 15 (.toStr 14),o 16 (.build [(.int .i64 0),(.str []),(.int .i64 0)] [(0,(1,(ci 3))),(1,(1,15))]),mv 17 5,o 18 (.lenL 17),o 19 (.bin .leq 18 (ci 100)),ca 20 36 [13,16,19]],.reg [mv 21 6,o 22 (.bin .add 21 (ci 1)),mv 4 22],.ret])])])),.reg [mv 11 6,o 12 (.bin .add 11 (ci 1)),mv 6 12]]) [Sa,Ss,Sa,Si] [0,1,5,6] [((.exit 0),[],[]),(.ret,[4],[Si])] (B33_0 lf) (L33_0 lf) (fun _ _ _ _ _ => rfl) (fun _ => rfl) (fun _ _ _ _ _ _ => by kernel_rfl) lf
noncomputable def F33 (lf:Nat) (x:V) (s:List UInt8) (h:List Ob):Option (V × List Ob) :=
bind3 (L33_0 lf lf x s V.nils (1) h) fun ex vs h_ =>
cB (decide (ex = (.exit 0))) (
castNil vs (
bind1 (er (.nilck (.c x)) h_) fun x48 =>
bind1 (er (.faddr 2 (.c x48)) h_) fun x49 =>
bind2 (ev (.store 1 (.c x49) (.c (.int .i64 (3)))) h_) fun u h_1 =>
some ((.int .i64 ((s).length:Int)),h_1))) (
cB (decide (ex = .ret)) (
castCons vs fun c l =>
castInt .i64 c fun x4 =>
castNil l (
some ((.int .i64 x4),h_))) (
none))
noncomputable def W33 (lf:Nat):List V → List Ob → Option (V × List Ob) := wG [Sa,Ss] (F33 lf)
theorem W33_ok (lf:Nat):WOk Go.Proofs.Tryd.prog 33 (W33 lf) := FOk 52 [(.t 4)] A33 (x33 lf) [p33_0 lf] (sq [.reg [mv 4 (ci 0)],.reg [mv 5 (.c .nils)],sq [.reg [mv 6 (ci 1)],.block 0 (.sub 0)],.reg [mv 47 0,nk 48 47,fa 49 2 48,st 1 49 (ci 3)],.reg [mv 50 1,o 51 (.lenS 50),mv 4 51],.ret]) [Sa,Ss] _ Go.Proofs.Tryd.func33 (by kernel_rfl) (by kernel_rfl) (by kernel_rfl) (fun _ _ _ => by kernel_rfl)
def A34 := mkA [(.int .i32,[0,3,6,10,13,18,21,26]),(Sb,[2,4,5,7,8,9,11,12,14,15,16,17,19,20,22,23,24,25,27,28])]
noncomputable def x34 (lf:Nat):Cx Go.Proofs.Tryd.prog := .o
noncomputable def F34 (lf:Nat) (r:Int) (h:List Ob):Option (V × List Ob) :=
cB (decide (r ≥ (97))) (
cB (decide (r ≤ (122))) (
some ((.bool true),h)) (
cB (decide (r ≥ (65))) (
cB (decide (r ≤ (90))) (
some ((.bool true),h)) (
cB (decide (r ≥ (945))) (
cB (decide (r ≤ (969))) (
some ((.bool true),h)) (
some ((.bool (r == (95))),h))) (
some ((.bool (r == (95))),h)))) (
cB (decide (r ≥ (945))) (
cB (decide (r ≤ (969))) (
some ((.bool true),h)) (
some ((.bool (r == (95))),h))) (
some ((.bool (r == (95))),h))))) (
cB (decide (r ≥ (65))) (
cB (decide (r ≤ (90))) (
some ((.bool true),h)) (
cB (decide (r ≥ (945))) (
cB (decide (r ≤ (969))) (
some ((.bool true),h)) (
some ((.bool (r == (95))),h))) (
some ((.bool (r == (95))),h)))) (
cB (decide (r ≥ (945))) (
cB (decide (r ≤ (969))) (
some ((.bool true),h)) (
some ((.bool (r == (95))),h))) (
some ((.bool (r == (95))),h))))
noncomputable def W34 (lf:Nat):List V → List Ob → Option (V × List Ob) := wG [.int .i32] (F34 lf)
theorem W34_ok (lf:Nat):WOk Go.Proofs.Tryd.prog 34 (W34 lf) := FOk 29 [(.t 2)] A34 (x34 lf) [] (sq [.reg [mv 2 cF],.reg [mv 3 0,o 4 (.bin .geq 3 (.c (.int .i32 97))),mv 5 4,oT 6 5 (.mv 0),oT 7 5 (.bin .leq 6 (.c (.int .i32 122))),o 8 (.pick 5 7 cF),mv 9 8,oF 10 9 (.mv 0),oF 11 9 (.bin .geq 10 (.c (.int .i32 65))),oF 12 9 (.mv 11),oT 13 12 (.mv 0),oT 14 12 (.bin .leq 13 (.c (.int .i32 90))),oF 15 9 (.pick 12 14 cF),o 16 (.pick 9 cT 15),mv 17 16,oF 18 17 (.mv 0),oF 19 17 (.bin .geq 18 (.c (.int .i32 945))),oF 20 17 (.mv 19),oT 21 20 (.mv 0),oT 22 20 (.bin .leq 21 (.c (.int .i32 969))),oF 23 17 (.pick 20 22 cF),o 24 (.pick 17 cT 23),mv 25 24,oF 26 25 (.mv 0),oF 27 25 (.bin .eql 26 (.c (.int .i32 95))),o 28 (.pick 25 cT 27),mv 2 28],.ret]) [.int .i32] _ Go.Proofs.Tryd.func34 (by kernel_rfl) (by kernel_rfl) (by kernel_rfl) (fun _ _ => by kernel_rfl)
def A38 := mkA [(.int .i32,[0,3,6]),(Sb,[2,4,5,7,8])]
noncomputable def x38 (lf:Nat):Cx Go.Proofs.Tryd.prog := .o
noncomputable def F38 (lf:Nat) (r:Int) (h:List Ob):Option (V × List Ob) :=
cB (decide (r ≥ (48))) (
some ((.bool (decide (r ≤ (57)))),h)) (
some ((.bool false),h))
noncomputable def W38 (lf:Nat):List V → List Ob → Option (V × List Ob) := wG [.int .i32] (F38 lf)
theorem W38_ok (lf:Nat):WOk Go.Proofs.Tryd.prog 38 (W38 lf) := FOk 9 [(.t 2)] A38 (x38 lf) [] (sq [.reg [mv 2 cF],.reg [mv 3 0,o 4 (.bin .geq 3 (.c (.int .i32 48))),mv 5 4,oT 6 5 (.mv 0),oT 7 5 (.bin .leq 6 (.c (.int .i32 57))),o 8 (.pick 5 7 cF),mv 2 8],.ret]) [.int .i32] _ Go.Proofs.Tryd.func38 (by kernel_rfl) (by kernel_rfl) (by kernel_rfl) (fun _ _ => by kernel_rfl)
def A35 := mkA [(Ss,[0,5,20]),(Si,[2,3,9,19,21]),(.int .i32,[4,10,11,15]),(Sb,[8,12,13,14,16,17,18])]
noncomputable def x35 (lf:Nat):Cx Go.Proofs.Tryd.prog := .c (.c .o (W34_ok lf)) (W38_ok lf)
noncomputable def B35_0 (lf:Nat) (self:V → List Ob → SubR) (x6:V) (h:List Ob):SubR :=
bind2 (ev (.nextS (.c x6)) h) fun x7 h_ =>
bind1 (er (.ext 0 (.c x7)) h_) fun v =>
castBool v fun x8 =>
cB x8 (
bind1 (er (.ext 1 (.c x7)) h_) fun v1 =>
castInt .i64 v1 fun x9 =>
bind1 (er (.ext 2 (.c x7)) h_) fun v2 =>
castInt .i32 v2 fun x10 =>
bind2 (F34 lf x10 h_) fun v3 h_1 =>
castBool v3 fun x12 =>
cB (!x12) (
bind2 (F38 lf x10 h_1) fun v4 h_2 =>
castBool v4 fun x16 =>
cB (!x16) (
some (.ret,[(.int .i64 x9)],h_2)) (
self x6 h_2)) (
self x6 h_1)) (
some ((.exit 0),[],h_))
noncomputable def L35_0 (lf:Nat):Nat → V → List Ob → SubR
  | 0 => fun _ _ => none
  | n + 1 => B35_0 lf (L35_0 lf n)
noncomputable def p35_0 (lf:Nat):Pt Go.Proofs.Tryd.prog := .loop A35 (x35 lf) [] (sq [.reg [o 7 (.nextS 6),o 8 (.ext 0 7)],.cond 8 .skip (.exit 0),.block 1 (sq [.reg [o 9 (.ext 1 7),o 10 (.ext 2 7),mv 3 9,mv 4 10],.reg [mv 11 4,ca 12 34 [11],o 13 (.un .not 12),mv 14 13,oT 15 14 (.mv 4),caT 16 14 38 [15],oT 17 14 (.un .not 16),o 18 (.pick 14 17 cF)],.cond 18 (sq [.reg [mv 19 3,mv 2 19],.ret]) .skip])]) [Sa] [6] [((.exit 0),[],[]),(.ret,[2],[Si])] (B35_0 lf) (L35_0 lf) (fun _ _ => rfl) (fun _ => rfl) (fun _ _ _ => by kernel_rfl) lf
noncomputable def F35 (lf:Nat) (s:List UInt8) (h:List Ob):Option (V × List Ob) :=
bind2 (ev (.rangeS (.c (.str s))) h) fun x6 h_ =>
bind3 (L35_0 lf lf x6 h_) fun ex vs h_1 =>
cB (decide (ex = (.exit 0))) (
castNil vs (
some ((.int .i64 ((s).length:Int)),h_1))) (
cB (decide (ex = .ret)) (
castCons vs fun c l =>
castInt .i64 c fun x2 =>
castNil l (
some ((.int .i64 x2),h_1))) (
none))
noncomputable def W35 (lf:Nat):List V → List Ob → Option (V × List Ob) := wG [Ss] (F35 lf)
theorem W35_ok (lf:Nat):WOk Go.Proofs.Tryd.prog 35 (W35 lf) := FOk 22 [(.t 2)] A35 (x35 lf) [p35_0 lf] (sq [.reg [mv 2 (ci 0)],sq [.reg [mv 5 0,o 6 (.rangeS 5)],.block 0 (.sub 0)],.reg [mv 20 0,o 21 (.lenS 20),mv 2 21],.ret]) [Ss] _ Go.Proofs.Tryd.func35 (by kernel_rfl) (by kernel_rfl) (by kernel_rfl) (fun _ _ => by kernel_rfl)
def A37 := mkA [(Ss,[0,6]),(Sb,[2,9,12,13,14,16,17,19,20,21,22,26,27,29,30]),(Si,[3,15,23,24,25,28]),(.int .i32,[5,10,11,18])]
noncomputable def x37 (lf:Nat):Cx Go.Proofs.Tryd.prog := .c (.c .o (W34_ok lf)) (W38_ok lf)
noncomputable def B37_0 (lf:Nat) (self:Int → V → List Ob → SubR) (n_:Int) (x7:V) (h:List Ob):SubR :=
bind2 (ev (.nextS (.c x7)) h) fun x8 h_ =>
bind1 (er (.ext 0 (.c x8)) h_) fun v =>
castBool v fun x9 =>
cB x9 (
bind1 (er (.ext 2 (.c x8)) h_) fun v1 =>
castInt .i32 v1 fun x10 =>
bind2 (F34 lf x10 h_) fun v2 h_1 =>
castBool v2 fun x12 =>
cB (!x12) (
cB (n_ == (0)) (
some (.ret,[(.bool false)],h_1)) (
bind2 (F38 lf x10 h_1) fun v3 h_2 =>
castBool v3 fun x19 =>
cB (!x19) (
some (.ret,[(.bool false)],h_2)) (
self (IntKind.i64.wrap (n_ + (1))) x7 h_2))) (
self (IntKind.i64.wrap (n_ + (1))) x7 h_1)) (
some ((.exit 0),[(.int .i64 n_)],h_))
noncomputable def L37_0 (lf:Nat):Nat → Int → V → List Ob → SubR
  | 0 => fun _ _ _ => none
  | n + 1 => B37_0 lf (L37_0 lf n)
noncomputable def p37_0 (lf:Nat):Pt Go.Proofs.Tryd.prog := .loop A37 (x37 lf) [] (sq [.reg [o 8 (.nextS 7),o 9 (.ext 0 8)],.cond 9 .skip (.exit 0),.block 1 (sq [.reg [o 10 (.ext 2 8),mv 5 10],sq [.reg [mv 11 5,ca 12 34 [11],o 13 (.un .not 12),mv 14 13,oT 15 14 (.mv 3),oT 16 14 (.bin .eql 15 (ci 0)),oT 17 14 (.mv 16),oF 18 17 (.mv 5),caF 19 17 38 [18],oF 20 17 (.un .not 19),oT 21 14 (.pick 17 cT 20),o 22 (.pick 14 21 cF)],.cond 22 (sq [.reg [mv 2 cF],.ret]) .skip],.reg [mv 23 3,o 24 (.bin .add 23 (ci 1)),mv 3 24]])]) [Si,Sa] [3,7] [((.exit 0),[3],[Si]),(.ret,[2],[Sb])] (B37_0 lf) (L37_0 lf) (fun _ _ _ => rfl) (fun _ => rfl) (fun _ _ _ _ => by kernel_rfl) lf
noncomputable def F37 (lf:Nat) (s:List UInt8) (h:List Ob):Option (V × List Ob) :=
bind2 (ev (.rangeS (.c (.str s))) h) fun x7 h_ =>
bind3 (L37_0 lf lf (0) x7 h_) fun ex vs h_1 =>
cB (decide (ex = (.exit 0))) (
castCons vs fun c l =>
castInt .i64 c fun n_ =>
castNil l (
cB (decide (n_ > (0))) (
some ((.bool (decide (n_ ≤ (16)))),h_1)) (
some ((.bool false),h_1)))) (
cB (decide (ex = .ret)) (
castCons vs fun c l =>
castBool c fun x2 =>
castNil l (
some ((.bool x2),h_1))) (
none))
noncomputable def W37 (lf:Nat):List V → List Ob → Option (V × List Ob) := wG [Ss] (F37 lf)
theorem W37_ok (lf:Nat):WOk Go.Proofs.Tryd.prog 37 (W37 lf) := FOk 31 [(.t 2)] A37 (x37 lf) [p37_0 lf] (sq [.reg [mv 2 cF],.reg [mv 3 (ci 0)],sq [.reg [mv 6 0,o 7 (.rangeS 6)],.block 0 (.sub 0)],.reg [mv 25 3,o 26 (.bin .gtr 25 (ci 0)),mv 27 26,oT 28 27 (.mv 3),oT 29 27 (.bin .leq 28 (ci 16)),o 30 (.pick 27 29 cF),mv 2 30],.ret]) [Ss] _ Go.Proofs.Tryd.func37 (by kernel_rfl) (by kernel_rfl) (by kernel_rfl) (fun _ _ => by kernel_rfl)
def A39 := mkA [(Ss,[0,7,30,33]),(Si,[2,26]),(Sb,[3,10,13,14,15,17,18,28,29,31,32,35,36,37]),(.int .u64,[4,16,19,20,23,24,25,27]),(.int .i32,[6,11,12,21,22]),(.int .u8,[34])]
noncomputable def x39 (lf:Nat):Cx Go.Proofs.Tryd.prog := .c .o (W38_ok lf)
noncomputable def B39_0 (lf:Nat) (self:Int → V → List Ob → SubR) (n_:Int) (x8:V) (h:List Ob):SubR :=
bind2 (ev (.nextS (.c x8)) h) fun x9 h_ =>
bind1 (er (.ext 0 (.c x9)) h_) fun v =>
castBool v fun x10 =>
cB x10 (
bind1 (er (.ext 2 (.c x9)) h_) fun v1 =>
castInt .i32 v1 fun x11 =>
bind2 (F38 lf x11 h_) fun v2 h_1 =>
castBool v2 fun x13 =>
cB (!x13) (
some (.ret,[(.int .i64 (0)),(.bool false)],h_1)) (
cB (decide (n_ > (922337203685477580))) (
some (.ret,[(.int .i64 (0)),(.bool false)],h_1)) (
self (IntKind.u64.wrap ((IntKind.u64.wrap ((10) * n_)) + (IntKind.u64.wrap (IntKind.i32.wrap (x11 - (48)))))) x8 h_1))) (
some ((.exit 0),[(.int .u64 n_)],h_))
noncomputable def L39_0 (lf:Nat):Nat → Int → V → List Ob → SubR
  | 0 => fun _ _ _ => none
  | n + 1 => B39_0 lf (L39_0 lf n)
noncomputable def p39_0 (lf:Nat):Pt Go.Proofs.Tryd.prog := .loop A39 (x39 lf) [] (sq [.reg [o 9 (.nextS 8),o 10 (.ext 0 9)],.cond 10 .skip (.exit 0),.block 1 (sq [.reg [o 11 (.ext 2 9),mv 6 11],sq [.reg [mv 12 6,ca 13 38 [12],o 14 (.un .not 13),mv 15 14,oF 16 15 (.mv 4),oF 17 15 (.bin .gtr 16 (.c (.int .u64 922337203685477580))),o 18 (.pick 15 cT 17)],.cond 18 (sq [.reg [mv 2 (ci 0),mv 3 cF],.ret]) .skip],.reg [mv 19 4,o 20 (.bin .mul (.c (.int .u64 10)) 19),mv 21 6,o 22 (.bin .sub 21 (.c (.int .i32 48))),o 23 (.toInt .u64 22),o 24 (.bin .add 20 23),mv 4 24]])]) [.int .u64,Sa] [4,8] [((.exit 0),[4],[.int .u64]),(.ret,[2,3],[Si,Sb])] (B39_0 lf) (L39_0 lf) (fun _ _ _ => rfl) (fun _ => rfl) (fun _ _ _ _ => by kernel_rfl) lf
noncomputable def F39 (lf:Nat) (s:List UInt8) (h:List Ob):Option (V × List Ob) :=
bind2 (ev (.rangeS (.c (.str s))) h) fun x8 h_ =>
bind3 (L39_0 lf lf (0) x8 h_) fun ex vs h_1 =>
cB (decide (ex = (.exit 0))) (
castCons vs fun c l =>
castInt .u64 c fun n_ =>
castNil l (
cB (decide (n_ ≤ (9223372036854775807))) (
cB (s == [48]) (
some ((.tup [(.int .i64 (IntKind.i64.wrap n_)),(.bool true)]),h_1)) (
bind1 (er (.idxS (.c (.str s)) (.c (.int .i64 (0)))) h_1) fun v =>
castInt .u8 v fun x34 =>
some ((.tup [(.int .i64 (IntKind.i64.wrap n_)),(.bool (x34 != (48)))]),h_1))) (
some ((.tup [(.int .i64 (IntKind.i64.wrap n_)),(.bool false)]),h_1)))) (
cB (decide (ex = .ret)) (
castCons vs fun c l =>
castInt .i64 c fun x2 =>
castCons l fun c1 l1 =>
castBool c1 fun x3 =>
castNil l1 (
some ((.tup [(.int .i64 x2),(.bool x3)]),h_1))) (
none))
noncomputable def W39 (lf:Nat):List V → List Ob → Option (V × List Ob) := wG [Ss] (F39 lf)
theorem W39_ok (lf:Nat):WOk Go.Proofs.Tryd.prog 39 (W39 lf) := FOk 38 [(.t 2),(.t 3)] A39 (x39 lf) [p39_0 lf] (sq [.reg [mv 2 (ci 0),mv 3 cF],.reg [mv 4 (.c (.int .u64 0))],sq [.reg [mv 7 0,o 8 (.rangeS 7)],.block 0 (.sub 0)],.reg [mv 25 4,o 26 (.toInt .i64 25),mv 27 4,o 28 (.bin .leq 27 (.c (.int .u64 9223372036854775807))),mv 29 28,oT 30 29 (.mv 0),oT 31 29 (.bin .eql 30 (.c (.str [48]))),oT 32 29 (.mv 31),oF 33 32 (.mv 0),oF 34 32 (.idxS 33 (ci 0)),oF 35 32 (.bin .neq 34 (c8 48)),oT 36 29 (.pick 32 cT 35),o 37 (.pick 29 36 cF),mv 2 26,mv 3 37],.ret]) [Ss] _ Go.Proofs.Tryd.func39 (by kernel_rfl) (by kernel_rfl) (by kernel_rfl) (fun _ _ => by kernel_rfl)
def A51 := mkA [(Si,[4,5,7,8,10,13,17,18]),(Sb,[9,16]),(Ss,[15])]
noncomputable def x51 (lf:Nat) (cv:CallVS) (hcv:CvOk Go.Proofs.Tryd.prog cv):Cx Go.Proofs.Tryd.prog := .v .o hcv
noncomputable def B51_0 (lf:Nat) (cv:CallVS) (self:V → V → Int → Int → List Ob → SubR) (s:V) (f:V) (x7:Int) (x8:Int) (h:List Ob):SubR :=
cB (decide (x8 < x7)) (
bind1 (er (.iaddrL 1 (.c s) (.c (.int .i64 x8))) h) fun x14 =>
bind1 (er (.load1 (.c x14)) h) fun v =>
castStr v fun x15 =>
bind2 (cv f [(.str x15)] h) fun v1 h_ =>
castBool v1 fun x16 =>
cB x16 (
some (.ret,[(.int .i64 x8)],h_)) (
self s f x7 (IntKind.i64.wrap (x8 + (1))) h_)) (
some ((.exit 0),[],h))
noncomputable def L51_0 (lf:Nat) (cv:CallVS):Nat → V → V → Int → Int → List Ob → SubR
  | 0 => fun _ _ _ _ _ => none
  | n + 1 => B51_0 lf cv (L51_0 lf cv n)
noncomputable def p51_0 (lf:Nat) (cv:CallVS) (hcv:CvOk Go.Proofs.Tryd.prog cv):Pt Go.Proofs.Tryd.prog := .loop A51 (x51 lf cv hcv) [] (sq [.reg [o 9 (.bin .lss 8 7)],.cond 9 .skip (.exit 0),.block 1 (sq [.reg [mv 10 8,mv 5 10],.reg [mv 11 1,mv 12 0,mv 13 5,o 14 (.iaddrL 1 12 13),l1 15 14,cw 16 11 [15]],.cond 16 (sq [.reg [mv 17 5,mv 4 17],.ret]) .skip]),.reg [o 18 (.bin .add 8 (ci 1)),mv 8 18]]) [Sa,Sa,Si,Si] [0,1,7,8] [((.exit 0),[],[]),(.ret,[4],[Si])] (B51_0 lf cv) (L51_0 lf cv) (fun _ _ _ _ _ => rfl) (fun _ => rfl) (fun _ _ _ _ _ _ => by kernel_rfl) lf
noncomputable def F51 (lf:Nat) (cv:CallVS) (s:V) (f:V) (h:List Ob):Option (V × List Ob) :=
bind1 (er (.lenL (.c s)) h) fun v =>
castInt .i64 v fun x7 =>
bind3 (L51_0 lf cv lf s f x7 (0) h) fun ex vs h_ =>
cB (decide (ex = (.exit 0))) (
castNil vs (
some ((.int .i64 (-1)),h_))) (
cB (decide (ex = .ret)) (
castCons vs fun c l =>
castInt .i64 c fun x4 =>
castNil l (
some ((.int .i64 x4),h_))) (
none))
noncomputable def W51 (lf:Nat) (cv:CallVS):List V → List Ob → Option (V × List Ob) := wG [Sa,Sa] (F51 lf cv)
theorem W51_ok (lf:Nat) (cv:CallVS) (hcv:CvOk Go.Proofs.Tryd.prog cv):WOk Go.Proofs.Tryd.prog 51 (W51 lf cv) := FOk 19 [(.t 4)] A51 (x51 lf cv hcv) [p51_0 lf cv hcv] (sq [.reg [mv 4 (ci 0)],sq [.reg [mv 6 0,o 7 (.lenL 6),mv 8 (ci 0)],.block 0 (.sub 0)],.reg [mv 4 (ci (-1))],.ret]) [Sa,Sa] _ Go.Proofs.Tryd.func51 (by kernel_rfl) (by kernel_rfl) (by kernel_rfl) (fun _ _ _ => by kernel_rfl)
def A52 := mkA [(Ss,[0,4,5]),(Sb,[3,6])]
noncomputable def x52 (lf:Nat):Cx Go.Proofs.Tryd.prog := .c .o (W23_ok lf)
noncomputable def F52 (lf:Nat) (t:List UInt8) (x1:V) (h:List Ob):Option (V × List Ob) :=
bind1 (er (.load1 (.c x1)) h) fun v =>
castStr v fun x4 =>
bind2 (F23 lf x4 t h) fun v1 h_ =>
castBool v1 fun x6 =>
some ((.bool x6),h_)
noncomputable def W52 (lf:Nat):List V → List Ob → Option (V × List Ob) := wG [Ss,Sa] (F52 lf)
theorem W52_ok (lf:Nat):WOk Go.Proofs.Tryd.prog 52 (W52 lf) := FOk 7 [(.t 3)] A52 (x52 lf) [] (sq [.reg [mv 3 cF],.reg [l1 4 1,mv 5 0,ca 6 23 [4,5],mv 3 6],.ret]) [Ss,Sa] _ Go.Proofs.Tryd.func52 (by kernel_rfl) (by kernel_rfl) (by kernel_rfl) (fun _ _ _ => by kernel_rfl)
def A64 := mkA [(Ss,[0,5]),(.int .u8,[1,6]),(Si,[4,7])]
noncomputable def x64 (lf:Nat):Cx Go.Proofs.Tryd.prog := .o
noncomputable def F64 (lf:Nat) (s:List UInt8) (c:Int) (h:List Ob):Option (V × List Ob) :=
bind1 (er (.idxB (.c (.str s)) (.c (.int .u8 c))) h) fun v =>
castInt .i64 v fun x7 =>
some ((.int .i64 x7),h)
noncomputable def W64 (lf:Nat):List V → List Ob → Option (V × List Ob) := wG [Ss,.int .u8] (F64 lf)
theorem W64_ok (lf:Nat):WOk Go.Proofs.Tryd.prog 64 (W64 lf) := FOk 8 [(.t 4)] A64 (x64 lf) [] (sq [.reg [mv 4 (ci 0)],.reg [mv 5 0,mv 6 1,o 7 (.idxB 5 6),mv 4 7],.ret]) [Ss,.int .u8] _ Go.Proofs.Tryd.func64 (by kernel_rfl) (by kernel_rfl) (by kernel_rfl) (fun _ _ _ => by kernel_rfl)
def A53 := mkA [(Ss,[0,5]),(.int .u8,[1,6]),(Si,[4,7])]
noncomputable def x53 (lf:Nat):Cx Go.Proofs.Tryd.prog := .c .o (W64_ok lf)
noncomputable def F53 (lf:Nat) (s:List UInt8) (c:Int) (h:List Ob):Option (V × List Ob) :=
bind2 (F64 lf s c h) fun v h_ =>
castInt .i64 v fun x7 =>
some ((.int .i64 x7),h_)
noncomputable def W53 (lf:Nat):List V → List Ob → Option (V × List Ob) := wG [Ss,.int .u8] (F53 lf)
theorem W53_ok (lf:Nat):WOk Go.Proofs.Tryd.prog 53 (W53 lf) := FOk 8 [(.t 4)] A53 (x53 lf) [] (sq [.reg [mv 4 (ci 0)],.reg [mv 5 0,mv 6 1,ca 7 64 [5,6],mv 4 7],.ret]) [Ss,.int .u8] _ Go.Proofs.Tryd.func53 (by kernel_rfl) (by kernel_rfl) (by kernel_rfl) (fun _ _ _ => by kernel_rfl)
noncomputable def cv40 (lf:Nat):CallVS := cvC 52 (W52 lf) (cvN)
theorem cv40_ok (lf:Nat):CvOk Go.Proofs.Tryd.prog (cv40 lf) := cvC_ok (W52_ok lf) (cvN_ok)
def A40 := mkA [(Ss,[0,9]),(Si,[2,3,6,7,11]),(Sb,[8,12]),(.int .u8,[10])]
noncomputable def x40 (lf:Nat):Cx Go.Proofs.Tryd.prog := .v (.c (.c .o (W51_ok lf (cv40 lf) (cv40_ok lf))) (W53_ok lf)) (cv40_ok lf)
noncomputable def F40 (lf:Nat) (s:List UInt8) (h:List Ob):Option (V × List Ob) :=
bind2 (ev (.box false (.c (.str s))) h) fun s1 h_ =>
bind2 (ev (.bslice 1 (.str []) 3 [(0,(.c (.str [60,62]))),(1,(.c (.str [60,61]))),(2,(.c (.str [62,61])))]) h_) fun x4 h_1 =>
bind2 (F51 lf (cv40 lf) x4 (.fn 52 [s1]) h_1) fun v h_2 =>
castInt .i64 v fun x6 =>
cB (decide (x6 ≥ (0))) (
some ((.int .i64 (2)),h_2)) (
bind1 (er (.load1 (.c s1)) h_2) fun v1 =>
castStr v1 fun x9 =>
bind1 (er (.idxS (.c (.str x9)) (.c (.int .i64 (0)))) h_2) fun v2 =>
castInt .u8 v2 fun x10 =>
bind2 (F53 lf [40,41,44,46,59,42,43,45,61,60,62] x10 h_2) fun v3 h_3 =>
castInt .i64 v3 fun x11 =>
cB (decide (x11 ≥ (0))) (
some ((.int .i64 (1)),h_3)) (
some ((.int .i64 (0)),h_3)))
noncomputable def W40 (lf:Nat):List V → List Ob → Option (V × List Ob) := wG [Ss] (F40 lf)
theorem W40_ok (lf:Nat):WOk Go.Proofs.Tryd.prog 40 (W40 lf) := FOk 13 [(.t 2)] A40 (x40 lf) [] (sq [.reg [o 1 (.box false 0),mv 2 (ci 0)],sq [.reg [o 4 (.bslice 1 (.str []) 3 [(0,(.c (.str [60,62]))),(1,(.c (.str [60,61]))),(2,(.c (.str [62,61])))]),o 5 (.mkfn 52 [1]),ca 6 51 [4,5],mv 3 6],.reg [mv 7 3,o 8 (.bin .geq 7 (ci 0))],.cond 8 (sq [.reg [mv 2 (ci 2)],.ret]) .skip],sq [.reg [l1 9 1,o 10 (.idxS 9 (ci 0)),ca 11 53 [(.c (.str [40,41,44,46,59,42,43,45,61,60,62])),10],o 12 (.bin .geq 11 (ci 0))],.cond 12 (sq [.reg [mv 2 (ci 1)],.ret]) .skip],.reg [mv 2 (ci 0)],.ret]) [Ss] _ Go.Proofs.Tryd.func40 (by kernel_rfl) (by kernel_rfl) (by kernel_rfl) (fun _ _ => by kernel_rfl)
def A24 := mkA [(.int .i32,[1,13,19,35]),(Ss,[2,16,21,24,26,28,30,37,40,42,47,49,55,58,60]),(Si,[6,7,8,9,11,17,22,25,29,33,38,41,44,48,50,54,56,59,62,65,66]),(Sb,[10,12,14,18,20,31,34,36,45,52,63]),(.agg [Si,Ss,Si],[27,51,61]),(.tup [Si,Sb],[39,43])]
noncomputable def x24 (lf:Nat):Cx Go.Proofs.Tryd.prog := .c (.c (.c (.c (.c (.c (.c (.c .o (W33_ok lf)) (W34_ok lf)) (W35_ok lf)) (W36_ok lf)) (W37_ok lf)) (W38_ok lf)) (W39_ok lf)) (W40_ok lf)
noncomputable def F24 (lf:Nat) (x:V) (r:Int) (s:List UInt8) (h:List Ob):Option (V × List Ob) :=
cB (r == (39)) (
bind2 (F33 lf x s h) fun v h_ =>
castInt .i64 v fun x17 =>
some ((.int .i64 x17),h_)) (
bind2 (F34 lf r h) fun v h_ =>
castBool v fun x20 =>
cB x20 (
bind2 (F35 lf s h_) fun v1 h_1 =>
castInt .i64 v1 fun x22 =>
bind1 (er (.slcS (.c (.str s)) none (some (.c (.int .i64 x22)))) h_1) fun v2 =>
castStr v2 fun x26 =>
bind1 (er (.build [(.int .i64 0),(.str []),(.int .i64 0)] [(0,(1,(.c (.int .i64 (1))))),(1,(1,(.c (.str x26))))]) h_1) fun v3 =>
castAgg v3 fun l =>
castCons l fun c l1 =>
castInt .i64 c fun x27_0 =>
castCons l1 fun c1 l2 =>
castStr c1 fun x27_1 =>
castCons l2 fun c2 l3 =>
castInt .i64 c2 fun x27_2 =>
castNil l3 (
bind1 (er (.slcS (.c (.str s)) none (some (.c (.int .i64 x22)))) h_1) fun v4 =>
castStr v4 fun x30 =>
bind2 (F37 lf x30 h_1) fun v5 h_2 =>
castBool v5 fun x31 =>
bind2 (F36 lf x x27_0 x27_1 x27_2 x31 h_2) fun x32 h_3 =>
some ((.int .i64 x22),h_3))) (
bind2 (F38 lf r h_) fun v1 h_1 =>
castBool v1 fun x36 =>
cB x36 (
bind2 (F35 lf s h_1) fun v2 h_2 =>
castInt .i64 v2 fun x38 =>
bind1 (er (.slcS (.c (.str s)) none (some (.c (.int .i64 x38)))) h_2) fun v3 =>
castStr v3 fun x42 =>
bind2 (F39 lf x42 h_2) fun v4 h_3 =>
castTup v4 fun l =>
castCons l fun c l1 =>
castInt .i64 c fun x43_0 =>
castCons l1 fun c1 l2 =>
castBool c1 fun x43_1 =>
castNil l2 (
bind1 (er (.slcS (.c (.str s)) none (some (.c (.int .i64 x38)))) h_3) fun v5 =>
castStr v5 fun x49 =>
bind1 (er (.build [(.int .i64 0),(.str []),(.int .i64 0)] [(0,(1,(.c (.int .i64 (2))))),(1,(1,(.c (.str x49)))),(2,(1,(.c (.int .i64 x43_0))))]) h_3) fun v6 =>
castAgg v6 fun l3 =>
castCons l3 fun c2 l4 =>
castInt .i64 c2 fun x51_0 =>
castCons l4 fun c3 l5 =>
castStr c3 fun x51_1 =>
castCons l5 fun c4 l6 =>
castInt .i64 c4 fun x51_2 =>
castNil l6 (
bind2 (F36 lf x x51_0 x51_1 x51_2 x43_1 h_3) fun x53 h_4 =>
some ((.int .i64 x38),h_4)))) (
bind2 (F40 lf s h_1) fun v2 h_2 =>
castInt .i64 v2 fun x56 =>
bind1 (er (.slcS (.c (.str s)) none (some (.c (.int .i64 x56)))) h_2) fun v3 =>
castStr v3 fun x60 =>
bind1 (er (.build [(.int .i64 0),(.str []),(.int .i64 0)] [(0,(1,(.c (.int .i64 (4))))),(1,(1,(.c (.str x60))))]) h_2) fun v4 =>
castAgg v4 fun l =>
castCons l fun c l1 =>
castInt .i64 c fun x61_0 =>
castCons l1 fun c1 l2 =>
castStr c1 fun x61_1 =>
castCons l2 fun c2 l3 =>
castInt .i64 c2 fun x61_2 =>
castNil l3 (
bind2 (F36 lf x x61_0 x61_1 x61_2 (decide (x56 > (0))) h_2) fun x64 h_3 =>
some ((.int .i64 (if (1) > x56 then (1) else x56)),h_3)))))
noncomputable def W24 (lf:Nat):List V → List Ob → Option (V × List Ob) := wG [Sa,.int .i32,Ss] (F24 lf)
theorem W24_ok (lf:Nat):WOk Go.Proofs.Tryd.prog 24 (W24 lf) := FOk 67 [(.t 6)] A24 (x24 lf) [] (sq [.reg [mv 6 (ci 0)],.block 0 (sq [.reg [mv 13 1,o 14 (.bin .eql 13 (.c (.int .i32 39))),mv 12 14],.cond 12 (sq [.reg [mv 15 0,mv 16 2,ca 17 33 [15,16],mv 6 17],.ret]) (sq [.reg [mv 19 1,ca 20 34 [19],mv 18 20],.cond 18 (sq [.reg [mv 21 2,ca 22 35 [21],mv 7 22],.reg [mv 23 0,mv 24 2,mv 25 7,o 26 (.slcS 24 none (some 25)),o 27 (.build [(.int .i64 0),(.str []),(.int .i64 0)] [(0,(1,(ci 1))),(1,(1,26))]),mv 28 2,mv 29 7,o 30 (.slcS 28 none (some 29)),ca 31 37 [30],ca 32 36 [23,27,31]],.reg [mv 33 7,mv 6 33],.ret]) (sq [.reg [mv 35 1,ca 36 38 [35],mv 34 36],.cond 34 (sq [.reg [mv 37 2,ca 38 35 [37],mv 8 38],.reg [mv 40 2,mv 41 8,o 42 (.slcS 40 none (some 41)),ca 43 39 [42],mv 39 43,o 44 (.ext 0 39),o 45 (.ext 1 39),mv 9 44,mv 10 45],.reg [mv 46 0,mv 47 2,mv 48 8,o 49 (.slcS 47 none (some 48)),mv 50 9,o 51 (.build [(.int .i64 0),(.str []),(.int .i64 0)] [(0,(1,(ci 2))),(1,(1,49)),(2,(1,50))]),mv 52 10,ca 53 36 [46,51,52]],.reg [mv 54 8,mv 6 54],.ret]) .skip])])]),.reg [mv 55 2,ca 56 40 [55],mv 11 56],.reg [mv 57 0,mv 58 2,mv 59 11,o 60 (.slcS 58 none (some 59)),o 61 (.build [(.int .i64 0),(.str []),(.int .i64 0)] [(0,(1,(ci 4))),(1,(1,60))]),mv 62 11,o 63 (.bin .gtr 62 (ci 0)),ca 64 36 [57,61,63]],.reg [mv 65 11,o 66 (.minmax true 65 (ci 1)),mv 6 66],.ret]) [Sa,.int .i32,Ss] _ Go.Proofs.Tryd.func24 (by kernel_rfl) (by kernel_rfl) (by kernel_rfl) (fun _ _ _ _ => by kernel_rfl)
def A13 := mkA [(Ss,[0,9,12,15,24,26,59,61,67,69]),(Si,[3,5,7,10,19,21,25,27,28,33,38,44,45,60,68,77,78,82,87]),(Sb,[6,11,18,29,34,39,40,42,43,46,47,49,50,52,53,54,56,57,58,62,63,65,66,70,71,72,76,83]),(.int .i32,[8,20,23,41,48,51,55,64]),(.agg [Ss,Sa,Si],[13])]
noncomputable def x13 (lf:Nat):Cx Go.Proofs.Tryd.prog := .c (.c .o (W23_ok lf)) (W24_ok lf)
noncomputable def S13_0 (lf:Nat) (s:List UInt8) (i:Int) (r:Int) (h:List Ob):SubR :=
cB (r == (65533)) (
bind1 (er (.slcS (.c (.str s)) (some (.c (.int .i64 i))) none) h) fun v =>
castStr v fun x69 =>
bind2 (F23 lf x69 [239,191,189] h) fun v1 h_ =>
castBool v1 fun x70 =>
some (.normal,[(.bool (!x70))],h_)) (
some (.normal,[(.bool false)],h))
noncomputable def p13_0 (lf:Nat):Pt Go.Proofs.Tryd.prog := .of A13 (x13 lf) [] (.reg [mv 64 8,o 65 (.bin .eql 64 (.c (.int .i32 65533))),mv 66 65,oT 67 66 (.mv 0),oT 68 66 (.mv 7),oT 69 66 (.slcS 67 (some 68) none),caT 70 66 23 [69,(.c (.str [239,191,189]))],oT 71 66 (.un .not 70),o 72 (.pick 66 71 cF),mv 63 72]) [Ss,Si,.int .i32] [0,7,8] [(.normal,[63],[Sb])] (S13_0 lf) (fun _ _ _ _ => by kernel_rfl)
noncomputable def S13_1 (lf:Nat) (r:Int) (h:List Ob):SubR :=
cB (r == (32)) (
some (.normal,[(.bool true)],h)) (
cB (r == (9)) (
some (.normal,[(.bool true)],h)) (
some (.normal,[(.bool (r == (10)))],h)))
noncomputable def p13_1 (lf:Nat):Pt Go.Proofs.Tryd.prog := .of A13 (x13 lf) [] (.reg [mv 48 8,o 49 (.bin .eql 48 (.c (.int .i32 32))),mv 50 49,oF 51 50 (.mv 8),oF 52 50 (.bin .eql 51 (.c (.int .i32 9))),o 53 (.pick 50 cT 52),mv 54 53,oF 55 54 (.mv 8),oF 56 54 (.bin .eql 55 (.c (.int .i32 10))),o 57 (.pick 54 cT 56),mv 47 57]) [.int .i32] [8] [(.normal,[47],[Sb])] (S13_1 lf) (fun _ _ => by kernel_rfl)
noncomputable def S13_2 (lf:Nat) (s:List UInt8) (x:V) (behind:Int) (note:Bool) (i:Int) (r:Int) (h:List Ob):SubR :=
bind1 (er (.nilck (.c x)) h) fun x31 =>
bind1 (er (.faddr 2 (.c x31)) h) fun x32 =>
bind1 (er (.load1 (.c x32)) h) fun v =>
castInt .i64 v fun x33 =>
cB (x33 != (0)) (
bind1 (er (.nilck (.c x)) h) fun x36 =>
bind1 (er (.faddr 2 (.c x36)) h) fun x37 =>
bind1 (er (.load1 (.c x37)) h) fun v1 =>
castInt .i64 v1 fun x38 =>
some (.ret,[V.nils,(.int .i64 x38)],h)) (
cB note (
some (.normal,[(.int .i64 behind),(.bool (r != (10)))],h)) (
cB (decide (i < behind)) (
some (.normal,[(.int .i64 behind),(.bool note)],h)) (
bind3 (S13_1 lf r h) fun ex vs h_ =>
cB (decide (ex = .normal)) (
castCons vs fun c l =>
castBool c fun x47 =>
castNil l (
cB x47 (
some (.normal,[(.int .i64 behind),(.bool note)],h_)) (
bind1 (er (.slcS (.c (.str s)) (some (.c (.int .i64 i))) none) h_) fun v1 =>
castStr v1 fun x61 =>
bind2 (F23 lf x61 [45,45] h_) fun v2 h_1 =>
castBool v2 fun x62 =>
cB x62 (
some (.normal,[(.int .i64 behind),(.bool true)],h_1)) (
bind3 (S13_0 lf s i r h_1) fun ex1 vs1 h_2 =>
cB (decide (ex1 = .normal)) (
castCons vs1 fun c1 l1 =>
castBool c1 fun x63 =>
castNil l1 (
cB x63 (
bind1 (er (.nilck (.c x)) h_2) fun x74 =>
bind1 (er (.faddr 2 (.c x74)) h_2) fun x75 =>
bind2 (ev (.store 1 (.c x75) (.c (.int .i64 (3)))) h_2) fun u h_3 =>
some (.normal,[(.int .i64 behind),(.bool note)],h_3)) (
bind1 (er (.slcS (.c (.str s)) (some (.c (.int .i64 i))) none) h_2) fun v3 =>
castStr v3 fun x26 =>
bind2 (F24 lf x r x26 h_2) fun v4 h_3 =>
castInt .i64 v4 fun x27 =>
some (.normal,[(.int .i64 (IntKind.i64.wrap (i + x27))),(.bool note)],h_3)))) (
none))))) (
none))))
noncomputable def p13_2 (lf:Nat):Pt Go.Proofs.Tryd.prog := .of A13 (x13 lf) [p13_1 lf,p13_0 lf] (.block 2 (sq [.reg [mv 30 4,nk 31 30,fa 32 2 31,l1 33 32,o 34 (.bin .neq 33 (ci 0)),mv 29 34],.cond 29 (sq [.reg [mv 35 4,nk 36 35,fa 37 2 36,l1 38 37,mv 2 (.c .nils),mv 3 38],.ret]) (sq [.reg [mv 40 6,mv 39 40],.cond 39 (.reg [mv 41 8,o 42 (.bin .neq 41 (.c (.int .i32 10))),mv 6 42]) (sq [.reg [mv 44 7,mv 45 5,o 46 (.bin .lss 44 45),mv 43 46],.cond 43 .skip (sq [.sub 0,.cond 47 .skip (sq [.reg [mv 59 0,mv 60 7,o 61 (.slcS 59 (some 60) none),ca 62 23 [61,(.c (.str [45,45]))],mv 58 62],.cond 58 (.reg [mv 6 cT]) (sq [.sub 1,.cond 63 (.reg [mv 73 4,nk 74 73,fa 75 2 74,st 1 75 (ci 3)]) (.reg [mv 21 7,mv 22 4,mv 23 8,mv 24 0,mv 25 7,o 26 (.slcS 24 (some 25) none),ca 27 24 [22,23,26],o 28 (.bin .add 21 27),mv 5 28])])])])])])])) [Ss,Sa,Si,Sb,Si,.int .i32] [0,4,5,6,7,8] [(.ret,[2,3],[Sa,Si]),(.normal,[5,6],[Si,Sb])] (S13_2 lf) (fun _ _ _ _ _ _ _ => by kernel_rfl)
noncomputable def B13_3 (lf:Nat) (self:List UInt8 → V → Int → Bool → V → List Ob → SubR) (s:List UInt8) (x:V) (behind:Int) (note:Bool) (x16:V) (h:List Ob):SubR :=
bind2 (ev (.nextS (.c x16)) h) fun x17 h_ =>
bind1 (er (.ext 0 (.c x17)) h_) fun v =>
castBool v fun x18 =>
cB x18 (
bind1 (er (.ext 1 (.c x17)) h_) fun v1 =>
castInt .i64 v1 fun x19 =>
bind1 (er (.ext 2 (.c x17)) h_) fun v2 =>
castInt .i32 v2 fun x20 =>
bind3 (S13_2 lf s x behind note x19 x20 h_) fun ex vs h_1 =>
cB (decide (ex = .ret)) (
castCons vs fun x2 l =>
castCons l fun c l1 =>
castInt .i64 c fun x3 =>
castNil l1 (
some (.ret,[x2,(.int .i64 x3)],h_1))) (
cB (decide (ex = .normal)) (
castCons vs fun c l =>
castInt .i64 c fun behind1 =>
castCons l fun c1 l1 =>
castBool c1 fun note1 =>
castNil l1 (
cB note1 (
self s x (IntKind.i64.wrap (x19 + (1))) note1 x16 h_1) (
self s x behind1 note1 x16 h_1))) (
none))) (
some ((.exit 0),[],h_))
noncomputable def L13_3 (lf:Nat):Nat → List UInt8 → V → Int → Bool → V → List Ob → SubR
  | 0 => fun _ _ _ _ _ _ => none
  | n + 1 => B13_3 lf (L13_3 lf n)
noncomputable def p13_3 (lf:Nat):Pt Go.Proofs.Tryd.prog := .loop A13 (x13 lf) [p13_2 lf] (sq [.reg [o 17 (.nextS 16),o 18 (.ext 0 17)],.cond 18 .skip (.exit 0),.block 1 (sq [.reg [o 19 (.ext 1 17),o 20 (.ext 2 17),mv 7 19,mv 8 20],.sub 0,.reg [mv 76 6],.cond 76 (.reg [mv 77 7,o 78 (.bin .add 77 (ci 1)),mv 5 78]) .skip])]) [Ss,Sa,Si,Sb,Sa] [0,4,5,6,16] [((.exit 0),[],[]),(.ret,[2,3],[Sa,Si])] (B13_3 lf) (L13_3 lf) (fun _ _ _ _ _ _ => rfl) (fun _ => rfl) (fun _ _ _ _ _ _ _ => by kernel_rfl) lf
noncomputable def F13 (lf:Nat) (s:List UInt8) (h:List Ob):Option (V × List Ob) :=
cB (decide (((s).length:Int) > (4000))) (
some ((.tup [V.nils,(.int .i64 (5))]),h)) (
bind1 (er (.build [(.str []),.nils,(.int .i64 0)] [(0,(1,(.c (.str s))))]) h) fun v =>
castAgg v fun l =>
castCons l fun c l1 =>
castStr c fun x13_0 =>
castCons l1 fun x13_1 l2 =>
castCons l2 fun c1 l3 =>
castInt .i64 c1 fun x13_2 =>
castNil l3 (
bind2 (ev (.box false (.c (.agg [(.str x13_0),x13_1,(.int .i64 x13_2)]))) h) fun x14 h_ =>
bind2 (ev (.rangeS (.c (.str s))) h_) fun x16 h_1 =>
bind3 (L13_3 lf lf s x14 (0) false x16 h_1) fun ex vs h_2 =>
cB (decide (ex = (.exit 0))) (
castNil vs (
bind1 (er (.nilck (.c x14)) h_2) fun x80 =>
bind1 (er (.faddr 2 (.c x80)) h_2) fun x81 =>
bind1 (er (.load1 (.c x81)) h_2) fun v1 =>
castInt .i64 v1 fun x82 =>
cB (x82 != (0)) (
bind1 (er (.nilck (.c x14)) h_2) fun x85 =>
bind1 (er (.faddr 2 (.c x85)) h_2) fun x86 =>
bind1 (er (.load1 (.c x86)) h_2) fun v2 =>
castInt .i64 v2 fun x87 =>
some ((.tup [V.nils,(.int .i64 x87)]),h_2)) (
bind1 (er (.nilck (.c x14)) h_2) fun x89 =>
bind1 (er (.faddr 1 (.c x89)) h_2) fun x90 =>
bind1 (er (.load1 (.c x90)) h_2) fun x91 =>
some ((.tup [x91,(.int .i64 (0))]),h_2)))) (
cB (decide (ex = .ret)) (
castCons vs fun x2 l4 =>
castCons l4 fun c2 l5 =>
castInt .i64 c2 fun x3 =>
castNil l5 (
some ((.tup [x2,(.int .i64 x3)]),h_2))) (
none))))
noncomputable def W13 (lf:Nat):List V → List Ob → Option (V × List Ob) := wG [Ss] (F13 lf)
theorem W13_ok (lf:Nat):WOk Go.Proofs.Tryd.prog 13 (W13 lf) := FOk 92 [(.t 2),(.t 3)] A13 (x13 lf) [p13_3 lf] (sq [.reg [mv 2 (.c .nils),mv 3 (ci 0)],sq [.reg [mv 9 0,o 10 (.lenS 9),o 11 (.bin .gtr 10 (ci 4000))],.cond 11 (sq [.reg [mv 2 (.c .nils),mv 3 (ci 5)],.ret]) .skip],.reg [mv 12 0,o 13 (.build [(.str []),.nils,(.int .i64 0)] [(0,(1,12))]),o 14 (.box false 13),mv 4 14],.reg [mv 5 (ci 0),mv 6 cF],sq [.reg [mv 15 0,o 16 (.rangeS 15)],.block 0 (.sub 0)],sq [.reg [mv 79 4,nk 80 79,fa 81 2 80,l1 82 81,o 83 (.bin .neq 82 (ci 0))],.cond 83 (sq [.reg [mv 84 4,nk 85 84,fa 86 2 85,l1 87 86,mv 2 (.c .nils),mv 3 87],.ret]) .skip],.reg [mv 88 4,nk 89 88,fa 90 1 89,l1 91 90,mv 2 91,mv 3 (ci 0)],.ret]) [Ss] _ Go.Proofs.Tryd.func13 (by kernel_rfl) (by kernel_rfl) (by kernel_rfl) (fun _ _ => by kernel_rfl)
def A54 := mkA [(Ss,[0,3]),(Sb,[2,4,5,6,7,8,9,10,11,12,13,14,15,16,17,18,19,20,21,22,23,24,25,26,27,28,29,30,31,32,33,34,35,36,37,38,39,40,41,42,43,44])]
noncomputable def x54 (lf:Nat):Cx Go.Proofs.Tryd.prog := .o
noncomputable def S54_0 (lf:Nat) (x3:List UInt8) (h:List Ob):SubR :=
cB (x3 == [67,82,69,65,84,69]) (
some (.normal,[(.bool true)],h)) (
cB (x3 == [84,65,66,76,69]) (
some (.normal,[(.bool true)],h)) (
cB (x3 == [73,78,68,69,88]) (
some (.normal,[(.bool true)],h)) (
cB (x3 == [85,78,73,81,85,69]) (
some (.normal,[(.bool true)],h)) (
cB (x3 == [77,65,84,69,82,73,65,76,73,90,69,68]) (
some (.normal,[(.bool true)],h)) (
cB (x3 == [86,73,69,87]) (
some (.normal,[(.bool true)],h)) (
cB (x3 == [68,82,79,80]) (
some (.normal,[(.bool true)],h)) (
cB (x3 == [73,78,83,69,82,84]) (
some (.normal,[(.bool true)],h)) (
cB (x3 == [73,78,84,79]) (
some (.normal,[(.bool true)],h)) (
cB (x3 == [86,65,76,85,69,83]) (
some (.normal,[(.bool true)],h)) (
cB (x3 == [85,80,68,65,84,69]) (
some (.normal,[(.bool true)],h)) (
cB (x3 == [83,69,84]) (
some (.normal,[(.bool true)],h)) (
cB (x3 == [68,69,76,69,84,69]) (
some (.normal,[(.bool true)],h)) (
cB (x3 == [70,82,79,77]) (
some (.normal,[(.bool true)],h)) (
cB (x3 == [83,69,76,69,67,84]) (
some (.normal,[(.bool true)],h)) (
cB (x3 == [68,73,83,84,73,78,67,84]) (
some (.normal,[(.bool true)],h)) (
cB (x3 == [87,72,69,82,69]) (
some (.normal,[(.bool true)],h)) (
cB (x3 == [71,82,79,85,80]) (
some (.normal,[(.bool true)],h)) (
cB (x3 == [66,89]) (
some (.normal,[(.bool true)],h)) (
cB (x3 == [79,82,68,69,82]) (
some (.normal,[(.bool true)],h)) (
cB (x3 == [65,83,67]) (
some (.normal,[(.bool true)],h)) (
cB (x3 == [68,69,83,67]) (
some (.normal,[(.bool true)],h)) (
cB (x3 == [76,73,77,73,84]) (
some (.normal,[(.bool true)],h)) (
cB (x3 == [74,79,73,78]) (
some (.normal,[(.bool true)],h)) (
cB (x3 == [79,78]) (
some (.normal,[(.bool true)],h)) (
cB (x3 == [65,83]) (
some (.normal,[(.bool true)],h)) (
cB (x3 == [65,78,68]) (
some (.normal,[(.bool true)],h)) (
cB (x3 == [79,82]) (
some (.normal,[(.bool true)],h)) (
cB (x3 == [78,79,84]) (
some (.normal,[(.bool true)],h)) (
cB (x3 == [73,83]) (
some (.normal,[(.bool true)],h)) (
cB (x3 == [78,85,76,76]) (
some (.normal,[(.bool true)],h)) (
cB (x3 == [73,78,84]) (
some (.normal,[(.bool true)],h)) (
cB (x3 == [84,69,88,84]) (
some (.normal,[(.bool true)],h)) (
cB (x3 == [66,69,71,73,78]) (
some (.normal,[(.bool true)],h)) (
cB (x3 == [67,79,77,77,73,84]) (
some (.normal,[(.bool true)],h)) (
cB (x3 == [82,79,76,76,66,65,67,75]) (
some (.normal,[(.bool true)],h)) (
cB (x3 == [67,79,85,78,84]) (
some (.normal,[(.bool true)],h)) (
cB (x3 == [83,85,77]) (
some (.normal,[(.bool true)],h)) (
cB (x3 == [77,73,78]) (
some (.normal,[(.bool true)],h)) (
some (.normal,[(.bool (x3 == [77,65,88]))],h))))))))))))))))))))))))))))))))))))))))
noncomputable def p54_0 (lf:Nat):Pt Go.Proofs.Tryd.prog := .of A54 (x54 lf) [] (sq [.reg [o 5 (.bin .eql 3 (.c (.str [67,82,69,65,84,69]))),mv 4 5],.cond 4 .skip (sq [.reg [o 6 (.bin .eql 3 (.c (.str [84,65,66,76,69]))),mv 4 6],.cond 4 .skip (sq [.reg [o 7 (.bin .eql 3 (.c (.str [73,78,68,69,88]))),mv 4 7],.cond 4 .skip (sq [.reg [o 8 (.bin .eql 3 (.c (.str [85,78,73,81,85,69]))),mv 4 8],.cond 4 .skip (sq [.reg [o 9 (.bin .eql 3 (.c (.str [77,65,84,69,82,73,65,76,73,90,69,68]))),mv 4 9],.cond 4 .skip (sq [.reg [o 10 (.bin .eql 3 (.c (.str [86,73,69,87]))),mv 4 10],.cond 4 .skip (sq [.reg [o 11 (.bin .eql 3 (.c (.str [68,82,79,80]))),mv 4 11],.cond 4 .skip (sq [.reg [o 12 (.bin .eql 3 (.c (.str [73,78,83,69,82,84]))),mv 4 12],.cond 4 .skip (sq [.reg [o 13 (.bin .eql 3 (.c (.str [73,78,84,79]))),mv 4 13],.cond 4 .skip (sq [.reg [o 14 (.bin .eql 3 (.c (.str [86,65,76,85,69,83]))),mv 4 14],.cond 4 .skip (sq [.reg [o 15 (.bin .eql 3 (.c (.str [85,80,68,65,84,69]))),mv 4 15],.cond 4 .skip (sq [.reg [o 16 (.bin .eql 3 (.c (.str [83,69,84]))),mv 4 16],.cond 4 .skip (sq [.reg [o 17 (.bin .eql 3 (.c (.str [68,69,76,69,84,69]))),mv 4 17],.cond 4 .skip (sq [.reg [o 18 (.bin .eql 3 (.c (.str [70,82,79,77]))),mv 4 18],.cond 4 .skip (sq [.reg [o 19 (.bin .eql 3 (.c (.str [83,69,76,69,67,84]))),mv 4 19],.cond 4 .skip (sq [.reg [o 20 (.bin .eql 3 (.c (.str [68,73,83,84,73,78,67,84]))),mv 4 20],.cond 4 .skip (sq [.reg [o 21 (.bin .eql 3 (.c (.str [87,72,69,82,69]))),mv 4 21],.cond 4 .skip (sq [.reg [o 22 (.bin .eql 3 (.c (.str [71,82,79,85,80]))),mv 4 22],.cond 4 .skip (sq [.reg [o 23 (.bin .eql 3 (.c (.str [66,89]))),mv 4 23],.cond 4 .skip (sq [.reg [o 24 (.bin .eql 3 (.c (.str [79,82,68,69,82]))),mv 4 24],.cond 4 .skip (sq [.reg [o 25 (.bin .eql 3 (.c (.str [65,83,67]))),mv 4 25],.cond 4 .skip (sq [.reg [o 26 (.bin .eql 3 (.c (.str [68,69,83,67]))),mv 4 26],.cond 4 .skip (sq [.reg [o 27 (.bin .eql 3 (.c (.str [76,73,77,73,84]))),mv 4 27],.cond 4 .skip (sq [.reg [o 28 (.bin .eql 3 (.c (.str [74,79,73,78]))),mv 4 28],.cond 4 .skip (sq [.reg [o 29 (.bin .eql 3 (.c (.str [79,78]))),mv 4 29],.cond 4 .skip (sq [.reg [o 30 (.bin .eql 3 (.c (.str [65,83]))),mv 4 30],.cond 4 .skip (sq [.reg [o 31 (.bin .eql 3 (.c (.str [65,78,68]))),mv 4 31],.cond 4 .skip (sq [.reg [o 32 (.bin .eql 3 (.c (.str [79,82]))),mv 4 32],.cond 4 .skip (sq [.reg [o 33 (.bin .eql 3 (.c (.str [78,79,84]))),mv 4 33],.cond 4 .skip (sq [.reg [o 34 (.bin .eql 3 (.c (.str [73,83]))),mv 4 34],.cond 4 .skip (sq [.reg [o 35 (.bin .eql 3 (.c (.str [78,85,76,76]))),mv 4 35],.cond 4 .skip (sq [.reg [o 36 (.bin .eql 3 (.c (.str [73,78,84]))),mv 4 36],.cond 4 .skip (sq [.reg [o 37 (.bin .eql 3 (.c (.str [84,69,88,84]))),mv 4 37],.cond 4 .skip (sq [.reg [o 38 (.bin .eql 3 (.c (.str [66,69,71,73,78]))),mv 4 38],.cond 4 .skip (sq [.reg [o 39 (.bin .eql 3 (.c (.str [67,79,77,77,73,84]))),mv 4 39],.cond 4 .skip (sq [.reg [o 40 (.bin .eql 3 (.c (.str [82,79,76,76,66,65,67,75]))),mv 4 40],.cond 4 .skip (sq [.reg [o 41 (.bin .eql 3 (.c (.str [67,79,85,78,84]))),mv 4 41],.cond 4 .skip (sq [.reg [o 42 (.bin .eql 3 (.c (.str [83,85,77]))),mv 4 42],.cond 4 .skip (sq [.reg [o 43 (.bin .eql 3 (.c (.str [77,73,78]))),mv 4 43],.cond 4 .skip (.reg [o 44 (.bin .eql 3 (.c (.str [77,65,88]))),mv 4 44])])])])])])])])])])])])])])])])])])])])])])])])])])])])])])])])])])])])])])])]) [Ss] [3] [(.normal,[4],[Sb])] (S54_0 lf) (fun _ _ => by kernel_rfl)
noncomputable def F54 (lf:Nat) (s:List UInt8) (h:List Ob):Option (V × List Ob) :=
bind3 (S54_0 lf s h) fun ex vs h_ =>
cB (decide (ex = .normal)) (
castCons vs fun c l =>
castBool c fun x4 =>
castNil l (
cB x4 (
some ((.bool true),h_)) (
some ((.bool false),h_)))) (
none)
noncomputable def W54 (lf:Nat):List V → List Ob → Option (V × List Ob) := wG [Ss] (F54 lf)
theorem W54_ok (lf:Nat):WOk Go.Proofs.Tryd.prog 54 (W54 lf) := FOk 45 [(.t 2)] A54 (x54 lf) [p54_0 lf] (sq [.reg [mv 2 cF],sq [.reg [mv 3 0],.block 0 (sq [.sub 0,.cond 4 (sq [.reg [mv 2 cT],.ret]) .skip])],.reg [mv 2 cF],.ret]) [Ss] _ Go.Proofs.Tryd.func54 (by kernel_rfl) (by kernel_rfl) (by kernel_rfl) (fun _ _ => by kernel_rfl)
def A46 := mkA [(Ss,[0,3,6]),(Sb,[2,4,5,7,8,9])]
noncomputable def x46 (lf:Nat):Cx Go.Proofs.Tryd.prog := .c (.c .o (W37_ok lf)) (W54_ok lf)
noncomputable def F46 (lf:Nat) (s:List UInt8) (h:List Ob):Option (V × List Ob) :=
bind2 (F37 lf s h) fun v h_ =>
castBool v fun x4 =>
cB x4 (
bind2 (F54 lf s h_) fun v1 h_1 =>
castBool v1 fun x7 =>
some ((.bool (!x7)),h_1)) (
some ((.bool false),h_))
noncomputable def W46 (lf:Nat):List V → List Ob → Option (V × List Ob) := wG [Ss] (F46 lf)
theorem W46_ok (lf:Nat):WOk Go.Proofs.Tryd.prog 46 (W46 lf) := FOk 10 [(.t 2)] A46 (x46 lf) [] (sq [.reg [mv 2 cF],.reg [mv 3 0,ca 4 37 [3],mv 5 4,oT 6 5 (.mv 0),caT 7 5 54 [6],oT 8 5 (.un .not 7),o 9 (.pick 5 8 cF),mv 2 9],.ret]) [Ss] _ Go.Proofs.Tryd.func46 (by kernel_rfl) (by kernel_rfl) (by kernel_rfl) (fun _ _ => by kernel_rfl)
end Go.Proofs.YtjpjeilfmjdhcaaDoor.Ln
