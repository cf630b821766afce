/- Functions of the program as Lean functions, and that each call comes to what its function says. Printed by my own tool. No condition. -/
import Derived.Test.YtjpjeilfmjdhcaaProg
import Derived.Test.YtjpjeilfmjdhcaaL4
import Derived.Test.YtjpjeilfmjdhcaaRds
namespace Go.Proofs.Ytjpjeilfmjdhcaa.St
open Go Go.Proofs.Ytjpjeilfmjdhcaa.E
open Go.Proofs.Ytjpjeilfmjdhcaa.E.K
open Go.Proofs.Ytjpjeilfmjdhcaa.Ln
open Go.Proofs.Ytjpjeilfmjdhcaa.Ex
open Go.Proofs.Ytjpjeilfmjdhcaa.Rd
set_option maxRecDepth 100000
set_option linter.unusedVariables false
def zSt1:Sh := .agg [Si,Ss,Si,Si,Ss,Ss,Ss,Sa]
def zSt2:V := .agg [(.int .i64 0),(.str []),(.int .i64 0),(.int .i64 0),(.str []),(.str []),(.str []),.nils]
def zSt3:Sh := .agg [Si,Ss,Si,Si,Ss,Ss,Ss,Sa,Ss]
def zSt4:V := .agg [(.int .i64 0),(.str []),(.int .i64 0),(.int .i64 0),(.str []),(.str []),(.str []),.nils,(.str [])]
def zSt5:Sh := .agg [Ss,Ss,Si,Ss,Si,Si,Ss,Ss,Ss,Sa]
def zSt6:V := .agg [(.str []),(.str []),(.int .i64 0),(.str []),(.int .i64 0),(.int .i64 0),(.str []),(.str []),(.str []),.nils]
def zSt7:Sh := .agg [Si,Ss,Si,Si,Ss,Ss,Ss,Sa,Sb]
def zSt8:V := .agg [(.int .i64 0),(.str []),(.int .i64 0),(.int .i64 0),(.str []),(.str []),(.str []),.nils,(.bool false)]
def zSt9:Sh := .agg [Sb,Sb,Sa,Sa,Sa,Sa,Sa,Si]
def zSt10:V := .agg [(.bool false),(.bool false),.nils,.nils,.nils,.nils,.nils,(.int .i64 0)]
def zSt11:V := .agg [(.str []),(.int .i64 0),(.bool false),(.bool false)]
def zSt12:V := .agg [(.int .i64 0),(.str []),(.str []),(.bool false),.nils,.nils,.nils,.nils,.nils,(.bool false),(.bool false),.nils,.nils,.nils,.nils,.nils,(.int .i64 0)]
def zSt13:Sh := .agg [Ss,Si,Ss,Si,Si,Ss,Ss,Ss,Sa]
def zSt14:V := .agg [(.str []),(.int .i64 0),(.str []),(.int .i64 0),(.int .i64 0),(.str []),(.str []),(.str []),.nils]
def A60 := mkA [(Sb,[7,8]),(zSt1,[13])]
noncomputable def x60 (lf:Nat):Cx Go.Proofs.Try.prog := .c (.c .o (W10_ok lf)) (W57_ok lf)
noncomputable def F60 (lf:Nat) (r:V) (h:List Ob):Option (V × List Ob) :=
bind1 (er (.nilck (.c r)) h) fun x4 =>
bind1 (er (.faddr 0 (.c x4)) h) fun x5 =>
bind1 (er (.load1 (.c x5)) h) fun x6 =>
bind2 (F10 lf x6 [87,72,69,82,69] h) fun v h_ =>
castBool v fun x7 =>
cB (!x7) (
some (V.nils,h_)) (
bind1 (er (.nilck (.c r)) h_) fun x10 =>
bind1 (er (.faddr 0 (.c x10)) h_) fun x11 =>
bind1 (er (.load1 (.c x11)) h_) fun x12 =>
bind2 (F57 lf x12 h_) fun v1 h_1 =>
castAgg v1 fun l =>
castCons l fun c l1 =>
castInt .i64 c fun x13_0 =>
castCons l1 fun c1 l2 =>
castStr c1 fun x13_1 =>
castCons l2 fun c2 l3 =>
castInt .i64 c2 fun x13_2 =>
castCons l3 fun c3 l4 =>
castInt .i64 c3 fun x13_3 =>
castCons l4 fun c4 l5 =>
castStr c4 fun x13_4 =>
castCons l5 fun c5 l6 =>
castStr c5 fun x13_5 =>
castCons l6 fun c6 l7 =>
castStr c6 fun x13_6 =>
castCons l7 fun x13_7 l8 =>
castNil l8 (
bind2 (ev (.bslice 8 (.agg [(.int .i64 0),(.str []),(.int .i64 0),(.int .i64 0),(.str []),(.str []),(.str []),.nils]) 1 [(0,(.c (.agg [(.int .i64 x13_0),(.str x13_1),(.int .i64 x13_2),(.int .i64 x13_3),(.str x13_4),(.str x13_5),(.str x13_6),x13_7])))]) h_1) fun x14 h_2 =>
some (x14,h_2)))
noncomputable def W60 (lf:Nat):List V → List Ob → Option (V × List Ob) := wG [Sa] (F60 lf)
theorem W60_ok (lf:Nat):WOk Go.Proofs.Try.prog 60 (W60 lf) := FOk 15 [(.t 2)] A60 (x60 lf) [] (sq [.reg [mv 2 (.c .nils)],sq [.reg [mv 3 0,nk 4 3,fa 5 0 4,l1 6 5,ca 7 10 [6,(.c (.str [87,72,69,82,69]))],o 8 (.un .not 7)],.cond 8 (sq [.reg [mv 2 (.c .nils)],.ret]) .skip],.reg [mv 9 0,nk 10 9,fa 11 0 10,l1 12 11,ca 13 57 [12],o 14 (.bslice 8 zSt2 1 [(0,13)]),mv 2 14],.ret]) [Sa] _ Go.Proofs.Try.func60 (by kernel_rfl) (by kernel_rfl) (by kernel_rfl) (fun _ _ => by kernel_rfl)
def A61 := mkA [(zSt3,[7,16]),(Sb,[13])]
noncomputable def x61 (lf:Nat) (cv:CallVS) (hcv:CvOk Go.Proofs.Try.prog cv):Cx Go.Proofs.Try.prog := .v (.c .o (W10_ok lf)) hcv
noncomputable def B61_0 (lf:Nat) (cv:CallVS) (self:V → V → V → List Ob → SubR) (r:V) (member:V) (out:V) (h:List Ob):SubR :=
bind1 (er (.nilck (.c r)) h) fun x10 =>
bind1 (er (.faddr 0 (.c x10)) h) fun x11 =>
bind1 (er (.load1 (.c x11)) h) fun x12 =>
bind2 (F10 lf x12 [44] h) fun v h_ =>
castBool v fun x13 =>
cB x13 (
bind2 (cv member [] h_) fun v1 h_1 =>
castAgg v1 fun l =>
castCons l fun c l1 =>
castInt .i64 c fun x16_0 =>
castCons l1 fun c1 l2 =>
castStr c1 fun x16_1 =>
castCons l2 fun c2 l3 =>
castInt .i64 c2 fun x16_2 =>
castCons l3 fun c3 l4 =>
castInt .i64 c3 fun x16_3 =>
castCons l4 fun c4 l5 =>
castStr c4 fun x16_4 =>
castCons l5 fun c5 l6 =>
castStr c5 fun x16_5 =>
castCons l6 fun c6 l7 =>
castStr c6 fun x16_6 =>
castCons l7 fun x16_7 l8 =>
castCons l8 fun c7 l9 =>
castStr c7 fun x16_8 =>
castNil l9 (
bind2 (ev (.bslice 9 (.agg [(.int .i64 0),(.str []),(.int .i64 0),(.int .i64 0),(.str []),(.str []),(.str []),.nils,(.str [])]) 1 [(0,(.c (.agg [(.int .i64 x16_0),(.str x16_1),(.int .i64 x16_2),(.int .i64 x16_3),(.str x16_4),(.str x16_5),(.str x16_6),x16_7,(.str x16_8)])))]) h_1) fun x17 h_2 =>
bind2 (ev (.app 9 128 (.c out) (.c x17)) h_2) fun x18 h_3 =>
self r member x18 h_3)) (
some ((.exit 0),[out],h_))
noncomputable def L61_0 (lf:Nat) (cv:CallVS):Nat → V → V → V → List Ob → SubR
  | 0 => fun _ _ _ _ => none
  | n + 1 => B61_0 lf cv (L61_0 lf cv n)
noncomputable def p61_0 (lf:Nat) (cv:CallVS) (hcv:CvOk Go.Proofs.Try.prog cv):Pt Go.Proofs.Try.prog := .loop A61 (x61 lf cv hcv) [] (sq [sq [.reg [mv 9 0,nk 10 9,fa 11 0 10,l1 12 11,ca 13 10 [12,(.c (.str [44]))]],.cond 13 .skip (.exit 0)],.block 1 (.reg [mv 14 5,mv 15 1,cw 16 15 [],o 17 (.bslice 9 zSt4 1 [(0,16)]),o 18 (.app 9 128 14 17),mv 5 18])]) [Sa,Sa,Sa] [0,1,5] [((.exit 0),[5],[Sa])] (B61_0 lf cv) (L61_0 lf cv) (fun _ _ _ _ => rfl) (fun _ => rfl) (fun _ _ _ _ _ => by kernel_rfl) lf
noncomputable def F61 (lf:Nat) (cv:CallVS) (r:V) (member:V) (h:List Ob):Option (V × List Ob) :=
bind2 (cv member [] h) fun v h_ =>
castAgg v fun l =>
castCons l fun c l1 =>
castInt .i64 c fun x7_0 =>
castCons l1 fun c1 l2 =>
castStr c1 fun x7_1 =>
castCons l2 fun c2 l3 =>
castInt .i64 c2 fun x7_2 =>
castCons l3 fun c3 l4 =>
castInt .i64 c3 fun x7_3 =>
castCons l4 fun c4 l5 =>
castStr c4 fun x7_4 =>
castCons l5 fun c5 l6 =>
castStr c5 fun x7_5 =>
castCons l6 fun c6 l7 =>
castStr c6 fun x7_6 =>
castCons l7 fun x7_7 l8 =>
castCons l8 fun c7 l9 =>
castStr c7 fun x7_8 =>
castNil l9 (
bind2 (ev (.bslice 9 (.agg [(.int .i64 0),(.str []),(.int .i64 0),(.int .i64 0),(.str []),(.str []),(.str []),.nils,(.str [])]) 1 [(0,(.c (.agg [(.int .i64 x7_0),(.str x7_1),(.int .i64 x7_2),(.int .i64 x7_3),(.str x7_4),(.str x7_5),(.str x7_6),x7_7,(.str x7_8)])))]) h_) fun x8 h_1 =>
bind3 (L61_0 lf cv lf r member x8 h_1) fun ex vs h_2 =>
cB (decide (ex = (.exit 0))) (
castCons vs fun out l10 =>
castNil l10 (
some (out,h_2))) (
none))
noncomputable def W61 (lf:Nat) (cv:CallVS):List V → List Ob → Option (V × List Ob) := wG [Sa,Sa] (F61 lf cv)
theorem W61_ok (lf:Nat) (cv:CallVS) (hcv:CvOk Go.Proofs.Try.prog cv):WOk Go.Proofs.Try.prog 61 (W61 lf cv) := FOk 20 [(.t 4)] A61 (x61 lf cv hcv) [p61_0 lf cv hcv] (sq [.reg [mv 4 (.c .nils)],.reg [mv 6 1,cw 7 6 [],o 8 (.bslice 9 zSt4 1 [(0,7)]),mv 5 8],.block 0 (.sub 0),.reg [mv 19 5,mv 4 19],.ret]) [Sa,Sa] _ Go.Proofs.Try.func61 (by kernel_rfl) (by kernel_rfl) (by kernel_rfl) (fun _ _ _ => by kernel_rfl)
def A75 := mkA [(Ss,[1,4,14,15]),(Sb,[9])]
noncomputable def x75 (lf:Nat):Cx Go.Proofs.Try.prog := .c (.c .o (W10_ok lf)) (W49_ok lf)
noncomputable def F75 (lf:Nat) (r:V) (name:List UInt8) (h:List Ob):Option (V × List Ob) :=
bind1 (er (.nilck (.c r)) h) fun x6 =>
bind1 (er (.faddr 0 (.c x6)) h) fun x7 =>
bind1 (er (.load1 (.c x7)) h) fun x8 =>
bind2 (F10 lf x8 [65,83] h) fun v h_ =>
castBool v fun x9 =>
cB x9 (
bind1 (er (.nilck (.c r)) h_) fun x11 =>
bind1 (er (.faddr 0 (.c x11)) h_) fun x12 =>
bind1 (er (.load1 (.c x12)) h_) fun x13 =>
bind2 (F49 lf x13 h_) fun v1 h_1 =>
castStr v1 fun x14 =>
some ((.str x14),h_1)) (
some ((.str name),h_))
noncomputable def W75 (lf:Nat):List V → List Ob → Option (V × List Ob) := wG [Sa,Ss] (F75 lf)
theorem W75_ok (lf:Nat):WOk Go.Proofs.Try.prog 75 (W75 lf) := FOk 16 [(.t 4)] A75 (x75 lf) [] (sq [.reg [mv 4 (.c (.str []))],sq [.reg [mv 5 0,nk 6 5,fa 7 0 6,l1 8 7,ca 9 10 [8,(.c (.str [65,83]))]],.cond 9 (sq [.reg [mv 10 0,nk 11 10,fa 12 0 11,l1 13 12,ca 14 49 [13],mv 4 14],.ret]) .skip],.reg [mv 15 1,mv 4 15],.ret]) [Sa,Ss] _ Go.Proofs.Try.func75 (by kernel_rfl) (by kernel_rfl) (by kernel_rfl) (fun _ _ _ => by kernel_rfl)
def A62 := mkA [(zSt1,[8,9]),(Ss,[11]),(zSt3,[12])]
noncomputable def x62 (lf:Nat):Cx Go.Proofs.Try.prog := .c (.c .o (W57_ok lf)) (W75_ok lf)
noncomputable def F62 (lf:Nat) (r:V) (h:List Ob):Option (V × List Ob) :=
bind2 (ev (.alloc false (.agg [(.int .i64 0),(.str []),(.int .i64 0),(.int .i64 0),(.str []),(.str []),(.str []),.nils,(.str [])])) h) fun x2 h_ =>
bind1 (er (.nilck (.c r)) h_) fun x5 =>
bind1 (er (.faddr 0 (.c x5)) h_) fun x6 =>
bind1 (er (.load1 (.c x6)) h_) fun x7 =>
bind2 (F57 lf x7 h_) fun v h_1 =>
castAgg v fun l =>
castCons l fun c l1 =>
castInt .i64 c fun x8_0 =>
castCons l1 fun c1 l2 =>
castStr c1 fun x8_1 =>
castCons l2 fun c2 l3 =>
castInt .i64 c2 fun x8_2 =>
castCons l3 fun c3 l4 =>
castInt .i64 c3 fun x8_3 =>
castCons l4 fun c4 l5 =>
castStr c4 fun x8_4 =>
castCons l5 fun c5 l6 =>
castStr c5 fun x8_5 =>
castCons l6 fun c6 l7 =>
castStr c6 fun x8_6 =>
castCons l7 fun x8_7 l8 =>
castNil l8 (
bind2 (ev (.alloc false (.agg [(.int .i64 0),(.str []),(.int .i64 0),(.int .i64 0),(.str []),(.str []),(.str []),.nils])) h_1) fun e h_2 =>
bind2 (ev (.store 8 (.c e) (.c (.agg [(.int .i64 x8_0),(.str x8_1),(.int .i64 x8_2),(.int .i64 x8_3),(.str x8_4),(.str x8_5),(.str x8_6),x8_7]))) h_2) fun u h_3 =>
bind1 (er (.loadN 8 (.c e)) h_3) fun v1 =>
castAgg v1 fun l9 =>
castCons l9 fun c7 l10 =>
castInt .i64 c7 fun x9_0 =>
castCons l10 fun c8 l11 =>
castStr c8 fun x9_1 =>
castCons l11 fun c9 l12 =>
castInt .i64 c9 fun x9_2 =>
castCons l12 fun c10 l13 =>
castInt .i64 c10 fun x9_3 =>
castCons l13 fun c11 l14 =>
castStr c11 fun x9_4 =>
castCons l14 fun c12 l15 =>
castStr c12 fun x9_5 =>
castCons l15 fun c13 l16 =>
castStr c13 fun x9_6 =>
castCons l16 fun x9_7 l17 =>
castNil l17 (
bind2 (F75 lf r ([]:List UInt8) h_3) fun v2 h_4 =>
castStr v2 fun x11 =>
reP (er (.loadN 8 (.c e)) h_4 = some (.agg [(.int .i64 x9_0),(.str x9_1),(.int .i64 x9_2),(.int .i64 x9_3),(.str x9_4),(.str x9_5),(.str x9_6),x9_7])) (
bind1 (er (.build [(.int .i64 0),(.str []),(.int .i64 0),(.int .i64 0),(.str []),(.str []),(.str []),.nils,(.str [])] [(0,(8,(.c (.agg [(.int .i64 x9_0),(.str x9_1),(.int .i64 x9_2),(.int .i64 x9_3),(.str x9_4),(.str x9_5),(.str x9_6),x9_7])))),(8,(1,(.c (.str x11))))]) h_4) fun v3 =>
castAgg v3 fun l18 =>
castCons l18 fun c14 l19 =>
castInt .i64 c14 fun x12_0 =>
castCons l19 fun c15 l20 =>
castStr c15 fun x12_1 =>
castCons l20 fun c16 l21 =>
castInt .i64 c16 fun x12_2 =>
castCons l21 fun c17 l22 =>
castInt .i64 c17 fun x12_3 =>
castCons l22 fun c18 l23 =>
castStr c18 fun x12_4 =>
castCons l23 fun c19 l24 =>
castStr c19 fun x12_5 =>
castCons l24 fun c20 l25 =>
castStr c20 fun x12_6 =>
castCons l25 fun x12_7 l26 =>
castCons l26 fun c21 l27 =>
castStr c21 fun x12_8 =>
castNil l27 (
bind2 (ev (.store 9 (.c x2) (.c (.agg [(.int .i64 x12_0),(.str x12_1),(.int .i64 x12_2),(.int .i64 x12_3),(.str x12_4),(.str x12_5),(.str x12_6),x12_7,(.str x12_8)]))) h_4) fun u1 h_5 =>
bind1 (evLoadN h_5 9 x2) fun r1 =>
some (r1,h_5)))))
noncomputable def W62 (lf:Nat):List V → List Ob → Option (V × List Ob) := wG [Sa] (F62 lf)
theorem W62_ok (lf:Nat):WOk Go.Proofs.Try.prog 62 (W62 lf) := FOk 13 [(.ln 9 2)] A62 (x62 lf) [] (sq [.reg [o 2 (.alloc false zSt4)],.reg [mv 4 0,nk 5 4,fa 6 0 5,l1 7 6,ca 8 57 [7],o 3 (.alloc false zSt2),st 8 3 8],.reg [ln 9 8 3,mv 10 0,⟨(some 11),none,(.call 75 [(.t 10),(.c (.str []))]),[⟨(some 9),none,(.op (.loadN 8 (.t 3)))⟩]⟩,o 12 (.build [(.int .i64 0),(.str []),(.int .i64 0),(.int .i64 0),(.str []),(.str []),(.str []),.nils,(.str [])] [(0,(8,9)),(8,(1,11))]),st 9 2 12],.ret]) [Sa] _ Go.Proofs.Try.func62 (by kernel_rfl) (by kernel_rfl) (by kernel_rfl) (fun _ _ => by kernel_rfl)
def A63 := mkA [(Ss,[3,8,9,11,12]),(zSt5,[13])]
noncomputable def x63 (lf:Nat):Cx Go.Proofs.Try.prog := .c (.c .o (W49_ok lf)) (W75_ok lf)
noncomputable def F63 (lf:Nat) (r:V) (h:List Ob):Option (V × List Ob) :=
bind2 (ev (.alloc false (.agg [(.str []),(.str []),(.int .i64 0),(.str []),(.int .i64 0),(.int .i64 0),(.str []),(.str []),(.str []),.nils])) h) fun x2 h_ =>
bind1 (er (.nilck (.c r)) h_) fun x5 =>
bind1 (er (.faddr 0 (.c x5)) h_) fun x6 =>
bind1 (er (.load1 (.c x6)) h_) fun x7 =>
bind2 (F49 lf x7 h_) fun v h_1 =>
castStr v fun x8 =>
bind2 (F75 lf r x8 h_1) fun v1 h_2 =>
castStr v1 fun x12 =>
bind1 (er (.build [(.str []),(.str []),(.int .i64 0),(.str []),(.int .i64 0),(.int .i64 0),(.str []),(.str []),(.str []),.nils] [(0,(1,(.c (.str x8)))),(1,(1,(.c (.str x12))))]) h_2) fun v2 =>
castAgg v2 fun l =>
castCons l fun c l1 =>
castStr c fun x13_0 =>
castCons l1 fun c1 l2 =>
castStr c1 fun x13_1 =>
castCons l2 fun c2 l3 =>
castInt .i64 c2 fun x13_2 =>
castCons l3 fun c3 l4 =>
castStr c3 fun x13_3 =>
castCons l4 fun c4 l5 =>
castInt .i64 c4 fun x13_4 =>
castCons l5 fun c5 l6 =>
castInt .i64 c5 fun x13_5 =>
castCons l6 fun c6 l7 =>
castStr c6 fun x13_6 =>
castCons l7 fun c7 l8 =>
castStr c7 fun x13_7 =>
castCons l8 fun c8 l9 =>
castStr c8 fun x13_8 =>
castCons l9 fun x13_9 l10 =>
castNil l10 (
bind2 (ev (.store 10 (.c x2) (.c (.agg [(.str x13_0),(.str x13_1),(.int .i64 x13_2),(.str x13_3),(.int .i64 x13_4),(.int .i64 x13_5),(.str x13_6),(.str x13_7),(.str x13_8),x13_9]))) h_2) fun u h_3 =>
bind1 (evLoadN h_3 10 x2) fun r1 =>
some (r1,h_3))
noncomputable def W63 (lf:Nat):List V → List Ob → Option (V × List Ob) := wG [Sa] (F63 lf)
theorem W63_ok (lf:Nat):WOk Go.Proofs.Try.prog 63 (W63 lf) := FOk 14 [(.ln 10 2)] A63 (x63 lf) [] (sq [.reg [o 2 (.alloc false zSt6)],.reg [mv 4 0,nk 5 4,fa 6 0 5,l1 7 6,ca 8 49 [7],mv 3 8],.reg [mv 9 3,mv 10 0,mv 11 3,ca 12 75 [10,11],o 13 (.build [(.str []),(.str []),(.int .i64 0),(.str []),(.int .i64 0),(.int .i64 0),(.str []),(.str []),(.str []),.nils] [(0,(1,9)),(1,(1,12))]),st 10 2 13],.ret]) [Sa] _ Go.Proofs.Try.func63 (by kernel_rfl) (by kernel_rfl) (by kernel_rfl) (fun _ _ => by kernel_rfl)
def A64 := mkA [(zSt1,[7,16]),(Sb,[13])]
noncomputable def x64 (lf:Nat) (cv:CallVS) (hcv:CvOk Go.Proofs.Try.prog cv):Cx Go.Proofs.Try.prog := .v (.c .o (W10_ok lf)) hcv
noncomputable def B64_0 (lf:Nat) (cv:CallVS) (self:V → V → V → List Ob → SubR) (r:V) (member:V) (out:V) (h:List Ob):SubR :=
bind1 (er (.nilck (.c r)) h) fun x10 =>
bind1 (er (.faddr 0 (.c x10)) h) fun x11 =>
bind1 (er (.load1 (.c x11)) h) fun x12 =>
bind2 (F10 lf x12 [44] h) fun v h_ =>
castBool v fun x13 =>
cB x13 (
bind2 (cv member [] h_) fun v1 h_1 =>
castAgg v1 fun l =>
castCons l fun c l1 =>
castInt .i64 c fun x16_0 =>
castCons l1 fun c1 l2 =>
castStr c1 fun x16_1 =>
castCons l2 fun c2 l3 =>
castInt .i64 c2 fun x16_2 =>
castCons l3 fun c3 l4 =>
castInt .i64 c3 fun x16_3 =>
castCons l4 fun c4 l5 =>
castStr c4 fun x16_4 =>
castCons l5 fun c5 l6 =>
castStr c5 fun x16_5 =>
castCons l6 fun c6 l7 =>
castStr c6 fun x16_6 =>
castCons l7 fun x16_7 l8 =>
castNil l8 (
bind2 (ev (.bslice 8 (.agg [(.int .i64 0),(.str []),(.int .i64 0),(.int .i64 0),(.str []),(.str []),(.str []),.nils]) 1 [(0,(.c (.agg [(.int .i64 x16_0),(.str x16_1),(.int .i64 x16_2),(.int .i64 x16_3),(.str x16_4),(.str x16_5),(.str x16_6),x16_7])))]) h_1) fun x17 h_2 =>
bind2 (ev (.app 8 112 (.c out) (.c x17)) h_2) fun x18 h_3 =>
self r member x18 h_3)) (
some ((.exit 0),[out],h_))
noncomputable def L64_0 (lf:Nat) (cv:CallVS):Nat → V → V → V → List Ob → SubR
  | 0 => fun _ _ _ _ => none
  | n + 1 => B64_0 lf cv (L64_0 lf cv n)
noncomputable def p64_0 (lf:Nat) (cv:CallVS) (hcv:CvOk Go.Proofs.Try.prog cv):Pt Go.Proofs.Try.prog := .loop A64 (x64 lf cv hcv) [] (sq [sq [.reg [mv 9 0,nk 10 9,fa 11 0 10,l1 12 11,ca 13 10 [12,(.c (.str [44]))]],.cond 13 .skip (.exit 0)],.block 1 (.reg [mv 14 5,mv 15 1,cw 16 15 [],o 17 (.bslice 8 zSt2 1 [(0,16)]),o 18 (.app 8 112 14 17),mv 5 18])]) [Sa,Sa,Sa] [0,1,5] [((.exit 0),[5],[Sa])] (B64_0 lf cv) (L64_0 lf cv) (fun _ _ _ _ => rfl) (fun _ => rfl) (fun _ _ _ _ _ => by kernel_rfl) lf
noncomputable def F64 (lf:Nat) (cv:CallVS) (r:V) (member:V) (h:List Ob):Option (V × List Ob) :=
bind2 (cv member [] h) fun v h_ =>
castAgg v fun l =>
castCons l fun c l1 =>
castInt .i64 c fun x7_0 =>
castCons l1 fun c1 l2 =>
castStr c1 fun x7_1 =>
castCons l2 fun c2 l3 =>
castInt .i64 c2 fun x7_2 =>
castCons l3 fun c3 l4 =>
castInt .i64 c3 fun x7_3 =>
castCons l4 fun c4 l5 =>
castStr c4 fun x7_4 =>
castCons l5 fun c5 l6 =>
castStr c5 fun x7_5 =>
castCons l6 fun c6 l7 =>
castStr c6 fun x7_6 =>
castCons l7 fun x7_7 l8 =>
castNil l8 (
bind2 (ev (.bslice 8 (.agg [(.int .i64 0),(.str []),(.int .i64 0),(.int .i64 0),(.str []),(.str []),(.str []),.nils]) 1 [(0,(.c (.agg [(.int .i64 x7_0),(.str x7_1),(.int .i64 x7_2),(.int .i64 x7_3),(.str x7_4),(.str x7_5),(.str x7_6),x7_7])))]) h_) fun x8 h_1 =>
bind3 (L64_0 lf cv lf r member x8 h_1) fun ex vs h_2 =>
cB (decide (ex = (.exit 0))) (
castCons vs fun out l9 =>
castNil l9 (
some (out,h_2))) (
none))
noncomputable def W64 (lf:Nat) (cv:CallVS):List V → List Ob → Option (V × List Ob) := wG [Sa,Sa] (F64 lf cv)
theorem W64_ok (lf:Nat) (cv:CallVS) (hcv:CvOk Go.Proofs.Try.prog cv):WOk Go.Proofs.Try.prog 64 (W64 lf cv) := FOk 20 [(.t 4)] A64 (x64 lf cv hcv) [p64_0 lf cv hcv] (sq [.reg [mv 4 (.c .nils)],.reg [mv 6 1,cw 7 6 [],o 8 (.bslice 8 zSt2 1 [(0,7)]),mv 5 8],.block 0 (.sub 0),.reg [mv 19 5,mv 4 19],.ret]) [Sa,Sa] _ Go.Proofs.Try.func64 (by kernel_rfl) (by kernel_rfl) (by kernel_rfl) (fun _ _ _ => by kernel_rfl)
def A65 := mkA [(zSt7,[7,16]),(Sb,[13])]
noncomputable def x65 (lf:Nat) (cv:CallVS) (hcv:CvOk Go.Proofs.Try.prog cv):Cx Go.Proofs.Try.prog := .v (.c .o (W10_ok lf)) hcv
noncomputable def B65_0 (lf:Nat) (cv:CallVS) (self:V → V → V → List Ob → SubR) (r:V) (member:V) (out:V) (h:List Ob):SubR :=
bind1 (er (.nilck (.c r)) h) fun x10 =>
bind1 (er (.faddr 0 (.c x10)) h) fun x11 =>
bind1 (er (.load1 (.c x11)) h) fun x12 =>
bind2 (F10 lf x12 [44] h) fun v h_ =>
castBool v fun x13 =>
cB x13 (
bind2 (cv member [] h_) fun v1 h_1 =>
castAgg v1 fun l =>
castCons l fun c l1 =>
castInt .i64 c fun x16_0 =>
castCons l1 fun c1 l2 =>
castStr c1 fun x16_1 =>
castCons l2 fun c2 l3 =>
castInt .i64 c2 fun x16_2 =>
castCons l3 fun c3 l4 =>
castInt .i64 c3 fun x16_3 =>
castCons l4 fun c4 l5 =>
castStr c4 fun x16_4 =>
castCons l5 fun c5 l6 =>
castStr c5 fun x16_5 =>
castCons l6 fun c6 l7 =>
castStr c6 fun x16_6 =>
castCons l7 fun x16_7 l8 =>
castCons l8 fun c7 l9 =>
castBool c7 fun x16_8 =>
castNil l9 (
bind2 (ev (.bslice 9 (.agg [(.int .i64 0),(.str []),(.int .i64 0),(.int .i64 0),(.str []),(.str []),(.str []),.nils,(.bool false)]) 1 [(0,(.c (.agg [(.int .i64 x16_0),(.str x16_1),(.int .i64 x16_2),(.int .i64 x16_3),(.str x16_4),(.str x16_5),(.str x16_6),x16_7,(.bool x16_8)])))]) h_1) fun x17 h_2 =>
bind2 (ev (.app 9 120 (.c out) (.c x17)) h_2) fun x18 h_3 =>
self r member x18 h_3)) (
some ((.exit 0),[out],h_))
noncomputable def L65_0 (lf:Nat) (cv:CallVS):Nat → V → V → V → List Ob → SubR
  | 0 => fun _ _ _ _ => none
  | n + 1 => B65_0 lf cv (L65_0 lf cv n)
noncomputable def p65_0 (lf:Nat) (cv:CallVS) (hcv:CvOk Go.Proofs.Try.prog cv):Pt Go.Proofs.Try.prog := .loop A65 (x65 lf cv hcv) [] (sq [sq [.reg [mv 9 0,nk 10 9,fa 11 0 10,l1 12 11,ca 13 10 [12,(.c (.str [44]))]],.cond 13 .skip (.exit 0)],.block 1 (.reg [mv 14 5,mv 15 1,cw 16 15 [],o 17 (.bslice 9 zSt8 1 [(0,16)]),o 18 (.app 9 120 14 17),mv 5 18])]) [Sa,Sa,Sa] [0,1,5] [((.exit 0),[5],[Sa])] (B65_0 lf cv) (L65_0 lf cv) (fun _ _ _ _ => rfl) (fun _ => rfl) (fun _ _ _ _ _ => by kernel_rfl) lf
noncomputable def F65 (lf:Nat) (cv:CallVS) (r:V) (member:V) (h:List Ob):Option (V × List Ob) :=
bind2 (cv member [] h) fun v h_ =>
castAgg v fun l =>
castCons l fun c l1 =>
castInt .i64 c fun x7_0 =>
castCons l1 fun c1 l2 =>
castStr c1 fun x7_1 =>
castCons l2 fun c2 l3 =>
castInt .i64 c2 fun x7_2 =>
castCons l3 fun c3 l4 =>
castInt .i64 c3 fun x7_3 =>
castCons l4 fun c4 l5 =>
castStr c4 fun x7_4 =>
castCons l5 fun c5 l6 =>
castStr c5 fun x7_5 =>
castCons l6 fun c6 l7 =>
castStr c6 fun x7_6 =>
castCons l7 fun x7_7 l8 =>
castCons l8 fun c7 l9 =>
castBool c7 fun x7_8 =>
castNil l9 (
bind2 (ev (.bslice 9 (.agg [(.int .i64 0),(.str []),(.int .i64 0),(.int .i64 0),(.str []),(.str []),(.str []),.nils,(.bool false)]) 1 [(0,(.c (.agg [(.int .i64 x7_0),(.str x7_1),(.int .i64 x7_2),(.int .i64 x7_3),(.str x7_4),(.str x7_5),(.str x7_6),x7_7,(.bool x7_8)])))]) h_) fun x8 h_1 =>
bind3 (L65_0 lf cv lf r member x8 h_1) fun ex vs h_2 =>
cB (decide (ex = (.exit 0))) (
castCons vs fun out l10 =>
castNil l10 (
some (out,h_2))) (
none))
noncomputable def W65 (lf:Nat) (cv:CallVS):List V → List Ob → Option (V × List Ob) := wG [Sa,Sa] (F65 lf cv)
theorem W65_ok (lf:Nat) (cv:CallVS) (hcv:CvOk Go.Proofs.Try.prog cv):WOk Go.Proofs.Try.prog 65 (W65 lf cv) := FOk 20 [(.t 4)] A65 (x65 lf cv hcv) [p65_0 lf cv hcv] (sq [.reg [mv 4 (.c .nils)],.reg [mv 6 1,cw 7 6 [],o 8 (.bslice 9 zSt8 1 [(0,7)]),mv 5 8],.block 0 (.sub 0),.reg [mv 19 5,mv 4 19],.ret]) [Sa,Sa] _ Go.Proofs.Try.func65 (by kernel_rfl) (by kernel_rfl) (by kernel_rfl) (fun _ _ _ => by kernel_rfl)
def A66 := mkA [(zSt1,[8,9]),(Sb,[14,15,16,21,22]),(zSt7,[23])]
noncomputable def x66 (lf:Nat):Cx Go.Proofs.Try.prog := .c (.c .o (W10_ok lf)) (W57_ok lf)
noncomputable def F66 (lf:Nat) (r:V) (h:List Ob):Option (V × List Ob) :=
bind2 (ev (.alloc false (.agg [(.int .i64 0),(.str []),(.int .i64 0),(.int .i64 0),(.str []),(.str []),(.str []),.nils,(.bool false)])) h) fun x2 h_ =>
bind1 (er (.nilck (.c r)) h_) fun x5 =>
bind1 (er (.faddr 0 (.c x5)) h_) fun x6 =>
bind1 (er (.load1 (.c x6)) h_) fun x7 =>
bind2 (F57 lf x7 h_) fun v h_1 =>
castAgg v fun l =>
castCons l fun c l1 =>
castInt .i64 c fun x8_0 =>
castCons l1 fun c1 l2 =>
castStr c1 fun x8_1 =>
castCons l2 fun c2 l3 =>
castInt .i64 c2 fun x8_2 =>
castCons l3 fun c3 l4 =>
castInt .i64 c3 fun x8_3 =>
castCons l4 fun c4 l5 =>
castStr c4 fun x8_4 =>
castCons l5 fun c5 l6 =>
castStr c5 fun x8_5 =>
castCons l6 fun c6 l7 =>
castStr c6 fun x8_6 =>
castCons l7 fun x8_7 l8 =>
castNil l8 (
bind2 (ev (.alloc false (.agg [(.int .i64 0),(.str []),(.int .i64 0),(.int .i64 0),(.str []),(.str []),(.str []),.nils])) h_1) fun e h_2 =>
bind2 (ev (.store 8 (.c e) (.c (.agg [(.int .i64 x8_0),(.str x8_1),(.int .i64 x8_2),(.int .i64 x8_3),(.str x8_4),(.str x8_5),(.str x8_6),x8_7]))) h_2) fun u h_3 =>
bind1 (er (.loadN 8 (.c e)) h_3) fun v1 =>
castAgg v1 fun l9 =>
castCons l9 fun c7 l10 =>
castInt .i64 c7 fun x9_0 =>
castCons l10 fun c8 l11 =>
castStr c8 fun x9_1 =>
castCons l11 fun c9 l12 =>
castInt .i64 c9 fun x9_2 =>
castCons l12 fun c10 l13 =>
castInt .i64 c10 fun x9_3 =>
castCons l13 fun c11 l14 =>
castStr c11 fun x9_4 =>
castCons l14 fun c12 l15 =>
castStr c12 fun x9_5 =>
castCons l15 fun c13 l16 =>
castStr c13 fun x9_6 =>
castCons l16 fun x9_7 l17 =>
castNil l17 (
bind1 (er (.nilck (.c r)) h_3) fun x11 =>
bind1 (er (.faddr 0 (.c x11)) h_3) fun x12 =>
bind1 (er (.load1 (.c x12)) h_3) fun x13 =>
bind2 (F10 lf x13 [65,83,67] h_3) fun v2 h_4 =>
castBool v2 fun x14 =>
reP (er (.loadN 8 (.c e)) h_4 = some (.agg [(.int .i64 x9_0),(.str x9_1),(.int .i64 x9_2),(.int .i64 x9_3),(.str x9_4),(.str x9_5),(.str x9_6),x9_7])) (
cB (!x14) (
bind1 (er (.nilck (.c r)) h_4) fun x18 =>
bind1 (er (.faddr 0 (.c x18)) h_4) fun x19 =>
bind1 (er (.load1 (.c x19)) h_4) fun x20 =>
bind2 (F10 lf x20 [68,69,83,67] h_4) fun v3 h_5 =>
castBool v3 fun x21 =>
reP (er (.loadN 8 (.c e)) h_5 = some (.agg [(.int .i64 x9_0),(.str x9_1),(.int .i64 x9_2),(.int .i64 x9_3),(.str x9_4),(.str x9_5),(.str x9_6),x9_7])) (
bind1 (er (.build [(.int .i64 0),(.str []),(.int .i64 0),(.int .i64 0),(.str []),(.str []),(.str []),.nils,(.bool false)] [(0,(8,(.c (.agg [(.int .i64 x9_0),(.str x9_1),(.int .i64 x9_2),(.int .i64 x9_3),(.str x9_4),(.str x9_5),(.str x9_6),x9_7])))),(8,(1,(.c (.bool x21))))]) h_5) fun v4 =>
castAgg v4 fun l18 =>
castCons l18 fun c14 l19 =>
castInt .i64 c14 fun x23_0 =>
castCons l19 fun c15 l20 =>
castStr c15 fun x23_1 =>
castCons l20 fun c16 l21 =>
castInt .i64 c16 fun x23_2 =>
castCons l21 fun c17 l22 =>
castInt .i64 c17 fun x23_3 =>
castCons l22 fun c18 l23 =>
castStr c18 fun x23_4 =>
castCons l23 fun c19 l24 =>
castStr c19 fun x23_5 =>
castCons l24 fun c20 l25 =>
castStr c20 fun x23_6 =>
castCons l25 fun x23_7 l26 =>
castCons l26 fun c21 l27 =>
castBool c21 fun x23_8 =>
castNil l27 (
bind2 (ev (.store 9 (.c x2) (.c (.agg [(.int .i64 x23_0),(.str x23_1),(.int .i64 x23_2),(.int .i64 x23_3),(.str x23_4),(.str x23_5),(.str x23_6),x23_7,(.bool x23_8)]))) h_5) fun u1 h_6 =>
bind1 (evLoadN h_6 9 x2) fun r1 =>
some (r1,h_6)))) (
reP (er (.loadN 8 (.c e)) h_4 = some (.agg [(.int .i64 x9_0),(.str x9_1),(.int .i64 x9_2),(.int .i64 x9_3),(.str x9_4),(.str x9_5),(.str x9_6),x9_7])) (
bind1 (er (.build [(.int .i64 0),(.str []),(.int .i64 0),(.int .i64 0),(.str []),(.str []),(.str []),.nils,(.bool false)] [(0,(8,(.c (.agg [(.int .i64 x9_0),(.str x9_1),(.int .i64 x9_2),(.int .i64 x9_3),(.str x9_4),(.str x9_5),(.str x9_6),x9_7])))),(8,(1,(.c (.bool false))))]) h_4) fun v3 =>
castAgg v3 fun l18 =>
castCons l18 fun c14 l19 =>
castInt .i64 c14 fun x23_0 =>
castCons l19 fun c15 l20 =>
castStr c15 fun x23_1 =>
castCons l20 fun c16 l21 =>
castInt .i64 c16 fun x23_2 =>
castCons l21 fun c17 l22 =>
castInt .i64 c17 fun x23_3 =>
castCons l22 fun c18 l23 =>
castStr c18 fun x23_4 =>
castCons l23 fun c19 l24 =>
castStr c19 fun x23_5 =>
castCons l24 fun c20 l25 =>
castStr c20 fun x23_6 =>
castCons l25 fun x23_7 l26 =>
castCons l26 fun c21 l27 =>
castBool c21 fun x23_8 =>
castNil l27 (
bind2 (ev (.store 9 (.c x2) (.c (.agg [(.int .i64 x23_0),(.str x23_1),(.int .i64 x23_2),(.int .i64 x23_3),(.str x23_4),(.str x23_5),(.str x23_6),x23_7,(.bool x23_8)]))) h_4) fun u1 h_5 =>
bind1 (evLoadN h_5 9 x2) fun r1 =>
some (r1,h_5)))))))
noncomputable def W66 (lf:Nat):List V → List Ob → Option (V × List Ob) := wG [Sa] (F66 lf)
theorem W66_ok (lf:Nat):WOk Go.Proofs.Try.prog 66 (W66 lf) := FOk 24 [(.ln 9 2)] A66 (x66 lf) [] (sq [.reg [o 2 (.alloc false zSt8)],.reg [mv 4 0,nk 5 4,fa 6 0 5,l1 7 6,ca 8 57 [7],o 3 (.alloc false zSt2),st 8 3 8],.reg [ln 9 8 3,mv 10 0,nk 11 10,fa 12 0 11,l1 13 12,⟨(some 14),none,(.call 10 [(.t 13),(.c (.str [65,83,67]))]),[⟨(some 9),none,(.op (.loadN 8 (.t 3)))⟩]⟩,o 15 (.un .not 14),mv 16 15,oT 17 16 (.mv 0),oT 18 16 (.nilck 17),oT 19 16 (.faddr 0 18),oT 20 16 (.load1 19),⟨(some 21),(some (16,true)),(.call 10 [(.t 20),(.c (.str [68,69,83,67]))]),[⟨(some 9),none,(.op (.loadN 8 (.t 3)))⟩]⟩,o 22 (.pick 16 21 cF),o 23 (.build [(.int .i64 0),(.str []),(.int .i64 0),(.int .i64 0),(.str []),(.str []),(.str []),.nils,(.bool false)] [(0,(8,9)),(8,(1,22))]),st 9 2 23],.ret]) [Sa] _ Go.Proofs.Try.func66 (by kernel_rfl) (by kernel_rfl) (by kernel_rfl) (fun _ _ => by kernel_rfl)
noncomputable def cv31 (lf:Nat):CallVS := cvC 66 (W66 lf) (cvC 62 (W62 lf) (cvC 57 (W57 lf) (cvN)))
theorem cv31_ok (lf:Nat):CvOk Go.Proofs.Try.prog (cv31 lf) := cvC_ok (W66_ok lf) (cvC_ok (W62_ok lf) (cvC_ok (W57_ok lf) (cvN_ok)))
def A31 := mkA [(zSt9,[5,110]),(Sb,[10,16,19,20,40,68,87,103]),(zSt5,[33,42,57]),(zSt1,[53]),(Si,[108])]
noncomputable def x31 (lf:Nat):Cx Go.Proofs.Try.prog := .v (.c (.c (.c (.c (.c (.c (.c (.c (.c .o (W10_ok lf)) (W52_ok lf)) (W57_ok lf)) (W60_ok lf)) (W61_ok lf (cv31 lf) (cv31_ok lf))) (W63_ok lf)) (W64_ok lf (cv31 lf) (cv31_ok lf))) (W65_ok lf (cv31 lf) (cv31_ok lf))) (W67_ok lf)) (cv31_ok lf)
noncomputable def B31_0 (lf:Nat) (self:V → V → List Ob → SubR) (r:V) (q:V) (h:List Ob):SubR :=
bind1 (er (.nilck (.c r)) h) fun x37 =>
bind1 (er (.faddr 0 (.c x37)) h) fun x38 =>
bind1 (er (.load1 (.c x38)) h) fun x39 =>
bind2 (F10 lf x39 [74,79,73,78] h) fun v h_ =>
castBool v fun x40 =>
cB x40 (
bind2 (F63 lf r h_) fun v1 h_1 =>
castAgg v1 fun l =>
castCons l fun c l1 =>
castStr c fun x42_0 =>
castCons l1 fun c1 l2 =>
castStr c1 fun x42_1 =>
castCons l2 fun c2 l3 =>
castInt .i64 c2 fun x42_2 =>
castCons l3 fun c3 l4 =>
castStr c3 fun x42_3 =>
castCons l4 fun c4 l5 =>
castInt .i64 c4 fun x42_4 =>
castCons l5 fun c5 l6 =>
castInt .i64 c5 fun x42_5 =>
castCons l6 fun c6 l7 =>
castStr c6 fun x42_6 =>
castCons l7 fun c7 l8 =>
castStr c7 fun x42_7 =>
castCons l8 fun c8 l9 =>
castStr c8 fun x42_8 =>
castCons l9 fun x42_9 l10 =>
castNil l10 (
bind2 (ev (.alloc false (.agg [(.str []),(.str []),(.int .i64 0),(.str []),(.int .i64 0),(.int .i64 0),(.str []),(.str []),(.str []),.nils])) h_1) fun s h_2 =>
bind2 (ev (.store 10 (.c s) (.c (.agg [(.str x42_0),(.str x42_1),(.int .i64 x42_2),(.str x42_3),(.int .i64 x42_4),(.int .i64 x42_5),(.str x42_6),(.str x42_7),(.str x42_8),x42_9]))) h_2) fun u h_3 =>
bind1 (er (.nilck (.c r)) h_3) fun x44 =>
bind1 (er (.faddr 0 (.c x44)) h_3) fun x45 =>
bind1 (er (.load1 (.c x45)) h_3) fun x46 =>
bind2 (ev (.bslice 1 (.str []) 1 [(0,(.c (.str [79,78])))]) h_3) fun x47 h_4 =>
bind2 (F52 lf x46 x47 h_4) fun x48 h_5 =>
bind1 (er (.nilck (.c r)) h_5) fun x50 =>
bind1 (er (.faddr 0 (.c x50)) h_5) fun x51 =>
bind1 (er (.load1 (.c x51)) h_5) fun x52 =>
bind2 (F57 lf x52 h_5) fun v2 h_6 =>
castAgg v2 fun l11 =>
castCons l11 fun c9 l12 =>
castInt .i64 c9 fun x53_0 =>
castCons l12 fun c10 l13 =>
castStr c10 fun x53_1 =>
castCons l13 fun c11 l14 =>
castInt .i64 c11 fun x53_2 =>
castCons l14 fun c12 l15 =>
castInt .i64 c12 fun x53_3 =>
castCons l15 fun c13 l16 =>
castStr c13 fun x53_4 =>
castCons l16 fun c14 l17 =>
castStr c14 fun x53_5 =>
castCons l17 fun c15 l18 =>
castStr c15 fun x53_6 =>
castCons l18 fun x53_7 l19 =>
castNil l19 (
bind1 (er (.faddr 2 (.c s)) h_6) fun x54 =>
bind2 (ev (.store 8 (.c x54) (.c (.agg [(.int .i64 x53_0),(.str x53_1),(.int .i64 x53_2),(.int .i64 x53_3),(.str x53_4),(.str x53_5),(.str x53_6),x53_7]))) h_6) fun u1 h_7 =>
bind1 (er (.faddr 3 (.c q)) h_7) fun x55 =>
bind1 (er (.load1 (.c x55)) h_7) fun x56 =>
bind1 (er (.loadN 10 (.c s)) h_7) fun v3 =>
castAgg v3 fun l20 =>
castCons l20 fun c16 l21 =>
castStr c16 fun x57_0 =>
castCons l21 fun c17 l22 =>
castStr c17 fun x57_1 =>
castCons l22 fun c18 l23 =>
castInt .i64 c18 fun x57_2 =>
castCons l23 fun c19 l24 =>
castStr c19 fun x57_3 =>
castCons l24 fun c20 l25 =>
castInt .i64 c20 fun x57_4 =>
castCons l25 fun c21 l26 =>
castInt .i64 c21 fun x57_5 =>
castCons l26 fun c22 l27 =>
castStr c22 fun x57_6 =>
castCons l27 fun c23 l28 =>
castStr c23 fun x57_7 =>
castCons l28 fun c24 l29 =>
castStr c24 fun x57_8 =>
castCons l29 fun x57_9 l30 =>
castNil l30 (
bind2 (ev (.bslice 10 (.agg [(.str []),(.str []),(.int .i64 0),(.str []),(.int .i64 0),(.int .i64 0),(.str []),(.str []),(.str []),.nils]) 1 [(0,(.c (.agg [(.str x57_0),(.str x57_1),(.int .i64 x57_2),(.str x57_3),(.int .i64 x57_4),(.int .i64 x57_5),(.str x57_6),(.str x57_7),(.str x57_8),x57_9])))]) h_7) fun x58 h_8 =>
bind2 (ev (.app 10 144 (.c x56) (.c x58)) h_8) fun x59 h_9 =>
bind1 (er (.faddr 3 (.c q)) h_9) fun x60 =>
bind2 (ev (.store 1 (.c x60) (.c x59)) h_9) fun u2 h_10 =>
self r q h_10)))) (
some ((.exit 0),[],h_))
noncomputable def L31_0 (lf:Nat):Nat → V → V → List Ob → SubR
  | 0 => fun _ _ _ => none
  | n + 1 => B31_0 lf (L31_0 lf n)
noncomputable def p31_0 (lf:Nat):Pt Go.Proofs.Try.prog := .loop A31 (x31 lf) [] (sq [sq [.reg [mv 36 0,nk 37 36,fa 38 0 37,l1 39 38,ca 40 10 [39,(.c (.str [74,79,73,78]))]],.cond 40 .skip (.exit 0)],.block 1 (sq [.reg [mv 41 0,ca 42 63 [41],o 4 (.alloc false zSt6),st 10 4 42],.reg [mv 43 0,nk 44 43,fa 45 0 44,l1 46 45,o 47 (.bslice 1 (.str []) 1 [(0,(.c (.str [79,78])))]),ca 48 52 [46,47]],.reg [mv 49 0,nk 50 49,fa 51 0 50,l1 52 51,ca 53 57 [52],fa 54 2 4,st 8 54 53],.reg [fa 55 3 3,l1 56 55,ln 57 10 4,o 58 (.bslice 10 zSt6 1 [(0,57)]),o 59 (.app 10 144 56 58),fa 60 3 3,st 1 60 59]])]) [Sa,Sa] [0,3] [((.exit 0),[],[])] (B31_0 lf) (L31_0 lf) (fun _ _ _ => rfl) (fun _ => rfl) (fun _ _ _ _ => by kernel_rfl) lf
noncomputable def S31_1 (lf:Nat) (r:V) (q:V) (h:List Ob):SubR :=
bind1 (er (.nilck (.c r)) h) fun x84 =>
bind1 (er (.faddr 0 (.c x84)) h) fun x85 =>
bind1 (er (.load1 (.c x85)) h) fun x86 =>
bind2 (F10 lf x86 [79,82,68,69,82] h) fun v h_ =>
castBool v fun x87 =>
cB x87 (
bind1 (er (.nilck (.c r)) h_) fun x89 =>
bind1 (er (.faddr 0 (.c x89)) h_) fun x90 =>
bind1 (er (.load1 (.c x90)) h_) fun x91 =>
bind2 (ev (.bslice 1 (.str []) 1 [(0,(.c (.str [66,89])))]) h_) fun x92 h_1 =>
bind2 (F52 lf x91 x92 h_1) fun x93 h_2 =>
bind2 (F65 lf (cv31 lf) r (.bm 66 [r]) h_2) fun x97 h_3 =>
bind1 (er (.faddr 6 (.c q)) h_3) fun x98 =>
bind2 (ev (.store 1 (.c x98) (.c x97)) h_3) fun u h_4 =>
some (.normal,[],h_4)) (
some (.normal,[],h_))
noncomputable def p31_1 (lf:Nat):Pt Go.Proofs.Try.prog := .of A31 (x31 lf) [] (sq [.reg [mv 83 0,nk 84 83,fa 85 0 84,l1 86 85,ca 87 10 [86,(.c (.str [79,82,68,69,82]))]],.cond 87 (sq [.reg [mv 88 0,nk 89 88,fa 90 0 89,l1 91 90,o 92 (.bslice 1 (.str []) 1 [(0,(.c (.str [66,89])))]),ca 93 52 [91,92]],.reg [mv 94 0,mv 95 0,o 96 (.mkbm 66 [95]),ca 97 65 [94,96],fa 98 6 3,st 1 98 97]]) .skip]) [Sa,Sa] [0,3] [(.normal,[],[])] (S31_1 lf) (fun _ _ _ => by kernel_rfl)
noncomputable def S31_2 (lf:Nat) (r:V) (q:V) (h:List Ob):SubR :=
bind1 (er (.nilck (.c r)) h) fun x65 =>
bind1 (er (.faddr 0 (.c x65)) h) fun x66 =>
bind1 (er (.load1 (.c x66)) h) fun x67 =>
bind2 (F10 lf x67 [71,82,79,85,80] h) fun v h_ =>
castBool v fun x68 =>
cB x68 (
bind1 (er (.nilck (.c r)) h_) fun x70 =>
bind1 (er (.faddr 0 (.c x70)) h_) fun x71 =>
bind1 (er (.load1 (.c x71)) h_) fun x72 =>
bind2 (ev (.bslice 1 (.str []) 1 [(0,(.c (.str [66,89])))]) h_) fun x73 h_1 =>
bind2 (F52 lf x72 x73 h_1) fun x74 h_2 =>
bind1 (er (.nilck (.c r)) h_2) fun x77 =>
bind1 (er (.faddr 0 (.c x77)) h_2) fun x78 =>
bind1 (er (.load1 (.c x78)) h_2) fun x79 =>
bind2 (F64 lf (cv31 lf) r (.bm 57 [x79]) h_2) fun x81 h_3 =>
bind1 (er (.faddr 5 (.c q)) h_3) fun x82 =>
bind2 (ev (.store 1 (.c x82) (.c x81)) h_3) fun u h_4 =>
some (.normal,[],h_4)) (
some (.normal,[],h_))
noncomputable def p31_2 (lf:Nat):Pt Go.Proofs.Try.prog := .of A31 (x31 lf) [] (sq [.reg [mv 64 0,nk 65 64,fa 66 0 65,l1 67 66,ca 68 10 [67,(.c (.str [71,82,79,85,80]))]],.cond 68 (sq [.reg [mv 69 0,nk 70 69,fa 71 0 70,l1 72 71,o 73 (.bslice 1 (.str []) 1 [(0,(.c (.str [66,89])))]),ca 74 52 [72,73]],.reg [mv 75 0,mv 76 0,nk 77 76,fa 78 0 77,l1 79 78,o 80 (.mkbm 57 [79]),ca 81 64 [75,80],fa 82 5 3,st 1 82 81]]) .skip]) [Sa,Sa] [0,3] [(.normal,[],[])] (S31_2 lf) (fun _ _ _ => by kernel_rfl)
noncomputable def S31_3 (lf:Nat) (r:V) (q:V) (h:List Ob):SubR :=
bind1 (er (.nilck (.c r)) h) fun x13 =>
bind1 (er (.faddr 0 (.c x13)) h) fun x14 =>
bind1 (er (.load1 (.c x14)) h) fun x15 =>
bind2 (F10 lf x15 [42] h) fun v h_ =>
castBool v fun x16 =>
bind1 (er (.faddr 1 (.c q)) h_) fun x17 =>
bind2 (ev (.store 1 (.c x17) (.c (.bool x16))) h_) fun u h_1 =>
bind1 (er (.faddr 1 (.c q)) h_1) fun x18 =>
bind1 (er (.load1 (.c x18)) h_1) fun v1 =>
castBool v1 fun x19 =>
cB (!x19) (
bind2 (F61 lf (cv31 lf) r (.bm 62 [r]) h_1) fun x24 h_2 =>
bind1 (er (.faddr 2 (.c q)) h_2) fun x25 =>
bind2 (ev (.store 1 (.c x25) (.c x24)) h_2) fun u1 h_3 =>
some (.normal,[],h_3)) (
some (.normal,[],h_1))
noncomputable def p31_3 (lf:Nat):Pt Go.Proofs.Try.prog := .of A31 (x31 lf) [] (sq [.reg [mv 12 0,nk 13 12,fa 14 0 13,l1 15 14,ca 16 10 [15,(.c (.str [42]))],fa 17 1 3,st 1 17 16],.reg [fa 18 1 3,l1 19 18,o 20 (.un .not 19)],.cond 20 (.reg [mv 21 0,mv 22 0,o 23 (.mkbm 62 [22]),ca 24 61 [21,23],fa 25 2 3,st 1 25 24]) .skip]) [Sa,Sa] [0,3] [(.normal,[],[])] (S31_3 lf) (fun _ _ _ => by kernel_rfl)
noncomputable def F31 (lf:Nat) (r:V) (h:List Ob):Option (V × List Ob) :=
bind2 (ev (.alloc false (.agg [(.bool false),(.bool false),.nils,.nils,.nils,.nils,.nils,(.int .i64 0)])) h) fun x2 h_ =>
bind1 (er (.build [(.bool false),(.bool false),.nils,.nils,.nils,.nils,.nils,(.int .i64 0)] [(7,(1,(.c (.int .i64 (-1)))))]) h_) fun v =>
castAgg v fun l =>
castCons l fun c l1 =>
castBool c fun x5_0 =>
castCons l1 fun c1 l2 =>
castBool c1 fun x5_1 =>
castCons l2 fun x5_2 l3 =>
castCons l3 fun x5_3 l4 =>
castCons l4 fun x5_4 l5 =>
castCons l5 fun x5_5 l6 =>
castCons l6 fun x5_6 l7 =>
castCons l7 fun c2 l8 =>
castInt .i64 c2 fun x5_7 =>
castNil l8 (
bind2 (ev (.alloc false (.agg [(.bool false),(.bool false),.nils,.nils,.nils,.nils,.nils,(.int .i64 0)])) h_) fun q h_1 =>
bind2 (ev (.store 8 (.c q) (.c (.agg [(.bool x5_0),(.bool x5_1),x5_2,x5_3,x5_4,x5_5,x5_6,(.int .i64 x5_7)]))) h_1) fun u h_2 =>
bind1 (er (.nilck (.c r)) h_2) fun x7 =>
bind1 (er (.faddr 0 (.c x7)) h_2) fun x8 =>
bind1 (er (.load1 (.c x8)) h_2) fun x9 =>
bind2 (F10 lf x9 [68,73,83,84,73,78,67,84] h_2) fun v1 h_3 =>
castBool v1 fun x10 =>
bind1 (er (.faddr 0 (.c q)) h_3) fun x11 =>
bind2 (ev (.store 1 (.c x11) (.c (.bool x10))) h_3) fun u1 h_4 =>
bind3 (S31_3 lf r q h_4) fun ex vs h_5 =>
cB (decide (ex = .normal)) (
castNil vs (
bind1 (er (.nilck (.c r)) h_5) fun x27 =>
bind1 (er (.faddr 0 (.c x27)) h_5) fun x28 =>
bind1 (er (.load1 (.c x28)) h_5) fun x29 =>
bind2 (ev (.bslice 1 (.str []) 1 [(0,(.c (.str [70,82,79,77])))]) h_5) fun x30 h_6 =>
bind2 (F52 lf x29 x30 h_6) fun x31 h_7 =>
bind2 (F63 lf r h_7) fun v2 h_8 =>
castAgg v2 fun l9 =>
castCons l9 fun c3 l10 =>
castStr c3 fun x33_0 =>
castCons l10 fun c4 l11 =>
castStr c4 fun x33_1 =>
castCons l11 fun c5 l12 =>
castInt .i64 c5 fun x33_2 =>
castCons l12 fun c6 l13 =>
castStr c6 fun x33_3 =>
castCons l13 fun c7 l14 =>
castInt .i64 c7 fun x33_4 =>
castCons l14 fun c8 l15 =>
castInt .i64 c8 fun x33_5 =>
castCons l15 fun c9 l16 =>
castStr c9 fun x33_6 =>
castCons l16 fun c10 l17 =>
castStr c10 fun x33_7 =>
castCons l17 fun c11 l18 =>
castStr c11 fun x33_8 =>
castCons l18 fun x33_9 l19 =>
castNil l19 (
bind2 (ev (.bslice 10 (.agg [(.str []),(.str []),(.int .i64 0),(.str []),(.int .i64 0),(.int .i64 0),(.str []),(.str []),(.str []),.nils]) 1 [(0,(.c (.agg [(.str x33_0),(.str x33_1),(.int .i64 x33_2),(.str x33_3),(.int .i64 x33_4),(.int .i64 x33_5),(.str x33_6),(.str x33_7),(.str x33_8),x33_9])))]) h_8) fun x34 h_9 =>
bind1 (er (.faddr 3 (.c q)) h_9) fun x35 =>
bind2 (ev (.store 1 (.c x35) (.c x34)) h_9) fun u2 h_10 =>
bind3 (L31_0 lf lf r q h_10) fun ex1 vs1 h_11 =>
cB (decide (ex1 = (.exit 0))) (
castNil vs1 (
bind2 (F60 lf r h_11) fun x62 h_12 =>
bind1 (er (.faddr 4 (.c q)) h_12) fun x63 =>
bind2 (ev (.store 1 (.c x63) (.c x62)) h_12) fun u3 h_13 =>
bind3 (S31_2 lf r q h_13) fun ex2 vs2 h_14 =>
cB (decide (ex2 = .normal)) (
castNil vs2 (
bind3 (S31_1 lf r q h_14) fun ex3 vs3 h_15 =>
cB (decide (ex3 = .normal)) (
castNil vs3 (
bind1 (er (.nilck (.c r)) h_15) fun x100 =>
bind1 (er (.faddr 0 (.c x100)) h_15) fun x101 =>
bind1 (er (.load1 (.c x101)) h_15) fun x102 =>
bind2 (F10 lf x102 [76,73,77,73,84] h_15) fun v3 h_16 =>
castBool v3 fun x103 =>
cB x103 (
bind1 (er (.nilck (.c r)) h_16) fun x105 =>
bind1 (er (.faddr 0 (.c x105)) h_16) fun x106 =>
bind1 (er (.load1 (.c x106)) h_16) fun x107 =>
bind2 (F67 lf x107 h_16) fun v4 h_17 =>
castInt .i64 v4 fun x108 =>
bind1 (er (.faddr 7 (.c q)) h_17) fun x109 =>
bind2 (ev (.store 1 (.c x109) (.c (.int .i64 x108))) h_17) fun u4 h_18 =>
bind1 (er (.loadN 8 (.c q)) h_18) fun v5 =>
castAgg v5 fun l20 =>
castCons l20 fun c12 l21 =>
castBool c12 fun x110_0 =>
castCons l21 fun c13 l22 =>
castBool c13 fun x110_1 =>
castCons l22 fun x110_2 l23 =>
castCons l23 fun x110_3 l24 =>
castCons l24 fun x110_4 l25 =>
castCons l25 fun x110_5 l26 =>
castCons l26 fun x110_6 l27 =>
castCons l27 fun c14 l28 =>
castInt .i64 c14 fun x110_7 =>
castNil l28 (
bind2 (ev (.store 8 (.c x2) (.c (.agg [(.bool x110_0),(.bool x110_1),x110_2,x110_3,x110_4,x110_5,x110_6,(.int .i64 x110_7)]))) h_18) fun u5 h_19 =>
bind1 (evLoadN h_19 8 x2) fun r1 =>
some (r1,h_19))) (
bind1 (er (.loadN 8 (.c q)) h_16) fun v4 =>
castAgg v4 fun l20 =>
castCons l20 fun c12 l21 =>
castBool c12 fun x110_0 =>
castCons l21 fun c13 l22 =>
castBool c13 fun x110_1 =>
castCons l22 fun x110_2 l23 =>
castCons l23 fun x110_3 l24 =>
castCons l24 fun x110_4 l25 =>
castCons l25 fun x110_5 l26 =>
castCons l26 fun x110_6 l27 =>
castCons l27 fun c14 l28 =>
castInt .i64 c14 fun x110_7 =>
castNil l28 (
bind2 (ev (.store 8 (.c x2) (.c (.agg [(.bool x110_0),(.bool x110_1),x110_2,x110_3,x110_4,x110_5,x110_6,(.int .i64 x110_7)]))) h_16) fun u4 h_17 =>
bind1 (evLoadN h_17 8 x2) fun r1 =>
some (r1,h_17))))) (
none))) (
none))) (
none)))) (
none))
noncomputable def W31 (lf:Nat):List V → List Ob → Option (V × List Ob) := wG [Sa] (F31 lf)
theorem W31_ok (lf:Nat):WOk Go.Proofs.Try.prog 31 (W31 lf) := FOk 111 [(.ln 8 2)] A31 (x31 lf) [p31_3 lf,p31_0 lf,p31_2 lf,p31_1 lf] (sq [.reg [o 2 (.alloc false zSt10)],.reg [o 5 (.build [(.bool false),(.bool false),.nils,.nils,.nils,.nils,.nils,(.int .i64 0)] [(7,(1,(ci (-1))))]),o 3 (.alloc false zSt10),st 8 3 5],.reg [mv 6 0,nk 7 6,fa 8 0 7,l1 9 8,ca 10 10 [9,(.c (.str [68,73,83,84,73,78,67,84]))],fa 11 0 3,st 1 11 10],.sub 0,.reg [mv 26 0,nk 27 26,fa 28 0 27,l1 29 28,o 30 (.bslice 1 (.str []) 1 [(0,(.c (.str [70,82,79,77])))]),ca 31 52 [29,30]],.reg [mv 32 0,ca 33 63 [32],o 34 (.bslice 10 zSt6 1 [(0,33)]),fa 35 3 3,st 1 35 34],.block 0 (.sub 1),.reg [mv 61 0,ca 62 60 [61],fa 63 4 3,st 1 63 62],.sub 2,.sub 3,sq [.reg [mv 99 0,nk 100 99,fa 101 0 100,l1 102 101,ca 103 10 [102,(.c (.str [76,73,77,73,84]))]],.cond 103 (.reg [mv 104 0,nk 105 104,fa 106 0 105,l1 107 106,ca 108 67 [107],fa 109 7 3,st 1 109 108]) .skip],.reg [ln 110 8 3,st 8 2 110],.ret]) [Sa] _ Go.Proofs.Try.func31 (by kernel_rfl) (by kernel_rfl) (by kernel_rfl) (fun _ _ => by kernel_rfl)
def A71 := mkA [(.agg [Ss,Si,Sb,Sb],[7,16]),(Sb,[13])]
noncomputable def x71 (lf:Nat) (cv:CallVS) (hcv:CvOk Go.Proofs.Try.prog cv):Cx Go.Proofs.Try.prog := .v (.c .o (W10_ok lf)) hcv
noncomputable def B71_0 (lf:Nat) (cv:CallVS) (self:V → V → V → List Ob → SubR) (r:V) (member:V) (out:V) (h:List Ob):SubR :=
bind1 (er (.nilck (.c r)) h) fun x10 =>
bind1 (er (.faddr 0 (.c x10)) h) fun x11 =>
bind1 (er (.load1 (.c x11)) h) fun x12 =>
bind2 (F10 lf x12 [44] h) fun v h_ =>
castBool v fun x13 =>
cB x13 (
bind2 (cv member [] h_) fun v1 h_1 =>
castAgg v1 fun l =>
castCons l fun c l1 =>
castStr c fun x16_0 =>
castCons l1 fun c1 l2 =>
castInt .i64 c1 fun x16_1 =>
castCons l2 fun c2 l3 =>
castBool c2 fun x16_2 =>
castCons l3 fun c3 l4 =>
castBool c3 fun x16_3 =>
castNil l4 (
bind2 (ev (.bslice 4 (.agg [(.str []),(.int .i64 0),(.bool false),(.bool false)]) 1 [(0,(.c (.agg [(.str x16_0),(.int .i64 x16_1),(.bool x16_2),(.bool x16_3)])))]) h_1) fun x17 h_2 =>
bind2 (ev (.app 4 32 (.c out) (.c x17)) h_2) fun x18 h_3 =>
self r member x18 h_3)) (
some ((.exit 0),[out],h_))
noncomputable def L71_0 (lf:Nat) (cv:CallVS):Nat → V → V → V → List Ob → SubR
  | 0 => fun _ _ _ _ => none
  | n + 1 => B71_0 lf cv (L71_0 lf cv n)
noncomputable def p71_0 (lf:Nat) (cv:CallVS) (hcv:CvOk Go.Proofs.Try.prog cv):Pt Go.Proofs.Try.prog := .loop A71 (x71 lf cv hcv) [] (sq [sq [.reg [mv 9 0,nk 10 9,fa 11 0 10,l1 12 11,ca 13 10 [12,(.c (.str [44]))]],.cond 13 .skip (.exit 0)],.block 1 (.reg [mv 14 5,mv 15 1,cw 16 15 [],o 17 (.bslice 4 zSt11 1 [(0,16)]),o 18 (.app 4 32 14 17),mv 5 18])]) [Sa,Sa,Sa] [0,1,5] [((.exit 0),[5],[Sa])] (B71_0 lf cv) (L71_0 lf cv) (fun _ _ _ _ => rfl) (fun _ => rfl) (fun _ _ _ _ _ => by kernel_rfl) lf
noncomputable def F71 (lf:Nat) (cv:CallVS) (r:V) (member:V) (h:List Ob):Option (V × List Ob) :=
bind2 (cv member [] h) fun v h_ =>
castAgg v fun l =>
castCons l fun c l1 =>
castStr c fun x7_0 =>
castCons l1 fun c1 l2 =>
castInt .i64 c1 fun x7_1 =>
castCons l2 fun c2 l3 =>
castBool c2 fun x7_2 =>
castCons l3 fun c3 l4 =>
castBool c3 fun x7_3 =>
castNil l4 (
bind2 (ev (.bslice 4 (.agg [(.str []),(.int .i64 0),(.bool false),(.bool false)]) 1 [(0,(.c (.agg [(.str x7_0),(.int .i64 x7_1),(.bool x7_2),(.bool x7_3)])))]) h_) fun x8 h_1 =>
bind3 (L71_0 lf cv lf r member x8 h_1) fun ex vs h_2 =>
cB (decide (ex = (.exit 0))) (
castCons vs fun out l5 =>
castNil l5 (
some (out,h_2))) (
none))
noncomputable def W71 (lf:Nat) (cv:CallVS):List V → List Ob → Option (V × List Ob) := wG [Sa,Sa] (F71 lf cv)
theorem W71_ok (lf:Nat) (cv:CallVS) (hcv:CvOk Go.Proofs.Try.prog cv):WOk Go.Proofs.Try.prog 71 (W71 lf cv) := FOk 20 [(.t 4)] A71 (x71 lf cv hcv) [p71_0 lf cv hcv] (sq [.reg [mv 4 (.c .nils)],.reg [mv 6 1,cw 7 6 [],o 8 (.bslice 4 zSt11 1 [(0,7)]),mv 5 8],.block 0 (.sub 0),.reg [mv 19 5,mv 4 19],.ret]) [Sa,Sa] _ Go.Proofs.Try.func71 (by kernel_rfl) (by kernel_rfl) (by kernel_rfl) (fun _ _ _ => by kernel_rfl)
def A50 := mkA []
noncomputable def x50 (lf:Nat) (cv:CallVS) (hcv:CvOk Go.Proofs.Try.prog cv):Cx Go.Proofs.Try.prog := .v (.c (.c .o (W52_ok lf)) (W71_ok lf cv hcv)) hcv
noncomputable def F50 (lf:Nat) (cv:CallVS) (r:V) (member:V) (h:List Ob):Option (V × List Ob) :=
bind1 (er (.nilck (.c r)) h) fun x7 =>
bind1 (er (.faddr 0 (.c x7)) h) fun x8 =>
bind1 (er (.load1 (.c x8)) h) fun x9 =>
bind2 (ev (.bslice 1 (.str []) 1 [(0,(.c (.str [40])))]) h) fun x10 h_ =>
bind2 (F52 lf x9 x10 h_) fun x11 h_1 =>
bind2 (F71 lf cv r member h_1) fun x14 h_2 =>
bind1 (er (.nilck (.c r)) h_2) fun x16 =>
bind1 (er (.faddr 0 (.c x16)) h_2) fun x17 =>
bind1 (er (.load1 (.c x17)) h_2) fun x18 =>
bind2 (ev (.bslice 1 (.str []) 1 [(0,(.c (.str [41])))]) h_2) fun x19 h_3 =>
bind2 (F52 lf x18 x19 h_3) fun x20 h_4 =>
some (x14,h_4)
noncomputable def W50 (lf:Nat) (cv:CallVS):List V → List Ob → Option (V × List Ob) := wG [Sa,Sa] (F50 lf cv)
theorem W50_ok (lf:Nat) (cv:CallVS) (hcv:CvOk Go.Proofs.Try.prog cv):WOk Go.Proofs.Try.prog 50 (W50 lf cv) := FOk 22 [(.t 4)] A50 (x50 lf cv hcv) [] (sq [.reg [mv 4 (.c .nils)],.reg [mv 6 0,nk 7 6,fa 8 0 7,l1 9 8,o 10 (.bslice 1 (.str []) 1 [(0,(.c (.str [40])))]),ca 11 52 [9,10]],.reg [mv 12 0,mv 13 1,ca 14 71 [12,13],mv 5 14],.reg [mv 15 0,nk 16 15,fa 17 0 16,l1 18 17,o 19 (.bslice 1 (.str []) 1 [(0,(.c (.str [41])))]),ca 20 52 [18,19]],.reg [mv 21 5,mv 4 21],.ret]) [Sa,Sa] _ Go.Proofs.Try.func50 (by kernel_rfl) (by kernel_rfl) (by kernel_rfl) (fun _ _ _ => by kernel_rfl)
def A51 := mkA [(Ss,[8]),(.agg [Ss,Si,Sb,Sb],[9,49]),(Sb,[15,20,22,27,33,36,47])]
noncomputable def x51 (lf:Nat):Cx Go.Proofs.Try.prog := .c (.c (.c (.c .o (W10_ok lf)) (W12_ok lf)) (W49_ok lf)) (W52_ok lf)
noncomputable def S51_0 (lf:Nat) (r:V) (c:V) (h:List Ob):SubR :=
bind1 (er (.nilck (.c r)) h) fun x30 =>
bind1 (er (.faddr 0 (.c x30)) h) fun x31 =>
bind1 (er (.load1 (.c x31)) h) fun x32 =>
bind2 (F10 lf x32 [78,79,84] h) fun v h_ =>
castBool v fun x33 =>
bind1 (er (.faddr 2 (.c c)) h_) fun x34 =>
bind2 (ev (.store 1 (.c x34) (.c (.bool x33))) h_) fun u h_1 =>
bind1 (er (.faddr 2 (.c c)) h_1) fun x35 =>
bind1 (er (.load1 (.c x35)) h_1) fun v1 =>
castBool v1 fun x36 =>
cB x36 (
bind1 (er (.nilck (.c r)) h_1) fun x38 =>
bind1 (er (.faddr 0 (.c x38)) h_1) fun x39 =>
bind1 (er (.load1 (.c x39)) h_1) fun x40 =>
bind2 (ev (.bslice 1 (.str []) 1 [(0,(.c (.str [78,85,76,76])))]) h_1) fun x41 h_2 =>
bind2 (F52 lf x40 x41 h_2) fun x42 h_3 =>
some (.normal,[],h_3)) (
some (.normal,[],h_1))
noncomputable def p51_0 (lf:Nat):Pt Go.Proofs.Try.prog := .of A51 (x51 lf) [] (sq [.reg [mv 29 0,nk 30 29,fa 31 0 30,l1 32 31,ca 33 10 [32,(.c (.str [78,79,84]))],fa 34 2 3,st 1 34 33],.reg [fa 35 2 3,l1 36 35],.cond 36 (.reg [mv 37 0,nk 38 37,fa 39 0 38,l1 40 39,o 41 (.bslice 1 (.str []) 1 [(0,(.c (.str [78,85,76,76])))]),ca 42 52 [40,41]]) .skip]) [Sa,Sa] [0,3] [(.normal,[],[])] (S51_0 lf) (fun _ _ _ => by kernel_rfl)
noncomputable def S51_1 (lf:Nat) (r:V) (c:V) (h:List Ob):SubR :=
bind1 (er (.nilck (.c r)) h) fun x17 =>
bind1 (er (.faddr 0 (.c x17)) h) fun x18 =>
bind1 (er (.load1 (.c x18)) h) fun x19 =>
bind2 (F10 lf x19 [73,78,84] h) fun v h_ =>
castBool v fun x20 =>
cB x20 (
bind1 (er (.faddr 1 (.c c)) h_) fun x21 =>
bind2 (ev (.store 1 (.c x21) (.c (.int .i64 (1)))) h_) fun u h_1 =>
some (.normal,[],h_1)) (
bind1 (er (.nilck (.c r)) h_) fun x24 =>
bind1 (er (.faddr 0 (.c x24)) h_) fun x25 =>
bind1 (er (.load1 (.c x25)) h_) fun x26 =>
bind2 (F10 lf x26 [84,69,88,84] h_) fun v1 h_1 =>
castBool v1 fun x27 =>
cB x27 (
bind1 (er (.faddr 1 (.c c)) h_1) fun x28 =>
bind2 (ev (.store 1 (.c x28) (.c (.int .i64 (2)))) h_1) fun u h_2 =>
some (.normal,[],h_2)) (
bind1 (er (.nilck (.c r)) h_1) fun x11 =>
bind1 (er (.faddr 0 (.c x11)) h_1) fun x12 =>
bind1 (er (.load1 (.c x12)) h_1) fun x13 =>
bind2 (F12 lf x13 h_1) fun x14 h_2 =>
some (.normal,[],h_2)))
noncomputable def p51_1 (lf:Nat):Pt Go.Proofs.Try.prog := .of A51 (x51 lf) [] (.block 0 (sq [.reg [mv 16 0,nk 17 16,fa 18 0 17,l1 19 18,ca 20 10 [19,(.c (.str [73,78,84]))],mv 15 20],.cond 15 (.reg [fa 21 1 3,st 1 21 (ci 1)]) (sq [.reg [mv 23 0,nk 24 23,fa 25 0 24,l1 26 25,ca 27 10 [26,(.c (.str [84,69,88,84]))],mv 22 27],.cond 22 (.reg [fa 28 1 3,st 1 28 (ci 2)]) (.reg [mv 10 0,nk 11 10,fa 12 0 11,l1 13 12,ca 14 12 [13]])])])) [Sa,Sa] [0,3] [(.normal,[],[])] (S51_1 lf) (fun _ _ _ => by kernel_rfl)
noncomputable def F51 (lf:Nat) (r:V) (h:List Ob):Option (V × List Ob) :=
bind2 (ev (.alloc false (.agg [(.str []),(.int .i64 0),(.bool false),(.bool false)])) h) fun x2 h_ =>
bind1 (er (.nilck (.c r)) h_) fun x5 =>
bind1 (er (.faddr 0 (.c x5)) h_) fun x6 =>
bind1 (er (.load1 (.c x6)) h_) fun x7 =>
bind2 (F49 lf x7 h_) fun v h_1 =>
castStr v fun x8 =>
bind1 (er (.build [(.str []),(.int .i64 0),(.bool false),(.bool false)] [(0,(1,(.c (.str x8))))]) h_1) fun v1 =>
castAgg v1 fun l =>
castCons l fun c l1 =>
castStr c fun x9_0 =>
castCons l1 fun c1 l2 =>
castInt .i64 c1 fun x9_1 =>
castCons l2 fun c2 l3 =>
castBool c2 fun x9_2 =>
castCons l3 fun c3 l4 =>
castBool c3 fun x9_3 =>
castNil l4 (
bind2 (ev (.alloc false (.agg [(.str []),(.int .i64 0),(.bool false),(.bool false)])) h_1) fun c4 h_2 =>
bind2 (ev (.store 4 (.c c4) (.c (.agg [(.str x9_0),(.int .i64 x9_1),(.bool x9_2),(.bool x9_3)]))) h_2) fun u h_3 =>
bind3 (S51_1 lf r c4 h_3) fun ex vs h_4 =>
cB (decide (ex = .normal)) (
castNil vs (
bind3 (S51_0 lf r c4 h_4) fun ex1 vs1 h_5 =>
cB (decide (ex1 = .normal)) (
castNil vs1 (
bind1 (er (.nilck (.c r)) h_5) fun x44 =>
bind1 (er (.faddr 0 (.c x44)) h_5) fun x45 =>
bind1 (er (.load1 (.c x45)) h_5) fun x46 =>
bind2 (F10 lf x46 [85,78,73,81,85,69] h_5) fun v2 h_6 =>
castBool v2 fun x47 =>
bind1 (er (.faddr 3 (.c c4)) h_6) fun x48 =>
bind2 (ev (.store 1 (.c x48) (.c (.bool x47))) h_6) fun u1 h_7 =>
bind1 (er (.loadN 4 (.c c4)) h_7) fun v3 =>
castAgg v3 fun l5 =>
castCons l5 fun c5 l6 =>
castStr c5 fun x49_0 =>
castCons l6 fun c6 l7 =>
castInt .i64 c6 fun x49_1 =>
castCons l7 fun c7 l8 =>
castBool c7 fun x49_2 =>
castCons l8 fun c8 l9 =>
castBool c8 fun x49_3 =>
castNil l9 (
bind2 (ev (.store 4 (.c x2) (.c (.agg [(.str x49_0),(.int .i64 x49_1),(.bool x49_2),(.bool x49_3)]))) h_7) fun u2 h_8 =>
bind1 (evLoadN h_8 4 x2) fun r1 =>
some (r1,h_8)))) (
none))) (
none))
noncomputable def W51 (lf:Nat):List V → List Ob → Option (V × List Ob) := wG [Sa] (F51 lf)
theorem W51_ok (lf:Nat):WOk Go.Proofs.Try.prog 51 (W51 lf) := FOk 50 [(.ln 4 2)] A51 (x51 lf) [p51_1 lf,p51_0 lf] (sq [.reg [o 2 (.alloc false zSt11)],.reg [mv 4 0,nk 5 4,fa 6 0 5,l1 7 6,ca 8 49 [7],o 9 (.build [(.str []),(.int .i64 0),(.bool false),(.bool false)] [(0,(1,8))]),o 3 (.alloc false zSt11),st 4 3 9],.sub 0,.sub 1,.reg [mv 43 0,nk 44 43,fa 45 0 44,l1 46 45,ca 47 10 [46,(.c (.str [85,78,73,81,85,69]))],fa 48 3 3,st 1 48 47],.reg [ln 49 4 3,st 4 2 49],.ret]) [Sa] _ Go.Proofs.Try.func51 (by kernel_rfl) (by kernel_rfl) (by kernel_rfl) (fun _ _ => by kernel_rfl)
def A72 := mkA [(Ss,[7,16]),(Sb,[13])]
noncomputable def x72 (lf:Nat) (cv:CallVS) (hcv:CvOk Go.Proofs.Try.prog cv):Cx Go.Proofs.Try.prog := .v (.c .o (W10_ok lf)) hcv
noncomputable def B72_0 (lf:Nat) (cv:CallVS) (self:V → V → V → List Ob → SubR) (r:V) (member:V) (out:V) (h:List Ob):SubR :=
bind1 (er (.nilck (.c r)) h) fun x10 =>
bind1 (er (.faddr 0 (.c x10)) h) fun x11 =>
bind1 (er (.load1 (.c x11)) h) fun x12 =>
bind2 (F10 lf x12 [44] h) fun v h_ =>
castBool v fun x13 =>
cB x13 (
bind2 (cv member [] h_) fun v1 h_1 =>
castStr v1 fun x16 =>
bind2 (ev (.bslice 1 (.str []) 1 [(0,(.c (.str x16)))]) h_1) fun x17 h_2 =>
bind2 (ev (.app 1 16 (.c out) (.c x17)) h_2) fun x18 h_3 =>
self r member x18 h_3) (
some ((.exit 0),[out],h_))
noncomputable def L72_0 (lf:Nat) (cv:CallVS):Nat → V → V → V → List Ob → SubR
  | 0 => fun _ _ _ _ => none
  | n + 1 => B72_0 lf cv (L72_0 lf cv n)
noncomputable def p72_0 (lf:Nat) (cv:CallVS) (hcv:CvOk Go.Proofs.Try.prog cv):Pt Go.Proofs.Try.prog := .loop A72 (x72 lf cv hcv) [] (sq [sq [.reg [mv 9 0,nk 10 9,fa 11 0 10,l1 12 11,ca 13 10 [12,(.c (.str [44]))]],.cond 13 .skip (.exit 0)],.block 1 (.reg [mv 14 5,mv 15 1,cw 16 15 [],o 17 (.bslice 1 (.str []) 1 [(0,16)]),o 18 (.app 1 16 14 17),mv 5 18])]) [Sa,Sa,Sa] [0,1,5] [((.exit 0),[5],[Sa])] (B72_0 lf cv) (L72_0 lf cv) (fun _ _ _ _ => rfl) (fun _ => rfl) (fun _ _ _ _ _ => by kernel_rfl) lf
noncomputable def F72 (lf:Nat) (cv:CallVS) (r:V) (member:V) (h:List Ob):Option (V × List Ob) :=
bind2 (cv member [] h) fun v h_ =>
castStr v fun x7 =>
bind2 (ev (.bslice 1 (.str []) 1 [(0,(.c (.str x7)))]) h_) fun x8 h_1 =>
bind3 (L72_0 lf cv lf r member x8 h_1) fun ex vs h_2 =>
cB (decide (ex = (.exit 0))) (
castCons vs fun out l =>
castNil l (
some (out,h_2))) (
none)
noncomputable def W72 (lf:Nat) (cv:CallVS):List V → List Ob → Option (V × List Ob) := wG [Sa,Sa] (F72 lf cv)
theorem W72_ok (lf:Nat) (cv:CallVS) (hcv:CvOk Go.Proofs.Try.prog cv):WOk Go.Proofs.Try.prog 72 (W72 lf cv) := FOk 20 [(.t 4)] A72 (x72 lf cv hcv) [p72_0 lf cv hcv] (sq [.reg [mv 4 (.c .nils)],.reg [mv 6 1,cw 7 6 [],o 8 (.bslice 1 (.str []) 1 [(0,7)]),mv 5 8],.block 0 (.sub 0),.reg [mv 19 5,mv 4 19],.ret]) [Sa,Sa] _ Go.Proofs.Try.func72 (by kernel_rfl) (by kernel_rfl) (by kernel_rfl) (fun _ _ _ => by kernel_rfl)
def A53 := mkA []
noncomputable def x53 (lf:Nat) (cv:CallVS) (hcv:CvOk Go.Proofs.Try.prog cv):Cx Go.Proofs.Try.prog := .v (.c (.c .o (W52_ok lf)) (W72_ok lf cv hcv)) hcv
noncomputable def F53 (lf:Nat) (cv:CallVS) (r:V) (member:V) (h:List Ob):Option (V × List Ob) :=
bind1 (er (.nilck (.c r)) h) fun x7 =>
bind1 (er (.faddr 0 (.c x7)) h) fun x8 =>
bind1 (er (.load1 (.c x8)) h) fun x9 =>
bind2 (ev (.bslice 1 (.str []) 1 [(0,(.c (.str [40])))]) h) fun x10 h_ =>
bind2 (F52 lf x9 x10 h_) fun x11 h_1 =>
bind2 (F72 lf cv r member h_1) fun x14 h_2 =>
bind1 (er (.nilck (.c r)) h_2) fun x16 =>
bind1 (er (.faddr 0 (.c x16)) h_2) fun x17 =>
bind1 (er (.load1 (.c x17)) h_2) fun x18 =>
bind2 (ev (.bslice 1 (.str []) 1 [(0,(.c (.str [41])))]) h_2) fun x19 h_3 =>
bind2 (F52 lf x18 x19 h_3) fun x20 h_4 =>
some (x14,h_4)
noncomputable def W53 (lf:Nat) (cv:CallVS):List V → List Ob → Option (V × List Ob) := wG [Sa,Sa] (F53 lf cv)
theorem W53_ok (lf:Nat) (cv:CallVS) (hcv:CvOk Go.Proofs.Try.prog cv):WOk Go.Proofs.Try.prog 53 (W53 lf cv) := FOk 22 [(.t 4)] A53 (x53 lf cv hcv) [] (sq [.reg [mv 4 (.c .nils)],.reg [mv 6 0,nk 7 6,fa 8 0 7,l1 9 8,o 10 (.bslice 1 (.str []) 1 [(0,(.c (.str [40])))]),ca 11 52 [9,10]],.reg [mv 12 0,mv 13 1,ca 14 72 [12,13],mv 5 14],.reg [mv 15 0,nk 16 15,fa 17 0 16,l1 18 17,o 19 (.bslice 1 (.str []) 1 [(0,(.c (.str [41])))]),ca 20 52 [18,19]],.reg [mv 21 5,mv 4 21],.ret]) [Sa,Sa] _ Go.Proofs.Try.func53 (by kernel_rfl) (by kernel_rfl) (by kernel_rfl) (fun _ _ _ => by kernel_rfl)
noncomputable def cv26 (lf:Nat):CallVS := cvC 51 (W51 lf) (cvC 49 (W49 lf) (cvN))
theorem cv26_ok (lf:Nat):CvOk Go.Proofs.Try.prog (cv26 lf) := cvC_ok (W51_ok lf) (cvC_ok (W49_ok lf) (cvN_ok))
def A26 := mkA [(Sb,[5,10,21,26,53]),(Ss,[15,37,65,77]),(zSt9,[46])]
noncomputable def x26 (lf:Nat):Cx Go.Proofs.Try.prog := .v (.c (.c (.c (.c (.c (.c .o (W10_ok lf)) (W31_ok lf)) (W49_ok lf)) (W50_ok lf (cv26 lf) (cv26_ok lf))) (W52_ok lf)) (W53_ok lf (cv26 lf) (cv26_ok lf))) (cv26_ok lf)
noncomputable def F26 (lf:Nat) (r:V) (h:List Ob):Option (V × List Ob) :=
bind2 (ev (.alloc false (.agg [(.int .i64 0),(.str []),(.str []),(.bool false),.nils,.nils,.nils,.nils,.nils,(.bool false),(.bool false),.nils,.nils,.nils,.nils,.nils,(.int .i64 0)])) h) fun x2 h_ =>
bind1 (er (.nilck (.c r)) h_) fun x7 =>
bind1 (er (.faddr 0 (.c x7)) h_) fun x8 =>
bind1 (er (.load1 (.c x8)) h_) fun x9 =>
bind2 (F10 lf x9 [84,65,66,76,69] h_) fun v h_1 =>
castBool v fun x10 =>
cB x10 (
bind1 (er (.nilck (.c r)) h_1) fun x12 =>
bind1 (er (.faddr 0 (.c x12)) h_1) fun x13 =>
bind1 (er (.load1 (.c x13)) h_1) fun x14 =>
bind2 (F49 lf x14 h_1) fun v1 h_2 =>
castStr v1 fun x15 =>
bind2 (F50 lf (cv26 lf) r (.bm 51 [r]) h_2) fun x19 h_3 =>
bind1 (er (.build [(.int .i64 0),(.str []),(.str []),(.bool false),.nils,.nils,.nils,.nils,.nils,(.bool false),(.bool false),.nils,.nils,.nils,.nils,.nils,(.int .i64 0)] [(0,(1,(.c (.int .i64 (1))))),(1,(1,(.c (.str x15)))),(4,(1,(.c x19)))]) h_3) fun x20 =>
bind2 (ev (.store 17 (.c x2) (.c x20)) h_3) fun u h_4 =>
bind1 (evLoadN h_4 17 x2) fun r1 =>
some (r1,h_4)) (
bind1 (er (.nilck (.c r)) h_1) fun x23 =>
bind1 (er (.faddr 0 (.c x23)) h_1) fun x24 =>
bind1 (er (.load1 (.c x24)) h_1) fun x25 =>
bind2 (F10 lf x25 [77,65,84,69,82,73,65,76,73,90,69,68] h_1) fun v1 h_2 =>
castBool v1 fun x26 =>
cB x26 (
bind1 (er (.nilck (.c r)) h_2) fun x28 =>
bind1 (er (.faddr 0 (.c x28)) h_2) fun x29 =>
bind1 (er (.load1 (.c x29)) h_2) fun x30 =>
bind2 (ev (.bslice 1 (.str []) 1 [(0,(.c (.str [86,73,69,87])))]) h_2) fun x31 h_3 =>
bind2 (F52 lf x30 x31 h_3) fun x32 h_4 =>
bind1 (er (.nilck (.c r)) h_4) fun x34 =>
bind1 (er (.faddr 0 (.c x34)) h_4) fun x35 =>
bind1 (er (.load1 (.c x35)) h_4) fun x36 =>
bind2 (F49 lf x36 h_4) fun v2 h_5 =>
castStr v2 fun x37 =>
bind1 (er (.build [(.int .i64 0),(.str []),(.str []),(.bool false),.nils,.nils,.nils,.nils,.nils,(.bool false),(.bool false),.nils,.nils,.nils,.nils,.nils,(.int .i64 0)] [(0,(1,(.c (.int .i64 (3))))),(1,(1,(.c (.str x37))))]) h_5) fun x38 =>
bind2 (ev (.alloc false (.agg [(.int .i64 0),(.str []),(.str []),(.bool false),.nils,.nils,.nils,.nils,.nils,(.bool false),(.bool false),.nils,.nils,.nils,.nils,.nils,(.int .i64 0)])) h_5) fun s h_6 =>
bind2 (ev (.store 17 (.c s) (.c x38)) h_6) fun u h_7 =>
bind1 (er (.nilck (.c r)) h_7) fun x40 =>
bind1 (er (.faddr 0 (.c x40)) h_7) fun x41 =>
bind1 (er (.load1 (.c x41)) h_7) fun x42 =>
bind2 (ev (.bslice 1 (.str []) 2 [(0,(.c (.str [65,83]))),(1,(.c (.str [83,69,76,69,67,84])))]) h_7) fun x43 h_8 =>
bind2 (F52 lf x42 x43 h_8) fun x44 h_9 =>
bind2 (F31 lf r h_9) fun v3 h_10 =>
castAgg v3 fun l =>
castCons l fun c l1 =>
castBool c fun x46_0 =>
castCons l1 fun c1 l2 =>
castBool c1 fun x46_1 =>
castCons l2 fun x46_2 l3 =>
castCons l3 fun x46_3 l4 =>
castCons l4 fun x46_4 l5 =>
castCons l5 fun x46_5 l6 =>
castCons l6 fun x46_6 l7 =>
castCons l7 fun c2 l8 =>
castInt .i64 c2 fun x46_7 =>
castNil l8 (
bind1 (er (.faddr 9 (.c s)) h_10) fun x47 =>
bind2 (ev (.store 8 (.c x47) (.c (.agg [(.bool x46_0),(.bool x46_1),x46_2,x46_3,x46_4,x46_5,x46_6,(.int .i64 x46_7)]))) h_10) fun u1 h_11 =>
bind1 (er (.loadN 17 (.c s)) h_11) fun x48 =>
bind2 (ev (.store 17 (.c x2) (.c x48)) h_11) fun u2 h_12 =>
bind1 (evLoadN h_12 17 x2) fun r1 =>
some (r1,h_12))) (
bind1 (er (.nilck (.c r)) h_2) fun x50 =>
bind1 (er (.faddr 0 (.c x50)) h_2) fun x51 =>
bind1 (er (.load1 (.c x51)) h_2) fun x52 =>
bind2 (F10 lf x52 [85,78,73,81,85,69] h_2) fun v2 h_3 =>
castBool v2 fun x53 =>
bind1 (er (.build [(.int .i64 0),(.str []),(.str []),(.bool false),.nils,.nils,.nils,.nils,.nils,(.bool false),(.bool false),.nils,.nils,.nils,.nils,.nils,(.int .i64 0)] [(0,(1,(.c (.int .i64 (2))))),(3,(1,(.c (.bool x53))))]) h_3) fun x54 =>
bind2 (ev (.alloc false (.agg [(.int .i64 0),(.str []),(.str []),(.bool false),.nils,.nils,.nils,.nils,.nils,(.bool false),(.bool false),.nils,.nils,.nils,.nils,.nils,(.int .i64 0)])) h_3) fun s h_4 =>
bind2 (ev (.store 17 (.c s) (.c x54)) h_4) fun u h_5 =>
bind1 (er (.nilck (.c r)) h_5) fun x56 =>
bind1 (er (.faddr 0 (.c x56)) h_5) fun x57 =>
bind1 (er (.load1 (.c x57)) h_5) fun x58 =>
bind2 (ev (.bslice 1 (.str []) 1 [(0,(.c (.str [73,78,68,69,88])))]) h_5) fun x59 h_6 =>
bind2 (F52 lf x58 x59 h_6) fun x60 h_7 =>
bind1 (er (.nilck (.c r)) h_7) fun x62 =>
bind1 (er (.faddr 0 (.c x62)) h_7) fun x63 =>
bind1 (er (.load1 (.c x63)) h_7) fun x64 =>
bind2 (F49 lf x64 h_7) fun v3 h_8 =>
castStr v3 fun x65 =>
bind1 (er (.faddr 1 (.c s)) h_8) fun x66 =>
bind2 (ev (.store 1 (.c x66) (.c (.str x65))) h_8) fun u1 h_9 =>
bind1 (er (.nilck (.c r)) h_9) fun x68 =>
bind1 (er (.faddr 0 (.c x68)) h_9) fun x69 =>
bind1 (er (.load1 (.c x69)) h_9) fun x70 =>
bind2 (ev (.bslice 1 (.str []) 1 [(0,(.c (.str [79,78])))]) h_9) fun x71 h_10 =>
bind2 (F52 lf x70 x71 h_10) fun x72 h_11 =>
bind1 (er (.nilck (.c r)) h_11) fun x74 =>
bind1 (er (.faddr 0 (.c x74)) h_11) fun x75 =>
bind1 (er (.load1 (.c x75)) h_11) fun x76 =>
bind2 (F49 lf x76 h_11) fun v4 h_12 =>
castStr v4 fun x77 =>
bind1 (er (.faddr 2 (.c s)) h_12) fun x78 =>
bind2 (ev (.store 1 (.c x78) (.c (.str x77))) h_12) fun u2 h_13 =>
bind1 (er (.nilck (.c r)) h_13) fun x81 =>
bind1 (er (.faddr 0 (.c x81)) h_13) fun x82 =>
bind1 (er (.load1 (.c x82)) h_13) fun x83 =>
bind2 (F53 lf (cv26 lf) r (.bm 49 [x83]) h_13) fun x85 h_14 =>
bind1 (er (.faddr 5 (.c s)) h_14) fun x86 =>
bind2 (ev (.store 1 (.c x86) (.c x85)) h_14) fun u3 h_15 =>
bind1 (er (.loadN 17 (.c s)) h_15) fun x87 =>
bind2 (ev (.store 17 (.c x2) (.c x87)) h_15) fun u4 h_16 =>
bind1 (evLoadN h_16 17 x2) fun r1 =>
some (r1,h_16)))
noncomputable def W26 (lf:Nat):List V → List Ob → Option (V × List Ob) := wG [Sa] (F26 lf)
theorem W26_ok (lf:Nat):WOk Go.Proofs.Try.prog 26 (W26 lf) := FOk 88 [(.ln 17 2)] A26 (x26 lf) [] (sq [.reg [o 2 (.alloc false zSt12)],.block 0 (sq [.reg [mv 6 0,nk 7 6,fa 8 0 7,l1 9 8,ca 10 10 [9,(.c (.str [84,65,66,76,69]))],mv 5 10],.cond 5 (sq [.reg [mv 11 0,nk 12 11,fa 13 0 12,l1 14 13,ca 15 49 [14],mv 16 0,mv 17 0,o 18 (.mkbm 51 [17]),ca 19 50 [16,18],o 20 (.build [(.int .i64 0),(.str []),(.str []),(.bool false),.nils,.nils,.nils,.nils,.nils,(.bool false),(.bool false),.nils,.nils,.nils,.nils,.nils,(.int .i64 0)] [(0,(1,(ci 1))),(1,(1,15)),(4,(1,19))]),st 17 2 20],.ret]) (sq [.reg [mv 22 0,nk 23 22,fa 24 0 23,l1 25 24,ca 26 10 [25,(.c (.str [77,65,84,69,82,73,65,76,73,90,69,68]))],mv 21 26],.cond 21 (sq [.reg [mv 27 0,nk 28 27,fa 29 0 28,l1 30 29,o 31 (.bslice 1 (.str []) 1 [(0,(.c (.str [86,73,69,87])))]),ca 32 52 [30,31]],.reg [mv 33 0,nk 34 33,fa 35 0 34,l1 36 35,ca 37 49 [36],o 38 (.build [(.int .i64 0),(.str []),(.str []),(.bool false),.nils,.nils,.nils,.nils,.nils,(.bool false),(.bool false),.nils,.nils,.nils,.nils,.nils,(.int .i64 0)] [(0,(1,(ci 3))),(1,(1,37))]),o 3 (.alloc false zSt12),st 17 3 38],.reg [mv 39 0,nk 40 39,fa 41 0 40,l1 42 41,o 43 (.bslice 1 (.str []) 2 [(0,(.c (.str [65,83]))),(1,(.c (.str [83,69,76,69,67,84])))]),ca 44 52 [42,43]],.reg [mv 45 0,ca 46 31 [45],fa 47 9 3,st 8 47 46],.reg [ln 48 17 3,st 17 2 48],.ret]) .skip])]),.reg [mv 49 0,nk 50 49,fa 51 0 50,l1 52 51,ca 53 10 [52,(.c (.str [85,78,73,81,85,69]))],o 54 (.build [(.int .i64 0),(.str []),(.str []),(.bool false),.nils,.nils,.nils,.nils,.nils,(.bool false),(.bool false),.nils,.nils,.nils,.nils,.nils,(.int .i64 0)] [(0,(1,(ci 2))),(3,(1,53))]),o 4 (.alloc false zSt12),st 17 4 54],.reg [mv 55 0,nk 56 55,fa 57 0 56,l1 58 57,o 59 (.bslice 1 (.str []) 1 [(0,(.c (.str [73,78,68,69,88])))]),ca 60 52 [58,59]],.reg [mv 61 0,nk 62 61,fa 63 0 62,l1 64 63,ca 65 49 [64],fa 66 1 4,st 1 66 65],.reg [mv 67 0,nk 68 67,fa 69 0 68,l1 70 69,o 71 (.bslice 1 (.str []) 1 [(0,(.c (.str [79,78])))]),ca 72 52 [70,71]],.reg [mv 73 0,nk 74 73,fa 75 0 74,l1 76 75,ca 77 49 [76],fa 78 2 4,st 1 78 77],.reg [mv 79 0,mv 80 0,nk 81 80,fa 82 0 81,l1 83 82,o 84 (.mkbm 49 [83]),ca 85 53 [79,84],fa 86 5 4,st 1 86 85],.reg [ln 87 17 4,st 17 2 87],.ret]) [Sa] _ Go.Proofs.Try.func26 (by kernel_rfl) (by kernel_rfl) (by kernel_rfl) (fun _ _ => by kernel_rfl)
def A27 := mkA [(Si,[3,6,7,9,18,19,26]),(Ss,[4,11,16,24,37]),(Sb,[8,17])]
noncomputable def x27 (lf:Nat):Cx Go.Proofs.Try.prog := .c (.c (.c .o (W10_ok lf)) (W49_ok lf)) (W52_ok lf)
noncomputable def B27_0 (lf:Nat) (self:V → V → V → Int → Int → List Ob → SubR) (r:V) (x2:V) (x5:V) (x6:Int) (x7:Int) (h:List Ob):SubR :=
cB (decide (x7 < x6)) (
bind1 (er (.iaddrL 1 (.c x5) (.c (.int .i64 x7))) h) fun x10 =>
bind1 (er (.load1 (.c x10)) h) fun v =>
castStr v fun x11 =>
bind1 (er (.nilck (.c r)) h) fun x13 =>
bind1 (er (.faddr 0 (.c x13)) h) fun x14 =>
bind1 (er (.load1 (.c x14)) h) fun x15 =>
bind2 (F10 lf x15 x11 h) fun v1 h_ =>
castBool v1 fun x17 =>
cB x17 (
bind1 (er (.nilck (.c r)) h_) fun x21 =>
bind1 (er (.faddr 0 (.c x21)) h_) fun x22 =>
bind1 (er (.load1 (.c x22)) h_) fun x23 =>
bind2 (F49 lf x23 h_) fun v2 h_1 =>
castStr v2 fun x24 =>
bind1 (er (.build [(.int .i64 0),(.str []),(.str []),(.bool false),.nils,.nils,.nils,.nils,.nils,(.bool false),(.bool false),.nils,.nils,.nils,.nils,.nils,(.int .i64 0)] [(0,(1,(.c (.int .i64 (IntKind.i64.wrap ((4) + x7)))))),(1,(1,(.c (.str x24))))]) h_1) fun x25 =>
bind2 (ev (.store 17 (.c x2) (.c x25)) h_1) fun u h_2 =>
some (.ret,[],h_2)) (
self r x2 x5 x6 (IntKind.i64.wrap (x7 + (1))) h_)) (
some ((.exit 0),[],h))
noncomputable def L27_0 (lf:Nat):Nat → V → V → V → Int → Int → List Ob → SubR
  | 0 => fun _ _ _ _ _ _ => none
  | n + 1 => B27_0 lf (L27_0 lf n)
noncomputable def p27_0 (lf:Nat):Pt Go.Proofs.Try.prog := .loop A27 (x27 lf) [] (sq [.reg [o 8 (.bin .lss 7 6)],.cond 8 .skip (.exit 0),.block 1 (sq [.reg [mv 9 7,o 10 (.iaddrL 1 5 7),l1 11 10,mv 3 9,mv 4 11],.reg [mv 12 0,nk 13 12,fa 14 0 13,l1 15 14,mv 16 4,ca 17 10 [15,16]],.cond 17 (sq [.reg [mv 18 3,o 19 (.bin .add (ci 4) 18),mv 20 0,nk 21 20,fa 22 0 21,l1 23 22,ca 24 49 [23],o 25 (.build [(.int .i64 0),(.str []),(.str []),(.bool false),.nils,.nils,.nils,.nils,.nils,(.bool false),(.bool false),.nils,.nils,.nils,.nils,.nils,(.int .i64 0)] [(0,(1,19)),(1,(1,24))]),st 17 2 25],.ret]) .skip]),.reg [o 26 (.bin .add 7 (ci 1)),mv 7 26]]) [Sa,Sa,Sa,Si,Si] [0,2,5,6,7] [((.exit 0),[],[]),(.ret,[],[])] (B27_0 lf) (L27_0 lf) (fun _ _ _ _ _ _ => rfl) (fun _ => rfl) (fun _ _ _ _ _ _ _ => by kernel_rfl) lf
noncomputable def F27 (lf:Nat) (r:V) (h:List Ob):Option (V × List Ob) :=
bind2 (ev (.alloc false (.agg [(.int .i64 0),(.str []),(.str []),(.bool false),.nils,.nils,.nils,.nils,.nils,(.bool false),(.bool false),.nils,.nils,.nils,.nils,.nils,(.int .i64 0)])) h) fun x2 h_ =>
bind2 (ev (.bslice 1 (.str []) 2 [(0,(.c (.str [84,65,66,76,69]))),(1,(.c (.str [73,78,68,69,88])))]) h_) fun x5 h_1 =>
bind1 (er (.lenL (.c x5)) h_1) fun v =>
castInt .i64 v fun x6 =>
bind3 (L27_0 lf lf r x2 x5 x6 (0) h_1) fun ex vs h_2 =>
cB (decide (ex = (.exit 0))) (
castNil vs (
bind1 (er (.nilck (.c r)) h_2) fun x28 =>
bind1 (er (.faddr 0 (.c x28)) h_2) fun x29 =>
bind1 (er (.load1 (.c x29)) h_2) fun x30 =>
bind2 (ev (.bslice 1 (.str []) 1 [(0,(.c (.str [86,73,69,87])))]) h_2) fun x31 h_3 =>
bind2 (F52 lf x30 x31 h_3) fun x32 h_4 =>
bind1 (er (.nilck (.c r)) h_4) fun x34 =>
bind1 (er (.faddr 0 (.c x34)) h_4) fun x35 =>
bind1 (er (.load1 (.c x35)) h_4) fun x36 =>
bind2 (F49 lf x36 h_4) fun v1 h_5 =>
castStr v1 fun x37 =>
bind1 (er (.build [(.int .i64 0),(.str []),(.str []),(.bool false),.nils,.nils,.nils,.nils,.nils,(.bool false),(.bool false),.nils,.nils,.nils,.nils,.nils,(.int .i64 0)] [(0,(1,(.c (.int .i64 (6))))),(1,(1,(.c (.str x37))))]) h_5) fun x38 =>
bind2 (ev (.store 17 (.c x2) (.c x38)) h_5) fun u h_6 =>
bind1 (evLoadN h_6 17 x2) fun r1 =>
some (r1,h_6))) (
cB (decide (ex = .ret)) (
castNil vs (
bind1 (evLoadN h_2 17 x2) fun r1 =>
some (r1,h_2))) (
none))
noncomputable def W27 (lf:Nat):List V → List Ob → Option (V × List Ob) := wG [Sa] (F27 lf)
theorem W27_ok (lf:Nat):WOk Go.Proofs.Try.prog 27 (W27 lf) := FOk 39 [(.ln 17 2)] A27 (x27 lf) [p27_0 lf] (sq [.reg [o 2 (.alloc false zSt12)],sq [.reg [o 5 (.bslice 1 (.str []) 2 [(0,(.c (.str [84,65,66,76,69]))),(1,(.c (.str [73,78,68,69,88])))]),o 6 (.lenL 5),mv 7 (ci 0)],.block 0 (.sub 0)],.reg [mv 27 0,nk 28 27,fa 29 0 28,l1 30 29,o 31 (.bslice 1 (.str []) 1 [(0,(.c (.str [86,73,69,87])))]),ca 32 52 [30,31]],.reg [mv 33 0,nk 34 33,fa 35 0 34,l1 36 35,ca 37 49 [36],o 38 (.build [(.int .i64 0),(.str []),(.str []),(.bool false),.nils,.nils,.nils,.nils,.nils,(.bool false),(.bool false),.nils,.nils,.nils,.nils,.nils,(.int .i64 0)] [(0,(1,(ci 6))),(1,(1,37))]),st 17 2 38],.ret]) [Sa] _ Go.Proofs.Try.func27 (by kernel_rfl) (by kernel_rfl) (by kernel_rfl) (fun _ _ => by kernel_rfl)
def A54 := mkA [(Sb,[13])]
noncomputable def x54 (lf:Nat) (cv:CallVS) (hcv:CvOk Go.Proofs.Try.prog cv):Cx Go.Proofs.Try.prog := .v (.c .o (W10_ok lf)) hcv
noncomputable def B54_0 (lf:Nat) (cv:CallVS) (self:V → V → V → List Ob → SubR) (r:V) (member:V) (out:V) (h:List Ob):SubR :=
bind1 (er (.nilck (.c r)) h) fun x10 =>
bind1 (er (.faddr 0 (.c x10)) h) fun x11 =>
bind1 (er (.load1 (.c x11)) h) fun x12 =>
bind2 (F10 lf x12 [44] h) fun v h_ =>
castBool v fun x13 =>
cB x13 (
bind2 (cv member [] h_) fun x16 h_1 =>
bind2 (ev (.bslice 1 .nils 1 [(0,(.c x16))]) h_1) fun x17 h_2 =>
bind2 (ev (.app 1 24 (.c out) (.c x17)) h_2) fun x18 h_3 =>
self r member x18 h_3) (
some ((.exit 0),[out],h_))
noncomputable def L54_0 (lf:Nat) (cv:CallVS):Nat → V → V → V → List Ob → SubR
  | 0 => fun _ _ _ _ => none
  | n + 1 => B54_0 lf cv (L54_0 lf cv n)
noncomputable def p54_0 (lf:Nat) (cv:CallVS) (hcv:CvOk Go.Proofs.Try.prog cv):Pt Go.Proofs.Try.prog := .loop A54 (x54 lf cv hcv) [] (sq [sq [.reg [mv 9 0,nk 10 9,fa 11 0 10,l1 12 11,ca 13 10 [12,(.c (.str [44]))]],.cond 13 .skip (.exit 0)],.block 1 (.reg [mv 14 5,mv 15 1,cw 16 15 [],o 17 (.bslice 1 .nils 1 [(0,16)]),o 18 (.app 1 24 14 17),mv 5 18])]) [Sa,Sa,Sa] [0,1,5] [((.exit 0),[5],[Sa])] (B54_0 lf cv) (L54_0 lf cv) (fun _ _ _ _ => rfl) (fun _ => rfl) (fun _ _ _ _ _ => by kernel_rfl) lf
noncomputable def F54 (lf:Nat) (cv:CallVS) (r:V) (member:V) (h:List Ob):Option (V × List Ob) :=
bind2 (cv member [] h) fun x7 h_ =>
bind2 (ev (.bslice 1 .nils 1 [(0,(.c x7))]) h_) fun x8 h_1 =>
bind3 (L54_0 lf cv lf r member x8 h_1) fun ex vs h_2 =>
cB (decide (ex = (.exit 0))) (
castCons vs fun out l =>
castNil l (
some (out,h_2))) (
none)
noncomputable def W54 (lf:Nat) (cv:CallVS):List V → List Ob → Option (V × List Ob) := wG [Sa,Sa] (F54 lf cv)
theorem W54_ok (lf:Nat) (cv:CallVS) (hcv:CvOk Go.Proofs.Try.prog cv):WOk Go.Proofs.Try.prog 54 (W54 lf cv) := FOk 20 [(.t 4)] A54 (x54 lf cv hcv) [p54_0 lf cv hcv] (sq [.reg [mv 4 (.c .nils)],.reg [mv 6 1,cw 7 6 [],o 8 (.bslice 1 .nils 1 [(0,7)]),mv 5 8],.block 0 (.sub 0),.reg [mv 19 5,mv 4 19],.ret]) [Sa,Sa] _ Go.Proofs.Try.func54 (by kernel_rfl) (by kernel_rfl) (by kernel_rfl) (fun _ _ _ => by kernel_rfl)
def A56 := mkA []
noncomputable def x56 (lf:Nat) (cv:CallVS) (hcv:CvOk Go.Proofs.Try.prog cv):Cx Go.Proofs.Try.prog := .v (.c (.c .o (W52_ok lf)) (W64_ok lf cv hcv)) hcv
noncomputable def F56 (lf:Nat) (cv:CallVS) (r:V) (member:V) (h:List Ob):Option (V × List Ob) :=
bind1 (er (.nilck (.c r)) h) fun x7 =>
bind1 (er (.faddr 0 (.c x7)) h) fun x8 =>
bind1 (er (.load1 (.c x8)) h) fun x9 =>
bind2 (ev (.bslice 1 (.str []) 1 [(0,(.c (.str [40])))]) h) fun x10 h_ =>
bind2 (F52 lf x9 x10 h_) fun x11 h_1 =>
bind2 (F64 lf cv r member h_1) fun x14 h_2 =>
bind1 (er (.nilck (.c r)) h_2) fun x16 =>
bind1 (er (.faddr 0 (.c x16)) h_2) fun x17 =>
bind1 (er (.load1 (.c x17)) h_2) fun x18 =>
bind2 (ev (.bslice 1 (.str []) 1 [(0,(.c (.str [41])))]) h_2) fun x19 h_3 =>
bind2 (F52 lf x18 x19 h_3) fun x20 h_4 =>
some (x14,h_4)
noncomputable def W56 (lf:Nat) (cv:CallVS):List V → List Ob → Option (V × List Ob) := wG [Sa,Sa] (F56 lf cv)
theorem W56_ok (lf:Nat) (cv:CallVS) (hcv:CvOk Go.Proofs.Try.prog cv):WOk Go.Proofs.Try.prog 56 (W56 lf cv) := FOk 22 [(.t 4)] A56 (x56 lf cv hcv) [] (sq [.reg [mv 4 (.c .nils)],.reg [mv 6 0,nk 7 6,fa 8 0 7,l1 9 8,o 10 (.bslice 1 (.str []) 1 [(0,(.c (.str [40])))]),ca 11 52 [9,10]],.reg [mv 12 0,mv 13 1,ca 14 64 [12,13],mv 5 14],.reg [mv 15 0,nk 16 15,fa 17 0 16,l1 18 17,o 19 (.bslice 1 (.str []) 1 [(0,(.c (.str [41])))]),ca 20 52 [18,19]],.reg [mv 21 5,mv 4 21],.ret]) [Sa,Sa] _ Go.Proofs.Try.func56 (by kernel_rfl) (by kernel_rfl) (by kernel_rfl) (fun _ _ _ => by kernel_rfl)
noncomputable def cv55 (lf:Nat):CallVS := cvC 57 (W57 lf) (cvN)
theorem cv55_ok (lf:Nat):CvOk Go.Proofs.Try.prog (cv55 lf) := cvC_ok (W57_ok lf) (cvN_ok)
def A55 := mkA []
noncomputable def x55 (lf:Nat):Cx Go.Proofs.Try.prog := .v (.c .o (W56_ok lf (cv55 lf) (cv55_ok lf))) (cv55_ok lf)
noncomputable def F55 (lf:Nat) (x0:V) (h:List Ob):Option (V × List Ob) :=
bind1 (er (.load1 (.c x0)) h) fun x2 =>
bind1 (er (.load1 (.c x0)) h) fun x3 =>
bind1 (er (.nilck (.c x3)) h) fun x4 =>
bind1 (er (.faddr 0 (.c x4)) h) fun x5 =>
bind1 (er (.load1 (.c x5)) h) fun x6 =>
bind2 (F56 lf (cv55 lf) x2 (.bm 57 [x6]) h) fun x8 h_ =>
some (x8,h_)
noncomputable def W55 (lf:Nat):List V → List Ob → Option (V × List Ob) := wG [Sa] (F55 lf)
theorem W55_ok (lf:Nat):WOk Go.Proofs.Try.prog 55 (W55 lf) := FOk 9 [(.t 1)] A55 (x55 lf) [] (sq [.reg [mv 1 (.c .nils)],.reg [l1 2 0,l1 3 0,nk 4 3,fa 5 0 4,l1 6 5,o 7 (.mkbm 57 [6]),ca 8 56 [2,7],mv 1 8],.ret]) [Sa] _ Go.Proofs.Try.func55 (by kernel_rfl) (by kernel_rfl) (by kernel_rfl) (fun _ _ => by kernel_rfl)
noncomputable def cv28 (lf:Nat):CallVS := cvC 55 (W55 lf) (cvN)
theorem cv28_ok (lf:Nat):CvOk Go.Proofs.Try.prog (cv28 lf) := cvC_ok (W55_ok lf) (cvN_ok)
def A28 := mkA [(Ss,[14])]
noncomputable def x28 (lf:Nat):Cx Go.Proofs.Try.prog := .v (.c (.c (.c .o (W49_ok lf)) (W52_ok lf)) (W54_ok lf (cv28 lf) (cv28_ok lf))) (cv28_ok lf)
noncomputable def F28 (lf:Nat) (r:V) (h:List Ob):Option (V × List Ob) :=
bind2 (ev (.box false (.c r)) h) fun r1 h_ =>
bind2 (ev (.alloc false (.agg [(.int .i64 0),(.str []),(.str []),(.bool false),.nils,.nils,.nils,.nils,.nils,(.bool false),(.bool false),.nils,.nils,.nils,.nils,.nils,(.int .i64 0)])) h_) fun x2 h_1 =>
bind1 (er (.load1 (.c r1)) h_1) fun x4 =>
bind1 (er (.nilck (.c x4)) h_1) fun x5 =>
bind1 (er (.faddr 0 (.c x5)) h_1) fun x6 =>
bind1 (er (.load1 (.c x6)) h_1) fun x7 =>
bind2 (ev (.bslice 1 (.str []) 1 [(0,(.c (.str [73,78,84,79])))]) h_1) fun x8 h_2 =>
bind2 (F52 lf x7 x8 h_2) fun x9 h_3 =>
bind1 (er (.load1 (.c r1)) h_3) fun x10 =>
bind1 (er (.nilck (.c x10)) h_3) fun x11 =>
bind1 (er (.faddr 0 (.c x11)) h_3) fun x12 =>
bind1 (er (.load1 (.c x12)) h_3) fun x13 =>
bind2 (F49 lf x13 h_3) fun v h_4 =>
castStr v fun x14 =>
bind1 (er (.build [(.int .i64 0),(.str []),(.str []),(.bool false),.nils,.nils,.nils,.nils,.nils,(.bool false),(.bool false),.nils,.nils,.nils,.nils,.nils,(.int .i64 0)] [(0,(1,(.c (.int .i64 (7))))),(1,(1,(.c (.str x14))))]) h_4) fun x15 =>
bind2 (ev (.alloc false (.agg [(.int .i64 0),(.str []),(.str []),(.bool false),.nils,.nils,.nils,.nils,.nils,(.bool false),(.bool false),.nils,.nils,.nils,.nils,.nils,(.int .i64 0)])) h_4) fun s h_5 =>
bind2 (ev (.store 17 (.c s) (.c x15)) h_5) fun u h_6 =>
bind1 (er (.load1 (.c r1)) h_6) fun x16 =>
bind1 (er (.nilck (.c x16)) h_6) fun x17 =>
bind1 (er (.faddr 0 (.c x17)) h_6) fun x18 =>
bind1 (er (.load1 (.c x18)) h_6) fun x19 =>
bind2 (ev (.bslice 1 (.str []) 1 [(0,(.c (.str [86,65,76,85,69,83])))]) h_6) fun x20 h_7 =>
bind2 (F52 lf x19 x20 h_7) fun x21 h_8 =>
bind1 (er (.load1 (.c r1)) h_8) fun x22 =>
bind2 (F54 lf (cv28 lf) x22 (.fn 55 [r1]) h_8) fun x24 h_9 =>
bind1 (er (.faddr 6 (.c s)) h_9) fun x25 =>
bind2 (ev (.store 1 (.c x25) (.c x24)) h_9) fun u1 h_10 =>
bind1 (er (.loadN 17 (.c s)) h_10) fun x26 =>
bind2 (ev (.store 17 (.c x2) (.c x26)) h_10) fun u2 h_11 =>
bind1 (evLoadN h_11 17 x2) fun r2 =>
some (r2,h_11)
noncomputable def W28 (lf:Nat):List V → List Ob → Option (V × List Ob) := wG [Sa] (F28 lf)
theorem W28_ok (lf:Nat):WOk Go.Proofs.Try.prog 28 (W28 lf) := FOk 27 [(.ln 17 2)] A28 (x28 lf) [] (sq [.reg [o 1 (.box false 0),o 2 (.alloc false zSt12)],.reg [l1 4 1,nk 5 4,fa 6 0 5,l1 7 6,o 8 (.bslice 1 (.str []) 1 [(0,(.c (.str [73,78,84,79])))]),ca 9 52 [7,8]],.reg [l1 10 1,nk 11 10,fa 12 0 11,l1 13 12,ca 14 49 [13],o 15 (.build [(.int .i64 0),(.str []),(.str []),(.bool false),.nils,.nils,.nils,.nils,.nils,(.bool false),(.bool false),.nils,.nils,.nils,.nils,.nils,(.int .i64 0)] [(0,(1,(ci 7))),(1,(1,14))]),o 3 (.alloc false zSt12),st 17 3 15],.reg [l1 16 1,nk 17 16,fa 18 0 17,l1 19 18,o 20 (.bslice 1 (.str []) 1 [(0,(.c (.str [86,65,76,85,69,83])))]),ca 21 52 [19,20]],.reg [l1 22 1,o 23 (.mkfn 55 [1]),ca 24 54 [22,23],fa 25 6 3,st 1 25 24],.reg [ln 26 17 3,st 17 2 26],.ret]) [Sa] _ Go.Proofs.Try.func28 (by kernel_rfl) (by kernel_rfl) (by kernel_rfl) (fun _ _ => by kernel_rfl)
def A58 := mkA [(zSt13,[7,16]),(Sb,[13])]
noncomputable def x58 (lf:Nat) (cv:CallVS) (hcv:CvOk Go.Proofs.Try.prog cv):Cx Go.Proofs.Try.prog := .v (.c .o (W10_ok lf)) hcv
noncomputable def B58_0 (lf:Nat) (cv:CallVS) (self:V → V → V → List Ob → SubR) (r:V) (member:V) (out:V) (h:List Ob):SubR :=
bind1 (er (.nilck (.c r)) h) fun x10 =>
bind1 (er (.faddr 0 (.c x10)) h) fun x11 =>
bind1 (er (.load1 (.c x11)) h) fun x12 =>
bind2 (F10 lf x12 [44] h) fun v h_ =>
castBool v fun x13 =>
cB x13 (
bind2 (cv member [] h_) fun v1 h_1 =>
castAgg v1 fun l =>
castCons l fun c l1 =>
castStr c fun x16_0 =>
castCons l1 fun c1 l2 =>
castInt .i64 c1 fun x16_1 =>
castCons l2 fun c2 l3 =>
castStr c2 fun x16_2 =>
castCons l3 fun c3 l4 =>
castInt .i64 c3 fun x16_3 =>
castCons l4 fun c4 l5 =>
castInt .i64 c4 fun x16_4 =>
castCons l5 fun c5 l6 =>
castStr c5 fun x16_5 =>
castCons l6 fun c6 l7 =>
castStr c6 fun x16_6 =>
castCons l7 fun c7 l8 =>
castStr c7 fun x16_7 =>
castCons l8 fun x16_8 l9 =>
castNil l9 (
bind2 (ev (.bslice 9 (.agg [(.str []),(.int .i64 0),(.str []),(.int .i64 0),(.int .i64 0),(.str []),(.str []),(.str []),.nils]) 1 [(0,(.c (.agg [(.str x16_0),(.int .i64 x16_1),(.str x16_2),(.int .i64 x16_3),(.int .i64 x16_4),(.str x16_5),(.str x16_6),(.str x16_7),x16_8])))]) h_1) fun x17 h_2 =>
bind2 (ev (.app 9 128 (.c out) (.c x17)) h_2) fun x18 h_3 =>
self r member x18 h_3)) (
some ((.exit 0),[out],h_))
noncomputable def L58_0 (lf:Nat) (cv:CallVS):Nat → V → V → V → List Ob → SubR
  | 0 => fun _ _ _ _ => none
  | n + 1 => B58_0 lf cv (L58_0 lf cv n)
noncomputable def p58_0 (lf:Nat) (cv:CallVS) (hcv:CvOk Go.Proofs.Try.prog cv):Pt Go.Proofs.Try.prog := .loop A58 (x58 lf cv hcv) [] (sq [sq [.reg [mv 9 0,nk 10 9,fa 11 0 10,l1 12 11,ca 13 10 [12,(.c (.str [44]))]],.cond 13 .skip (.exit 0)],.block 1 (.reg [mv 14 5,mv 15 1,cw 16 15 [],o 17 (.bslice 9 zSt14 1 [(0,16)]),o 18 (.app 9 128 14 17),mv 5 18])]) [Sa,Sa,Sa] [0,1,5] [((.exit 0),[5],[Sa])] (B58_0 lf cv) (L58_0 lf cv) (fun _ _ _ _ => rfl) (fun _ => rfl) (fun _ _ _ _ _ => by kernel_rfl) lf
noncomputable def F58 (lf:Nat) (cv:CallVS) (r:V) (member:V) (h:List Ob):Option (V × List Ob) :=
bind2 (cv member [] h) fun v h_ =>
castAgg v fun l =>
castCons l fun c l1 =>
castStr c fun x7_0 =>
castCons l1 fun c1 l2 =>
castInt .i64 c1 fun x7_1 =>
castCons l2 fun c2 l3 =>
castStr c2 fun x7_2 =>
castCons l3 fun c3 l4 =>
castInt .i64 c3 fun x7_3 =>
castCons l4 fun c4 l5 =>
castInt .i64 c4 fun x7_4 =>
castCons l5 fun c5 l6 =>
castStr c5 fun x7_5 =>
castCons l6 fun c6 l7 =>
castStr c6 fun x7_6 =>
castCons l7 fun c7 l8 =>
castStr c7 fun x7_7 =>
castCons l8 fun x7_8 l9 =>
castNil l9 (
bind2 (ev (.bslice 9 (.agg [(.str []),(.int .i64 0),(.str []),(.int .i64 0),(.int .i64 0),(.str []),(.str []),(.str []),.nils]) 1 [(0,(.c (.agg [(.str x7_0),(.int .i64 x7_1),(.str x7_2),(.int .i64 x7_3),(.int .i64 x7_4),(.str x7_5),(.str x7_6),(.str x7_7),x7_8])))]) h_) fun x8 h_1 =>
bind3 (L58_0 lf cv lf r member x8 h_1) fun ex vs h_2 =>
cB (decide (ex = (.exit 0))) (
castCons vs fun out l10 =>
castNil l10 (
some (out,h_2))) (
none))
noncomputable def W58 (lf:Nat) (cv:CallVS):List V → List Ob → Option (V × List Ob) := wG [Sa,Sa] (F58 lf cv)
theorem W58_ok (lf:Nat) (cv:CallVS) (hcv:CvOk Go.Proofs.Try.prog cv):WOk Go.Proofs.Try.prog 58 (W58 lf cv) := FOk 20 [(.t 4)] A58 (x58 lf cv hcv) [p58_0 lf cv hcv] (sq [.reg [mv 4 (.c .nils)],.reg [mv 6 1,cw 7 6 [],o 8 (.bslice 9 zSt14 1 [(0,7)]),mv 5 8],.block 0 (.sub 0),.reg [mv 19 5,mv 4 19],.ret]) [Sa,Sa] _ Go.Proofs.Try.func58 (by kernel_rfl) (by kernel_rfl) (by kernel_rfl) (fun _ _ _ => by kernel_rfl)
def A59 := mkA [(Ss,[8]),(zSt13,[9,22]),(zSt1,[20])]
noncomputable def x59 (lf:Nat):Cx Go.Proofs.Try.prog := .c (.c (.c .o (W49_ok lf)) (W52_ok lf)) (W57_ok lf)
noncomputable def F59 (lf:Nat) (r:V) (h:List Ob):Option (V × List Ob) :=
bind2 (ev (.alloc false (.agg [(.str []),(.int .i64 0),(.str []),(.int .i64 0),(.int .i64 0),(.str []),(.str []),(.str []),.nils])) h) fun x2 h_ =>
bind1 (er (.nilck (.c r)) h_) fun x5 =>
bind1 (er (.faddr 0 (.c x5)) h_) fun x6 =>
bind1 (er (.load1 (.c x6)) h_) fun x7 =>
bind2 (F49 lf x7 h_) fun v h_1 =>
castStr v fun x8 =>
bind1 (er (.build [(.str []),(.int .i64 0),(.str []),(.int .i64 0),(.int .i64 0),(.str []),(.str []),(.str []),.nils] [(0,(1,(.c (.str x8))))]) h_1) fun v1 =>
castAgg v1 fun l =>
castCons l fun c l1 =>
castStr c fun x9_0 =>
castCons l1 fun c1 l2 =>
castInt .i64 c1 fun x9_1 =>
castCons l2 fun c2 l3 =>
castStr c2 fun x9_2 =>
castCons l3 fun c3 l4 =>
castInt .i64 c3 fun x9_3 =>
castCons l4 fun c4 l5 =>
castInt .i64 c4 fun x9_4 =>
castCons l5 fun c5 l6 =>
castStr c5 fun x9_5 =>
castCons l6 fun c6 l7 =>
castStr c6 fun x9_6 =>
castCons l7 fun c7 l8 =>
castStr c7 fun x9_7 =>
castCons l8 fun x9_8 l9 =>
castNil l9 (
bind2 (ev (.alloc false (.agg [(.str []),(.int .i64 0),(.str []),(.int .i64 0),(.int .i64 0),(.str []),(.str []),(.str []),.nils])) h_1) fun a h_2 =>
bind2 (ev (.store 9 (.c a) (.c (.agg [(.str x9_0),(.int .i64 x9_1),(.str x9_2),(.int .i64 x9_3),(.int .i64 x9_4),(.str x9_5),(.str x9_6),(.str x9_7),x9_8]))) h_2) fun u h_3 =>
bind1 (er (.nilck (.c r)) h_3) fun x11 =>
bind1 (er (.faddr 0 (.c x11)) h_3) fun x12 =>
bind1 (er (.load1 (.c x12)) h_3) fun x13 =>
bind2 (ev (.bslice 1 (.str []) 1 [(0,(.c (.str [61])))]) h_3) fun x14 h_4 =>
bind2 (F52 lf x13 x14 h_4) fun x15 h_5 =>
bind1 (er (.nilck (.c r)) h_5) fun x17 =>
bind1 (er (.faddr 0 (.c x17)) h_5) fun x18 =>
bind1 (er (.load1 (.c x18)) h_5) fun x19 =>
bind2 (F57 lf x19 h_5) fun v2 h_6 =>
castAgg v2 fun l10 =>
castCons l10 fun c8 l11 =>
castInt .i64 c8 fun x20_0 =>
castCons l11 fun c9 l12 =>
castStr c9 fun x20_1 =>
castCons l12 fun c10 l13 =>
castInt .i64 c10 fun x20_2 =>
castCons l13 fun c11 l14 =>
castInt .i64 c11 fun x20_3 =>
castCons l14 fun c12 l15 =>
castStr c12 fun x20_4 =>
castCons l15 fun c13 l16 =>
castStr c13 fun x20_5 =>
castCons l16 fun c14 l17 =>
castStr c14 fun x20_6 =>
castCons l17 fun x20_7 l18 =>
castNil l18 (
bind1 (er (.faddr 1 (.c a)) h_6) fun x21 =>
bind2 (ev (.store 8 (.c x21) (.c (.agg [(.int .i64 x20_0),(.str x20_1),(.int .i64 x20_2),(.int .i64 x20_3),(.str x20_4),(.str x20_5),(.str x20_6),x20_7]))) h_6) fun u1 h_7 =>
bind1 (er (.loadN 9 (.c a)) h_7) fun v3 =>
castAgg v3 fun l19 =>
castCons l19 fun c15 l20 =>
castStr c15 fun x22_0 =>
castCons l20 fun c16 l21 =>
castInt .i64 c16 fun x22_1 =>
castCons l21 fun c17 l22 =>
castStr c17 fun x22_2 =>
castCons l22 fun c18 l23 =>
castInt .i64 c18 fun x22_3 =>
castCons l23 fun c19 l24 =>
castInt .i64 c19 fun x22_4 =>
castCons l24 fun c20 l25 =>
castStr c20 fun x22_5 =>
castCons l25 fun c21 l26 =>
castStr c21 fun x22_6 =>
castCons l26 fun c22 l27 =>
castStr c22 fun x22_7 =>
castCons l27 fun x22_8 l28 =>
castNil l28 (
bind2 (ev (.store 9 (.c x2) (.c (.agg [(.str x22_0),(.int .i64 x22_1),(.str x22_2),(.int .i64 x22_3),(.int .i64 x22_4),(.str x22_5),(.str x22_6),(.str x22_7),x22_8]))) h_7) fun u2 h_8 =>
bind1 (evLoadN h_8 9 x2) fun r1 =>
some (r1,h_8))))
noncomputable def W59 (lf:Nat):List V → List Ob → Option (V × List Ob) := wG [Sa] (F59 lf)
theorem W59_ok (lf:Nat):WOk Go.Proofs.Try.prog 59 (W59 lf) := FOk 23 [(.ln 9 2)] A59 (x59 lf) [] (sq [.reg [o 2 (.alloc false zSt14)],.reg [mv 4 0,nk 5 4,fa 6 0 5,l1 7 6,ca 8 49 [7],o 9 (.build [(.str []),(.int .i64 0),(.str []),(.int .i64 0),(.int .i64 0),(.str []),(.str []),(.str []),.nils] [(0,(1,8))]),o 3 (.alloc false zSt14),st 9 3 9],.reg [mv 10 0,nk 11 10,fa 12 0 11,l1 13 12,o 14 (.bslice 1 (.str []) 1 [(0,(.c (.str [61])))]),ca 15 52 [13,14]],.reg [mv 16 0,nk 17 16,fa 18 0 17,l1 19 18,ca 20 57 [19],fa 21 1 3,st 8 21 20],.reg [ln 22 9 3,st 9 2 22],.ret]) [Sa] _ Go.Proofs.Try.func59 (by kernel_rfl) (by kernel_rfl) (by kernel_rfl) (fun _ _ => by kernel_rfl)
noncomputable def cv29 (lf:Nat):CallVS := cvC 59 (W59 lf) (cvN)
theorem cv29_ok (lf:Nat):CvOk Go.Proofs.Try.prog (cv29 lf) := cvC_ok (W59_ok lf) (cvN_ok)
def A29 := mkA [(Ss,[8])]
noncomputable def x29 (lf:Nat):Cx Go.Proofs.Try.prog := .v (.c (.c (.c (.c .o (W49_ok lf)) (W52_ok lf)) (W58_ok lf (cv29 lf) (cv29_ok lf))) (W60_ok lf)) (cv29_ok lf)
noncomputable def F29 (lf:Nat) (r:V) (h:List Ob):Option (V × List Ob) :=
bind2 (ev (.alloc false (.agg [(.int .i64 0),(.str []),(.str []),(.bool false),.nils,.nils,.nils,.nils,.nils,(.bool false),(.bool false),.nils,.nils,.nils,.nils,.nils,(.int .i64 0)])) h) fun x2 h_ =>
bind1 (er (.nilck (.c r)) h_) fun x5 =>
bind1 (er (.faddr 0 (.c x5)) h_) fun x6 =>
bind1 (er (.load1 (.c x6)) h_) fun x7 =>
bind2 (F49 lf x7 h_) fun v h_1 =>
castStr v fun x8 =>
bind1 (er (.build [(.int .i64 0),(.str []),(.str []),(.bool false),.nils,.nils,.nils,.nils,.nils,(.bool false),(.bool false),.nils,.nils,.nils,.nils,.nils,(.int .i64 0)] [(0,(1,(.c (.int .i64 (8))))),(1,(1,(.c (.str x8))))]) h_1) fun x9 =>
bind2 (ev (.alloc false (.agg [(.int .i64 0),(.str []),(.str []),(.bool false),.nils,.nils,.nils,.nils,.nils,(.bool false),(.bool false),.nils,.nils,.nils,.nils,.nils,(.int .i64 0)])) h_1) fun s h_2 =>
bind2 (ev (.store 17 (.c s) (.c x9)) h_2) fun u h_3 =>
bind1 (er (.nilck (.c r)) h_3) fun x11 =>
bind1 (er (.faddr 0 (.c x11)) h_3) fun x12 =>
bind1 (er (.load1 (.c x12)) h_3) fun x13 =>
bind2 (ev (.bslice 1 (.str []) 1 [(0,(.c (.str [83,69,84])))]) h_3) fun x14 h_4 =>
bind2 (F52 lf x13 x14 h_4) fun x15 h_5 =>
bind2 (F58 lf (cv29 lf) r (.bm 59 [r]) h_5) fun x19 h_6 =>
bind1 (er (.faddr 7 (.c s)) h_6) fun x20 =>
bind2 (ev (.store 1 (.c x20) (.c x19)) h_6) fun u1 h_7 =>
bind2 (F60 lf r h_7) fun x22 h_8 =>
bind1 (er (.faddr 8 (.c s)) h_8) fun x23 =>
bind2 (ev (.store 1 (.c x23) (.c x22)) h_8) fun u2 h_9 =>
bind1 (er (.loadN 17 (.c s)) h_9) fun x24 =>
bind2 (ev (.store 17 (.c x2) (.c x24)) h_9) fun u3 h_10 =>
bind1 (evLoadN h_10 17 x2) fun r1 =>
some (r1,h_10)
noncomputable def W29 (lf:Nat):List V → List Ob → Option (V × List Ob) := wG [Sa] (F29 lf)
theorem W29_ok (lf:Nat):WOk Go.Proofs.Try.prog 29 (W29 lf) := FOk 25 [(.ln 17 2)] A29 (x29 lf) [] (sq [.reg [o 2 (.alloc false zSt12)],.reg [mv 4 0,nk 5 4,fa 6 0 5,l1 7 6,ca 8 49 [7],o 9 (.build [(.int .i64 0),(.str []),(.str []),(.bool false),.nils,.nils,.nils,.nils,.nils,(.bool false),(.bool false),.nils,.nils,.nils,.nils,.nils,(.int .i64 0)] [(0,(1,(ci 8))),(1,(1,8))]),o 3 (.alloc false zSt12),st 17 3 9],.reg [mv 10 0,nk 11 10,fa 12 0 11,l1 13 12,o 14 (.bslice 1 (.str []) 1 [(0,(.c (.str [83,69,84])))]),ca 15 52 [13,14]],.reg [mv 16 0,mv 17 0,o 18 (.mkbm 59 [17]),ca 19 58 [16,18],fa 20 7 3,st 1 20 19],.reg [mv 21 0,ca 22 60 [21],fa 23 8 3,st 1 23 22],.reg [ln 24 17 3,st 17 2 24],.ret]) [Sa] _ Go.Proofs.Try.func29 (by kernel_rfl) (by kernel_rfl) (by kernel_rfl) (fun _ _ => by kernel_rfl)
def A30 := mkA [(Ss,[14])]
noncomputable def x30 (lf:Nat):Cx Go.Proofs.Try.prog := .c (.c (.c .o (W49_ok lf)) (W52_ok lf)) (W60_ok lf)
noncomputable def F30 (lf:Nat) (r:V) (h:List Ob):Option (V × List Ob) :=
bind2 (ev (.alloc false (.agg [(.int .i64 0),(.str []),(.str []),(.bool false),.nils,.nils,.nils,.nils,.nils,(.bool false),(.bool false),.nils,.nils,.nils,.nils,.nils,(.int .i64 0)])) h) fun x2 h_ =>
bind1 (er (.nilck (.c r)) h_) fun x5 =>
bind1 (er (.faddr 0 (.c x5)) h_) fun x6 =>
bind1 (er (.load1 (.c x6)) h_) fun x7 =>
bind2 (ev (.bslice 1 (.str []) 1 [(0,(.c (.str [70,82,79,77])))]) h_) fun x8 h_1 =>
bind2 (F52 lf x7 x8 h_1) fun x9 h_2 =>
bind1 (er (.nilck (.c r)) h_2) fun x11 =>
bind1 (er (.faddr 0 (.c x11)) h_2) fun x12 =>
bind1 (er (.load1 (.c x12)) h_2) fun x13 =>
bind2 (F49 lf x13 h_2) fun v h_3 =>
castStr v fun x14 =>
bind1 (er (.build [(.int .i64 0),(.str []),(.str []),(.bool false),.nils,.nils,.nils,.nils,.nils,(.bool false),(.bool false),.nils,.nils,.nils,.nils,.nils,(.int .i64 0)] [(0,(1,(.c (.int .i64 (9))))),(1,(1,(.c (.str x14))))]) h_3) fun x15 =>
bind2 (ev (.alloc false (.agg [(.int .i64 0),(.str []),(.str []),(.bool false),.nils,.nils,.nils,.nils,.nils,(.bool false),(.bool false),.nils,.nils,.nils,.nils,.nils,(.int .i64 0)])) h_3) fun s h_4 =>
bind2 (ev (.store 17 (.c s) (.c x15)) h_4) fun u h_5 =>
bind2 (F60 lf r h_5) fun x17 h_6 =>
bind1 (er (.faddr 8 (.c s)) h_6) fun x18 =>
bind2 (ev (.store 1 (.c x18) (.c x17)) h_6) fun u1 h_7 =>
bind1 (er (.loadN 17 (.c s)) h_7) fun x19 =>
bind2 (ev (.store 17 (.c x2) (.c x19)) h_7) fun u2 h_8 =>
bind1 (evLoadN h_8 17 x2) fun r1 =>
some (r1,h_8)
noncomputable def W30 (lf:Nat):List V → List Ob → Option (V × List Ob) := wG [Sa] (F30 lf)
theorem W30_ok (lf:Nat):WOk Go.Proofs.Try.prog 30 (W30 lf) := FOk 20 [(.ln 17 2)] A30 (x30 lf) [] (sq [.reg [o 2 (.alloc false zSt12)],.reg [mv 4 0,nk 5 4,fa 6 0 5,l1 7 6,o 8 (.bslice 1 (.str []) 1 [(0,(.c (.str [70,82,79,77])))]),ca 9 52 [7,8]],.reg [mv 10 0,nk 11 10,fa 12 0 11,l1 13 12,ca 14 49 [13],o 15 (.build [(.int .i64 0),(.str []),(.str []),(.bool false),.nils,.nils,.nils,.nils,.nils,(.bool false),(.bool false),.nils,.nils,.nils,.nils,.nils,(.int .i64 0)] [(0,(1,(ci 9))),(1,(1,14))]),o 3 (.alloc false zSt12),st 17 3 15],.reg [mv 16 0,ca 17 60 [16],fa 18 8 3,st 1 18 17],.reg [ln 19 17 3,st 17 2 19],.ret]) [Sa] _ Go.Proofs.Try.func30 (by kernel_rfl) (by kernel_rfl) (by kernel_rfl) (fun _ _ => by kernel_rfl)
def A9 := mkA [(Si,[3,55,56,58,67,68,70]),(Ss,[4,60,65]),(Sb,[5,10,13,18,21,26,29,34,37,42,45,50,57,66]),(zSt9,[52])]
noncomputable def x9 (lf:Nat):Cx Go.Proofs.Try.prog := .c (.c (.c (.c (.c (.c (.c (.c .o (W10_ok lf)) (W12_ok lf)) (W26_ok lf)) (W27_ok lf)) (W28_ok lf)) (W29_ok lf)) (W30_ok lf)) (W31_ok lf)
noncomputable def B9_0 (lf:Nat) (self:V → V → V → Int → Int → List Ob → SubR) (r:V) (x2:V) (x54:V) (x55:Int) (x56:Int) (h:List Ob):SubR :=
cB (decide (x56 < x55)) (
bind1 (er (.iaddrL 1 (.c x54) (.c (.int .i64 x56))) h) fun x59 =>
bind1 (er (.load1 (.c x59)) h) fun v =>
castStr v fun x60 =>
bind1 (er (.nilck (.c r)) h) fun x62 =>
bind1 (er (.faddr 0 (.c x62)) h) fun x63 =>
bind1 (er (.load1 (.c x63)) h) fun x64 =>
bind2 (F10 lf x64 x60 h) fun v1 h_ =>
castBool v1 fun x66 =>
cB x66 (
bind1 (er (.build [(.int .i64 0),(.str []),(.str []),(.bool false),.nils,.nils,.nils,.nils,.nils,(.bool false),(.bool false),.nils,.nils,.nils,.nils,.nils,(.int .i64 0)] [(0,(1,(.c (.int .i64 (IntKind.i64.wrap ((11) + x56))))))]) h_) fun x69 =>
bind2 (ev (.store 17 (.c x2) (.c x69)) h_) fun u h_1 =>
some (.ret,[],h_1)) (
self r x2 x54 x55 (IntKind.i64.wrap (x56 + (1))) h_)) (
some ((.exit 1),[],h))
noncomputable def L9_0 (lf:Nat):Nat → V → V → V → Int → Int → List Ob → SubR
  | 0 => fun _ _ _ _ _ _ => none
  | n + 1 => B9_0 lf (L9_0 lf n)
noncomputable def p9_0 (lf:Nat):Pt Go.Proofs.Try.prog := .loop A9 (x9 lf) [] (sq [.reg [o 57 (.bin .lss 56 55)],.cond 57 .skip (.exit 1),.block 2 (sq [.reg [mv 58 56,o 59 (.iaddrL 1 54 56),l1 60 59,mv 3 58,mv 4 60],.reg [mv 61 0,nk 62 61,fa 63 0 62,l1 64 63,mv 65 4,ca 66 10 [64,65]],.cond 66 (sq [.reg [mv 67 3,o 68 (.bin .add (ci 11) 67),o 69 (.build [(.int .i64 0),(.str []),(.str []),(.bool false),.nils,.nils,.nils,.nils,.nils,(.bool false),(.bool false),.nils,.nils,.nils,.nils,.nils,(.int .i64 0)] [(0,(1,68))]),st 17 2 69],.ret]) .skip]),.reg [o 70 (.bin .add 56 (ci 1)),mv 56 70]]) [Sa,Sa,Sa,Si,Si] [0,2,54,55,56] [((.exit 1),[],[]),(.ret,[],[])] (B9_0 lf) (L9_0 lf) (fun _ _ _ _ _ _ => rfl) (fun _ => rfl) (fun _ _ _ _ _ _ _ => by kernel_rfl) lf
noncomputable def F9 (lf:Nat) (r:V) (h:List Ob):Option (V × List Ob) :=
bind2 (ev (.alloc false (.agg [(.int .i64 0),(.str []),(.str []),(.bool false),.nils,.nils,.nils,.nils,.nils,(.bool false),(.bool false),.nils,.nils,.nils,.nils,.nils,(.int .i64 0)])) h) fun x2 h_ =>
bind1 (er (.nilck (.c r)) h_) fun x7 =>
bind1 (er (.faddr 0 (.c x7)) h_) fun x8 =>
bind1 (er (.load1 (.c x8)) h_) fun x9 =>
bind2 (F10 lf x9 [67,82,69,65,84,69] h_) fun v h_1 =>
castBool v fun x10 =>
cB x10 (
bind2 (F26 lf r h_1) fun x12 h_2 =>
bind2 (ev (.store 17 (.c x2) (.c x12)) h_2) fun u h_3 =>
bind1 (evLoadN h_3 17 x2) fun r1 =>
some (r1,h_3)) (
bind1 (er (.nilck (.c r)) h_1) fun x15 =>
bind1 (er (.faddr 0 (.c x15)) h_1) fun x16 =>
bind1 (er (.load1 (.c x16)) h_1) fun x17 =>
bind2 (F10 lf x17 [68,82,79,80] h_1) fun v1 h_2 =>
castBool v1 fun x18 =>
cB x18 (
bind2 (F27 lf r h_2) fun x20 h_3 =>
bind2 (ev (.store 17 (.c x2) (.c x20)) h_3) fun u h_4 =>
bind1 (evLoadN h_4 17 x2) fun r1 =>
some (r1,h_4)) (
bind1 (er (.nilck (.c r)) h_2) fun x23 =>
bind1 (er (.faddr 0 (.c x23)) h_2) fun x24 =>
bind1 (er (.load1 (.c x24)) h_2) fun x25 =>
bind2 (F10 lf x25 [73,78,83,69,82,84] h_2) fun v2 h_3 =>
castBool v2 fun x26 =>
cB x26 (
bind2 (F28 lf r h_3) fun x28 h_4 =>
bind2 (ev (.store 17 (.c x2) (.c x28)) h_4) fun u h_5 =>
bind1 (evLoadN h_5 17 x2) fun r1 =>
some (r1,h_5)) (
bind1 (er (.nilck (.c r)) h_3) fun x31 =>
bind1 (er (.faddr 0 (.c x31)) h_3) fun x32 =>
bind1 (er (.load1 (.c x32)) h_3) fun x33 =>
bind2 (F10 lf x33 [85,80,68,65,84,69] h_3) fun v3 h_4 =>
castBool v3 fun x34 =>
cB x34 (
bind2 (F29 lf r h_4) fun x36 h_5 =>
bind2 (ev (.store 17 (.c x2) (.c x36)) h_5) fun u h_6 =>
bind1 (evLoadN h_6 17 x2) fun r1 =>
some (r1,h_6)) (
bind1 (er (.nilck (.c r)) h_4) fun x39 =>
bind1 (er (.faddr 0 (.c x39)) h_4) fun x40 =>
bind1 (er (.load1 (.c x40)) h_4) fun x41 =>
bind2 (F10 lf x41 [68,69,76,69,84,69] h_4) fun v4 h_5 =>
castBool v4 fun x42 =>
cB x42 (
bind2 (F30 lf r h_5) fun x44 h_6 =>
bind2 (ev (.store 17 (.c x2) (.c x44)) h_6) fun u h_7 =>
bind1 (evLoadN h_7 17 x2) fun r1 =>
some (r1,h_7)) (
bind1 (er (.nilck (.c r)) h_5) fun x47 =>
bind1 (er (.faddr 0 (.c x47)) h_5) fun x48 =>
bind1 (er (.load1 (.c x48)) h_5) fun x49 =>
bind2 (F10 lf x49 [83,69,76,69,67,84] h_5) fun v5 h_6 =>
castBool v5 fun x50 =>
cB x50 (
bind2 (F31 lf r h_6) fun v6 h_7 =>
castAgg v6 fun l =>
castCons l fun c l1 =>
castBool c fun x52_0 =>
castCons l1 fun c1 l2 =>
castBool c1 fun x52_1 =>
castCons l2 fun x52_2 l3 =>
castCons l3 fun x52_3 l4 =>
castCons l4 fun x52_4 l5 =>
castCons l5 fun x52_5 l6 =>
castCons l6 fun x52_6 l7 =>
castCons l7 fun c2 l8 =>
castInt .i64 c2 fun x52_7 =>
castNil l8 (
bind1 (er (.build [(.int .i64 0),(.str []),(.str []),(.bool false),.nils,.nils,.nils,.nils,.nils,(.bool false),(.bool false),.nils,.nils,.nils,.nils,.nils,(.int .i64 0)] [(0,(1,(.c (.int .i64 (10))))),(9,(8,(.c (.agg [(.bool x52_0),(.bool x52_1),x52_2,x52_3,x52_4,x52_5,x52_6,(.int .i64 x52_7)]))))]) h_7) fun x53 =>
bind2 (ev (.store 17 (.c x2) (.c x53)) h_7) fun u h_8 =>
bind1 (evLoadN h_8 17 x2) fun r1 =>
some (r1,h_8))) (
bind2 (ev (.bslice 1 (.str []) 3 [(0,(.c (.str [66,69,71,73,78]))),(1,(.c (.str [67,79,77,77,73,84]))),(2,(.c (.str [82,79,76,76,66,65,67,75])))]) h_6) fun x54 h_7 =>
bind1 (er (.lenL (.c x54)) h_7) fun v6 =>
castInt .i64 v6 fun x55 =>
bind3 (L9_0 lf lf r x2 x54 x55 (0) h_7) fun ex vs h_8 =>
cB (decide (ex = (.exit 1))) (
castNil vs (
bind1 (er (.nilck (.c r)) h_8) fun x72 =>
bind1 (er (.faddr 0 (.c x72)) h_8) fun x73 =>
bind1 (er (.load1 (.c x73)) h_8) fun x74 =>
bind2 (F12 lf x74 h_8) fun x75 h_9 =>
bind1 (er (.build [(.int .i64 0),(.str []),(.str []),(.bool false),.nils,.nils,.nils,.nils,.nils,(.bool false),(.bool false),.nils,.nils,.nils,.nils,.nils,(.int .i64 0)] []) h_9) fun x76 =>
bind2 (ev (.store 17 (.c x2) (.c x76)) h_9) fun u h_10 =>
bind1 (evLoadN h_10 17 x2) fun r1 =>
some (r1,h_10))) (
cB (decide (ex = .ret)) (
castNil vs (
bind1 (evLoadN h_8 17 x2) fun r1 =>
some (r1,h_8))) (
none))))))))
noncomputable def W9 (lf:Nat):List V → List Ob → Option (V × List Ob) := wG [Sa] (F9 lf)
theorem W9_ok (lf:Nat):WOk Go.Proofs.Try.prog 9 (W9 lf) := FOk 77 [(.ln 17 2)] A9 (x9 lf) [p9_0 lf] (sq [.reg [o 2 (.alloc false zSt12)],.block 0 (sq [.reg [mv 6 0,nk 7 6,fa 8 0 7,l1 9 8,ca 10 10 [9,(.c (.str [67,82,69,65,84,69]))],mv 5 10],.cond 5 (sq [.reg [mv 11 0,ca 12 26 [11],st 17 2 12],.ret]) (sq [.reg [mv 14 0,nk 15 14,fa 16 0 15,l1 17 16,ca 18 10 [17,(.c (.str [68,82,79,80]))],mv 13 18],.cond 13 (sq [.reg [mv 19 0,ca 20 27 [19],st 17 2 20],.ret]) (sq [.reg [mv 22 0,nk 23 22,fa 24 0 23,l1 25 24,ca 26 10 [25,(.c (.str [73,78,83,69,82,84]))],mv 21 26],.cond 21 (sq [.reg [mv 27 0,ca 28 28 [27],st 17 2 28],.ret]) (sq [.reg [mv 30 0,nk 31 30,fa 32 0 31,l1 33 32,ca 34 10 [33,(.c (.str [85,80,68,65,84,69]))],mv 29 34],.cond 29 (sq [.reg [mv 35 0,ca 36 29 [35],st 17 2 36],.ret]) (sq [.reg [mv 38 0,nk 39 38,fa 40 0 39,l1 41 40,ca 42 10 [41,(.c (.str [68,69,76,69,84,69]))],mv 37 42],.cond 37 (sq [.reg [mv 43 0,ca 44 30 [43],st 17 2 44],.ret]) (sq [.reg [mv 46 0,nk 47 46,fa 48 0 47,l1 49 48,ca 50 10 [49,(.c (.str [83,69,76,69,67,84]))],mv 45 50],.cond 45 (sq [.reg [mv 51 0,ca 52 31 [51],o 53 (.build [(.int .i64 0),(.str []),(.str []),(.bool false),.nils,.nils,.nils,.nils,.nils,(.bool false),(.bool false),.nils,.nils,.nils,.nils,.nils,(.int .i64 0)] [(0,(1,(ci 10))),(9,(8,52))]),st 17 2 53],.ret]) .skip])])])])])]),sq [.reg [o 54 (.bslice 1 (.str []) 3 [(0,(.c (.str [66,69,71,73,78]))),(1,(.c (.str [67,79,77,77,73,84]))),(2,(.c (.str [82,79,76,76,66,65,67,75])))]),o 55 (.lenL 54),mv 56 (ci 0)],.block 1 (.sub 0)],.reg [mv 71 0,nk 72 71,fa 73 0 72,l1 74 73,ca 75 12 [74]],.reg [o 76 (.build [(.int .i64 0),(.str []),(.str []),(.bool false),.nils,.nils,.nils,.nils,.nils,(.bool false),(.bool false),.nils,.nils,.nils,.nils,.nils,(.int .i64 0)] []),st 17 2 76],.ret]) [Sa] _ Go.Proofs.Try.func9 (by kernel_rfl) (by kernel_rfl) (by kernel_rfl) (fun _ _ => by kernel_rfl)
end Go.Proofs.Ytjpjeilfmjdhcaa.St
