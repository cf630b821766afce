/- Functions of the program as Lean functions, and that each call comes to what its function says. Printed by my own tool. No condition. -/
import Derived.Test.YtjpjeilfmjdhcaaGreatProg
import Derived.Test.YtjpjeilfmjdhcaaGreatA3
import Derived.Test.YtjpjeilfmjdhcaaGreatA7
import Derived.Test.YtjpjeilfmjdhcaaGreatA16
set_option maxRecDepth 100000
set_option linter.unusedVariables false
set_option linter.unusedSimpArgs false
set_option linter.unnecessarySimpa false
namespace Go.Proofs.YtjpjeilfmjdhcaaGreat.f_
open Go E E.K ep eI fw fC
noncomputable section
abbrev sb:dO:= .agg [a4,a4,aD,aD,aD,aD,aD,aP]
abbrev sc:dO:= .agg [a3,aP,a3,aP,aP,a3,a3,a3,aD]
abbrev qj:dO:= .agg [aP,a3,aP,aP,a3,a3,a3,aD]
abbrev sd:dO:= .agg [aP,a3,aP,aP,a3,a3,a3,aD,a3]
abbrev se:dO:= .agg [a3,a3,aP,a3,aP,aP,a3,a3,a3,aD]
abbrev sf:dO:= .agg [aP,a3,aP,aP,a3,a3,a3,aD,a4]
def Vd:=cE [(a4,[2,32,41,42,46,47,48,52,53]),(aP,[4,11,14,17,20,23,26,27,30,31,35,37,38,39,40,45,51]),(sb,[8])]
def Ml(j:Nat):cd Tryz.prog:= .ao
def Hp(j:Nat)(self:Int→V→Int→Int→Lo→a9)(gw:Int)(CD:V)(Hq:Int)(C7:Int)(h:Lo):a9:=
al (decide (C7<Hq)) (
J (I (.cH 1 (.c CD) (.c (.int .i64 C7))) h) fun b=>
J (I (.ag (.c b)) h) fun c=>
J (I (.cm (.c c)) h) fun d=>
bt .i64 d fun a=>
self (if a>gw then a else gw) CD Hq (IntKind.i64.wrap (C7+(1))) h) (
some ((.exit 0),[.int .i64 gw],h))
def xc(j:Nat):Nat→Int→V→Int→Int→Lo→a9
 |0=>fun _ _ _ _ _=>none
 |n+1=>Hp j (xc j n)
def akW(j:Nat):cz Tryz.prog:= .loop Vd (Ml j) [] (cT Tryz.prog Tryz.f20 [1,1,1,0,1,0,0] []) [aP,aD,aP,aP] [4,29,30,31] [((.exit 0),[4],[aP])] (Hp j) (xc j) (fun _ _ _ _ _=>rfl) (fun _=>rfl) (fun _ _ _ _ _ _=>by kernel_rfl) j
def C8(j:Nat)(s:V)(h:Lo):OvL:=
ad (aB (.box false (.c s)) h) fun c e=>
J (I (.af 9 (.c c)) e) fun g=>
J (I (.bp 8 (.c g)) e) fun i=>
aN sb i fun o k l m n p q r=>
ad (aB (.alloc false (.agg [.bool false, .bool false, .ab, .ab, .ab, .ab, .ab, .int .i64 0])) e) fun d t=>
ad (aB (.store 8 (.c d) (.c (.agg [.bool o, .bool k,l,m,n,p,q, .int .i64 r]))) t) fun fk a=>
J (I (.af 4 (.c c)) a) fun u=>
J (I (.ag (.c u)) a) fun v=>
J (I (.cm (.c v)) a) fun w=>
bt .i64 w fun x=>
J (I (.af 5 (.c c)) a) fun y=>
J (I (.ag (.c y)) a) fun z=>
J (I (.cm (.c z)) a) fun bQ=>
bt .i64 bQ fun bZ=>
J (I (.af 7 (.c c)) a) fun ac=>
J (I (.ag (.c ac)) a) fun b2=>
J (I (.cm (.c b2)) a) fun b9=>
bt .i64 b9 fun cn=>
J (I (.af 2 (.c d)) a) fun cr=>
J (I (.ag (.c cr)) a) fun cB=>
J (I (.cm (.c cB)) a) fun cL=>
bt .i64 cL fun cM=>
J (I (.af 5 (.c d)) a) fun cO=>
J (I (.ag (.c cO)) a) fun am=>
J (I (.cm (.c am)) a) fun cV=>
bt .i64 cV fun ap=>
J (I (.af 6 (.c d)) a) fun c3=>
J (I (.ag (.c c3)) a) fun c8=>
J (I (.cm (.c c8)) a) fun c9=>
bt .i64 c9 fun dc=>
J (I (.af 6 (.c c)) a) fun c4=>
J (I (.ag (.c c4)) a) fun f=>
J (I (.cm (.c f)) a) fun dD=>
bt .i64 dD fun dk=>
bO (xc j j (mb (mb (mb (mb (mb x bZ) cn) cM) ap) dc) f dk (0) a) fun dP d_ b=>
al (decide (dP=(.exit 0))) (
aZ [aP] d_ fun dV=>
al (decide (dV>(8))) (
some ((.bool true),b)) (
J (I (.af 6 (.c c)) b) fun ey=>
J (I (.ag (.c ey)) b) fun eX=>
J (I (.cm (.c eX)) b) fun be=>
bt .i64 be fun e5=>
al (decide (e5>(10))) (
some ((.bool true),b)) (
J (I (.af 3 (.c d)) b) fun ec=>
J (I (.ag (.c ec)) b) fun bi=>
J (I (.cm (.c bi)) b) fun fE=>
bt .i64 fE fun fG=>
some ((.bool (decide (fG>(3)))),b)))) (
none)
def akX(j:Nat):Lv→Lo→OvL:=cv [aD] (C8 j)
theorem Ve(j:Nat):cq Tryz.prog 20 (akX j):=cG Vd (Ml j) [akW j] [([1,1,1,0,1,0],0)] [aD] _ Tryz.func20 (by kernel_rfl) (by kernel_rfl) (by kernel_rfl) (fun _ _=>by kernel_rfl)
def Vf:=cE [(a3,[0,9]),(aP,[3,5,12,13,16,44,51]),(.bW [aD,aP],[8,10]),(a4,[14,27,32,33,39,45,52,54]),(.agg [aD],[19])]
def j4(j:Nat):cd Tryz.prog:= .c (.c (.c (.c (.c (.c (.c (.c .ao (ab2 j)) (ads j)) (afw j)) (kI j)) (R2 j)) (yI j)) (adE j)) (Ve j)
def Hr(j:Nat)(r:V)(h:Lo):a9:=
J (I (.bz (.c r)) h) fun b=>
J (I (.af 0 (.c b)) h) fun c=>
J (I (.ag (.c c)) h) fun d=>
ad (B2 j d h) fun e a=>
bG e fun f=>
al (!f) (
J (I (.bz (.c r)) a) fun g=>
J (I (.af 0 (.c g)) a) fun i=>
J (I (.ag (.c i)) a) fun o=>
ad (rQ j o a) fun l k=>
some (.normal,[],k)) (
some (.normal,[],a))
def akY(j:Nat):cz Tryz.prog:= .of Vf (j4 j) [] (cT Tryz.prog Tryz.f6 [1,1,1,1,1,1,0] []) [aD] [6] [(.normal,[],[])] (Hr j) (fun _ _=>by kernel_rfl)
def xd(j:Nat)(text:Lu)(h:Lo):OvL:=
ad (aB (.alloc false (.agg [.int .i64 0,(.str []),(.str []), .bool false, .ab, .ab, .ab, .ab, .ab, .bool false, .bool false, .ab, .ab, .ab, .ab, .ab, .int .i64 0])) h) fun a q=>
ad (E1 j text q) fun r k=>
aN (.bW [aD,aP]) r fun s n=>
al (n !=(0)) (
J (I (.build [.int .i64 0,(.str []),(.str []), .bool false, .ab, .ab, .ab, .ab, .ab, .bool false, .bool false, .ab, .ab, .ab, .ab, .ab, .int .i64 0] []) k) fun t=>
ad (aB (.store 17 (.c a) (.c t)) k) fun u f=>
J (dS f 17 a) fun c=>
some ((.bW [c, .int .i64 n]),f)) (
ad (FA j s k) fun v f=>
J (I (.build [.ki] [(0,(1,(.c v)))]) f) fun w=>
aN (.agg [aD]) w fun x=>
ad (aB (.box false (.c (.agg [x]))) f) fun g y=>
ad (Gr j g y) fun z bQ=>
ad (aB (.alloc false (.agg [.int .i64 0,(.str []),(.str []), .bool false, .ab, .ab, .ab, .ab, .ab, .bool false, .bool false, .ab, .ab, .ab, .ab, .ab, .int .i64 0])) bQ) fun l bZ=>
ad (aB (.store 17 (.c l) (.c z)) bZ) fun u i=>
J (I (.bz (.c g)) i) fun ac=>
J (I (.af 0 (.c ac)) i) fun b2=>
J (I (.ag (.c b2)) i) fun b9=>
ad (gF j b9 [59] i) fun cn cr=>
bG cn fun dV=>
bO (Hr j g cr) fun cB cL o=>
al (decide (cB= .normal)) (
dT cL (
J (I (.bz (.c g)) o) fun cM=>
J (I (.af 0 (.c cM)) o) fun cO=>
J (I (.ag (.c cO)) o) fun am=>
ad (B4 j am o) fun cV d=>
bt .i64 cV fun ap=>
al (ap !=(0)) (
J (I (.build [.int .i64 0,(.str []),(.str []), .bool false, .ab, .ab, .ab, .ab, .ab, .bool false, .bool false, .ab, .ab, .ab, .ab, .ab, .int .i64 0] []) d) fun c3=>
J (I (.bz (.c g)) d) fun c8=>
J (I (.af 0 (.c c8)) d) fun c9=>
J (I (.ag (.c c9)) d) fun dc=>
ad (B4 j dc d) fun m e=>
bt .i64 m fun c4=>
ad (aB (.store 17 (.c a) (.c c3)) e) fun p b=>
J (dS b 17 a) fun c=>
some ((.bW [c, .int .i64 c4]),b)) (
J (I (.bp 17 (.c l)) d) fun dD=>
ad (C8 j dD d) fun m e=>
bG m fun dk=>
al dk (
J (I (.build [.int .i64 0,(.str []),(.str []), .bool false, .ab, .ab, .ab, .ab, .ab, .bool false, .bool false, .ab, .ab, .ab, .ab, .ab, .int .i64 0] []) e) fun dP=>
ad (aB (.store 17 (.c a) (.c dP)) e) fun p b=>
J (dS b 17 a) fun c=>
some ((.bW [c,(.int .i64 (5))]),b)) (
J (I (.bp 17 (.c l)) e) fun d_=>
ad (aB (.store 17 (.c a) (.c d_)) e) fun p b=>
J (dS b 17 a) fun c=>
some ((.bW [c,(.int .i64 (0))]),b))))) (
none))
def zW(j:Nat):Lv→Lo→OvL:=cv [a3] (xd j)
theorem Hs(j:Nat):cq Tryz.prog 6 (zW j):=cG Vf (j4 j) [akY j] [([1,1,1,1,1,1,0],0)] [a3] _ Tryz.func6 (by kernel_rfl) (by kernel_rfl) (by kernel_rfl) (fun _ _=>by kernel_rfl)
def Vg:=cE [(a4,[4,10,14,24]),(aP,[5,7,9,12,13,15,17,21,25]),(.agg [a3,aP,a4,a4],[19,23])]
def Vh(j:Nat):cd Tryz.prog:= .ao
def Ht(j:Nat)(self:V→V→Int→Int→Lo→a9)(s1:V)(s2:V)(oC:Int)(jM:Int)(h:Lo):a9:=
al (decide (jM<oC)) (
J (I (.cH 4 (.c s1) (.c (.int .i64 jM))) h) fun a=>
J (I (.bp 4 (.c a)) h) fun b=>
aN (.agg [a3,aP,a4,a4]) b fun c d e f=>
J (I (.cH 4 (.c s2) (.c (.int .i64 jM))) h) fun g=>
J (I (.bp 4 (.c g)) h) fun i=>
aN (.agg [a3,aP,a4,a4]) i fun o k l m=>
J (I (.eq true (.struct 4 [(0, .s),(1, .i),(2, .b),(3, .b)]) (.c (.agg [.str c, .int .i64 d, .bool e, .bool f])) (.c (.agg [.str o, .int .i64 k, .bool l, .bool m]))) h) fun n=>
bG n fun p=>
al p (
some (.ret,[.bool false],h)) (
self s1 s2 oC (IntKind.i64.wrap (jM+(1))) h)) (
some ((.exit 0),[],h))
def zX(j:Nat):Nat→V→V→Int→Int→Lo→a9
 |0=>fun _ _ _ _ _=>none
 |n+1=>Ht j (zX j n)
def akZ(j:Nat):cz Tryz.prog:= .loop Vg (Vh j) [] (cT Tryz.prog Tryz.f43 [1,1,0,1,0,0] []) [aD,aD,aP,aP] [0,1,12,13] [((.exit 0),[],[]),(.ret,[4],[a4])] (Ht j) (zX j) (fun _ _ _ _ _=>rfl) (fun _=>rfl) (fun _ _ _ _ _ _=>by kernel_rfl) j
def Hu(j:Nat)(s1:V)(s2:V)(h:Lo):OvL:=
J (I (.cm (.c s1)) h) fun d=>
bt .i64 d fun e=>
J (I (.cm (.c s2)) h) fun f=>
bt .i64 f fun g=>
al (e !=g) (
some ((.bool false),h)) (
J (I (.cm (.c s1)) h) fun i=>
bt .i64 i fun o=>
bO (zX j j s1 s2 o (0) h) fun a b c=>
al (decide (a=(.exit 0))) (
dT b (
some ((.bool true),c))) (
al (decide (a= .ret)) (
aZ [a4] b fun k=>
some ((.bool k),c)) (
none)))
def ak0(j:Nat):Lv→Lo→OvL:=cv [aD,aD] (Hu j)
theorem ak1(j:Nat):cq Tryz.prog 43 (ak0 j):=cG Vg (Vh j) [akZ j] [([1,1,0,1,0],0)] [aD,aD] _ Tryz.func43 (by kernel_rfl) (by kernel_rfl) (by kernel_rfl) (fun _ _ _=>by kernel_rfl)
def Vi:=cE [(a4,[4,10,14,24]),(aP,[5,7,9,12,13,15,17,21,25]),(a3,[19,23])]
def Vj(j:Nat):cd Tryz.prog:= .ao
def Hv(j:Nat)(self:V→V→Int→Int→Lo→a9)(s1:V)(s2:V)(oC:Int)(jM:Int)(h:Lo):a9:=
al (decide (jM<oC)) (
J (I (.cH 1 (.c s1) (.c (.int .i64 jM))) h) fun a=>
J (I (.ag (.c a)) h) fun b=>
b1 b fun c=>
J (I (.cH 1 (.c s2) (.c (.int .i64 jM))) h) fun d=>
J (I (.ag (.c d)) h) fun e=>
b1 e fun f=>
al (!(c==f)) (
some (.ret,[.bool false],h)) (
self s1 s2 oC (IntKind.i64.wrap (jM+(1))) h)) (
some ((.exit 0),[],h))
def zY(j:Nat):Nat→V→V→Int→Int→Lo→a9
 |0=>fun _ _ _ _ _=>none
 |n+1=>Hv j (zY j n)
def ak2(j:Nat):cz Tryz.prog:= .loop Vi (Vj j) [] (cT Tryz.prog Tryz.f44 [1,1,0,1,0,0] []) [aD,aD,aP,aP] [0,1,12,13] [((.exit 0),[],[]),(.ret,[4],[a4])] (Hv j) (zY j) (fun _ _ _ _ _=>rfl) (fun _=>rfl) (fun _ _ _ _ _ _=>by kernel_rfl) j
def Hw(j:Nat)(s1:V)(s2:V)(h:Lo):OvL:=
J (I (.cm (.c s1)) h) fun d=>
bt .i64 d fun e=>
J (I (.cm (.c s2)) h) fun f=>
bt .i64 f fun g=>
al (e !=g) (
some ((.bool false),h)) (
J (I (.cm (.c s1)) h) fun i=>
bt .i64 i fun o=>
bO (zY j j s1 s2 o (0) h) fun a b c=>
al (decide (a=(.exit 0))) (
dT b (
some ((.bool true),c))) (
al (decide (a= .ret)) (
aZ [a4] b fun k=>
some ((.bool k),c)) (
none)))
def ak3(j:Nat):Lv→Lo→OvL:=cv [aD,aD] (Hw j)
theorem ak4(j:Nat):cq Tryz.prog 44 (ak3 j):=cG Vi (Vj j) [ak2 j] [([1,1,0,1,0],0)] [aD,aD] _ Tryz.func44 (by kernel_rfl) (by kernel_rfl) (by kernel_rfl) (fun _ _ _=>by kernel_rfl)
def Vk:=cE [(a4,[6,14,18,29,30]),(aP,[7,11,13,16,17,19,23,31])]
def m1(j:Nat)(ay:bK)(b3:dC Tryz.prog ay):cd Tryz.prog:= .v .ao b3
def Hx(j:Nat)(ay:bK)(self:V→V→V→Int→Int→Lo→a9)(s2:V)(eq:V)(jN:V)(iL:Int)(iq:Int)(h:Lo):a9:=
al (decide (iq<iL)) (
J (I (.cH 1 (.c jN) (.c (.int .i64 iq))) h) fun b=>
J (I (.ag (.c b)) h) fun c=>
J (I (.cH 1 (.c s2) (.c (.int .i64 iq))) h) fun d=>
J (I (.ag (.c d)) h) fun e=>
ad (ay eq [c,e] h) fun f a=>
bG f fun g=>
al (!g) (
some (.ret,[.bool false],a)) (
self s2 eq jN iL (IntKind.i64.wrap (iq+(1))) a)) (
some ((.exit 0),[],h))
def zZ(j:Nat)(ay:bK):Nat→V→V→V→Int→Int→Lo→a9
 |0=>fun _ _ _ _ _ _=>none
 |n+1=>Hx j ay (zZ j ay n)
def ak5(j:Nat)(ay:bK)(b3:dC Tryz.prog ay):cz Tryz.prog:= .loop Vk (m1 j ay b3) [] (cT Tryz.prog Tryz.f47 [1,1,0,1,0,0] []) [aD,aD,aD,aP,aP] [1,2,15,16,17] [((.exit 0),[],[]),(.ret,[6],[a4])] (Hx j ay) (zZ j ay) (fun _ _ _ _ _ _=>rfl) (fun _=>rfl) (fun _ _ _ _ _ _ _=>by kernel_rfl) j
def Hy(j:Nat)(ay:bK)(s1:V)(s2:V)(eq:V)(h:Lo):OvL:=
J (I (.cm (.c s1)) h) fun d=>
bt .i64 d fun e=>
J (I (.cm (.c s2)) h) fun f=>
bt .i64 f fun g=>
al (e !=g) (
some ((.bool false),h)) (
J (I (.cm (.c s1)) h) fun i=>
bt .i64 i fun o=>
bO (zZ j ay j s2 eq s1 o (0) h) fun a b c=>
al (decide (a=(.exit 0))) (
dT b (
some ((.bool true),c))) (
al (decide (a= .ret)) (
aZ [a4] b fun k=>
some ((.bool k),c)) (
none)))
def ak6(j:Nat)(ay:bK):Lv→Lo→OvL:=cv [aD,aD,aD] (Hy j ay)
theorem ak7(j:Nat)(ay:bK)(b3:dC Tryz.prog ay):cq Tryz.prog 47 (ak6 j ay):=cG Vk (m1 j ay b3) [ak5 j ay b3] [([1,1,0,1,0],0)] [aD,aD,aD] _ Tryz.func47 (by kernel_rfl) (by kernel_rfl) (by kernel_rfl) (fun _ _ _ _=>by kernel_rfl)
def Nv(j:Nat):bK:=ju 46 (rL j (ir j j)) (nP)
theorem Vl(j:Nat):dC Tryz.prog (Nv j):=j1 (sW j (ir j j) (sX j j)) (ot)
def ak8:=cE [(a4,[4,7])]
def C9(j:Nat):cd Tryz.prog:= .v (.c .ao (E7 j (Nv j) (Vl j))) (Vl j)
def Hz(j:Nat)(a:V)(b:V)(h:Lo):OvL:=
ad (rJ j (Nv j) a b (.fn 46 []) h) fun c d=>
bG c fun e=>
some ((.bool e),d)
def Vm(j:Nat):Lv→Lo→OvL:=cv [aD,aD] (Hz j)
theorem ak9(j:Nat):cq Tryz.prog 48 (Vm j):=cG ak8 (C9 j) [] [] [aD,aD] _ Tryz.func48 (by kernel_rfl) (by kernel_rfl) (by kernel_rfl) (fun _ _ _=>by kernel_rfl)
def Vn:=cE [(a4,[6,14,18,29,30]),(aP,[7,11,13,16,17,19,23,31]),(sc,[21,25,27,28])]
def tm(j:Nat)(ay:bK)(b3:dC Tryz.prog ay):cd Tryz.prog:= .v .ao b3
def HA(j:Nat)(ay:bK)(self:V→V→V→Int→Int→Lo→a9)(s2:V)(eq:V)(jN:V)(iL:Int)(iq:Int)(h:Lo):a9:=
al (decide (iq<iL)) (
J (I (.cH 9 (.c jN) (.c (.int .i64 iq))) h) fun f=>
J (I (.bp 9 (.c f)) h) fun g=>
aN sc g fun i o k l m n p q r=>
ad (aB (.alloc false (.agg [(.str []), .int .i64 0,(.str []), .int .i64 0, .int .i64 0,(.str []),(.str []),(.str []), .ab])) h) fun c s=>
ad (aB (.store 9 (.c c) (.c (.agg [.str i, .int .i64 o, .str k, .int .i64 l, .int .i64 m, .str n, .str p, .str q,r]))) s) fun e5 a=>
J (I (.cH 9 (.c s2) (.c (.int .i64 iq))) a) fun t=>
J (I (.bp 9 (.c t)) a) fun u=>
aN sc u fun v w x y z bQ bZ ac b2=>
ad (aB (.alloc false (.agg [(.str []), .int .i64 0,(.str []), .int .i64 0, .int .i64 0,(.str []),(.str []),(.str []), .ab])) a) fun d b9=>
ad (aB (.store 9 (.c d) (.c (.agg [.str v, .int .i64 w, .str x, .int .i64 y, .int .i64 z, .str bQ, .str bZ, .str ac,b2]))) b9) fun ec b=>
J (I (.bp 9 (.c c)) b) fun cn=>
aN sc cn fun cr cB cL cM cO am cV ap c3=>
J (I (.bp 9 (.c d)) b) fun c8=>
aN sc c8 fun c9 dc c4 dD dk dP d_ dV ey=>
ad (ay eq [(.agg [.str cr, .int .i64 cB, .str cL, .int .i64 cM, .int .i64 cO, .str am, .str cV, .str ap,c3]),(.agg [.str c9, .int .i64 dc, .str c4, .int .i64 dD, .int .i64 dk, .str dP, .str d_, .str dV,ey])] b) fun eX e=>
bG eX fun be=>
al (!be) (
some (.ret,[.bool false],e)) (
self s2 eq jN iL (IntKind.i64.wrap (iq+(1))) e)) (
some ((.exit 0),[],h))
def z0(j:Nat)(ay:bK):Nat→V→V→V→Int→Int→Lo→a9
 |0=>fun _ _ _ _ _ _=>none
 |n+1=>HA j ay (z0 j ay n)
def ak_(j:Nat)(ay:bK)(b3:dC Tryz.prog ay):cz Tryz.prog:= .loop Vn (tm j ay b3) [] (cT Tryz.prog Tryz.f49 [1,1,0,1,0,0] []) [aD,aD,aD,aP,aP] [1,2,15,16,17] [((.exit 0),[],[]),(.ret,[6],[a4])] (HA j ay) (z0 j ay) (fun _ _ _ _ _ _=>rfl) (fun _=>rfl) (fun _ _ _ _ _ _ _=>by kernel_rfl) j
def HB(j:Nat)(ay:bK)(s1:V)(s2:V)(eq:V)(h:Lo):OvL:=
J (I (.cm (.c s1)) h) fun d=>
bt .i64 d fun e=>
J (I (.cm (.c s2)) h) fun f=>
bt .i64 f fun g=>
al (e !=g) (
some ((.bool false),h)) (
J (I (.cm (.c s1)) h) fun i=>
bt .i64 i fun o=>
bO (z0 j ay j s2 eq s1 o (0) h) fun a b c=>
al (decide (a=(.exit 0))) (
dT b (
some ((.bool true),c))) (
al (decide (a= .ret)) (
aZ [a4] b fun k=>
some ((.bool k),c)) (
none)))
def ala(j:Nat)(ay:bK):Lv→Lo→OvL:=cv [aD,aD,aD] (HB j ay)
theorem alb(j:Nat)(ay:bK)(b3:dC Tryz.prog ay):cq Tryz.prog 49 (ala j ay):=cG Vn (tm j ay b3) [ak_ j ay b3] [([1,1,0,1,0],0)] [aD,aD,aD] _ Tryz.func49 (by kernel_rfl) (by kernel_rfl) (by kernel_rfl) (fun _ _ _ _=>by kernel_rfl)
def alc:=cE [(sc,[0,1]),(a4,[4,9,10,15,16]),(a3,[6,8]),(qj,[12,14])]
def nT(j:Nat):cd Tryz.prog:= .c .ao (sW j (ir j j) (sX j j))
def Nw(j:Nat)(a:Lu)(b5:Int)(cI:Lu)(fo:Int)(gC:Int)(gb:Lu)(g8:Lu)(ie:Lu)(ke:V)(b:Lu)(dL:Int)(fL:Lu)(j5:Int)(kH:Int)(jw:Lu)(j6:Lu)(j7:Lu)(n7:V)(h:Lo):OvL:=
ad (aB (.box false (.c (.agg [.str a, .int .i64 b5, .str cI, .int .i64 fo, .int .i64 gC, .str gb, .str g8, .str ie,ke]))) h) fun d f=>
ad (aB (.box false (.c (.agg [.str b, .int .i64 dL, .str fL, .int .i64 j5, .int .i64 kH, .str jw, .str j6, .str j7,n7]))) f) fun e c=>
J (I (.af 0 (.c d)) c) fun g=>
J (I (.ag (.c g)) c) fun i=>
b1 i fun o=>
J (I (.af 0 (.c e)) c) fun k=>
J (I (.ag (.c k)) c) fun l=>
b1 l fun m=>
al (o==m) (
J (I (.af 1 (.c d)) c) fun n=>
J (I (.bp 8 (.c n)) c) fun p=>
aN qj p fun q r s t u v w x=>
J (I (.af 1 (.c e)) c) fun y=>
J (I (.bp 8 (.c y)) c) fun z=>
aN qj z fun bQ bZ ac b2 b9 cn cr cB=>
ad (rK j (ir j j) q r s t u v w x bQ bZ ac b2 b9 cn cr cB c) fun cL cM=>
bG cL fun cO=>
some ((.bool cO),cM)) (
some ((.bool false),c))
def HC(j:Nat):Lv→Lo→OvL:=cv [sc,sc] (Nw j)
theorem ald(j:Nat):cq Tryz.prog 50 (HC j):=cG alc (nT j) [] [] [sc,sc] _ Tryz.func50 (by kernel_rfl) (by kernel_rfl) (by kernel_rfl) (fun _ _ _ _ _ _ _ _ _ _ _ _ _ _ _ _ _ _ _=>by kernel_rfl)
def Vo:=cE [(a4,[6,14,18,29,30]),(aP,[7,11,13,16,17,19,23,31]),(sd,[21,25,27,28])]
def Vp(j:Nat)(ay:bK)(b3:dC Tryz.prog ay):cd Tryz.prog:= .v .ao b3
def HD(j:Nat)(ay:bK)(self:V→V→V→Int→Int→Lo→a9)(s2:V)(eq:V)(jN:V)(iL:Int)(iq:Int)(h:Lo):a9:=
al (decide (iq<iL)) (
J (I (.cH 9 (.c jN) (.c (.int .i64 iq))) h) fun f=>
J (I (.bp 9 (.c f)) h) fun g=>
aN sd g fun i o k l m n p q r=>
ad (aB (.alloc false (.agg [.int .i64 0,(.str []), .int .i64 0, .int .i64 0,(.str []),(.str []),(.str []), .ab,(.str [])])) h) fun c s=>
ad (aB (.store 9 (.c c) (.c (.agg [.int .i64 i, .str o, .int .i64 k, .int .i64 l, .str m, .str n, .str p,q, .str r]))) s) fun e5 a=>
J (I (.cH 9 (.c s2) (.c (.int .i64 iq))) a) fun t=>
J (I (.bp 9 (.c t)) a) fun u=>
aN sd u fun v w x y z bQ bZ ac b2=>
ad (aB (.alloc false (.agg [.int .i64 0,(.str []), .int .i64 0, .int .i64 0,(.str []),(.str []),(.str []), .ab,(.str [])])) a) fun d b9=>
ad (aB (.store 9 (.c d) (.c (.agg [.int .i64 v, .str w, .int .i64 x, .int .i64 y, .str z, .str bQ, .str bZ,ac, .str b2]))) b9) fun ec b=>
J (I (.bp 9 (.c c)) b) fun cn=>
aN sd cn fun cr cB cL cM cO am cV ap c3=>
J (I (.bp 9 (.c d)) b) fun c8=>
aN sd c8 fun c9 dc c4 dD dk dP d_ dV ey=>
ad (ay eq [(.agg [.int .i64 cr, .str cB, .int .i64 cL, .int .i64 cM, .str cO, .str am, .str cV,ap, .str c3]),(.agg [.int .i64 c9, .str dc, .int .i64 c4, .int .i64 dD, .str dk, .str dP, .str d_,dV, .str ey])] b) fun eX e=>
bG eX fun be=>
al (!be) (
some (.ret,[.bool false],e)) (
self s2 eq jN iL (IntKind.i64.wrap (iq+(1))) e)) (
some ((.exit 0),[],h))
def z1(j:Nat)(ay:bK):Nat→V→V→V→Int→Int→Lo→a9
 |0=>fun _ _ _ _ _ _=>none
 |n+1=>HD j ay (z1 j ay n)
def ale(j:Nat)(ay:bK)(b3:dC Tryz.prog ay):cz Tryz.prog:= .loop Vo (Vp j ay b3) [] (cT Tryz.prog Tryz.f77 [1,1,0,1,0,0] []) [aD,aD,aD,aP,aP] [1,2,15,16,17] [((.exit 0),[],[]),(.ret,[6],[a4])] (HD j ay) (z1 j ay) (fun _ _ _ _ _ _=>rfl) (fun _=>rfl) (fun _ _ _ _ _ _ _=>by kernel_rfl) j
def HE(j:Nat)(ay:bK)(s1:V)(s2:V)(eq:V)(h:Lo):OvL:=
J (I (.cm (.c s1)) h) fun d=>
bt .i64 d fun e=>
J (I (.cm (.c s2)) h) fun f=>
bt .i64 f fun g=>
al (e !=g) (
some ((.bool false),h)) (
J (I (.cm (.c s1)) h) fun i=>
bt .i64 i fun o=>
bO (z1 j ay j s2 eq s1 o (0) h) fun a b c=>
al (decide (a=(.exit 0))) (
dT b (
some ((.bool true),c))) (
al (decide (a= .ret)) (
aZ [a4] b fun k=>
some ((.bool k),c)) (
none)))
def alf(j:Nat)(ay:bK):Lv→Lo→OvL:=cv [aD,aD,aD] (HE j ay)
theorem alg(j:Nat)(ay:bK)(b3:dC Tryz.prog ay):cq Tryz.prog 77 (alf j ay):=cG Vo (Vp j ay b3) [ale j ay b3] [([1,1,0,1,0],0)] [aD,aD,aD] _ Tryz.func77 (by kernel_rfl) (by kernel_rfl) (by kernel_rfl) (fun _ _ _ _=>by kernel_rfl)
def alh:=cE [(sd,[0,1]),(a4,[4,9,10,15,16]),(a3,[6,8]),(qj,[12,14])]
def ali(j:Nat):cd Tryz.prog:= .c .ao (sW j (ir j j) (sX j j))
def Nx(j:Nat)(a:Int)(b5:Lu)(cI:Int)(fo:Int)(gC:Lu)(gb:Lu)(g8:Lu)(ie:V)(ke:Lu)(b:Int)(dL:Lu)(fL:Int)(j5:Int)(kH:Lu)(jw:Lu)(j6:Lu)(j7:V)(n7:Lu)(h:Lo):OvL:=
ad (aB (.box false (.c (.agg [.int .i64 a, .str b5, .int .i64 cI, .int .i64 fo, .str gC, .str gb, .str g8,ie, .str ke]))) h) fun d f=>
ad (aB (.box false (.c (.agg [.int .i64 b, .str dL, .int .i64 fL, .int .i64 j5, .str kH, .str jw, .str j6,j7, .str n7]))) f) fun e c=>
J (I (.af 8 (.c d)) c) fun g=>
J (I (.ag (.c g)) c) fun i=>
b1 i fun o=>
J (I (.af 8 (.c e)) c) fun k=>
J (I (.ag (.c k)) c) fun l=>
b1 l fun m=>
al (o==m) (
J (I (.af 0 (.c d)) c) fun n=>
J (I (.bp 8 (.c n)) c) fun p=>
aN qj p fun q r s t u v w x=>
J (I (.af 0 (.c e)) c) fun y=>
J (I (.bp 8 (.c y)) c) fun z=>
aN qj z fun bQ bZ ac b2 b9 cn cr cB=>
ad (rK j (ir j j) q r s t u v w x bQ bZ ac b2 b9 cn cr cB c) fun cL cM=>
bG cL fun cO=>
some ((.bool cO),cM)) (
some ((.bool false),c))
def HF(j:Nat):Lv→Lo→OvL:=cv [sd,sd] (Nx j)
theorem alj(j:Nat):cq Tryz.prog 78 (HF j):=cG alh (ali j) [] [] [sd,sd] _ Tryz.func78 (by kernel_rfl) (by kernel_rfl) (by kernel_rfl) (fun _ _ _ _ _ _ _ _ _ _ _ _ _ _ _ _ _ _ _=>by kernel_rfl)
def Vq:=cE [(a4,[6,14,18,29,30]),(aP,[7,11,13,16,17,19,23,31]),(se,[21,25,27,28])]
def C_(j:Nat)(ay:bK)(b3:dC Tryz.prog ay):cd Tryz.prog:= .v .ao b3
def HG(j:Nat)(ay:bK)(self:V→V→V→Int→Int→Lo→a9)(s2:V)(eq:V)(jN:V)(iL:Int)(iq:Int)(h:Lo):a9:=
al (decide (iq<iL)) (
J (I (.cH 10 (.c jN) (.c (.int .i64 iq))) h) fun f=>
J (I (.bp 10 (.c f)) h) fun g=>
aN se g fun i o k l m n p q r s=>
ad (aB (.alloc false (.agg [(.str []),(.str []), .int .i64 0,(.str []), .int .i64 0, .int .i64 0,(.str []),(.str []),(.str []), .ab])) h) fun c t=>
ad (aB (.store 10 (.c c) (.c (.agg [.str i, .str o, .int .i64 k, .str l, .int .i64 m, .int .i64 n, .str p, .str q, .str r,s]))) t) fun fG a=>
J (I (.cH 10 (.c s2) (.c (.int .i64 iq))) a) fun u=>
J (I (.bp 10 (.c u)) a) fun v=>
aN se v fun w x y z bQ bZ ac b2 b9 cn=>
ad (aB (.alloc false (.agg [(.str []),(.str []), .int .i64 0,(.str []), .int .i64 0, .int .i64 0,(.str []),(.str []),(.str []), .ab])) a) fun d cr=>
ad (aB (.store 10 (.c d) (.c (.agg [.str w, .str x, .int .i64 y, .str z, .int .i64 bQ, .int .i64 bZ, .str ac, .str b2, .str b9,cn]))) cr) fun fk b=>
J (I (.bp 10 (.c c)) b) fun cB=>
aN se cB fun cL cM cO am cV ap c3 c8 c9 dc=>
J (I (.bp 10 (.c d)) b) fun c4=>
aN se c4 fun dD dk dP d_ dV ey eX be e5 ec=>
ad (ay eq [(.agg [.str cL, .str cM, .int .i64 cO, .str am, .int .i64 cV, .int .i64 ap, .str c3, .str c8, .str c9,dc]),(.agg [.str dD, .str dk, .int .i64 dP, .str d_, .int .i64 dV, .int .i64 ey, .str eX, .str be, .str e5,ec])] b) fun bi e=>
bG bi fun fE=>
al (!fE) (
some (.ret,[.bool false],e)) (
self s2 eq jN iL (IntKind.i64.wrap (iq+(1))) e)) (
some ((.exit 0),[],h))
def z2(j:Nat)(ay:bK):Nat→V→V→V→Int→Int→Lo→a9
 |0=>fun _ _ _ _ _ _=>none
 |n+1=>HG j ay (z2 j ay n)
def alk(j:Nat)(ay:bK)(b3:dC Tryz.prog ay):cz Tryz.prog:= .loop Vq (C_ j ay b3) [] (cT Tryz.prog Tryz.f79 [1,1,0,1,0,0] []) [aD,aD,aD,aP,aP] [1,2,15,16,17] [((.exit 0),[],[]),(.ret,[6],[a4])] (HG j ay) (z2 j ay) (fun _ _ _ _ _ _=>rfl) (fun _=>rfl) (fun _ _ _ _ _ _ _=>by kernel_rfl) j
def HH(j:Nat)(ay:bK)(s1:V)(s2:V)(eq:V)(h:Lo):OvL:=
J (I (.cm (.c s1)) h) fun d=>
bt .i64 d fun e=>
J (I (.cm (.c s2)) h) fun f=>
bt .i64 f fun g=>
al (e !=g) (
some ((.bool false),h)) (
J (I (.cm (.c s1)) h) fun i=>
bt .i64 i fun o=>
bO (z2 j ay j s2 eq s1 o (0) h) fun a b c=>
al (decide (a=(.exit 0))) (
dT b (
some ((.bool true),c))) (
al (decide (a= .ret)) (
aZ [a4] b fun k=>
some ((.bool k),c)) (
none)))
def alm(j:Nat)(ay:bK):Lv→Lo→OvL:=cv [aD,aD,aD] (HH j ay)
theorem aln(j:Nat)(ay:bK)(b3:dC Tryz.prog ay):cq Tryz.prog 79 (alm j ay):=cG Vq (C_ j ay b3) [alk j ay b3] [([1,1,0,1,0],0)] [aD,aD,aD] _ Tryz.func79 (by kernel_rfl) (by kernel_rfl) (by kernel_rfl) (fun _ _ _ _=>by kernel_rfl)
def alo:=cE [(se,[0,1]),(a4,[4,9,10,15,16,17,22,23]),(a3,[6,8,12,14]),(qj,[19,21])]
def z3(j:Nat):cd Tryz.prog:= .c .ao (sW j (ir j j) (sX j j))
def Ny(j:Nat)(a:Lu)(b5:Lu)(cI:Int)(fo:Lu)(gC:Int)(gb:Int)(g8:Lu)(ie:Lu)(ke:Lu)(zI:V)(b:Lu)(dL:Lu)(fL:Int)(j5:Lu)(kH:Int)(jw:Int)(j6:Lu)(j7:Lu)(n7:Lu)(Nz:V)(h:Lo):OvL:=
ad (aB (.box false (.c (.agg [.str a, .str b5, .int .i64 cI, .str fo, .int .i64 gC, .int .i64 gb, .str g8, .str ie, .str ke,zI]))) h) fun d f=>
ad (aB (.box false (.c (.agg [.str b, .str dL, .int .i64 fL, .str j5, .int .i64 kH, .int .i64 jw, .str j6, .str j7, .str n7,Nz]))) f) fun e c=>
J (I (.af 0 (.c d)) c) fun g=>
J (I (.ag (.c g)) c) fun i=>
b1 i fun o=>
J (I (.af 0 (.c e)) c) fun k=>
J (I (.ag (.c k)) c) fun l=>
b1 l fun m=>
al (o==m) (
J (I (.af 1 (.c d)) c) fun n=>
J (I (.ag (.c n)) c) fun p=>
b1 p fun q=>
J (I (.af 1 (.c e)) c) fun r=>
J (I (.ag (.c r)) c) fun s=>
b1 s fun t=>
al (q==t) (
J (I (.af 2 (.c d)) c) fun u=>
J (I (.bp 8 (.c u)) c) fun v=>
aN qj v fun w x y z bQ bZ ac b2=>
J (I (.af 2 (.c e)) c) fun b9=>
J (I (.bp 8 (.c b9)) c) fun cn=>
aN qj cn fun cr cB cL cM cO am cV ap=>
ad (rK j (ir j j) w x y z bQ bZ ac b2 cr cB cL cM cO am cV ap c) fun c3 c8=>
bG c3 fun c9=>
some ((.bool c9),c8)) (
some ((.bool false),c))) (
some ((.bool false),c))
def HI(j:Nat):Lv→Lo→OvL:=cv [se,se] (Ny j)
theorem alp(j:Nat):cq Tryz.prog 80 (HI j):=cG alo (z3 j) [] [] [se,se] _ Tryz.func80 (by kernel_rfl) (by kernel_rfl) (by kernel_rfl) (fun _ _ _ _ _ _ _ _ _ _ _ _ _ _ _ _ _ _ _ _ _=>by kernel_rfl)
def Vr:=cE [(a4,[6,14,18,29,30]),(aP,[7,11,13,16,17,19,23,31]),(sf,[21,25,27,28])]
def Vs(j:Nat)(ay:bK)(b3:dC Tryz.prog ay):cd Tryz.prog:= .v .ao b3
def HJ(j:Nat)(ay:bK)(self:V→V→V→Int→Int→Lo→a9)(s2:V)(eq:V)(jN:V)(iL:Int)(iq:Int)(h:Lo):a9:=
al (decide (iq<iL)) (
J (I (.cH 9 (.c jN) (.c (.int .i64 iq))) h) fun f=>
J (I (.bp 9 (.c f)) h) fun g=>
aN sf g fun i o k l m n p q r=>
ad (aB (.alloc false (.agg [.int .i64 0,(.str []), .int .i64 0, .int .i64 0,(.str []),(.str []),(.str []), .ab, .bool false])) h) fun c s=>
ad (aB (.store 9 (.c c) (.c (.agg [.int .i64 i, .str o, .int .i64 k, .int .i64 l, .str m, .str n, .str p,q, .bool r]))) s) fun e5 a=>
J (I (.cH 9 (.c s2) (.c (.int .i64 iq))) a) fun t=>
J (I (.bp 9 (.c t)) a) fun u=>
aN sf u fun v w x y z bQ bZ ac b2=>
ad (aB (.alloc false (.agg [.int .i64 0,(.str []), .int .i64 0, .int .i64 0,(.str []),(.str []),(.str []), .ab, .bool false])) a) fun d b9=>
ad (aB (.store 9 (.c d) (.c (.agg [.int .i64 v, .str w, .int .i64 x, .int .i64 y, .str z, .str bQ, .str bZ,ac, .bool b2]))) b9) fun ec b=>
J (I (.bp 9 (.c c)) b) fun cn=>
aN sf cn fun cr cB cL cM cO am cV ap c3=>
J (I (.bp 9 (.c d)) b) fun c8=>
aN sf c8 fun c9 dc c4 dD dk dP d_ dV ey=>
ad (ay eq [(.agg [.int .i64 cr, .str cB, .int .i64 cL, .int .i64 cM, .str cO, .str am, .str cV,ap, .bool c3]),(.agg [.int .i64 c9, .str dc, .int .i64 c4, .int .i64 dD, .str dk, .str dP, .str d_,dV, .bool ey])] b) fun eX e=>
bG eX fun be=>
al (!be) (
some (.ret,[.bool false],e)) (
self s2 eq jN iL (IntKind.i64.wrap (iq+(1))) e)) (
some ((.exit 0),[],h))
def z4(j:Nat)(ay:bK):Nat→V→V→V→Int→Int→Lo→a9
 |0=>fun _ _ _ _ _ _=>none
 |n+1=>HJ j ay (z4 j ay n)
def alq(j:Nat)(ay:bK)(b3:dC Tryz.prog ay):cz Tryz.prog:= .loop Vr (Vs j ay b3) [] (cT Tryz.prog Tryz.f81 [1,1,0,1,0,0] []) [aD,aD,aD,aP,aP] [1,2,15,16,17] [((.exit 0),[],[]),(.ret,[6],[a4])] (HJ j ay) (z4 j ay) (fun _ _ _ _ _ _=>rfl) (fun _=>rfl) (fun _ _ _ _ _ _ _=>by kernel_rfl) j
def HK(j:Nat)(ay:bK)(s1:V)(s2:V)(eq:V)(h:Lo):OvL:=
J (I (.cm (.c s1)) h) fun d=>
bt .i64 d fun e=>
J (I (.cm (.c s2)) h) fun f=>
bt .i64 f fun g=>
al (e !=g) (
some ((.bool false),h)) (
J (I (.cm (.c s1)) h) fun i=>
bt .i64 i fun o=>
bO (z4 j ay j s2 eq s1 o (0) h) fun a b c=>
al (decide (a=(.exit 0))) (
dT b (
some ((.bool true),c))) (
al (decide (a= .ret)) (
aZ [a4] b fun k=>
some ((.bool k),c)) (
none)))
def alr(j:Nat)(ay:bK):Lv→Lo→OvL:=cv [aD,aD,aD] (HK j ay)
theorem als(j:Nat)(ay:bK)(b3:dC Tryz.prog ay):cq Tryz.prog 81 (alr j ay):=cG Vr (Vs j ay b3) [alq j ay b3] [([1,1,0,1,0],0)] [aD,aD,aD] _ Tryz.func81 (by kernel_rfl) (by kernel_rfl) (by kernel_rfl) (fun _ _ _ _=>by kernel_rfl)
def alu:=cE [(sf,[0,1]),(a4,[4,6,8,9,10,15,16]),(qj,[12,14])]
def xe(j:Nat):cd Tryz.prog:= .c .ao (sW j (ir j j) (sX j j))
def NA(j:Nat)(a:Int)(b5:Lu)(cI:Int)(fo:Int)(gC:Lu)(gb:Lu)(g8:Lu)(ie:V)(ke:Bool)(b:Int)(dL:Lu)(fL:Int)(j5:Int)(kH:Lu)(jw:Lu)(j6:Lu)(j7:V)(n7:Bool)(h:Lo):OvL:=
ad (aB (.box false (.c (.agg [.int .i64 a, .str b5, .int .i64 cI, .int .i64 fo, .str gC, .str gb, .str g8,ie, .bool ke]))) h) fun d f=>
ad (aB (.box false (.c (.agg [.int .i64 b, .str dL, .int .i64 fL, .int .i64 j5, .str kH, .str jw, .str j6,j7, .bool n7]))) f) fun e c=>
J (I (.af 8 (.c d)) c) fun g=>
J (I (.ag (.c g)) c) fun i=>
bG i fun o=>
J (I (.af 8 (.c e)) c) fun k=>
J (I (.ag (.c k)) c) fun l=>
bG l fun m=>
al (o==m) (
J (I (.af 0 (.c d)) c) fun n=>
J (I (.bp 8 (.c n)) c) fun p=>
aN qj p fun q r s t u v w x=>
J (I (.af 0 (.c e)) c) fun y=>
J (I (.bp 8 (.c y)) c) fun z=>
aN qj z fun bQ bZ ac b2 b9 cn cr cB=>
ad (rK j (ir j j) q r s t u v w x bQ bZ ac b2 b9 cn cr cB c) fun cL cM=>
bG cL fun cO=>
some ((.bool cO),cM)) (
some ((.bool false),c))
def HL(j:Nat):Lv→Lo→OvL:=cv [sf,sf] (NA j)
theorem alv(j:Nat):cq Tryz.prog 82 (HL j):=cG alu (xe j) [] [] [sf,sf] _ Tryz.func82 (by kernel_rfl) (by kernel_rfl) (by kernel_rfl) (fun _ _ _ _ _ _ _ _ _ _ _ _ _ _ _ _ _ _ _=>by kernel_rfl)
def sg(j:Nat):bK:=ju 82 (HL j) (ju 80 (HI j) (ju 78 (HF j) (ju 46 (rL j (ir j j)) (nP))))
theorem Da(j:Nat):dC Tryz.prog (sg j):=j1 (alv j) (j1 (alp j) (j1 (alj j) (j1 (sW j (ir j j) (sX j j)) (ot))))
def alw:=cE [(sb,[0,1]),(a4,[4,6,8,9,10,12,14,15,16,17,22,23,24,29,30,31,36,37,38,43,44,45,50,51,52,57,58]),(aP,[19,21])]
def yz(j:Nat):cd Tryz.prog:= .v (.c (.c (.c (.c .ao (E7 j (sg j) (Da j))) (alg j (sg j) (Da j))) (aln j (sg j) (Da j))) (als j (sg j) (Da j))) (Da j)
def HM(j:Nat)(a:Bool)(b5:Bool)(cI:V)(fo:V)(gC:V)(gb:V)(g8:V)(ie:Int)(b:Bool)(dL:Bool)(fL:V)(j5:V)(kH:V)(jw:V)(j6:V)(j7:Int)(h:Lo):OvL:=
ad (aB (.box false (.c (.agg [.bool a, .bool b5,cI,fo,gC,gb,g8, .int .i64 ie]))) h) fun d k=>
ad (aB (.box false (.c (.agg [.bool b, .bool dL,fL,j5,kH,jw,j6, .int .i64 j7]))) k) fun e c=>
J (I (.af 0 (.c d)) c) fun l=>
J (I (.ag (.c l)) c) fun m=>
bG m fun n=>
J (I (.af 0 (.c e)) c) fun p=>
J (I (.ag (.c p)) c) fun q=>
bG q fun r=>
al (n==r) (
J (I (.af 1 (.c d)) c) fun s=>
J (I (.ag (.c s)) c) fun t=>
bG t fun u=>
J (I (.af 1 (.c e)) c) fun v=>
J (I (.ag (.c v)) c) fun w=>
bG w fun x=>
al (u==x) (
J (I (.af 7 (.c d)) c) fun y=>
J (I (.ag (.c y)) c) fun z=>
bt .i64 z fun bQ=>
J (I (.af 7 (.c e)) c) fun bZ=>
J (I (.ag (.c bZ)) c) fun ac=>
bt .i64 ac fun b2=>
al (bQ==b2) (
J (I (.af 2 (.c d)) c) fun b9=>
J (I (.ag (.c b9)) c) fun cn=>
J (I (.af 2 (.c e)) c) fun cr=>
J (I (.ag (.c cr)) c) fun cB=>
ad (HE j (sg j) cn cB (.fn 78 []) c) fun cL f=>
bG cL fun cM=>
al cM (
J (I (.af 3 (.c d)) f) fun cO=>
J (I (.ag (.c cO)) f) fun am=>
J (I (.af 3 (.c e)) f) fun cV=>
J (I (.ag (.c cV)) f) fun ap=>
ad (HH j (sg j) am ap (.fn 80 []) f) fun c3 g=>
bG c3 fun c8=>
al c8 (
J (I (.af 4 (.c d)) g) fun c9=>
J (I (.ag (.c c9)) g) fun dc=>
J (I (.af 4 (.c e)) g) fun c4=>
J (I (.ag (.c c4)) g) fun dD=>
ad (rJ j (sg j) dc dD (.fn 46 []) g) fun dk i=>
bG dk fun dP=>
al dP (
J (I (.af 5 (.c d)) i) fun d_=>
J (I (.ag (.c d_)) i) fun dV=>
J (I (.af 5 (.c e)) i) fun ey=>
J (I (.ag (.c ey)) i) fun eX=>
ad (rJ j (sg j) dV eX (.fn 46 []) i) fun be o=>
bG be fun e5=>
al e5 (
J (I (.af 6 (.c d)) o) fun ec=>
J (I (.ag (.c ec)) o) fun bi=>
J (I (.af 6 (.c e)) o) fun fE=>
J (I (.ag (.c fE)) o) fun fG=>
ad (HK j (sg j) bi fG (.fn 82 []) o) fun fk eD=>
bG fk fun gL=>
some ((.bool gL),eD)) (
some ((.bool false),o))) (
some ((.bool false),i))) (
some ((.bool false),g))) (
some ((.bool false),f))) (
some ((.bool false),c))) (
some ((.bool false),c))) (
some ((.bool false),c))
def alx(j:Nat):Lv→Lo→OvL:=cv [sb,sb] (HM j)
theorem aly(j:Nat):cq Tryz.prog 51 (alx j):=cG alw (yz j) [] [] [sb,sb] _ Tryz.func51 (by kernel_rfl) (by kernel_rfl) (by kernel_rfl) (fun _ _ _ _ _ _ _ _ _ _ _ _ _ _ _ _ _=>by kernel_rfl)
def xf(j:Nat):bK:=ju 50 (HC j) (ju 48 (Vm j) (ju 46 (rL j (ir j j)) (nP)))
theorem HN(j:Nat):dC Tryz.prog (xf j):=j1 (ald j) (j1 (ak9 j) (j1 (sW j (ir j j) (sX j j)) (ot)))
def alz:=cE [(a4,[4,9,10,15,16,17,22,23,24,26,28,29,30,31,36,37,38,43,44,45,50,51,52,57,58,59,64,65,66,71,72]),(aP,[6,8]),(a3,[12,14,19,21]),(sb,[68,70])]
def p1(j:Nat):cd Tryz.prog:= .v (.c (.c (.c (.c (.c (.c .ao (ak1 j)) (ak4 j)) (E7 j (xf j) (HN j))) (ak7 j (xf j) (HN j))) (alb j (xf j) (HN j))) (aly j)) (HN j)
def uW(j:Nat)(a:V)(b:V)(h:Lo):OvL:=
ad (aB (.box false (.c a)) h) fun d l=>
ad (aB (.box false (.c b)) l) fun e c=>
J (I (.af 0 (.c d)) c) fun m=>
J (I (.ag (.c m)) c) fun n=>
bt .i64 n fun p=>
J (I (.af 0 (.c e)) c) fun q=>
J (I (.ag (.c q)) c) fun r=>
bt .i64 r fun s=>
al (p==s) (
J (I (.af 1 (.c d)) c) fun t=>
J (I (.ag (.c t)) c) fun u=>
b1 u fun v=>
J (I (.af 1 (.c e)) c) fun w=>
J (I (.ag (.c w)) c) fun x=>
b1 x fun y=>
al (v==y) (
J (I (.af 2 (.c d)) c) fun z=>
J (I (.ag (.c z)) c) fun bQ=>
b1 bQ fun bZ=>
J (I (.af 2 (.c e)) c) fun ac=>
J (I (.ag (.c ac)) c) fun b2=>
b1 b2 fun b9=>
al (bZ==b9) (
J (I (.af 3 (.c d)) c) fun cn=>
J (I (.ag (.c cn)) c) fun cr=>
bG cr fun cB=>
J (I (.af 3 (.c e)) c) fun cL=>
J (I (.ag (.c cL)) c) fun cM=>
bG cM fun cO=>
al (cB==cO) (
J (I (.af 4 (.c d)) c) fun am=>
J (I (.ag (.c am)) c) fun cV=>
J (I (.af 4 (.c e)) c) fun ap=>
J (I (.ag (.c ap)) c) fun c3=>
ad (Hu j cV c3 c) fun c8 f=>
bG c8 fun c9=>
al c9 (
J (I (.af 5 (.c d)) f) fun dc=>
J (I (.ag (.c dc)) f) fun c4=>
J (I (.af 5 (.c e)) f) fun dD=>
J (I (.ag (.c dD)) f) fun dk=>
ad (Hw j c4 dk f) fun dP g=>
bG dP fun d_=>
al d_ (
J (I (.af 8 (.c d)) g) fun dV=>
J (I (.ag (.c dV)) g) fun ey=>
J (I (.af 8 (.c e)) g) fun eX=>
J (I (.ag (.c eX)) g) fun be=>
ad (rJ j (xf j) ey be (.fn 46 []) g) fun e5 i=>
bG e5 fun ec=>
al ec (
J (I (.af 6 (.c d)) i) fun bi=>
J (I (.ag (.c bi)) i) fun fE=>
J (I (.af 6 (.c e)) i) fun fG=>
J (I (.ag (.c fG)) i) fun fk=>
ad (Hy j (xf j) fE fk (.fn 48 []) i) fun eD o=>
bG eD fun gL=>
al gL (
J (I (.af 7 (.c d)) o) fun hh=>
J (I (.ag (.c hh)) o) fun hZ=>
J (I (.af 7 (.c e)) o) fun hJ=>
J (I (.ag (.c hJ)) o) fun fu=>
ad (HB j (xf j) hZ fu (.fn 50 []) o) fun iB k=>
bG iB fun iC=>
al iC (
J (I (.af 9 (.c d)) k) fun bv=>
J (I (.bp 8 (.c bv)) k) fun iM=>
aN sb iM fun iZ iD eB gE ky gf ce k0=>
J (I (.af 9 (.c e)) k) fun lU=>
J (I (.bp 8 (.c lU)) k) fun ci=>
aN sb ci fun lV mM c7 mN mO mP mQ mR=>
ad (HM j iZ iD eB gE ky gf ce k0 lV mM c7 mN mO mP mQ mR k) fun cs nU=>
bG cs fun ph=>
some ((.bool ph),nU)) (
some ((.bool false),k))) (
some ((.bool false),o))) (
some ((.bool false),i))) (
some ((.bool false),g))) (
some ((.bool false),f))) (
some ((.bool false),c))) (
some ((.bool false),c))) (
some ((.bool false),c))) (
some ((.bool false),c))
def z5(j:Nat):Lv→Lo→OvL:=cv [aD,aD] (uW j)
theorem HO(j:Nat):cq Tryz.prog 10 (z5 j):=cG alz (p1 j) [] [] [aD,aD] _ Tryz.func10 (by kernel_rfl) (by kernel_rfl) (by kernel_rfl) (fun _ _ _=>by kernel_rfl)
open fq
theorem z6(a b:Int):decide (mb a b>8)=(decide (a>8)||decide (b>8)):=by
 unfold mb
 by_cases h:b>a
 ·rw[if_pos h]
  by_cases R:b>8
  ·rw[decide_eq_true R,Bool.or_true]
  ·rw[decide_eq_false R,decide_eq_false (by omega)];rfl
 ·rw[if_neg h]
  by_cases R:a>8
  ·rw[decide_eq_true R,Bool.true_or]
  ·rw[decide_eq_false R,decide_eq_false (by omega)];rfl
theorem tr(n:Nat)(k:Nat):decide ((n:Int)>(k:Int))=decide (k<n):=by
 by_cases h:k<n
 ·rw[decide_eq_true h,decide_eq_true (by omega)]
 ·rw[decide_eq_false h,decide_eq_false (by omega)]
theorem alA(j:Nat){av:Nat→Prop}{h:Lo}{xO:V}{rows:List (List X)}(L:aC 1 (cl 8 bL) av h xO rows)(ax:rows.length≤1000000000):∀(m k f:Nat) (gw:Int),rows.length=k+m→m<f→
  ∃aK:Int,xc j f gw xO rows.length k h=some (.exit 0,[.int .i64 aK],h)∧decide (aK>8)=(decide (gw>8)||(rows.drop k).any fun r=>decide (8<r.length)):=by
 intro m
 induction m with
 |zero=>
  intro k f gw aH aS
  obtain⟨f,rfl⟩:∃g,f=g+1:=⟨f-1,by omega⟩
  have bj:decide ((k:Int)<(rows.length:Int))=false:=decide_eq_false (by omega)
  simp only[xc,Hp,bj,a7]
  exact⟨gw,rfl,by rw[List.drop_of_length_le (by omega)];simp⟩
 |succ m ba=>
  intro k f gw aH aS
  obtain⟨f,rfl⟩:∃g,f=g+1:=⟨f-1,by omega⟩
  have bN:k<rows.length:=by omega
  have bj:decide ((k:Int)<(rows.length:Int))=true:=decide_eq_true (by omega)
  have hw:IntKind.i64.wrap ((k:Int)+1)=((k+1:Nat):Int):=by rw[wrap_i64 (by omega) (by omega)];simp
  obtain⟨es,s,hle,-,he⟩:=L
  obtain⟨e,aV,t⟩:=he k bN
  have alB:I (.cm (.c e)) h=some (.int .i64 (rows[k].length:Int)):=aC.len t
  obtain⟨a,b5,cI⟩:=s.hX (k:=(k:Int)) (e:=e) (by omega) (by simpa using aV) (aC.a8 t).1
  simp only[xc,Hp,bj,aU,b5,cI,aO,alB,a1,hw]
  obtain⟨aK,fD,bf⟩:=ba (k+1) f (if(rows[k].length:Int)>gw then(rows[k].length:Int) else gw) (by omega) (by omega)
  refine⟨aK,fD, ?_⟩
  rw[bf,List.drop_eq_getElem_cons bN,List.any_cons]
  have:=z6 gw (rows[k].length:Int)
  unfold mb at this
  rw[this,show((8:Int))=((8:Nat):Int) from rfl,tr,Bool.or_assoc]
theorem Vt{j:Nat}{av:Nat→Prop}{h:Lo}{v:V}{m:ea}(t:hl.aK av h v m)(bc:m.rows.length≤1000000000)(aS:m.rows.length<j):aj (C8 j v h) fun b aa=>b= .bool (qb m)∧ai h aa []:=by
 obtain⟨bF,bD,b8,cu,cK,a,b,c,d,e,rfl,de,cD,dd,dh,dZ,t1,t2,t3,t4,t5⟩:=t
 simp only[C8]
 refine aj.ad (fO (cs:=fb m.k m.name m.on m.un bF bD b8 cu cK m.q.ch m.q.star a b c d e m.q.b7) (jk (aC.a8 de).2 (aC.a8 cD).2 (aC.a8 dd).2 (aC.a8 dh).2 (aC.a8 dZ).2 (aC.a8 t1).2 (aC.a8 t2).2 (aC.a8 t3).2 (aC.a8 t4).2 (aC.a8 t5).2)) ?_
 rintro s1 R ⟨rfl,eo,ar⟩
 have q8:I (.bp 8 (.c (.ptr h.length 0 (0+9)))) R=some (.agg (e2 m.q.ch m.q.star a b c d e m.q.b7)):=iE eo (o:=0+9) (n:=8) (by simp) (by decide)
 simp only[eo.af,q8,aO,bP,aN,aZ,bn,bl,id_eq,bq,a1,a0,a5]
 refine qZ (n:=8) (fU:=e2 false false .ab .ab .ab .ab .ab 0) (aM:=e2 m.q.ch m.q.star a b c d e m.q.b7) rfl rfl rfl (by decide) (qc (aC.a8 t1).2 (aC.a8 t2).2 (aC.a8 t3).2 (aC.a8 t4).2 (aC.a8 t5).2) fun ae hY aA=> ?_
 have dW:=ar.bs aA
 have s2:=eo.aq aA
 have aV:=aC.len (aC.aq de dW)
 have bb:=aC.len (aC.aq cD dW)
 have Vu:=aC.aq dd dW
 have cb:=aC.len Vu
 have dI:=aC.len (aC.aq dh dW)
 have fQ:=aC.len (aC.aq t1 dW)
 have gS:=aC.len (aC.aq t2 dW)
 have hz:=aC.len (aC.aq t4 dW)
 have wQ:=aC.len (aC.aq t5 dW)
 obtain⟨aK,alC,Ba⟩:=alA j Vu (by omega) m.rows.length 0 j (mb (mb (mb (mb (mb (m.hk.length:Int) (m.keys.length:Int)) (m.ft.length:Int)) (m.q.items.length:Int)) (m.q.fh.length:Int)) (m.q.eV.length:Int)) (by omega) (by omega)
 have alD:xc j j (mb (mb (mb (mb (mb (m.hk.length:Int) (m.keys.length:Int)) (m.ft.length:Int)) (m.q.items.length:Int)) (m.q.fh.length:Int)) (m.q.eV.length:Int)) b8 m.rows.length 0 ae=some (.exit 0,[.int .i64 aK],ae):=alC
 simp only[s2.af,hY.af,s2.ag (o:=0+4) (c:=bF) rfl,s2.ag (o:=0+5) (c:=bD) rfl,s2.ag (o:=0+6) (c:=b8) rfl,s2.ag (o:=0+7) (c:=cu) rfl,hY.ag (o:=0+2) (c:=a) rfl,hY.ag (o:=0+3) (c:=b) rfl,hY.ag (o:=0+5) (c:=d) rfl,hY.ag (o:=0+6) (c:=e) rfl,aO,aV,bb,cb,dI,fQ,gS,hz,wQ,a1,alD,gY,decide_true,aU,aN,aZ,bn,bl,id_eq,bq,a5]
 have mv:∀n:Nat,decide ((n:Int)>8)=decide (8<n):=fun n=>tr n 8
 have alE:decide ((m.rows.length:Int)>10)=decide (10<m.rows.length):=tr _ 10
 have cU:decide ((m.q.eH.length:Int)>3)=decide (3<m.q.eH.length):=tr _ 3
 rw[List.drop_zero,z6,z6,z6,z6,z6,mv,mv,mv,mv,mv,mv] at Ba
 have alF:qb m=(decide (aK>8)||decide (10<m.rows.length)||decide (3<m.q.eH.length)):=by rw[Ba];rfl
 rw[alF,alE,cU]
 cases decide (aK>8) with
 |true=>exact aj.some ⟨rfl,dW⟩
 |false=>
  cases decide (10<m.rows.length) with
  |true=>exact aj.some ⟨rfl,dW⟩
  |false=>exact aj.some ⟨rfl,dW⟩
end
end Go.Proofs.YtjpjeilfmjdhcaaGreat.f_
