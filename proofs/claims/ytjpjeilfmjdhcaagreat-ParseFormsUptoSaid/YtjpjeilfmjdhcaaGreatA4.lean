/- Functions of the program as Lean functions, and that each call comes to what its function says. Printed by my own tool. No condition. -/
import Derived.Test.YtjpjeilfmjdhcaaGreatProg
import Derived.Test.YtjpjeilfmjdhcaaGreatA3
set_option maxRecDepth 100000
set_option linter.unusedVariables false
set_option linter.unusedSimpArgs false
set_option linter.unnecessarySimpa false
namespace Go.Proofs.YtjpjeilfmjdhcaaGreat.ep
open Go E E.K
noncomputable section
def abf:=cE [(a3,[0,1,5,7,11,12,14,15]),(a4,[4,9,10,16,17]),(aP,[6,8,13])]
def sT(j:Nat):cd Tryz.prog:= .ao
def Ln(j:Nat)(s:Lu)(BL:Lu)(h:Lo):OvL:=
al (decide (((s).length:Int)≥((BL).length:Int))) (
J (I (.kU (.c (.str s)) none (some (.c (.int .i64 ((BL).length:Int))))) h) fun a=>
b1 a fun b=>
some ((.bool (b==BL)),h)) (
some ((.bool false),h))
def abg(j:Nat):Lv→Lo→OvL:=cv [a3,a3] (Ln j)
theorem abh(j:Nat):cq Tryz.prog 83 (abg j):=cG abf (sT j) [] [] [a3,a3] _ Tryz.func83 (by kernel_rfl) (by kernel_rfl) (by kernel_rfl) (fun _ _ _=>by kernel_rfl)
def abi:=cE [(a3,[0,1,5,6]),(a4,[4,7])]
def rF(j:Nat):cd Tryz.prog:= .c .ao (abh j)
def wa(j:Nat)(s:Lu)(BL:Lu)(h:Lo):OvL:=
ad (Ln j s BL h) fun a b=>
bG a fun c=>
some ((.bool c),b)
def abj(j:Nat):Lv→Lo→OvL:=cv [a3,a3] (wa j)
theorem Lp(j:Nat):cq Tryz.prog 56 (abj j):=cG abi (rF j) [] [] [a3,a3] _ Tryz.func56 (by kernel_rfl) (by kernel_rfl) (by kernel_rfl) (fun _ _ _=>by kernel_rfl)
def abk:=cE [(.int .i32,[0,3,6,10,13,18,21,26]),(a4,[2,4,5,7,8,9,11,12,14,15,16,17,19,20,22,23,24,25,27,28])]
def abl(j:Nat):cd Tryz.prog:= .ao
def yk(j:Nat)(r:Int)(h:Lo):OvL:=
al (decide (r≥(97))) (
al (decide (r≤(122))) (
some ((.bool true),h)) (
al (decide (r≥(65))) (
al (decide (r≤(90))) (
some ((.bool true),h)) (
al (decide (r≥(945))) (
al (decide (r≤(969))) (
some ((.bool true),h)) (
some ((.bool (r==(95))),h))) (
some ((.bool (r==(95))),h)))) (
al (decide (r≥(945))) (
al (decide (r≤(969))) (
some ((.bool true),h)) (
some ((.bool (r==(95))),h))) (
some ((.bool (r==(95))),h))))) (
al (decide (r≥(65))) (
al (decide (r≤(90))) (
some ((.bool true),h)) (
al (decide (r≥(945))) (
al (decide (r≤(969))) (
some ((.bool true),h)) (
some ((.bool (r==(95))),h))) (
some ((.bool (r==(95))),h)))) (
al (decide (r≥(945))) (
al (decide (r≤(969))) (
some ((.bool true),h)) (
some ((.bool (r==(95))),h))) (
some ((.bool (r==(95))),h))))
def abm(j:Nat):Lv→Lo→OvL:=cv [.int .i32] (yk j)
theorem Lq(j:Nat):cq Tryz.prog 85 (abm j):=cG abk (abl j) [] [] [.int .i32] _ Tryz.func85 (by kernel_rfl) (by kernel_rfl) (by kernel_rfl) (fun _ _=>by kernel_rfl)
def abn:=cE [(.int .i32,[0,3,6]),(a4,[2,4,5,7,8])]
def abo(j:Nat):cd Tryz.prog:= .ao
def wb(j:Nat)(r:Int)(h:Lo):OvL:=
al (decide (r≥(48))) (
some ((.bool (decide (r≤(57)))),h)) (
some ((.bool false),h))
def abp(j:Nat):Lv→Lo→OvL:=cv [.int .i32] (wb j)
theorem ES(j:Nat):cq Tryz.prog 88 (abp j):=cG abn (abo j) [] [] [.int .i32] _ Tryz.func88 (by kernel_rfl) (by kernel_rfl) (by kernel_rfl) (fun _ _=>by kernel_rfl)
def Rj:=cE [(a3,[0,6]),(a4,[2,9,12,13,14,16,17,19,20,21,22,26,27,29,30]),(aP,[3,15,23,24,25,28]),(.int .i32,[5,10,11,18])]
def Rk(j:Nat):cd Tryz.prog:= .c (.c .ao (Lq j)) (ES j)
def yl(j:Nat)(self:Int→V→Lo→a9)(lT:Int)(fX:V)(h:Lo):a9:=
ad (aB (.og (.c fX)) h) fun c a=>
J (I (.ext 0 (.c c)) a) fun f=>
bG f fun g=>
al g (
J (I (.ext 2 (.c c)) a) fun i=>
bt .i32 i fun d=>
ad (yk j d a) fun o b=>
bG o fun k=>
al (!k) (
al (lT==(0)) (
some (.ret,[.bool false],b)) (
ad (wb j d b) fun l e=>
bG l fun m=>
al (!m) (
some (.ret,[.bool false],e)) (
self (IntKind.i64.wrap (lT+(1))) fX e))) (
self (IntKind.i64.wrap (lT+(1))) fX b)) (
some ((.exit 0),[.int .i64 lT],a))
def rG(j:Nat):Nat→Int→V→Lo→a9
 |0=>fun _ _ _=>none
 |n+1=>yl j (rG j n)
def abq(j:Nat):cz Tryz.prog:= .loop Rj (Rk j) [] (cT Tryz.prog Tryz.f68 [1,1,0,1,0,0] []) [aP,aD] [3,7] [((.exit 0),[3],[aP]),(.ret,[2],[a4])] (yl j) (rG j) (fun _ _ _=>rfl) (fun _=>rfl) (fun _ _ _ _=>by kernel_rfl) j
def wc(j:Nat)(s:Lu)(h:Lo):OvL:=
ad (aB (.o1 (.c (.str s))) h) fun e f=>
bO (rG j j (0) e f) fun b c a=>
al (decide (b=(.exit 0))) (
aZ [aP] c fun d=>
al (decide (d>(0))) (
some ((.bool (decide (d≤(16)))),a)) (
some ((.bool false),a))) (
al (decide (b= .ret)) (
aZ [a4] c fun g=>
some ((.bool g),a)) (
none))
def abr(j:Nat):Lv→Lo→OvL:=cv [a3] (wc j)
theorem Rl(j:Nat):cq Tryz.prog 68 (abr j):=cG Rj (Rk j) [abq j] [([1,1,0,1,0],0)] [a3] _ Tryz.func68 (by kernel_rfl) (by kernel_rfl) (by kernel_rfl) (fun _ _=>by kernel_rfl)
def abt:=cE [(.agg [aP,a3,aP],[1,11]),(a4,[2,16,17,18,22,28]),(aP,[27])]
def abu(j:Nat):cd Tryz.prog:= .ao
def uf(j:Nat)(x:V)(w:Int)(e7:Lu)(ib:Int)(ok:Bool)(h:Lo):OvL:=
ad (aB (.box false (.c (.agg [.int .i64 w, .str e7, .int .i64 ib]))) h) fun i a=>
al (!ok) (
J (I (.bz (.c x)) a) fun o=>
J (I (.af 2 (.c o)) a) fun k=>
ad (aB (.store 1 (.c k) (.c (.int .i64 (3)))) a) fun f b=>
some ((.bW []),b)) (
J (I (.bz (.c x)) a) fun l=>
J (I (.af 1 (.c l)) a) fun m=>
J (I (.ag (.c m)) a) fun n=>
J (I (.cm (.c n)) a) fun p=>
bt .i64 p fun q=>
al (q==(600)) (
J (I (.bz (.c x)) a) fun r=>
J (I (.af 2 (.c r)) a) fun s=>
ad (aB (.store 1 (.c s) (.c (.int .i64 (5)))) a) fun f b=>
some ((.bW []),b)) (
J (I (.bz (.c x)) a) fun c=>
J (I (.af 1 (.c c)) a) fun d=>
J (I (.ag (.c d)) a) fun g=>
J (I (.bp 3 (.c i)) a) fun t=>
aN (.agg [aP,a3,aP]) t fun u v y=>
ad (aB (.dN 3 (.agg [.int .i64 0,(.str []), .int .i64 0]) 1 [(0,(.c (.agg [.int .i64 u, .str v, .int .i64 y])))]) a) fun z b=>
bk (I (.ag (.c d)) b=some g) (
bk (I (.af 1 (.c c)) b=some d) (
bk (I (.bz (.c x)) b=some c) (
ad (aB (.app 3 32 (.c g) (.c z)) b) fun bQ e=>
J (I (.bz (.c x)) e) fun bZ=>
J (I (.af 1 (.c bZ)) e) fun ac=>
ad (aB (.store 1 (.c ac) (.c bQ)) e) fun f b2=>
some ((.bW []),b2))))))
def abv(j:Nat):Lv→Lo→OvL:=cv [aD, .agg [aP,a3,aP],a4] (uf j)
theorem Rm(j:Nat):cq Tryz.prog 87 (abv j):=cG abt (abu j) [] [] [aD, .agg [aP,a3,aP],a4] _ Tryz.func87 (by kernel_rfl) (by kernel_rfl) (by kernel_rfl) (fun _ _ _ _ _ _=>by kernel_rfl)
def Rn:=cE [(a3,[1,8,15,24,29,35,37,40,50]),(aP,[4,6,7,9,11,12,18,21,22,25,30,36,41,45,46,51]),(a4,[10,19,23,27,34,38]),(.agg [aP,a3,aP],[16]),(.int .u8,[26,31,42])]
def Ro(j:Nat):cd Tryz.prog:= .c (.c .ao (Lp j)) (Rm j)
def BM(j:Nat)(self:V→Lu→V→Int→Lo→a9)(x:V)(s:Lu)(b:V)(i:Int)(h:Lo):a9:=
al (decide (i<((s).length:Int))) (
J (I (.mC (.c (.str s)) (.c (.int .i64 i))) h) fun f=>
bt .u8 f fun g=>
al (g !=(39)) (
J (I (.mC (.c (.str s)) (.c (.int .i64 i))) h) fun d=>
bt .u8 d fun o=>
ad (aB (.dN 1 (.int .u8 0) 1 [(0,(.c (.int .u8 o)))]) h) fun k a=>
ad (aB (.app 1 1 (.c b) (.c k)) a) fun l c=>
self x s l (IntKind.i64.wrap (i+(1))) c) (
J (I (.kU (.c (.str s)) (some (.c (.int .i64 i))) none) h) fun d=>
b1 d fun m=>
ad (wa j m [39,39] h) fun n a=>
bG n fun p=>
al p (
J (I (.mC (.c (.str s)) (.c (.int .i64 i))) a) fun e=>
bt .u8 e fun q=>
ad (aB (.dN 1 (.int .u8 0) 1 [(0,(.c (.int .u8 q)))]) a) fun r c=>
ad (aB (.app 1 1 (.c b) (.c r)) c) fun t u=>
self x s t (IntKind.i64.wrap ((IntKind.i64.wrap (i+(1)))+(1))) u) (
J (I (.toStr (.c b)) a) fun e=>
b1 e fun v=>
J (I (.build [.int .i64 0,(.str []), .int .i64 0] [(0,(1,(.c (.int .i64 (3))))),(1,(1,(.c (.str v))))]) a) fun w=>
aN (.agg [aP,a3,aP]) w fun y z bQ=>
J (I (.cm (.c b)) a) fun bZ=>
bt .i64 bZ fun ac=>
ad (uf j x y z bQ (decide (ac≤(100))) a) fun b2 c=>
some (.ret,[(.int .i64 (IntKind.i64.wrap (i+(1))))],c)))) (
some ((.exit 0),[],h))
def we(j:Nat):Nat→V→Lu→V→Int→Lo→a9
 |0=>fun _ _ _ _ _=>none
 |n+1=>BM j (we j n)
def abw(j:Nat):cz Tryz.prog:= .loop Rn (Ro j) [] (cT Tryz.prog Tryz.f84 [1,1,0,1,0,0] []) [aD,a3,aD,aP] [0,1,5,6] [((.exit 0),[],[]),(.ret,[4],[aP])] (BM j) (we j) (fun _ _ _ _ _=>rfl) (fun _=>rfl) (fun _ _ _ _ _ _=>by kernel_rfl) j
def ET(j:Nat)(x:V)(s:Lu)(h:Lo):OvL:=
bO (we j j x s V.ab (1) h) fun b c a=>
al (decide (b=(.exit 0))) (
dT c (
J (I (.bz (.c x)) a) fun d=>
J (I (.af 2 (.c d)) a) fun e=>
ad (aB (.store 1 (.c e) (.c (.int .i64 (3)))) a) fun i f=>
some ((.int .i64 ((s).length:Int)),f))) (
al (decide (b= .ret)) (
aZ [aP] c fun g=>
some ((.int .i64 g),a)) (
none))
def abx(j:Nat):Lv→Lo→OvL:=cv [aD,a3] (ET j)
theorem aby(j:Nat):cq Tryz.prog 84 (abx j):=cG Rn (Ro j) [abw j] [([1,1,0,1,0],0)] [aD,a3] _ Tryz.func84 (by kernel_rfl) (by kernel_rfl) (by kernel_rfl) (fun _ _ _=>by kernel_rfl)
def Rp:=cE [(a3,[0,5,20]),(aP,[2,3,9,19,21]),(.int .i32,[4,10,11,15]),(a4,[8,12,13,14,16,17,18])]
def Rq(j:Nat):cd Tryz.prog:= .c (.c .ao (Lq j)) (ES j)
def BN(j:Nat)(self:V→Lo→a9)(j4:V)(h:Lo):a9:=
ad (aB (.og (.c j4)) h) fun b a=>
J (I (.ext 0 (.c b)) a) fun f=>
bG f fun g=>
al g (
J (I (.ext 1 (.c b)) a) fun i=>
bt .i64 i fun o=>
J (I (.ext 2 (.c b)) a) fun k=>
bt .i32 k fun c=>
ad (yk j c a) fun l d=>
bG l fun m=>
al (!m) (
ad (wb j c d) fun n e=>
bG n fun p=>
al (!p) (
some (.ret,[.int .i64 o],e)) (
self j4 e)) (
self j4 d)) (
some ((.exit 0),[],a))
def ug(j:Nat):Nat→V→Lo→a9
 |0=>fun _ _=>none
 |n+1=>BN j (ug j n)
def abz(j:Nat):cz Tryz.prog:= .loop Rp (Rq j) [] (cT Tryz.prog Tryz.f86 [1,0,1,0,0] []) [aD] [6] [((.exit 0),[],[]),(.ret,[2],[aP])] (BN j) (ug j) (fun _ _=>rfl) (fun _=>rfl) (fun _ _ _=>by kernel_rfl) j
def BO(j:Nat)(s:Lu)(h:Lo):OvL:=
ad (aB (.o1 (.c (.str s))) h) fun d e=>
bO (ug j j d e) fun a b c=>
al (decide (a=(.exit 0))) (
dT b (
some ((.int .i64 ((s).length:Int)),c))) (
al (decide (a= .ret)) (
aZ [aP] b fun f=>
some ((.int .i64 f),c)) (
none))
def abA(j:Nat):Lv→Lo→OvL:=cv [a3] (BO j)
theorem abB(j:Nat):cq Tryz.prog 86 (abA j):=cG Rp (Rq j) [abz j] [([1,0,1,0],0)] [a3] _ Tryz.func86 (by kernel_rfl) (by kernel_rfl) (by kernel_rfl) (fun _ _=>by kernel_rfl)
def Rr:=cE [(a3,[0,7,30,33]),(aP,[2,26]),(a4,[3,10,13,14,15,17,18,28,29,31,32,35,36,37]),(.int .u64,[4,16,19,20,23,24,25,27]),(.int .i32,[6,11,12,21,22]),(.int .u8,[34])]
def BP(j:Nat):cd Tryz.prog:= .c .ao (ES j)
def BQ(j:Nat)(self:Int→V→Lo→a9)(lT:Int)(fR:V)(h:Lo):a9:=
ad (aB (.og (.c fR)) h) fun c a=>
J (I (.ext 0 (.c c)) a) fun e=>
bG e fun f=>
al f (
J (I (.ext 2 (.c c)) a) fun g=>
bt .i32 g fun d=>
ad (wb j d a) fun i b=>
bG i fun o=>
al (!o) (
some (.ret,[(.int .i64 (0)), .bool false],b)) (
al (decide (lT>(922337203685477580))) (
some (.ret,[(.int .i64 (0)), .bool false],b)) (
self (IntKind.u64.wrap ((IntKind.u64.wrap ((10)*lT))+(IntKind.u64.wrap (IntKind.i32.wrap (d-(48)))))) fR b))) (
some ((.exit 0),[.int .u64 lT],a))
def wg(j:Nat):Nat→Int→V→Lo→a9
 |0=>fun _ _ _=>none
 |n+1=>BQ j (wg j n)
def abC(j:Nat):cz Tryz.prog:= .loop Rr (BP j) [] (cT Tryz.prog Tryz.f89 [1,1,0,1,0,0] []) [.int .u64,aD] [4,8] [((.exit 0),[4],[.int .u64]),(.ret,[2,3],[aP,a4])] (BQ j) (wg j) (fun _ _ _=>rfl) (fun _=>rfl) (fun _ _ _ _=>by kernel_rfl) j
def EU(j:Nat)(s:Lu)(h:Lo):OvL:=
ad (aB (.o1 (.c (.str s))) h) fun e f=>
bO (wg j j (0) e f) fun c d a=>
al (decide (c=(.exit 0))) (
aZ [.int .u64] d fun b=>
al (decide (b≤(9223372036854775807))) (
al (s==[48]) (
some ((.bW [(.int .i64 (IntKind.i64.wrap b)), .bool true]),a)) (
J (I (.mC (.c (.str s)) (.c (.int .i64 (0)))) a) fun g=>
bt .u8 g fun i=>
some ((.bW [(.int .i64 (IntKind.i64.wrap b)),(.bool (i !=(48)))]),a))) (
some ((.bW [(.int .i64 (IntKind.i64.wrap b)), .bool false]),a))) (
al (decide (c= .ret)) (
aZ [aP,a4] d fun o k=>
some ((.bW [.int .i64 o, .bool k]),a)) (
none))
def abD(j:Nat):Lv→Lo→OvL:=cv [a3] (EU j)
theorem abE(j:Nat):cq Tryz.prog 89 (abD j):=cG Rr (BP j) [abC j] [([1,1,0,1,0],0)] [a3] _ Tryz.func89 (by kernel_rfl) (by kernel_rfl) (by kernel_rfl) (fun _ _=>by kernel_rfl)
def Rs:=cE [(aP,[4,5,7,8,10,13,17,18]),(a4,[9,16]),(a3,[15])]
def Rt(j:Nat)(ay:bK)(b3:dC Tryz.prog ay):cd Tryz.prog:= .v .ao b3
def sU(j:Nat)(ay:bK)(self:V→V→Int→Int→Lo→a9)(s:V)(f:V)(fX:Int)(fR:Int)(h:Lo):a9:=
al (decide (fR<fX)) (
J (I (.cH 1 (.c s) (.c (.int .i64 fR))) h) fun b=>
J (I (.ag (.c b)) h) fun c=>
b1 c fun d=>
ad (ay f [.str d] h) fun e a=>
bG e fun g=>
al g (
some (.ret,[.int .i64 fR],a)) (
self s f fX (IntKind.i64.wrap (fR+(1))) a)) (
some ((.exit 0),[],h))
def rH(j:Nat)(ay:bK):Nat→V→V→Int→Int→Lo→a9
 |0=>fun _ _ _ _ _=>none
 |n+1=>sU j ay (rH j ay n)
def abF(j:Nat)(ay:bK)(b3:dC Tryz.prog ay):cz Tryz.prog:= .loop Rs (Rt j ay b3) [] (cT Tryz.prog Tryz.f70 [1,0,1,0,0] []) [aD,aD,aP,aP] [0,1,7,8] [((.exit 0),[],[]),(.ret,[4],[aP])] (sU j ay) (rH j ay) (fun _ _ _ _ _=>rfl) (fun _=>rfl) (fun _ _ _ _ _ _=>by kernel_rfl) j
def ym(j:Nat)(ay:bK)(s:V)(f:V)(h:Lo):OvL:=
J (I (.cm (.c s)) h) fun d=>
bt .i64 d fun e=>
bO (rH j ay j s f e (0) h) fun a b c=>
al (decide (a=(.exit 0))) (
dT b (
some ((.int .i64 (-1)),c))) (
al (decide (a= .ret)) (
aZ [aP] b fun g=>
some ((.int .i64 g),c)) (
none))
def abG(j:Nat)(ay:bK):Lv→Lo→OvL:=cv [aD,aD] (ym j ay)
theorem Ru(j:Nat)(ay:bK)(b3:dC Tryz.prog ay):cq Tryz.prog 70 (abG j ay):=cG Rs (Rt j ay b3) [abF j ay b3] [([1,0,1,0],0)] [aD,aD] _ Tryz.func70 (by kernel_rfl) (by kernel_rfl) (by kernel_rfl) (fun _ _ _=>by kernel_rfl)
def abH:=cE [(a3,[0,4,5]),(a4,[3,6])]
def EV(j:Nat):cd Tryz.prog:= .c .ao (Lp j)
def EW(j:Nat)(t:Lu)(cp:V)(h:Lo):OvL:=
J (I (.ag (.c cp)) h) fun a=>
b1 a fun b=>
ad (wa j b t h) fun c d=>
bG c fun e=>
some ((.bool e),d)
def Rv(j:Nat):Lv→Lo→OvL:=cv [a3,aD] (EW j)
theorem abI(j:Nat):cq Tryz.prog 116 (Rv j):=cG abH (EV j) [] [] [a3,aD] _ Tryz.func116 (by kernel_rfl) (by kernel_rfl) (by kernel_rfl) (fun _ _ _=>by kernel_rfl)
def abJ:=cE [(a3,[0,5]),(.int .u8,[1,6]),(aP,[4,7])]
def abK(j:Nat):cd Tryz.prog:= .ao
def Lr(j:Nat)(s:Lu)(c:Int)(h:Lo):OvL:=
J (I (.sw (.c (.str s)) (.c (.int .u8 c))) h) fun a=>
bt .i64 a fun b=>
some ((.int .i64 b),h)
def abL(j:Nat):Lv→Lo→OvL:=cv [a3, .int .u8] (Lr j)
theorem abM(j:Nat):cq Tryz.prog 127 (abL j):=cG abJ (abK j) [] [] [a3, .int .u8] _ Tryz.func127 (by kernel_rfl) (by kernel_rfl) (by kernel_rfl) (fun _ _ _=>by kernel_rfl)
def abN:=cE [(a3,[0,5]),(.int .u8,[1,6]),(aP,[4,7])]
def yn(j:Nat):cd Tryz.prog:= .c .ao (abM j)
def Ls(j:Nat)(s:Lu)(c:Int)(h:Lo):OvL:=
ad (Lr j s c h) fun a b=>
bt .i64 a fun d=>
some ((.int .i64 d),b)
def abO(j:Nat):Lv→Lo→OvL:=cv [a3, .int .u8] (Ls j)
theorem abP(j:Nat):cq Tryz.prog 117 (abO j):=cG abN (yn j) [] [] [a3, .int .u8] _ Tryz.func117 (by kernel_rfl) (by kernel_rfl) (by kernel_rfl) (fun _ _ _=>by kernel_rfl)
def pe(j:Nat):bK:=ju 116 (Rv j) (nP)
theorem Rw(j:Nat):dC Tryz.prog (pe j):=j1 (abI j) (ot)
def abQ:=cE [(a3,[0,9]),(aP,[2,3,6,7,11]),(a4,[8,12]),(.int .u8,[10])]
def yo(j:Nat):cd Tryz.prog:= .v (.c (.c .ao (Ru j (pe j) (Rw j))) (abP j)) (Rw j)
def EX(j:Nat)(s:Lu)(h:Lo):OvL:=
ad (aB (.box false (.c (.str s))) h) fun b d=>
ad (aB (.dN 1 (.str []) 3 [(0,(.c (.str [60,62]))),(1,(.c (.str [60,61]))),(2,(.c (.str [62,61])))]) d) fun e f=>
ad (ym j (pe j) e (.fn 116 [b]) f) fun g a=>
bt .i64 g fun i=>
al (decide (i≥(0))) (
some ((.int .i64 (2)),a)) (
J (I (.ag (.c b)) a) fun o=>
b1 o fun k=>
J (I (.mC (.c (.str k)) (.c (.int .i64 (0)))) a) fun l=>
bt .u8 l fun m=>
ad (Ls j [40,41,44,46,59,42,43,45,61,60,62] m a) fun n c=>
bt .i64 n fun p=>
al (decide (p≥(0))) (
some ((.int .i64 (1)),c)) (
some ((.int .i64 (0)),c)))
def abR(j:Nat):Lv→Lo→OvL:=cv [a3] (EX j)
theorem abS(j:Nat):cq Tryz.prog 90 (abR j):=cG abQ (yo j) [] [] [a3] _ Tryz.func90 (by kernel_rfl) (by kernel_rfl) (by kernel_rfl) (fun _ _=>by kernel_rfl)
def abT:=cE [(.int .i32,[1,13,19,35]),(a3,[2,16,21,24,26,28,30,37,40,42,47,49,55,58,60]),(aP,[6,7,8,9,11,17,22,25,29,33,38,41,44,48,50,54,56,59,62,65,66]),(a4,[10,12,14,18,20,31,34,36,45,52,63]),(.agg [aP,a3,aP],[27,51,61]),(.bW [aP,a4],[39,43])]
def abU(j:Nat):cd Tryz.prog:= .c (.c (.c (.c (.c (.c (.c (.c .ao (Rl j)) (aby j)) (Lq j)) (abB j)) (Rm j)) (ES j)) (abE j)) (abS j)
def EY(j:Nat)(x:V)(r:Int)(s:Lu)(h:Lo):OvL:=
al (r==(39)) (
ad (ET j x s h) fun o g=>
bt .i64 o fun p=>
some ((.int .i64 p),g)) (
ad (yk j r h) fun o g=>
bG o fun q=>
al q (
ad (BO j s g) fun k b=>
bt .i64 k fun l=>
J (I (.kU (.c (.str s)) none (some (.c (.int .i64 l)))) b) fun d=>
b1 d fun t=>
J (I (.build [.int .i64 0,(.str []), .int .i64 0] [(0,(1,(.c (.int .i64 (1))))),(1,(1,(.c (.str t))))]) b) fun e=>
aN (.agg [aP,a3,aP]) e fun u v w=>
J (I (.kU (.c (.str s)) none (some (.c (.int .i64 l)))) b) fun f=>
b1 f fun y=>
ad (wc j y b) fun m a=>
bG m fun z=>
ad (uf j x u v w z a) fun c3 c=>
some ((.int .i64 l),c)) (
ad (wb j r g) fun k b=>
bG k fun bQ=>
al bQ (
ad (BO j s b) fun d a=>
bt .i64 d fun n=>
J (I (.kU (.c (.str s)) none (some (.c (.int .i64 n)))) a) fun e=>
b1 e fun bZ=>
ad (EU j bZ a) fun f c=>
aN (.bW [aP,a4]) f fun ac b2=>
J (I (.kU (.c (.str s)) none (some (.c (.int .i64 n)))) c) fun m=>
b1 m fun b9=>
J (I (.build [.int .i64 0,(.str []), .int .i64 0] [(0,(1,(.c (.int .i64 (2))))),(1,(1,(.c (.str b9)))),(2,(1,(.c (.int .i64 ac))))]) c) fun cn=>
aN (.agg [aP,a3,aP]) cn fun cr cB cL=>
ad (uf j x cr cB cL b2 c) fun c8 cM=>
some ((.int .i64 n),cM)) (
ad (EX j s b) fun d a=>
bt .i64 d fun i=>
J (I (.kU (.c (.str s)) none (some (.c (.int .i64 i)))) a) fun e=>
b1 e fun cO=>
J (I (.build [.int .i64 0,(.str []), .int .i64 0] [(0,(1,(.c (.int .i64 (4))))),(1,(1,(.c (.str cO))))]) a) fun f=>
aN (.agg [aP,a3,aP]) f fun am cV ap=>
ad (uf j x am cV ap (decide (i>(0))) a) fun c9 c=>
some ((.int .i64 (if(1)>i then(1) else i)),c))))
def abV(j:Nat):Lv→Lo→OvL:=cv [aD, .int .i32,a3] (EY j)
theorem abW(j:Nat):cq Tryz.prog 57 (abV j):=cG abT (abU j) [] [] [aD, .int .i32,a3] _ Tryz.func57 (by kernel_rfl) (by kernel_rfl) (by kernel_rfl) (fun _ _ _ _=>by kernel_rfl)
def BR:=cE [(a3,[0,9,12,15,24,26,59,61,67,69]),(aP,[3,5,7,10,19,21,25,27,28,33,38,44,45,60,68,77,78,82,87]),(a4,[6,11,18,29,34,39,40,42,43,46,47,49,50,52,53,54,56,57,58,62,63,65,66,70,71,72,76,83]),(.int .i32,[8,20,23,41,48,51,55,64]),(.agg [a3,aD,aP],[13])]
def jM(j:Nat):cd Tryz.prog:= .c (.c .ao (Lp j)) (abW j)
def EZ(j:Nat)(s:Lu)(i:Int)(r:Int)(h:Lo):a9:=
al (r==(65533)) (
J (I (.kU (.c (.str s)) (some (.c (.int .i64 i))) none) h) fun a=>
b1 a fun b=>
ad (wa j b [239,191,189] h) fun c d=>
bG c fun e=>
some (.normal,[(.bool (!e))],d)) (
some (.normal,[.bool false],h))
def abX(j:Nat):cz Tryz.prog:= .of BR (jM j) [] (cT Tryz.prog Tryz.f13 [1,1,1,1,0,1,0,0,1,1,0,1,0,0,1,1,1,1,1,1,1,1,1,1,0] []) [a3,aP, .int .i32] [0,7,8] [(.normal,[63],[a4])] (EZ j) (fun _ _ _ _=>by kernel_rfl)
def E0(j:Nat)(r:Int)(h:Lo):a9:=
al (r==(32)) (
some (.normal,[.bool true],h)) (
al (r==(9)) (
some (.normal,[.bool true],h)) (
some (.normal,[(.bool (r==(10)))],h)))
def abY(j:Nat):cz Tryz.prog:= .of BR (jM j) [] (cT Tryz.prog Tryz.f13 [1,1,1,1,0,1,0,0,1,1,0,1,0,0,1,1,1,1,1,1,0] []) [.int .i32] [8] [(.normal,[47],[a4])] (E0 j) (fun _ _=>by kernel_rfl)
def yp(j:Nat)(s:Lu)(x:V)(behind:Int)(note:Bool)(i:Int)(r:Int)(h:Lo):a9:=
J (I (.bz (.c x)) h) fun f=>
J (I (.af 2 (.c f)) h) fun g=>
J (I (.ag (.c g)) h) fun o=>
bt .i64 o fun k=>
al (k !=(0)) (
J (I (.bz (.c x)) h) fun l=>
J (I (.af 2 (.c l)) h) fun m=>
J (I (.ag (.c m)) h) fun b=>
bt .i64 b fun n=>
some (.ret,[V.ab, .int .i64 n],h)) (
al note (
some (.normal,[.int .i64 behind,(.bool (r !=(10)))],h)) (
al (decide (i<behind)) (
some (.normal,[.int .i64 behind, .bool note],h)) (
bO (E0 j r h) fun p q c=>
al (decide (p= .normal)) (
aZ [a4] q fun t=>
al t (
some (.normal,[.int .i64 behind, .bool note],c)) (
J (I (.kU (.c (.str s)) (some (.c (.int .i64 i))) none) c) fun b=>
b1 b fun u=>
ad (wa j u [45,45] c) fun v e=>
bG v fun w=>
al w (
some (.normal,[.int .i64 behind, .bool true],e)) (
bO (EZ j s i r e) fun y z a=>
al (decide (y= .normal)) (
aZ [a4] z fun bQ=>
al bQ (
J (I (.bz (.c x)) a) fun bZ=>
J (I (.af 2 (.c bZ)) a) fun ac=>
ad (aB (.store 1 (.c ac) (.c (.int .i64 (3)))) a) fun cB d=>
some (.normal,[.int .i64 behind, .bool note],d)) (
J (I (.kU (.c (.str s)) (some (.c (.int .i64 i))) none) a) fun b2=>
b1 b2 fun b9=>
ad (EY j x r b9 a) fun cn d=>
bt .i64 cn fun cr=>
some (.normal,[(.int .i64 (IntKind.i64.wrap (i+cr))), .bool note],d))) (
none)))) (
none))))
def abZ(j:Nat):cz Tryz.prog:= .of BR (jM j) [abY j,abX j] (cT Tryz.prog Tryz.f13 [1,1,1,1,0,1,0,0,1,1,0,1,0] [([0,1,1,1,1,1,1,0],0),([0,1,1,1,1,1,1,1,1,1,1,0],1)]) [a3,aD,aP,a4,aP, .int .i32] [0,4,5,6,7,8] [(.ret,[2,3],[aD,aP]),(.normal,[5,6],[aP,a4])] (yp j) (fun _ _ _ _ _ _ _=>by kernel_rfl)
def BS(j:Nat)(self:Lu→V→Int→Bool→V→Lo→a9)(s:Lu)(x:V)(behind:Int)(note:Bool)(iL:V)(h:Lo):a9:=
ad (aB (.og (.c iL)) h) fun b a=>
J (I (.ext 0 (.c b)) a) fun i=>
bG i fun o=>
al o (
J (I (.ext 1 (.c b)) a) fun k=>
bt .i64 k fun e=>
J (I (.ext 2 (.c b)) a) fun l=>
bt .i32 l fun m=>
bO (yp j s x behind note e m a) fun f g c=>
al (decide (f= .ret)) (
aZ [aD,aP] g fun n p=>
some (.ret,[n, .int .i64 p],c)) (
al (decide (f= .normal)) (
aZ [aP,a4] g fun q d=>
al d (
self s x (IntKind.i64.wrap (e+(1))) d iL c) (
self s x q d iL c)) (
none))) (
some ((.exit 0),[],a))
def wh(j:Nat):Nat→Lu→V→Int→Bool→V→Lo→a9
 |0=>fun _ _ _ _ _ _=>none
 |n+1=>BS j (wh j n)
def ab0(j:Nat):cz Tryz.prog:= .loop BR (jM j) [abZ j] (cT Tryz.prog Tryz.f13 [1,1,1,1,0,1,0,0] [([1,1,0,1,0],0)]) [a3,aD,aP,a4,aD] [0,4,5,6,16] [((.exit 0),[],[]),(.ret,[2,3],[aD,aP])] (BS j) (wh j) (fun _ _ _ _ _ _=>rfl) (fun _=>rfl) (fun _ _ _ _ _ _ _=>by kernel_rfl) j
def E1(j:Nat)(s:Lu)(h:Lo):OvL:=
al (decide (((s).length:Int)>(4000))) (
some ((.bW [V.ab,(.int .i64 (5))]),h)) (
J (I (.build [(.str []), .ab, .int .i64 0] [(0,(1,(.c (.str s))))]) h) fun e=>
aN (.agg [a3,aD,aP]) e fun f g i=>
ad (aB (.box false (.c (.agg [.str f,g, .int .i64 i]))) h) fun b o=>
ad (aB (.o1 (.c (.str s))) o) fun k l=>
bO (wh j j s b (0) false k l) fun c d a=>
al (decide (c=(.exit 0))) (
dT d (
J (I (.bz (.c b)) a) fun m=>
J (I (.af 2 (.c m)) a) fun n=>
J (I (.ag (.c n)) a) fun p=>
bt .i64 p fun q=>
al (q !=(0)) (
J (I (.bz (.c b)) a) fun r=>
J (I (.af 2 (.c r)) a) fun t=>
J (I (.ag (.c t)) a) fun u=>
bt .i64 u fun v=>
some ((.bW [V.ab, .int .i64 v]),a)) (
J (I (.bz (.c b)) a) fun w=>
J (I (.af 1 (.c w)) a) fun x=>
J (I (.ag (.c x)) a) fun y=>
some ((.bW [y,(.int .i64 (0))]),a)))) (
al (decide (c= .ret)) (
aZ [aD,aP] d fun z bQ=>
some ((.bW [z, .int .i64 bQ]),a)) (
none)))
def ab1(j:Nat):Lv→Lo→OvL:=cv [a3] (E1 j)
theorem ab2(j:Nat):cq Tryz.prog 13 (ab1 j):=cG BR (jM j) [ab0 j] [([1,1,1,1,0,1,0],0)] [a3] _ Tryz.func13 (by kernel_rfl) (by kernel_rfl) (by kernel_rfl) (fun _ _=>by kernel_rfl)
def Rx:=cE [(a3,[0,3]),(a4,[2,4,5,6,7,8,9,10,11,12,13,14,15,16,17,18,19,20,21,22,23,24,25,26,27,28,29,30,31,32,33,34,35,36,37,38,39,40,41,42,43,44])]
def BU(j:Nat):cd Tryz.prog:= .ao
def E2(j:Nat)(fB:Lu)(h:Lo):a9:=
al (fB==[67,82,69,65,84,69]) (
some (.normal,[.bool true],h)) (
al (fB==[84,65,66,76,69]) (
some (.normal,[.bool true],h)) (
al (fB==[73,78,68,69,88]) (
some (.normal,[.bool true],h)) (
al (fB==[85,78,73,81,85,69]) (
some (.normal,[.bool true],h)) (
al (fB==[77,65,84,69,82,73,65,76,73,90,69,68]) (
some (.normal,[.bool true],h)) (
al (fB==[86,73,69,87]) (
some (.normal,[.bool true],h)) (
al (fB==[68,82,79,80]) (
some (.normal,[.bool true],h)) (
al (fB==[73,78,83,69,82,84]) (
some (.normal,[.bool true],h)) (
al (fB==[73,78,84,79]) (
some (.normal,[.bool true],h)) (
al (fB==[86,65,76,85,69,83]) (
some (.normal,[.bool true],h)) (
al (fB==[85,80,68,65,84,69]) (
some (.normal,[.bool true],h)) (
al (fB==[83,69,84]) (
some (.normal,[.bool true],h)) (
al (fB==[68,69,76,69,84,69]) (
some (.normal,[.bool true],h)) (
al (fB==[70,82,79,77]) (
some (.normal,[.bool true],h)) (
al (fB==[83,69,76,69,67,84]) (
some (.normal,[.bool true],h)) (
al (fB==[68,73,83,84,73,78,67,84]) (
some (.normal,[.bool true],h)) (
al (fB==[87,72,69,82,69]) (
some (.normal,[.bool true],h)) (
al (fB==[71,82,79,85,80]) (
some (.normal,[.bool true],h)) (
al (fB==[66,89]) (
some (.normal,[.bool true],h)) (
al (fB==[79,82,68,69,82]) (
some (.normal,[.bool true],h)) (
al (fB==[65,83,67]) (
some (.normal,[.bool true],h)) (
al (fB==[68,69,83,67]) (
some (.normal,[.bool true],h)) (
al (fB==[76,73,77,73,84]) (
some (.normal,[.bool true],h)) (
al (fB==[74,79,73,78]) (
some (.normal,[.bool true],h)) (
al (fB==[79,78]) (
some (.normal,[.bool true],h)) (
al (fB==[65,83]) (
some (.normal,[.bool true],h)) (
al (fB==[65,78,68]) (
some (.normal,[.bool true],h)) (
al (fB==[79,82]) (
some (.normal,[.bool true],h)) (
al (fB==[78,79,84]) (
some (.normal,[.bool true],h)) (
al (fB==[73,83]) (
some (.normal,[.bool true],h)) (
al (fB==[78,85,76,76]) (
some (.normal,[.bool true],h)) (
al (fB==[73,78,84]) (
some (.normal,[.bool true],h)) (
al (fB==[84,69,88,84]) (
some (.normal,[.bool true],h)) (
al (fB==[66,69,71,73,78]) (
some (.normal,[.bool true],h)) (
al (fB==[67,79,77,77,73,84]) (
some (.normal,[.bool true],h)) (
al (fB==[82,79,76,76,66,65,67,75]) (
some (.normal,[.bool true],h)) (
al (fB==[67,79,85,78,84]) (
some (.normal,[.bool true],h)) (
al (fB==[83,85,77]) (
some (.normal,[.bool true],h)) (
al (fB==[77,73,78]) (
some (.normal,[.bool true],h)) (
some (.normal,[(.bool (fB==[77,65,88]))],h))))))))))))))))))))))))))))))))))))))))
def ab3(j:Nat):cz Tryz.prog:= .of Rx (BU j) [] (cT Tryz.prog Tryz.f64 [1,0,1,0,0] []) [a3] [3] [(.normal,[4],[a4])] (E2 j) (fun _ _=>by kernel_rfl)
def yq(j:Nat)(s:Lu)(h:Lo):OvL:=
bO (E2 j s h) fun b c a=>
al (decide (b= .normal)) (
aZ [a4] c fun d=>
al d (
some ((.bool true),a)) (
some ((.bool false),a))) (
none)
def ab4(j:Nat):Lv→Lo→OvL:=cv [a3] (yq j)
theorem Lt(j:Nat):cq Tryz.prog 64 (ab4 j):=cG Rx (BU j) [ab3 j] [([1,0,1,0,0],0)] [a3] _ Tryz.func64 (by kernel_rfl) (by kernel_rfl) (by kernel_rfl) (fun _ _=>by kernel_rfl)
def ab5:=cE [(a3,[0,3,6]),(a4,[2,4,5,7,8,9])]
def E3(j:Nat):cd Tryz.prog:= .c (.c .ao (Lt j)) (Rl j)
def oz(j:Nat)(s:Lu)(h:Lo):OvL:=
ad (wc j s h) fun b a=>
bG b fun c=>
al c (
ad (yq j s a) fun d e=>
bG d fun f=>
some ((.bool (!f)),e)) (
some ((.bool false),a))
def ab6(j:Nat):Lv→Lo→OvL:=cv [a3] (oz j)
theorem yr(j:Nat):cq Tryz.prog 23 (ab6 j):=cG ab5 (E3 j) [] [] [a3] _ Tryz.func23 (by kernel_rfl) (by kernel_rfl) (by kernel_rfl) (fun _ _=>by kernel_rfl)
def ab7:=cE [(.int .i32,[0,3,6,10,13,18,21,26]),(a4,[2,4,5,7,8,9,11,12,14,15,16,17,19,20,22,23,24,25,27,28])]
def ab8(j:Nat):cd Tryz.prog:= .ao
def Ry(j:Nat)(r:Int)(h:Lo):OvL:=
al (decide (r≥(97))) (
al (decide (r≤(122))) (
some ((.bool true),h)) (
al (decide (r≥(65))) (
al (decide (r≤(90))) (
some ((.bool true),h)) (
al (decide (r≥(945))) (
al (decide (r≤(969))) (
some ((.bool true),h)) (
some ((.bool (r==(95))),h))) (
some ((.bool (r==(95))),h)))) (
al (decide (r≥(945))) (
al (decide (r≤(969))) (
some ((.bool true),h)) (
some ((.bool (r==(95))),h))) (
some ((.bool (r==(95))),h))))) (
al (decide (r≥(65))) (
al (decide (r≤(90))) (
some ((.bool true),h)) (
al (decide (r≥(945))) (
al (decide (r≤(969))) (
some ((.bool true),h)) (
some ((.bool (r==(95))),h))) (
some ((.bool (r==(95))),h)))) (
al (decide (r≥(945))) (
al (decide (r≤(969))) (
some ((.bool true),h)) (
some ((.bool (r==(95))),h))) (
some ((.bool (r==(95))),h))))
def ab9(j:Nat):Lv→Lo→OvL:=cv [.int .i32] (Ry j)
theorem ab_(j:Nat):cq Tryz.prog 113 (ab9 j):=cG ab7 (ab8 j) [] [] [.int .i32] _ Tryz.func113 (by kernel_rfl) (by kernel_rfl) (by kernel_rfl) (fun _ _=>by kernel_rfl)
def aca:=cE [(.int .i32,[0,3,6]),(a4,[2,4,5,7,8])]
def acb(j:Nat):cd Tryz.prog:= .ao
def Rz(j:Nat)(r:Int)(h:Lo):OvL:=
al (decide (r≥(48))) (
some ((.bool (decide (r≤(57)))),h)) (
some ((.bool false),h))
def acd(j:Nat):Lv→Lo→OvL:=cv [.int .i32] (Rz j)
theorem ace(j:Nat):cq Tryz.prog 114 (acd j):=cG aca (acb j) [] [] [.int .i32] _ Tryz.func114 (by kernel_rfl) (by kernel_rfl) (by kernel_rfl) (fun _ _=>by kernel_rfl)
def RA:=cE [(a3,[0,6]),(a4,[2,9,12,13,14,16,17,19,20,21,22,26,27,29,30]),(aP,[3,15,23,24,25,28]),(.int .i32,[5,10,11,18])]
def uh(j:Nat):cd Tryz.prog:= .c (.c .ao (ab_ j)) (ace j)
def Lw(j:Nat)(self:Int→V→Lo→a9)(lT:Int)(fX:V)(h:Lo):a9:=
ad (aB (.og (.c fX)) h) fun c a=>
J (I (.ext 0 (.c c)) a) fun f=>
bG f fun g=>
al g (
J (I (.ext 2 (.c c)) a) fun i=>
bt .i32 i fun d=>
ad (Ry j d a) fun o b=>
bG o fun k=>
al (!k) (
al (lT==(0)) (
some (.ret,[.bool false],b)) (
ad (Rz j d b) fun l e=>
bG l fun m=>
al (!m) (
some (.ret,[.bool false],e)) (
self (IntKind.i64.wrap (lT+(1))) fX e))) (
self (IntKind.i64.wrap (lT+(1))) fX b)) (
some ((.exit 0),[.int .i64 lT],a))
def BV(j:Nat):Nat→Int→V→Lo→a9
 |0=>fun _ _ _=>none
 |n+1=>Lw j (BV j n)
def acf(j:Nat):cz Tryz.prog:= .loop RA (uh j) [] (cT Tryz.prog Tryz.f74 [1,1,0,1,0,0] []) [aP,aD] [3,7] [((.exit 0),[3],[aP]),(.ret,[2],[a4])] (Lw j) (BV j) (fun _ _ _=>rfl) (fun _=>rfl) (fun _ _ _ _=>by kernel_rfl) j
def E4(j:Nat)(s:Lu)(h:Lo):OvL:=
ad (aB (.o1 (.c (.str s))) h) fun e f=>
bO (BV j j (0) e f) fun b c a=>
al (decide (b=(.exit 0))) (
aZ [aP] c fun d=>
al (decide (d>(0))) (
some ((.bool (decide (d≤(16)))),a)) (
some ((.bool false),a))) (
al (decide (b= .ret)) (
aZ [a4] c fun g=>
some ((.bool g),a)) (
none))
def acg(j:Nat):Lv→Lo→OvL:=cv [a3] (E4 j)
theorem ach(j:Nat):cq Tryz.prog 74 (acg j):=cG RA (uh j) [acf j] [([1,1,0,1,0],0)] [a3] _ Tryz.func74 (by kernel_rfl) (by kernel_rfl) (by kernel_rfl) (fun _ _=>by kernel_rfl)
def Lx:=cE [(a3,[0,4,6,8,13,18,19,20,22,30,33,34]),(a4,[2,7,11,16,25,35]),(aP,[3,5,9,10,12,14,17,21,23,24,26,27,28,29,31,32]),(.int .u8,[15])]
def pf(j:Nat):cd Tryz.prog:= .ao
def E5(j:Nat)(self:Lu→Int→Int→Lo→a9)(s:Lu)(mI:Int)(p1:Int)(h:Lo):a9:=
al (decide (p1<mI)) (
J (I (.mC (.c (.str s)) (.c (.int .i64 p1))) h) fun a=>
bt .u8 a fun b=>
al (b==(32)) (
some (.ret,[.bool false],h)) (
self s mI (IntKind.i64.wrap (p1+(1))) h)) (
some ((.exit 0),[],h))
def ys(j:Nat):Nat→Lu→Int→Int→Lo→a9
 |0=>fun _ _ _ _=>none
 |n+1=>E5 j (ys j n)
def aci(j:Nat):cz Tryz.prog:= .loop Lx (pf j) [] (cT Tryz.prog Tryz.f75 [1,1,0,1,0,0] []) [a3,aP,aP] [0,9,10] [((.exit 0),[],[]),(.ret,[2],[a4])] (E5 j) (ys j) (fun _ _ _ _=>rfl) (fun _=>rfl) (fun _ _ _ _ _=>by kernel_rfl) j
def BW(j:Nat)(self:Lu→Int→Lo→a9)(w:Lu)(i:Int)(h:Lo):a9:=
al (decide ((IntKind.i64.wrap (i+((w).length:Int)))≤(223))) (
J (I (.kU (.c (.str [32,67,82,69,65,84,69,32,84,65,66,76,69,32,73,78,68,69,88,32,85,78,73,81,85,69,32,77,65,84,69,82,73,65,76,73,90,69,68,32,86,73,69,87,32,68,82,79,80,32,73,78,83,69,82,84,32,73,78,84,79,32,86,65,76,85,69,83,32,85,80,68,65,84,69,32,83,69,84,32,68,69,76,69,84,69,32,70,82,79,77,32,83,69,76,69,67,84,32,68,73,83,84,73,78,67,84,32,87,72,69,82,69,32,71,82,79,85,80,32,66,89,32,79,82,68,69,82,32,65,83,67,32,68,69,83,67,32,76,73,77,73,84,32,74,79,73,78,32,79,78,32,65,83,32,65,78,68,32,79,82,32,78,79,84,32,73,83,32,78,85,76,76,32,73,78,84,32,84,69,88,84,32,66,69,71,73,78,32,67,79,77,77,73,84,32,82,79,76,76,66,65,67,75,32,67,79,85,78,84,32,83,85,77,32,77,73,78,32,77,65,88,32])) (some (.c (.int .i64 i))) (some (.c (.int .i64 (IntKind.i64.wrap (i+((w).length:Int))))))) h) fun a=>
b1 a fun b=>
al (b==w) (
some (.ret,[.bool true],h)) (
self w (IntKind.i64.wrap (i+(1))) h)) (
some ((.exit 2),[],h))
def wi(j:Nat):Nat→Lu→Int→Lo→a9
 |0=>fun _ _ _=>none
 |n+1=>BW j (wi j n)
def acj(j:Nat):cz Tryz.prog:= .loop Lx (pf j) [] (cT Tryz.prog Tryz.f75 [1,1,1,1,0,1,0,0] []) [a3,aP] [4,5] [((.exit 2),[],[]),(.ret,[2],[a4])] (BW j) (wi j) (fun _ _ _=>rfl) (fun _=>rfl) (fun _ _ _ _=>by kernel_rfl) j
def E6(j:Nat)(s:Lu)(h:Lo):OvL:=
al (s==([]:Lu)) (
some ((.bool false),h)) (
bO (ys j j s ((s).length:Int) (0) h) fun c d a=>
al (decide (c=(.exit 0))) (
dT d (
J (I (.bin .add (.c (.str [32])) (.c (.str s))) a) fun i=>
b1 i fun o=>
J (I (.bin .add (.c (.str o)) (.c (.str [32]))) a) fun k=>
b1 k fun l=>
bO (wi j j l (0) a) fun e f g=>
al (decide (e=(.exit 2))) (
dT f (
some ((.bool false),g))) (
al (decide (e= .ret)) (
aZ [a4] f fun b=>
some ((.bool b),g)) (
none)))) (
al (decide (c= .ret)) (
aZ [a4] d fun b=>
some ((.bool b),a)) (
none)))
def ack(j:Nat):Lv→Lo→OvL:=cv [a3] (E6 j)
theorem acm(j:Nat):cq Tryz.prog 75 (ack j):=cG Lx (pf j) [aci j,acj j] [([1,1,0,1,0],0),([1,1,1,1,0,1,0],1)] [a3] _ Tryz.func75 (by kernel_rfl) (by kernel_rfl) (by kernel_rfl) (fun _ _=>by kernel_rfl)
def acn:=cE [(a3,[0,3,6]),(a4,[2,4,5,7,8,9])]
def aco(j:Nat):cd Tryz.prog:= .c (.c .ao (ach j)) (acm j)
def oA(j:Nat)(s:Lu)(h:Lo):OvL:=
ad (E4 j s h) fun b a=>
bG b fun c=>
al c (
ad (E6 j s a) fun d e=>
bG d fun f=>
some ((.bool (!f)),e)) (
some ((.bool false),a))
def acp(j:Nat):Lv→Lo→OvL:=cv [a3] (oA j)
theorem Ly(j:Nat):cq Tryz.prog 38 (acp j):=cG acn (aco j) [] [] [a3] _ Tryz.func38 (by kernel_rfl) (by kernel_rfl) (by kernel_rfl) (fun _ _=>by kernel_rfl)
end
end Go.Proofs.YtjpjeilfmjdhcaaGreat.ep
