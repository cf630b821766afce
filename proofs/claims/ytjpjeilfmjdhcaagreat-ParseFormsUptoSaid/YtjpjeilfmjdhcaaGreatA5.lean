/- Functions of the program as Lean functions, and that each call comes to what its function says. Printed by my own tool. No condition. -/
import Derived.Test.YtjpjeilfmjdhcaaGreatProg
import Derived.Test.YtjpjeilfmjdhcaaGreatA3
import Derived.Test.YtjpjeilfmjdhcaaGreatA4
set_option maxRecDepth 100000
set_option linter.unusedVariables false
set_option linter.unusedSimpArgs false
set_option linter.unnecessarySimpa false
namespace Go.Proofs.YtjpjeilfmjdhcaaGreat.eI
open Go E E.K ep
noncomputable section
abbrev fj:dO:= .agg [aP,a3,aP,aP,a3,a3,a3,aD]
def RB:=cE [(a4,[6,14,18,29,30]),(aP,[7,11,13,16,17,19,23,31]),(fj,[21,25,27,28])]
def sV(j:Nat)(ay:bK)(b3:dC Tryz.prog ay):cd Tryz.prog:= .v .ao b3
def yt(j:Nat)(ay:bK)(self:V→V→V→Int→Int→Lo→a9)(s2:V)(eq:V)(jN:V)(iL:Int)(iq:Int)(h:Lo):a9:=
al (decide (iq<iL)) (
J (I (.cH 8 (.c jN) (.c (.int .i64 iq))) h) fun f=>
J (I (.bp 8 (.c f)) h) fun g=>
aN fj g fun i o k l m n p q=>
ad (aB (.alloc false (.agg [.int .i64 0,(.str []), .int .i64 0, .int .i64 0,(.str []),(.str []),(.str []), .ab])) h) fun c r=>
ad (aB (.store 8 (.c c) (.c (.agg [.int .i64 i, .str o, .int .i64 k, .int .i64 l, .str m, .str n, .str p,q]))) r) fun dV a=>
J (I (.cH 8 (.c s2) (.c (.int .i64 iq))) a) fun s=>
J (I (.bp 8 (.c s)) a) fun t=>
aN fj t fun u v w x y z bQ bZ=>
ad (aB (.alloc false (.agg [.int .i64 0,(.str []), .int .i64 0, .int .i64 0,(.str []),(.str []),(.str []), .ab])) a) fun d ac=>
ad (aB (.store 8 (.c d) (.c (.agg [.int .i64 u, .str v, .int .i64 w, .int .i64 x, .str y, .str z, .str bQ,bZ]))) ac) fun ey b=>
J (I (.bp 8 (.c c)) b) fun b2=>
aN fj b2 fun b9 cn cr cB cL cM cO am=>
J (I (.bp 8 (.c d)) b) fun cV=>
aN fj cV fun ap c3 c8 c9 dc c4 dD dk=>
ad (ay eq [(.agg [.int .i64 b9, .str cn, .int .i64 cr, .int .i64 cB, .str cL, .str cM, .str cO,am]),(.agg [.int .i64 ap, .str c3, .int .i64 c8, .int .i64 c9, .str dc, .str c4, .str dD,dk])] b) fun dP e=>
bG dP fun d_=>
al (!d_) (
some (.ret,[.bool false],e)) (
self s2 eq jN iL (IntKind.i64.wrap (iq+(1))) e)) (
some ((.exit 0),[],h))
def rI(j:Nat)(ay:bK):Nat→V→V→V→Int→Int→Lo→a9
 |0=>fun _ _ _ _ _ _=>none
 |n+1=>yt j ay (rI j ay n)
def acq(j:Nat)(ay:bK)(b3:dC Tryz.prog ay):cz Tryz.prog:= .loop RB (sV j ay b3) [] (cT Tryz.prog Tryz.f45 [1,1,0,1,0,0] []) [aD,aD,aD,aP,aP] [1,2,15,16,17] [((.exit 0),[],[]),(.ret,[6],[a4])] (yt j ay) (rI j ay) (fun _ _ _ _ _ _=>rfl) (fun _=>rfl) (fun _ _ _ _ _ _ _=>by kernel_rfl) j
def rJ(j:Nat)(ay:bK)(s1:V)(s2:V)(eq:V)(h:Lo):OvL:=
J (I (.cm (.c s1)) h) fun d=>
bt .i64 d fun e=>
J (I (.cm (.c s2)) h) fun f=>
bt .i64 f fun g=>
al (e !=g) (
some ((.bool false),h)) (
J (I (.cm (.c s1)) h) fun i=>
bt .i64 i fun o=>
bO (rI j ay j s2 eq s1 o (0) h) fun a b c=>
al (decide (a=(.exit 0))) (
dT b (
some ((.bool true),c))) (
al (decide (a= .ret)) (
aZ [a4] b fun k=>
some ((.bool k),c)) (
none)))
def acr(j:Nat)(ay:bK):Lv→Lo→OvL:=cv [aD,aD,aD] (rJ j ay)
theorem E7(j:Nat)(ay:bK)(b3:dC Tryz.prog ay):cq Tryz.prog 45 (acr j ay):=cG RB (sV j ay b3) [acq j ay b3] [([1,1,0,1,0],0)] [aD,aD,aD] _ Tryz.func45 (by kernel_rfl) (by kernel_rfl) (by kernel_rfl) (fun _ _ _ _=>by kernel_rfl)
def wj(j:Nat)(rc:dy):bK:=ju 46 (rc 46) (nP)
theorem RC(j:Nat)(rc:dy)(dK:fv Tryz.prog rc):dC Tryz.prog (wj j rc):=j1 (dK 46) (ot)
def acs:=cE [(fj,[0,1]),(a4,[4,9,10,15,16,17,22,23,24,29,30,31,36,37,38,43,44]),(aP,[6,8]),(a3,[12,14,26,28,33,35]),(.agg [aP,aP,a3],[19,21])]
def mJ(j:Nat)(rc:dy)(dK:fv Tryz.prog rc):cd Tryz.prog:= .v (.c (.r .ao dK) (E7 j (wj j rc) (RC j rc dK))) (RC j rc dK)
def rK(j:Nat)(rc:dy)(a:Int)(b5:Lu)(cI:Int)(fo:Int)(gC:Lu)(gb:Lu)(g8:Lu)(ie:V)(b:Int)(dL:Lu)(fL:Int)(j5:Int)(kH:Lu)(jw:Lu)(j6:Lu)(j7:V)(h:Lo):OvL:=
ad (aB (.box false (.c (.agg [.int .i64 a, .str b5, .int .i64 cI, .int .i64 fo, .str gC, .str gb, .str g8,ie]))) h) fun d f=>
ad (aB (.box false (.c (.agg [.int .i64 b, .str dL, .int .i64 fL, .int .i64 j5, .str kH, .str jw, .str j6,j7]))) f) fun e c=>
J (I (.af 0 (.c d)) c) fun g=>
J (I (.ag (.c g)) c) fun i=>
bt .i64 i fun o=>
J (I (.af 0 (.c e)) c) fun k=>
J (I (.ag (.c k)) c) fun l=>
bt .i64 l fun m=>
al (o==m) (
J (I (.af 1 (.c d)) c) fun n=>
J (I (.ag (.c n)) c) fun p=>
b1 p fun q=>
J (I (.af 1 (.c e)) c) fun r=>
J (I (.ag (.c r)) c) fun s=>
b1 s fun t=>
al (q==t) (
J (I (.af 2 (.c d)) c) fun u=>
J (I (.bp 3 (.c u)) c) fun v=>
aN (.agg [aP,aP,a3]) v fun w x y=>
J (I (.af 2 (.c e)) c) fun z=>
J (I (.bp 3 (.c z)) c) fun bQ=>
aN (.agg [aP,aP,a3]) bQ fun bZ ac b2=>
J (I (.eq false (.struct 3 [(0, .i),(1, .i),(2, .s)]) (.c (.agg [.int .i64 w, .int .i64 x, .str y])) (.c (.agg [.int .i64 bZ, .int .i64 ac, .str b2]))) c) fun b9=>
bG b9 fun cn=>
al cn (
J (I (.af 5 (.c d)) c) fun cr=>
J (I (.ag (.c cr)) c) fun cB=>
b1 cB fun cL=>
J (I (.af 5 (.c e)) c) fun cM=>
J (I (.ag (.c cM)) c) fun cO=>
b1 cO fun am=>
al (cL==am) (
J (I (.af 6 (.c d)) c) fun cV=>
J (I (.ag (.c cV)) c) fun ap=>
b1 ap fun c3=>
J (I (.af 6 (.c e)) c) fun c8=>
J (I (.ag (.c c8)) c) fun c9=>
b1 c9 fun dc=>
al (c3==dc) (
J (I (.af 7 (.c d)) c) fun c4=>
J (I (.ag (.c c4)) c) fun dD=>
J (I (.af 7 (.c e)) c) fun dk=>
J (I (.ag (.c dk)) c) fun dP=>
ad (rJ j (wj j rc) dD dP (.fn 46 []) c) fun d_ dV=>
bG d_ fun ey=>
some ((.bool ey),dV)) (
some ((.bool false),c))) (
some ((.bool false),c))) (
some ((.bool false),c))) (
some ((.bool false),c))) (
some ((.bool false),c))
def rL(j:Nat)(rc:dy):Lv→Lo→OvL:=cv [fj,fj] (rK j rc)
theorem sW(j:Nat)(rc:dy)(dK:fv Tryz.prog rc):cq Tryz.prog 46 (rL j rc):=cG acs (mJ j rc dK) [] [] [fj,fj] _ Tryz.func46 (by kernel_rfl) (by kernel_rfl) (by kernel_rfl) (fun _ _ _ _ _ _ _ _ _ _ _ _ _ _ _ _ _=>by kernel_rfl)
def ir(j:Nat):Nat→dy
 |0=>nh
 |n+1=>nO 46 (rL j (ir j n)) (nh)
theorem sX(j:Nat):∀n,fv Tryz.prog (ir j n)
 |0=>nQ
 |n+1=>pa (sW j (ir j n) (sX j n)) (nQ)
def RD:=cE [(aP,[4,5,7,8,10,13,17,18]),(a4,[9,16]),(fj,[15])]
def RE(j:Nat)(ay:bK)(b3:dC Tryz.prog ay):cd Tryz.prog:= .v .ao b3
def yu(j:Nat)(ay:bK)(self:V→V→Int→Int→Lo→a9)(s:V)(f:V)(fX:Int)(fR:Int)(h:Lo):a9:=
al (decide (fR<fX)) (
J (I (.cH 8 (.c s) (.c (.int .i64 fR))) h) fun b=>
J (I (.bp 8 (.c b)) h) fun c=>
aN fj c fun d e g i o k l m=>
ad (ay f [(.agg [.int .i64 d, .str e, .int .i64 g, .int .i64 i, .str o, .str k, .str l,m])] h) fun n a=>
bG n fun p=>
al p (
some (.ret,[.int .i64 fR],a)) (
self s f fX (IntKind.i64.wrap (fR+(1))) a)) (
some ((.exit 0),[],h))
def sY(j:Nat)(ay:bK):Nat→V→V→Int→Int→Lo→a9
 |0=>fun _ _ _ _ _=>none
 |n+1=>yu j ay (sY j ay n)
def acu(j:Nat)(ay:bK)(b3:dC Tryz.prog ay):cz Tryz.prog:= .loop RD (RE j ay b3) [] (cT Tryz.prog Tryz.f110 [1,0,1,0,0] []) [aD,aD,aP,aP] [0,1,7,8] [((.exit 0),[],[]),(.ret,[4],[aP])] (yu j ay) (sY j ay) (fun _ _ _ _ _=>rfl) (fun _=>rfl) (fun _ _ _ _ _ _=>by kernel_rfl) j
def E8(j:Nat)(ay:bK)(s:V)(f:V)(h:Lo):OvL:=
J (I (.cm (.c s)) h) fun d=>
bt .i64 d fun e=>
bO (sY j ay j s f e (0) h) fun a b c=>
al (decide (a=(.exit 0))) (
dT b (
some ((.int .i64 (-1)),c))) (
al (decide (a= .ret)) (
aZ [aP] b fun g=>
some ((.int .i64 g),c)) (
none))
def acv(j:Nat)(ay:bK):Lv→Lo→OvL:=cv [aD,aD] (E8 j ay)
theorem acw(j:Nat)(ay:bK)(b3:dC Tryz.prog ay):cq Tryz.prog 110 (acv j ay):=cG RD (RE j ay b3) [acu j ay b3] [([1,0,1,0],0)] [aD,aD] _ Tryz.func110 (by kernel_rfl) (by kernel_rfl) (by kernel_rfl) (fun _ _ _=>by kernel_rfl)
def acx:=cE [(a4,[4,8]),(aP,[7])]
def acy(j:Nat)(ay:bK)(b3:dC Tryz.prog ay):cd Tryz.prog:= .v (.c .ao (acw j ay b3)) b3
def yv(j:Nat)(ay:bK)(s:V)(f:V)(h:Lo):OvL:=
ad (E8 j ay s f h) fun a b=>
bt .i64 a fun c=>
some ((.bool (decide (c≥(0)))),b)
def acz(j:Nat)(ay:bK):Lv→Lo→OvL:=cv [aD,aD] (yv j ay)
theorem RF(j:Nat)(ay:bK)(b3:dC Tryz.prog ay):cq Tryz.prog 66 (acz j ay):=cG acx (acy j ay b3) [] [] [aD,aD] _ Tryz.func66 (by kernel_rfl) (by kernel_rfl) (by kernel_rfl) (fun _ _ _=>by kernel_rfl)
def acA:=cE [(.agg [aP,aP,a3],[0,7,8]),(a4,[2,5,6,9,10,11,14,15,16,19,20,24,25]),(aP,[4,18,23]),(a3,[13,22])]
def E9(j:Nat):cd Tryz.prog:= .ao
def E_(j:Nat)(v:Int)(v1:Int)(v2:Lu)(h:Lo):OvL:=
ad (aB (.box false (.c (.agg [.int .i64 v, .int .i64 v1, .str v2]))) h) fun b a=>
J (I (.af 0 (.c b)) a) fun f=>
J (I (.ag (.c f)) a) fun g=>
bt .i64 g fun d=>
al (d==(0)) (
J (I (.bp 3 (.c b)) a) fun c=>
aN (.agg [aP,aP,a3]) c fun i o k=>
J (I (.build [.int .i64 0, .int .i64 0,(.str [])] []) a) fun e=>
aN (.agg [aP,aP,a3]) e fun l m n=>
J (I (.eq false (.struct 3 [(0, .i),(1, .i),(2, .s)]) (.c (.agg [.int .i64 i, .int .i64 o, .str k])) (.c (.agg [.int .i64 l, .int .i64 m, .str n]))) a) fun p=>
bG p fun q=>
some ((.bool q),a)) (
al (d==(1)) (
J (I (.af 2 (.c b)) a) fun r=>
J (I (.ag (.c r)) a) fun c=>
b1 c fun s=>
some ((.bool (s==([]:Lu))),a)) (
al (d==(2)) (
J (I (.af 1 (.c b)) a) fun t=>
J (I (.ag (.c t)) a) fun c=>
bt .i64 c fun u=>
al (u==(0)) (
J (I (.af 2 (.c b)) a) fun w=>
J (I (.ag (.c w)) a) fun e=>
b1 e fun x=>
some ((.bool (decide (((x).length:Int)≤(100)))),a)) (
some ((.bool false),a))) (
some ((.bool false),a))))
def acB(j:Nat):Lv→Lo→OvL:=cv [.agg [aP,aP,a3]] (E_ j)
theorem acC(j:Nat):cq Tryz.prog 122 (acB j):=cG acA (E9 j) [] [] [.agg [aP,aP,a3]] _ Tryz.func122 (by kernel_rfl) (by kernel_rfl) (by kernel_rfl) (fun _ _ _ _=>by kernel_rfl)
def RG:=cE [(a3,[0,3]),(aP,[2]),(a4,[4,5,6,7,8,9,10,11,12,13,14,15,16,17,18,19])]
def yw(j:Nat):cd Tryz.prog:= .ao
def Fa(j:Nat)(fB:Lu)(h:Lo):a9:=
al (fB==[61]) (
some (.normal,[.bool true],h)) (
al (fB==[60,62]) (
some (.normal,[.bool true],h)) (
al (fB==[60]) (
some (.normal,[.bool true],h)) (
al (fB==[60,61]) (
some (.normal,[.bool true],h)) (
al (fB==[62]) (
some (.normal,[.bool true],h)) (
some (.normal,[(.bool (fB==[62,61]))],h))))))
def acD(j:Nat):cz Tryz.prog:= .of RG (yw j) [] (cT Tryz.prog Tryz.f123 [1,0,1,0,1,1,1,1,0] []) [a3] [3] [(.normal,[8],[a4])] (Fa j) (fun _ _=>by kernel_rfl)
def wk(j:Nat)(op:Lu)(h:Lo):OvL:=
al (op==[79,82]) (
some ((.int .i64 (0)),h)) (
al (op==[65,78,68]) (
some ((.int .i64 (1)),h)) (
bO (Fa j op h) fun b c a=>
al (decide (b= .normal)) (
aZ [a4] c fun d=>
al d (
some ((.int .i64 (3)),a)) (
al (op==[43]) (
some ((.int .i64 (4)),a)) (
al (op==[45]) (
some ((.int .i64 (4)),a)) (
al (op==[42]) (
some ((.int .i64 (5)),a)) (
some ((.int .i64 (7)),a)))))) (
none)))
def acE(j:Nat):Lv→Lo→OvL:=cv [a3] (wk j)
theorem RH(j:Nat):cq Tryz.prog 123 (acE j):=cG RG (yw j) [acD j] [([1,0,1,0,1,1,1,1,0],0)] [a3] _ Tryz.func123 (by kernel_rfl) (by kernel_rfl) (by kernel_rfl) (fun _ _=>by kernel_rfl)
def RI:=cE [(a3,[1,11,15]),(aP,[4,5,7,8,10,13,17,18]),(a4,[9,16])]
def RJ(j:Nat):cd Tryz.prog:= .ao
def Fb(j:Nat)(self:V→Lu→Int→Int→Lo→a9)(s:V)(v:Lu)(fX:Int)(fR:Int)(h:Lo):a9:=
al (decide (fR<fX)) (
J (I (.cH 1 (.c s) (.c (.int .i64 fR))) h) fun a=>
J (I (.ag (.c a)) h) fun b=>
b1 b fun c=>
al (v==c) (
some (.ret,[.int .i64 fR],h)) (
self s v fX (IntKind.i64.wrap (fR+(1))) h)) (
some ((.exit 0),[],h))
def wm(j:Nat):Nat→V→Lu→Int→Int→Lo→a9
 |0=>fun _ _ _ _ _=>none
 |n+1=>Fb j (wm j n)
def acF(j:Nat):cz Tryz.prog:= .loop RI (RJ j) [] (cT Tryz.prog Tryz.f134 [1,0,1,0,0] []) [aD,a3,aP,aP] [0,1,7,8] [((.exit 0),[],[]),(.ret,[4],[aP])] (Fb j) (wm j) (fun _ _ _ _ _=>rfl) (fun _=>rfl) (fun _ _ _ _ _ _=>by kernel_rfl) j
def Lz(j:Nat)(s:V)(v:Lu)(h:Lo):OvL:=
J (I (.cm (.c s)) h) fun d=>
bt .i64 d fun e=>
bO (wm j j s v e (0) h) fun a b c=>
al (decide (a=(.exit 0))) (
dT b (
some ((.int .i64 (-1)),c))) (
al (decide (a= .ret)) (
aZ [aP] b fun f=>
some ((.int .i64 f),c)) (
none))
def acG(j:Nat):Lv→Lo→OvL:=cv [aD,a3] (Lz j)
theorem acH(j:Nat):cq Tryz.prog 134 (acG j):=cG RI (RJ j) [acF j] [([1,0,1,0],0)] [aD,a3] _ Tryz.func134 (by kernel_rfl) (by kernel_rfl) (by kernel_rfl) (fun _ _ _=>by kernel_rfl)
def acI:=cE [(a3,[1,6]),(a4,[4,8]),(aP,[7])]
def acJ(j:Nat):cd Tryz.prog:= .c .ao (acH j)
def Fc(j:Nat)(s:V)(v:Lu)(h:Lo):OvL:=
ad (Lz j s v h) fun a b=>
bt .i64 a fun c=>
some ((.bool (decide (c≥(0)))),b)
def acK(j:Nat):Lv→Lo→OvL:=cv [aD,a3] (Fc j)
theorem acL(j:Nat):cq Tryz.prog 131 (acK j):=cG acI (acJ j) [] [] [aD,a3] _ Tryz.func131 (by kernel_rfl) (by kernel_rfl) (by kernel_rfl) (fun _ _ _=>by kernel_rfl)
def acM:=cE [(a3,[0,4]),(a4,[2,5])]
def acN(j:Nat):cd Tryz.prog:= .c .ao (acL j)
def yx(j:Nat)(op:Lu)(h:Lo):OvL:=
ad (aB (.dN 1 (.str []) 4 [(0,(.c (.str [67,79,85,78,84]))),(1,(.c (.str [83,85,77]))),(2,(.c (.str [77,73,78]))),(3,(.c (.str [77,65,88])))]) h) fun a b=>
ad (Fc j a op b) fun c d=>
bG c fun e=>
some ((.bool e),d)
def acO(j:Nat):Lv→Lo→OvL:=cv [a3] (yx j)
theorem RK(j:Nat):cq Tryz.prog 124 (acO j):=cG acM (acN j) [] [] [a3] _ Tryz.func124 (by kernel_rfl) (by kernel_rfl) (by kernel_rfl) (fun _ _=>by kernel_rfl)
def LA:=cE [(fj,[0]),(a4,[2,4,10,11,14,15,18,19,23,24,25,28,29,30,31,32,35,36,38,39,42,43,44,47,48,49,53,54,55,56,58,59,62,63,64,67,68,69,72,73,76,77,78,79,80,82,83,86,87,90,91,92,93,94,96,97,101,102,103,104,106,107,110,111,114,115,116,117,118,120,121,124,125,126,128,129,132,133,134]),(aP,[3,7,17,27,34,37,52,57,81,95,100,105,119,127]),(a3,[9,13,41,61,66,71,75,85,89,99,109,113,123,131]),(.agg [aP,aP,a3],[21,22,46])]
def LB(j:Nat):cd Tryz.prog:= .c (.c (.c (.c .ao (yr j)) (acC j)) (RH j)) (RK j)
def Fe(j:Nat)(e:V)(column:Bool)(h:Lo):a9:=
J (I (.af 0 (.c e)) h) fun d=>
J (I (.ag (.c d)) h) fun f=>
bt .i64 f fun g=>
al (g !=(1)) (
J (I (.af 2 (.c e)) h) fun i=>
J (I (.bp 3 (.c i)) h) fun a=>
aN (.agg [aP,aP,a3]) a fun o k l=>
J (I (.build [.int .i64 0, .int .i64 0,(.str [])] []) h) fun m=>
aN (.agg [aP,aP,a3]) m fun n p q=>
J (I (.eq true (.struct 3 [(0, .i),(1, .i),(2, .s)]) (.c (.agg [.int .i64 o, .int .i64 k, .str l])) (.c (.agg [.int .i64 n, .int .i64 p, .str q]))) h) fun r=>
bG r fun s=>
al s (
some (.ret,[.bool false],h)) (
J (I (.af 0 (.c e)) h) fun b=>
J (I (.ag (.c b)) h) fun t=>
bt .i64 t fun c=>
al (c !=(2)) (
al column (
some (.ret,[.bool false],h)) (
some (.normal,[],h))) (
some (.normal,[],h)))) (
J (I (.af 0 (.c e)) h) fun b=>
J (I (.ag (.c b)) h) fun a=>
bt .i64 a fun c=>
al (c !=(2)) (
al column (
some (.ret,[.bool false],h)) (
some (.normal,[],h))) (
some (.normal,[],h)))
def acP(j:Nat):cz Tryz.prog:= .of LA (LB j) [] (cT Tryz.prog Tryz.f111 [1,1,1,0] []) [aD,a4] [1,4] [(.ret,[2],[a4]),(.normal,[],[])] (Fe j) (fun _ _ _=>by kernel_rfl)
def Ff(j:Nat)(e:V)(h:Lo):a9:=
J (I (.af 5 (.c e)) h) fun a=>
J (I (.ag (.c a)) h) fun b=>
b1 b fun c=>
al (!(c==([]:Lu))) (
some (.normal,[.bool true],h)) (
J (I (.af 6 (.c e)) h) fun d=>
J (I (.ag (.c d)) h) fun f=>
b1 f fun g=>
some (.normal,[(.bool (!(g==([]:Lu))))],h))
def acQ(j:Nat):cz Tryz.prog:= .of LA (LB j) [] (cT Tryz.prog Tryz.f111 [1,1,0] []) [aD] [1] [(.normal,[4],[a4])] (Ff j) (fun _ _=>by kernel_rfl)
def Fg(j:Nat)(e:Int)(aV:Lu)(bb:Int)(cb:Int)(dI:Lu)(fQ:Lu)(gS:Lu)(hz:V)(h:Lo):OvL:=
ad (aB (.box false (.c (.agg [.int .i64 e, .str aV, .int .i64 bb, .int .i64 cb, .str dI, .str fQ, .str gS,hz]))) h) fun b k=>
J (I (.af 7 (.c b)) k) fun s=>
J (I (.ag (.c s)) k) fun t=>
J (I (.cm (.c t)) k) fun u=>
bt .i64 u fun g=>
bO (Ff j b k) fun v w x=>
al (decide (v= .normal)) (
aZ [a4] w fun y=>
bO (Fe j b y x) fun q r a=>
al (decide (q= .ret)) (
aZ [a4] r fun z=>
some ((.bool z),a)) (
al (decide (q= .normal)) (
dT r (
J (I (.af 0 (.c b)) a) fun bQ=>
J (I (.ag (.c bQ)) a) fun bZ=>
bt .i64 bZ fun i=>
al (i==(1)) (
al (g==(0)) (
J (I (.af 1 (.c b)) a) fun ac=>
J (I (.ag (.c ac)) a) fun d=>
b1 d fun b2=>
al (b2==([]:Lu)) (
J (I (.af 2 (.c b)) a) fun b9=>
J (I (.bp 3 (.c b9)) a) fun f=>
aN (.agg [aP,aP,a3]) f fun cn cr cB=>
ad (E_ j cn cr cB a) fun o c=>
bG o fun cL=>
al cL (
J (I (.af 2 (.c b)) c) fun cM=>
J (I (.af 1 (.c cM)) c) fun cO=>
J (I (.ag (.c cO)) c) fun l=>
bt .i64 l fun am=>
some ((.bool (decide (am≥(0)))),c)) (
some ((.bool false),c))) (
some ((.bool false),a))) (
some ((.bool false),a))) (
al (i==(2)) (
al (g==(0)) (
J (I (.af 1 (.c b)) a) fun cV=>
J (I (.ag (.c cV)) a) fun d=>
b1 d fun ap=>
al (ap==([]:Lu)) (
J (I (.af 6 (.c b)) a) fun c3=>
J (I (.ag (.c c3)) a) fun f=>
b1 f fun c8=>
ad (oz j c8 a) fun o c=>
bG o fun c9=>
al c9 (
J (I (.af 5 (.c b)) c) fun dc=>
J (I (.ag (.c dc)) c) fun l=>
b1 l fun c4=>
al (c4==([]:Lu)) (
some ((.bool true),c)) (
J (I (.af 5 (.c b)) c) fun dD=>
J (I (.ag (.c dD)) c) fun dk=>
b1 dk fun dP=>
ad (oz j dP c) fun d_ dV=>
bG d_ fun ey=>
some ((.bool ey),dV))) (
some ((.bool false),c))) (
some ((.bool false),a))) (
some ((.bool false),a))) (
al (i==(3)) (
al (g==(1)) (
J (I (.af 1 (.c b)) a) fun eX=>
J (I (.ag (.c eX)) a) fun d=>
b1 d fun be=>
al (be==[78,79,84]) (
some ((.bool true),a)) (
J (I (.af 1 (.c b)) a) fun e5=>
J (I (.ag (.c e5)) a) fun f=>
b1 f fun ec=>
some ((.bool (ec==[45])),a))) (
some ((.bool false),a))) (
al (i==(4)) (
al (g==(2)) (
J (I (.af 1 (.c b)) a) fun bi=>
J (I (.ag (.c bi)) a) fun d=>
b1 d fun fE=>
ad (wk j fE a) fun f c=>
bt .i64 f fun fG=>
some ((.bool (fG !=(7))),c)) (
some ((.bool false),a))) (
al (i==(5)) (
al (g==(1)) (
J (I (.af 1 (.c b)) a) fun fk=>
J (I (.ag (.c fk)) a) fun d=>
b1 d fun eD=>
al (eD==[73,83,32,78,85,76,76]) (
some ((.bool true),a)) (
J (I (.af 1 (.c b)) a) fun gL=>
J (I (.ag (.c gL)) a) fun f=>
b1 f fun hh=>
some ((.bool (hh==[73,83,32,78,79,84,32,78,85,76,76])),a))) (
some ((.bool false),a))) (
al (i==(6)) (
al (g==(0)) (
J (I (.af 1 (.c b)) a) fun hZ=>
J (I (.ag (.c hZ)) a) fun d=>
b1 d fun hJ=>
al (hJ==[67,79,85,78,84]) (
some ((.bool true),a)) (
al (g==(1)) (
J (I (.af 1 (.c b)) a) fun m=>
J (I (.ag (.c m)) a) fun f=>
b1 f fun n=>
ad (yx j n a) fun o c=>
bG o fun p=>
some ((.bool p),c)) (
some ((.bool false),a)))) (
al (g==(1)) (
J (I (.af 1 (.c b)) a) fun m=>
J (I (.ag (.c m)) a) fun d=>
b1 d fun n=>
ad (yx j n a) fun f c=>
bG f fun p=>
some ((.bool p),c)) (
some ((.bool false),a)))) (
some ((.bool false),a))))))))) (
none))) (
none)
def acR(j:Nat):Lv→Lo→OvL:=cv [fj] (Fg j)
theorem acS(j:Nat):cq Tryz.prog 111 (acR j):=cG LA (LB j) [acQ j,acP j] [([1,1,0],0),([1,1,1,0],1)] [fj] _ Tryz.func111 (by kernel_rfl) (by kernel_rfl) (by kernel_rfl) (fun _ _ _ _ _ _ _ _ _=>by kernel_rfl)
def acT:=cE [(fj,[0,4]),(a4,[3,7,8]),(aP,[5,6])]
def acU(j:Nat)(rc:dy)(dK:fv Tryz.prog rc):cd Tryz.prog:= .r .ao dK
def Fh(j:Nat)(rc:dy)(p:Int)(cF:Lu)(cW:Int)(hW:Int)(qF:Lu)(Lh:Lu)(acV:Lu)(acW:V)(cp:V)(h:Lo):OvL:=
ad (aB (.box false (.c (.agg [.int .i64 p, .str cF, .int .i64 cW, .int .i64 hW, .str qF, .str Lh, .str acV,acW]))) h) fun b a=>
J (I (.bp 8 (.c b)) a) fun c=>
aN fj c fun d e f g i o k l=>
J (I (.ag (.c cp)) a) fun m=>
bt .i64 m fun n=>
ad (rc 73 [(.agg [.int .i64 d, .str e, .int .i64 f, .int .i64 g, .str i, .str o, .str k,l]),(.int .i64 (IntKind.i64.wrap (n-(1))))] a) fun q r=>
bG q fun s=>
some ((.bool (!s)),r)
def RL(j:Nat)(rc:dy):Lv→Lo→OvL:=cv [fj,aD] (Fh j rc)
theorem acX(j:Nat)(rc:dy)(dK:fv Tryz.prog rc):cq Tryz.prog 112 (RL j rc):=cG acT (acU j rc dK) [] [] [fj,aD] _ Tryz.func112 (by kernel_rfl) (by kernel_rfl) (by kernel_rfl) (fun _ _ _ _ _ _ _ _ _ _=>by kernel_rfl)
def BX(j:Nat)(rc:dy):bK:=ju 112 (rc 112) (nP)
theorem RM(j:Nat)(rc:dy)(dK:fv Tryz.prog rc):dC Tryz.prog (BX j rc):=j1 (dK 112) (ot)
def acY:=cE [(fj,[0,8]),(aP,[1,5]),(a4,[4,6,7,9,10,11,15,16,17])]
def qJ(j:Nat)(rc:dy)(dK:fv Tryz.prog rc):cd Tryz.prog:= .v (.c (.c (.r .ao dK) (RF j (BX j rc) (RM j rc dK))) (acS j)) (RM j rc dK)
def ui(j:Nat)(rc:dy)(e:Int)(aV:Lu)(bb:Int)(cb:Int)(dI:Lu)(fQ:Lu)(gS:Lu)(hz:V)(gw:Int)(h:Lo):OvL:=
ad (aB (.box false (.c (.agg [.int .i64 e, .str aV, .int .i64 bb, .int .i64 cb, .str dI, .str fQ, .str gS,hz]))) h) fun c f=>
ad (aB (.box false (.c (.int .i64 gw))) f) fun d a=>
J (I (.ag (.c d)) a) fun g=>
bt .i64 g fun i=>
al (decide (i>(0))) (
J (I (.bp 8 (.c c)) a) fun o=>
aN fj o fun k l m n p q r s=>
ad (Fg j k l m n p q r s a) fun t b=>
bG t fun u=>
al u (
J (I (.af 7 (.c c)) b) fun v=>
J (I (.ag (.c v)) b) fun w=>
ad (yv j (BX j rc) w (.fn 112 [d]) b) fun x y=>
bG x fun z=>
some ((.bool (!z)),y)) (
some ((.bool false),b))) (
some ((.bool false),a))
def RN(j:Nat)(rc:dy):Lv→Lo→OvL:=cv [fj,aP] (ui j rc)
theorem LC(j:Nat)(rc:dy)(dK:fv Tryz.prog rc):cq Tryz.prog 73 (RN j rc):=cG acY (qJ j rc dK) [] [] [fj,aP] _ Tryz.func73 (by kernel_rfl) (by kernel_rfl) (by kernel_rfl) (fun _ _ _ _ _ _ _ _ _ _=>by kernel_rfl)
def mK(j:Nat):Nat→dy
 |0=>nh
 |n+1=>nO 73 (RN j (mK j n)) (nO 112 (RL j (mK j n)) (nh))
theorem Fi(j:Nat):∀n,fv Tryz.prog (mK j n)
 |0=>nQ
 |n+1=>pa (LC j (mK j n) (Fi j n)) (pa (acX j (mK j n) (Fi j n)) (nQ))
def LD:=cE [(fj,[0,1,58,63]),(a4,[4,10,11,16,17,18,23,24,25,30,31,32,37,38,39,46,47,52,64,65]),(aP,[5,7,9,42,45,50,51,53,56,61,66]),(a3,[13,15,27,29,34,36]),(.agg [aP,aP,a3],[20,22])]
def yy(j:Nat)(rc:dy)(dK:fv Tryz.prog rc):cd Tryz.prog:= .r .ao dK
def Fj(j:Nat)(rc:dy)(a:V)(b:V)(h:Lo):a9:=
J (I (.af 0 (.c a)) h) fun c=>
J (I (.ag (.c c)) h) fun d=>
bt .i64 d fun e=>
J (I (.af 0 (.c b)) h) fun f=>
J (I (.ag (.c f)) h) fun g=>
bt .i64 g fun i=>
al (e !=i) (
some (.normal,[.bool true],h)) (
J (I (.af 1 (.c a)) h) fun o=>
J (I (.ag (.c o)) h) fun k=>
b1 k fun l=>
J (I (.af 1 (.c b)) h) fun m=>
J (I (.ag (.c m)) h) fun n=>
b1 n fun p=>
al (!(l==p)) (
some (.normal,[.bool true],h)) (
J (I (.af 2 (.c a)) h) fun q=>
J (I (.bp 3 (.c q)) h) fun r=>
aN (.agg [aP,aP,a3]) r fun s t u=>
J (I (.af 2 (.c b)) h) fun v=>
J (I (.bp 3 (.c v)) h) fun w=>
aN (.agg [aP,aP,a3]) w fun x y z=>
J (I (.eq true (.struct 3 [(0, .i),(1, .i),(2, .s)]) (.c (.agg [.int .i64 s, .int .i64 t, .str u])) (.c (.agg [.int .i64 x, .int .i64 y, .str z]))) h) fun bQ=>
bG bQ fun bZ=>
al bZ (
some (.normal,[.bool true],h)) (
J (I (.af 5 (.c a)) h) fun ac=>
J (I (.ag (.c ac)) h) fun b2=>
b1 b2 fun b9=>
J (I (.af 5 (.c b)) h) fun cn=>
J (I (.ag (.c cn)) h) fun cr=>
b1 cr fun cB=>
al (!(b9==cB)) (
some (.normal,[.bool true],h)) (
J (I (.af 6 (.c a)) h) fun cL=>
J (I (.ag (.c cL)) h) fun cM=>
b1 cM fun cO=>
J (I (.af 6 (.c b)) h) fun am=>
J (I (.ag (.c am)) h) fun cV=>
b1 cV fun ap=>
al (!(cO==ap)) (
some (.normal,[.bool true],h)) (
J (I (.af 7 (.c a)) h) fun c3=>
J (I (.ag (.c c3)) h) fun c8=>
J (I (.cm (.c c8)) h) fun c9=>
bt .i64 c9 fun dc=>
J (I (.af 7 (.c b)) h) fun c4=>
J (I (.ag (.c c4)) h) fun dD=>
J (I (.cm (.c dD)) h) fun dk=>
bt .i64 dk fun dP=>
some (.normal,[(.bool (dc !=dP))],h))))))
def acZ(j:Nat)(rc:dy)(dK:fv Tryz.prog rc):cz Tryz.prog:= .of LD (yy j rc dK) [] (cT Tryz.prog Tryz.f54 [1,0,0] []) [aD,aD] [2,3] [(.normal,[47],[a4])] (Fj j rc) (fun _ _ _=>by kernel_rfl)
def Fk(j:Nat)(rc:dy)(self:V→V→Int→Int→Lo→a9)(a:V)(b:V)(nT:Int)(yz:Int)(h:Lo):a9:=
al (decide (yz<nT)) (
J (I (.af 7 (.c a)) h) fun d=>
J (I (.ag (.c d)) h) fun e=>
J (I (.cH 8 (.c e) (.c (.int .i64 yz))) h) fun f=>
J (I (.bp 8 (.c f)) h) fun g=>
aN fj g fun i o k l m n p q=>
J (I (.af 7 (.c b)) h) fun r=>
J (I (.ag (.c r)) h) fun s=>
J (I (.cH 8 (.c s) (.c (.int .i64 yz))) h) fun t=>
J (I (.bp 8 (.c t)) h) fun u=>
aN fj u fun v w x y z bQ bZ ac=>
ad (rc 54 [(.agg [.int .i64 i, .str o, .int .i64 k, .int .i64 l, .str m, .str n, .str p,q]),(.agg [.int .i64 v, .str w, .int .i64 x, .int .i64 y, .str z, .str bQ, .str bZ,ac])] h) fun b2 c=>
bG b2 fun b9=>
al (!b9) (
some (.ret,[.bool false],c)) (
self a b nT (IntKind.i64.wrap (yz+(1))) c)) (
some ((.exit 0),[],h))
def wo(j:Nat)(rc:dy):Nat→V→V→Int→Int→Lo→a9
 |0=>fun _ _ _ _ _=>none
 |n+1=>Fk j rc (wo j rc n)
def ac0(j:Nat)(rc:dy)(dK:fv Tryz.prog rc):cz Tryz.prog:= .loop LD (yy j rc dK) [] (cT Tryz.prog Tryz.f54 [1,1,0,1,0,0] []) [aD,aD,aP,aP] [2,3,50,51] [((.exit 0),[],[]),(.ret,[4],[a4])] (Fk j rc) (wo j rc) (fun _ _ _ _ _=>rfl) (fun _=>rfl) (fun _ _ _ _ _ _=>by kernel_rfl) j
def qK(j:Nat)(rc:dy)(a:Int)(b5:Lu)(cI:Int)(fo:Int)(gC:Lu)(gb:Lu)(g8:Lu)(ie:V)(b:Int)(dL:Lu)(fL:Int)(j5:Int)(kH:Lu)(jw:Lu)(j6:Lu)(j7:V)(h:Lo):OvL:=
ad (aB (.box false (.c (.agg [.int .i64 a, .str b5, .int .i64 cI, .int .i64 fo, .str gC, .str gb, .str g8,ie]))) h) fun d o=>
ad (aB (.box false (.c (.agg [.int .i64 b, .str dL, .int .i64 fL, .int .i64 j5, .str kH, .str jw, .str j6,j7]))) o) fun e k=>
bO (Fj j rc d e k) fun l m c=>
al (decide (l= .normal)) (
aZ [a4] m fun n=>
al n (
some ((.bool false),c)) (
J (I (.af 7 (.c d)) c) fun p=>
J (I (.ag (.c p)) c) fun q=>
J (I (.cm (.c q)) c) fun r=>
bt .i64 r fun s=>
bO (wo j rc j d e s (0) c) fun f g i=>
al (decide (f=(.exit 0))) (
dT g (
some ((.bool true),i))) (
al (decide (f= .ret)) (
aZ [a4] g fun t=>
some ((.bool t),i)) (
none)))) (
none)
def RO(j:Nat)(rc:dy):Lv→Lo→OvL:=cv [fj,fj] (qK j rc)
theorem BY(j:Nat)(rc:dy)(dK:fv Tryz.prog rc):cq Tryz.prog 54 (RO j rc):=cG LD (yy j rc dK) [acZ j rc dK,ac0 j rc dK] [([1,0,0],0),([1,1,0,1,0],1)] [fj,fj] _ Tryz.func54 (by kernel_rfl) (by kernel_rfl) (by kernel_rfl) (fun _ _ _ _ _ _ _ _ _ _ _ _ _ _ _ _ _=>by kernel_rfl)
def lp(j:Nat):Nat→dy
 |0=>nh
 |n+1=>nO 54 (RO j (lp j n)) (nh)
theorem BZ(j:Nat):∀n,fv Tryz.prog (lp j n)
 |0=>nQ
 |n+1=>pa (BY j (lp j n) (BZ j n)) (nQ)
def ac1:=cE [(fj,[0,3]),(a4,[2,4])]
def ac2(j:Nat):cd Tryz.prog:= .c .ao (LC j (mK j j) (Fi j j))
def rM(j:Nat)(e:Int)(aV:Lu)(bb:Int)(cb:Int)(dI:Lu)(fQ:Lu)(gS:Lu)(hz:V)(h:Lo):OvL:=
ad (aB (.box false (.c (.agg [.int .i64 e, .str aV, .int .i64 bb, .int .i64 cb, .str dI, .str fQ, .str gS,hz]))) h) fun b a=>
J (I (.bp 8 (.c b)) a) fun c=>
aN fj c fun d f g i o k l m=>
ad (ui j (mK j j) d f g i o k l m (8) a) fun n p=>
bG n fun q=>
some ((.bool q),p)
def ac3(j:Nat):Lv→Lo→OvL:=cv [fj] (rM j)
theorem LF(j:Nat):cq Tryz.prog 33 (ac3 j):=cG ac1 (ac2 j) [] [] [fj] _ Tryz.func33 (by kernel_rfl) (by kernel_rfl) (by kernel_rfl) (fun _ _ _ _ _ _ _ _ _=>by kernel_rfl)
def ac4:=cE [(.agg [aP,aP,a3],[0]),(a4,[2,5,6,9,10,13,14,15,16,19,20,21,24,25,29,30]),(aP,[4,8,23,28]),(a3,[12,18,27])]
def Fl(j:Nat):cd Tryz.prog:= .ao
def Fm(j:Nat)(v:Int)(v1:Int)(v2:Lu)(h:Lo):OvL:=
ad (aB (.box false (.c (.agg [.int .i64 v, .int .i64 v1, .str v2]))) h) fun b a=>
J (I (.af 0 (.c b)) a) fun f=>
J (I (.ag (.c f)) a) fun g=>
bt .i64 g fun d=>
al (d==(0)) (
J (I (.af 1 (.c b)) a) fun i=>
J (I (.ag (.c i)) a) fun c=>
bt .i64 c fun o=>
al (o==(0)) (
J (I (.af 2 (.c b)) a) fun k=>
J (I (.ag (.c k)) a) fun e=>
b1 e fun l=>
some ((.bool (l==([]:Lu))),a)) (
some ((.bool false),a))) (
al (d==(1)) (
J (I (.af 2 (.c b)) a) fun m=>
J (I (.ag (.c m)) a) fun c=>
b1 c fun n=>
some ((.bool (n==([]:Lu))),a)) (
al (d==(2)) (
J (I (.af 1 (.c b)) a) fun p=>
J (I (.ag (.c p)) a) fun c=>
bt .i64 c fun q=>
al (q==(0)) (
J (I (.af 2 (.c b)) a) fun r=>
J (I (.ag (.c r)) a) fun e=>
b1 e fun s=>
some ((.bool (decide (((s).length:Int)≤(100)))),a)) (
some ((.bool false),a))) (
some ((.bool false),a))))
def ac5(j:Nat):Lv→Lo→OvL:=cv [.agg [aP,aP,a3]] (Fm j)
theorem ac6(j:Nat):cq Tryz.prog 125 (ac5 j):=cG ac4 (Fl j) [] [] [.agg [aP,aP,a3]] _ Tryz.func125 (by kernel_rfl) (by kernel_rfl) (by kernel_rfl) (fun _ _ _ _=>by kernel_rfl)
def RP:=cE [(a3,[0,14,15]),(a4,[4,9,16]),(aP,[5,7,8,10,12,17])]
def wq(j:Nat):cd Tryz.prog:= .ao
def Fo(j:Nat)(self:Lu→V→Int→Int→Lo→a9)(s:Lu)(list:V)(fX:Int)(fR:Int)(h:Lo):a9:=
al (decide (fR<fX)) (
J (I (.cH 1 (.c list) (.c (.int .i64 fR))) h) fun a=>
J (I (.ag (.c a)) h) fun b=>
b1 b fun c=>
al (c==s) (
some (.ret,[.bool true],h)) (
self s list fX (IntKind.i64.wrap (fR+(1))) h)) (
some ((.exit 0),[],h))
def yA(j:Nat):Nat→Lu→V→Int→Int→Lo→a9
 |0=>fun _ _ _ _ _=>none
 |n+1=>Fo j (yA j n)
def ac7(j:Nat):cz Tryz.prog:= .loop RP (wq j) [] (cT Tryz.prog Tryz.f126 [1,0,1,0,0] []) [a3,aD,aP,aP] [0,1,7,8] [((.exit 0),[],[]),(.ret,[4],[a4])] (Fo j) (yA j) (fun _ _ _ _ _=>rfl) (fun _=>rfl) (fun _ _ _ _ _ _=>by kernel_rfl) j
def uj(j:Nat)(s:Lu)(list:V)(h:Lo):OvL:=
J (I (.cm (.c list)) h) fun d=>
bt .i64 d fun e=>
bO (yA j j s list e (0) h) fun a b c=>
al (decide (a=(.exit 0))) (
dT b (
some ((.bool false),c))) (
al (decide (a= .ret)) (
aZ [a4] b fun f=>
some ((.bool f),c)) (
none))
def ac8(j:Nat):Lv→Lo→OvL:=cv [a3,aD] (uj j)
theorem ac9(j:Nat):cq Tryz.prog 126 (ac8 j):=cG RP (wq j) [ac7 j] [([1,0,1,0],0)] [a3,aD] _ Tryz.func126 (by kernel_rfl) (by kernel_rfl) (by kernel_rfl) (fun _ _ _=>by kernel_rfl)
def RQ:=cE [(fj,[0]),(a4,[2,4,5,11,12,15,16,20,23,24,26,27,28,29,30,33,34,35,38,39,40,44,45,46,47,49,50,51,52,53,56,57,58,61,62,63,66,67,70,71,72,73,74,76,77,78,79,80,81,82,83,87,88,89,90,92,93,94,95,96,97,98,99,103,104,105,106,108,109,110,111,112,113,114,115,119,120,121,122,123,124,125,126,127,131,132,133,135,136,138,139,142,143,144,145]),(aP,[3,8,22,25,43,48,75,91,107,134,137]),(a3,[10,14,32,55,60,65,69,85,101,117,129,141]),(.agg [aP,aP,a3],[18,19,37])]
def RR(j:Nat):cd Tryz.prog:= .c (.c (.c .ao (Ly j)) (ac6 j)) (ac9 j)
def Fp(j:Nat)(e:V)(h:Lo):a9:=
J (I (.af 5 (.c e)) h) fun a=>
J (I (.ag (.c a)) h) fun b=>
b1 b fun c=>
al (c==([]:Lu)) (
J (I (.af 6 (.c e)) h) fun d=>
J (I (.ag (.c d)) h) fun f=>
b1 f fun g=>
some (.normal,[(.bool (g==([]:Lu)))],h)) (
some (.normal,[.bool false],h))
def ac_(j:Nat):cz Tryz.prog:= .of RQ (RR j) [] (cT Tryz.prog Tryz.f115 [1,1,0] []) [aD] [1] [(.normal,[4],[a4])] (Fp j) (fun _ _=>by kernel_rfl)
def Fq(j:Nat)(e:Int)(aV:Lu)(bb:Int)(cb:Int)(dI:Lu)(fQ:Lu)(gS:Lu)(hz:V)(h:Lo):OvL:=
ad (aB (.box false (.c (.agg [.int .i64 e, .str aV, .int .i64 bb, .int .i64 cb, .str dI, .str fQ, .str gS,hz]))) h) fun c n=>
J (I (.af 7 (.c c)) n) fun q=>
J (I (.ag (.c q)) n) fun r=>
J (I (.cm (.c r)) n) fun s=>
bt .i64 s fun i=>
bO (Fp j c n) fun t u a=>
al (decide (t= .normal)) (
aZ [a4] u fun k=>
J (I (.af 2 (.c c)) a) fun v=>
J (I (.bp 3 (.c v)) a) fun w=>
aN (.agg [aP,aP,a3]) w fun x y z=>
J (I (.build [.int .i64 0, .int .i64 0,(.str [])] []) a) fun bQ=>
aN (.agg [aP,aP,a3]) bQ fun bZ ac b2=>
J (I (.eq false (.struct 3 [(0, .i),(1, .i),(2, .s)]) (.c (.agg [.int .i64 x, .int .i64 y, .str z])) (.c (.agg [.int .i64 bZ, .int .i64 ac, .str b2]))) a) fun b9=>
bG b9 fun l=>
J (I (.af 0 (.c c)) a) fun cn=>
J (I (.ag (.c cn)) a) fun cr=>
bt .i64 cr fun o=>
al (o==(1)) (
al (i==(0)) (
al k (
J (I (.af 1 (.c c)) a) fun cB=>
J (I (.ag (.c cB)) a) fun f=>
b1 f fun cL=>
al (cL==([]:Lu)) (
J (I (.af 2 (.c c)) a) fun cM=>
J (I (.bp 3 (.c cM)) a) fun g=>
aN (.agg [aP,aP,a3]) g fun cO am cV=>
ad (Fm j cO am cV a) fun m b=>
bG m fun ap=>
al ap (
J (I (.af 2 (.c c)) b) fun c3=>
J (I (.af 1 (.c c3)) b) fun c8=>
J (I (.ag (.c c8)) b) fun p=>
bt .i64 p fun c9=>
some ((.bool (decide (c9≥(0)))),b)) (
some ((.bool false),b))) (
some ((.bool false),a))) (
some ((.bool false),a))) (
some ((.bool false),a))) (
al (o==(2)) (
al (i==(0)) (
al l (
J (I (.af 1 (.c c)) a) fun dc=>
J (I (.ag (.c dc)) a) fun f=>
b1 f fun c4=>
al (c4==([]:Lu)) (
J (I (.af 6 (.c c)) a) fun dD=>
J (I (.ag (.c dD)) a) fun g=>
b1 g fun dk=>
ad (oA j dk a) fun m b=>
bG m fun dP=>
al dP (
J (I (.af 5 (.c c)) b) fun d_=>
J (I (.ag (.c d_)) b) fun p=>
b1 p fun dV=>
al (dV==([]:Lu)) (
some ((.bool true),b)) (
J (I (.af 5 (.c c)) b) fun ey=>
J (I (.ag (.c ey)) b) fun eX=>
b1 eX fun be=>
ad (oA j be b) fun e5 d=>
bG e5 fun ec=>
some ((.bool ec),d))) (
some ((.bool false),b))) (
some ((.bool false),a))) (
some ((.bool false),a))) (
some ((.bool false),a))) (
al (o==(3)) (
al (i==(1)) (
al k (
al l (
J (I (.af 1 (.c c)) a) fun bi=>
J (I (.ag (.c bi)) a) fun f=>
b1 f fun fE=>
ad (aB (.dN 1 (.str []) 2 [(0,(.c (.str [78,79,84]))),(1,(.c (.str [45])))]) a) fun fG b=>
ad (uj j fE fG b) fun g d=>
bG g fun fk=>
some ((.bool fk),d)) (
some ((.bool false),a))) (
some ((.bool false),a))) (
some ((.bool false),a))) (
al (o==(4)) (
al (i==(2)) (
al k (
al l (
J (I (.af 1 (.c c)) a) fun eD=>
J (I (.ag (.c eD)) a) fun f=>
b1 f fun gL=>
ad (aB (.dN 1 (.str []) 11 [(0,(.c (.str [79,82]))),(1,(.c (.str [65,78,68]))),(2,(.c (.str [61]))),(3,(.c (.str [60,62]))),(4,(.c (.str [60]))),(5,(.c (.str [60,61]))),(6,(.c (.str [62]))),(7,(.c (.str [62,61]))),(8,(.c (.str [43]))),(9,(.c (.str [45]))),(10,(.c (.str [42])))]) a) fun hh b=>
ad (uj j gL hh b) fun g d=>
bG g fun hZ=>
some ((.bool hZ),d)) (
some ((.bool false),a))) (
some ((.bool false),a))) (
some ((.bool false),a))) (
al (o==(5)) (
al (i==(1)) (
al k (
al l (
J (I (.af 1 (.c c)) a) fun hJ=>
J (I (.ag (.c hJ)) a) fun f=>
b1 f fun fu=>
ad (aB (.dN 1 (.str []) 2 [(0,(.c (.str [73,83,32,78,85,76,76]))),(1,(.c (.str [73,83,32,78,79,84,32,78,85,76,76])))]) a) fun iB b=>
ad (uj j fu iB b) fun g d=>
bG g fun iC=>
some ((.bool iC),d)) (
some ((.bool false),a))) (
some ((.bool false),a))) (
some ((.bool false),a))) (
al (o==(6)) (
al k (
al l (
J (I (.af 1 (.c c)) a) fun bv=>
J (I (.ag (.c bv)) a) fun f=>
b1 f fun iM=>
ad (aB (.dN 1 (.str []) 4 [(0,(.c (.str [67,79,85,78,84]))),(1,(.c (.str [83,85,77]))),(2,(.c (.str [77,73,78]))),(3,(.c (.str [77,65,88])))]) a) fun iZ b=>
ad (uj j iM iZ b) fun g d=>
bG g fun iD=>
al iD (
al (i==(1)) (
some ((.bool true),d)) (
al (i==(0)) (
J (I (.af 1 (.c c)) d) fun eB=>
J (I (.ag (.c eB)) d) fun m=>
b1 m fun gE=>
some ((.bool (gE==[67,79,85,78,84])),d)) (
some ((.bool false),d)))) (
some ((.bool false),d))) (
some ((.bool false),a))) (
some ((.bool false),a))) (
some ((.bool false),a)))))))) (
none)
def ada(j:Nat):Lv→Lo→OvL:=cv [fj] (Fq j)
theorem adb(j:Nat):cq Tryz.prog 115 (ada j):=cG RQ (RR j) [ac_ j] [([1,1,0],0)] [fj] _ Tryz.func115 (by kernel_rfl) (by kernel_rfl) (by kernel_rfl) (fun _ _ _ _ _ _ _ _ _=>by kernel_rfl)
def LG:=cE [(fj,[0,9,23]),(aP,[1,5,6,15,16,18,21,24,25,28]),(a4,[4,7,8,10,11,12,17,26,27])]
def LH(j:Nat)(rc:dy)(dK:fv Tryz.prog rc):cd Tryz.prog:= .c (.r .ao dK) (adb j)
def Fs(j:Nat)(rc:dy)(self:Int→V→Int→Int→Lo→a9)(gw:Int)(e:V)(jN:Int)(iL:Int)(h:Lo):a9:=
al (decide (iL<jN)) (
J (I (.af 7 (.c e)) h) fun b=>
J (I (.ag (.c b)) h) fun c=>
J (I (.cH 8 (.c c) (.c (.int .i64 iL))) h) fun d=>
J (I (.bp 8 (.c d)) h) fun f=>
aN fj f fun g i o k l m n p=>
ad (rc 76 [(.agg [.int .i64 g, .str i, .int .i64 o, .int .i64 k, .str l, .str m, .str n,p]),(.int .i64 (IntKind.i64.wrap (gw-(1))))] h) fun q a=>
bG q fun r=>
al (!r) (
some (.ret,[.bool false],a)) (
self gw e jN (IntKind.i64.wrap (iL+(1))) a)) (
some ((.exit 0),[],h))
def yB(j:Nat)(rc:dy):Nat→Int→V→Int→Int→Lo→a9
 |0=>fun _ _ _ _ _=>none
 |n+1=>Fs j rc (yB j rc n)
def ade(j:Nat)(rc:dy)(dK:fv Tryz.prog rc):cz Tryz.prog:= .loop LG (LH j rc dK) [] (cT Tryz.prog Tryz.f76 [1,1,0,1,0,0] []) [aP,aD,aP,aP] [1,2,15,16] [((.exit 0),[],[]),(.ret,[4],[a4])] (Fs j rc) (yB j rc) (fun _ _ _ _ _=>rfl) (fun _=>rfl) (fun _ _ _ _ _ _=>by kernel_rfl) j
def Ft(j:Nat)(rc:dy)(gw:Int)(e:V)(h:Lo):a9:=
al (decide (gw<(1))) (
some (.ret,[.bool false],h)) (
J (I (.bp 8 (.c e)) h) fun b=>
aN fj b fun c d f g i o k l=>
ad (Fq j c d f g i o k l h) fun m a=>
bG m fun n=>
al (!n) (
some (.ret,[.bool false],a)) (
some (.normal,[],a)))
def adf(j:Nat)(rc:dy)(dK:fv Tryz.prog rc):cz Tryz.prog:= .of LG (LH j rc dK) [] (cT Tryz.prog Tryz.f76 [1,0] []) [aP,aD] [1,2] [(.ret,[4],[a4]),(.normal,[],[])] (Ft j rc) (fun _ _ _=>by kernel_rfl)
def yC(j:Nat)(rc:dy)(e:Int)(aV:Lu)(bb:Int)(cb:Int)(dI:Lu)(fQ:Lu)(gS:Lu)(hz:V)(gw:Int)(h:Lo):OvL:=
ad (aB (.box false (.c (.agg [.int .i64 e, .str aV, .int .i64 bb, .int .i64 cb, .str dI, .str fQ, .str gS,hz]))) h) fun b k=>
bO (Ft j rc gw b k) fun d f a=>
al (decide (d= .ret)) (
aZ [a4] f fun c=>
some ((.bool c),a)) (
al (decide (d= .normal)) (
dT f (
J (I (.af 7 (.c b)) a) fun l=>
J (I (.ag (.c l)) a) fun m=>
J (I (.cm (.c m)) a) fun n=>
bt .i64 n fun p=>
bO (yB j rc j gw b p (0) a) fun g i o=>
al (decide (g=(.exit 0))) (
dT i (
some ((.bool true),o))) (
al (decide (g= .ret)) (
aZ [a4] i fun c=>
some ((.bool c),o)) (
none)))) (
none))
def RS(j:Nat)(rc:dy):Lv→Lo→OvL:=cv [fj,aP] (yC j rc)
theorem RT(j:Nat)(rc:dy)(dK:fv Tryz.prog rc):cq Tryz.prog 76 (RS j rc):=cG LG (LH j rc dK) [adf j rc dK,ade j rc dK] [([1,0],0),([1,1,0,1,0],1)] [fj,aP] _ Tryz.func76 (by kernel_rfl) (by kernel_rfl) (by kernel_rfl) (fun _ _ _ _ _ _ _ _ _ _=>by kernel_rfl)
def sZ(j:Nat):Nat→dy
 |0=>nh
 |n+1=>nO 76 (RS j (sZ j n)) (nh)
theorem RU(j:Nat):∀n,fv Tryz.prog (sZ j n)
 |0=>nQ
 |n+1=>pa (RT j (sZ j n) (RU j n)) (nQ)
def adg:=cE [(fj,[0,3]),(a4,[2,4])]
def adh(j:Nat):cd Tryz.prog:= .c .ao (RT j (sZ j j) (RU j j))
def rN(j:Nat)(e:Int)(aV:Lu)(bb:Int)(cb:Int)(dI:Lu)(fQ:Lu)(gS:Lu)(hz:V)(h:Lo):OvL:=
ad (aB (.box false (.c (.agg [.int .i64 e, .str aV, .int .i64 bb, .int .i64 cb, .str dI, .str fQ, .str gS,hz]))) h) fun b a=>
J (I (.bp 8 (.c b)) a) fun c=>
aN fj c fun d f g i o k l m=>
ad (yC j (sZ j j) d f g i o k l m (8) a) fun n p=>
bG n fun q=>
some ((.bool q),p)
def adi(j:Nat):Lv→Lo→OvL:=cv [fj] (rN j)
theorem LI(j:Nat):cq Tryz.prog 41 (adi j):=cG adg (adh j) [] [] [fj] _ Tryz.func41 (by kernel_rfl) (by kernel_rfl) (by kernel_rfl) (fun _ _ _ _ _ _ _ _ _=>by kernel_rfl)
def RV:=cE [(fj,[0,15,28,29,34]),(aP,[4,6,18,19,21,26,33]),(a3,[8,12,14]),(.agg [aP,aP,a3],[10]),(a4,[20])]
def oB(j:Nat)(rc:dy)(dK:fv Tryz.prog rc):cd Tryz.prog:= .r .ao dK
def Fu(j:Nat)(rc:dy)(self:V→V→Int→Int→Lo→a9)(e:V)(out:V)(yD:Int)(B0:Int)(h:Lo):a9:=
al (decide (B0<yD)) (
J (I (.af 7 (.c out)) h) fun a=>
J (I (.ag (.c a)) h) fun b=>
J (I (.af 7 (.c e)) h) fun g=>
J (I (.ag (.c g)) h) fun i=>
J (I (.cH 8 (.c i) (.c (.int .i64 B0))) h) fun o=>
J (I (.bp 8 (.c o)) h) fun k=>
aN fj k fun l m n p q r s t=>
ad (rc 36 [(.agg [.int .i64 l, .str m, .int .i64 n, .int .i64 p, .str q, .str r, .str s,t])] h) fun u c=>
aN fj u fun v w x y z bQ bZ ac=>
bk (I (.ag (.c a)) c=some b) (
bk (I (.af 7 (.c out)) c=some a) (
ad (aB (.dN 8 (.agg [.int .i64 0,(.str []), .int .i64 0, .int .i64 0,(.str []),(.str []),(.str []), .ab]) 1 [(0,(.c (.agg [.int .i64 v, .str w, .int .i64 x, .int .i64 y, .str z, .str bQ, .str bZ,ac])))]) c) fun b2 d=>
bk (I (.ag (.c a)) d=some b) (
bk (I (.af 7 (.c out)) d=some a) (
ad (aB (.app 8 112 (.c b) (.c b2)) d) fun b9 f=>
J (I (.af 7 (.c out)) f) fun cn=>
ad (aB (.store 1 (.c cn) (.c b9)) f) fun cB cr=>
self e out yD (IntKind.i64.wrap (B0+(1))) cr))))) (
some ((.exit 0),[],h))
def wu(j:Nat)(rc:dy):Nat→V→V→Int→Int→Lo→a9
 |0=>fun _ _ _ _ _=>none
 |n+1=>Fu j rc (wu j rc n)
def adj(j:Nat)(rc:dy)(dK:fv Tryz.prog rc):cz Tryz.prog:= .loop RV (oB j rc dK) [] (cT Tryz.prog Tryz.f36 [1,1,0,1,0,0] []) [aD,aD,aP,aP] [1,3,18,19] [((.exit 0),[],[])] (Fu j rc) (wu j rc) (fun _ _ _ _ _=>rfl) (fun _=>rfl) (fun _ _ _ _ _ _=>by kernel_rfl) j
def rO(j:Nat)(rc:dy)(e:Int)(aV:Lu)(bb:Int)(cb:Int)(dI:Lu)(fQ:Lu)(gS:Lu)(hz:V)(h:Lo):OvL:=
ad (aB (.box false (.c (.agg [.int .i64 e, .str aV, .int .i64 bb, .int .i64 cb, .str dI, .str fQ, .str gS,hz]))) h) fun b o=>
ad (aB (.alloc false (.agg [.int .i64 0,(.str []), .int .i64 0, .int .i64 0,(.str []),(.str []),(.str []), .ab])) o) fun f a=>
J (I (.af 0 (.c b)) a) fun k=>
J (I (.ag (.c k)) a) fun l=>
bt .i64 l fun m=>
J (I (.af 1 (.c b)) a) fun n=>
J (I (.ag (.c n)) a) fun p=>
b1 p fun q=>
J (I (.af 2 (.c b)) a) fun r=>
J (I (.bp 3 (.c r)) a) fun s=>
aN (.agg [aP,aP,a3]) s fun t u v=>
J (I (.af 5 (.c b)) a) fun w=>
J (I (.ag (.c w)) a) fun x=>
b1 x fun y=>
J (I (.af 6 (.c b)) a) fun z=>
J (I (.ag (.c z)) a) fun bQ=>
b1 bQ fun bZ=>
J (I (.build [.int .i64 0,(.str []), .int .i64 0, .int .i64 0,(.str []),(.str []),(.str []), .ab] [(0,(1,(.c (.int .i64 m)))),(1,(1,(.c (.str q)))),(2,(3,(.c (.agg [.int .i64 t, .int .i64 u, .str v])))),(5,(1,(.c (.str y)))),(6,(1,(.c (.str bZ))))]) a) fun ac=>
aN fj ac fun b2 b9 cn cr cB cL cM cO=>
ad (aB (.alloc false (.agg [.int .i64 0,(.str []), .int .i64 0, .int .i64 0,(.str []),(.str []),(.str []), .ab])) a) fun d am=>
ad (aB (.store 8 (.c d) (.c (.agg [.int .i64 b2, .str b9, .int .i64 cn, .int .i64 cr, .str cB, .str cL, .str cM,cO]))) am) fun ec c=>
J (I (.af 7 (.c b)) c) fun cV=>
J (I (.ag (.c cV)) c) fun ap=>
J (I (.cm (.c ap)) c) fun c3=>
bt .i64 c3 fun c8=>
bO (wu j rc j b d c8 (0) c) fun c9 dc g=>
al (decide (c9=(.exit 0))) (
dT dc (
J (I (.bp 8 (.c d)) g) fun c4=>
aN fj c4 fun dD dk dP d_ dV ey eX be=>
ad (aB (.store 8 (.c f) (.c (.agg [.int .i64 dD, .str dk, .int .i64 dP, .int .i64 d_, .str dV, .str ey, .str eX,be]))) g) fun bi i=>
J (dS i 8 f) fun e5=>
some (e5,i))) (
none)
def RW(j:Nat)(rc:dy):Lv→Lo→OvL:=cv [fj] (rO j rc)
theorem Fv(j:Nat)(rc:dy)(dK:fv Tryz.prog rc):cq Tryz.prog 36 (RW j rc):=cG RV (oB j rc dK) [adj j rc dK] [([1,1,0,1,0],0)] [fj] _ Tryz.func36 (by kernel_rfl) (by kernel_rfl) (by kernel_rfl) (fun _ _ _ _ _ _ _ _ _=>by kernel_rfl)
def mL(j:Nat):Nat→dy
 |0=>nh
 |n+1=>nO 36 (RW j (mL j n)) (nh)
theorem Fw(j:Nat):∀n,fv Tryz.prog (mL j n)
 |0=>nQ
 |n+1=>pa (Fv j (mL j n) (Fw j n)) (nQ)
def RX:=cE [(fj,[0,22]),(aP,[1,4,5,6,9,10,12,13,14,16,17,20,23,24,25,26,27,28,29]),(a4,[11,15])]
def uk(j:Nat)(rc:dy)(dK:fv Tryz.prog rc):cd Tryz.prog:= .r .ao dK
def B1(j:Nat)(rc:dy)(self:Int→V→Int→Int→Int→Lo→a9)(gw:Int)(e:V)(lT:Int)(mI:Int)(p1:Int)(h:Lo):a9:=
al (decide (p1<mI)) (
al (decide (lT>gw)) (
some (.ret,[.int .i64 lT],h)) (
J (I (.af 7 (.c e)) h) fun a=>
J (I (.ag (.c a)) h) fun b=>
J (I (.cH 8 (.c b) (.c (.int .i64 p1))) h) fun c=>
J (I (.bp 8 (.c c)) h) fun d=>
aN fj d fun f g i o k l m n=>
ad (rc 55 [(.agg [.int .i64 f, .str g, .int .i64 i, .int .i64 o, .str k, .str l, .str m,n]),(.int .i64 (IntKind.i64.wrap (gw-lT)))] h) fun p q=>
bt .i64 p fun r=>
self gw e (IntKind.i64.wrap (lT+r)) mI (IntKind.i64.wrap (p1+(1))) q)) (
some ((.exit 0),[.int .i64 lT],h))
def um(j:Nat)(rc:dy):Nat→Int→V→Int→Int→Int→Lo→a9
 |0=>fun _ _ _ _ _ _=>none
 |n+1=>B1 j rc (um j rc n)
def adk(j:Nat)(rc:dy)(dK:fv Tryz.prog rc):cz Tryz.prog:= .loop RX (uk j rc dK) [] (cT Tryz.prog Tryz.f55 [1,1,0,1,0,0] []) [aP,aD,aP,aP,aP] [1,2,5,9,10] [((.exit 0),[5],[aP]),(.ret,[4],[aP])] (B1 j rc) (um j rc) (fun _ _ _ _ _ _=>rfl) (fun _=>rfl) (fun _ _ _ _ _ _ _=>by kernel_rfl) j
def yE(j:Nat)(rc:dy)(e:Int)(aV:Lu)(bb:Int)(cb:Int)(dI:Lu)(fQ:Lu)(gS:Lu)(hz:V)(gw:Int)(h:Lo):OvL:=
ad (aB (.box false (.c (.agg [.int .i64 e, .str aV, .int .i64 bb, .int .i64 cb, .str dI, .str fQ, .str gS,hz]))) h) fun b a=>
J (I (.af 7 (.c b)) a) fun g=>
J (I (.ag (.c g)) a) fun i=>
J (I (.cm (.c i)) a) fun o=>
bt .i64 o fun k=>
bO (um j rc j gw b (1) k (0) a) fun c d f=>
al (decide (c=(.exit 0))) (
aZ [aP] d fun l=>
some ((.int .i64 l),f)) (
al (decide (c= .ret)) (
aZ [aP] d fun m=>
some ((.int .i64 m),f)) (
none))
def RY(j:Nat)(rc:dy):Lv→Lo→OvL:=cv [fj,aP] (yE j rc)
theorem RZ(j:Nat)(rc:dy)(dK:fv Tryz.prog rc):cq Tryz.prog 55 (RY j rc):=cG RX (uk j rc dK) [adk j rc dK] [([1,1,0,1,0],0)] [fj,aP] _ Tryz.func55 (by kernel_rfl) (by kernel_rfl) (by kernel_rfl) (fun _ _ _ _ _ _ _ _ _ _=>by kernel_rfl)
def rP(j:Nat):Nat→dy
 |0=>nh
 |n+1=>nO 55 (RY j (rP j n)) (nh)
theorem R0(j:Nat):∀n,fv Tryz.prog (rP j n)
 |0=>nQ
 |n+1=>pa (RZ j (rP j n) (R0 j n)) (nQ)
def adl:=cE [(fj,[0,3]),(a4,[2,5]),(aP,[4])]
def oC(j:Nat):cd Tryz.prog:= .c .ao (RZ j (rP j j) (R0 j j))
def Fx(j:Nat)(e:Int)(aV:Lu)(bb:Int)(cb:Int)(dI:Lu)(fQ:Lu)(gS:Lu)(hz:V)(h:Lo):OvL:=
ad (aB (.box false (.c (.agg [.int .i64 e, .str aV, .int .i64 bb, .int .i64 cb, .str dI, .str fQ, .str gS,hz]))) h) fun b a=>
J (I (.bp 8 (.c b)) a) fun c=>
aN fj c fun d f g i o k l m=>
ad (yE j (rP j j) d f g i o k l m (300) a) fun n p=>
bt .i64 n fun q=>
some ((.bool (decide (q≤(300)))),p)
def adm(j:Nat):Lv→Lo→OvL:=cv [fj] (Fx j)
theorem adn(j:Nat):cq Tryz.prog 12 (adm j):=cG adl (oC j) [] [] [fj] _ Tryz.func12 (by kernel_rfl) (by kernel_rfl) (by kernel_rfl) (fun _ _ _ _ _ _ _ _ _=>by kernel_rfl)
end
end Go.Proofs.YtjpjeilfmjdhcaaGreat.eI
