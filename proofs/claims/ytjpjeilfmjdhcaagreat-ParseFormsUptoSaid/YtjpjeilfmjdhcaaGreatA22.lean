/- Functions of the program as Lean functions, and that each call comes to what its function says. Printed by my own tool. No condition. -/
import Derived.Test.YtjpjeilfmjdhcaaGreatProg
import Derived.Test.YtjpjeilfmjdhcaaGreatA3
import Derived.Test.YtjpjeilfmjdhcaaGreatA20
set_option maxRecDepth 100000
set_option linter.unusedVariables false
set_option linter.unusedSimpArgs false
set_option linter.unnecessarySimpa false
namespace Go.Proofs.YtjpjeilfmjdhcaaGreat.hE
open Go E E.K ep eI fw fC f_
noncomputable section
abbrev al0:dO:= .agg [aP,a3,a3,a4,aD,aD,aD,aD,aD,a4,a4,aD,aD,aD,aD,aD,aP]
abbrev VH:dO:= .bW [al0,aP]
abbrev gH:dO:= .agg [aP,a3,aP,aP,a3,a3,a3,aD]
abbrev jR:dO:= .agg [a4,a4,aD,aD,aD,aD,aD,aP]
abbrev VI:dO:= .agg [aP,a3,aP,aP,a3,a3,a3,aD,a3]
abbrev HQ:dO:= .agg [a3,a3,aP,a3,aP,aP,a3,a3,a3,aD]
abbrev VJ:dO:= .agg [aP,a3,aP,aP,a3,a3,a3,aD,a4]
abbrev De:dO:= .agg [a3,aP,a3,aP,aP,a3,a3,a3,aD]
def al1:=cE [(a4,[0,8,9,12,13,14,17,18]),(aP,[2,6,7,11]),(VH,[3,4]),(a3,[16])]
def jO(j:Nat):cd Tryz.prog:= .c .ao (Hs j)
def ts(j:Nat)(h:Lo):OvL:=
ad (xd j [68,82,79,80,32,84,65,66,76,69,32,116,59] h) fun c d=>
aN VH c fun e f g i o k l m n p q r s t u v w x=>
ad (aB (.alloc false (.agg [.int .i64 0,(.str []),(.str []), .bool false, .ab, .ab, .ab, .ab, .ab, .bool false, .bool false, .ab, .ab, .ab, .ab, .ab, .int .i64 0])) d) fun b y=>
ad (aB (.store 17 (.c b) (.c (.agg [.int .i64 e, .str f, .str g, .bool i,o,k,l,m,n, .bool p, .bool q,r,s,t,u,v, .int .i64 w]))) y) fun cn a=>
al (x==(0)) (
J (I (.af 0 (.c b)) a) fun z=>
J (I (.ag (.c z)) a) fun bQ=>
bt .i64 bQ fun bZ=>
al (bZ==(4)) (
J (I (.af 1 (.c b)) a) fun ac=>
J (I (.ag (.c ac)) a) fun b2=>
b1 b2 fun b9=>
some ((.bool (b9==[116])),a)) (
some ((.bool false),a))) (
some ((.bool false),a))
def z9(j:Nat):Lv→Lo→OvL:=cv [] (ts j)
theorem NJ(j:Nat):cq Tryz.prog 4 (z9 j):=cG al1 (jO j) [] [] [] _ Tryz.func4 (by kernel_rfl) (by kernel_rfl) (by kernel_rfl) (fun _=>by kernel_rfl)
def xg:=cE [(a4,[2,28,43,49,66,84,102,118,121,122,127,128,129,134,135,139,140,141,145,146]),(aP,[4,5,6,7,8,9,26,27,29,33,39,42,44,47,48,50,54,60,64,65,67,72,78,82,83,85,90,96,100,101,103,108,114,116,117,119,120,124,130,133,138,144]),(gH,[57,75,93,111,126])]
def nn(j:Nat):cd Tryz.prog:= .c .ao (adn j)
def HR(j:Nat)(self:V→V→Int→Int→Lo→a9)(s:V)(l:V)(HS:Int)(tq:Int)(h:Lo):a9:=
al (decide (tq<HS)) (
J (I (.af 6 (.c s)) h) fun b=>
J (I (.ag (.c b)) h) fun c=>
J (I (.cH 1 (.c c) (.c (.int .i64 tq))) h) fun d=>
J (I (.ag (.c d)) h) fun e=>
ad (aB (.app 8 112 (.c l) (.c e)) h) fun f a=>
J (I (.af 6 (.c s)) a) fun g=>
J (I (.ag (.c g)) a) fun i=>
J (I (.cH 1 (.c i) (.c (.int .i64 tq))) a) fun o=>
J (I (.ag (.c o)) a) fun k=>
J (I (.cm (.c k)) a) fun m=>
bt .i64 m fun n=>
al (decide (n>(30))) (
some (.ret,[.bool false],a)) (
self s f HS (IntKind.i64.wrap (tq+(1))) a)) (
some ((.exit 0),[l],h))
def z_(j:Nat):Nat→V→V→Int→Int→Lo→a9
 |0=>fun _ _ _ _ _=>none
 |n+1=>HR j (z_ j n)
def al2(j:Nat):cz Tryz.prog:= .loop xg (nn j) [] (cT Tryz.prog Tryz.f5 [1,1,1,1,1,0,1,0,0] []) [aD,aD,aP,aP] [1,3,26,27] [((.exit 0),[3],[aD]),(.ret,[2],[a4])] (HR j) (z_ j) (fun _ _ _ _ _=>rfl) (fun _=>rfl) (fun _ _ _ _ _ _=>by kernel_rfl) j
def HT(j:Nat)(self:V→V→Int→Int→Lo→a9)(s:V)(l:V)(m1:Int)(C9:Int)(h:Lo):a9:=
al (decide (C9<m1)) (
J (I (.af 7 (.c s)) h) fun a=>
J (I (.ag (.c a)) h) fun b=>
J (I (.cH 9 (.c b) (.c (.int .i64 C9))) h) fun c=>
J (I (.af 1 (.c c)) h) fun d=>
J (I (.bp 8 (.c d)) h) fun e=>
aN gH e fun f g i o k m n p=>
ad (aB (.dN 8 (.agg [.int .i64 0,(.str []), .int .i64 0, .int .i64 0,(.str []),(.str []),(.str []), .ab]) 1 [(0,(.c (.agg [.int .i64 f, .str g, .int .i64 i, .int .i64 o, .str k, .str m, .str n,p])))]) h) fun q r=>
ad (aB (.app 8 112 (.c l) (.c q)) r) fun t u=>
self s t m1 (IntKind.i64.wrap (C9+(1))) u) (
some ((.exit 2),[l],h))
def Aa(j:Nat):Nat→V→V→Int→Int→Lo→a9
 |0=>fun _ _ _ _ _=>none
 |n+1=>HT j (Aa j n)
def al3(j:Nat):cz Tryz.prog:= .loop xg (nn j) [] (cT Tryz.prog Tryz.f5 [1,1,1,1,1,1,0,1,0,0] []) [aD,aD,aP,aP] [1,3,47,48] [((.exit 2),[3],[aD])] (HT j) (Aa j) (fun _ _ _ _ _=>rfl) (fun _=>rfl) (fun _ _ _ _ _ _=>by kernel_rfl) j
def HU(j:Nat)(self:V→V→Int→Int→Lo→a9)(s:V)(l:V)(BU:Int)(yH:Int)(h:Lo):a9:=
al (decide (yH<BU)) (
J (I (.af 9 (.c s)) h) fun a=>
J (I (.af 2 (.c a)) h) fun b=>
J (I (.ag (.c b)) h) fun c=>
J (I (.cH 9 (.c c) (.c (.int .i64 yH))) h) fun d=>
J (I (.af 0 (.c d)) h) fun e=>
J (I (.bp 8 (.c e)) h) fun f=>
aN gH f fun g i o k m n p q=>
ad (aB (.dN 8 (.agg [.int .i64 0,(.str []), .int .i64 0, .int .i64 0,(.str []),(.str []),(.str []), .ab]) 1 [(0,(.c (.agg [.int .i64 g, .str i, .int .i64 o, .int .i64 k, .str m, .str n, .str p,q])))]) h) fun r t=>
ad (aB (.app 8 112 (.c l) (.c r)) t) fun u v=>
self s u BU (IntKind.i64.wrap (yH+(1))) v) (
some ((.exit 4),[l],h))
def Ab(j:Nat):Nat→V→V→Int→Int→Lo→a9
 |0=>fun _ _ _ _ _=>none
 |n+1=>HU j (Ab j n)
def al4(j:Nat):cz Tryz.prog:= .loop xg (nn j) [] (cT Tryz.prog Tryz.f5 [1,1,1,1,1,1,1,0,1,0,0] []) [aD,aD,aP,aP] [1,3,64,65] [((.exit 4),[3],[aD])] (HU j) (Ab j) (fun _ _ _ _ _=>rfl) (fun _=>rfl) (fun _ _ _ _ _ _=>by kernel_rfl) j
def HV(j:Nat)(self:V→V→Int→Int→Lo→a9)(s:V)(l:V)(xe:Int)(sT:Int)(h:Lo):a9:=
al (decide (sT<xe)) (
J (I (.af 9 (.c s)) h) fun a=>
J (I (.af 3 (.c a)) h) fun b=>
J (I (.ag (.c b)) h) fun c=>
J (I (.cH 10 (.c c) (.c (.int .i64 sT))) h) fun d=>
J (I (.af 2 (.c d)) h) fun e=>
J (I (.bp 8 (.c e)) h) fun f=>
aN gH f fun g i o k m n p q=>
ad (aB (.dN 8 (.agg [.int .i64 0,(.str []), .int .i64 0, .int .i64 0,(.str []),(.str []),(.str []), .ab]) 1 [(0,(.c (.agg [.int .i64 g, .str i, .int .i64 o, .int .i64 k, .str m, .str n, .str p,q])))]) h) fun r t=>
ad (aB (.app 8 112 (.c l) (.c r)) t) fun u v=>
self s u xe (IntKind.i64.wrap (sT+(1))) v) (
some ((.exit 6),[l],h))
def Ac(j:Nat):Nat→V→V→Int→Int→Lo→a9
 |0=>fun _ _ _ _ _=>none
 |n+1=>HV j (Ac j n)
def al5(j:Nat):cz Tryz.prog:= .loop xg (nn j) [] (cT Tryz.prog Tryz.f5 [1,1,1,1,1,1,1,1,0,1,0,0] []) [aD,aD,aP,aP] [1,3,82,83] [((.exit 6),[3],[aD])] (HV j) (Ac j) (fun _ _ _ _ _=>rfl) (fun _=>rfl) (fun _ _ _ _ _ _=>by kernel_rfl) j
def HW(j:Nat)(self:V→V→Int→Int→Lo→a9)(s:V)(l:V)(Ck:Int)(Cl:Int)(h:Lo):a9:=
al (decide (Cl<Ck)) (
J (I (.af 9 (.c s)) h) fun a=>
J (I (.af 6 (.c a)) h) fun b=>
J (I (.ag (.c b)) h) fun c=>
J (I (.cH 9 (.c c) (.c (.int .i64 Cl))) h) fun d=>
J (I (.af 0 (.c d)) h) fun e=>
J (I (.bp 8 (.c e)) h) fun f=>
aN gH f fun g i o k m n p q=>
ad (aB (.dN 8 (.agg [.int .i64 0,(.str []), .int .i64 0, .int .i64 0,(.str []),(.str []),(.str []), .ab]) 1 [(0,(.c (.agg [.int .i64 g, .str i, .int .i64 o, .int .i64 k, .str m, .str n, .str p,q])))]) h) fun r t=>
ad (aB (.app 8 112 (.c l) (.c r)) t) fun u v=>
self s u Ck (IntKind.i64.wrap (Cl+(1))) v) (
some ((.exit 8),[l],h))
def Ad(j:Nat):Nat→V→V→Int→Int→Lo→a9
 |0=>fun _ _ _ _ _=>none
 |n+1=>HW j (Ad j n)
def al6(j:Nat):cz Tryz.prog:= .loop xg (nn j) [] (cT Tryz.prog Tryz.f5 [1,1,1,1,1,1,1,1,1,0,1,0,0] []) [aD,aD,aP,aP] [1,3,100,101] [((.exit 8),[3],[aD])] (HW j) (Ad j) (fun _ _ _ _ _=>rfl) (fun _=>rfl) (fun _ _ _ _ _ _=>by kernel_rfl) j
def HX(j:Nat)(self:V→Int→Int→Lo→a9)(l:V)(EV:Int)(yn:Int)(h:Lo):a9:=
al (decide (yn<EV)) (
al (decide (yn≥(200))) (
some (.ret,[.bool false],h)) (
J (I (.cH 8 (.c l) (.c (.int .i64 yn))) h) fun b=>
J (I (.bp 8 (.c b)) h) fun c=>
aN gH c fun d e f g i o k m=>
ad (Fx j d e f g i o k m h) fun n a=>
bG n fun p=>
al (!p) (
some (.ret,[.bool false],a)) (
self l EV (IntKind.i64.wrap (yn+(1))) a))) (
some ((.exit 10),[],h))
def Ae(j:Nat):Nat→V→Int→Int→Lo→a9
 |0=>fun _ _ _ _=>none
 |n+1=>HX j (Ae j n)
def al7(j:Nat):cz Tryz.prog:= .loop xg (nn j) [] (cT Tryz.prog Tryz.f5 [1,1,1,1,1,1,1,1,1,1,0,1,0,0] []) [aD,aP,aP] [3,116,117] [((.exit 10),[],[]),(.ret,[2],[a4])] (HX j) (Ae j) (fun _ _ _ _=>rfl) (fun _=>rfl) (fun _ _ _ _ _=>by kernel_rfl) j
def xh(j:Nat)(s:V)(h:Lo):OvL:=
ad (aB (.box false (.c s)) h) fun a k=>
J (I (.af 8 (.c a)) k) fun u=>
J (I (.ag (.c u)) k) fun v=>
ad (aB (.app 8 112 (.c V.ab) (.c v)) k) fun w g=>
J (I (.af 9 (.c a)) g) fun x=>
J (I (.af 4 (.c x)) g) fun y=>
J (I (.ag (.c y)) g) fun z=>
ad (aB (.app 8 112 (.c w) (.c z)) g) fun bQ i=>
J (I (.af 9 (.c a)) i) fun bZ=>
J (I (.af 5 (.c bZ)) i) fun ac=>
J (I (.ag (.c ac)) i) fun b2=>
ad (aB (.app 8 112 (.c bQ) (.c b2)) i) fun b9 o=>
J (I (.af 6 (.c a)) o) fun cn=>
J (I (.ag (.c cn)) o) fun cr=>
J (I (.cm (.c cr)) o) fun cB=>
bt .i64 cB fun cL=>
bO (z_ j j a b9 cL (0) o) fun m n c=>
al (decide (m=(.exit 0))) (
aZ [aD] n fun cM=>
J (I (.af 7 (.c a)) c) fun cO=>
J (I (.ag (.c cO)) c) fun am=>
J (I (.cm (.c am)) c) fun cV=>
bt .i64 cV fun ap=>
bO (Aa j j a cM ap (0) c) fun c3 c8 d=>
al (decide (c3=(.exit 2))) (
aZ [aD] c8 fun c9=>
J (I (.af 9 (.c a)) d) fun dc=>
J (I (.af 2 (.c dc)) d) fun c4=>
J (I (.ag (.c c4)) d) fun dD=>
J (I (.cm (.c dD)) d) fun dk=>
bt .i64 dk fun dP=>
bO (Ab j j a c9 dP (0) d) fun d_ dV e=>
al (decide (d_=(.exit 4))) (
aZ [aD] dV fun ey=>
J (I (.af 9 (.c a)) e) fun eX=>
J (I (.af 3 (.c eX)) e) fun be=>
J (I (.ag (.c be)) e) fun e5=>
J (I (.cm (.c e5)) e) fun ec=>
bt .i64 ec fun bi=>
bO (Ac j j a ey bi (0) e) fun fE fG f=>
al (decide (fE=(.exit 6))) (
aZ [aD] fG fun fk=>
J (I (.af 9 (.c a)) f) fun eD=>
J (I (.af 6 (.c eD)) f) fun gL=>
J (I (.ag (.c gL)) f) fun hh=>
J (I (.cm (.c hh)) f) fun hZ=>
bt .i64 hZ fun hJ=>
bO (Ad j j a fk hJ (0) f) fun fu iB p=>
al (decide (fu=(.exit 8))) (
aZ [aD] iB fun q=>
J (I (.cm (.c q)) p) fun iC=>
bt .i64 iC fun bv=>
bO (Ae j j q bv (0) p) fun r t b=>
al (decide (r=(.exit 10))) (
dT t (
J (I (.af 6 (.c a)) b) fun iM=>
J (I (.ag (.c iM)) b) fun iZ=>
J (I (.cm (.c iZ)) b) fun iD=>
bt .i64 iD fun eB=>
al (decide (eB≤(30))) (
J (I (.af 4 (.c a)) b) fun gE=>
J (I (.ag (.c gE)) b) fun ky=>
J (I (.cm (.c ky)) b) fun gf=>
bt .i64 gf fun ce=>
al (decide (ce≤(50))) (
J (I (.af 5 (.c a)) b) fun k0=>
J (I (.ag (.c k0)) b) fun lU=>
J (I (.cm (.c lU)) b) fun ci=>
bt .i64 ci fun lV=>
some ((.bool (decide (lV≤(50)))),b)) (
some ((.bool false),b))) (
some ((.bool false),b)))) (
al (decide (r= .ret)) (
aZ [a4] t fun l=>
some ((.bool l),b)) (
none))) (
none)) (
none)) (
none)) (
none)) (
al (decide (m= .ret)) (
aZ [a4] n fun l=>
some ((.bool l),c)) (
none))
def Af(j:Nat):Lv→Lo→OvL:=cv [aD] (xh j)
theorem NK(j:Nat):cq Tryz.prog 5 (Af j):=cG xg (nn j) [al2 j,al3 j,al4 j,al5 j,al6 j,al7 j] [([1,1,1,1,1,0,1,0],0),([1,1,1,1,1,1,0,1,0],1),([1,1,1,1,1,1,1,0,1,0],2),([1,1,1,1,1,1,1,1,0,1,0],3),([1,1,1,1,1,1,1,1,1,0,1,0],4),([1,1,1,1,1,1,1,1,1,1,0,1,0],5)] [aD] _ Tryz.func5 (by kernel_rfl) (by kernel_rfl) (by kernel_rfl) (fun _ _=>by kernel_rfl)
def HY:=cE [(aP,[4,8]),(a4,[5,9,10,12,13,17,18,19,22,23,25,26,29,30]),(jR,[20])]
def HZ(j:Nat):cd Tryz.prog:= .ao
def H0(j:Nat)(fR:Int)(h:Lo):a9:=
al (fR==(3)) (
some (.normal,[.bool true],h)) (
some (.normal,[(.bool (fR==(10)))],h))
def al8(j:Nat):cz Tryz.prog:= .of HY (HZ j) [] (cT Tryz.prog Tryz.f21 [1,1,0,1,0,1,1,1,1,0] []) [aP] [8] [(.normal,[17],[a4])] (H0 j) (fun _ _=>by kernel_rfl)
def H2(j:Nat)(s:V)(h:Lo):a9:=
J (I (.af 0 (.c s)) h) fun f=>
J (I (.ag (.c f)) h) fun g=>
bt .i64 g fun c=>
al (c==(1)) (
J (I (.af 4 (.c s)) h) fun i=>
ad (aB (.store 1 (.c i) (.c V.ab)) h) fun d a=>
some (.normal,[],a)) (
al (c==(2)) (
J (I (.af 2 (.c s)) h) fun o=>
ad (aB (.store 1 (.c o) (.c (.str ([]:Lu)))) h) fun d a=>
J (I (.af 3 (.c s)) a) fun k=>
ad (aB (.store 1 (.c k) (.c (.bool false))) a) fun l b=>
J (I (.af 5 (.c s)) b) fun m=>
ad (aB (.store 1 (.c m) (.c V.ab)) b) fun cr e=>
some (.normal,[],e)) (
bO (H0 j c h) fun n p a=>
al (decide (n= .normal)) (
aZ [a4] p fun q=>
al q (
J (I (.build [.bool false, .bool false, .ab, .ab, .ab, .ab, .ab, .int .i64 0] []) a) fun r=>
aN jR r fun t u v w x y z bQ=>
J (I (.af 9 (.c s)) a) fun bZ=>
ad (aB (.store 8 (.c bZ) (.c (.agg [.bool t, .bool u,v,w,x,y,z, .int .i64 bQ]))) a) fun d b=>
some (.normal,[],b)) (
al (c==(7)) (
J (I (.af 6 (.c s)) a) fun ac=>
ad (aB (.store 1 (.c ac) (.c V.ab)) a) fun d b=>
some (.normal,[],b)) (
al (c==(8)) (
J (I (.af 7 (.c s)) a) fun b2=>
ad (aB (.store 1 (.c b2) (.c V.ab)) a) fun d b=>
J (I (.af 8 (.c s)) b) fun b9=>
ad (aB (.store 1 (.c b9) (.c V.ab)) b) fun l e=>
some (.normal,[],e)) (
al (c==(9)) (
J (I (.af 8 (.c s)) a) fun cn=>
ad (aB (.store 1 (.c cn) (.c V.ab)) a) fun d b=>
some (.normal,[],b)) (
some (.normal,[],a)))))) (
none)))
def al9(j:Nat):cz Tryz.prog:= .of HY (HZ j) [al8 j] (cT Tryz.prog Tryz.f21 [1,1,0] [([1,0,1,1,1,1,0],0)]) [aD] [1] [(.normal,[],[])] (H2 j) (fun _ _=>by kernel_rfl)
def H3(j:Nat)(s:V)(h:Lo):a9:=
J (I (.af 0 (.c s)) h) fun a=>
J (I (.ag (.c a)) h) fun b=>
bt .i64 b fun c=>
al (decide (c≤(9))) (
J (I (.af 1 (.c s)) h) fun d=>
ad (aB (.store 1 (.c d) (.c (.str ([]:Lu)))) h) fun f e=>
some (.normal,[],e)) (
some (.normal,[],h))
def al_(j:Nat):cz Tryz.prog:= .of HY (HZ j) [] (cT Tryz.prog Tryz.f21 [1,0] []) [aD] [1] [(.normal,[],[])] (H3 j) (fun _ _=>by kernel_rfl)
def H4(j:Nat)(s:V)(h:Lo):OvL:=
ad (aB (.box false (.c s)) h) fun a e=>
ad (aB (.alloc false (.agg [.int .i64 0,(.str []),(.str []), .bool false, .ab, .ab, .ab, .ab, .ab, .bool false, .bool false, .ab, .ab, .ab, .ab, .ab, .int .i64 0])) e) fun b f=>
bO (H3 j a f) fun g i o=>
al (decide (g= .normal)) (
dT i (
bO (H2 j a o) fun k l c=>
al (decide (k= .normal)) (
dT l (
J (I (.bp 17 (.c a)) c) fun m=>
ad (aB (.store 17 (.c b) (.c m)) c) fun p d=>
J (dS d 17 b) fun n=>
some (n,d))) (
none))) (
none)
def ama(j:Nat):Lv→Lo→OvL:=cv [aD] (H4 j)
theorem amb(j:Nat):cq Tryz.prog 21 (ama j):=cG HY (HZ j) [al_ j,al9 j] [([1,0],0),([1,1,0],1)] [aD] _ Tryz.func21 (by kernel_rfl) (by kernel_rfl) (by kernel_rfl) (fun _ _=>by kernel_rfl)
def amc:=cE [(gH,[0,3]),(a4,[2,4,5])]
def amd(j:Nat):cd Tryz.prog:= .c .ao (LF j)
def NL(j:Nat)(e:Int)(aV:Lu)(bb:Int)(cb:Int)(dI:Lu)(fQ:Lu)(gS:Lu)(hz:V)(h:Lo):OvL:=
ad (aB (.box false (.c (.agg [.int .i64 e, .str aV, .int .i64 bb, .int .i64 cb, .str dI, .str fQ, .str gS,hz]))) h) fun b a=>
J (I (.bp 8 (.c b)) a) fun c=>
aN gH c fun d f g i o k l m=>
ad (rM j d f g i o k l m a) fun n p=>
bG n fun q=>
some ((.bool (!q)),p)
def H5(j:Nat):Lv→Lo→OvL:=cv [gH] (NL j)
theorem ame(j:Nat):cq Tryz.prog 67 (H5 j):=cG amc (amd j) [] [] [gH] _ Tryz.func67 (by kernel_rfl) (by kernel_rfl) (by kernel_rfl) (fun _ _ _ _ _ _ _ _ _=>by kernel_rfl)
def NM(j:Nat):bK:=ju 67 (H5 j) (nP)
theorem VK(j:Nat):dC Tryz.prog (NM j):=j1 (ame j) (ot)
def amf:=cE [(a4,[2,4,5])]
def amg(j:Nat):cd Tryz.prog:= .v (.c .ao (RF j (NM j) (VK j))) (VK j)
def xi(j:Nat)(l:V)(h:Lo):OvL:=
ad (yv j (NM j) l (.fn 67 []) h) fun a b=>
bG a fun c=>
some ((.bool (!c)),b)
def amh(j:Nat):Lv→Lo→OvL:=cv [aD] (xi j)
theorem NN(j:Nat):cq Tryz.prog 22 (amh j):=cG amf (amg j) [] [] [aD] _ Tryz.func22 (by kernel_rfl) (by kernel_rfl) (by kernel_rfl) (fun _ _=>by kernel_rfl)
def VL:=cE [(aP,[4,5,7,8,10,13,17,18]),(a4,[9,16]),(.agg [a3,aP,a4,a4],[15])]
def VM(j:Nat)(ay:bK)(b3:dC Tryz.prog ay):cd Tryz.prog:= .v .ao b3
def H6(j:Nat)(ay:bK)(self:V→V→Int→Int→Lo→a9)(s:V)(f:V)(fX:Int)(fR:Int)(h:Lo):a9:=
al (decide (fR<fX)) (
J (I (.cH 4 (.c s) (.c (.int .i64 fR))) h) fun b=>
J (I (.bp 4 (.c b)) h) fun c=>
aN (.agg [a3,aP,a4,a4]) c fun d e g i=>
ad (ay f [(.agg [.str d, .int .i64 e, .bool g, .bool i])] h) fun o a=>
bG o fun k=>
al k (
some (.ret,[.int .i64 fR],a)) (
self s f fX (IntKind.i64.wrap (fR+(1))) a)) (
some ((.exit 0),[],h))
def Ag(j:Nat)(ay:bK):Nat→V→V→Int→Int→Lo→a9
 |0=>fun _ _ _ _ _=>none
 |n+1=>H6 j ay (Ag j ay n)
def ami(j:Nat)(ay:bK)(b3:dC Tryz.prog ay):cz Tryz.prog:= .loop VL (VM j ay b3) [] (cT Tryz.prog Tryz.f69 [1,0,1,0,0] []) [aD,aD,aP,aP] [0,1,7,8] [((.exit 0),[],[]),(.ret,[4],[aP])] (H6 j ay) (Ag j ay) (fun _ _ _ _ _=>rfl) (fun _=>rfl) (fun _ _ _ _ _ _=>by kernel_rfl) j
def NO(j:Nat)(ay:bK)(s:V)(f:V)(h:Lo):OvL:=
J (I (.cm (.c s)) h) fun d=>
bt .i64 d fun e=>
bO (Ag j ay j s f e (0) h) fun a b c=>
al (decide (a=(.exit 0))) (
dT b (
some ((.int .i64 (-1)),c))) (
al (decide (a= .ret)) (
aZ [aP] b fun g=>
some ((.int .i64 g),c)) (
none))
def amj(j:Nat)(ay:bK):Lv→Lo→OvL:=cv [aD,aD] (NO j ay)
theorem amk(j:Nat)(ay:bK)(b3:dC Tryz.prog ay):cq Tryz.prog 69 (amj j ay):=cG VL (VM j ay b3) [ami j ay b3] [([1,0,1,0],0)] [aD,aD] _ Tryz.func69 (by kernel_rfl) (by kernel_rfl) (by kernel_rfl) (fun _ _ _=>by kernel_rfl)
def aml:=cE [(a4,[4,8]),(aP,[7])]
def w_(j:Nat)(ay:bK)(b3:dC Tryz.prog ay):cd Tryz.prog:= .v (.c .ao (amk j ay b3)) b3
def H7(j:Nat)(ay:bK)(s:V)(f:V)(h:Lo):OvL:=
ad (NO j ay s f h) fun a b=>
bt .i64 a fun c=>
some ((.bool (decide (c≥(0)))),b)
def amm(j:Nat)(ay:bK):Lv→Lo→OvL:=cv [aD,aD] (H7 j ay)
theorem amn(j:Nat)(ay:bK)(b3:dC Tryz.prog ay):cq Tryz.prog 24 (amm j ay):=cG aml (w_ j ay b3) [] [] [aD,aD] _ Tryz.func24 (by kernel_rfl) (by kernel_rfl) (by kernel_rfl) (fun _ _ _=>by kernel_rfl)
def amo:=cE [(.agg [a3,aP,a4,a4],[0]),(a4,[2,5,6,7,10,11,14,15,16]),(a3,[4]),(aP,[9,13])]
def amp(j:Nat):cd Tryz.prog:= .c .ao (yr j)
def NP(j:Nat)(c:Lu)(bF:Int)(bD:Bool)(b8:Bool)(h:Lo):OvL:=
ad (aB (.box false (.c (.agg [.str c, .int .i64 bF, .bool bD, .bool b8]))) h) fun b d=>
J (I (.af 0 (.c b)) d) fun e=>
J (I (.ag (.c e)) d) fun f=>
b1 f fun g=>
ad (oz j g d) fun i a=>
bG i fun o=>
al (!o) (
some ((.bool true),a)) (
J (I (.af 1 (.c b)) a) fun k=>
J (I (.ag (.c k)) a) fun l=>
bt .i64 l fun m=>
al (m !=(1)) (
J (I (.af 1 (.c b)) a) fun n=>
J (I (.ag (.c n)) a) fun p=>
bt .i64 p fun q=>
some ((.bool (q !=(2))),a)) (
some ((.bool false),a)))
def H8(j:Nat):Lv→Lo→OvL:=cv [.agg [a3,aP,a4,a4]] (NP j)
theorem amq(j:Nat):cq Tryz.prog 25 (H8 j):=cG amo (amp j) [] [] [.agg [a3,aP,a4,a4]] _ Tryz.func25 (by kernel_rfl) (by kernel_rfl) (by kernel_rfl) (fun _ _ _ _ _=>by kernel_rfl)
def amr:=cE [(a4,[4,8]),(aP,[7])]
def HS(j:Nat)(ay:bK)(b3:dC Tryz.prog ay):cd Tryz.prog:= .v (.c .ao (Ru j ay b3)) b3
def H9(j:Nat)(ay:bK)(s:V)(f:V)(h:Lo):OvL:=
ad (ym j ay s f h) fun a b=>
bt .i64 a fun c=>
some ((.bool (decide (c≥(0)))),b)
def ams(j:Nat)(ay:bK):Lv→Lo→OvL:=cv [aD,aD] (H9 j ay)
theorem amt(j:Nat)(ay:bK)(b3:dC Tryz.prog ay):cq Tryz.prog 26 (ams j ay):=cG amr (HS j ay b3) [] [] [aD,aD] _ Tryz.func26 (by kernel_rfl) (by kernel_rfl) (by kernel_rfl) (fun _ _ _=>by kernel_rfl)
def amu:=cE [(a3,[0,3]),(a4,[2,4,5])]
def tq(j:Nat):cd Tryz.prog:= .c .ao (yr j)
def NQ(j:Nat)(k:Lu)(h:Lo):OvL:=
ad (oz j k h) fun a b=>
bG a fun c=>
some ((.bool (!c)),b)
def H_(j:Nat):Lv→Lo→OvL:=cv [a3] (NQ j)
theorem amv(j:Nat):cq Tryz.prog 27 (H_ j):=cG amu (tq j) [] [] [a3] _ Tryz.func27 (by kernel_rfl) (by kernel_rfl) (by kernel_rfl) (fun _ _=>by kernel_rfl)
def Df:=cE [(jR,[0]),(a4,[2,7,14,19,20,21,24,25,28,29,30,31,37,43,44,45,48,49,50,52,53,54,58,59,60,61,62,63,64,67,68,69,70,76,81,82,85,89,90,91,95,96,97,100,101,102,106,107,108,111,112,113,116,117]),(aP,[5,12,13,32,35,36,38,51,71,74,75,83,88,94,99,105]),(VI,[16]),(gH,[18,56,57,66,80]),(a3,[23,27,42,47]),(HQ,[40]),(VJ,[78])]
def qT(j:Nat):cd Tryz.prog:= .c (.c (.c (.c .ao (NN j)) (yr j)) (LF j)) (sW j (ir j j) (sX j j))
def Ia(j:Nat)(self:V→Int→Int→Lo→a9)(si:V)(oC:Int)(jM:Int)(h:Lo):a9:=
al (decide (jM<oC)) (
J (I (.cH 9 (.c si) (.c (.int .i64 jM))) h) fun e=>
J (I (.bp 9 (.c e)) h) fun f=>
aN VI f fun g i o k l m n p q=>
ad (aB (.alloc false (.agg [.int .i64 0,(.str []), .int .i64 0, .int .i64 0,(.str []),(.str []),(.str []), .ab,(.str [])])) h) fun b r=>
ad (aB (.store 9 (.c b) (.c (.agg [.int .i64 g, .str i, .int .i64 o, .int .i64 k, .str l, .str m, .str n,p, .str q]))) r) fun cV c=>
J (I (.af 0 (.c b)) c) fun s=>
J (I (.bp 8 (.c s)) c) fun t=>
aN gH t fun u v w x y z bQ bZ=>
ad (rM j u v w x y z bQ bZ c) fun ac a=>
bG ac fun b2=>
al (!b2) (
some (.ret,[.bool false],a)) (
J (I (.af 8 (.c b)) a) fun b9=>
J (I (.ag (.c b9)) a) fun cn=>
b1 cn fun cr=>
al (!(cr==([]:Lu))) (
J (I (.af 8 (.c b)) a) fun cB=>
J (I (.ag (.c cB)) a) fun cL=>
b1 cL fun cM=>
ad (oz j cM a) fun cO d=>
bG cO fun am=>
al (!am) (
some (.ret,[.bool false],d)) (
self si oC (IntKind.i64.wrap (jM+(1))) d)) (
self si oC (IntKind.i64.wrap (jM+(1))) a))) (
some ((.exit 0),[],h))
def xj(j:Nat):Nat→V→Int→Int→Lo→a9
 |0=>fun _ _ _ _=>none
 |n+1=>Ia j (xj j n)
def amw(j:Nat):cz Tryz.prog:= .loop Df (qT j) [] (cT Tryz.prog Tryz.f28 [1,0,1,0,0] []) [aD,aP,aP] [11,12,13] [((.exit 0),[],[]),(.ret,[2],[a4])] (Ia j) (xj j) (fun _ _ _ _=>rfl) (fun _=>rfl) (fun _ _ _ _ _=>by kernel_rfl) j
def Ib(j:Nat)(s:V)(h:Lo):a9:=
J (I (.af 0 (.c s)) h) fun c=>
J (I (.ag (.c c)) h) fun d=>
b1 d fun e=>
ad (oz j e h) fun f a=>
bG f fun g=>
al (!g) (
some (.ret,[.bool false],a)) (
J (I (.af 1 (.c s)) a) fun i=>
J (I (.ag (.c i)) a) fun o=>
b1 o fun k=>
ad (oz j k a) fun l b=>
bG l fun m=>
al (!m) (
some (.ret,[.bool false],b)) (
some (.normal,[],b)))
def amx(j:Nat):cz Tryz.prog:= .of Df (qT j) [] (cT Tryz.prog Tryz.f28 [1,1,0,1,0,0,1,1,0,0,1,0] []) [aD] [6] [(.ret,[2],[a4]),(.normal,[],[])] (Ib j) (fun _ _=>by kernel_rfl)
def Ic(j:Nat)(self:V→Int→Int→Lo→a9)(uo:V)(r9:Int)(oB:Int)(h:Lo):a9:=
al (decide (oB<r9)) (
J (I (.cH 10 (.c uo) (.c (.int .i64 oB))) h) fun u=>
J (I (.bp 10 (.c u)) h) fun v=>
aN HQ v fun w x y z bQ bZ ac b2 b9 cn=>
ad (aB (.alloc false (.agg [(.str []),(.str []), .int .i64 0,(.str []), .int .i64 0, .int .i64 0,(.str []),(.str []),(.str []), .ab])) h) fun c cr=>
ad (aB (.store 10 (.c c) (.c (.agg [.str w, .str x, .int .i64 y, .str z, .int .i64 bQ, .int .i64 bZ, .str ac, .str b2, .str b9,cn]))) cr) fun fE cB=>
bO (Ib j c cB) fun r s a=>
al (decide (r= .ret)) (
aZ [a4] s fun cL=>
some (.ret,[.bool cL],a)) (
al (decide (r= .normal)) (
dT s (
al (oB==(0)) (
J (I (.af 2 (.c c)) a) fun cM=>
J (I (.bp 8 (.c cM)) a) fun d=>
aN gH d fun cO am cV ap c3 c8 c9 dc=>
J (I (.build [.int .i64 0,(.str []), .int .i64 0, .int .i64 0,(.str []),(.str []),(.str []), .ab] []) a) fun e=>
aN gH e fun c4 dD dk dP d_ dV ey eX=>
ad (rK j (ir j j) cO am cV ap c3 c8 c9 dc c4 dD dk dP d_ dV ey eX a) fun be b=>
bG be fun e5=>
al (!e5) (
some (.ret,[.bool false],b)) (
al (!(oB==(0))) (
J (I (.af 2 (.c c)) b) fun f=>
J (I (.bp 8 (.c f)) b) fun ec=>
aN gH ec fun g i o k l m n p=>
ad (rM j g i o k l m n p b) fun bi t=>
bG bi fun q=>
al (!q) (
some (.ret,[.bool false],t)) (
self uo r9 (IntKind.i64.wrap (oB+(1))) t)) (
self uo r9 (IntKind.i64.wrap (oB+(1))) b))) (
al (!(oB==(0))) (
J (I (.af 2 (.c c)) a) fun f=>
J (I (.bp 8 (.c f)) a) fun d=>
aN gH d fun g i o k l m n p=>
ad (rM j g i o k l m n p a) fun e b=>
bG e fun q=>
al (!q) (
some (.ret,[.bool false],b)) (
self uo r9 (IntKind.i64.wrap (oB+(1))) b)) (
self uo r9 (IntKind.i64.wrap (oB+(1))) a)))) (
none))) (
some ((.exit 2),[],h))
def xk(j:Nat):Nat→V→Int→Int→Lo→a9
 |0=>fun _ _ _ _=>none
 |n+1=>Ic j (xk j n)
def amy(j:Nat):cz Tryz.prog:= .loop Df (qT j) [amx j] (cT Tryz.prog Tryz.f28 [1,1,0,1,0,0] [([1,1,0,0,1,0],0)]) [aD,aP,aP] [34,35,36] [((.exit 2),[],[]),(.ret,[2],[a4])] (Ic j) (xk j) (fun _ _ _ _=>rfl) (fun _=>rfl) (fun _ _ _ _ _=>by kernel_rfl) j
def Ie(j:Nat)(self:V→Int→Int→Lo→a9)(qJ:V)(uh:Int)(pf:Int)(h:Lo):a9:=
al (decide (pf<uh)) (
J (I (.cH 9 (.c qJ) (.c (.int .i64 pf))) h) fun d=>
J (I (.bp 9 (.c d)) h) fun e=>
aN VJ e fun f g i o k l m n p=>
ad (aB (.alloc false (.agg [.int .i64 0,(.str []), .int .i64 0, .int .i64 0,(.str []),(.str []),(.str []), .ab, .bool false])) h) fun b q=>
ad (aB (.store 9 (.c b) (.c (.agg [.int .i64 f, .str g, .int .i64 i, .int .i64 o, .str k, .str l, .str m,n, .bool p]))) q) fun b2 a=>
J (I (.af 0 (.c b)) a) fun r=>
J (I (.bp 8 (.c r)) a) fun s=>
aN gH s fun t u v w x y z bQ=>
ad (rM j t u v w x y z bQ a) fun bZ c=>
bG bZ fun ac=>
al (!ac) (
some (.ret,[.bool false],c)) (
self qJ uh (IntKind.i64.wrap (pf+(1))) c)) (
some ((.exit 4),[],h))
def xl(j:Nat):Nat→V→Int→Int→Lo→a9
 |0=>fun _ _ _ _=>none
 |n+1=>Ie j (xl j n)
def amz(j:Nat):cz Tryz.prog:= .loop Df (qT j) [] (cT Tryz.prog Tryz.f28 [1,1,1,0,1,0,0] []) [aD,aP,aP] [73,74,75] [((.exit 4),[],[]),(.ret,[2],[a4])] (Ie j) (xl j) (fun _ _ _ _=>rfl) (fun _=>rfl) (fun _ _ _ _ _=>by kernel_rfl) j
def Ig(j:Nat)(q:Bool)(aE:Bool)(aR:V)(bE:V)(bS:V)(dn:V)(ej:V)(fy:Int)(h:Lo):OvL:=
ad (aB (.box false (.c (.agg [.bool q, .bool aE,aR,bE,bS,dn,ej, .int .i64 fy]))) h) fun b f=>
J (I (.af 2 (.c b)) f) fun t=>
J (I (.ag (.c t)) f) fun i=>
J (I (.cm (.c i)) f) fun u=>
bt .i64 u fun v=>
bO (xj j j i v (0) f) fun o k c=>
al (decide (o=(.exit 0))) (
dT k (
J (I (.af 3 (.c b)) c) fun w=>
J (I (.ag (.c w)) c) fun l=>
J (I (.cm (.c l)) c) fun x=>
bt .i64 x fun y=>
bO (xk j j l y (0) c) fun m n d=>
al (decide (m=(.exit 2))) (
dT n (
J (I (.af 6 (.c b)) d) fun z=>
J (I (.ag (.c z)) d) fun p=>
J (I (.cm (.c p)) d) fun bQ=>
bt .i64 bQ fun bZ=>
bO (xl j j p bZ (0) d) fun r s a=>
al (decide (r=(.exit 4))) (
dT s (
J (I (.af 1 (.c b)) a) fun ac=>
J (I (.ag (.c ac)) a) fun b2=>
bG b2 fun b9=>
J (I (.af 2 (.c b)) a) fun cn=>
J (I (.ag (.c cn)) a) fun cr=>
J (I (.cm (.c cr)) a) fun cB=>
bt .i64 cB fun cL=>
al (b9==(cL==(0))) (
J (I (.af 3 (.c b)) a) fun cM=>
J (I (.ag (.c cM)) a) fun cO=>
J (I (.cm (.c cO)) a) fun am=>
bt .i64 am fun cV=>
al (decide (cV>(0))) (
J (I (.af 7 (.c b)) a) fun ap=>
J (I (.ag (.c ap)) a) fun c3=>
bt .i64 c3 fun c8=>
al (decide (c8≥(-1))) (
J (I (.af 4 (.c b)) a) fun c9=>
J (I (.ag (.c c9)) a) fun dc=>
J (I (.cm (.c dc)) a) fun c4=>
bt .i64 c4 fun dD=>
al (decide (dD<(2))) (
J (I (.af 4 (.c b)) a) fun dk=>
J (I (.ag (.c dk)) a) fun dP=>
ad (xi j dP a) fun d_ g=>
bG d_ fun dV=>
al dV (
J (I (.af 5 (.c b)) g) fun ey=>
J (I (.ag (.c ey)) g) fun eX=>
ad (xi j eX g) fun be e5=>
bG be fun ec=>
some ((.bool ec),e5)) (
some ((.bool false),g))) (
some ((.bool false),a))) (
some ((.bool false),a))) (
some ((.bool false),a))) (
some ((.bool false),a)))) (
al (decide (r= .ret)) (
aZ [a4] s fun e=>
some ((.bool e),a)) (
none)))) (
al (decide (m= .ret)) (
aZ [a4] n fun e=>
some ((.bool e),d)) (
none)))) (
al (decide (o= .ret)) (
aZ [a4] k fun e=>
some ((.bool e),c)) (
none))
def amA(j:Nat):Lv→Lo→OvL:=cv [jR] (Ig j)
theorem amB(j:Nat):cq Tryz.prog 28 (amA j):=cG Df (qT j) [amw j,amy j,amz j] [([1,0,1,0],0),([1,1,0,1,0],1),([1,1,1,0,1,0],2)] [jR] _ Tryz.func28 (by kernel_rfl) (by kernel_rfl) (by kernel_rfl) (fun _ _ _ _ _ _ _ _ _=>by kernel_rfl)
def VN:=cE [(aP,[4,5,7,8,10,13,17,18]),(a4,[9,16])]
def VO(j:Nat)(ay:bK)(b3:dC Tryz.prog ay):cd Tryz.prog:= .v .ao b3
def Ih(j:Nat)(ay:bK)(self:V→V→Int→Int→Lo→a9)(s:V)(f:V)(fX:Int)(fR:Int)(h:Lo):a9:=
al (decide (fR<fX)) (
J (I (.cH 1 (.c s) (.c (.int .i64 fR))) h) fun b=>
J (I (.ag (.c b)) h) fun c=>
ad (ay f [c] h) fun d a=>
bG d fun e=>
al e (
some (.ret,[.int .i64 fR],a)) (
self s f fX (IntKind.i64.wrap (fR+(1))) a)) (
some ((.exit 0),[],h))
def Ah(j:Nat)(ay:bK):Nat→V→V→Int→Int→Lo→a9
 |0=>fun _ _ _ _ _=>none
 |n+1=>Ih j ay (Ah j ay n)
def amC(j:Nat)(ay:bK)(b3:dC Tryz.prog ay):cz Tryz.prog:= .loop VN (VO j ay b3) [] (cT Tryz.prog Tryz.f71 [1,0,1,0,0] []) [aD,aD,aP,aP] [0,1,7,8] [((.exit 0),[],[]),(.ret,[4],[aP])] (Ih j ay) (Ah j ay) (fun _ _ _ _ _=>rfl) (fun _=>rfl) (fun _ _ _ _ _ _=>by kernel_rfl) j
def NR(j:Nat)(ay:bK)(s:V)(f:V)(h:Lo):OvL:=
J (I (.cm (.c s)) h) fun d=>
bt .i64 d fun e=>
bO (Ah j ay j s f e (0) h) fun a b c=>
al (decide (a=(.exit 0))) (
dT b (
some ((.int .i64 (-1)),c))) (
al (decide (a= .ret)) (
aZ [aP] b fun g=>
some ((.int .i64 g),c)) (
none))
def amD(j:Nat)(ay:bK):Lv→Lo→OvL:=cv [aD,aD] (NR j ay)
theorem amE(j:Nat)(ay:bK)(b3:dC Tryz.prog ay):cq Tryz.prog 71 (amD j ay):=cG VN (VO j ay b3) [amC j ay b3] [([1,0,1,0],0)] [aD,aD] _ Tryz.func71 (by kernel_rfl) (by kernel_rfl) (by kernel_rfl) (fun _ _ _=>by kernel_rfl)
def amF:=cE [(a4,[4,8]),(aP,[7])]
def CD(j:Nat)(ay:bK)(b3:dC Tryz.prog ay):cd Tryz.prog:= .v (.c .ao (amE j ay b3)) b3
def Ii(j:Nat)(ay:bK)(s:V)(f:V)(h:Lo):OvL:=
ad (NR j ay s f h) fun a b=>
bt .i64 a fun c=>
some ((.bool (decide (c≥(0)))),b)
def amG(j:Nat)(ay:bK):Lv→Lo→OvL:=cv [aD,aD] (Ii j ay)
theorem amH(j:Nat)(ay:bK)(b3:dC Tryz.prog ay):cq Tryz.prog 29 (amG j ay):=cG amF (CD j ay b3) [] [] [aD,aD] _ Tryz.func29 (by kernel_rfl) (by kernel_rfl) (by kernel_rfl) (fun _ _ _=>by kernel_rfl)
def amI:=cE [(a4,[2,5,6,8,9,10]),(aP,[4])]
def Hq(j:Nat):cd Tryz.prog:= .c .ao (NN j)
def NS(j:Nat)(row:V)(h:Lo):OvL:=
J (I (.cm (.c row)) h) fun a=>
bt .i64 a fun b=>
al (b==(0)) (
some ((.bool true),h)) (
ad (xi j row h) fun c d=>
bG c fun e=>
some ((.bool (!e)),d))
def Ij(j:Nat):Lv→Lo→OvL:=cv [aD] (NS j)
theorem amJ(j:Nat):cq Tryz.prog 30 (Ij j):=cG amI (Hq j) [] [] [aD] _ Tryz.func30 (by kernel_rfl) (by kernel_rfl) (by kernel_rfl) (fun _ _=>by kernel_rfl)
def VP:=cE [(aP,[4,5,7,8,10,13,17,18]),(a4,[9,16]),(De,[15])]
def Dg(j:Nat)(ay:bK)(b3:dC Tryz.prog ay):cd Tryz.prog:= .v .ao b3
def Ik(j:Nat)(ay:bK)(self:V→V→Int→Int→Lo→a9)(s:V)(f:V)(fX:Int)(fR:Int)(h:Lo):a9:=
al (decide (fR<fX)) (
J (I (.cH 9 (.c s) (.c (.int .i64 fR))) h) fun b=>
J (I (.bp 9 (.c b)) h) fun c=>
aN De c fun d e g i o k l m n=>
ad (ay f [(.agg [.str d, .int .i64 e, .str g, .int .i64 i, .int .i64 o, .str k, .str l, .str m,n])] h) fun p a=>
bG p fun q=>
al q (
some (.ret,[.int .i64 fR],a)) (
self s f fX (IntKind.i64.wrap (fR+(1))) a)) (
some ((.exit 0),[],h))
def Ai(j:Nat)(ay:bK):Nat→V→V→Int→Int→Lo→a9
 |0=>fun _ _ _ _ _=>none
 |n+1=>Ik j ay (Ai j ay n)
def amK(j:Nat)(ay:bK)(b3:dC Tryz.prog ay):cz Tryz.prog:= .loop VP (Dg j ay b3) [] (cT Tryz.prog Tryz.f72 [1,0,1,0,0] []) [aD,aD,aP,aP] [0,1,7,8] [((.exit 0),[],[]),(.ret,[4],[aP])] (Ik j ay) (Ai j ay) (fun _ _ _ _ _=>rfl) (fun _=>rfl) (fun _ _ _ _ _ _=>by kernel_rfl) j
def NT(j:Nat)(ay:bK)(s:V)(f:V)(h:Lo):OvL:=
J (I (.cm (.c s)) h) fun d=>
bt .i64 d fun e=>
bO (Ai j ay j s f e (0) h) fun a b c=>
al (decide (a=(.exit 0))) (
dT b (
some ((.int .i64 (-1)),c))) (
al (decide (a= .ret)) (
aZ [aP] b fun g=>
some ((.int .i64 g),c)) (
none))
def amL(j:Nat)(ay:bK):Lv→Lo→OvL:=cv [aD,aD] (NT j ay)
theorem amM(j:Nat)(ay:bK)(b3:dC Tryz.prog ay):cq Tryz.prog 72 (amL j ay):=cG VP (Dg j ay b3) [amK j ay b3] [([1,0,1,0],0)] [aD,aD] _ Tryz.func72 (by kernel_rfl) (by kernel_rfl) (by kernel_rfl) (fun _ _ _=>by kernel_rfl)
def amN:=cE [(a4,[4,8]),(aP,[7])]
def C7(j:Nat)(ay:bK)(b3:dC Tryz.prog ay):cd Tryz.prog:= .v (.c .ao (amM j ay b3)) b3
def Il(j:Nat)(ay:bK)(s:V)(f:V)(h:Lo):OvL:=
ad (NT j ay s f h) fun a b=>
bt .i64 a fun c=>
some ((.bool (decide (c≥(0)))),b)
def amO(j:Nat)(ay:bK):Lv→Lo→OvL:=cv [aD,aD] (Il j ay)
theorem amP(j:Nat)(ay:bK)(b3:dC Tryz.prog ay):cq Tryz.prog 31 (amO j ay):=cG amN (C7 j ay b3) [] [] [aD,aD] _ Tryz.func31 (by kernel_rfl) (by kernel_rfl) (by kernel_rfl) (fun _ _ _=>by kernel_rfl)
def amQ:=cE [(De,[0]),(a4,[2,5,6,7,10,11,12]),(a3,[4]),(gH,[9])]
def Cr(j:Nat):cd Tryz.prog:= .c (.c .ao (yr j)) (LF j)
def NU(j:Nat)(a:Lu)(b5:Int)(cI:Lu)(fo:Int)(gC:Int)(gb:Lu)(g8:Lu)(ie:Lu)(ke:V)(h:Lo):OvL:=
ad (aB (.box false (.c (.agg [.str a, .int .i64 b5, .str cI, .int .i64 fo, .int .i64 gC, .str gb, .str g8, .str ie,ke]))) h) fun d c=>
J (I (.af 0 (.c d)) c) fun e=>
J (I (.ag (.c e)) c) fun f=>
b1 f fun g=>
ad (oz j g c) fun i b=>
bG i fun o=>
al (!o) (
some ((.bool true),b)) (
J (I (.af 1 (.c d)) b) fun k=>
J (I (.bp 8 (.c k)) b) fun l=>
aN gH l fun m n p q r s t u=>
ad (rM j m n p q r s t u b) fun v w=>
bG v fun x=>
some ((.bool (!x)),w))
def Im(j:Nat):Lv→Lo→OvL:=cv [De] (NU j)
theorem amR(j:Nat):cq Tryz.prog 32 (Im j):=cG amQ (Cr j) [] [] [De] _ Tryz.func32 (by kernel_rfl) (by kernel_rfl) (by kernel_rfl) (fun _ _ _ _ _ _ _ _ _ _=>by kernel_rfl)
def tt(j:Nat):bK:=ju 32 (Im j) (ju 30 (Ij j) (ju 27 (H_ j) (ju 25 (H8 j) (nP))))
theorem Dh(j:Nat):dC Tryz.prog (tt j):=j1 (amR j) (j1 (amJ j) (j1 (amv j) (j1 (amq j) (ot))))
def Io:=cE [(a4,[2,5,6,9,10,11,17,18,19,20,22,23,24,28,29,30,33,34,35,38,39,42,43,44,47,48,52,53,56,57,58,59,60,63,64,68,69,70,73,74,75,76,77,78,81,82,83,87,88,91,92,93,94,95,99,100,103,104,105]),(aP,[4,8,15,27,37,46,51,67,86,98]),(a3,[41,62]),(jR,[80])]
def fX(j:Nat):cd Tryz.prog:= .v (.c (.c (.c (.c (.c (.c (.c (.c (.c (.c .ao (HO j)) (Ve j)) (amb j)) (NN j)) (yr j)) (amn j (tt j) (Dh j))) (amt j (tt j) (Dh j))) (amB j)) (amH j (tt j) (Dh j))) (amP j (tt j) (Dh j))) (Dh j)
def Ip(j:Nat)(s:V)(h:Lo):a9:=
J (I (.af 0 (.c s)) h) fun f=>
J (I (.ag (.c f)) h) fun g=>
bt .i64 g fun i=>
al (decide (i<(1))) (
some (.normal,[.bool true],h)) (
J (I (.af 0 (.c s)) h) fun o=>
J (I (.ag (.c o)) h) fun k=>
bt .i64 k fun l=>
al (decide (l>(13))) (
some (.normal,[.bool true],h)) (
J (I (.bp 17 (.c s)) h) fun m=>
J (I (.af 0 (.c s)) h) fun b=>
J (I (.ag (.c b)) h) fun n=>
bt .i64 n fun e=>
J (I (.build [.int .i64 0,(.str []),(.str []), .bool false, .ab, .ab, .ab, .ab, .ab, .bool false, .bool false, .ab, .ab, .ab, .ab, .ab, .int .i64 0] [(0,(1,(.c (.int .i64 e))))]) h) fun p=>
ad (H4 j m h) fun q c=>
bk (I (.ag (.c b)) c=some (.int .i64 e)) (
bk (I (.af 0 (.c s)) c=some b) (
ad (uW j q p c) fun r d=>
bG r fun t=>
al (!t) (
some (.normal,[.bool true],d)) (
J (I (.bp 17 (.c s)) d) fun u=>
ad (C8 j u d) fun v a=>
bG v fun w=>
al w (
some (.normal,[.bool true],a)) (
J (I (.af 8 (.c s)) a) fun x=>
J (I (.ag (.c x)) a) fun y=>
J (I (.cm (.c y)) a) fun z=>
bt .i64 z fun bQ=>
al (decide (bQ>(1))) (
some (.normal,[.bool true],a)) (
J (I (.af 8 (.c s)) a) fun bZ=>
J (I (.ag (.c bZ)) a) fun ac=>
ad (xi j ac a) fun b2 b9=>
bG b2 fun cn=>
some (.normal,[(.bool (!cn))],b9))))))))
def amS(j:Nat):cz Tryz.prog:= .of Io (fX j) [] (cT Tryz.prog Tryz.f7 [1,0,0] []) [aD] [1] [(.normal,[35],[a4])] (Ip j) (fun _ _=>by kernel_rfl)
def Iq(j:Nat)(mJ:Int)(h:Lo):a9:=
al (mJ==(3)) (
some (.normal,[.bool true],h)) (
some (.normal,[(.bool (mJ==(10)))],h))
def amT(j:Nat):cz Tryz.prog:= .of Io (fX j) [] (cT Tryz.prog Tryz.f7 [1,1,1,0,1,0,1,1,1,1,0] []) [aP] [46] [(.normal,[76],[a4])] (Iq j) (fun _ _=>by kernel_rfl)
def Ir(j:Nat)(s:V)(h:Lo):a9:=
J (I (.af 0 (.c s)) h) fun b=>
J (I (.ag (.c b)) h) fun c=>
bt .i64 c fun d=>
al (decide (d≤(9))) (
J (I (.af 1 (.c s)) h) fun e=>
J (I (.ag (.c e)) h) fun f=>
b1 f fun g=>
ad (oz j g h) fun i a=>
bG i fun o=>
al (!o) (
some (.ret,[.bool false],a)) (
some (.normal,[],a))) (
some (.normal,[],h))
def amU(j:Nat):cz Tryz.prog:= .of Io (fX j) [] (cT Tryz.prog Tryz.f7 [1,1,0] []) [aD] [1] [(.ret,[2],[a4]),(.normal,[],[])] (Ir j) (fun _ _=>by kernel_rfl)
def xm(j:Nat)(s:V)(h:Lo):OvL:=
ad (aB (.box false (.c s)) h) fun c l=>
bO (Ip j c l) fun m n i=>
al (decide (m= .normal)) (
aZ [a4] n fun p=>
al p (
some ((.bool false),i)) (
bO (Ir j c i) fun o k b=>
al (decide (o= .ret)) (
aZ [a4] k fun q=>
some ((.bool q),b)) (
al (decide (o= .normal)) (
dT k (
J (I (.af 0 (.c c)) b) fun r=>
J (I (.ag (.c r)) b) fun t=>
bt .i64 t fun g=>
al (g==(1)) (
J (I (.af 4 (.c c)) b) fun u=>
J (I (.ag (.c u)) b) fun v=>
J (I (.cm (.c v)) b) fun d=>
bt .i64 d fun w=>
al (decide (w>(0))) (
J (I (.af 4 (.c c)) b) fun x=>
J (I (.ag (.c x)) b) fun y=>
ad (H7 j (tt j) y (.fn 25 []) b) fun e a=>
bG e fun z=>
some ((.bool (!z)),a)) (
some ((.bool false),b))) (
al (g==(2)) (
J (I (.af 2 (.c c)) b) fun bQ=>
J (I (.ag (.c bQ)) b) fun d=>
b1 d fun bZ=>
ad (oz j bZ b) fun e a=>
bG e fun ac=>
al ac (
J (I (.af 5 (.c c)) a) fun b2=>
J (I (.ag (.c b2)) a) fun b9=>
J (I (.cm (.c b9)) a) fun cn=>
bt .i64 cn fun cr=>
al (decide (cr>(0))) (
J (I (.af 5 (.c c)) a) fun cB=>
J (I (.ag (.c cB)) a) fun cL=>
ad (H9 j (tt j) cL (.fn 27 []) a) fun cM f=>
bG cM fun cO=>
some ((.bool (!cO)),f)) (
some ((.bool false),a))) (
some ((.bool false),a))) (
bO (Iq j g b) fun am cV a=>
al (decide (am= .normal)) (
aZ [a4] cV fun ap=>
al ap (
J (I (.af 9 (.c c)) a) fun c3=>
J (I (.bp 8 (.c c3)) a) fun d=>
aN jR d fun c8 c9 dc c4 dD dk dP d_=>
ad (Ig j c8 c9 dc c4 dD dk dP d_ a) fun e f=>
bG e fun dV=>
some ((.bool dV),f)) (
al (g==(7)) (
J (I (.af 6 (.c c)) a) fun ey=>
J (I (.ag (.c ey)) a) fun eX=>
J (I (.cm (.c eX)) a) fun d=>
bt .i64 d fun be=>
al (decide (be>(0))) (
J (I (.af 6 (.c c)) a) fun e5=>
J (I (.ag (.c e5)) a) fun ec=>
ad (Ii j (tt j) ec (.fn 30 []) a) fun e f=>
bG e fun bi=>
some ((.bool (!bi)),f)) (
some ((.bool false),a))) (
al (g==(8)) (
J (I (.af 7 (.c c)) a) fun fE=>
J (I (.ag (.c fE)) a) fun fG=>
J (I (.cm (.c fG)) a) fun d=>
bt .i64 d fun fk=>
al (decide (fk>(0))) (
J (I (.af 7 (.c c)) a) fun eD=>
J (I (.ag (.c eD)) a) fun gL=>
ad (Il j (tt j) gL (.fn 32 []) a) fun e f=>
bG e fun hh=>
some ((.bool (!hh)),f)) (
some ((.bool false),a))) (
some ((.bool true),a))))) (
none))))) (
none)))) (
none)
def Aj(j:Nat):Lv→Lo→OvL:=cv [aD] (xm j)
theorem NV(j:Nat):cq Tryz.prog 7 (Aj j):=cG Io (fX j) [amS j,amU j,amT j] [([1,0,0],0),([1,1,0],1),([1,1,1,0,1,0,1,1,1,1,0],2)] [aD] _ Tryz.func7 (by kernel_rfl) (by kernel_rfl) (by kernel_rfl) (fun _ _=>by kernel_rfl)
def VQ:=cE [(a4,[4,10,14,24,25]),(aP,[5,7,9,12,13,15,17,21,26]),(gH,[19,23])]
def VR(j:Nat):cd Tryz.prog:= .c .ao (BY j (lp j j) (BZ j j))
def Is(j:Nat)(self:V→V→Int→Int→Lo→a9)(a:V)(b:V)(oC:Int)(jM:Int)(h:Lo):a9:=
al (decide (jM<oC)) (
J (I (.cH 8 (.c a) (.c (.int .i64 jM))) h) fun d=>
J (I (.bp 8 (.c d)) h) fun e=>
aN gH e fun f g i o k l m n=>
J (I (.cH 8 (.c b) (.c (.int .i64 jM))) h) fun p=>
J (I (.bp 8 (.c p)) h) fun q=>
aN gH q fun r s t u v w x y=>
ad (qK j (lp j j) f g i o k l m n r s t u v w x y h) fun z c=>
bG z fun bQ=>
al (!bQ) (
some (.ret,[.bool false],c)) (
self a b oC (IntKind.i64.wrap (jM+(1))) c)) (
some ((.exit 0),[],h))
def Ak(j:Nat):Nat→V→V→Int→Int→Lo→a9
 |0=>fun _ _ _ _ _=>none
 |n+1=>Is j (Ak j n)
def amV(j:Nat):cz Tryz.prog:= .loop VQ (VR j) [] (cT Tryz.prog Tryz.f52 [1,1,0,1,0,0] []) [aD,aD,aP,aP] [0,1,12,13] [((.exit 0),[],[]),(.ret,[4],[a4])] (Is j) (Ak j) (fun _ _ _ _ _=>rfl) (fun _=>rfl) (fun _ _ _ _ _ _=>by kernel_rfl) j
def xn(j:Nat)(a:V)(b:V)(h:Lo):OvL:=
J (I (.cm (.c a)) h) fun f=>
bt .i64 f fun g=>
J (I (.cm (.c b)) h) fun i=>
bt .i64 i fun o=>
al (g !=o) (
some ((.bool false),h)) (
J (I (.cm (.c a)) h) fun k=>
bt .i64 k fun l=>
bO (Ak j j a b l (0) h) fun c d e=>
al (decide (c=(.exit 0))) (
dT d (
some ((.bool true),e))) (
al (decide (c= .ret)) (
aZ [a4] d fun m=>
some ((.bool m),e)) (
none)))
def amW(j:Nat):Lv→Lo→OvL:=cv [aD,aD] (xn j)
theorem VS(j:Nat):cq Tryz.prog 52 (amW j):=cG VQ (VR j) [amV j] [([1,1,0,1,0],0)] [aD,aD] _ Tryz.func52 (by kernel_rfl) (by kernel_rfl) (by kernel_rfl) (fun _ _ _=>by kernel_rfl)
def Di:=cE [(jR,[0,1]),(a4,[4,9,11,12,13,15,17,18,19,20,25,26,27,34,35,36,43,44,45,52,53,54,59,60,61,62,67,68,69,74,88,89,102,103,104,110,124,125,138,139,140,153,154,155,161,168,174,175,176,189,190,191]),(aP,[5,6,7,22,24,30,33,39,42,48,51,72,73,75,78,84,92,98,105,108,109,111,114,120,128,134,143,149,156,159,160,162,165,171,179,185,192]),(a3,[81,87,117,123,131,137]),(gH,[95,101,146,152,182,188])]
def Dj(j:Nat):cd Tryz.prog:= .c (.c .ao (VS j)) (BY j (lp j j) (BZ j j))
def It(j:Nat)(a:V)(b:V)(h:Lo):a9:=
J (I (.af 0 (.c a)) h) fun d=>
J (I (.ag (.c d)) h) fun e=>
bG e fun f=>
J (I (.af 0 (.c b)) h) fun g=>
J (I (.ag (.c g)) h) fun i=>
bG i fun o=>
al (!(f==o)) (
some (.normal,[.bool true],h)) (
J (I (.af 1 (.c a)) h) fun k=>
J (I (.ag (.c k)) h) fun l=>
bG l fun m=>
J (I (.af 1 (.c b)) h) fun n=>
J (I (.ag (.c n)) h) fun p=>
bG p fun q=>
al (!(m==q)) (
some (.normal,[.bool true],h)) (
J (I (.af 7 (.c a)) h) fun r=>
J (I (.ag (.c r)) h) fun s=>
bt .i64 s fun t=>
J (I (.af 7 (.c b)) h) fun u=>
J (I (.ag (.c u)) h) fun v=>
bt .i64 v fun w=>
al (t !=w) (
some (.normal,[.bool true],h)) (
J (I (.af 2 (.c a)) h) fun x=>
J (I (.ag (.c x)) h) fun y=>
J (I (.cm (.c y)) h) fun z=>
bt .i64 z fun bQ=>
J (I (.af 2 (.c b)) h) fun bZ=>
J (I (.ag (.c bZ)) h) fun ac=>
J (I (.cm (.c ac)) h) fun b2=>
bt .i64 b2 fun b9=>
al (bQ !=b9) (
some (.normal,[.bool true],h)) (
J (I (.af 3 (.c a)) h) fun cn=>
J (I (.ag (.c cn)) h) fun cr=>
J (I (.cm (.c cr)) h) fun cB=>
bt .i64 cB fun cL=>
J (I (.af 3 (.c b)) h) fun cM=>
J (I (.ag (.c cM)) h) fun cO=>
J (I (.cm (.c cO)) h) fun am=>
bt .i64 am fun cV=>
al (cL !=cV) (
some (.normal,[.bool true],h)) (
J (I (.af 6 (.c a)) h) fun ap=>
J (I (.ag (.c ap)) h) fun c3=>
J (I (.cm (.c c3)) h) fun c8=>
bt .i64 c8 fun c9=>
J (I (.af 6 (.c b)) h) fun dc=>
J (I (.ag (.c dc)) h) fun c4=>
J (I (.cm (.c c4)) h) fun dD=>
bt .i64 dD fun dk=>
al (c9 !=dk) (
some (.normal,[.bool true],h)) (
J (I (.af 4 (.c a)) h) fun dP=>
J (I (.ag (.c dP)) h) fun d_=>
J (I (.af 4 (.c b)) h) fun dV=>
J (I (.ag (.c dV)) h) fun ey=>
ad (xn j d_ ey h) fun eX c=>
bG eX fun be=>
al (!be) (
some (.normal,[.bool true],c)) (
J (I (.af 5 (.c a)) c) fun e5=>
J (I (.ag (.c e5)) c) fun ec=>
J (I (.af 5 (.c b)) c) fun bi=>
J (I (.ag (.c bi)) c) fun fE=>
ad (xn j ec fE c) fun fG fk=>
bG fG fun eD=>
some (.normal,[(.bool (!eD))],fk))))))))
def amX(j:Nat):cz Tryz.prog:= .of Di (Dj j) [] (cT Tryz.prog Tryz.f53 [1,0,0] []) [aD,aD] [2,3] [(.normal,[69],[a4])] (It j) (fun _ _ _=>by kernel_rfl)
def Iu(j:Nat)(self:V→V→Int→Int→Lo→a9)(a:V)(b:V)(Dg:Int)(qJ:Int)(h:Lo):a9:=
al (decide (qJ<Dg)) (
J (I (.af 2 (.c a)) h) fun d=>
J (I (.ag (.c d)) h) fun e=>
J (I (.cH 9 (.c e) (.c (.int .i64 qJ))) h) fun f=>
J (I (.af 8 (.c f)) h) fun g=>
J (I (.ag (.c g)) h) fun i=>
b1 i fun o=>
J (I (.af 2 (.c b)) h) fun k=>
J (I (.ag (.c k)) h) fun l=>
J (I (.cH 9 (.c l) (.c (.int .i64 qJ))) h) fun m=>
J (I (.af 8 (.c m)) h) fun n=>
J (I (.ag (.c n)) h) fun p=>
b1 p fun q=>
al (!(o==q)) (
some (.ret,[.bool false],h)) (
J (I (.af 2 (.c a)) h) fun r=>
J (I (.ag (.c r)) h) fun s=>
J (I (.cH 9 (.c s) (.c (.int .i64 qJ))) h) fun t=>
J (I (.af 0 (.c t)) h) fun u=>
J (I (.bp 8 (.c u)) h) fun v=>
aN gH v fun w x y z bQ bZ ac b2=>
J (I (.af 2 (.c b)) h) fun b9=>
J (I (.ag (.c b9)) h) fun cn=>
J (I (.cH 9 (.c cn) (.c (.int .i64 qJ))) h) fun cr=>
J (I (.af 0 (.c cr)) h) fun cB=>
J (I (.bp 8 (.c cB)) h) fun cL=>
aN gH cL fun cM cO am cV ap c3 c8 c9=>
ad (qK j (lp j j) w x y z bQ bZ ac b2 cM cO am cV ap c3 c8 c9 h) fun dc c=>
bG dc fun c4=>
al (!c4) (
some (.ret,[.bool false],c)) (
self a b Dg (IntKind.i64.wrap (qJ+(1))) c))) (
some ((.exit 0),[],h))
def xo(j:Nat):Nat→V→V→Int→Int→Lo→a9
 |0=>fun _ _ _ _ _=>none
 |n+1=>Iu j (xo j n)
def amY(j:Nat):cz Tryz.prog:= .loop Di (Dj j) [] (cT Tryz.prog Tryz.f53 [1,1,0,1,0,0] []) [aD,aD,aP,aP] [2,3,72,73] [((.exit 0),[],[]),(.ret,[4],[a4])] (Iu j) (xo j) (fun _ _ _ _ _=>rfl) (fun _=>rfl) (fun _ _ _ _ _ _=>by kernel_rfl) j
def Iv(j:Nat)(self:V→V→Int→Int→Lo→a9)(a:V)(b:V)(s0:Int)(rR:Int)(h:Lo):a9:=
al (decide (rR<s0)) (
J (I (.af 3 (.c a)) h) fun d=>
J (I (.ag (.c d)) h) fun e=>
J (I (.cH 10 (.c e) (.c (.int .i64 rR))) h) fun f=>
J (I (.af 0 (.c f)) h) fun g=>
J (I (.ag (.c g)) h) fun i=>
b1 i fun o=>
J (I (.af 3 (.c b)) h) fun k=>
J (I (.ag (.c k)) h) fun l=>
J (I (.cH 10 (.c l) (.c (.int .i64 rR))) h) fun m=>
J (I (.af 0 (.c m)) h) fun n=>
J (I (.ag (.c n)) h) fun p=>
b1 p fun q=>
al (!(o==q)) (
some (.ret,[.bool false],h)) (
J (I (.af 3 (.c a)) h) fun r=>
J (I (.ag (.c r)) h) fun s=>
J (I (.cH 10 (.c s) (.c (.int .i64 rR))) h) fun t=>
J (I (.af 1 (.c t)) h) fun u=>
J (I (.ag (.c u)) h) fun v=>
b1 v fun w=>
J (I (.af 3 (.c b)) h) fun x=>
J (I (.ag (.c x)) h) fun y=>
J (I (.cH 10 (.c y) (.c (.int .i64 rR))) h) fun z=>
J (I (.af 1 (.c z)) h) fun bQ=>
J (I (.ag (.c bQ)) h) fun bZ=>
b1 bZ fun ac=>
al (!(w==ac)) (
some (.ret,[.bool false],h)) (
J (I (.af 3 (.c a)) h) fun b2=>
J (I (.ag (.c b2)) h) fun b9=>
J (I (.cH 10 (.c b9) (.c (.int .i64 rR))) h) fun cn=>
J (I (.af 2 (.c cn)) h) fun cr=>
J (I (.bp 8 (.c cr)) h) fun cB=>
aN gH cB fun cL cM cO am cV ap c3 c8=>
J (I (.af 3 (.c b)) h) fun c9=>
J (I (.ag (.c c9)) h) fun dc=>
J (I (.cH 10 (.c dc) (.c (.int .i64 rR))) h) fun c4=>
J (I (.af 2 (.c c4)) h) fun dD=>
J (I (.bp 8 (.c dD)) h) fun dk=>
aN gH dk fun dP d_ dV ey eX be e5 ec=>
ad (qK j (lp j j) cL cM cO am cV ap c3 c8 dP d_ dV ey eX be e5 ec h) fun bi c=>
bG bi fun fE=>
al (!fE) (
some (.ret,[.bool false],c)) (
self a b s0 (IntKind.i64.wrap (rR+(1))) c)))) (
some ((.exit 2),[],h))
def xp(j:Nat):Nat→V→V→Int→Int→Lo→a9
 |0=>fun _ _ _ _ _=>none
 |n+1=>Iv j (xp j n)
def amZ(j:Nat):cz Tryz.prog:= .loop Di (Dj j) [] (cT Tryz.prog Tryz.f53 [1,1,1,0,1,0,0] []) [aD,aD,aP,aP] [2,3,108,109] [((.exit 2),[],[]),(.ret,[4],[a4])] (Iv j) (xp j) (fun _ _ _ _ _=>rfl) (fun _=>rfl) (fun _ _ _ _ _ _=>by kernel_rfl) j
def Iw(j:Nat)(self:V→V→Int→Int→Lo→a9)(a:V)(b:V)(VT:Int)(Al:Int)(h:Lo):a9:=
al (decide (Al<VT)) (
J (I (.af 6 (.c a)) h) fun d=>
J (I (.ag (.c d)) h) fun e=>
J (I (.cH 9 (.c e) (.c (.int .i64 Al))) h) fun f=>
J (I (.af 8 (.c f)) h) fun g=>
J (I (.ag (.c g)) h) fun i=>
bG i fun o=>
J (I (.af 6 (.c b)) h) fun k=>
J (I (.ag (.c k)) h) fun l=>
J (I (.cH 9 (.c l) (.c (.int .i64 Al))) h) fun m=>
J (I (.af 8 (.c m)) h) fun n=>
J (I (.ag (.c n)) h) fun p=>
bG p fun q=>
al (!(o==q)) (
some (.ret,[.bool false],h)) (
J (I (.af 6 (.c a)) h) fun r=>
J (I (.ag (.c r)) h) fun s=>
J (I (.cH 9 (.c s) (.c (.int .i64 Al))) h) fun t=>
J (I (.af 0 (.c t)) h) fun u=>
J (I (.bp 8 (.c u)) h) fun v=>
aN gH v fun w x y z bQ bZ ac b2=>
J (I (.af 6 (.c b)) h) fun b9=>
J (I (.ag (.c b9)) h) fun cn=>
J (I (.cH 9 (.c cn) (.c (.int .i64 Al))) h) fun cr=>
J (I (.af 0 (.c cr)) h) fun cB=>
J (I (.bp 8 (.c cB)) h) fun cL=>
aN gH cL fun cM cO am cV ap c3 c8 c9=>
ad (qK j (lp j j) w x y z bQ bZ ac b2 cM cO am cV ap c3 c8 c9 h) fun dc c=>
bG dc fun c4=>
al (!c4) (
some (.ret,[.bool false],c)) (
self a b VT (IntKind.i64.wrap (Al+(1))) c))) (
some ((.exit 4),[],h))
def xq(j:Nat):Nat→V→V→Int→Int→Lo→a9
 |0=>fun _ _ _ _ _=>none
 |n+1=>Iw j (xq j n)
def am0(j:Nat):cz Tryz.prog:= .loop Di (Dj j) [] (cT Tryz.prog Tryz.f53 [1,1,1,1,0,1,0,0] []) [aD,aD,aP,aP] [2,3,159,160] [((.exit 4),[],[]),(.ret,[4],[a4])] (Iw j) (xq j) (fun _ _ _ _ _=>rfl) (fun _=>rfl) (fun _ _ _ _ _ _=>by kernel_rfl) j
def Ix(j:Nat)(a:Bool)(b5:Bool)(cI:V)(fo:V)(gC:V)(gb:V)(g8:V)(ie:Int)(b:Bool)(dL:Bool)(fL:V)(j5:V)(kH:V)(jw:V)(j6:V)(j7:Int)(h:Lo):OvL:=
ad (aB (.box false (.c (.agg [.bool a, .bool b5,cI,fo,gC,gb,g8, .int .i64 ie]))) h) fun c r=>
ad (aB (.box false (.c (.agg [.bool b, .bool dL,fL,j5,kH,jw,j6, .int .i64 j7]))) r) fun i s=>
bO (It j c i s) fun t u d=>
al (decide (t= .normal)) (
aZ [a4] u fun v=>
al v (
some ((.bool false),d)) (
J (I (.af 2 (.c c)) d) fun w=>
J (I (.ag (.c w)) d) fun x=>
J (I (.cm (.c x)) d) fun y=>
bt .i64 y fun z=>
bO (xo j j c i z (0) d) fun o k e=>
al (decide (o=(.exit 0))) (
dT k (
J (I (.af 3 (.c c)) e) fun bQ=>
J (I (.ag (.c bQ)) e) fun bZ=>
J (I (.cm (.c bZ)) e) fun ac=>
bt .i64 ac fun b2=>
bO (xp j j c i b2 (0) e) fun l m f=>
al (decide (l=(.exit 2))) (
dT m (
J (I (.af 6 (.c c)) f) fun b9=>
J (I (.ag (.c b9)) f) fun cn=>
J (I (.cm (.c cn)) f) fun cr=>
bt .i64 cr fun cB=>
bO (xq j j c i cB (0) f) fun n p q=>
al (decide (n=(.exit 4))) (
dT p (
some ((.bool true),q))) (
al (decide (n= .ret)) (
aZ [a4] p fun g=>
some ((.bool g),q)) (
none)))) (
al (decide (l= .ret)) (
aZ [a4] m fun g=>
some ((.bool g),f)) (
none)))) (
al (decide (o= .ret)) (
aZ [a4] k fun g=>
some ((.bool g),e)) (
none)))) (
none)
def am1(j:Nat):Lv→Lo→OvL:=cv [jR,jR] (Ix j)
theorem am2(j:Nat):cq Tryz.prog 53 (am1 j):=cG Di (Dj j) [amX j,amY j,amZ j,am0 j] [([1,0,0],0),([1,1,0,1,0],1),([1,1,1,0,1,0],2),([1,1,1,1,0,1,0],3)] [jR,jR] _ Tryz.func53 (by kernel_rfl) (by kernel_rfl) (by kernel_rfl) (fun _ _ _ _ _ _ _ _ _ _ _ _ _ _ _ _ _=>by kernel_rfl)
def Am:=cE [(a4,[4,13,14,19,20,21,26,27,28,30,32,33,34,35,42,43,44,51,52,53,60,61,62,69,70,71,76,77,78,79,84,85,86,91,103,109,121,127,139,140,146,160,161,174,175,176]),(aP,[5,6,7,8,10,12,38,41,47,50,56,59,65,68,89,90,92,95,100,104,107,108,110,113,118,122,125,126,128,131,136,141,144,145,147,150,156,164,170,177]),(a3,[16,18,23,25,115,120,153,159]),(jR,[81,83]),(.agg [a3,aP,a4,a4],[97,102]),(gH,[167,173])]
def si(j:Nat):cd Tryz.prog:= .c (.c (.c .ao (VS j)) (am2 j)) (BY j (lp j j) (BZ j j))
def Iy(j:Nat)(a:V)(b:V)(h:Lo):a9:=
J (I (.af 0 (.c a)) h) fun d=>
J (I (.ag (.c d)) h) fun e=>
bt .i64 e fun f=>
J (I (.af 0 (.c b)) h) fun g=>
J (I (.ag (.c g)) h) fun i=>
bt .i64 i fun o=>
al (f !=o) (
some (.normal,[.bool true],h)) (
J (I (.af 1 (.c a)) h) fun k=>
J (I (.ag (.c k)) h) fun l=>
b1 l fun m=>
J (I (.af 1 (.c b)) h) fun n=>
J (I (.ag (.c n)) h) fun p=>
b1 p fun q=>
al (!(m==q)) (
some (.normal,[.bool true],h)) (
J (I (.af 2 (.c a)) h) fun r=>
J (I (.ag (.c r)) h) fun s=>
b1 s fun t=>
J (I (.af 2 (.c b)) h) fun u=>
J (I (.ag (.c u)) h) fun v=>
b1 v fun w=>
al (!(t==w)) (
some (.normal,[.bool true],h)) (
J (I (.af 3 (.c a)) h) fun x=>
J (I (.ag (.c x)) h) fun y=>
bG y fun z=>
J (I (.af 3 (.c b)) h) fun bQ=>
J (I (.ag (.c bQ)) h) fun bZ=>
bG bZ fun ac=>
al (!(z==ac)) (
some (.normal,[.bool true],h)) (
J (I (.af 4 (.c a)) h) fun b2=>
J (I (.ag (.c b2)) h) fun b9=>
J (I (.cm (.c b9)) h) fun cn=>
bt .i64 cn fun cr=>
J (I (.af 4 (.c b)) h) fun cB=>
J (I (.ag (.c cB)) h) fun cL=>
J (I (.cm (.c cL)) h) fun cM=>
bt .i64 cM fun cO=>
al (cr !=cO) (
some (.normal,[.bool true],h)) (
J (I (.af 5 (.c a)) h) fun am=>
J (I (.ag (.c am)) h) fun cV=>
J (I (.cm (.c cV)) h) fun ap=>
bt .i64 ap fun c3=>
J (I (.af 5 (.c b)) h) fun c8=>
J (I (.ag (.c c8)) h) fun c9=>
J (I (.cm (.c c9)) h) fun dc=>
bt .i64 dc fun c4=>
al (c3 !=c4) (
some (.normal,[.bool true],h)) (
J (I (.af 6 (.c a)) h) fun dD=>
J (I (.ag (.c dD)) h) fun dk=>
J (I (.cm (.c dk)) h) fun dP=>
bt .i64 dP fun d_=>
J (I (.af 6 (.c b)) h) fun dV=>
J (I (.ag (.c dV)) h) fun ey=>
J (I (.cm (.c ey)) h) fun eX=>
bt .i64 eX fun be=>
al (d_ !=be) (
some (.normal,[.bool true],h)) (
J (I (.af 7 (.c a)) h) fun e5=>
J (I (.ag (.c e5)) h) fun ec=>
J (I (.cm (.c ec)) h) fun bi=>
bt .i64 bi fun fE=>
J (I (.af 7 (.c b)) h) fun fG=>
J (I (.ag (.c fG)) h) fun fk=>
J (I (.cm (.c fk)) h) fun eD=>
bt .i64 eD fun gL=>
al (fE !=gL) (
some (.normal,[.bool true],h)) (
J (I (.af 8 (.c a)) h) fun hh=>
J (I (.ag (.c hh)) h) fun hZ=>
J (I (.af 8 (.c b)) h) fun hJ=>
J (I (.ag (.c hJ)) h) fun fu=>
ad (xn j hZ fu h) fun iB c=>
bG iB fun iC=>
al (!iC) (
some (.normal,[.bool true],c)) (
J (I (.af 9 (.c a)) c) fun bv=>
J (I (.bp 8 (.c bv)) c) fun iM=>
aN jR iM fun iZ iD eB gE ky gf ce k0=>
J (I (.af 9 (.c b)) c) fun lU=>
J (I (.bp 8 (.c lU)) c) fun ci=>
aN jR ci fun lV mM c7 mN mO mP mQ mR=>
ad (Ix j iZ iD eB gE ky gf ce k0 lV mM c7 mN mO mP mQ mR c) fun cs nU=>
bG cs fun ph=>
some (.normal,[(.bool (!ph))],nU))))))))))
def am3(j:Nat):cz Tryz.prog:= .of Am (si j) [] (cT Tryz.prog Tryz.f11 [1,0,0] []) [aD,aD] [2,3] [(.normal,[86],[a4])] (Iy j) (fun _ _ _=>by kernel_rfl)
def Iz(j:Nat)(self:V→V→Int→Int→Lo→a9)(a:V)(b:V)(BP:Int)(yo:Int)(h:Lo):a9:=
al (decide (yo<BP)) (
J (I (.af 4 (.c a)) h) fun c=>
J (I (.ag (.c c)) h) fun d=>
J (I (.cH 4 (.c d) (.c (.int .i64 yo))) h) fun e=>
J (I (.bp 4 (.c e)) h) fun f=>
aN (.agg [a3,aP,a4,a4]) f fun g i o k=>
J (I (.af 4 (.c b)) h) fun l=>
J (I (.ag (.c l)) h) fun m=>
J (I (.cH 4 (.c m) (.c (.int .i64 yo))) h) fun n=>
J (I (.bp 4 (.c n)) h) fun p=>
aN (.agg [a3,aP,a4,a4]) p fun q r s t=>
J (I (.eq true (.struct 4 [(0, .s),(1, .i),(2, .b),(3, .b)]) (.c (.agg [.str g, .int .i64 i, .bool o, .bool k])) (.c (.agg [.str q, .int .i64 r, .bool s, .bool t]))) h) fun u=>
bG u fun v=>
al v (
some (.ret,[.bool false],h)) (
self a b BP (IntKind.i64.wrap (yo+(1))) h)) (
some ((.exit 0),[],h))
def xr(j:Nat):Nat→V→V→Int→Int→Lo→a9
 |0=>fun _ _ _ _ _=>none
 |n+1=>Iz j (xr j n)
def am4(j:Nat):cz Tryz.prog:= .loop Am (si j) [] (cT Tryz.prog Tryz.f11 [1,1,0,1,0,0] []) [aD,aD,aP,aP] [2,3,89,90] [((.exit 0),[],[]),(.ret,[4],[a4])] (Iz j) (xr j) (fun _ _ _ _ _=>rfl) (fun _=>rfl) (fun _ _ _ _ _ _=>by kernel_rfl) j
def IA(j:Nat)(self:V→V→Int→Int→Lo→a9)(a:V)(b:V)(Cc:Int)(s0:Int)(h:Lo):a9:=
al (decide (s0<Cc)) (
J (I (.af 5 (.c a)) h) fun c=>
J (I (.ag (.c c)) h) fun d=>
J (I (.cH 1 (.c d) (.c (.int .i64 s0))) h) fun e=>
J (I (.ag (.c e)) h) fun f=>
b1 f fun g=>
J (I (.af 5 (.c b)) h) fun i=>
J (I (.ag (.c i)) h) fun o=>
J (I (.cH 1 (.c o) (.c (.int .i64 s0))) h) fun k=>
J (I (.ag (.c k)) h) fun l=>
b1 l fun m=>
al (!(g==m)) (
some (.ret,[.bool false],h)) (
self a b Cc (IntKind.i64.wrap (s0+(1))) h)) (
some ((.exit 2),[],h))
def xt(j:Nat):Nat→V→V→Int→Int→Lo→a9
 |0=>fun _ _ _ _ _=>none
 |n+1=>IA j (xt j n)
def am5(j:Nat):cz Tryz.prog:= .loop Am (si j) [] (cT Tryz.prog Tryz.f11 [1,1,1,0,1,0,0] []) [aD,aD,aP,aP] [2,3,107,108] [((.exit 2),[],[]),(.ret,[4],[a4])] (IA j) (xt j) (fun _ _ _ _ _=>rfl) (fun _=>rfl) (fun _ _ _ _ _ _=>by kernel_rfl) j
def IB(j:Nat)(self:V→V→Int→Int→Lo→a9)(a:V)(b:V)(Fl:Int)(wq:Int)(h:Lo):a9:=
al (decide (wq<Fl)) (
J (I (.af 6 (.c a)) h) fun d=>
J (I (.ag (.c d)) h) fun e=>
J (I (.cH 1 (.c e) (.c (.int .i64 wq))) h) fun f=>
J (I (.ag (.c f)) h) fun g=>
J (I (.af 6 (.c b)) h) fun i=>
J (I (.ag (.c i)) h) fun o=>
J (I (.cH 1 (.c o) (.c (.int .i64 wq))) h) fun k=>
J (I (.ag (.c k)) h) fun l=>
ad (xn j g l h) fun m c=>
bG m fun n=>
al (!n) (
some (.ret,[.bool false],c)) (
self a b Fl (IntKind.i64.wrap (wq+(1))) c)) (
some ((.exit 4),[],h))
def xu(j:Nat):Nat→V→V→Int→Int→Lo→a9
 |0=>fun _ _ _ _ _=>none
 |n+1=>IB j (xu j n)
def am6(j:Nat):cz Tryz.prog:= .loop Am (si j) [] (cT Tryz.prog Tryz.f11 [1,1,1,1,0,1,0,0] []) [aD,aD,aP,aP] [2,3,125,126] [((.exit 4),[],[]),(.ret,[4],[a4])] (IB j) (xu j) (fun _ _ _ _ _=>rfl) (fun _=>rfl) (fun _ _ _ _ _ _=>by kernel_rfl) j
def IC(j:Nat)(self:V→V→Int→Int→Lo→a9)(a:V)(b:V)(VU:Int)(An:Int)(h:Lo):a9:=
al (decide (An<VU)) (
J (I (.af 7 (.c a)) h) fun d=>
J (I (.ag (.c d)) h) fun e=>
J (I (.cH 9 (.c e) (.c (.int .i64 An))) h) fun f=>
J (I (.af 0 (.c f)) h) fun g=>
J (I (.ag (.c g)) h) fun i=>
b1 i fun o=>
J (I (.af 7 (.c b)) h) fun k=>
J (I (.ag (.c k)) h) fun l=>
J (I (.cH 9 (.c l) (.c (.int .i64 An))) h) fun m=>
J (I (.af 0 (.c m)) h) fun n=>
J (I (.ag (.c n)) h) fun p=>
b1 p fun q=>
al (!(o==q)) (
some (.ret,[.bool false],h)) (
J (I (.af 7 (.c a)) h) fun r=>
J (I (.ag (.c r)) h) fun s=>
J (I (.cH 9 (.c s) (.c (.int .i64 An))) h) fun t=>
J (I (.af 1 (.c t)) h) fun u=>
J (I (.bp 8 (.c u)) h) fun v=>
aN gH v fun w x y z bQ bZ ac b2=>
J (I (.af 7 (.c b)) h) fun b9=>
J (I (.ag (.c b9)) h) fun cn=>
J (I (.cH 9 (.c cn) (.c (.int .i64 An))) h) fun cr=>
J (I (.af 1 (.c cr)) h) fun cB=>
J (I (.bp 8 (.c cB)) h) fun cL=>
aN gH cL fun cM cO am cV ap c3 c8 c9=>
ad (qK j (lp j j) w x y z bQ bZ ac b2 cM cO am cV ap c3 c8 c9 h) fun dc c=>
bG dc fun c4=>
al (!c4) (
some (.ret,[.bool false],c)) (
self a b VU (IntKind.i64.wrap (An+(1))) c))) (
some ((.exit 6),[],h))
def xv(j:Nat):Nat→V→V→Int→Int→Lo→a9
 |0=>fun _ _ _ _ _=>none
 |n+1=>IC j (xv j n)
def am7(j:Nat):cz Tryz.prog:= .loop Am (si j) [] (cT Tryz.prog Tryz.f11 [1,1,1,1,1,0,1,0,0] []) [aD,aD,aP,aP] [2,3,144,145] [((.exit 6),[],[]),(.ret,[4],[a4])] (IC j) (xv j) (fun _ _ _ _ _=>rfl) (fun _=>rfl) (fun _ _ _ _ _ _=>by kernel_rfl) j
def xw(j:Nat)(a:V)(b:V)(h:Lo):OvL:=
ad (aB (.box false (.c a)) h) fun c u=>
ad (aB (.box false (.c b)) u) fun e v=>
bO (Iy j c e v) fun w x f=>
al (decide (w= .normal)) (
aZ [a4] x fun y=>
al y (
some ((.bool false),f)) (
J (I (.af 4 (.c c)) f) fun z=>
J (I (.ag (.c z)) f) fun bQ=>
J (I (.cm (.c bQ)) f) fun bZ=>
bt .i64 bZ fun ac=>
bO (xr j j c e ac (0) f) fun k l g=>
al (decide (k=(.exit 0))) (
dT l (
J (I (.af 5 (.c c)) g) fun b2=>
J (I (.ag (.c b2)) g) fun b9=>
J (I (.cm (.c b9)) g) fun cn=>
bt .i64 cn fun cr=>
bO (xt j j c e cr (0) g) fun m n i=>
al (decide (m=(.exit 2))) (
dT n (
J (I (.af 6 (.c c)) i) fun cB=>
J (I (.ag (.c cB)) i) fun cL=>
J (I (.cm (.c cL)) i) fun cM=>
bt .i64 cM fun cO=>
bO (xu j j c e cO (0) i) fun p q o=>
al (decide (p=(.exit 4))) (
dT q (
J (I (.af 7 (.c c)) o) fun am=>
J (I (.ag (.c am)) o) fun cV=>
J (I (.cm (.c cV)) o) fun ap=>
bt .i64 ap fun c3=>
bO (xv j j c e c3 (0) o) fun r s t=>
al (decide (r=(.exit 6))) (
dT s (
some ((.bool true),t))) (
al (decide (r= .ret)) (
aZ [a4] s fun d=>
some ((.bool d),t)) (
none)))) (
al (decide (p= .ret)) (
aZ [a4] q fun d=>
some ((.bool d),o)) (
none)))) (
al (decide (m= .ret)) (
aZ [a4] n fun d=>
some ((.bool d),i)) (
none)))) (
al (decide (k= .ret)) (
aZ [a4] l fun d=>
some ((.bool d),g)) (
none)))) (
none)
def Ao(j:Nat):Lv→Lo→OvL:=cv [aD,aD] (xw j)
theorem ID(j:Nat):cq Tryz.prog 11 (Ao j):=cG Am (si j) [am3 j,am4 j,am5 j,am6 j,am7 j] [([1,0,0],0),([1,1,0,1,0],1),([1,1,1,0,1,0],2),([1,1,1,1,0,1,0],3),([1,1,1,1,1,0,1,0],4)] [aD,aD] _ Tryz.func11 (by kernel_rfl) (by kernel_rfl) (by kernel_rfl) (fun _ _ _=>by kernel_rfl)
def NW:=cE [(aP,[4]),(a4,[5,6,9,10,15,16,20,21,22,23,25,26,29,30,34,35,38,39]),(jR,[17,40])]
def CE(j:Nat):cd Tryz.prog:= .ao
def IE(j:Nat)(jO:Int)(h:Lo):a9:=
al (jO==(4)) (
some (.normal,[.bool true],h)) (
al (jO==(5)) (
some (.normal,[.bool true],h)) (
some (.normal,[(.bool (jO==(6)))],h)))
def am8(j:Nat):cz Tryz.prog:= .of NW (CE j) [] (cT Tryz.prog Tryz.f37 [1,0,1,0,1,1,1,1,1,1,0] []) [aP] [4] [(.normal,[20],[a4])] (IE j) (fun _ _=>by kernel_rfl)
def IF(j:Nat)(s:V)(h:Lo):a9:=
J (I (.af 0 (.c s)) h) fun o=>
J (I (.ag (.c o)) h) fun k=>
bt .i64 k fun d=>
al (d==(1)) (
J (I (.af 1 (.c s)) h) fun l=>
ad (aB (.store 1 (.c l) (.c (.str ([]:Lu)))) h) fun e a=>
J (I (.af 4 (.c s)) a) fun m=>
ad (aB (.store 1 (.c m) (.c V.ab)) a) fun f b=>
some (.normal,[],b)) (
al (d==(2)) (
J (I (.af 1 (.c s)) h) fun n=>
ad (aB (.store 1 (.c n) (.c (.str ([]:Lu)))) h) fun e a=>
J (I (.af 2 (.c s)) a) fun p=>
ad (aB (.store 1 (.c p) (.c (.str ([]:Lu)))) a) fun f b=>
J (I (.af 3 (.c s)) b) fun q=>
ad (aB (.store 1 (.c q) (.c (.bool false))) b) fun r c=>
J (I (.af 5 (.c s)) c) fun t=>
ad (aB (.store 1 (.c t) (.c V.ab)) c) fun ey g=>
some (.normal,[],g)) (
al (d==(3)) (
J (I (.build [.bool false, .bool false, .ab, .ab, .ab, .ab, .ab, .int .i64 0] []) h) fun i=>
aN jR i fun u v w x y z bQ bZ=>
J (I (.af 1 (.c s)) h) fun ac=>
ad (aB (.store 1 (.c ac) (.c (.str ([]:Lu)))) h) fun e a=>
J (I (.af 9 (.c s)) a) fun b2=>
ad (aB (.store 8 (.c b2) (.c (.agg [.bool u, .bool v,w,x,y,z,bQ, .int .i64 bZ]))) a) fun f b=>
some (.normal,[],b)) (
bO (IE j d h) fun b9 cn a=>
al (decide (b9= .normal)) (
aZ [a4] cn fun cr=>
al cr (
J (I (.af 1 (.c s)) a) fun cB=>
ad (aB (.store 1 (.c cB) (.c (.str ([]:Lu)))) a) fun e b=>
some (.normal,[],b)) (
al (d==(7)) (
J (I (.af 1 (.c s)) a) fun cL=>
ad (aB (.store 1 (.c cL) (.c (.str ([]:Lu)))) a) fun e b=>
J (I (.af 6 (.c s)) b) fun cM=>
ad (aB (.store 1 (.c cM) (.c V.ab)) b) fun f c=>
some (.normal,[],c)) (
al (d==(8)) (
J (I (.af 1 (.c s)) a) fun cO=>
ad (aB (.store 1 (.c cO) (.c (.str ([]:Lu)))) a) fun e b=>
J (I (.af 7 (.c s)) b) fun am=>
ad (aB (.store 1 (.c am) (.c V.ab)) b) fun f c=>
J (I (.af 8 (.c s)) c) fun cV=>
ad (aB (.store 1 (.c cV) (.c V.ab)) c) fun r g=>
some (.normal,[],g)) (
al (d==(9)) (
J (I (.af 1 (.c s)) a) fun ap=>
ad (aB (.store 1 (.c ap) (.c (.str ([]:Lu)))) a) fun e b=>
J (I (.af 8 (.c s)) b) fun c3=>
ad (aB (.store 1 (.c c3) (.c V.ab)) b) fun f c=>
some (.normal,[],c)) (
al (d==(10)) (
J (I (.build [.bool false, .bool false, .ab, .ab, .ab, .ab, .ab, .int .i64 0] []) a) fun i=>
aN jR i fun c8 c9 dc c4 dD dk dP d_=>
J (I (.af 9 (.c s)) a) fun dV=>
ad (aB (.store 8 (.c dV) (.c (.agg [.bool c8, .bool c9,dc,c4,dD,dk,dP, .int .i64 d_]))) a) fun e b=>
some (.normal,[],b)) (
some (.normal,[],a))))))) (
none))))
def am9(j:Nat):cz Tryz.prog:= .of NW (CE j) [am8 j] (cT Tryz.prog Tryz.f37 [1,0] [([1,0,1,1,1,1,1,1,0],0)]) [aD] [1] [(.normal,[],[])] (IF j) (fun _ _=>by kernel_rfl)
def IG(j:Nat)(s:V)(h:Lo):OvL:=
ad (aB (.box false (.c s)) h) fun a f=>
ad (aB (.alloc false (.agg [.int .i64 0,(.str []),(.str []), .bool false, .ab, .ab, .ab, .ab, .ab, .bool false, .bool false, .ab, .ab, .ab, .ab, .ab, .int .i64 0])) f) fun b g=>
bO (IF j a g) fun i o c=>
al (decide (i= .normal)) (
dT o (
J (I (.af 0 (.c a)) c) fun k=>
ad (aB (.store 1 (.c k) (.c (.int .i64 (0)))) c) fun n d=>
J (I (.bp 17 (.c a)) d) fun l=>
ad (aB (.store 17 (.c b) (.c l)) d) fun p e=>
J (dS e 17 b) fun m=>
some (m,e))) (
none)
def am_(j:Nat):Lv→Lo→OvL:=cv [aD] (IG j)
theorem ana(j:Nat):cq Tryz.prog 37 (am_ j):=cG NW (CE j) [am9 j] [([1,0],0)] [aD] _ Tryz.func37 (by kernel_rfl) (by kernel_rfl) (by kernel_rfl) (fun _ _=>by kernel_rfl)
def NX:=cE [(a4,[2,10,11,15,16,17,21,22,23,27,28,29,33,34,35,39,40,41,45,46,47,51,52,57,65]),(aP,[4,9,14,20,26,32,38,44,50,55,56,58,61,64,66]),(jR,[6])]
def NY(j:Nat):cd Tryz.prog:= .ao
def IH(j:Nat)(s:V)(q:V)(h:Lo):a9:=
J (I (.af 4 (.c s)) h) fun a=>
J (I (.ag (.c a)) h) fun b=>
J (I (.cm (.c b)) h) fun c=>
bt .i64 c fun d=>
al (decide (d>(8))) (
some (.normal,[.bool true],h)) (
J (I (.af 5 (.c s)) h) fun e=>
J (I (.ag (.c e)) h) fun f=>
J (I (.cm (.c f)) h) fun g=>
bt .i64 g fun i=>
al (decide (i>(8))) (
some (.normal,[.bool true],h)) (
J (I (.af 6 (.c s)) h) fun o=>
J (I (.ag (.c o)) h) fun k=>
J (I (.cm (.c k)) h) fun l=>
bt .i64 l fun m=>
al (decide (m>(10))) (
some (.normal,[.bool true],h)) (
J (I (.af 7 (.c s)) h) fun n=>
J (I (.ag (.c n)) h) fun p=>
J (I (.cm (.c p)) h) fun r=>
bt .i64 r fun t=>
al (decide (t>(8))) (
some (.normal,[.bool true],h)) (
J (I (.af 2 (.c q)) h) fun u=>
J (I (.ag (.c u)) h) fun v=>
J (I (.cm (.c v)) h) fun w=>
bt .i64 w fun x=>
al (decide (x>(8))) (
some (.normal,[.bool true],h)) (
J (I (.af 5 (.c q)) h) fun y=>
J (I (.ag (.c y)) h) fun z=>
J (I (.cm (.c z)) h) fun bQ=>
bt .i64 bQ fun bZ=>
al (decide (bZ>(8))) (
some (.normal,[.bool true],h)) (
J (I (.af 6 (.c q)) h) fun ac=>
J (I (.ag (.c ac)) h) fun b2=>
J (I (.cm (.c b2)) h) fun b9=>
bt .i64 b9 fun cn=>
al (decide (cn>(8))) (
some (.normal,[.bool true],h)) (
J (I (.af 3 (.c q)) h) fun cr=>
J (I (.ag (.c cr)) h) fun cB=>
J (I (.cm (.c cB)) h) fun cL=>
bt .i64 cL fun cM=>
some (.normal,[(.bool (decide (cM>(3))))],h))))))))
def anb(j:Nat):cz Tryz.prog:= .of NX (NY j) [] (cT Tryz.prog Tryz.f39 [1,1,0,0] []) [aD,aD] [1,3] [(.normal,[52],[a4])] (IH j) (fun _ _ _=>by kernel_rfl)
def II(j:Nat)(self:V→Int→Int→Lo→a9)(s:V)(uk:Int)(rF:Int)(h:Lo):a9:=
al (decide (rF<uk)) (
J (I (.af 6 (.c s)) h) fun a=>
J (I (.ag (.c a)) h) fun b=>
J (I (.cH 1 (.c b) (.c (.int .i64 rF))) h) fun c=>
J (I (.ag (.c c)) h) fun d=>
J (I (.cm (.c d)) h) fun e=>
bt .i64 e fun f=>
al (decide (f>(8))) (
some (.ret,[.bool true],h)) (
self s uk (IntKind.i64.wrap (rF+(1))) h)) (
some ((.exit 0),[],h))
def Ap(j:Nat):Nat→V→Int→Int→Lo→a9
 |0=>fun _ _ _ _=>none
 |n+1=>II j (Ap j n)
def anc(j:Nat):cz Tryz.prog:= .loop NX (NY j) [] (cT Tryz.prog Tryz.f39 [1,1,1,0,1,0,0] []) [aD,aP,aP] [1,55,56] [((.exit 0),[],[]),(.ret,[2],[a4])] (II j) (Ap j) (fun _ _ _ _=>rfl) (fun _=>rfl) (fun _ _ _ _ _=>by kernel_rfl) j
def Dk(j:Nat)(s:V)(h:Lo):OvL:=
ad (aB (.box false (.c s)) h) fun b c=>
J (I (.af 9 (.c b)) c) fun i=>
J (I (.bp 8 (.c i)) c) fun o=>
aN jR o fun k l m n p q r t=>
ad (aB (.alloc false (.agg [.bool false, .bool false, .ab, .ab, .ab, .ab, .ab, .int .i64 0])) c) fun d u=>
ad (aB (.store 8 (.c d) (.c (.agg [.bool k, .bool l,m,n,p,q,r, .int .i64 t]))) u) fun b9 v=>
bO (IH j b d v) fun w x a=>
al (decide (w= .normal)) (
aZ [a4] x fun y=>
al y (
some ((.bool true),a)) (
J (I (.af 6 (.c b)) a) fun z=>
J (I (.ag (.c z)) a) fun bQ=>
J (I (.cm (.c bQ)) a) fun bZ=>
bt .i64 bZ fun ac=>
bO (Ap j j b ac (0) a) fun e f g=>
al (decide (e=(.exit 0))) (
dT f (
some ((.bool false),g))) (
al (decide (e= .ret)) (
aZ [a4] f fun b2=>
some ((.bool b2),g)) (
none)))) (
none)
def ane(j:Nat):Lv→Lo→OvL:=cv [aD] (Dk j)
theorem anf(j:Nat):cq Tryz.prog 39 (ane j):=cG NX (NY j) [anb j,anc j] [([1,1,0,0],0),([1,1,1,0,1,0],1)] [aD] _ Tryz.func39 (by kernel_rfl) (by kernel_rfl) (by kernel_rfl) (fun _ _=>by kernel_rfl)
def VV:=cE [(a4,[2,7,13,14]),(aP,[3,5,6,8,10,15]),(gH,[12])]
def VW(j:Nat):cd Tryz.prog:= .c .ao (LI j)
def IJ(j:Nat)(self:V→Int→Int→Lo→a9)(l:V)(nn:Int)(j4:Int)(h:Lo):a9:=
al (decide (j4<nn)) (
J (I (.cH 8 (.c l) (.c (.int .i64 j4))) h) fun b=>
J (I (.bp 8 (.c b)) h) fun c=>
aN gH c fun d e f g i o k m=>
ad (rN j d e f g i o k m h) fun n a=>
bG n fun p=>
al (!p) (
some (.ret,[.bool false],a)) (
self l nn (IntKind.i64.wrap (j4+(1))) a)) (
some ((.exit 0),[],h))
def Aq(j:Nat):Nat→V→Int→Int→Lo→a9
 |0=>fun _ _ _ _=>none
 |n+1=>IJ j (Aq j n)
def ang(j:Nat):cz Tryz.prog:= .loop VV (VW j) [] (cT Tryz.prog Tryz.f40 [1,0,1,0,0] []) [aD,aP,aP] [0,5,6] [((.exit 0),[],[]),(.ret,[2],[a4])] (IJ j) (Aq j) (fun _ _ _ _=>rfl) (fun _=>rfl) (fun _ _ _ _ _=>by kernel_rfl) j
def xx(j:Nat)(l:V)(h:Lo):OvL:=
J (I (.cm (.c l)) h) fun d=>
bt .i64 d fun e=>
bO (Aq j j l e (0) h) fun a b c=>
al (decide (a=(.exit 0))) (
dT b (
some ((.bool true),c))) (
al (decide (a= .ret)) (
aZ [a4] b fun f=>
some ((.bool f),c)) (
none))
def anh(j:Nat):Lv→Lo→OvL:=cv [aD] (xx j)
theorem VX(j:Nat):cq Tryz.prog 40 (anh j):=cG VV (VW j) [ang j] [([1,0,1,0],0)] [aD] _ Tryz.func40 (by kernel_rfl) (by kernel_rfl) (by kernel_rfl) (fun _ _=>by kernel_rfl)
def Ar:=cE [(jR,[0]),(a4,[2,8,12,13,14,18,19,20,23,24,25,29,30,31,34,35,36,37,40,41,42,47,55,56,57,64,65,72,73,74,75,81,90,91,92,95,96,97,98,100,101,105,106,107,108,109,111,112,115,116,117,118,124,132,133]),(aP,[3,4,6,11,17,22,28,45,46,48,51,60,68,76,79,80,82,85,99,110,119,122,123,125,128,134]),(gH,[54,103,104,114,131]),(a3,[63,71,89,94]),(HQ,[87])]
def As(j:Nat):cd Tryz.prog:= .c (.c (.c (.c .ao (Ly j)) (VX j)) (LI j)) (BY j (lp j j) (BZ j j))
def IK(j:Nat)(q:V)(h:Lo):a9:=
J (I (.af 1 (.c q)) h) fun b=>
J (I (.ag (.c b)) h) fun c=>
bG c fun d=>
J (I (.af 2 (.c q)) h) fun e=>
J (I (.ag (.c e)) h) fun f=>
J (I (.cm (.c f)) h) fun g=>
bt .i64 g fun i=>
al (!(d==(i==(0)))) (
some (.normal,[.bool true],h)) (
J (I (.af 3 (.c q)) h) fun o=>
J (I (.ag (.c o)) h) fun k=>
J (I (.cm (.c k)) h) fun l=>
bt .i64 l fun m=>
al (m==(0)) (
some (.normal,[.bool true],h)) (
J (I (.af 7 (.c q)) h) fun n=>
J (I (.ag (.c n)) h) fun p=>
bt .i64 p fun r=>
al (decide (r<(-1))) (
some (.normal,[.bool true],h)) (
J (I (.af 4 (.c q)) h) fun s=>
J (I (.ag (.c s)) h) fun t=>
J (I (.cm (.c t)) h) fun u=>
bt .i64 u fun v=>
al (decide (v>(1))) (
some (.normal,[.bool true],h)) (
J (I (.af 4 (.c q)) h) fun w=>
J (I (.ag (.c w)) h) fun x=>
ad (xx j x h) fun y a=>
bG y fun z=>
al (!z) (
some (.normal,[.bool true],a)) (
J (I (.af 5 (.c q)) a) fun bQ=>
J (I (.ag (.c bQ)) a) fun bZ=>
ad (xx j bZ a) fun ac b2=>
bG ac fun b9=>
some (.normal,[(.bool (!b9))],b2))))))
def ani(j:Nat):cz Tryz.prog:= .of Ar (As j) [] (cT Tryz.prog Tryz.f42 [1,0,0] []) [aD] [1] [(.normal,[42],[a4])] (IK j) (fun _ _=>by kernel_rfl)
def IL(j:Nat)(self:V→Int→Int→Lo→a9)(q:V)(sV:Int)(mJ:Int)(h:Lo):a9:=
al (decide (mJ<sV)) (
J (I (.af 2 (.c q)) h) fun c=>
J (I (.ag (.c c)) h) fun d=>
J (I (.cH 9 (.c d) (.c (.int .i64 mJ))) h) fun e=>
J (I (.af 0 (.c e)) h) fun f=>
J (I (.bp 8 (.c f)) h) fun g=>
aN gH g fun i o k l m n p r=>
ad (rN j i o k l m n p r h) fun s a=>
bG s fun t=>
al (!t) (
some (.ret,[.bool false],a)) (
J (I (.af 2 (.c q)) a) fun u=>
J (I (.ag (.c u)) a) fun v=>
J (I (.cH 9 (.c v) (.c (.int .i64 mJ))) a) fun w=>
J (I (.af 8 (.c w)) a) fun x=>
J (I (.ag (.c x)) a) fun y=>
b1 y fun z=>
al (!(z==([]:Lu))) (
J (I (.af 2 (.c q)) a) fun bQ=>
J (I (.ag (.c bQ)) a) fun bZ=>
J (I (.cH 9 (.c bZ) (.c (.int .i64 mJ))) a) fun ac=>
J (I (.af 8 (.c ac)) a) fun b2=>
J (I (.ag (.c b2)) a) fun b9=>
b1 b9 fun cn=>
ad (oA j cn a) fun cr b=>
bG cr fun cB=>
al (!cB) (
some (.ret,[.bool false],b)) (
self q sV (IntKind.i64.wrap (mJ+(1))) b)) (
self q sV (IntKind.i64.wrap (mJ+(1))) a))) (
some ((.exit 0),[],h))
def xy(j:Nat):Nat→V→Int→Int→Lo→a9
 |0=>fun _ _ _ _=>none
 |n+1=>IL j (xy j n)
def anj(j:Nat):cz Tryz.prog:= .loop Ar (As j) [] (cT Tryz.prog Tryz.f42 [1,1,0,1,0,0] []) [aD,aP,aP] [1,45,46] [((.exit 0),[],[]),(.ret,[2],[a4])] (IL j) (xy j) (fun _ _ _ _=>rfl) (fun _=>rfl) (fun _ _ _ _ _=>by kernel_rfl) j
def IM(j:Nat)(i:Int)(s:V)(h:Lo):a9:=
J (I (.af 0 (.c s)) h) fun t=>
J (I (.ag (.c t)) h) fun u=>
b1 u fun v=>
ad (oA j v h) fun w c=>
bG w fun x=>
al (!x) (
some (.normal,[.bool true],c)) (
J (I (.af 1 (.c s)) c) fun y=>
J (I (.ag (.c y)) c) fun z=>
b1 z fun bQ=>
ad (oA j bQ c) fun bZ a=>
bG bZ fun ac=>
al (!ac) (
some (.normal,[.bool true],a)) (
al (i==(0)) (
J (I (.af 2 (.c s)) a) fun b2=>
J (I (.bp 8 (.c b2)) a) fun d=>
aN gH d fun b9 cn cr cB cL cM cO am=>
J (I (.build [.int .i64 0,(.str []), .int .i64 0, .int .i64 0,(.str []),(.str []),(.str []), .ab] []) a) fun e=>
aN gH e fun cV ap c3 c8 c9 dc c4 dD=>
ad (qK j (lp j j) b9 cn cr cB cL cM cO am cV ap c3 c8 c9 dc c4 dD a) fun dk b=>
bG dk fun dP=>
al (!dP) (
some (.normal,[.bool true],b)) (
al (decide (i>(0))) (
J (I (.af 2 (.c s)) b) fun f=>
J (I (.bp 8 (.c f)) b) fun d_=>
aN gH d_ fun g o k l m n p q=>
ad (rN j g o k l m n p q b) fun dV ey=>
bG dV fun r=>
some (.normal,[(.bool (!r))],ey)) (
some (.normal,[.bool false],b)))) (
al (decide (i>(0))) (
J (I (.af 2 (.c s)) a) fun f=>
J (I (.bp 8 (.c f)) a) fun d=>
aN gH d fun g o k l m n p q=>
ad (rN j g o k l m n p q a) fun e b=>
bG e fun r=>
some (.normal,[(.bool (!r))],b)) (
some (.normal,[.bool false],a)))))
def ank(j:Nat):cz Tryz.prog:= .of Ar (As j) [] (cT Tryz.prog Tryz.f42 [1,1,1,0,1,0,0,1,1,0,0,1,1,0] []) [aP,aD] [4,5] [(.normal,[118],[a4])] (IM j) (fun _ _ _=>by kernel_rfl)
def IN(j:Nat)(self:V→Int→Int→Lo→a9)(q:V)(C_:Int)(z3:Int)(h:Lo):a9:=
al (decide (z3<C_)) (
J (I (.af 3 (.c q)) h) fun c=>
J (I (.ag (.c c)) h) fun d=>
J (I (.cH 10 (.c d) (.c (.int .i64 z3))) h) fun e=>
J (I (.bp 10 (.c e)) h) fun f=>
aN HQ f fun g i o k l m n p r s=>
ad (aB (.alloc false (.agg [(.str []),(.str []), .int .i64 0,(.str []), .int .i64 0, .int .i64 0,(.str []),(.str []),(.str []), .ab])) h) fun a t=>
ad (aB (.store 10 (.c a) (.c (.agg [.str g, .str i, .int .i64 o, .str k, .int .i64 l, .int .i64 m, .str n, .str p, .str r,s]))) t) fun y u=>
bO (IM j z3 a u) fun v w b=>
al (decide (v= .normal)) (
aZ [a4] w fun x=>
al x (
some (.ret,[.bool false],b)) (
self q C_ (IntKind.i64.wrap (z3+(1))) b)) (
none)) (
some ((.exit 2),[],h))
def xz(j:Nat):Nat→V→Int→Int→Lo→a9
 |0=>fun _ _ _ _=>none
 |n+1=>IN j (xz j n)
def anl(j:Nat):cz Tryz.prog:= .loop Ar (As j) [ank j] (cT Tryz.prog Tryz.f42 [1,1,1,0,1,0,0] [([1,1,0,0,1,1,0],0)]) [aD,aP,aP] [1,79,80] [((.exit 2),[],[]),(.ret,[2],[a4])] (IN j) (xz j) (fun _ _ _ _=>rfl) (fun _=>rfl) (fun _ _ _ _ _=>by kernel_rfl) j
def IP(j:Nat)(self:V→Int→Int→Lo→a9)(q:V)(E9:Int)(yw:Int)(h:Lo):a9:=
al (decide (yw<E9)) (
J (I (.af 6 (.c q)) h) fun b=>
J (I (.ag (.c b)) h) fun c=>
J (I (.cH 9 (.c c) (.c (.int .i64 yw))) h) fun d=>
J (I (.af 0 (.c d)) h) fun e=>
J (I (.bp 8 (.c e)) h) fun f=>
aN gH f fun g i o k l m n p=>
ad (rN j g i o k l m n p h) fun r a=>
bG r fun s=>
al (!s) (
some (.ret,[.bool false],a)) (
self q E9 (IntKind.i64.wrap (yw+(1))) a)) (
some ((.exit 4),[],h))
def xA(j:Nat):Nat→V→Int→Int→Lo→a9
 |0=>fun _ _ _ _=>none
 |n+1=>IP j (xA j n)
def anm(j:Nat):cz Tryz.prog:= .loop Ar (As j) [] (cT Tryz.prog Tryz.f42 [1,1,1,1,0,1,0,0] []) [aD,aP,aP] [1,122,123] [((.exit 4),[],[]),(.ret,[2],[a4])] (IP j) (xA j) (fun _ _ _ _=>rfl) (fun _=>rfl) (fun _ _ _ _ _=>by kernel_rfl) j
def IQ(j:Nat)(q:Bool)(aE:Bool)(aR:V)(bE:V)(bS:V)(dn:V)(ej:V)(fy:Int)(h:Lo):OvL:=
ad (aB (.box false (.c (.agg [.bool q, .bool aE,aR,bE,bS,dn,ej, .int .i64 fy]))) h) fun a n=>
bO (IK j a n) fun p r b=>
al (decide (p= .normal)) (
aZ [a4] r fun s=>
al s (
some ((.bool false),b)) (
J (I (.af 2 (.c a)) b) fun t=>
J (I (.ag (.c t)) b) fun u=>
J (I (.cm (.c u)) b) fun v=>
bt .i64 v fun w=>
bO (xy j j a w (0) b) fun f g c=>
al (decide (f=(.exit 0))) (
dT g (
J (I (.af 3 (.c a)) c) fun x=>
J (I (.ag (.c x)) c) fun y=>
J (I (.cm (.c y)) c) fun z=>
bt .i64 z fun bQ=>
bO (xz j j a bQ (0) c) fun i o d=>
al (decide (i=(.exit 2))) (
dT o (
J (I (.af 6 (.c a)) d) fun bZ=>
J (I (.ag (.c bZ)) d) fun ac=>
J (I (.cm (.c ac)) d) fun b2=>
bt .i64 b2 fun b9=>
bO (xA j j a b9 (0) d) fun k l m=>
al (decide (k=(.exit 4))) (
dT l (
some ((.bool true),m))) (
al (decide (k= .ret)) (
aZ [a4] l fun e=>
some ((.bool e),m)) (
none)))) (
al (decide (i= .ret)) (
aZ [a4] o fun e=>
some ((.bool e),d)) (
none)))) (
al (decide (f= .ret)) (
aZ [a4] g fun e=>
some ((.bool e),c)) (
none)))) (
none)
def ann(j:Nat):Lv→Lo→OvL:=cv [jR] (IQ j)
theorem ano(j:Nat):cq Tryz.prog 42 (ann j):=cG Ar (As j) [ani j,anj j,anl j,anm j] [([1,0,0],0),([1,1,0,1,0],1),([1,1,1,0,1,0],2),([1,1,1,1,0,1,0],3)] [jR] _ Tryz.func42 (by kernel_rfl) (by kernel_rfl) (by kernel_rfl) (fun _ _ _ _ _ _ _ _ _=>by kernel_rfl)
def uX:=cE [(a4,[2,9,10,13,14,15,19,20,21,22,25,26,29,30,31,32,33,35,36,40,41,44,45,46,51,59,60,61,68,69,76,77,78,84,91,92,98,106,107,113,114,115,121,129,130,131,138,139,140,144,145,149,150,151,154,155,159,160,161,162,163,166,167,168,172,173,174,178]),(aP,[3,4,5,6,8,12,24,39,49,50,52,55,64,67,72,75,79,82,83,85,88,93,96,97,99,102,105,110,116,119,120,122,125,134,141,143,148,158,171,177]),(a3,[28,58,90,128,153]),(gH,[137]),(jR,[165])]
def mI(j:Nat):cd Tryz.prog:= .c (.c (.c (.c (.c (.c (.c .ao (ID j)) (ana j)) (Ly j)) (anf j)) (VX j)) (LI j)) (ano j)
def IS(j:Nat)(s:V)(h:Lo):a9:=
J (I (.af 0 (.c s)) h) fun g=>
J (I (.ag (.c g)) h) fun i=>
bt .i64 i fun o=>
al (decide (o<(1))) (
some (.normal,[.bool true],h)) (
J (I (.af 0 (.c s)) h) fun k=>
J (I (.ag (.c k)) h) fun l=>
bt .i64 l fun m=>
al (decide (m>(13))) (
some (.normal,[.bool true],h)) (
J (I (.bp 17 (.c s)) h) fun n=>
ad (IG j n h) fun p f=>
J (I (.build [.int .i64 0,(.str []),(.str []), .bool false, .ab, .ab, .ab, .ab, .ab, .bool false, .bool false, .ab, .ab, .ab, .ab, .ab, .int .i64 0] []) f) fun q=>
ad (xw j p q f) fun r a=>
bG r fun t=>
al (!t) (
some (.normal,[.bool true],a)) (
J (I (.af 0 (.c s)) a) fun u=>
J (I (.ag (.c u)) a) fun v=>
bt .i64 v fun w=>
al (decide (w<(10))) (
J (I (.af 1 (.c s)) a) fun x=>
J (I (.ag (.c x)) a) fun c=>
b1 c fun y=>
ad (oA j y a) fun z b=>
bG z fun bQ=>
al (!bQ) (
some (.normal,[.bool true],b)) (
J (I (.bp 17 (.c s)) b) fun d=>
ad (Dk j d b) fun bZ ac=>
bG bZ fun e=>
some (.normal,[.bool e],ac))) (
J (I (.bp 17 (.c s)) a) fun d=>
ad (Dk j d a) fun c b=>
bG c fun e=>
some (.normal,[.bool e],b)))))
def anp(j:Nat):cz Tryz.prog:= .of uX (mI j) [] (cT Tryz.prog Tryz.f9 [1,0,0] []) [aD] [1] [(.normal,[36],[a4])] (IS j) (fun _ _=>by kernel_rfl)
def IT(j:Nat)(self:V→Int→Int→Lo→a9)(s:V)(tm:Int)(nT:Int)(h:Lo):a9:=
al (decide (nT<tm)) (
J (I (.af 4 (.c s)) h) fun b=>
J (I (.ag (.c b)) h) fun c=>
J (I (.cH 4 (.c c) (.c (.int .i64 nT))) h) fun d=>
J (I (.af 0 (.c d)) h) fun e=>
J (I (.ag (.c e)) h) fun f=>
b1 f fun g=>
ad (oA j g h) fun i a=>
bG i fun o=>
al (!o) (
some (.ret,[.bool false],a)) (
J (I (.af 4 (.c s)) a) fun k=>
J (I (.ag (.c k)) a) fun l=>
J (I (.cH 4 (.c l) (.c (.int .i64 nT))) a) fun m=>
J (I (.af 1 (.c m)) a) fun n=>
J (I (.ag (.c n)) a) fun p=>
bt .i64 p fun q=>
al (q !=(1)) (
J (I (.af 4 (.c s)) a) fun r=>
J (I (.ag (.c r)) a) fun t=>
J (I (.cH 4 (.c t) (.c (.int .i64 nT))) a) fun u=>
J (I (.af 1 (.c u)) a) fun v=>
J (I (.ag (.c v)) a) fun w=>
bt .i64 w fun x=>
al (x !=(2)) (
some (.ret,[.bool false],a)) (
self s tm (IntKind.i64.wrap (nT+(1))) a)) (
self s tm (IntKind.i64.wrap (nT+(1))) a))) (
some ((.exit 0),[],h))
def xB(j:Nat):Nat→V→Int→Int→Lo→a9
 |0=>fun _ _ _ _=>none
 |n+1=>IT j (xB j n)
def anq(j:Nat):cz Tryz.prog:= .loop uX (mI j) [] (cT Tryz.prog Tryz.f9 [1,1,1,0,1,0,0] []) [aD,aP,aP] [1,49,50] [((.exit 0),[],[]),(.ret,[2],[a4])] (IT j) (xB j) (fun _ _ _ _=>rfl) (fun _=>rfl) (fun _ _ _ _ _=>by kernel_rfl) j
def IU(j:Nat)(self:V→Int→Int→Lo→a9)(s:V)(xe:Int)(sT:Int)(h:Lo):a9:=
al (decide (sT<xe)) (
J (I (.af 5 (.c s)) h) fun b=>
J (I (.ag (.c b)) h) fun c=>
J (I (.cH 1 (.c c) (.c (.int .i64 sT))) h) fun d=>
J (I (.ag (.c d)) h) fun e=>
b1 e fun f=>
ad (oA j f h) fun g a=>
bG g fun i=>
al (!i) (
some (.ret,[.bool false],a)) (
self s xe (IntKind.i64.wrap (sT+(1))) a)) (
some ((.exit 2),[],h))
def xC(j:Nat):Nat→V→Int→Int→Lo→a9
 |0=>fun _ _ _ _=>none
 |n+1=>IU j (xC j n)
def anr(j:Nat):cz Tryz.prog:= .loop uX (mI j) [] (cT Tryz.prog Tryz.f9 [1,1,1,1,0,1,0,0] []) [aD,aP,aP] [1,82,83] [((.exit 2),[],[]),(.ret,[2],[a4])] (IU j) (xC j) (fun _ _ _ _=>rfl) (fun _=>rfl) (fun _ _ _ _ _=>by kernel_rfl) j
def IV(j:Nat)(self:V→Int→Int→Lo→a9)(s:V)(Cj:Int)(y2:Int)(h:Lo):a9:=
al (decide (y2<Cj)) (
J (I (.af 6 (.c s)) h) fun b=>
J (I (.ag (.c b)) h) fun c=>
J (I (.cH 1 (.c c) (.c (.int .i64 y2))) h) fun d=>
J (I (.ag (.c d)) h) fun e=>
J (I (.cm (.c e)) h) fun f=>
bt .i64 f fun g=>
al (g==(0)) (
some (.ret,[.bool false],h)) (
J (I (.af 6 (.c s)) h) fun i=>
J (I (.ag (.c i)) h) fun o=>
J (I (.cH 1 (.c o) (.c (.int .i64 y2))) h) fun k=>
J (I (.ag (.c k)) h) fun l=>
ad (xx j l h) fun m a=>
bG m fun n=>
al (!n) (
some (.ret,[.bool false],a)) (
self s Cj (IntKind.i64.wrap (y2+(1))) a))) (
some ((.exit 4),[],h))
def xD(j:Nat):Nat→V→Int→Int→Lo→a9
 |0=>fun _ _ _ _=>none
 |n+1=>IV j (xD j n)
def ans(j:Nat):cz Tryz.prog:= .loop uX (mI j) [] (cT Tryz.prog Tryz.f9 [1,1,1,1,1,0,1,0,0] []) [aD,aP,aP] [1,96,97] [((.exit 4),[],[]),(.ret,[2],[a4])] (IV j) (xD j) (fun _ _ _ _=>rfl) (fun _=>rfl) (fun _ _ _ _ _=>by kernel_rfl) j
def IW(j:Nat)(self:V→Int→Int→Lo→a9)(s:V)(Cg:Int)(uq:Int)(h:Lo):a9:=
al (decide (uq<Cg)) (
J (I (.af 7 (.c s)) h) fun c=>
J (I (.ag (.c c)) h) fun d=>
J (I (.cH 9 (.c d) (.c (.int .i64 uq))) h) fun e=>
J (I (.af 0 (.c e)) h) fun f=>
J (I (.ag (.c f)) h) fun g=>
b1 g fun i=>
ad (oA j i h) fun o a=>
bG o fun k=>
al (!k) (
some (.ret,[.bool false],a)) (
J (I (.af 7 (.c s)) a) fun l=>
J (I (.ag (.c l)) a) fun m=>
J (I (.cH 9 (.c m) (.c (.int .i64 uq))) a) fun n=>
J (I (.af 1 (.c n)) a) fun p=>
J (I (.bp 8 (.c p)) a) fun q=>
aN gH q fun r t u v w x y z=>
ad (rN j r t u v w x y z a) fun bQ b=>
bG bQ fun bZ=>
al (!bZ) (
some (.ret,[.bool false],b)) (
self s Cg (IntKind.i64.wrap (uq+(1))) b))) (
some ((.exit 6),[],h))
def xE(j:Nat):Nat→V→Int→Int→Lo→a9
 |0=>fun _ _ _ _=>none
 |n+1=>IW j (xE j n)
def ant(j:Nat):cz Tryz.prog:= .loop uX (mI j) [] (cT Tryz.prog Tryz.f9 [1,1,1,1,1,1,0,1,0,0] []) [aD,aP,aP] [1,119,120] [((.exit 6),[],[]),(.ret,[2],[a4])] (IW j) (xE j) (fun _ _ _ _=>rfl) (fun _=>rfl) (fun _ _ _ _ _=>by kernel_rfl) j
def NZ(j:Nat)(VY:Int)(h:Lo):a9:=
al (VY==(3)) (
some (.normal,[.bool true],h)) (
some (.normal,[(.bool (VY==(10)))],h))
def anu(j:Nat):cz Tryz.prog:= .of uX (mI j) [] (cT Tryz.prog Tryz.f9 [1,1,1,1,1,1,1,0,1,0,1,1,1,1,0] []) [aP] [143] [(.normal,[161],[a4])] (NZ j) (fun _ _=>by kernel_rfl)
def IX(j:Nat)(s:V)(h:Lo):a9:=
J (I (.af 8 (.c s)) h) fun b=>
J (I (.ag (.c b)) h) fun c=>
J (I (.cm (.c c)) h) fun d=>
bt .i64 d fun e=>
al (decide (e>(1))) (
some (.ret,[.bool false],h)) (
J (I (.af 8 (.c s)) h) fun f=>
J (I (.ag (.c f)) h) fun g=>
ad (xx j g h) fun i a=>
bG i fun o=>
al (!o) (
some (.ret,[.bool false],a)) (
some (.normal,[],a)))
def anv(j:Nat):cz Tryz.prog:= .of uX (mI j) [] (cT Tryz.prog Tryz.f9 [1,1,0] []) [aD] [1] [(.ret,[2],[a4]),(.normal,[],[])] (IX j) (fun _ _=>by kernel_rfl)
def At(j:Nat)(s:V)(h:Lo):OvL:=
ad (aB (.box false (.c s)) h) fun b z=>
bO (IS j b z) fun bQ bZ m=>
al (decide (bQ= .normal)) (
aZ [a4] bZ fun ac=>
al ac (
some ((.bool false),m)) (
bO (IX j b m) fun n p f=>
al (decide (n= .ret)) (
aZ [a4] p fun d=>
some ((.bool d),f)) (
al (decide (n= .normal)) (
dT p (
J (I (.af 4 (.c b)) f) fun b2=>
J (I (.ag (.c b2)) f) fun b9=>
J (I (.cm (.c b9)) f) fun cn=>
bt .i64 cn fun cr=>
bO (xB j j b cr (0) f) fun q r g=>
al (decide (q=(.exit 0))) (
dT r (
J (I (.af 5 (.c b)) g) fun cB=>
J (I (.ag (.c cB)) g) fun cL=>
J (I (.cm (.c cL)) g) fun cM=>
bt .i64 cM fun cO=>
bO (xC j j b cO (0) g) fun t u i=>
al (decide (t=(.exit 2))) (
dT u (
J (I (.af 6 (.c b)) i) fun am=>
J (I (.ag (.c am)) i) fun cV=>
J (I (.cm (.c cV)) i) fun ap=>
bt .i64 ap fun c3=>
bO (xD j j b c3 (0) i) fun v w o=>
al (decide (v=(.exit 4))) (
dT w (
J (I (.af 7 (.c b)) o) fun c8=>
J (I (.ag (.c c8)) o) fun c9=>
J (I (.cm (.c c9)) o) fun dc=>
bt .i64 dc fun c4=>
bO (xE j j b c4 (0) o) fun x y c=>
al (decide (x=(.exit 6))) (
dT y (
J (I (.af 0 (.c b)) c) fun dD=>
J (I (.ag (.c dD)) c) fun dk=>
bt .i64 dk fun k=>
al (k==(1)) (
J (I (.af 4 (.c b)) c) fun dP=>
J (I (.ag (.c dP)) c) fun d_=>
J (I (.cm (.c d_)) c) fun e=>
bt .i64 e fun dV=>
some ((.bool (decide (dV>(0)))),c)) (
al (k==(2)) (
J (I (.af 2 (.c b)) c) fun ey=>
J (I (.ag (.c ey)) c) fun e=>
b1 e fun eX=>
ad (oA j eX c) fun l a=>
bG l fun be=>
al be (
J (I (.af 5 (.c b)) a) fun e5=>
J (I (.ag (.c e5)) a) fun ec=>
J (I (.cm (.c ec)) a) fun bi=>
bt .i64 bi fun fE=>
some ((.bool (decide (fE>(0)))),a)) (
some ((.bool false),a))) (
bO (NZ j k c) fun fG fk a=>
al (decide (fG= .normal)) (
aZ [a4] fk fun eD=>
al eD (
J (I (.af 9 (.c b)) a) fun gL=>
J (I (.bp 8 (.c gL)) a) fun e=>
aN jR e fun hh hZ hJ fu iB iC bv iM=>
ad (IQ j hh hZ hJ fu iB iC bv iM a) fun l iZ=>
bG l fun iD=>
some ((.bool iD),iZ)) (
al (k==(7)) (
J (I (.af 6 (.c b)) a) fun eB=>
J (I (.ag (.c eB)) a) fun gE=>
J (I (.cm (.c gE)) a) fun e=>
bt .i64 e fun ky=>
some ((.bool (decide (ky>(0)))),a)) (
al (k==(8)) (
J (I (.af 7 (.c b)) a) fun gf=>
J (I (.ag (.c gf)) a) fun ce=>
J (I (.cm (.c ce)) a) fun e=>
bt .i64 e fun k0=>
some ((.bool (decide (k0>(0)))),a)) (
some ((.bool true),a))))) (
none))))) (
al (decide (x= .ret)) (
aZ [a4] y fun d=>
some ((.bool d),c)) (
none)))) (
al (decide (v= .ret)) (
aZ [a4] w fun d=>
some ((.bool d),o)) (
none)))) (
al (decide (t= .ret)) (
aZ [a4] u fun d=>
some ((.bool d),i)) (
none)))) (
al (decide (q= .ret)) (
aZ [a4] r fun d=>
some ((.bool d),g)) (
none)))) (
none)))) (
none)
def Au(j:Nat):Lv→Lo→OvL:=cv [aD] (At j)
theorem N0(j:Nat):cq Tryz.prog 9 (Au j):=cG uX (mI j) [anp j,anv j,anq j,anr j,ans j,ant j,anu j] [([1,0,0],0),([1,1,0],1),([1,1,1,0,1,0],2),([1,1,1,1,0,1,0],3),([1,1,1,1,1,0,1,0],4),([1,1,1,1,1,1,0,1,0],5),([1,1,1,1,1,1,1,0,1,0,1,1,1,1,0],6)] [aD] _ Tryz.func9 (by kernel_rfl) (by kernel_rfl) (by kernel_rfl) (fun _ _=>by kernel_rfl)
end
end Go.Proofs.YtjpjeilfmjdhcaaGreat.hE
