/- Functions of the program as Lean functions, and that each call comes to what its function says. Printed by my own tool. No condition. -/
import Derived.Test.YtjpjeilfmjdhcaaGreatProg
import Derived.Test.YtjpjeilfmjdhcaaGreatA3
import Derived.Test.YtjpjeilfmjdhcaaGreatA5
set_option maxRecDepth 100000
set_option linter.unusedVariables false
set_option linter.unusedSimpArgs false
set_option linter.unnecessarySimpa false
namespace Go.Proofs.YtjpjeilfmjdhcaaGreat.wv
open Go E E.K ep eI
noncomputable section
abbrev LJ:dO:= .agg [aP,a3,aP,aP,a3,a3,a3,aD]
def R1:=cE [(aP,[4,6,7,9,12,18]),(a4,[8]),(LJ,[14,15])]
def uo(j:Nat):cd Tryz.prog:= .c .ao (Fv j (mL j j) (Fw j j))
def Fy(j:Nat)(self:V→V→Int→Int→Lo→a9)(l:V)(out:V)(j4:Int)(fX:Int)(h:Lo):a9:=
al (decide (fX<j4)) (
J (I (.cH 8 (.c l) (.c (.int .i64 fX))) h) fun a=>
J (I (.bp 8 (.c a)) h) fun b=>
aN LJ b fun c d e f g i o k=>
ad (rO j (mL j j) c d e f g i o k h) fun m n=>
aN LJ m fun p q r s t u v w=>
ad (aB (.dN 8 (.agg [.int .i64 0,(.str []), .int .i64 0, .int .i64 0,(.str []),(.str []),(.str []), .ab]) 1 [(0,(.c (.agg [.int .i64 p, .str q, .int .i64 r, .int .i64 s, .str t, .str u, .str v,w])))]) n) fun x y=>
ad (aB (.app 8 112 (.c out) (.c x)) y) fun z bQ=>
self l z j4 (IntKind.i64.wrap (fX+(1))) bQ) (
some ((.exit 0),[out],h))
def yF(j:Nat):Nat→V→V→Int→Int→Lo→a9
 |0=>fun _ _ _ _ _=>none
 |n+1=>Fy j (yF j n)
def ado(j:Nat):cz Tryz.prog:= .loop R1 (uo j) [] (cT Tryz.prog Tryz.f34 [1,1,0,1,0,0] []) [aD,aD,aP,aP] [0,3,6,7] [((.exit 0),[3],[aD])] (Fy j) (yF j) (fun _ _ _ _ _=>rfl) (fun _=>rfl) (fun _ _ _ _ _ _=>by kernel_rfl) j
def mj(j:Nat)(l:V)(h:Lo):OvL:=
J (I (.cm (.c l)) h) fun a=>
bt .i64 a fun b=>
bO (yF j j l V.ab b (0) h) fun c d e=>
al (decide (c=(.exit 0))) (
aZ [aD] d fun f=>
some (f,e)) (
none)
def yG(j:Nat):Lv→Lo→OvL:=cv [aD] (mj j)
theorem Fz(j:Nat):cq Tryz.prog 34 (yG j):=cG R1 (uo j) [ado j] [([1,1,0,1,0],0)] [aD] _ Tryz.func34 (by kernel_rfl) (by kernel_rfl) (by kernel_rfl) (fun _ _=>by kernel_rfl)
end
end Go.Proofs.YtjpjeilfmjdhcaaGreat.wv
namespace Go.Proofs.YtjpjeilfmjdhcaaGreat.fw
open Go E E.K ep eI
noncomputable section
abbrev pg:dO:= .bW [.agg [aP,a3,aP],a4]
abbrev g9:dO:= .agg [aP,a3,aP,aP,a3,a3,a3,aD]
def adp:=cE [(.agg [aD,aP,aP],[4])]
def adq(j:Nat):cd Tryz.prog:= .ao
def FA(j:Nat)(words:V)(h:Lo):OvL:=
J (I (.build [.ab, .int .i64 0, .int .i64 0] [(0,(1,(.c words)))]) h) fun a=>
aN (.agg [aD,aP,aP]) a fun b c d=>
ad (aB (.box false (.c (.agg [b, .int .i64 c, .int .i64 d]))) h) fun e f=>
some (e,f)
def adr(j:Nat):Lv→Lo→OvL:=cv [aD] (FA j)
theorem ads(j:Nat):cq Tryz.prog 14 (adr j):=cG adp (adq j) [] [] [aD] _ Tryz.func14 (by kernel_rfl) (by kernel_rfl) (by kernel_rfl) (fun _ _=>by kernel_rfl)
def adt:=cE [(a4,[2,12]),(aP,[6,11])]
def iq(j:Nat):cd Tryz.prog:= .ao
def B2(j:Nat)(r:V)(h:Lo):OvL:=
J (I (.bz (.c r)) h) fun a=>
J (I (.af 1 (.c a)) h) fun b=>
J (I (.ag (.c b)) h) fun c=>
bt .i64 c fun d=>
J (I (.bz (.c r)) h) fun e=>
J (I (.af 0 (.c e)) h) fun f=>
J (I (.ag (.c f)) h) fun g=>
J (I (.cm (.c g)) h) fun i=>
bt .i64 i fun o=>
some ((.bool (d==o)),h)
def adu(j:Nat):Lv→Lo→OvL:=cv [aD] (B2 j)
theorem R2(j:Nat):cq Tryz.prog 17 (adu j):=cG adt (iq j) [] [] [aD] _ Tryz.func17 (by kernel_rfl) (by kernel_rfl) (by kernel_rfl) (fun _ _=>by kernel_rfl)
def R3:=cE [(aP,[1,9,23,26,27,38]),(a4,[5,10,11,13,14,15,28,29]),(.agg [aP,a3,aP],[30,40])]
def yH(j:Nat):cd Tryz.prog:= .c .ao (R2 j)
def FB(j:Nat)(r:V)(kind:Int)(h:Lo):a9:=
J (I (.bz (.c r)) h) fun b=>
J (I (.af 2 (.c b)) h) fun c=>
J (I (.ag (.c c)) h) fun d=>
bt .i64 d fun e=>
al (e !=(0)) (
some (.normal,[.bool true],h)) (
ad (B2 j r h) fun f a=>
bG f fun g=>
al g (
some (.normal,[.bool true],a)) (
J (I (.bz (.c r)) a) fun i=>
J (I (.af 0 (.c i)) a) fun o=>
J (I (.ag (.c o)) a) fun k=>
J (I (.bz (.c r)) a) fun l=>
J (I (.af 1 (.c l)) a) fun m=>
J (I (.ag (.c m)) a) fun n=>
bt .i64 n fun p=>
J (I (.cH 3 (.c k) (.c (.int .i64 p))) a) fun q=>
J (I (.af 0 (.c q)) a) fun s=>
J (I (.ag (.c s)) a) fun t=>
bt .i64 t fun u=>
some (.normal,[(.bool (u !=kind))],a)))
def adv(j:Nat):cz Tryz.prog:= .of R3 (yH j) [] (cT Tryz.prog Tryz.f65 [1,0,0] []) [aD,aP] [0,1] [(.normal,[29],[a4])] (FB j) (fun _ _ _=>by kernel_rfl)
def qL(j:Nat)(r:V)(kind:Int)(h:Lo):OvL:=
ad (aB (.alloc false (.agg [.int .i64 0,(.str []), .int .i64 0])) h) fun c f=>
bO (FB j r kind f) fun g i a=>
al (decide (g= .normal)) (
aZ [a4] i fun o=>
al o (
J (I (.build [.int .i64 0,(.str []), .int .i64 0] []) a) fun d=>
aN (.agg [aP,a3,aP]) d fun k l m=>
ad (aB (.store 3 (.c c) (.c (.agg [.int .i64 k, .str l, .int .i64 m]))) a) fun n b=>
J (dS b 3 c) fun e=>
some ((.bW [e, .bool false]),b)) (
J (I (.bz (.c r)) a) fun p=>
J (I (.af 0 (.c p)) a) fun q=>
J (I (.ag (.c q)) a) fun s=>
J (I (.bz (.c r)) a) fun t=>
J (I (.af 1 (.c t)) a) fun u=>
J (I (.ag (.c u)) a) fun d=>
bt .i64 d fun v=>
J (I (.cH 3 (.c s) (.c (.int .i64 v))) a) fun w=>
J (I (.bp 3 (.c w)) a) fun x=>
aN (.agg [aP,a3,aP]) x fun y z bQ=>
ad (aB (.store 3 (.c c) (.c (.agg [.int .i64 y, .str z, .int .i64 bQ]))) a) fun n b=>
J (dS b 3 c) fun e=>
some ((.bW [e, .bool true]),b))) (
none)
def adw(j:Nat):Lv→Lo→OvL:=cv [aD,aP] (qL j)
theorem B3(j:Nat):cq Tryz.prog 65 (adw j):=cG R3 (yH j) [adv j] [([1,0,0],0)] [aD,aP] _ Tryz.func65 (by kernel_rfl) (by kernel_rfl) (by kernel_rfl) (fun _ _ _=>by kernel_rfl)
def LK:=cE [(a3,[1,8,19,20]),(a4,[4,7,9,15,16,17,21,22,23,31]),(aP,[5,12,27,28]),(pg,[10,13]),(.agg [aP,a3,aP],[14])]
def iL(j:Nat):cd Tryz.prog:= .c (.c .ao (Lt j)) (B3 j)
def FC(j:Nat)(s:Lu)(w:V)(ok:Bool)(h:Lo):a9:=
al ok (
J (I (.af 1 (.c w)) h) fun a=>
J (I (.ag (.c a)) h) fun b=>
b1 b fun c=>
some (.normal,[(.bool (c==s))],h)) (
some (.normal,[.bool false],h))
def adx(j:Nat):cz Tryz.prog:= .of LK (iL j) [] (cT Tryz.prog Tryz.f16 [1,1,1,1,0,0] []) [a3,aD,a4] [1,6,7] [(.normal,[7],[a4])] (FC j) (fun _ _ _ _=>by kernel_rfl)
def FD(j:Nat)(s:Lu)(kind:Int)(h:Lo):a9:=
ad (yq j s h) fun b a=>
bG b fun c=>
al c (
some (.normal,[(.int .i64 (1))],a)) (
some (.normal,[.int .i64 kind],a))
def ady(j:Nat):cz Tryz.prog:= .of LK (iL j) [] (cT Tryz.prog Tryz.f16 [1,1,0] []) [a3,aP] [1,5] [(.normal,[5],[aP])] (FD j) (fun _ _ _=>by kernel_rfl)
def gF(j:Nat)(r:V)(s:Lu)(h:Lo):OvL:=
bO (FD j s (4) h) fun d e f=>
al (decide (d= .normal)) (
aZ [aP] e fun g=>
ad (qL j r g f) fun i o=>
aN pg i fun k l m n=>
ad (aB (.alloc false (.agg [.int .i64 0,(.str []), .int .i64 0])) o) fun c p=>
ad (aB (.store 3 (.c c) (.c (.agg [.int .i64 k, .str l, .int .i64 m]))) p) fun ac q=>
bO (FC j s c n q) fun t u a=>
al (decide (t= .normal)) (
aZ [a4] u fun b=>
al b (
J (I (.bz (.c r)) a) fun v=>
J (I (.af 1 (.c v)) a) fun w=>
J (I (.ag (.c w)) a) fun x=>
bt .i64 x fun y=>
J (I (.bz (.c r)) a) fun z=>
J (I (.af 1 (.c z)) a) fun bQ=>
ad (aB (.store 1 (.c bQ) (.c (.int .i64 (IntKind.i64.wrap (y+(1)))))) a) fun b2 bZ=>
some ((.bool b),bZ)) (
some ((.bool b),a))) (
none)) (
none)
def adz(j:Nat):Lv→Lo→OvL:=cv [aD,a3] (gF j)
theorem kI(j:Nat):cq Tryz.prog 16 (adz j):=cG LK (iL j) [ady j,adx j] [([1,1,0],0),([1,1,1,1,0,0],1)] [aD,a3] _ Tryz.func16 (by kernel_rfl) (by kernel_rfl) (by kernel_rfl) (fun _ _ _=>by kernel_rfl)
def adA:=cE [(aP,[5]),(a4,[6])]
def yD(j:Nat):cd Tryz.prog:= .ao
def rQ(j:Nat)(r:V)(h:Lo):OvL:=
J (I (.bz (.c r)) h) fun a=>
J (I (.af 2 (.c a)) h) fun b=>
J (I (.ag (.c b)) h) fun c=>
bt .i64 c fun d=>
al (d==(0)) (
J (I (.bz (.c r)) h) fun e=>
J (I (.af 2 (.c e)) h) fun f=>
ad (aB (.store 1 (.c f) (.c (.int .i64 (3)))) h) fun i g=>
some ((.bW []),g)) (
some ((.bW []),h))
def adB(j:Nat):Lv→Lo→OvL:=cv [aD] (rQ j)
theorem yI(j:Nat):cq Tryz.prog 18 (adB j):=cG adA (yD j) [] [] [aD] _ Tryz.func18 (by kernel_rfl) (by kernel_rfl) (by kernel_rfl) (fun _ _=>by kernel_rfl)
def adC:=cE [(aP,[2,6])]
def B0(j:Nat):cd Tryz.prog:= .ao
def B4(j:Nat)(r:V)(h:Lo):OvL:=
J (I (.bz (.c r)) h) fun a=>
J (I (.af 2 (.c a)) h) fun b=>
J (I (.ag (.c b)) h) fun c=>
bt .i64 c fun d=>
some ((.int .i64 d),h)
def adD(j:Nat):Lv→Lo→OvL:=cv [aD] (B4 j)
theorem adE(j:Nat):cq Tryz.prog 19 (adD j):=cG adC (B0 j) [] [] [aD] _ Tryz.func19 (by kernel_rfl) (by kernel_rfl) (by kernel_rfl) (fun _ _=>by kernel_rfl)
def R4:=cE [(a3,[2,14,27]),(a4,[4,9,10,11,12,15,16]),(pg,[5,7]),(.agg [aP,a3,aP],[8]),(aP,[22,23])]
def R5(j:Nat):cd Tryz.prog:= .c (.c (.c .ao (yI j)) (Lt j)) (B3 j)
def FE(j:Nat)(r:V)(w:V)(ok:Bool)(h:Lo):a9:=
al (!ok) (
ad (rQ j r h) fun b a=>
some (.ret,[(.str ([]:Lu))],a)) (
J (I (.af 1 (.c w)) h) fun c=>
J (I (.ag (.c c)) h) fun d=>
b1 d fun e=>
ad (yq j e h) fun f a=>
bG f fun g=>
al g (
ad (rQ j r a) fun b i=>
some (.ret,[(.str ([]:Lu))],i)) (
some (.normal,[],a)))
def adF(j:Nat):cz Tryz.prog:= .of R4 (R5 j) [] (cT Tryz.prog Tryz.f91 [1,1,0] []) [aD,aD,a4] [0,3,4] [(.ret,[2],[a3]),(.normal,[],[])] (FE j) (fun _ _ _ _=>by kernel_rfl)
def lq(j:Nat)(r:V)(h:Lo):OvL:=
ad (qL j r (1) h) fun f g=>
aN pg f fun i o k l=>
ad (aB (.alloc false (.agg [.int .i64 0,(.str []), .int .i64 0])) g) fun b m=>
ad (aB (.store 3 (.c b) (.c (.agg [.int .i64 i, .str o, .int .i64 k]))) m) fun bQ n=>
bO (FE j r b l n) fun d e a=>
al (decide (d= .ret)) (
aZ [a3] e fun p=>
some ((.str p),a)) (
al (decide (d= .normal)) (
dT e (
J (I (.bz (.c r)) a) fun q=>
J (I (.af 1 (.c q)) a) fun s=>
J (I (.ag (.c s)) a) fun t=>
bt .i64 t fun u=>
J (I (.bz (.c r)) a) fun v=>
J (I (.af 1 (.c v)) a) fun w=>
ad (aB (.store 1 (.c w) (.c (.int .i64 (IntKind.i64.wrap (u+(1)))))) a) fun bZ c=>
J (I (.af 1 (.c b)) c) fun x=>
J (I (.ag (.c x)) c) fun y=>
b1 y fun z=>
some ((.str z),c))) (
none))
def R6(j:Nat):Lv→Lo→OvL:=cv [aD] (lq j)
theorem qM(j:Nat):cq Tryz.prog 91 (R6 j):=cG R4 (R5 j) [adF j] [([1,1,0],0)] [aD] _ Tryz.func91 (by kernel_rfl) (by kernel_rfl) (by kernel_rfl) (fun _ _=>by kernel_rfl)
def R7:=cE [(a3,[5,11,13]),(aP,[7,8,18]),(a4,[9,14,15])]
def R8(j:Nat):cd Tryz.prog:= .c (.c .ao (kI j)) (yI j)
def FF(j:Nat)(self:V→V→Int→Int→Lo→a9)(r:V)(j4:V)(fX:Int)(fR:Int)(h:Lo):a9:=
al (decide (fR<fX)) (
J (I (.cH 1 (.c j4) (.c (.int .i64 fR))) h) fun b=>
J (I (.ag (.c b)) h) fun c=>
b1 c fun d=>
ad (gF j r d h) fun e a=>
bG e fun f=>
al (!f) (
ad (rQ j r a) fun i g=>
self r j4 fX (IntKind.i64.wrap (fR+(1))) g) (
self r j4 fX (IntKind.i64.wrap (fR+(1))) a)) (
some ((.exit 0),[],h))
def qN(j:Nat):Nat→V→V→Int→Int→Lo→a9
 |0=>fun _ _ _ _ _=>none
 |n+1=>FF j (qN j n)
def adG(j:Nat):cz Tryz.prog:= .loop R7 (R8 j) [] (cT Tryz.prog Tryz.f94 [1,0,0] []) [aD,aD,aP,aP] [0,6,7,8] [((.exit 0),[],[])] (FF j) (qN j) (fun _ _ _ _ _=>rfl) (fun _=>rfl) (fun _ _ _ _ _ _=>by kernel_rfl) j
def hA(j:Nat)(r:V)(list:V)(h:Lo):OvL:=
J (I (.cm (.c list)) h) fun a=>
bt .i64 a fun b=>
bO (qN j j r list b (0) h) fun c d e=>
al (decide (c=(.exit 0))) (
dT d (
some ((.bW []),e))) (
none)
def adH(j:Nat):Lv→Lo→OvL:=cv [aD,aD] (hA j)
theorem oD(j:Nat):cq Tryz.prog 94 (adH j):=cG R7 (R8 j) [adG j] [([1,0],0)] [aD,aD] _ Tryz.func94 (by kernel_rfl) (by kernel_rfl) (by kernel_rfl) (fun _ _ _=>by kernel_rfl)
def LL:=cE [(aP,[1,25,26,32,33]),(a3,[4,24,37]),(a4,[5,7,12,13,14,19,20,21,22,27,28]),(pg,[8,10,15,17]),(.agg [aP,a3,aP],[11,18])]
def LM(j:Nat):cd Tryz.prog:= .c (.c .ao (B3 j)) (RH j)
def FG(j:Nat)(of:Int)(w:V)(ok:Bool)(h:Lo):a9:=
al (!ok) (
some (.ret,[(.str ([]:Lu)), .bool false],h)) (
J (I (.af 1 (.c w)) h) fun b=>
J (I (.ag (.c b)) h) fun c=>
b1 c fun d=>
ad (wk j d h) fun e a=>
bt .i64 e fun f=>
al (f !=of) (
some (.ret,[(.str ([]:Lu)), .bool false],a)) (
some (.normal,[],a)))
def adI(j:Nat):cz Tryz.prog:= .of LL (LM j) [] (cT Tryz.prog Tryz.f130 [1,1,1,0] []) [aP,aD,a4] [1,6,7] [(.ret,[4,5],[a3,a4]),(.normal,[],[])] (FG j) (fun _ _ _ _=>by kernel_rfl)
def B5(j:Nat)(r:V)(w:V)(ok:Bool)(h:Lo):a9:=
al (!ok) (
ad (qL j r (1) h) fun a b=>
aN pg a fun c d e f=>
ad (aB (.store 3 (.c w) (.c (.agg [.int .i64 c, .str d, .int .i64 e]))) b) fun i g=>
some (.normal,[.bool f],g)) (
some (.normal,[.bool ok],h))
def adJ(j:Nat):cz Tryz.prog:= .of LL (LM j) [] (cT Tryz.prog Tryz.f130 [1,1,0] []) [aD,aD,a4] [0,6,7] [(.normal,[7],[a4])] (B5 j) (fun _ _ _ _=>by kernel_rfl)
def yJ(j:Nat)(r:V)(of:Int)(h:Lo):OvL:=
ad (qL j r (4) h) fun f g=>
aN pg f fun i o k l=>
ad (aB (.alloc false (.agg [.int .i64 0,(.str []), .int .i64 0])) g) fun b m=>
ad (aB (.store 3 (.c b) (.c (.agg [.int .i64 i, .str o, .int .i64 k]))) m) fun cn n=>
bO (B5 j r b l n) fun p q s=>
al (decide (p= .normal)) (
aZ [a4] q fun t=>
bO (FG j of b t s) fun d e a=>
al (decide (d= .ret)) (
aZ [a3,a4] e fun u v=>
some ((.bW [.str u, .bool v]),a)) (
al (decide (d= .normal)) (
dT e (
J (I (.bz (.c r)) a) fun w=>
J (I (.af 1 (.c w)) a) fun x=>
J (I (.ag (.c x)) a) fun y=>
bt .i64 y fun z=>
J (I (.bz (.c r)) a) fun bQ=>
J (I (.af 1 (.c bQ)) a) fun bZ=>
ad (aB (.store 1 (.c bZ) (.c (.int .i64 (IntKind.i64.wrap (z+(1)))))) a) fun cr c=>
J (I (.af 1 (.c b)) c) fun ac=>
J (I (.ag (.c ac)) c) fun b2=>
b1 b2 fun b9=>
some ((.bW [.str b9, .bool true]),c))) (
none))) (
none)
def adK(j:Nat):Lv→Lo→OvL:=cv [aD,aP] (yJ j)
theorem R9(j:Nat):cq Tryz.prog 130 (adK j):=cG LL (LM j) [adJ j,adI j] [([1,1,0],0),([1,1,1,0],1)] [aD,aP] _ Tryz.func130 (by kernel_rfl) (by kernel_rfl) (by kernel_rfl) (fun _ _ _=>by kernel_rfl)
def R_:=cE [(a3,[4,6,12,15,30]),(a4,[5,13,14,22,23,26]),(g9,[8,16,18,20,24,31,33]),(.bW [a3,a4],[9,11])]
def Sa(j:Nat)(rc:dy)(dK:fv Tryz.prog rc):cd Tryz.prog:= .c (.c (.c (.r .ao dK) (kI j)) (oD j)) (R9 j)
def LN(j:Nat)(rc:dy)(r:V)(op:Lu)(h:Lo):a9:=
ad (gF j r [78,79,84] h) fun b a=>
bG b fun c=>
al c (
some (.normal,[(.str [73,83,32,78,79,84,32,78,85,76,76])],a)) (
some (.normal,[.str op],a))
def adL(j:Nat)(rc:dy)(dK:fv Tryz.prog rc):cz Tryz.prog:= .of R_ (Sa j rc dK) [] (cT Tryz.prog Tryz.f128 [1,1,1,1,1,0] []) [aD,a3] [0,6] [(.normal,[6],[a3])] (LN j rc) (fun _ _ _=>by kernel_rfl)
def LO(j:Nat)(rc:dy)(r:V)(h:Lo):OvL:=
ad (aB (.alloc false (.agg [.int .i64 0,(.str []), .int .i64 0, .int .i64 0,(.str []),(.str []),(.str []), .ab])) h) fun b z=>
ad (rc 120 [r,(.int .i64 (4))] z) fun bQ bZ=>
aN g9 bQ fun ac b2 b9 cn cr cB cL cM=>
ad (aB (.alloc false (.agg [.int .i64 0,(.str []), .int .i64 0, .int .i64 0,(.str []),(.str []),(.str []), .ab])) bZ) fun d cO=>
ad (aB (.store 8 (.c d) (.c (.agg [.int .i64 ac, .str b2, .int .i64 b9, .int .i64 cn, .str cr, .str cB, .str cL,cM]))) cO) fun nU am=>
ad (yJ j r (3) am) fun cV i=>
aN (.bW [a3,a4]) cV fun ap c3=>
al c3 (
J (I (.bp 8 (.c d)) i) fun o=>
aN g9 o fun l m n p q s t u=>
ad (rc 120 [r,(.int .i64 (4))] i) fun e c=>
aN g9 e fun c8 c9 dc c4 dD dk dP d_=>
bk (I (.bp 8 (.c d)) c=some (.agg [.int .i64 l, .str m, .int .i64 n, .int .i64 p, .str q, .str s, .str t,u])) (
ad (aB (.dN 8 (.agg [.int .i64 0,(.str []), .int .i64 0, .int .i64 0,(.str []),(.str []),(.str []), .ab]) 2 [(0,(.c (.agg [.int .i64 l, .str m, .int .i64 n, .int .i64 p, .str q, .str s, .str t,u]))),(1,(.c (.agg [.int .i64 c8, .str c9, .int .i64 dc, .int .i64 c4, .str dD, .str dk, .str dP,d_])))]) c) fun dV a=>
J (I (.build [.int .i64 0,(.str []), .int .i64 0, .int .i64 0,(.str []),(.str []),(.str []), .ab] [(0,(1,(.c (.int .i64 (4))))),(1,(1,(.c (.str ap)))),(7,(1,(.c dV)))]) a) fun k=>
aN g9 k fun ey eX be e5 ec bi fE fG=>
ad (aB (.store 8 (.c b) (.c (.agg [.int .i64 ey, .str eX, .int .i64 be, .int .i64 e5, .str ec, .str bi, .str fE,fG]))) a) fun v g=>
J (dS g 8 b) fun f=>
some (f,g))) (
ad (gF j r [73,83] i) fun o c=>
bG o fun fk=>
al (!fk) (
J (I (.bp 8 (.c d)) c) fun e=>
aN g9 e fun eD gL hh hZ hJ fu iB iC=>
ad (aB (.store 8 (.c b) (.c (.agg [.int .i64 eD, .str gL, .int .i64 hh, .int .i64 hZ, .str hJ, .str fu, .str iB,iC]))) c) fun v a=>
J (dS a 8 b) fun f=>
some (f,a)) (
bO (LN j rc r [73,83,32,78,85,76,76] c) fun bv iM a=>
al (decide (bv= .normal)) (
aZ [a3] iM fun iZ=>
ad (aB (.dN 1 (.str []) 1 [(0,(.c (.str [78,85,76,76])))]) a) fun iD g=>
ad (hA j r iD g) fun ph w=>
J (I (.bp 8 (.c d)) w) fun e=>
aN g9 e fun eB gE ky gf ce k0 lU ci=>
ad (aB (.dN 8 (.agg [.int .i64 0,(.str []), .int .i64 0, .int .i64 0,(.str []),(.str []),(.str []), .ab]) 1 [(0,(.c (.agg [.int .i64 eB, .str gE, .int .i64 ky, .int .i64 gf, .str ce, .str k0, .str lU,ci])))]) w) fun lV x=>
J (I (.build [.int .i64 0,(.str []), .int .i64 0, .int .i64 0,(.str []),(.str []),(.str []), .ab] [(0,(1,(.c (.int .i64 (5))))),(1,(1,(.c (.str iZ)))),(7,(1,(.c lV)))]) x) fun k=>
aN g9 k fun mM c7 mN mO mP mQ mR cs=>
ad (aB (.store 8 (.c b) (.c (.agg [.int .i64 mM, .str c7, .int .i64 mN, .int .i64 mO, .str mP, .str mQ, .str mR,cs]))) x) fun v y=>
J (dS y 8 b) fun f=>
some (f,y)) (
none)))
def Sb(j:Nat)(rc:dy):Lv→Lo→OvL:=cv [aD] (LO j rc)
theorem adM(j:Nat)(rc:dy)(dK:fv Tryz.prog rc):cq Tryz.prog 128 (Sb j rc):=cG R_ (Sa j rc dK) [adL j rc dK] [([1,1,1,1,1,0],0)] [aD] _ Tryz.func128 (by kernel_rfl) (by kernel_rfl) (by kernel_rfl) (fun _ _=>by kernel_rfl)
def LP:=cE [(aP,[11,19,20]),(a3,[14,27]),(g9,[15,35,41]),(a4,[28,29,31,32,33])]
def LQ(j:Nat)(rc:dy)(dK:fv Tryz.prog rc):cd Tryz.prog:= .c (.c (.r .ao dK) (kI j)) (oD j)
def LR(j:Nat)(rc:dy)(r:V)(e:V)(h:Lo):a9:=
J (I (.af 1 (.c e)) h) fun a=>
J (I (.ag (.c a)) h) fun b=>
b1 b fun c=>
al (!(c==[67,79,85,78,84])) (
some (.normal,[.bool true],h)) (
ad (gF j r [42] h) fun d f=>
bG d fun g=>
some (.normal,[(.bool (!g))],f))
def adN(j:Nat)(rc:dy)(dK:fv Tryz.prog rc):cz Tryz.prog:= .of LP (LQ j rc dK) [] (cT Tryz.prog Tryz.f135 [1,1,1,1,0,0] []) [aD,aD] [0,3] [(.normal,[33],[a4])] (LR j rc) (fun _ _ _=>by kernel_rfl)
def FH(j:Nat)(rc:dy)(r:V)(e:V)(h:Lo):a9:=
bO (LR j rc r e h) fun c d a=>
al (decide (c= .normal)) (
aZ [a4] d fun f=>
al f (
ad (rc 120 [r,(.int .i64 (0))] a) fun g i=>
aN g9 g fun o k l m n p q s=>
ad (aB (.dN 8 (.agg [.int .i64 0,(.str []), .int .i64 0, .int .i64 0,(.str []),(.str []),(.str []), .ab]) 1 [(0,(.c (.agg [.int .i64 o, .str k, .int .i64 l, .int .i64 m, .str n, .str p, .str q,s])))]) i) fun t b=>
J (I (.af 7 (.c e)) b) fun u=>
ad (aB (.store 1 (.c u) (.c t)) b) fun w v=>
some (.normal,[],v)) (
some (.normal,[],a))) (
none)
def adO(j:Nat)(rc:dy)(dK:fv Tryz.prog rc):cz Tryz.prog:= .of LP (LQ j rc dK) [adN j rc dK] (cT Tryz.prog Tryz.f135 [1,1,1,1,0] [([0],0)]) [aD,aD] [0,3] [(.normal,[],[])] (FH j rc) (fun _ _ _=>by kernel_rfl)
def LS(j:Nat)(rc:dy)(r:V)(h:Lo):OvL:=
ad (aB (.alloc false (.agg [.int .i64 0,(.str []), .int .i64 0, .int .i64 0,(.str []),(.str []),(.str []), .ab])) h) fun n a=>
J (I (.bz (.c r)) a) fun d=>
J (I (.af 0 (.c d)) a) fun e=>
J (I (.ag (.c e)) a) fun f=>
J (I (.bz (.c r)) a) fun g=>
J (I (.af 1 (.c g)) a) fun i=>
J (I (.ag (.c i)) a) fun t=>
bt .i64 t fun o=>
J (I (.cH 3 (.c f) (.c (.int .i64 o))) a) fun k=>
J (I (.af 1 (.c k)) a) fun l=>
J (I (.ag (.c l)) a) fun u=>
b1 u fun p=>
J (I (.build [.int .i64 0,(.str []), .int .i64 0, .int .i64 0,(.str []),(.str []),(.str []), .ab] [(0,(1,(.c (.int .i64 (6))))),(1,(1,(.c (.str p))))]) a) fun v=>
aN g9 v fun w x y z bQ bZ ac b2=>
ad (aB (.alloc false (.agg [.int .i64 0,(.str []), .int .i64 0, .int .i64 0,(.str []),(.str []),(.str []), .ab])) a) fun m b=>
bk (I (.ag (.c l)) b=some (.str p)) (
bk (I (.af 1 (.c k)) b=some l) (
bk (I (.cH 3 (.c f) (.c (.int .i64 o))) b=some k) (
bk (I (.ag (.c i)) b=some (.int .i64 o)) (
bk (I (.af 1 (.c g)) b=some i) (
bk (I (.bz (.c r)) b=some g) (
bk (I (.ag (.c e)) b=some f) (
bk (I (.af 0 (.c d)) b=some e) (
bk (I (.bz (.c r)) b=some d) (
ad (aB (.store 8 (.c m) (.c (.agg [.int .i64 w, .str x, .int .i64 y, .int .i64 z, .str bQ, .str bZ, .str ac,b2]))) b) fun bi c=>
J (I (.bz (.c r)) c) fun b9=>
J (I (.af 1 (.c b9)) c) fun cn=>
J (I (.ag (.c cn)) c) fun cr=>
bt .i64 cr fun cB=>
J (I (.bz (.c r)) c) fun cL=>
J (I (.af 1 (.c cL)) c) fun cM=>
ad (aB (.store 1 (.c cM) (.c (.int .i64 (IntKind.i64.wrap (cB+(1)))))) c) fun fE cO=>
ad (aB (.dN 1 (.str []) 1 [(0,(.c (.str [40])))]) cO) fun am cV=>
ad (hA j r am cV) fun fG ap=>
bO (FH j rc r m ap) fun c3 c8 c9=>
al (decide (c3= .normal)) (
dT c8 (
ad (aB (.dN 1 (.str []) 1 [(0,(.c (.str [41])))]) c9) fun dc c4=>
ad (hA j r dc c4) fun fk q=>
J (I (.bp 8 (.c m)) q) fun dD=>
aN g9 dD fun dk dP d_ dV ey eX be e5=>
ad (aB (.store 8 (.c n) (.c (.agg [.int .i64 dk, .str dP, .int .i64 d_, .int .i64 dV, .str ey, .str eX, .str be,e5]))) q) fun eD s=>
J (dS s 8 n) fun ec=>
some (ec,s))) (
none))))))))))
def Sc(j:Nat)(rc:dy):Lv→Lo→OvL:=cv [aD] (LS j rc)
theorem adP(j:Nat)(rc:dy)(dK:fv Tryz.prog rc):cq Tryz.prog 135 (Sc j rc):=cG LP (LQ j rc dK) [adO j rc dK] [([1,1,1,1,0],0)] [aD] _ Tryz.func135 (by kernel_rfl) (by kernel_rfl) (by kernel_rfl) (fun _ _=>by kernel_rfl)
def Sd:=cE [(a4,[5,7,9,12,23,24,40,41,54,60,61,62,65,66,73]),(g9,[14,18,35,52,55,68,71,80]),(pg,[19,21,36,38,56,58]),(.agg [aP,a3,aP],[22,39,59]),(aP,[28,29,33,45,46]),(.agg [aP,aP,a3],[34,51]),(a3,[50,64,70,75,77])]
def Se(j:Nat)(rc:dy)(dK:fv Tryz.prog rc):cd Tryz.prog:= .c (.c (.c (.c (.c (.r .ao dK) (kI j)) (B3 j)) (qM j)) (oD j)) (RK j)
def FI(j:Nat)(rc:dy)(r:V)(du:V)(h:Lo):a9:=
ad (qL j r (1) h) fun d e=>
aN pg d fun f g i o=>
ad (aB (.alloc false (.agg [.int .i64 0,(.str []), .int .i64 0])) e) fun b k=>
ad (aB (.store 3 (.c b) (.c (.agg [.int .i64 f, .str g, .int .i64 i]))) k) fun b2 a=>
al o (
J (I (.af 1 (.c b)) a) fun l=>
J (I (.ag (.c l)) a) fun m=>
b1 m fun n=>
ad (yx j n a) fun p c=>
bG p fun q=>
al q (
ad (rc 135 [r] c) fun s t=>
aN g9 s fun u v w x y z bQ bZ=>
ad (aB (.store 8 (.c du) (.c (.agg [.int .i64 u, .str v, .int .i64 w, .int .i64 x, .str y, .str z, .str bQ,bZ]))) t) fun b9 ac=>
some (.ret,[],ac)) (
some (.normal,[],c))) (
some (.normal,[],a))
def adQ(j:Nat)(rc:dy)(dK:fv Tryz.prog rc):cz Tryz.prog:= .of Sd (Se j rc dK) [] (cT Tryz.prog Tryz.f133 [1,1,1,1,1,0] []) [aD,aD] [0,2] [(.ret,[],[]),(.normal,[],[])] (FI j rc) (fun _ _ _=>by kernel_rfl)
def LU(j:Nat)(rc:dy)(r:V)(h:Lo):OvL:=
ad (aB (.alloc false (.agg [.int .i64 0,(.str []), .int .i64 0, .int .i64 0,(.str []),(.str []),(.str []), .ab])) h) fun a dk=>
ad (gF j r [40] dk) fun dP cB=>
bG dP fun d_=>
al d_ (
ad (rc 120 [r,(.int .i64 (0))] cB) fun s t=>
aN g9 s fun dV ey eX be e5 ec bi fE=>
ad (aB (.alloc false (.agg [.int .i64 0,(.str []), .int .i64 0, .int .i64 0,(.str []),(.str []),(.str []), .ab])) t) fun c u=>
ad (aB (.store 8 (.c c) (.c (.agg [.int .i64 dV, .str ey, .int .i64 eX, .int .i64 be, .str e5, .str ec, .str bi,fE]))) u) fun fG e=>
ad (aB (.dN 1 (.str []) 1 [(0,(.c (.str [41])))]) e) fun fk f=>
ad (hA j r fk f) fun pb o=>
J (I (.bp 8 (.c c)) o) fun n=>
aN g9 n fun eD gL hh hZ hJ fu iB iC=>
ad (aB (.store 8 (.c a) (.c (.agg [.int .i64 eD, .str gL, .int .i64 hh, .int .i64 hZ, .str hJ, .str fu, .str iB,iC]))) o) fun cL d=>
J (dS d 8 a) fun b=>
some (b,d)) (
ad (qL j r (2) cB) fun s t=>
aN pg s fun bv iM iZ iD=>
ad (aB (.alloc false (.agg [.int .i64 0,(.str []), .int .i64 0])) t) fun cM u=>
ad (aB (.store 3 (.c cM) (.c (.agg [.int .i64 bv, .str iM, .int .i64 iZ]))) u) fun fG e=>
al iD (
J (I (.bz (.c r)) e) fun eB=>
J (I (.af 1 (.c eB)) e) fun gE=>
J (I (.ag (.c gE)) e) fun n=>
bt .i64 n fun ky=>
J (I (.bz (.c r)) e) fun gf=>
J (I (.af 1 (.c gf)) e) fun ce=>
ad (aB (.store 1 (.c ce) (.c (.int .i64 (IntKind.i64.wrap (ky+(1)))))) e) fun cL f=>
J (I (.af 2 (.c cM)) f) fun k0=>
J (I (.ag (.c k0)) f) fun p=>
bt .i64 p fun lU=>
J (I (.build [.int .i64 0, .int .i64 0,(.str [])] [(0,(1,(.c (.int .i64 (1))))),(1,(1,(.c (.int .i64 lU))))]) f) fun k=>
aN (.agg [aP,aP,a3]) k fun ci lV mM=>
J (I (.build [.int .i64 0,(.str []), .int .i64 0, .int .i64 0,(.str []),(.str []),(.str []), .ab] [(0,(1,(.c (.int .i64 (1))))),(2,(3,(.c (.agg [.int .i64 ci, .int .i64 lV, .str mM]))))]) f) fun q=>
aN g9 q fun c7 mN mO mP mQ mR cs nU=>
ad (aB (.store 8 (.c a) (.c (.agg [.int .i64 c7, .str mN, .int .i64 mO, .int .i64 mP, .str mQ, .str mR, .str cs,nU]))) f) fun v o=>
J (dS o 8 a) fun b=>
some (b,o)) (
ad (qL j r (3) e) fun n f=>
aN pg n fun ph ud yK yL=>
ad (aB (.alloc false (.agg [.int .i64 0,(.str []), .int .i64 0])) f) fun cO o=>
ad (aB (.store 3 (.c cO) (.c (.agg [.int .i64 ph, .str ud, .int .i64 yK]))) o) fun cL d=>
al yL (
J (I (.bz (.c r)) d) fun yM=>
J (I (.af 1 (.c yM)) d) fun yN=>
J (I (.ag (.c yN)) d) fun p=>
bt .i64 p fun B6=>
J (I (.bz (.c r)) d) fun dU=>
J (I (.af 1 (.c dU)) d) fun b4=>
ad (aB (.store 1 (.c b4) (.c (.int .i64 (IntKind.i64.wrap (B6+(1)))))) d) fun v g=>
J (I (.af 1 (.c cO)) g) fun FJ=>
J (I (.ag (.c FJ)) g) fun k=>
b1 k fun FK=>
J (I (.build [.int .i64 0, .int .i64 0,(.str [])] [(0,(1,(.c (.int .i64 (2))))),(2,(1,(.c (.str FK))))]) g) fun q=>
aN (.agg [aP,aP,a3]) q fun FL jL FM=>
J (I (.build [.int .i64 0,(.str []), .int .i64 0, .int .i64 0,(.str []),(.str []),(.str []), .ab] [(0,(1,(.c (.int .i64 (1))))),(2,(3,(.c (.agg [.int .i64 FL, .int .i64 jL, .str FM]))))]) g) fun w=>
aN g9 w fun LV dl LW nj yO Sf adR aM=>
ad (aB (.store 8 (.c a) (.c (.agg [.int .i64 LV, .str dl, .int .i64 LW, .int .i64 nj, .str yO, .str Sf, .str adR,aM]))) g) fun am i=>
J (dS i 8 a) fun b=>
some (b,i)) (
ad (gF j r [78,85,76,76] d) fun p g=>
bG p fun adS=>
al adS (
J (I (.build [.int .i64 0,(.str []), .int .i64 0, .int .i64 0,(.str []),(.str []),(.str []), .ab] [(0,(1,(.c (.int .i64 (1)))))]) g) fun k=>
aN g9 k fun adT adU adV adW adX adY lW fx=>
ad (aB (.store 8 (.c a) (.c (.agg [.int .i64 adT, .str adU, .int .i64 adV, .int .i64 adW, .str adX, .str adY, .str lW,fx]))) g) fun v i=>
J (dS i 8 a) fun b=>
some (b,i)) (
bO (FI j rc r a g) fun cV ap i=>
al (decide (cV= .ret)) (
dT ap (
J (dS i 8 a) fun b=>
some (b,i))) (
al (decide (cV= .normal)) (
dT ap (
ad (lq j r i) fun k c3=>
b1 k fun adZ=>
J (I (.build [.int .i64 0,(.str []), .int .i64 0, .int .i64 0,(.str []),(.str []),(.str []), .ab] [(0,(1,(.c (.int .i64 (2))))),(6,(1,(.c (.str adZ))))]) c3) fun q=>
aN g9 q fun ad0 kz ad1 D_ ad2 ad3 B7 el=>
ad (aB (.alloc false (.agg [.int .i64 0,(.str []), .int .i64 0, .int .i64 0,(.str []),(.str []),(.str []), .ab])) c3) fun c em=>
ad (aB (.store 8 (.c c) (.c (.agg [.int .i64 ad0, .str kz, .int .i64 ad1, .int .i64 D_, .str ad2, .str ad3, .str B7,el]))) em) fun v BJ=>
ad (gF j r [46] BJ) fun w m=>
bG w fun ad4=>
al ad4 (
J (I (.af 6 (.c c)) m) fun x=>
J (I (.ag (.c x)) m) fun y=>
b1 y fun c8=>
J (I (.af 5 (.c c)) m) fun c9=>
ad (lq j r m) fun eq l=>
b1 eq fun es=>
bk (I (.af 5 (.c c)) l=some c9) (
bk (I (.ag (.c x)) l=some (.str c8)) (
bk (I (.af 6 (.c c)) l=some x) (
ad (aB (.store 1 (.c c9) (.c (.str c8))) l) fun am dc=>
J (I (.af 6 (.c c)) dc) fun ad5=>
ad (aB (.store 1 (.c ad5) (.c (.str es))) dc) fun ex c4=>
J (I (.bp 8 (.c c)) c4) fun LX=>
aN g9 LX fun z bQ bZ ac b2 b9 cn cr=>
ad (aB (.store 8 (.c a) (.c (.agg [.int .i64 z, .str bQ, .int .i64 bZ, .int .i64 ac, .str b2, .str b9, .str cn,cr]))) c4) fun FN dD=>
J (dS dD 8 a) fun b=>
some (b,dD))))) (
J (I (.bp 8 (.c c)) m) fun y=>
aN g9 y fun z bQ bZ ac b2 b9 cn cr=>
ad (aB (.store 8 (.c a) (.c (.agg [.int .i64 z, .str bQ, .int .i64 bZ, .int .i64 ac, .str b2, .str b9, .str cn,cr]))) m) fun am l=>
J (dS l 8 a) fun b=>
some (b,l)))) (
none))))))
def Sg(j:Nat)(rc:dy):Lv→Lo→OvL:=cv [aD] (LU j rc)
theorem ad6(j:Nat)(rc:dy)(dK:fv Tryz.prog rc):cq Tryz.prog 133 (Sg j rc):=cG Sd (Se j rc dK) [adQ j rc dK] [([1,1,1,1,1,0],0)] [aD] _ Tryz.func133 (by kernel_rfl) (by kernel_rfl) (by kernel_rfl) (fun _ _=>by kernel_rfl)
def ad7:=cE [(a4,[4]),(g9,[6,8,10])]
def ad8(j:Nat)(rc:dy)(dK:fv Tryz.prog rc):cd Tryz.prog:= .c (.r .ao dK) (kI j)
def FO(j:Nat)(rc:dy)(r:V)(h:Lo):OvL:=
ad (aB (.alloc false (.agg [.int .i64 0,(.str []), .int .i64 0, .int .i64 0,(.str []),(.str []),(.str []), .ab])) h) fun b i=>
ad (gF j r [45] i) fun o f=>
bG o fun k=>
al k (
ad (rc 129 [r] f) fun c d=>
aN g9 c fun l m n p q s t u=>
ad (aB (.dN 8 (.agg [.int .i64 0,(.str []), .int .i64 0, .int .i64 0,(.str []),(.str []),(.str []), .ab]) 1 [(0,(.c (.agg [.int .i64 l, .str m, .int .i64 n, .int .i64 p, .str q, .str s, .str t,u])))]) d) fun v a=>
J (I (.build [.int .i64 0,(.str []), .int .i64 0, .int .i64 0,(.str []),(.str []),(.str []), .ab] [(0,(1,(.c (.int .i64 (3))))),(1,(1,(.c (.str [45])))),(7,(1,(.c v)))]) a) fun w=>
aN g9 w fun x y z bQ bZ ac b2 b9=>
ad (aB (.store 8 (.c b) (.c (.agg [.int .i64 x, .str y, .int .i64 z, .int .i64 bQ, .str bZ, .str ac, .str b2,b9]))) a) fun cn g=>
J (dS g 8 b) fun e=>
some (e,g)) (
ad (rc 133 [r] f) fun c d=>
aN g9 c fun cr cB cL cM cO am cV ap=>
ad (aB (.store 8 (.c b) (.c (.agg [.int .i64 cr, .str cB, .int .i64 cL, .int .i64 cM, .str cO, .str am, .str cV,ap]))) d) fun cn a=>
J (dS a 8 b) fun e=>
some (e,a))
def Sh(j:Nat)(rc:dy):Lv→Lo→OvL:=cv [aD] (FO j rc)
theorem ad9(j:Nat)(rc:dy)(dK:fv Tryz.prog rc):cq Tryz.prog 129 (Sh j rc):=cG ad7 (ad8 j rc dK) [] [] [aD] _ Tryz.func129 (by kernel_rfl) (by kernel_rfl) (by kernel_rfl) (fun _ _=>by kernel_rfl)
def LY:=cE [(aP,[1,9,20,25,30,31,35,45,46]),(a3,[6,37,42]),(a4,[7,8,10,11,13,14,19,21,24,26,38,39,40]),(g9,[16,18,23,28,32,41,43,47,49]),(.bW [a3,a4],[33,36])]
def uq(j:Nat)(rc:dy)(dK:fv Tryz.prog rc):cd Tryz.prog:= .c (.c (.r .ao dK) (kI j)) (R9 j)
def FP(j:Nat)(rc:dy)(r:V)(of:Int)(h:Lo):a9:=
al (of==(2)) (
ad (gF j r [78,79,84] h) fun a b=>
bG a fun c=>
some (.normal,[.bool c],b)) (
some (.normal,[.bool false],h))
def ad_(j:Nat)(rc:dy)(dK:fv Tryz.prog rc):cz Tryz.prog:= .of LY (uq j rc dK) [] (cT Tryz.prog Tryz.f120 [1,0,0,0] []) [aD,aP] [0,1] [(.normal,[8],[a4])] (FP j rc) (fun _ _ _=>by kernel_rfl)
def FQ(j:Nat)(rc:dy)(self:V→Int→V→V→Lo→a9)(r:V)(of:Int)(jO:V)(e:V)(h:Lo):a9:=
ad (yJ j r of h) fun p a=>
aN (.bW [a3,a4]) p fun q s=>
al (!s) (
J (I (.bp 8 (.c e)) a) fun c=>
aN g9 c fun t u v w x y z bQ=>
ad (aB (.store 8 (.c jO) (.c (.agg [.int .i64 t, .str u, .int .i64 v, .int .i64 w, .str x, .str y, .str z,bQ]))) a) fun bZ b=>
some (.ret,[],b)) (
J (I (.bp 8 (.c e)) a) fun c=>
aN g9 c fun d f g i o k l m=>
ad (rc 120 [r,(.int .i64 (IntKind.i64.wrap (of+(1))))] a) fun ac b=>
aN g9 ac fun b2 b9 cn cr cB cL cM cO=>
bk (I (.bp 8 (.c e)) b=some (.agg [.int .i64 d, .str f, .int .i64 g, .int .i64 i, .str o, .str k, .str l,m])) (
ad (aB (.dN 8 (.agg [.int .i64 0,(.str []), .int .i64 0, .int .i64 0,(.str []),(.str []),(.str []), .ab]) 2 [(0,(.c (.agg [.int .i64 d, .str f, .int .i64 g, .int .i64 i, .str o, .str k, .str l,m]))),(1,(.c (.agg [.int .i64 b2, .str b9, .int .i64 cn, .int .i64 cr, .str cB, .str cL, .str cM,cO])))]) b) fun am n=>
J (I (.build [.int .i64 0,(.str []), .int .i64 0, .int .i64 0,(.str []),(.str []),(.str []), .ab] [(0,(1,(.c (.int .i64 (4))))),(1,(1,(.c (.str q)))),(7,(1,(.c am)))]) n) fun cV=>
aN g9 cV fun ap c3 c8 c9 dc c4 dD dk=>
ad (aB (.store 8 (.c e) (.c (.agg [.int .i64 ap, .str c3, .int .i64 c8, .int .i64 c9, .str dc, .str c4, .str dD,dk]))) n) fun bZ dP=>
self r of jO e dP))
def yP(j:Nat)(rc:dy):Nat→V→Int→V→V→Lo→a9
 |0=>fun _ _ _ _ _=>none
 |n+1=>FQ j rc (yP j rc n)
def aea(j:Nat)(rc:dy)(dK:fv Tryz.prog rc):cz Tryz.prog:= .loop LY (uq j rc dK) [] (cT Tryz.prog Tryz.f120 [1,1,1,0,0] []) [aD,aP,aD,aD] [0,1,4,5] [(.ret,[],[])] (FQ j rc) (yP j rc) (fun _ _ _ _ _=>rfl) (fun _=>rfl) (fun _ _ _ _ _ _=>by kernel_rfl) j
def B8(j:Nat)(rc:dy)(r:V)(of:Int)(h:Lo):OvL:=
ad (aB (.alloc false (.agg [.int .i64 0,(.str []), .int .i64 0, .int .i64 0,(.str []),(.str []),(.str []), .ab])) h) fun b l=>
bO (FP j rc r of l) fun m n f=>
al (decide (m= .normal)) (
aZ [a4] n fun p=>
al p (
ad (rc 120 [r,(.int .i64 (2))] f) fun c d=>
aN g9 c fun q s t u v w x y=>
ad (aB (.dN 8 (.agg [.int .i64 0,(.str []), .int .i64 0, .int .i64 0,(.str []),(.str []),(.str []), .ab]) 1 [(0,(.c (.agg [.int .i64 q, .str s, .int .i64 t, .int .i64 u, .str v, .str w, .str x,y])))]) d) fun z a=>
J (I (.build [.int .i64 0,(.str []), .int .i64 0, .int .i64 0,(.str []),(.str []),(.str []), .ab] [(0,(1,(.c (.int .i64 (3))))),(1,(1,(.c (.str [78,79,84])))),(7,(1,(.c z)))]) a) fun bQ=>
aN g9 bQ fun bZ ac b2 b9 cn cr cB cL=>
ad (aB (.store 8 (.c b) (.c (.agg [.int .i64 bZ, .str ac, .int .i64 b2, .int .i64 b9, .str cn, .str cr, .str cB,cL]))) a) fun i g=>
J (dS g 8 b) fun e=>
some (e,g)) (
al (of==(2)) (
ad (rc 128 [r] f) fun c d=>
aN g9 c fun cM cO am cV ap c3 c8 c9=>
ad (aB (.store 8 (.c b) (.c (.agg [.int .i64 cM, .str cO, .int .i64 am, .int .i64 cV, .str ap, .str c3, .str c8,c9]))) d) fun i a=>
J (dS a 8 b) fun e=>
some (e,a)) (
al (of==(6)) (
ad (rc 129 [r] f) fun c d=>
aN g9 c fun dc c4 dD dk dP d_ dV ey=>
ad (aB (.store 8 (.c b) (.c (.agg [.int .i64 dc, .str c4, .int .i64 dD, .int .i64 dk, .str dP, .str d_, .str dV,ey]))) d) fun i a=>
J (dS a 8 b) fun e=>
some (e,a)) (
ad (rc 120 [r,(.int .i64 (IntKind.i64.wrap (of+(1))))] f) fun c d=>
aN g9 c fun eX be e5 ec bi fE fG fk=>
ad (aB (.alloc false (.agg [.int .i64 0,(.str []), .int .i64 0, .int .i64 0,(.str []),(.str []),(.str []), .ab])) d) fun o a=>
ad (aB (.store 8 (.c o) (.c (.agg [.int .i64 eX, .str be, .int .i64 e5, .int .i64 ec, .str bi, .str fE, .str fG,fk]))) a) fun i g=>
bO (yP j rc j r of b o g) fun eD gL k=>
al (decide (eD= .ret)) (
dT gL (
J (dS k 8 b) fun e=>
some (e,k))) (
none))))) (
none)
def Si(j:Nat)(rc:dy):Lv→Lo→OvL:=cv [aD,aP] (B8 j rc)
theorem Sj(j:Nat)(rc:dy)(dK:fv Tryz.prog rc):cq Tryz.prog 120 (Si j rc):=cG LY (uq j rc dK) [ad_ j rc dK,aea j rc dK] [([1,0,0,0],0),([1,1,1,0],1)] [aD,aP] _ Tryz.func120 (by kernel_rfl) (by kernel_rfl) (by kernel_rfl) (fun _ _ _=>by kernel_rfl)
def iu(j:Nat):Nat→dy
 |0=>nh
 |n+1=>nO 120 (Si j (iu j n)) (nO 128 (Sb j (iu j n)) (nO 129 (Sh j (iu j n)) (nO 133 (Sg j (iu j n)) (nO 135 (Sc j (iu j n)) (nh)))))
theorem yQ(j:Nat):∀n,fv Tryz.prog (iu j n)
 |0=>nQ
 |n+1=>pa (Sj j (iu j n) (yQ j n)) (pa (adM j (iu j n) (yQ j n)) (pa (ad9 j (iu j n) (yQ j n)) (pa (ad6 j (iu j n) (yQ j n)) (pa (adP j (iu j n) (yQ j n)) (nQ)))))
def Sk:=cE [(g9,[5,12,19]),(aP,[9]),(a4,[10,11,13,14,15])]
def Sl(j:Nat):cd Tryz.prog:= .c (.c .ao (LC j (mK j j) (Fi j j))) (Sj j (iu j j) (yQ j j))
def FR(j:Nat)(r:V)(e:V)(h:Lo):a9:=
J (I (.bz (.c r)) h) fun b=>
J (I (.af 2 (.c b)) h) fun c=>
J (I (.ag (.c c)) h) fun d=>
bt .i64 d fun f=>
al (f==(0)) (
J (I (.bp 8 (.c e)) h) fun g=>
aN g9 g fun i o k l m n p q=>
ad (ui j (mK j j) i o k l m n p q (8) h) fun s a=>
bG s fun t=>
al (!t) (
J (I (.bz (.c r)) a) fun u=>
J (I (.af 2 (.c u)) a) fun v=>
ad (aB (.store 1 (.c v) (.c (.int .i64 (4)))) a) fun x w=>
some (.normal,[],w)) (
some (.normal,[],a))) (
some (.normal,[],h))
def aeb(j:Nat):cz Tryz.prog:= .of Sk (Sl j) [] (cT Tryz.prog Tryz.f99 [1,1,0] []) [aD,aD] [0,3] [(.normal,[],[])] (FR j) (fun _ _ _=>by kernel_rfl)
def qO(j:Nat)(r:V)(h:Lo):OvL:=
ad (aB (.alloc false (.agg [.int .i64 0,(.str []), .int .i64 0, .int .i64 0,(.str []),(.str []),(.str []), .ab])) h) fun b e=>
ad (B8 j (iu j j) r (0) e) fun f g=>
aN g9 f fun i o k l m n p q=>
ad (aB (.alloc false (.agg [.int .i64 0,(.str []), .int .i64 0, .int .i64 0,(.str []),(.str []),(.str []), .ab])) g) fun a s=>
ad (aB (.store 8 (.c a) (.c (.agg [.int .i64 i, .str o, .int .i64 k, .int .i64 l, .str m, .str n, .str p,q]))) s) fun cr t=>
bO (FR j r a t) fun u v c=>
al (decide (u= .normal)) (
dT v (
J (I (.bp 8 (.c a)) c) fun w=>
aN g9 w fun x y z bQ bZ ac b2 b9=>
ad (aB (.store 8 (.c b) (.c (.agg [.int .i64 x, .str y, .int .i64 z, .int .i64 bQ, .str bZ, .str ac, .str b2,b9]))) c) fun cB d=>
J (dS d 8 b) fun cn=>
some (cn,d))) (
none)
def LZ(j:Nat):Lv→Lo→OvL:=cv [aD] (qO j)
theorem wx(j:Nat):cq Tryz.prog 99 (LZ j):=cG Sk (Sl j) [aeb j] [([1,1,0],0)] [aD] _ Tryz.func99 (by kernel_rfl) (by kernel_rfl) (by kernel_rfl) (fun _ _=>by kernel_rfl)
def aec:=cE [(aP,[2,17,18,22]),(a4,[4,9,10,11]),(pg,[5,7]),(.agg [aP,a3,aP],[8])]
def rR(j:Nat):cd Tryz.prog:= .c (.c .ao (yI j)) (B3 j)
def FT(j:Nat)(r:V)(h:Lo):OvL:=
ad (qL j r (2) h) fun d e=>
aN pg d fun f g i o=>
ad (aB (.alloc false (.agg [.int .i64 0,(.str []), .int .i64 0])) e) fun c k=>
ad (aB (.store 3 (.c c) (.c (.agg [.int .i64 f, .str g, .int .i64 i]))) k) fun w a=>
al (!o) (
ad (rQ j r a) fun x b=>
some ((.int .i64 (0)),b)) (
J (I (.bz (.c r)) a) fun l=>
J (I (.af 1 (.c l)) a) fun m=>
J (I (.ag (.c m)) a) fun n=>
bt .i64 n fun p=>
J (I (.bz (.c r)) a) fun q=>
J (I (.af 1 (.c q)) a) fun s=>
ad (aB (.store 1 (.c s) (.c (.int .i64 (IntKind.i64.wrap (p+(1)))))) a) fun y b=>
J (I (.af 2 (.c c)) b) fun t=>
J (I (.ag (.c t)) b) fun u=>
bt .i64 u fun v=>
some ((.int .i64 v),b))
def aed(j:Nat):Lv→Lo→OvL:=cv [aD] (FT j)
theorem aee(j:Nat):cq Tryz.prog 109 (aed j):=cG aec (rR j) [] [] [aD] _ Tryz.func109 (by kernel_rfl) (by kernel_rfl) (by kernel_rfl) (fun _ _=>by kernel_rfl)
end
end Go.Proofs.YtjpjeilfmjdhcaaGreat.fw
