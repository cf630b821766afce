/- Functions of the program as Lean functions, and that each call comes to what its function says. Printed by my own tool. No condition. -/
import Derived.Test.YtjpjeilfmjdhcaaGreatProg
import Derived.Test.YtjpjeilfmjdhcaaGreatA3
import Derived.Test.YtjpjeilfmjdhcaaGreatA6
set_option maxRecDepth 100000
set_option linter.unusedVariables false
set_option linter.unusedSimpArgs false
set_option linter.unnecessarySimpa false
namespace Go.Proofs.YtjpjeilfmjdhcaaGreat.fC
open Go E E.K ep eI fw
noncomputable section
abbrev nV:dO:= .agg [aP,a3,aP,aP,a3,a3,a3,aD]
abbrev B9:dO:= .agg [aP,a3,aP,aP,a3,a3,a3,aD,a3]
abbrev yR:dO:= .agg [a3,a3,aP,a3,aP,aP,a3,a3,a3,aD]
abbrev yS:dO:= .agg [aP,a3,aP,aP,a3,a3,a3,aD,a4]
abbrev ur:dO:= .agg [a4,a4,aD,aD,aD,aD,aD,aP]
abbrev yT:dO:= .agg [a3,aP,a3,aP,aP,a3,a3,a3,aD]
def aef:=cE [(a4,[7,8]),(nV,[13])]
def aeg(j:Nat):cd Tryz.prog:= .c (.c .ao (kI j)) (wx j)
def yU(j:Nat)(r:V)(h:Lo):OvL:=
J (I (.bz (.c r)) h) fun b=>
J (I (.af 0 (.c b)) h) fun c=>
J (I (.ag (.c c)) h) fun d=>
ad (gF j d [87,72,69,82,69] h) fun e a=>
bG e fun f=>
al (!f) (
some (V.ab,a)) (
J (I (.bz (.c r)) a) fun g=>
J (I (.af 0 (.c g)) a) fun i=>
J (I (.ag (.c i)) a) fun o=>
ad (qO j o a) fun k l=>
aN nV k fun m n p q s t u v=>
ad (aB (.dN 8 (.agg [.int .i64 0,(.str []), .int .i64 0, .int .i64 0,(.str []),(.str []),(.str []), .ab]) 1 [(0,(.c (.agg [.int .i64 m, .str n, .int .i64 p, .int .i64 q, .str s, .str t, .str u,v])))]) l) fun w x=>
some (w,x))
def aeh(j:Nat):Lv→Lo→OvL:=cv [aD] (yU j)
theorem L0(j:Nat):cq Tryz.prog 102 (aeh j):=cG aef (aeg j) [] [] [aD] _ Tryz.func102 (by kernel_rfl) (by kernel_rfl) (by kernel_rfl) (fun _ _=>by kernel_rfl)
def Sm:=cE [(B9,[7,16]),(a4,[13])]
def Sn(j:Nat)(ay:bK)(b3:dC Tryz.prog ay):cd Tryz.prog:= .v (.c .ao (kI j)) b3
def FU(j:Nat)(ay:bK)(self:V→V→V→Lo→a9)(r:V)(dr:V)(out:V)(h:Lo):a9:=
J (I (.bz (.c r)) h) fun b=>
J (I (.af 0 (.c b)) h) fun c=>
J (I (.ag (.c c)) h) fun d=>
ad (gF j d [44] h) fun e a=>
bG e fun f=>
al f (
ad (ay dr [] a) fun g i=>
aN B9 g fun o k l m n p q s t=>
ad (aB (.dN 9 (.agg [.int .i64 0,(.str []), .int .i64 0, .int .i64 0,(.str []),(.str []),(.str []), .ab,(.str [])]) 1 [(0,(.c (.agg [.int .i64 o, .str k, .int .i64 l, .int .i64 m, .str n, .str p, .str q,s, .str t])))]) i) fun u v=>
ad (aB (.app 9 128 (.c out) (.c u)) v) fun w x=>
self r dr w x) (
some ((.exit 0),[out],a))
def yV(j:Nat)(ay:bK):Nat→V→V→V→Lo→a9
 |0=>fun _ _ _ _=>none
 |n+1=>FU j ay (yV j ay n)
def aei(j:Nat)(ay:bK)(b3:dC Tryz.prog ay):cz Tryz.prog:= .loop Sm (Sn j ay b3) [] (cT Tryz.prog Tryz.f103 [1,1,0,0,0] []) [aD,aD,aD] [0,1,5] [((.exit 0),[5],[aD])] (FU j ay) (yV j ay) (fun _ _ _ _=>rfl) (fun _=>rfl) (fun _ _ _ _ _=>by kernel_rfl) j
def FV(j:Nat)(ay:bK)(r:V)(dr:V)(h:Lo):OvL:=
ad (ay dr [] h) fun a b=>
aN B9 a fun c d e f g i o k l=>
ad (aB (.dN 9 (.agg [.int .i64 0,(.str []), .int .i64 0, .int .i64 0,(.str []),(.str []),(.str []), .ab,(.str [])]) 1 [(0,(.c (.agg [.int .i64 c, .str d, .int .i64 e, .int .i64 f, .str g, .str i, .str o,k, .str l])))]) b) fun m n=>
bO (yV j ay j r dr m n) fun p q s=>
al (decide (p=(.exit 0))) (
aZ [aD] q fun t=>
some (t,s)) (
none)
def aej(j:Nat)(ay:bK):Lv→Lo→OvL:=cv [aD,aD] (FV j ay)
theorem aek(j:Nat)(ay:bK)(b3:dC Tryz.prog ay):cq Tryz.prog 103 (aej j ay):=cG Sm (Sn j ay b3) [aei j ay b3] [([1,1,0,0],0)] [aD,aD] _ Tryz.func103 (by kernel_rfl) (by kernel_rfl) (by kernel_rfl) (fun _ _ _=>by kernel_rfl)
def ael:=cE [(a3,[1,4,14,15]),(a4,[9])]
def aem(j:Nat):cd Tryz.prog:= .c (.c .ao (kI j)) (qM j)
def B_(j:Nat)(r:V)(name:Lu)(h:Lo):OvL:=
J (I (.bz (.c r)) h) fun b=>
J (I (.af 0 (.c b)) h) fun c=>
J (I (.ag (.c c)) h) fun d=>
ad (gF j d [65,83] h) fun e a=>
bG e fun f=>
al f (
J (I (.bz (.c r)) a) fun g=>
J (I (.af 0 (.c g)) a) fun i=>
J (I (.ag (.c i)) a) fun o=>
ad (lq j o a) fun k l=>
b1 k fun m=>
some ((.str m),l)) (
some ((.str name),a))
def aen(j:Nat):Lv→Lo→OvL:=cv [aD,a3] (B_ j)
theorem So(j:Nat):cq Tryz.prog 121 (aen j):=cG ael (aem j) [] [] [aD,a3] _ Tryz.func121 (by kernel_rfl) (by kernel_rfl) (by kernel_rfl) (fun _ _ _=>by kernel_rfl)
def aeo:=cE [(nV,[8,9]),(a3,[11]),(B9,[12])]
def aep(j:Nat):cd Tryz.prog:= .c (.c .ao (wx j)) (So j)
def FW(j:Nat)(r:V)(h:Lo):OvL:=
ad (aB (.alloc false (.agg [.int .i64 0,(.str []), .int .i64 0, .int .i64 0,(.str []),(.str []),(.str []), .ab,(.str [])])) h) fun d a=>
J (I (.bz (.c r)) a) fun q=>
J (I (.af 0 (.c q)) a) fun s=>
J (I (.ag (.c s)) a) fun t=>
ad (qO j t a) fun u v=>
aN nV u fun w x y z bQ bZ ac b2=>
ad (aB (.alloc false (.agg [.int .i64 0,(.str []), .int .i64 0, .int .i64 0,(.str []),(.str []),(.str []), .ab])) v) fun b b9=>
ad (aB (.store 8 (.c b) (.c (.agg [.int .i64 w, .str x, .int .i64 y, .int .i64 z, .str bQ, .str bZ, .str ac,b2]))) b9) fun dD e=>
J (I (.bp 8 (.c b)) e) fun cn=>
aN nV cn fun f g i o k l m n=>
ad (B_ j r ([]:Lu) e) fun cr c=>
b1 cr fun cB=>
bk (I (.bp 8 (.c b)) c=some (.agg [.int .i64 f, .str g, .int .i64 i, .int .i64 o, .str k, .str l, .str m,n])) (
J (I (.build [.int .i64 0,(.str []), .int .i64 0, .int .i64 0,(.str []),(.str []),(.str []), .ab,(.str [])] [(0,(8,(.c (.agg [.int .i64 f, .str g, .int .i64 i, .int .i64 o, .str k, .str l, .str m,n])))),(8,(1,(.c (.str cB))))]) c) fun cL=>
aN B9 cL fun cM cO am cV ap c3 c8 c9 dc=>
ad (aB (.store 9 (.c d) (.c (.agg [.int .i64 cM, .str cO, .int .i64 am, .int .i64 cV, .str ap, .str c3, .str c8,c9, .str dc]))) c) fun dk p=>
J (dS p 9 d) fun c4=>
some (c4,p))
def Sp(j:Nat):Lv→Lo→OvL:=cv [aD] (FW j)
theorem aeq(j:Nat):cq Tryz.prog 104 (Sp j):=cG aeo (aep j) [] [] [aD] _ Tryz.func104 (by kernel_rfl) (by kernel_rfl) (by kernel_rfl) (fun _ _=>by kernel_rfl)
def aer:=cE [(a3,[3,8,9,11,12]),(yR,[13])]
def aes(j:Nat):cd Tryz.prog:= .c (.c .ao (qM j)) (So j)
def Ca(j:Nat)(r:V)(h:Lo):OvL:=
ad (aB (.alloc false (.agg [(.str []),(.str []), .int .i64 0,(.str []), .int .i64 0, .int .i64 0,(.str []),(.str []),(.str []), .ab])) h) fun b a=>
J (I (.bz (.c r)) a) fun f=>
J (I (.af 0 (.c f)) a) fun g=>
J (I (.ag (.c g)) a) fun i=>
ad (lq j i a) fun o k=>
b1 o fun c=>
ad (B_ j r c k) fun l d=>
b1 l fun m=>
J (I (.build [(.str []),(.str []), .int .i64 0,(.str []), .int .i64 0, .int .i64 0,(.str []),(.str []),(.str []), .ab] [(0,(1,(.c (.str c)))),(1,(1,(.c (.str m))))]) d) fun n=>
aN yR n fun p q s t u v w x y z=>
ad (aB (.store 10 (.c b) (.c (.agg [.str p, .str q, .int .i64 s, .str t, .int .i64 u, .int .i64 v, .str w, .str x, .str y,z]))) d) fun bZ e=>
J (dS e 10 b) fun bQ=>
some (bQ,e)
def aet(j:Nat):Lv→Lo→OvL:=cv [aD] (Ca j)
theorem aeu(j:Nat):cq Tryz.prog 105 (aet j):=cG aer (aes j) [] [] [aD] _ Tryz.func105 (by kernel_rfl) (by kernel_rfl) (by kernel_rfl) (fun _ _=>by kernel_rfl)
def Sq:=cE [(nV,[7,16]),(a4,[13])]
def Sr(j:Nat)(ay:bK)(b3:dC Tryz.prog ay):cd Tryz.prog:= .v (.c .ao (kI j)) b3
def FX(j:Nat)(ay:bK)(self:V→V→V→Lo→a9)(r:V)(dr:V)(out:V)(h:Lo):a9:=
J (I (.bz (.c r)) h) fun b=>
J (I (.af 0 (.c b)) h) fun c=>
J (I (.ag (.c c)) h) fun d=>
ad (gF j d [44] h) fun e a=>
bG e fun f=>
al f (
ad (ay dr [] a) fun g i=>
aN nV g fun o k l m n p q s=>
ad (aB (.dN 8 (.agg [.int .i64 0,(.str []), .int .i64 0, .int .i64 0,(.str []),(.str []),(.str []), .ab]) 1 [(0,(.c (.agg [.int .i64 o, .str k, .int .i64 l, .int .i64 m, .str n, .str p, .str q,s])))]) i) fun t u=>
ad (aB (.app 8 112 (.c out) (.c t)) u) fun v w=>
self r dr v w) (
some ((.exit 0),[out],a))
def yW(j:Nat)(ay:bK):Nat→V→V→V→Lo→a9
 |0=>fun _ _ _ _=>none
 |n+1=>FX j ay (yW j ay n)
def aev(j:Nat)(ay:bK)(b3:dC Tryz.prog ay):cz Tryz.prog:= .loop Sq (Sr j ay b3) [] (cT Tryz.prog Tryz.f106 [1,1,0,0,0] []) [aD,aD,aD] [0,1,5] [((.exit 0),[5],[aD])] (FX j ay) (yW j ay) (fun _ _ _ _=>rfl) (fun _=>rfl) (fun _ _ _ _ _=>by kernel_rfl) j
def Cb(j:Nat)(ay:bK)(r:V)(dr:V)(h:Lo):OvL:=
ad (ay dr [] h) fun a b=>
aN nV a fun c d e f g i o k=>
ad (aB (.dN 8 (.agg [.int .i64 0,(.str []), .int .i64 0, .int .i64 0,(.str []),(.str []),(.str []), .ab]) 1 [(0,(.c (.agg [.int .i64 c, .str d, .int .i64 e, .int .i64 f, .str g, .str i, .str o,k])))]) b) fun l m=>
bO (yW j ay j r dr l m) fun n p q=>
al (decide (n=(.exit 0))) (
aZ [aD] p fun s=>
some (s,q)) (
none)
def aew(j:Nat)(ay:bK):Lv→Lo→OvL:=cv [aD,aD] (Cb j ay)
theorem Ss(j:Nat)(ay:bK)(b3:dC Tryz.prog ay):cq Tryz.prog 106 (aew j ay):=cG Sq (Sr j ay b3) [aev j ay b3] [([1,1,0,0],0)] [aD,aD] _ Tryz.func106 (by kernel_rfl) (by kernel_rfl) (by kernel_rfl) (fun _ _ _=>by kernel_rfl)
def St:=cE [(yS,[7,16]),(a4,[13])]
def Cc(j:Nat)(ay:bK)(b3:dC Tryz.prog ay):cd Tryz.prog:= .v (.c .ao (kI j)) b3
def FY(j:Nat)(ay:bK)(self:V→V→V→Lo→a9)(r:V)(dr:V)(out:V)(h:Lo):a9:=
J (I (.bz (.c r)) h) fun b=>
J (I (.af 0 (.c b)) h) fun c=>
J (I (.ag (.c c)) h) fun d=>
ad (gF j d [44] h) fun e a=>
bG e fun f=>
al f (
ad (ay dr [] a) fun g i=>
aN yS g fun o k l m n p q s t=>
ad (aB (.dN 9 (.agg [.int .i64 0,(.str []), .int .i64 0, .int .i64 0,(.str []),(.str []),(.str []), .ab, .bool false]) 1 [(0,(.c (.agg [.int .i64 o, .str k, .int .i64 l, .int .i64 m, .str n, .str p, .str q,s, .bool t])))]) i) fun u v=>
ad (aB (.app 9 120 (.c out) (.c u)) v) fun w x=>
self r dr w x) (
some ((.exit 0),[out],a))
def yX(j:Nat)(ay:bK):Nat→V→V→V→Lo→a9
 |0=>fun _ _ _ _=>none
 |n+1=>FY j ay (yX j ay n)
def aex(j:Nat)(ay:bK)(b3:dC Tryz.prog ay):cz Tryz.prog:= .loop St (Cc j ay b3) [] (cT Tryz.prog Tryz.f107 [1,1,0,0,0] []) [aD,aD,aD] [0,1,5] [((.exit 0),[5],[aD])] (FY j ay) (yX j ay) (fun _ _ _ _=>rfl) (fun _=>rfl) (fun _ _ _ _ _=>by kernel_rfl) j
def FZ(j:Nat)(ay:bK)(r:V)(dr:V)(h:Lo):OvL:=
ad (ay dr [] h) fun a b=>
aN yS a fun c d e f g i o k l=>
ad (aB (.dN 9 (.agg [.int .i64 0,(.str []), .int .i64 0, .int .i64 0,(.str []),(.str []),(.str []), .ab, .bool false]) 1 [(0,(.c (.agg [.int .i64 c, .str d, .int .i64 e, .int .i64 f, .str g, .str i, .str o,k, .bool l])))]) b) fun m n=>
bO (yX j ay j r dr m n) fun p q s=>
al (decide (p=(.exit 0))) (
aZ [aD] q fun t=>
some (t,s)) (
none)
def aey(j:Nat)(ay:bK):Lv→Lo→OvL:=cv [aD,aD] (FZ j ay)
theorem aez(j:Nat)(ay:bK)(b3:dC Tryz.prog ay):cq Tryz.prog 107 (aey j ay):=cG St (Cc j ay b3) [aex j ay b3] [([1,1,0,0],0)] [aD,aD] _ Tryz.func107 (by kernel_rfl) (by kernel_rfl) (by kernel_rfl) (fun _ _ _=>by kernel_rfl)
def aeA:=cE [(nV,[8,9]),(a4,[14,15,16,21,22]),(yS,[23])]
def s0(j:Nat):cd Tryz.prog:= .c (.c .ao (kI j)) (wx j)
def F0(j:Nat)(r:V)(h:Lo):OvL:=
ad (aB (.alloc false (.agg [.int .i64 0,(.str []), .int .i64 0, .int .i64 0,(.str []),(.str []),(.str []), .ab, .bool false])) h) fun n p=>
J (I (.bz (.c r)) p) fun b2=>
J (I (.af 0 (.c b2)) p) fun b9=>
J (I (.ag (.c b9)) p) fun cn=>
ad (qO j cn p) fun cr cB=>
aN nV cr fun cL cM cO am cV ap c3 c8=>
ad (aB (.alloc false (.agg [.int .i64 0,(.str []), .int .i64 0, .int .i64 0,(.str []),(.str []),(.str []), .ab])) cB) fun c c9=>
ad (aB (.store 8 (.c c) (.c (.agg [.int .i64 cL, .str cM, .int .i64 cO, .int .i64 am, .str cV, .str ap, .str c3,c8]))) c9) fun bi d=>
J (I (.bp 8 (.c c)) d) fun dc=>
aN nV dc fun e f g i o k l m=>
J (I (.bz (.c r)) d) fun c4=>
J (I (.af 0 (.c c4)) d) fun dD=>
J (I (.ag (.c dD)) d) fun dk=>
ad (gF j dk [65,83,67] d) fun dP a=>
bG dP fun d_=>
bk (I (.bp 8 (.c c)) a=some (.agg [.int .i64 e, .str f, .int .i64 g, .int .i64 i, .str o, .str k, .str l,m])) (
al (!d_) (
J (I (.bz (.c r)) a) fun dV=>
J (I (.af 0 (.c dV)) a) fun ey=>
J (I (.ag (.c ey)) a) fun eX=>
ad (gF j eX [68,69,83,67] a) fun q b=>
bG q fun be=>
bk (I (.bp 8 (.c c)) b=some (.agg [.int .i64 e, .str f, .int .i64 g, .int .i64 i, .str o, .str k, .str l,m])) (
J (I (.build [.int .i64 0,(.str []), .int .i64 0, .int .i64 0,(.str []),(.str []),(.str []), .ab, .bool false] [(0,(8,(.c (.agg [.int .i64 e, .str f, .int .i64 g, .int .i64 i, .str o, .str k, .str l,m])))),(8,(1,(.c (.bool be))))]) b) fun e5=>
aN yS e5 fun s t u v w x y z bQ=>
ad (aB (.store 9 (.c n) (.c (.agg [.int .i64 s, .str t, .int .i64 u, .int .i64 v, .str w, .str x, .str y,z, .bool bQ]))) b) fun ec ac=>
J (dS ac 9 n) fun bZ=>
some (bZ,ac))) (
bk (I (.bp 8 (.c c)) a=some (.agg [.int .i64 e, .str f, .int .i64 g, .int .i64 i, .str o, .str k, .str l,m])) (
J (I (.build [.int .i64 0,(.str []), .int .i64 0, .int .i64 0,(.str []),(.str []),(.str []), .ab, .bool false] [(0,(8,(.c (.agg [.int .i64 e, .str f, .int .i64 g, .int .i64 i, .str o, .str k, .str l,m])))),(8,(1,(.c (.bool false))))]) a) fun q=>
aN yS q fun s t u v w x y z bQ=>
ad (aB (.store 9 (.c n) (.c (.agg [.int .i64 s, .str t, .int .i64 u, .int .i64 v, .str w, .str x, .str y,z, .bool bQ]))) a) fun ec b=>
J (dS b 9 n) fun bZ=>
some (bZ,b))))
def Su(j:Nat):Lv→Lo→OvL:=cv [aD] (F0 j)
theorem aeB(j:Nat):cq Tryz.prog 108 (Su j):=cG aeA (s0 j) [] [] [aD] _ Tryz.func108 (by kernel_rfl) (by kernel_rfl) (by kernel_rfl) (fun _ _=>by kernel_rfl)
def wy(j:Nat):bK:=ju 108 (Su j) (ju 104 (Sp j) (ju 99 (LZ j) (nP)))
theorem F1(j:Nat):dC Tryz.prog (wy j):=j1 (aeB j) (j1 (aeq j) (j1 (wx j) (ot)))
def Cd:=cE [(ur,[5,110]),(a4,[10,16,19,20,40,68,87,103]),(yR,[33,42,57]),(nV,[53]),(aP,[108])]
def Ce(j:Nat):cd Tryz.prog:= .v (.c (.c (.c (.c (.c (.c (.c (.c (.c .ao (kI j)) (oD j)) (wx j)) (L0 j)) (aek j (wy j) (F1 j))) (aeu j)) (Ss j (wy j) (F1 j))) (aez j (wy j) (F1 j))) (aee j)) (F1 j)
def F2(j:Nat)(self:V→V→Lo→a9)(r:V)(q:V)(h:Lo):a9:=
J (I (.bz (.c r)) h) fun i=>
J (I (.af 0 (.c i)) h) fun o=>
J (I (.ag (.c o)) h) fun k=>
ad (gF j k [74,79,73,78] h) fun l e=>
bG l fun m=>
al m (
ad (Ca j r e) fun n p=>
aN yR n fun s t u v w x y z bQ bZ=>
ad (aB (.alloc false (.agg [(.str []),(.str []), .int .i64 0,(.str []), .int .i64 0, .int .i64 0,(.str []),(.str []),(.str []), .ab])) p) fun d ac=>
ad (aB (.store 10 (.c d) (.c (.agg [.str s, .str t, .int .i64 u, .str v, .int .i64 w, .int .i64 x, .str y, .str z, .str bQ,bZ]))) ac) fun iB a=>
J (I (.bz (.c r)) a) fun b2=>
J (I (.af 0 (.c b2)) a) fun b9=>
J (I (.ag (.c b9)) a) fun cn=>
ad (aB (.dN 1 (.str []) 1 [(0,(.c (.str [79,78])))]) a) fun cr cB=>
ad (hA j cn cr cB) fun iC b=>
J (I (.bz (.c r)) b) fun cL=>
J (I (.af 0 (.c cL)) b) fun cM=>
J (I (.ag (.c cM)) b) fun cO=>
ad (qO j cO b) fun am f=>
aN nV am fun cV ap c3 c8 c9 dc c4 dD=>
J (I (.af 2 (.c d)) f) fun dk=>
ad (aB (.store 8 (.c dk) (.c (.agg [.int .i64 cV, .str ap, .int .i64 c3, .int .i64 c8, .str c9, .str dc, .str c4,dD]))) f) fun bv c=>
J (I (.af 3 (.c q)) c) fun dP=>
J (I (.ag (.c dP)) c) fun d_=>
J (I (.bp 10 (.c d)) c) fun dV=>
aN yR dV fun ey eX be e5 ec bi fE fG fk eD=>
ad (aB (.dN 10 (.agg [(.str []),(.str []), .int .i64 0,(.str []), .int .i64 0, .int .i64 0,(.str []),(.str []),(.str []), .ab]) 1 [(0,(.c (.agg [.str ey, .str eX, .int .i64 be, .str e5, .int .i64 ec, .int .i64 bi, .str fE, .str fG, .str fk,eD])))]) c) fun gL hh=>
ad (aB (.app 10 144 (.c d_) (.c gL)) hh) fun hZ g=>
J (I (.af 3 (.c q)) g) fun hJ=>
ad (aB (.store 1 (.c hJ) (.c hZ)) g) fun iM fu=>
self r q fu) (
some ((.exit 0),[],e))
def yY(j:Nat):Nat→V→V→Lo→a9
 |0=>fun _ _ _=>none
 |n+1=>F2 j (yY j n)
def aeC(j:Nat):cz Tryz.prog:= .loop Cd (Ce j) [] (cT Tryz.prog Tryz.f63 [1,1,1,1,1,1,0,0,0] []) [aD,aD] [0,3] [((.exit 0),[],[])] (F2 j) (yY j) (fun _ _ _=>rfl) (fun _=>rfl) (fun _ _ _ _=>by kernel_rfl) j
def F3(j:Nat)(r:V)(q:V)(h:Lo):a9:=
J (I (.bz (.c r)) h) fun c=>
J (I (.af 0 (.c c)) h) fun d=>
J (I (.ag (.c d)) h) fun e=>
ad (gF j e [79,82,68,69,82] h) fun f a=>
bG f fun g=>
al g (
J (I (.bz (.c r)) a) fun i=>
J (I (.af 0 (.c i)) a) fun o=>
J (I (.ag (.c o)) a) fun k=>
ad (aB (.dN 1 (.str []) 1 [(0,(.c (.str [66,89])))]) a) fun l m=>
ad (hA j k l m) fun u n=>
ad (FZ j (wy j) r (.eD 108 [r]) n) fun p b=>
J (I (.af 6 (.c q)) b) fun s=>
ad (aB (.store 1 (.c s) (.c p)) b) fun v t=>
some (.normal,[],t)) (
some (.normal,[],a))
def aeD(j:Nat):cz Tryz.prog:= .of Cd (Ce j) [] (cT Tryz.prog Tryz.f63 [1,1,1,1,1,1,1,1,1,0] []) [aD,aD] [0,3] [(.normal,[],[])] (F3 j) (fun _ _ _=>by kernel_rfl)
def F4(j:Nat)(r:V)(q:V)(h:Lo):a9:=
J (I (.bz (.c r)) h) fun d=>
J (I (.af 0 (.c d)) h) fun e=>
J (I (.ag (.c e)) h) fun f=>
ad (gF j f [71,82,79,85,80] h) fun g a=>
bG g fun i=>
al i (
J (I (.bz (.c r)) a) fun o=>
J (I (.af 0 (.c o)) a) fun k=>
J (I (.ag (.c k)) a) fun l=>
ad (aB (.dN 1 (.str []) 1 [(0,(.c (.str [66,89])))]) a) fun m n=>
ad (hA j l m n) fun x b=>
J (I (.bz (.c r)) b) fun p=>
J (I (.af 0 (.c p)) b) fun s=>
J (I (.ag (.c s)) b) fun t=>
ad (Cb j (wy j) r (.eD 99 [t]) b) fun u c=>
J (I (.af 5 (.c q)) c) fun v=>
ad (aB (.store 1 (.c v) (.c u)) c) fun y w=>
some (.normal,[],w)) (
some (.normal,[],a))
def aeE(j:Nat):cz Tryz.prog:= .of Cd (Ce j) [] (cT Tryz.prog Tryz.f63 [1,1,1,1,1,1,1,1,0] []) [aD,aD] [0,3] [(.normal,[],[])] (F4 j) (fun _ _ _=>by kernel_rfl)
def F5(j:Nat)(r:V)(q:V)(h:Lo):a9:=
J (I (.bz (.c r)) h) fun d=>
J (I (.af 0 (.c d)) h) fun e=>
J (I (.ag (.c e)) h) fun f=>
ad (gF j f [42] h) fun g b=>
bG g fun i=>
J (I (.af 1 (.c q)) b) fun o=>
ad (aB (.store 1 (.c o) (.c (.bool i))) b) fun t a=>
J (I (.af 1 (.c q)) a) fun k=>
J (I (.ag (.c k)) a) fun l=>
bG l fun m=>
al (!m) (
ad (FV j (wy j) r (.eD 104 [r]) a) fun n c=>
J (I (.af 2 (.c q)) c) fun p=>
ad (aB (.store 1 (.c p) (.c n)) c) fun u s=>
some (.normal,[],s)) (
some (.normal,[],a))
def aeF(j:Nat):cz Tryz.prog:= .of Cd (Ce j) [] (cT Tryz.prog Tryz.f63 [1,1,1,0] []) [aD,aD] [0,3] [(.normal,[],[])] (F5 j) (fun _ _ _=>by kernel_rfl)
def Cf(j:Nat)(r:V)(h:Lo):OvL:=
ad (aB (.alloc false (.agg [.bool false, .bool false, .ab, .ab, .ab, .ab, .ab, .int .i64 0])) h) fun d u=>
J (I (.build [.bool false, .bool false, .ab, .ab, .ab, .ab, .ab, .int .i64 0] [(7,(1,(.c (.int .i64 (-1)))))]) u) fun bQ=>
aN ur bQ fun bZ ac b2 b9 cn cr cB cL=>
ad (aB (.alloc false (.agg [.bool false, .bool false, .ab, .ab, .ab, .ab, .ab, .int .i64 0])) u) fun a cM=>
ad (aB (.store 8 (.c a) (.c (.agg [.bool bZ, .bool ac,b2,b9,cn,cr,cB, .int .i64 cL]))) cM) fun ph e=>
J (I (.bz (.c r)) e) fun cO=>
J (I (.af 0 (.c cO)) e) fun am=>
J (I (.ag (.c am)) e) fun cV=>
ad (gF j cV [68,73,83,84,73,78,67,84] e) fun ap v=>
bG ap fun c3=>
J (I (.af 0 (.c a)) v) fun c8=>
ad (aB (.store 1 (.c c8) (.c (.bool c3))) v) fun ud c9=>
bO (F5 j r a c9) fun dc c4 f=>
al (decide (dc= .normal)) (
dT c4 (
J (I (.bz (.c r)) f) fun dD=>
J (I (.af 0 (.c dD)) f) fun dk=>
J (I (.ag (.c dk)) f) fun dP=>
ad (aB (.dN 1 (.str []) 1 [(0,(.c (.str [70,82,79,77])))]) f) fun d_ dV=>
ad (hA j dP d_ dV) fun yK ey=>
ad (Ca j r ey) fun eX be=>
aN yR eX fun e5 ec bi fE fG fk eD gL hh hZ=>
ad (aB (.dN 10 (.agg [(.str []),(.str []), .int .i64 0,(.str []), .int .i64 0, .int .i64 0,(.str []),(.str []),(.str []), .ab]) 1 [(0,(.c (.agg [.str e5, .str ec, .int .i64 bi, .str fE, .int .i64 fG, .int .i64 fk, .str eD, .str gL, .str hh,hZ])))]) be) fun hJ w=>
J (I (.af 3 (.c a)) w) fun fu=>
ad (aB (.store 1 (.c fu) (.c hJ)) w) fun yL iB=>
bO (yY j j r a iB) fun iC bv iM=>
al (decide (iC=(.exit 0))) (
dT bv (
ad (yU j r iM) fun iZ x=>
J (I (.af 4 (.c a)) x) fun iD=>
ad (aB (.store 1 (.c iD) (.c iZ)) x) fun yM eB=>
bO (F4 j r a eB) fun gE ky gf=>
al (decide (gE= .normal)) (
dT ky (
bO (F3 j r a gf) fun ce k0 g=>
al (decide (ce= .normal)) (
dT k0 (
J (I (.bz (.c r)) g) fun lU=>
J (I (.af 0 (.c lU)) g) fun ci=>
J (I (.ag (.c ci)) g) fun lV=>
ad (gF j lV [76,73,77,73,84] g) fun mM b=>
bG mM fun c7=>
al c7 (
J (I (.bz (.c r)) b) fun mN=>
J (I (.af 0 (.c mN)) b) fun mO=>
J (I (.ag (.c mO)) b) fun mP=>
ad (FT j mP b) fun i c=>
bt .i64 i fun mQ=>
J (I (.af 7 (.c a)) c) fun mR=>
ad (aB (.store 1 (.c mR) (.c (.int .i64 mQ))) c) fun cs y=>
J (I (.bp 8 (.c a)) y) fun nU=>
aN ur nU fun o k l m n p q s=>
ad (aB (.store 8 (.c d) (.c (.agg [.bool o, .bool k,l,m,n,p,q, .int .i64 s]))) y) fun yN z=>
J (dS z 8 d) fun t=>
some (t,z)) (
J (I (.bp 8 (.c a)) b) fun i=>
aN ur i fun o k l m n p q s=>
ad (aB (.store 8 (.c d) (.c (.agg [.bool o, .bool k,l,m,n,p,q, .int .i64 s]))) b) fun cs c=>
J (dS c 8 d) fun t=>
some (t,c)))) (
none))) (
none))) (
none))) (
none)
def aeG(j:Nat):Lv→Lo→OvL:=cv [aD] (Cf j)
theorem Sv(j:Nat):cq Tryz.prog 63 (aeG j):=cG Cd (Ce j) [aeF j,aeC j,aeE j,aeD j] [([1,1,1,0],0),([1,1,1,1,1,1,0,0],1),([1,1,1,1,1,1,1,1,0],2),([1,1,1,1,1,1,1,1,1,0],3)] [aD] _ Tryz.func63 (by kernel_rfl) (by kernel_rfl) (by kernel_rfl) (fun _ _=>by kernel_rfl)
def Sw:=cE [(.agg [a3,aP,a4,a4],[7,16]),(a4,[13])]
def Sx(j:Nat)(ay:bK)(b3:dC Tryz.prog ay):cd Tryz.prog:= .v (.c .ao (kI j)) b3
def F6(j:Nat)(ay:bK)(self:V→V→V→Lo→a9)(r:V)(dr:V)(out:V)(h:Lo):a9:=
J (I (.bz (.c r)) h) fun b=>
J (I (.af 0 (.c b)) h) fun c=>
J (I (.ag (.c c)) h) fun d=>
ad (gF j d [44] h) fun e a=>
bG e fun f=>
al f (
ad (ay dr [] a) fun g i=>
aN (.agg [a3,aP,a4,a4]) g fun o k l m=>
ad (aB (.dN 4 (.agg [(.str []), .int .i64 0, .bool false, .bool false]) 1 [(0,(.c (.agg [.str o, .int .i64 k, .bool l, .bool m])))]) i) fun n p=>
ad (aB (.app 4 32 (.c out) (.c n)) p) fun q s=>
self r dr q s) (
some ((.exit 0),[out],a))
def yZ(j:Nat)(ay:bK):Nat→V→V→V→Lo→a9
 |0=>fun _ _ _ _=>none
 |n+1=>F6 j ay (yZ j ay n)
def aeH(j:Nat)(ay:bK)(b3:dC Tryz.prog ay):cz Tryz.prog:= .loop Sw (Sx j ay b3) [] (cT Tryz.prog Tryz.f118 [1,1,0,0,0] []) [aD,aD,aD] [0,1,5] [((.exit 0),[5],[aD])] (F6 j ay) (yZ j ay) (fun _ _ _ _=>rfl) (fun _=>rfl) (fun _ _ _ _ _=>by kernel_rfl) j
def F7(j:Nat)(ay:bK)(r:V)(dr:V)(h:Lo):OvL:=
ad (ay dr [] h) fun a b=>
aN (.agg [a3,aP,a4,a4]) a fun c d e f=>
ad (aB (.dN 4 (.agg [(.str []), .int .i64 0, .bool false, .bool false]) 1 [(0,(.c (.agg [.str c, .int .i64 d, .bool e, .bool f])))]) b) fun g i=>
bO (yZ j ay j r dr g i) fun o k l=>
al (decide (o=(.exit 0))) (
aZ [aD] k fun m=>
some (m,l)) (
none)
def aeI(j:Nat)(ay:bK):Lv→Lo→OvL:=cv [aD,aD] (F7 j ay)
theorem aeJ(j:Nat)(ay:bK)(b3:dC Tryz.prog ay):cq Tryz.prog 118 (aeI j ay):=cG Sw (Sx j ay b3) [aeH j ay b3] [([1,1,0,0],0)] [aD,aD] _ Tryz.func118 (by kernel_rfl) (by kernel_rfl) (by kernel_rfl) (fun _ _ _=>by kernel_rfl)
def aeK:=cE []
def aeL(j:Nat)(ay:bK)(b3:dC Tryz.prog ay):cd Tryz.prog:= .v (.c (.c .ao (oD j)) (aeJ j ay b3)) b3
def F8(j:Nat)(ay:bK)(r:V)(dr:V)(h:Lo):OvL:=
J (I (.bz (.c r)) h) fun b=>
J (I (.af 0 (.c b)) h) fun c=>
J (I (.ag (.c c)) h) fun d=>
ad (aB (.dN 1 (.str []) 1 [(0,(.c (.str [40])))]) h) fun e f=>
ad (hA j d e f) fun q g=>
ad (F7 j ay r dr g) fun i a=>
J (I (.bz (.c r)) a) fun o=>
J (I (.af 0 (.c o)) a) fun k=>
J (I (.ag (.c k)) a) fun l=>
ad (aB (.dN 1 (.str []) 1 [(0,(.c (.str [41])))]) a) fun m n=>
ad (hA j l m n) fun s p=>
some (i,p)
def aeM(j:Nat)(ay:bK):Lv→Lo→OvL:=cv [aD,aD] (F8 j ay)
theorem aeN(j:Nat)(ay:bK)(b3:dC Tryz.prog ay):cq Tryz.prog 92 (aeM j ay):=cG aeK (aeL j ay b3) [] [] [aD,aD] _ Tryz.func92 (by kernel_rfl) (by kernel_rfl) (by kernel_rfl) (fun _ _ _=>by kernel_rfl)
def L1:=cE [(a3,[8]),(.agg [a3,aP,a4,a4],[9,49]),(a4,[15,20,22,27,33,36,47])]
def L2(j:Nat):cd Tryz.prog:= .c (.c (.c (.c .ao (kI j)) (yI j)) (qM j)) (oD j)
def F9(j:Nat)(r:V)(c:V)(h:Lo):a9:=
J (I (.bz (.c r)) h) fun d=>
J (I (.af 0 (.c d)) h) fun e=>
J (I (.ag (.c e)) h) fun f=>
ad (gF j f [78,79,84] h) fun g b=>
bG g fun i=>
J (I (.af 2 (.c c)) b) fun o=>
ad (aB (.store 1 (.c o) (.c (.bool i))) b) fun v a=>
J (I (.af 2 (.c c)) a) fun k=>
J (I (.ag (.c k)) a) fun l=>
bG l fun m=>
al m (
J (I (.bz (.c r)) a) fun n=>
J (I (.af 0 (.c n)) a) fun p=>
J (I (.ag (.c p)) a) fun q=>
ad (aB (.dN 1 (.str []) 1 [(0,(.c (.str [78,85,76,76])))]) a) fun s t=>
ad (hA j q s t) fun w u=>
some (.normal,[],u)) (
some (.normal,[],a))
def aeO(j:Nat):cz Tryz.prog:= .of L1 (L2 j) [] (cT Tryz.prog Tryz.f93 [1,1,1,0] []) [aD,aD] [0,3] [(.normal,[],[])] (F9 j) (fun _ _ _=>by kernel_rfl)
def F_(j:Nat)(r:V)(c:V)(h:Lo):a9:=
J (I (.bz (.c r)) h) fun e=>
J (I (.af 0 (.c e)) h) fun f=>
J (I (.ag (.c f)) h) fun g=>
ad (gF j g [73,78,84] h) fun i b=>
bG i fun o=>
al o (
J (I (.af 1 (.c c)) b) fun k=>
ad (aB (.store 1 (.c k) (.c (.int .i64 (1)))) b) fun l a=>
some (.normal,[],a)) (
J (I (.bz (.c r)) b) fun m=>
J (I (.af 0 (.c m)) b) fun n=>
J (I (.ag (.c n)) b) fun p=>
ad (gF j p [84,69,88,84] b) fun q a=>
bG q fun s=>
al s (
J (I (.af 1 (.c c)) a) fun t=>
ad (aB (.store 1 (.c t) (.c (.int .i64 (2)))) a) fun l d=>
some (.normal,[],d)) (
J (I (.bz (.c r)) a) fun u=>
J (I (.af 0 (.c u)) a) fun v=>
J (I (.ag (.c v)) a) fun w=>
ad (rQ j w a) fun x d=>
some (.normal,[],d)))
def aeP(j:Nat):cz Tryz.prog:= .of L1 (L2 j) [] (cT Tryz.prog Tryz.f93 [1,1,0] []) [aD,aD] [0,3] [(.normal,[],[])] (F_ j) (fun _ _ _=>by kernel_rfl)
def Ga(j:Nat)(r:V)(h:Lo):OvL:=
ad (aB (.alloc false (.agg [(.str []), .int .i64 0, .bool false, .bool false])) h) fun d b=>
J (I (.bz (.c r)) b) fun o=>
J (I (.af 0 (.c o)) b) fun k=>
J (I (.ag (.c k)) b) fun l=>
ad (lq j l b) fun m e=>
b1 m fun n=>
J (I (.build [(.str []), .int .i64 0, .bool false, .bool false] [(0,(1,(.c (.str n))))]) e) fun p=>
aN (.agg [a3,aP,a4,a4]) p fun q s t u=>
ad (aB (.alloc false (.agg [(.str []), .int .i64 0, .bool false, .bool false])) e) fun a v=>
ad (aB (.store 4 (.c a) (.c (.agg [.str q, .int .i64 s, .bool t, .bool u]))) v) fun c3 w=>
bO (F_ j r a w) fun x y z=>
al (decide (x= .normal)) (
dT y (
bO (F9 j r a z) fun bQ bZ c=>
al (decide (bQ= .normal)) (
dT bZ (
J (I (.bz (.c r)) c) fun ac=>
J (I (.af 0 (.c ac)) c) fun b2=>
J (I (.ag (.c b2)) c) fun b9=>
ad (gF j b9 [85,78,73,81,85,69] c) fun cn f=>
bG cn fun cr=>
J (I (.af 3 (.c a)) f) fun cB=>
ad (aB (.store 1 (.c cB) (.c (.bool cr))) f) fun c8 g=>
J (I (.bp 4 (.c a)) g) fun cL=>
aN (.agg [a3,aP,a4,a4]) cL fun cM cO am cV=>
ad (aB (.store 4 (.c d) (.c (.agg [.str cM, .int .i64 cO, .bool am, .bool cV]))) g) fun c9 i=>
J (dS i 4 d) fun ap=>
some (ap,i))) (
none))) (
none)
def Sy(j:Nat):Lv→Lo→OvL:=cv [aD] (Ga j)
theorem aeQ(j:Nat):cq Tryz.prog 93 (Sy j):=cG L1 (L2 j) [aeP j,aeO j] [([1,1,0],0),([1,1,1,0],1)] [aD] _ Tryz.func93 (by kernel_rfl) (by kernel_rfl) (by kernel_rfl) (fun _ _=>by kernel_rfl)
def Sz:=cE [(a3,[7,16]),(a4,[13])]
def Cg(j:Nat)(ay:bK)(b3:dC Tryz.prog ay):cd Tryz.prog:= .v (.c .ao (kI j)) b3
def Gb(j:Nat)(ay:bK)(self:V→V→V→Lo→a9)(r:V)(dr:V)(out:V)(h:Lo):a9:=
J (I (.bz (.c r)) h) fun b=>
J (I (.af 0 (.c b)) h) fun c=>
J (I (.ag (.c c)) h) fun d=>
ad (gF j d [44] h) fun e a=>
bG e fun f=>
al f (
ad (ay dr [] a) fun g i=>
b1 g fun o=>
ad (aB (.dN 1 (.str []) 1 [(0,(.c (.str o)))]) i) fun k l=>
ad (aB (.app 1 16 (.c out) (.c k)) l) fun m n=>
self r dr m n) (
some ((.exit 0),[out],a))
def y0(j:Nat)(ay:bK):Nat→V→V→V→Lo→a9
 |0=>fun _ _ _ _=>none
 |n+1=>Gb j ay (y0 j ay n)
def aeR(j:Nat)(ay:bK)(b3:dC Tryz.prog ay):cz Tryz.prog:= .loop Sz (Cg j ay b3) [] (cT Tryz.prog Tryz.f119 [1,1,0,0,0] []) [aD,aD,aD] [0,1,5] [((.exit 0),[5],[aD])] (Gb j ay) (y0 j ay) (fun _ _ _ _=>rfl) (fun _=>rfl) (fun _ _ _ _ _=>by kernel_rfl) j
def Gc(j:Nat)(ay:bK)(r:V)(dr:V)(h:Lo):OvL:=
ad (ay dr [] h) fun a b=>
b1 a fun c=>
ad (aB (.dN 1 (.str []) 1 [(0,(.c (.str c)))]) b) fun d e=>
bO (y0 j ay j r dr d e) fun f g i=>
al (decide (f=(.exit 0))) (
aZ [aD] g fun o=>
some (o,i)) (
none)
def aeS(j:Nat)(ay:bK):Lv→Lo→OvL:=cv [aD,aD] (Gc j ay)
theorem aeT(j:Nat)(ay:bK)(b3:dC Tryz.prog ay):cq Tryz.prog 119 (aeS j ay):=cG Sz (Cg j ay b3) [aeR j ay b3] [([1,1,0,0],0)] [aD,aD] _ Tryz.func119 (by kernel_rfl) (by kernel_rfl) (by kernel_rfl) (fun _ _ _=>by kernel_rfl)
def aeU:=cE []
def aeV(j:Nat)(ay:bK)(b3:dC Tryz.prog ay):cd Tryz.prog:= .v (.c (.c .ao (oD j)) (aeT j ay b3)) b3
def Gd(j:Nat)(ay:bK)(r:V)(dr:V)(h:Lo):OvL:=
J (I (.bz (.c r)) h) fun b=>
J (I (.af 0 (.c b)) h) fun c=>
J (I (.ag (.c c)) h) fun d=>
ad (aB (.dN 1 (.str []) 1 [(0,(.c (.str [40])))]) h) fun e f=>
ad (hA j d e f) fun q g=>
ad (Gc j ay r dr g) fun i a=>
J (I (.bz (.c r)) a) fun o=>
J (I (.af 0 (.c o)) a) fun k=>
J (I (.ag (.c k)) a) fun l=>
ad (aB (.dN 1 (.str []) 1 [(0,(.c (.str [41])))]) a) fun m n=>
ad (hA j l m n) fun s p=>
some (i,p)
def aeW(j:Nat)(ay:bK):Lv→Lo→OvL:=cv [aD,aD] (Gd j ay)
theorem aeX(j:Nat)(ay:bK)(b3:dC Tryz.prog ay):cq Tryz.prog 95 (aeW j ay):=cG aeU (aeV j ay b3) [] [] [aD,aD] _ Tryz.func95 (by kernel_rfl) (by kernel_rfl) (by kernel_rfl) (fun _ _ _=>by kernel_rfl)
def Ch(j:Nat):bK:=ju 93 (Sy j) (ju 91 (R6 j) (nP))
theorem L3(j:Nat):dC Tryz.prog (Ch j):=j1 (aeQ j) (j1 (qM j) (ot))
def aeY:=cE [(a4,[5,10,21,26,53]),(a3,[15,37,65,77]),(ur,[46])]
def aeZ(j:Nat):cd Tryz.prog:= .v (.c (.c (.c (.c (.c (.c .ao (kI j)) (Sv j)) (qM j)) (aeN j (Ch j) (L3 j))) (oD j)) (aeX j (Ch j) (L3 j))) (L3 j)
def Ge(j:Nat)(r:V)(h:Lo):OvL:=
ad (aB (.alloc false (.agg [.int .i64 0,(.str []),(.str []), .bool false, .ab, .ab, .ab, .ab, .ab, .bool false, .bool false, .ab, .ab, .ab, .ab, .ab, .int .i64 0])) h) fun o n=>
J (I (.bz (.c r)) n) fun bZ=>
J (I (.af 0 (.c bZ)) n) fun ac=>
J (I (.ag (.c ac)) n) fun b2=>
ad (gF j b2 [84,65,66,76,69] n) fun b9 e=>
bG b9 fun cn=>
al cn (
J (I (.bz (.c r)) e) fun cr=>
J (I (.af 0 (.c cr)) e) fun cB=>
J (I (.ag (.c cB)) e) fun cL=>
ad (lq j cL e) fun t a=>
b1 t fun cM=>
ad (F8 j (Ch j) r (.eD 93 [r]) a) fun cO f=>
J (I (.build [.int .i64 0,(.str []),(.str []), .bool false, .ab, .ab, .ab, .ab, .ab, .bool false, .bool false, .ab, .ab, .ab, .ab, .ab, .int .i64 0] [(0,(1,(.c (.int .i64 (1))))),(1,(1,(.c (.str cM)))),(4,(1,(.c cO)))]) f) fun am=>
ad (aB (.store 17 (.c o) (.c am)) f) fun x b=>
J (dS b 17 o) fun l=>
some (l,b)) (
J (I (.bz (.c r)) e) fun cV=>
J (I (.af 0 (.c cV)) e) fun ap=>
J (I (.ag (.c ap)) e) fun c3=>
ad (gF j c3 [77,65,84,69,82,73,65,76,73,90,69,68] e) fun t a=>
bG t fun c8=>
al c8 (
J (I (.bz (.c r)) a) fun c9=>
J (I (.af 0 (.c c9)) a) fun dc=>
J (I (.ag (.c dc)) a) fun c4=>
ad (aB (.dN 1 (.str []) 1 [(0,(.c (.str [86,73,69,87])))]) a) fun dD f=>
ad (hA j c4 dD f) fun b4 b=>
J (I (.bz (.c r)) b) fun dk=>
J (I (.af 0 (.c dk)) b) fun dP=>
J (I (.ag (.c dP)) b) fun d_=>
ad (lq j d_ b) fun u g=>
b1 u fun dV=>
J (I (.build [.int .i64 0,(.str []),(.str []), .bool false, .ab, .ab, .ab, .ab, .ab, .bool false, .bool false, .ab, .ab, .ab, .ab, .ab, .int .i64 0] [(0,(1,(.c (.int .i64 (3))))),(1,(1,(.c (.str dV))))]) g) fun ey=>
ad (aB (.alloc false (.agg [.int .i64 0,(.str []),(.str []), .bool false, .ab, .ab, .ab, .ab, .ab, .bool false, .bool false, .ab, .ab, .ab, .ab, .ab, .int .i64 0])) g) fun c v=>
ad (aB (.store 17 (.c c) (.c ey)) v) fun x d=>
J (I (.bz (.c r)) d) fun eX=>
J (I (.af 0 (.c eX)) d) fun be=>
J (I (.ag (.c be)) d) fun e5=>
ad (aB (.dN 1 (.str []) 2 [(0,(.c (.str [65,83]))),(1,(.c (.str [83,69,76,69,67,84])))]) d) fun ec p=>
ad (hA j e5 ec p) fun FJ k=>
ad (Cf j r k) fun w q=>
aN ur w fun bi fE fG fk eD gL hh hZ=>
J (I (.af 9 (.c c)) q) fun hJ=>
ad (aB (.store 8 (.c hJ) (.c (.agg [.bool bi, .bool fE,fG,fk,eD,gL,hh, .int .i64 hZ]))) q) fun fu i=>
J (I (.bp 17 (.c c)) i) fun iB=>
ad (aB (.store 17 (.c o) (.c iB)) i) fun iC m=>
J (dS m 17 o) fun l=>
some (l,m)) (
J (I (.bz (.c r)) a) fun bv=>
J (I (.af 0 (.c bv)) a) fun iM=>
J (I (.ag (.c iM)) a) fun iZ=>
ad (gF j iZ [85,78,73,81,85,69] a) fun u f=>
bG u fun iD=>
J (I (.build [.int .i64 0,(.str []),(.str []), .bool false, .ab, .ab, .ab, .ab, .ab, .bool false, .bool false, .ab, .ab, .ab, .ab, .ab, .int .i64 0] [(0,(1,(.c (.int .i64 (2))))),(3,(1,(.c (.bool iD))))]) f) fun eB=>
ad (aB (.alloc false (.agg [.int .i64 0,(.str []),(.str []), .bool false, .ab, .ab, .ab, .ab, .ab, .bool false, .bool false, .ab, .ab, .ab, .ab, .ab, .int .i64 0])) f) fun c b=>
ad (aB (.store 17 (.c c) (.c eB)) b) fun x g=>
J (I (.bz (.c r)) g) fun gE=>
J (I (.af 0 (.c gE)) g) fun ky=>
J (I (.ag (.c ky)) g) fun gf=>
ad (aB (.dN 1 (.str []) 1 [(0,(.c (.str [73,78,68,69,88])))]) g) fun ce v=>
ad (hA j gf ce v) fun FK d=>
J (I (.bz (.c r)) d) fun k0=>
J (I (.af 0 (.c k0)) d) fun lU=>
J (I (.ag (.c lU)) d) fun ci=>
ad (lq j ci d) fun w p=>
b1 w fun lV=>
J (I (.af 1 (.c c)) p) fun mM=>
ad (aB (.store 1 (.c mM) (.c (.str lV))) p) fun fu k=>
J (I (.bz (.c r)) k) fun c7=>
J (I (.af 0 (.c c7)) k) fun mN=>
J (I (.ag (.c mN)) k) fun mO=>
ad (aB (.dN 1 (.str []) 1 [(0,(.c (.str [79,78])))]) k) fun mP q=>
ad (hA j mO mP q) fun FL i=>
J (I (.bz (.c r)) i) fun mQ=>
J (I (.af 0 (.c mQ)) i) fun mR=>
J (I (.ag (.c mR)) i) fun cs=>
ad (lq j cs i) fun nU m=>
b1 nU fun ph=>
J (I (.af 2 (.c c)) m) fun ud=>
ad (aB (.store 1 (.c ud) (.c (.str ph))) m) fun iC s=>
J (I (.bz (.c r)) s) fun yK=>
J (I (.af 0 (.c yK)) s) fun yL=>
J (I (.ag (.c yL)) s) fun yM=>
ad (Gd j (Ch j) r (.eD 91 [yM]) s) fun yN y=>
J (I (.af 5 (.c c)) y) fun B6=>
ad (aB (.store 1 (.c B6) (.c yN)) y) fun jL z=>
J (I (.bp 17 (.c c)) z) fun dU=>
ad (aB (.store 17 (.c o) (.c dU)) z) fun FM bQ=>
J (dS bQ 17 o) fun l=>
some (l,bQ)))
def ae0(j:Nat):Lv→Lo→OvL:=cv [aD] (Ge j)
theorem ae1(j:Nat):cq Tryz.prog 58 (ae0 j):=cG aeY (aeZ j) [] [] [aD] _ Tryz.func58 (by kernel_rfl) (by kernel_rfl) (by kernel_rfl) (fun _ _=>by kernel_rfl)
def SA:=cE [(aP,[3,6,7,9,18,19,26]),(a3,[4,11,16,24,37]),(a4,[8,17])]
def SB(j:Nat):cd Tryz.prog:= .c (.c (.c .ao (kI j)) (qM j)) (oD j)
def L4(j:Nat)(self:V→V→V→Int→Int→Lo→a9)(r:V)(du:V)(nn:V)(j4:Int)(fX:Int)(h:Lo):a9:=
al (decide (fX<j4)) (
J (I (.cH 1 (.c nn) (.c (.int .i64 fX))) h) fun c=>
J (I (.ag (.c c)) h) fun d=>
b1 d fun e=>
J (I (.bz (.c r)) h) fun f=>
J (I (.af 0 (.c f)) h) fun g=>
J (I (.ag (.c g)) h) fun i=>
ad (gF j i e h) fun o a=>
bG o fun k=>
al k (
J (I (.bz (.c r)) a) fun l=>
J (I (.af 0 (.c l)) a) fun m=>
J (I (.ag (.c m)) a) fun n=>
ad (lq j n a) fun p b=>
b1 p fun q=>
J (I (.build [.int .i64 0,(.str []),(.str []), .bool false, .ab, .ab, .ab, .ab, .ab, .bool false, .bool false, .ab, .ab, .ab, .ab, .ab, .int .i64 0] [(0,(1,(.c (.int .i64 (IntKind.i64.wrap ((4)+fX)))))),(1,(1,(.c (.str q))))]) b) fun s=>
ad (aB (.store 17 (.c du) (.c s)) b) fun u t=>
some (.ret,[],t)) (
self r du nn j4 (IntKind.i64.wrap (fX+(1))) a)) (
some ((.exit 0),[],h))
def Ci(j:Nat):Nat→V→V→V→Int→Int→Lo→a9
 |0=>fun _ _ _ _ _ _=>none
 |n+1=>L4 j (Ci j n)
def ae2(j:Nat):cz Tryz.prog:= .loop SA (SB j) [] (cT Tryz.prog Tryz.f59 [1,0,1,0,0] []) [aD,aD,aD,aP,aP] [0,2,5,6,7] [((.exit 0),[],[]),(.ret,[],[])] (L4 j) (Ci j) (fun _ _ _ _ _ _=>rfl) (fun _=>rfl) (fun _ _ _ _ _ _ _=>by kernel_rfl) j
def Gf(j:Nat)(r:V)(h:Lo):OvL:=
ad (aB (.alloc false (.agg [.int .i64 0,(.str []),(.str []), .bool false, .ab, .ab, .ab, .ab, .ab, .bool false, .bool false, .ab, .ab, .ab, .ab, .ab, .int .i64 0])) h) fun b l=>
ad (aB (.dN 1 (.str []) 2 [(0,(.c (.str [84,65,66,76,69]))),(1,(.c (.str [73,78,68,69,88])))]) l) fun e f=>
J (I (.cm (.c e)) f) fun m=>
bt .i64 m fun n=>
bO (Ci j j r b e n (0) f) fun g i a=>
al (decide (g=(.exit 0))) (
dT i (
J (I (.bz (.c r)) a) fun p=>
J (I (.af 0 (.c p)) a) fun q=>
J (I (.ag (.c q)) a) fun s=>
ad (aB (.dN 1 (.str []) 1 [(0,(.c (.str [86,73,69,87])))]) a) fun t u=>
ad (hA j s t u) fun bZ c=>
J (I (.bz (.c r)) c) fun v=>
J (I (.af 0 (.c v)) c) fun w=>
J (I (.ag (.c w)) c) fun x=>
ad (lq j x c) fun y o=>
b1 y fun z=>
J (I (.build [.int .i64 0,(.str []),(.str []), .bool false, .ab, .ab, .ab, .ab, .ab, .bool false, .bool false, .ab, .ab, .ab, .ab, .ab, .int .i64 0] [(0,(1,(.c (.int .i64 (6))))),(1,(1,(.c (.str z))))]) o) fun bQ=>
ad (aB (.store 17 (.c b) (.c bQ)) o) fun ac k=>
J (dS k 17 b) fun d=>
some (d,k))) (
al (decide (g= .ret)) (
dT i (
J (dS a 17 b) fun d=>
some (d,a))) (
none))
def ae3(j:Nat):Lv→Lo→OvL:=cv [aD] (Gf j)
theorem ae4(j:Nat):cq Tryz.prog 59 (ae3 j):=cG SA (SB j) [ae2 j] [([1,0,1,0],0)] [aD] _ Tryz.func59 (by kernel_rfl) (by kernel_rfl) (by kernel_rfl) (fun _ _=>by kernel_rfl)
def SC:=cE [(a4,[13])]
def Cj(j:Nat)(ay:bK)(b3:dC Tryz.prog ay):cd Tryz.prog:= .v (.c .ao (kI j)) b3
def Gg(j:Nat)(ay:bK)(self:V→V→V→Lo→a9)(r:V)(dr:V)(out:V)(h:Lo):a9:=
J (I (.bz (.c r)) h) fun b=>
J (I (.af 0 (.c b)) h) fun c=>
J (I (.ag (.c c)) h) fun d=>
ad (gF j d [44] h) fun e a=>
bG e fun f=>
al f (
ad (ay dr [] a) fun g i=>
ad (aB (.dN 1 .ab 1 [(0,(.c g))]) i) fun o k=>
ad (aB (.app 1 24 (.c out) (.c o)) k) fun l m=>
self r dr l m) (
some ((.exit 0),[out],a))
def y1(j:Nat)(ay:bK):Nat→V→V→V→Lo→a9
 |0=>fun _ _ _ _=>none
 |n+1=>Gg j ay (y1 j ay n)
def ae5(j:Nat)(ay:bK)(b3:dC Tryz.prog ay):cz Tryz.prog:= .loop SC (Cj j ay b3) [] (cT Tryz.prog Tryz.f96 [1,1,0,0,0] []) [aD,aD,aD] [0,1,5] [((.exit 0),[5],[aD])] (Gg j ay) (y1 j ay) (fun _ _ _ _=>rfl) (fun _=>rfl) (fun _ _ _ _ _=>by kernel_rfl) j
def Gh(j:Nat)(ay:bK)(r:V)(dr:V)(h:Lo):OvL:=
ad (ay dr [] h) fun a b=>
ad (aB (.dN 1 .ab 1 [(0,(.c a))]) b) fun c d=>
bO (y1 j ay j r dr c d) fun e f g=>
al (decide (e=(.exit 0))) (
aZ [aD] f fun i=>
some (i,g)) (
none)
def ae6(j:Nat)(ay:bK):Lv→Lo→OvL:=cv [aD,aD] (Gh j ay)
theorem ae7(j:Nat)(ay:bK)(b3:dC Tryz.prog ay):cq Tryz.prog 96 (ae6 j ay):=cG SC (Cj j ay b3) [ae5 j ay b3] [([1,1,0,0],0)] [aD,aD] _ Tryz.func96 (by kernel_rfl) (by kernel_rfl) (by kernel_rfl) (fun _ _ _=>by kernel_rfl)
def ae8:=cE []
def ae9(j:Nat)(ay:bK)(b3:dC Tryz.prog ay):cd Tryz.prog:= .v (.c (.c .ao (oD j)) (Ss j ay b3)) b3
def Gi(j:Nat)(ay:bK)(r:V)(dr:V)(h:Lo):OvL:=
J (I (.bz (.c r)) h) fun b=>
J (I (.af 0 (.c b)) h) fun c=>
J (I (.ag (.c c)) h) fun d=>
ad (aB (.dN 1 (.str []) 1 [(0,(.c (.str [40])))]) h) fun e f=>
ad (hA j d e f) fun q g=>
ad (Cb j ay r dr g) fun i a=>
J (I (.bz (.c r)) a) fun o=>
J (I (.af 0 (.c o)) a) fun k=>
J (I (.ag (.c k)) a) fun l=>
ad (aB (.dN 1 (.str []) 1 [(0,(.c (.str [41])))]) a) fun m n=>
ad (hA j l m n) fun s p=>
some (i,p)
def ae_(j:Nat)(ay:bK):Lv→Lo→OvL:=cv [aD,aD] (Gi j ay)
theorem afa(j:Nat)(ay:bK)(b3:dC Tryz.prog ay):cq Tryz.prog 98 (ae_ j ay):=cG ae8 (ae9 j ay b3) [] [] [aD,aD] _ Tryz.func98 (by kernel_rfl) (by kernel_rfl) (by kernel_rfl) (fun _ _ _=>by kernel_rfl)
def L5(j:Nat):bK:=ju 99 (LZ j) (nP)
theorem SD(j:Nat):dC Tryz.prog (L5 j):=j1 (wx j) (ot)
def afb:=cE []
def y2(j:Nat):cd Tryz.prog:= .v (.c .ao (afa j (L5 j) (SD j))) (SD j)
def Gj(j:Nat)(x4:V)(h:Lo):OvL:=
J (I (.ag (.c x4)) h) fun a=>
J (I (.ag (.c x4)) h) fun b=>
J (I (.bz (.c b)) h) fun c=>
J (I (.af 0 (.c c)) h) fun d=>
J (I (.ag (.c d)) h) fun e=>
ad (Gi j (L5 j) a (.eD 99 [e]) h) fun f g=>
some (f,g)
def SE(j:Nat):Lv→Lo→OvL:=cv [aD] (Gj j)
theorem afc(j:Nat):cq Tryz.prog 97 (SE j):=cG afb (y2 j) [] [] [aD] _ Tryz.func97 (by kernel_rfl) (by kernel_rfl) (by kernel_rfl) (fun _ _=>by kernel_rfl)
def L6(j:Nat):bK:=ju 97 (SE j) (nP)
theorem SF(j:Nat):dC Tryz.prog (L6 j):=j1 (afc j) (ot)
def afd:=cE [(a3,[14])]
def afe(j:Nat):cd Tryz.prog:= .v (.c (.c (.c .ao (qM j)) (oD j)) (ae7 j (L6 j) (SF j))) (SF j)
def Gk(j:Nat)(r:V)(h:Lo):OvL:=
ad (aB (.box false (.c r)) h) fun a m=>
ad (aB (.alloc false (.agg [.int .i64 0,(.str []),(.str []), .bool false, .ab, .ab, .ab, .ab, .ab, .bool false, .bool false, .ab, .ab, .ab, .ab, .ab, .int .i64 0])) m) fun f b=>
J (I (.ag (.c a)) b) fun n=>
J (I (.bz (.c n)) b) fun p=>
J (I (.af 0 (.c p)) b) fun q=>
J (I (.ag (.c q)) b) fun s=>
ad (aB (.dN 1 (.str []) 1 [(0,(.c (.str [73,78,84,79])))]) b) fun t u=>
ad (hA j s t u) fun c3 c=>
J (I (.ag (.c a)) c) fun v=>
J (I (.bz (.c v)) c) fun w=>
J (I (.af 0 (.c w)) c) fun x=>
J (I (.ag (.c x)) c) fun y=>
ad (lq j y c) fun z g=>
b1 z fun bQ=>
J (I (.build [.int .i64 0,(.str []),(.str []), .bool false, .ab, .ab, .ab, .ab, .ab, .bool false, .bool false, .ab, .ab, .ab, .ab, .ab, .int .i64 0] [(0,(1,(.c (.int .i64 (7))))),(1,(1,(.c (.str bQ))))]) g) fun bZ=>
ad (aB (.alloc false (.agg [.int .i64 0,(.str []),(.str []), .bool false, .ab, .ab, .ab, .ab, .ab, .bool false, .bool false, .ab, .ab, .ab, .ab, .ab, .int .i64 0])) g) fun e ac=>
ad (aB (.store 17 (.c e) (.c bZ)) ac) fun c8 d=>
J (I (.ag (.c a)) d) fun b2=>
J (I (.bz (.c b2)) d) fun b9=>
J (I (.af 0 (.c b9)) d) fun cn=>
J (I (.ag (.c cn)) d) fun cr=>
ad (aB (.dN 1 (.str []) 1 [(0,(.c (.str [86,65,76,85,69,83])))]) d) fun cB cL=>
ad (hA j cr cB cL) fun c9 i=>
J (I (.ag (.c a)) i) fun cM=>
ad (Gh j (L6 j) cM (.fn 97 [a]) i) fun cO o=>
J (I (.af 6 (.c e)) o) fun am=>
ad (aB (.store 1 (.c am) (.c cO)) o) fun dc k=>
J (I (.bp 17 (.c e)) k) fun cV=>
ad (aB (.store 17 (.c f) (.c cV)) k) fun c4 l=>
J (dS l 17 f) fun ap=>
some (ap,l)
def aff(j:Nat):Lv→Lo→OvL:=cv [aD] (Gk j)
theorem afg(j:Nat):cq Tryz.prog 60 (aff j):=cG afd (afe j) [] [] [aD] _ Tryz.func60 (by kernel_rfl) (by kernel_rfl) (by kernel_rfl) (fun _ _=>by kernel_rfl)
def SG:=cE [(yT,[7,16]),(a4,[13])]
def Ck(j:Nat)(ay:bK)(b3:dC Tryz.prog ay):cd Tryz.prog:= .v (.c .ao (kI j)) b3
def Gl(j:Nat)(ay:bK)(self:V→V→V→Lo→a9)(r:V)(dr:V)(out:V)(h:Lo):a9:=
J (I (.bz (.c r)) h) fun b=>
J (I (.af 0 (.c b)) h) fun c=>
J (I (.ag (.c c)) h) fun d=>
ad (gF j d [44] h) fun e a=>
bG e fun f=>
al f (
ad (ay dr [] a) fun g i=>
aN yT g fun o k l m n p q s t=>
ad (aB (.dN 9 (.agg [(.str []), .int .i64 0,(.str []), .int .i64 0, .int .i64 0,(.str []),(.str []),(.str []), .ab]) 1 [(0,(.c (.agg [.str o, .int .i64 k, .str l, .int .i64 m, .int .i64 n, .str p, .str q, .str s,t])))]) i) fun u v=>
ad (aB (.app 9 128 (.c out) (.c u)) v) fun w x=>
self r dr w x) (
some ((.exit 0),[out],a))
def y3(j:Nat)(ay:bK):Nat→V→V→V→Lo→a9
 |0=>fun _ _ _ _=>none
 |n+1=>Gl j ay (y3 j ay n)
def afh(j:Nat)(ay:bK)(b3:dC Tryz.prog ay):cz Tryz.prog:= .loop SG (Ck j ay b3) [] (cT Tryz.prog Tryz.f100 [1,1,0,0,0] []) [aD,aD,aD] [0,1,5] [((.exit 0),[5],[aD])] (Gl j ay) (y3 j ay) (fun _ _ _ _=>rfl) (fun _=>rfl) (fun _ _ _ _ _=>by kernel_rfl) j
def Gm(j:Nat)(ay:bK)(r:V)(dr:V)(h:Lo):OvL:=
ad (ay dr [] h) fun a b=>
aN yT a fun c d e f g i o k l=>
ad (aB (.dN 9 (.agg [(.str []), .int .i64 0,(.str []), .int .i64 0, .int .i64 0,(.str []),(.str []),(.str []), .ab]) 1 [(0,(.c (.agg [.str c, .int .i64 d, .str e, .int .i64 f, .int .i64 g, .str i, .str o, .str k,l])))]) b) fun m n=>
bO (y3 j ay j r dr m n) fun p q s=>
al (decide (p=(.exit 0))) (
aZ [aD] q fun t=>
some (t,s)) (
none)
def afi(j:Nat)(ay:bK):Lv→Lo→OvL:=cv [aD,aD] (Gm j ay)
theorem afj(j:Nat)(ay:bK)(b3:dC Tryz.prog ay):cq Tryz.prog 100 (afi j ay):=cG SG (Ck j ay b3) [afh j ay b3] [([1,1,0,0],0)] [aD,aD] _ Tryz.func100 (by kernel_rfl) (by kernel_rfl) (by kernel_rfl) (fun _ _ _=>by kernel_rfl)
def afk:=cE [(a3,[8]),(yT,[9,22]),(nV,[20])]
def Cl(j:Nat):cd Tryz.prog:= .c (.c (.c .ao (qM j)) (oD j)) (wx j)
def Gn(j:Nat)(r:V)(h:Lo):OvL:=
ad (aB (.alloc false (.agg [(.str []), .int .i64 0,(.str []), .int .i64 0, .int .i64 0,(.str []),(.str []),(.str []), .ab])) h) fun e a=>
J (I (.bz (.c r)) a) fun k=>
J (I (.af 0 (.c k)) a) fun l=>
J (I (.ag (.c l)) a) fun m=>
ad (lq j m a) fun n f=>
b1 n fun p=>
J (I (.build [(.str []), .int .i64 0,(.str []), .int .i64 0, .int .i64 0,(.str []),(.str []),(.str []), .ab] [(0,(1,(.c (.str p))))]) f) fun q=>
aN yT q fun s t u v w x y z bQ=>
ad (aB (.alloc false (.agg [(.str []), .int .i64 0,(.str []), .int .i64 0, .int .i64 0,(.str []),(.str []),(.str []), .ab])) f) fun d bZ=>
ad (aB (.store 9 (.c d) (.c (.agg [.str s, .int .i64 t, .str u, .int .i64 v, .int .i64 w, .str x, .str y, .str z,bQ]))) bZ) fun fG b=>
J (I (.bz (.c r)) b) fun ac=>
J (I (.af 0 (.c ac)) b) fun b2=>
J (I (.ag (.c b2)) b) fun b9=>
ad (aB (.dN 1 (.str []) 1 [(0,(.c (.str [61])))]) b) fun cn cr=>
ad (hA j b9 cn cr) fun fk c=>
J (I (.bz (.c r)) c) fun cB=>
J (I (.af 0 (.c cB)) c) fun cL=>
J (I (.ag (.c cL)) c) fun cM=>
ad (qO j cM c) fun cO g=>
aN nV cO fun am cV ap c3 c8 c9 dc c4=>
J (I (.af 1 (.c d)) g) fun dD=>
ad (aB (.store 8 (.c dD) (.c (.agg [.int .i64 am, .str cV, .int .i64 ap, .int .i64 c3, .str c8, .str c9, .str dc,c4]))) g) fun eD i=>
J (I (.bp 9 (.c d)) i) fun dk=>
aN yT dk fun dP d_ dV ey eX be e5 ec bi=>
ad (aB (.store 9 (.c e) (.c (.agg [.str dP, .int .i64 d_, .str dV, .int .i64 ey, .int .i64 eX, .str be, .str e5, .str ec,bi]))) i) fun gL o=>
J (dS o 9 e) fun fE=>
some (fE,o)
def SH(j:Nat):Lv→Lo→OvL:=cv [aD] (Gn j)
theorem afl(j:Nat):cq Tryz.prog 101 (SH j):=cG afk (Cl j) [] [] [aD] _ Tryz.func101 (by kernel_rfl) (by kernel_rfl) (by kernel_rfl) (fun _ _=>by kernel_rfl)
def L7(j:Nat):bK:=ju 101 (SH j) (nP)
theorem SI(j:Nat):dC Tryz.prog (L7 j):=j1 (afl j) (ot)
def afm:=cE [(a3,[8])]
def afn(j:Nat):cd Tryz.prog:= .v (.c (.c (.c (.c .ao (qM j)) (oD j)) (afj j (L7 j) (SI j))) (L0 j)) (SI j)
def Gp(j:Nat)(r:V)(h:Lo):OvL:=
ad (aB (.alloc false (.agg [.int .i64 0,(.str []),(.str []), .bool false, .ab, .ab, .ab, .ab, .ab, .bool false, .bool false, .ab, .ab, .ab, .ab, .ab, .int .i64 0])) h) fun d a=>
J (I (.bz (.c r)) a) fun k=>
J (I (.af 0 (.c k)) a) fun l=>
J (I (.ag (.c l)) a) fun m=>
ad (lq j m a) fun n e=>
b1 n fun p=>
J (I (.build [.int .i64 0,(.str []),(.str []), .bool false, .ab, .ab, .ab, .ab, .ab, .bool false, .bool false, .ab, .ab, .ab, .ab, .ab, .int .i64 0] [(0,(1,(.c (.int .i64 (8))))),(1,(1,(.c (.str p))))]) e) fun q=>
ad (aB (.alloc false (.agg [.int .i64 0,(.str []),(.str []), .bool false, .ab, .ab, .ab, .ab, .ab, .bool false, .bool false, .ab, .ab, .ab, .ab, .ab, .int .i64 0])) e) fun b s=>
ad (aB (.store 17 (.c b) (.c q)) s) fun cr c=>
J (I (.bz (.c r)) c) fun t=>
J (I (.af 0 (.c t)) c) fun u=>
J (I (.ag (.c u)) c) fun v=>
ad (aB (.dN 1 (.str []) 1 [(0,(.c (.str [83,69,84])))]) c) fun w x=>
ad (hA j v w x) fun cB y=>
ad (Gm j (L7 j) r (.eD 101 [r]) y) fun z f=>
J (I (.af 7 (.c b)) f) fun bQ=>
ad (aB (.store 1 (.c bQ) (.c z)) f) fun cL bZ=>
ad (yU j r bZ) fun ac g=>
J (I (.af 8 (.c b)) g) fun b2=>
ad (aB (.store 1 (.c b2) (.c ac)) g) fun cM i=>
J (I (.bp 17 (.c b)) i) fun b9=>
ad (aB (.store 17 (.c d) (.c b9)) i) fun cO o=>
J (dS o 17 d) fun cn=>
some (cn,o)
def afo(j:Nat):Lv→Lo→OvL:=cv [aD] (Gp j)
theorem afp(j:Nat):cq Tryz.prog 61 (afo j):=cG afm (afn j) [] [] [aD] _ Tryz.func61 (by kernel_rfl) (by kernel_rfl) (by kernel_rfl) (fun _ _=>by kernel_rfl)
def afq:=cE [(a3,[14])]
def afr(j:Nat):cd Tryz.prog:= .c (.c (.c .ao (qM j)) (oD j)) (L0 j)
def Gq(j:Nat)(r:V)(h:Lo):OvL:=
ad (aB (.alloc false (.agg [.int .i64 0,(.str []),(.str []), .bool false, .ab, .ab, .ab, .ab, .ab, .bool false, .bool false, .ab, .ab, .ab, .ab, .ab, .int .i64 0])) h) fun d a=>
J (I (.bz (.c r)) a) fun o=>
J (I (.af 0 (.c o)) a) fun k=>
J (I (.ag (.c k)) a) fun l=>
ad (aB (.dN 1 (.str []) 1 [(0,(.c (.str [70,82,79,77])))]) a) fun m n=>
ad (hA j l m n) fun ac b=>
J (I (.bz (.c r)) b) fun p=>
J (I (.af 0 (.c p)) b) fun q=>
J (I (.ag (.c q)) b) fun s=>
ad (lq j s b) fun t e=>
b1 t fun u=>
J (I (.build [.int .i64 0,(.str []),(.str []), .bool false, .ab, .ab, .ab, .ab, .ab, .bool false, .bool false, .ab, .ab, .ab, .ab, .ab, .int .i64 0] [(0,(1,(.c (.int .i64 (9))))),(1,(1,(.c (.str u))))]) e) fun v=>
ad (aB (.alloc false (.agg [.int .i64 0,(.str []),(.str []), .bool false, .ab, .ab, .ab, .ab, .ab, .bool false, .bool false, .ab, .ab, .ab, .ab, .ab, .int .i64 0])) e) fun c w=>
ad (aB (.store 17 (.c c) (.c v)) w) fun b2 x=>
ad (yU j r x) fun y f=>
J (I (.af 8 (.c c)) f) fun z=>
ad (aB (.store 1 (.c z) (.c y)) f) fun b9 g=>
J (I (.bp 17 (.c c)) g) fun bQ=>
ad (aB (.store 17 (.c d) (.c bQ)) g) fun cn i=>
J (dS i 17 d) fun bZ=>
some (bZ,i)
def afs(j:Nat):Lv→Lo→OvL:=cv [aD] (Gq j)
theorem aft(j:Nat):cq Tryz.prog 62 (afs j):=cG afq (afr j) [] [] [aD] _ Tryz.func62 (by kernel_rfl) (by kernel_rfl) (by kernel_rfl) (fun _ _=>by kernel_rfl)
def SJ:=cE [(aP,[3,55,56,58,67,68,70]),(a3,[4,60,65]),(a4,[5,10,13,18,21,26,29,34,37,42,45,50,57,66]),(ur,[52])]
def jN(j:Nat):cd Tryz.prog:= .c (.c (.c (.c (.c (.c (.c (.c .ao (kI j)) (yI j)) (ae1 j)) (ae4 j)) (afg j)) (afp j)) (aft j)) (Sv j)
def L8(j:Nat)(self:V→V→V→Int→Int→Lo→a9)(r:V)(du:V)(yy:V)(uk:Int)(rF:Int)(h:Lo):a9:=
al (decide (rF<uk)) (
J (I (.cH 1 (.c yy) (.c (.int .i64 rF))) h) fun b=>
J (I (.ag (.c b)) h) fun c=>
b1 c fun d=>
J (I (.bz (.c r)) h) fun e=>
J (I (.af 0 (.c e)) h) fun f=>
J (I (.ag (.c f)) h) fun g=>
ad (gF j g d h) fun i a=>
bG i fun o=>
al o (
J (I (.build [.int .i64 0,(.str []),(.str []), .bool false, .ab, .ab, .ab, .ab, .ab, .bool false, .bool false, .ab, .ab, .ab, .ab, .ab, .int .i64 0] [(0,(1,(.c (.int .i64 (IntKind.i64.wrap ((11)+rF))))))]) a) fun k=>
ad (aB (.store 17 (.c du) (.c k)) a) fun m l=>
some (.ret,[],l)) (
self r du yy uk (IntKind.i64.wrap (rF+(1))) a)) (
some ((.exit 1),[],h))
def Cm(j:Nat):Nat→V→V→V→Int→Int→Lo→a9
 |0=>fun _ _ _ _ _ _=>none
 |n+1=>L8 j (Cm j n)
def afu(j:Nat):cz Tryz.prog:= .loop SJ (jN j) [] (cT Tryz.prog Tryz.f15 [1,1,0,1,0,0] []) [aD,aD,aD,aP,aP] [0,2,54,55,56] [((.exit 1),[],[]),(.ret,[],[])] (L8 j) (Cm j) (fun _ _ _ _ _ _=>rfl) (fun _=>rfl) (fun _ _ _ _ _ _ _=>by kernel_rfl) j
def Gr(j:Nat)(r:V)(h:Lo):OvL:=
ad (aB (.alloc false (.agg [.int .i64 0,(.str []),(.str []), .bool false, .ab, .ab, .ab, .ab, .ab, .bool false, .bool false, .ab, .ab, .ab, .ab, .ab, .int .i64 0])) h) fun a m=>
J (I (.bz (.c r)) m) fun v=>
J (I (.af 0 (.c v)) m) fun w=>
J (I (.ag (.c w)) m) fun x=>
ad (gF j x [67,82,69,65,84,69] m) fun y l=>
bG y fun z=>
al z (
ad (Ge j r l) fun bQ i=>
ad (aB (.store 17 (.c a) (.c bQ)) i) fun k c=>
J (dS c 17 a) fun b=>
some (b,c)) (
J (I (.bz (.c r)) l) fun bZ=>
J (I (.af 0 (.c bZ)) l) fun ac=>
J (I (.ag (.c ac)) l) fun b2=>
ad (gF j b2 [68,82,79,80] l) fun b9 i=>
bG b9 fun cn=>
al cn (
ad (Gf j r i) fun cr c=>
ad (aB (.store 17 (.c a) (.c cr)) c) fun k d=>
J (dS d 17 a) fun b=>
some (b,d)) (
J (I (.bz (.c r)) i) fun cB=>
J (I (.af 0 (.c cB)) i) fun cL=>
J (I (.ag (.c cL)) i) fun cM=>
ad (gF j cM [73,78,83,69,82,84] i) fun cO c=>
bG cO fun am=>
al am (
ad (Gk j r c) fun cV d=>
ad (aB (.store 17 (.c a) (.c cV)) d) fun k e=>
J (dS e 17 a) fun b=>
some (b,e)) (
J (I (.bz (.c r)) c) fun ap=>
J (I (.af 0 (.c ap)) c) fun c3=>
J (I (.ag (.c c3)) c) fun c8=>
ad (gF j c8 [85,80,68,65,84,69] c) fun c9 d=>
bG c9 fun dc=>
al dc (
ad (Gp j r d) fun c4 e=>
ad (aB (.store 17 (.c a) (.c c4)) e) fun k o=>
J (dS o 17 a) fun b=>
some (b,o)) (
J (I (.bz (.c r)) d) fun dD=>
J (I (.af 0 (.c dD)) d) fun dk=>
J (I (.ag (.c dk)) d) fun dP=>
ad (gF j dP [68,69,76,69,84,69] d) fun d_ e=>
bG d_ fun dV=>
al dV (
ad (Gq j r e) fun ey o=>
ad (aB (.store 17 (.c a) (.c ey)) o) fun k g=>
J (dS g 17 a) fun b=>
some (b,g)) (
J (I (.bz (.c r)) e) fun eX=>
J (I (.af 0 (.c eX)) e) fun be=>
J (I (.ag (.c be)) e) fun e5=>
ad (gF j e5 [83,69,76,69,67,84] e) fun ec o=>
bG ec fun bi=>
al bi (
ad (Cf j r o) fun n g=>
aN ur n fun fE fG fk eD gL hh hZ hJ=>
J (I (.build [.int .i64 0,(.str []),(.str []), .bool false, .ab, .ab, .ab, .ab, .ab, .bool false, .bool false, .ab, .ab, .ab, .ab, .ab, .int .i64 0] [(0,(1,(.c (.int .i64 (10))))),(9,(8,(.c (.agg [.bool fE, .bool fG,fk,eD,gL,hh,hZ, .int .i64 hJ]))))]) g) fun fu=>
ad (aB (.store 17 (.c a) (.c fu)) g) fun k f=>
J (dS f 17 a) fun b=>
some (b,f)) (
ad (aB (.dN 1 (.str []) 3 [(0,(.c (.str [66,69,71,73,78]))),(1,(.c (.str [67,79,77,77,73,84]))),(2,(.c (.str [82,79,76,76,66,65,67,75])))]) o) fun p g=>
J (I (.cm (.c p)) g) fun n=>
bt .i64 n fun iB=>
bO (Cm j j r a p iB (0) g) fun q s f=>
al (decide (q=(.exit 1))) (
dT s (
J (I (.bz (.c r)) f) fun iC=>
J (I (.af 0 (.c iC)) f) fun bv=>
J (I (.ag (.c bv)) f) fun iM=>
ad (rQ j iM f) fun iD t=>
J (I (.build [.int .i64 0,(.str []),(.str []), .bool false, .ab, .ab, .ab, .ab, .ab, .bool false, .bool false, .ab, .ab, .ab, .ab, .ab, .int .i64 0] []) t) fun iZ=>
ad (aB (.store 17 (.c a) (.c iZ)) t) fun k u=>
J (dS u 17 a) fun b=>
some (b,u))) (
al (decide (q= .ret)) (
dT s (
J (dS f 17 a) fun b=>
some (b,f))) (
none))))))))
def afv(j:Nat):Lv→Lo→OvL:=cv [aD] (Gr j)
theorem afw(j:Nat):cq Tryz.prog 15 (afv j):=cG SJ (jN j) [afu j] [([1,1,0,1,0],0)] [aD] _ Tryz.func15 (by kernel_rfl) (by kernel_rfl) (by kernel_rfl) (fun _ _=>by kernel_rfl)
end
end Go.Proofs.YtjpjeilfmjdhcaaGreat.fC
