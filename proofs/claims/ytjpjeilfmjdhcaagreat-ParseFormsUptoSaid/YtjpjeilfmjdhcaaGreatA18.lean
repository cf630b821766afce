/- Functions of the program as Lean functions, and that each call comes to what its function says. Printed by my own tool. No condition. -/
import Derived.Test.YtjpjeilfmjdhcaaGreatProg
import Derived.Test.YtjpjeilfmjdhcaaGreatA3
import Derived.Test.YtjpjeilfmjdhcaaGreatA17
set_option maxRecDepth 100000
set_option linter.unusedVariables false
set_option linter.unusedSimpArgs false
set_option linter.unnecessarySimpa false
namespace Go.Proofs.YtjpjeilfmjdhcaaGreat.tk
open Go E E.K ep eI CY
noncomputable section
abbrev tl:dO:= .agg [a4,a4,aD,aD,aD,aD,aD,aP]
abbrev w9:dO:= .agg [aP,a3,aP,aP,a3,a3,a3,aD]
abbrev U_:dO:= .agg [aP,a3,aP,aP,a3,a3,a3,aD,a3]
abbrev Nh:dO:= .agg [a3,a3,aP,a3,aP,aP,a3,a3,a3,aD]
abbrev Va:dO:= .agg [aP,a3,aP,aP,a3,a3,a3,aD,a4]
def Hb:=cE [(tl,[0,20,98]),(aP,[4,5,7,19,23,24,26,31,38,46,49,50,52,55,71,74,75,77,82,89,97]),(a4,[9,11,25,51,76,92]),(w9,[34,35,65,66,85,86]),(a3,[41,61,63]),(U_,[42]),(Nh,[57,67]),(Va,[93])]
def r9(j:Nat):cd Tryz.prog:= .c (.c .ao (Fz j)) (Fv j (mL j j) (Fw j j))
def Hc(j:Nat)(self:V→V→Int→Int→Lo→a9)(q:V)(out:V)(E3:Int)(w_:Int)(h:Lo):a9:=
al (decide (w_<E3)) (
J (I (.af 2 (.c out)) h) fun b=>
J (I (.ag (.c b)) h) fun c=>
J (I (.af 2 (.c q)) h) fun l=>
J (I (.ag (.c l)) h) fun m=>
J (I (.cH 9 (.c m) (.c (.int .i64 w_))) h) fun n=>
J (I (.af 0 (.c n)) h) fun p=>
J (I (.bp 8 (.c p)) h) fun r=>
aN w9 r fun s t u v w x y z=>
J (I (.af 2 (.c q)) h) fun d=>
J (I (.ag (.c d)) h) fun e=>
J (I (.cH 9 (.c e) (.c (.int .i64 w_))) h) fun f=>
J (I (.af 8 (.c f)) h) fun g=>
J (I (.ag (.c g)) h) fun bQ=>
b1 bQ fun o=>
ad (rO j (mL j j) s t u v w x y z h) fun bZ a=>
aN w9 bZ fun ac b2 b9 cn cr cB cL cM=>
bk (I (.ag (.c g)) a=some (.str o)) (
bk (I (.af 8 (.c f)) a=some g) (
bk (I (.cH 9 (.c e) (.c (.int .i64 w_))) a=some f) (
bk (I (.ag (.c d)) a=some e) (
bk (I (.af 2 (.c q)) a=some d) (
bk (I (.ag (.c b)) a=some c) (
bk (I (.af 2 (.c out)) a=some b) (
J (I (.build [.int .i64 0,(.str []), .int .i64 0, .int .i64 0,(.str []),(.str []),(.str []), .ab,(.str [])] [(0,(8,(.c (.agg [.int .i64 ac, .str b2, .int .i64 b9, .int .i64 cn, .str cr, .str cB, .str cL,cM])))),(8,(1,(.c (.str o))))]) a) fun cO=>
aN U_ cO fun am cV ap c3 c8 c9 dc c4 dD=>
ad (aB (.dN 9 (.agg [.int .i64 0,(.str []), .int .i64 0, .int .i64 0,(.str []),(.str []),(.str []), .ab,(.str [])]) 1 [(0,(.c (.agg [.int .i64 am, .str cV, .int .i64 ap, .int .i64 c3, .str c8, .str c9, .str dc,c4, .str dD])))]) a) fun dk i=>
bk (I (.ag (.c b)) i=some c) (
bk (I (.af 2 (.c out)) i=some b) (
ad (aB (.app 9 128 (.c c) (.c dk)) i) fun dP k=>
J (I (.af 2 (.c out)) k) fun d_=>
ad (aB (.store 1 (.c d_) (.c dP)) k) fun ey dV=>
self q out E3 (IntKind.i64.wrap (w_+(1))) dV)))))))))) (
some ((.exit 0),[],h))
def zO(j:Nat):Nat→V→V→Int→Int→Lo→a9
 |0=>fun _ _ _ _ _=>none
 |n+1=>Hc j (zO j n)
def aky(j:Nat):cz Tryz.prog:= .loop Hb (r9 j) [] (cT Tryz.prog Tryz.f35 [1,1,0,1,0,0] []) [aD,aD,aP,aP] [1,3,23,24] [((.exit 0),[],[])] (Hc j) (zO j) (fun _ _ _ _ _=>rfl) (fun _=>rfl) (fun _ _ _ _ _ _=>by kernel_rfl) j
def Hd(j:Nat)(self:V→V→Int→Int→Lo→a9)(q:V)(out:V)(tm:Int)(nT:Int)(h:Lo):a9:=
al (decide (nT<tm)) (
J (I (.af 3 (.c q)) h) fun m=>
J (I (.ag (.c m)) h) fun n=>
J (I (.cH 10 (.c n) (.c (.int .i64 nT))) h) fun p=>
J (I (.bp 10 (.c p)) h) fun r=>
aN Nh r fun s t u v w x y z bQ bZ=>
ad (aB (.alloc false (.agg [(.str []),(.str []), .int .i64 0,(.str []), .int .i64 0, .int .i64 0,(.str []),(.str []),(.str []), .ab])) h) fun c ac=>
ad (aB (.store 10 (.c c) (.c (.agg [.str s, .str t, .int .i64 u, .str v, .int .i64 w, .int .i64 x, .str y, .str z, .str bQ,bZ]))) ac) fun iB a=>
J (I (.af 3 (.c out)) a) fun d=>
J (I (.ag (.c d)) a) fun e=>
J (I (.af 0 (.c c)) a) fun f=>
J (I (.ag (.c f)) a) fun b2=>
b1 b2 fun o=>
J (I (.af 1 (.c c)) a) fun g=>
J (I (.ag (.c g)) a) fun b9=>
b1 b9 fun k=>
J (I (.af 2 (.c c)) a) fun cn=>
J (I (.bp 8 (.c cn)) a) fun cr=>
aN w9 cr fun cB cL cM cO am cV ap c3=>
ad (rO j (mL j j) cB cL cM cO am cV ap c3 a) fun c8 b=>
aN w9 c8 fun c9 dc c4 dD dk dP d_ dV=>
bk (I (.ag (.c g)) b=some (.str k)) (
bk (I (.af 1 (.c c)) b=some g) (
bk (I (.ag (.c f)) b=some (.str o)) (
bk (I (.af 0 (.c c)) b=some f) (
bk (I (.ag (.c d)) b=some e) (
bk (I (.af 3 (.c out)) b=some d) (
J (I (.build [(.str []),(.str []), .int .i64 0,(.str []), .int .i64 0, .int .i64 0,(.str []),(.str []),(.str []), .ab] [(0,(1,(.c (.str o)))),(1,(1,(.c (.str k)))),(2,(8,(.c (.agg [.int .i64 c9, .str dc, .int .i64 c4, .int .i64 dD, .str dk, .str dP, .str d_,dV]))))]) b) fun ey=>
aN Nh ey fun eX be e5 ec bi fE fG fk eD gL=>
ad (aB (.dN 10 (.agg [(.str []),(.str []), .int .i64 0,(.str []), .int .i64 0, .int .i64 0,(.str []),(.str []),(.str []), .ab]) 1 [(0,(.c (.agg [.str eX, .str be, .int .i64 e5, .str ec, .int .i64 bi, .int .i64 fE, .str fG, .str fk, .str eD,gL])))]) b) fun hh i=>
bk (I (.ag (.c d)) i=some e) (
bk (I (.af 3 (.c out)) i=some d) (
ad (aB (.app 10 144 (.c e) (.c hh)) i) fun hZ l=>
J (I (.af 3 (.c out)) l) fun hJ=>
ad (aB (.store 1 (.c hJ) (.c hZ)) l) fun iC fu=>
self q out tm (IntKind.i64.wrap (nT+(1))) fu))))))))) (
some ((.exit 2),[],h))
def zP(j:Nat):Nat→V→V→Int→Int→Lo→a9
 |0=>fun _ _ _ _ _=>none
 |n+1=>Hd j (zP j n)
def akz(j:Nat):cz Tryz.prog:= .loop Hb (r9 j) [] (cT Tryz.prog Tryz.f35 [1,1,1,0,1,0,0] []) [aD,aD,aP,aP] [1,3,49,50] [((.exit 2),[],[])] (Hd j) (zP j) (fun _ _ _ _ _=>rfl) (fun _=>rfl) (fun _ _ _ _ _ _=>by kernel_rfl) j
def He(j:Nat)(self:V→V→Int→Int→Lo→a9)(q:V)(out:V)(uh:Int)(pf:Int)(h:Lo):a9:=
al (decide (pf<uh)) (
J (I (.af 6 (.c out)) h) fun b=>
J (I (.ag (.c b)) h) fun c=>
J (I (.af 6 (.c q)) h) fun l=>
J (I (.ag (.c l)) h) fun m=>
J (I (.cH 9 (.c m) (.c (.int .i64 pf))) h) fun n=>
J (I (.af 0 (.c n)) h) fun p=>
J (I (.bp 8 (.c p)) h) fun r=>
aN w9 r fun s t u v w x y z=>
J (I (.af 6 (.c q)) h) fun d=>
J (I (.ag (.c d)) h) fun e=>
J (I (.cH 9 (.c e) (.c (.int .i64 pf))) h) fun f=>
J (I (.af 8 (.c f)) h) fun g=>
J (I (.ag (.c g)) h) fun bQ=>
bG bQ fun o=>
ad (rO j (mL j j) s t u v w x y z h) fun bZ a=>
aN w9 bZ fun ac b2 b9 cn cr cB cL cM=>
bk (I (.ag (.c g)) a=some (.bool o)) (
bk (I (.af 8 (.c f)) a=some g) (
bk (I (.cH 9 (.c e) (.c (.int .i64 pf))) a=some f) (
bk (I (.ag (.c d)) a=some e) (
bk (I (.af 6 (.c q)) a=some d) (
bk (I (.ag (.c b)) a=some c) (
bk (I (.af 6 (.c out)) a=some b) (
J (I (.build [.int .i64 0,(.str []), .int .i64 0, .int .i64 0,(.str []),(.str []),(.str []), .ab, .bool false] [(0,(8,(.c (.agg [.int .i64 ac, .str b2, .int .i64 b9, .int .i64 cn, .str cr, .str cB, .str cL,cM])))),(8,(1,(.c (.bool o))))]) a) fun cO=>
aN Va cO fun am cV ap c3 c8 c9 dc c4 dD=>
ad (aB (.dN 9 (.agg [.int .i64 0,(.str []), .int .i64 0, .int .i64 0,(.str []),(.str []),(.str []), .ab, .bool false]) 1 [(0,(.c (.agg [.int .i64 am, .str cV, .int .i64 ap, .int .i64 c3, .str c8, .str c9, .str dc,c4, .bool dD])))]) a) fun dk i=>
bk (I (.ag (.c b)) i=some c) (
bk (I (.af 6 (.c out)) i=some b) (
ad (aB (.app 9 120 (.c c) (.c dk)) i) fun dP k=>
J (I (.af 6 (.c out)) k) fun d_=>
ad (aB (.store 1 (.c d_) (.c dP)) k) fun ey dV=>
self q out uh (IntKind.i64.wrap (pf+(1))) dV)))))))))) (
some ((.exit 4),[],h))
def zQ(j:Nat):Nat→V→V→Int→Int→Lo→a9
 |0=>fun _ _ _ _ _=>none
 |n+1=>He j (zQ j n)
def akA(j:Nat):cz Tryz.prog:= .loop Hb (r9 j) [] (cT Tryz.prog Tryz.f35 [1,1,1,1,0,1,0,0] []) [aD,aD,aP,aP] [1,3,74,75] [((.exit 4),[],[])] (He j) (zQ j) (fun _ _ _ _ _=>rfl) (fun _=>rfl) (fun _ _ _ _ _ _=>by kernel_rfl) j
def tn(j:Nat)(q:Bool)(aE:Bool)(aR:V)(bE:V)(bS:V)(dn:V)(ej:V)(fy:Int)(h:Lo):OvL:=
ad (aB (.box false (.c (.agg [.bool q, .bool aE,aR,bE,bS,dn,ej, .int .i64 fy]))) h) fun a hh=>
ad (aB (.alloc false (.agg [.bool false, .bool false, .ab, .ab, .ab, .ab, .ab, .int .i64 0])) hh) fun eD b=>
J (I (.af 0 (.c a)) b) fun n=>
J (I (.ag (.c n)) b) fun hZ=>
bG hZ fun y=>
J (I (.af 1 (.c a)) b) fun p=>
J (I (.ag (.c p)) b) fun hJ=>
bG hJ fun z=>
J (I (.af 4 (.c a)) b) fun dP=>
J (I (.ag (.c dP)) b) fun d_=>
J (I (.af 5 (.c a)) b) fun b9=>
J (I (.ag (.c b9)) b) fun dk=>
J (I (.af 7 (.c a)) b) fun r=>
J (I (.ag (.c r)) b) fun fu=>
bt .i64 fu fun bQ=>
ad (mj j d_ b) fun dV s=>
bk (I (.ag (.c r)) s=some (.int .i64 bQ)) (
bk (I (.af 7 (.c a)) s=some r) (
bk (I (.ag (.c b9)) s=some dk) (
bk (I (.af 5 (.c a)) s=some b9) (
bk (I (.ag (.c p)) s=some (.bool z)) (
bk (I (.af 1 (.c a)) s=some p) (
bk (I (.ag (.c n)) s=some (.bool y)) (
bk (I (.af 0 (.c a)) s=some n) (
ad (mj j dk s) fun ey u=>
bk (I (.ag (.c r)) u=some (.int .i64 bQ)) (
bk (I (.af 7 (.c a)) u=some r) (
bk (I (.ag (.c p)) u=some (.bool z)) (
bk (I (.af 1 (.c a)) u=some p) (
bk (I (.ag (.c n)) u=some (.bool y)) (
bk (I (.af 0 (.c a)) u=some n) (
J (I (.build [.bool false, .bool false, .ab, .ab, .ab, .ab, .ab, .int .i64 0] [(0,(1,(.c (.bool y)))),(1,(1,(.c (.bool z)))),(4,(1,(.c dV))),(5,(1,(.c ey))),(7,(1,(.c (.int .i64 bQ))))]) u) fun iB=>
aN tl iB fun eX be e5 ec bi fE fG fk=>
ad (aB (.alloc false (.agg [.bool false, .bool false, .ab, .ab, .ab, .ab, .ab, .int .i64 0])) u) fun v w=>
bk (I (.ag (.c r)) w=some (.int .i64 bQ)) (
bk (I (.af 7 (.c a)) w=some r) (
bk (I (.ag (.c p)) w=some (.bool z)) (
bk (I (.af 1 (.c a)) w=some p) (
bk (I (.ag (.c n)) w=some (.bool y)) (
bk (I (.af 0 (.c a)) w=some n) (
ad (aB (.store 8 (.c v) (.c (.agg [.bool eX, .bool be,e5,ec,bi,fE,fG, .int .i64 fk]))) w) fun ud bZ=>
bk ((
J (I (.af 0 (.c a)) b) fun f=>
J (I (.ag (.c f)) b) fun cn=>
bG cn fun k=>
J (I (.af 1 (.c a)) b) fun g=>
J (I (.ag (.c g)) b) fun cr=>
bG cr fun l=>
J (I (.af 4 (.c a)) b) fun x=>
J (I (.ag (.c x)) b) fun ac=>
J (I (.af 5 (.c a)) b) fun o=>
J (I (.ag (.c o)) b) fun t=>
J (I (.af 7 (.c a)) b) fun i=>
J (I (.ag (.c i)) b) fun cB=>
bt .i64 cB fun m=>
ad (mj j ac b) fun cL c=>
bk (I (.ag (.c i)) c=some (.int .i64 m)) (
bk (I (.af 7 (.c a)) c=some i) (
bk (I (.ag (.c o)) c=some t) (
bk (I (.af 5 (.c a)) c=some o) (
bk (I (.ag (.c g)) c=some (.bool l)) (
bk (I (.af 1 (.c a)) c=some g) (
bk (I (.ag (.c f)) c=some (.bool k)) (
bk (I (.af 0 (.c a)) c=some f) (
ad (aB (.alloc false (.agg [.bool false, .bool false, .ab, .ab, .ab, .ab, .ab, .int .i64 0])) c) fun cM d=>
bk (I (.ag (.c i)) d=some (.int .i64 m)) (
bk (I (.af 7 (.c a)) d=some i) (
bk (I (.ag (.c o)) d=some t) (
bk (I (.af 5 (.c a)) d=some o) (
bk (I (.ag (.c g)) d=some (.bool l)) (
bk (I (.af 1 (.c a)) d=some g) (
bk (I (.ag (.c f)) d=some (.bool k)) (
bk (I (.af 0 (.c a)) d=some f) (
ad (mj j t d) fun cO e=>
bk (I (.ag (.c i)) e=some (.int .i64 m)) (
bk (I (.af 7 (.c a)) e=some i) (
bk (I (.ag (.c g)) e=some (.bool l)) (
bk (I (.af 1 (.c a)) e=some g) (
bk (I (.ag (.c f)) e=some (.bool k)) (
bk (I (.af 0 (.c a)) e=some f) (
J (I (.build [.bool false, .bool false, .ab, .ab, .ab, .ab, .ab, .int .i64 0] [(0,(1,(.c (.bool k)))),(1,(1,(.c (.bool l)))),(4,(1,(.c cL))),(5,(1,(.c cO))),(7,(1,(.c (.int .i64 m))))]) e) fun am=>
aN tl am fun cV ap c3 c8 c9 dc c4 dD=>
ad (aB (.store 8 (.c cM) (.c (.agg [.bool cV, .bool ap,c3,c8,c9,dc,c4, .int .i64 dD]))) e) fun gL b2=>
some ([f, .bool k,g, .bool l,x,ac,o,t,i, .int .i64 m,cL,cO,(.agg [.bool cV, .bool ap,c3,c8,c9,dc,c4, .int .i64 dD]),cM],b2))))))))))))))))))))))):Option (Lv × Lo))=some ([n, .bool y,p, .bool z,dP,d_,b9,dk,r, .int .i64 bQ,dV,ey,(.agg [.bool eX, .bool be,e5,ec,bi,fE,fG, .int .i64 fk]),v],bZ)) (
bk ((
J (I (.af 0 (.c a)) b) fun f=>
J (I (.ag (.c f)) b) fun cn=>
bG cn fun k=>
J (I (.af 1 (.c a)) b) fun g=>
J (I (.ag (.c g)) b) fun cr=>
bG cr fun l=>
J (I (.af 4 (.c a)) b) fun x=>
J (I (.ag (.c x)) b) fun ac=>
J (I (.af 5 (.c a)) b) fun o=>
J (I (.ag (.c o)) b) fun t=>
J (I (.af 7 (.c a)) b) fun i=>
J (I (.ag (.c i)) b) fun cB=>
bt .i64 cB fun m=>
ad (aB (.alloc false (.agg [.bool false, .bool false, .ab, .ab, .ab, .ab, .ab, .int .i64 0])) b) fun cM c=>
bk (I (.ag (.c i)) c=some (.int .i64 m)) (
bk (I (.af 7 (.c a)) c=some i) (
bk (I (.ag (.c o)) c=some t) (
bk (I (.af 5 (.c a)) c=some o) (
bk (I (.ag (.c x)) c=some ac) (
bk (I (.af 4 (.c a)) c=some x) (
bk (I (.ag (.c g)) c=some (.bool l)) (
bk (I (.af 1 (.c a)) c=some g) (
bk (I (.ag (.c f)) c=some (.bool k)) (
bk (I (.af 0 (.c a)) c=some f) (
ad (mj j ac c) fun cL d=>
bk (I (.ag (.c i)) d=some (.int .i64 m)) (
bk (I (.af 7 (.c a)) d=some i) (
bk (I (.ag (.c o)) d=some t) (
bk (I (.af 5 (.c a)) d=some o) (
bk (I (.ag (.c g)) d=some (.bool l)) (
bk (I (.af 1 (.c a)) d=some g) (
bk (I (.ag (.c f)) d=some (.bool k)) (
bk (I (.af 0 (.c a)) d=some f) (
ad (mj j t d) fun cO e=>
bk (I (.ag (.c i)) e=some (.int .i64 m)) (
bk (I (.af 7 (.c a)) e=some i) (
bk (I (.ag (.c g)) e=some (.bool l)) (
bk (I (.af 1 (.c a)) e=some g) (
bk (I (.ag (.c f)) e=some (.bool k)) (
bk (I (.af 0 (.c a)) e=some f) (
J (I (.build [.bool false, .bool false, .ab, .ab, .ab, .ab, .ab, .int .i64 0] [(0,(1,(.c (.bool k)))),(1,(1,(.c (.bool l)))),(4,(1,(.c cL))),(5,(1,(.c cO))),(7,(1,(.c (.int .i64 m))))]) e) fun am=>
aN tl am fun cV ap c3 c8 c9 dc c4 dD=>
ad (aB (.store 8 (.c cM) (.c (.agg [.bool cV, .bool ap,c3,c8,c9,dc,c4, .int .i64 dD]))) e) fun gL b2=>
some ([f, .bool k,g, .bool l,x,ac,o,t,i, .int .i64 m,cL,cO,(.agg [.bool cV, .bool ap,c3,c8,c9,dc,c4, .int .i64 dD]),cM],b2))))))))))))))))))))))))):Option (Lv × Lo))=some ([n, .bool y,p, .bool z,dP,d_,b9,dk,r, .int .i64 bQ,dV,ey,(.agg [.bool eX, .bool be,e5,ec,bi,fE,fG, .int .i64 fk]),v],bZ)) (
J (I (.af 2 (.c a)) bZ) fun iC=>
J (I (.ag (.c iC)) bZ) fun bv=>
J (I (.cm (.c bv)) bZ) fun cn=>
bt .i64 cn fun iM=>
bO (zO j j a v iM (0) bZ) fun iZ iD c=>
al (decide (iZ=(.exit 0))) (
dT iD (
J (I (.af 3 (.c a)) c) fun eB=>
J (I (.ag (.c eB)) c) fun gE=>
J (I (.cm (.c gE)) c) fun cr=>
bt .i64 cr fun ky=>
bO (zP j j a v ky (0) c) fun gf ce d=>
al (decide (gf=(.exit 2))) (
dT ce (
J (I (.af 6 (.c a)) d) fun k0=>
J (I (.ag (.c k0)) d) fun lU=>
J (I (.cm (.c lU)) d) fun cB=>
bt .i64 cB fun ci=>
bO (zQ j j a v ci (0) d) fun lV mM e=>
al (decide (lV=(.exit 4))) (
dT mM (
J (I (.bp 8 (.c v)) e) fun am=>
aN tl am fun c7 mN mO mP mQ mR cs nU=>
ad (aB (.store 8 (.c eD) (.c (.agg [.bool c7, .bool mN,mO,mP,mQ,mR,cs, .int .i64 nU]))) e) fun gL b2=>
J (dS b2 8 eD) fun ph=>
some (ph,b2))) (
none))) (
none))) (
none)))))))))))))))))))))))
def zR(j:Nat):Lv→Lo→OvL:=cv [tl] (tn j)
theorem Ni(j:Nat):cq Tryz.prog 35 (zR j):=cG Hb (r9 j) [aky j,akz j,akA j] [([1,1,0,1,0],0),([1,1,1,0,1,0],1),([1,1,1,1,0,1,0],2)] [tl] _ Tryz.func35 (by kernel_rfl) (by kernel_rfl) (by kernel_rfl) (fun _ _ _ _ _ _ _ _ _=>by kernel_rfl)
open fq fw fC f_ m3
def l3:X→fg
 | .mk n _=>n
def oO:X→List X
 | .mk _ ah=>ah
def lB(x:X):V:=ee ((oO x).map eN)
theorem CZ(x:X):(lB x).scalar=true:=(kf _).1
def kL(x:ij):V:= .agg (fT (l3 x.e) (lB x.e) (.str x.n))
def kM(x:iH):V:= .agg (fT (l3 x.e) (lB x.e) (.bool x.d))
def kN(x:hB):V:= .agg (h8 x.t x.n (l3 x.on) (lB x.on))
def qh(x:h7):V:= .agg (jj x.c (l3 x.e) (lB x.e))
theorem Hf{b:Bool}{K:Nat→Prop}{h:Lo}{bU:fg}{cf:V}{ah:List X}(r:gJ b K h (.agg (bH bU cf)) (eN (.mk bU ah))):ef b K h cf (ee (ah.map eN)):=by
 have:eN (.mk bU ah)= .agg (bH bU (ee (ah.map eN))):=by simp[eN,CV]
 rw[this] at r
 exact r.at_ 7 _ _ rfl rfl
theorem C0{i n:Nat}(h:i<n)(bd:n≤1000000000):IntKind.i64.wrap ((i:Int)+1)=((i+1:Nat):Int):=by rw[wrap_i64 (by omega) (by omega)];simp
theorem C1{i n:Nat}(h:i<n):decide ((i:Int)<(n:Int))=true:=decide_eq_true (by omega)
theorem C2(n:Nat):decide ((n:Int)<(n:Int))=false:=decide_eq_false (by omega)
theorem Hg{aK:Type}(ao:Option aK):bk True ao=ao:=o9 ao trivial
theorem lC{α:Type}{T:hd α}{az:Nat}{h aa:Lo}{v:V}{xs:List α}{A:List Nat}(l:aC az T dH h v xs)(k:ai h aa A):aC az T dH aa v xs:=(cl az T).aJ l k (fun o _ z=>z)
theorem bw.zS{av bx:Nat→Prop}{h aa:Lo}{v:V}{us:Lv}{A:List Nat}(l:ef false av h v (ee us))(k:ai h aa A)(d:∀o,o∈A→¬av o)(m:∀o,av o→bx o):ef false bx aa v (ee us):=(l.aJ fun i aw bN=>k.same i bN (fun z=>d i z aw)).mono fun o _ q=>m o q
theorem akB{h:Lo}{n:Nat}{fU aM:Lv}{K:V→Lo→a9}{Q:cg→Lv→Lo→Prop}(b0:fU.all V.scalar=true)(vo:fU.length=n)(bj:aM.length=n)(aI:0<n)(a6:aM.all V.scalar=true)(eY:∀ae,bY ae h.length aM→ai h ae []→aL (K (.ptr h.length 0 0) ae) Q):
  aL (ad (aB (.alloc false (.agg fU)) h) fun x mT=>ad (aB (.store n (.c x) (.c (.agg aM))) mT) fun _ oJ=>K x oJ) Q:=by
 refine aL.ad (hs b0) ?_
 rintro x R ⟨rfl,st,ar⟩
 refine aL.ad (st.ic (aM:=aM) (by omega) (by omega) a6 (n:=n) vo) ?_
 rintro u ae ⟨ds,aA⟩
 exact eY ae ds (ar.trans aA (fun o U=>by cases U) (fun o U bN=>by simp at U;omega))
theorem Hh{b:Bool}{K:Nat→Prop}{h:Lo}{cs aM:Lv}(ax:aM.length=cs.length)(a6:aM.all V.scalar=true)(bc:∀(o:Nat) (z y:V),cs[o]? =some z→aM[o]? =some y→ef b K h z y):gJ b K h (.agg cs) (.agg aM):=⟨ax,a6,rfl,bc⟩
theorem C3{b:Bool}{av:Nat→Prop}{h:Lo}{v:V}{es:Lv}(r:ef b av h v (ee es)):v.scalar=true:=by
 generalize hu:ee es=u at r
 cases r with
 |same bg aF=>rw[←hu];exact(kf es).1
 |agg ax hp=>cases es<;>simp[ee] at hu
 |bW ax hp=>cases es<;>simp[ee] at hu
 |cx aF ax aS he=>rfl
 |row hy aF cj ax aS he=>rfl
theorem akC(x:X):ff (eN x)=true:=(uU (h:=[]) (U1 x)).1
theorem Hi{es:Lv}(h:∀e,e∈es→ff e=true):ff (ee es)=true:=by
 cases es with
 |nil=>rfl
 |cons e es=>simp only[ee,ff];exact Ng h
theorem xa(xs:List X):ff (ee (xs.map eN))=true:=Hi fun e he=>by obtain⟨x,-,rfl⟩:=List.mem_map.1 he;exact akC x
theorem tp{w:Nat}:∀{k:Nat} {x:X},fY w k x→g_ w k x
 |k+1, .mk n ah,d=>⟨d.1.2.2,fun p hp=>tp (d.2 p hp)⟩
theorem akD{K:Nat→Prop}{h:Lo}{x:ij}{bU:fg}{cf:V}{ah:List X}(au:x.e= .mk bU ah)(r:gJ false K h (.agg (bH bU cf)) (eN (.mk bU ah))):gJ false K h (.agg (fT bU cf (.str x.n))) (kL x):=by
 have q:=Hf r
 unfold kL lB
 rw[au]
 refine Hh rfl (by simp only[l3,oO,List.all_cons,List.all_nil,(kf _).1];rfl) (fun o z y R ae=> ?_)
 match o with
 |0|1|2|3|4|5|6|8=>injection R with R;injection ae with ae;subst R;subst ae;exact .same rfl (.inr rfl)
 |7=>injection R with R;injection ae with ae;subst R;subst ae;exact q
 |o+9=>simp at R
theorem akE{j w D:Nat}(hw:w<j)(bV:w≤1000000000)(b_:D≤j){aI:Lo}{gx io:Nat}{eB:Lv}{a:V}{ch star:Bool}{c d:V}{b7:Int}{xs:List ij}(en:gx≠io)(uR:io<aI.length)(dR:bY aI gx eB)(bh:eB[0+2]? =some a)(l:aC 9 eC dH aI a xs)(ax:xs.length≤w)(g:∀x,x∈xs→fY w D x.e):
  ∀(m i n:Nat) (h:Lo) (cf:V),xs.length=i+m→m<n→ai aI h [io]→bY h io (e2 ch star cf .ab c d .ab b7)→bw 9 lA (fun o=>aI.length≤o) h cf ((xs.take i).map kL)→(i=0→cf= .ab)→
   aL (zO j n (.ptr gx 0 0) (.ptr io 0 0) xs.length i h) fun x ak aa=>x= .exit 0∧ak=[]∧ai aI aa [io]∧∃gO,bY aa io (e2 ch star gO .ab c d .ab b7)∧ef false (fun o=>aI.length≤o) aa gO (ee (xs.map kL)):=by
 intro m
 induction m with
 |zero=>
  intro i n h cf hm bd k st L z
  obtain⟨n,rfl⟩:∃g,n=g+1:=⟨n-1,by omega⟩
  obtain rfl:i=xs.length:=by omega
  rw[List.take_length] at L
  simp only[zO,Hc,C2,a7]
  exact aL.some ⟨rfl,rfl,k,cf,st,w8 L (fun q=>z (by simpa using q))⟩
 |succ m ba=>
  intro i n h cf hm bd k st L z
  obtain⟨n,rfl⟩:∃g,n=g+1:=⟨n-1,by omega⟩
  have aw:i<xs.length:=by omega
  obtain⟨es,s,-,-,he⟩:=lC l k
  obtain⟨e,aV,bU,aG,ah,au,rfl,cp⟩:=he i aw
  obtain⟨b,ec⟩:=tj s (k:=(i:Int)) (cs:=fT bU aG (.str xs[i].n)) (by omega) (by simpa using aV) rfl (by decide)
  have jC:=g _ (List.getElem_mem aw)
  rw[au] at jC
  have hD:=dR.aJ k (fun q=>en (List.mem_singleton.1 q))
  have q8:I (.ag (.c (.ptr io 0 (0+2)))) h=some cf:=st.ag rfl
  obtain⟨fi,jm⟩:=ec h (ai.refl _ _)
  have bN:=st.lt
  have Hj:=k.len
  have le:I (.bp 8 (.c (b 0))) h=some (.agg (bH bU aG)):=(jm 0).2.2 8 (show 0+8≤9 by decide)
  simp only[zO,Hc,C1 aw,aU,hD.af,st.af,hD.ag bh,q8,fi,(jm 0).1,le,(jm 8).1,(jm 8).2.1 (.str xs[i].n) rfl,aO,aN,aZ,bn,bl,id_eq,bP,bq,a1,bC,a0,a5,C0 aw (Nat.le_trans ax bV)]
  refine aL.ad (CX hw bV b_ (tp jC) cp) ?_
  rintro v ae ⟨⟨kq,rfl,bD,hI⟩,aA⟩
  obtain⟨C4,q9⟩:=ec ae aA
  have q_:=hD.aq aA
  have ds:=st.aq aA
  have xb:I (.ag (.c (.ptr io 0 (0+2)))) ae=some cf:=ds.ag rfl
  have fx:I (.build [.int .i64 0,(.str []), .int .i64 0, .int .i64 0,(.str []),(.str []),(.str []), .ab,(.str [])] [(0,(8,(.c (.agg (bH bU kq))))),(8,(1,(.c (.str xs[i].n))))]) ae=some (.agg (fT bU kq (.str xs[i].n))):=rfl
  simp only[q_.af,ds.af,q_.ag bh,xb,C4,(q9 0).1,(q9 8).1,(q9 8).2.1 (.str xs[i].n) rfl,fx,Hg,aO,aN,aZ,bn,bl,id_eq,bP,bq,a1,bC,a0,a5]
  have gN:=(ca 9 lA).aJ L aA (fun o U=>by cases U)
  have uz:=aA.len
  refine zL (az:=9) (io:=io) (n6:=2) (bx:=fun o=>h.length≤o) (av:=fun o=>aI.length≤o) (u:=kL xs[i]) (by decide) (by decide) (by decide) ds rfl gN (by omega) (akD au hI)
   (fun o U q=>⟨by have:h.length≤o:=q;omega,fun w=>by have:=(bw.lt L w).1;have:h.length≤o:=q;omega⟩) (fun o U=>by omega) (by simp;omega) (l2 rfl (by simp only[List.all_cons,List.all_nil,bD];rfl)) fun gO aQ ha gh aT=> ?_
  have oL:ai aI aQ [io]:=(k.trans aA (C:=[io]) (fun o U _=>U) (fun o U=>by cases U)).trans aT (fun o U _=>U) (fun o U bN=>by
   rcases List.mem_cons.1 U with rfl|U
   ·exact List.mem_cons_self
   ·have:=(bw.lt L U).2;omega)
  refine ba (i+1) n aQ gO (by omega) (by omega) oL ha ?_ (fun q=>by omega)
  have:(xs.take (i+1)).map kL=(xs.take i).map kL++ [kL xs[i]]:=by rw[←List.take_append_getElem aw,List.map_append];rfl
  rw[this]
  exact gh
theorem akF{K:Nat→Prop}{h:Lo}{x:hB}{bU:fg}{cf:V}{ah:List X}(au:x.on= .mk bU ah)(r:gJ false K h (.agg (bH bU cf)) (eN (.mk bU ah))):gJ false K h (.agg (h8 x.t x.n bU cf)) (kN x):=by
 have q:=Hf r
 unfold kN lB
 rw[au]
 refine Hh rfl (by simp only[l3,oO,List.all_cons,List.all_nil,(kf _).1];rfl) (fun o z y R ae=> ?_)
 match o with
 |0|1|2|3|4|5|6|7|8=>injection R with R;injection ae with ae;subst R;subst ae;exact .same rfl (.inr rfl)
 |9=>injection R with R;injection ae with ae;subst R;subst ae;exact q
 |o+10=>simp at R
theorem akG{j w D:Nat}(hw:w<j)(bV:w≤1000000000)(b_:D≤j){aI:Lo}{gx io:Nat}{eB:Lv}{a:V}{ch star:Bool}{c d it:V}{b7:Int}{xs:List hB}(en:gx≠io)(uR:io<aI.length)(dR:bY aI gx eB)(bh:eB[0+3]? =some a)(l:aC 10 eM dH aI a xs)(ax:xs.length≤w)(g:∀x,x∈xs→fY w D x.on):
  ∀(m i n:Nat) (h:Lo) (cf:V),xs.length=i+m→m<n→ai aI h [io]→bY h io (e2 ch star it cf c d .ab b7)→bw 10 lA (fun o=>aI.length≤o) h cf ((xs.take i).map kN)→(i=0→cf= .ab)→
   aL (zP j n (.ptr gx 0 0) (.ptr io 0 0) xs.length i h) fun x ak aa=>x= .exit 2∧ak=[]∧ai aI aa [io]∧∃gO,bY aa io (e2 ch star it gO c d .ab b7)∧ef false (fun o=>aI.length≤o) aa gO (ee (xs.map kN)):=by
 intro m
 induction m with
 |zero=>
  intro i n h cf hm bd k st L z
  obtain⟨n,rfl⟩:∃g,n=g+1:=⟨n-1,by omega⟩
  obtain rfl:i=xs.length:=by omega
  rw[List.take_length] at L
  simp only[zP,Hd,C2,a7]
  exact aL.some ⟨rfl,rfl,k,cf,st,w8 L (fun q=>z (by simpa using q))⟩
 |succ m ba=>
  intro i n h cf hm bd k st L z
  obtain⟨n,rfl⟩:∃g,n=g+1:=⟨n-1,by omega⟩
  have aw:i<xs.length:=by omega
  obtain⟨es,s,-,-,he⟩:=lC l k
  obtain⟨e,aV,bU,aG,ah,au,rfl,cp⟩:=he i aw
  obtain⟨b,ec⟩:=tj s (k:=(i:Int)) (cs:=h8 xs[i].t xs[i].n bU aG) (by omega) (by simpa using aV) rfl (by decide)
  have jC:=g _ (List.getElem_mem aw)
  rw[au] at jC
  have hD:=dR.aJ k (fun q=>en (List.mem_singleton.1 q))
  have q8:I (.ag (.c (.ptr io 0 (0+3)))) h=some cf:=st.ag rfl
  obtain⟨fi,jm⟩:=ec h (ai.refl _ _)
  have bN:=st.lt
  have Hj:=k.len
  obtain⟨p,cF,cW⟩:=s.kn (k:=(i:Int)) (cs:=h8 xs[i].t xs[i].n bU aG) (by omega) (by simpa using aV) rfl (by decide)
  simp only[zP,Hd,C1 aw,aU,hD.af,hD.ag bh,cF,cW,aO,aN,aZ,bn,bl,id_eq,bP,bq,a1,bC,a0,a5,C0 aw (Nat.le_trans ax bV)]
  refine akB (n:=10) (fU:=(h8 [] [] hQ .ab)) (aM:=h8 xs[i].t xs[i].n bU aG) rfl rfl rfl (by decide) (by simp only[List.all_cons,List.all_nil,gU cp];rfl) fun R s1 ar=> ?_
  have Vb:=st.aq ar
  have c5:I (.bp 8 (.c (.ptr h.length 0 (0+2)))) R=some (.agg (bH bU aG)):=iE s1 (o:=0+2) (n:=8) (by simp) (by decide)
  have akH:I (.ag (.c (.ptr io 0 (0+3)))) R=some cf:=Vb.ag rfl
  simp only[s1.af,Vb.af,akH,c5,s1.ag (o:=0+0) (c:= .str xs[i].t) rfl,s1.ag (o:=0+1) (c:= .str xs[i].n) rfl,aO,aN,aZ,bn,bl,id_eq,bP,bq,a1,bC,a0,a5]
  refine aL.ad (CX hw bV b_ (tp jC) (cp.aq ar)) ?_
  rintro v ae ⟨⟨kq,rfl,bD,hI⟩,Nj⟩
  have aA:=ar.bs Nj
  have s2:=s1.aq Nj
  have ds:=st.aq aA
  have xb:I (.ag (.c (.ptr io 0 (0+3)))) ae=some cf:=ds.ag rfl
  have hI:gJ false (fun o=>h.length≤o) ae (.agg (bH bU kq)) (eN (.mk bU ah)):=lA.mono hI (fun o _ q=>by have:=ar.len;have:R.length≤o:=q;omega)
  have fx:I (.build [(.str []),(.str []), .int .i64 0,(.str []), .int .i64 0, .int .i64 0,(.str []),(.str []),(.str []), .ab] [(0,(1,(.c (.str xs[i].t)))),(1,(1,(.c (.str xs[i].n)))),(2,(8,(.c (.agg (bH bU kq)))))]) ae=some (.agg (h8 xs[i].t xs[i].n bU kq)):=rfl
  simp only[s2.af,ds.af,s2.ag (o:=0+0) (c:= .str xs[i].t) rfl,s2.ag (o:=0+1) (c:= .str xs[i].n) rfl,xb,fx,Hg,aO,aN,aZ,bn,bl,id_eq,bP,bq,a1,bC,a0,a5]
  have gN:=(ca 10 lA).aJ L aA (fun o U=>by cases U)
  have uz:=aA.len
  refine zL (az:=10) (io:=io) (n6:=3) (bx:=fun o=>h.length≤o) (av:=fun o=>aI.length≤o) (u:=kN xs[i]) (by decide) (by decide) (by decide) ds rfl gN (by omega) (akF au hI)
   (fun o U q=>⟨by have:h.length≤o:=q;omega,fun w=>by have:=(bw.lt L w).1;have:h.length≤o:=q;omega⟩) (fun o U=>by omega) (by simp;omega) (l2 rfl (by simp only[List.all_cons,List.all_nil,bD];rfl)) fun gO aQ ha gh aT=> ?_
  have oL:ai aI aQ [io]:=(k.trans aA (C:=[io]) (fun o U _=>U) (fun o U=>by cases U)).trans aT (fun o U _=>U) (fun o U bN=>by
   rcases List.mem_cons.1 U with rfl|U
   ·exact List.mem_cons_self
   ·have:=(bw.lt L U).2;omega)
  refine ba (i+1) n aQ gO (by omega) (by omega) oL ha ?_ (fun q=>by omega)
  have:(xs.take (i+1)).map kN=(xs.take i).map kN++ [kN xs[i]]:=by rw[←List.take_append_getElem aw,List.map_append];rfl
  rw[this]
  exact gh
theorem akI{K:Nat→Prop}{h:Lo}{x:iH}{bU:fg}{cf:V}{ah:List X}(au:x.e= .mk bU ah)(r:gJ false K h (.agg (bH bU cf)) (eN (.mk bU ah))):gJ false K h (.agg (fT bU cf (.bool x.d))) (kM x):=by
 have q:=Hf r
 unfold kM lB
 rw[au]
 refine Hh rfl (by simp only[l3,oO,List.all_cons,List.all_nil,(kf _).1];rfl) (fun o z y R ae=> ?_)
 match o with
 |0|1|2|3|4|5|6|8=>injection R with R;injection ae with ae;subst R;subst ae;exact .same rfl (.inr rfl)
 |7=>injection R with R;injection ae with ae;subst R;subst ae;exact q
 |o+9=>simp at R
theorem akJ{j w D:Nat}(hw:w<j)(bV:w≤1000000000)(b_:D≤j){aI:Lo}{gx io:Nat}{eB:Lv}{a:V}{ch star:Bool}{c d it dm:V}{b7:Int}{xs:List iH}(en:gx≠io)(uR:io<aI.length)(dR:bY aI gx eB)(bh:eB[0+6]? =some a)(l:aC 9 eS dH aI a xs)(ax:xs.length≤w)(g:∀x,x∈xs→fY w D x.e):
  ∀(m i n:Nat) (h:Lo) (cf:V),xs.length=i+m→m<n→ai aI h [io]→bY h io (e2 ch star it dm c d cf b7)→bw 9 lA (fun o=>aI.length≤o) h cf ((xs.take i).map kM)→(i=0→cf= .ab)→
   aL (zQ j n (.ptr gx 0 0) (.ptr io 0 0) xs.length i h) fun x ak aa=>x= .exit 4∧ak=[]∧ai aI aa [io]∧∃gO,bY aa io (e2 ch star it dm c d gO b7)∧ef false (fun o=>aI.length≤o) aa gO (ee (xs.map kM)):=by
 intro m
 induction m with
 |zero=>
  intro i n h cf hm bd k st L z
  obtain⟨n,rfl⟩:∃g,n=g+1:=⟨n-1,by omega⟩
  obtain rfl:i=xs.length:=by omega
  rw[List.take_length] at L
  simp only[zQ,He,C2,a7]
  exact aL.some ⟨rfl,rfl,k,cf,st,w8 L (fun q=>z (by simpa using q))⟩
 |succ m ba=>
  intro i n h cf hm bd k st L z
  obtain⟨n,rfl⟩:∃g,n=g+1:=⟨n-1,by omega⟩
  have aw:i<xs.length:=by omega
  obtain⟨es,s,-,-,he⟩:=lC l k
  obtain⟨e,aV,bU,aG,ah,au,rfl,cp⟩:=he i aw
  obtain⟨b,ec⟩:=tj s (k:=(i:Int)) (cs:=fT bU aG (.bool xs[i].d)) (by omega) (by simpa using aV) rfl (by decide)
  have jC:=g _ (List.getElem_mem aw)
  rw[au] at jC
  have hD:=dR.aJ k (fun q=>en (List.mem_singleton.1 q))
  have q8:I (.ag (.c (.ptr io 0 (0+6)))) h=some cf:=st.ag rfl
  obtain⟨fi,jm⟩:=ec h (ai.refl _ _)
  have bN:=st.lt
  have Hj:=k.len
  have le:I (.bp 8 (.c (b 0))) h=some (.agg (bH bU aG)):=(jm 0).2.2 8 (show 0+8≤9 by decide)
  simp only[zQ,He,C1 aw,aU,hD.af,st.af,hD.ag bh,q8,fi,(jm 0).1,le,(jm 8).1,(jm 8).2.1 (.bool xs[i].d) rfl,aO,aN,aZ,bn,bl,id_eq,bP,bq,a1,bC,a0,a5,C0 aw (Nat.le_trans ax bV)]
  refine aL.ad (CX hw bV b_ (tp jC) cp) ?_
  rintro v ae ⟨⟨kq,rfl,bD,hI⟩,aA⟩
  obtain⟨C4,q9⟩:=ec ae aA
  have q_:=hD.aq aA
  have ds:=st.aq aA
  have xb:I (.ag (.c (.ptr io 0 (0+6)))) ae=some cf:=ds.ag rfl
  have fx:I (.build [.int .i64 0,(.str []), .int .i64 0, .int .i64 0,(.str []),(.str []),(.str []), .ab, .bool false] [(0,(8,(.c (.agg (bH bU kq))))),(8,(1,(.c (.bool xs[i].d))))]) ae=some (.agg (fT bU kq (.bool xs[i].d))):=rfl
  simp only[q_.af,ds.af,q_.ag bh,xb,C4,(q9 0).1,(q9 8).1,(q9 8).2.1 (.bool xs[i].d) rfl,fx,Hg,aO,aN,aZ,bn,bl,id_eq,bP,bq,a1,bC,a0,a5]
  have gN:=(ca 9 lA).aJ L aA (fun o U=>by cases U)
  have uz:=aA.len
  refine zL (az:=9) (io:=io) (n6:=6) (bx:=fun o=>h.length≤o) (av:=fun o=>aI.length≤o) (u:=kM xs[i]) (by decide) (by decide) (by decide) ds rfl gN (by omega) (akI au hI)
   (fun o U q=>⟨by have:h.length≤o:=q;omega,fun w=>by have:=(bw.lt L w).1;have:h.length≤o:=q;omega⟩) (fun o U=>by omega) (by simp;omega) (l2 rfl (by simp only[List.all_cons,List.all_nil,bD];rfl)) fun gO aQ ha gh aT=> ?_
  have oL:ai aI aQ [io]:=(k.trans aA (C:=[io]) (fun o U _=>U) (fun o U=>by cases U)).trans aT (fun o U _=>U) (fun o U bN=>by
   rcases List.mem_cons.1 U with rfl|U
   ·exact List.mem_cons_self
   ·have:=(bw.lt L U).2;omega)
  refine ba (i+1) n aQ gO (by omega) (by omega) oL ha ?_ (fun q=>by omega)
  have:(xs.take (i+1)).map kM=(xs.take i).map kM++ [kM xs[i]]:=by rw[←List.take_append_getElem aw,List.map_append];rfl
  rw[this]
  exact gh
def C5(q:k7):V:= .agg (e2 q.ch q.star (ee (q.items.map kL)) (ee (q.eH.map kN)) (ee (q.c1.map eN)) (ee (q.fh.map eN)) (ee (q.eV.map kM)) q.b7)
structure Nk(w D:Nat)(q:k7):Prop where
 m4:q.items.length≤w
 m5:q.eH.length≤w
 nz:q.c1.length≤w
 nA:q.fh.length≤w
 m6:q.eV.length≤w
 items:∀a,a∈q.items→fY w D a.e
 eH:∀a,a∈q.eH→fY w D a.on
 oP:∀x,x∈q.c1→fY w D x
 fh:∀x,x∈q.fh→fY w D x
 eV:∀a,a∈q.eV→fY w D a.e
theorem akK{j w D:Nat}(hw:w<j)(bV:w≤1000000000)(b_:D≤j){h:Lo}{q:k7}(W:Nk w D q){a b c d e:V}(t1:aC 9 eC dH h a q.items)(t2:aC 10 eM dH h b q.eH)(t3:aC 8 bL dH h c q.c1)(t4:aC 8 bL dH h d q.fh)(t5:aC 9 eS dH h e q.eV):
  aj (tn j q.ch q.star a b c d e q.b7 h) fun v aa=>ef true (fun o=>h.length≤o) aa v (C5 q)∧ai h aa []:=by
 have Hk:∀g,mj j c g=some (ee (q.c1.map eN),g):=fun g=>Ha hw bV b_ t3 W.nz (fun x au=>tp (W.oP x au)) g
 have Hl:∀g,mj j d g=some (ee (q.fh.map eN),g):=fun g=>Ha hw bV b_ t4 W.nA (fun x au=>tp (W.fh x au)) g
 have CM:=(kf (q.c1.map eN)).1
 have zy:=(kf (q.fh.map eN)).1
 generalize Nl:ee (q.c1.map eN)=dd at Hk CM
 generalize Nm:ee (q.fh.map eN)=dh at Hl zy
 simp only[tn]
 obtain⟨cF,R,aV,rfl,sp,ar⟩:=fO (h:=h) (cs:=e2 q.ch q.star a b c d e q.b7) (qc (aC.a8 t1).2 (aC.a8 t2).2 (aC.a8 t3).2 (aC.a8 t4).2 (aC.a8 t5).2)
 obtain⟨cW,ae,bb,rfl,e9,aA⟩:=hs (h:=R) (cs:=e2 false false .ab .ab .ab .ab .ab 0) rfl
 obtain⟨hW,aQ,cb,rfl,qY,aT⟩:=hs (h:=ae) (cs:=e2 false false .ab .ab .ab .ab .ab 0) rfl
 obtain⟨qF,bo,dI,zM,bu⟩:=qY.ic (aM:=e2 q.ch q.star .ab .ab dd dh .ab q.b7) rfl (by decide) (by simp only[List.all_cons,List.all_nil,CM,zy];rfl) (n:=8) rfl
 have c5:=sp.lt
 have ew:=e9.lt
 have i_:=qY.lt
 have akL:=ar.len
 have akM:=aA.len
 have s2:=sp.aq aA
 have eu:=s2.aq aT
 have fx:∀g,I (.build [.bool false, .bool false, .ab, .ab, .ab, .ab, .ab, .int .i64 0] [(0,(1,(.c (.bool q.ch)))),(1,(1,(.c (.bool q.star)))),(4,(1,(.c dd))),(5,(1,(.c dh))),(7,(1,(.c (.int .i64 q.b7))))]) g=some (.agg (e2 q.ch q.star .ab .ab dd dh .ab q.b7)):=by
  intro g;rw[←Nl,←Nm];cases q.c1.map eN<;>cases q.fh.map eN<;>rfl
 have un:∀{aK:Type} (K:Bool→Bool→V→V→V→V→V→Int→Option aK),aN tl (.agg (e2 q.ch q.star .ab .ab dd dh .ab q.b7)) K=K q.ch q.star .ab .ab dd dh .ab q.b7:=by
  intro aK K
  simp only[tl,aN,aZ,bn,bl,id_eq,bP,bq,a1,a0,a5]
 refine h6 aV ?_
 refine h6 bb ?_
 repeat (first
  |refine e_ (s2.af _ _ _) ?_
  |refine e_ (s2.ag rfl) ?_
  |refine ue ?_
  |refine oy ?_
  |refine jJ (s2.af _ _ _) ?_
  |refine jJ (s2.ag rfl) ?_
  |refine h6 (Hk _) ?_
  |refine h6 (Hl _) ?_)
 refine e_ (fx _) ?_
 refine EP (un _) ?_
 refine h6 cb ?_
 repeat (first
  |refine jJ (eu.af _ _ _) ?_
  |refine jJ (eu.ag rfl) ?_)
 refine h6 dI ?_
 refine jJ ?_ ?_
 ·repeat (first
   |refine ox (s2.af _ _ _) ?_
   |refine ox (s2.ag rfl) ?_
   |refine EO ?_
   |refine EN ?_
   |refine j3 (s2.af _ _ _) ?_
   |refine j3 (s2.ag rfl) ?_
   |refine nk (Hk _) ?_
   |refine nk cb ?_
   |refine nk (Hl _) ?_
   |refine j3 (eu.af _ _ _) ?_
   |refine j3 (eu.ag rfl) ?_)
  refine ox (fx _) ?_
  refine(un _).trans ?_
  exact nk dI rfl
 refine jJ ?_ ?_
 ·repeat (first
   |refine ox (s2.af _ _ _) ?_
   |refine ox (s2.ag rfl) ?_
   |refine EO ?_
   |refine EN ?_
   |refine j3 (s2.af _ _ _) ?_
   |refine j3 (s2.ag rfl) ?_
   |refine nk (Hk _) ?_
   |refine nk cb ?_
   |refine nk (Hl _) ?_
   |refine j3 (eu.af _ _ _) ?_
   |refine j3 (eu.ag rfl) ?_)
  refine ox (fx _) ?_
  refine(un _).trans ?_
  exact nk dI rfl
 have gM:ai h bo []:=((ar.bs aA).bs aT).trans bu (fun o U=>by cases U) (fun o U bN=>by simp at U;omega)
 have hx:=eu.aJ bu (fun z=>by have:=List.mem_singleton.1 z;omega)
 have uN:=(e9.aq aT).aJ bu (fun z=>by have:=List.mem_singleton.1 z;omega)
 have akN:=aT.len
 have akO:=bu.len
 simp only[hx.af,hx.ag (o:=0+2) (c:=a) rfl,(lC t1 gM).len,aO,a1]
 refine aj.bO (akE hw bV b_ (io:=ae.length) (by omega) (by omega) hx rfl (lC t1 gM) W.m4 W.items q.items.length 0 j bo .ab (by omega) (by have:=W.m4;omega) (ai.refl _ _) zM (bw.ab _ _ _ _) (fun _=>rfl)) ?_
 rintro x ak bI ⟨rfl,rfl,bX,it,Nn,n5⟩
 have kO:=hx.aJ bX (fun z=>by have:=List.mem_singleton.1 z;omega)
 have zB:=uN.aJ bX (fun z=>by have:=List.mem_singleton.1 z;omega)
 have iN:ai h bI []:=gM.trans bX (fun o U=>by cases U) (fun o U bN=>by simp at U;omega)
 have akP:=bX.len
 simp only[decide_true,aU,a5,kO.af,kO.ag (o:=0+3) (c:=b) rfl,(lC t2 iN).len,aO,a1]
 refine aj.bO (akG hw bV b_ (io:=ae.length) (by omega) (by omega) kO rfl (lC t2 iN) W.m5 W.eH q.eH.length 0 j bI .ab (by omega) (by have:=W.m5;omega) (ai.refl _ _) Nn (bw.ab _ _ _ _) (fun _=>rfl)) ?_
 rintro x ak cR ⟨rfl,rfl,cP,dm,No,C6⟩
 have qi:=kO.aJ cP (fun z=>by have:=List.mem_singleton.1 z;omega)
 have Np:=zB.aJ cP (fun z=>by have:=List.mem_singleton.1 z;omega)
 have ja:ai h cR []:=iN.trans cP (fun o U=>by cases U) (fun o U bN=>by simp at U;omega)
 have akQ:=cP.len
 simp only[decide_true,aU,a5,qi.af,qi.ag (o:=0+6) (c:=e) rfl,(lC t5 ja).len,aO,a1]
 refine aj.bO (akJ hw bV b_ (io:=ae.length) (by omega) (by omega) qi rfl (lC t5 ja) W.m6 W.eV q.eV.length 0 j cR .ab (by omega) (by have:=W.m6;omega) (ai.refl _ _) No (bw.ab _ _ _ _) (fun _=>rfl)) ?_
 rintro x ak eF ⟨rfl,rfl,dv,eV,akR,oN⟩
 have akS:=Np.aJ dv (fun z=>by have:=List.mem_singleton.1 z;omega)
 have mq:ai h eF []:=ja.trans dv (fun o U=>by cases U) (fun o U bN=>by simp at U;omega)
 have arY:=dv.len
 have et:I (.bp 8 (.c (.ptr ae.length 0 0))) eF=some (.agg (e2 q.ch q.star it dm dd dh eV q.b7)):=akR.e4 rfl
 have Nq:it.scalar=true∧dm.scalar=true∧eV.scalar=true:=⟨C3 n5,C3 C6,C3 oN⟩
 simp only[decide_true,aU,a5,et,aO,aN,aZ,bn,bl,id_eq,bP,bq,a1,bC,a0,a5]
 refine aj.ad (akS.ic (aM:=e2 q.ch q.star it dm dd dh eV q.b7) rfl (by decide) (qc Nq.1 Nq.2.1 CM zy Nq.2.2) (n:=8) rfl) ?_
 rintro u eR ⟨Nr,eJ⟩
 have CW:dS eR 8 (.ptr R.length 0 0)=some (.agg (e2 q.ch q.star it dm dd dh eV q.b7)):=Nr.bp
 rw[CW,aO]
 refine aj.some ⟨?_,mq.trans eJ (fun o U=>by cases U) (fun o U bN=>by simp at U;omega)⟩
 have dn:ef false (fun o=>h.length≤o) eR it (ee (q.items.map kL)):=bw.zS (bw.zS (bw.zS n5 cP (fun o U=>by simp at U;omega) (fun o q=>q)) dv (fun o U=>by simp at U;omega) (fun o q=>q)) eJ (fun o U=>by simp at U;omega) (fun o q=>by omega)
 have ej:ef false (fun o=>h.length≤o) eR dm (ee (q.eH.map kN)):=bw.zS (bw.zS C6 dv (fun o U=>by simp at U;omega) (fun o q=>q)) eJ (fun o U=>by simp at U;omega) (fun o q=>by omega)
 have fy:ef false (fun o=>h.length≤o) eR eV (ee (q.eV.map kM)):=bw.zS oN eJ (fun o U=>by simp at U;omega) (fun o q=>by omega)
 unfold C5
 rw[Nl,Nm]
 refine .agg rfl fun k z y aX aY=> ?_
 match k with
 |0|1|7=>injection aX with aX;injection aY with aY;subst aX;subst aY;exact .same rfl (.inr rfl)
 |2=>injection aX with aX;injection aY with aY;subst aX;subst aY;exact dn.up
 |3=>injection aX with aX;injection aY with aY;subst aX;subst aY;exact ej.up
 |4=>injection aX with aX;injection aY with aY;subst aX;subst aY;subst Nl;exact .same (xa _) (.inl rfl)
 |5=>injection aX with aX;injection aY with aY;subst aX;subst aY;subst Nm;exact .same (xa _) (.inl rfl)
 |6=>injection aX with aX;injection aY with aY;subst aX;subst aY;exact fy.up
 |k+8=>simp at aX
end
end Go.Proofs.YtjpjeilfmjdhcaaGreat.tk
namespace Go.Proofs.YtjpjeilfmjdhcaaGreat.Hm
open Go E eI fq fC f_ m3 tk
noncomputable def zR(j:Nat):Lv→Lo→OvL:=ow (tk.zR j)
theorem Ni(j:Nat):cq Tryz.prog 35 (zR j):=sR (tk.Ni j)
noncomputable def tn(j:Nat)(q:Bool)(aE:Bool)(aR:V)(bE:V)(bS:V)(dn:V)(ej:V)(fy:Int)(h:Lo):OvL:=zR j [.agg [.bool q, .bool aE,aR,bE,bS,dn,ej, .int .i64 fy]] h
theorem akT{j w D:Nat}(hw:w<j)(bV:w≤1000000000)(b_:D≤j){h:Lo}(gQ:iA h=true){q:k7}(W:Nk w D q){a b c d e:V}(t1:aC 9 eC dH h a q.items)(t2:aC 10 eM dH h b q.eH)(t3:aC 8 bL dH h c q.c1)(t4:aC 8 bL dH h d q.fh)(t5:aC 9 eS dH h e q.eV):
  tn j q.ch q.star a b c d e q.b7 h=some (C5 q,h):=by
 obtain⟨v,aa,aB,r,k⟩:=akK hw bV b_ W t1 t2 t3 t4 t5
 exact EM (W:=tk.zR j) (args:=[.agg [.bool q.ch, .bool q.star,a,b,c,d,e, .int .i64 q.b7]]) aB gQ (fun o U=>k.same o U (fun z=>by cases z)) r
end Go.Proofs.YtjpjeilfmjdhcaaGreat.Hm
