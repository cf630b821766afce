/- Functions of the program as Lean functions, and that each call comes to what its function says. Printed by my own tool. No condition. -/
import Derived.Test.YtjpjeilfmjdhcaaGreatProg
import Derived.Test.YtjpjeilfmjdhcaaGreatA3
import Derived.Test.YtjpjeilfmjdhcaaGreatA18
set_option maxRecDepth 100000
set_option linter.unusedVariables false
set_option linter.unusedSimpArgs false
set_option linter.unnecessarySimpa false
namespace Go.Proofs.YtjpjeilfmjdhcaaGreat.uV
open Go E E.K ep eI CY Hm
noncomputable section
abbrev r_:dO:= .agg [a4,a4,aD,aD,aD,aD,aD,aP]
abbrev Ns:dO:= .agg [aP,a3,aP,aP,a3,a3,a3,aD]
abbrev Vc:dO:= .agg [a3,aP,a3,aP,aP,a3,a3,a3,aD]
def Nt:=cE [(aP,[4,5,7,27,28,30,35,42,45,46,48,53,59,68]),(a3,[9,11,56]),(a4,[13,29,47]),(r_,[22,23]),(Ns,[62,63]),(Vc,[64])]
def fR(j:Nat):cd Tryz.prog:= .c (.c (.c .ao (Fz j)) (Ni j)) (Fv j (mL j j) (Fw j j))
def Hn(j:Nat)(self:V→V→Int→Int→Lo→a9)(s:V)(out:V)(tq:Int)(qT:Int)(h:Lo):a9:=
al (decide (qT<tq)) (
J (I (.af 6 (.c out)) h) fun a=>
J (I (.ag (.c a)) h) fun b=>
J (I (.af 6 (.c s)) h) fun f=>
J (I (.ag (.c f)) h) fun g=>
J (I (.cH 1 (.c g) (.c (.int .i64 qT))) h) fun i=>
J (I (.ag (.c i)) h) fun o=>
ad (mj j o h) fun k c=>
bk (I (.ag (.c a)) c=some b) (
bk (I (.af 6 (.c out)) c=some a) (
ad (aB (.dN 1 .ab 1 [(0,(.c k))]) c) fun l d=>
bk (I (.ag (.c a)) d=some b) (
bk (I (.af 6 (.c out)) d=some a) (
ad (aB (.app 1 24 (.c b) (.c l)) d) fun m e=>
J (I (.af 6 (.c out)) e) fun n=>
ad (aB (.store 1 (.c n) (.c m)) e) fun q p=>
self s out tq (IntKind.i64.wrap (qT+(1))) p))))) (
some ((.exit 0),[],h))
def zT(j:Nat):Nat→V→V→Int→Int→Lo→a9
 |0=>fun _ _ _ _ _=>none
 |n+1=>Hn j (zT j n)
def akU(j:Nat):cz Tryz.prog:= .loop Nt (fR j) [] (cT Tryz.prog Tryz.f8 [1,1,0,1,0,0] []) [aD,aD,aP,aP] [1,3,27,28] [((.exit 0),[],[])] (Hn j) (zT j) (fun _ _ _ _ _=>rfl) (fun _=>rfl) (fun _ _ _ _ _ _=>by kernel_rfl) j
def Ho(j:Nat)(self:V→V→Int→Int→Lo→a9)(s:V)(out:V)(sV:Int)(mJ:Int)(h:Lo):a9:=
al (decide (mJ<sV)) (
J (I (.af 7 (.c out)) h) fun b=>
J (I (.ag (.c b)) h) fun c=>
J (I (.af 7 (.c s)) h) fun d=>
J (I (.ag (.c d)) h) fun e=>
J (I (.cH 9 (.c e) (.c (.int .i64 mJ))) h) fun f=>
J (I (.af 0 (.c f)) h) fun g=>
J (I (.ag (.c g)) h) fun l=>
b1 l fun o=>
J (I (.af 7 (.c s)) h) fun m=>
J (I (.ag (.c m)) h) fun n=>
J (I (.cH 9 (.c n) (.c (.int .i64 mJ))) h) fun p=>
J (I (.af 1 (.c p)) h) fun q=>
J (I (.bp 8 (.c q)) h) fun r=>
aN Ns r fun t u v w x y z bQ=>
ad (rO j (mL j j) t u v w x y z bQ h) fun bZ a=>
aN Ns bZ fun ac b2 b9 cn cr cB cL cM=>
bk (I (.ag (.c g)) a=some (.str o)) (
bk (I (.af 0 (.c f)) a=some g) (
bk (I (.cH 9 (.c e) (.c (.int .i64 mJ))) a=some f) (
bk (I (.ag (.c d)) a=some e) (
bk (I (.af 7 (.c s)) a=some d) (
bk (I (.ag (.c b)) a=some c) (
bk (I (.af 7 (.c out)) a=some b) (
J (I (.build [(.str []), .int .i64 0,(.str []), .int .i64 0, .int .i64 0,(.str []),(.str []),(.str []), .ab] [(0,(1,(.c (.str o)))),(1,(8,(.c (.agg [.int .i64 ac, .str b2, .int .i64 b9, .int .i64 cn, .str cr, .str cB, .str cL,cM]))))]) a) fun cO=>
aN Vc cO fun am cV ap c3 c8 c9 dc c4 dD=>
ad (aB (.dN 9 (.agg [(.str []), .int .i64 0,(.str []), .int .i64 0, .int .i64 0,(.str []),(.str []),(.str []), .ab]) 1 [(0,(.c (.agg [.str am, .int .i64 cV, .str ap, .int .i64 c3, .int .i64 c8, .str c9, .str dc, .str c4,dD])))]) a) fun dk i=>
bk (I (.ag (.c b)) i=some c) (
bk (I (.af 7 (.c out)) i=some b) (
ad (aB (.app 9 128 (.c c) (.c dk)) i) fun dP k=>
J (I (.af 7 (.c out)) k) fun d_=>
ad (aB (.store 1 (.c d_) (.c dP)) k) fun ey dV=>
self s out sV (IntKind.i64.wrap (mJ+(1))) dV)))))))))) (
some ((.exit 2),[],h))
def zU(j:Nat):Nat→V→V→Int→Int→Lo→a9
 |0=>fun _ _ _ _ _=>none
 |n+1=>Ho j (zU j n)
def akV(j:Nat):cz Tryz.prog:= .loop Nt (fR j) [] (cT Tryz.prog Tryz.f8 [1,1,1,0,1,0,0] []) [aD,aD,aP,aP] [1,3,45,46] [((.exit 2),[],[])] (Ho j) (zU j) (fun _ _ _ _ _=>rfl) (fun _=>rfl) (fun _ _ _ _ _ _=>by kernel_rfl) j
def sa(j:Nat)(s:V)(h:Lo):OvL:=
ad (aB (.box false (.c s)) h) fun a ph=>
ad (aB (.alloc false (.agg [.int .i64 0,(.str []),(.str []), .bool false, .ab, .ab, .ab, .ab, .ab, .bool false, .bool false, .ab, .ab, .ab, .ab, .ab, .int .i64 0])) ph) fun cs b=>
J (I (.af 0 (.c a)) b) fun y=>
J (I (.ag (.c y)) b) fun ud=>
bt .i64 ud fun ap=>
J (I (.af 1 (.c a)) b) fun z=>
J (I (.ag (.c z)) b) fun yK=>
b1 yK fun c3=>
J (I (.af 2 (.c a)) b) fun bQ=>
J (I (.ag (.c bQ)) b) fun yL=>
b1 yL fun c8=>
J (I (.af 3 (.c a)) b) fun bZ=>
J (I (.ag (.c bZ)) b) fun yM=>
bG yM fun c9=>
J (I (.af 4 (.c a)) b) fun ac=>
J (I (.ag (.c ac)) b) fun dc=>
J (I (.af 5 (.c a)) b) fun b2=>
J (I (.ag (.c b2)) b) fun c4=>
J (I (.af 8 (.c a)) b) fun iD=>
J (I (.ag (.c iD)) b) fun eB=>
J (I (.af 9 (.c a)) b) fun d_=>
J (I (.bp 8 (.c d_)) b) fun yN=>
aN r_ yN fun hZ hJ fu iB iC bv iM iZ=>
ad (mj j eB b) fun gE m=>
bk (I (.bp 8 (.c d_)) m=some (.agg [.bool hZ, .bool hJ,fu,iB,iC,bv,iM, .int .i64 iZ])) (
bk (I (.af 9 (.c a)) m=some d_) (
bk (I (.ag (.c b2)) m=some c4) (
bk (I (.af 5 (.c a)) m=some b2) (
bk (I (.ag (.c ac)) m=some dc) (
bk (I (.af 4 (.c a)) m=some ac) (
bk (I (.ag (.c bZ)) m=some (.bool c9)) (
bk (I (.af 3 (.c a)) m=some bZ) (
bk (I (.ag (.c bQ)) m=some (.str c8)) (
bk (I (.af 2 (.c a)) m=some bQ) (
bk (I (.ag (.c z)) m=some (.str c3)) (
bk (I (.af 1 (.c a)) m=some z) (
bk (I (.ag (.c y)) m=some (.int .i64 ap)) (
bk (I (.af 0 (.c a)) m=some y) (
ad (tn j hZ hJ fu iB iC bv iM iZ m) fun B6 n=>
aN r_ B6 fun ky gf ce k0 lU ci lV mM=>
bk (I (.ag (.c b2)) n=some c4) (
bk (I (.af 5 (.c a)) n=some b2) (
bk (I (.ag (.c ac)) n=some dc) (
bk (I (.af 4 (.c a)) n=some ac) (
bk (I (.ag (.c bZ)) n=some (.bool c9)) (
bk (I (.af 3 (.c a)) n=some bZ) (
bk (I (.ag (.c bQ)) n=some (.str c8)) (
bk (I (.af 2 (.c a)) n=some bQ) (
bk (I (.ag (.c z)) n=some (.str c3)) (
bk (I (.af 1 (.c a)) n=some z) (
bk (I (.ag (.c y)) n=some (.int .i64 ap)) (
bk (I (.af 0 (.c a)) n=some y) (
J (I (.build [.int .i64 0,(.str []),(.str []), .bool false, .ab, .ab, .ab, .ab, .ab, .bool false, .bool false, .ab, .ab, .ab, .ab, .ab, .int .i64 0] [(0,(1,(.c (.int .i64 ap)))),(1,(1,(.c (.str c3)))),(2,(1,(.c (.str c8)))),(3,(1,(.c (.bool c9)))),(4,(1,(.c dc))),(5,(1,(.c c4))),(8,(1,(.c gE))),(9,(8,(.c (.agg [.bool ky, .bool gf,ce,k0,lU,ci,lV, .int .i64 mM]))))]) n) fun c7=>
ad (aB (.alloc false (.agg [.int .i64 0,(.str []),(.str []), .bool false, .ab, .ab, .ab, .ab, .ab, .bool false, .bool false, .ab, .ab, .ab, .ab, .ab, .int .i64 0])) n) fun dD p=>
bk (I (.ag (.c b2)) p=some c4) (
bk (I (.af 5 (.c a)) p=some b2) (
bk (I (.ag (.c ac)) p=some dc) (
bk (I (.af 4 (.c a)) p=some ac) (
bk (I (.ag (.c bZ)) p=some (.bool c9)) (
bk (I (.af 3 (.c a)) p=some bZ) (
bk (I (.ag (.c bQ)) p=some (.str c8)) (
bk (I (.af 2 (.c a)) p=some bQ) (
bk (I (.ag (.c z)) p=some (.str c3)) (
bk (I (.af 1 (.c a)) p=some z) (
bk (I (.ag (.c y)) p=some (.int .i64 ap)) (
bk (I (.af 0 (.c a)) p=some y) (
ad (aB (.store 17 (.c dD) (.c c7)) p) fun Sf dk=>
bk ((
J (I (.af 0 (.c a)) b) fun f=>
J (I (.ag (.c f)) b) fun dV=>
bt .i64 dV fun r=>
J (I (.af 1 (.c a)) b) fun g=>
J (I (.ag (.c g)) b) fun ey=>
b1 ey fun t=>
J (I (.af 2 (.c a)) b) fun i=>
J (I (.ag (.c i)) b) fun mN=>
b1 mN fun u=>
J (I (.af 3 (.c a)) b) fun o=>
J (I (.ag (.c o)) b) fun mO=>
bG mO fun v=>
J (I (.af 4 (.c a)) b) fun k=>
J (I (.ag (.c k)) b) fun w=>
J (I (.af 5 (.c a)) b) fun l=>
J (I (.ag (.c l)) b) fun x=>
J (I (.af 8 (.c a)) b) fun cV=>
J (I (.ag (.c cV)) b) fun dP=>
J (I (.af 9 (.c a)) b) fun q=>
J (I (.bp 8 (.c q)) b) fun mP=>
aN r_ mP fun b9 cn cr cB cL cM cO am=>
ad (mj j dP b) fun eX c=>
bk (I (.bp 8 (.c q)) c=some (.agg [.bool b9, .bool cn,cr,cB,cL,cM,cO, .int .i64 am])) (
bk (I (.af 9 (.c a)) c=some q) (
bk (I (.ag (.c l)) c=some x) (
bk (I (.af 5 (.c a)) c=some l) (
bk (I (.ag (.c k)) c=some w) (
bk (I (.af 4 (.c a)) c=some k) (
bk (I (.ag (.c o)) c=some (.bool v)) (
bk (I (.af 3 (.c a)) c=some o) (
bk (I (.ag (.c i)) c=some (.str u)) (
bk (I (.af 2 (.c a)) c=some i) (
bk (I (.ag (.c g)) c=some (.str t)) (
bk (I (.af 1 (.c a)) c=some g) (
bk (I (.ag (.c f)) c=some (.int .i64 r)) (
bk (I (.af 0 (.c a)) c=some f) (
ad (aB (.alloc false (.agg [.int .i64 0,(.str []),(.str []), .bool false, .ab, .ab, .ab, .ab, .ab, .bool false, .bool false, .ab, .ab, .ab, .ab, .ab, .int .i64 0])) c) fun be d=>
bk (I (.bp 8 (.c q)) d=some (.agg [.bool b9, .bool cn,cr,cB,cL,cM,cO, .int .i64 am])) (
bk (I (.af 9 (.c a)) d=some q) (
bk (I (.ag (.c l)) d=some x) (
bk (I (.af 5 (.c a)) d=some l) (
bk (I (.ag (.c k)) d=some w) (
bk (I (.af 4 (.c a)) d=some k) (
bk (I (.ag (.c o)) d=some (.bool v)) (
bk (I (.af 3 (.c a)) d=some o) (
bk (I (.ag (.c i)) d=some (.str u)) (
bk (I (.af 2 (.c a)) d=some i) (
bk (I (.ag (.c g)) d=some (.str t)) (
bk (I (.af 1 (.c a)) d=some g) (
bk (I (.ag (.c f)) d=some (.int .i64 r)) (
bk (I (.af 0 (.c a)) d=some f) (
ad (tn j b9 cn cr cB cL cM cO am d) fun mQ e=>
aN r_ mQ fun e5 ec bi fE fG fk eD gL=>
bk (I (.ag (.c l)) e=some x) (
bk (I (.af 5 (.c a)) e=some l) (
bk (I (.ag (.c k)) e=some w) (
bk (I (.af 4 (.c a)) e=some k) (
bk (I (.ag (.c o)) e=some (.bool v)) (
bk (I (.af 3 (.c a)) e=some o) (
bk (I (.ag (.c i)) e=some (.str u)) (
bk (I (.af 2 (.c a)) e=some i) (
bk (I (.ag (.c g)) e=some (.str t)) (
bk (I (.af 1 (.c a)) e=some g) (
bk (I (.ag (.c f)) e=some (.int .i64 r)) (
bk (I (.af 0 (.c a)) e=some f) (
J (I (.build [.int .i64 0,(.str []),(.str []), .bool false, .ab, .ab, .ab, .ab, .ab, .bool false, .bool false, .ab, .ab, .ab, .ab, .ab, .int .i64 0] [(0,(1,(.c (.int .i64 r)))),(1,(1,(.c (.str t)))),(2,(1,(.c (.str u)))),(3,(1,(.c (.bool v)))),(4,(1,(.c w))),(5,(1,(.c x))),(8,(1,(.c eX))),(9,(8,(.c (.agg [.bool e5, .bool ec,bi,fE,fG,fk,eD, .int .i64 gL]))))]) e) fun hh=>
ad (aB (.store 17 (.c be) (.c hh)) e) fun nU mR=>
some ([f, .int .i64 r,g, .str t,i, .str u,o, .bool v,k,w,l,x,cV,dP,q,(.agg [.bool b9, .bool cn,cr,cB,cL,cM,cO, .int .i64 am]),eX,(.agg [.bool e5, .bool ec,bi,fE,fG,fk,eD, .int .i64 gL]),hh,be],mR))))))))))))))))))))))))))))))))))))))))):Option (Lv × Lo))=some ([y, .int .i64 ap,z, .str c3,bQ, .str c8,bZ, .bool c9,ac,dc,b2,c4,iD,eB,d_,(.agg [.bool hZ, .bool hJ,fu,iB,iC,bv,iM, .int .i64 iZ]),gE,(.agg [.bool ky, .bool gf,ce,k0,lU,ci,lV, .int .i64 mM]),c7,dD],dk)) (
bk ((
J (I (.af 0 (.c a)) b) fun f=>
J (I (.ag (.c f)) b) fun dV=>
bt .i64 dV fun r=>
J (I (.af 1 (.c a)) b) fun g=>
J (I (.ag (.c g)) b) fun ey=>
b1 ey fun t=>
J (I (.af 2 (.c a)) b) fun i=>
J (I (.ag (.c i)) b) fun mN=>
b1 mN fun u=>
J (I (.af 3 (.c a)) b) fun o=>
J (I (.ag (.c o)) b) fun mO=>
bG mO fun v=>
J (I (.af 4 (.c a)) b) fun k=>
J (I (.ag (.c k)) b) fun w=>
J (I (.af 5 (.c a)) b) fun l=>
J (I (.ag (.c l)) b) fun x=>
J (I (.af 8 (.c a)) b) fun cV=>
J (I (.ag (.c cV)) b) fun dP=>
J (I (.af 9 (.c a)) b) fun q=>
J (I (.bp 8 (.c q)) b) fun mP=>
aN r_ mP fun b9 cn cr cB cL cM cO am=>
ad (aB (.alloc false (.agg [.int .i64 0,(.str []),(.str []), .bool false, .ab, .ab, .ab, .ab, .ab, .bool false, .bool false, .ab, .ab, .ab, .ab, .ab, .int .i64 0])) b) fun be c=>
bk (I (.bp 8 (.c q)) c=some (.agg [.bool b9, .bool cn,cr,cB,cL,cM,cO, .int .i64 am])) (
bk (I (.af 9 (.c a)) c=some q) (
bk (I (.ag (.c cV)) c=some dP) (
bk (I (.af 8 (.c a)) c=some cV) (
bk (I (.ag (.c l)) c=some x) (
bk (I (.af 5 (.c a)) c=some l) (
bk (I (.ag (.c k)) c=some w) (
bk (I (.af 4 (.c a)) c=some k) (
bk (I (.ag (.c o)) c=some (.bool v)) (
bk (I (.af 3 (.c a)) c=some o) (
bk (I (.ag (.c i)) c=some (.str u)) (
bk (I (.af 2 (.c a)) c=some i) (
bk (I (.ag (.c g)) c=some (.str t)) (
bk (I (.af 1 (.c a)) c=some g) (
bk (I (.ag (.c f)) c=some (.int .i64 r)) (
bk (I (.af 0 (.c a)) c=some f) (
ad (mj j dP c) fun eX d=>
bk (I (.bp 8 (.c q)) d=some (.agg [.bool b9, .bool cn,cr,cB,cL,cM,cO, .int .i64 am])) (
bk (I (.af 9 (.c a)) d=some q) (
bk (I (.ag (.c l)) d=some x) (
bk (I (.af 5 (.c a)) d=some l) (
bk (I (.ag (.c k)) d=some w) (
bk (I (.af 4 (.c a)) d=some k) (
bk (I (.ag (.c o)) d=some (.bool v)) (
bk (I (.af 3 (.c a)) d=some o) (
bk (I (.ag (.c i)) d=some (.str u)) (
bk (I (.af 2 (.c a)) d=some i) (
bk (I (.ag (.c g)) d=some (.str t)) (
bk (I (.af 1 (.c a)) d=some g) (
bk (I (.ag (.c f)) d=some (.int .i64 r)) (
bk (I (.af 0 (.c a)) d=some f) (
ad (tn j b9 cn cr cB cL cM cO am d) fun mQ e=>
aN r_ mQ fun e5 ec bi fE fG fk eD gL=>
bk (I (.ag (.c l)) e=some x) (
bk (I (.af 5 (.c a)) e=some l) (
bk (I (.ag (.c k)) e=some w) (
bk (I (.af 4 (.c a)) e=some k) (
bk (I (.ag (.c o)) e=some (.bool v)) (
bk (I (.af 3 (.c a)) e=some o) (
bk (I (.ag (.c i)) e=some (.str u)) (
bk (I (.af 2 (.c a)) e=some i) (
bk (I (.ag (.c g)) e=some (.str t)) (
bk (I (.af 1 (.c a)) e=some g) (
bk (I (.ag (.c f)) e=some (.int .i64 r)) (
bk (I (.af 0 (.c a)) e=some f) (
J (I (.build [.int .i64 0,(.str []),(.str []), .bool false, .ab, .ab, .ab, .ab, .ab, .bool false, .bool false, .ab, .ab, .ab, .ab, .ab, .int .i64 0] [(0,(1,(.c (.int .i64 r)))),(1,(1,(.c (.str t)))),(2,(1,(.c (.str u)))),(3,(1,(.c (.bool v)))),(4,(1,(.c w))),(5,(1,(.c x))),(8,(1,(.c eX))),(9,(8,(.c (.agg [.bool e5, .bool ec,bi,fE,fG,fk,eD, .int .i64 gL]))))]) e) fun hh=>
ad (aB (.store 17 (.c be) (.c hh)) e) fun nU mR=>
some ([f, .int .i64 r,g, .str t,i, .str u,o, .bool v,k,w,l,x,cV,dP,q,(.agg [.bool b9, .bool cn,cr,cB,cL,cM,cO, .int .i64 am]),eX,(.agg [.bool e5, .bool ec,bi,fE,fG,fk,eD, .int .i64 gL]),hh,be],mR))))))))))))))))))))))))))))))))))))))))))):Option (Lv × Lo))=some ([y, .int .i64 ap,z, .str c3,bQ, .str c8,bZ, .bool c9,ac,dc,b2,c4,iD,eB,d_,(.agg [.bool hZ, .bool hJ,fu,iB,iC,bv,iM, .int .i64 iZ]),gE,(.agg [.bool ky, .bool gf,ce,k0,lU,ci,lV, .int .i64 mM]),c7,dD],dk)) (
J (I (.af 6 (.c a)) dk) fun dU=>
J (I (.ag (.c dU)) dk) fun b4=>
J (I (.cm (.c b4)) dk) fun dV=>
bt .i64 dV fun FJ=>
bO (zT j j a dD FJ (0) dk) fun FK FL c=>
al (decide (FK=(.exit 0))) (
dT FL (
J (I (.af 7 (.c a)) c) fun jL=>
J (I (.ag (.c jL)) c) fun FM=>
J (I (.cm (.c FM)) c) fun ey=>
bt .i64 ey fun LV=>
bO (zU j j a dD LV (0) c) fun dl LW d=>
al (decide (dl=(.exit 2))) (
dT LW (
J (I (.bp 17 (.c dD)) d) fun nj=>
ad (aB (.store 17 (.c cs) (.c nj)) d) fun nU e=>
J (dS e 17 cs) fun yO=>
some (yO,e))) (
none))) (
none)))))))))))))))))))))))))))))))))))))))))
def zV(j:Nat):Lv→Lo→OvL:=cv [aD] (sa j)
theorem Nu(j:Nat):cq Tryz.prog 8 (zV j):=cG Nt (fR j) [akU j,akV j] [([1,1,0,1,0],0),([1,1,1,0,1,0],1)] [aD] _ Tryz.func8 (by kernel_rfl) (by kernel_rfl) (by kernel_rfl) (fun _ _=>by kernel_rfl)
end
end Go.Proofs.YtjpjeilfmjdhcaaGreat.uV
