/- Whether two lists are alike: the loops. Printed by my own tool. No condition. -/
import Derived.Test.YtjpjeilfmjdhcaaGreatA23
set_option maxRecDepth 100000
set_option linter.unusedVariables false
set_option linter.unusedSimpArgs false
set_option linter.unnecessarySimpa false
namespace Go.Proofs.YtjpjeilfmjdhcaaGreat.h3
open Go E ep eI fq fw fC f_ hE
theorem anS(j:Nat){ay:bK}{eq:V}{av bx:Nat→Prop}{aI:Lo}{a b:V}{xs a_:List X}{q:X→X→Bool}(g2:aC 8 bL av aI a xs)(g3:aC 8 bL bx aI b a_)(ax:xs.length≤1000000000000)(bT:a_.length=xs.length)
  (hm:∀(h:Lo) (cJ eO:V) (x y:X),x∈xs→bL.aK av h cJ x→bL.aK bx h eO y→aj (ay eq [cJ,eO] h) fun v aa=>v= .bool (q x y)∧ai h aa []):
  ∀(m i f:Nat) (h:Lo),xs.length=i+m→m<f→ai aI h []→aL (rI j ay f b eq a xs.length i h) fun x ak aa=>ai aI aa []∧if g1 q xs a_ i=true then x= .exit 0∧ak=[] else x= .ret∧ak=[.bool false]:=by
 intro m
 induction m with
 |zero=>
  intro i f h l_ aS k
  obtain⟨f,rfl⟩:∃g,f=g+1:=⟨f-1,by omega⟩
  have bj:decide ((i:Int)<(xs.length:Int))=false:=decide_eq_false (by omega)
  simp only[rI,yt,bj,a7]
  refine aL.some ⟨k, ?_⟩
  rw[if_pos (u1 (by omega))]
  exact⟨rfl,rfl⟩
 |succ m ba=>
  intro i f h l_ aS k
  obtain⟨f,rfl⟩:∃g,f=g+1:=⟨f-1,by omega⟩
  have aw:i<xs.length:=by omega
  have U:i<a_.length:=by omega
  have bj:decide ((i:Int)<(xs.length:Int))=true:=decide_eq_true (by omega)
  have hw:IntKind.i64.wrap ((i:Int)+1)=((i+1:Nat):Int):=by rw[wrap_i64 (by omega) (by omega)];simp
  obtain⟨es,dR,gP,-,lW⟩:=g2.aq k
  obtain⟨e,aV,t⟩:=lW i aw
  obtain⟨n,aG,ah,au,rfl,cp⟩:=id t
  obtain⟨p,cF,cW⟩:=dR.kn (k:=(i:Int)) (cs:=bH n aG) (by omega) (by simpa using aV) rfl (by decide)
  simp only[rI,yt,bj,aU,cF,cW,aO,aN,aZ,bn,bl,id_eq,bP,bq,a1,bC,a0,a5]
  refine oS (n:=8) (fU:=gT) (aM:=bH n aG) rfl rfl rfl (by decide) (by simp only[List.all_cons,List.all_nil,gU cp];rfl) fun R s1 ar=> ?_
  obtain⟨cc,e9,kj,-,fx⟩:=g3.aq (k.bs ar)
  obtain⟨g,aX,bR⟩:=fx i U
  obtain⟨gk,mY,n1,zJ,rfl,du⟩:=id bR
  obtain⟨r,fD,bf⟩:=e9.kn (k:=(i:Int)) (cs:=bH gk mY) (by omega) (by simpa using aX) rfl (by decide)
  simp only[fD,bf,aO,aN,aZ,bn,bl,id_eq,bP,bq,a1,bC,a0,a5]
  refine oS (n:=8) (fU:=gT) (aM:=bH gk mY) rfl rfl rfl (by decide) (by simp only[List.all_cons,List.all_nil,gU du];rfl) fun ae s2 aA=> ?_
  simp only[(s1.aq aA).e4 (n:=8) rfl,s2.e4 (n:=8) rfl,aO,aN,aZ,bn,bl,id_eq,bP,bq,a1,bC,a0,a5]
  refine aL.ad (hm ae _ _ xs[i] a_[i] (List.getElem_mem aw) (lb (lb t ar) aA) (lb bR aA)) ?_
  rintro v aQ ⟨rfl,aT⟩
  have eA:=((k.bs ar).bs aA).bs aT
  rw[u0 aw U]
  cases bm:q xs[i] a_[i] with
  |false=>
   simp only[a0,Bool.not_false,aU,Bool.false_and,Bool.false_eq_true,if_false]
   exact aL.some ⟨eA,rfl,rfl⟩
  |true=>
   simp only[a0,Bool.not_true,a7,hw,Bool.true_and]
   exact ba (i+1) f aQ (by omega) (by omega) eA
theorem anT(j:Nat){ay:bK}{eq:V}{av bx:Nat→Prop}{aI:Lo}{a b:V}{xs a_:List ij}{q:ij→ij→Bool}(g2:aC 9 eC av aI a xs)(g3:aC 9 eC bx aI b a_)(ax:xs.length≤1000000000000)(bT:a_.length=xs.length)
  (hm:∀(h:Lo) (cJ eO:V) (x y:ij),x∈xs→eC.aK av h cJ x→eC.aK bx h eO y→aj (ay eq [cJ,eO] h) fun v aa=>v= .bool (q x y)∧ai h aa []):
  ∀(m i f:Nat) (h:Lo),xs.length=i+m→m<f→ai aI h []→aL (z1 j ay f b eq a xs.length i h) fun x ak aa=>ai aI aa []∧if g1 q xs a_ i=true then x= .exit 0∧ak=[] else x= .ret∧ak=[.bool false]:=by
 intro m
 induction m with
 |zero=>
  intro i f h l_ aS k
  obtain⟨f,rfl⟩:∃g,f=g+1:=⟨f-1,by omega⟩
  have bj:decide ((i:Int)<(xs.length:Int))=false:=decide_eq_false (by omega)
  simp only[z1,HD,bj,a7]
  refine aL.some ⟨k, ?_⟩
  rw[if_pos (u1 (by omega))]
  exact⟨rfl,rfl⟩
 |succ m ba=>
  intro i f h l_ aS k
  obtain⟨f,rfl⟩:∃g,f=g+1:=⟨f-1,by omega⟩
  have aw:i<xs.length:=by omega
  have U:i<a_.length:=by omega
  have bj:decide ((i:Int)<(xs.length:Int))=true:=decide_eq_true (by omega)
  have hw:IntKind.i64.wrap ((i:Int)+1)=((i+1:Nat):Int):=by rw[wrap_i64 (by omega) (by omega)];simp
  obtain⟨es,dR,gP,-,lW⟩:=g2.aq k
  obtain⟨e,aV,t⟩:=lW i aw
  obtain⟨n,aG,ah,au,rfl,cp⟩:=id t
  obtain⟨p,cF,cW⟩:=dR.kn (k:=(i:Int)) (cs:=fT n aG (.str xs[i].n)) (by omega) (by simpa using aV) rfl (by decide)
  simp only[z1,HD,bj,aU,cF,cW,aO,aN,aZ,bn,bl,id_eq,bP,bq,a1,bC,a0,a5]
  refine oS (n:=9) (fU:=(fT hQ .ab (.str []))) (aM:=fT n aG (.str xs[i].n)) rfl rfl rfl (by decide) (by simp only[List.all_cons,List.all_nil,gU cp];rfl) fun R s1 ar=> ?_
  obtain⟨cc,e9,kj,-,fx⟩:=g3.aq (k.bs ar)
  obtain⟨g,aX,bR⟩:=fx i U
  obtain⟨gk,mY,n1,zJ,rfl,du⟩:=id bR
  obtain⟨r,fD,bf⟩:=e9.kn (k:=(i:Int)) (cs:=fT gk mY (.str a_[i].n)) (by omega) (by simpa using aX) rfl (by decide)
  simp only[fD,bf,aO,aN,aZ,bn,bl,id_eq,bP,bq,a1,bC,a0,a5]
  refine oS (n:=9) (fU:=(fT hQ .ab (.str []))) (aM:=fT gk mY (.str a_[i].n)) rfl rfl rfl (by decide) (by simp only[List.all_cons,List.all_nil,gU du];rfl) fun ae s2 aA=> ?_
  simp only[(s1.aq aA).e4 (n:=9) rfl,s2.e4 (n:=9) rfl,aO,aN,aZ,bn,bl,id_eq,bP,bq,a1,bC,a0,a5]
  refine aL.ad (hm ae _ _ xs[i] a_[i] (List.getElem_mem aw) (lb (lb t ar) aA) (lb bR aA)) ?_
  rintro v aQ ⟨rfl,aT⟩
  have eA:=((k.bs ar).bs aA).bs aT
  rw[u0 aw U]
  cases bm:q xs[i] a_[i] with
  |false=>
   simp only[a0,Bool.not_false,aU,Bool.false_and,Bool.false_eq_true,if_false]
   exact aL.some ⟨eA,rfl,rfl⟩
  |true=>
   simp only[a0,Bool.not_true,a7,hw,Bool.true_and]
   exact ba (i+1) f aQ (by omega) (by omega) eA
theorem anU(j:Nat){ay:bK}{eq:V}{av bx:Nat→Prop}{aI:Lo}{a b:V}{xs a_:List hB}{q:hB→hB→Bool}(g2:aC 10 eM av aI a xs)(g3:aC 10 eM bx aI b a_)(ax:xs.length≤1000000000000)(bT:a_.length=xs.length)
  (hm:∀(h:Lo) (cJ eO:V) (x y:hB),x∈xs→eM.aK av h cJ x→eM.aK bx h eO y→aj (ay eq [cJ,eO] h) fun v aa=>v= .bool (q x y)∧ai h aa []):
  ∀(m i f:Nat) (h:Lo),xs.length=i+m→m<f→ai aI h []→aL (z2 j ay f b eq a xs.length i h) fun x ak aa=>ai aI aa []∧if g1 q xs a_ i=true then x= .exit 0∧ak=[] else x= .ret∧ak=[.bool false]:=by
 intro m
 induction m with
 |zero=>
  intro i f h l_ aS k
  obtain⟨f,rfl⟩:∃g,f=g+1:=⟨f-1,by omega⟩
  have bj:decide ((i:Int)<(xs.length:Int))=false:=decide_eq_false (by omega)
  simp only[z2,HG,bj,a7]
  refine aL.some ⟨k, ?_⟩
  rw[if_pos (u1 (by omega))]
  exact⟨rfl,rfl⟩
 |succ m ba=>
  intro i f h l_ aS k
  obtain⟨f,rfl⟩:∃g,f=g+1:=⟨f-1,by omega⟩
  have aw:i<xs.length:=by omega
  have U:i<a_.length:=by omega
  have bj:decide ((i:Int)<(xs.length:Int))=true:=decide_eq_true (by omega)
  have hw:IntKind.i64.wrap ((i:Int)+1)=((i+1:Nat):Int):=by rw[wrap_i64 (by omega) (by omega)];simp
  obtain⟨es,dR,gP,-,lW⟩:=g2.aq k
  obtain⟨e,aV,t⟩:=lW i aw
  obtain⟨n,aG,ah,au,rfl,cp⟩:=id t
  obtain⟨p,cF,cW⟩:=dR.kn (k:=(i:Int)) (cs:=h8 xs[i].t xs[i].n n aG) (by omega) (by simpa using aV) rfl (by decide)
  simp only[z2,HG,bj,aU,cF,cW,aO,aN,aZ,bn,bl,id_eq,bP,bq,a1,bC,a0,a5]
  refine oS (n:=10) (fU:=(h8 [] [] hQ .ab)) (aM:=h8 xs[i].t xs[i].n n aG) rfl rfl rfl (by decide) (by simp only[List.all_cons,List.all_nil,gU cp];rfl) fun R s1 ar=> ?_
  obtain⟨cc,e9,kj,-,fx⟩:=g3.aq (k.bs ar)
  obtain⟨g,aX,bR⟩:=fx i U
  obtain⟨gk,mY,n1,zJ,rfl,du⟩:=id bR
  obtain⟨r,fD,bf⟩:=e9.kn (k:=(i:Int)) (cs:=h8 a_[i].t a_[i].n gk mY) (by omega) (by simpa using aX) rfl (by decide)
  simp only[fD,bf,aO,aN,aZ,bn,bl,id_eq,bP,bq,a1,bC,a0,a5]
  refine oS (n:=10) (fU:=(h8 [] [] hQ .ab)) (aM:=h8 a_[i].t a_[i].n gk mY) rfl rfl rfl (by decide) (by simp only[List.all_cons,List.all_nil,gU du];rfl) fun ae s2 aA=> ?_
  simp only[(s1.aq aA).e4 (n:=10) rfl,s2.e4 (n:=10) rfl,aO,aN,aZ,bn,bl,id_eq,bP,bq,a1,bC,a0,a5]
  refine aL.ad (hm ae _ _ xs[i] a_[i] (List.getElem_mem aw) (lb (lb t ar) aA) (lb bR aA)) ?_
  rintro v aQ ⟨rfl,aT⟩
  have eA:=((k.bs ar).bs aA).bs aT
  rw[u0 aw U]
  cases bm:q xs[i] a_[i] with
  |false=>
   simp only[a0,Bool.not_false,aU,Bool.false_and,Bool.false_eq_true,if_false]
   exact aL.some ⟨eA,rfl,rfl⟩
  |true=>
   simp only[a0,Bool.not_true,a7,hw,Bool.true_and]
   exact ba (i+1) f aQ (by omega) (by omega) eA
theorem anV(j:Nat){ay:bK}{eq:V}{av bx:Nat→Prop}{aI:Lo}{a b:V}{xs a_:List iH}{q:iH→iH→Bool}(g2:aC 9 eS av aI a xs)(g3:aC 9 eS bx aI b a_)(ax:xs.length≤1000000000000)(bT:a_.length=xs.length)
  (hm:∀(h:Lo) (cJ eO:V) (x y:iH),x∈xs→eS.aK av h cJ x→eS.aK bx h eO y→aj (ay eq [cJ,eO] h) fun v aa=>v= .bool (q x y)∧ai h aa []):
  ∀(m i f:Nat) (h:Lo),xs.length=i+m→m<f→ai aI h []→aL (z4 j ay f b eq a xs.length i h) fun x ak aa=>ai aI aa []∧if g1 q xs a_ i=true then x= .exit 0∧ak=[] else x= .ret∧ak=[.bool false]:=by
 intro m
 induction m with
 |zero=>
  intro i f h l_ aS k
  obtain⟨f,rfl⟩:∃g,f=g+1:=⟨f-1,by omega⟩
  have bj:decide ((i:Int)<(xs.length:Int))=false:=decide_eq_false (by omega)
  simp only[z4,HJ,bj,a7]
  refine aL.some ⟨k, ?_⟩
  rw[if_pos (u1 (by omega))]
  exact⟨rfl,rfl⟩
 |succ m ba=>
  intro i f h l_ aS k
  obtain⟨f,rfl⟩:∃g,f=g+1:=⟨f-1,by omega⟩
  have aw:i<xs.length:=by omega
  have U:i<a_.length:=by omega
  have bj:decide ((i:Int)<(xs.length:Int))=true:=decide_eq_true (by omega)
  have hw:IntKind.i64.wrap ((i:Int)+1)=((i+1:Nat):Int):=by rw[wrap_i64 (by omega) (by omega)];simp
  obtain⟨es,dR,gP,-,lW⟩:=g2.aq k
  obtain⟨e,aV,t⟩:=lW i aw
  obtain⟨n,aG,ah,au,rfl,cp⟩:=id t
  obtain⟨p,cF,cW⟩:=dR.kn (k:=(i:Int)) (cs:=fT n aG (.bool xs[i].d)) (by omega) (by simpa using aV) rfl (by decide)
  simp only[z4,HJ,bj,aU,cF,cW,aO,aN,aZ,bn,bl,id_eq,bP,bq,a1,bC,a0,a5]
  refine oS (n:=9) (fU:=(fT hQ .ab (.bool false))) (aM:=fT n aG (.bool xs[i].d)) rfl rfl rfl (by decide) (by simp only[List.all_cons,List.all_nil,gU cp];rfl) fun R s1 ar=> ?_
  obtain⟨cc,e9,kj,-,fx⟩:=g3.aq (k.bs ar)
  obtain⟨g,aX,bR⟩:=fx i U
  obtain⟨gk,mY,n1,zJ,rfl,du⟩:=id bR
  obtain⟨r,fD,bf⟩:=e9.kn (k:=(i:Int)) (cs:=fT gk mY (.bool a_[i].d)) (by omega) (by simpa using aX) rfl (by decide)
  simp only[fD,bf,aO,aN,aZ,bn,bl,id_eq,bP,bq,a1,bC,a0,a5]
  refine oS (n:=9) (fU:=(fT hQ .ab (.bool false))) (aM:=fT gk mY (.bool a_[i].d)) rfl rfl rfl (by decide) (by simp only[List.all_cons,List.all_nil,gU du];rfl) fun ae s2 aA=> ?_
  simp only[(s1.aq aA).e4 (n:=9) rfl,s2.e4 (n:=9) rfl,aO,aN,aZ,bn,bl,id_eq,bP,bq,a1,bC,a0,a5]
  refine aL.ad (hm ae _ _ xs[i] a_[i] (List.getElem_mem aw) (lb (lb t ar) aA) (lb bR aA)) ?_
  rintro v aQ ⟨rfl,aT⟩
  have eA:=((k.bs ar).bs aA).bs aT
  rw[u0 aw U]
  cases bm:q xs[i] a_[i] with
  |false=>
   simp only[a0,Bool.not_false,aU,Bool.false_and,Bool.false_eq_true,if_false]
   exact aL.some ⟨eA,rfl,rfl⟩
  |true=>
   simp only[a0,Bool.not_true,a7,hw,Bool.true_and]
   exact ba (i+1) f aQ (by omega) (by omega) eA
theorem anW(j:Nat){ay:bK}{eq:V}{av bx:Nat→Prop}{aI:Lo}{a b:V}{xs a_:List h7}{q:h7→h7→Bool}(g2:aC 9 fs av aI a xs)(g3:aC 9 fs bx aI b a_)(ax:xs.length≤1000000000000)(bT:a_.length=xs.length)
  (hm:∀(h:Lo) (cJ eO:V) (x y:h7),x∈xs→fs.aK av h cJ x→fs.aK bx h eO y→aj (ay eq [cJ,eO] h) fun v aa=>v= .bool (q x y)∧ai h aa []):
  ∀(m i f:Nat) (h:Lo),xs.length=i+m→m<f→ai aI h []→aL (z0 j ay f b eq a xs.length i h) fun x ak aa=>ai aI aa []∧if g1 q xs a_ i=true then x= .exit 0∧ak=[] else x= .ret∧ak=[.bool false]:=by
 intro m
 induction m with
 |zero=>
  intro i f h l_ aS k
  obtain⟨f,rfl⟩:∃g,f=g+1:=⟨f-1,by omega⟩
  have bj:decide ((i:Int)<(xs.length:Int))=false:=decide_eq_false (by omega)
  simp only[z0,HA,bj,a7]
  refine aL.some ⟨k, ?_⟩
  rw[if_pos (u1 (by omega))]
  exact⟨rfl,rfl⟩
 |succ m ba=>
  intro i f h l_ aS k
  obtain⟨f,rfl⟩:∃g,f=g+1:=⟨f-1,by omega⟩
  have aw:i<xs.length:=by omega
  have U:i<a_.length:=by omega
  have bj:decide ((i:Int)<(xs.length:Int))=true:=decide_eq_true (by omega)
  have hw:IntKind.i64.wrap ((i:Int)+1)=((i+1:Nat):Int):=by rw[wrap_i64 (by omega) (by omega)];simp
  obtain⟨es,dR,gP,-,lW⟩:=g2.aq k
  obtain⟨e,aV,t⟩:=lW i aw
  obtain⟨n,aG,ah,au,rfl,cp⟩:=id t
  obtain⟨p,cF,cW⟩:=dR.kn (k:=(i:Int)) (cs:=jj xs[i].c n aG) (by omega) (by simpa using aV) rfl (by decide)
  simp only[z0,HA,bj,aU,cF,cW,aO,aN,aZ,bn,bl,id_eq,bP,bq,a1,bC,a0,a5]
  refine oS (n:=9) (fU:=(jj [] hQ .ab)) (aM:=jj xs[i].c n aG) rfl rfl rfl (by decide) (by simp only[List.all_cons,List.all_nil,gU cp];rfl) fun R s1 ar=> ?_
  obtain⟨cc,e9,kj,-,fx⟩:=g3.aq (k.bs ar)
  obtain⟨g,aX,bR⟩:=fx i U
  obtain⟨gk,mY,n1,zJ,rfl,du⟩:=id bR
  obtain⟨r,fD,bf⟩:=e9.kn (k:=(i:Int)) (cs:=jj a_[i].c gk mY) (by omega) (by simpa using aX) rfl (by decide)
  simp only[fD,bf,aO,aN,aZ,bn,bl,id_eq,bP,bq,a1,bC,a0,a5]
  refine oS (n:=9) (fU:=(jj [] hQ .ab)) (aM:=jj a_[i].c gk mY) rfl rfl rfl (by decide) (by simp only[List.all_cons,List.all_nil,gU du];rfl) fun ae s2 aA=> ?_
  simp only[(s1.aq aA).e4 (n:=9) rfl,s2.e4 (n:=9) rfl,aO,aN,aZ,bn,bl,id_eq,bP,bq,a1,bC,a0,a5]
  refine aL.ad (hm ae _ _ xs[i] a_[i] (List.getElem_mem aw) (lb (lb t ar) aA) (lb bR aA)) ?_
  rintro v aQ ⟨rfl,aT⟩
  have eA:=((k.bs ar).bs aA).bs aT
  rw[u0 aw U]
  cases bm:q xs[i] a_[i] with
  |false=>
   simp only[a0,Bool.not_false,aU,Bool.false_and,Bool.false_eq_true,if_false]
   exact aL.some ⟨eA,rfl,rfl⟩
  |true=>
   simp only[a0,Bool.not_true,a7,hw,Bool.true_and]
   exact ba (i+1) f aQ (by omega) (by omega) eA
theorem anX(j:Nat){ay:bK}{eq:V}{av bx:Nat→Prop}{aI:Lo}{a b:V}{xs a_:List (List X)}{q:List X→List X→Bool}(g2:aC 1 (cl 8 bL) av aI a xs)(g3:aC 1 (cl 8 bL) bx aI b a_)(ax:xs.length≤1000000000000)(bT:a_.length=xs.length)
  (hm:∀(h:Lo) (cJ eO:V) (x y:List X),x∈xs→aC 8 bL av h cJ x→aC 8 bL bx h eO y→aj (ay eq [cJ,eO] h) fun v aa=>v= .bool (q x y)∧ai h aa []):
  ∀(m i f:Nat) (h:Lo),xs.length=i+m→m<f→ai aI h []→aL (zZ j ay f b eq a xs.length i h) fun x ak aa=>ai aI aa []∧if g1 q xs a_ i=true then x= .exit 0∧ak=[] else x= .ret∧ak=[.bool false]:=by
 intro m
 induction m with
 |zero=>
  intro i f h l_ aS k
  obtain⟨f,rfl⟩:∃g,f=g+1:=⟨f-1,by omega⟩
  have bj:decide ((i:Int)<(xs.length:Int))=false:=decide_eq_false (by omega)
  simp only[zZ,Hx,bj,a7]
  refine aL.some ⟨k, ?_⟩
  rw[if_pos (u1 (by omega))]
  exact⟨rfl,rfl⟩
 |succ m ba=>
  intro i f h l_ aS k
  obtain⟨f,rfl⟩:∃g,f=g+1:=⟨f-1,by omega⟩
  have aw:i<xs.length:=by omega
  have U:i<a_.length:=by omega
  have bj:decide ((i:Int)<(xs.length:Int))=true:=decide_eq_true (by omega)
  have hw:IntKind.i64.wrap ((i:Int)+1)=((i+1:Nat):Int):=by rw[wrap_i64 (by omega) (by omega)];simp
  obtain⟨es,dR,gP,-,lW⟩:=g2.aq k
  obtain⟨e,aV,t⟩:=lW i aw
  obtain⟨p,cF,cW⟩:=dR.hX (k:=(i:Int)) (e:=e) (by omega) (by simpa using aV) (aC.a8 t).1
  obtain⟨cc,e9,kj,-,fx⟩:=g3.aq k
  obtain⟨g,aX,bR⟩:=fx i U
  obtain⟨r,fD,bf⟩:=e9.hX (k:=(i:Int)) (e:=g) (by omega) (by simpa using aX) (aC.a8 bR).1
  simp only[zZ,Hx,bj,aU,cF,cW,fD,bf,aO]
  refine aL.ad (hm h _ _ xs[i] a_[i] (List.getElem_mem aw) t bR) ?_
  rintro v aQ ⟨rfl,aT⟩
  rw[u0 aw U]
  cases bm:q xs[i] a_[i] with
  |false=>
   simp only[a0,Bool.not_false,aU,Bool.false_and,Bool.false_eq_true,if_false]
   exact aL.some ⟨k.bs aT,rfl,rfl⟩
  |true=>
   simp only[a0,Bool.not_true,a7,hw,Bool.true_and]
   exact ba (i+1) f aQ (by omega) (by omega) (k.bs aT)
def ql(x y:jz):Bool:=x.n==y.n&&(x.k==y.k&&(x.iG==y.iG&&x.un==y.un))
theorem We(x y:jz)(h:Lo):I (.eq true (.struct 4 [(0, .s),(1, .i),(2, .b),(3, .b)]) (.c (.agg [.str x.n, .int .i64 x.k, .bool x.iG, .bool x.un])) (.c (.agg [.str y.n, .int .i64 y.k, .bool y.iG, .bool y.un]))) h=some (.bool (!(ql x y))):=by
 simp[I,aB,e8,Et,fW,sr,sq,l9,V.cells,ql]
 cases(x.n==y.n)<;>cases(x.k==y.k)<;>cases(x.iG==y.iG)<;>cases(x.un==y.un)<;>rfl
theorem anY(x:jz):ql x x=true:=by simp[ql]
theorem anZ(j:Nat){av bx:Nat→Prop}{h:Lo}{a b:V}{xs a_:List jz}(g2:aC 4 fI av h a xs)(g3:aC 4 fI bx h b a_)(ax:xs.length≤1000000000000)(bT:a_.length=xs.length):∀(m i f:Nat),xs.length=i+m→m<f→zX j f a b xs.length i h=if g1 ql xs a_ i=true then some (.exit 0,[],h) else some (.ret,[.bool false],h):=by
 intro m
 induction m with
 |zero=>
  intro i f l_ aS
  obtain⟨f,rfl⟩:∃g,f=g+1:=⟨f-1,by omega⟩
  have bj:decide ((i:Int)<(xs.length:Int))=false:=decide_eq_false (by omega)
  rw[if_pos (u1 (by omega))]
  simp only[zX,Ht,bj,a7]
 |succ m ba=>
  intro i f l_ aS
  obtain⟨f,rfl⟩:∃g,f=g+1:=⟨f-1,by omega⟩
  have aw:i<xs.length:=by omega
  have U:i<a_.length:=by omega
  have bj:decide ((i:Int)<(xs.length:Int))=true:=decide_eq_true (by omega)
  have hw:IntKind.i64.wrap ((i:Int)+1)=((i+1:Nat):Int):=by rw[wrap_i64 (by omega) (by omega)];simp
  obtain⟨es,dR,gP,-,lW⟩:=g2
  obtain⟨e,aV,t⟩:=lW i aw
  have he:e= .agg [.str xs[i].n, .int .i64 xs[i].k, .bool xs[i].iG, .bool xs[i].un]:=t
  subst he
  obtain⟨p,cF,cW⟩:=dR.kn (k:=(i:Int)) (cs:=[.str xs[i].n, .int .i64 xs[i].k, .bool xs[i].iG, .bool xs[i].un]) (by omega) (by simpa using aV) rfl (by decide)
  obtain⟨cc,e9,kj,-,fx⟩:=g3
  obtain⟨g,aX,bR⟩:=fx i U
  have dt:g= .agg [.str a_[i].n, .int .i64 a_[i].k, .bool a_[i].iG, .bool a_[i].un]:=bR
  subst dt
  obtain⟨r,fD,bf⟩:=e9.kn (k:=(i:Int)) (cs:=[.str a_[i].n, .int .i64 a_[i].k, .bool a_[i].iG, .bool a_[i].un]) (by omega) (by simpa using aX) rfl (by decide)
  have qQ:=ba (i+1) f (by omega) (by omega)
  rw[u0 aw U]
  simp only[zX,Ht,bj,aU,cF,cW,fD,bf,aO,aN,aZ,bn,bl,id_eq,bP,bq,a1,bC,a0,a5,We,hw,qQ]
  cases ql xs[i] a_[i]<;>simp
theorem an0(j:Nat){av bx:Nat→Prop}{h:Lo}{a b:V}{xs a_:List (Lu)}(g2:aC 1 fM av h a xs)(g3:aC 1 fM bx h b a_)(ax:xs.length≤1000000000000)(bT:a_.length=xs.length):∀(m i f:Nat),xs.length=i+m→m<f→zY j f a b xs.length i h=if g1 (fun x y=>x==y) xs a_ i=true then some (.exit 0,[],h) else some (.ret,[.bool false],h):=by
 intro m
 induction m with
 |zero=>
  intro i f l_ aS
  obtain⟨f,rfl⟩:∃g,f=g+1:=⟨f-1,by omega⟩
  have bj:decide ((i:Int)<(xs.length:Int))=false:=decide_eq_false (by omega)
  rw[if_pos (u1 (by omega))]
  simp only[zY,Hv,bj,a7]
 |succ m ba=>
  intro i f l_ aS
  obtain⟨f,rfl⟩:∃g,f=g+1:=⟨f-1,by omega⟩
  have aw:i<xs.length:=by omega
  have U:i<a_.length:=by omega
  have bj:decide ((i:Int)<(xs.length:Int))=true:=decide_eq_true (by omega)
  have hw:IntKind.i64.wrap ((i:Int)+1)=((i+1:Nat):Int):=by rw[wrap_i64 (by omega) (by omega)];simp
  obtain⟨es,dR,gP,-,lW⟩:=g2
  obtain⟨e,aV,t⟩:=lW i aw
  have he:e= .str xs[i]:=t
  subst he
  obtain⟨p,cF,cW⟩:=dR.hX (k:=(i:Int)) (e:= .str xs[i]) (by omega) (by simpa using aV) rfl
  obtain⟨cc,e9,kj,-,fx⟩:=g3
  obtain⟨g,aX,bR⟩:=fx i U
  have dt:g= .str a_[i]:=bR
  subst dt
  obtain⟨r,fD,bf⟩:=e9.hX (k:=(i:Int)) (e:= .str a_[i]) (by omega) (by simpa using aX) rfl
  have qQ:=ba (i+1) f (by omega) (by omega)
  have en:(xs[i] !=a_[i])= !(xs[i]==a_[i]):=rfl
  rw[u0 aw U]
  simp only[zY,Hv,bj,aU,cF,cW,fD,bf,aO,bC,en,hw,qQ]
  cases(xs[i]==a_[i])<;>simp
theorem I2{j:Nat}{ay:bK}{eq:V}{av bx:Nat→Prop}{h:Lo}{a b:V}{xs a_:List X}{q:X→X→Bool}(g2:aC 8 bL av h a xs)(g3:aC 8 bL bx h b a_)(ax:xs.length≤1000000000000)(aS:xs.length<j)
  (hm:∀(h:Lo) (cJ eO:V) (x y:X),x∈xs→bL.aK av h cJ x→bL.aK bx h eO y→aj (ay eq [cJ,eO] h) fun v aa=>v= .bool (q x y)∧ai h aa []):aj (rJ j ay a b eq h) fun v aa=>v= .bool (gV q xs a_)∧ai h aa []:=by
 simp only[rJ,g2.len,g3.len,aO,a1]
 unfold gV
 by_cases bT:xs.length=a_.length
 ·have aV:((xs.length:Int) !=(a_.length:Int))=false:=by simp[bT]
  rw[aV,a7,decide_eq_true bT,Bool.true_and]
  have eT:=anS j g2 g3 ax bT.symm hm xs.length 0 j h (by omega) aS (ai.refl _ _)
  refine aj.bO eT ?_
  rintro x ak R ⟨ar,r⟩
  cases ez:g1 q xs a_ 0 with
  |true=>
   rw[ez,if_pos rfl] at r
   obtain⟨rfl,rfl⟩:=r
   simp only[decide_true,aU,a5]
   exact aj.some ⟨rfl,ar⟩
  |false=>
   rw[ez,if_neg (by decide)] at r
   obtain⟨rfl,rfl⟩:=r
   simp only[show decide (cg.ret=cg.exit 0)=false from rfl,a7,decide_true,aU,aN,aZ,bn,bl,id_eq,bq,a0,a5]
   exact aj.some ⟨rfl,ar⟩
 ·have aV:((xs.length:Int) !=(a_.length:Int))=true:=by
   have:(xs.length:Int)≠(a_.length:Int):=by omega
   simpa using this
  rw[aV,aU,decide_eq_false bT,Bool.false_and]
  exact aj.some ⟨rfl,ai.refl _ _⟩
theorem an1{j:Nat}{ay:bK}{eq:V}{av bx:Nat→Prop}{h:Lo}{a b:V}{xs a_:List ij}{q:ij→ij→Bool}(g2:aC 9 eC av h a xs)(g3:aC 9 eC bx h b a_)(ax:xs.length≤1000000000000)(aS:xs.length<j)
  (hm:∀(h:Lo) (cJ eO:V) (x y:ij),x∈xs→eC.aK av h cJ x→eC.aK bx h eO y→aj (ay eq [cJ,eO] h) fun v aa=>v= .bool (q x y)∧ai h aa []):aj (HE j ay a b eq h) fun v aa=>v= .bool (gV q xs a_)∧ai h aa []:=by
 simp only[HE,g2.len,g3.len,aO,a1]
 unfold gV
 by_cases bT:xs.length=a_.length
 ·have aV:((xs.length:Int) !=(a_.length:Int))=false:=by simp[bT]
  rw[aV,a7,decide_eq_true bT,Bool.true_and]
  have eT:=anT j g2 g3 ax bT.symm hm xs.length 0 j h (by omega) aS (ai.refl _ _)
  refine aj.bO eT ?_
  rintro x ak R ⟨ar,r⟩
  cases ez:g1 q xs a_ 0 with
  |true=>
   rw[ez,if_pos rfl] at r
   obtain⟨rfl,rfl⟩:=r
   simp only[decide_true,aU,a5]
   exact aj.some ⟨rfl,ar⟩
  |false=>
   rw[ez,if_neg (by decide)] at r
   obtain⟨rfl,rfl⟩:=r
   simp only[show decide (cg.ret=cg.exit 0)=false from rfl,a7,decide_true,aU,aN,aZ,bn,bl,id_eq,bq,a0,a5]
   exact aj.some ⟨rfl,ar⟩
 ·have aV:((xs.length:Int) !=(a_.length:Int))=true:=by
   have:(xs.length:Int)≠(a_.length:Int):=by omega
   simpa using this
  rw[aV,aU,decide_eq_false bT,Bool.false_and]
  exact aj.some ⟨rfl,ai.refl _ _⟩
theorem an2{j:Nat}{ay:bK}{eq:V}{av bx:Nat→Prop}{h:Lo}{a b:V}{xs a_:List hB}{q:hB→hB→Bool}(g2:aC 10 eM av h a xs)(g3:aC 10 eM bx h b a_)(ax:xs.length≤1000000000000)(aS:xs.length<j)
  (hm:∀(h:Lo) (cJ eO:V) (x y:hB),x∈xs→eM.aK av h cJ x→eM.aK bx h eO y→aj (ay eq [cJ,eO] h) fun v aa=>v= .bool (q x y)∧ai h aa []):aj (HH j ay a b eq h) fun v aa=>v= .bool (gV q xs a_)∧ai h aa []:=by
 simp only[HH,g2.len,g3.len,aO,a1]
 unfold gV
 by_cases bT:xs.length=a_.length
 ·have aV:((xs.length:Int) !=(a_.length:Int))=false:=by simp[bT]
  rw[aV,a7,decide_eq_true bT,Bool.true_and]
  have eT:=anU j g2 g3 ax bT.symm hm xs.length 0 j h (by omega) aS (ai.refl _ _)
  refine aj.bO eT ?_
  rintro x ak R ⟨ar,r⟩
  cases ez:g1 q xs a_ 0 with
  |true=>
   rw[ez,if_pos rfl] at r
   obtain⟨rfl,rfl⟩:=r
   simp only[decide_true,aU,a5]
   exact aj.some ⟨rfl,ar⟩
  |false=>
   rw[ez,if_neg (by decide)] at r
   obtain⟨rfl,rfl⟩:=r
   simp only[show decide (cg.ret=cg.exit 0)=false from rfl,a7,decide_true,aU,aN,aZ,bn,bl,id_eq,bq,a0,a5]
   exact aj.some ⟨rfl,ar⟩
 ·have aV:((xs.length:Int) !=(a_.length:Int))=true:=by
   have:(xs.length:Int)≠(a_.length:Int):=by omega
   simpa using this
  rw[aV,aU,decide_eq_false bT,Bool.false_and]
  exact aj.some ⟨rfl,ai.refl _ _⟩
theorem an3{j:Nat}{ay:bK}{eq:V}{av bx:Nat→Prop}{h:Lo}{a b:V}{xs a_:List iH}{q:iH→iH→Bool}(g2:aC 9 eS av h a xs)(g3:aC 9 eS bx h b a_)(ax:xs.length≤1000000000000)(aS:xs.length<j)
  (hm:∀(h:Lo) (cJ eO:V) (x y:iH),x∈xs→eS.aK av h cJ x→eS.aK bx h eO y→aj (ay eq [cJ,eO] h) fun v aa=>v= .bool (q x y)∧ai h aa []):aj (HK j ay a b eq h) fun v aa=>v= .bool (gV q xs a_)∧ai h aa []:=by
 simp only[HK,g2.len,g3.len,aO,a1]
 unfold gV
 by_cases bT:xs.length=a_.length
 ·have aV:((xs.length:Int) !=(a_.length:Int))=false:=by simp[bT]
  rw[aV,a7,decide_eq_true bT,Bool.true_and]
  have eT:=anV j g2 g3 ax bT.symm hm xs.length 0 j h (by omega) aS (ai.refl _ _)
  refine aj.bO eT ?_
  rintro x ak R ⟨ar,r⟩
  cases ez:g1 q xs a_ 0 with
  |true=>
   rw[ez,if_pos rfl] at r
   obtain⟨rfl,rfl⟩:=r
   simp only[decide_true,aU,a5]
   exact aj.some ⟨rfl,ar⟩
  |false=>
   rw[ez,if_neg (by decide)] at r
   obtain⟨rfl,rfl⟩:=r
   simp only[show decide (cg.ret=cg.exit 0)=false from rfl,a7,decide_true,aU,aN,aZ,bn,bl,id_eq,bq,a0,a5]
   exact aj.some ⟨rfl,ar⟩
 ·have aV:((xs.length:Int) !=(a_.length:Int))=true:=by
   have:(xs.length:Int)≠(a_.length:Int):=by omega
   simpa using this
  rw[aV,aU,decide_eq_false bT,Bool.false_and]
  exact aj.some ⟨rfl,ai.refl _ _⟩
theorem an4{j:Nat}{ay:bK}{eq:V}{av bx:Nat→Prop}{h:Lo}{a b:V}{xs a_:List h7}{q:h7→h7→Bool}(g2:aC 9 fs av h a xs)(g3:aC 9 fs bx h b a_)(ax:xs.length≤1000000000000)(aS:xs.length<j)
  (hm:∀(h:Lo) (cJ eO:V) (x y:h7),x∈xs→fs.aK av h cJ x→fs.aK bx h eO y→aj (ay eq [cJ,eO] h) fun v aa=>v= .bool (q x y)∧ai h aa []):aj (HB j ay a b eq h) fun v aa=>v= .bool (gV q xs a_)∧ai h aa []:=by
 simp only[HB,g2.len,g3.len,aO,a1]
 unfold gV
 by_cases bT:xs.length=a_.length
 ·have aV:((xs.length:Int) !=(a_.length:Int))=false:=by simp[bT]
  rw[aV,a7,decide_eq_true bT,Bool.true_and]
  have eT:=anW j g2 g3 ax bT.symm hm xs.length 0 j h (by omega) aS (ai.refl _ _)
  refine aj.bO eT ?_
  rintro x ak R ⟨ar,r⟩
  cases ez:g1 q xs a_ 0 with
  |true=>
   rw[ez,if_pos rfl] at r
   obtain⟨rfl,rfl⟩:=r
   simp only[decide_true,aU,a5]
   exact aj.some ⟨rfl,ar⟩
  |false=>
   rw[ez,if_neg (by decide)] at r
   obtain⟨rfl,rfl⟩:=r
   simp only[show decide (cg.ret=cg.exit 0)=false from rfl,a7,decide_true,aU,aN,aZ,bn,bl,id_eq,bq,a0,a5]
   exact aj.some ⟨rfl,ar⟩
 ·have aV:((xs.length:Int) !=(a_.length:Int))=true:=by
   have:(xs.length:Int)≠(a_.length:Int):=by omega
   simpa using this
  rw[aV,aU,decide_eq_false bT,Bool.false_and]
  exact aj.some ⟨rfl,ai.refl _ _⟩
theorem an5{j:Nat}{ay:bK}{eq:V}{av bx:Nat→Prop}{h:Lo}{a b:V}{xs a_:List (List X)}{q:(List X)→(List X)→Bool}(g2:aC 1 (cl 8 bL) av h a xs)(g3:aC 1 (cl 8 bL) bx h b a_)(ax:xs.length≤1000000000000)(aS:xs.length<j)
  (hm:∀(h:Lo) (cJ eO:V) (x y:(List X)),x∈xs→aC 8 bL av h cJ x→aC 8 bL bx h eO y→aj (ay eq [cJ,eO] h) fun v aa=>v= .bool (q x y)∧ai h aa []):aj (Hy j ay a b eq h) fun v aa=>v= .bool (gV q xs a_)∧ai h aa []:=by
 simp only[Hy,g2.len,g3.len,aO,a1]
 unfold gV
 by_cases bT:xs.length=a_.length
 ·have aV:((xs.length:Int) !=(a_.length:Int))=false:=by simp[bT]
  rw[aV,a7,decide_eq_true bT,Bool.true_and]
  have eT:=anX j g2 g3 ax bT.symm hm xs.length 0 j h (by omega) aS (ai.refl _ _)
  refine aj.bO eT ?_
  rintro x ak R ⟨ar,r⟩
  cases ez:g1 q xs a_ 0 with
  |true=>
   rw[ez,if_pos rfl] at r
   obtain⟨rfl,rfl⟩:=r
   simp only[decide_true,aU,a5]
   exact aj.some ⟨rfl,ar⟩
  |false=>
   rw[ez,if_neg (by decide)] at r
   obtain⟨rfl,rfl⟩:=r
   simp only[show decide (cg.ret=cg.exit 0)=false from rfl,a7,decide_true,aU,aN,aZ,bn,bl,id_eq,bq,a0,a5]
   exact aj.some ⟨rfl,ar⟩
 ·have aV:((xs.length:Int) !=(a_.length:Int))=true:=by
   have:(xs.length:Int)≠(a_.length:Int):=by omega
   simpa using this
  rw[aV,aU,decide_eq_false bT,Bool.false_and]
  exact aj.some ⟨rfl,ai.refl _ _⟩
theorem an6{j:Nat}{av bx:Nat→Prop}{h:Lo}{a b:V}{xs a_:List jz}(g2:aC 4 fI av h a xs)(g3:aC 4 fI bx h b a_)(ax:xs.length≤1000000000000)(aS:xs.length<j):Hu j a b h=some (.bool (gV (ql) xs a_),h):=by
 simp only[Hu,g2.len,g3.len,aO,a1]
 unfold gV
 by_cases bT:xs.length=a_.length
 ·have aV:((xs.length:Int) !=(a_.length:Int))=false:=by simp[bT]
  rw[aV,a7,decide_eq_true bT,Bool.true_and]
  have eT:=anZ j g2 g3 ax bT.symm xs.length 0 j (by omega) aS
  have z:((0:Nat):Int)=0:=rfl
  rw[z] at eT
  rw[eT]
  cases ez:g1 (ql) xs a_ 0<;>rfl
 ·have aV:((xs.length:Int) !=(a_.length:Int))=true:=by
   have:(xs.length:Int)≠(a_.length:Int):=by omega
   simpa using this
  rw[aV,aU,decide_eq_false bT,Bool.false_and]
theorem an7{j:Nat}{av bx:Nat→Prop}{h:Lo}{a b:V}{xs a_:List (Lu)}(g2:aC 1 fM av h a xs)(g3:aC 1 fM bx h b a_)(ax:xs.length≤1000000000000)(aS:xs.length<j):Hw j a b h=some (.bool (gV (fun x y=>x==y) xs a_),h):=by
 simp only[Hw,g2.len,g3.len,aO,a1]
 unfold gV
 by_cases bT:xs.length=a_.length
 ·have aV:((xs.length:Int) !=(a_.length:Int))=false:=by simp[bT]
  rw[aV,a7,decide_eq_true bT,Bool.true_and]
  have eT:=an0 j g2 g3 ax bT.symm xs.length 0 j (by omega) aS
  have z:((0:Nat):Int)=0:=rfl
  rw[z] at eT
  rw[eT]
  cases ez:g1 (fun x y=>x==y) xs a_ 0<;>rfl
 ·have aV:((xs.length:Int) !=(a_.length:Int))=true:=by
   have:(xs.length:Int)≠(a_.length:Int):=by omega
   simpa using this
  rw[aV,aU,decide_eq_false bT,Bool.false_and]
theorem gp{b c:Bool}{aI h:Lo}{K:OvL}(k:ai aI h [])(eY:b=true→aj K fun v aa=>v= .bool c∧ai aI aa []):aj (al b K (some (.bool false,h))) fun v aa=>v= .bool (b&&c)∧ai aI aa []:=by
 cases b with
 |false=>exact aj.some ⟨rfl,k⟩
 |true=>exact eY rfl
theorem kh{P:V→Prop}{aI h:Lo}{r:OvL}(k:ai aI h [])(t:aj r fun v aa=>P v∧ai h aa []):aj r fun v aa=>P v∧ai aI aa []:=t.mono fun v aa q=>⟨q.1,k.bs q.2⟩
theorem kP{b:Bool}{aI h:Lo}(k:ai aI h []):aj (some (.bool b,h)) fun v aa=>v= .bool b∧ai aI aa []:=aj.some ⟨rfl,k⟩
def hF(j:Nat)(x y:X):Bool:=pj (j+1) x y
theorem u2{j w D:Nat}(b_:D≤j){x:X}(b0:g_ w D x):hF j x x=true:=SK _ _ (b0.mono (by omega)).yO
theorem Ax{j w D:Nat}(hw:w<j)(bV:w≤4611686018427387904)(b_:D≤j){av bx:Nat→Prop}{h:Lo}{n m:fg}{aG cf:V}{ah dF:List X}(b0:g_ w D (.mk n ah))(cp:c6 av h (.agg (bH n aG)) (.mk n ah))(du:c6 bx h (.agg (bH m cf)) (.mk m dF)):
  aj (rK j (ir j j) n.k n.op n.eh n.ed n.ak n.dG n.c7 aG m.k m.op m.eh m.ed m.ak m.dG m.c7 cf h) fun v aa=>v= .bool (hF j (.mk n ah) (.mk m dF))∧ai h aa []:=
 afA j w hw bV j _ _ (b0.mono (by omega)) n m aG cf ah dF h rfl rfl cp du
theorem I3{j w D:Nat}(hw:w<j)(bV:w≤4611686018427387904)(b_:D≤j){av bx:Nat→Prop}{h:Lo}{cJ eO:V}{x y:X}(b0:g_ w D x)(t:bL.aK av h cJ x)(bR:bL.aK bx h eO y):aj (rL j (ir j j) [cJ,eO] h) fun v aa=>v= .bool (hF j x y)∧ai h aa []:=by
 obtain⟨n,aG,ah,rfl,rfl,cp⟩:=t
 obtain⟨gk,mY,n1,rfl,rfl,du⟩:=bR
 exact Ax hw bV b_ b0 cp du
theorem an8{j w D:Nat}(hw:w<j)(bV:w≤4611686018427387904)(b_:D≤j){av bx:Nat→Prop}{h:Lo}{a b:V}{xs a_:List X}(g2:aC 8 bL av h a xs)(g3:aC 8 bL bx h b a_)(ax:xs.length≤1000000000000)(aS:xs.length<j)(b0:∀x,x∈xs→g_ w D x):aj (Hz j a b h) fun v aa=>v= .bool (gV (hF j) xs a_)∧ai h aa []:=by
 simp only[Hz]
 refine aj.ad (I2 (q:=hF j) g2 g3 ax aS (fun h cJ eO x y au t bR=>show aj (rL j (ir j j) [cJ,eO] h) _ from I3 hw bV b_ (b0 x au) t bR)) ?_
 rintro v R ⟨rfl,ar⟩
 simp only[a0]
 exact aj.some ⟨rfl,ar⟩
def rb(j:Nat)(x y:h7):Bool:=x.c==y.c&&(hF j x.e y.e)
theorem an9{j w D:Nat}(b_:D≤j){x:h7}(b0:g_ w D x.e):rb j x x=true:=by simp[rb,u2 b_ b0]
theorem an_{j w D:Nat}(hw:w<j)(bV:w≤4611686018427387904)(b_:D≤j){av bx:Nat→Prop}{h:Lo}{cJ eO:V}{x y:h7}(b0:g_ w D x.e)(t:fs.aK av h cJ x)(bR:fs.aK bx h eO y):aj (HC j [cJ,eO] h) fun v aa=>v= .bool (rb j x y)∧ai h aa []:=by
 obtain⟨n,aG,ah,aV,rfl,cp⟩:=t
 obtain⟨m,cf,dF,bb,rfl,du⟩:=bR
 show aj (Nw j x.c n.k n.op n.eh n.ed n.ak n.dG n.c7 aG y.c m.k m.op m.eh m.ed m.ak m.dG m.c7 cf h) _
 unfold rb
 rw[aV] at b0⊢
 rw[bb]
 simp only[Nw]
 refine aj.ad (fO (cs:=jj x.c n aG) (by simp only[List.all_cons,List.all_nil,gU cp];rfl)) ?_
 rintro p iY ⟨rfl,sp,ar⟩
 refine aj.ad (fO (cs:=jj y.c m cf) (by simp only[List.all_cons,List.all_nil,gU du];rfl)) ?_
 rintro r ix ⟨rfl,dm,aA⟩
 have ku:=sp.aq aA
 have dW:=ar.bs aA
 have c5:I (.bp 8 (.c (.ptr h.length 0 (0+1)))) ix=some (.agg (bH n aG)):=iE ku (o:=0+1) (n:=8) (by simp) (by decide)
 have ew:I (.bp 8 (.c (.ptr iY.length 0 (0+1)))) ix=some (.agg (bH m cf)):=iE dm (o:=0+1) (n:=8) (by simp) (by decide)
 simp only[ku.af,dm.af,ku.ag (o:=0+0) (c:= .str x.c) rfl,dm.ag (o:=0+0) (c:= .str y.c) rfl,c5,ew,aO,aN,aZ,bn,bl,id_eq,bP,bq,a1,bC,a0,a5]
 refine gp dW fun _=> ?_
 refine aj.ad (Ax hw bV b_ b0 (cp.aq dW) (du.aq dW)) ?_
 rintro v aQ ⟨rfl,aT⟩
 simp only[a0]
 exact kP (dW.bs aT)
def re(j:Nat)(x y:ij):Bool:=x.n==y.n&&(hF j x.e y.e)
theorem aoa{j w D:Nat}(b_:D≤j){x:ij}(b0:g_ w D x.e):re j x x=true:=by simp[re,u2 b_ b0]
theorem aob{j w D:Nat}(hw:w<j)(bV:w≤4611686018427387904)(b_:D≤j){av bx:Nat→Prop}{h:Lo}{cJ eO:V}{x y:ij}(b0:g_ w D x.e)(t:eC.aK av h cJ x)(bR:eC.aK bx h eO y):aj (HF j [cJ,eO] h) fun v aa=>v= .bool (re j x y)∧ai h aa []:=by
 obtain⟨n,aG,ah,aV,rfl,cp⟩:=t
 obtain⟨m,cf,dF,bb,rfl,du⟩:=bR
 show aj (Nx j n.k n.op n.eh n.ed n.ak n.dG n.c7 aG x.n m.k m.op m.eh m.ed m.ak m.dG m.c7 cf y.n h) _
 unfold re
 rw[aV] at b0⊢
 rw[bb]
 simp only[Nx]
 refine aj.ad (fO (cs:=fT n aG (.str x.n)) (by simp only[List.all_cons,List.all_nil,gU cp];rfl)) ?_
 rintro p iY ⟨rfl,sp,ar⟩
 refine aj.ad (fO (cs:=fT m cf (.str y.n)) (by simp only[List.all_cons,List.all_nil,gU du];rfl)) ?_
 rintro r ix ⟨rfl,dm,aA⟩
 have ku:=sp.aq aA
 have dW:=ar.bs aA
 have c5:I (.bp 8 (.c (.ptr h.length 0 (0+0)))) ix=some (.agg (bH n aG)):=iE ku (o:=0+0) (n:=8) (by simp) (by decide)
 have ew:I (.bp 8 (.c (.ptr iY.length 0 (0+0)))) ix=some (.agg (bH m cf)):=iE dm (o:=0+0) (n:=8) (by simp) (by decide)
 simp only[ku.af,dm.af,ku.ag (o:=0+8) (c:= .str x.n) rfl,dm.ag (o:=0+8) (c:= .str y.n) rfl,c5,ew,aO,aN,aZ,bn,bl,id_eq,bP,bq,a1,bC,a0,a5]
 refine gp dW fun _=> ?_
 refine aj.ad (Ax hw bV b_ b0 (cp.aq dW) (du.aq dW)) ?_
 rintro v aQ ⟨rfl,aT⟩
 simp only[a0]
 exact kP (dW.bs aT)
def rf(j:Nat)(x y:hB):Bool:=x.t==y.t&&(x.n==y.n&&(hF j x.on y.on))
theorem aoc{j w D:Nat}(b_:D≤j){x:hB}(b0:g_ w D x.on):rf j x x=true:=by simp[rf,u2 b_ b0]
theorem aod{j w D:Nat}(hw:w<j)(bV:w≤4611686018427387904)(b_:D≤j){av bx:Nat→Prop}{h:Lo}{cJ eO:V}{x y:hB}(b0:g_ w D x.on)(t:eM.aK av h cJ x)(bR:eM.aK bx h eO y):aj (HI j [cJ,eO] h) fun v aa=>v= .bool (rf j x y)∧ai h aa []:=by
 obtain⟨n,aG,ah,aV,rfl,cp⟩:=t
 obtain⟨m,cf,dF,bb,rfl,du⟩:=bR
 show aj (Ny j x.t x.n n.k n.op n.eh n.ed n.ak n.dG n.c7 aG y.t y.n m.k m.op m.eh m.ed m.ak m.dG m.c7 cf h) _
 unfold rf
 rw[aV] at b0⊢
 rw[bb]
 simp only[Ny]
 refine aj.ad (fO (cs:=h8 x.t x.n n aG) (by simp only[List.all_cons,List.all_nil,gU cp];rfl)) ?_
 rintro p iY ⟨rfl,sp,ar⟩
 refine aj.ad (fO (cs:=h8 y.t y.n m cf) (by simp only[List.all_cons,List.all_nil,gU du];rfl)) ?_
 rintro r ix ⟨rfl,dm,aA⟩
 have ku:=sp.aq aA
 have dW:=ar.bs aA
 have c5:I (.bp 8 (.c (.ptr h.length 0 (0+2)))) ix=some (.agg (bH n aG)):=iE ku (o:=0+2) (n:=8) (by simp) (by decide)
 have ew:I (.bp 8 (.c (.ptr iY.length 0 (0+2)))) ix=some (.agg (bH m cf)):=iE dm (o:=0+2) (n:=8) (by simp) (by decide)
 simp only[ku.af,dm.af,ku.ag (o:=0+0) (c:= .str x.t) rfl,dm.ag (o:=0+0) (c:= .str y.t) rfl,ku.ag (o:=0+1) (c:= .str x.n) rfl,dm.ag (o:=0+1) (c:= .str y.n) rfl,c5,ew,aO,aN,aZ,bn,bl,id_eq,bP,bq,a1,bC,a0,a5]
 refine gp dW fun _=> ?_
 refine gp dW fun _=> ?_
 refine aj.ad (Ax hw bV b_ b0 (cp.aq dW) (du.aq dW)) ?_
 rintro v aQ ⟨rfl,aT⟩
 simp only[a0]
 exact kP (dW.bs aT)
def rh(j:Nat)(x y:iH):Bool:=x.d==y.d&&(hF j x.e y.e)
theorem aoe{j w D:Nat}(b_:D≤j){x:iH}(b0:g_ w D x.e):rh j x x=true:=by simp[rh,u2 b_ b0]
theorem aof{j w D:Nat}(hw:w<j)(bV:w≤4611686018427387904)(b_:D≤j){av bx:Nat→Prop}{h:Lo}{cJ eO:V}{x y:iH}(b0:g_ w D x.e)(t:eS.aK av h cJ x)(bR:eS.aK bx h eO y):aj (HL j [cJ,eO] h) fun v aa=>v= .bool (rh j x y)∧ai h aa []:=by
 obtain⟨n,aG,ah,aV,rfl,cp⟩:=t
 obtain⟨m,cf,dF,bb,rfl,du⟩:=bR
 show aj (NA j n.k n.op n.eh n.ed n.ak n.dG n.c7 aG x.d m.k m.op m.eh m.ed m.ak m.dG m.c7 cf y.d h) _
 unfold rh
 rw[aV] at b0⊢
 rw[bb]
 simp only[NA]
 refine aj.ad (fO (cs:=fT n aG (.bool x.d)) (by simp only[List.all_cons,List.all_nil,gU cp];rfl)) ?_
 rintro p iY ⟨rfl,sp,ar⟩
 refine aj.ad (fO (cs:=fT m cf (.bool y.d)) (by simp only[List.all_cons,List.all_nil,gU du];rfl)) ?_
 rintro r ix ⟨rfl,dm,aA⟩
 have ku:=sp.aq aA
 have dW:=ar.bs aA
 have c5:I (.bp 8 (.c (.ptr h.length 0 (0+0)))) ix=some (.agg (bH n aG)):=iE ku (o:=0+0) (n:=8) (by simp) (by decide)
 have ew:I (.bp 8 (.c (.ptr iY.length 0 (0+0)))) ix=some (.agg (bH m cf)):=iE dm (o:=0+0) (n:=8) (by simp) (by decide)
 simp only[ku.af,dm.af,ku.ag (o:=0+8) (c:= .bool x.d) rfl,dm.ag (o:=0+8) (c:= .bool y.d) rfl,c5,ew,aO,aN,aZ,bn,bl,id_eq,bP,bq,a1,bC,a0,a5]
 refine gp dW fun _=> ?_
 refine aj.ad (Ax hw bV b_ b0 (cp.aq dW) (du.aq dW)) ?_
 rintro v aQ ⟨rfl,aT⟩
 simp only[a0]
 exact kP (dW.bs aT)
def u3(j:Nat)(a b:k7):Bool:=a.ch==b.ch&&(a.star==b.star&&(a.b7==b.b7&&(gV (re j) a.items b.items&&(gV (rf j) a.eH b.eH&&(gV (hF j) a.c1 b.c1&&(gV (hF j) a.fh b.fh&&gV (rh j) a.eV b.eV))))))
def lD(j:Nat)(a b:ea):Bool:=a.k==b.k&&(a.name==b.name&&(a.on==b.on&&(a.un==b.un&&(gV ql a.hk b.hk&&(gV (fun x y=>x==y) a.keys b.keys&&(gV (hF j) a.c1 b.c1&&(gV (gV (hF j)) a.rows b.rows&&(gV (rb j) a.ft b.ft&&u3 j a.q b.q))))))))
theorem aog{j w D N:Nat}(b_:D≤j){m:ea}(G:h9 w D N m):lD j m m=true:=by
 unfold lD u3
 simp only[beq_self_eq_true,Bool.true_and,Bool.and_eq_true]
 exact⟨ra fun x _=>anY x,ra fun x _=>beq_self_eq_true x,ra fun x au=>u2 b_ (jS (G.c1 x au)),ra fun r bc=>ra fun x au=>u2 b_ (jS (G.rows r bc x au)),ra fun x au=>an9 b_ (jS (G.ft x au)),
  ra fun x au=>aoa b_ (jS (G.items x au)),ra fun x au=>aoc b_ (jS (G.eH x au)),ra fun x au=>u2 b_ (jS (G.oP x au)),ra fun x au=>u2 b_ (jS (G.fh x au)),ra fun x au=>aoe b_ (jS (G.eV x au))⟩
theorem aoh{j w D N:Nat}(hw:w<j)(bV:w≤4611686018427387904)(b_:D≤j)(di:N≤1000000000000)(Wf:N<j){av bx:Nat→Prop}{h:Lo}{m cC:ea}(G:h9 w D N m){a b c d e eK c2 c0 g4 ct:V}
  (t1:aC 9 eC av h a m.q.items) (t2:aC 10 eM av h b m.q.eH) (t3:aC 8 bL av h c m.q.c1) (t4:aC 8 bL av h d m.q.fh) (t5:aC 9 eS av h e m.q.eV) (de:aC 9 eC bx h eK cC.q.items) (cD:aC 10 eM bx h c2 cC.q.eH) (dd:aC 8 bL bx h c0 cC.q.c1) (dh:aC 8 bL bx h g4 cC.q.fh) (dZ:aC 9 eS bx h ct cC.q.eV):
  aj (HM j m.q.ch m.q.star a b c d e m.q.b7 cC.q.ch cC.q.star eK c2 c0 g4 ct cC.q.b7 h) fun v aa=>v= .bool (u3 j m.q cC.q)∧ai h aa []:=by
 unfold u3
 simp only[HM]
 refine aj.ad (fO (cs:=e2 m.q.ch m.q.star a b c d e m.q.b7) (qc (aC.a8 t1).2 (aC.a8 t2).2 (aC.a8 t3).2 (aC.a8 t4).2 (aC.a8 t5).2)) ?_
 rintro p R ⟨rfl,sp,ar⟩
 refine aj.ad (fO (cs:=e2 cC.q.ch cC.q.star eK c2 c0 g4 ct cC.q.b7) (qc (aC.a8 de).2 (aC.a8 cD).2 (aC.a8 dd).2 (aC.a8 dh).2 (aC.a8 dZ).2)) ?_
 rintro r ae ⟨rfl,dm,aA⟩
 replace sp:=sp.aq aA
 have k:=ar.bs aA
 simp only[sp.af,dm.af,sp.ag (o:=0+0) (c:= .bool m.q.ch) rfl,dm.ag (o:=0+0) (c:= .bool cC.q.ch) rfl,sp.ag (o:=0+1) (c:= .bool m.q.star) rfl,dm.ag (o:=0+1) (c:= .bool cC.q.star) rfl,sp.ag (o:=0+7) (c:= .int .i64 m.q.b7) rfl,dm.ag (o:=0+7) (c:= .int .i64 cC.q.b7) rfl,sp.ag (o:=0+2) (c:=a) rfl,dm.ag (o:=0+2) (c:=eK) rfl,aO,a0,a1]
 refine gp k fun _=> ?_
 refine gp k fun _=> ?_
 refine gp k fun _=> ?_
 refine aj.ad (an1 (q:=re j) (aC.aq t1 k) (aC.aq de k) (by have:=G.m4;omega) (by have:=G.m4;omega) (fun h cJ eO x y au t bR=>show aj (HF j [cJ,eO] h) _ from aob hw bV b_ (jS (G.items x au)) t bR)) ?_
 rintro v aQ ⟨rfl,aT⟩
 replace sp:=sp.aq aT
 replace dm:=dm.aq aT
 replace k:=k.bs aT
 simp only[a0,sp.af,dm.af,sp.ag (o:=0+3) (c:=b) rfl,dm.ag (o:=0+3) (c:=c2) rfl,aO]
 refine gp k fun _=> ?_
 refine aj.ad (an2 (q:=rf j) (aC.aq t2 k) (aC.aq cD k) (by have:=G.m5;omega) (by have:=G.m5;omega) (fun h cJ eO x y au t bR=>show aj (HI j [cJ,eO] h) _ from aod hw bV b_ (jS (G.eH x au)) t bR)) ?_
 rintro v bo ⟨rfl,bu⟩
 replace sp:=sp.aq bu
 replace dm:=dm.aq bu
 replace k:=k.bs bu
 simp only[a0,sp.af,dm.af,sp.ag (o:=0+4) (c:=c) rfl,dm.ag (o:=0+4) (c:=c0) rfl,aO]
 refine gp k fun _=> ?_
 refine aj.ad (I2 (q:=hF j) (aC.aq t3 k) (aC.aq dd k) (by have:=G.nz;omega) (by have:=G.nz;omega) (fun h cJ eO x y au t bR=>show aj (rL j (ir j j) [cJ,eO] h) _ from I3 hw bV b_ (jS (G.oP x au)) t bR)) ?_
 rintro v bI ⟨rfl,bX⟩
 replace sp:=sp.aq bX
 replace dm:=dm.aq bX
 replace k:=k.bs bX
 simp only[a0,sp.af,dm.af,sp.ag (o:=0+5) (c:=d) rfl,dm.ag (o:=0+5) (c:=g4) rfl,aO]
 refine gp k fun _=> ?_
 refine aj.ad (I2 (q:=hF j) (aC.aq t4 k) (aC.aq dh k) (by have:=G.nA;omega) (by have:=G.nA;omega) (fun h cJ eO x y au t bR=>show aj (rL j (ir j j) [cJ,eO] h) _ from I3 hw bV b_ (jS (G.fh x au)) t bR)) ?_
 rintro v cR ⟨rfl,cP⟩
 replace sp:=sp.aq cP
 replace dm:=dm.aq cP
 replace k:=k.bs cP
 simp only[a0,sp.af,dm.af,sp.ag (o:=0+6) (c:=e) rfl,dm.ag (o:=0+6) (c:=ct) rfl,aO]
 refine gp k fun _=> ?_
 refine aj.ad (an3 (q:=rh j) (aC.aq t5 k) (aC.aq dZ k) (by have:=G.m6;omega) (by have:=G.m6;omega) (fun h cJ eO x y au t bR=>show aj (HL j [cJ,eO] h) _ from aof hw bV b_ (jS (G.eV x au)) t bR)) ?_
 rintro v eF ⟨rfl,dv⟩
 replace sp:=sp.aq dv
 replace dm:=dm.aq dv
 replace k:=k.bs dv
 simp only[a0]
 exact kP k
theorem Wg{j w D N:Nat}(hw:w<j)(bV:w≤4611686018427387904)(b_:D≤j)(di:N≤1000000000000)(Wf:N<j){av bx:Nat→Prop}{h:Lo}{m cC:ea}(G:h9 w D N m){cJ eO:V}(u4:hl.aK av h cJ m)(dG:hl.aK bx h eO cC):
  aj (uW j cJ eO h) fun v aa=>v= .bool (lD j m cC)∧ai h aa []:=by
 obtain⟨bF,bD,b8,cu,cK,a,b,c,d,e,rfl,de,cD,dd,dh,dZ,t1,t2,t3,t4,t5⟩:=u4
 obtain⟨d1,d2,d3,d4,d5,eK,c2,c0,g4,ct,rfl,e7,ib,oM,qf,iQ,s1,s2,eu,hx,kO⟩:=dG
 unfold lD
 simp only[uW]
 refine aj.ad (fO (cs:=fb m.k m.name m.on m.un bF bD b8 cu cK m.q.ch m.q.star a b c d e m.q.b7) (jk (aC.a8 de).2 (aC.a8 cD).2 (aC.a8 dd).2 (aC.a8 dh).2 (aC.a8 dZ).2 (aC.a8 t1).2 (aC.a8 t2).2 (aC.a8 t3).2 (aC.a8 t4).2 (aC.a8 t5).2)) ?_
 rintro p R ⟨rfl,sp,ar⟩
 refine aj.ad (fO (cs:=fb cC.k cC.name cC.on cC.un d1 d2 d3 d4 d5 cC.q.ch cC.q.star eK c2 c0 g4 ct cC.q.b7) (jk (aC.a8 e7).2 (aC.a8 ib).2 (aC.a8 oM).2 (aC.a8 qf).2 (aC.a8 iQ).2 (aC.a8 s1).2 (aC.a8 s2).2 (aC.a8 eu).2 (aC.a8 hx).2 (aC.a8 kO).2)) ?_
 rintro r ae ⟨rfl,dm,aA⟩
 replace sp:=sp.aq aA
 have k:=ar.bs aA
 have f43:=an6 (j:=j) (aC.aq de k) (aC.aq e7 k) (by have:=G.cY;omega) (by have:=G.cY;omega)
 have f44:=an7 (j:=j) (aC.aq cD k) (aC.aq ib k) (by have:=G.gk;omega) (by have:=G.gk;omega)
 simp only[sp.af,dm.af,sp.ag (o:=0+0) (c:= .int .i64 m.k) rfl,dm.ag (o:=0+0) (c:= .int .i64 cC.k) rfl,sp.ag (o:=0+1) (c:= .str m.name) rfl,dm.ag (o:=0+1) (c:= .str cC.name) rfl,sp.ag (o:=0+2) (c:= .str m.on) rfl,dm.ag (o:=0+2) (c:= .str cC.on) rfl,sp.ag (o:=0+3) (c:= .bool m.un) rfl,dm.ag (o:=0+3) (c:= .bool cC.un) rfl,
  sp.ag (o:=0+4) (c:=bF) rfl,dm.ag (o:=0+4) (c:=d1) rfl,sp.ag (o:=0+5) (c:=bD) rfl,dm.ag (o:=0+5) (c:=d2) rfl,sp.ag (o:=0+8) (c:=cK) rfl,dm.ag (o:=0+8) (c:=d5) rfl,aO,a1,bC,a0,f43,f44,fp]
 refine gp k fun _=> ?_
 refine gp k fun _=> ?_
 refine gp k fun _=> ?_
 refine gp k fun _=> ?_
 refine gp k fun _=> ?_
 refine gp k fun _=> ?_
 refine aj.ad (I2 (q:=hF j) (aC.aq dZ k) (aC.aq iQ k) (by have:=G.oQ;omega) (by have:=G.oQ;omega) (fun h cJ eO x y au t bR=>show aj (rL j (ir j j) [cJ,eO] h) _ from I3 hw bV b_ (jS (G.c1 x au)) t bR)) ?_
 rintro v aQ ⟨rfl,aT⟩
 replace sp:=sp.aq aT
 replace dm:=dm.aq aT
 replace k:=k.bs aT
 simp only[a0,sp.af,dm.af,sp.ag (o:=0+6) (c:=b8) rfl,dm.ag (o:=0+6) (c:=d3) rfl,aO]
 refine gp k fun _=> ?_
 refine aj.ad (an5 (q:=gV (hF j)) (aC.aq dd k) (aC.aq oM k) (by have:=G.kg;omega) (by have:=G.kg;omega) (fun h cJ eO x y au t bR=>show aj (Hz j cJ eO h) _ from an8 hw bV b_ t bR (by have:=G.qk x au;omega) (by have:=G.qk x au;omega) (fun y bT=>jS (G.rows x au y bT)))) ?_
 rintro v bo ⟨rfl,bu⟩
 replace sp:=sp.aq bu
 replace dm:=dm.aq bu
 replace k:=k.bs bu
 simp only[a0,sp.af,dm.af,sp.ag (o:=0+7) (c:=cu) rfl,dm.ag (o:=0+7) (c:=d4) rfl,aO]
 refine gp k fun _=> ?_
 refine aj.ad (an4 (q:=rb j) (aC.aq dh k) (aC.aq qf k) (by have:=G.l4;omega) (by have:=G.l4;omega) (fun h cJ eO x y au t bR=>show aj (HC j [cJ,eO] h) _ from an_ hw bV b_ (jS (G.ft x au)) t bR)) ?_
 rintro v bI ⟨rfl,bX⟩
 replace sp:=sp.aq bX
 replace dm:=dm.aq bX
 replace k:=k.bs bX
 have c5:I (.bp 8 (.c (.ptr h.length 0 (0+9)))) bI=some (.agg (e2 m.q.ch m.q.star a b c d e m.q.b7)):=iE sp (o:=0+9) (n:=8) (by simp) (by decide)
 have ew:I (.bp 8 (.c (.ptr R.length 0 (0+9)))) bI=some (.agg (e2 cC.q.ch cC.q.star eK c2 c0 g4 ct cC.q.b7)):=iE dm (o:=0+9) (n:=8) (by simp) (by decide)
 simp only[a0,sp.af,dm.af,c5,ew,aO,aN,aZ,bn,bl,id_eq,bP,bq,a1,bC,a0,a5]
 refine gp k fun _=> ?_
 refine aj.ad (aoh hw bV b_ di Wf G (aC.aq t1 k) (aC.aq t2 k) (aC.aq t3 k) (aC.aq t4 k) (aC.aq t5 k) (aC.aq s1 k) (aC.aq s2 k) (aC.aq eu k) (aC.aq hx k) (aC.aq kO k)) ?_
 rintro v cR ⟨rfl,cP⟩
 simp only[a0]
 exact kP (k.bs cP)
end Go.Proofs.YtjpjeilfmjdhcaaGreat.h3
