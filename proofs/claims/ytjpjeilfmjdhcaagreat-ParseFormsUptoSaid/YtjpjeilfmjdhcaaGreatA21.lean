/- The reader of statements walked: a text's statement, or its error. No condition. -/
import Derived.Test.YtjpjeilfmjdhcaaGreatA20
import Derived.Test.YtjpjeilfmjdhcaaGreatA19
set_option maxRecDepth 100000
set_option linter.unusedVariables false
set_option linter.unusedSimpArgs false
set_option linter.unnecessarySimpa false
namespace Go.Proofs.YtjpjeilfmjdhcaaGreat.f_
open Go E ep eI fq fw fC
theorem NB{α:Type}{ws:List br}{m:fr α}:∀(f:Nat) (acc:List α) (s:bB),(gn ws m f acc s).1.length≤acc.length+f
 |0,acc,s=>Nat.le_refl _
 |f+1,acc,s=>by
  simp only[gn]
  split
  ·refine Nat.le_trans (NB f _ _) ?_
   simp;omega
  ·simp
theorem alG(ws:List br)(s:bB):(ji ws s).1.rows.length≤ws.length+2:=by
 have R:∀t,(mZ ws t).1.rows=[]:=fun t=>by simp only[mZ];split;rfl;split<;>rfl
 have ae:∀t,(nx ws t).1.rows=[]:=fun t=>by simp only[nx];split;rfl;split<;>rfl
 have aQ:∀t,(qa ws t).1.rows.length≤ws.length+2:=fun t=>by
  simp only[qa,k8]
  refine Nat.le_trans (NB _ _ _) ?_
  simp;omega
 have cR:∀t,(ny ws t).1.rows=[]:=fun t=>by simp only[ny];split;rfl;split;rfl;split<;>rfl
 simp only[ji]
 split
 ·rw[R];simp
 ·split
  ·rw[ae];simp
  ·split
   ·exact aQ _
   ·split
    ·simp only[qV];simp[ek]
    ·split
     ·simp only[qW];simp[ek]
     ·split
      ·simp[ek]
      ·rw[cR];simp
theorem Vv{j:Nat}(aS:5000000<j){h:Lo}(text:Lu):aj (xd j text h) fun v aa=>ai h aa []∧∃V,v= .bW [V, .int .i64 (jA text).2]∧h2.aK (fun o=>h.length≤o) aa V (jA text).1:=by
 have iD:∀dw:Lo,I (.build [.int .i64 0,(.str []),(.str []), .bool false, .ab, .ab, .ab, .ab, .ab, .bool false, .bool false, .ab, .ab, .ab, .ab, .ab, .int .i64 0] []) dw=some (.agg g0):=fun _=>rfl
 simp only[xd]
 refine aj.ad (hs (cs:=g0) rfl) ?_
 rintro du R ⟨rfl,dX,ar⟩
 have c5:h.length<R.length:=dX.lt
 refine aj.ad (af_ (by omega)) ?_
 rintro v ae ⟨aA,hw⟩
 have hi:=dX.aq aA
 have dW:=ar.bs aA
 have ew:=aA.len
 
 have fin:∀(g:Lo) (aM:Lv) (m:ea) (NC:Int),bY g h.length g0→ai h g []→aM.length=17→aM.all V.scalar=true→h2.aK (fun o=>h.length<o) g (.agg aM) m→∀ND,ND=NC→
   aj (ad (aB (.store 17 (.c (.ptr h.length 0 0)) (.c (.agg aM))) g) fun _ aY=>J (dS aY 17 (.ptr h.length 0 0)) fun r=>some ((.bW [r, .int .i64 ND]),aY)) fun v aa=>ai h aa []∧∃V,v= .bW [V, .int .i64 NC]∧h2.aK (fun o=>h.length≤o) aa V m:=by
  intro g aM m NC CF nt ax a6 t ND he
  subst he
  refine aj.ad (CF.ic (aM:=aM) (by rw[ax];rfl) (by simp) a6 (n:=17) rfl) ?_
  rintro u aY ⟨alH,Vw⟩
  have alI:dS aY 17 (.ptr h.length 0 0)=some (.agg aM):=by
   have:=alH.bp
   rwa[ax] at this
  simp only[alI,aO]
  refine aj.some ⟨nt.trans Vw (fun o U=>by cases U) (fun o U bN=>by simp at U;omega),_,rfl, ?_⟩
  exact h2.mono (h2.aJ t Vw (fun o U z=>by simp at U;omega)) (fun o _ z=>Nat.le_of_lt z)
 cases Db:oG text with
 |mk ao e=>
  rw[Db] at hw
  cases ao with
  |none=>
   obtain⟨rfl,he⟩:=hw
   have en:(e !=0)=true:=by simpa using he
   have fa:jA text=(ek,e):=by unfold jA;rw[Db]
   rw[fa]
   simp only[mf,aN,aZ,bn,bl,id_eq,bq,a1,a5,en,aU,iD,aO]
   exact fin ae g0 ek e hi dW rfl rfl (w3 (k:=0) (name:=[]) (on:=[]) (un:=false)) e rfl
  |some ws=>
   obtain⟨aW,rfl,cx,-,zp⟩:=hw
   have fa:jA text=qX ws:=by unfold jA;rw[Db]
   rw[fa]
   have l1:=UJ Db
   have gI:=M_ Db
   have fi:((0:Int) !=0)=false:=by decide
   simp only[mf,aN,aZ,bn,bl,id_eq,bq,a1,a5,fi,a7]
   
   have Vx:aW.cells=[aW]∧aW.scalar=true:=oE cx
   have hJ:I (.build [.ab, .int .i64 0, .int .i64 0] [(0,(1,(.c aW)))]) ae=some (.agg [aW, .int .i64 0, .int .i64 0]):=by
    have:je [.ab, .int .i64 0, .int .i64 0] [(0,1,aW)]=some [aW, .int .i64 0, .int .i64 0]:=by
     obtain⟨-,fZ⟩:=Vx
     cases aW<;>first|rfl|(simp[V.scalar] at fZ)
    simp only[I,aB,e8,Bv,List.map_cons,List.map_nil,fW,this];rfl
   obtain⟨fD,aQ,cb,rfl,ha,aT⟩:=fO (h:=ae) (cs:=[aW, .int .i64 0, .int .i64 0]) (by simp[Vx.2];exact rfl)
   have f8:FA j aW ae=some (.ptr ae.length 0 0,aQ):=by
    simp only[FA,hJ,aO,bP,aN,aZ,bn,bl,id_eq,bq,a1,a5,cb,fp]
   have i_:ae.length<aQ.length:=ha.lt
   have hh:I (.build [.ki] [(0,(1,(.c (.ptr ae.length 0 0))))]) aQ=some (.agg [.ptr ae.length 0 0]):=rfl
   simp only[f8,fp,hh,aO,bP,aN,aZ,bn,bl,id_eq,bq,a5]
   refine aj.ad (fO (cs:=[.ptr ae.length 0 0]) rfl) ?_
   rintro bf bo ⟨rfl,p2,bu⟩
   have ns:aQ.length<bo.length:=p2.lt
   have alJ:e0 bo ae.length aW ws ⟨0,0⟩:=⟨ha.aq bu,(cx.aq aT).aq bu,fun z=>by have:=cx.lt z;omega,Nat.zero_le _,l1⟩
   have bS:ck bo aQ.length ae.length aW ws ⟨0,0⟩:=⟨alJ,p2,by omega⟩
   have lZ:ai h bo []:=(dW.bs aT).bs bu
   refine aj.ad (ajR aS gI bS) ?_
   rintro v bI ⟨dn,bX,t5⟩
   obtain⟨P,Dc⟩:∃p,p=ji ws ⟨0,0⟩:=⟨_,rfl⟩
   rw[←Dc] at dn t5
   have q5:ai h bI []:=lZ.trans bX (fun o U=>by cases U) (fun o U bN=>by simp at U;omega)
   have jy:=(((hi.aq aT).aq bu).aJ bX (fun z=>by simp at z;omega))
   have jP:=bX.len
   have arZ:P.1.rows.length≤1000000:=by rw[Dc];have:=alG ws ⟨0,0⟩;omega
   have alK:=t5
   obtain⟨bF,bD,b8,cu,cK,a,b,c,d,ct,rfl,de,cD,dd,dh,dZ,t1,t2,t3,t4,alL⟩:=alK
   have Vy:=jk (k:=P.1.k) (name:=P.1.name) (on:=P.1.on) (un:=P.1.un) (ch:=P.1.q.ch) (star:=P.1.q.star) (b7:=P.1.q.b7) (bw.a8 de).2 (bw.a8 cD).2 (bw.a8 dd).2 (bw.a8 dh).2 (bw.a8 dZ).2 (bw.a8 t1).2 (bw.a8 t2).2 (bw.a8 t3).2 (bw.a8 t4).2 (bw.a8 alL).2
   refine qZ (n:=17) (fU:=g0) (aM:=fb P.1.k P.1.name P.1.on P.1.un bF bD b8 cu cK P.1.q.ch P.1.q.star a b c d ct P.1.q.b7) rfl rfl rfl (by decide) Vy fun cR lJ cP=> ?_
   have ej:=dn.aq cP
   have k3:bI.length<cR.length:=lJ.lt
   have t6:=h2.aJ t5 cP (fun o U=>by cases U)
   simp only[ej.st.bz,ej.st.af,ej.dp,aO]
   refine aj.ad (fH [59] ej.rd) ?_
   rintro v eF ⟨rfl,d7,dv⟩
   obtain⟨E,dx⟩:∃p,p=bA ws [59] P.2:=⟨_,rfl⟩
   rw[←dx] at d7⊢
   have fy:=ej.up dv d7
   simp only[a0]
   have key:aL (Hr j (.ptr aQ.length 0 0) eF) fun x ak aa=>x= .normal∧ak=[]∧ck aa aQ.length ae.length aW ws (r3 ws P.2)∧ai eF aa [ae.length]:=by
    simp only[Hr,fy.st.bz,fy.st.af,fy.dp,aO,Tq fy.rd,fp,a0,r3,←dx]
    by_cases z:E.2.i=ws.length
    ·simp only[decide_eq_true z,Bool.not_true,a7,if_pos z]
     exact aL.some ⟨rfl,rfl,fy,ai.refl _ _⟩
    ·simp only[decide_eq_false z,Bool.not_false,aU,if_neg z]
     refine aL.ad (wM fy.rd) ?_
     rintro v eR ⟨rfl,d8,eJ⟩
     exact aL.some ⟨rfl,rfl,fy.up eJ d8,eJ⟩
   refine aj.bO key ?_
   rintro x ak eR ⟨rfl,rfl,gm,eJ⟩
   have Dd:=ai.b6 dv eJ
   have uF:=Dd.len
   have s9:=(jy.aq cP).aJ Dd (fun z=>by simp at z;omega)
   have r6:=lJ.aJ Dd (fun z=>by simp at z;omega)
   have t8:=h2.mono (h2.aJ t6 Dd (fun o U z=>by simp at U;omega)) (bx:=fun o=>h.length<o) (fun o _ z=>by omega)
   have Vz:ai h eR []:=(q5.bs cP).trans Dd (fun o U=>by cases U) (fun o U bN=>by simp at U;omega)
   simp only[decide_true,aU,a5,gm.st.bz,gm.st.af,gm.dp,aO,Tr gm.rd,fp,a1]
   by_cases z:(r3 ws P.2).e=0
   ·have NF:((r3 ws P.2).e !=0)=false:=by rw[z];rfl
    simp only[NF,a7,r6.e4 (n:=17) rfl,aO]
    refine aj.ad (Vt (Na t8) (by omega) (by omega)) ?_
    rintro bv fZ ⟨rfl,hv⟩
    have n3:=s9.aq hv
    have CN:=r6.aq hv
    have t9:=h2.aJ t8 hv (fun o U=>by cases U)
    have VA:=Vz.bs hv
    simp only[a0]
    cases lL:qb P.1 with
    |true=>
     have bc:qX ws=(ek,5):=by simp only[qX,←Dc,z,ne_eq,not_true_eq_false,if_false,lL,if_true]
     rw[bc]
     simp only[aU,iD,aO]
     exact fin fZ g0 ek 5 n3 VA rfl rfl (w3 (k:=0) (name:=[]) (on:=[]) (un:=false)) 5 rfl
    |false=>
     have bc:qX ws=(P.1,0):=by simp only[qX,←Dc,z,ne_eq,not_true_eq_false,if_false,lL,Bool.false_eq_true]
     rw[bc]
     simp only[a7,CN.e4 (n:=17) rfl,aO]
     exact fin fZ _ P.1 0 n3 VA rfl Vy t9 0 rfl
   ·have NF:((r3 ws P.2).e !=0)=true:=by simpa using z
    have bc:qX ws=(ek,(r3 ws P.2).e):=by simp only[qX,←Dc];rw[if_pos z]
    rw[bc]
    simp only[NF,aU,iD,aO,gm.st.bz,gm.st.af,gm.dp,Tr gm.rd,fp,a1]
    exact fin eR g0 ek (r3 ws P.2).e s9 Vz rfl rfl (w3 (k:=0) (name:=[]) (on:=[]) (un:=false)) _ rfl
structure h9(w D N:Nat)(m:ea):Prop where
 rows:∀r,r∈m.rows→∀x,x∈r→fY w D x
 ft:∀a,a∈m.ft→fY w D a.e
 c1:∀x,x∈m.c1→fY w D x
 items:∀a,a∈m.q.items→fY w D a.e
 eH:∀a,a∈m.q.eH→fY w D a.on
 oP:∀x,x∈m.q.c1→fY w D x
 fh:∀x,x∈m.q.fh→fY w D x
 eV:∀a,a∈m.q.eV→fY w D a.e
 cY:m.hk.length≤N
 gk:m.keys.length≤N
 kg:m.rows.length≤N
 l4:m.ft.length≤N
 oQ:m.c1.length≤N
 m4:m.q.items.length≤N
 m5:m.q.eH.length≤N
 nz:m.q.c1.length≤N
 nA:m.q.fh.length≤N
 m6:m.q.eV.length≤N
 qk:∀r,r∈m.rows→r.length≤N
structure l5(w:Nat)(m:ea):Prop where
 VB:m.name.length≤w
 on:m.on.length≤w
 cs:∀c,c∈m.hk→c.n.length≤w
 z7:∀k,k∈m.keys→k.length≤w
 eo:∀a,a∈m.ft→a.c.length≤w
 is:∀a,a∈m.q.items→a.n.length≤w
 rs:∀a,a∈m.q.eH→a.t.length≤w∧a.n.length≤w
end Go.Proofs.YtjpjeilfmjdhcaaGreat.f_
namespace Go.Proofs.YtjpjeilfmjdhcaaGreat.uV
open Go E E.K ep eI fq fw fC f_ m3 CY tk Hm
def sh(r:List X):V:=ee (r.map eN)
theorem alM(r:List X):ff (sh r)=true:=xa r
theorem G5{K:Nat→Prop}{h:Lo}{v:V}(a6:v.scalar=true)(an:v.cells=[v])(bd:ff v=true):gJ true K h v v:=gJ.refl (by rw[an];simp[a6]) bd (.inl rfl)
variable {k:Int} {name on:Lu} {un:Bool} {bF bD b8 c1:V} {ch star:Bool} {eK c2 c0 g4 ct:V} {b7:Int}
theorem alN{j w D:Nat}(hw:w<j)(bV:w≤1000000000)(b_:D≤j){aI:Lo}{gx io:Nat}{eB:Lv}{a:V}{xs:List (List X)}(en:gx≠io)(uR:io<aI.length)(dR:bY aI gx eB)(bh:eB[0+6]? =some a)(l:aC 1 (cl 8 bL) dH aI a xs)(ax:xs.length≤w)(g:∀r,r∈xs→r.length≤w∧∀x,x∈r→fY w D x):
  ∀(m i n:Nat) (h:Lo) (cf:V),xs.length=i+m→m<n→ai aI h [io]→bY h io (fb k name on un bF bD cf .ab c1 ch star eK c2 c0 g4 ct b7)→bw 1 (pA true) (fun o=>aI.length≤o) h cf ((xs.take i).map sh)→(i=0→cf= .ab)→
   aL (zT j n (.ptr gx 0 0) (.ptr io 0 0) xs.length i h) fun x ak aa=>x= .exit 0∧ak=[]∧ai aI aa [io]∧∃gO,bY aa io (fb k name on un bF bD gO .ab c1 ch star eK c2 c0 g4 ct b7)∧ef true (fun o=>aI.length≤o) aa gO (ee (xs.map sh)):=by
 intro m
 induction m with
 |zero=>
  intro i n h cf hm bd k st L z
  obtain⟨n,rfl⟩:∃g,n=g+1:=⟨n-1,by omega⟩
  obtain rfl:i=xs.length:=by omega
  rw[List.take_length] at L
  simp only[zT,Hn,C2,a7]
  exact aL.some ⟨rfl,rfl,k,cf,st,w8 L (fun q=>z (by simpa using q))⟩
 |succ m ba=>
  intro i n h cf hm bd k st L z
  obtain⟨n,rfl⟩:∃g,n=g+1:=⟨n-1,by omega⟩
  have aw:i<xs.length:=by omega
  obtain⟨es,s,-,-,he⟩:=lC l k
  obtain⟨e,aV,le⟩:=he i aw
  have le:aC 8 bL dH h e xs[i]:=le
  obtain⟨p,cF,cW⟩:=s.hX (k:=(i:Int)) (by omega) (by simpa using aV) (aC.a8 le).1
  obtain⟨aX,aY⟩:=g _ (List.getElem_mem aw)
  have hD:=dR.aJ k (fun q=>en (List.mem_singleton.1 q))
  have Hj:=k.len
  have q8:I (.ag (.c (.ptr io 0 (0+6)))) h=some cf:=st.ag rfl
  simp only[zT,Hn,C1 aw,aU]
  refine gR (st.af _ _ _) ?_
  refine gR q8 ?_
  refine gR (hD.af _ _ _) ?_
  refine gR (hD.ag bh) ?_
  refine gR cF ?_
  refine gR cW ?_
  refine sS (Ha hw bV b_ le aX (fun x au=>tp (aY x au)) h) ?_
  refine Q_ q8 ?_
  refine Q_ (st.af _ _ _) ?_
  simp only[C0 aw (Nat.le_trans ax bV)]
  refine zL (b:=true) (az:=1) (io:=io) (n6:=6) (bx:=dH) (av:=fun o=>aI.length≤o) (u:=sh xs[i]) (by decide) (by decide) (by decide) st rfl L (by omega) (G5 (kf _).1 (kf _).2 (alM _))
   (fun o U q=>q.elim) (fun o U=>by omega) (by simp;omega) (MQ (kf _).2 (kf _).1) fun gO aQ ha gh aT=> ?_
  have oL:ai aI aQ [io]:=k.trans aT (fun o U _=>U) (fun o U bN=>by
   rcases List.mem_cons.1 U with rfl|U
   ·exact List.mem_cons_self
   ·have:=(bw.lt L U).2;omega)
  refine ba (i+1) n aQ gO (by omega) (by omega) oL ha ?_ (fun q=>by omega)
  have:(xs.take (i+1)).map sh=(xs.take i).map sh++ [sh xs[i]]:=by rw[←List.take_append_getElem aw,List.map_append];rfl
  rw[this]
  exact gh
theorem alO{K:Nat→Prop}{h:Lo}{x:h7}{bU:fg}{cf:V}{ah:List X}(au:x.e= .mk bU ah)(r:gJ false K h (.agg (bH bU cf)) (eN (.mk bU ah))):gJ false K h (.agg (jj x.c bU cf)) (qh x):=by
 have q:=Hf r
 unfold qh lB
 rw[au]
 refine Hh rfl (by simp only[l3,oO,List.all_cons,List.all_nil,(kf _).1];rfl) (fun o z y R ae=> ?_)
 match o with
 |0|1|2|3|4|5|6|7=>injection R with R;injection ae with ae;subst R;subst ae;exact .same rfl (.inr rfl)
 |8=>injection R with R;injection ae with ae;subst R;subst ae;exact q
 |o+9=>simp at R
theorem alP{j w D:Nat}(hw:w<j)(bV:w≤1000000000)(b_:D≤j){aI:Lo}{gx io:Nat}{eB:Lv}{a:V}{xs:List h7}(en:gx≠io)(uR:io<aI.length)(dR:bY aI gx eB)(bh:eB[0+7]? =some a)(l:aC 9 fs dH aI a xs)(ax:xs.length≤w)(g:∀x,x∈xs→fY w D x.e):
  ∀(m i n:Nat) (h:Lo) (cf:V),xs.length=i+m→m<n→ai aI h [io]→bY h io (fb k name on un bF bD b8 cf c1 ch star eK c2 c0 g4 ct b7)→bw 9 lA (fun o=>aI.length≤o) h cf ((xs.take i).map qh)→(i=0→cf= .ab)→
   aL (zU j n (.ptr gx 0 0) (.ptr io 0 0) xs.length i h) fun x ak aa=>x= .exit 2∧ak=[]∧ai aI aa [io]∧∃gO,bY aa io (fb k name on un bF bD b8 gO c1 ch star eK c2 c0 g4 ct b7)∧ef false (fun o=>aI.length≤o) aa gO (ee (xs.map qh)):=by
 intro m
 induction m with
 |zero=>
  intro i n h cf hm bd k st L z
  obtain⟨n,rfl⟩:∃g,n=g+1:=⟨n-1,by omega⟩
  obtain rfl:i=xs.length:=by omega
  rw[List.take_length] at L
  simp only[zU,Ho,C2,a7]
  exact aL.some ⟨rfl,rfl,k,cf,st,w8 L (fun q=>z (by simpa using q))⟩
 |succ m ba=>
  intro i n h cf hm bd k st L z
  obtain⟨n,rfl⟩:∃g,n=g+1:=⟨n-1,by omega⟩
  have aw:i<xs.length:=by omega
  obtain⟨es,s,-,-,he⟩:=lC l k
  obtain⟨e,aV,bU,aG,ah,au,rfl,cp⟩:=he i aw
  obtain⟨b,ec⟩:=tj s (k:=(i:Int)) (cs:=jj xs[i].c bU aG) (by omega) (by simpa using aV) rfl (by decide)
  have jC:=g _ (List.getElem_mem aw)
  rw[au] at jC
  have hD:=dR.aJ k (fun q=>en (List.mem_singleton.1 q))
  have q8:I (.ag (.c (.ptr io 0 (0+7)))) h=some cf:=st.ag rfl
  obtain⟨fi,jm⟩:=ec h (ai.refl _ _)
  have bN:=st.lt
  have Hj:=k.len
  have le:I (.bp 8 (.c (b 1))) h=some (.agg (bH bU aG)):=(jm 1).2.2 8 (show 1+8≤9 by decide)
  simp only[zU,Ho,C1 aw,aU,hD.af,st.af,hD.ag bh,q8,fi,(jm 0).1,le,(jm 1).1,(jm 0).2.1 (.str xs[i].c) rfl,aO,aN,aZ,bn,bl,id_eq,bP,bq,a1,bC,a0,a5,C0 aw (Nat.le_trans ax bV)]
  refine aL.ad (CX hw bV b_ (tp jC) cp) ?_
  rintro v ae ⟨⟨kq,rfl,bD,hI⟩,aA⟩
  obtain⟨C4,q9⟩:=ec ae aA
  have q_:=hD.aq aA
  have ds:=st.aq aA
  have xb:I (.ag (.c (.ptr io 0 (0+7)))) ae=some cf:=ds.ag rfl
  have fx:I (.build [(.str []), .int .i64 0,(.str []), .int .i64 0, .int .i64 0,(.str []),(.str []),(.str []), .ab] [(0,(1,(.c (.str xs[i].c)))),(1,(8,(.c (.agg (bH bU kq)))))]) ae=some (.agg (jj xs[i].c bU kq)):=rfl
  simp only[q_.af,ds.af,q_.ag bh,xb,C4,(q9 0).1,(q9 1).1,(q9 0).2.1 (.str xs[i].c) rfl,fx,Hg,aO,aN,aZ,bn,bl,id_eq,bP,bq,a1,bC,a0,a5]
  have gN:=(ca 9 lA).aJ L aA (fun o U=>by cases U)
  have uz:=aA.len
  refine zL (az:=9) (io:=io) (n6:=7) (bx:=fun o=>h.length≤o) (av:=fun o=>aI.length≤o) (u:=qh xs[i]) (by decide) (by decide) (by decide) ds rfl gN (by omega) (alO au hI)
   (fun o U q=>⟨by have:h.length≤o:=q;omega,fun w=>by have:=(bw.lt L w).1;have:h.length≤o:=q;omega⟩) (fun o U=>by omega) (by simp;omega) (l2 rfl (by simp only[List.all_cons,List.all_nil,bD];rfl)) fun gO aQ ha gh aT=> ?_
  have oL:ai aI aQ [io]:=(k.trans aA (C:=[io]) (fun o U _=>U) (fun o U=>by cases U)).trans aT (fun o U _=>U) (fun o U bN=>by
   rcases List.mem_cons.1 U with rfl|U
   ·exact List.mem_cons_self
   ·have:=(bw.lt L U).2;omega)
  refine ba (i+1) n aQ gO (by omega) (by omega) oL ha ?_ (fun q=>by omega)
  have:(xs.take (i+1)).map qh=(xs.take i).map qh++ [qh xs[i]]:=by rw[←List.take_append_getElem aw,List.map_append];rfl
  rw[this]
  exact gh
theorem NG{cs:Lv}{off:Nat}{v:V}{rest:List (Nat × Nat × V)}(a6:v.scalar=true)(ax:off+1≤cs.length):je cs ((off,1,v)::rest)=je (cs.take off++ [v]++cs.drop (off+1)) rest:=by
 cases v<;>first|exact if_pos ⟨rfl,ax⟩|simp[V.scalar] at a6
theorem alQ{cs ws:Lv}{off n:Nat}{rest:List (Nat × Nat × V)}(hw:ws.length=n)(ax:off+n≤cs.length):je cs ((off,n, .agg ws)::rest)=je (cs.take off++ws++cs.drop (off+n)) rest:=if_pos ⟨hw,ax⟩
theorem NH{b:Bool}{av bx:Nat→Prop}{h aa:Lo}{v u:V}{A:List Nat}(l:ef b av h v u)(k:ai h aa A)(d:∀o,o∈A→¬av o)(m:∀o,av o→bx o):ef b bx aa v u:=(l.aJ fun i aw bN=>k.same i bN (fun z=>d i z aw)).mono fun o _ q=>m o q
theorem NI(x:X):ff (lB x)=true:=xa _
theorem alR(x:ij):ff (kL x)=true:=by simp[kL,ff,ln,NI]
theorem alS(x:iH):ff (kM x)=true:=by simp[kM,ff,ln,NI]
theorem alT(x:hB):ff (kN x)=true:=by simp[kN,ff,ln,NI]
theorem alU{k:Int}{name on:Lu}{un:Bool}{bF bD iQ:V}{ch star:Bool}{a b c d e:V}{b7:Int}{g:Lo}(R:bF.scalar=true)(ae:bD.scalar=true)(bI:iQ.scalar=true)(bh:a.scalar=true)(aF:b.scalar=true)(an:c.scalar=true)(bj:d.scalar=true)(he:e.scalar=true):
  I (.build [.int .i64 0,(.str []),(.str []), .bool false, .ab, .ab, .ab, .ab, .ab, .bool false, .bool false, .ab, .ab, .ab, .ab, .ab, .int .i64 0] [(0,(1,(.c (.int .i64 k)))),(1,(1,(.c (.str name)))),(2,(1,(.c (.str on)))),(3,(1,(.c (.bool un)))),(4,(1,(.c bF))),(5,(1,(.c bD))),(8,(1,(.c iQ))),(9,(8,(.c (.agg [.bool ch, .bool star,a,b,c,d,e, .int .i64 b7]))))]) g=
   some (.agg (fb k name on un bF bD .ab .ab iQ ch star a b c d e b7)):=by
 simp only[I,aB,e8,Bv,List.map_cons,List.map_nil,fW]
 have:je g0 [(0,1, .int .i64 k),(1,1, .str name),(2,1, .str on),(3,1, .bool un),(4,1,bF),(5,1,bD),(8,1,iQ),(9,8, .agg (e2 ch star a b c d e b7))]=some (fb k name on un bF bD .ab .ab iQ ch star a b c d e b7):=by
  rw[show je g0 [(0,1, .int .i64 k),(1,1, .str name),(2,1, .str on),(3,1, .bool un),(4,1,bF),(5,1,bD),(8,1,iQ),(9,8, .agg (e2 ch star a b c d e b7))]=je (fb k name on un .ab .ab .ab .ab .ab false false .ab .ab .ab .ab .ab 0) [(4,1,bF),(5,1,bD),(8,1,iQ),(9,8, .agg (e2 ch star a b c d e b7))] from rfl]
  refine(NG R (by simp)).trans ?_
  show je (fb k name on un bF .ab .ab .ab .ab false false .ab .ab .ab .ab .ab 0) [(5,1,bD),(8,1,iQ),(9,8, .agg (e2 ch star a b c d e b7))]=_
  refine(NG ae (by simp)).trans ?_
  show je (fb k name on un bF bD .ab .ab .ab false false .ab .ab .ab .ab .ab 0) [(8,1,iQ),(9,8, .agg (e2 ch star a b c d e b7))]=_
  refine(NG bI (by simp)).trans ?_
  show je (fb k name on un bF bD .ab .ab iQ false false .ab .ab .ab .ab .ab 0) [(9,8, .agg (e2 ch star a b c d e b7))]=_
  refine(alQ rfl (by simp)).trans ?_
  rfl
 rw[show je _ _=some (fb k name on un bF bD .ab .ab iQ ch star a b c d e b7) from this]
 rfl
def z8(bF bD:V)(m:ea):V:= .agg (fb m.k m.name m.on m.un bF bD (ee (m.rows.map sh)) (ee (m.ft.map qh)) (ee (m.c1.map eN)) m.q.ch m.q.star (ee (m.q.items.map kL)) (ee (m.q.eH.map kN)) (ee (m.q.c1.map eN)) (ee (m.q.fh.map eN)) (ee (m.q.eV.map kM)) m.q.b7)
theorem HP{aK:Type}(x y:Bool)(a b c d e:V)(l:Int)(K:Bool→Bool→V→V→V→V→V→Int→Option aK):aN r_ (.agg (e2 x y a b c d e l)) K=K x y a b c d e l:=by
 simp only[r_,aN,aZ,bn,bl,id_eq,bP,bq,a1,a0,a5]
theorem alV{aK:Type}(q:k7)(K:Bool→Bool→V→V→V→V→V→Int→Option aK):aN r_ (C5 q) K=K q.ch q.star (ee (q.items.map kL)) (ee (q.eH.map kN)) (ee (q.c1.map eN)) (ee (q.fh.map eN)) (ee (q.eV.map kM)) q.b7:=HP _ _ _ _ _ _ _ _ _
theorem alW{h:Lo}{v:V}{xs:List jz}(l:aC 4 fI dH h v xs):ff v=true:=by
 obtain⟨es,s,ax,aw,he⟩:=l
 refine(G_ s aw).2 fun e au=> ?_
 obtain⟨i,hn,rfl⟩:=List.mem_iff_getElem.1 au
 obtain⟨e,aV,bb⟩:=he i (by omega)
 rw[List.getElem?_eq_getElem hn] at aV
 injection aV with aV
 rw[aV,show e=_ from bb];rfl
theorem jD{h:Lo}{v:V}{xs:List (Lu)}(l:aC 1 fM dH h v xs):ff v=true:=by
 obtain⟨es,s,ax,aw,he⟩:=l
 refine(G_ s aw).2 fun e au=> ?_
 obtain⟨i,hn,rfl⟩:=List.mem_iff_getElem.1 au
 obtain⟨e,aV,bb⟩:=he i (by omega)
 rw[List.getElem?_eq_getElem hn] at aV
 injection aV with aV
 rw[aV,show e=_ from bb];rfl
theorem VC{h:Lo}{id:Nat}{k:Int}{name on:Lu}{un:Bool}{bF bD b8 cu cK:V}{ch star:Bool}{a b c d e:V}{b7:Int}(s:bY h id (fb k name on un bF bD b8 cu cK ch star a b c d e b7)):I (.bp 8 (.c (.ptr id 0 (0+9)))) h=some (.agg (e2 ch star a b c d e b7)):=iE s (by simp) (by decide)
theorem VD{j w D N:Nat}(hw:w<j)(bV:w≤1000000000)(di:N≤w)(b_:D≤j){h:Lo}(gQ:iA h=true){m:ea}(G:h9 w D N m){bF bD b8 cu cK a b c d e:V}
  (de:aC 4 fI dH h bF m.hk) (cD:aC 1 fM dH h bD m.keys) (dd:aC 1 (cl 8 bL) dH h b8 m.rows) (dh:aC 9 fs dH h cu m.ft) (dZ:aC 8 bL dH h cK m.c1)
  (t1:aC 9 eC dH h a m.q.items) (t2:aC 10 eM dH h b m.q.eH) (t3:aC 8 bL dH h c m.q.c1) (t4:aC 8 bL dH h d m.q.fh) (t5:aC 9 eS dH h e m.q.eV):
  aj (sa j (.agg (fb m.k m.name m.on m.un bF bD b8 cu cK m.q.ch m.q.star a b c d e m.q.b7)) h) fun v aa=>ef true (fun o=>h.length≤o) aa v (z8 bF bD m)∧ai h aa []:=by
 have alX:=alW de
 have alY:=jD cD
 have oK:=(aC.a8 de).2
 have mU:=(aC.a8 cD).2
 have Q:Nk w D m.q:=⟨Nat.le_trans G.m4 di,Nat.le_trans G.m5 di,Nat.le_trans G.nz di,Nat.le_trans G.nA di,Nat.le_trans G.m6 di,G.items,G.eH,G.oP,G.fh,G.eV⟩
 have f34:∀g,mj j cK g=some (ee (m.c1.map eN),g):=fun g=>Ha hw bV b_ dZ (Nat.le_trans G.oQ di) (fun x au=>tp (G.c1 x au)) g
 obtain⟨R,aV,sp,ar,cY⟩:=Lk (h:=h) (cs:=fb m.k m.name m.on m.un bF bD b8 cu cK m.q.ch m.q.star a b c d e m.q.b7) (jk oK mU (aC.a8 dd).2 (aC.a8 dh).2 (aC.a8 dZ).2 (aC.a8 t1).2 (aC.a8 t2).2 (aC.a8 t3).2 (aC.a8 t4).2 (aC.a8 t5).2)
 obtain⟨ae,bb,e9,aA,gk⟩:=Lj (h:=R) (cs:=g0) rfl
 obtain⟨aQ,cb,qY,aT,kg⟩:=Lj (h:=ae) (cs:=g0) rfl
 have zz:=(kf (m.c1.map eN)).1
 have aE:=(kf (m.q.items.map kL)).1
 have aR:=(kf (m.q.eH.map kN)).1
 have bE:=(kf (m.q.c1.map eN)).1
 have bS:=(kf (m.q.fh.map eN)).1
 have dn:=(kf (m.q.eV.map kM)).1
 have gA:=ar.bs aA
 have f35:∀g,iA g=true→ai h g []→Hm.tn j m.q.ch m.q.star a b c d e m.q.b7 g=some (C5 m.q,g):=fun g Kd nt=>akT hw bV b_ Kd Q (lC t1 nt) (lC t2 nt) (lC t3 nt) (lC t4 nt) (lC t5 nt)
 have alZ:=f35 ae (gk (cY gQ)) gA
 have VE:=f35 aQ (kg (gk (cY gQ))) (gA.bs aT)
 generalize VF:ee (m.c1.map eN)=iQ at f34 zz
 have un:=fun{aK:Type} K=>alV (aK:=aK) m.q K
 have fx:∀g,I (.build [.int .i64 0,(.str []),(.str []), .bool false, .ab, .ab, .ab, .ab, .ab, .bool false, .bool false, .ab, .ab, .ab, .ab, .ab, .int .i64 0] [(0,(1,(.c (.int .i64 m.k)))),(1,(1,(.c (.str m.name)))),(2,(1,(.c (.str m.on)))),(3,(1,(.c (.bool m.un)))),(4,(1,(.c bF))),(5,(1,(.c bD))),(8,(1,(.c iQ))),(9,(8,(.c (.agg [.bool m.q.ch, .bool m.q.star,(ee (m.q.items.map kL)),(ee (m.q.eH.map kN)),(ee (m.q.c1.map eN)),(ee (m.q.fh.map eN)),(ee (m.q.eV.map kM)), .int .i64 m.q.b7]))))]) g=
   some (.agg (fb m.k m.name m.on m.un bF bD .ab .ab iQ m.q.ch m.q.star (ee (m.q.items.map kL)) (ee (m.q.eH.map kN)) (ee (m.q.c1.map eN)) (ee (m.q.fh.map eN)) (ee (m.q.eV.map kM)) m.q.b7)):=by
  intro g
  exact alU oK mU zz aE aR bE bS dn
 obtain⟨ar0,bo,dI,zM,bu,l4⟩:=qY.Rd (aM:=fb m.k m.name m.on m.un bF bD .ab .ab iQ m.q.ch m.q.star (ee (m.q.items.map kL)) (ee (m.q.eH.map kN)) (ee (m.q.c1.map eN)) (ee (m.q.fh.map eN)) (ee (m.q.eV.map kM)) m.q.b7) rfl (by decide) (jk oK mU rfl rfl zz aE aR bE bS dn) (n:=17) rfl
 have c5:=sp.lt
 have ew:=e9.lt
 have i_:=qY.lt
 have akL:=ar.len
 have akM:=aA.len
 have s2:=sp.aq aA
 have eu:=s2.aq aT
 have d2:=VC s2
 have d3:=VC eu
 simp only[sa]
 refine h6 aV ?_
 refine h6 bb ?_
 repeat (first
  |refine e_ (s2.af _ _ _) ?_
  |refine e_ (s2.ag rfl) ?_
  |refine ue ?_
  |refine oy ?_
  |refine Ra ?_)
 refine e_ d2 ?_
 refine EP (HP _ _ _ _ _ _ _ _ _) ?_
 refine h6 (f34 _) ?_
 refine jJ d2 ?_
 repeat (first
  |refine jJ (s2.af _ _ _) ?_
  |refine jJ (s2.ag rfl) ?_)
 refine h6 alZ ?_
 refine EP (un _) ?_
 repeat (first
  |refine jJ (s2.af _ _ _) ?_
  |refine jJ (s2.ag rfl) ?_)
 refine e_ (fx _) ?_
 refine h6 cb ?_
 repeat (first
  |refine jJ (eu.af _ _ _) ?_
  |refine jJ (eu.ag rfl) ?_)
 refine h6 dI ?_
 refine jJ ?_ ?_
 ·repeat (first
   |refine ox (s2.af _ _ _) ?_
   |refine ox (s2.ag rfl) ?_
   |refine EO ?_
   |refine Rb ?_
   |refine EN ?_)
  refine ox d2 ?_
  refine(HP _ _ _ _ _ _ _ _ _).trans ?_
  refine nk (f34 _) ?_
  refine j3 d2 ?_
  repeat (first
   |refine j3 (s2.af _ _ _) ?_
   |refine j3 (s2.ag rfl) ?_)
  refine nk cb ?_
  refine j3 d3 ?_
  repeat (first
   |refine j3 (eu.af _ _ _) ?_
   |refine j3 (eu.ag rfl) ?_)
  refine nk VE ?_
  refine(un _).trans ?_
  repeat (first
   |refine j3 (eu.af _ _ _) ?_
   |refine j3 (eu.ag rfl) ?_)
  refine ox (fx _) ?_
  exact nk dI rfl
 refine jJ ?_ ?_
 ·repeat (first
   |refine ox (s2.af _ _ _) ?_
   |refine ox (s2.ag rfl) ?_
   |refine EO ?_
   |refine Rb ?_
   |refine EN ?_)
  refine ox d2 ?_
  refine(HP _ _ _ _ _ _ _ _ _).trans ?_
  refine nk cb ?_
  refine j3 d3 ?_
  repeat (first
   |refine j3 (eu.af _ _ _) ?_
   |refine j3 (eu.ag rfl) ?_)
  refine nk (f34 _) ?_
  refine j3 d3 ?_
  repeat (first
   |refine j3 (eu.af _ _ _) ?_
   |refine j3 (eu.ag rfl) ?_)
  refine nk VE ?_
  refine(un _).trans ?_
  repeat (first
   |refine j3 (eu.af _ _ _) ?_
   |refine j3 (eu.ag rfl) ?_)
  refine ox (fx _) ?_
  exact nk dI rfl
 have gM:ai h bo []:=(gA.bs aT).trans bu (fun o U=>by cases U) (fun o U bN=>by simp at U;omega)
 have hx:=eu.aJ bu (fun z=>by have:=List.mem_singleton.1 z;omega)
 have uN:=(e9.aq aT).aJ bu (fun z=>by have:=List.mem_singleton.1 z;omega)
 have akN:=aT.len
 have akO:=bu.len
 refine e_ (hx.af _ _ _) ?_
 refine e_ (hx.ag rfl) ?_
 refine e_ (lC dd gM).len ?_
 refine oy ?_
 refine aj.bO (alN hw bV b_ (io:=ae.length) (by omega) (by omega) hx rfl (lC dd gM) (Nat.le_trans G.kg di) (fun r bc=>⟨Nat.le_trans (G.qk r bc) di,G.rows r bc⟩) m.rows.length 0 j bo .ab (by omega) (by have:=G.kg;omega) (ai.refl _ _) zM (bw.ab _ _ _ _) (fun _=>rfl)) ?_
 rintro x ak bI ⟨rfl,rfl,bX,it,Nn,n5⟩
 have kO:=hx.aJ bX (fun z=>by have:=List.mem_singleton.1 z;omega)
 have zB:=uN.aJ bX (fun z=>by have:=List.mem_singleton.1 z;omega)
 have iN:ai h bI []:=gM.trans bX (fun o U=>by cases U) (fun o U bN=>by simp at U;omega)
 have akP:=bX.len
 simp only[decide_true,aU,a5]
 refine e_ (kO.af _ _ _) ?_
 refine e_ (kO.ag rfl) ?_
 refine e_ (lC dh iN).len ?_
 refine oy ?_
 refine aj.bO (alP hw bV b_ (io:=ae.length) (by omega) (by omega) kO rfl (lC dh iN) (Nat.le_trans G.l4 di) G.ft m.ft.length 0 j bI .ab (by omega) (by have:=G.l4;omega) (ai.refl _ _) Nn (bw.ab _ _ _ _) (fun _=>rfl)) ?_
 rintro x ak cR ⟨rfl,rfl,cP,dm,No,C6⟩
 have Np:=zB.aJ cP (fun z=>by have:=List.mem_singleton.1 z;omega)
 have ja:ai h cR []:=iN.trans cP (fun o U=>by cases U) (fun o U bN=>by simp at U;omega)
 have akQ:=cP.len
 have et:I (.bp 17 (.c (.ptr ae.length 0 0))) cR=some (.agg (fb m.k m.name m.on m.un bF bD it dm iQ m.q.ch m.q.star (ee (m.q.items.map kL)) (ee (m.q.eH.map kN)) (ee (m.q.c1.map eN)) (ee (m.q.fh.map eN)) (ee (m.q.eV.map kM)) m.q.b7)):=No.e4 rfl
 have uS:=C3 n5
 have VG:=C3 C6
 simp only[decide_true,aU,a5]
 refine e_ et ?_
 refine aj.ad (Np.ic (aM:=fb m.k m.name m.on m.un bF bD it dm iQ m.q.ch m.q.star (ee (m.q.items.map kL)) (ee (m.q.eH.map kN)) (ee (m.q.c1.map eN)) (ee (m.q.fh.map eN)) (ee (m.q.eV.map kM)) m.q.b7) rfl (by decide) (jk oK mU uS VG zz aE aR bE bS dn) (n:=17) rfl) ?_
 rintro u eR ⟨Nr,eJ⟩
 refine e_ Nr.bp ?_
 refine aj.some ⟨?_,ja.trans eJ (fun o U=>by cases U) (fun o U bN=>by simp at U;omega)⟩
 have wC:ef true (fun o=>h.length≤o) eR it (ee (m.rows.map sh)):=NH (NH n5 cP (fun o U=>by simp at U;omega) (fun o q=>q)) eJ (fun o U=>by simp at U;omega) (fun o q=>by omega)
 have v6:ef true (fun o=>h.length≤o) eR dm (ee (m.ft.map qh)):=NH C6.up eJ (fun o U=>by simp at U;omega) (fun o q=>by omega)
 unfold z8
 rw[VF]
 refine .agg rfl fun k z y aX aY=> ?_
 match k with
 |0|1|2|3|9|10|16=>injection aX with aX;injection aY with aY;subst aX;subst aY;exact .same rfl (.inr rfl)
 |4=>injection aX with aX;injection aY with aY;subst aX;subst aY;exact .same alX (.inl rfl)
 |5=>injection aX with aX;injection aY with aY;subst aX;subst aY;exact .same alY (.inl rfl)
 |6=>injection aX with aX;injection aY with aY;subst aX;subst aY;exact wC
 |7=>injection aX with aX;injection aY with aY;subst aX;subst aY;exact v6
 |8=>injection aX with aX;injection aY with aY;subst aX;subst aY;subst VF;exact .same (xa _) (.inl rfl)
 |11=>injection aX with aX;injection aY with aY;subst aX;subst aY;exact .same (Hi fun e he=>by obtain⟨x,-,rfl⟩:=List.mem_map.1 he;exact alR x) (.inl rfl)
 |12=>injection aX with aX;injection aY with aY;subst aX;subst aY;exact .same (Hi fun e he=>by obtain⟨x,-,rfl⟩:=List.mem_map.1 he;exact alT x) (.inl rfl)
 |13=>injection aX with aX;injection aY with aY;subst aX;subst aY;exact .same (xa _) (.inl rfl)
 |14=>injection aX with aX;injection aY with aY;subst aX;subst aY;exact .same (xa _) (.inl rfl)
 |15=>injection aX with aX;injection aY with aY;subst aX;subst aY;exact .same (Hi fun e he=>by obtain⟨x,-,rfl⟩:=List.mem_map.1 he;exact alS x) (.inl rfl)
 |k+17=>simp at aX
end Go.Proofs.YtjpjeilfmjdhcaaGreat.uV
