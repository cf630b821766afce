/- The reader of statements walked: columns; what is made, dropped, put in, turned and taken out. No condition. -/
import Derived.Test.YtjpjeilfmjdhcaaGreatA14
import Derived.Test.YtjpjeilfmjdhcaaGreatA3
set_option maxRecDepth 100000
set_option linter.unusedVariables false
set_option linter.unusedSimpArgs false
set_option linter.unnecessarySimpa false
namespace Go.Proofs.YtjpjeilfmjdhcaaGreat.fC
open Go E ep eI fq fw
abbrev fb(k:Int)(name on:Lu)(un:Bool)(bF bD b8 cu cK:V)(ch star:Bool)(a b c d e:V)(b7:Int):Lv:=[.int .i64 k, .str name, .str on, .bool un,bF,bD,b8,cu,cK, .bool ch, .bool star,a,b,c,d,e, .int .i64 b7]
abbrev g0:Lv:=fb 0 [] [] false .ab .ab .ab .ab .ab false false .ab .ab .ab .ab .ab 0
def h2:hd ea where
 aK:=fun av h v m=>∃bF bD b8 cu cK a b c d e,v= .agg (fb m.k m.name m.on m.un bF bD b8 cu cK m.q.ch m.q.star a b c d e m.q.b7)∧bw 4 fI av h bF m.hk∧bw 1 fM av h bD m.keys∧bw 1 (ca 8 bL) av h b8 m.rows∧bw 9 fs av h cu m.ft∧bw 8 bL av h cK m.c1∧
  bw 9 eC av h a m.q.items∧bw 10 eM av h b m.q.eH∧bw 8 bL av h c m.q.c1∧bw 8 bL av h d m.q.fh∧bw 9 eS av h e m.q.eV
 aJ:=by
  rintro av h aa v x A ⟨bF,bD,b8,cu,cK,a,b,c,d,e,rfl,de,cD,dd,dh,dZ,t1,t2,t3,t4,t5⟩ k b4
  exact⟨bF,bD,b8,cu,cK,a,b,c,d,e,rfl,(ca 4 fI).aJ de k b4,(ca 1 fM).aJ cD k b4,(ca 1 (ca 8 bL)).aJ dd k b4,(ca 9 fs).aJ dh k b4,(ca 8 bL).aJ dZ k b4,(ca 9 eC).aJ t1 k b4,(ca 10 eM).aJ t2 k b4,(ca 8 bL).aJ t3 k b4,(ca 8 bL).aJ t4 k b4,(ca 9 eS).aJ t5 k b4⟩
 mono:=by
  rintro av bx h v x ⟨bF,bD,b8,cu,cK,a,b,c,d,e,rfl,de,cD,dd,dh,dZ,t1,t2,t3,t4,t5⟩ b4
  exact⟨bF,bD,b8,cu,cK,a,b,c,d,e,rfl,(ca 4 fI).mono de b4,(ca 1 fM).mono cD b4,(ca 1 (ca 8 bL)).mono dd b4,(ca 9 fs).mono dh b4,(ca 8 bL).mono dZ b4,(ca 9 eC).mono t1 b4,(ca 10 eM).mono t2 b4,(ca 8 bL).mono t3 b4,(ca 8 bL).mono t4 b4,(ca 9 eS).mono t5 b4⟩
theorem jk{k:Int}{name on:Lu}{un:Bool}{bF bD b8 cu cK:V}{ch star:Bool}{a b c d e:V}{b7:Int}(R:bF.scalar=true)(ae:bD.scalar=true)(aQ:b8.scalar=true)(bo:cu.scalar=true)(bI:cK.scalar=true)(bh:a.scalar=true)(aF:b.scalar=true)(an:c.scalar=true)(bj:d.scalar=true)(he:e.scalar=true):
  (fb k name on un bF bD b8 cu cK ch star a b c d e b7).all V.scalar=true:=by
 simp only[List.all_cons,List.all_nil,R,ae,aQ,bo,bI,bh,aF,an,bj,he];rfl
theorem w3{av:Nat→Prop}{h:Lo}{k:Int}{name on:Lu}{un:Bool}:h2.aK av h (.agg (fb k name on un .ab .ab .ab .ab .ab false false .ab .ab .ab .ab .ab 0)) {ek with k:=k,name:=name,on:=on,un:=un}:=
 ⟨_,_,_,_,_,_,_,_,_,_,rfl,bw.ab _ _ _ _,bw.ab _ _ _ _,bw.ab _ _ _ _,bw.ab _ _ _ _,bw.ab _ _ _ _,bw.ab _ _ _ _,bw.ab _ _ _ _,bw.ab _ _ _ _,bw.ab _ _ _ _,bw.ab _ _ _ _⟩
abbrev la(n:Lu)(k:Int)(iG un:Bool):Lv:=[.str n, .int .i64 k, .bool iG, .bool un]
theorem ajo{j:Nat}(aS:1000<j){h:Lo}{bf r gf:Nat}{aW:V}{ws:List br}{s:bB}{n:Lu}{dA:Lo}{eZ:bB}(cS:ck dA bf r aW ws eZ)(ajp:dA.length≤gf)(q:ck h bf r aW ws s)(a8:bY h gf (la n 0 false false))(ax:gf<h.length):
  aL (F_ j (.ptr bf 0 0) (.ptr gf 0 0) h) fun x ak aa=>x= .normal∧ak=[]∧bY aa gf (la n (qU ws s).1 false false)∧ck aa bf r aW ws (qU ws s).2∧ai h aa [r,gf]:=by
 have iP:=cS.rd.lt
 have one:∀{g cX:Lo},ai g cX [r]→ai g cX [r,gf]:=fun k=>k.mono (fun o U _=>by simp at U;simp[U])
 have two:∀{g cX:Lo},ai g cX [gf]→ai g cX [r,gf]:=fun k=>k.mono (fun o U _=>by simp at U;simp[U])
 have kd:∀{g cX q4:Lo},ai g cX [r,gf]→ai cX q4 [r,gf]→ai g q4 [r,gf]:=fun k l=>k.trans l (fun o U _=>U) (fun o U _=>U)
 simp only[F_,q.st.bz,q.st.af,q.dp,aO]
 refine aL.ad (fH [73,78,84] q.rd) ?_
 rintro v R ⟨rfl,d1,ar⟩
 have aE:=q.up ar d1
 have oK:=a8.aJ ar (fun z=>by simp at z;omega)
 simp only[a0,qU]
 cases hp:(bA ws [73,78,84] s).1 with
 |true=>
  simp only[aU,if_true,oK.af,aO]
  refine aL.ad (oK.iK (o:=0+1) (x:= .int .i64 1) (by simp) ⟨rfl,rfl⟩) ?_
  rintro u ae ⟨mU,aA⟩
  exact aL.some ⟨rfl,rfl,mU,ck.apart cS aE aA (fun o U=>by simp at U;omega),kd (one ar) (two aA)⟩
 |false=>
  simp only[a7,Bool.false_eq_true,if_false,aE.st.bz,aE.st.af,aE.dp,aO]
  refine aL.ad (fH [84,69,88,84] aE.rd) ?_
  rintro v ae ⟨rfl,d2,aA⟩
  have aR:=aE.up aA d2
  have mU:=oK.aJ aA (fun z=>by simp at z;omega)
  simp only[a0]
  cases k5:(bA ws [84,69,88,84] (bA ws [73,78,84] s).2).1 with
  |true=>
   simp only[aU,if_true,mU.af,aO]
   refine aL.ad (mU.iK (o:=0+1) (x:= .int .i64 2) (by simp) ⟨rfl,rfl⟩) ?_
   rintro u aQ ⟨CM,aT⟩
   exact aL.some ⟨rfl,rfl,CM,ck.apart cS aR aT (fun o U=>by simp at U;omega),kd (one (ai.b6 ar aA)) (two aT)⟩
  |false=>
   simp only[a7,Bool.false_eq_true,if_false,aR.st.bz,aR.st.af,aR.dp,aO]
   refine aL.ad (wM aR.rd) ?_
   rintro v aQ ⟨rfl,d3,aT⟩
   exact aL.some ⟨rfl,rfl,mU.aJ aT (fun z=>by simp at z;omega),aR.up aT d3,one (ai.b6 (ai.b6 ar aA) aT)⟩
def M4(ws:List br)(s:bB):bB:=if(bA ws [78,79,84] s).1=true then fl ws [[78,85,76,76]] (bA ws [78,79,84] s).2 else(bA ws [78,79,84] s).2
theorem ajq{j:Nat}(aS:1000<j){h:Lo}{bf r gf:Nat}{aW:V}{ws:List br}{s:bB}{n:Lu}{w4:Int}{dA:Lo}{eZ:bB}(cS:ck dA bf r aW ws eZ)(ajp:dA.length≤gf)(q:ck h bf r aW ws s)(a8:bY h gf (la n w4 false false))(ax:gf<h.length):
  aL (F9 j (.ptr bf 0 0) (.ptr gf 0 0) h) fun x ak aa=>x= .normal∧ak=[]∧bY aa gf (la n w4 (bA ws [78,79,84] s).1 false)∧ck aa bf r aW ws (M4 ws s)∧ai h aa [r,gf]:=by
 have iP:=cS.rd.lt
 have one:∀{g cX:Lo},ai g cX [r]→ai g cX [r,gf]:=fun k=>k.mono (fun o U _=>by simp at U;simp[U])
 have two:∀{g cX:Lo},ai g cX [gf]→ai g cX [r,gf]:=fun k=>k.mono (fun o U _=>by simp at U;simp[U])
 have kd:∀{g cX q4:Lo},ai g cX [r,gf]→ai cX q4 [r,gf]→ai g q4 [r,gf]:=fun k l=>k.trans l (fun o U _=>U) (fun o U _=>U)
 simp only[F9,q.st.bz,q.st.af,q.dp,aO]
 refine aL.ad (fH [78,79,84] q.rd) ?_
 rintro v R ⟨rfl,d1,ar⟩
 have aE:=q.up ar d1
 have oK:=a8.aJ ar (fun z=>by simp at z;omega)
 simp only[a0,oK.af,aO]
 refine aL.ad (oK.iK (o:=0+2) (x:= .bool (bA ws [78,79,84] s).1) (by simp) ⟨rfl,rfl⟩) ?_
 rintro u ae ⟨mU,aA⟩
 have zw:bY ae gf (la n w4 (bA ws [78,79,84] s).1 false):=mU
 have aR:=ck.apart cS aE aA (fun o U=>by simp at U;omega)
 have gA:=kd (one ar) (two aA)
 have c5:=ar.len
 have ew:=aA.len
 simp only[zw.af,zw.ag (o:=0+2) (c:= .bool (bA ws [78,79,84] s).1) rfl,aO,a0]
 unfold M4
 cases hp:(bA ws [78,79,84] s).1 with
 |false=>
  rw[hp] at zw
  simp only[a7,Bool.false_eq_true,if_false]
  exact aL.some ⟨rfl,rfl,zw,aR,gA⟩
 |true=>
  rw[hp] at zw
  simp only[aU,if_true,aR.st.bz,aR.st.af,aR.dp,aO]
  obtain⟨m1,bI,q2,n5⟩:=mg (h:=ae) (az:=1) (z:= .str []) (ah:=[(0, .str [78,85,76,76])]) (es:=strs [[78,85,76,76]]) (len:=1) (by decide) (by decide) rfl rfl
  obtain⟨-,-,q3,-,bX,f5⟩:=n5
  simp only[List.map_cons,List.map_nil] at q2
  have dn:=aR.aq bX
  obtain⟨iI,pX,cR,p_,rfl,rfl,d6,cP⟩:=CB j q3 (fun o U z=>by have:=f5 o U;have:=aR.rd.lt;omega) (by decide) 1 0 j bI (bA ws [78,79,84] s).2 rfl (by omega) (ai.refl _ _) dn.rd
  have pb:hA j (.ptr r 0 0) m1 bI=some (.bW [],cR):=by
   have aV:((strs [[78,85,76,76]]).length:Int)=((1:Nat):Int):=rfl
   simp only[hA,jv q3,aO,a1,aV]
   have bb:qN j j (.ptr r 0 0) m1 ((1:Nat):Int) 0 bI=some (.exit 0,[],cR):=p_
   simp only[bb,gY,decide_true,aU,a5]
  have wY:e0 cR r aW ws (fl ws [[78,85,76,76]] (bA ws [78,79,84] s).2):=d6
  simp only[q2,fp,pb]
  exact aL.some ⟨rfl,rfl,(zw.aq bX).aJ cP (fun z=>by simp at z;omega),dn.up cP wY,kd gA (one (ai.to bX cP))⟩
theorem ajr{j:Nat}(aS:1000<j){h:Lo}{bf r:Nat}{aW:V}{ws:List br}{s:bB}(q:ck h bf r aW ws s):aj (Ga j (.ptr bf 0 0) h) (gq fI h bf r aW ws (s_ ws s)):=by
 have iP:=q.rd.lt
 obtain⟨N,di⟩:∃p,p=dB ws s:=⟨_,rfl⟩
 obtain⟨td,Ul⟩:∃p,p=qU ws N.2:=⟨_,rfl⟩
 obtain⟨zx,Um⟩:∃p,p=bA ws [85,78,73,81,85,69] (M4 ws td.2):=⟨_,rfl⟩
 have fa:s_ ws s=(⟨N.1,td.1,(bA ws [78,79,84] td.2).1,zx.1⟩,zx.2):=by subst Um Ul di;rfl
 rw[fa]
 simp only[Ga]
 refine aj.ad (hs (cs:=la [] 0 false false) rfl) ?_
 rintro du R ⟨rfl,dX,ar⟩
 have c5:h.length<R.length:=dX.lt
 have aE:=q.aq ar
 simp only[aE.st.bz,aE.st.af,aE.dp,aO]
 refine aj.ad (mW aE.rd) ?_
 rintro v ae ⟨rfl,d2,aA⟩
 rw[←di] at d2⊢
 have aR:=aE.up aA d2
 have ew:=aA.len
 have dL:I (.build [(.str []), .int .i64 0, .bool false, .bool false] [(0,(1,(.c (.str N.1))))]) ae=some (.agg (la N.1 0 false false)):=rfl
 simp only[bC,dL,aO,bP,aN,aZ,bn,bl,id_eq,bq,a1,a0,a5]
 refine qZ (fU:=la [] 0 false false) (aM:=la N.1 0 false false) rfl rfl rfl (by decide) rfl fun aQ a8 aT=> ?_
 have bE:=aR.aq aT
 have i_:ae.length<aQ.length:=a8.lt
 have gz:=(dX.aJ aA (fun z=>by simp at z;omega)).aq aT
 have eA:ai h aQ [r]:=ai.ro (ai.to ar aA) aT
 have kd:∀{g cX q4:Lo},ai g cX [r,ae.length]→ai cX q4 [r,ae.length]→ai g q4 [r,ae.length]:=fun k l=>k.trans l (fun o U _=>U) (fun o U _=>U)
 refine aj.bO (ajo aS q (by omega) bE a8 i_) ?_
 rintro x ak bo ⟨rfl,rfl,zy,bS,bu⟩
 rw[←Ul] at zy bS
 have ns:=bu.len
 simp only[decide_true,aU,a5]
 refine aj.bO (ajq aS q (by omega) bS zy (by omega)) ?_
 rintro x ak bI ⟨rfl,rfl,zz,dn,bX⟩
 have jP:=bX.len
 simp only[decide_true,aU,a5,dn.st.bz,dn.st.af,dn.dp,aO]
 refine aj.ad (fH [85,78,73,81,85,69] dn.rd) ?_
 rintro v cR ⟨rfl,d6,cP⟩
 rw[←Um] at d6⊢
 have ej:=dn.up cP d6
 have Un:=zz.aJ cP (fun z=>by simp at z;omega)
 have k3:=cP.len
 simp only[a0,Un.af,aO]
 refine aj.ad (Un.iK (o:=0+3) (x:= .bool zx.1) (by simp) ⟨rfl,rfl⟩) ?_
 rintro u eF ⟨ajs,dv⟩
 have ajt:bY eF ae.length (la N.1 td.1 (bA ws [78,79,84] td.2).1 zx.1):=ajs
 have fy:=ck.apart q ej dv (fun o U=>by simp at U;omega)
 have Uo:ai aQ eF [r,ae.length]:=kd (kd (kd bu bX) (cP.mono (fun o U _=>by simp at U;simp[U]))) (dv.mono (fun o U _=>by simp at U;simp[U]))
 have mo:=gz.aJ Uo (fun z=>by simp at z;omega)
 simp only[ajt.e4 (n:=4) rfl,aO,bP,aN,aZ,bn,bl,id_eq,bq,a1,bC,a0,a5]
 exact hL (T:=fI) (n:=4) (aM:=la N.1 td.1 (bA ws [78,79,84] td.2).1 zx.1) (cs:=la [] 0 false false) (x:=⟨N.1,td.1,(bA ws [78,79,84] td.2).1,zx.1⟩) q mo rfl rfl (by decide) rfl fy (eA.trans Uo (fun o U _=>U) (fun o U bN=>by simp at U;rcases U with rfl|rfl;simp;omega)) rfl
theorem aju{j:Nat}{h:Lo}{bf r:Nat}{aW:V}{ws:List br}{s:bB}(q:ck h bf r aW ws s):aj (lq j (.ptr r 0 0) h) (gq fM h bf r aW ws (dB ws s)):=by
 refine(mW q.rd).mono ?_
 rintro v aa ⟨rfl,d,k⟩
 exact⟨q.up k d,k,rfl⟩
abbrev jl(k:Int)(name on:Lu)(un:Bool)(bD b8 cu cK:V):Lv:=fb k name on un .ab bD b8 cu cK false false .ab .ab .ab .ab .ab 0
theorem w5(h:Lo)(k:Int)(n:Lu):I (.build [.int .i64 0,(.str []),(.str []), .bool false, .ab, .ab, .ab, .ab, .ab, .bool false, .bool false, .ab, .ab, .ab, .ab, .ab, .int .i64 0] [(0,(1,(.c (.int .i64 k)))),(1,(1,(.c (.str n))))]) h=some (.agg (jl k n [] false .ab .ab .ab .ab)):=rfl
theorem ajv{j:Nat}(aS:5000000<j){h:Lo}{bf r:Nat}{aW:V}{ws:List br}(gI:hj 5000 ws){s:bB}(q:ck h bf r aW ws s):aj (Gq j (.ptr bf 0 0) h) (gq h2 h bf r aW ws (qW ws s)):=by
 have iP:=q.rd.lt
 obtain⟨N,di⟩:∃p,p=dB ws (fl ws [[70,82,79,77]] s):=⟨_,rfl⟩
 obtain⟨W,oe⟩:∃p,p=nw ws N.2:=⟨_,rfl⟩
 have fa:qW ws s=({ek with k:=9,name:=N.1,c1:=W.1},W.2):=by subst oe di;rfl
 rw[fa]
 simp only[Gq]
 refine aj.ad (hs (cs:=g0) rfl) ?_
 rintro du R ⟨rfl,dX,ar⟩
 have c5:h.length<R.length:=dX.lt
 have aE:=q.aq ar
 simp only[aE.st.bz,aE.st.af,aE.dp,aO]
 refine k4 (by omega) aE.rd (l:=[[70,82,79,77]]) (ah:=[(0, .str [70,82,79,77])]) rfl (by decide) rfl rfl fun ae d2 aA=> ?_
 have aR:=aE.up aA d2
 simp only[aR.st.bz,aR.st.af,aR.dp,aO]
 refine aj.ad (mW aR.rd) ?_
 rintro v aQ ⟨rfl,d3,aT⟩
 rw[←di] at d3⊢
 have bE:=aR.up aT d3
 have gy:=ai.b6 aA aT
 have i_:=gy.len
 simp only[bC,w5,aO]
 refine qZ (n:=17) (fU:=g0) (aM:=jl 9 N.1 [] false .ab .ab .ab .ab) rfl rfl rfl (by decide) rfl fun bo lJ bu=> ?_
 have bS:=bE.aq bu
 have ns:aQ.length<bo.length:=lJ.lt
 refine aj.ad (MR aS gI bS) ?_
 rintro w bI ⟨dn,bX,uL⟩
 rw[←oe] at dn uL
 have zA:=lJ.aJ bX (fun z=>by simp at z;omega)
 have jP:=bX.len
 simp only[zA.af,aO]
 refine aj.ad (zA.iK (o:=0+8) (x:=w) (by simp) (bw.a8 uL)) ?_
 rintro u cR ⟨w6,cP⟩
 have ajw:bY cR aQ.length (jl 9 N.1 [] false .ab .ab .ab w):=w6
 have ej:=ck.apart q dn cP (fun o U=>by simp at U;omega)
 have qe:=(ca 8 bL).mono ((ca 8 bL).aJ uL cP (fun o U z=>by simp at U;omega)) (bx:=fun o=>h.length<o) (fun o _ z=>by omega)
 have mn:=(((dX.aJ gy (fun z=>by simp at z;omega)).aq bu).aJ bX (fun z=>by simp at z;omega)).aJ cP (fun z=>by simp at z;omega)
 have ja:ai h cR [r]:=(ai.to ar (ai.b6 (ai.ro gy bu) bX)).trans cP (fun o U _=>U) (fun o U bN=>by simp at U;omega)
 simp only[ajw.e4 (n:=17) rfl,aO]
 exact hL (T:=h2) (n:=17) (aM:=jl 9 N.1 [] false .ab .ab .ab w) (cs:=g0) (x:={ek with k:=9,name:=N.1,c1:=W.1}) q mn rfl rfl (by decide) (jk rfl rfl rfl rfl (bw.a8 qe).2 rfl rfl rfl rfl rfl) ej ja
  ⟨_,_,_,_,_,_,_,_,_,_,rfl,bw.ab _ _ _ _,bw.ab _ _ _ _,bw.ab _ _ _ _,bw.ab _ _ _ _,qe,bw.ab _ _ _ _,bw.ab _ _ _ _,bw.ab _ _ _ _,bw.ab _ _ _ _,bw.ab _ _ _ _⟩
theorem ajx{j:Nat}(aS:5000000<j){h:Lo}{bf r:Nat}{aW:V}{ws:List br}(gI:hj 5000 ws){s:bB}(q:ck h bf r aW ws s):aj (Gp j (.ptr bf 0 0) h) (gq h2 h bf r aW ws (qV ws s)):=by
 have iP:=q.rd.lt
 obtain⟨N,di⟩:∃p,p=dB ws s:=⟨_,rfl⟩
 obtain⟨A,eW⟩:∃p,p=k8 ws (uI ws) (fl ws [[83,69,84]] N.2):=⟨_,rfl⟩
 obtain⟨W,oe⟩:∃p,p=nw ws A.2:=⟨_,rfl⟩
 have fa:qV ws s=({ek with k:=8,name:=N.1,ft:=A.1,c1:=W.1},W.2):=by subst oe eW di;rfl
 rw[fa]
 simp only[Gp]
 refine aj.ad (hs (cs:=g0) rfl) ?_
 rintro du R ⟨rfl,dX,ar⟩
 have c5:h.length<R.length:=dX.lt
 have aE:=q.aq ar
 simp only[aE.st.bz,aE.st.af,aE.dp,aO]
 refine aj.ad (mW aE.rd) ?_
 rintro v aQ ⟨rfl,d3,gy⟩
 rw[←di] at d3⊢
 have bE:=aE.up gy d3
 have i_:=gy.len
 simp only[bC,w5,aO]
 refine qZ (n:=17) (fU:=g0) (aM:=jl 8 N.1 [] false .ab .ab .ab .ab) rfl rfl rfl (by decide) rfl fun bo lJ bu=> ?_
 have bS:=bE.aq bu
 have ns:aQ.length<bo.length:=lJ.lt
 simp only[bS.st.bz,bS.st.af,bS.dp,aO]
 refine k4 (by omega) bS.rd (l:=[[83,69,84]]) (ah:=[(0, .str [83,69,84])]) rfl (by decide) rfl rfl fun bI d5 bX=> ?_
 have dn:=bS.up bX d5
 have zA:=lJ.aJ bX (fun z=>by simp at z;omega)
 have jP:=bX.len
 refine aj.ad (aiq (m:=uI ws) (by omega) (aiL ws) dn (fun aa eb d k=>show aj (Gn j (.ptr bf 0 0) aa) _ from aiA aS gI d)) ?_
 rintro a cR ⟨ej,cP,qe⟩
 rw[←eW] at ej qe
 have w6:=zA.aJ cP (fun z=>by simp at z;omega)
 have k3:=cP.len
 simp only[w6.af,aO]
 refine aj.ad (w6.iK (o:=0+7) (x:=a) (by simp) (bw.a8 qe)) ?_
 rintro u eF ⟨uM,dv⟩
 have fy:=ck.apart q ej dv (fun o U=>by simp at U;omega)
 have qd:=(ca 9 fs).aJ qe dv (fun o U z=>by simp at U;omega)
 have np:=dv.len
 refine aj.ad (MR aS gI fy) ?_
 rintro w eR ⟨gm,eJ,r5⟩
 rw[←oe] at gm r5
 have r6:=uM.aJ eJ (fun z=>by simp at z;omega)
 have ajy:=(ca 9 fs).aJ qd eJ (fun o U z=>by simp at U;omega)
 have uF:=eJ.len
 simp only[r6.af,aO]
 refine aj.ad (r6.iK (o:=0+8) (x:=w) (by simp) (bw.a8 r5)) ?_
 rintro u fZ ⟨CN,hv⟩
 have M5:bY fZ aQ.length (jl 8 N.1 [] false .ab .ab a w):=CN
 have h1:=ck.apart q gm hv (fun o U=>by simp at U;omega)
 have Up:=(ca 8 bL).mono ((ca 8 bL).aJ r5 hv (fun o U z=>by simp at U;omega)) (bx:=fun o=>h.length<o) (fun o _ z=>by omega)
 have Uq:=(ca 9 fs).mono ((ca 9 fs).aJ ajy hv (fun o U z=>by simp at U;omega)) (bx:=fun o=>h.length<o) (fun o _ z=>by omega)
 have oL:ai bo fZ [r,aQ.length]:=by
  have b5:ai bo cR [r,aQ.length]:=(ai.b6 bX cP).mono (fun o U _=>by simp at U;simp[U])
  have cI:ai cR eF [r,aQ.length]:=dv.mono (fun o U _=>by simp at U;simp[U])
  have fo:ai eF eR [r,aQ.length]:=eJ.mono (fun o U _=>by simp at U;simp[U])
  have gC:ai eR fZ [r,aQ.length]:=hv.mono (fun o U _=>by simp at U;simp[U])
  exact ai.b6 (ai.b6 b5 cI) (ai.b6 fo gC)
 have n3:=((dX.aJ gy (fun z=>by simp at z;omega)).aq bu).aJ oL (fun z=>by simp at z;omega)
 have rY:ai h fZ [r]:=(ai.to ar (ai.ro gy bu)).trans oL (fun o U _=>U) (fun o U bN=>by simp at U;rcases U with rfl|rfl;simp;omega)
 simp only[M5.e4 (n:=17) rfl,aO]
 exact hL (T:=h2) (n:=17) (aM:=jl 8 N.1 [] false .ab .ab a w) (cs:=g0) (x:={ek with k:=8,name:=N.1,ft:=A.1,c1:=W.1}) q n3 rfl rfl (by decide) (jk rfl rfl rfl (bw.a8 Uq).2 (bw.a8 Up).2 rfl rfl rfl rfl rfl) h1 rY
  ⟨_,_,_,_,_,_,_,_,_,_,rfl,bw.ab _ _ _ _,bw.ab _ _ _ _,bw.ab _ _ _ _,Uq,Up,bw.ab _ _ _ _,bw.ab _ _ _ _,bw.ab _ _ _ _,bw.ab _ _ _ _,bw.ab _ _ _ _⟩
theorem ajz{j:Nat}(aS:5000000<j){h:Lo}{bf r id:Nat}{aW:V}{ws:List br}(gI:hj 5000 ws){s:bB}(q:ck h bf r aW ws s)(a8:ni h id (.ptr bf 0 0)):aj (Gj j (.ptr id 0 0) h) (gq (ca 8 bL) h bf r aW ws (nv ws (gg ws) s)):=by
 simp only[Gj,a8.ag rfl,aO,q.st.bz,q.st.af,q.dp]
 refine aj.ad (aix (m:=gg ws) (by omega) (zq ws) q (fun aa eb d k=>show aj (qO j (.ptr r 0 0) aa) _ from TZ aS gI d)) ?_
 rintro v aa p
 exact aj.some p
theorem ajA{j:Nat}(aS:5000000<j){h:Lo}{bf r:Nat}{aW:V}{ws:List br}(gI:hj 5000 ws){s:bB}(q:ck h bf r aW ws s):aj (Gk j (.ptr bf 0 0) h) (gq h2 h bf r aW ws (qa ws s)):=by
 have iP:=q.rd.lt
 obtain⟨N,di⟩:∃p,p=dB ws (fl ws [[73,78,84,79]] s):=⟨_,rfl⟩
 obtain⟨A,eW⟩:∃p,p=k8 ws (nv ws (gg ws)) (fl ws [[86,65,76,85,69,83]] N.2):=⟨_,rfl⟩
 have fa:qa ws s=({ek with k:=7,name:=N.1,rows:=A.1},A.2):=by subst eW di;rfl
 rw[fa]
 simp only[Gk]
 refine aj.ad (EF (v:= .ptr bf 0 0) rfl) ?_
 rintro cp aX ⟨rfl,e9,M6⟩
 have Ur:=q.aq M6
 have kj:h.length<aX.length:=e9.lt
 refine aj.ad (hs (cs:=g0) rfl) ?_
 rintro du R ⟨rfl,dX,ar⟩
 have c5:aX.length<R.length:=dX.lt
 have aE:=Ur.aq ar
 have Us:=e9.aq ar
 have arR:=M6.bs ar
 simp only[Us.ag rfl,aE.st.bz,aE.st.af,aE.dp,aO]
 refine k4 (by omega) aE.rd (l:=[[73,78,84,79]]) (ah:=[(0, .str [73,78,84,79])]) rfl (by decide) rfl rfl fun ae d2 aA=> ?_
 have aR:=aE.up aA d2
 have Ut:=Us.aJ aA (fun z=>by simp at z;omega)
 simp only[Ut.ag rfl,aR.st.bz,aR.st.af,aR.dp,aO]
 refine aj.ad (mW aR.rd) ?_
 rintro v aQ ⟨rfl,d3,aT⟩
 rw[←di] at d3⊢
 have bE:=aR.up aT d3
 have ajB:=Ut.aJ aT (fun z=>by simp at z;omega)
 have gy:=ai.b6 aA aT
 have i_:=gy.len
 simp only[bC,w5,aO]
 refine qZ (n:=17) (fU:=g0) (aM:=jl 7 N.1 [] false .ab .ab .ab .ab) rfl rfl rfl (by decide) rfl fun bo lJ bu=> ?_
 have bS:=bE.aq bu
 have uN:=ajB.aq bu
 have ns:aQ.length<bo.length:=lJ.lt
 simp only[uN.ag rfl,bS.st.bz,bS.st.af,bS.dp,aO]
 refine k4 (by omega) bS.rd (l:=[[86,65,76,85,69,83]]) (ah:=[(0, .str [86,65,76,85,69,83])]) rfl (by decide) rfl rfl fun bI d5 bX=> ?_
 have dn:=bS.up bX d5
 have zA:=lJ.aJ bX (fun z=>by simp at z;omega)
 have zB:=uN.aJ bX (fun z=>by simp at z;omega)
 have jP:=bX.len
 simp only[zB.ag rfl,aO]
 refine aj.ad (aio (m:=nv ws (gg ws)) (by omega) (aiP (zq ws)) dn (fun aa eb d k=>show aj (Gj j (.ptr h.length 0 0) aa) _ from ajz aS gI d (zB.aJ k (fun z=>by simp at z;omega)))) ?_
 rintro a cR ⟨ej,cP,qe⟩
 rw[←eW] at ej qe
 have w6:=zA.aJ cP (fun z=>by simp at z;omega)
 have k3:=cP.len
 simp only[w6.af,aO]
 refine aj.ad (w6.iK (o:=0+6) (x:=a) (by simp) (bw.a8 qe)) ?_
 rintro u eF ⟨uM,dv⟩
 have ajC:bY eF aQ.length (jl 7 N.1 [] false .ab a .ab .ab):=uM
 have fy:=ck.apart q ej dv (fun o U=>by simp at U;omega)
 have qd:=(ca 1 (ca 8 bL)).mono ((ca 1 (ca 8 bL)).aJ qe dv (fun o U z=>by simp at U;omega)) (bx:=fun o=>aX.length<o) (fun o _ z=>by omega)
 have mo:=(((dX.aJ gy (fun z=>by simp at z;omega)).aq bu).aJ (ai.b6 bX cP) (fun z=>by simp at z;omega)).aJ dv (fun z=>by simp at z;omega)
 have GY:ai aX eF [r]:=(ai.to ar (ai.b6 (ai.ro gy bu) (ai.b6 bX cP))).trans dv (fun o U _=>U) (fun o U bN=>by simp at U;omega)
 simp only[ajC.e4 (n:=17) rfl,aO]
 refine(hL (T:=h2) (n:=17) (aM:=jl 7 N.1 [] false .ab a .ab .ab) (cs:=g0) (x:={ek with k:=7,name:=N.1,rows:=A.1}) Ur mo rfl rfl (by decide) (jk rfl rfl (bw.a8 qd).2 rfl rfl rfl rfl rfl rfl rfl) fy GY
  ⟨_,_,_,_,_,_,_,_,_,_,rfl,bw.ab _ _ _ _,bw.ab _ _ _ _,qd,bw.ab _ _ _ _,bw.ab _ _ _ _,bw.ab _ _ _ _,bw.ab _ _ _ _,bw.ab _ _ _ _,bw.ab _ _ _ _,bw.ab _ _ _ _⟩).mono ?_
 rintro v g ⟨cF,cW,hW⟩
 exact⟨cF,ai.to M6 cW,h2.mono hW (fun o _ z=>by omega)⟩
theorem ajD{j:Nat}(aS:10<j){h aI:Lo}{bf r du:Nat}{aW jh:V}{ws:List br}{s eZ:bB}(cS:ck aI bf r aW ws eZ)(au:aI.length≤du)(q:ck h bf r aW ws s)(cx:dq 1 h jh (strs [[84,65,66,76,69],[73,78,68,69,88]]))(GZ:∀o,o∈dj jh→o≠r)(dX:bY h du g0):
  aL (Ci j j (.ptr bf 0 0) (.ptr du 0 0) jh 2 0 h) fun x ak aa=>ak=[]∧ai h aa [r,du]∧
   ((x= .ret∧∃k n t,nx ws s=({ek with k:=k,name:=n},t)∧bY aa du (jl k n [] false .ab .ab .ab .ab)∧ck aa bf r aW ws t)∨
    (x= .exit 0∧∃t,nx ws s=({ek with k:=6,name:=(dB ws (fl ws [[86,73,69,87]] t)).1},(dB ws (fl ws [[86,73,69,87]] t)).2)∧ck aa bf r aW ws t∧bY aa du g0)):=by
 have iP:=cS.rd.lt
 have one:∀{g cX:Lo},ai g cX [r]→ai g cX [r,du]:=fun k=>k.mono (fun o U _=>by simp at U;simp[U])
 have two:∀{g cX:Lo},ai g cX [du]→ai g cX [r,du]:=fun k=>k.mono (fun o U _=>by simp at U;simp[U])
 obtain⟨g,rfl⟩:∃g,j=g+3:=⟨j-3,by omega⟩
 have d1:decide ((0:Int)<2)=true:=rfl
 have d2:decide ((1:Int)<2)=true:=rfl
 have d3:decide ((2:Int)<2)=false:=rfl
 have e7:IntKind.i64.wrap ((0:Int)+1)=1:=by decide
 have ib:IntKind.i64.wrap ((1:Int)+1)=2:=by decide
 have qf:IntKind.i64.wrap ((4:Int)+0)=4:=by decide
 have iQ:IntKind.i64.wrap ((4:Int)+1)=5:=by decide
 obtain⟨a,b5,cI⟩:=cx.hX (k:=0) (e:= .str [84,65,66,76,69]) (by decide) rfl rfl
 obtain⟨A,eW⟩:∃p,p=bA ws [84,65,66,76,69] s:=⟨_,rfl⟩
 obtain⟨v1,R,aV,rfl,fD,ar⟩:=fH (j:=g+3) [84,65,66,76,69] q.rd
 rw[←eW] at aV fD
 have aE:=q.up ar fD
 have rW:=dX.aJ ar (fun z=>by simp at z;omega)
 simp only[Ci,L4,d1,aU,b5,cI,aO,bC,q.st.bz,q.st.af,q.dp,aV,fp,a0]
 cases hp:A.1 with
 |true=>
  obtain⟨v2,ae,bb,rfl,w7,aA⟩:=mW (j:=g+3) aE.rd
  have aR:=aE.up aA w7
  have hi:=rW.aJ aA (fun z=>by simp at z;omega)
  simp only[aU,aE.st.bz,aE.st.af,aE.dp,aO,bb,fp,bC,qf,w5]
  refine aL.ad (hi.ic (aM:=jl 4 (dB ws A.2).1 [] false .ab .ab .ab .ab) rfl (by simp) rfl (n:=17) rfl) ?_
  rintro u aQ ⟨gz,aT⟩
  refine aL.some ⟨rfl,ai.b6 (one (ai.b6 ar aA)) (two aT), .inl ⟨rfl,4,(dB ws A.2).1,(dB ws A.2).2, ?_,gz,ck.apart cS aR aT (fun o U=>by simp at U;omega)⟩⟩
  simp only[nx,←eW,hp,if_true]
 |false=>
  obtain⟨B,ez⟩:∃p,p=bA ws [73,78,68,69,88] A.2:=⟨_,rfl⟩
  have G0:=cx.aJ ar (fun o U z=>GZ o U (by simpa using z))
  obtain⟨b,dL,fL⟩:=G0.hX (k:=1) (e:= .str [73,78,68,69,88]) (by decide) rfl rfl
  obtain⟨v2,ae,bb,rfl,w7,aA⟩:=fH (j:=g+3) [73,78,68,69,88] aE.rd
  rw[←ez] at bb w7
  have aR:=aE.up aA w7
  have hi:=rW.aJ aA (fun z=>by simp at z;omega)
  simp only[a7,e7,d2,aU,dL,fL,aO,bC,aE.st.bz,aE.st.af,aE.dp,bb,fp,a0]
  cases k5:B.1 with
  |true=>
   obtain⟨p0,aQ,cb,rfl,wD,aT⟩:=mW (j:=g+3) aR.rd
   have bE:=aR.up aT wD
   have gz:=hi.aJ aT (fun z=>by simp at z;omega)
   simp only[aU,aR.st.bz,aR.st.af,aR.dp,aO,cb,fp,bC,iQ,w5]
   refine aL.ad (gz.ic (aM:=jl 5 (dB ws B.2).1 [] false .ab .ab .ab .ab) rfl (by simp) rfl (n:=17) rfl) ?_
   rintro u bo ⟨h0,bu⟩
   refine aL.some ⟨rfl,ai.b6 (one (ai.b6 (ai.b6 ar aA) aT)) (two bu), .inl ⟨rfl,5,(dB ws B.2).1,(dB ws B.2).2, ?_,h0,ck.apart cS bE bu (fun o U=>by simp at U;omega)⟩⟩
   simp only[nx,←eW,hp,Bool.false_eq_true,if_false,←ez,k5,if_true]
  |false=>
   simp only[a7,ib,d3]
   refine aL.some ⟨rfl,one (ai.b6 ar aA), .inr ⟨rfl,B.2, ?_,aR,hi⟩⟩
   simp only[nx,←eW,hp,Bool.false_eq_true,if_false,←ez,k5]
theorem ajE{j:Nat}(aS:1000<j){h:Lo}{bf r:Nat}{aW:V}{ws:List br}{s:bB}(q:ck h bf r aW ws s):aj (Gf j (.ptr bf 0 0) h) (gq h2 h bf r aW ws (nx ws s)):=by
 have iP:=q.rd.lt
 simp only[Gf]
 refine aj.ad (hs (cs:=g0) rfl) ?_
 rintro du R ⟨rfl,dX,ar⟩
 have c5:h.length<R.length:=dX.lt
 have aE:=q.aq ar
 refine aj.ad (mg (az:=1) (z:= .str []) (ah:=[(0, .str [84,65,66,76,69]),(1, .str [73,78,68,69,88])]) (es:=strs [[84,65,66,76,69],[73,78,68,69,88]]) (len:=2) (by decide) (by decide) rfl rfl) ?_
 rintro jh ae ⟨-,-,cx,-,aA,jB⟩
 have aR:=aE.aq aA
 have bb:((strs [[84,65,66,76,69],[73,78,68,69,88]]).length:Int)=2:=rfl
 simp only[jv cx,aO,a1,bb]
 have dW:=ar.bs aA
 refine aj.bO (ajD (by omega) q (Nat.le_refl _) aR cx (fun o U z=>by have:=jB o U;omega) (dX.aq aA)) ?_
 rintro x ak aQ ⟨rfl,aT,⟨rfl,w4,n,t,bj,gz,bE⟩|⟨rfl,t,bj,bE,gz⟩⟩
 ·have nj:decide (cg.ret=cg.exit 0)=false:=rfl
  simp only[nj,a7,decide_true,aU,a5,show dS aQ 17 (.ptr h.length 0 0)=some (.agg (jl w4 n [] false .ab .ab .ab .ab)) from gz.bp,aO]
  rw[bj]
  exact aj.some ⟨bE,dW.trans aT (fun o U=>by cases U) (fun o U bN=>by simp at U;rcases U with rfl|rfl;simp;omega),w3 (on:=[]) (un:=false)⟩
 ·have eA:ai h aQ [r]:=dW.trans aT (fun o U=>by cases U) (fun o U bN=>by simp at U;rcases U with rfl|rfl;simp;omega)
  simp only[decide_true,aU,a5,bE.st.bz,bE.st.af,bE.dp,aO]
  refine k4 (by omega) bE.rd (l:=[[86,73,69,87]]) (ah:=[(0, .str [86,73,69,87])]) rfl (by decide) rfl rfl fun bo d4 bu=> ?_
  have bS:=bE.up bu d4
  have h0:=gz.aJ bu (fun z=>by simp at z;omega)
  simp only[bS.st.bz,bS.st.af,bS.dp,aO]
  refine aj.ad (mW bS.rd) ?_
  rintro v bI ⟨rfl,d5,bX⟩
  have jy:=h0.aJ bX (fun z=>by simp at z;omega)
  simp only[bC,w5,aO]
  rw[bj]
  exact hL (T:=h2) (n:=17) (aM:=jl 6 _ [] false .ab .ab .ab .ab) (cs:=g0) q jy rfl rfl (by decide) rfl (bS.up bX d5) (ai.b6 (ai.b6 eA bu) bX) (w3 (on:=[]) (un:=false))
theorem ajF{h:Lo}{k:Int}{n:Lu}{v:V}(an:v.cells=[v])(a6:v.scalar=true):I (.build [.int .i64 0,(.str []),(.str []), .bool false, .ab, .ab, .ab, .ab, .ab, .bool false, .bool false, .ab, .ab, .ab, .ab, .ab, .int .i64 0] [(0,(1,(.c (.int .i64 k)))),(1,(1,(.c (.str n)))),(4,(1,(.c v)))]) h=some (.agg (fb k n [] false v .ab .ab .ab .ab false false .ab .ab .ab .ab .ab 0)):=by
 have:je (fb k n [] false .ab .ab .ab .ab .ab false false .ab .ab .ab .ab .ab 0) [(4,1,v)]=some (fb k n [] false v .ab .ab .ab .ab false false .ab .ab .ab .ab .ab 0):=by
  cases v<;>first|rfl|(simp[V.scalar] at a6)
 simp only[I,aB,e8,Bv,List.map_cons,List.map_nil,fW]
 rw[show je [.int .i64 0,(.str []),(.str []), .bool false, .ab, .ab, .ab, .ab, .ab, .bool false, .bool false, .ab, .ab, .ab, .ab, .ab, .int .i64 0] [(0,1, .int .i64 k),(1,1, .str n),(4,1,v)]=je (fb k n [] false .ab .ab .ab .ab .ab false false .ab .ab .ab .ab .ab 0) [(4,1,v)] from rfl,this]
 rfl
theorem ajG{av:Nat→Prop}{h:Lo}{k:Int}{name:Lu}{v:V}{cs:List jz}(L:bw 4 fI av h v cs):h2.aK av h (.agg (fb k name [] false v .ab .ab .ab .ab false false .ab .ab .ab .ab .ab 0)) {ek with k:=k,name:=name,hk:=cs}:=
 ⟨_,_,_,_,_,_,_,_,_,_,rfl,L,bw.ab _ _ _ _,bw.ab _ _ _ _,bw.ab _ _ _ _,bw.ab _ _ _ _,bw.ab _ _ _ _,bw.ab _ _ _ _,bw.ab _ _ _ _,bw.ab _ _ _ _,bw.ab _ _ _ _⟩
theorem ajH{av:Nat→Prop}{h:Lo}{k:Int}{name on:Lu}{un:Bool}{v:V}{cs:List (Lu)}(L:bw 1 fM av h v cs):h2.aK av h (.agg (jl k name on un v .ab .ab .ab)) {ek with k:=k,name:=name,on:=on,un:=un,keys:=cs}:=
 ⟨_,_,_,_,_,_,_,_,_,_,rfl,bw.ab _ _ _ _,L,bw.ab _ _ _ _,bw.ab _ _ _ _,bw.ab _ _ _ _,bw.ab _ _ _ _,bw.ab _ _ _ _,bw.ab _ _ _ _,bw.ab _ _ _ _,bw.ab _ _ _ _⟩
theorem Uu{av:Nat→Prop}{h:Lo}{k:Int}{name:Lu}{ch star:Bool}{a b c d e:V}{b7:Int}{q:k7}(bj:q.ch=ch)(pO:q.star=star)(ax:q.b7=b7)(t1:bw 9 eC av h a q.items)(t2:bw 10 eM av h b q.eH)(t3:bw 8 bL av h c q.c1)(t4:bw 8 bL av h d q.fh)(t5:bw 9 eS av h e q.eV):
  h2.aK av h (.agg (fb k name [] false .ab .ab .ab .ab .ab ch star a b c d e b7)) {ek with k:=k,name:=name,q:=q}:=by
 subst bj;subst pO;subst ax
 exact⟨_,_,_,_,_,_,_,_,_,_,rfl,bw.ab _ _ _ _,bw.ab _ _ _ _,bw.ab _ _ _ _,bw.ab _ _ _ _,bw.ab _ _ _ _,t1,t2,t3,t4,t5⟩
theorem ajI{j:Nat}(aS:5000000<j){h:Lo}{bf r:Nat}{aW:V}{ws:List br}(gI:hj 5000 ws){s:bB}(q:ck h bf r aW ws s):aj (Ge j (.ptr bf 0 0) h) (gq h2 h bf r aW ws (mZ ws s)):=by
 have iP:=q.rd.lt
 obtain⟨A,eW⟩:∃p,p=bA ws [84,65,66,76,69] s:=⟨_,rfl⟩
 simp only[Ge]
 refine aj.ad (hs (cs:=g0) rfl) ?_
 rintro du R ⟨rfl,dX,ar⟩
 have c5:h.length<R.length:=dX.lt
 have aE:=q.aq ar
 simp only[aE.st.bz,aE.st.af,aE.dp,aO]
 refine aj.ad (fH [84,65,66,76,69] aE.rd) ?_
 rintro v ae ⟨rfl,d2,aA⟩
 rw[←eW] at d2⊢
 have aR:=aE.up aA d2
 have hi:=dX.aJ aA (fun z=>by simp at z;omega)
 have ew:=aA.len
 have gA:=ai.to ar aA
 simp only[a0]
 cases hp:A.1 with
 |true=>
  obtain⟨N,di⟩:∃p,p=dB ws A.2:=⟨_,rfl⟩
  obtain⟨C,hC⟩:∃p,p=nv ws (s_ ws) N.2:=⟨_,rfl⟩
  have fa:mZ ws s=({ek with k:=1,name:=N.1,hk:=C.1},C.2):=by subst hC di;simp only[mZ,←eW,hp,if_true]
  rw[fa]
  simp only[aU,aR.st.bz,aR.st.af,aR.dp,aO]
  refine aj.ad (mW aR.rd) ?_
  rintro v aQ ⟨rfl,d3,aT⟩
  rw[←di] at d3⊢
  have bE:=aR.up aT d3
  have i_:=aT.len
  simp only[bC]
  refine aj.ad (aiv (m:=s_ ws) (by omega) (aiN ws) bE (fun aa eb d k=>show aj (Ga j (.ptr bf 0 0) aa) _ from ajr (by omega) d)) ?_
  rintro c bo ⟨bS,bu,k_⟩
  rw[←hC] at bS k_
  simp only[ajF (bw.a8 k_).1 (bw.a8 k_).2,aO]
  have h0:=hi.aJ (ai.b6 aT bu) (fun z=>by simp at z;omega)
  exact hL (T:=h2) (n:=17) (aM:=fb 1 N.1 [] false c .ab .ab .ab .ab false false .ab .ab .ab .ab .ab 0) (cs:=g0) q h0 rfl rfl (by decide) (jk (bw.a8 k_).2 rfl rfl rfl rfl rfl rfl rfl rfl rfl) bS (ai.b6 gA (ai.b6 aT bu)) (ajG ((ca 4 fI).mono k_ (fun o _ z=>by omega)))
 |false=>
  obtain⟨B,ez⟩:∃p,p=bA ws [77,65,84,69,82,73,65,76,73,90,69,68] A.2:=⟨_,rfl⟩
  simp only[a7,aR.st.bz,aR.st.af,aR.dp,aO]
  refine aj.ad (fH [77,65,84,69,82,73,65,76,73,90,69,68] aR.rd) ?_
  rintro v aQ ⟨rfl,d3,aT⟩
  rw[←ez] at d3⊢
  have bE:=aR.up aT d3
  have gz:=hi.aJ aT (fun z=>by simp at z;omega)
  have i_:=aT.len
  have eA:=ai.b6 gA aT
  simp only[a0]
  cases k5:B.1 with
  |true=>
   obtain⟨N,di⟩:∃p,p=dB ws (fl ws [[86,73,69,87]] B.2):=⟨_,rfl⟩
   obtain⟨Q,Uv⟩:∃p,p=kb ws (fl ws [[65,83],[83,69,76,69,67,84]] N.2):=⟨_,rfl⟩
   have fa:mZ ws s=({ek with k:=3,name:=N.1,q:=Q.1},Q.2):=by subst Uv di;simp only[mZ,←eW,hp,Bool.false_eq_true,if_false,←ez,k5,if_true]
   rw[fa]
   simp only[aU,bE.st.bz,bE.st.af,bE.dp,aO]
   refine k4 (by omega) bE.rd (l:=[[86,73,69,87]]) (ah:=[(0, .str [86,73,69,87])]) rfl (by decide) rfl rfl fun bo d4 bu=> ?_
   have bS:=bE.up bu d4
   simp only[bS.st.bz,bS.st.af,bS.dp,aO]
   refine aj.ad (mW bS.rd) ?_
   rintro v bI ⟨rfl,d5,bX⟩
   rw[←di] at d5⊢
   have dn:=bS.up bX d5
   have M7:=ai.b6 bu bX
   have jy:=gz.aJ M7 (fun z=>by simp at z;omega)
   have jP:=M7.len
   simp only[bC,w5,aO]
   refine qZ (n:=17) (fU:=g0) (aM:=jl 3 N.1 [] false .ab .ab .ab .ab) rfl rfl rfl (by decide) rfl fun cR lJ cP=> ?_
   have ej:=dn.aq cP
   have k3:bI.length<cR.length:=lJ.lt
   simp only[ej.st.bz,ej.st.af,ej.dp,aO]
   refine k4 (by omega) ej.rd (l:=[[65,83],[83,69,76,69,67,84]]) (ah:=[(0, .str [65,83]),(1, .str [83,69,76,69,67,84])]) rfl (by decide) rfl rfl fun eF d7 dv=> ?_
   have fy:=ej.up dv d7
   have uM:=lJ.aJ dv (fun z=>by simp at z;omega)
   have np:=dv.len
   refine aj.ad (T0 aS gI fy) ?_
   rintro v eR ⟨gm,eJ,t8⟩
   rw[←Uv] at gm t8
   obtain⟨a,b,c,d,e,rfl,t1,t2,t3,t4,t5⟩:=id t8
   have r6:=uM.aJ eJ (fun z=>by simp at z;omega)
   have uF:=eJ.len
   have dF:=qc (ch:=Q.1.ch) (star:=Q.1.star) (b7:=Q.1.b7) (bw.a8 t1).2 (bw.a8 t2).2 (bw.a8 t3).2 (bw.a8 t4).2 (bw.a8 t5).2
   simp only[bP,aN,aZ,bn,bl,id_eq,bq,a1,a0,a5,r6.af,aO]
   refine aj.ad (bY.GO r6 (o:=0+9) (n:=8) (aM:=e2 Q.1.ch Q.1.star a b c d e Q.1.b7) rfl (by simp) (by decide) dF) ?_
   rintro u fZ ⟨CN,hv⟩
   have M5:bY fZ bI.length (fb 3 N.1 [] false .ab .ab .ab .ab .ab Q.1.ch Q.1.star a b c d e Q.1.b7):=CN
   have h1:=ck.apart q gm hv (fun o U=>by simp at U;omega)
   have db:ai bI eR [r]:=ai.to cP (ai.b6 dv eJ)
   have n3:=(jy.aJ db (fun z=>by simp at z;omega)).aJ hv (fun z=>by simp at z;omega)
   have rY:ai h fZ [r]:=(ai.b6 (ai.b6 eA M7) db).trans hv (fun o U _=>U) (fun o U bN=>by simp at U;omega)
   have t9:=zr.mono (zr.aJ t8 hv (fun o U z=>by simp at U;omega)) (bx:=fun o=>h.length<o) (fun o _ z=>by omega)
   obtain⟨eK,c2,c0,g4,ct,he,de,cD,dd,dh,dZ⟩:=t9
   simp only[V.agg.injEq,List.cons.injEq,and_true,true_and] at he
   obtain⟨rfl,rfl,rfl,rfl,rfl⟩:=he
   simp only[M5.e4 (n:=17) rfl,aO]
   exact hL (T:=h2) (n:=17) (aM:=fb 3 N.1 [] false .ab .ab .ab .ab .ab Q.1.ch Q.1.star a b c d e Q.1.b7) (cs:=g0) q n3 rfl rfl (by decide) (jk rfl rfl rfl rfl rfl (bw.a8 de).2 (bw.a8 cD).2 (bw.a8 dd).2 (bw.a8 dh).2 (bw.a8 dZ).2) h1 rY (Uu rfl rfl rfl de cD dd dh dZ)
  |false=>
   obtain⟨py,Uw⟩:∃p,p=bA ws [85,78,73,81,85,69] B.2:=⟨_,rfl⟩
   obtain⟨N,di⟩:∃p,p=dB ws (fl ws [[73,78,68,69,88]] py.2):=⟨_,rfl⟩
   obtain⟨O,Ux⟩:∃p,p=dB ws (fl ws [[79,78]] N.2):=⟨_,rfl⟩
   obtain⟨G,sB⟩:∃p,p=nv ws (dB ws) O.2:=⟨_,rfl⟩
   have fa:mZ ws s=({ek with k:=2,un:=py.1,name:=N.1,on:=O.1,keys:=G.1},G.2):=by subst sB Ux di Uw;simp only[mZ,←eW,hp,Bool.false_eq_true,if_false,←ez,k5]
   rw[fa]
   simp only[a7,bE.st.bz,bE.st.af,bE.dp,aO]
   refine aj.ad (fH [85,78,73,81,85,69] bE.rd) ?_
   rintro v bo ⟨rfl,d4,bu⟩
   rw[←Uw] at d4⊢
   have bS:=bE.up bu d4
   have h0:=gz.aJ bu (fun z=>by simp at z;omega)
   have ns:=bu.len
   have dL:I (.build [.int .i64 0,(.str []),(.str []), .bool false, .ab, .ab, .ab, .ab, .ab, .bool false, .bool false, .ab, .ab, .ab, .ab, .ab, .int .i64 0] [(0,(1,(.c (.int .i64 (2))))),(3,(1,(.c (.bool py.1))))]) bo=some (.agg (jl 2 [] [] py.1 .ab .ab .ab .ab)):=rfl
   simp only[a0,dL,aO]
   refine qZ (n:=17) (fU:=g0) (aM:=jl 2 [] [] py.1 .ab .ab .ab .ab) rfl rfl rfl (by decide) rfl fun bI lJ bX=> ?_
   have dn:=bS.aq bX
   have jP:bo.length<bI.length:=lJ.lt
   have one:∀{g cX:Lo},ai g cX [r]→ai g cX [r,bo.length]:=fun k=>k.mono (fun o U _=>by simp at U;simp[U])
   have two:∀{g cX:Lo},ai g cX [bo.length]→ai g cX [r,bo.length]:=fun k=>k.mono (fun o U _=>by simp at U;simp[U])
   simp only[dn.st.bz,dn.st.af,dn.dp,aO]
   refine k4 (by omega) dn.rd (l:=[[73,78,68,69,88]]) (ah:=[(0, .str [73,78,68,69,88])]) rfl (by decide) rfl rfl fun cR d6 cP=> ?_
   have ej:=dn.up cP d6
   simp only[ej.st.bz,ej.st.af,ej.dp,aO]
   refine aj.ad (mW ej.rd) ?_
   rintro v eF ⟨rfl,d7,dv⟩
   rw[←di] at d7⊢
   have fy:=ej.up dv d7
   have uM:=lJ.aJ (ai.b6 cP dv) (fun z=>by simp at z;omega)
   simp only[bC,uM.af,aO]
   refine aj.ad (uM.iK (o:=0+1) (x:= .str N.1) (by simp) ⟨rfl,rfl⟩) ?_
   rintro u eR ⟨r6,eJ⟩
   have gm:=ck.apart q fy eJ (fun o U=>by simp at U;omega)
   have ajJ:ai bI eR [r,bo.length]:=ai.b6 (one (ai.b6 cP dv)) (two eJ)
   simp only[gm.st.bz,gm.st.af,gm.dp,aO]
   refine k4 (by omega) gm.rd (l:=[[79,78]]) (ah:=[(0, .str [79,78])]) rfl (by decide) rfl rfl fun fZ d9 hv=> ?_
   have h1:=gm.up hv d9
   simp only[h1.st.bz,h1.st.af,h1.dp,aO]
   refine aj.ad (mW h1.rd) ?_
   rintro v hR ⟨rfl,d10,iO⟩
   rw[←Ux] at d10⊢
   have ps:=h1.up iO d10
   have Uy:=r6.aJ (ai.b6 hv iO) (fun z=>by simp at z;omega)
   simp only[bC,Uy.af,aO]
   refine aj.ad (Uy.iK (o:=0+2) (x:= .str O.1) (by simp) ⟨rfl,rfl⟩) ?_
   rintro u GK ⟨ajK,pt⟩
   have nu:=ck.apart q ps pt (fun o U=>by simp at U;omega)
   have Uz:ai bI GK [r,bo.length]:=ai.b6 ajJ (ai.b6 (one (ai.b6 hv iO)) (two pt))
   have TG:=Uz.len
   simp only[nu.st.bz,nu.st.af,nu.dp,aO]
   refine aj.ad (aiw (m:=dB ws) (by omega) (uC ws) nu (fun aa eb d k=>show aj (lq j (.ptr r 0 0) aa) _ from aju d)) ?_
   rintro g MH ⟨rZ,dW,M8⟩
   rw[←sB] at rZ M8
   have UA:=ajK.aJ dW (fun z=>by simp at z;omega)
   simp only[UA.af,aO]
   refine aj.ad (UA.iK (o:=0+5) (x:=g) (by simp) (bw.a8 M8)) ?_
   rintro u CH ⟨ajL,gy⟩
   have ajM:bY CH bo.length (jl 2 N.1 O.1 py.1 g .ab .ab .ab):=ajL
   have GX:=ck.apart q rZ gy (fun o U=>by simp at U;omega)
   have UB:=(ca 1 fM).mono ((ca 1 fM).aJ M8 gy (fun o U z=>by simp at U;omega)) (bx:=fun o=>h.length<o) (fun o _ z=>by omega)
   have UC:ai bI CH [r,bo.length]:=ai.b6 Uz (ai.b6 (one dW) (two gy))
   have ajN:=(h0.aq bX).aJ UC (fun z=>by simp at z;omega)
   have ajO:ai h CH [r]:=(ai.ro (ai.b6 eA bu) bX).trans UC (fun o U _=>U) (fun o U bN=>by simp at U;rcases U with rfl|rfl;simp;omega)
   simp only[ajM.e4 (n:=17) rfl,aO]
   exact hL (T:=h2) (n:=17) (aM:=jl 2 N.1 O.1 py.1 g .ab .ab .ab) (cs:=g0) q ajN rfl rfl (by decide) (jk rfl (bw.a8 UB).2 rfl rfl rfl rfl rfl rfl rfl rfl) GX ajO (ajH UB)
end Go.Proofs.YtjpjeilfmjdhcaaGreat.fC
