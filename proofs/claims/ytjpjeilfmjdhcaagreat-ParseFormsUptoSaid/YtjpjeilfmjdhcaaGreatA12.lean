/- The reader of expressions walked: functions over a column, operands. No condition. -/
import Derived.Test.YtjpjeilfmjdhcaaGreatA11
set_option maxRecDepth 100000
set_option linter.unusedVariables false
set_option linter.unusedSimpArgs false
set_option linter.unnecessarySimpa false
namespace Go.Proofs.YtjpjeilfmjdhcaaGreat.fw
open Go E ep eI fq
theorem ahK{az:Nat}{h aa:Lo}{v:V}{es:Lv}(s:dq az h v es)(k:ai h aa [])(n:Int):I (.cH az (.c v) (.c (.int .i64 n))) aa=I (.cH az (.c v) (.c (.int .i64 n))) h:=by
 cases v with
 |er i ao l=>
  have ahL:=k.same i (s.lt (by simp[dj])) (by simp)
  simp only[I,aB,e8,rA,fW,nJ,ahL]
  split
  ·cases h[i]? with
   |none=>rfl
   |some ao=>cases ao<;>first|rfl|(simp only;split<;>rfl)
  ·rfl
 |cx cc=>
  simp only[I,aB,e8,rA,fW,nJ,Option.map_map]
  rfl
 |_=>rfl
theorem ahM{a b c2:V}{h aa:Lo}{ao:Nat}(aV:I (.af ao (.c a)) h=some b)(bb:I (.af ao (.c a)) aa=some c2):b=c2:=by
 cases a<;>simp[I,aB,e8,vW,fW] at aV bb
 ·exact aV.2.symm.trans bb.2
 ·exact aV.symm.trans bb
theorem dq.ahN{n:Nat}{h aa:Lo}{v:V}{es:Lv}(s:dq n h v es)(k:ai h aa []){i:Int}{cs:Lv}(aH:0≤i)(he:es[i.toNat]? =some (.agg cs))(an:cs.length=n)(aI:0<n)(a6:cs.all V.scalar=true){ao:Nat}{x:V}(au:cs[ao]? =some x):
  ∃a b,I (.cH n (.c v) (.c (.int .i64 i))) h=some a∧I (.af ao (.c a)) h=some b∧I (.ag (.c b)) h=some x∧I (.cH n (.c v) (.c (.int .i64 i))) aa=some a∧I (.af ao (.c a)) aa=some b∧I (.ag (.c b)) aa=some x:=by
 obtain⟨a,b5,cI⟩:=s.K7 aH he an aI a6
 obtain⟨b,dL,fL⟩:=cI ao x au
 obtain⟨eK,bF,bD⟩:=(s.aq k).K7 aH he an aI a6
 obtain⟨c2,d1,d2⟩:=bD ao x au
 have e:=ahK s k i
 rw[bF,b5] at e
 injection e with e
 subst e
 have:=ahM dL d1
 subst this
 exact⟨_,_,b5,dL,fL,bF,d1,d2⟩
theorem ahO(j k dz r:Nat)(aS:1000<j){aW:V}{ws:List br}(aF:s7 j k dz r aW ws){h:Lo}{s:bB}{w:br}(q:e0 h r aW ws s)(hw:ws[s.i]? =some w)(bd:10*(ws.length-s.i)≤dz+2):aj (LS j (iu j k) (.ptr r 0 0) h) (p9 h r aW ws (mV ws (ei ws dz 0) w.s s)):=by
 have nY:=q.lt
 have rX:∀o,o∈dj aW→o<h.length:=fun o U=>q.cx.lt U
 have bN:=(List.getElem?_eq_some_iff.1 hw).1
 simp only[LS]
 refine aj.ad (hs (cs:=gT) rfl) ?_
 rintro du R ⟨rfl,dX,ar⟩
 have aE:=q.aq ar
 have c5:h.length<R.length:=dX.lt
 have fx:∀dw:Lo,I (.build [.int .i64 0,(.str []), .int .i64 0, .int .i64 0,(.str []),(.str []),(.str []), .ab] [(0,(1,(.c (.int .i64 (6))))),(1,(1,(.c (.str w.s))))]) dw=some (.agg (bH ⟨6,w.s,0,0,[],[],[]⟩ .ab)):=fun _=>rfl
 obtain⟨e,ae,ME,rfl,ht,aA⟩:=hs (h:=R) (cs:=gT) rfl
 obtain⟨a,b,b5,cI,fo,gC,gb,g8⟩:=dq.ahN aE.cx aA (i:=(s.i:Int)) (cs:=jx w) (by omega) (by simp[pk,hw]) rfl (by decide) rfl (ao:=1) (x:= .str w.s) rfl
 have aR:=aE.aq aA
 simp only[aE.st.bz,aE.st.af,aE.dp,aE.hX,aO,a1,b5,cI,fo,bC,fx,bP,aN,aZ,bn,bl,id_eq,bq,a5,ME,fp,gC,gb,g8,aR.st.bz,aR.st.af,aR.dp,aR.hX,uE]
 refine aj.ad (ht.ic (aM:=bH ⟨6,w.s,0,0,[],[],[]⟩ .ab) rfl (by simp) rfl (n:=8) rfl) ?_
 rintro u aQ ⟨MC,aT⟩
 have ew:R.length<ae.length:=ht.lt
 have GH:ai R aQ []:=aA.trans aT (fun o U=>by cases U) (fun o U bN=>by simp at U;omega)
 have bE:=aE.aq GH
 have gz:=dX.aq GH
 simp only[bE.st.bz,bE.st.af,bE.hX,aO,a1]
 refine aj.ad (bE.wL bN) ?_
 rintro u bo ⟨bS,bu⟩
 have n2:=MC.aJ bu (fun z=>by simp at z;omega)
 have h0:=gz.aJ bu (fun z=>by simp at z;omega)
 have gM:ai h bo [r]:=ai.to (ar.bs GH) bu
 have ns:R.length≤bo.length:=(ai.to GH bu).len
 refine k4 aS bS (l:=[[40]]) (ah:=[(0, .str [40])]) rfl (by decide) rfl rfl fun bI dn bX=> ?_
 have pr:=n2.aJ bX (fun z=>by simp at z;omega)
 have jy:=h0.aJ bX (fun z=>by simp at z;omega)
 have iN:=ai.b6 gM bX
 have jP:bo.length≤bI.length:=bX.len
 have arA:s.i+1≤(fl ws [[40]] (hb s)).i:=pq ws [[40]] (hb s)
 have arB:=dn.le
 
 have inner:aL (FH j (iu j k) (.ptr r 0 0) (.ptr R.length 0 0) bI) fun x ak aa=>x= .normal∧ak=[]∧ai h aa [r]∧bY aa h.length gT∧bI.length≤aa.length∧∃aG ah s1,mV ws (ei ws dz 0) w.s s=(.mk ⟨6,w.s,0,0,[],[],[]⟩ ah,fl ws [[41]] s1)∧e0 aa r aW ws s1∧bY aa R.length (bH ⟨6,w.s,0,0,[],[],[]⟩ aG)∧c6 (fun o=>R.length<o) aa (.agg (bH ⟨6,w.s,0,0,[],[],[]⟩ aG)) (.mk ⟨6,w.s,0,0,[],[],[]⟩ ah):=by
  
  have deep:∀(g:Lo) (s1:bB),e0 g r aW ws s1→ai h g [r]→bY g R.length (bH ⟨6,w.s,0,0,[],[],[]⟩ .ab)→bY g h.length gT→bI.length≤g.length→s.i<s1.i→mV ws (ei ws dz 0) w.s s=(wH w.s [(ei ws dz 0 s1).1],fl ws [[41]] (ei ws dz 0 s1).2)→
    aL (ad (iu j k 120 [.ptr r 0 0, .int .i64 0] g) fun v mT=>
     sL v fun c5=>im c5 fun bF ew=>bt .i64 bF fun ahP=>im ew fun bD i_=>b1 bD fun ahQ=>im i_ fun b8 ns=>bt .i64 b8 fun ahR=>im ns fun cu jP=>bt .i64 cu fun ahS=>
     im jP fun cK k3=>b1 cK fun ahT=>im k3 fun me np=>b1 me fun ahU=>im np fun ahV uF=>b1 ahV fun ahW=>im uF fun ahX uG=>dT uG (
     ad (aB (.dN 8 (.agg [.int .i64 0,(.str []), .int .i64 0, .int .i64 0,(.str []),(.str []),(.str []), .ab]) 1 [(0,(.c (.agg [.int .i64 ahP, .str ahQ, .int .i64 ahR, .int .i64 ahS, .str ahT, .str ahU, .str ahW,ahX])))]) mT) fun oB oJ=>
     J (I (.af 7 (.c (.ptr R.length 0 0))) oJ) fun CE=>
     ad (aB (.store 1 (.c CE) (.c oB)) oJ) fun u ahY=>
     some (.normal,[],ahY))) fun x ak aa=>x= .normal∧ak=[]∧ai h aa [r]∧bY aa h.length gT∧bI.length≤aa.length∧∃aG ah s1,mV ws (ei ws dz 0) w.s s=(.mk ⟨6,w.s,0,0,[],[],[]⟩ ah,fl ws [[41]] s1)∧e0 aa r aW ws s1∧bY aa R.length (bH ⟨6,w.s,0,0,[],[],[]⟩ aG)∧c6 (fun o=>R.length<o) aa (.agg (bH ⟨6,w.s,0,0,[],[],[]⟩ aG)) (.mk ⟨6,w.s,0,0,[],[],[]⟩ ah):=by
   intro g s1 GI nt CF ahZ DK aw hp
   have hle:=GI.le
   have arC:=CF.lt
   refine aL.ad (zd aF 0 rfl (by decide) GI (by omega)) ?_
   rintro v aY ⟨ej,cP,n,aG,ah,k6,rfl,gS⟩
   have ah0:=CF.aJ cP (fun z=>by simp at z;omega)
   have ah1:=ahZ.aJ cP (fun z=>by simp at z;omega)
   have k3:g.length≤aY.length:=cP.len
   simp only[bP,aN,aZ,bn,bl,id_eq,bq,a1,bC,a5]
   refine aL.ad (GG gS (m:=⟨6,w.s,0,0,[],[],[]⟩)) ?_
   rintro y cU ⟨qS,a_,dv,hz⟩
   have TA:=ah0.aq dv
   simp only[TA.af,aO]
   refine aL.ad (TA.iK (o:=0+7) (x:=y) (by simp) ⟨qS,a_⟩) ?_
   rintro u h_ ⟨ah2,eJ⟩
   have np:aY.length≤cU.length:=dv.len
   have uF:cU.length≤h_.length:=eJ.len
   have ah3:ai h h_ [r]:=(ai.ro (ai.b6 nt cP) dv).trans eJ (fun o U _=>U) (fun o U bN=>by simp at U;omega)
   have fy:=ej.aq dv
   refine aL.some ⟨rfl,rfl,ah3,(ah1.aq dv).aJ eJ (fun z=>by simp at z;omega),by omega,y,[.mk n ah],(ei ws dz 0 s1).2, ?_, ?_,ah2, ?_⟩
   ·rw[hp,k6];rfl
   ·exact⟨fy.st.aJ eJ (fun z=>by simp at z;omega),fy.cx.aJ eJ (fun o U z=>by simp at z;have:=rX o U;omega),fy.n0,fy.le,fy.ih⟩
   ·refine(hz.mono (fun o _ z=> ?_)).aJ eJ (fun o U z=>by simp at U;omega)
    rcases z with z|z<;>omega
  simp only[FH,LR,pr.af,pr.ag (o:=0+1) (c:= .str w.s) rfl,aO,bC]
  by_cases an:w.s=[67,79,85,78,84]
  ·have:(w.s==[67,79,85,78,84])=true:=by rw[an];rfl
   obtain⟨v,cR,p_,rfl,ej,cP⟩:=fH (j:=j) [42] dn
   have zf:=pr.aJ cP (fun z=>by simp at z;omega)
   have mn:=jy.aJ cP (fun z=>by simp at z;omega)
   have ja:=ai.b6 iN cP
   have arD:=ks ws [42] (fl ws [[40]] (hb s))
   simp only[this,Bool.not_true,a7,p_,fp,a0,gY,decide_true,aU,aN,aZ,bn,bl,id_eq,bq,a5]
   cases dw:(bA ws [42] (fl ws [[40]] (hb s))).1 with
   |true=>
    simp only[Bool.not_true,a7]
    refine aL.some ⟨rfl,rfl,ja,mn,cP.len, .ab,[],(bA ws [42] (fl ws [[40]] (hb s))).2, ?_,ej,zf,wO⟩
    simp only[mV,if_pos an,dw,if_true];rfl
   |false=>
    simp only[Bool.not_false,aU]
    refine deep cR _ ej ja zf mn cP.len (by omega) ?_
    simp only[mV,if_pos an,dw,Bool.false_eq_true,if_false]
  ·have:(w.s==[67,79,85,78,84])=false:=by simpa using an
   simp only[this,Bool.not_false,aU,gY,decide_true,aN,aZ,bn,bl,id_eq,bq,a0,a5]
   refine deep bI _ dn iN pr jy (Nat.le_refl _) (by omega) ?_
   simp only[mV,if_neg an]
 refine aj.bO inner ?_
 rintro x ak cR ⟨rfl,rfl,ja,mn,k3,aG,ah,s1,hp,ej,zf,gS⟩
 simp only[decide_true,aU,a5]
 refine k4 aS ej (l:=[[41]]) (ah:=[(0, .str [41])]) rfl (by decide) rfl rfl fun eF fy dv=> ?_
 have MD:=zf.aJ dv (fun z=>by simp at z;omega)
 have mo:=mn.aJ dv (fun z=>by simp at z;omega)
 have hz:=gS.aJ dv (fun o U z=>by simp at U;omega)
 simp only[MD.e4 (n:=8) rfl,aO,bP,aN,aZ,bn,bl,id_eq,bq,a1,bC,a5]
 rw[hp]
 exact mX (cs:=gT) (n:=⟨6,w.s,0,0,[],[],[]⟩) (aG:=aG) (ah:=ah) q rfl mo fy (ai.b6 ja dv) hz (fun o z=>by omega)
theorem ah4{h:Lo}{w:br}{K:V→Lo→a9}{Q:cg→Lv→Lo→Prop}(eY:∀ae,bY ae h.length (jx w)→ai h ae []→aL (K (.ptr h.length 0 0) ae) Q):
  aL (ad (aB (.alloc false (.agg [.int .i64 0,(.str []), .int .i64 0])) h) fun x mT=>ad (aB (.store 3 (.c x) (.c (.agg [.int .i64 w.k, .str w.s, .int .i64 w.n]))) mT) fun _ oJ=>K x oJ) Q:=by
 refine aL.ad (hs (cs:=jx rV) rfl) ?_
 rintro x R ⟨rfl,st,ar⟩
 refine aL.ad (st.ic (aM:=jx w) rfl (by simp) rfl (n:=3) rfl) ?_
 rintro u ae ⟨ds,aA⟩
 exact eY ae ds (ar.trans aA (fun o U=>by cases U) (fun o U bN=>by simp at U;omega))
abbrev TB(j k f r:Nat)(aW:V)(ws:List br):Prop:=∀(h:Lo) (s:bB) (w:br),e0 h r aW ws s→ws[s.i]? =some w→10*(ws.length-s.i)≤f+2→aj (iu j k 135 [.ptr r 0 0] h) (p9 h r aW ws (mV ws (ei ws f 0) w.s s))
theorem TC(j k dz r:Nat)(aS:1000<j){aW:V}{ws:List br}(aF:s7 j k dz r aW ws)(bh:TB j k dz r aW ws){h:Lo}{s:bB}(q:e0 h r aW ws s)(bd:10*(ws.length-s.i)≤dz+2):aj (LU j (iu j k) (.ptr r 0 0) h) (p9 h r aW ws (j_ ws (ei ws dz 0) s)):=by
 have nY:=q.lt
 have rX:∀o,o∈dj aW→o<h.length:=fun o U=>q.cx.lt U
 simp only[LU]
 refine aj.ad (hs (cs:=gT) rfl) ?_
 rintro du R ⟨rfl,dX,ar⟩
 have c5:h.length<R.length:=dX.lt
 refine aj.ad (fH [40] (q.aq ar)) ?_
 rintro v ae ⟨rfl,aR,aA⟩
 have hi:=dX.aJ aA (fun z=>by simp at z;omega)
 have gA:=ai.to ar aA
 have ew:R.length≤ae.length:=aA.len
 simp only[a0]
 cases hp:(bA ws [40] s).1 with
 |true=>
  obtain⟨a6,bN⟩:=ly hp
  have aw:s.i<(bA ws [40] s).2.i:=by rw[a6];simp[hb]
  have arE:=aR.le
  have fa:j_ ws (ei ws dz 0) s=((ei ws dz 0 (bA ws [40] s).2).1,fl ws [[41]] (ei ws dz 0 (bA ws [40] s).2).2):=by simp only[j_,hp,if_true]
  rw[fa]
  simp only[aU]
  refine aj.ad (zd aF 0 rfl (by decide) aR (by omega)) ?_
  rintro v aQ ⟨bE,aT,n,aG,ah,k6,rfl,cb⟩
  have gz:=hi.aJ aT (fun z=>by simp at z;omega)
  have i_:ae.length≤aQ.length:=aT.len
  simp only[bP,aN,aZ,bn,bl,id_eq,bq,a1,bC,a5]
  refine wN (l0 cb) fun bo ht bu=> ?_
  have dI:=cb.aq bu
  have ns:aQ.length<bo.length:=ht.lt
  refine k4 aS (bE.aq bu) (l:=[[41]]) (ah:=[(0, .str [41])]) rfl (by decide) rfl rfl fun bI dn bX=> ?_
  have pr:=ht.aJ bX (fun z=>by simp at z;omega)
  have jy:=(gz.aq bu).aJ bX (fun z=>by simp at z;omega)
  have fQ:=dI.aJ bX (fun o U z=>by simp at U;omega)
  simp only[pr.e4 (n:=8) rfl,aO,bP,aN,aZ,bn,bl,id_eq,bq,a1,bC,a5]
  rw[k6]
  exact mX (cs:=gT) (n:=n) (aG:=aG) (ah:=ah) q rfl jy dn (ai.b6 (ai.ro (ai.b6 gA aT) bu) bX) fQ (fun o z=>by omega)
 |false=>
  simp only[a7]
  refine aj.ad (uD 2 aR) ?_
  rintro v aQ ⟨rfl,aT⟩
  simp only[mf,aN,aZ,bn,bl,id_eq,bq,bP,a1,bC,a0,a5]
  refine zb fun bo zg bu=> ?_
  have uv:=aT.bs bu
  have bS:=aR.aq uv
  have h0:=hi.aq uv
  have gM:=ai.ro gA uv
  have ns:ae.length≤aQ.length:=aT.len
  cases wR:hM ws 2 (bA ws [40] s).2 with
  |some w=>
   rw[wR,Option.getD_some] at zg
   simp only[Option.isSome_some,aU,bS.st.bz,bS.st.af,bS.hX,aO,a1]
   refine aj.ad (bS.wL (qR wR).1) ?_
   rintro u bI ⟨dn,bX⟩
   have TD:=zg.aJ bX (fun z=>by simp at z;omega)
   have jy:=h0.aJ bX (fun z=>by simp at z;omega)
   have dL:I (.build [.int .i64 0, .int .i64 0,(.str [])] [(0,(1,(.c (.int .i64 (1))))),(1,(1,(.c (.int .i64 w.n))))]) bI=some (.agg [.int .i64 1, .int .i64 w.n, .str []]):=rfl
   have fL:I (.build [.int .i64 0,(.str []), .int .i64 0, .int .i64 0,(.str []),(.str []),(.str []), .ab] [(0,(1,(.c (.int .i64 (1))))),(2,(3,(.c (.agg [.int .i64 1, .int .i64 w.n,(.str [])]))))]) bI=some (.agg (bH ⟨1,[],1,w.n,[],[],[]⟩ .ab)):=rfl
   simp only[TD.af,TD.ag (o:=0+2) (c:= .int .i64 w.n) rfl,aO,a1,dL,fL,bP,aN,aZ,bn,bl,id_eq,bq,bC,a5]
   have fa:j_ ws (ei ws dz 0) s=(Th w.n,hb (bA ws [40] s).2):=by simp only[j_,hp,Bool.false_eq_true,if_false,wR]
   rw[fa]
   exact mX (cs:=gT) (n:=⟨1,[],1,w.n,[],[],[]⟩) (aG:= .ab) (ah:=[]) (av:=fun o=>h.length<o) q rfl jy dn (ai.b6 gM bX) wO (fun o z=>z)
  |none=>
   simp only[Option.isSome_none,a7]
   refine aj.ad (uD 3 bS) ?_
   rintro v bI ⟨rfl,bX⟩
   simp only[mf,aN,aZ,bn,bl,id_eq,bq,bP,a1,bC,a0,a5]
   refine zb fun cR ka cP=> ?_
   have MF:=bX.bs cP
   have ej:=bS.aq MF
   have mn:=h0.aq MF
   have ja:=ai.ro gM MF
   have k3:bo.length≤bI.length:=bX.len
   have arF:aQ.length≤bo.length:=bu.len
   cases zh:hM ws 3 (bA ws [40] s).2 with
   |some w=>
    rw[zh,Option.getD_some] at ka
    simp only[Option.isSome_some,aU,ej.st.bz,ej.st.af,ej.hX,aO,a1]
    refine aj.ad (ej.wL (qR zh).1) ?_
    rintro u eF ⟨fy,dv⟩
    have TE:=ka.aJ dv (fun z=>by simp at z;omega)
    have mo:=mn.aJ dv (fun z=>by simp at z;omega)
    have dL:I (.build [.int .i64 0, .int .i64 0,(.str [])] [(0,(1,(.c (.int .i64 (2))))),(2,(1,(.c (.str w.s))))]) eF=some (.agg [.int .i64 2, .int .i64 0, .str w.s]):=rfl
    have fL:I (.build [.int .i64 0,(.str []), .int .i64 0, .int .i64 0,(.str []),(.str []),(.str []), .ab] [(0,(1,(.c (.int .i64 (1))))),(2,(3,(.c (.agg [.int .i64 2, .int .i64 0, .str w.s]))))]) eF=some (.agg (bH ⟨1,[],2,0,w.s,[],[]⟩ .ab)):=rfl
    simp only[TE.af,TE.ag (o:=0+1) (c:= .str w.s) rfl,aO,a1,dL,fL,bP,aN,aZ,bn,bl,id_eq,bq,bC,a5]
    have fa:j_ ws (ei ws dz 0) s=(Ti w.s,hb (bA ws [40] s).2):=by simp only[j_,hp,Bool.false_eq_true,if_false,wR,zh]
    rw[fa]
    exact mX (cs:=gT) (n:=⟨1,[],2,0,w.s,[],[]⟩) (aG:= .ab) (ah:=[]) (av:=fun o=>h.length<o) q rfl mo fy (ai.b6 ja dv) wO (fun o z=>z)
   |none=>
    simp only[Option.isSome_none,a7]
    refine aj.ad (fH [78,85,76,76] ej) ?_
    rintro v eF ⟨rfl,fy,dv⟩
    have mo:=mn.aJ dv (fun z=>by simp at z;omega)
    have mq:=ai.b6 ja dv
    have arG:cR.length≤eF.length:=dv.len
    have arH:bI.length≤cR.length:=cP.len
    simp only[a0]
    cases dt:(bA ws [78,85,76,76] (bA ws [40] s).2).1 with
    |true=>
     have dL:I (.build [.int .i64 0,(.str []), .int .i64 0, .int .i64 0,(.str []),(.str []),(.str []), .ab] [(0,(1,(.c (.int .i64 (1)))))]) eF=some (.agg (bH ⟨1,[],0,0,[],[],[]⟩ .ab)):=rfl
     have fa:j_ ws (ei ws dz 0) s=(Tj,(bA ws [78,85,76,76] (bA ws [40] s).2).2):=by simp only[j_,hp,Bool.false_eq_true,if_false,wR,zh,dt,if_true]
     rw[fa]
     simp only[aU,dL,aO,bP,aN,aZ,bn,bl,id_eq,bq,a1,bC,a5]
     exact mX (cs:=gT) (n:=⟨1,[],0,0,[],[],[]⟩) (aG:= .ab) (ah:=[]) (av:=fun o=>h.length<o) q rfl mo fy mq wO (fun o z=>z)
    |false=>
     simp only[a7]
     
     have ah5:aL (FI j (iu j k) (.ptr r 0 0) (.ptr h.length 0 0) eF) fun x ak aa=>ak=[]∧ai h aa [r]∧
       ((x= .ret∧∃w n aG ah,hM ws 1 (bA ws [78,85,76,76] (bA ws [40] s).2).2=some w∧iw w.s p6=true∧(mV ws (ei ws dz 0) w.s (bA ws [78,85,76,76] (bA ws [40] s).2).2).1= .mk n ah∧e0 aa r aW ws (mV ws (ei ws dz 0) w.s (bA ws [78,85,76,76] (bA ws [40] s).2).2).2∧bY aa h.length (bH n aG)∧c6 (fun o=>h.length<o) aa (.agg (bH n aG)) (.mk n ah))∨
        (x= .normal∧(∀w,hM ws 1 (bA ws [78,85,76,76] (bA ws [40] s).2).2=some w→iw w.s p6=false)∧e0 aa r aW ws (bA ws [78,85,76,76] (bA ws [40] s).2).2∧bY aa h.length gT)):=by
      simp only[FI]
      refine aL.ad (uD 1 fy) ?_
      rintro v eR ⟨rfl,eJ⟩
      simp only[mf,aN,aZ,bn,bl,id_eq,bq,bP,a1,bC,a0,a5]
      refine ah4 fun fZ wS hv=> ?_
      have MG:=eJ.bs hv
      have h1:=fy.aq MG
      have n3:=mo.aq MG
      have rY:=ai.ro mq MG
      cases zi:hM ws 1 (bA ws [78,85,76,76] (bA ws [40] s).2).2 with
      |none=>
       simp only[Option.isSome_none,a7]
       exact aL.some ⟨rfl,rY, .inr ⟨rfl,(fun w z=>nomatch z),h1,n3⟩⟩
      |some w=>
       rw[zi,Option.getD_some] at wS
       simp only[Option.isSome_some,aU,wS.af,wS.ag (o:=0+1) (c:= .str w.s) rfl,aO,bC]
       refine aL.ad (Td aS w.s) ?_
       rintro v hR ⟨rfl,iO⟩
       simp only[a0]
       have ps:=h1.aq iO
       have CG:=n3.aq iO
       have zj:=ai.ro rY iO
       cases GJ:iw w.s p6 with
       |false=>
        simp only[a7]
        exact aL.some ⟨rfl,zj, .inr ⟨rfl,(fun a2 z=>by injection z with z;subst z;exact GJ),ps,CG⟩⟩
       |true=>
        simp only[aU]
        have arI:=ks ws [78,85,76,76] (bA ws [40] s).2
        have arJ:=ks ws [40] s
        refine aL.ad (bh hR _ w ps (qR zi).2.2.1 (by omega)) ?_
        rintro v GK ⟨nu,pt,n,aG,ah,k6,rfl,TF⟩
        have GL:=CG.aJ pt (fun z=>by simp at z;omega)
        have TG:h.length<hR.length:=CG.lt
        simp only[bP,aN,aZ,bn,bl,id_eq,bq,a1,bC,a5]
        refine aL.ad (GL.ic (aM:=bH n aG) rfl (by simp) (l0 TF) (n:=8) rfl) ?_
        rintro u MH ⟨MI,dW⟩
        refine aL.some ⟨rfl,(ai.b6 zj pt).trans dW (fun o U _=>U) (fun o U bN=>by simp at U;omega), .inl ⟨rfl,w,n,aG,ah,rfl,GJ,k6, ?_,MI, ?_⟩⟩
        ·exact⟨nu.st.aJ dW (fun z=>by simp at z;omega),nu.cx.aJ dW (fun o U z=>by simp at z;have:=rX o U;omega),nu.n0,nu.le,nu.ih⟩
        ·exact(TF.mono (fun o _ z=>by omega)).aJ dW (fun o U z=>by simp at U;omega)
     refine aj.bO ah5 ?_
     rintro x ak eR ⟨rfl,TH,⟨rfl,w,n,aG,ah,zi,GJ,k6,gm,s9,wQ⟩|⟨rfl,Lf,gm,s9⟩⟩
     ·have fa:j_ ws (ei ws dz 0) s=mV ws (ei ws dz 0) w.s (bA ws [78,85,76,76] (bA ws [40] s).2).2:=by simp only[j_,hp,Bool.false_eq_true,if_false,wR,zh,dt,zi,GJ,if_true]
      rw[fa]
      simp only[decide_true,aU,a5,show dS eR 8 (.ptr h.length 0 0)=some (.agg (bH n aG)) from s9.bp,aO]
      exact aj.some ⟨gm,TH,n,aG,ah,k6,rfl,wQ.mono fun o _ z=>Nat.le_of_lt z⟩
     ·have nj:decide (cg.normal=cg.ret)=false:=rfl
      have uF:h.length<eR.length:=s9.lt
      simp only[nj,a7,decide_true,aU,a5]
      have TI:(match hM ws 1 (bA ws [78,85,76,76] (bA ws [40] s).2).2 with
        |some w=>if iw w.s p6=true then mV ws (ei ws dz 0) w.s (bA ws [78,85,76,76] (bA ws [40] s).2).2 else po ws (bA ws [78,85,76,76] (bA ws [40] s).2).2
        |none=>po ws (bA ws [78,85,76,76] (bA ws [40] s).2).2)=po ws (bA ws [78,85,76,76] (bA ws [40] s).2).2:=by
       cases zi:hM ws 1 (bA ws [78,85,76,76] (bA ws [40] s).2).2 with
       |none=>rfl
       |some w=>simp only[Lf w zi,Bool.false_eq_true,if_false]
      have fa:j_ ws (ei ws dz 0) s=po ws (bA ws [78,85,76,76] (bA ws [40] s).2).2:=by
       simp only[j_,hp,Bool.false_eq_true,if_false,wR,zh,dt]
       exact TI
      rw[fa]
      clear TI fa
      generalize (bA ws [78,85,76,76] (bA ws [40] s).2).2=t at gm
      refine aj.ad (mW gm) ?_
      rintro v fZ ⟨rfl,h1,hv⟩
      have n3:=s9.aJ hv (fun z=>by simp at z;omega)
      have rY:=ai.b6 TH hv
      have uG:eR.length≤fZ.length:=hv.len
      have dL:I (.build [.int .i64 0,(.str []), .int .i64 0, .int .i64 0,(.str []),(.str []),(.str []), .ab] [(0,(1,(.c (.int .i64 (2))))),(6,(1,(.c (.str (dB ws t).1))))]) fZ=some (.agg (bH ⟨2,[],0,0,[],[],(dB ws t).1⟩ .ab)):=rfl
      simp only[bC,dL,aO,bP,aN,aZ,bn,bl,id_eq,bq,a1,a5]
      refine wN (n:=⟨2,[],0,0,[],[],(dB ws t).1⟩) (aG:= .ab) rfl fun hR ht iO=> ?_
      have ps:=h1.aq iO
      have CG:=n3.aq iO
      have zj:=ai.ro rY iO
      refine aj.ad (fH [46] ps) ?_
      rintro v GK ⟨rfl,nu,pt⟩
      have GM:=ht.aJ pt (fun z=>by simp at z;omega)
      have GL:=CG.aJ pt (fun z=>by simp at z;omega)
      have TJ:=ai.b6 zj pt
      simp only[a0,po]
      cases bj:(bA ws [46] (dB ws t).2).1 with
      |false=>
       simp only[a7,Bool.false_eq_true,if_false,GM.e4 (n:=8) rfl,aO,bP,aN,aZ,bn,bl,id_eq,bq,a1,bC,a5]
       exact mX (cs:=gT) (n:=⟨2,[],0,0,[],[],(dB ws t).1⟩) (aG:= .ab) (ah:=[]) (av:=fun o=>h.length<o) q rfl GL nu TJ wO (fun o z=>z)
      |true=>
       obtain⟨v,MH,ah6,rfl,rZ,dW⟩:=mW (j:=j) nu
       have MJ:=GM.aJ dW (fun z=>by simp at z;omega)
       have MI:=GL.aJ dW (fun z=>by simp at z;omega)
       simp only[aU,if_true,GM.af,GM.ag (o:=0+6) (c:= .str (dB ws t).1) rfl,aO,bC,ah6,fp,MJ.af,MJ.ag (o:=0+6) (c:= .str (dB ws t).1) rfl,uE]
       refine aj.ad (MJ.iK (o:=0+5) (x:= .str (dB ws t).1) (by simp) ⟨rfl,rfl⟩) ?_
       rintro u CH ⟨TK,gy⟩
       simp only[TK.af,aO]
       refine aj.ad (TK.iK (o:=0+6) (x:= .str (dB ws (bA ws [46] (dB ws t).2).2).1) (by simp) ⟨rfl,rfl⟩) ?_
       rintro u MK ⟨ah7,lZ⟩
       have GN:=gy.trans lZ (C:=[fZ.length]) (fun o U _=>U) (fun o U _=>U)
       have ah8:=MI.aJ GN (fun z=>by simp at z;omega)
       have uH:e0 MK r aW ws (dB ws (bA ws [46] (dB ws t).2).2).2:=⟨rZ.st.aJ GN (fun z=>by simp at z;omega),rZ.cx.aJ GN (fun o U z=>by simp at z;have:=rX o U;omega),rZ.n0,rZ.le,rZ.ih⟩
       have ah9:bY MK fZ.length (bH ⟨2,[],0,0,[],(dB ws t).1,(dB ws (bA ws [46] (dB ws t).2).2).1⟩ .ab):=ah7
       simp only[ah9.e4 (n:=8) rfl,aO,bP,aN,aZ,bn,bl,id_eq,bq,a1,bC,a5]
       exact mX (cs:=gT) (n:=⟨2,[],0,0,[],(dB ws t).1,(dB ws (bA ws [46] (dB ws t).2).2).1⟩) (aG:= .ab) (ah:=[]) (av:=fun o=>h.length<o) q rfl ah8 uH ((ai.b6 TJ dW).trans GN (fun o U _=>U) (fun o U bN=>by simp at U;omega)) wO (fun o z=>z)
theorem TL(j k dz r:Nat)(aS:1000<j){aW:V}{ws:List br}(aF:s7 j k dz r aW ws):TB j (k+1) dz r aW ws:=by
 intro h s w q hw bd
 exact ahO j k dz r aS aF q hw bd
theorem ah_(j K dz r:Nat)(aS:1000<j){aW:V}{ws:List br}(aF:∀k,K≤k→s7 j k dz r aW ws):∀(m g k:Nat) (h:Lo) (s:bB),ws.length-s.i≤m→m<g→K+m+3≤k→e0 h r aW ws s→10*(ws.length-s.i)≤dz+2→
  aj (FO j (iu j k) (.ptr r 0 0) h) (p9 h r aW ws (nr ws (ei ws dz 0) g s)):=by
 intro m
 induction m with
 |zero=>
  intro g k h s hm dt aH q bd
  obtain⟨g,rfl⟩:∃cX,g=cX+1:=⟨g-1,by omega⟩
  obtain⟨k,rfl⟩:∃gu,k=gu+2:=⟨k-2,by omega⟩
  have nY:=q.lt
  have rX:∀o,o∈dj aW→o<h.length:=fun o U=>q.cx.lt U
  simp only[FO]
  refine aj.ad (hs (cs:=gT) rfl) ?_
  rintro du R ⟨rfl,dX,ar⟩
  have c5:h.length<R.length:=dX.lt
  refine aj.ad (fH [45] (q.aq ar)) ?_
  rintro v ae ⟨rfl,aR,aA⟩
  have hi:=dX.aJ aA (fun z=>by simp at z;omega)
  have gA:=ai.to ar aA
  cases hp:(bA ws [45] s).1 with
  |true=>
   have:=ly hp
   omega
  |false=>
   have a6:=My hp
   simp only[a0,a7,nr,hp,Bool.false_eq_true,if_false]
   rw[a6] at aR⊢
   refine aj.ad (show aj (iu j (k+2) 133 [.ptr r 0 0] ae) _ from TC j (k+1) dz r aS (aF _ (by omega)) (TL j k dz r aS (aF _ (by omega))) aR bd) ?_
   rintro v aQ ⟨bE,aT,n,aG,ah,k6,rfl,cb⟩
   have gz:=hi.aJ aT (fun z=>by simp at z;omega)
   have ew:R.length≤ae.length:=aA.len
   simp only[bP,aN,aZ,bn,bl,id_eq,bq,a1,bC,a5]
   have fa:j_ ws (ei ws dz 0) s=(.mk n ah,(j_ ws (ei ws dz 0) s).2):=by rw[←k6]
   rw[fa]
   exact mX (cs:=gT) (n:=n) (aG:=aG) (ah:=ah) q rfl gz bE (ai.b6 gA aT) cb (fun o z=>by omega)
 |succ m ba=>
  intro g k h s hm dt aH q bd
  obtain⟨g,rfl⟩:∃cX,g=cX+1:=⟨g-1,by omega⟩
  obtain⟨k,rfl⟩:∃gu,k=gu+2:=⟨k-2,by omega⟩
  have nY:=q.lt
  have rX:∀o,o∈dj aW→o<h.length:=fun o U=>q.cx.lt U
  simp only[FO]
  refine aj.ad (hs (cs:=gT) rfl) ?_
  rintro du R ⟨rfl,dX,ar⟩
  have c5:h.length<R.length:=dX.lt
  refine aj.ad (fH [45] (q.aq ar)) ?_
  rintro v ae ⟨rfl,aR,aA⟩
  have hi:=dX.aJ aA (fun z=>by simp at z;omega)
  have gA:=ai.to ar aA
  have ew:R.length≤ae.length:=aA.len
  cases hp:(bA ws [45] s).1 with
  |true=>
   obtain⟨a6,bN⟩:=ly hp
   have aw:(bA ws [45] s).2.i=s.i+1:=by rw[a6];rfl
   simp only[a0,aU,nr,hp,if_true]
   refine aj.ad (show aj (iu j (k+2) 129 [.ptr r 0 0] ae) _ from ba g (k+1) ae _ (by omega) (by omega) (by omega) aR (by omega)) ?_
   rintro v aQ ⟨bE,aT,n,aG,ah,k6,rfl,cb⟩
   have gz:=hi.aJ aT (fun z=>by simp at z;omega)
   simp only[bP,aN,aZ,bn,bl,id_eq,bq,a1,bC,a5]
   refine aj.ad (GG cb (m:=⟨3,[45],0,0,[],[],[]⟩)) ?_
   rintro y bo ⟨qS,a_,bu,dI⟩
   have i_:ae.length≤aQ.length:=aT.len
   simp only[CC qS a_,aO,bP,aN,aZ,bn,bl,id_eq,bq,a1,bC,a5]
   rw[k6]
   exact mX (cs:=gT) (n:=⟨3,[45],0,0,[],[],[]⟩) (aG:=y) (ah:=[.mk n ah]) q rfl (gz.aq bu) (bE.aq bu) (ai.ro (ai.b6 gA aT) bu) dI (fun o z=>by rcases z with z|z<;>omega)
  |false=>
   have a6:=My hp
   simp only[a0,a7,nr,hp,Bool.false_eq_true,if_false]
   rw[a6] at aR⊢
   refine aj.ad (show aj (iu j (k+2) 133 [.ptr r 0 0] ae) _ from TC j (k+1) dz r aS (aF _ (by omega)) (TL j k dz r aS (aF _ (by omega))) aR bd) ?_
   rintro v aQ ⟨bE,aT,n,aG,ah,k6,rfl,cb⟩
   have gz:=hi.aJ aT (fun z=>by simp at z;omega)
   simp only[bP,aN,aZ,bn,bl,id_eq,bq,a1,bC,a5]
   have fa:j_ ws (ei ws dz 0) s=(.mk n ah,(j_ ws (ei ws dz 0) s).2):=by rw[←k6]
   rw[fa]
   exact mX (cs:=gT) (n:=n) (aG:=aG) (ah:=ah) q rfl gz bE (ai.b6 gA aT) cb (fun o z=>by omega)
theorem aia(j K dz r:Nat)(aS:1000<j){aW:V}{ws:List br}(aF:∀k,K≤k→s7 j k dz r aW ws){k:Nat}(aH:K+ws.length+5≤k){of:Nat}(cR:of≤6){h:Lo}{s:bB}(q:e0 h r aW ws s)(bd:10*(ws.length-s.i)+8≤dz+1+of):
  aj (B8 j (iu j k) (.ptr r 0 0) (of:Int) h) (p9 h r aW ws (ei ws (dz+1) of s)):=by
 have nY:=q.lt
 have rX:∀o,o∈dj aW→o<h.length:=fun o U=>q.cx.lt U
 have l1:=q.ih
 obtain⟨k,rfl⟩:∃gu,k=gu+1:=⟨k-1,by omega⟩
 simp only[B8]
 refine aj.ad (hs (cs:=gT) rfl) ?_
 rintro du R ⟨rfl,dX,ar⟩
 have c5:h.length<R.length:=dX.lt
 have aE:=q.aq ar
 by_cases bD:of=2
 ·subst bD
  obtain⟨v,ae,ME,rfl,aR,aA⟩:=fH (j:=j) [78,79,84] aE
  have hi:=dX.aJ aA (fun z=>by simp at z;omega)
  have gA:=ai.to ar aA
  have ew:R.length≤ae.length:=aA.len
  have bb:(((2:Nat):Int)==2)=true:=rfl
  simp only[FP,bb,aU,ME,fp,a0,gY,decide_true,aN,aZ,bn,bl,id_eq,bq,a5]
  cases hp:(bA ws [78,79,84] s).1 with
  |true=>
   obtain⟨a6,bN⟩:=ly hp
   have aw:(bA ws [78,79,84] s).2.i=s.i+1:=by rw[a6];rfl
   have fa:ei ws (dz+1) 2 s=(Mw [78,79,84] (ei ws dz 2 (bA ws [78,79,84] s).2).1,(ei ws dz 2 (bA ws [78,79,84] s).2).2):=by simp only[ei,hp,if_true]
   rw[fa]
   simp only[aU]
   refine aj.ad (zd (aF (k+1) (by omega)) 2 rfl (by decide) aR (by omega)) ?_
   rintro v aQ ⟨bE,aT,n,aG,ah,k6,rfl,cb⟩
   have gz:=hi.aJ aT (fun z=>by simp at z;omega)
   simp only[bP,aN,aZ,bn,bl,id_eq,bq,a1,bC,a5]
   refine aj.ad (GG cb (m:=⟨3,[78,79,84],0,0,[],[],[]⟩)) ?_
   rintro y bo ⟨qS,a_,bu,dI⟩
   have i_:ae.length≤aQ.length:=aT.len
   simp only[CC qS a_,aO,bP,aN,aZ,bn,bl,id_eq,bq,a1,bC,a5]
   rw[k6]
   exact mX (cs:=gT) (n:=⟨3,[78,79,84],0,0,[],[],[]⟩) (aG:=y) (ah:=[.mk n ah]) q rfl (gz.aq bu) (bE.aq bu) (ai.ro (ai.b6 gA aT) bu) dI (fun o z=>by rcases z with z|z<;>omega)
  |false=>
   have a6:=My hp
   have fa:ei ws (dz+1) 2 s=p7 ws (ei ws dz 4) s:=by simp only[ei,hp,Bool.false_eq_true,if_false,if_true];rw[a6]
   rw[fa]
   rw[a6] at aR
   simp only[a7]
   refine aj.ad (show aj (iu j (k+1) 128 [.ptr r 0 0] ae) _ from agY j k dz r aS (aF k (by omega)) aR (by omega)) ?_
   rintro v aQ ⟨bE,aT,n,aG,ah,k6,rfl,cb⟩
   have gz:=hi.aJ aT (fun z=>by simp at z;omega)
   simp only[bP,aN,aZ,bn,bl,id_eq,bq,a1,bC,a5]
   have ML:p7 ws (ei ws dz 4) s=(.mk n ah,(p7 ws (ei ws dz 4) s).2):=by rw[←k6]
   rw[ML]
   exact mX (cs:=gT) (n:=n) (aG:=aG) (ah:=ah) q rfl gz bE (ai.b6 gA aT) cb (fun o z=>by omega)
 ·have bb:(((of:Nat):Int)==2)=false:=by rw[beq_eq_false_iff_ne];omega
  simp only[FP,bb,a7,gY,decide_true,aU,aN,aZ,bn,bl,id_eq,bq,a0,a5]
  by_cases me:of=6
  ·subst me
   have gS:(((6:Nat):Int)==6)=true:=rfl
   have fa:ei ws (dz+1) 6 s=nr ws (ei ws dz 0) (ws.length+1) s:=by simp only[ei,if_true];rfl
   rw[fa]
   simp only[gS,aU]
   refine aj.ad (show aj (iu j (k+1) 129 [.ptr r 0 0] R) _ from ah_ j K dz r aS aF ws.length (ws.length+1) k R s (by omega) (by omega) (by omega) aE (by omega)) ?_
   rintro v aQ ⟨bE,aT,n,aG,ah,k6,rfl,cb⟩
   have gz:=dX.aJ aT (fun z=>by simp at z;omega)
   simp only[bP,aN,aZ,bn,bl,id_eq,bq,a1,bC,a5]
   have ML:nr ws (ei ws dz 0) (ws.length+1) s=(.mk n ah,(nr ws (ei ws dz 0) (ws.length+1) s).2):=by rw[←k6]
   rw[ML]
   exact mX (cs:=gT) (n:=n) (aG:=aG) (ah:=ah) q rfl gz bE (ai.to ar aT) cb (fun o z=>by omega)
  ·have gS:(((of:Nat):Int)==6)=false:=by rw[beq_eq_false_iff_ne];omega
   have MB:IntKind.i64.wrap ((of:Int)+1)=((of+1:Nat):Int):=by rw[wrap_i64 (by omega) (by omega)];simp
   have fa:ei ws (dz+1) of s=oI ws (ei ws dz (of+1)) of (ws.length+1) (ei ws dz (of+1) s).1 (ei ws dz (of+1) s).2:=by simp only[ei,if_neg bD,if_neg me]
   rw[fa]
   simp only[gS,a7,MB]
   refine aj.ad (aF (k+1) (by omega) (of+1) R s (by omega) aE (by omega)) ?_
   rintro v aQ ⟨bE,aT,n,aG,ah,k6,rfl,cb⟩
   have gz:=dX.aJ aT (fun z=>by simp at z;omega)
   have i_:R.length≤aQ.length:=aT.len
   simp only[bP,aN,aZ,bn,bl,id_eq,bq,a1,bC,a5]
   have mono:=p8 ws dz (of+1) s
   refine wN (l0 cb) fun bo ht bu=> ?_
   have hex:c6 (fun o=>h.length<o∧o≠aQ.length) bo (.agg (bH n aG)) (.mk n ah):=by
    refine(cb.mono (bx:=fun o=>h.length<o∧o≠aQ.length) (fun o U z=>⟨by omega,by omega⟩)).aq bu
   rw[k6]
   have key:=agV j (k+1) dz r (aF (k+1) (by omega)) (of:=of) (by omega) (aI:=h) (jO:=h.length) (wP:=aQ.length) (Nat.le_refl _) nY rX (by omega) ws.length j (ws.length+1) bo (ei ws dz (of+1) s).2 n aG ah gT (by omega) (by omega) (by omega) (by omega) (bE.aq bu) (ai.ro (ai.to ar aT) bu) rfl (gz.aq bu) ht hex
   refine aj.bO key ?_
   rintro x ak bI ⟨rfl,rfl,jI,lr,lu,CI,jy,fQ,dn,bX⟩
   simp only[decide_true,aU,a5,show dS bI 8 (.ptr h.length 0 0)=some (.agg (bH jI lr)) from jy.bp,aO]
   exact aj.some ⟨dn,bX,jI,lr,lu,CI,rfl,fQ.mono fun o _ z=>Nat.le_of_lt z⟩
theorem TM(j r:Nat)(aS:1000<j){aW:V}{ws:List br}:∀(f k:Nat),(ws.length+10)*f≤k→s7 j k f r aW ws
 |0,k,aH=>fun of h s cR q bd=>by omega
 |f+1,k,aH=>fun of h s cR q bd=>by
  have hm:(ws.length+10)*(f+1)=(ws.length+10)*f+(ws.length+10):=Nat.mul_succ _ _
  obtain⟨k,rfl⟩:∃gu,k=gu+1:=⟨k-1,by omega⟩
  exact aia j ((ws.length+10)*f) f r aS (fun gu oV=>TM j r aS f gu oV) (by omega) cR q bd
end Go.Proofs.YtjpjeilfmjdhcaaGreat.fw
namespace Go.Proofs.YtjpjeilfmjdhcaaGreat.fq
open Go E ep eI
theorem zk{w:Nat}:∀{k m:Nat} {x:X},fY w k x→k≤m→fY w m x
 |k+1,m+1, .mk n ah,d,h=>⟨d.1,fun p hp=>zk (d.2 p hp) (by omega)⟩
 |k+1,0, .mk n ah,d,h=>by omega
def e1(w:Nat)(x:X):Prop:=∃d,fY w d x
theorem wT{w:Nat}{n:fg}(R:n.dG.length≤w)(ae:n.c7.length≤w):e1 w (.mk n []):=⟨1,⟨R,ae,Nat.zero_le _⟩,fun p hp=>by cases hp⟩
theorem zl{w:Nat}{n:fg}{x:X}(R:n.dG.length≤w)(ae:n.c7.length≤w)(hw:2≤w)(g:e1 w x):e1 w (.mk n [x]):=by
 obtain⟨d,bj⟩:=g
 exact⟨d+1,⟨R,ae,by simp;omega⟩,fun p hp=>by simp at hp;subst hp;exact bj⟩
theorem TN{w:Nat}{n:fg}{x y:X}(R:n.dG.length≤w)(ae:n.c7.length≤w)(hw:2≤w)(g:e1 w x)(cX:e1 w y):e1 w (.mk n [x,y]):=by
 obtain⟨d,bj⟩:=g
 obtain⟨g4,KE⟩:=cX
 refine⟨max d g4+1,⟨R,ae,by simp;omega⟩,fun p hp=> ?_⟩
 simp at hp
 rcases hp with rfl|rfl
 ·exact zk bj (by omega)
 ·exact zk KE (by omega)
def hj(W:Nat)(ws:List br):Prop:=∀w,w∈ws→w.s.length≤W
theorem aib{ws:List br}{k:Int}{s:bB}{w:br}(h:hM ws k s=some w):w∈ws:=by
 unfold hM at h
 split at h
 ·split at h
  ·rename_i a2 hw
   split at h
   ·injection h with h;subst h;exact List.mem_of_getElem? hw
   ·cases h
  ·cases h
 ·cases h
theorem wU{W:Nat}{ws:List br}(hw:hj W ws)(s:bB):(dB ws s).1.length≤W:=by
 unfold dB
 split
 ·rename_i w h
  split
  ·simp
  ·exact hw w (aib h)
 ·simp
theorem TO{W:Nat}{ws:List br}(ae:2≤W){eL:fr X}(aF:∀s,e1 W (eL s).1)(of:Nat):∀(f:Nat) (x:X) (s:bB),e1 W x→e1 W (oI ws eL of f x s).1
 |0,x,s,g=>g
 |f+1,x,s,g=>by
  unfold oI
  split
  ·exact TO ae aF of f _ _ (TN (by simp) (by simp) ae g (aF _))
  ·exact g
theorem aic{W:Nat}{ws:List br}(ae:2≤W){eL:fr X}(aF:∀s,e1 W (eL s).1)(s:bB):e1 W (p7 ws eL s).1:=by
 unfold p7
 split
 ·exact TN (by simp) (by simp) ae (aF _) (aF _)
 ·split
  ·exact aF _
  ·split
   ·exact zl (by simp) (by simp) ae (aF _)
   ·exact zl (by simp) (by simp) ae (aF _)
theorem aid{W:Nat}{ws:List br}(ae:2≤W){eL:fr X}(aF:∀s,e1 W (eL s).1)(op:Lu)(s:bB):e1 W (mV ws eL op s).1:=by
 simp only[mV]
 split
 ·split
  ·exact wT (by simp) (by simp)
  ·exact zl (by simp) (by simp) ae (aF _)
 ·exact zl (by simp) (by simp) ae (aF _)
theorem TP{W:Nat}{ws:List br}(hw:hj W ws)(s:bB):e1 W (po ws s).1:=by
 simp only[po]
 split
 ·exact wT (wU hw _) (wU hw _)
 ·exact wT (by simp) (wU hw _)
theorem aie{W:Nat}{ws:List br}(ae:2≤W)(hw:hj W ws){eL:fr X}(aF:∀s,e1 W (eL s).1)(s:bB):e1 W (j_ ws eL s).1:=by
 simp only[j_]
 split
 ·exact aF _
 ·split
  ·exact wT (by simp) (by simp)
  ·split
   ·exact wT (by simp) (by simp)
   ·split
    ·exact wT (by simp) (by simp)
    ·split
     ·split
      ·exact aid ae aF _ _
      ·exact TP hw _
     ·exact TP hw _
theorem MM(W:Nat):e1 W nq:=wT (by simp[hQ]) (by simp[hQ])
theorem TQ{W:Nat}{ws:List br}(ae:2≤W)(hw:hj W ws){eL:fr X}(aF:∀s,e1 W (eL s).1):∀(f:Nat) (s:bB),e1 W (nr ws eL f s).1
 |0,s=>MM W
 |f+1,s=>by
  simp only[nr]
  split
  ·exact zl (by simp) (by simp) ae (TQ ae hw aF f _)
  ·exact aie ae hw aF _
theorem wV{W:Nat}{ws:List br}(ae:2≤W)(hw:hj W ws):∀(f of:Nat) (s:bB),e1 W (ei ws f of s).1
 |0,of,s=>MM W
 |f+1,of,s=>by
  simp only[ei]
  split
  ·split
   ·exact zl (by simp) (by simp) ae (wV ae hw f 2 _)
   ·exact aic ae (wV ae hw f 4) _
  ·split
   ·exact TQ ae hw (wV ae hw f 0) _ _
   ·exact TO ae (wV ae hw f (of+1)) of _ _ _ (wV ae hw f (of+1) s)
structure jz where
 n:Lu
 k:Int
 iG:Bool
 un:Bool
deriving DecidableEq
structure ij where
 e:X
 n:Lu
structure hB where
 t:Lu
 n:Lu
 on:X
structure iH where
 e:X
 d:Bool
structure h7 where
 c:Lu
 e:X
structure k7 where
 ch:Bool
 star:Bool
 items:List ij
 eH:List hB
 c1:List X
 fh:List X
 eV:List iH
 b7:Int
structure ea where
 k:Int
 name:Lu
 on:Lu
 un:Bool
 hk:List jz
 keys:List (Lu)
 rows:List (List X)
 ft:List h7
 c1:List X
 q:k7
def pv:k7:=⟨false,false,[],[],[],[],[],0⟩
def ek:ea:=⟨0,[],[],false,[],[],[],[],[],pv⟩
def gg(ws:List br)(s:bB):X × bB:=
 let r:=ei ws (10*ws.length+10) 0 s
 if r.2.e=0∧j9 8 r.1=false then(r.1,⟨r.2.i,4⟩) else r
def gn{α:Type}(ws:List br)(m:fr α):Nat→List α→fr (List α)
 |0,acc,s=>(acc,s)
 |f+1,acc,s=>if(bA ws [44] s).1=true then gn ws m f (acc++ [(m (bA ws [44] s).2).1]) (m (bA ws [44] s).2).2 else(acc,(bA ws [44] s).2)
def k8{α:Type}(ws:List br)(m:fr α)(s:bB):List α × bB:=gn ws m (ws.length+1) [(m s).1] (m s).2
def nv{α:Type}(ws:List br)(m:fr α)(s:bB):List α × bB:=
 let l:=k8 ws m (fl ws [[40]] s)
 (l.1,fl ws [[41]] l.2)
def qU(ws:List br)(s:bB):Int × bB:=
 let a:=bA ws [73,78,84] s
 if a.1=true then(1,a.2) else
 let b:=bA ws [84,69,88,84] a.2
 if b.1=true then(2,b.2) else(0,nZ b.2)
def s_(ws:List br)(s:bB):jz × bB:=
 let n:=dB ws s
 let k:=qU ws n.2
 let c:=bA ws [78,79,84] k.2
 let eu:=if c.1=true then fl ws [[78,85,76,76]] c.2 else c.2
 let d:=bA ws [85,78,73,81,85,69] eu
 (⟨n.1,k.1,c.1,d.1⟩,d.2)
def nw(ws:List br)(s:bB):List X × bB:=
 let h:=bA ws [87,72,69,82,69] s
 if h.1=true then([(gg ws h.2).1],(gg ws h.2).2) else([],h.2)
def k9(ws:List br)(n:Lu)(s:bB):Lu × bB:=
 let h:=bA ws [65,83] s
 if h.1=true then dB ws h.2 else(n,h.2)
def kK(ws:List br)(s:bB):hB × bB:=
 let n:=dB ws s
 let a:=k9 ws n.1 n.2
 (⟨n.1,a.1,nq⟩,a.2)
def wW(ws:List br)(s:bB):ij × bB:=
 let e:=gg ws s
 let a:=k9 ws [] e.2
 (⟨e.1,a.1⟩,a.2)
def pw(ws:List br)(s:bB):iH × bB:=
 let e:=gg ws s
 let a:=bA ws [65,83,67] e.2
 if a.1=true then(⟨e.1,false⟩,a.2) else(⟨e.1,(bA ws [68,69,83,67] a.2).1⟩,(bA ws [68,69,83,67] a.2).2)
def wX(ws:List br)(s:bB):hB × bB:=
 let r:=kK ws s
 let e:=gg ws (fl ws [[79,78]] r.2)
 (⟨r.1.t,r.1.n,e.1⟩,e.2)
def lz(ws:List br):Nat→List hB→fr (List hB)
 |0,acc,s=>(acc,s)
 |f+1,acc,s=>if(bA ws [74,79,73,78] s).1=true then lz ws f (acc++ [(wX ws (bA ws [74,79,73,78] s).2).1]) (wX ws (bA ws [74,79,73,78] s).2).2 else(acc,(bA ws [74,79,73,78] s).2)
def r0(ws:List br)(s:bB):List X × bB:=
 let h:=bA ws [71,82,79,85,80] s
 if h.1=true then k8 ws (gg ws) (fl ws [[66,89]] h.2) else([],h.2)
def r1(ws:List br)(s:bB):List iH × bB:=
 let h:=bA ws [79,82,68,69,82] s
 if h.1=true then k8 ws (pw ws) (fl ws [[66,89]] h.2) else([],h.2)
def zm(ws:List br)(s:bB):Int × bB:=
 let h:=bA ws [76,73,77,73,84] s
 if h.1=true then wJ ws h.2 else(-1,h.2)
def r2(ws:List br)(star:Bool)(s:bB):List ij × bB:=if star=true then([],s) else k8 ws (wW ws) s
def kb(ws:List br)(s:bB):k7 × bB:=
 let a:=bA ws [68,73,83,84,73,78,67,84] s
 let b:=bA ws [42] a.2
 let l:=r2 ws b.1 b.2
 let ao:=kK ws (fl ws [[70,82,79,77]] l.2)
 let o:=lz ws (ws.length+1) [ao.1] ao.2
 let w:=nw ws o.2
 let g:=r0 ws w.2
 let d:=r1 ws g.2
 let m:=zm ws d.2
 (⟨a.1,b.1,l.1,o.1,w.1,g.1,d.1,m.1⟩,m.2)
def mZ(ws:List br)(s:bB):ea × bB:=
 let a:=bA ws [84,65,66,76,69] s
 if a.1=true then
  let n:=dB ws a.2
  let c:=nv ws (s_ ws) n.2
  ({ek with k:=1,name:=n.1,hk:=c.1},c.2)
 else
 let b:=bA ws [77,65,84,69,82,73,65,76,73,90,69,68] a.2
 if b.1=true then
  let n:=dB ws (fl ws [[86,73,69,87]] b.2)
  let q:=kb ws (fl ws [[65,83],[83,69,76,69,67,84]] n.2)
  ({ek with k:=3,name:=n.1,q:=q.1},q.2)
 else
 let u:=bA ws [85,78,73,81,85,69] b.2
 let n:=dB ws (fl ws [[73,78,68,69,88]] u.2)
 let ao:=dB ws (fl ws [[79,78]] n.2)
 let g:=nv ws (dB ws) ao.2
 ({ek with k:=2,un:=u.1,name:=n.1,on:=ao.1,keys:=g.1},g.2)
def nx(ws:List br)(s:bB):ea × bB:=
 let a:=bA ws [84,65,66,76,69] s
 if a.1=true then({ek with k:=4,name:=(dB ws a.2).1},(dB ws a.2).2) else
 let b:=bA ws [73,78,68,69,88] a.2
 if b.1=true then({ek with k:=5,name:=(dB ws b.2).1},(dB ws b.2).2) else
 let n:=dB ws (fl ws [[86,73,69,87]] b.2)
 ({ek with k:=6,name:=n.1},n.2)
def qa(ws:List br)(s:bB):ea × bB:=
 let n:=dB ws (fl ws [[73,78,84,79]] s)
 let l:=k8 ws (nv ws (gg ws)) (fl ws [[86,65,76,85,69,83]] n.2)
 ({ek with k:=7,name:=n.1,rows:=l.1},l.2)
def uI(ws:List br)(s:bB):h7 × bB:=
 let n:=dB ws s
 let e:=gg ws (fl ws [[61]] n.2)
 (⟨n.1,e.1⟩,e.2)
def qV(ws:List br)(s:bB):ea × bB:=
 let n:=dB ws s
 let l:=k8 ws (uI ws) (fl ws [[83,69,84]] n.2)
 let w:=nw ws l.2
 ({ek with k:=8,name:=n.1,ft:=l.1,c1:=w.1},w.2)
def qW(ws:List br)(s:bB):ea × bB:=
 let n:=dB ws (fl ws [[70,82,79,77]] s)
 let w:=nw ws n.2
 ({ek with k:=9,name:=n.1,c1:=w.1},w.2)
def ny(ws:List br)(s:bB):ea × bB:=
 let a:=bA ws [66,69,71,73,78] s
 if a.1=true then({ek with k:=11},a.2) else
 let b:=bA ws [67,79,77,77,73,84] a.2
 if b.1=true then({ek with k:=12},b.2) else
 let c:=bA ws [82,79,76,76,66,65,67,75] b.2
 if c.1=true then({ek with k:=13},c.2) else(ek,nZ c.2)
def ji(ws:List br)(s:bB):ea × bB:=
 let a:=bA ws [67,82,69,65,84,69] s
 if a.1=true then mZ ws a.2 else
 let b:=bA ws [68,82,79,80] a.2
 if b.1=true then nx ws b.2 else
 let c:=bA ws [73,78,83,69,82,84] b.2
 if c.1=true then qa ws c.2 else
 let d:=bA ws [85,80,68,65,84,69] c.2
 if d.1=true then qV ws d.2 else
 let e:=bA ws [68,69,76,69,84,69] d.2
 if e.1=true then qW ws e.2 else
 let f:=bA ws [83,69,76,69,67,84] e.2
 if f.1=true then({ek with k:=10,q:=(kb ws f.2).1},(kb ws f.2).2) else
 ny ws f.2
def qb(s:ea):Bool:=
 decide (8<s.hk.length)||decide (8<s.keys.length)||decide (8<s.ft.length)||decide (8<s.q.items.length)||decide (8<s.q.fh.length)||decide (8<s.q.eV.length)||s.rows.any (fun r=>decide (8<r.length))||decide (10<s.rows.length)||decide (3<s.q.eH.length)
def r3(ws:List br)(s:bB):bB:=
 let h:=bA ws [59] s
 if h.2.i=ws.length then h.2 else nZ h.2
def qX(ws:List br):ea × Int:=
 let r:=ji ws ⟨0,0⟩
 let s:=r3 ws r.2
 if s.e≠0 then(ek,s.e) else if qb r.1=true then(ek,5) else(r.1,0)
def jA(t:Lu):ea × Int:=match oG t with
 |(some ws,_)=>qX ws
 |(none,e)=>(ek,e)
end Go.Proofs.YtjpjeilfmjdhcaaGreat.fq
namespace Go.Proofs.YtjpjeilfmjdhcaaGreat.fw
open Go E ep eI fq
theorem aif{j w:Nat}(aS:1000<j)(hw:w<j)(bV:w≤1000000000000000){av:Nat→Prop}{n:fg}{aG:V}{ah:List X}{h:Lo}{m:Int}(hm:m=((8:Nat):Int))(g:e1 w (.mk n ah))(e:c6 av h (.agg (bH n aG)) (.mk n ah)):
  aj (ui j (mK j j) n.k n.op n.eh n.ed n.ak n.dG n.c7 aG m h) fun v aa=>v= .bool (j9 8 (.mk n ah))∧ai h aa []:=by
 subst hm
 obtain⟨d,bj⟩:=g
 exact Mv j w aS hw bV 8 j (by decide) (by omega) d _ n aG ah h bj rfl e
theorem zn{j r:Nat}(aS:5000000<j){aW:V}{ws:List br}(gI:hj 5000 ws){h:Lo}{s:bB}(q:e0 h r aW ws s):aj (qO j (.ptr r 0 0) h) (p9 h r aW ws (gg ws s)):=by
 have nY:=q.lt
 have rX:∀o,o∈dj aW→o<h.length:=fun o U=>q.cx.lt U
 have l1:=q.ih
 simp only[qO]
 refine aj.ad (hs (cs:=gT) rfl) ?_
 rintro du R ⟨rfl,dX,ar⟩
 have c5:h.length<R.length:=dX.lt
 have aE:=q.aq ar
 have hC:(ws.length+10)*(10*ws.length+10)≤j+1:=by
  have:(ws.length+10)*(10*ws.length+10)≤610*6010:=Nat.mul_le_mul (by omega) (by omega)
  omega
 have aF:=zd (TM j r (by omega) (aW:=aW) (ws:=ws) (10*ws.length+10) (j+1) hC) (x:=0) 0 rfl (by decide) aE (by omega)
 refine aj.ad (show aj (B8 j (iu j j) (.ptr r 0 0) 0 R) _ from aF) ?_
 rintro v ae ⟨aR,aA,n,aG,ah,hp,rfl,bb⟩
 have hi:=dX.aJ aA (fun z=>by simp at z;omega)
 have ew:R.length≤ae.length:=aA.len
 have gA:=ai.to ar aA
 have gp:=wV (W:=5000) (by decide) gI (10*ws.length+10) 0 s
 rw[hp] at gp
 simp only[bP,aN,aZ,bn,bl,id_eq,bq,a1,bC,a5]
 refine wN (l0 bb) fun aQ ht aT=> ?_
 have bE:=aR.aq aT
 have gz:=hi.aq aT
 have cb:=bb.aq aT
 have eA:=ai.ro gA aT
 have i_:ae.length<aQ.length:=ht.lt
 have key:aL (FR j (.ptr r 0 0) (.ptr ae.length 0 0) aQ) fun x ak aa=>x= .normal∧ak=[]∧e0 aa r aW ws (gg ws s).2∧(gg ws s).1= .mk n ah∧ai aQ aa [r]:=by
  simp only[FR,bE.st.bz,bE.st.af,bE.GF,aO,a1,gg]
  by_cases z:(ei ws (10*ws.length+10) 0 s).2.e=0
  ·have e6:((ei ws (10*ws.length+10) 0 s).2.e==0)=true:=by rw[z];rfl
   simp only[e6,aU,ht.e4 (n:=8) rfl,aO,bP,aN,aZ,bn,bl,id_eq,bq,a1,bC,a5]
   refine aL.ad (aif (w:=5000) (by omega) (by omega) (by decide) rfl gp cb) ?_
   rintro v bo ⟨rfl,bu⟩
   have bS:=bE.aq bu
   rw[hp]
   cases iJ:j9 8 (.mk n ah) with
   |true=>
    simp only[a0,Bool.not_true,a7,Bool.true_eq_false,and_false,if_false]
    exact aL.some ⟨rfl,rfl,bS,hp,bu.mono (fun o U=>by cases U)⟩
   |false=>
    simp only[a0,Bool.not_false,aU,bS.st.bz,bS.st.af,aO,z,and_self,if_true]
    refine aL.ad (bS.Tp 4) ?_
    rintro u bI ⟨dn,bX⟩
    exact aL.some ⟨rfl,rfl,dn,trivial,ai.to bu bX⟩
  ·have e6:((ei ws (10*ws.length+10) 0 s).2.e==0)=false:=by simpa using z
   have b0:¬((ei ws (10*ws.length+10) 0 s).2.e=0∧j9 8 (ei ws (10*ws.length+10) 0 s).1=false):=fun y=>z y.1
   simp only[e6,a7]
   rw[if_neg b0]
   exact aL.some ⟨rfl,rfl,bE,hp,ai.refl _ _⟩
 refine aj.bO key ?_
 rintro x ak bo ⟨rfl,rfl,bS,aih,bu⟩
 have n2:=ht.aJ bu (fun z=>by simp at z;omega)
 have h0:=gz.aJ bu (fun z=>by simp at z;omega)
 have dI:=cb.aJ bu (fun o U z=>by simp at U;omega)
 simp only[decide_true,aU,a5,n2.e4 (n:=8) rfl,aO,bP,aN,aZ,bn,bl,id_eq,bq,a1,bC]
 have fa:gg ws s=(.mk n ah,(gg ws s).2):=by rw[←aih]
 rw[fa]
 exact mX (cs:=gT) (n:=n) (aG:=aG) (ah:=ah) q rfl h0 bS (ai.b6 eA bu) dI (fun o z=>by omega)
end Go.Proofs.YtjpjeilfmjdhcaaGreat.fw
