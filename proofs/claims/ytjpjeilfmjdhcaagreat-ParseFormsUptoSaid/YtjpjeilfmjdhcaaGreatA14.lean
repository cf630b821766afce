/- The reader of statements walked: members: names with another name, sources, what is told, orders, columns, assignments. No condition. -/
import Derived.Test.YtjpjeilfmjdhcaaGreatA13
import Derived.Test.YtjpjeilfmjdhcaaGreatA12
set_option maxRecDepth 100000
set_option linter.unusedVariables false
set_option linter.unusedSimpArgs false
set_option linter.unnecessarySimpa false
namespace Go.Proofs.YtjpjeilfmjdhcaaGreat.fC
open Go E ep eI fq fw
theorem qZ{h:Lo}{n:Nat}{fU aM:Lv}{K:V→Lo→OvL}{Q:V→Lo→Prop}(b0:fU.all V.scalar=true)(vo:fU.length=n)(bj:aM.length=n)(aI:0<n)(a6:aM.all V.scalar=true)(eY:∀ae,bY ae h.length aM→ai h ae []→aj (K (.ptr h.length 0 0) ae) Q):
  aj (ad (aB (.alloc false (.agg fU)) h) fun x mT=>ad (aB (.store n (.c x) (.c (.agg aM))) mT) fun _ oJ=>K x oJ) Q:=by
 refine aj.ad (hs b0) ?_
 rintro x R ⟨rfl,st,ar⟩
 refine aj.ad (st.ic (aM:=aM) (by omega) (by omega) a6 (n:=n) vo) ?_
 rintro u ae ⟨ds,aA⟩
 exact eY ae ds (ar.trans aA (fun o U=>by cases U) (fun o U bN=>by simp at U;omega))
theorem hL{α:Type}{T:hd α}{h R:Lo}{n:Nat}{cs aM:Lv}{bf r:Nat}{aW:V}{ws:List br}{eZ s:bB}{x:α}(cS:ck h bf r aW ws eZ)(au:bY R h.length cs)(an:cs.length=n)(bj:aM.length=n)(aI:0<n)(a6:aM.all V.scalar=true)(q:ck R bf r aW ws s)(k:ai h R [r])(t:T.aK (fun o=>h.length<o) R (.agg aM) x):
  aj (ad (aB (.store n (.c (.ptr h.length 0 0)) (.c (.agg aM))) R) fun _ ae=>J (dS ae n (.ptr h.length 0 0)) fun fD=>some (fD,ae)) (gq T h bf r aW ws (x,s)):=by
 refine aj.ad (au.ic (aM:=aM) (by omega) (by omega) a6 (n:=n) an) ?_
 rintro u ae ⟨ds,aA⟩
 subst bj
 simp only[show dS ae aM.length (.ptr h.length 0 0)=some (.agg aM) from ds.bp,aO]
 refine aj.some ⟨ck.apart cS q aA (fun o U=>by simp at U;omega),k.trans aA (fun o U _=>U) (fun o U bN=>by simp at U;omega), ?_⟩
 exact T.mono (T.aJ t aA (fun o U z=>by simp at U;omega)) (fun o _ z=>Nat.le_of_lt z)
theorem TT{j:Nat}{h:Lo}{bf r:Nat}{aW:V}{ws:List br}{s:bB}(n:Lu)(q:ck h bf r aW ws s):aj (B_ j (.ptr bf 0 0) n h) fun v aa=>v= .str (k9 ws n s).1∧ck aa bf r aW ws (k9 ws n s).2∧ai h aa [r]:=by
 simp only[B_,q.st.bz,q.st.af,q.dp,aO]
 refine aj.ad (fH [65,83] q.rd) ?_
 rintro v R ⟨rfl,d1,ar⟩
 have aE:=q.up ar d1
 simp only[a0,k9]
 cases hp:(bA ws [65,83] s).1 with
 |false=>
  simp only[a7,Bool.false_eq_true,if_false]
  exact aj.some ⟨rfl,aE,ar⟩
 |true=>
  simp only[aU,if_true,aE.st.bz,aE.st.af,aE.dp,aO]
  refine aj.ad (mW aE.rd) ?_
  rintro v ae ⟨rfl,d2,aA⟩
  simp only[bC]
  exact aj.some ⟨rfl,aE.up aA d2,ai.b6 ar aA⟩
theorem MR{j:Nat}(aS:5000000<j){h:Lo}{bf r:Nat}{aW:V}{ws:List br}(gI:hj 5000 ws){s:bB}(q:ck h bf r aW ws s):aj (yU j (.ptr bf 0 0) h) (gq (ca 8 bL) h bf r aW ws (nw ws s)):=by
 simp only[yU,q.st.bz,q.st.af,q.dp,aO]
 refine aj.ad (fH [87,72,69,82,69] q.rd) ?_
 rintro v R ⟨rfl,d1,ar⟩
 have aE:=q.up ar d1
 simp only[a0,nw]
 cases hp:(bA ws [87,72,69,82,69] s).1 with
 |false=>
  simp only[Bool.not_false,aU,Bool.false_eq_true,if_false]
  exact aj.some ⟨aE,ar,bw.ab _ _ _ _⟩
 |true=>
  simp only[Bool.not_true,a7,if_true,aE.st.bz,aE.st.af,aE.dp,aO]
  refine aj.ad (zn aS gI aE.rd) ?_
  rintro v ae ⟨d2,aA,n,aG,ah,au,rfl,bb⟩
  simp only[bP,aN,aZ,bn,bl,id_eq,bq,a1,bC,a5]
  have t:bL.aK (fun o=>R.length≤o) ae (.agg (bH n aG)) (gg ws (bA ws [87,72,69,82,69] s).2).1:=⟨n,aG,ah,au,rfl,bb⟩
  refine ta (T:=bL) (av:=fun o=>R.length≤o∧o<ae.length) (by decide) (by decide) (bL.mono t (fun o U z=>⟨z,U⟩)) (fun o z=>z.2) (l2 rfl (l0 bb)) fun y aQ gh aT=> ?_
  have c5:=ar.len
  have ew:=aA.len
  exact aj.some ⟨(aE.up aA d2).aq aT,ai.ro (ai.b6 ar aA) aT,(ca 8 bL).mono gh (fun o U z=>by rcases z with z|z<;>omega)⟩
theorem TU{j:Nat}{h:Lo}{bf r:Nat}{aW:V}{ws:List br}{s:bB}(q:ck h bf r aW ws s):aj (Ca j (.ptr bf 0 0) h) (gq eM h bf r aW ws (kK ws s)):=by
 simp only[Ca]
 refine aj.ad (hs (cs:=h8 [] [] hQ .ab) rfl) ?_
 rintro du R ⟨rfl,dX,ar⟩
 have aE:=q.aq ar
 have iP:=q.rd.lt
 simp only[aE.st.bz,aE.st.af,aE.dp,aO]
 refine aj.ad (mW aE.rd) ?_
 rintro v ae ⟨rfl,d2,aA⟩
 have aR:=aE.up aA d2
 simp only[bC]
 refine aj.ad (TT (dB ws s).1 aR) ?_
 rintro v aQ ⟨rfl,bE,aT⟩
 have dL:I (.build [(.str []),(.str []), .int .i64 0,(.str []), .int .i64 0, .int .i64 0,(.str []),(.str []),(.str []), .ab] [(0,(1,(.c (.str (dB ws s).1)))),(1,(1,(.c (.str (k9 ws (dB ws s).1 (dB ws s).2).1))))]) aQ=some (.agg (h8 (dB ws s).1 (k9 ws (dB ws s).1 (dB ws s).2).1 hQ .ab)):=rfl
 simp only[bC,dL,aO,bP,aN,aZ,bn,bl,id_eq,bq,a1,a5]
 have gz:=dX.aJ (ai.b6 aA aT) (fun z=>by simp at z;omega)
 exact hL (T:=eM) (aM:=h8 (dB ws s).1 (k9 ws (dB ws s).1 (dB ws s).2).1 hQ .ab) (cs:=h8 [] [] hQ .ab) (x:=⟨(dB ws s).1,(k9 ws (dB ws s).1 (dB ws s).2).1,nq⟩) q gz rfl rfl (by decide) rfl bE (ai.to ar (ai.b6 aA aT)) ⟨hQ, .ab,[],rfl,rfl,wO⟩
theorem aiy{j:Nat}(aS:5000000<j){h:Lo}{bf r:Nat}{aW:V}{ws:List br}(gI:hj 5000 ws){s:bB}(q:ck h bf r aW ws s):aj (FW j (.ptr bf 0 0) h) (gq eC h bf r aW ws (wW ws s)):=by
 simp only[FW]
 refine aj.ad (hs (cs:=fT hQ .ab (.str [])) rfl) ?_
 rintro du R ⟨rfl,dX,ar⟩
 have aE:=q.aq ar
 have iP:=q.rd.lt
 have c5:h.length<R.length:=dX.lt
 simp only[aE.st.bz,aE.st.af,aE.dp,aO]
 refine aj.ad (zn aS gI aE.rd) ?_
 rintro v ae ⟨d2,aA,n,aG,ah,au,rfl,bb⟩
 have aR:=aE.up aA d2
 simp only[bP,aN,aZ,bn,bl,id_eq,bq,a1,bC,a5]
 refine wN (l0 bb) fun aQ ht aT=> ?_
 have ew:=aA.len
 simp only[ht.e4 (n:=8) rfl,aO,bP,aN,aZ,bn,bl,id_eq,bq,a1,bC,a5]
 refine aj.ad (TT [] (aR.aq aT)) ?_
 rintro v bo ⟨rfl,bS,bu⟩
 have n2:=ht.aJ bu (fun z=>by simp at z;omega)
 have dL:I (.build [.int .i64 0,(.str []), .int .i64 0, .int .i64 0,(.str []),(.str []),(.str []), .ab,(.str [])] [(0,(8,(.c (.agg (bH n aG))))),(8,(1,(.c (.str (k9 ws [] (gg ws s).2).1))))]) bo=some (.agg (fT n aG (.str (k9 ws [] (gg ws s).2).1))):=rfl
 simp only[bC,n2.e4 (n:=8) rfl,uE,dL,aO,bP,aN,aZ,bn,bl,id_eq,bq,a1,a5]
 have h0:=((dX.aJ aA (fun z=>by simp at z;omega)).aq aT).aJ bu (fun z=>by simp at z;omega)
 have n4:ai R bo [r]:=ai.b6 (ai.ro aA aT) bu
 exact hL (T:=eC) (aM:=fT n aG (.str (k9 ws [] (gg ws s).2).1)) (cs:=fT hQ .ab (.str [])) (x:=⟨(gg ws s).1,(k9 ws [] (gg ws s).2).1⟩) q h0 rfl rfl (by decide) (by simp only[List.all_cons,List.all_nil,gU bb];rfl) bS (ai.to ar n4)
  ⟨n,aG,ah,au,rfl,((bb.aq aT).aJ bu (fun o U z=>by simp at U;omega)).mono (fun o _ z=>by omega)⟩
theorem aiz{j:Nat}(aS:5000000<j){h:Lo}{bf r:Nat}{aW:V}{ws:List br}(gI:hj 5000 ws){s:bB}(q:ck h bf r aW ws s):aj (F0 j (.ptr bf 0 0) h) (gq eS h bf r aW ws (pw ws s)):=by
 simp only[F0]
 refine aj.ad (hs (cs:=fT hQ .ab (.bool false)) rfl) ?_
 rintro du R ⟨rfl,dX,ar⟩
 have aE:=q.aq ar
 have iP:=q.rd.lt
 have c5:h.length<R.length:=dX.lt
 simp only[aE.st.bz,aE.st.af,aE.dp,aO]
 refine aj.ad (zn aS gI aE.rd) ?_
 rintro v ae ⟨d2,aA,n,aG,ah,au,rfl,bb⟩
 have aR:=aE.up aA d2
 simp only[bP,aN,aZ,bn,bl,id_eq,bq,a1,bC,a5]
 refine wN (l0 bb) fun aQ ht aT=> ?_
 have ew:=aA.len
 have bE:=aR.aq aT
 simp only[ht.e4 (n:=8) rfl,aO,bP,aN,aZ,bn,bl,id_eq,bq,a1,bC,a5,bE.st.bz,bE.st.af,bE.dp]
 refine aj.ad (fH [65,83,67] bE.rd) ?_
 rintro v bo ⟨rfl,d4,bu⟩
 have bS:=bE.up bu d4
 have n2:=ht.aJ bu (fun z=>by simp at z;omega)
 have h0:=((dX.aJ aA (fun z=>by simp at z;omega)).aq aT).aJ bu (fun z=>by simp at z;omega)
 have n4:ai R bo [r]:=ai.b6 (ai.ro aA aT) bu
 have dI:=(bb.aq aT).aJ bu (fun o U z=>by simp at U;omega)
 simp only[a0,n2.e4 (n:=8) rfl,uE]
 cases hp:(bA ws [65,83,67] (gg ws s).2).1 with
 |true=>
  have fa:pw ws s=(⟨(gg ws s).1,false⟩,(bA ws [65,83,67] (gg ws s).2).2):=by simp only[pw,hp,if_true]
  rw[fa]
  have dL:I (.build [.int .i64 0,(.str []), .int .i64 0, .int .i64 0,(.str []),(.str []),(.str []), .ab, .bool false] [(0,(8,(.c (.agg (bH n aG))))),(8,(1,(.c (.bool false))))]) bo=some (.agg (fT n aG (.bool false))):=rfl
  simp only[Bool.not_true,a7,n2.e4 (n:=8) rfl,uE,dL,aO,bP,aN,aZ,bn,bl,id_eq,bq,a1,bC,a0,a5]
  exact hL (T:=eS) (aM:=fT n aG (.bool false)) (cs:=fT hQ .ab (.bool false)) (x:=⟨(gg ws s).1,false⟩) q h0 rfl rfl (by decide) (by simp only[List.all_cons,List.all_nil,gU bb];rfl) bS (ai.to ar n4) ⟨n,aG,ah,au,rfl,dI.mono (fun o _ z=>by omega)⟩
 |false=>
  have fa:pw ws s=(⟨(gg ws s).1,(bA ws [68,69,83,67] (bA ws [65,83,67] (gg ws s).2).2).1⟩,(bA ws [68,69,83,67] (bA ws [65,83,67] (gg ws s).2).2).2):=by simp only[pw,hp,Bool.false_eq_true,if_false]
  rw[fa]
  simp only[Bool.not_false,aU,bS.st.bz,bS.st.af,bS.dp,aO]
  refine aj.ad (fH [68,69,83,67] bS.rd) ?_
  rintro v bI ⟨rfl,d5,bX⟩
  have dn:=bS.up bX d5
  have pr:=n2.aJ bX (fun z=>by simp at z;omega)
  have jy:=h0.aJ bX (fun z=>by simp at z;omega)
  have fQ:=dI.aJ bX (fun o U z=>by simp at U;omega)
  have dL:I (.build [.int .i64 0,(.str []), .int .i64 0, .int .i64 0,(.str []),(.str []),(.str []), .ab, .bool false] [(0,(8,(.c (.agg (bH n aG))))),(8,(1,(.c (.bool (bA ws [68,69,83,67] (bA ws [65,83,67] (gg ws s).2).2).1))))]) bI=some (.agg (fT n aG (.bool (bA ws [68,69,83,67] (bA ws [65,83,67] (gg ws s).2).2).1))):=rfl
  simp only[a0,pr.e4 (n:=8) rfl,uE,dL,aO,bP,aN,aZ,bn,bl,id_eq,bq,a1,bC,a5]
  exact hL (T:=eS) (aM:=fT n aG (.bool (bA ws [68,69,83,67] (bA ws [65,83,67] (gg ws s).2).2).1)) (cs:=fT hQ .ab (.bool false)) (x:=⟨(gg ws s).1,(bA ws [68,69,83,67] (bA ws [65,83,67] (gg ws s).2).2).1⟩) q jy rfl rfl (by decide) (by simp only[List.all_cons,List.all_nil,gU bb];rfl) dn (ai.to ar (ai.b6 n4 bX)) ⟨n,aG,ah,au,rfl,fQ.mono (fun o _ z=>by omega)⟩
theorem aiA{j:Nat}(aS:5000000<j){h:Lo}{bf r:Nat}{aW:V}{ws:List br}(gI:hj 5000 ws){s:bB}(q:ck h bf r aW ws s):aj (Gn j (.ptr bf 0 0) h) (gq fs h bf r aW ws (uI ws s)):=by
 simp only[Gn]
 refine aj.ad (hs (cs:=jj [] hQ .ab) rfl) ?_
 rintro du R ⟨rfl,dX,ar⟩
 have aE:=q.aq ar
 have iP:=q.rd.lt
 have c5:h.length<R.length:=dX.lt
 simp only[aE.st.bz,aE.st.af,aE.dp,aO]
 refine aj.ad (mW aE.rd) ?_
 rintro v ae ⟨rfl,d2,aA⟩
 have aR:=aE.up aA d2
 have dL:I (.build [(.str []), .int .i64 0,(.str []), .int .i64 0, .int .i64 0,(.str []),(.str []),(.str []), .ab] [(0,(1,(.c (.str (dB ws s).1))))]) ae=some (.agg (jj (dB ws s).1 hQ .ab)):=rfl
 simp only[bC,dL,aO,bP,aN,aZ,bn,bl,id_eq,bq,a1,a5]
 refine qZ (fU:=jj [] hQ .ab) (aM:=jj (dB ws s).1 hQ .ab) rfl rfl rfl (by decide) rfl fun aQ dR aT=> ?_
 have ew:=aA.len
 have bE:=aR.aq aT
 simp only[bE.st.bz,bE.st.af,bE.dp,aO]
 refine k4 (by omega) bE.rd (l:=[[61]]) (ah:=[(0, .str [61])]) rfl (by decide) rfl rfl fun bo d4 bu=> ?_
 have bS:=bE.up bu d4
 simp only[bS.st.bz,bS.st.af,bS.dp,aO]
 refine aj.ad (zn aS gI bS.rd) ?_
 rintro v bI ⟨d5,bX,n,aG,ah,au,rfl,fQ⟩
 have dn:=bS.up bX d5
 have TV:=dR.aJ (ai.b6 bu bX) (fun z=>by simp at z;omega)
 simp only[bP,aN,aZ,bn,bl,id_eq,bq,a1,bC,a5,TV.af,aO]
 refine aj.ad (bY.GO TV (o:=0+1) (n:=8) (aM:=bH n aG) rfl (by simp) (by decide) (l0 fQ)) ?_
 rintro u cR ⟨aiB,cP⟩
 have aiC:bY cR ae.length (jj (dB ws s).1 n aG):=aiB
 have i_:ae.length<aQ.length:=dR.lt
 have ns:=bu.len
 have jP:=bX.len
 have ej:=ck.apart q dn cP (fun o U=>by simp at U;omega)
 have jy:=((dX.aJ aA (fun z=>by simp at z;omega)).aq aT).aJ (ai.b6 bu bX) (fun z=>by simp at z;omega)
 have mn:=jy.aJ cP (fun z=>by simp at z;omega)
 have gS:=fQ.aJ cP (fun o U z=>by simp at U;omega)
 have q0:ai h cR [r]:=(ai.to ar (ai.b6 (ai.b6 (ai.ro aA aT) bu) bX)).trans cP (fun o U _=>U) (fun o U bN=>by simp at U;omega)
 simp only[aiC.e4 (n:=9) rfl,aO,bP,aN,aZ,bn,bl,id_eq,bq,a1,bC,a5]
 exact hL (T:=fs) (aM:=jj (dB ws s).1 n aG) (cs:=jj [] hQ .ab) (x:=⟨(dB ws s).1,(gg ws (fl ws [[61]] (dB ws s).2)).1⟩) q mn rfl rfl (by decide) (by simp only[List.all_cons,List.all_nil,gU fQ];rfl) ej q0 ⟨n,aG,ah,au,rfl,gS.mono (fun o _ z=>by omega)⟩
abbrev e2(ch star:Bool)(a b c d e:V)(b7:Int):Lv:=[.bool ch, .bool star,a,b,c,d,e, .int .i64 b7]
theorem aiD(j:Nat)(aS:5000000<j){dA:Lo}{bf r gi:Nat}{aW:V}{ws:List br}(gI:hj 5000 ws){eZ:bB}(cS:ck dA bf r aW ws eZ)(MS:gi<dA.length)(GP:gi≠r)(y6:gi≠bf)(aiE:∀o,o∈dj aW→o≠gi){ch star:Bool}{it:V}{b7:Int}:
  ∀(d f g:Nat) (h:Lo) (s:bB) (ka:V) (acc:List hB),ws.length-s.i≤d→d<f→d<g→ck h bf r aW ws s→ai dA h [r,gi]→bY h gi (e2 ch star it ka .ab .ab .ab b7)→bw 10 eM (fun o=>dA.length≤o) h ka acc→acc.length≤s.i+1→
  aL (yY j f (.ptr bf 0 0) (.ptr gi 0 0) h) fun x ak aa=>x= .exit 0∧ak=[]∧∃uJ,bY aa gi (e2 ch star it uJ .ab .ab .ab b7)∧bw 10 eM (fun o=>dA.length≤o) aa uJ (lz ws g acc s).1∧ck aa bf r aW ws (lz ws g acc s).2∧ai dA aa [r,gi]:=by
 have iP:=cS.rd.lt
 have one:∀{g cX:Lo},ai g cX [r]→ai g cX [r,gi]:=fun k=>k.mono (fun o U _=>by simp at U;simp[U])
 intro d
 induction d with
 |zero=>
  intro f g h s ka acc bj sC dt q k hY L ax
  obtain⟨f,rfl⟩:∃gj,f=gj+1:=⟨f-1,by omega⟩
  obtain⟨g,rfl⟩:∃cX,g=cX+1:=⟨g-1,by omega⟩
  simp only[yY,F2,q.st.bz,q.st.af,q.dp,aO]
  refine aL.ad (fH [74,79,73,78] q.rd) ?_
  rintro v R ⟨rfl,d1,ar⟩
  cases hp:(bA ws [74,79,73,78] s).1 with
  |true=>have:=ly hp;omega
  |false=>
   simp only[a0,a7,lz,hp,Bool.false_eq_true,if_false]
   exact aL.some ⟨rfl,rfl,ka,hY.aJ ar (fun z=>by simp at z;exact GP z),(ca 10 eM).aJ L ar (fun o U z=>by simp at U;omega),q.up ar d1,k.trans (one ar) (fun o U _=>U) (fun o U _=>U)⟩
 |succ d ba=>
  intro f g h s ka acc bj sC dt q k hY L ax
  obtain⟨f,rfl⟩:∃gj,f=gj+1:=⟨f-1,by omega⟩
  obtain⟨g,rfl⟩:∃cX,g=cX+1:=⟨g-1,by omega⟩
  simp only[yY,F2,q.st.bz,q.st.af,q.dp,aO]
  refine aL.ad (fH [74,79,73,78] q.rd) ?_
  rintro v R ⟨rfl,d1,ar⟩
  have aE:=q.up ar d1
  have q1:=hY.aJ ar (fun z=>by simp at z;exact GP z)
  have jQ:=(ca 10 eM).aJ L ar (fun o U z=>by simp at U;omega)
  have l1:=q.rd.ih
  cases hp:(bA ws [74,79,73,78] s).1 with
  |false=>
   simp only[a0,a7,lz,hp,Bool.false_eq_true,if_false]
   exact aL.some ⟨rfl,rfl,ka,q1,jQ,aE,k.trans (one ar) (fun o U _=>U) (fun o U _=>U)⟩
  |true=>
   obtain⟨a6,bN⟩:=ly hp
   have aw:(bA ws [74,79,73,78] s).2.i=s.i+1:=by rw[a6];rfl
   simp only[a0,aU,lz,hp,if_true]
   generalize (bA ws [74,79,73,78] s).2=s1 at aE aw
   refine aL.ad (TU aE) ?_
   rintro v ae ⟨aR,aA,TW,TX,tc,aiF,rfl,e6⟩
   have c5:=ar.len
   have ew:=aA.len
   have nd:=k.len
   simp only[bP,aN,aZ,bn,bl,id_eq,bq,a1,bC,a5]
   refine aL.ad (hs (cs:=h8 [] [] hQ .ab) rfl) ?_
   rintro x aQ ⟨rfl,gz,aT⟩
   refine aL.ad (gz.ic (aM:=h8 (kK ws s1).1.t (kK ws s1).1.n TW TX) rfl (by simp) (by simp only[List.all_cons,List.all_nil,gU e6];rfl) (n:=10) rfl) ?_
   rintro u bo ⟨h0,bu⟩
   have n4:ai ae bo []:=aT.trans bu (fun o U=>by cases U) (fun o U bN=>by simp at U;omega)
   have bS:=aR.aq n4
   have ns:ae.length<bo.length:=h0.lt
   simp only[bS.st.bz,bS.st.af,bS.dp,aO]
   obtain⟨m1,bI,q2,n5⟩:=mg (h:=bo) (az:=1) (z:= .str []) (ah:=[(0, .str [79,78])]) (es:=strs [[79,78]]) (len:=1) (by decide) (by decide) rfl rfl
   obtain⟨-,-,q3,-,bX,f5⟩:=n5
   simp only[List.map_cons,List.map_nil] at q2
   have dn:=bS.aq bX
   obtain⟨iI,pX,cR,p_,rfl,rfl,d6,cP⟩:=CB j q3 (fun o U z=>by have:=f5 o U;omega) (by decide) 1 0 j bI (kK ws s1).2 rfl (by omega) (ai.refl _ _) dn.rd
   have pb:hA j (.ptr r 0 0) m1 bI=some (.bW [],cR):=by
    have aV:((strs [[79,78]]).length:Int)=((1:Nat):Int):=rfl
    simp only[hA,jv q3,aO,a1,aV]
    have bb:qN j j (.ptr r 0 0) m1 ((1:Nat):Int) 0 bI=some (.exit 0,[],cR):=p_
    simp only[bb,gY,decide_true,aU,a5]
   have wY:e0 cR r aW ws (fl ws [[79,78]] (kK ws s1).2):=d6
   have ej:=dn.up cP wY
   have mn:=(h0.aq bX).aJ cP (fun z=>by simp at z;omega)
   simp only[q2,fp,pb,ej.st.bz,ej.st.af,ej.dp,aO]
   refine aL.ad (zn aS gI ej.rd) ?_
   rintro v eF ⟨d7,dv,n,aG,ah,au,rfl,hz⟩
   have fy:=ej.up dv d7
   have mo:=mn.aJ dv (fun z=>by simp at z;omega)
   have jP:=bX.len
   have k3:=cP.len
   have np:=dv.len
   simp only[bP,aN,aZ,bn,bl,id_eq,bq,a1,bC,a5,mo.af,aO]
   refine aL.ad (bY.GO mo (o:=0+2) (n:=8) (aM:=bH n aG) rfl (by simp) (by decide) (l0 hz)) ?_
   rintro u eR ⟨s9,eJ⟩
   have aiG:bY eR ae.length (h8 (kK ws s1).1.t (kK ws s1).1.n n aG):=s9
   have gm:=ck.apart cS fy eJ (fun o U=>by simp at U;omega)
   have wQ:=hz.aJ eJ (fun o U z=>by simp at U;omega)
   have MT:ai R eR [r]:=by
    have a:ai R eF [r]:=ai.b6 (ai.b6 (ai.ro (ai.ro aA n4) bX) cP) dv
    exact a.trans eJ (fun o U _=>U) (fun o U bN=>by simp at U;omega)
   have r4:=q1.aJ MT (fun z=>by simp at z;exact GP z)
   have r5:=(ca 10 eM).aJ jQ MT (fun o U z=>by simp at U;omega)
   have arK:ka.cells=[ka]:=(bw.a8 L).1
   simp only[r4.af,r4.ag (o:=0+3) (c:=ka) rfl,aiG.e4 (n:=10) rfl,aO,bP,aN,aZ,bn,bl,id_eq,bq,a1,bC,a5]
   have t8:eM.aK (fun o=>cR.length≤o) eR (.agg (h8 (kK ws s1).1.t (kK ws s1).1.n n aG)) (wX ws s1).1:=⟨n,aG,ah,au,rfl,wQ⟩
   have uF:=eJ.len
   refine tb (bx:=fun o=>cR.length≤o) (by decide) (by decide) (by decide) r5 t8 (fun o U z=>⟨by omega,fun y=>by have:=(bw.lt L y).1;omega⟩) (fun o U=>by omega) (by omega) (l2 rfl (by simp only[List.all_cons,List.all_nil,gU hz];rfl)) fun w fZ GQ hv=> ?_
   have bh:∀o,o∈dj ka→dA.length≤o:=fun o U=>(bw.lt L U).2
   have GR:=r4.aJ hv (fun z=>by have:=bh _ z;omega)
   have h1:=ck.apart cS gm hv bh
   simp only[GR.af,aO]
   refine aL.ad (GR.iK (o:=0+3) (x:=w) (by simp) (bw.a8 GQ)) ?_
   rintro u hR ⟨MU,iO⟩
   have ps:ck hR bf r aW ws (wX ws s1).2:=⟨⟨h1.rd.st.aJ iO (fun z=>by simp at z;exact GP z.symm),h1.rd.cx.aJ iO (fun o U z=>by simp at z;exact aiE o U z),h1.rd.n0,h1.rd.le,h1.rd.ih⟩,h1.st.aJ iO (fun z=>by simp at z;exact y6 z.symm),h1.ne⟩
   have aiH:=(ca 10 eM).aJ GQ iO (fun o U z=>by simp at U;omega)
   have zj:ai dA hR [r,gi]:=by
    have a:ai dA eR [r,gi]:=k.trans (one (ai.b6 ar MT)) (fun o U _=>U) (fun o U _=>U)
    exact(a.trans hv (C:=[r,gi]) (fun o U _=>U) (fun o U bN=>by have:=bh o U;omega)).trans iO (fun o U _=>U) (fun o U _=>by simp at U;simp[U])
   have mono:s1.i≤(wX ws s1).2.i:=by
    have b5:s1.i≤(kK ws s1).2.i:=by
     have dL:=uC ws s1
     have fL:(dB ws s1).2.i≤(k9 ws (dB ws s1).1 (dB ws s1).2).2.i:=by
      simp only[k9]
      split
      ·exact Nat.le_trans (ks ws _ _) (uC ws _)
      ·exact ks ws _ _
     exact Nat.le_trans dL fL
    have cI:=pq ws [[79,78]] (kK ws s1).2
    have fo:(fl ws [[79,78]] (kK ws s1).2).i≤(gg ws (fl ws [[79,78]] (kK ws s1).2)).2.i:=by
     simp only[gg]
     split
     ·exact p8 ws _ 0 _
     ·exact p8 ws _ 0 _
    exact Nat.le_trans b5 (Nat.le_trans cI fo)
   exact ba f g hR _ w _ (by omega) (by omega) (by omega) ps zj MU aiH (by simp;omega)
end Go.Proofs.YtjpjeilfmjdhcaaGreat.fC
namespace Go.Proofs.YtjpjeilfmjdhcaaGreat.fq
open Go E ep eI
theorem zq(ws:List br):hc (gg ws):=by
 intro s
 simp only[gg]
 split
 ·exact p8 ws _ 0 s
 ·exact p8 ws _ 0 s
theorem aiI(ws:List br)(n:Lu):hc (k9 ws n):=by
 intro s
 simp only[k9]
 split
 ·exact Nat.le_trans (ks ws _ _) (uC ws _)
 ·exact ks ws _ _
theorem aiJ(ws:List br):hc (wW ws):=fun s=>Nat.le_trans (zq ws s) (aiI ws [] _)
theorem aiK(ws:List br):hc (pw ws):=by
 intro s
 simp only[pw]
 have R:=zq ws s
 have ae:=ks ws [65,83,67] (gg ws s).2
 split
 ·exact Nat.le_trans R ae
 ·exact Nat.le_trans R (Nat.le_trans ae (ks ws _ _))
theorem aiL(ws:List br):hc (uI ws):=fun s=>Nat.le_trans (uC ws s) (Nat.le_trans (pq ws _ _) (zq ws _))
theorem aiM(ws:List br):hc (qU ws):=by
 intro s
 simp only[qU]
 have R:=ks ws [73,78,84] s
 have ae:=ks ws [84,69,88,84] (bA ws [73,78,84] s).2
 split
 ·exact R
 ·split
  ·exact Nat.le_trans R ae
  ·rw[GD];exact Nat.le_trans R ae
theorem aiN(ws:List br):hc (s_ ws):=by
 intro s
 simp only[s_]
 have R:=uC ws s
 have ae:=aiM ws (dB ws s).2
 have aQ:=ks ws [78,79,84] (qU ws (dB ws s).2).2
 refine Nat.le_trans ?_ (ks ws _ _)
 split
 ·exact Nat.le_trans R (Nat.le_trans ae (Nat.le_trans aQ (pq ws _ _)))
 ·exact Nat.le_trans R (Nat.le_trans ae aQ)
theorem TY{α:Type}{ws:List br}{m:fr α}(hm:hc m):∀(f:Nat) (acc:List α) (s:bB),s.i≤(gn ws m f acc s).2.i
 |0,acc,s=>Nat.le_refl _
 |f+1,acc,s=>by
  simp only[gn]
  have R:=ks ws [44] s
  split
  ·exact Nat.le_trans R (Nat.le_trans (hm _) (TY hm f _ _))
  ·exact R
theorem aiO{α:Type}{ws:List br}{m:fr α}(hm:hc m):hc (k8 ws m):=fun s=>Nat.le_trans (hm s) (TY hm _ _ _)
theorem aiP{α:Type}{ws:List br}{m:fr α}(hm:hc m):hc (nv ws m):=fun s=>Nat.le_trans (pq ws _ s) (Nat.le_trans (aiO hm _) (pq ws _ _))
end Go.Proofs.YtjpjeilfmjdhcaaGreat.fq
namespace Go.Proofs.YtjpjeilfmjdhcaaGreat.fC
open Go E ep eI fq fw
def zr:hd k7 where
 aK:=fun av h v q=>∃a b c d e,v= .agg (e2 q.ch q.star a b c d e q.b7)∧bw 9 eC av h a q.items∧bw 10 eM av h b q.eH∧bw 8 bL av h c q.c1∧bw 8 bL av h d q.fh∧bw 9 eS av h e q.eV
 aJ:=by
  rintro av h aa v x A ⟨a,b,c,d,e,rfl,t1,t2,t3,t4,t5⟩ k b4
  exact⟨a,b,c,d,e,rfl,(ca 9 eC).aJ t1 k b4,(ca 10 eM).aJ t2 k b4,(ca 8 bL).aJ t3 k b4,(ca 8 bL).aJ t4 k b4,(ca 9 eS).aJ t5 k b4⟩
 mono:=by
  rintro av bx h v x ⟨a,b,c,d,e,rfl,t1,t2,t3,t4,t5⟩ b4
  exact⟨a,b,c,d,e,rfl,(ca 9 eC).mono t1 b4,(ca 10 eM).mono t2 b4,(ca 8 bL).mono t3 b4,(ca 8 bL).mono t4 b4,(ca 9 eS).mono t5 b4⟩
theorem TZ{j:Nat}(aS:5000000<j){h:Lo}{bf r:Nat}{aW:V}{ws:List br}(gI:hj 5000 ws){s:bB}(q:ck h bf r aW ws s):aj (qO j (.ptr r 0 0) h) (gq bL h bf r aW ws (gg ws s)):=by
 refine(zn aS gI q.rd).mono ?_
 rintro v aa ⟨d,k,n,aG,ah,au,rfl,e⟩
 exact⟨q.up k d,k,n,aG,ah,au,rfl,e⟩
theorem qc{ch star:Bool}{a b c d e:V}{b7:Int}(bh:a.scalar=true)(aF:b.scalar=true)(an:c.scalar=true)(bj:d.scalar=true)(he:e.scalar=true):(e2 ch star a b c d e b7).all V.scalar=true:=by
 simp only[List.all_cons,List.all_nil,bh,aF,an,bj,he];rfl
theorem aiQ{j:Nat}(aS:5000000<j){h:Lo}{bf r gi:Nat}{aW:V}{ws:List br}(gI:hj 5000 ws){s:bB}{ch:Bool}{dA:Lo}{eZ:bB}(cS:ck dA bf r aW ws eZ)(MS:dA.length≤gi)(q:ck h bf r aW ws s)(hY:bY h gi (e2 ch false .ab .ab .ab .ab .ab (-1)))(ax:gi<h.length)(nd:dA.length≤h.length):
  aL (F5 j (.ptr bf 0 0) (.ptr gi 0 0) h) fun x ak aa=>x= .normal∧ak=[]∧∃it,bY aa gi (e2 ch (bA ws [42] s).1 it .ab .ab .ab .ab (-1))∧bw 9 eC (fun o=>gi<o) aa it (r2 ws (bA ws [42] s).1 (bA ws [42] s).2).1∧ck aa bf r aW ws (r2 ws (bA ws [42] s).1 (bA ws [42] s).2).2∧ai h aa [r,gi]:=by
 have iP:=cS.rd.lt
 have one:∀{g cX:Lo},ai g cX [r]→ai g cX [r,gi]:=fun k=>k.mono (fun o U _=>by simp at U;simp[U])
 have two:∀{g cX:Lo},ai g cX [gi]→ai g cX [r,gi]:=fun k=>k.mono (fun o U _=>by simp at U;simp[U])
 simp only[F5,q.st.bz,q.st.af,q.dp,aO]
 refine aL.ad (fH [42] q.rd) ?_
 rintro v R ⟨rfl,d1,ar⟩
 have aE:=q.up ar d1
 have q1:=hY.aJ ar (fun z=>by simp at z;omega)
 simp only[a0,q1.af,aO]
 refine aL.ad (q1.iK (o:=0+1) (x:= .bool (bA ws [42] s).1) (by simp) ⟨rfl,rfl⟩) ?_
 rintro u ae ⟨aiR,aA⟩
 have zs:bY ae gi (e2 ch (bA ws [42] s).1 .ab .ab .ab .ab .ab (-1)):=aiR
 have aR:=ck.apart cS aE aA (fun o U=>by simp at U;omega)
 have gA:ai h ae [r,gi]:=(one ar).trans (two aA) (fun o U _=>U) (fun o U _=>U)
 simp only[zs.af,zs.ag (o:=0+1) (c:= .bool (bA ws [42] s).1) rfl,aO,a0]
 generalize (bA ws [42] s).2=s1 at aR
 cases hp:(bA ws [42] s).1 with
 |true=>
  rw[hp] at zs
  simp only[Bool.not_true,a7]
  exact aL.some ⟨rfl,rfl, .ab,zs,bw.ab _ _ _ _,aR,gA⟩
 |false=>
  rw[hp] at zs
  simp only[Bool.not_false,aU]
  have ew:=gA.len
  refine aL.ad (ais (m:=wW ws) (by omega) (aiJ ws) aR (fun aa eb d k=>show aj (FW j (.ptr bf 0 0) aa) _ from aiy aS gI d)) ?_
  rintro v aQ ⟨bE,aT,gh⟩
  have wZ:=zs.aJ aT (fun z=>by simp at z;omega)
  simp only[wZ.af,aO]
  refine aL.ad (wZ.iK (o:=0+2) (x:=v) (by simp) (bw.a8 gh)) ?_
  rintro u bo ⟨w0,bu⟩
  refine aL.some ⟨rfl,rfl,v,w0, ?_,ck.apart cS bE bu (fun o U=>by simp at U;omega),(gA.trans (one aT) (fun o U _=>U) (fun o U _=>U)).trans (two bu) (fun o U _=>U) (fun o U _=>U)⟩
  exact(ca 9 eC).mono ((ca 9 eC).aJ gh bu (fun o U z=>by simp at U;omega)) (fun o _ z=>by omega)
theorem aiS{j:Nat}(aS:5000000<j){h:Lo}{bf r gi:Nat}{aW:V}{ws:List br}(gI:hj 5000 ws){s:bB}{ch star:Bool}{a b c:V}{b7:Int}{dA:Lo}{eZ:bB}(cS:ck dA bf r aW ws eZ)(MS:dA.length≤gi)(q:ck h bf r aW ws s)(hY:bY h gi (e2 ch star a b c .ab .ab b7))(ax:gi<h.length):
  aL (F4 j (.ptr bf 0 0) (.ptr gi 0 0) h) fun x ak aa=>x= .normal∧ak=[]∧∃it,bY aa gi (e2 ch star a b c it .ab b7)∧bw 8 bL (fun o=>gi<o) aa it (r0 ws s).1∧ck aa bf r aW ws (r0 ws s).2∧ai h aa [r,gi]:=by
 have iP:=cS.rd.lt
 have one:∀{g cX:Lo},ai g cX [r]→ai g cX [r,gi]:=fun k=>k.mono (fun o U _=>by simp at U;simp[U])
 have two:∀{g cX:Lo},ai g cX [gi]→ai g cX [r,gi]:=fun k=>k.mono (fun o U _=>by simp at U;simp[U])
 simp only[F4,q.st.bz,q.st.af,q.dp,aO]
 refine aL.ad (fH [71,82,79,85,80] q.rd) ?_
 rintro v R ⟨rfl,d1,ar⟩
 have aE:=q.up ar d1
 have q1:=hY.aJ ar (fun z=>by simp at z;omega)
 have c5:=ar.len
 simp only[a0,r0]
 cases hp:(bA ws [71,82,79,85,80] s).1 with
 |false=>
  simp only[a7,Bool.false_eq_true,if_false]
  exact aL.some ⟨rfl,rfl, .ab,q1,bw.ab _ _ _ _,aE,one ar⟩
 |true=>
  simp only[aU,if_true,aE.st.bz,aE.st.af,aE.dp,aO]
  obtain⟨m1,bI,q2,n5⟩:=mg (h:=R) (az:=1) (z:= .str []) (ah:=[(0, .str [66,89])]) (es:=strs [[66,89]]) (len:=1) (by decide) (by decide) rfl rfl
  obtain⟨-,-,q3,-,bX,f5⟩:=n5
  simp only[List.map_cons,List.map_nil] at q2
  have dn:=aE.aq bX
  obtain⟨iI,pX,cR,p_,rfl,rfl,d6,cP⟩:=CB j q3 (fun o U z=>by have:=f5 o U;have:=aE.rd.lt;omega) (by decide) 1 0 j bI (bA ws [71,82,79,85,80] s).2 rfl (by omega) (ai.refl _ _) dn.rd
  have pb:hA j (.ptr r 0 0) m1 bI=some (.bW [],cR):=by
   have aV:((strs [[66,89]]).length:Int)=((1:Nat):Int):=rfl
   simp only[hA,jv q3,aO,a1,aV]
   have bb:qN j j (.ptr r 0 0) m1 ((1:Nat):Int) 0 bI=some (.exit 0,[],cR):=p_
   simp only[bb,gY,decide_true,aU,a5]
  have wY:e0 cR r aW ws (fl ws [[66,89]] (bA ws [71,82,79,85,80] s).2):=d6
  have ej:=dn.up cP wY
  have CJ:=(q1.aq bX).aJ cP (fun z=>by simp at z;omega)
  have q0:ai h cR [r]:=ai.b6 (ai.ro ar bX) cP
  have k3:=q0.len
  simp only[q2,fp,pb,ej.st.bz,ej.st.af,ej.dp,aO]
  refine aL.ad (TS (m:=gg ws) (by omega) (zq ws) ej (fun aa eb d k=>show aj (qO j (.ptr r 0 0) aa) _ from TZ aS gI d)) ?_
  rintro v eF ⟨fy,dv,qd⟩
  have w1:=CJ.aJ dv (fun z=>by simp at z;omega)
  simp only[w1.af,aO]
  refine aL.ad (w1.iK (o:=0+5) (x:=v) (by simp) (bw.a8 qd)) ?_
  rintro u eR ⟨r4,eJ⟩
  refine aL.some ⟨rfl,rfl,v,r4, ?_,ck.apart cS fy eJ (fun o U=>by simp at U;omega),(one (ai.b6 q0 dv)).trans (two eJ) (fun o U _=>U) (fun o U _=>U)⟩
  exact(ca 8 bL).mono ((ca 8 bL).aJ qd eJ (fun o U z=>by simp at U;omega)) (fun o _ z=>by omega)
theorem aiT{j:Nat}(aS:5000000<j){h:Lo}{bf r gi:Nat}{aW:V}{ws:List br}(gI:hj 5000 ws){s:bB}{ch star:Bool}{a b c d:V}{b7:Int}{dA:Lo}{eZ:bB}(cS:ck dA bf r aW ws eZ)(MS:dA.length≤gi)(q:ck h bf r aW ws s)(hY:bY h gi (e2 ch star a b c d .ab b7))(ax:gi<h.length):
  aL (F3 j (.ptr bf 0 0) (.ptr gi 0 0) h) fun x ak aa=>x= .normal∧ak=[]∧∃it,bY aa gi (e2 ch star a b c d it b7)∧bw 9 eS (fun o=>gi<o) aa it (r1 ws s).1∧ck aa bf r aW ws (r1 ws s).2∧ai h aa [r,gi]:=by
 have iP:=cS.rd.lt
 have one:∀{g cX:Lo},ai g cX [r]→ai g cX [r,gi]:=fun k=>k.mono (fun o U _=>by simp at U;simp[U])
 have two:∀{g cX:Lo},ai g cX [gi]→ai g cX [r,gi]:=fun k=>k.mono (fun o U _=>by simp at U;simp[U])
 simp only[F3,q.st.bz,q.st.af,q.dp,aO]
 refine aL.ad (fH [79,82,68,69,82] q.rd) ?_
 rintro v R ⟨rfl,d1,ar⟩
 have aE:=q.up ar d1
 have q1:=hY.aJ ar (fun z=>by simp at z;omega)
 have c5:=ar.len
 simp only[a0,r1]
 cases hp:(bA ws [79,82,68,69,82] s).1 with
 |false=>
  simp only[a7,Bool.false_eq_true,if_false]
  exact aL.some ⟨rfl,rfl, .ab,q1,bw.ab _ _ _ _,aE,one ar⟩
 |true=>
  simp only[aU,if_true,aE.st.bz,aE.st.af,aE.dp,aO]
  obtain⟨m1,bI,q2,n5⟩:=mg (h:=R) (az:=1) (z:= .str []) (ah:=[(0, .str [66,89])]) (es:=strs [[66,89]]) (len:=1) (by decide) (by decide) rfl rfl
  obtain⟨-,-,q3,-,bX,f5⟩:=n5
  simp only[List.map_cons,List.map_nil] at q2
  have dn:=aE.aq bX
  obtain⟨iI,pX,cR,p_,rfl,rfl,d6,cP⟩:=CB j q3 (fun o U z=>by have:=f5 o U;have:=aE.rd.lt;omega) (by decide) 1 0 j bI (bA ws [79,82,68,69,82] s).2 rfl (by omega) (ai.refl _ _) dn.rd
  have pb:hA j (.ptr r 0 0) m1 bI=some (.bW [],cR):=by
   have aV:((strs [[66,89]]).length:Int)=((1:Nat):Int):=rfl
   simp only[hA,jv q3,aO,a1,aV]
   have bb:qN j j (.ptr r 0 0) m1 ((1:Nat):Int) 0 bI=some (.exit 0,[],cR):=p_
   simp only[bb,gY,decide_true,aU,a5]
  have wY:e0 cR r aW ws (fl ws [[66,89]] (bA ws [79,82,68,69,82] s).2):=d6
  have ej:=dn.up cP wY
  have CJ:=(q1.aq bX).aJ cP (fun z=>by simp at z;omega)
  have q0:ai h cR [r]:=ai.b6 (ai.ro ar bX) cP
  have k3:=q0.len
  simp only[q2,fp,pb]
  refine aL.ad (aiu (m:=pw ws) (by omega) (aiK ws) ej (fun aa eb d k=>show aj (F0 j (.ptr bf 0 0) aa) _ from aiz aS gI d)) ?_
  rintro v eF ⟨fy,dv,qd⟩
  have w1:=CJ.aJ dv (fun z=>by simp at z;omega)
  simp only[w1.af,aO]
  refine aL.ad (w1.iK (o:=0+6) (x:=v) (by simp) (bw.a8 qd)) ?_
  rintro u eR ⟨r4,eJ⟩
  refine aL.some ⟨rfl,rfl,v,r4, ?_,ck.apart cS fy eJ (fun o U=>by simp at U;omega),(one (ai.b6 q0 dv)).trans (two eJ) (fun o U _=>U) (fun o U _=>U)⟩
  exact(ca 9 eS).mono ((ca 9 eS).aJ qd eJ (fun o U z=>by simp at U;omega)) (fun o _ z=>by omega)
theorem T0{j:Nat}(aS:5000000<j){h:Lo}{bf r:Nat}{aW:V}{ws:List br}(gI:hj 5000 ws){s:bB}(q:ck h bf r aW ws s):aj (Cf j (.ptr bf 0 0) h) (gq zr h bf r aW ws (kb ws s)):=by
 have iP:=q.rd.lt
 have l1:=q.rd.ih
 obtain⟨D,b_⟩:∃p,p=bA ws [68,73,83,84,73,78,67,84] s:=⟨_,rfl⟩
 obtain⟨B,ez⟩:∃p,p=bA ws [42] D.2:=⟨_,rfl⟩
 obtain⟨GS,T1⟩:∃p,p=r2 ws B.1 B.2:=⟨_,rfl⟩
 obtain⟨MV,T2⟩:∃p,p=kK ws (fl ws [[70,82,79,77]] GS.2):=⟨_,rfl⟩
 obtain⟨GU,T3⟩:∃p,p=lz ws (ws.length+1) [MV.1] MV.2:=⟨_,rfl⟩
 obtain⟨GV,T4⟩:∃p,p=nw ws GU.2:=⟨_,rfl⟩
 obtain⟨zt,T5⟩:∃p,p=r0 ws GV.2:=⟨_,rfl⟩
 obtain⟨w2,T6⟩:∃p,p=r1 ws zt.2:=⟨_,rfl⟩
 obtain⟨uK,MW⟩:∃p,p=zm ws w2.2:=⟨_,rfl⟩
 have fa:kb ws s=(⟨D.1,B.1,GS.1,GU.1,GV.1,zt.1,w2.1,uK.1⟩,uK.2):=by subst MW T6 T5 T4 T3 T2 T1 ez b_;rfl
 rw[fa]
 simp only[Cf]
 refine aj.ad (hs (cs:=e2 false false .ab .ab .ab .ab .ab 0) rfl) ?_
 rintro du R ⟨rfl,dX,ar⟩
 have c5:h.length<R.length:=dX.lt
 have dL:∀dw:Lo,I (.build [.bool false, .bool false, .ab, .ab, .ab, .ab, .ab, .int .i64 0] [(7,(1,(.c (.int .i64 (-1)))))]) dw=some (.agg (e2 false false .ab .ab .ab .ab .ab (-1))):=fun _=>rfl
 simp only[dL,aO,bP,aN,aZ,bn,bl,id_eq,bq,a1,a0,a5]
 refine qZ (fU:=e2 false false .ab .ab .ab .ab .ab 0) (aM:=e2 false false .ab .ab .ab .ab .ab (-1)) rfl rfl rfl (by decide) rfl fun ae hY aA=> ?_
 have dW:=ar.bs aA
 have aR:=q.aq dW
 have hi:=dX.aq aA
 have ew:R.length<ae.length:=hY.lt
 have one:∀{g cX:Lo},ai g cX [r]→ai g cX [r,R.length]:=fun k=>k.mono (fun o U _=>by simp at U;simp[U])
 have two:∀{g cX:Lo},ai g cX [R.length]→ai g cX [r,R.length]:=fun k=>k.mono (fun o U _=>by simp at U;simp[U])
 have kd:∀{g cX q4:Lo},ai g cX [r,R.length]→ai cX q4 [r,R.length]→ai g q4 [r,R.length]:=fun k l=>k.trans l (fun o U _=>U) (fun o U _=>U)
 simp only[aR.st.bz,aR.st.af,aR.dp,aO]
 refine aj.ad (fH [68,73,83,84,73,78,67,84] aR.rd) ?_
 rintro v aQ ⟨rfl,d3,aT⟩
 rw[←b_] at d3⊢
 have bE:=aR.up aT d3
 have wZ:=hY.aJ aT (fun z=>by simp at z;omega)
 simp only[a0,wZ.af,aO]
 refine aj.ad (wZ.iK (o:=0+0) (x:= .bool D.1) (by simp) ⟨rfl,rfl⟩) ?_
 rintro u bo ⟨w0,bu⟩
 have aiU:bY bo R.length (e2 D.1 false .ab .ab .ab .ab .ab (-1)):=w0
 have bS:=ck.apart q bE bu (fun o U=>by simp at U;omega)
 have n4:ai ae bo [r,R.length]:=kd (one aT) (two bu)
 have ns:=n4.len
 refine aj.bO (aiQ aS gI q (by omega) bS aiU (by omega) (by omega)) ?_
 rintro x ak bI ⟨rfl,rfl,it,T7,MX,dn,bX⟩
 rw[←ez] at T7 MX dn
 rw[←T1] at MX dn
 have T8:=kd n4 bX
 have jP:=bX.len
 simp only[decide_true,aU,a5,dn.st.bz,dn.st.af,dn.dp,aO]
 refine k4 (by omega) dn.rd (l:=[[70,82,79,77]]) (ah:=[(0, .str [70,82,79,77])]) rfl (by decide) rfl rfl fun cR d6 cP=> ?_
 have ej:=dn.up cP d6
 have CJ:=T7.aJ cP (fun z=>by simp at z;omega)
 have T9:=(ca 9 eC).aJ MX cP (fun o U z=>by simp at U;omega)
 have k3:=cP.len
 refine aj.ad (TU ej) ?_
 rintro v eF ⟨fy,dv,t7⟩
 rw[←T2] at fy t7
 obtain⟨TW,TX,tc,aiF,rfl,e6⟩:=id t7
 have w1:=CJ.aJ dv (fun z=>by simp at z;omega)
 have arL:=(ca 9 eC).aJ T9 dv (fun o U z=>by simp at U;omega)
 have arM:=kd T8 (kd (one cP) (one dv))
 have np:=dv.len
 simp only[bP,aN,aZ,bn,bl,id_eq,bq,a1,bC,a5]
 refine ta (T:=eM) (av:=fun o=>cR.length≤o∧o<eF.length) (x:=MV.1) (by decide) (by decide) (eM.mono t7 (fun o U z=>⟨z,U⟩)) (fun o z=>z.2) (l2 rfl (by simp only[List.all_cons,List.all_nil,gU e6];rfl)) fun ka eR r5 eJ=> ?_
 have r4:=w1.aq eJ
 have uF:=eJ.len
 simp only[r4.af,aO]
 refine aj.ad (r4.iK (o:=0+3) (x:=ka) (by simp) (bw.a8 r5)) ?_
 rintro u fZ ⟨GR,hv⟩
 have h1:=ck.apart q (fy.aq eJ) hv (fun o U=>by simp at U;omega)
 have aiV:=(ca 10 eM).aJ r5 hv (fun o U z=>by simp at U;rcases z with z|z<;>omega)
 have aiW:ai cR fZ [r,R.length]:=kd (one (ai.ro dv eJ)) (two hv)
 have aiX:=ej
 refine aj.bO (aiD j aS gI aiX (by omega) (by omega) (fun z=>by have:=q.st.lt;omega) (fun o U z=>by have:=q.rd.cx.lt U;omega) ws.length j (ws.length+1) fZ _ ka _ (by omega) (by omega) (by omega) h1 aiW GR ((ca 10 eM).mono aiV (fun o U z=>by rcases z with z|z<;>omega)) (by simp)) ?_
 rintro x ak hR ⟨rfl,rfl,uJ,MU,T_,ps,MY⟩
 rw[←T3] at T_ ps
 have aiY:=(ca 9 eC).aJ T9 MY (fun o U z=>by simp at U;omega)
 have aiZ:=kd (kd T8 (one cP)) MY
 have arN:=MY.len
 simp only[decide_true,aU,a5]
 refine aj.ad (MR aS gI ps) ?_
 rintro zu GK ⟨nu,pt,MZ⟩
 rw[←T4] at nu MZ
 have Ua:=MU.aJ pt (fun z=>by simp at z;omega)
 have TG:=pt.len
 simp only[Ua.af,aO]
 refine aj.ad (Ua.iK (o:=0+4) (x:=zu) (by simp) (bw.a8 MZ)) ?_
 rintro u MH ⟨ai0,GW⟩
 have rZ:=ck.apart q nu GW (fun o U=>by simp at U;omega)
 have M0:=kd (one pt) (two GW)
 have Mh:=GW.len
 have ai1:=(ca 9 eC).aJ aiY M0 (fun o U z=>by simp at U;omega)
 have ai2:=(ca 10 eM).aJ T_ M0 (fun o U z=>by simp at U;omega)
 have ai3:=(ca 8 bL).aJ MZ GW (fun o U z=>by simp at U;omega)
 refine aj.bO (aiS aS gI q (by omega) rZ ai0 (by omega)) ?_
 rintro x ak CH ⟨rfl,rfl,CK,ai4,Ub,GX,gy⟩
 rw[←T5] at Ub GX
 have ai5:=(ca 9 eC).aJ ai1 gy (fun o U z=>by simp at U;omega)
 have ai6:=(ca 10 eM).aJ ai2 gy (fun o U z=>by simp at U;omega)
 have ai7:=(ca 8 bL).aJ ai3 gy (fun o U z=>by simp at U;omega)
 have Tv:=gy.len
 simp only[decide_true,aU,a5]
 refine aj.bO (aiT aS gI q (by omega) GX ai4 (by omega)) ?_
 rintro x ak MK ⟨rfl,rfl,CL,ai8,Uc,uH,lZ⟩
 rw[←T6] at Uc uH
 have ai9:=(ca 9 eC).aJ ai5 lZ (fun o U z=>by simp at U;omega)
 have ai_:=(ca 10 eM).aJ ai6 lZ (fun o U z=>by simp at U;omega)
 have aja:=(ca 8 bL).aJ ai7 lZ (fun o U z=>by simp at U;omega)
 have ajb:=(ca 8 bL).aJ Ub lZ (fun o U z=>by simp at U;omega)
 have Tw:=lZ.len
 have ajc:=kd (kd (kd aiZ M0) gy) lZ
 simp only[decide_true,aU,a5,uH.st.bz,uH.st.af,uH.dp,aO]
 refine aj.ad (fH [76,73,77,73,84] uH.rd) ?_
 rintro v M1 ⟨rfl,d15,q5⟩
 have zv:=uH.up q5 d15
 have M3:=ai8.aJ q5 (fun z=>by simp at z;omega)
 have ajd:=(ca 9 eC).aJ ai9 q5 (fun o U z=>by simp at U;omega)
 have aje:=(ca 10 eM).aJ ai_ q5 (fun o U z=>by simp at U;omega)
 have ajf:=(ca 8 bL).aJ aja q5 (fun o U z=>by simp at U;omega)
 have ajg:=(ca 8 bL).aJ ajb q5 (fun o U z=>by simp at U;omega)
 have ajh:=(ca 9 eS).aJ Uc q5 (fun o U z=>by simp at U;omega)
 have Tx:=q5.len
 have aji:=kd ajc (one q5)
 have ajj:∀{g:Lo},ai ae g [r,R.length]→ai h g [r]:=fun k=>dW.trans k (fun o U=>by cases U) (fun o U bN=>by simp at U;rcases U with rfl|rfl;simp;omega)
 have ajk:∀{g:Lo},ai ae g [r,R.length]→bY g h.length (e2 false false .ab .ab .ab .ab .ab 0):=fun k=>hi.aJ k (fun z=>by simp at z;omega)
 have up:∀(o:Nat),R.length<o→h.length<o:=fun o z=>by omega
 have c4:∀{v:V} {xs:List X} {g:Lo},bw 8 bL (fun o=>hR.length≤o) g v xs→bw 8 bL (fun o=>h.length<o) g v xs:=fun L=>(ca 8 bL).mono L (fun o _ z=>by omega)
 have arO:∀{v:V} {xs:List hB} {g:Lo},bw 10 eM (fun o=>cR.length≤o) g v xs→bw 10 eM (fun o=>h.length<o) g v xs:=fun L=>(ca 10 eM).mono L (fun o _ z=>by omega)
 simp only[a0]
 have arP:R.length<M1.length:=by omega
 
 have fin:∀(g:Lo) (b7:Int) (t:bB),bY g R.length (e2 D.1 B.1 it uJ zu CK CL b7)→ck g bf r aW ws t→ai M1 g [r,R.length]→
   aj (ad (aB (.store 8 (.c (.ptr h.length 0 0)) (.c (.agg (e2 D.1 B.1 it uJ zu CK CL b7)))) g) fun _ aY=>J (dS aY 8 (.ptr h.length 0 0)) fun fD=>some (fD,aY)) (gq zr h bf r aW ws (⟨D.1,B.1,GS.1,GU.1,GV.1,zt.1,w2.1,b7⟩,t)):=by
  intro g b7 t CF GI nt
  have Ud:=(ca 9 eC).mono ((ca 9 eC).aJ ajd nt (fun o U z=>by simp at U;omega)) (bx:=fun o=>h.length<o) (fun o _ z=>by omega)
  have Ue:=(ca 10 eM).mono ((ca 10 eM).aJ aje nt (fun o U z=>by simp at U;omega)) (bx:=fun o=>h.length<o) (fun o _ z=>by omega)
  have Uf:=(ca 8 bL).mono ((ca 8 bL).aJ ajf nt (fun o U z=>by simp at U;omega)) (bx:=fun o=>h.length<o) (fun o _ z=>by omega)
  have Ug:=(ca 8 bL).mono ((ca 8 bL).aJ ajg nt (fun o U z=>by simp at U;omega)) (bx:=fun o=>h.length<o) (fun o _ z=>by omega)
  have Lo:=(ca 9 eS).mono ((ca 9 eS).aJ ajh nt (fun o U z=>by simp at U;omega)) (bx:=fun o=>h.length<o) (fun o _ z=>by omega)
  have Uh:=kd aji nt
  exact hL (T:=zr) (n:=8) (aM:=e2 D.1 B.1 it uJ zu CK CL b7) (cs:=e2 false false .ab .ab .ab .ab .ab 0) (x:=⟨D.1,B.1,GS.1,GU.1,GV.1,zt.1,w2.1,b7⟩) q (ajk Uh) rfl rfl (by decide) (qc (bw.a8 Ud).2 (bw.a8 Ue).2 (bw.a8 Uf).2 (bw.a8 Ug).2 (bw.a8 Lo).2) GI (ajj Uh) ⟨it,uJ,zu,CK,CL,rfl,Ud,Ue,Uf,Ug,Lo⟩
 cases hp:(bA ws [76,73,77,73,84] w2.2).1 with
 |true=>
  have ax:uK=wJ ws (bA ws [76,73,77,73,84] w2.2).2:=by rw[MW];simp only[zm,hp,if_true]
  simp only[aU,zv.st.bz,zv.st.af,zv.dp,aO]
  refine aj.ad (agO zv.rd) ?_
  rintro v arQ ⟨rfl,d16,q0⟩
  rw[←ax] at d16⊢
  have ajl:=zv.up q0 d16
  have Ui:=M3.aJ q0 (fun z=>by simp at z;omega)
  simp only[a1,Ui.af,aO]
  refine aj.ad (Ui.iK (o:=0+7) (x:= .int .i64 uK.1) (by simp) ⟨rfl,rfl⟩) ?_
  rintro u Uj ⟨ajm,GY⟩
  have ajn:=ck.apart q ajl GY (fun o U=>by simp at U;omega)
  have Uk:bY Uj R.length (e2 D.1 B.1 it uJ zu CK CL uK.1):=ajm
  simp only[Uk.e4 (n:=8) rfl,aO,bP,aN,aZ,bn,bl,id_eq,bq,a1,a0,a5]
  exact fin Uj uK.1 uK.2 Uk ajn (kd (one q0) (two GY))
 |false=>
  have ax:uK=(-1,(bA ws [76,73,77,73,84] w2.2).2):=by rw[MW];simp only[zm,hp,Bool.false_eq_true,if_false]
  simp only[a7,M3.e4 (n:=8) rfl,aO,bP,aN,aZ,bn,bl,id_eq,bq,a1,a0,a5]
  rw[ax]
  exact fin M1 (-1) _ M3 zv (ai.refl _ _)
end Go.Proofs.YtjpjeilfmjdhcaaGreat.fC
