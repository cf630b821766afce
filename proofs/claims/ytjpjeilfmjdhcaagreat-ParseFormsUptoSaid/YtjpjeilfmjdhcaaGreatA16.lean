/- The reader of statements walked: a whole statement. No condition. -/
import Derived.Test.YtjpjeilfmjdhcaaGreatA15
import Derived.Test.YtjpjeilfmjdhcaaGreatA9
import Derived.Test.YtjpjeilfmjdhcaaGreatA12
import Derived.Test.YtjpjeilfmjdhcaaGreatA3
set_option maxRecDepth 100000
set_option linter.unusedVariables false
set_option linter.unusedSimpArgs false
set_option linter.unnecessarySimpa false
namespace Go.Proofs.YtjpjeilfmjdhcaaGreat.fC
open Go E ep eI fq fw
theorem CO{h R ae:Lo}{bf r:Nat}{aW:V}{ws:List br}{eZ:bB}{p:ea × bB}{v:V}(cS:ck h bf r aW ws eZ)(ax:h.length<R.length)(k:ai h R [r])(dX:bY ae h.length g0)(t:gq h2 R bf r aW ws p v ae):
  aj (ad (aB (.store 17 (.c (.ptr h.length 0 0)) (.c v)) ae) fun _ aQ=>J (dS aQ 17 (.ptr h.length 0 0)) fun fD=>some (fD,aQ)) (gq h2 h bf r aW ws p):=by
 obtain⟨aR,aA,t2⟩:=t
 obtain⟨bF,bD,b8,cu,cK,a,b,c,d,e,rfl,de,cD,dd,dh,dZ,t1,AZ,t3,t4,t5⟩:=id t2
 exact hL (T:=h2) (n:=17) (aM:=fb p.1.k p.1.name p.1.on p.1.un bF bD b8 cu cK p.1.q.ch p.1.q.star a b c d e p.1.q.b7) (cs:=g0) (x:=p.1) cS dX rfl rfl (by decide) (jk (bw.a8 de).2 (bw.a8 cD).2 (bw.a8 dd).2 (bw.a8 dh).2 (bw.a8 dZ).2 (bw.a8 t1).2 (bw.a8 AZ).2 (bw.a8 t3).2 (bw.a8 t4).2 (bw.a8 t5).2) aR (ai.b6 k aA) (h2.mono t2 (fun o _ z=>by omega))
theorem ajP{j:Nat}(aS:10<j){h aI:Lo}{bf r du:Nat}{aW jh:V}{ws:List br}{s eZ:bB}(cS:ck aI bf r aW ws eZ)(au:aI.length≤du)(q:ck h bf r aW ws s)(cx:dq 1 h jh (strs [[66,69,71,73,78],[67,79,77,77,73,84],[82,79,76,76,66,65,67,75]]))(GZ:∀o,o∈dj jh→o≠r)(dX:bY h du g0):
  aL (Cm j j (.ptr bf 0 0) (.ptr du 0 0) jh 3 0 h) fun x ak aa=>ak=[]∧ai h aa [r,du]∧
   ((x= .ret∧∃k t,ny ws s=({ek with k:=k},t)∧bY aa du (jl k [] [] false .ab .ab .ab .ab)∧ck aa bf r aW ws t)∨
    (x= .exit 1∧∃t,ny ws s=(ek,nZ t)∧ck aa bf r aW ws t∧bY aa du g0)):=by
 have iP:=cS.rd.lt
 have one:∀{g cX:Lo},ai g cX [r]→ai g cX [r,du]:=fun k=>k.mono (fun o U _=>by simp at U;simp[U])
 have two:∀{g cX:Lo},ai g cX [du]→ai g cX [r,du]:=fun k=>k.mono (fun o U _=>by simp at U;simp[U])
 obtain⟨g,rfl⟩:∃g,j=g+4:=⟨j-4,by omega⟩
 have fG:∀(dw:Lo) (k:Int),I (.build [.int .i64 0,(.str []),(.str []), .bool false, .ab, .ab, .ab, .ab, .ab, .bool false, .bool false, .ab, .ab, .ab, .ab, .ab, .int .i64 0] [(0,(1,(.c (.int .i64 k))))]) dw=some (.agg (jl k [] [] false .ab .ab .ab .ab)):=fun _ _=>rfl
 have d1:decide ((0:Int)<3)=true:=rfl
 have d2:decide ((1:Int)<3)=true:=rfl
 have d3:decide ((2:Int)<3)=true:=rfl
 have d4:decide ((3:Int)<3)=false:=rfl
 have e7:IntKind.i64.wrap ((0:Int)+1)=1:=by decide
 have ib:IntKind.i64.wrap ((1:Int)+1)=2:=by decide
 have oM:IntKind.i64.wrap ((2:Int)+1)=3:=by decide
 have v1:IntKind.i64.wrap ((11:Int)+0)=11:=by decide
 have v2:IntKind.i64.wrap ((11:Int)+1)=12:=by decide
 have p0:IntKind.i64.wrap ((11:Int)+2)=13:=by decide
 obtain⟨a,b5,cI⟩:=cx.hX (k:=0) (e:= .str [66,69,71,73,78]) (by decide) rfl rfl
 obtain⟨A,eW⟩:∃p,p=bA ws [66,69,71,73,78] s:=⟨_,rfl⟩
 obtain⟨_,R,aV,rfl,fD,ar⟩:=fH (j:=g+4) [66,69,71,73,78] q.rd
 rw[←eW] at aV fD
 have aE:=q.up ar fD
 have rW:=dX.aJ ar (fun z=>by simp at z;omega)
 simp only[Cm,L8,d1,aU,b5,cI,aO,bC,q.st.bz,q.st.af,q.dp,aV,fp,a0]
 cases hp:A.1 with
 |true=>
  simp only[aU,v1,fG,aO]
  refine aL.ad (rW.ic (aM:=jl 11 [] [] false .ab .ab .ab .ab) rfl (by simp) rfl (n:=17) rfl) ?_
  rintro u aQ ⟨gz,aT⟩
  refine aL.some ⟨rfl,ai.b6 (one ar) (two aT), .inl ⟨rfl,11,A.2, ?_,gz,ck.apart cS aE aT (fun o U=>by simp at U;omega)⟩⟩
  simp only[ny,←eW,hp,if_true]
 |false=>
  obtain⟨B,ez⟩:∃p,p=bA ws [67,79,77,77,73,84] A.2:=⟨_,rfl⟩
  have G0:=cx.aJ ar (fun o U z=>GZ o U (by simpa using z))
  obtain⟨b,dL,fL⟩:=G0.hX (k:=1) (e:= .str [67,79,77,77,73,84]) (by decide) rfl rfl
  obtain⟨_,ae,bb,rfl,w7,aA⟩:=fH (j:=g+4) [67,79,77,77,73,84] aE.rd
  rw[←ez] at bb w7
  have aR:=aE.up aA w7
  have hi:=rW.aJ aA (fun z=>by simp at z;omega)
  simp only[a7,e7,d2,aU,dL,fL,aO,bC,aE.st.bz,aE.st.af,aE.dp,bb,fp,a0]
  cases k5:B.1 with
  |true=>
   simp only[aU,v2,fG,aO]
   refine aL.ad (hi.ic (aM:=jl 12 [] [] false .ab .ab .ab .ab) rfl (by simp) rfl (n:=17) rfl) ?_
   rintro u bo ⟨h0,bu⟩
   refine aL.some ⟨rfl,ai.b6 (one (ai.b6 ar aA)) (two bu), .inl ⟨rfl,12,B.2, ?_,h0,ck.apart cS aR bu (fun o U=>by simp at U;omega)⟩⟩
   simp only[ny,←eW,hp,Bool.false_eq_true,if_false,←ez,k5,if_true]
  |false=>
   obtain⟨C,hC⟩:∃p,p=bA ws [82,79,76,76,66,65,67,75] B.2:=⟨_,rfl⟩
   have ajQ:=G0.aJ aA (fun o U z=>GZ o U (by simpa using z))
   obtain⟨c,bF,bD⟩:=ajQ.hX (k:=2) (e:= .str [82,79,76,76,66,65,67,75]) (by decide) rfl rfl
   obtain⟨_,aQ,cb,rfl,UD,aT⟩:=fH (j:=g+4) [82,79,76,76,66,65,67,75] aR.rd
   rw[←hC] at cb UD
   have bE:=aR.up aT UD
   have gz:=hi.aJ aT (fun z=>by simp at z;omega)
   simp only[a7,ib,d3,aU,bF,bD,aO,bC,aR.st.bz,aR.st.af,aR.dp,cb,fp,a0]
   cases uO:C.1 with
   |true=>
    simp only[aU,p0,fG,aO]
    refine aL.ad (gz.ic (aM:=jl 13 [] [] false .ab .ab .ab .ab) rfl (by simp) rfl (n:=17) rfl) ?_
    rintro u bo ⟨h0,bu⟩
    refine aL.some ⟨rfl,ai.b6 (one (ai.b6 (ai.b6 ar aA) aT)) (two bu), .inl ⟨rfl,13,C.2, ?_,h0,ck.apart cS bE bu (fun o U=>by simp at U;omega)⟩⟩
    simp only[ny,←eW,hp,Bool.false_eq_true,if_false,←ez,k5,←hC,uO,if_true]
   |false=>
    simp only[a7,oM,d4]
    refine aL.some ⟨rfl,one (ai.b6 (ai.b6 ar aA) aT), .inr ⟨rfl,C.2, ?_,bE,gz⟩⟩
    simp only[ny,←eW,hp,Bool.false_eq_true,if_false,←ez,k5,←hC,uO]
theorem ajR{j:Nat}(aS:5000000<j){h:Lo}{bf r:Nat}{aW:V}{ws:List br}(gI:hj 5000 ws){s:bB}(q:ck h bf r aW ws s):aj (Gr j (.ptr bf 0 0) h) (gq h2 h bf r aW ws (ji ws s)):=by
 have iP:=q.rd.lt
 obtain⟨A,eW⟩:∃p,p=bA ws [67,82,69,65,84,69] s:=⟨_,rfl⟩
 simp only[Gr]
 refine aj.ad (hs (cs:=g0) rfl) ?_
 rintro du R ⟨rfl,dX,ar⟩
 have c5:h.length<R.length:=dX.lt
 have aE:=q.aq ar
 simp only[aE.st.bz,aE.st.af,aE.dp,aO]
 refine aj.ad (fH [67,82,69,65,84,69] aE.rd) ?_
 rintro v ae ⟨rfl,d2,aA⟩
 rw[←eW] at d2⊢
 have aR:=aE.up aA d2
 have hi:=dX.aJ aA (fun z=>by simp at z;omega)
 have ew:=aA.len
 have gA:=ai.to ar aA
 simp only[a0]
 cases m2:A.1 with
 |true=>
  have fa:ji ws s=mZ ws A.2:=by simp only[ji,←eW,m2,if_true]
  rw[fa]
  simp only[aU]
  refine aj.ad (ajI aS gI aR) ?_
  rintro v g t
  exact CO q (by omega) gA (hi.aJ t.2.1 (fun z=>by simp at z;omega)) t
 |false=>
 obtain⟨B,ez⟩:∃p,p=bA ws [68,82,79,80] A.2:=⟨_,rfl⟩
 simp only[a7,aR.st.bz,aR.st.af,aR.dp,aO]
 refine aj.ad (fH [68,82,79,80] aR.rd) ?_
 rintro v aQ ⟨rfl,d3,aT⟩
 rw[←ez] at d3⊢
 have bE:=aR.up aT d3
 have gz:=hi.aJ aT (fun z=>by simp at z;omega)
 have i_:=aT.len
 have eA:=ai.b6 gA aT
 simp only[a0]
 cases k5:B.1 with
 |true=>
  have fa:ji ws s=nx ws B.2:=by simp only[ji,←eW,m2,Bool.false_eq_true,if_false,←ez,k5,if_true]
  rw[fa]
  simp only[aU]
  refine aj.ad (ajE (by omega) bE) ?_
  rintro v g t
  exact CO q (by omega) eA (gz.aJ t.2.1 (fun z=>by simp at z;omega)) t
 |false=>
 obtain⟨C,hC⟩:∃p,p=bA ws [73,78,83,69,82,84] B.2:=⟨_,rfl⟩
 simp only[a7,bE.st.bz,bE.st.af,bE.dp,aO]
 refine aj.ad (fH [73,78,83,69,82,84] bE.rd) ?_
 rintro v bo ⟨rfl,d4,bu⟩
 rw[←hC] at d4⊢
 have bS:=bE.up bu d4
 have h0:=gz.aJ bu (fun z=>by simp at z;omega)
 have ns:=bu.len
 have gM:=ai.b6 eA bu
 simp only[a0]
 cases uO:C.1 with
 |true=>
  have fa:ji ws s=qa ws C.2:=by simp only[ji,←eW,m2,Bool.false_eq_true,if_false,←ez,k5,←hC,uO,if_true]
  rw[fa]
  simp only[aU]
  refine aj.ad (ajA aS gI bS) ?_
  rintro v g t
  exact CO q (by omega) gM (h0.aJ t.2.1 (fun z=>by simp at z;omega)) t
 |false=>
 obtain⟨D,b_⟩:∃p,p=bA ws [85,80,68,65,84,69] C.2:=⟨_,rfl⟩
 simp only[a7,bS.st.bz,bS.st.af,bS.dp,aO]
 refine aj.ad (fH [85,80,68,65,84,69] bS.rd) ?_
 rintro v bI ⟨rfl,d5,bX⟩
 rw[←b_] at d5⊢
 have dn:=bS.up bX d5
 have jy:=h0.aJ bX (fun z=>by simp at z;omega)
 have jP:=bX.len
 have iN:=ai.b6 gM bX
 simp only[a0]
 cases G1:D.1 with
 |true=>
  have fa:ji ws s=qV ws D.2:=by simp only[ji,←eW,m2,Bool.false_eq_true,if_false,←ez,k5,←hC,uO,←b_,G1,if_true]
  rw[fa]
  simp only[aU]
  refine aj.ad (ajx aS gI dn) ?_
  rintro v g t
  exact CO q (by omega) iN (jy.aJ t.2.1 (fun z=>by simp at z;omega)) t
 |false=>
 obtain⟨E,dx⟩:∃p,p=bA ws [68,69,76,69,84,69] D.2:=⟨_,rfl⟩
 simp only[a7,dn.st.bz,dn.st.af,dn.dp,aO]
 refine aj.ad (fH [68,69,76,69,84,69] dn.rd) ?_
 rintro v cR ⟨rfl,d6,cP⟩
 rw[←dx] at d6⊢
 have ej:=dn.up cP d6
 have mn:=jy.aJ cP (fun z=>by simp at z;omega)
 have k3:=cP.len
 have ja:=ai.b6 iN cP
 simp only[a0]
 cases CI:E.1 with
 |true=>
  have fa:ji ws s=qW ws E.2:=by simp only[ji,←eW,m2,Bool.false_eq_true,if_false,←ez,k5,←hC,uO,←b_,G1,←dx,CI,if_true]
  rw[fa]
  simp only[aU]
  refine aj.ad (ajv aS gI ej) ?_
  rintro v g t
  exact CO q (by omega) ja (mn.aJ t.2.1 (fun z=>by simp at z;omega)) t
 |false=>
 obtain⟨G,sB⟩:∃p,p=bA ws [83,69,76,69,67,84] E.2:=⟨_,rfl⟩
 simp only[a7,ej.st.bz,ej.st.af,ej.dp,aO]
 refine aj.ad (fH [83,69,76,69,67,84] ej.rd) ?_
 rintro v eF ⟨rfl,d7,dv⟩
 rw[←sB] at d7⊢
 have fy:=ej.up dv d7
 have mo:=mn.aJ dv (fun z=>by simp at z;omega)
 have np:=dv.len
 have mq:=ai.b6 ja dv
 simp only[a0]
 cases UE:G.1 with
 |true=>
  have fa:ji ws s=({ek with k:=10,q:=(kb ws G.2).1},(kb ws G.2).2):=by simp only[ji,←eW,m2,Bool.false_eq_true,if_false,←ez,k5,←hC,uO,←b_,G1,←dx,CI,←sB,UE,if_true]
  rw[fa]
  simp only[aU]
  refine aj.ad (T0 aS gI fy) ?_
  rintro v eR ⟨gm,eJ,t8⟩
  obtain⟨a,b,c,d,e,rfl,t1,t2,t3,t4,t5⟩:=zr.mono t8 (bx:=fun o=>h.length<o) (fun o _ z=>by omega)
  have dL:I (.build [.int .i64 0,(.str []),(.str []), .bool false, .ab, .ab, .ab, .ab, .ab, .bool false, .bool false, .ab, .ab, .ab, .ab, .ab, .int .i64 0] [(0,(1,(.c (.int .i64 (10))))),(9,(8,(.c (.agg (e2 (kb ws G.2).1.ch (kb ws G.2).1.star a b c d e (kb ws G.2).1.b7)))))]) eR=some (.agg (fb 10 [] [] false .ab .ab .ab .ab .ab (kb ws G.2).1.ch (kb ws G.2).1.star a b c d e (kb ws G.2).1.b7)):=rfl
  simp only[bP,aN,aZ,bn,bl,id_eq,bq,a1,a0,a5,dL,aO]
  exact hL (T:=h2) (n:=17) (aM:=fb 10 [] [] false .ab .ab .ab .ab .ab (kb ws G.2).1.ch (kb ws G.2).1.star a b c d e (kb ws G.2).1.b7) (cs:=g0) q (mo.aJ eJ (fun z=>by simp at z;omega)) rfl rfl (by decide) (jk rfl rfl rfl rfl rfl (bw.a8 t1).2 (bw.a8 t2).2 (bw.a8 t3).2 (bw.a8 t4).2 (bw.a8 t5).2) gm (ai.b6 mq eJ) (Uu rfl rfl rfl t1 t2 t3 t4 t5)
 |false=>
  have fa:ji ws s=ny ws G.2:=by simp only[ji,←eW,m2,Bool.false_eq_true,if_false,←ez,k5,←hC,uO,←b_,G1,←dx,CI,←sB,UE]
  rw[fa]
  simp only[a7]
  refine aj.ad (mg (az:=1) (z:= .str []) (ah:=[(0, .str [66,69,71,73,78]),(1, .str [67,79,77,77,73,84]),(2, .str [82,79,76,76,66,65,67,75])]) (es:=strs [[66,69,71,73,78],[67,79,77,77,73,84],[82,79,76,76,66,65,67,75]]) (len:=3) (by decide) (by decide) rfl rfl) ?_
  rintro jh eR ⟨-,-,cx,-,eJ,jB⟩
  have gm:=fy.aq eJ
  have cb:((strs [[66,69,71,73,78],[67,79,77,77,73,84],[82,79,76,76,66,65,67,75]]).length:Int)=3:=rfl
  simp only[jv cx,aO,a1,cb]
  refine aj.bO (ajP (by omega) q (Nat.le_refl _) gm cx (fun o U z=>by have:=jB o U;omega) (mo.aq eJ)) ?_
  rintro x ak fZ ⟨rfl,hv,⟨rfl,w4,t,bj,n3,h1⟩|⟨rfl,t,bj,h1,n3⟩⟩
  ·have nj:decide (cg.ret=cg.exit 1)=false:=rfl
   simp only[nj,a7,decide_true,aU,a5,show dS fZ 17 (.ptr h.length 0 0)=some (.agg (jl w4 [] [] false .ab .ab .ab .ab)) from n3.bp,aO]
   rw[bj]
   exact aj.some ⟨h1,(ai.ro mq eJ).trans hv (fun o U _=>U) (fun o U bN=>by simp at U;rcases U with rfl|rfl;simp;omega),w3 (name:=[]) (on:=[]) (un:=false)⟩
  ·have rY:ai h fZ [r]:=(ai.ro mq eJ).trans hv (fun o U _=>U) (fun o U bN=>by simp at U;rcases U with rfl|rfl;simp;omega)
   simp only[decide_true,aU,a5,h1.st.bz,h1.st.af,h1.dp,aO]
   refine aj.ad (wM h1.rd) ?_
   rintro v hR ⟨rfl,d10,iO⟩
   have fi:I (.build [.int .i64 0,(.str []),(.str []), .bool false, .ab, .ab, .ab, .ab, .ab, .bool false, .bool false, .ab, .ab, .ab, .ab, .ab, .int .i64 0] []) hR=some (.agg g0):=rfl
   simp only[fi,aO]
   rw[bj]
   exact hL (T:=h2) (n:=17) (aM:=g0) (cs:=g0) (x:=ek) q (n3.aJ iO (fun z=>by simp at z;omega)) rfl rfl (by decide) rfl (h1.up iO d10) (ai.b6 rY iO) (w3 (k:=0) (name:=[]) (on:=[]) (un:=false))
end Go.Proofs.YtjpjeilfmjdhcaaGreat.fC
namespace Go.Proofs.YtjpjeilfmjdhcaaGreat.UF
open Go E ep
theorem ajS(a:UInt8)(t aK:Lu):dU (a::t++10::aK)=dU (a::t):=by
 unfold dU
 rw[v5,v5]
 match t with
 | []=>simp[ou]
 | [b]=>simp[ou]
 | [b,c]=>simp[ou]
 |b::c::d::u=>simp[ou]
theorem CP{t:Lu}(h:t≠ [])(aK:Lu):dU (t++10::aK)=dU t:=by
 cases t with
 |nil=>exact absurd rfl h
 |cons a t=>exact ajS a t aK
theorem UG{a:UInt8}{t:Lu}(h:a≠10):((dU (a::t)).1:Int)≠10:=by
 by_cases c:a.toNat<128
 ·rw[sO c]
  intro z
  have Jv:((a.toNat:Nat):Int)=10:=z
  exact h (UInt8.toNat_inj.1 (by show a.toNat=10;omega))
 ·unfold dU
  rw[v5]
  simp only[Nat.zero_add]
  have aF:ou (a::t) 0=a.toNat:=by simp[ou]
  rw[if_neg (show ¬ou (a::t) 0<128 by rw[aF];exact c)]
  have I:Utf8.runeError=65533:=rfl
  split
  ·split
   ·rename_i q;simp only[ge_iff_le] at q;intro z;simp only at z;omega
   ·rw[I];decide
  ·split
   ·split
    ·rename_i q;simp only[ge_iff_le,Bool.and_eq_true,decide_eq_true_eq] at q;intro z;simp only at z;omega
    ·rw[I];decide
   ·split
    ·split
     ·rename_i q;simp only[ge_iff_le,Bool.and_eq_true,decide_eq_true_eq] at q;intro z;simp only at z;omega
     ·rw[I];decide
    ·rw[I];decide
theorem CQ{p:Lu}(hp:10∉p)(t aK:Lu):iv (t++10::aK) p=iv t p:=by
 unfold iv
 by_cases c:p.length≤t.length
 ·rw[decide_eq_true c,decide_eq_true (by simp;omega),List.take_append_of_le_length c]
 ·rw[decide_eq_false c,Bool.false_and]
  have:((t++10::aK).take p.length==p)=false:=by
   cases e:((t++10::aK).take p.length==p) with
   |false=>rfl
   |true=>
    have e:(t++10::aK).take p.length=p:=by simpa using e
    have R:((t++10::aK).take p.length)[t.length]? =some 10:=by
     rw[List.getElem?_take,if_pos (by omega),List.getElem?_append_right (Nat.le_refl _),Nat.sub_self];rfl
    rw[e] at R
    exact absurd (List.mem_of_getElem? R) hp
  rw[this,Bool.and_false]
theorem ajT{aK:Lu}:∀(m:Nat) (t:Lu) (k:Nat),t.length≤m→1≤k→hK (m+k) (t++10::aK)=hK m t:=by
 have aI:∀k,1≤k→hK k (10::aK)=0:=fun k aH=>by
  obtain⟨k,rfl⟩:∃o,k=o+1:=⟨k-1,by omega⟩
  rw[hK,if_neg (by simp),sO (b:=10) (by decide)]
  rfl
 intro m
 induction m with
 |zero=>
  intro t k iV aH
  have:t=[]:=List.eq_nil_of_length_eq_zero (by omega)
  subst this
  rw[List.nil_append,Nat.zero_add,aI k aH];rfl
 |succ m ba=>
  intro t k iV aH
  by_cases c:t=[]
  ·subst c
   rw[List.nil_append,aI _ (by omega),hK,if_pos rfl]
  ·have hw:=qI t c
   rw[show m+1+k=(m+k)+1 by omega,hK,hK,if_neg (by simp),if_neg c,CP c,List.drop_append_of_le_length hw.2,ba (t.drop (dU t).2) k (by simp;omega) aH]
theorem ajU(t aK:Lu):hK (t++10::aK).length (t++10::aK)=hK t.length t:=by
 rw[List.length_append];exact ajT _ t _ (Nat.le_refl _) (by simp)
theorem M9{aK:Lu}:∀(m:Nat) (b t:Lu) (p:Lu × Nat) (k:Nat),k2 m b t=some p→k2 (m+k) b (t++10::aK)=some p
 |0,b,t,p,k,h=>by cases h
 |m+1,b,[],p,k,h=>by cases h
 |m+1,b,c::t,p,k,h=>by
  rw[show m+1+k=(m+k)+1 by omega,List.cons_append,Gy]
  rw[Gy] at h
  by_cases q:c=39
  ·rw[if_pos q] at h⊢
   cases t with
   |nil=>simpa using h
   |cons d u=>
    simp only[List.cons_append] at h⊢
    by_cases aR:d=39
    ·rw[if_pos aR] at h⊢
     cases e:k2 m (b++ [c]) u with
     |none=>rw[e] at h;cases h
     |some lR=>rw[e] at h;rw[M9 m _ _ _ k e];exact h
    ·rw[if_neg aR] at h⊢
     exact h
  ·rw[if_neg q] at h⊢
   cases e:k2 m (b++ [c]) t with
   |none=>rw[e] at h;cases h
   |some lR=>rw[e] at h;rw[M9 m _ _ _ k e];exact h
theorem ajV{t:Lu}(h:t≠ [])(aK:Lu):lY (t++10::aK)=lY t:=by
 have e:(t++10::aK).headD 0=t.headD 0:=by
  cases t with
  |nil=>exact absurd rfl h
  |cons a t=>rfl
 unfold lY
 rw[CQ (by decide),CQ (by decide),CQ (by decide),e]
theorem ajW{ok:Bool}{w:br}{ws:List br}{e:Int}(h:(k1 ok w ws e).2=0):ok=true∧ws.length≠600∧k1 ok w ws e=(ws++ [w],e):=by
 unfold k1 at h⊢
 cases ok with
 |false=>simp at h
 |true=>
  simp only[Bool.true_eq_false,if_false] at h⊢
  by_cases c:ws.length=600
  ·rw[if_pos c] at h;simp at h
  ·exact⟨trivial,c,by rw[if_neg c]⟩
theorem ajX{r:Int}{t:Lu}{ws:List br}{e:Int}(aK:Lu)(en:t≠ [])(h:(lv r t ws e).2.2=0):lv r (t++10::aK) ws e=lv r t ws e∧(lv r t ws e).1≤t.length:=by
 have nY:=Co t.length t
 have er:=(Mg en).1
 have ax:0<t.length:=List.length_pos_iff.2 en
 unfold lv at h⊢
 by_cases c:r=39
 ·rw[if_pos c] at h
  rw[if_pos c,if_pos c]
  cases cb:k2 t.length [] (t.drop 1) with
  |none=>rw[cb] at h;simp at h
  |some p=>
   have dI:=M9 (aK:=aK) t.length [] (t.drop 1) p (10::aK).length cb
   have:=Gz _ _ _ _ cb
   simp only[List.length_drop] at this
   rw[List.length_append,List.drop_append_of_le_length (by omega),dI]
   exact⟨rfl,by simp only;omega⟩
 ·rw[if_neg c] at h
  rw[if_neg c,if_neg c]
  rw[ajU,ajV en,List.take_append_of_le_length nY,List.take_append_of_le_length er]
  refine⟨by first|rfl|trivial, ?_⟩
  by_cases bF:rS r=true
  ·rw[if_pos bF];exact nY
  ·rw[if_neg bF] at h⊢
   by_cases bD:p3 r=true
   ·rw[if_pos bD];exact nY
   ·rw[if_neg bD] at h⊢
    have:=(ajW h).1
    simp only[decide_eq_true_eq] at this
    simp only;omega
theorem ajY{t:Lu}{eG:Nat}{dY:Bool}{ws:List br}(aK:Lu)(en:t≠ [])(UH:eG≤t.length)(h:(gG t eG dY ws).2.2.2=0):gG (t++10::aK) eG dY ws=gG t eG dY ws∧(gG t eG dY ws).1≤t.length:=by
 have ax:0<t.length:=List.length_pos_iff.2 en
 unfold gG at h⊢
 rw[CP en,CQ (by decide),CQ (by decide)]
 by_cases dQ:dY=true
 ·rw[if_pos dQ,if_pos dQ]
  refine⟨rfl, ?_⟩
  split
  ·exact UH
  ·exact ax
 ·rw[if_neg dQ] at h⊢
  rw[if_neg dQ]
  by_cases bF:0<eG
  ·rw[if_pos bF,if_pos bF];exact⟨rfl,UH⟩
  ·rw[if_neg bF] at h⊢
   rw[if_neg bF]
   by_cases bD:Cs ((dU t).1:Int)=true
   ·rw[if_pos bD,if_pos bD];exact⟨rfl,Nat.zero_le _⟩
   ·rw[if_neg bD] at h⊢
    rw[if_neg bD]
    by_cases b8:iv t [45,45]=true
    ·rw[if_pos b8,if_pos b8];exact⟨rfl,ax⟩
    ·rw[if_neg b8] at h⊢
     rw[if_neg b8]
     by_cases cu:(((dU t).1:Int)==65533&& !iv t [239,191,189])=true
     ·rw[if_pos cu] at h;simp at h
     ·rw[if_neg cu] at h⊢
      rw[if_neg cu]
      obtain⟨aV,bb⟩:=ajX (ws:=ws) (e:=0) aK en h
      rw[aV]
      exact⟨rfl,bb⟩
theorem ajZ{e:Int}(h:e≠0):∀(m:Nat) (t:Lu) (eG:Nat) (dY:Bool) (ws:List br),(scan m t eG dY ws e).1=none
 |0,t,eG,dY,ws=>by rw[scan,hL,if_neg h]
 |m+1,t,eG,dY,ws=>by
  rw[scan]
  split
  ·rw[hL,if_neg h]
  ·rfl
theorem G2:∀(m cC:Nat) (t:Lu) (eG:Nat) (dY:Bool) (ws:List br) (e:Int),t.length≤m→t.length≤cC→scan m t eG dY ws e=scan cC t eG dY ws e
 |0,0,t,eG,dY,ws,e,h,aa=>rfl
 |0,cC+1,t,eG,dY,ws,e,h,aa=>by
  have:t=[]:=List.eq_nil_of_length_eq_zero (by omega)
  subst this
  rw[scan,scan,if_pos rfl]
 |m+1,0,t,eG,dY,ws,e,h,aa=>by
  have:t=[]:=List.eq_nil_of_length_eq_zero (by omega)
  subst this
  rw[scan,scan,if_pos rfl]
 |m+1,cC+1,t,eG,dY,ws,e,h,aa=>by
  rw[scan,scan]
  by_cases c:t=[]
  ·rw[if_pos c,if_pos c]
  ·rw[if_neg c,if_neg c]
   have hw:=qI t c
   by_cases z:e=0
   ·rw[if_neg (fun x=>x z),if_neg (fun x=>x z)]
    exact G2 m cC _ _ _ _ _ (by simp;omega) (by simp;omega)
   ·rw[if_pos z,if_pos z]
theorem aj0:∀(m:Nat) (t:Lu) (eG:Nat) (dY:Bool) (ws:List br) (e:Int) (x:List br),t.length≤m→eG≤t.length→scan m t eG dY ws e=(some x,0)→
  ∃oH,∀(aK:Lu) (k:Nat),(10::aK).length≤k→scan (m+k) (t++10::aK) eG dY ws e=scan k (10::aK) 0 oH x 0:=by
 have fin:∀{ws:List br} {e:Int} {x:List br},hL ws e=(some x,0)→e=0∧ws=x:=by
  intro ws e x h
  unfold hL at h
  by_cases z:e=0
  ·rw[if_pos z] at h
   injection h with R ae
   injection R with R
   exact⟨z,R⟩
  ·rw[if_neg z] at h;cases h
 intro m
 induction m with
 |zero=>
  intro t eG dY ws e x iV a6 h
  have:t=[]:=List.eq_nil_of_length_eq_zero (by omega)
  subst this
  obtain⟨rfl,rfl⟩:=fin h
  have:eG=0:=by simpa using a6
  subst this
  exact⟨dY,fun aK k aH=>by rw[Nat.zero_add,List.nil_append]⟩
 |succ m ba=>
  intro t eG dY ws e x iV a6 h
  by_cases c:t=[]
  ·subst c
   rw[scan,if_pos rfl] at h
   obtain⟨rfl,rfl⟩:=fin h
   have:eG=0:=by simpa using a6
   subst this
   exact⟨dY,fun aK k aH=>by rw[List.nil_append];exact G2 _ _ _ _ _ _ _ (by omega) aH⟩
  ·rw[scan,if_neg c] at h
   have hw:=qI t c
   by_cases z:e=0
   ·rw[if_neg (fun y=>y z)] at h
    have aI:(gG t eG dY ws).2.2.2=0:=by
     by_cases q:(gG t eG dY ws).2.2.2=0
     ·exact q
     ·have:=ajZ q m (t.drop (dU t).2) ((gG t eG dY ws).1-(dU t).2) (gG t eG dY ws).2.1 (gG t eG dY ws).2.2.1
      rw[h] at this;cases this
    have pO:=fun aK=>ajY (ws:=ws) aK c a6 aI
    obtain⟨oH,bd⟩:=ba _ _ _ _ _ _ (by simp;omega) (by have:=(pO []).2;simp;omega) h
    refine⟨oH,fun aK k aH=> ?_⟩
    rw[show m+1+k=(m+k)+1 by omega,scan,if_neg (by simp),if_neg (fun y=>y z),CP c,(pO aK).1,List.drop_append_of_le_length hw.2]
    exact bd aK k aH
   ·rw[if_pos z] at h;cases h
theorem aj1{ws:List br}{aK:Lu}:∀(m:Nat) (note:Lu) (k:Nat),note.length≤m→10∉note→(10::aK).length≤k→scan (m+k) (note++10::aK) 0 true ws 0=scan k (10::aK) 0 true ws 0:=by
 intro m
 induction m with
 |zero=>
  intro note k hm bd aH
  have:note=[]:=List.eq_nil_of_length_eq_zero (by omega)
  subst this
  rw[Nat.zero_add,List.nil_append]
 |succ m ba=>
  intro note k hm bd aH
  cases an:note with
  |nil=>rw[List.nil_append];exact G2 _ _ _ _ _ _ _ (by omega) aH
  |cons a t=>
   have c:note≠ []:=by rw[an];simp
   have hw:=qI note c
   have bh:a≠10:=fun z=>bd (by rw[an,z];simp)
   have e:gG (note++10::aK) 0 true ws=(1,true,(ws,0)):=by
    unfold gG
    rw[CP c,if_pos rfl,if_neg (by rw[an];exact UG bh)]
   rw[←an,show m+1+k=(m+k)+1 by omega,scan,if_neg (by simp),if_neg (fun y=>y rfl),e,CP c,List.drop_append_of_le_length hw.2]
   simp only[show 1-(dU note).2=0 by omega]
   exact ba _ k (by simp;omega) (fun z=>bd (List.mem_of_mem_drop z)) aH
theorem zC{b:UInt8}{t:Lu}{m eG:Nat}{dY:Bool}{ws:List br}(aF:b.toNat<128):scan (m+1) (b::t) eG dY ws 0=scan m t ((gG (b::t) eG dY ws).1-1) (gG (b::t) eG dY ws).2.1 (gG (b::t) eG dY ws).2.2.1 (gG (b::t) eG dY ws).2.2.2:=by
 rw[scan,if_neg (by simp),if_neg (fun y=>y rfl),sO aF]
 rfl
theorem CR{b:UInt8}{t:Lu}{m:Nat}{ws:List br}(aF:b=10∨b=9∨b=32):scan (m+1) (b::t) 0 false ws 0=scan m t 0 false ws 0:=by
 have UI:b.toNat<128:=by rcases aF with rfl|rfl|rfl<;>decide
 have e:gG (b::t) 0 false ws=(0,false,(ws,0)):=by
  unfold gG
  rw[sO UI,if_neg (by decide),if_neg (by decide),if_pos (by rcases aF with rfl|rfl|rfl<;>decide)]
 rw[zC UI,e];rfl
end Go.Proofs.YtjpjeilfmjdhcaaGreat.UF
namespace Go.Proofs.YtjpjeilfmjdhcaaGreat.f_
open Go E ep UF fq
theorem G3{ok:Bool}{w v:br}{ws:List br}{e:Int}(h:v∈(k1 ok w ws e).1):v∈ws∨(ok=true∧v=w):=by
 unfold k1 at h
 split at h
 ·exact .inl h
 ·split at h
  ·exact .inl h
  ·rename_i R ae
   simp only[List.mem_append,List.mem_singleton] at h
   rcases h with h|h
   ·exact .inl h
   ·exact .inr ⟨by simpa using R,h⟩
theorem aj2{r:Int}{t:Lu}{ws:List br}{e:Int}(iV:t.length≤4000)(h:hj 5000 ws):hj 5000 (lv r t ws e).2.1:=by
 have gK:∀n,(t.take n).length≤5000:=fun n=>by rw[List.length_take];omega
 intro v bg
 unfold lv at bg
 split at bg
 ·split at bg
  ·rename_i b n bm
   rcases G3 bg with q|⟨q,rfl⟩
   ·exact h v q
   ·have:=of_decide_eq_true q
    simp only;omega
  ·exact h v bg
 ·split at bg
  ·rcases G3 bg with q|⟨q,rfl⟩
   ·exact h v q
   ·exact gK _
  ·split at bg
   ·rcases G3 bg with q|⟨q,rfl⟩
    ·exact h v q
    ·exact gK _
   ·rcases G3 bg with q|⟨q,rfl⟩
    ·exact h v q
    ·exact gK _
theorem aj3{t:Lu}{eG:Nat}{dY:Bool}{ws:List br}(iV:t.length≤4000)(h:hj 5000 ws):hj 5000 (gG t eG dY ws).2.2.1:=by
 unfold gG
 split
 ·split<;>exact h
 ·split
  ·exact h
  ·split
   ·exact h
   ·split
    ·exact h
    ·split
     ·exact h
     ·exact aj2 iV h
theorem aj4:∀(m:Nat) (t:Lu) (eG:Nat) (dY:Bool) (ws:List br) (e:Int) (y:List br) (ct:Int),t.length≤4000→hj 5000 ws→scan m t eG dY ws e=(some y,ct)→hj 5000 y:=by
 have fin:∀{ws:List br} {e:Int} {y:List br} {ct:Int},hj 5000 ws→hL ws e=(some y,ct)→hj 5000 y:=by
  intro ws e y ct ax h
  unfold hL at h
  split at h
  ·injection h with R ae
   injection R with R
   rw[←R];exact ax
  ·cases h
 intro m
 induction m with
 |zero=>intro t eG dY ws e y ct iV ax h;exact fin ax h
 |succ m ba=>
  intro t eG dY ws e y ct iV ax h
  rw[scan] at h
  split at h
  ·exact fin ax h
  ·split at h
   ·cases h
   ·exact ba _ _ _ _ _ _ _ (by rw[List.length_drop];omega) (aj3 iV ax) h
theorem M_{s:Lu}{y:List br}{e:Int}(h:oG s=(some y,e)):hj 5000 y:=by
 unfold oG at h
 split at h
 ·cases h
 ·exact aj4 _ _ _ _ _ _ _ _ (by omega) (fun w hw=>by cases hw) h
theorem aj5:∀(m:Nat) (t:Lu) (eG:Nat) (dY:Bool) (ws:List br) (e:Int) (y:List br) (ct:Int),ws.length≤600→scan m t eG dY ws e=(some y,ct)→y.length≤600:=by
 have fin:∀{ws:List br} {e:Int} {y:List br} {ct:Int},ws.length≤600→hL ws e=(some y,ct)→y.length≤600:=by
  intro ws e y ct ax h
  unfold hL at h
  split at h
  ·injection h with R ae
   injection R with R
   rw[←R];exact ax
  ·cases h
 intro m
 induction m with
 |zero=>intro t eG dY ws e y ct ax h;exact fin ax h
 |succ m ba=>
  intro t eG dY ws e y ct ax h
  rw[scan] at h
  split at h
  ·exact fin ax h
  ·split at h
   ·cases h
   ·exact ba _ _ _ _ _ _ _ (S1 t eG dY ws ax) h
theorem UJ{s:Lu}{y:List br}{e:Int}(h:oG s=(some y,e)):y.length≤600:=by
 unfold oG at h
 split at h
 ·cases h
 ·exact aj5 _ _ _ _ _ _ _ _ (by simp) h
theorem aj6{ws:List br}:∀(m:Nat) (note:Lu) (eG:Nat),note.length≤m→10∉note→scan m note eG true ws 0=(some ws,0):=by
 intro m
 induction m with
 |zero=>
  intro note eG R ae
  rfl
 |succ m ba=>
  intro note eG R ae
  cases note with
  |nil=>rfl
  |cons a t=>
   have bh:a≠10:=fun q=>ae (by rw[q];simp)
   have e:gG (a::t) eG true ws=(1,true,(ws,0)):=by
    unfold gG
    rw[if_pos rfl,if_neg (UG bh)]
   have hw:=qI (a::t) (by simp)
   rw[scan,if_neg (by simp),if_neg (by simp),e]
   refine ba _ _ (by rw[List.length_drop];simp at R⊢;omega) (fun q=>ae (List.mem_of_mem_drop q))
theorem first{ws:List br}{note b:Lu}(bd:10∉note)(m:Nat)(hm:(45::45::(note++10::b)).length≤m):scan m (45::45::(note++10::b)) 0 false ws 0=scan b.length b 0 false ws 0:=by
 simp only[List.length_cons,List.length_append] at hm
 obtain⟨m,rfl⟩:∃k,m=note.length+(k+1+b.length)+2:=⟨m-note.length-3-b.length,by omega⟩
 have bb:scan (note.length+(m+1+b.length)+1+1) (45::45::(note++10::b)) 0 false ws 0=scan (note.length+(m+1+b.length)+1) (45::(note++10::b)) 0 true ws 0:=by
  have e:∀u,gG (45::45::u) 0 false ws=(1,true,(ws,0)):=fun u=>by
   unfold gG
   rw[sO (b:=45) (by decide),if_neg (by decide),if_neg (by decide),if_neg (by decide),if_pos (by unfold iv;rw[decide_eq_true (by simp)];rfl)]
  rw[zC (by decide),e];rfl
 have cb:scan (note.length+(m+1+b.length)+1) (45::(note++10::b)) 0 true ws 0=scan (note.length+(m+1+b.length)) (note++10::b) 0 true ws 0:=by
  have e:∀u,gG (45::u) 0 true ws=(1,true,(ws,0)):=fun u=>by
   unfold gG
   rw[sO (b:=45) (by decide),if_pos rfl,if_neg (by decide)]
  rw[zC (by decide),e];rfl
 have dI:=aj1 (ws:=ws) (aK:=b) note.length note (m+1+b.length) (Nat.le_refl _) bd (by simp;omega)
 have fQ:scan (m+1+b.length) (10::b) 0 true ws 0=scan (m+b.length) b 0 false ws 0:=by
  have e:∀u,gG (10::u) 0 true ws=(0,false,(ws,0)):=fun u=>by
   unfold gG
   rw[sO (b:=10) (by decide),if_pos rfl,if_pos (by decide)]
  rw[show m+1+b.length=(m+b.length)+1 by omega,zC (by decide),e];rfl
 rw[show note.length+(m+1+b.length)+2=note.length+(m+1+b.length)+1+1 from rfl,bb,cb,dI,fQ]
 exact G2 _ _ _ _ _ _ _ (by omega) (Nat.le_refl _)
theorem last{ws:List br}{note:Lu}(bd:10∉note)(dY:Bool)(m:Nat)(hm:(10::32::45::45::note).length≤m):scan m (10::32::45::45::note) 0 dY ws 0=(some ws,0):=by
 simp only[List.length_cons] at hm
 obtain⟨m,rfl⟩:∃k,m=k+4:=⟨m-4,by omega⟩
 have aV:scan (m+3+1) (10::32::45::45::note) 0 dY ws 0=scan (m+3) (32::45::45::note) 0 false ws 0:=by
  cases dY with
  |false=>exact CR (.inl rfl)
  |true=>
   have e:∀u,gG (10::u) 0 true ws=(0,false,(ws,0)):=fun u=>by
    unfold gG
    rw[sO (b:=10) (by decide),if_pos rfl,if_pos (by decide)]
   rw[zC (by decide),e];rfl
 have bb:scan (m+2+1) (32::45::45::note) 0 false ws 0=scan (m+2) (45::45::note) 0 false ws 0:=CR (.inr (.inr rfl))
 have cb:scan (m+1+1) (45::45::note) 0 false ws 0=scan (m+1) (45::note) 0 true ws 0:=by
  have e:∀u,gG (45::45::u) 0 false ws=(1,true,(ws,0)):=fun u=>by
   unfold gG
   rw[sO (b:=45) (by decide),if_neg (by decide),if_neg (by decide),if_neg (by decide),if_pos (by unfold iv;rw[decide_eq_true (by simp)];rfl)]
  rw[zC (by decide),e];rfl
 rw[show m+4=m+3+1 from rfl,aV,bb,cb]
 exact aj6 _ _ _ (by simp;omega) (by simp;exact bd)
theorem two{m:Nat}{t:Lu}{eG:Nat}{dY:Bool}{ws:List br}{e ct:Int}{y:List br}:scan m t eG dY ws e=(some y,ct)→ct=0:=by
 induction m generalizing t eG dY ws e with
 |zero=>
  intro h
  rw[scan,hL] at h
  split at h
  ·injection h with R ae;exact ae.symm
  ·cases h
 |succ m ba=>
  intro h
  rw[scan] at h
  split at h
  ·rw[hL] at h
   split at h
   ·injection h with R ae;exact ae.symm
   ·cases h
  ·split at h
   ·cases h
   ·exact ba h
theorem arS{note b:Lu}{x:List br}{e:Int}(aF:b.length≤1500)(ax:note.length≤1000)(bd:10∉note)(au:oG b=(some x,e)):oG ([32,9,10,45,45]++note++ [10]++b++ [10,32,45,45]++note)=(some x,0):=by
 unfold oG at au⊢
 rw[if_neg (by omega)] at au
 obtain rfl:=two au
 have aj7: [32,9,10,45,45]++note++ [10]++b++ [10,32,45,45]++note=32::9::10::45::45::(note++10::(b++10::(32::45::45::note))):=by simp
 rw[aj7]
 have hlen:(32::9::10::45::45::(note++10::(b++10::(32::45::45::note)))).length=(45::45::(note++10::(b++10::(32::45::45::note)))).length+1+1+1:=rfl
 rw[if_neg (by simp;omega),hlen,CR (.inr (.inr rfl)),CR (.inr (.inl rfl)),CR (.inl rfl),first bd _ (Nat.le_refl _)]
 obtain⟨oH,eW⟩:=aj0 _ _ _ _ _ _ _ (Nat.le_refl _) (Nat.zero_le _) au
 have aj8:(b++10::(32::45::45::note)).length=b.length+(10::(32::45::45::note)).length:=by simp
 rw[aj8,eW _ _ (Nat.le_refl _)]
 exact last bd oH _ (Nat.le_refl _)
open eI fw fC
theorem lb{α:Type}{T:hd α}{av:Nat→Prop}{h aa:Lo}{v:V}{x:α}(t:T.aK av h v x)(k:ai h aa []):T.aK av aa v x:=T.aJ t k (fun o U=>by cases U)
def aC{α:Type}(az:Nat)(T:hd α)(av:Nat→Prop)(h:Lo)(v:V)(xs:List α):Prop:=
 ∃es,dq az h v es∧es.length=xs.length∧(∀o,o∈dj v→av o)∧∀(i:Nat) (aw:i<xs.length),∃e,es[i]? =some e∧T.aK av h e xs[i]
def cl{α:Type}(az:Nat)(T:hd α):hd (List α) where
 aK:=aC az T
 aJ:=by
  rintro av h aa v xs A ⟨es,s,l,i,e⟩ k d
  exact⟨es,s.aJ k (fun o U z=>d o z (i o U)),l,i,fun n bd=>by obtain⟨y,hI,kG⟩:=e n bd;exact⟨y,hI,T.aJ kG k d⟩⟩
 mono:=by
  rintro av bx h v xs ⟨es,s,l,i,e⟩ d
  exact⟨es,s,l,fun o U=>d o (s.lt U) (i o U),fun n bd=>by obtain⟨y,hI,kG⟩:=e n bd;exact⟨y,hI,T.mono kG d⟩⟩
variable {α:Type} {az:Nat} {T:hd α} {av:Nat→Prop} {h aa:Lo} {v:V} {xs:List α}
theorem aC.aq(l:aC az T av h v xs)(k:ai h aa []):aC az T av aa v xs:=lb (T:=cl az T) l k
theorem aC.len(l:aC az T av h v xs):I (.cm (.c v)) h=some (.int .i64 xs.length):=by
 obtain⟨es,s,ax,-⟩:=l
 rw[jv s,ax]
theorem aC.a8(l:aC az T av h v xs):v.cells=[v]∧v.scalar=true:=by
 obtain⟨es,s,-⟩:=l
 exact oE s
theorem aC.ab(az:Nat)(T:hd α)(av:Nat→Prop)(h:Lo):aC az T av h .ab []:=⟨[],dq.ab _ _,rfl,fun o U=>(nomatch U),fun i aw=>by simp at aw⟩
theorem bw.q6(l:bw az T av h v xs):aC az T av h v xs:=by
 obtain⟨es,s,a,i,ax,e⟩:=l
 exact⟨es,s,ax,i,fun n bd=>⟨es[n]'(by omega),List.getElem?_eq_getElem _,T.mono (e n _ _ (List.getElem?_eq_getElem (by omega)) (List.getElem?_eq_getElem bd)) (fun o _ z=>z.1)⟩⟩
theorem aC.imp{py:hd α}(l:aC az T av h v xs)(d:∀e x,T.aK av h e x→py.aK av h e x):aC az py av h v xs:=by
 obtain⟨es,s,ax,i,e⟩:=l
 exact⟨es,s,ax,i,fun n bd=>by obtain⟨y,hI,kG⟩:=e n bd;exact⟨y,hI,d _ _ kG⟩⟩
theorem bw.imp{β:Type}{UK:Nat}{py:hd β}{a_:List (List β)}(l:bw 1 (ca UK py) av h v a_):aC 1 (cl UK py) av h v a_:=aC.imp (bw.q6 l) (fun _ _ t=>bw.q6 t)
def hl:hd ea where
 aK:=fun av h v m=>∃bF bD b8 cu cK a b c d e,v= .agg (fb m.k m.name m.on m.un bF bD b8 cu cK m.q.ch m.q.star a b c d e m.q.b7)∧aC 4 fI av h bF m.hk∧aC 1 fM av h bD m.keys∧aC 1 (cl 8 bL) av h b8 m.rows∧aC 9 fs av h cu m.ft∧aC 8 bL av h cK m.c1∧
  aC 9 eC av h a m.q.items∧aC 10 eM av h b m.q.eH∧aC 8 bL av h c m.q.c1∧aC 8 bL av h d m.q.fh∧aC 9 eS av h e m.q.eV
 aJ:=by
  rintro av h aa v x A ⟨bF,bD,b8,cu,cK,a,b,c,d,e,rfl,de,cD,dd,dh,dZ,t1,t2,t3,t4,t5⟩ k b4
  exact⟨bF,bD,b8,cu,cK,a,b,c,d,e,rfl,(cl 4 fI).aJ de k b4,(cl 1 fM).aJ cD k b4,(cl 1 (cl 8 bL)).aJ dd k b4,(cl 9 fs).aJ dh k b4,(cl 8 bL).aJ dZ k b4,(cl 9 eC).aJ t1 k b4,(cl 10 eM).aJ t2 k b4,(cl 8 bL).aJ t3 k b4,(cl 8 bL).aJ t4 k b4,(cl 9 eS).aJ t5 k b4⟩
 mono:=by
  rintro av bx h v x ⟨bF,bD,b8,cu,cK,a,b,c,d,e,rfl,de,cD,dd,dh,dZ,t1,t2,t3,t4,t5⟩ b4
  exact⟨bF,bD,b8,cu,cK,a,b,c,d,e,rfl,(cl 4 fI).mono de b4,(cl 1 fM).mono cD b4,(cl 1 (cl 8 bL)).mono dd b4,(cl 9 fs).mono dh b4,(cl 8 bL).mono dZ b4,(cl 9 eC).mono t1 b4,(cl 10 eM).mono t2 b4,(cl 8 bL).mono t3 b4,(cl 8 bL).mono t4 b4,(cl 9 eS).mono t5 b4⟩
theorem Na{m:ea}(t:h2.aK av h v m):hl.aK av h v m:=by
 obtain⟨bF,bD,b8,cu,cK,a,b,c,d,e,bg,de,cD,dd,dh,dZ,t1,t2,t3,t4,t5⟩:=t
 exact⟨bF,bD,b8,cu,cK,a,b,c,d,e,bg,bw.q6 de,bw.q6 cD,bw.imp dd,bw.q6 dh,bw.q6 dZ,bw.q6 t1,bw.q6 t2,bw.q6 t3,bw.q6 t4,bw.q6 t5⟩
end Go.Proofs.YtjpjeilfmjdhcaaGreat.f_
namespace Go.Proofs.YtjpjeilfmjdhcaaGreat.m3
open Go E ep eI fq fw fC f_
structure gJ(b:Bool)(K:Nat→Prop)(h:Lo)(e c:V):Prop where
 len:c.cells.length=e.cells.length
 a8:c.cells.all V.scalar=true
 cr:mi c=mi e
 at_:∀(o:Nat) (z y:V),e.cells[o]? =some z→c.cells[o]? =some y→ef b K h z y
variable {b:Bool} {az:Nat} {K:Nat→Prop} {h g:Lo} {av bx:Nat→Prop}
theorem aj9{e:V}(h:bare e=true){k:Nat}{c:V}(aH:e.cells[k]? =some c):bare c=true:=by
 cases e<;>first
  |(simp only[V.cells] at aH;exact Ep (by simpa [bare] using h) aH)
  |(simp only[V.cells] at aH;cases k<;>simp at aH<;>subst aH<;>exact h)
theorem gJ.refl{e:V}(a6:e.cells.all V.scalar=true)(aw:ff e=true)(aF:b=true∨bare e=true):gJ b K h e e:=⟨rfl,a6,rfl,fun o z y R ae=>by rw[R] at ae;injection ae with ae;subst ae;exact .same (Er aw R) (aF.imp id fun q=>aj9 q R)⟩
theorem G4{v u:V}{es:Lv}(s:dq az h v es)(hy:∀o,o∈dj v→K o)(jB:∀(i:Nat) (e:V),es[i]? =some e→flat az e)(r:ef b K h v u):
  ∃cc,dq az g u cc∧cc.length=es.length∧dj u=[]∧∀(i:Nat) (e c:V),es[i]? =some e→cc[i]? =some c→gJ b K h e c:=by
 have bj:∀cc:Lv,cc.length=es.length→(∀(i:Nat) (e c:V),es[i]? =some e→cc[i]? =some c→gJ b K h e c)→rr az cc=true:=by
  intro cc ax pz
  cases cc with
  |nil=>simp[rr]
  |cons c cs=>
   cases es with
   |nil=>simp at ax
   |cons e es=>
    have q:=(pz 0 e c rfl rfl).len
    have aR:=(jB 0 e rfl).1
    simp[rr,q,aR]
 have dQ:=s.c
 cases r with
 |same bg aF=>
  cases v with
  |ab=>exact⟨[],dq.ab _ _,by simp[fe] at dQ;simp[←dQ],rfl,fun i e c R ae=>by simp at ae⟩
  |hS=>exact⟨[],dq.hS _ _,by simp[fe] at dQ;simp[←dQ],rfl,fun i e c R ae=>by simp at ae⟩
  |cx cc=>
   simp only[fe] at dQ
   split at dQ
   ·rename_i dw
    injection dQ with dQ;subst dQ
    exact⟨cc,dq.cx dw,rfl,rfl,fun i e c R ae=>by
     rw[R] at ae;injection ae with ae;subst ae
     exact gJ.refl (jB i e R).2 (pY (by simpa [ff] using bg) R) (.inl (aF.resolve_right (by simp[bare])))⟩
   ·cases dQ
  |er id off len=>
   simp[ff] at bg
  |str l=>exact absurd rfl (s.h5 l)
  |_=>simp[fe] at dQ
 |agg ax hp=>simp[fe] at dQ
 |bW ax hp=>simp[fe] at dQ
 | @cx aM cc aF ax aS he=>
  simp only[fe] at dQ
  split at dQ
  ·injection dQ with dQ;subst dQ
   have pz:∀(i:Nat) (e c:V),aM[i]? =some e→cc[i]? =some c→gJ b K h e c:=fun i e c R ae=>by
    obtain⟨aX,aY,cU⟩:=aS i e c R ae
    exact⟨aX,aY,cU,fun o z y aE aR=>he i o e c z y R ae aE aR⟩
   exact⟨cc,dq.cx (bj cc ax pz),ax,rfl,pz⟩
  ·cases dQ
 | @row id off len hU aM cc DJ aF cj ax aS he=>
  simp only[fe,aF] at dQ
  split at dQ
  ·injection dQ with dQ
   have hlen:es.length=len:=by rw[←dQ];simp only[List.length_take,List.length_drop];omega
   have pz:∀(i:Nat) (e c:V),es[i]? =some e→cc[i]? =some c→gJ b K h e c:=fun i e c R ae=>by
    rw[←dQ,List.getElem?_take] at R
    split at R
    ·rw[List.getElem?_drop] at R
     obtain⟨aX,aY,cU⟩:=aS i e c R ae
     exact⟨aX,aY,cU,fun o z y aE aR=>he i o e c z y R ae aE aR⟩
    ·cases R
   exact⟨cc,dq.cx (bj cc (by omega) pz),by omega,rfl,pz⟩
  ·cases dQ
theorem UL{P:Nat→V→V→Prop}:∀{es:Lv} {k:Nat},(∀(i:Nat) (e:V),es[i]? =some e→∃c,P (k+i) e c)→∃cc:Lv,cc.length=es.length∧∀(i:Nat) (e c:V),es[i]? =some e→cc[i]? =some c→P (k+i) e c
 | [],k,h=>⟨[],rfl,fun i e c R=>by simp at R⟩
 |e::es,k,h=>by
  obtain⟨c,an⟩:=h 0 e rfl
  obtain⟨cc,ax,aS⟩:=UL (P:=P) (es:=es) (k:=k+1) (fun i e he=>by
   obtain⟨c,an⟩:=h (i+1) e he
   exact⟨c,by rw[show k+1+i=k+(i+1) by omega];exact an⟩)
  refine⟨c::cc,by simp[ax],fun i a b R ae=> ?_⟩
  cases i with
  |zero=>simp at R ae;subst R;subst ae;exact an
  |succ i=>have:=aS i a b R ae;rw[show k+1+i=k+(i+1) by omega] at this;exact this
theorem G5{v:V}{es:Lv}(s:dq az h v es)(hy:∀o,o∈dj v→K o)(pz:∀(i:Nat) (e:V),es[i]? =some e→∃c,gJ b K h e c)(aF:b=true):∃u,ef b K h v u:=by
 have dQ:=s.c
 obtain⟨cc,ax,aS⟩:=UL (P:=fun _ e c=>gJ b K h e c) (es:=es) (k:=0) pz
 cases v with
 |ab=>exact⟨_, .same rfl (.inr rfl)⟩
 |hS=>exact⟨_, .same rfl (.inr rfl)⟩
 |cx aM=>
  simp only[fe] at dQ
  split at dQ
  ·injection dQ with dQ;subst dQ
   exact⟨.cx cc, .cx aF ax (fun i e c R ae=>⟨(aS i e c R ae).len,(aS i e c R ae).a8,(aS i e c R ae).cr⟩) (fun i o e c z y R ae aE aR=>(aS i e c R ae).at_ o z y aE aR)⟩
  ·cases dQ
 |er id off len=>
  simp only[fe] at dQ
  split at dQ
  ·rename_i aM q dE
   split at dQ
   ·rename_i dw
    injection dQ with dQ
    have hlen:es.length=len:=by rw[←dQ];simp only[List.length_take,List.length_drop];omega
    have get:∀(i:Nat) (e c:V),aM[off+i]? =some e→cc[i]? =some c→es[i]? =some e:=by
     intro i e c R ae
     have:i<cc.length:=(List.getElem?_eq_some_iff.1 ae).1
     rw[←dQ,List.getElem?_take,if_pos (by omega),List.getElem?_drop]
     exact R
    exact⟨.cx cc, .row (hy id (by simp[dj])) dE dw.2 (by omega) (fun i e c R ae=>⟨(aS i e c (get i e c R ae) ae).len,(aS i e c (get i e c R ae) ae).a8,(aS i e c (get i e c R ae) ae).cr⟩) (fun i o e c z y R ae aE aR=>(aS i e c (get i e c R ae) ae).at_ o z y aE aR)⟩
   ·cases dQ
  ·cases dQ
 |str l=>exact absurd rfl (s.h5 l)
 |_=>simp[fe] at dQ
theorem leaf{z y:V}(b0:mi z=false∧(∀l,z≠ .bW l)∧(∀l,z≠ .cx l)∧∀a b c,z≠ .er a b c)(r:ef b K h z y):y=z:=by
 cases r with
 |same bg aF=>rfl
 |agg ax hp=>simp[mi] at b0
 |bW ax hp=>exact absurd rfl (b0.2.1 _)
 |cx aF ax aS he=>exact absurd rfl (b0.2.2.1 _)
 |row a b c d e f=>exact absurd rfl (b0.2.2.2 _ _ _)
theorem mr{k:IntKind}{i:Int}{y:V}(r:ef b K h (.int k i) y):y= .int k i:=leaf ⟨rfl,(fun l q=>by cases q),(fun l q=>by cases q),fun a b c q=>by cases q⟩ r
theorem jb{s:Lu}{y:V}(r:ef b K h (.str s) y):y= .str s:=leaf ⟨rfl,(fun l q=>by cases q),(fun l q=>by cases q),fun a b c q=>by cases q⟩ r
theorem zD{t:Bool}{y:V}(r:ef b K h (.bool t) y):y= .bool t:=leaf ⟨rfl,(fun l q=>by cases q),(fun l q=>by cases q),fun a b c q=>by cases q⟩ r
theorem Nb{bU:fg}{aG c:V}(r:gJ b K h (.agg (bH bU aG)) c):∃mu,c= .agg (bH bU mu)∧ef b K h aG mu:=by
 obtain⟨ax,-,bh,bc⟩:=r
 cases c with
 |agg cs=>
  simp only[V.cells,List.length_cons,List.length_nil] at ax
  match cs,ax with
  | [zE,hI,kG,r7,te,zF,zG,tf],_=>
   have df:=mr (bc 0 _ _ rfl rfl);have b5:=jb (bc 1 _ _ rfl rfl);have cI:=mr (bc 2 _ _ rfl rfl);have fo:=mr (bc 3 _ _ rfl rfl)
   have gC:=jb (bc 4 _ _ rfl rfl);have gb:=jb (bc 5 _ _ rfl rfl);have g8:=jb (bc 6 _ _ rfl rfl)
   subst df b5 cI fo gC gb g8
   exact⟨tf,rfl,bc 7 _ _ rfl rfl⟩
 |_=>simp[mi] at bh
theorem uP{bU:fg}{aG:V}(a6:aG.scalar=true):flat 8 (.agg (bH bU aG)):=⟨rfl,by simp[V.cells,a6];exact⟨rfl,rfl,rfl,rfl,rfl,rfl,rfl⟩⟩
theorem c6.jB{v:V}{x:X}(e:c6 av h v x):flat 8 v:=by
 cases e with
 |mk s aw ax hp=>exact uP (oE s).2
theorem CS{es:Lv}{ah:List X}(ax:es.length=ah.length){i:Nat}{e:V}(he:es[i]? =some e):∃p,ah[i]? =some p:=by
 have:i<es.length:=(List.getElem?_eq_some_iff.1 he).1
 exact⟨_,List.getElem?_eq_getElem (by omega)⟩
theorem UM{e:V}{x:X}(ex:c6 av h e x)(cA:∀o,av o→K o):∀{c:V},gJ b K h e c→c6 bx g c x:=by
 induction ex with
 | @mk bU aG es ah s aw ax hp ba=>
  intro c r
  obtain⟨mu,rfl,oN⟩:=Nb r
  obtain⟨cc,s2,uz,Nc,pz⟩:=G4 (g:=g) s (fun o U=>cA o (aw o U)) (fun i e he=>by
   obtain⟨p,m2⟩:=CS ax he
   exact c6.jB (hp i e p he m2)) oN
  refine .mk s2 (fun o U=>by rw[Nc] at U;cases U) (by omega) (fun i c p R ae=> ?_)
  have:i<cc.length:=(List.getElem?_eq_some_iff.1 R).1
  have he:es[i]? =some (es[i]'(by omega)):=List.getElem?_eq_getElem (by omega)
  exact ba i _ p he ae (pz i _ c he R)
theorem UN(aF:b=true){e:V}{x:X}(ex:c6 av h e x)(cA:∀o,av o→K o):∃c,gJ b K h e c:=by
 induction ex with
 | @mk bU aG es ah s aw ax hp ba=>
  obtain⟨u,hu⟩:=G5 s (fun o U=>cA o (aw o U)) (fun i e he=>by
   obtain⟨p,m2⟩:=CS ax he
   exact ba i e p he m2) aF
  have vv:u.scalar=true:=by
   obtain⟨cc,s2,-⟩:=G4 (g:=h) s (fun o U=>cA o (aw o U)) (fun i e he=>by
    obtain⟨p,m2⟩:=CS ax he
    exact c6.jB (hp i e p he m2)) hu
   exact(oE s2).2
  refine⟨.agg (bH bU u),rfl,(uP vv).2,rfl,fun o z y R ae=> ?_⟩
  match o with
  |0|1|2|3|4|5|6=>simp only[V.cells] at R ae;injection R with R;injection ae with ae;subst R;subst ae;exact .same rfl (.inr rfl)
  |7=>simp only[V.cells] at R ae;injection R with R;injection ae with ae;subst R;subst ae;exact hu
  |o+8=>simp[V.cells] at R
end Go.Proofs.YtjpjeilfmjdhcaaGreat.m3
