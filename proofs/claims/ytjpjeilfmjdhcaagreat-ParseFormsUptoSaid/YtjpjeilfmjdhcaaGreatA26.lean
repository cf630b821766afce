/- The package's Formed: a statement. No condition. -/
import Derived.Test.YtjpjeilfmjdhcaaGreatA25
import Derived.Test.YtjpjeilfmjdhcaaGreatA8
import Derived.Test.YtjpjeilfmjdhcaaGreatA17
set_option maxRecDepth 100000
set_option linter.unusedVariables false
set_option linter.unusedSimpArgs false
set_option linter.unnecessarySimpa false
set_option linter.unusedSectionVars false
namespace Go.Proofs.YtjpjeilfmjdhcaaGreat.h3
open Go E E.K ep eI fq fw fC f_ hE
theorem jn{a b:Int}(h:a=b):(a==b)=true:=by simp[h]
theorem jo{a b:Int}(h:a≠b):(a==b)=false:=by simpa using h
theorem Oc(h:Lo):I (.build [.bool false, .bool false, .ab, .ab, .ab, .ab, .ab, .int .i64 0] []) h=some (.agg (e2 false false .ab .ab .ab .ab .ab 0)):=rfl
theorem aoE{j:Nat}{av:Nat→Prop}{h:Lo}{id:Nat}{m:ea}(M:fc av h id m)(cA:¬av id):
  aL (H2 j (.ptr id 0 0) h) fun x ak aa=>x= .normal∧ak=[]∧fc av aa id (tA m)∧ai h aa [id]:=by
 unfold tA
 simp only[H2]
 rw[M.kind.2 0,aO,M.kind.1,aO,a1]
 by_cases R:m.k=1
 ·rw[jn R,aU,if_pos R]
  exact fc.Wq M cA fun aa h4 k=>aL.some ⟨rfl,rfl,h4,k⟩
 rw[jo R,a7,if_neg R]
 by_cases ae:m.k=2
 ·rw[jn ae,aU,if_pos ae]
  exact fc.Wo M cA fun aa h4 k=>fc.Wp h4 cA fun ae M2 aA=>fc.Wr M2 cA fun aQ sm aT=>aL.some ⟨rfl,rfl,sm,ai.b6 (ai.b6 k aA) aT⟩
 rw[jo ae,a7,if_neg ae]
 have hP:H0 j m.k h=some (.normal,[.bool (decide (m.k=3∨m.k=10))],h):=by
  unfold H0
  by_cases aQ:m.k=3
  ·rw[jn aQ,aU];simp[aQ]
  ·rw[jo aQ,a7]
   by_cases hR:m.k=10
   ·rw[jn hR];simp[hR]
   ·rw[jo hR];simp[aQ,hR]
 rw[hP]
 simp only[gY,decide_true,aU,aN,aZ,bn,bl,id_eq,bq,a0,a5]
 by_cases aQ:m.k=3∨m.k=10
 ·rw[decide_eq_true aQ,aU,if_pos aQ]
  simp only[Oc,aO,aN,aZ,bn,bl,id_eq,bP,bq,a1,a0,a5]
  exact fc.Ob M cA fun aa h4 k=>aL.some ⟨rfl,rfl,h4,k⟩
 rw[decide_eq_false aQ,a7,if_neg aQ]
 by_cases eF:m.k=7
 ·rw[jn eF,aU,if_pos eF]
  exact fc.Ws M cA fun aa h4 k=>aL.some ⟨rfl,rfl,h4,k⟩
 rw[jo eF,a7,if_neg eF]
 by_cases eR:m.k=8
 ·rw[jn eR,aU,if_pos eR]
  exact fc.Wt M cA fun aa h4 k=>fc.I9 h4 cA fun ae M2 aA=>aL.some ⟨rfl,rfl,M2,ai.b6 k aA⟩
 rw[jo eR,a7,if_neg eR]
 by_cases fZ:m.k=9
 ·rw[jn fZ,aU,if_pos fZ]
  exact fc.I9 M cA fun aa h4 k=>aL.some ⟨rfl,rfl,h4,k⟩
 rw[jo fZ,a7,if_neg fZ]
 exact aL.some ⟨rfl,rfl,M,ai.refl _ _⟩
theorem Wu{av:Nat→Prop}{H h:Lo}{id q:Nat}{m:ea}(M:fc av h id m)(bm:∀o,av o→o≠q)(nd:H.length≤q)(hY:∃cs:Lv,cs.length=17∧bY h q cs):
  aj (J (I (.bp 17 (.c (.ptr id 0 0))) h) fun x=>ad (aB (.store 17 (.c (.ptr q 0 0)) (.c x)) h) fun _ d=>J (dS d 17 (.ptr q 0 0)) fun n=>some (n,d)) fun v aa=>hl.aK av aa v m∧ai h aa [q]:=by
 obtain⟨aM,bj,hY⟩:=hY
 obtain⟨cs,c5,-,ax,a6,t⟩:=M.load
 rw[c5,aO]
 refine aj.ad (hY.ic (aM:=cs) (by omega) (by omega) a6 (n:=17) bj) ?_
 rintro u aa ⟨eb,k⟩
 have ew:=eb.bp
 rw[ax] at ew
 rw[ew,aO]
 exact aj.some ⟨hl.aJ t k (fun o U z=>by rw[List.mem_singleton.1 U] at z;exact bm _ z rfl),k⟩
theorem aoF{j:Nat}{av:Nat→Prop}{h:Lo}{v:V}{m:ea}(t:hl.aK av h v m):aj (H4 j v h) fun eg aa=>hl.aK (fun o=>o<h.length) aa eg (m8 m)∧ai h aa []:=by
 have t:=hl.mono t (bx:=fun o=>o<h.length) (fun o U _=>U)
 obtain⟨cs,rfl,a6,mk⟩:=Wn t
 simp only[H4]
 refine aj.ad (fO (cs:=cs) a6) ?_
 rintro p R ⟨rfl,sp,ar⟩
 refine aj.ad (hs (cs:=fb 0 [] [] false .ab .ab .ab .ab .ab false false .ab .ab .ab .ab .ab 0) rfl) ?_
 rintro q ae ⟨rfl,hY,aA⟩
 have M:=(mk R ar sp).aq aA
 have cA:¬(fun o=>o<h.length) h.length:=Nat.lt_irrefl _
 have c5:=sp.lt
 have hP:aL (H3 j (.ptr h.length 0 0) ae) fun x ak aa=>x= .normal∧ak=[]∧fc (fun o=>o<h.length) aa h.length (if m.k≤9 then{m with name:=[]} else m)∧ai ae aa [h.length]:=by
  simp only[H3]
  rw[M.kind.2 0,aO,M.kind.1,aO,a1]
  by_cases aH:m.k≤9
  ·rw[decide_eq_true aH,aU,if_pos aH]
   exact fc.u9 M cA fun aa h4 k=>aL.some ⟨rfl,rfl,h4,k⟩
  ·rw[decide_eq_false aH,a7,if_neg aH]
   exact aL.some ⟨rfl,rfl,M,ai.refl _ _⟩
 refine aj.bO hP ?_
 rintro x ak aQ ⟨rfl,rfl,sm,aT⟩
 simp only[decide_true,aU,a5]
 refine aj.bO (aoE sm cA) ?_
 rintro x ak bo ⟨rfl,rfl,Az,bu⟩
 simp only[decide_true,aU,a5]
 have w0:=(hY.aJ aT (fun z=>by have:=List.mem_singleton.1 z;omega)).aJ bu (fun z=>by have:=List.mem_singleton.1 z;omega)
 refine(Wu (H:=h) Az (fun o U=>by have:o<h.length:=U;omega) (by omega) ⟨_,rfl,w0⟩).mono ?_
 rintro v bI ⟨t5,bX⟩
 exact⟨t5,(ar.bs aA).trans ((ai.b6 aT bu).trans bX (C:=[h.length,R.length]) (fun o U _=>by rw[List.mem_singleton.1 U];simp) (fun o U _=>by rw[List.mem_singleton.1 U];simp)) (fun o U=>by cases U) (fun o U bN=>by simp at U;omega)⟩
theorem Ds{b c:Bool}{aI h:Lo}{K:OvL}(k:ai aI h [])(eY:b=false→aj K fun v aa=>v= .bool c∧ai aI aa []):aj (al b (some (.bool false,h)) K) fun v aa=>v= .bool (!b&&c)∧ai aI aa []:=by
 cases b with
 |true=>exact aj.some ⟨rfl,k⟩
 |false=>exact eY rfl
theorem Wv{w D N:Nat}{m:ea}(G:h9 w D N m):h9 w D N (m8 m):=by
 unfold m8
 split<;>unfold tA<;>repeat' split
 all_goals constructor<;>first|exact G.rows|exact G.ft|exact G.c1|exact G.items|exact G.eH|exact G.oP|exact G.fh|exact G.eV|exact G.cY|exact G.gk|exact G.kg|exact G.l4|exact G.oQ|exact G.m4|exact G.m5|exact G.nz|exact G.nA|exact G.m6|exact G.qk|simp[pv]
theorem aoG(k:Int)(h:Lo):I (.build [.int .i64 0,(.str []),(.str []), .bool false, .ab, .ab, .ab, .ab, .ab, .bool false, .bool false, .ab, .ab, .ab, .ab, .ab, .int .i64 0] [(0,(1,(.c (.int .i64 k))))]) h=some (.agg (fb k [] [] false .ab .ab .ab .ab .ab false false .ab .ab .ab .ab .ab 0)):=rfl
theorem Ww{av:Nat→Prop}{h:Lo}(k:Int):hl.aK av h (.agg (fb k [] [] false .ab .ab .ab .ab .ab false false .ab .ab .ab .ab .ab 0)) {ek with k:=k}:=
 ⟨_,_,_,_,_,_,_,_,_,_,rfl,aC.ab _ _ _ _,aC.ab _ _ _ _,aC.ab _ _ _ _,aC.ab _ _ _ _,aC.ab _ _ _ _,aC.ab _ _ _ _,aC.ab _ _ _ _,aC.ab _ _ _ _,aC.ab _ _ _ _,aC.ab _ _ _ _⟩
def Dt(j:Nat)(m:ea):Bool:=decide (m.k<1)||(decide (m.k>13)||(!(lD j (m8 m) {ek with k:=m.k})||(qb m||(decide (1<m.c1.length)|| !(m.c1.all gW)))))
def oT(m:ea):Bool:= !(decide (m.k≤9))||fP m.name
def u_(j:Nat)(m:ea):Bool:=
 if m.k=1 then decide (0<m.hk.length)&&m.hk.all pB else if m.k=2 then fP m.on&&(decide (0<m.keys.length)&&m.keys.all fP) else if m.k=3∨m.k=10 then tx j m.q
 else if m.k=7 then decide (0<m.rows.length)&&m.rows.all pC else if m.k=8 then decide (0<m.ft.length)&&m.ft.all pD else true
def tB(j:Nat)(m:ea):Bool:= !(Dt j m)&&(oT m&&u_ j m)
theorem Od(n:Nat):decide ((n:Int)>1)=decide (1<n):=tr n 1
theorem Wx{j:Nat}{k:Int}{h:Lo}:Iq j k h=some (.normal,[.bool (decide (k=3∨k=10))],h):=by
 unfold Iq
 by_cases aQ:k=3
 ·rw[jn aQ,aU];simp[aQ]
 ·rw[jo aQ,a7]
  by_cases hR:k=10
  ·rw[jn hR];simp[hR]
  ·rw[jo hR];simp[aQ,hR]
theorem aoH{j w N D:Nat}(aS:1000<j)(hw:w<j)(bV:w≤1000000000)(di:N≤w)(b_:D≤j){av:Nat→Prop}{h:Lo}{v:V}{m:ea}(G:h9 w D N m)(M:l5 w m)(t:hl.aK av h v m):
  aj (xm j v h) fun eg aa=>eg= .bool (tB j m)∧ai h aa []:=by
 have t0:=hl.mono t (bx:=fun o=>o<h.length) (fun o U _=>U)
 have lE:w≤1000000000000:=by omega
 clear t
 have t:=t0
 obtain⟨bF,bD,b8,cu,cK,a,b,c,d,e,rfl,de,cD,dd,dh,dZ,t1,t2,t3,t4,t5⟩:=t
 unfold tB
 simp only[xm]
 refine aj.ad (fO (cs:=fb m.k m.name m.on m.un bF bD b8 cu cK m.q.ch m.q.star a b c d e m.q.b7) (jk (aC.a8 de).2 (aC.a8 cD).2 (aC.a8 dd).2 (aC.a8 dh).2 (aC.a8 dZ).2 (aC.a8 t1).2 (aC.a8 t2).2 (aC.a8 t3).2 (aC.a8 t4).2 (aC.a8 t5).2)) ?_
 rintro p R ⟨rfl,s,ar⟩
 refine kh ar ?_
 have Oe:aL (Ip j (.ptr h.length 0 0) R) fun x ak aa=>x= .normal∧ak=[.bool (Dt j m)]∧ai R aa []:=by
  unfold Dt
  simp only[Ip,s.af,s.ag (o:=0+0) (c:= .int .i64 m.k) rfl,s.e4 (n:=17) rfl,aoG,aO,a1]
  refine hG (ai.refl _ _) fun _=> ?_
  refine hG (ai.refl _ _) fun _=> ?_
  refine aL.ad (aoF (lb (T:=hl) t0 ar)) ?_
  rintro q ae ⟨Of,aA⟩
  have s2:=s.aq aA
  rw[o9 _ (s2.ag (o:=0+0) rfl),o9 _ (s2.af 0 0 0)]
  refine aL.ad (Wg hw (by omega) b_ (by omega) (by omega) (Wv G) Of (Ww (av:=fun _=>False) m.k)) ?_
  rintro v aQ ⟨rfl,aT⟩
  have eu:=s2.aq aT
  have gy:=aA.bs aT
  have I_:=lb (T:=hl) t0 (ar.bs gy)
  simp only[a0,eu.e4 (n:=17) rfl,aO]
  refine hG gy fun _=> ?_
  refine aL.ad (Vt I_ (by have:=G.kg;omega) (by have:=G.kg;omega)) ?_
  rintro v bo ⟨rfl,bu⟩
  have hx:=eu.aq bu
  have lZ:=gy.bs bu
  have Du:=dZ.aq (ar.bs lZ)
  simp only[a0,hx.af,hx.ag (o:=0+8) (c:=cK) rfl,Du.len,aO,a1,Od]
  refine hG lZ fun _=> ?_
  refine hG lZ fun _=> ?_
  refine aL.ad (I8 aS hw lE Du (Nat.le_trans G.oQ di) (fun x au=>⟨D,G.c1 x au⟩)) ?_
  rintro v bI ⟨rfl,bX⟩
  simp only[a0]
  exact u5 (lZ.bs bX)
 refine Ay Oe (fun ae aA=> ?_)
 refine Ds aA fun _=> ?_
 have s2:=s.aq aA
 have aoI:aL (Ir j (.ptr h.length 0 0) ae) fun x ak aa=>ai R aa []∧if oT m=true then x= .normal∧ak=[] else x= .ret∧ak=[.bool false]:=by
  unfold oT
  simp only[Ir,s2.af,s2.ag (o:=0+0) (c:= .int .i64 m.k) rfl,s2.ag (o:=0+1) (c:= .str m.name) rfl,aO,a1,bC]
  cases decide (m.k≤9) with
  |false=>exact I7 aA
  |true=>
   simp only[aU]
   refine aL.ad (u6 aS hw lE M.VB) ?_
   rintro v aQ ⟨rfl,aT⟩
   simp only[a0,Bool.not_true,Bool.false_or]
   have:=I6 (b:=fP m.name) (c:=true) (aA.bs aT) (fun _=>I7 (aA.bs aT))
   rw[Bool.and_true] at this
   exact this
 refine Wi aoI (fun _ aQ aT=> ?_)
 have eu:=s.aq aT
 have eA:=ar.bs aT
 unfold u_
 simp only[eu.af,eu.ag (o:=0+0) (c:= .int .i64 m.k) rfl,eu.ag (o:=0+2) (c:= .str m.on) rfl,eu.ag (o:=0+4) (c:=bF) rfl,(de.aq eA).len,aO,a1,bC,tz]
 by_cases aX:m.k=1
 ·rw[jn aX,aU,if_pos aX]
  refine gp aT fun _=> ?_
  refine aj.ad (aon (q:=pB) (de.aq eA) (by have:=G.cY;omega) (by have:=G.cY;omega) (fun h cJ x au t=>show aj (H8 j [cJ] h) _ from aot aS hw lE (M.cs x au) t)) ?_
  rintro v bo ⟨rfl,bu⟩
  simp only[a0,Bool.not_not]
  exact kP (aT.bs bu)
 rw[jo aX,a7,if_neg aX]
 by_cases aY:m.k=2
 ·rw[jn aY,aU,if_pos aY]
  refine aj.ad (u6 aS hw lE M.on) ?_
  rintro v bo ⟨rfl,bu⟩
  have hx:=eu.aq bu
  simp only[a0,hx.af,hx.ag (o:=0+5) (c:=bD) rfl,(cD.aq (eA.bs bu)).len,aO,a1,tz]
  refine gp (aT.bs bu) fun _=> ?_
  refine gp (aT.bs bu) fun _=> ?_
  refine aj.ad (aoo (q:=fP) (cD.aq (eA.bs bu)) (by have:=G.gk;omega) (by have:=G.gk;omega) (fun h cJ x au t=>show aj (H_ j [cJ] h) _ from aou (av:=fun _=>False) aS hw lE (M.z7 x au) t)) ?_
  rintro v bI ⟨rfl,bX⟩
  simp only[a0,Bool.not_not]
  exact kP ((aT.bs bu).bs bX)
 rw[jo aY,a7,if_neg aY,Wx]
 simp only[gY,decide_true,aU,aN,aZ,bn,bl,id_eq,bq,a0,a5]
 have uG:I (.bp 8 (.c (.ptr h.length 0 (0+9)))) aQ=some (.agg (e2 m.q.ch m.q.star a b c d e m.q.b7)):=iE eu (o:=0+9) (n:=8) (by simp) (by decide)
 by_cases cU:m.k=3∨m.k=10
 ·rw[decide_eq_true cU,aU,if_pos cU]
  simp only[eu.af,uG,aO,aN,aZ,bn,bl,id_eq,bP,bq,a1,bC,a0,a5]
  refine aj.ad (aoC aS hw lE di b_ G M (t1.aq eA) (t2.aq eA) (t3.aq eA) (t4.aq eA) (t5.aq eA)) ?_
  rintro v bo ⟨rfl,bu⟩
  simp only[a0]
  exact kP (aT.bs bu)
 rw[decide_eq_false cU,a7,if_neg cU]
 by_cases oj:m.k=7
 ·rw[jn oj,aU,if_pos oj]
  simp only[eu.af,eu.ag (o:=0+6) (c:=b8) rfl,(dd.aq eA).len,aO,a1,tz]
  refine gp aT fun _=> ?_
  refine aj.ad (aop (q:=pC) (dd.aq eA) (by have:=G.kg;omega) (by have:=G.kg;omega) (fun h cJ x au t=>show aj (Ij j [cJ] h) _ from aov aS hw lE t (Nat.le_trans (G.qk x au) di) (fun y bT=>⟨D,G.rows x au y bT⟩))) ?_
  rintro v bo ⟨rfl,bu⟩
  simp only[a0,Bool.not_not]
  exact kP (aT.bs bu)
 rw[jo oj,a7,if_neg oj]
 by_cases mv:m.k=8
 ·rw[jn mv,aU,if_pos mv]
  simp only[eu.af,eu.ag (o:=0+7) (c:=cu) rfl,(dh.aq eA).len,aO,a1,tz]
  refine gp aT fun _=> ?_
  refine aj.ad (aoq (q:=pD) (dh.aq eA) (by have:=G.l4;omega) (by have:=G.l4;omega) (fun h cJ x au t=>show aj (Im j [cJ] h) _ from aow aS hw lE (M.eo x au) ⟨D,G.ft x au⟩ t)) ?_
  rintro v bo ⟨rfl,bu⟩
  simp only[a0,Bool.not_not]
  exact kP (aT.bs bu)
 rw[jo mv,a7,if_neg mv]
 exact kP aT
theorem Dv{n:Nat}{h:Lo}{v:V}{es:Lv}(s:dq n h v es){k:Int}{cs:Lv}(aH:0≤k)(he:es[k.toNat]? =some (.agg cs))(an:cs.length=n)(aI:0<n):
  ∃a,I (.cH n (.c v) (.c (.int .i64 k))) h=some a∧∀(ao:Nat),∃b,I (.af ao (.c a)) h=some b∧(∀x,cs[ao]? =some x→I (.ag (.c b)) h=some x)∧∀m,ao+m≤cs.length→I (.bp m (.c b)) h=some (.agg ((cs.drop ao).take m)):=by
 obtain⟨b,w⟩:=m3.tj s aH he an aI
 exact⟨b 0,(w h (ai.refl _ _)).1,fun ao=>⟨b ao,(w h (ai.refl _ _)).2 ao⟩⟩
section
variable {av:Nat→Prop} {h:Lo} {a:V} {i:Nat}
theorem aC.Ja{xs:List ij}(l:aC 9 eC av h a xs)(aw:i<xs.length):∃p gm jE n aG ah,I (.cH 9 (.c a) (.c (.int .i64 (i:Int)))) h=some p∧I (.af 8 (.c p)) h=some gm∧I (.ag (.c gm)) h=some (.str xs[i].n)∧I (.af 0 (.c p)) h=some jE∧I (.bp 8 (.c jE)) h=some (.agg (bH n aG))∧xs[i].e= .mk n ah∧c6 av h (.agg (bH n aG)) (.mk n ah):=by
 obtain⟨es,s,-,-,he⟩:=l
 obtain⟨e,aV,n,aG,ah,au,rfl,cp⟩:=he i aw
 obtain⟨p,cF,w⟩:=Dv s (k:=(i:Int)) (cs:=fT n aG (.str xs[i].n)) (by omega) (by simpa using aV) rfl (by decide)
 obtain⟨gm,Og,sk,-⟩:=w 8
 obtain⟨jE,da,-,ht⟩:=w 0
 exact⟨p,gm,jE,n,aG,ah,cF,Og,sk _ rfl,da,ht 8 (show 0+8≤9 by decide),au,cp⟩
theorem aC.Oh{xs:List iH}(l:aC 9 eS av h a xs)(aw:i<xs.length):∃p gm jE n aG ah,I (.cH 9 (.c a) (.c (.int .i64 (i:Int)))) h=some p∧I (.af 8 (.c p)) h=some gm∧I (.ag (.c gm)) h=some (.bool xs[i].d)∧I (.af 0 (.c p)) h=some jE∧I (.bp 8 (.c jE)) h=some (.agg (bH n aG))∧xs[i].e= .mk n ah∧c6 av h (.agg (bH n aG)) (.mk n ah):=by
 obtain⟨es,s,-,-,he⟩:=l
 obtain⟨e,aV,n,aG,ah,au,rfl,cp⟩:=he i aw
 obtain⟨p,cF,w⟩:=Dv s (k:=(i:Int)) (cs:=fT n aG (.bool xs[i].d)) (by omega) (by simpa using aV) rfl (by decide)
 obtain⟨gm,Og,sk,-⟩:=w 8
 obtain⟨jE,da,-,ht⟩:=w 0
 exact⟨p,gm,jE,n,aG,ah,cF,Og,sk _ rfl,da,ht 8 (show 0+8≤9 by decide),au,cp⟩
theorem aC.Jb{xs:List h7}(l:aC 9 fs av h a xs)(aw:i<xs.length):∃p cS jE n aG ah,I (.cH 9 (.c a) (.c (.int .i64 (i:Int)))) h=some p∧I (.af 0 (.c p)) h=some cS∧I (.ag (.c cS)) h=some (.str xs[i].c)∧I (.af 1 (.c p)) h=some jE∧I (.bp 8 (.c jE)) h=some (.agg (bH n aG))∧xs[i].e= .mk n ah∧c6 av h (.agg (bH n aG)) (.mk n ah):=by
 obtain⟨es,s,-,-,he⟩:=l
 obtain⟨e,aV,n,aG,ah,au,rfl,cp⟩:=he i aw
 obtain⟨p,cF,w⟩:=Dv s (k:=(i:Int)) (cs:=jj xs[i].c n aG) (by omega) (by simpa using aV) rfl (by decide)
 obtain⟨cS,o6,eZ,-⟩:=w 0
 obtain⟨jE,da,-,ht⟩:=w 1
 exact⟨p,cS,jE,n,aG,ah,cF,o6,eZ _ rfl,da,ht 8 (show 1+8≤9 by decide),au,cp⟩
theorem aC.Wy{xs:List hB}(l:aC 10 eM av h a xs)(aw:i<xs.length):∃p cS aE jE n aG ah,I (.cH 10 (.c a) (.c (.int .i64 (i:Int)))) h=some p∧I (.af 0 (.c p)) h=some cS∧I (.ag (.c cS)) h=some (.str xs[i].t)∧I (.af 1 (.c p)) h=some aE∧I (.ag (.c aE)) h=some (.str xs[i].n)∧I (.af 2 (.c p)) h=some jE∧I (.bp 8 (.c jE)) h=some (.agg (bH n aG))∧xs[i].on= .mk n ah∧c6 av h (.agg (bH n aG)) (.mk n ah):=by
 obtain⟨es,s,-,-,he⟩:=l
 obtain⟨e,aV,n,aG,ah,au,rfl,cp⟩:=he i aw
 obtain⟨p,cF,w⟩:=Dv s (k:=(i:Int)) (cs:=h8 xs[i].t xs[i].n n aG) (by omega) (by simpa using aV) rfl (by decide)
 obtain⟨cS,o6,eZ,-⟩:=w 0
 obtain⟨aE,fD,s1,-⟩:=w 1
 obtain⟨jE,da,-,ht⟩:=w 2
 exact⟨p,cS,aE,jE,n,aG,ah,cF,o6,eZ _ rfl,fD,s1 _ rfl,da,ht 8 (show 2+8≤10 by decide),au,cp⟩
theorem aC.Wz{xs:List jz}(l:aC 4 fI av h a xs)(aw:i<xs.length):∃p cS aE,I (.cH 4 (.c a) (.c (.int .i64 (i:Int)))) h=some p∧I (.af 0 (.c p)) h=some cS∧I (.ag (.c cS)) h=some (.str xs[i].n)∧I (.af 1 (.c p)) h=some aE∧I (.ag (.c aE)) h=some (.int .i64 xs[i].k):=by
 obtain⟨es,s,-,-,he⟩:=l
 obtain⟨e,aV,au⟩:=he i aw
 subst au
 obtain⟨p,cF,w⟩:=Dv s (k:=(i:Int)) (cs:=la xs[i].n xs[i].k xs[i].iG xs[i].un) (by omega) (by simpa using aV) rfl (by decide)
 obtain⟨cS,o6,eZ,-⟩:=w 0
 obtain⟨aE,fD,s1,-⟩:=w 1
 exact⟨p,cS,aE,cF,o6,eZ _ rfl,fD,s1 _ rfl⟩
end
theorem va{α:Type}{xs a_:List α}{f:α→α→Bool}{L:Nat→Int→Lo→a9}{aI:Lo}{k n:Nat}{aK:Lv→Prop}(ax:xs.length=a_.length)(bd:xs.length<n)
  (he:∀n h,L (n+1) (xs.length:Int) h=some (.exit k,[],h))
  (a6:∀(n i:Nat) (aw:i<xs.length) (U:i<a_.length) (h:Lo) (Q:cg→Lv→Lo→Prop),ai aI h []→(f xs[i] a_[i]=true→∀aa,ai aI aa []→aL (L n ((i+1:Nat):Int) aa) Q)→(f xs[i] a_[i]=false→∀ak aa,aK ak→ai aI aa []→Q .ret ak aa)→aL (L (n+1) (i:Int) h) Q):
  aL (L n 0 aI) fun x ak aa=>ai aI aa []∧if g1 f xs a_ 0=true then x= .exit k∧ak=[] else x= .ret∧aK ak:=by
 have b0:(xs.zip a_).length=xs.length:=by rw[List.length_zip,←ax,Nat.min_self]
 have:=mw (xs:=xs.zip a_) (q:=fun p=>f p.1 p.2) (L:=L) (aI:=aI) (k:=k) (n:=n) (aK:=aK) (by omega) (fun n h=>by rw[b0];exact he n h) (fun n i aw h Q aq eE eP=>by
  have R:i<xs.length:=by omega
  simp only[List.getElem_zip] at eE eP
  exact a6 n i R (by omega) h Q aq eE eP)
 unfold g1
 simpa only[List.drop_zero] using this
theorem Oi(m n:Nat):((m:Int) !=(n:Int))= !(decide (m=n)):=by
 by_cases h:m=n
 ·subst h;simp
 ·have:(m:Int)≠(n:Int):=by omega
  simp[bne,h,this]
theorem AA{j w D:Nat}(hw:w<j)(bV:w≤4611686018427387904)(b_:D≤j){av bx:Nat→Prop}{h:Lo}{n m:fg}{aG cf:V}{ah dF:List X}(b0:g_ w D (.mk n ah))(cp:c6 av h (.agg (bH n aG)) (.mk n ah))(du:c6 bx h (.agg (bH m cf)) (.mk m dF)):
  aj (qK j (lp j j) n.k n.op n.eh n.ed n.ak n.dG n.c7 aG m.k m.op m.eh m.ed m.ak m.dG m.c7 cf h) fun v aa=>v= .bool (hF j (.mk n ah) (.mk m dF))∧ai h aa []:=
 afC j w hw bV j _ _ (b0.mono (by omega)) n m aG cf ah dF h rfl rfl cp du
section
variable {j w D:Nat} (hw:w<j) (bV:w≤1000000000000) (b_:D≤j) {av bx:Nat→Prop}
include hw bV b_
theorem Jc{aI:Lo}{a b:V}{xs a_:List X}(l:aC 8 bL av aI a xs)(r:aC 8 bL bx aI b a_)(ax:xs.length≤w)(g:∀x,x∈xs→fY w D x):aj (xn j a b aI) fun v aa=>v= .bool (gV (hF j) xs a_)∧ai aI aa []:=by
 unfold gV
 simp only[xn,l.len,r.len,aO,a1,Oi]
 cases bT:decide (xs.length=a_.length) with
 |false=>exact aj.some ⟨rfl,ai.refl _ _⟩
 |true=>
  have bT:=of_decide_eq_true bT
  simp only[Bool.not_true,a7,Bool.true_and]
  have eT:=va (f:=hF j) (L:=fun n i h=>Ak j n a b xs.length i h) (aI:=aI) (k:=0) (n:=j) (aK:=(·=[.bool false])) bT (by omega) (fun n h=>by simp only[Ak,Is,jU,a7]) (by
   intro n i aw U h Q k eE eP
   obtain⟨p,bU,aG,ah,cF,cW,au,cp⟩:=aC.I4 (l.aq k) aw
   obtain⟨lR,sn,lr,lu,kt,l6,nK,rk⟩:=aC.I4 (r.aq k) U
   have ge:=g _ (List.getElem_mem aw)
   rw[au] at ge eE eP
   rw[nK] at eE eP
   simp only[Ak,Is,jT aw,aU,cF,cW,kt,l6,aO,aN,aZ,bn,bl,id_eq,bP,bq,a1,bC,a5,jV aw (Nat.le_trans ax (by omega))]
   refine aL.ad (AA hw (by omega) b_ (jS ge) cp rk) ?_
   rintro v aQ ⟨rfl,aT⟩
   simp only[a0]
   exact iR (aK:=(·=[.bool false])) (fun aF=>eP aF _ _ rfl (k.bs aT)) (fun aF=>eE aF _ (k.bs aT)))
  have:=j0 (c:=true) (K:=fun h=>some (.bool true,h)) eT (fun _ aa gu=>aj.some ⟨rfl,gu⟩)
  rw[Bool.and_true] at this
  exact this
theorem aoJ{aI:Lo}{dR e9:Nat}{eB gE:Lv}{a b:V}{xs a_:List ij}(A:bY aI dR eB)(B:bY aI e9 gE)(bh:eB[0+2]? =some a)(aF:gE[0+2]? =some b)(l:aC 9 eC av aI a xs)(r:aC 9 eC bx aI b a_)(ax:xs.length≤w)(bT:xs.length=a_.length)(g:∀x,x∈xs→fY w D x.e):
  aL (xo j j (.ptr dR 0 0) (.ptr e9 0 0) xs.length 0 aI) fun x ak aa=>ai aI aa []∧if g1 (re j) xs a_ 0=true then x= .exit 0∧ak=[] else x= .ret∧ak=[.bool false]:=by
 refine va (f:=re j) (L:=fun n i h=>xo j n (.ptr dR 0 0) (.ptr e9 0 0) xs.length i h) (aK:=(·=[.bool false])) bT (by omega) (fun n h=>by simp only[xo,Iu,jU,a7]) ?_
 intro n i aw U h Q k eE eP
 obtain⟨p,gm,jE,bU,aG,ah,cF,ke,n7,cW,hW,au,cp⟩:=aC.Ja (l.aq k) aw
 obtain⟨lR,WA,Dw,sn,lr,lu,kt,Dx,Dy,l6,tC,nK,rk⟩:=aC.Ja (r.aq k) U
 have ge:=g _ (List.getElem_mem aw)
 have bm:re j xs[i] a_[i]=(xs[i].n==a_[i].n&&hF j (.mk bU ah) (.mk sn lu)):=by unfold re;rw[au,nK]
 rw[au] at ge
 have A:=A.aq k
 have B:=B.aq k
 simp only[xo,Iu,jT aw,aU,A.af,B.af,A.ag bh,B.ag aF,cF,kt,ke,n7,Dx,Dy,cW,hW,l6,tC,aO,aN,aZ,bn,bl,id_eq,bP,bq,a1,bC,a0,a5,jV aw (Nat.le_trans ax (by omega))]
 refine iR (aK:=(·=[.bool false])) (fun aF=>eP (by rw[bm,aF,Bool.false_and]) _ _ rfl k) (fun aF=> ?_)
 rw[aF,Bool.true_and] at bm
 refine aL.ad (AA hw (by omega) b_ (jS ge) cp rk) ?_
 rintro v aQ ⟨rfl,aT⟩
 simp only[a0]
 exact iR (aK:=(·=[.bool false])) (fun aF=>eP (by rw[bm,aF]) _ _ rfl (k.bs aT)) (fun aF=>eE (by rw[bm,aF]) _ (k.bs aT))
theorem aoK{aI:Lo}{dR e9:Nat}{eB gE:Lv}{a b:V}{xs a_:List hB}(A:bY aI dR eB)(B:bY aI e9 gE)(bh:eB[0+3]? =some a)(aF:gE[0+3]? =some b)(l:aC 10 eM av aI a xs)(r:aC 10 eM bx aI b a_)(ax:xs.length≤w)(bT:xs.length=a_.length)(g:∀x,x∈xs→fY w D x.on):
  aL (xp j j (.ptr dR 0 0) (.ptr e9 0 0) xs.length 0 aI) fun x ak aa=>ai aI aa []∧if g1 (rf j) xs a_ 0=true then x= .exit 2∧ak=[] else x= .ret∧ak=[.bool false]:=by
 refine va (f:=rf j) (L:=fun n i h=>xp j n (.ptr dR 0 0) (.ptr e9 0 0) xs.length i h) (aK:=(·=[.bool false])) bT (by omega) (fun n h=>by simp only[xp,Iv,jU,a7]) ?_
 intro n i aw U h Q k eE eP
 obtain⟨p,cS,aE,jE,bU,aG,ah,cF,df,fi,b5,dL,cW,hW,au,cp⟩:=aC.Wy (l.aq k) aw
 obtain⟨lR,Oj,aoL,Dw,sn,lr,lu,kt,Ok,Ol,Om,On,l6,tC,nK,rk⟩:=aC.Wy (r.aq k) U
 have ge:=g _ (List.getElem_mem aw)
 have bm:rf j xs[i] a_[i]=(xs[i].t==a_[i].t&&(xs[i].n==a_[i].n&&hF j (.mk bU ah) (.mk sn lu))):=by unfold rf;rw[au,nK]
 rw[au] at ge
 have A:=A.aq k
 have B:=B.aq k
 simp only[xp,Iv,jT aw,aU,A.af,B.af,A.ag bh,B.ag aF,cF,kt,df,fi,Ok,Ol,b5,dL,Om,On,cW,hW,l6,tC,aO,aN,aZ,bn,bl,id_eq,bP,bq,a1,bC,a0,a5,jV aw (Nat.le_trans ax (by omega))]
 refine iR (aK:=(·=[.bool false])) (fun aF=>eP (by rw[bm,aF,Bool.false_and]) _ _ rfl k) (fun aF=> ?_)
 rw[aF,Bool.true_and] at bm
 refine iR (aK:=(·=[.bool false])) (fun aF=>eP (by rw[bm,aF,Bool.false_and]) _ _ rfl k) (fun aF=> ?_)
 rw[aF,Bool.true_and] at bm
 refine aL.ad (AA hw (by omega) b_ (jS ge) cp rk) ?_
 rintro v aQ ⟨rfl,aT⟩
 simp only[a0]
 exact iR (aK:=(·=[.bool false])) (fun aF=>eP (by rw[bm,aF]) _ _ rfl (k.bs aT)) (fun aF=>eE (by rw[bm,aF]) _ (k.bs aT))
theorem aoM{aI:Lo}{dR e9:Nat}{eB gE:Lv}{a b:V}{xs a_:List iH}(A:bY aI dR eB)(B:bY aI e9 gE)(bh:eB[0+6]? =some a)(aF:gE[0+6]? =some b)(l:aC 9 eS av aI a xs)(r:aC 9 eS bx aI b a_)(ax:xs.length≤w)(bT:xs.length=a_.length)(g:∀x,x∈xs→fY w D x.e):
  aL (xq j j (.ptr dR 0 0) (.ptr e9 0 0) xs.length 0 aI) fun x ak aa=>ai aI aa []∧if g1 (rh j) xs a_ 0=true then x= .exit 4∧ak=[] else x= .ret∧ak=[.bool false]:=by
 refine va (f:=rh j) (L:=fun n i h=>xq j n (.ptr dR 0 0) (.ptr e9 0 0) xs.length i h) (aK:=(·=[.bool false])) bT (by omega) (fun n h=>by simp only[xq,Iw,jU,a7]) ?_
 intro n i aw U h Q k eE eP
 obtain⟨p,gm,jE,bU,aG,ah,cF,ke,n7,cW,hW,au,cp⟩:=aC.Oh (l.aq k) aw
 obtain⟨lR,WA,Dw,sn,lr,lu,kt,Dx,Dy,l6,tC,nK,rk⟩:=aC.Oh (r.aq k) U
 have ge:=g _ (List.getElem_mem aw)
 have bm:rh j xs[i] a_[i]=(xs[i].d==a_[i].d&&hF j (.mk bU ah) (.mk sn lu)):=by unfold rh;rw[au,nK]
 rw[au] at ge
 have A:=A.aq k
 have B:=B.aq k
 simp only[xq,Iw,jT aw,aU,A.af,B.af,A.ag bh,B.ag aF,cF,kt,ke,n7,Dx,Dy,cW,hW,l6,tC,aO,aN,aZ,bn,bl,id_eq,bP,bq,a1,bC,a0,a5,jV aw (Nat.le_trans ax (by omega))]
 refine iR (aK:=(·=[.bool false])) (fun aF=>eP (by rw[bm,aF,Bool.false_and]) _ _ rfl k) (fun aF=> ?_)
 rw[aF,Bool.true_and] at bm
 refine aL.ad (AA hw (by omega) b_ (jS ge) cp rk) ?_
 rintro v aQ ⟨rfl,aT⟩
 simp only[a0]
 exact iR (aK:=(·=[.bool false])) (fun aF=>eP (by rw[bm,aF]) _ _ rfl (k.bs aT)) (fun aF=>eE (by rw[bm,aF]) _ (k.bs aT))
theorem aoN{aI:Lo}{dR e9:Nat}{eB gE:Lv}{a b:V}{xs a_:List h7}(A:bY aI dR eB)(B:bY aI e9 gE)(bh:eB[0+7]? =some a)(aF:gE[0+7]? =some b)(l:aC 9 fs av aI a xs)(r:aC 9 fs bx aI b a_)(ax:xs.length≤w)(bT:xs.length=a_.length)(g:∀x,x∈xs→fY w D x.e):
  aL (xv j j (.ptr dR 0 0) (.ptr e9 0 0) xs.length 0 aI) fun x ak aa=>ai aI aa []∧if g1 (rb j) xs a_ 0=true then x= .exit 6∧ak=[] else x= .ret∧ak=[.bool false]:=by
 refine va (f:=rb j) (L:=fun n i h=>xv j n (.ptr dR 0 0) (.ptr e9 0 0) xs.length i h) (aK:=(·=[.bool false])) bT (by omega) (fun n h=>by simp only[xv,IC,jU,a7]) ?_
 intro n i aw U h Q k eE eP
 obtain⟨p,cS,jE,bU,aG,ah,cF,df,fi,cW,hW,au,cp⟩:=aC.Jb (l.aq k) aw
 obtain⟨lR,Oj,Dw,sn,lr,lu,kt,Ok,Ol,l6,tC,nK,rk⟩:=aC.Jb (r.aq k) U
 have ge:=g _ (List.getElem_mem aw)
 have bm:rb j xs[i] a_[i]=(xs[i].c==a_[i].c&&hF j (.mk bU ah) (.mk sn lu)):=by unfold rb;rw[au,nK]
 rw[au] at ge
 have A:=A.aq k
 have B:=B.aq k
 simp only[xv,IC,jT aw,aU,A.af,B.af,A.ag bh,B.ag aF,cF,kt,df,fi,Ok,Ol,cW,hW,l6,tC,aO,aN,aZ,bn,bl,id_eq,bP,bq,a1,bC,a0,a5,jV aw (Nat.le_trans ax (by omega))]
 refine iR (aK:=(·=[.bool false])) (fun aF=>eP (by rw[bm,aF,Bool.false_and]) _ _ rfl k) (fun aF=> ?_)
 rw[aF,Bool.true_and] at bm
 refine aL.ad (AA hw (by omega) b_ (jS ge) cp rk) ?_
 rintro v aQ ⟨rfl,aT⟩
 simp only[a0]
 exact iR (aK:=(·=[.bool false])) (fun aF=>eP (by rw[bm,aF]) _ _ rfl (k.bs aT)) (fun aF=>eE (by rw[bm,aF]) _ (k.bs aT))
theorem aoO{aI:Lo}{dR e9:Nat}{eB gE:Lv}{a b:V}{xs a_:List (List X)}(A:bY aI dR eB)(B:bY aI e9 gE)(bh:eB[0+6]? =some a)(aF:gE[0+6]? =some b)(l:aC 1 (cl 8 bL) av aI a xs)(r:aC 1 (cl 8 bL) bx aI b a_)(ax:xs.length≤w)(bT:xs.length=a_.length)(g:∀x,x∈xs→x.length≤w∧∀y,y∈x→fY w D y):
  aL (xu j j (.ptr dR 0 0) (.ptr e9 0 0) xs.length 0 aI) fun x ak aa=>ai aI aa []∧if g1 (gV (hF j)) xs a_ 0=true then x= .exit 4∧ak=[] else x= .ret∧ak=[.bool false]:=by
 refine va (f:=gV (hF j)) (L:=fun n i h=>xu j n (.ptr dR 0 0) (.ptr e9 0 0) xs.length i h) (aK:=(·=[.bool false])) bT (by omega) (fun n h=>by simp only[xu,IB,jU,a7]) ?_
 intro n i aw U h Q k eE eP
 obtain⟨p,e,cF,cW,t⟩:=aC.atR (l.aq k) aw
 obtain⟨lR,ct,kt,l6,bR⟩:=aC.atR (r.aq k) U
 obtain⟨aX,aY⟩:=g _ (List.getElem_mem aw)
 have A:=A.aq k
 have B:=B.aq k
 simp only[xu,IB,jT aw,aU,A.af,B.af,A.ag bh,B.ag aF,cF,kt,cW,l6,aO,aN,aZ,bn,bl,id_eq,bP,bq,a1,bC,a0,a5,jV aw (Nat.le_trans ax (by omega))]
 refine aL.ad (Jc hw bV b_ t bR aX aY) ?_
 rintro v aQ ⟨rfl,aT⟩
 simp only[a0]
 exact iR (aK:=(·=[.bool false])) (fun aF=>eP aF _ _ rfl (k.bs aT)) (fun aF=>eE aF _ (k.bs aT))
theorem aoP{aI:Lo}{dR e9:Nat}{eB gE:Lv}{a b:V}{xs a_:List (Lu)}(A:bY aI dR eB)(B:bY aI e9 gE)(bh:eB[0+5]? =some a)(aF:gE[0+5]? =some b)(l:aC 1 fM av aI a xs)(r:aC 1 fM bx aI b a_)(ax:xs.length≤w)(bT:xs.length=a_.length):
  aL (xt j j (.ptr dR 0 0) (.ptr e9 0 0) xs.length 0 aI) fun x ak aa=>ai aI aa []∧if g1 (fun x y=>x==y) xs a_ 0=true then x= .exit 2∧ak=[] else x= .ret∧ak=[.bool false]:=by
 refine va (f:=fun x y=>x==y) (L:=fun n i h=>xt j n (.ptr dR 0 0) (.ptr e9 0 0) xs.length i h) (aK:=(·=[.bool false])) bT (by omega) (fun n h=>by simp only[xt,IA,jU,a7]) ?_
 intro n i aw U h Q k eE eP
 obtain⟨p,cF,cW⟩:=aC.I5 (l.aq k) aw
 obtain⟨lR,kt,l6⟩:=aC.I5 (r.aq k) U
 have A:=A.aq k
 have B:=B.aq k
 simp only[xt,IA,jT aw,aU,A.af,B.af,A.ag bh,B.ag aF,cF,kt,cW,l6,aO,aN,aZ,bn,bl,id_eq,bP,bq,a1,bC,a0,a5,jV aw (Nat.le_trans ax (by omega))]
 exact iR (aK:=(·=[.bool false])) (fun aF=>eP aF _ _ rfl k) (fun aF=>eE aF _ k)
theorem aoQ{aI:Lo}{dR e9:Nat}{eB gE:Lv}{a b:V}{xs a_:List jz}(A:bY aI dR eB)(B:bY aI e9 gE)(bh:eB[0+4]? =some a)(aF:gE[0+4]? =some b)(l:aC 4 fI av aI a xs)(r:aC 4 fI bx aI b a_)(ax:xs.length≤w)(bT:xs.length=a_.length):
  aL (xr j j (.ptr dR 0 0) (.ptr e9 0 0) xs.length 0 aI) fun x ak aa=>ai aI aa []∧if g1 ql xs a_ 0=true then x= .exit 0∧ak=[] else x= .ret∧ak=[.bool false]:=by
 refine va (f:=ql) (L:=fun n i h=>xr j n (.ptr dR 0 0) (.ptr e9 0 0) xs.length i h) (aK:=(·=[.bool false])) bT (by omega) (fun n h=>by simp only[xr,Iz,jU,a7]) ?_
 intro n i aw U h Q k eE eP
 obtain⟨p,cF,cW⟩:=aC.N9 (l.aq k) aw
 obtain⟨lR,kt,l6⟩:=aC.N9 (r.aq k) U
 have A:=A.aq k
 have B:=B.aq k
 simp only[xr,Iz,jT aw,aU,A.af,B.af,A.ag bh,B.ag aF,cF,kt,cW,l6,aO,aN,aZ,bn,bl,id_eq,bP,bq,a1,bC,a0,a5,We,jV aw (Nat.le_trans ax (by omega))]
 exact iR (aK:=(·=[.bool false])) (fun aF=>eP aF _ _ rfl k) (fun aF=>eE aF _ k)
end
end Go.Proofs.YtjpjeilfmjdhcaaGreat.h3
namespace Go.Proofs.YtjpjeilfmjdhcaaGreat.h3
open Go E E.K ep eI fq fw fC f_ hE
def cS(j:Nat)(a b:k7):Bool:= !(a.ch==b.ch)||(!(a.star==b.star)||((a.b7 !=b.b7)||(!(decide (a.items.length=b.items.length))||(!(decide (a.eH.length=b.eH.length))||(!(decide (a.eV.length=b.eV.length))||(!(gV (hF j) a.c1 b.c1)|| !(gV (hF j) a.fh b.fh)))))))
theorem aoR:∀a b c d e f g h i o k:Bool,(!(!a||(!b||(!c||(!d||(!e||(!f||(!g|| !h)))))))&&(i&&(o&&(k&&true))))=(a&&(b&&(c&&((d&&i)&&((e&&o)&&(g&&(h&&(f&&k)))))))):=by decide
theorem aoS(j:Nat)(a b:k7):(!(cS j a b)&&(g1 (re j) a.items b.items 0&&(g1 (rf j) a.eH b.eH 0&&(g1 (rh j) a.eV b.eV 0&&true))))=u3 j a b:=aoR _ _ _ _ _ _ _ _ _ _ _
theorem aoT{j:Nat}{a b:k7}(h:cS j a b=false):a.items.length=b.items.length∧a.eH.length=b.eH.length∧a.eV.length=b.eV.length:=by
 unfold cS at h
 simp only[Bool.or_eq_false_iff,Bool.not_eq_false',decide_eq_true_eq] at h
 exact⟨h.2.2.2.1,h.2.2.2.2.1,h.2.2.2.2.2.1⟩
theorem aoU{j w D N:Nat}(hw:w<j)(bV:w≤1000000000000)(b_:D≤j)(di:N≤w){av bx:Nat→Prop}{h:Lo}{m cC:ea}(G:h9 w D N m){a b c d e eK c2 c0 g4 ct:V}
  (t1:aC 9 eC av h a m.q.items) (t2:aC 10 eM av h b m.q.eH) (t3:aC 8 bL av h c m.q.c1) (t4:aC 8 bL av h d m.q.fh) (t5:aC 9 eS av h e m.q.eV) (de:aC 9 eC bx h eK cC.q.items) (cD:aC 10 eM bx h c2 cC.q.eH) (dd:aC 8 bL bx h c0 cC.q.c1) (dh:aC 8 bL bx h g4 cC.q.fh) (dZ:aC 9 eS bx h ct cC.q.eV):
  aj (Ix j m.q.ch m.q.star a b c d e m.q.b7 cC.q.ch cC.q.star eK c2 c0 g4 ct cC.q.b7 h) fun v aa=>v= .bool (u3 j m.q cC.q)∧ai h aa []:=by
 rw[←aoS]
 simp only[Ix]
 refine aj.ad (fO (cs:=e2 m.q.ch m.q.star a b c d e m.q.b7) (qc (aC.a8 t1).2 (aC.a8 t2).2 (aC.a8 t3).2 (aC.a8 t4).2 (aC.a8 t5).2)) ?_
 rintro p R ⟨rfl,sp,ar⟩
 refine aj.ad (fO (cs:=e2 cC.q.ch cC.q.star eK c2 c0 g4 ct cC.q.b7) (qc (aC.a8 de).2 (aC.a8 cD).2 (aC.a8 dd).2 (aC.a8 dh).2 (aC.a8 dZ).2)) ?_
 rintro r ae ⟨rfl,dm,aA⟩
 replace sp:=sp.aq aA
 have k:=ar.bs aA
 refine kh k ?_
 have hP:aL (It j (.ptr h.length 0 0) (.ptr R.length 0 0) ae) fun x ak aa=>x= .normal∧ak=[.bool (cS j m.q cC.q)]∧ai ae aa []:=by
  unfold cS
  simp only[It,sp.af,dm.af,sp.ag (o:=0+0) (c:= .bool m.q.ch) rfl,dm.ag (o:=0+0) (c:= .bool cC.q.ch) rfl,sp.ag (o:=0+1) (c:= .bool m.q.star) rfl,dm.ag (o:=0+1) (c:= .bool cC.q.star) rfl,sp.ag (o:=0+7) (c:= .int .i64 m.q.b7) rfl,dm.ag (o:=0+7) (c:= .int .i64 cC.q.b7) rfl,sp.ag (o:=0+2) (c:=a) rfl,dm.ag (o:=0+2) (c:=eK) rfl,sp.ag (o:=0+3) (c:=b) rfl,dm.ag (o:=0+3) (c:=c2) rfl,sp.ag (o:=0+6) (c:=e) rfl,dm.ag (o:=0+6) (c:=ct) rfl,sp.ag (o:=0+4) (c:=c) rfl,dm.ag (o:=0+4) (c:=c0) rfl,(t1.aq k).len,(t2.aq k).len,(t5.aq k).len,(de.aq k).len,(cD.aq k).len,(dZ.aq k).len,aO,a0,a1,Oi]
  refine hG (ai.refl _ _) fun _=> ?_
  refine hG (ai.refl _ _) fun _=> ?_
  refine hG (ai.refl _ _) fun _=> ?_
  refine hG (ai.refl _ _) fun _=> ?_
  refine hG (ai.refl _ _) fun _=> ?_
  refine hG (ai.refl _ _) fun _=> ?_
  refine aL.ad (Jc hw bV b_ (t3.aq k) (dd.aq k) (Nat.le_trans G.nz di) G.oP) ?_
  rintro v aQ ⟨rfl,aT⟩
  have l7:=sp.aq aT
  have rl:=dm.aq aT
  simp only[a0,l7.af,rl.af,l7.ag (o:=0+5) (c:=d) rfl,rl.ag (o:=0+5) (c:=g4) rfl,aO]
  refine hG aT fun _=> ?_
  refine aL.ad (Jc hw bV b_ (t4.aq (k.bs aT)) (dh.aq (k.bs aT)) (Nat.le_trans G.nA di) G.fh) ?_
  rintro v bo ⟨rfl,bu⟩
  simp only[a0]
  exact u5 (aT.bs bu)
 refine Ay hP (fun aQ aT=> ?_)
 refine Ds aT fun aF=> ?_
 obtain⟨aV,bb,cb⟩:=aoT aF
 have l7:=sp.aq aT
 have rl:=dm.aq aT
 have eA:=k.bs aT
 simp only[l7.af,l7.ag (o:=0+2) (c:=a) rfl,(t1.aq eA).len,aO,a1]
 refine kh aT (j0 (aoJ hw bV b_ l7 rl rfl rfl (t1.aq eA) (de.aq eA) (Nat.le_trans G.m4 di) aV G.items) (fun _ bo bu=> ?_))
 have m7:=l7.aq bu
 have xH:=rl.aq bu
 have gM:=eA.bs bu
 simp only[m7.af,m7.ag (o:=0+3) (c:=b) rfl,(t2.aq gM).len,aO,a1]
 refine kh bu (j0 (aoK hw bV b_ m7 xH rfl rfl (t2.aq gM) (cD.aq gM) (Nat.le_trans G.m5 di) bb G.eH) (fun _ bI bX=> ?_))
 have rj:=m7.aq bX
 have zN:=xH.aq bX
 have iN:=gM.bs bX
 simp only[rj.af,rj.ag (o:=0+6) (c:=e) rfl,(t5.aq iN).len,aO,a1]
 exact kh bX (j0 (aoM hw bV b_ rj zN rfl rfl (t5.aq iN) (dZ.aq iN) (Nat.le_trans G.m6 di) cb G.eV) (fun _ cR cP=>kP cP))
def eZ(j:Nat)(a b:ea):Bool:=(a.k !=b.k)||(!(a.name==b.name)||(!(a.on==b.on)||(!(a.un==b.un)||(!(decide (a.hk.length=b.hk.length))||(!(decide (a.keys.length=b.keys.length))||(!(decide (a.rows.length=b.rows.length))||(!(decide (a.ft.length=b.ft.length))||(!(gV (hF j) a.c1 b.c1)|| !(u3 j a.q b.q)))))))))
theorem aoV{a b c d e f g h i o k l m n:Bool}:(!(!a||(!b||(!c||(!d||(!e||(!f||(!g||(!h||(!i|| !o)))))))))&&(k&&(l&&(m&&(n&&true)))))=(a&&(b&&(c&&(d&&((e&&k)&&((f&&l)&&(i&&((g&&m)&&((h&&n)&&o))))))))):=by
 cases a<;>cases b<;>cases c<;>cases d<;>cases e<;>cases f<;>cases g<;>simp
 all_goals cases h<;>cases i<;>cases o<;>simp
theorem aoW(j:Nat)(a b:ea):(!(eZ j a b)&&(g1 ql a.hk b.hk 0&&(g1 (fun x y=>x==y) a.keys b.keys 0&&(g1 (gV (hF j)) a.rows b.rows 0&&(g1 (rb j) a.ft b.ft 0&&true)))))=lD j a b:=aoV
theorem aoX{j:Nat}{a b:ea}(h:eZ j a b=false):a.hk.length=b.hk.length∧a.keys.length=b.keys.length∧a.rows.length=b.rows.length∧a.ft.length=b.ft.length:=by
 unfold eZ at h
 simp only[Bool.or_eq_false_iff,Bool.not_eq_false',decide_eq_true_eq] at h
 exact⟨h.2.2.2.2.1,h.2.2.2.2.2.1,h.2.2.2.2.2.2.1,h.2.2.2.2.2.2.2.1⟩
theorem WB{j w D N:Nat}(hw:w<j)(bV:w≤1000000000000)(b_:D≤j)(di:N≤w){av bx:Nat→Prop}{h:Lo}{m cC:ea}(G:h9 w D N m){cJ eO:V}(u4:hl.aK av h cJ m)(dG:hl.aK bx h eO cC):
  aj (xw j cJ eO h) fun v aa=>v= .bool (lD j m cC)∧ai h aa []:=by
 obtain⟨bF,bD,b8,cu,cK,a,b,c,d,e,rfl,de,cD,dd,dh,dZ,t1,t2,t3,t4,t5⟩:=u4
 obtain⟨d1,d2,d3,d4,d5,eK,c2,c0,g4,ct,rfl,e7,ib,oM,qf,iQ,s1,s2,eu,hx,kO⟩:=dG
 rw[←aoW]
 simp only[xw]
 refine aj.ad (fO (cs:=fb m.k m.name m.on m.un bF bD b8 cu cK m.q.ch m.q.star a b c d e m.q.b7) (jk (aC.a8 de).2 (aC.a8 cD).2 (aC.a8 dd).2 (aC.a8 dh).2 (aC.a8 dZ).2 (aC.a8 t1).2 (aC.a8 t2).2 (aC.a8 t3).2 (aC.a8 t4).2 (aC.a8 t5).2)) ?_
 rintro p R ⟨rfl,sp,ar⟩
 refine aj.ad (fO (cs:=fb cC.k cC.name cC.on cC.un d1 d2 d3 d4 d5 cC.q.ch cC.q.star eK c2 c0 g4 ct cC.q.b7) (jk (aC.a8 e7).2 (aC.a8 ib).2 (aC.a8 oM).2 (aC.a8 qf).2 (aC.a8 iQ).2 (aC.a8 s1).2 (aC.a8 s2).2 (aC.a8 eu).2 (aC.a8 hx).2 (aC.a8 kO).2)) ?_
 rintro r ae ⟨rfl,dm,aA⟩
 replace sp:=sp.aq aA
 have k:=ar.bs aA
 refine kh k ?_
 have hP:aL (Iy j (.ptr h.length 0 0) (.ptr R.length 0 0) ae) fun x ak aa=>x= .normal∧ak=[.bool (eZ j m cC)]∧ai ae aa []:=by
  unfold eZ
  simp only[Iy,sp.af,dm.af,sp.ag (o:=0+0) (c:= .int .i64 m.k) rfl,dm.ag (o:=0+0) (c:= .int .i64 cC.k) rfl,sp.ag (o:=0+1) (c:= .str m.name) rfl,dm.ag (o:=0+1) (c:= .str cC.name) rfl,sp.ag (o:=0+2) (c:= .str m.on) rfl,dm.ag (o:=0+2) (c:= .str cC.on) rfl,sp.ag (o:=0+3) (c:= .bool m.un) rfl,dm.ag (o:=0+3) (c:= .bool cC.un) rfl,
   sp.ag (o:=0+4) (c:=bF) rfl,dm.ag (o:=0+4) (c:=d1) rfl,sp.ag (o:=0+5) (c:=bD) rfl,dm.ag (o:=0+5) (c:=d2) rfl,sp.ag (o:=0+6) (c:=b8) rfl,dm.ag (o:=0+6) (c:=d3) rfl,sp.ag (o:=0+7) (c:=cu) rfl,dm.ag (o:=0+7) (c:=d4) rfl,sp.ag (o:=0+8) (c:=cK) rfl,dm.ag (o:=0+8) (c:=d5) rfl,(de.aq k).len,(cD.aq k).len,(dd.aq k).len,(dh.aq k).len,(e7.aq k).len,(ib.aq k).len,(oM.aq k).len,(qf.aq k).len,aO,a1,bC,a0,Oi]
  refine hG (ai.refl _ _) fun _=> ?_
  refine hG (ai.refl _ _) fun _=> ?_
  refine hG (ai.refl _ _) fun _=> ?_
  refine hG (ai.refl _ _) fun _=> ?_
  refine hG (ai.refl _ _) fun _=> ?_
  refine hG (ai.refl _ _) fun _=> ?_
  refine hG (ai.refl _ _) fun _=> ?_
  refine hG (ai.refl _ _) fun _=> ?_
  refine aL.ad (Jc hw bV b_ (dZ.aq k) (iQ.aq k) (Nat.le_trans G.oQ di) G.c1) ?_
  rintro v aQ ⟨rfl,aT⟩
  have l7:=sp.aq aT
  have rl:=dm.aq aT
  have c5:I (.bp 8 (.c (.ptr h.length 0 (0+9)))) aQ=some (.agg (e2 m.q.ch m.q.star a b c d e m.q.b7)):=iE l7 (o:=0+9) (n:=8) (by simp) (by decide)
  have ew:I (.bp 8 (.c (.ptr R.length 0 (0+9)))) aQ=some (.agg (e2 cC.q.ch cC.q.star eK c2 c0 g4 ct cC.q.b7)):=iE rl (o:=0+9) (n:=8) (by simp) (by decide)
  have eA:=k.bs aT
  simp only[a0,l7.af,rl.af,c5,ew,aO,aN,aZ,bn,bl,id_eq,bP,bq,a1,bC,a5]
  refine hG aT fun _=> ?_
  refine aL.ad (aoU hw bV b_ di G (t1.aq eA) (t2.aq eA) (t3.aq eA) (t4.aq eA) (t5.aq eA) (s1.aq eA) (s2.aq eA) (eu.aq eA) (hx.aq eA) (kO.aq eA)) ?_
  rintro v bo ⟨rfl,bu⟩
  simp only[a0]
  exact u5 (aT.bs bu)
 refine Ay hP (fun aQ aT=> ?_)
 refine Ds aT fun aF=> ?_
 obtain⟨aV,bb,cb,dI⟩:=aoX aF
 have l7:=sp.aq aT
 have rl:=dm.aq aT
 have eA:=k.bs aT
 simp only[l7.af,l7.ag (o:=0+4) (c:=bF) rfl,(de.aq eA).len,aO,a1]
 refine kh aT (j0 (aoQ hw bV b_ l7 rl rfl rfl (de.aq eA) (e7.aq eA) (Nat.le_trans G.cY di) aV) (fun _ bo bu=> ?_))
 have m7:=l7.aq bu
 have xH:=rl.aq bu
 have gM:=eA.bs bu
 simp only[m7.af,m7.ag (o:=0+5) (c:=bD) rfl,(cD.aq gM).len,aO,a1]
 refine kh bu (j0 (aoP hw bV b_ m7 xH rfl rfl (cD.aq gM) (ib.aq gM) (Nat.le_trans G.gk di) bb) (fun _ bI bX=> ?_))
 have rj:=m7.aq bX
 have zN:=xH.aq bX
 have iN:=gM.bs bX
 simp only[rj.af,rj.ag (o:=0+6) (c:=b8) rfl,(dd.aq iN).len,aO,a1]
 refine kh bX (j0 (aoO hw bV b_ rj zN rfl rfl (dd.aq iN) (oM.aq iN) (Nat.le_trans G.kg di) cb (fun x au=>⟨Nat.le_trans (G.qk x au) di,G.rows x au⟩)) (fun _ cR cP=> ?_))
 have Oo:=rj.aq cP
 have Nf:=zN.aq cP
 have ja:=iN.bs cP
 simp only[Oo.af,Oo.ag (o:=0+7) (c:=cu) rfl,(dh.aq ja).len,aO,a1]
 exact kh cP (j0 (aoN hw bV b_ Oo Nf rfl rfl (dh.aq ja) (qf.aq ja) (Nat.le_trans G.l4 di) dI G.ft) (fun _ eF dv=>kP dv))
theorem aoY{b c:Bool}{aI h:Lo}{K:a9}(k:ai aI h [])(eY:b=false→aL K fun x ak aa=>ai aI aa []∧if c=true then x= .normal∧ak=[] else x= .ret∧ak=[.bool false]):aL (al b (some (.ret,[.bool false],h)) K) fun x ak aa=>ai aI aa []∧if(!b&&c)=true then x= .normal∧ak=[] else x= .ret∧ak=[.bool false]:=by
 cases b with
 |true=>exact aL.some ⟨k,by rw[Bool.not_true,Bool.false_and,if_neg (by decide)];exact⟨rfl,rfl⟩⟩
 |false=>exact eY rfl
theorem WC{b c:Bool}{aI h:Lo}{K:a9}(k:ai aI h [])(eY:b=true→aL K fun x ak aa=>x= .normal∧ak=[.bool (!c)]∧ai aI aa []):aL (al (!b) (some (.normal,[.bool true],h)) K) fun x ak aa=>x= .normal∧ak=[.bool (!(b&&c))]∧ai aI aa []:=by
 cases b with
 |false=>exact aL.some ⟨rfl,rfl,k⟩
 |true=>exact eY rfl
def Dz(m:ea):ea:=
 if m.k=1 then{m with name:=[],hk:=[]} else if m.k=2 then{m with name:=[],on:=[],un:=false,keys:=[]} else if m.k=3 then{m with name:=[],q:=pv}
 else if m.k=4∨m.k=5∨m.k=6 then{m with name:=[]} else if m.k=7 then{m with name:=[],rows:=[]} else if m.k=8 then{m with name:=[],ft:=[],c1:=[]} else if m.k=9 then{m with name:=[],c1:=[]} else if m.k=10 then{m with q:=pv} else m
theorem aoZ{j:Nat}{av:Nat→Prop}{h:Lo}{id:Nat}{m:ea}(M:fc av h id m)(cA:¬av id):
  aL (IF j (.ptr id 0 0) h) fun x ak aa=>x= .normal∧ak=[]∧fc av aa id (Dz m)∧ai h aa [id]:=by
 unfold Dz
 simp only[IF]
 rw[M.kind.2 0,aO,M.kind.1,aO,a1]
 by_cases R:m.k=1
 ·rw[jn R,aU,if_pos R]
  exact fc.u9 M cA fun aa h4 k=>fc.Wq h4 cA fun ae M2 aA=>aL.some ⟨rfl,rfl,M2,ai.b6 k aA⟩
 rw[jo R,a7,if_neg R]
 by_cases ae:m.k=2
 ·rw[jn ae,aU,if_pos ae]
  exact fc.u9 M cA fun aa h4 k=>fc.Wo h4 cA fun ae M2 aA=>fc.Wp M2 cA fun aQ sm aT=>fc.Wr sm cA fun bo Az bu=>aL.some ⟨rfl,rfl,Az,ai.b6 (ai.b6 (ai.b6 k aA) aT) bu⟩
 rw[jo ae,a7,if_neg ae]
 by_cases aQ:m.k=3
 ·rw[jn aQ,aU,if_pos aQ]
  simp only[Oc,aO,aN,aZ,bn,bl,id_eq,bP,bq,a1,a0,a5]
  exact fc.u9 M cA fun aa h4 k=>fc.Ob h4 cA fun ae M2 aA=>aL.some ⟨rfl,rfl,M2,ai.b6 k aA⟩
 rw[jo aQ,a7,if_neg aQ]
 have hP:IE j m.k h=some (.normal,[.bool (decide (m.k=4∨m.k=5∨m.k=6))],h):=by
  unfold IE
  by_cases h_:m.k=4
  ·rw[jn h_,aU];simp[h_]
  rw[jo h_,a7]
  by_cases ma:m.k=5
  ·rw[jn ma,aU];simp[ma]
  rw[jo ma,a7]
  by_cases sF:m.k=6
  ·rw[jn sF];simp[sF]
  rw[jo sF];simp[h_,ma,sF]
 rw[hP]
 simp only[gY,decide_true,aU,aN,aZ,bn,bl,id_eq,bq,a0,a5]
 by_cases bo:m.k=4∨m.k=5∨m.k=6
 ·rw[decide_eq_true bo,aU,if_pos bo]
  exact fc.u9 M cA fun aa h4 k=>aL.some ⟨rfl,rfl,h4,k⟩
 rw[decide_eq_false bo,a7,if_neg bo]
 by_cases eF:m.k=7
 ·rw[jn eF,aU,if_pos eF]
  exact fc.u9 M cA fun aa h4 k=>fc.Ws h4 cA fun ae M2 aA=>aL.some ⟨rfl,rfl,M2,ai.b6 k aA⟩
 rw[jo eF,a7,if_neg eF]
 by_cases eR:m.k=8
 ·rw[jn eR,aU,if_pos eR]
  exact fc.u9 M cA fun aa h4 k=>fc.Wt h4 cA fun ae M2 aA=>fc.I9 M2 cA fun aQ sm aT=>aL.some ⟨rfl,rfl,sm,ai.b6 (ai.b6 k aA) aT⟩
 rw[jo eR,a7,if_neg eR]
 by_cases fZ:m.k=9
 ·rw[jn fZ,aU,if_pos fZ]
  exact fc.u9 M cA fun aa h4 k=>fc.I9 h4 cA fun ae M2 aA=>aL.some ⟨rfl,rfl,M2,ai.b6 k aA⟩
 rw[jo fZ,a7,if_neg fZ]
 by_cases hR:m.k=10
 ·rw[jn hR,aU,if_pos hR]
  simp only[Oc,aO,aN,aZ,bn,bl,id_eq,bP,bq,a1,a0,a5]
  exact fc.Ob M cA fun aa h4 k=>aL.some ⟨rfl,rfl,h4,k⟩
 rw[jo hR,a7,if_neg hR]
 exact aL.some ⟨rfl,rfl,M,ai.refl _ _⟩
theorem ao0{m:ea}(R:1≤m.k):{Dz m with k:=0}={m8 m with k:=0}:=by
 unfold Dz m8
 by_cases fZ:m.k≤9
 ·rw[if_pos fZ]
  unfold tA
  have:m.k=1∨m.k=2∨m.k=3∨m.k=4∨m.k=5∨m.k=6∨m.k=7∨m.k=8∨m.k=9:=by omega
  rcases this with h|h|h|h|h|h|h|h|h<;>simp[h]
 ·rw[if_neg fZ]
  unfold tA
  by_cases hR:m.k=10
  ·simp[hR]
  ·have e:∀i:Int,i≤10→m.k≠i:=fun i aw=>by omega
   simp[e]
theorem ao1{j:Nat}{av:Nat→Prop}{h:Lo}{v:V}{m:ea}(aH:1≤m.k)(t:hl.aK av h v m):aj (IG j v h) fun eg aa=>hl.aK (fun o=>o<h.length) aa eg {m8 m with k:=0}∧ai h aa []:=by
 have t:=hl.mono t (bx:=fun o=>o<h.length) (fun o U _=>U)
 obtain⟨cs,rfl,a6,mk⟩:=Wn t
 simp only[IG]
 refine aj.ad (fO (cs:=cs) a6) ?_
 rintro p R ⟨rfl,sp,ar⟩
 refine aj.ad (hs (cs:=fb 0 [] [] false .ab .ab .ab .ab .ab false false .ab .ab .ab .ab .ab 0) rfl) ?_
 rintro q ae ⟨rfl,hY,aA⟩
 have M:=(mk R ar sp).aq aA
 have cA:¬(fun o=>o<h.length) h.length:=Nat.lt_irrefl _
 have c5:=sp.lt
 refine aj.bO (aoZ M cA) ?_
 rintro x ak aQ ⟨rfl,rfl,sm,aT⟩
 simp only[decide_true,aU,a5]
 have wZ:=hY.aJ aT (fun z=>by have:=List.mem_singleton.1 z;omega)
 have aI:aL (J (I (.af 0 (.c (.ptr h.length 0 0))) aQ) fun y=>ad (aB (.store 1 (.c y) (.c (.int .i64 0))) aQ) fun _ R=>some (.normal,[],R)) fun x ak aa=>fc (fun o=>o<h.length) aa h.length {Dz m with k:=0}∧ai aQ aa [h.length]:=fc.aoD sm cA fun aa h4 k=>aL.some ⟨h4,k⟩
 obtain⟨x,ak,bo,dI,Az,bu⟩:=aI
 rw[sm.kind.2 0,aO] at dI⊢
 cases pb:aB (.store 1 (.c (.ptr h.length 0 (0+0))) (.c (.int .i64 0))) aQ with
 |none=>rw[pb] at dI;cases dI
 |some w=>
  rw[pb] at dI
  obtain⟨aW,c1⟩:=w
  simp only[fp,Option.some.injEq,Prod.mk.injEq] at dI⊢
  obtain⟨-,-,rfl⟩:=dI
  have w0:=wZ.aJ bu (fun z=>by have:=List.mem_singleton.1 z;omega)
  rw[ao0 aH] at Az
  refine(Wu (H:=h) Az (fun o U=>by have:o<h.length:=U;omega) (by omega) ⟨_,rfl,w0⟩).mono ?_
  rintro v bI ⟨t5,bX⟩
  exact⟨t5,(ar.bs aA).trans ((ai.b6 aT bu).trans bX (C:=[h.length,R.length]) (fun o U _=>by rw[List.mem_singleton.1 U];simp) (fun o U _=>by rw[List.mem_singleton.1 U];simp)) (fun o U=>by cases U) (fun o U bN=>by simp at U;omega)⟩
end Go.Proofs.YtjpjeilfmjdhcaaGreat.h3
