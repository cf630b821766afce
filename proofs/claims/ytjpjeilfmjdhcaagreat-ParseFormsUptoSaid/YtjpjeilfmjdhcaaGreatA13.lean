/- The reader of statements: its memory; lists by what they hold; a part of a struct stored. No condition. -/
import Derived.Test.YtjpjeilfmjdhcaaGreatA7
import Derived.Test.YtjpjeilfmjdhcaaGreatA12
set_option maxRecDepth 100000
set_option linter.unusedVariables false
set_option linter.unusedSimpArgs false
set_option linter.unnecessarySimpa false
namespace Go.Proofs.YtjpjeilfmjdhcaaGreat.fC
open Go E ep eI fq fw
theorem bY.GO{h:Lo}{id:Nat}{cs aM:Lv}(s:bY h id cs){o n:Nat}(bd:aM.length=n)(ax:o+n≤cs.length)(aI:0<n)(a6:aM.all V.scalar=true):
  aj (aB (.store n (.c (.ptr id 0 o)) (.c (.agg aM))) h) fun _ aa=>bY aa id (cs.take o++aM++cs.drop (o+n))∧ai h aa [id]:=by
 subst bd
 have eb:=s
 unfold bY at eb
 have es:pS h aM.length (.ptr id 0 o) (.agg aM)=some (h.set id (.row [.agg (cs.take o++aM++cs.drop (o+aM.length))] cs.length)):=by
  have q:pS h aM.length (.ptr id 0 o) (.agg aM)=pR h (.ptr id 0 o) aM:=if_pos ⟨rfl,a6,aI⟩
  rw[q]
  simp only[pR,eb,List.getElem?_cons_zero,Option.map_some,putCells,List.set_cons_zero]
  rw[if_pos ax]
 have e:aB (.store aM.length (.c (.ptr id 0 o)) (.c (.agg aM))) h=some (.bW [],h.set id (.row [.agg (cs.take o++aM++cs.drop (o+aM.length))] cs.length)):=by
  simp only[aB,e8,Bw,fW,es,Option.map_some]
 rw[e]
 exact aj.some ⟨s.set (by simp;omega),ai.set _ _ _⟩
structure ck(h:Lo)(bf r:Nat)(aW:V)(ws:List br)(s:bB):Prop where
 rd:e0 h r aW ws s
 st:bY h bf [.ptr r 0 0]
 ne:bf≠r
theorem ck.aq{h aa:Lo}{bf r:Nat}{aW:V}{ws:List br}{s:bB}(q:ck h bf r aW ws s)(k:ai h aa []):ck aa bf r aW ws s:=⟨q.rd.aq k,q.st.aq k,q.ne⟩
theorem ck.up{h aa:Lo}{bf r:Nat}{aW:V}{ws:List br}{s eb:bB}(q:ck h bf r aW ws s)(k:ai h aa [r])(d:e0 aa r aW ws eb):ck aa bf r aW ws eb:=⟨d,q.st.aJ k (fun z=>by simp at z;exact q.ne z),q.ne⟩
theorem ck.dp{h:Lo}{bf r:Nat}{aW:V}{ws:List br}{s:bB}(q:ck h bf r aW ws s):I (.ag (.c (.ptr bf 0 (0+0)))) h=some (.ptr r 0 0):=q.st.ag (o:=0) (c:= .ptr r 0 0) rfl
structure hd(α:Type) where
 aK:(Nat→Prop)→Lo→V→α→Prop
 aJ:∀{av:Nat→Prop} {h aa:Lo} {v:V} {x:α} {A:List Nat},aK av h v x→ai h aa A→(∀o,o∈A→¬av o)→aK av aa v x
 mono:∀{av bx:Nat→Prop} {h:Lo} {v:V} {x:α},aK av h v x→(∀o,o<h.length→av o→bx o)→aK bx h v x
def bw{α:Type}(az:Nat)(T:hd α)(av:Nat→Prop)(h:Lo)(v:V)(xs:List α):Prop:=
 ∃es,dq az h v es∧j2 v∧(∀o,o∈dj v→av o)∧es.length=xs.length∧∀(i:Nat) (e:V) (x:α),es[i]? =some e→xs[i]? =some x→T.aK (fun o=>av o∧o∉dj v) h e x
def ca{α:Type}(az:Nat)(T:hd α):hd (List α) where
 aK:=bw az T
 aJ:=by
  rintro av h aa v xs A ⟨es,s,a,i,l,e⟩ k d
  exact⟨es,s.aJ k (fun o U z=>d o z (i o U)),a,i,l,fun n ct x R ae=>T.aJ (e n ct x R ae) k (fun o U z=>d o U z.1)⟩
 mono:=by
  rintro av bx h v xs ⟨es,s,a,i,l,e⟩ d
  exact⟨es,s,a,fun o U=>d o (s.lt U) (i o U),l,fun n ct x R ae=>T.mono (e n ct x R ae) (fun o U z=>⟨d o U z.1,z.2⟩)⟩
theorem bw.a8{α:Type}{az:Nat}{T:hd α}{av:Nat→Prop}{h:Lo}{v:V}{xs:List α}(l:bw az T av h v xs):v.cells=[v]∧v.scalar=true:=by
 obtain⟨es,s,-⟩:=l
 exact oE s
theorem bw.ab{α:Type}(az:Nat)(T:hd α)(av:Nat→Prop)(h:Lo):bw az T av h .ab []:=⟨[],dq.ab _ _,j2.ab,fun o U=>(nomatch U),rfl,fun i e x R=>by simp at R⟩
def fM:hd (Lu) where
 aK:=fun _ _ v x=>v= .str x
 aJ:=fun h _ _=>h
 mono:=fun h _=>h
def bL:hd X where
 aK:=fun av h v x=>∃n aG ah,x= .mk n ah∧v= .agg (bH n aG)∧c6 av h (.agg (bH n aG)) (.mk n ah)
 aJ:=by
  rintro av h aa v x A ⟨n,aG,ah,rfl,rfl,e⟩ k d
  exact⟨n,aG,ah,rfl,rfl,e.aJ k d⟩
 mono:=by
  rintro av bx h v x ⟨n,aG,ah,rfl,rfl,e⟩ d
  exact⟨n,aG,ah,rfl,rfl,e.mono d⟩
def fI:hd jz where
 aK:=fun _ _ v x=>v= .agg [.str x.n, .int .i64 x.k, .bool x.iG, .bool x.un]
 aJ:=fun h _ _=>h
 mono:=fun h _=>h
abbrev fT(n:fg)(aG:V)(c:V):Lv:=[.int .i64 n.k, .str n.op, .int .i64 n.eh, .int .i64 n.ed, .str n.ak, .str n.dG, .str n.c7,aG,c]
abbrev jj(c:Lu)(n:fg)(aG:V):Lv:=[.str c, .int .i64 n.k, .str n.op, .int .i64 n.eh, .int .i64 n.ed, .str n.ak, .str n.dG, .str n.c7,aG]
abbrev h8(t a:Lu)(n:fg)(aG:V):Lv:=[.str t, .str a, .int .i64 n.k, .str n.op, .int .i64 n.eh, .int .i64 n.ed, .str n.ak, .str n.dG, .str n.c7,aG]
def eC:hd ij where
 aK:=fun av h v x=>∃n aG ah,x.e= .mk n ah∧v= .agg (fT n aG (.str x.n))∧c6 av h (.agg (bH n aG)) (.mk n ah)
 aJ:=by
  rintro av h aa v x A ⟨n,aG,ah,aV,bb,e⟩ k d
  exact⟨n,aG,ah,aV,bb,e.aJ k d⟩
 mono:=by
  rintro av bx h v x ⟨n,aG,ah,aV,bb,e⟩ d
  exact⟨n,aG,ah,aV,bb,e.mono d⟩
def eS:hd iH where
 aK:=fun av h v x=>∃n aG ah,x.e= .mk n ah∧v= .agg (fT n aG (.bool x.d))∧c6 av h (.agg (bH n aG)) (.mk n ah)
 aJ:=by
  rintro av h aa v x A ⟨n,aG,ah,aV,bb,e⟩ k d
  exact⟨n,aG,ah,aV,bb,e.aJ k d⟩
 mono:=by
  rintro av bx h v x ⟨n,aG,ah,aV,bb,e⟩ d
  exact⟨n,aG,ah,aV,bb,e.mono d⟩
def fs:hd h7 where
 aK:=fun av h v x=>∃n aG ah,x.e= .mk n ah∧v= .agg (jj x.c n aG)∧c6 av h (.agg (bH n aG)) (.mk n ah)
 aJ:=by
  rintro av h aa v x A ⟨n,aG,ah,aV,bb,e⟩ k d
  exact⟨n,aG,ah,aV,bb,e.aJ k d⟩
 mono:=by
  rintro av bx h v x ⟨n,aG,ah,aV,bb,e⟩ d
  exact⟨n,aG,ah,aV,bb,e.mono d⟩
def eM:hd hB where
 aK:=fun av h v x=>∃n aG ah,x.on= .mk n ah∧v= .agg (h8 x.t x.n n aG)∧c6 av h (.agg (bH n aG)) (.mk n ah)
 aJ:=by
  rintro av h aa v x A ⟨n,aG,ah,aV,bb,e⟩ k d
  exact⟨n,aG,ah,aV,bb,e.aJ k d⟩
 mono:=by
  rintro av bx h v x ⟨n,aG,ah,aV,bb,e⟩ d
  exact⟨n,aG,ah,aV,bb,e.mono d⟩
def gq{α:Type}(T:hd α)(h:Lo)(bf r:Nat)(aW:V)(ws:List br)(p:α × bB)(v:V)(aa:Lo):Prop:=ck aa bf r aW ws p.2∧ai h aa [r]∧T.aK (fun o=>h.length≤o) aa v p.1
theorem ta{α:Type}{az:Nat}(b0:0<az)(TR:az≤1000){T:hd α}{av:Nat→Prop}{h:Lo}{z v:V}{x:α}{K:V→Lo→OvL}{Q:V→Lo→Prop}(bg:T.aK av h v x)(cA:∀o,av o→o<h.length)(hp:kk az v=true)
  (eY:∀eg aa,bw az T (fun o=>av o∨h.length≤o) aa eg [x]→ai h aa []→aj (K eg aa) Q):aj (ad (aB (.dN az z 1 [(0, .c v)]) h) K) Q:=by
 refine aj.ad (mg (az:=az) (z:=z) (len:=1) (ah:=[(0,v)]) (es:=[v]) (by omega) (by simp[hp]) rfl rfl) ?_
 rintro y R ⟨-,-,s6,dk,m0,ux⟩
 refine eY y R ⟨[v],s6,dk,fun o U=> .inr (ux o U),rfl, ?_⟩ m0
 intro i e iI iY ix
 cases i with
 |zero=>
  simp only[List.getElem?_cons_zero,Option.some.injEq] at iY ix
  subst iY;subst ix
  exact T.mono (T.aJ bg m0 (fun o U=>by cases U)) (fun o U w=>⟨.inl w,fun o2=>by have:=ux o o2;have:=cA o w;omega⟩)
 |succ i=>simp at iY
theorem tb{α:Type}{az bytes:Nat}(b0:0<az)(TR:az≤1000)(AT:bytes≤1000){T:hd α}{av bx:Nat→Prop}{h:Lo}{z v out:V}{x:α}{acc:List α}{K:V→Lo→a9}{Q:cg→Lv→Lo→Prop}(L:bw az T av h out acc)(bg:T.aK bx h v x)(zo:∀o,o<h.length→bx o→av o∧o∉dj out)(bd:∀o,h.length≤o→av o)(ax:acc.length≤100000000000)(hp:kk az v=true)
  (eY:∀eg aa,bw az T av aa eg (acc++ [x])→ai h aa (dj out)→aL (K eg aa) Q):aL (ad (aB (.dN az z 1 [(0, .c v)]) h) fun y R=>ad (aB (.app az bytes (.c out) (.c y)) R) K) Q:=by
 refine aL.ad (mg (az:=az) (z:=z) (len:=1) (ah:=[(0,v)]) (es:=[v]) (by omega) (by simp[hp]) rfl rfl) ?_
 rintro y R ⟨-,-,s6,dk,m0,ux⟩
 obtain⟨es,qY,MN,io,et,dg⟩:=L
 have MO:=qY.aq m0
 have MP:(es.length+ [v].length)*bytes≤oc:=by
  have:(es.length+1)*bytes≤100000000001*1000:=Nat.mul_le_mul (by omega) AT
  have e: [v].length=1:=rfl
  rw[e]
  exact Nat.le_trans this (by decide)
 refine aL.ad (BD (bytes:=bytes) MO MN s6.c MP) ?_
 rintro w ae ⟨zg,c4,kw,zp⟩
 have gA:ai h ae (dj out):=m0.trans kw (fun o U=>by cases U) (fun o U _=>U)
 have ol:∀o,o∈dj out→o<h.length:=fun o U=>qY.lt U
 refine eY w ae ⟨es++ [v],zg,c4,fun o U=> ?_,by simp[et], ?_⟩ gA
 ·rcases zp o U with q|q
  ·exact io o q
  ·exact bd o (by have:=m0.len;omega)
 ·intro i e iI iY ix
  have wn:∀o,o<h.length→o∉dj out→o∉dj w:=fun o U cj q=>by
   rcases zp o q with o2|o2
   ·exact cj o2
   ·have:=m0.len;omega
  by_cases aw:i<es.length
  ·rw[List.getElem?_append_left aw] at iY
   rw[List.getElem?_append_left (by omega)] at ix
   have t:=T.mono (dg i e iI iY ix) (bx:=fun o=>(av o∧o∉dj w)∧o∉dj out) (fun o U q=>⟨⟨q.1,wn o U q.2⟩,q.2⟩)
   exact T.mono (T.aJ t gA (fun o U q=>q.2 U)) (fun o _ q=>q.1)
  ·have:i=es.length:=by
    have:=(List.getElem?_eq_some_iff.1 iY).1
    simp at this;omega
   subst this
   rw[List.getElem?_append_right (Nat.le_refl _)] at iY
   rw[et,List.getElem?_append_right (Nat.le_refl _)] at ix
   simp at iY ix
   subst iY;subst ix
   have t:=T.mono bg (bx:=fun o=>(av o∧o∉dj w)∧o∉dj out) (fun o U q=>⟨⟨(zo o U q).1,wn o U (zo o U q).2⟩,(zo o U q).2⟩)
   exact T.mono (T.aJ t gA (fun o U q=>q.2 U)) (fun o _ q=>q.1)
theorem l2{cs:Lv}{n:Nat}(ax:cs.length=n)(a6:cs.all V.scalar=true):kk n (.agg cs)=true:=by
 simp only[kk,V.cells,a6,ax,beq_self_eq_true,Bool.and_self]
theorem gU{av:Nat→Prop}{h:Lo}{n m:fg}{aG:V}{ah:List X}(e:c6 av h (.agg (bH n aG)) (.mk m ah)):aG.scalar=true:=by
 obtain⟨es,s,-,-,-⟩:=e.inv
 exact(oE s).2
theorem MQ{v:V}(an:v.cells=[v])(a6:v.scalar=true):kk 1 v=true:=by
 cases v<;>first|rfl|(simp[V.scalar] at a6)
theorem bw.lt{α:Type}{az:Nat}{T:hd α}{av:Nat→Prop}{h:Lo}{v:V}{xs:List α}(l:bw az T av h v xs){o:Nat}(U:o∈dj v):o<h.length∧av o:=by
 obtain⟨es,s,a,i,-⟩:=l
 exact⟨s.lt U,i o U⟩
theorem ck.apart{aI h aa:Lo}{bf r:Nat}{aW:V}{ws:List br}{eZ s:bB}(cS:ck aI bf r aW ws eZ)(q:ck h bf r aW ws s){A:List Nat}(k:ai h aa A)(bh:∀o,o∈A→aI.length≤o):ck aa bf r aW ws s:=
 ⟨⟨q.rd.st.aJ k (fun z=>by have:=bh _ z;have:=cS.rd.lt;omega),q.rd.cx.aJ k (fun o U z=>by have:=bh _ z;have:=cS.rd.cx.lt U;omega),q.rd.n0,q.rd.le,q.rd.ih⟩,q.st.aJ k (fun z=>by have:=bh _ z;have:=cS.st.lt;omega),q.ne⟩
theorem aii(j:Nat){dA:Lo}{bf r:Nat}{aW:V}{ws:List br}{eZ:bB}{ay:bK}{dr:V}{m:fr jz}(hf:hc m)(cS:ck dA bf r aW ws eZ)(hm:∀(h:Lo) (s:bB),ck h bf r aW ws s→ai dA h [r]→aj (ay dr [] h) (gq fI h bf r aW ws (m s))):
  ∀(d f g:Nat) (h:Lo) (s:bB) (out:V) (acc:List jz),ws.length-s.i≤d→d<f→d<g→ck h bf r aW ws s→ai dA h [r]→bw 4 fI (fun o=>dA.length≤o) h out acc→acc.length≤s.i+1→
  aL (yZ j ay f (.ptr bf 0 0) dr out h) fun x ak aa=>x= .exit 0∧∃kc,ak=[kc]∧bw 4 fI (fun o=>dA.length≤o) aa kc (gn ws m g acc s).1∧ck aa bf r aW ws (gn ws m g acc s).2∧ai dA aa [r]:=by
 intro d
 induction d with
 |zero=>
  intro f g h s out acc bj aS dt q k L ax
  obtain⟨f,rfl⟩:∃gj,f=gj+1:=⟨f-1,by omega⟩
  obtain⟨g,rfl⟩:∃cX,g=cX+1:=⟨g-1,by omega⟩
  simp only[yZ,F6,q.st.bz,q.st.af,q.dp,aO]
  refine aL.ad (fH [44] q.rd) ?_
  rintro v R ⟨rfl,d1,ar⟩
  cases hp:(bA ws [44] s).1 with
  |true=>have:=ly hp;omega
  |false=>
   simp only[a0,a7,gn,hp,Bool.false_eq_true,if_false]
   exact aL.some ⟨rfl,out,rfl,(ca 4 fI).aJ L ar (fun o U z=>by simp at U;have:=cS.rd.lt;omega),q.up ar d1,ai.b6 k ar⟩
 |succ d ba=>
  intro f g h s out acc bj aS dt q k L ax
  obtain⟨f,rfl⟩:∃gj,f=gj+1:=⟨f-1,by omega⟩
  obtain⟨g,rfl⟩:∃cX,g=cX+1:=⟨g-1,by omega⟩
  simp only[yZ,F6,q.st.bz,q.st.af,q.dp,aO]
  refine aL.ad (fH [44] q.rd) ?_
  rintro v R ⟨rfl,d1,ar⟩
  have aE:=q.up ar d1
  have gZ:=ai.b6 k ar
  have iP:=cS.rd.lt
  have jQ:=(ca 4 fI).aJ L ar (fun o U z=>by simp at U;omega)
  cases hp:(bA ws [44] s).1 with
  |false=>
   simp only[a0,a7,gn,hp,Bool.false_eq_true,if_false]
   exact aL.some ⟨rfl,out,rfl,jQ,aE,gZ⟩
  |true=>
   obtain⟨a6,bN⟩:=ly hp
   have aw:(bA ws [44] s).2.i=s.i+1:=by rw[a6];rfl
   have px:=hf (bA ws [44] s).2
   have l1:=q.rd.ih
   simp only[a0,aU,gn,hp,if_true]
   refine aL.ad (hm R _ aE gZ) ?_
   rintro v ae ⟨aR,aA,t2⟩
   have bg:v= .agg [.str (m (bA ws [44] s).2).1.n, .int .i64 (m (bA ws [44] s).2).1.k, .bool (m (bA ws [44] s).2).1.iG, .bool (m (bA ws [44] s).2).1.un]:=t2
   subst bg
   have gN:=(ca 4 fI).aJ jQ aA (fun o U z=>by simp at U;omega)
   have c5:h.length≤R.length:=ar.len
   simp only[bP,aN,aZ,bn,bl,id_eq,bq,a1,bC,a0,a5]
   refine tb (bx:=fun o=>R.length≤o) (by decide) (by decide) (by decide) gN t2 (fun o U z=>⟨Nat.le_trans gZ.len z,fun y=>by have:=(bw.lt L y).1;omega⟩) (fun o U=>Nat.le_trans (ai.b6 gZ aA).len U) (by omega) (l2 rfl rfl) fun w aQ gh aT=> ?_
   have bh:∀o,o∈dj out→dA.length≤o:=fun o U=>(bw.lt L U).2
   exact ba f g aQ _ w _ (by omega) (by omega) (by omega) (ck.apart cS aR aT bh) ((ai.b6 gZ aA).trans aT (fun o U _=>U) (fun o U bN=>by have:=bh o U;omega)) gh (by simp;omega)
theorem aij{j:Nat}(aS:1000<j){h:Lo}{bf r:Nat}{aW:V}{ws:List br}{s:bB}{ay:bK}{dr:V}{m:fr jz}(hf:hc m)(q:ck h bf r aW ws s)(hm:∀(aa:Lo) (s:bB),ck aa bf r aW ws s→ai h aa [r]→aj (ay dr [] aa) (gq fI aa bf r aW ws (m s))):
  aj (F7 j ay (.ptr bf 0 0) dr h) (gq (ca 4 fI) h bf r aW ws (k8 ws m s)):=by
 simp only[F7]
 refine aj.ad (hm h s q (ai.refl _ _)) ?_
 rintro v R ⟨aE,ar,t2⟩
 have bg:v= .agg [.str (m s).1.n, .int .i64 (m s).1.k, .bool (m s).1.iG, .bool (m s).1.un]:=t2
 subst bg
 have l1:=q.rd.ih
 simp only[bP,aN,aZ,bn,bl,id_eq,bq,a1,bC,a0,a5]
 refine ta (T:=fI) (av:=fun o=>h.length≤o∧o<R.length) (x:=(m s).1) (by decide) (by decide) (fI.mono t2 (fun o U z=>⟨z,U⟩)) (fun o z=>z.2) (l2 rfl rfl) fun y ae gN aA=> ?_
 have c5:=ar.len
 have gh:=(ca 4 fI).mono gN (bx:=fun o=>h.length≤o) (fun o U z=>by rcases z with z|z;exact z.1;omega)
 have px:=hf s
 refine aj.bO (aii j hf q hm ws.length j (ws.length+1) ae (m s).2 y [(m s).1] (by omega) (by omega) (by omega) (aE.aq aA) (ai.ro ar aA) gh (by simp)) ?_
 rintro x ak aQ ⟨rfl,out,rfl,k_,bS,bu⟩
 simp only[decide_true,aU,aN,aZ,bn,bl,id_eq,bq,a5]
 exact aj.some ⟨bS,bu,k_⟩
theorem aik(j:Nat){dA:Lo}{bf r:Nat}{aW:V}{ws:List br}{eZ:bB}{ay:bK}{dr:V}{m:fr (Lu)}(hf:hc m)(cS:ck dA bf r aW ws eZ)(hm:∀(h:Lo) (s:bB),ck h bf r aW ws s→ai dA h [r]→aj (ay dr [] h) (gq fM h bf r aW ws (m s))):
  ∀(d f g:Nat) (h:Lo) (s:bB) (out:V) (acc:List (Lu)),ws.length-s.i≤d→d<f→d<g→ck h bf r aW ws s→ai dA h [r]→bw 1 fM (fun o=>dA.length≤o) h out acc→acc.length≤s.i+1→
  aL (y0 j ay f (.ptr bf 0 0) dr out h) fun x ak aa=>x= .exit 0∧∃kc,ak=[kc]∧bw 1 fM (fun o=>dA.length≤o) aa kc (gn ws m g acc s).1∧ck aa bf r aW ws (gn ws m g acc s).2∧ai dA aa [r]:=by
 intro d
 induction d with
 |zero=>
  intro f g h s out acc bj aS dt q k L ax
  obtain⟨f,rfl⟩:∃gj,f=gj+1:=⟨f-1,by omega⟩
  obtain⟨g,rfl⟩:∃cX,g=cX+1:=⟨g-1,by omega⟩
  simp only[y0,Gb,q.st.bz,q.st.af,q.dp,aO]
  refine aL.ad (fH [44] q.rd) ?_
  rintro v R ⟨rfl,d1,ar⟩
  cases hp:(bA ws [44] s).1 with
  |true=>have:=ly hp;omega
  |false=>
   simp only[a0,a7,gn,hp,Bool.false_eq_true,if_false]
   exact aL.some ⟨rfl,out,rfl,(ca 1 fM).aJ L ar (fun o U z=>by simp at U;have:=cS.rd.lt;omega),q.up ar d1,ai.b6 k ar⟩
 |succ d ba=>
  intro f g h s out acc bj aS dt q k L ax
  obtain⟨f,rfl⟩:∃gj,f=gj+1:=⟨f-1,by omega⟩
  obtain⟨g,rfl⟩:∃cX,g=cX+1:=⟨g-1,by omega⟩
  simp only[y0,Gb,q.st.bz,q.st.af,q.dp,aO]
  refine aL.ad (fH [44] q.rd) ?_
  rintro v R ⟨rfl,d1,ar⟩
  have aE:=q.up ar d1
  have gZ:=ai.b6 k ar
  have iP:=cS.rd.lt
  have jQ:=(ca 1 fM).aJ L ar (fun o U z=>by simp at U;omega)
  cases hp:(bA ws [44] s).1 with
  |false=>
   simp only[a0,a7,gn,hp,Bool.false_eq_true,if_false]
   exact aL.some ⟨rfl,out,rfl,jQ,aE,gZ⟩
  |true=>
   obtain⟨a6,bN⟩:=ly hp
   have aw:(bA ws [44] s).2.i=s.i+1:=by rw[a6];rfl
   have px:=hf (bA ws [44] s).2
   have l1:=q.rd.ih
   simp only[a0,aU,gn,hp,if_true]
   refine aL.ad (hm R _ aE gZ) ?_
   rintro v ae ⟨aR,aA,t2⟩
   have bg:v= .str (m (bA ws [44] s).2).1:=t2
   subst bg
   have gN:=(ca 1 fM).aJ jQ aA (fun o U z=>by simp at U;omega)
   have c5:h.length≤R.length:=ar.len
   simp only[bP,aN,aZ,bn,bl,id_eq,bq,a1,bC,a0,a5]
   refine tb (bx:=fun o=>R.length≤o) (by decide) (by decide) (by decide) gN t2 (fun o U z=>⟨Nat.le_trans gZ.len z,fun y=>by have:=(bw.lt L y).1;omega⟩) (fun o U=>Nat.le_trans (ai.b6 gZ aA).len U) (by omega) rfl fun w aQ gh aT=> ?_
   have bh:∀o,o∈dj out→dA.length≤o:=fun o U=>(bw.lt L U).2
   exact ba f g aQ _ w _ (by omega) (by omega) (by omega) (ck.apart cS aR aT bh) ((ai.b6 gZ aA).trans aT (fun o U _=>U) (fun o U bN=>by have:=bh o U;omega)) gh (by simp;omega)
theorem ail{j:Nat}(aS:1000<j){h:Lo}{bf r:Nat}{aW:V}{ws:List br}{s:bB}{ay:bK}{dr:V}{m:fr (Lu)}(hf:hc m)(q:ck h bf r aW ws s)(hm:∀(aa:Lo) (s:bB),ck aa bf r aW ws s→ai h aa [r]→aj (ay dr [] aa) (gq fM aa bf r aW ws (m s))):
  aj (Gc j ay (.ptr bf 0 0) dr h) (gq (ca 1 fM) h bf r aW ws (k8 ws m s)):=by
 simp only[Gc]
 refine aj.ad (hm h s q (ai.refl _ _)) ?_
 rintro v R ⟨aE,ar,t2⟩
 have bg:v= .str (m s).1:=t2
 subst bg
 have l1:=q.rd.ih
 simp only[bP,aN,aZ,bn,bl,id_eq,bq,a1,bC,a0,a5]
 refine ta (T:=fM) (av:=fun o=>h.length≤o∧o<R.length) (x:=(m s).1) (by decide) (by decide) (fM.mono t2 (fun o U z=>⟨z,U⟩)) (fun o z=>z.2) rfl fun y ae gN aA=> ?_
 have c5:=ar.len
 have gh:=(ca 1 fM).mono gN (bx:=fun o=>h.length≤o) (fun o U z=>by rcases z with z|z;exact z.1;omega)
 have px:=hf s
 refine aj.bO (aik j hf q hm ws.length j (ws.length+1) ae (m s).2 y [(m s).1] (by omega) (by omega) (by omega) (aE.aq aA) (ai.ro ar aA) gh (by simp)) ?_
 rintro x ak aQ ⟨rfl,out,rfl,k_,bS,bu⟩
 simp only[decide_true,aU,aN,aZ,bn,bl,id_eq,bq,a5]
 exact aj.some ⟨bS,bu,k_⟩
theorem aim(j:Nat){dA:Lo}{bf r:Nat}{aW:V}{ws:List br}{eZ:bB}{ay:bK}{dr:V}{m:fr X}(hf:hc m)(cS:ck dA bf r aW ws eZ)(hm:∀(h:Lo) (s:bB),ck h bf r aW ws s→ai dA h [r]→aj (ay dr [] h) (gq bL h bf r aW ws (m s))):
  ∀(d f g:Nat) (h:Lo) (s:bB) (out:V) (acc:List X),ws.length-s.i≤d→d<f→d<g→ck h bf r aW ws s→ai dA h [r]→bw 8 bL (fun o=>dA.length≤o) h out acc→acc.length≤s.i+1→
  aL (yW j ay f (.ptr bf 0 0) dr out h) fun x ak aa=>x= .exit 0∧∃kc,ak=[kc]∧bw 8 bL (fun o=>dA.length≤o) aa kc (gn ws m g acc s).1∧ck aa bf r aW ws (gn ws m g acc s).2∧ai dA aa [r]:=by
 intro d
 induction d with
 |zero=>
  intro f g h s out acc bj aS dt q k L ax
  obtain⟨f,rfl⟩:∃gj,f=gj+1:=⟨f-1,by omega⟩
  obtain⟨g,rfl⟩:∃cX,g=cX+1:=⟨g-1,by omega⟩
  simp only[yW,FX,q.st.bz,q.st.af,q.dp,aO]
  refine aL.ad (fH [44] q.rd) ?_
  rintro v R ⟨rfl,d1,ar⟩
  cases hp:(bA ws [44] s).1 with
  |true=>have:=ly hp;omega
  |false=>
   simp only[a0,a7,gn,hp,Bool.false_eq_true,if_false]
   exact aL.some ⟨rfl,out,rfl,(ca 8 bL).aJ L ar (fun o U z=>by simp at U;have:=cS.rd.lt;omega),q.up ar d1,ai.b6 k ar⟩
 |succ d ba=>
  intro f g h s out acc bj aS dt q k L ax
  obtain⟨f,rfl⟩:∃gj,f=gj+1:=⟨f-1,by omega⟩
  obtain⟨g,rfl⟩:∃cX,g=cX+1:=⟨g-1,by omega⟩
  simp only[yW,FX,q.st.bz,q.st.af,q.dp,aO]
  refine aL.ad (fH [44] q.rd) ?_
  rintro v R ⟨rfl,d1,ar⟩
  have aE:=q.up ar d1
  have gZ:=ai.b6 k ar
  have iP:=cS.rd.lt
  have jQ:=(ca 8 bL).aJ L ar (fun o U z=>by simp at U;omega)
  cases hp:(bA ws [44] s).1 with
  |false=>
   simp only[a0,a7,gn,hp,Bool.false_eq_true,if_false]
   exact aL.some ⟨rfl,out,rfl,jQ,aE,gZ⟩
  |true=>
   obtain⟨a6,bN⟩:=ly hp
   have aw:(bA ws [44] s).2.i=s.i+1:=by rw[a6];rfl
   have px:=hf (bA ws [44] s).2
   have l1:=q.rd.ih
   simp only[a0,aU,gn,hp,if_true]
   refine aL.ad (hm R _ aE gZ) ?_
   rintro v ae ⟨aR,aA,t2⟩
   obtain⟨n,aG,ah,au,rfl,bb⟩:=id t2
   have gN:=(ca 8 bL).aJ jQ aA (fun o U z=>by simp at U;omega)
   have c5:h.length≤R.length:=ar.len
   simp only[bP,aN,aZ,bn,bl,id_eq,bq,a1,bC,a0,a5]
   refine tb (bx:=fun o=>R.length≤o) (by decide) (by decide) (by decide) gN t2 (fun o U z=>⟨Nat.le_trans gZ.len z,fun y=>by have:=(bw.lt L y).1;omega⟩) (fun o U=>Nat.le_trans (ai.b6 gZ aA).len U) (by omega) (l2 rfl (l0 bb)) fun w aQ gh aT=> ?_
   have bh:∀o,o∈dj out→dA.length≤o:=fun o U=>(bw.lt L U).2
   exact ba f g aQ _ w _ (by omega) (by omega) (by omega) (ck.apart cS aR aT bh) ((ai.b6 gZ aA).trans aT (fun o U _=>U) (fun o U bN=>by have:=bh o U;omega)) gh (by simp;omega)
theorem TS{j:Nat}(aS:1000<j){h:Lo}{bf r:Nat}{aW:V}{ws:List br}{s:bB}{ay:bK}{dr:V}{m:fr X}(hf:hc m)(q:ck h bf r aW ws s)(hm:∀(aa:Lo) (s:bB),ck aa bf r aW ws s→ai h aa [r]→aj (ay dr [] aa) (gq bL aa bf r aW ws (m s))):
  aj (Cb j ay (.ptr bf 0 0) dr h) (gq (ca 8 bL) h bf r aW ws (k8 ws m s)):=by
 simp only[Cb]
 refine aj.ad (hm h s q (ai.refl _ _)) ?_
 rintro v R ⟨aE,ar,t2⟩
 obtain⟨n,aG,ah,au,rfl,bb⟩:=id t2
 have l1:=q.rd.ih
 simp only[bP,aN,aZ,bn,bl,id_eq,bq,a1,bC,a0,a5]
 refine ta (T:=bL) (av:=fun o=>h.length≤o∧o<R.length) (x:=(m s).1) (by decide) (by decide) (bL.mono t2 (fun o U z=>⟨z,U⟩)) (fun o z=>z.2) (l2 rfl (l0 bb)) fun y ae gN aA=> ?_
 have c5:=ar.len
 have gh:=(ca 8 bL).mono gN (bx:=fun o=>h.length≤o) (fun o U z=>by rcases z with z|z;exact z.1;omega)
 have px:=hf s
 refine aj.bO (aim j hf q hm ws.length j (ws.length+1) ae (m s).2 y [(m s).1] (by omega) (by omega) (by omega) (aE.aq aA) (ai.ro ar aA) gh (by simp)) ?_
 rintro x ak aQ ⟨rfl,out,rfl,k_,bS,bu⟩
 simp only[decide_true,aU,aN,aZ,bn,bl,id_eq,bq,a5]
 exact aj.some ⟨bS,bu,k_⟩
theorem ain(j:Nat){dA:Lo}{bf r:Nat}{aW:V}{ws:List br}{eZ:bB}{ay:bK}{dr:V}{m:fr (List X)}(hf:hc m)(cS:ck dA bf r aW ws eZ)(hm:∀(h:Lo) (s:bB),ck h bf r aW ws s→ai dA h [r]→aj (ay dr [] h) (gq (ca 8 bL) h bf r aW ws (m s))):
  ∀(d f g:Nat) (h:Lo) (s:bB) (out:V) (acc:List (List X)),ws.length-s.i≤d→d<f→d<g→ck h bf r aW ws s→ai dA h [r]→bw 1 (ca 8 bL) (fun o=>dA.length≤o) h out acc→acc.length≤s.i+1→
  aL (y1 j ay f (.ptr bf 0 0) dr out h) fun x ak aa=>x= .exit 0∧∃kc,ak=[kc]∧bw 1 (ca 8 bL) (fun o=>dA.length≤o) aa kc (gn ws m g acc s).1∧ck aa bf r aW ws (gn ws m g acc s).2∧ai dA aa [r]:=by
 intro d
 induction d with
 |zero=>
  intro f g h s out acc bj aS dt q k L ax
  obtain⟨f,rfl⟩:∃gj,f=gj+1:=⟨f-1,by omega⟩
  obtain⟨g,rfl⟩:∃cX,g=cX+1:=⟨g-1,by omega⟩
  simp only[y1,Gg,q.st.bz,q.st.af,q.dp,aO]
  refine aL.ad (fH [44] q.rd) ?_
  rintro v R ⟨rfl,d1,ar⟩
  cases hp:(bA ws [44] s).1 with
  |true=>have:=ly hp;omega
  |false=>
   simp only[a0,a7,gn,hp,Bool.false_eq_true,if_false]
   exact aL.some ⟨rfl,out,rfl,(ca 1 (ca 8 bL)).aJ L ar (fun o U z=>by simp at U;have:=cS.rd.lt;omega),q.up ar d1,ai.b6 k ar⟩
 |succ d ba=>
  intro f g h s out acc bj aS dt q k L ax
  obtain⟨f,rfl⟩:∃gj,f=gj+1:=⟨f-1,by omega⟩
  obtain⟨g,rfl⟩:∃cX,g=cX+1:=⟨g-1,by omega⟩
  simp only[y1,Gg,q.st.bz,q.st.af,q.dp,aO]
  refine aL.ad (fH [44] q.rd) ?_
  rintro v R ⟨rfl,d1,ar⟩
  have aE:=q.up ar d1
  have gZ:=ai.b6 k ar
  have iP:=cS.rd.lt
  have jQ:=(ca 1 (ca 8 bL)).aJ L ar (fun o U z=>by simp at U;omega)
  cases hp:(bA ws [44] s).1 with
  |false=>
   simp only[a0,a7,gn,hp,Bool.false_eq_true,if_false]
   exact aL.some ⟨rfl,out,rfl,jQ,aE,gZ⟩
  |true=>
   obtain⟨a6,bN⟩:=ly hp
   have aw:(bA ws [44] s).2.i=s.i+1:=by rw[a6];rfl
   have px:=hf (bA ws [44] s).2
   have l1:=q.rd.ih
   simp only[a0,aU,gn,hp,if_true]
   refine aL.ad (hm R _ aE gZ) ?_
   rintro v ae ⟨aR,aA,t2⟩
   have gN:=(ca 1 (ca 8 bL)).aJ jQ aA (fun o U z=>by simp at U;omega)
   have c5:h.length≤R.length:=ar.len
   refine tb (bx:=fun o=>R.length≤o) (by decide) (by decide) (by decide) gN t2 (fun o U z=>⟨Nat.le_trans gZ.len z,fun y=>by have:=(bw.lt L y).1;omega⟩) (fun o U=>Nat.le_trans (ai.b6 gZ aA).len U) (by omega) (MQ (bw.a8 t2).1 (bw.a8 t2).2) fun w aQ gh aT=> ?_
   have bh:∀o,o∈dj out→dA.length≤o:=fun o U=>(bw.lt L U).2
   exact ba f g aQ _ w _ (by omega) (by omega) (by omega) (ck.apart cS aR aT bh) ((ai.b6 gZ aA).trans aT (fun o U _=>U) (fun o U bN=>by have:=bh o U;omega)) gh (by simp;omega)
theorem aio{j:Nat}(aS:1000<j){h:Lo}{bf r:Nat}{aW:V}{ws:List br}{s:bB}{ay:bK}{dr:V}{m:fr (List X)}(hf:hc m)(q:ck h bf r aW ws s)(hm:∀(aa:Lo) (s:bB),ck aa bf r aW ws s→ai h aa [r]→aj (ay dr [] aa) (gq (ca 8 bL) aa bf r aW ws (m s))):
  aj (Gh j ay (.ptr bf 0 0) dr h) (gq (ca 1 (ca 8 bL)) h bf r aW ws (k8 ws m s)):=by
 simp only[Gh]
 refine aj.ad (hm h s q (ai.refl _ _)) ?_
 rintro v R ⟨aE,ar,t2⟩
 have l1:=q.rd.ih
 refine ta (T:=(ca 8 bL)) (av:=fun o=>h.length≤o∧o<R.length) (x:=(m s).1) (by decide) (by decide) ((ca 8 bL).mono t2 (fun o U z=>⟨z,U⟩)) (fun o z=>z.2) (MQ (bw.a8 t2).1 (bw.a8 t2).2) fun y ae gN aA=> ?_
 have c5:=ar.len
 have gh:=(ca 1 (ca 8 bL)).mono gN (bx:=fun o=>h.length≤o) (fun o U z=>by rcases z with z|z;exact z.1;omega)
 have px:=hf s
 refine aj.bO (ain j hf q hm ws.length j (ws.length+1) ae (m s).2 y [(m s).1] (by omega) (by omega) (by omega) (aE.aq aA) (ai.ro ar aA) gh (by simp)) ?_
 rintro x ak aQ ⟨rfl,out,rfl,k_,bS,bu⟩
 simp only[decide_true,aU,aN,aZ,bn,bl,id_eq,bq,a5]
 exact aj.some ⟨bS,bu,k_⟩
theorem aip(j:Nat){dA:Lo}{bf r:Nat}{aW:V}{ws:List br}{eZ:bB}{ay:bK}{dr:V}{m:fr h7}(hf:hc m)(cS:ck dA bf r aW ws eZ)(hm:∀(h:Lo) (s:bB),ck h bf r aW ws s→ai dA h [r]→aj (ay dr [] h) (gq fs h bf r aW ws (m s))):
  ∀(d f g:Nat) (h:Lo) (s:bB) (out:V) (acc:List h7),ws.length-s.i≤d→d<f→d<g→ck h bf r aW ws s→ai dA h [r]→bw 9 fs (fun o=>dA.length≤o) h out acc→acc.length≤s.i+1→
  aL (y3 j ay f (.ptr bf 0 0) dr out h) fun x ak aa=>x= .exit 0∧∃kc,ak=[kc]∧bw 9 fs (fun o=>dA.length≤o) aa kc (gn ws m g acc s).1∧ck aa bf r aW ws (gn ws m g acc s).2∧ai dA aa [r]:=by
 intro d
 induction d with
 |zero=>
  intro f g h s out acc bj aS dt q k L ax
  obtain⟨f,rfl⟩:∃gj,f=gj+1:=⟨f-1,by omega⟩
  obtain⟨g,rfl⟩:∃cX,g=cX+1:=⟨g-1,by omega⟩
  simp only[y3,Gl,q.st.bz,q.st.af,q.dp,aO]
  refine aL.ad (fH [44] q.rd) ?_
  rintro v R ⟨rfl,d1,ar⟩
  cases hp:(bA ws [44] s).1 with
  |true=>have:=ly hp;omega
  |false=>
   simp only[a0,a7,gn,hp,Bool.false_eq_true,if_false]
   exact aL.some ⟨rfl,out,rfl,(ca 9 fs).aJ L ar (fun o U z=>by simp at U;have:=cS.rd.lt;omega),q.up ar d1,ai.b6 k ar⟩
 |succ d ba=>
  intro f g h s out acc bj aS dt q k L ax
  obtain⟨f,rfl⟩:∃gj,f=gj+1:=⟨f-1,by omega⟩
  obtain⟨g,rfl⟩:∃cX,g=cX+1:=⟨g-1,by omega⟩
  simp only[y3,Gl,q.st.bz,q.st.af,q.dp,aO]
  refine aL.ad (fH [44] q.rd) ?_
  rintro v R ⟨rfl,d1,ar⟩
  have aE:=q.up ar d1
  have gZ:=ai.b6 k ar
  have iP:=cS.rd.lt
  have jQ:=(ca 9 fs).aJ L ar (fun o U z=>by simp at U;omega)
  cases hp:(bA ws [44] s).1 with
  |false=>
   simp only[a0,a7,gn,hp,Bool.false_eq_true,if_false]
   exact aL.some ⟨rfl,out,rfl,jQ,aE,gZ⟩
  |true=>
   obtain⟨a6,bN⟩:=ly hp
   have aw:(bA ws [44] s).2.i=s.i+1:=by rw[a6];rfl
   have px:=hf (bA ws [44] s).2
   have l1:=q.rd.ih
   simp only[a0,aU,gn,hp,if_true]
   refine aL.ad (hm R _ aE gZ) ?_
   rintro v ae ⟨aR,aA,t2⟩
   obtain⟨n,aG,ah,au,rfl,bb⟩:=id t2
   have gN:=(ca 9 fs).aJ jQ aA (fun o U z=>by simp at U;omega)
   have c5:h.length≤R.length:=ar.len
   simp only[bP,aN,aZ,bn,bl,id_eq,bq,a1,bC,a0,a5]
   refine tb (bx:=fun o=>R.length≤o) (by decide) (by decide) (by decide) gN t2 (fun o U z=>⟨Nat.le_trans gZ.len z,fun y=>by have:=(bw.lt L y).1;omega⟩) (fun o U=>Nat.le_trans (ai.b6 gZ aA).len U) (by omega) (l2 rfl (by simp only[List.all_cons,List.all_nil,gU bb];rfl)) fun w aQ gh aT=> ?_
   have bh:∀o,o∈dj out→dA.length≤o:=fun o U=>(bw.lt L U).2
   exact ba f g aQ _ w _ (by omega) (by omega) (by omega) (ck.apart cS aR aT bh) ((ai.b6 gZ aA).trans aT (fun o U _=>U) (fun o U bN=>by have:=bh o U;omega)) gh (by simp;omega)
theorem aiq{j:Nat}(aS:1000<j){h:Lo}{bf r:Nat}{aW:V}{ws:List br}{s:bB}{ay:bK}{dr:V}{m:fr h7}(hf:hc m)(q:ck h bf r aW ws s)(hm:∀(aa:Lo) (s:bB),ck aa bf r aW ws s→ai h aa [r]→aj (ay dr [] aa) (gq fs aa bf r aW ws (m s))):
  aj (Gm j ay (.ptr bf 0 0) dr h) (gq (ca 9 fs) h bf r aW ws (k8 ws m s)):=by
 simp only[Gm]
 refine aj.ad (hm h s q (ai.refl _ _)) ?_
 rintro v R ⟨aE,ar,t2⟩
 obtain⟨n,aG,ah,au,rfl,bb⟩:=id t2
 have l1:=q.rd.ih
 simp only[bP,aN,aZ,bn,bl,id_eq,bq,a1,bC,a0,a5]
 refine ta (T:=fs) (av:=fun o=>h.length≤o∧o<R.length) (x:=(m s).1) (by decide) (by decide) (fs.mono t2 (fun o U z=>⟨z,U⟩)) (fun o z=>z.2) (l2 rfl (by simp only[List.all_cons,List.all_nil,gU bb];rfl)) fun y ae gN aA=> ?_
 have c5:=ar.len
 have gh:=(ca 9 fs).mono gN (bx:=fun o=>h.length≤o) (fun o U z=>by rcases z with z|z;exact z.1;omega)
 have px:=hf s
 refine aj.bO (aip j hf q hm ws.length j (ws.length+1) ae (m s).2 y [(m s).1] (by omega) (by omega) (by omega) (aE.aq aA) (ai.ro ar aA) gh (by simp)) ?_
 rintro x ak aQ ⟨rfl,out,rfl,k_,bS,bu⟩
 simp only[decide_true,aU,aN,aZ,bn,bl,id_eq,bq,a5]
 exact aj.some ⟨bS,bu,k_⟩
theorem air(j:Nat){dA:Lo}{bf r:Nat}{aW:V}{ws:List br}{eZ:bB}{ay:bK}{dr:V}{m:fr ij}(hf:hc m)(cS:ck dA bf r aW ws eZ)(hm:∀(h:Lo) (s:bB),ck h bf r aW ws s→ai dA h [r]→aj (ay dr [] h) (gq eC h bf r aW ws (m s))):
  ∀(d f g:Nat) (h:Lo) (s:bB) (out:V) (acc:List ij),ws.length-s.i≤d→d<f→d<g→ck h bf r aW ws s→ai dA h [r]→bw 9 eC (fun o=>dA.length≤o) h out acc→acc.length≤s.i+1→
  aL (yV j ay f (.ptr bf 0 0) dr out h) fun x ak aa=>x= .exit 0∧∃kc,ak=[kc]∧bw 9 eC (fun o=>dA.length≤o) aa kc (gn ws m g acc s).1∧ck aa bf r aW ws (gn ws m g acc s).2∧ai dA aa [r]:=by
 intro d
 induction d with
 |zero=>
  intro f g h s out acc bj aS dt q k L ax
  obtain⟨f,rfl⟩:∃gj,f=gj+1:=⟨f-1,by omega⟩
  obtain⟨g,rfl⟩:∃cX,g=cX+1:=⟨g-1,by omega⟩
  simp only[yV,FU,q.st.bz,q.st.af,q.dp,aO]
  refine aL.ad (fH [44] q.rd) ?_
  rintro v R ⟨rfl,d1,ar⟩
  cases hp:(bA ws [44] s).1 with
  |true=>have:=ly hp;omega
  |false=>
   simp only[a0,a7,gn,hp,Bool.false_eq_true,if_false]
   exact aL.some ⟨rfl,out,rfl,(ca 9 eC).aJ L ar (fun o U z=>by simp at U;have:=cS.rd.lt;omega),q.up ar d1,ai.b6 k ar⟩
 |succ d ba=>
  intro f g h s out acc bj aS dt q k L ax
  obtain⟨f,rfl⟩:∃gj,f=gj+1:=⟨f-1,by omega⟩
  obtain⟨g,rfl⟩:∃cX,g=cX+1:=⟨g-1,by omega⟩
  simp only[yV,FU,q.st.bz,q.st.af,q.dp,aO]
  refine aL.ad (fH [44] q.rd) ?_
  rintro v R ⟨rfl,d1,ar⟩
  have aE:=q.up ar d1
  have gZ:=ai.b6 k ar
  have iP:=cS.rd.lt
  have jQ:=(ca 9 eC).aJ L ar (fun o U z=>by simp at U;omega)
  cases hp:(bA ws [44] s).1 with
  |false=>
   simp only[a0,a7,gn,hp,Bool.false_eq_true,if_false]
   exact aL.some ⟨rfl,out,rfl,jQ,aE,gZ⟩
  |true=>
   obtain⟨a6,bN⟩:=ly hp
   have aw:(bA ws [44] s).2.i=s.i+1:=by rw[a6];rfl
   have px:=hf (bA ws [44] s).2
   have l1:=q.rd.ih
   simp only[a0,aU,gn,hp,if_true]
   refine aL.ad (hm R _ aE gZ) ?_
   rintro v ae ⟨aR,aA,t2⟩
   obtain⟨n,aG,ah,au,rfl,bb⟩:=id t2
   have gN:=(ca 9 eC).aJ jQ aA (fun o U z=>by simp at U;omega)
   have c5:h.length≤R.length:=ar.len
   simp only[bP,aN,aZ,bn,bl,id_eq,bq,a1,bC,a0,a5]
   refine tb (bx:=fun o=>R.length≤o) (by decide) (by decide) (by decide) gN t2 (fun o U z=>⟨Nat.le_trans gZ.len z,fun y=>by have:=(bw.lt L y).1;omega⟩) (fun o U=>Nat.le_trans (ai.b6 gZ aA).len U) (by omega) (l2 rfl (by simp only[List.all_cons,List.all_nil,gU bb];rfl)) fun w aQ gh aT=> ?_
   have bh:∀o,o∈dj out→dA.length≤o:=fun o U=>(bw.lt L U).2
   exact ba f g aQ _ w _ (by omega) (by omega) (by omega) (ck.apart cS aR aT bh) ((ai.b6 gZ aA).trans aT (fun o U _=>U) (fun o U bN=>by have:=bh o U;omega)) gh (by simp;omega)
theorem ais{j:Nat}(aS:1000<j){h:Lo}{bf r:Nat}{aW:V}{ws:List br}{s:bB}{ay:bK}{dr:V}{m:fr ij}(hf:hc m)(q:ck h bf r aW ws s)(hm:∀(aa:Lo) (s:bB),ck aa bf r aW ws s→ai h aa [r]→aj (ay dr [] aa) (gq eC aa bf r aW ws (m s))):
  aj (FV j ay (.ptr bf 0 0) dr h) (gq (ca 9 eC) h bf r aW ws (k8 ws m s)):=by
 simp only[FV]
 refine aj.ad (hm h s q (ai.refl _ _)) ?_
 rintro v R ⟨aE,ar,t2⟩
 obtain⟨n,aG,ah,au,rfl,bb⟩:=id t2
 have l1:=q.rd.ih
 simp only[bP,aN,aZ,bn,bl,id_eq,bq,a1,bC,a0,a5]
 refine ta (T:=eC) (av:=fun o=>h.length≤o∧o<R.length) (x:=(m s).1) (by decide) (by decide) (eC.mono t2 (fun o U z=>⟨z,U⟩)) (fun o z=>z.2) (l2 rfl (by simp only[List.all_cons,List.all_nil,gU bb];rfl)) fun y ae gN aA=> ?_
 have c5:=ar.len
 have gh:=(ca 9 eC).mono gN (bx:=fun o=>h.length≤o) (fun o U z=>by rcases z with z|z;exact z.1;omega)
 have px:=hf s
 refine aj.bO (air j hf q hm ws.length j (ws.length+1) ae (m s).2 y [(m s).1] (by omega) (by omega) (by omega) (aE.aq aA) (ai.ro ar aA) gh (by simp)) ?_
 rintro x ak aQ ⟨rfl,out,rfl,k_,bS,bu⟩
 simp only[decide_true,aU,aN,aZ,bn,bl,id_eq,bq,a5]
 exact aj.some ⟨bS,bu,k_⟩
theorem ait(j:Nat){dA:Lo}{bf r:Nat}{aW:V}{ws:List br}{eZ:bB}{ay:bK}{dr:V}{m:fr iH}(hf:hc m)(cS:ck dA bf r aW ws eZ)(hm:∀(h:Lo) (s:bB),ck h bf r aW ws s→ai dA h [r]→aj (ay dr [] h) (gq eS h bf r aW ws (m s))):
  ∀(d f g:Nat) (h:Lo) (s:bB) (out:V) (acc:List iH),ws.length-s.i≤d→d<f→d<g→ck h bf r aW ws s→ai dA h [r]→bw 9 eS (fun o=>dA.length≤o) h out acc→acc.length≤s.i+1→
  aL (yX j ay f (.ptr bf 0 0) dr out h) fun x ak aa=>x= .exit 0∧∃kc,ak=[kc]∧bw 9 eS (fun o=>dA.length≤o) aa kc (gn ws m g acc s).1∧ck aa bf r aW ws (gn ws m g acc s).2∧ai dA aa [r]:=by
 intro d
 induction d with
 |zero=>
  intro f g h s out acc bj aS dt q k L ax
  obtain⟨f,rfl⟩:∃gj,f=gj+1:=⟨f-1,by omega⟩
  obtain⟨g,rfl⟩:∃cX,g=cX+1:=⟨g-1,by omega⟩
  simp only[yX,FY,q.st.bz,q.st.af,q.dp,aO]
  refine aL.ad (fH [44] q.rd) ?_
  rintro v R ⟨rfl,d1,ar⟩
  cases hp:(bA ws [44] s).1 with
  |true=>have:=ly hp;omega
  |false=>
   simp only[a0,a7,gn,hp,Bool.false_eq_true,if_false]
   exact aL.some ⟨rfl,out,rfl,(ca 9 eS).aJ L ar (fun o U z=>by simp at U;have:=cS.rd.lt;omega),q.up ar d1,ai.b6 k ar⟩
 |succ d ba=>
  intro f g h s out acc bj aS dt q k L ax
  obtain⟨f,rfl⟩:∃gj,f=gj+1:=⟨f-1,by omega⟩
  obtain⟨g,rfl⟩:∃cX,g=cX+1:=⟨g-1,by omega⟩
  simp only[yX,FY,q.st.bz,q.st.af,q.dp,aO]
  refine aL.ad (fH [44] q.rd) ?_
  rintro v R ⟨rfl,d1,ar⟩
  have aE:=q.up ar d1
  have gZ:=ai.b6 k ar
  have iP:=cS.rd.lt
  have jQ:=(ca 9 eS).aJ L ar (fun o U z=>by simp at U;omega)
  cases hp:(bA ws [44] s).1 with
  |false=>
   simp only[a0,a7,gn,hp,Bool.false_eq_true,if_false]
   exact aL.some ⟨rfl,out,rfl,jQ,aE,gZ⟩
  |true=>
   obtain⟨a6,bN⟩:=ly hp
   have aw:(bA ws [44] s).2.i=s.i+1:=by rw[a6];rfl
   have px:=hf (bA ws [44] s).2
   have l1:=q.rd.ih
   simp only[a0,aU,gn,hp,if_true]
   refine aL.ad (hm R _ aE gZ) ?_
   rintro v ae ⟨aR,aA,t2⟩
   obtain⟨n,aG,ah,au,rfl,bb⟩:=id t2
   have gN:=(ca 9 eS).aJ jQ aA (fun o U z=>by simp at U;omega)
   have c5:h.length≤R.length:=ar.len
   simp only[bP,aN,aZ,bn,bl,id_eq,bq,a1,bC,a0,a5]
   refine tb (bx:=fun o=>R.length≤o) (by decide) (by decide) (by decide) gN t2 (fun o U z=>⟨Nat.le_trans gZ.len z,fun y=>by have:=(bw.lt L y).1;omega⟩) (fun o U=>Nat.le_trans (ai.b6 gZ aA).len U) (by omega) (l2 rfl (by simp only[List.all_cons,List.all_nil,gU bb];rfl)) fun w aQ gh aT=> ?_
   have bh:∀o,o∈dj out→dA.length≤o:=fun o U=>(bw.lt L U).2
   exact ba f g aQ _ w _ (by omega) (by omega) (by omega) (ck.apart cS aR aT bh) ((ai.b6 gZ aA).trans aT (fun o U _=>U) (fun o U bN=>by have:=bh o U;omega)) gh (by simp;omega)
theorem aiu{j:Nat}(aS:1000<j){h:Lo}{bf r:Nat}{aW:V}{ws:List br}{s:bB}{ay:bK}{dr:V}{m:fr iH}(hf:hc m)(q:ck h bf r aW ws s)(hm:∀(aa:Lo) (s:bB),ck aa bf r aW ws s→ai h aa [r]→aj (ay dr [] aa) (gq eS aa bf r aW ws (m s))):
  aj (FZ j ay (.ptr bf 0 0) dr h) (gq (ca 9 eS) h bf r aW ws (k8 ws m s)):=by
 simp only[FZ]
 refine aj.ad (hm h s q (ai.refl _ _)) ?_
 rintro v R ⟨aE,ar,t2⟩
 obtain⟨n,aG,ah,au,rfl,bb⟩:=id t2
 have l1:=q.rd.ih
 simp only[bP,aN,aZ,bn,bl,id_eq,bq,a1,bC,a0,a5]
 refine ta (T:=eS) (av:=fun o=>h.length≤o∧o<R.length) (x:=(m s).1) (by decide) (by decide) (eS.mono t2 (fun o U z=>⟨z,U⟩)) (fun o z=>z.2) (l2 rfl (by simp only[List.all_cons,List.all_nil,gU bb];rfl)) fun y ae gN aA=> ?_
 have c5:=ar.len
 have gh:=(ca 9 eS).mono gN (bx:=fun o=>h.length≤o) (fun o U z=>by rcases z with z|z;exact z.1;omega)
 have px:=hf s
 refine aj.bO (ait j hf q hm ws.length j (ws.length+1) ae (m s).2 y [(m s).1] (by omega) (by omega) (by omega) (aE.aq aA) (ai.ro ar aA) gh (by simp)) ?_
 rintro x ak aQ ⟨rfl,out,rfl,k_,bS,bu⟩
 simp only[decide_true,aU,aN,aZ,bn,bl,id_eq,bq,a5]
 exact aj.some ⟨bS,bu,k_⟩
theorem aiv{j:Nat}(aS:1000<j){h:Lo}{bf r:Nat}{aW:V}{ws:List br}{s:bB}{ay:bK}{dr:V}{m:fr jz}(hf:hc m)(q:ck h bf r aW ws s)(hm:∀(aa:Lo) (s:bB),ck aa bf r aW ws s→ai h aa [r]→aj (ay dr [] aa) (gq fI aa bf r aW ws (m s))):
  aj (F8 j ay (.ptr bf 0 0) dr h) (gq (ca 4 fI) h bf r aW ws (nv ws m s)):=by
 simp only[F8,q.st.bz,q.st.af,q.dp,aO]
 refine k4 aS q.rd (l:=[[40]]) (ah:=[(0, .str [40])]) rfl (by decide) rfl rfl fun R d1 ar=> ?_
 have aE:=q.up ar d1
 refine aj.ad (aij aS hf aE (fun aa s d k=>hm aa s d (ai.b6 ar k))) ?_
 rintro v ae ⟨aR,aA,gN⟩
 simp only[aR.st.bz,aR.st.af,aR.dp,aO]
 refine k4 aS aR.rd (l:=[[41]]) (ah:=[(0, .str [41])]) rfl (by decide) rfl rfl fun aQ d3 aT=> ?_
 have iP:=aE.rd.lt
 have c5:=ar.len
 exact aj.some ⟨aR.up aT d3,ai.b6 (ai.b6 ar aA) aT,(ca 4 fI).mono ((ca 4 fI).aJ gN aT (fun o U z=>by simp at U;omega)) (fun o U z=>by omega)⟩
theorem aiw{j:Nat}(aS:1000<j){h:Lo}{bf r:Nat}{aW:V}{ws:List br}{s:bB}{ay:bK}{dr:V}{m:fr (Lu)}(hf:hc m)(q:ck h bf r aW ws s)(hm:∀(aa:Lo) (s:bB),ck aa bf r aW ws s→ai h aa [r]→aj (ay dr [] aa) (gq fM aa bf r aW ws (m s))):
  aj (Gd j ay (.ptr bf 0 0) dr h) (gq (ca 1 fM) h bf r aW ws (nv ws m s)):=by
 simp only[Gd,q.st.bz,q.st.af,q.dp,aO]
 refine k4 aS q.rd (l:=[[40]]) (ah:=[(0, .str [40])]) rfl (by decide) rfl rfl fun R d1 ar=> ?_
 have aE:=q.up ar d1
 refine aj.ad (ail aS hf aE (fun aa s d k=>hm aa s d (ai.b6 ar k))) ?_
 rintro v ae ⟨aR,aA,gN⟩
 simp only[aR.st.bz,aR.st.af,aR.dp,aO]
 refine k4 aS aR.rd (l:=[[41]]) (ah:=[(0, .str [41])]) rfl (by decide) rfl rfl fun aQ d3 aT=> ?_
 have iP:=aE.rd.lt
 have c5:=ar.len
 exact aj.some ⟨aR.up aT d3,ai.b6 (ai.b6 ar aA) aT,(ca 1 fM).mono ((ca 1 fM).aJ gN aT (fun o U z=>by simp at U;omega)) (fun o U z=>by omega)⟩
theorem aix{j:Nat}(aS:1000<j){h:Lo}{bf r:Nat}{aW:V}{ws:List br}{s:bB}{ay:bK}{dr:V}{m:fr X}(hf:hc m)(q:ck h bf r aW ws s)(hm:∀(aa:Lo) (s:bB),ck aa bf r aW ws s→ai h aa [r]→aj (ay dr [] aa) (gq bL aa bf r aW ws (m s))):
  aj (Gi j ay (.ptr bf 0 0) dr h) (gq (ca 8 bL) h bf r aW ws (nv ws m s)):=by
 simp only[Gi,q.st.bz,q.st.af,q.dp,aO]
 refine k4 aS q.rd (l:=[[40]]) (ah:=[(0, .str [40])]) rfl (by decide) rfl rfl fun R d1 ar=> ?_
 have aE:=q.up ar d1
 refine aj.ad (TS aS hf aE (fun aa s d k=>hm aa s d (ai.b6 ar k))) ?_
 rintro v ae ⟨aR,aA,gN⟩
 simp only[aR.st.bz,aR.st.af,aR.dp,aO]
 refine k4 aS aR.rd (l:=[[41]]) (ah:=[(0, .str [41])]) rfl (by decide) rfl rfl fun aQ d3 aT=> ?_
 have iP:=aE.rd.lt
 have c5:=ar.len
 exact aj.some ⟨aR.up aT d3,ai.b6 (ai.b6 ar aA) aT,(ca 8 bL).mono ((ca 8 bL).aJ gN aT (fun o U z=>by simp at U;omega)) (fun o U z=>by omega)⟩
end Go.Proofs.YtjpjeilfmjdhcaaGreat.fC
