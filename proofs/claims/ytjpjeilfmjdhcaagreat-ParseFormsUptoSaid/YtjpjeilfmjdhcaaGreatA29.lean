/- Statements: one among a claim's data; the statement for every input of bounded bulk. No condition. -/
import Derived.Test.YtjpjeilfmjdhcaaGreatA28
import Derived.Test.YtjpjeilfmjdhcaaGreatA3
import Derived.Test.YtjpjeilfmjdhcaaGreatRows
set_option maxRecDepth 100000
set_option linter.unusedVariables false
set_option linter.unusedSimpArgs false
set_option linter.unnecessarySimpa false
set_option linter.unusedSectionVars false
namespace Go.Proofs.YtjpjeilfmjdhcaaGreat.AI
open Go E eI fq fC f_ m3 h3 Jk
variable {H:Type} {B:Nat}
theorem W6{α:Type}{T:hd α}{Q:α→Prop}:∀{es:Lv},(∀v,v∈es→∃x,T.aK dH [] v x∧Q x)→∃xs:List α,es.length=xs.length∧(∀(i:Nat) (aw:i<xs.length),∃e,es[i]? =some e∧T.aK dH [] e xs[i])∧∀x,x∈xs→Q x
 | [],_=>⟨[],rfl,fun i aw=>by simp at aw,fun x au=>by cases au⟩
 |e::es,h=>by
  obtain⟨xs,R,ae,aQ⟩:=W6 (es:=es) (fun v bg=>h v (List.mem_cons_of_mem _ bg))
  obtain⟨x,cp,du⟩:=h e List.mem_cons_self
  refine⟨x::xs,by simp[R],fun i aw=> ?_,fun y bT=> ?_⟩
  ·cases i with
   |zero=>exact⟨e,rfl,cp⟩
   |succ i=>exact ae i (by simpa using aw)
  ·rcases List.mem_cons.1 bT with rfl|bT
   ·exact du
   ·exact aQ y bT
theorem tD{α:Type}{T:hd α}{az:Nat}{Q:α→Prop}{d:DataW H}{t e:TypeId}{ak:Lv}(hu:Tryz.prog.underlying t=some (.slice e))(h:e3 Tryz.prog d t=some ak)(aF:g7 d≤B)(aS:∀v x,T.aK dH [] v x→v.cells.length=az)
  (he:∀(jL:DataW H) (cs:Lv),e3 Tryz.prog jL e=some cs→g7 jL<g7 d→∃x,T.aK dH [] (elemV Tryz.prog e cs) x∧Q x):
  ∃v xs,ak=[v]∧aC az T dH [] v xs∧xs.length≤B∧∀x,x∈xs→Q x:=by
 rcases Rh hu h with rfl|⟨es,rfl,ax,bg⟩
 ·exact⟨_,[],rfl,aC.ab _ _ _ _,Nat.zero_le _,fun x au=>by cases au⟩
 ·have each:∀v,v∈es→∃x,T.aK dH [] v x∧Q x:=fun v aqt=>by
   obtain⟨jL,cs,R,rfl,ae⟩:=bg v aqt
   exact he jL cs R (by omega)
  obtain⟨xs,R,ae,aQ⟩:=W6 each
  refine⟨_,xs,rfl,⟨es,dq.cx ?_,R,fun o U=>(nomatch U),ae⟩,by omega,aQ⟩
  cases es with
  |nil=>simp[rr]
  |cons v es=>
   obtain⟨x,au,-⟩:=each v List.mem_cons_self
   simp[rr,aS v x au]
theorem wH:En Tryz.prog 57=true:=by kernel_rfl
theorem aqu{d:DataW H}{ak:Lv}(h:e3 Tryz.prog d 55=some ak):∃eh ed s,ak=[.int .i64 eh, .int .i64 ed, .str s]:=by
 obtain⟨ah,rfl,cS⟩:=sH Tryz.underlying55 h
 obtain⟨d0,tc,df,fi,rfl,n_,aE,rfl⟩:=g6 cS
 obtain⟨d1,lX,b5,dL,rfl,aX,aR,rfl⟩:=g6 aE
 obtain⟨d2,n1,cI,fL,rfl,aY,bE,rfl⟩:=g6 aR
 obtain⟨rfl,rfl⟩:=sI bE
 obtain⟨k,rfl,_⟩:=yf Tryz.underlying3 n_
 obtain⟨n,rfl,_⟩:=yf Tryz.underlying2 aX
 obtain⟨s,rfl⟩:=Eo Tryz.underlying9 aY
 exact⟨k,n,s,rfl⟩
theorem W7(v:V)(x:X)(h:bL.aK dH [] v x):v.cells.length=8:=by
 obtain⟨n,aG,ah,-,rfl,-⟩:=h;rfl
theorem AJ:∀(z:Nat) (d:DataW H) (ak:Lv),g7 d≤z→g7 d≤B→e3 Tryz.prog d 57=some ak→∃n aG ah,ak=bH n aG∧c6 dH [] (.agg (bH n aG)) (.mk n ah)∧e1 B (.mk n ah)
 |0,d,ak,b0,_,_=>by have:=Re d;omega
 |z+1,d,ak,b0,ez,h=>by
  obtain⟨ah,rfl,cS⟩:=sH Tryz.underlying57 h
  obtain⟨d0,tc,df,fi,rfl,n_,aE,rfl⟩:=g6 cS
  obtain⟨d1,lX,b5,dL,rfl,aX,aR,rfl⟩:=g6 aE
  obtain⟨d2,n1,cI,fL,rfl,aY,bE,rfl⟩:=g6 aR
  obtain⟨d3,W8,fo,j5,rfl,cU,bS,rfl⟩:=g6 bE
  obtain⟨d4,aqv,gC,kH,rfl,h_,dn,rfl⟩:=g6 bS
  obtain⟨d5,aqw,gb,jw,rfl,ma,ej,rfl⟩:=g6 dn
  obtain⟨rfl,rfl⟩:=sI ej
  obtain⟨k,rfl,_⟩:=yf Tryz.underlying3 n_
  obtain⟨op,rfl⟩:=Eo Tryz.underlying9 aX
  obtain⟨eh,ed,s,rfl⟩:=aqu aY
  obtain⟨dG,rfl,i_⟩:=rE Tryz.underlying9 cU
  obtain⟨c7,rfl,ns⟩:=rE Tryz.underlying9 h_
  have j5:=jK (ah:=[d0,d1,d2,d3,d4,d5]) (d:=d3) (by simp)
  have kH:=jK (ah:=[d0,d1,d2,d3,d4,d5]) (d:=d4) (by simp)
  have jw:=jK (ah:=[d0,d1,d2,d3,d4,d5]) (d:=d5) (by simp)
  obtain⟨aG,xs,rfl,L,ig,bm⟩:=tD (B:=B) (T:=bL) (az:=8) (Q:=e1 B) Tryz.underlying26 ma (by omega) W7 (fun jL cs R ae=>by
   obtain⟨n,aG,ah,rfl,ex,gp⟩:=AJ z jL cs (by omega) (by omega) R
   rw[v_ wH]
   exact⟨_,⟨n,aG,ah,rfl,rfl,ex⟩,gp⟩)
  obtain⟨D,b_⟩:=N5 bm
  obtain⟨es,s1,ax,-,he⟩:=L
  refine⟨⟨k,op,eh,ed,s,dG,c7⟩,aG,xs,rfl, ?_,D+1,⟨by show dG.length≤B;omega,by show c7.length≤B;omega,ig⟩,b_⟩
  refine c6.mk (n:=⟨k,op,eh,ed,s,dG,c7⟩) s1 (fun o U=> ?_) ax (fun i e p R ae=> ?_)
  ·rcases Rh Tryz.underlying26 ma with z|⟨cc,z,-⟩<;>(injection z with z;subst z;cases U)
  ·have aw:i<xs.length:=(List.getElem?_eq_some_iff.1 ae).1
   obtain⟨ct,aV,n,lr,lu,cp,du,fB⟩:=he i aw
   rw[aV] at R;injection R with R;subst R
   rw[List.getElem?_eq_getElem aw] at ae;injection ae with ae
   rw[←ae,cp,du];exact fB
theorem Jq{d:DataW H}{ak:Lv}(ez:g7 d≤B)(h:e3 Tryz.prog d 26=some ak):∃v xs,ak=[v]∧aC 8 bL dH [] v xs∧xs.length≤B∧∀x,x∈xs→e1 B x:=
 tD (B:=B) (T:=bL) (az:=8) (Q:=e1 B) Tryz.underlying26 h ez W7 (fun jL cs R ae=>by
  obtain⟨n,aG,ah,rfl,ex,gp⟩:=AJ (B:=B) _ jL cs (Nat.le_refl _) (by omega) R
  rw[v_ wH]
  exact⟨_,⟨n,aG,ah,rfl,rfl,ex⟩,gp⟩)
theorem aqx{d:DataW H}{ak:Lv}(ez:g7 d≤B)(h:e3 Tryz.prog d 24=some ak):∃v xs,ak=[v]∧aC 1 (cl 8 bL) dH [] v xs∧xs.length≤B∧∀r,r∈xs→r.length≤B∧∀x,x∈r→e1 B x:=
 tD (B:=B) (T:=cl 8 bL) (az:=1) (Q:=fun r:List X=>r.length≤B∧∀x,x∈r→e1 B x) Tryz.underlying24 h ez (fun v x l=>by rw[(aC.a8 (show aC 8 bL dH [] v x from l)).1];rfl) (fun jL cs R ae=>by
  obtain⟨v,xs,rfl,L,c5,ew⟩:=Jq (B:=B) (by omega) R
  rw[Ri (by kernel_rfl)]
  exact⟨xs,L,c5,ew⟩)
theorem aqy{d:DataW H}{ak:Lv}(ez:g7 d≤B)(h:e3 Tryz.prog d 23=some ak):∃v xs,ak=[v]∧aC 1 fM dH [] v xs∧xs.length≤B∧∀k,k∈xs→k.length≤B:=
 tD (B:=B) (T:=fM) (az:=1) (Q:=fun k:Lu=>k.length≤B) Tryz.underlying23 h ez (fun v x l=>by rw[show v= .str x from l];rfl) (fun jL cs R ae=>by
  obtain⟨s,rfl,l⟩:=rE Tryz.underlying9 R
  rw[Ri (by kernel_rfl)]
  exact⟨s,rfl,by omega⟩)
theorem aqz{d:DataW H}{ak:Lv}(ez:g7 d≤B)(h:e3 Tryz.prog d 22=some ak):∃v xs,ak=[v]∧aC 4 fI dH [] v xs∧xs.length≤B∧∀c,c∈xs→c.n.length≤B:=
 tD (B:=B) (T:=fI) (az:=4) (Q:=fun c:jz=>c.n.length≤B) Tryz.underlying22 h ez (fun v x l=>by rw[show v=_ from l];rfl) (fun jL cs R ae=>by
  obtain⟨ah,rfl,cS⟩:=sH Tryz.underlying82 R
  obtain⟨d0,tc,df,fi,rfl,n_,aE,rfl⟩:=g6 cS
  obtain⟨d1,lX,b5,dL,rfl,aX,aR,rfl⟩:=g6 aE
  obtain⟨d2,n1,cI,fL,rfl,aY,bE,rfl⟩:=g6 aR
  obtain⟨d3,W8,fo,j5,rfl,cU,bS,rfl⟩:=g6 bE
  obtain⟨rfl,rfl⟩:=sI bS
  obtain⟨n,rfl,l⟩:=rE Tryz.underlying9 n_
  obtain⟨k,rfl,_⟩:=yf Tryz.underlying3 aX
  obtain⟨iG,rfl⟩:=x9 Tryz.underlying4 aY
  obtain⟨un,rfl⟩:=x9 Tryz.underlying4 cU
  have fi:=jK (ah:=[d0,d1,d2,d3]) (d:=d0) (by simp)
  rw[v_ (by kernel_rfl)]
  exact⟨⟨n,k,iG,un⟩,rfl,by show n.length≤B;omega⟩)
theorem aqA{d:DataW H}{ak:Lv}(ez:g7 d≤B)(h:e3 Tryz.prog d 25=some ak):∃v xs,ak=[v]∧aC 9 fs dH [] v xs∧xs.length≤B∧∀c,c∈xs→c.c.length≤B∧e1 B c.e:=
 tD (B:=B) (T:=fs) (az:=9) (Q:=fun c:h7=>c.c.length≤B∧e1 B c.e) Tryz.underlying25 h ez (fun v x l=>by obtain⟨n,aG,ah,-,rfl,-⟩:=l;rfl) (fun jL cs R ae=>by
  obtain⟨ah,rfl,cS⟩:=sH Tryz.underlying59 R
  obtain⟨d0,tc,df,fi,rfl,n_,aE,rfl⟩:=g6 cS
  obtain⟨d1,lX,b5,dL,rfl,aX,aR,rfl⟩:=g6 aE
  obtain⟨rfl,rfl⟩:=sI aR
  have fi:=jK (ah:=[d0,d1]) (d:=d0) (by simp)
  have dL:=jK (ah:=[d0,d1]) (d:=d1) (by simp)
  obtain⟨n,rfl,l⟩:=rE Tryz.underlying9 n_
  obtain⟨bU,aG,ah,rfl,ex,gp⟩:=AJ (B:=B) _ _ _ (Nat.le_refl _) (by omega) aX
  rw[v_ (by kernel_rfl)]
  exact⟨⟨n, .mk bU ah⟩,⟨bU,aG,ah,rfl,rfl,ex⟩,by show n.length≤B;omega,gp⟩)
theorem aqB{d:DataW H}{ak:Lv}(ez:g7 d≤B)(h:e3 Tryz.prog d 27=some ak):∃v xs,ak=[v]∧aC 9 eC dH [] v xs∧xs.length≤B∧∀c,c∈xs→c.n.length≤B∧e1 B c.e:=
 tD (B:=B) (T:=eC) (az:=9) (Q:=fun c:ij=>c.n.length≤B∧e1 B c.e) Tryz.underlying27 h ez (fun v x l=>by obtain⟨n,aG,ah,-,rfl,-⟩:=l;rfl) (fun jL cs R ae=>by
  obtain⟨ah,rfl,cS⟩:=sH Tryz.underlying61 R
  obtain⟨d0,tc,df,fi,rfl,n_,aE,rfl⟩:=g6 cS
  obtain⟨d1,lX,b5,dL,rfl,aX,aR,rfl⟩:=g6 aE
  obtain⟨rfl,rfl⟩:=sI aR
  have fi:=jK (ah:=[d0,d1]) (d:=d0) (by simp)
  have dL:=jK (ah:=[d0,d1]) (d:=d1) (by simp)
  obtain⟨n,rfl,l⟩:=rE Tryz.underlying9 aX
  obtain⟨bU,aG,ah,rfl,ex,gp⟩:=AJ (B:=B) _ _ _ (Nat.le_refl _) (by omega) n_
  rw[v_ (by kernel_rfl)]
  exact⟨⟨.mk bU ah,n⟩,⟨bU,aG,ah,rfl,rfl,ex⟩,by show n.length≤B;omega,gp⟩)
theorem aqC{d:DataW H}{ak:Lv}(ez:g7 d≤B)(h:e3 Tryz.prog d 29=some ak):∃v xs,ak=[v]∧aC 9 eS dH [] v xs∧xs.length≤B∧∀c,c∈xs→e1 B c.e:=
 tD (B:=B) (T:=eS) (az:=9) (Q:=fun c:iH=>e1 B c.e) Tryz.underlying29 h ez (fun v x l=>by obtain⟨n,aG,ah,-,rfl,-⟩:=l;rfl) (fun jL cs R ae=>by
  obtain⟨ah,rfl,cS⟩:=sH Tryz.underlying65 R
  obtain⟨d0,tc,df,fi,rfl,n_,aE,rfl⟩:=g6 cS
  obtain⟨d1,lX,b5,dL,rfl,aX,aR,rfl⟩:=g6 aE
  obtain⟨rfl,rfl⟩:=sI aR
  have fi:=jK (ah:=[d0,d1]) (d:=d0) (by simp)
  obtain⟨n,rfl⟩:=x9 Tryz.underlying4 aX
  obtain⟨bU,aG,ah,rfl,ex,gp⟩:=AJ (B:=B) _ _ _ (Nat.le_refl _) (by omega) n_
  rw[v_ (by kernel_rfl)]
  exact⟨⟨.mk bU ah,n⟩,⟨bU,aG,ah,rfl,rfl,ex⟩,gp⟩)
theorem aqD{d:DataW H}{ak:Lv}(ez:g7 d≤B)(h:e3 Tryz.prog d 28=some ak):∃v xs,ak=[v]∧aC 10 eM dH [] v xs∧xs.length≤B∧∀c,c∈xs→(c.t.length≤B∧c.n.length≤B)∧e1 B c.on:=
 tD (B:=B) (T:=eM) (az:=10) (Q:=fun c:hB=>(c.t.length≤B∧c.n.length≤B)∧e1 B c.on) Tryz.underlying28 h ez (fun v x l=>by obtain⟨n,aG,ah,-,rfl,-⟩:=l;rfl) (fun jL cs R ae=>by
  obtain⟨ah,rfl,cS⟩:=sH Tryz.underlying63 R
  obtain⟨d0,tc,df,fi,rfl,n_,aE,rfl⟩:=g6 cS
  obtain⟨d1,lX,b5,dL,rfl,aX,aR,rfl⟩:=g6 aE
  obtain⟨d2,n1,cI,fL,rfl,aY,bE,rfl⟩:=g6 aR
  obtain⟨rfl,rfl⟩:=sI bE
  have fi:=jK (ah:=[d0,d1,d2]) (d:=d0) (by simp)
  have dL:=jK (ah:=[d0,d1,d2]) (d:=d1) (by simp)
  have fL:=jK (ah:=[d0,d1,d2]) (d:=d2) (by simp)
  obtain⟨t,rfl,c5⟩:=rE Tryz.underlying9 n_
  obtain⟨n,rfl,ew⟩:=rE Tryz.underlying9 aX
  obtain⟨bU,aG,ah,rfl,ex,gp⟩:=AJ (B:=B) _ _ _ (Nat.le_refl _) (by omega) aY
  rw[v_ (by kernel_rfl)]
  exact⟨⟨t,n, .mk bU ah⟩,⟨bU,aG,ah,rfl,rfl,ex⟩,⟨by show t.length≤B;omega,by show n.length≤B;omega⟩,gp⟩)
theorem W9{d:DataW H}{ak:Lv}(ez:g7 d≤B)(h:e3 Tryz.prog d 33=some ak):∃(m:ea) (bF bD b8 cu cK a b c d e:V),ak=fb m.k m.name m.on m.un bF bD b8 cu cK m.q.ch m.q.star a b c d e m.q.b7∧vf bF bD b8 cu cK a b c d e m∧(∃D,h9 B D B m)∧l5 B m:=by
 obtain⟨ah,rfl,cS⟩:=sH Tryz.underlying33 h
 obtain⟨d0,tc,df,fi,rfl,n_,aE,rfl⟩:=g6 cS
 obtain⟨d1,lX,b5,dL,rfl,aX,aR,rfl⟩:=g6 aE
 obtain⟨d2,n1,cI,fL,rfl,aY,bE,rfl⟩:=g6 aR
 obtain⟨d3,W8,fo,j5,rfl,cU,bS,rfl⟩:=g6 bE
 obtain⟨d4,aqv,gC,kH,rfl,h_,dn,rfl⟩:=g6 bS
 obtain⟨d5,aqw,gb,jw,rfl,ma,ej,rfl⟩:=g6 dn
 obtain⟨d6,ar5,g8,j6,rfl,sF,fy,rfl⟩:=g6 ej
 obtain⟨d7,ar6,ie,j7,rfl,oj,gm,rfl⟩:=g6 fy
 obtain⟨d8,ar7,ke,n7,rfl,mv,h1,rfl⟩:=g6 gm
 obtain⟨d9,ar8,zI,Nz,rfl,N8,ps,rfl⟩:=g6 h1
 obtain⟨rfl,rfl⟩:=sI ps
 have dL:=jK (ah:=[d0,d1,d2,d3,d4,d5,d6,d7,d8,d9]) (d:=d1) (by simp)
 have fL:=jK (ah:=[d0,d1,d2,d3,d4,d5,d6,d7,d8,d9]) (d:=d2) (by simp)
 have kH:=jK (ah:=[d0,d1,d2,d3,d4,d5,d6,d7,d8,d9]) (d:=d4) (by simp)
 have jw:=jK (ah:=[d0,d1,d2,d3,d4,d5,d6,d7,d8,d9]) (d:=d5) (by simp)
 have j6:=jK (ah:=[d0,d1,d2,d3,d4,d5,d6,d7,d8,d9]) (d:=d6) (by simp)
 have j7:=jK (ah:=[d0,d1,d2,d3,d4,d5,d6,d7,d8,d9]) (d:=d7) (by simp)
 have n7:=jK (ah:=[d0,d1,d2,d3,d4,d5,d6,d7,d8,d9]) (d:=d8) (by simp)
 have Nz:=jK (ah:=[d0,d1,d2,d3,d4,d5,d6,d7,d8,d9]) (d:=d9) (by simp)
 obtain⟨k,rfl,_⟩:=yf Tryz.underlying3 n_
 obtain⟨name,rfl,c5⟩:=rE Tryz.underlying9 aX
 obtain⟨on,rfl,ew⟩:=rE Tryz.underlying9 aY
 obtain⟨un,rfl⟩:=x9 Tryz.underlying4 cU
 obtain⟨bF,hk,rfl,de,cY,cp⟩:=aqz (B:=B) (by omega) h_
 obtain⟨bD,keys,rfl,cD,gk,du⟩:=aqy (B:=B) (by omega) ma
 obtain⟨b8,rows,rfl,dd,kg,fB⟩:=aqx (B:=B) (by omega) sF
 obtain⟨cu,ft,rfl,dh,l4,jO⟩:=aqA (B:=B) (by omega) oj
 obtain⟨cK,c1,rfl,dZ,oQ,nn⟩:=Jq (B:=B) (by omega) mv
 obtain⟨es,rfl,y4⟩:=sH Tryz.underlying31 N8
 obtain⟨e6,gv,df,fi,rfl,aqE,e7,rfl⟩:=g6 y4
 obtain⟨aV,ar9,b5,dL,rfl,aqF,ib,rfl⟩:=g6 e7
 obtain⟨bb,ar_,cI,fL,rfl,aqG,oM,rfl⟩:=g6 ib
 obtain⟨cb,asa,fo,j5,rfl,aqH,qf,rfl⟩:=g6 oM
 obtain⟨dI,asb,gC,kH,rfl,aqI,iQ,rfl⟩:=g6 qf
 obtain⟨fQ,asc,gb,jw,rfl,aqJ,aqK,rfl⟩:=g6 iQ
 obtain⟨gS,asd,g8,j6,rfl,aqL,aqM,rfl⟩:=g6 aqK
 obtain⟨hz,ase,ie,j7,rfl,aqN,aqO,rfl⟩:=g6 aqM
 obtain⟨rfl,rfl⟩:=sI aqO
 have hN:=jK (ah:=[e6,aV,bb,cb,dI,fQ,gS,hz]) (d:=bb) (by simp)
 have lQ:=jK (ah:=[e6,aV,bb,cb,dI,fQ,gS,hz]) (d:=cb) (by simp)
 have qn:=jK (ah:=[e6,aV,bb,cb,dI,fQ,gS,hz]) (d:=dI) (by simp)
 have uS:=jK (ah:=[e6,aV,bb,cb,dI,fQ,gS,hz]) (d:=fQ) (by simp)
 have VG:=jK (ah:=[e6,aV,bb,cb,dI,fQ,gS,hz]) (d:=gS) (by simp)
 obtain⟨ch,rfl⟩:=x9 Tryz.underlying4 aqE
 obtain⟨star,rfl⟩:=x9 Tryz.underlying4 aqF
 obtain⟨a,items,rfl,t1,m4,j4⟩:=aqB (B:=B) (by omega) aqG
 obtain⟨b,eH,rfl,t2,m5,fX⟩:=aqD (B:=B) (by omega) aqH
 obtain⟨c,oP,rfl,t3,nz,fR⟩:=Jq (B:=B) (by omega) aqI
 obtain⟨d,fh,rfl,t4,nA,mI⟩:=Jq (B:=B) (by omega) aqJ
 obtain⟨e,eV,rfl,t5,m6,p1⟩:=aqC (B:=B) (by omega) aqL
 obtain⟨b7,rfl,_⟩:=yf Tryz.underlying2 aqN
 refine⟨⟨k,name,on,un,hk,keys,rows,ft,c1,⟨ch,star,items,eH,oP,fh,eV,b7⟩⟩,bF,bD,b8,cu,cK,a,b,c,d,e,rfl,⟨de,cD,dd,dh,dZ,t1,t2,t3,t4,t5⟩, ?_, ?_⟩
 ·refine N6 ⟨fun x au=> ?_,⟨cY,gk,kg,l4,oQ,fun r bc=>(fB r bc).1,⟨m4,m5,nz,nA,m6⟩⟩⟩
  simp only[nB,oR,List.mem_append,List.mem_flatten,List.mem_map] at au
  rcases au with((⟨r,bc,au⟩|⟨y,bT,rfl⟩)|au)|((((⟨y,bT,rfl⟩|⟨y,bT,rfl⟩)|au)|au)|⟨y,bT,rfl⟩)
  ·exact(fB r bc).2 x au
  ·exact(jO y bT).2
  ·exact nn x au
  ·exact(j4 y bT).2
  ·exact(fX y bT).2
  ·exact fR x au
  ·exact mI x au
  ·exact p1 y bT
 ·exact⟨by show name.length≤B;omega,by show on.length≤B;omega,cp,du,fun y bT=>(jO y bT).1,fun y bT=>(j4 y bT).1,fun y bT=>(fX y bT).1⟩
theorem h9.up{w D E N:Nat}{m:ea}(g:h9 w D N m)(h:D≤E):h9 w E N m:=
 have up:∀{x:X},fY w D x→fY w E x:=fun z=>zk z h
 ⟨fun r bc x au=>up (g.rows r bc x au),fun a bh=>up (g.ft a bh),fun x au=>up (g.c1 x au),fun a bh=>up (g.items a bh),fun a bh=>up (g.eH a bh),fun x au=>up (g.oP x au),fun x au=>up (g.fh x au),fun a bh=>up (g.eV a bh),g.cY,g.gk,g.kg,g.l4,g.oQ,g.m4,g.m5,g.nz,g.nA,g.m6,g.qk⟩
theorem shape{d0 d1 d2:DataW H}{vu de cD:Lv}(aF:nm [d0,d1,d2]≤1048576)(aI:e3 Tryz.prog d0 33=some vu)(R:e3 Tryz.prog d1 33=some de)(ae:e3 Tryz.prog d2 9=some cD):
  ∃kG,cD=[kG]∧kl Tryz.prog 3 [.agg vu, .agg de,kG] [] fun v _=>v= .bool true:=by
 simp only[nm] at aF
 obtain⟨m,bF,bD,b8,cu,cK,a,b,c,d,e,rfl,q,⟨D,G⟩,M⟩:=W9 (B:=1048576) (by omega) aI
 obtain⟨cC,d1,asf,d3,d4,d5,eK,c2,c0,g4,ct,rfl,jc,⟨W_,Jo⟩,h4⟩:=W9 (B:=1048576) (by omega) R
 obtain⟨t,rfl⟩:=Eo Tryz.underlying9 ae
 obtain⟨E,GE⟩:=anB t
 obtain⟨u,aa,aB,bm⟩:=aqi (j:=5000001+D+W_+E) (w:=1048576) (D:=max D W_) (N:=1048576) (E:=E) (by omega) (by omega) (by omega) (Nat.le_refl _) (by omega) (h9.up G (by omega)) (h9.up Jo (by omega)) M h4 (by omega) GE q jc
 exact⟨_,rfl,(aqg _ [_,_, .str t] [] u aa aB).2.mono fun v2 ae z=>by rw[z.1];exact bm⟩
end Go.Proofs.YtjpjeilfmjdhcaaGreat.AI
