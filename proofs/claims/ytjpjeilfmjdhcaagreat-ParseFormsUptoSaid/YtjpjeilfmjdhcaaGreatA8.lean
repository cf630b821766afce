/- Expressions: what stands for one; both functions that say whether two are alike. No condition. -/
import Derived.Test.YtjpjeilfmjdhcaaGreatA5
import Derived.Test.YtjpjeilfmjdhcaaGreatA3
import Derived.Test.YtjpjeilfmjdhcaaGreatA4
set_option maxRecDepth 100000
set_option linter.unusedVariables false
set_option linter.unusedSimpArgs false
set_option linter.unnecessarySimpa false
namespace Go.Proofs.YtjpjeilfmjdhcaaGreat.eI
open Go E ep
structure fg where
 k:Int
 op:Lu
 eh:Int
 ed:Int
 ak:Lu
 dG:Lu
 c7:Lu
deriving DecidableEq
inductive X where
 |mk (n:fg) (ah:List X)
abbrev bH(n:fg)(aG:V):Lv:=[.int .i64 n.k, .str n.op, .int .i64 n.eh, .int .i64 n.ed, .str n.ak, .str n.dG, .str n.c7,aG]
inductive c6(av:Nat→Prop)(h:Lo):V→X→Prop
 |mk {n:fg} {aG:V} {es:Lv} {ah:List X} (s:dq 8 h aG es) (aw:∀o,o∈dj aG→av o) (ax:es.length=ah.length) (hp:∀(i:Nat) (e:V) (p:X),es[i]? =some e→ah[i]? =some p→c6 av h e p):c6 av h (.agg (bH n aG)) (.mk n ah)
theorem c6.aJ{av:Nat→Prop}{h aa:Lo}{v:V}{x:X}{A:List Nat}(e:c6 av h v x)(k:ai h aa A)(d:∀o,o∈A→¬av o):c6 av aa v x:=by
 induction e with
 |mk s aw ax hp ba=>exact .mk (s.aJ k (fun o U q=>d o q (aw o U))) aw ax ba
theorem c6.aq{av:Nat→Prop}{h aa:Lo}{v:V}{x:X}(e:c6 av h v x)(k:ai h aa []):c6 av aa v x:=e.aJ k (fun o U=>by cases U)
theorem c6.mono{av bx:Nat→Prop}{h:Lo}{v:V}{x:X}(e:c6 av h v x)(d:∀o,o<h.length→av o→bx o):c6 bx h v x:=by
 induction e with
 |mk s aw ax hp ba=>exact .mk s (fun o U=>d o (s.lt U) (aw o U)) ax ba
theorem oE{az:Nat}{h:Lo}{v:V}{es:Lv}(s:dq az h v es):v.cells=[v]∧v.scalar=true:=by
 cases v<;>first|exact⟨rfl,rfl⟩|(have:=s.c;simp[fe] at this)
theorem mS{az:Nat}{h:Lo}{n:fg}{v:V}{es:Lv}(s:dq az h v es):(bH n v).all V.scalar=true:=by
 simp[(oE s).2];exact⟨rfl,rfl,rfl,rfl,rfl,rfl,rfl⟩
theorem iE{h:Lo}{id:Nat}{cs:Lv}(s:bY h id cs){o n:Nat}(U:o+n≤cs.length)(aI:1<n):I (.bp n (.c (.ptr id 0 o))) h=some (.agg ((cs.drop o).take n)):=by
 unfold bY at s
 simp only[I,aB,e8,vV,fW,dS,lh,s,List.getElem?_cons_zero,Option.map_some,V.cells]
 rw[if_pos U]
 rfl
def wz:Nat→X→Prop
 |0,_=>False
 |k+1, .mk _ ah=>∀p,p∈ah→wz k p
theorem wz.mono:∀{k m:Nat} {x:X},wz k x→k≤m→wz m x
 |k+1,m+1, .mk n ah,d,h=>fun p hp=>wz.mono (d p hp) (by omega)
 |k+1,0, .mk n ah,d,h=>by omega
def g_(w:Nat):Nat→X→Prop
 |0,_=>False
 |k+1, .mk _ ah=>ah.length≤w∧∀p,p∈ah→g_ w k p
theorem g_.yO{w:Nat}:∀{k:Nat} {x:X},g_ w k x→wz k x
 |k+1, .mk n ah,d=>fun p hp=>g_.yO (d.2 p hp)
theorem g_.mono{w:Nat}:∀{k m:Nat} {x:X},g_ w k x→k≤m→g_ w m x
 |k+1,m+1, .mk n ah,d,h=>⟨d.1,fun p hp=>g_.mono (d.2 p hp) (by omega)⟩
 |k+1,0, .mk n ah,d,h=>by omega
def pj:Nat→X→X→Bool
 |0,_,_=>false
 |k+1, .mk n ah, .mk m dF=>decide (n=m)&&(decide (ah.length=dF.length)&&(ah.zip dF).all fun p=>pj k p.1 p.2)
theorem SK:∀(k:Nat) (x:X),wz k x→pj k x x=true
 |k+1, .mk n ah,d=>by
  have:(ah.zip ah).all (fun p=>pj k p.1 p.2)=true:=by
   rw[List.all_eq_true]
   intro p hp
   obtain⟨i,aw,rfl⟩:=List.mem_iff_getElem.1 hp
   simp only[List.getElem_zip]
   exact SK k _ (d _ (List.getElem_mem _))
  simp[pj,this]
theorem L9(a b:Int)(s:Lu)(eK c2:Int)(eb:Lu)(h:Lo):I (.eq false (.struct 3 [(0, .i),(1, .i),(2, .s)]) (.c (.agg [.int .i64 a, .int .i64 b, .str s])) (.c (.agg [.int .i64 eK, .int .i64 c2, .str eb]))) h=some (.bool (a==eK&&(b==c2&&s==eb))):=by
 simp[I,aB,e8,Et,fW,sr,sq,l9,V.cells]
 cases(a==eK)<;>cases(b==c2)<;>cases(s==eb)<;>rfl
theorem SL(a b:Int)(s:Lu)(eK c2:Int)(eb:Lu)(h:Lo):I (.eq true (.struct 3 [(0, .i),(1, .i),(2, .s)]) (.c (.agg [.int .i64 a, .int .i64 b, .str s])) (.c (.agg [.int .i64 eK, .int .i64 c2, .str eb]))) h=some (.bool (!(a==eK&&(b==c2&&s==eb)))):=by
 simp[I,aB,e8,Et,fW,sr,sq,l9,V.cells]
 cases(a==eK)<;>cases(b==c2)<;>cases(s==eb)<;>rfl
theorem SM(n m:fg):decide (n=m)=(n.k==m.k&&(n.op==m.op&&((n.eh==m.eh&&(n.ed==m.ed&&n.ak==m.ak))&&(n.dG==m.dG&&n.c7==m.c7)))):=by
 obtain⟨a,b,c,d,e,f,g⟩:=n
 obtain⟨eK,c2,c0,g4,ct,gj,cX⟩:=m
 simp only[fg.mk.injEq]
 by_cases R:a=eK<;>by_cases ae:b=c2<;>by_cases aQ:c=c0<;>by_cases bo:d=g4<;>by_cases bI:e=ct<;>by_cases cR:f=gj<;>by_cases eF:g=cX<;>simp[R,ae,aQ,bo,bI,cR,eF]
theorem c6.at{av:Nat→Prop}{h:Lo}{aG:V}{es:Lv}{ah:List X}(s:dq 8 h aG es)(ax:es.length=ah.length)(hp:∀(i:Nat) (e:V) (p:X),es[i]? =some e→ah[i]? =some p→c6 av h e p){i:Nat}(aw:i<ah.length):
  ∃a n cf dF,ah[i]= .mk n dF∧I (.cH 8 (.c aG) (.c (.int .i64 (i:Int)))) h=some a∧I (.bp 8 (.c a)) h=some (.agg (bH n cf))∧c6 av h (.agg (bH n cf)) (.mk n dF)∧cf.scalar=true:=by
 have D3:i<es.length:=by omega
 have x:=hp i es[i] ah[i] (List.getElem?_eq_getElem D3) (List.getElem?_eq_getElem aw)
 generalize he:es[i]=e at x
 generalize uu:ah[i]=p at x
 cases x with
 | @mk n cf cc dF eb hn hg nS=>
  obtain⟨a,b5,cI⟩:=s.kn (k:=(i:Int)) (cs:=bH n cf) (by omega) (by rw[Int.toNat_natCast,←he];exact List.getElem?_eq_getElem D3) rfl (by decide)
  exact⟨a,n,cf,dF,rfl,b5,cI, .mk eb hn hg nS,(oE eb).2⟩
def nW(k:Nat)(ah dF:List X)(i:Nat):Bool:=((ah.drop i).zip (dF.drop i)).all fun p=>pj k p.1 p.2
theorem Gs{k:Nat}{ah dF:List X}{i:Nat}(R:i<ah.length)(ae:i<dF.length):nW k ah dF i=(pj k ah[i] dF[i]&&nW k ah dF (i+1)):=by
 unfold nW
 rw[List.drop_eq_getElem_cons R,List.drop_eq_getElem_cons ae]
 rfl
theorem SN{k:Nat}{ah dF:List X}{i:Nat}(R:ah.length≤i):nW k ah dF i=true:=by
 unfold nW
 rw[List.drop_of_length_le R];rfl
abbrev gT:Lv:=[.int .i64 0, .str [], .int .i64 0, .int .i64 0, .str [], .str [], .str [], .ab]
abbrev Cn(j k:Nat)(av bx:Nat→Prop)(x y:X):Prop:=∀(n m:fg) (aG cf:V) (ah dF:List X) (h:Lo),x= .mk n ah→y= .mk m dF→c6 av h (.agg (bH n aG)) x→c6 bx h (.agg (bH m cf)) y→
 aj (rK j (ir j k) n.k n.op n.eh n.ed n.ak n.dG n.c7 aG m.k m.op m.eh m.ed m.ak m.dG m.c7 cf h) fun v aa=>v= .bool (pj (k+1) x y)∧ai h aa []
theorem afx(j k:Nat){av bx:Nat→Prop}{aI:Lo}{aG cf:V}{es cc:Lv}{ah dF:List X}(s:dq 8 aI aG es)(ax:es.length=ah.length)(hp:∀(i:Nat) (e:V) (p:X),es[i]? =some e→ah[i]? =some p→c6 av aI e p)
  (eb:dq 8 aI cf cc) (hg:cc.length=dF.length) (nS:∀(i:Nat) (e:V) (p:X),cc[i]? =some e→dF[i]? =some p→c6 bx aI e p) (bm:dF.length=ah.length) (hw:ah.length≤4611686018427387904) (kp:∀p,p∈ah→∀q,Cn j k av bx p q):
  ∀(m i f:Nat) (h:Lo),ah.length=i+m→m<f→ai aI h []→aL (rI j (wj j (ir j (k+1))) f cf (.fn 46 []) aG ah.length i h) fun x ak aa=>ai aI aa []∧if nW (k+1) ah dF i=true then x= .exit 0∧ak=[] else x= .ret∧ak=[.bool false]:=by
 intro m
 induction m with
 |zero=>
  intro i f h hm aS aq
  obtain⟨f,rfl⟩:∃g,f=g+1:=⟨f-1,by omega⟩
  have bj:decide ((i:Int)<(ah.length:Int))=false:=decide_eq_false (by omega)
  simp only[rI,yt,bj,a7]
  refine aL.some ⟨aq, ?_⟩
  rw[if_pos (SN (by omega))]
  exact⟨rfl,rfl⟩
 |succ m ba=>
  intro i f h hm aS aq
  obtain⟨f,rfl⟩:∃g,f=g+1:=⟨f-1,by omega⟩
  have bN:i<ah.length:=by omega
  have so:i<dF.length:=by omega
  have bj:decide ((i:Int)<(ah.length:Int))=true:=decide_eq_true (by omega)
  have e7:IntKind.i64.wrap ((i:Int)+1)=((i+1:Nat):Int):=by rw[wrap_i64 (by omega) (by omega)];omega
  obtain⟨a,cY,iF,lX,aV,b5,cI,cp,bF⟩:=c6.at (s.aq aq) ax (fun i e p aX aY=>(hp i e p aX aY).aq aq) bN
  simp only[rI,yt,bj,aU,b5,cI,aO,bP,aN,aZ,bn,bl,id_eq,bq,a1,bC,a5,e7]
  refine aL.ad (hs (cs:=gT) rfl) ?_
  rintro v R ⟨rfl,fS,ar⟩
  refine aL.ad (fS.ic (aM:=bH cY iF) rfl (by simp) (by simp[bF];exact⟨rfl,rfl,rfl,rfl,rfl,rfl,rfl⟩) rfl) ?_
  rintro u ae ⟨ds,aA⟩
  have dW:ai h ae []:=ar.trans aA (fun o U=>by cases U) (fun o U ax=>by simp at U;omega)
  have L_:=aq.bs dW
  obtain⟨b,il,kq,Ma,bb,dL,fL,hI,bD⟩:=c6.at (eb.aq L_) hg (fun i e p aX aY=>(nS i e p aX aY).aq L_) so
  simp only[dL,fL,aO,bP,aN,aZ,bn,bl,id_eq,bq,a1,bC,a5]
  refine aL.ad (hs (cs:=gT) rfl) ?_
  rintro v aQ ⟨rfl,ha,aT⟩
  refine aL.ad (ha.ic (aM:=bH il kq) rfl (by simp) (by simp[bD];exact⟨rfl,rfl,rfl,rfl,rfl,rfl,rfl⟩) rfl) ?_
  rintro u bo ⟨p2,bu⟩
  have uv:ai ae bo []:=aT.trans bu (fun o U=>by cases U) (fun o U ax=>by simp at U;omega)
  have afy:=ds.aq uv
  have c5:I (.bp 8 (.c (.ptr h.length 0 0))) bo=some (.agg (bH cY iF)):=afy.e4 rfl
  have ew:I (.bp 8 (.c (.ptr ae.length 0 0))) bo=some (.agg (bH il kq)):=p2.e4 rfl
  have Mb:∀bI,wj j (ir j (k+1)) (.fn 46 []) [.agg (bH cY iF), .agg (bH il kq)] bI=rK j (ir j k) cY.k cY.op cY.eh cY.ed cY.ak cY.dG cY.c7 iF il.k il.op il.eh il.ed il.ak il.dG il.c7 kq bI:=fun bI=>rfl
  simp only[c5,ew,aO,bP,aN,aZ,bn,bl,id_eq,bq,a1,bC,a5,Mb]
  refine aL.ad (kp ah[i] (List.getElem_mem bN) dF[i] cY il iF kq lX Ma bo aV bb (aV▸(cp.aq dW).aq uv) (bb▸hI.aq uv)) ?_
  rintro v bI ⟨rfl,bX⟩
  have qP:=(L_.bs uv).bs bX
  rw[a0]
  cases dx:pj (k+1) ah[i] dF[i] with
  |false=>
   simp only[Bool.not_false,aU]
   refine aL.some ⟨qP, ?_⟩
   rw[Gs bN so,dx,Bool.false_and,if_neg (by decide)]
   exact⟨rfl,rfl⟩
  |true=>
   simp only[Bool.not_true,a7]
   rw[Gs bN so,dx,Bool.true_and]
   exact ba (i+1) f bI (by omega) (by omega) qP
theorem c6.inv{av:Nat→Prop}{h:Lo}{n m:fg}{aG:V}{ah:List X}(e:c6 av h (.agg (bH n aG)) (.mk m ah)):∃es,dq 8 h aG es∧(∀o,o∈dj aG→av o)∧es.length=ah.length∧∀(i:Nat) (e:V) (p:X),es[i]? =some e→ah[i]? =some p→c6 av h e p:=by
 generalize bg:V.agg (bH n aG)=v at e
 generalize au:X.mk m ah=x at e
 cases e with
 | @mk jI lr es lu s aw ax hp=>
  injection au with R ae
  subst R;subst ae
  simp only[bH,V.agg.injEq,List.cons.injEq,and_true] at bg
  obtain⟨-,-,-,-,-,-,-,rfl⟩:=bg
  exact⟨es,s,aw,ax,hp⟩
theorem SO(k:Nat)(n m:fg)(ah dF:List X):pj (k+1) (.mk n ah) (.mk m dF)=(decide (n=m)&&(decide (ah.length=dF.length)&&nW k ah dF 0)):=rfl
theorem afz(j k w:Nat)(hw:w<j)(bV:w≤4611686018427387904){av bx:Nat→Prop}{h:Lo}{n:fg}{aG cf:V}{es cc:Lv}{ah dF:List X}(au:g_ w (k+1) (.mk n ah))(s:dq 8 h aG es)(ax:es.length=ah.length)(hp:∀(i:Nat) (e:V) (p:X),es[i]? =some e→ah[i]? =some p→c6 av h e p)
  (eb:dq 8 h cf cc) (hg:cc.length=dF.length) (nS:∀(i:Nat) (e:V) (p:X),cc[i]? =some e→dF[i]? =some p→c6 bx h e p) (kp:∀o,k=o+1→∀p,p∈ah→∀q,Cn j o av bx p q):
  aj (rJ j (wj j (ir j k)) aG cf (.fn 46 []) h) fun v aa=>v= .bool (decide (ah.length=dF.length)&&nW k ah dF 0)∧ai h aa []:=by
 have Mc:ah.length≤w:=au.1
 simp only[rJ,jv s,jv eb,ax,hg,aO,a1]
 by_cases q:ah.length=dF.length
 ·have aV:((ah.length:Int) !=(dF.length:Int))=false:=by simp[q]
  rw[aV,a7,decide_eq_true q,Bool.true_and]
  have eT:aL (rI j (wj j (ir j k)) j cf (.fn 46 []) aG ah.length (0:Int) h) fun x ak aa=>ai h aa []∧if nW k ah dF 0=true then x= .exit 0∧ak=[] else x= .ret∧ak=[.bool false]:=by
   cases k with
   |zero=>
    have sx:ah=[]:=by
     cases ah with
     |nil=>rfl
     |cons p t=>exact absurd (au.2 p (by simp)) (by simp[g_])
    subst sx
    obtain⟨g,rfl⟩:∃g,j=g+1:=⟨j-1,by omega⟩
    exact⟨.exit 0,[],h,rfl,ai.refl _ _,rfl,rfl⟩
   |succ o=>
    have:=afx j o s ax hp eb hg nS q.symm (by omega) (kp o rfl) ah.length 0 j h (by omega) (by omega) (ai.refl _ _)
    exact this
  refine aj.bO eT ?_
  rintro x ak R ⟨ar,r⟩
  cases ez:nW k ah dF 0 with
  |true=>
   rw[ez,if_pos rfl] at r
   obtain⟨rfl,rfl⟩:=r
   simp only[decide_true,aU,a5]
   exact aj.some ⟨rfl,ar⟩
  |false=>
   rw[ez,if_neg (by decide)] at r
   obtain⟨rfl,rfl⟩:=r
   simp only[show decide (cg.ret=cg.exit 0)=false from rfl,a7,decide_true,aU,aN,aZ,bn,bl,id_eq,bq,a0,a5]
   exact aj.some ⟨rfl,ar⟩
 ·have aV:((ah.length:Int) !=(dF.length:Int))=true:=by
   have:(ah.length:Int)≠(dF.length:Int):=by omega
   simpa using this
  rw[aV,aU,decide_eq_false q,Bool.false_and]
  exact aj.some ⟨rfl,ai.refl _ _⟩
theorem SP(j k w:Nat)(hw:w<j)(bV:w≤4611686018427387904){av bx:Nat→Prop}{x y:X}(au:g_ w (k+1) x)(kp:∀o,k=o+1→∀n ah,x= .mk n ah→∀p,p∈ah→∀q,Cn j o av bx p q):Cn j k av bx x y:=by
 intro n m aG cf ah dF h aV bb ex FN
 subst aV;subst bb
 obtain⟨es,s,aw,ax,hp⟩:=ex.inv
 obtain⟨cc,eb,hn,hg,nS⟩:=FN.inv
 rw[SO,SM]
 simp only[rK]
 refine aj.ad (fO (cs:=bH n aG) (mS s)) ?_
 rintro v R ⟨rfl,fS,ar⟩
 refine aj.ad (fO (cs:=bH m cf) (mS eb)) ?_
 rintro v ae ⟨rfl,ds,aA⟩
 have fS:=fS.aq aA
 have db:=ar.bs aA
 have gd:=fun ao=>fS.af ao 0 0
 have dz:=fun ao=>ds.af ao 0 0
 have df:I (.ag (.c (.ptr h.length 0 0))) ae=some (.int .i64 n.k):=fS.ag rfl
 have b5:I (.ag (.c (.ptr h.length 0 1))) ae=some (.str n.op):=fS.ag rfl
 have cI:I (.bp 3 (.c (.ptr h.length 0 2))) ae=some (.agg [.int .i64 n.eh, .int .i64 n.ed, .str n.ak]):=iE fS (by simp) (by decide)
 have gb:I (.ag (.c (.ptr h.length 0 5))) ae=some (.str n.dG):=fS.ag rfl
 have g8:I (.ag (.c (.ptr h.length 0 6))) ae=some (.str n.c7):=fS.ag rfl
 have ie:I (.ag (.c (.ptr h.length 0 7))) ae=some aG:=fS.ag rfl
 have fi:I (.ag (.c (.ptr R.length 0 0))) ae=some (.int .i64 m.k):=ds.ag rfl
 have dL:I (.ag (.c (.ptr R.length 0 1))) ae=some (.str m.op):=ds.ag rfl
 have fL:I (.bp 3 (.c (.ptr R.length 0 2))) ae=some (.agg [.int .i64 m.eh, .int .i64 m.ed, .str m.ak]):=iE ds (by simp) (by decide)
 have jw:I (.ag (.c (.ptr R.length 0 5))) ae=some (.str m.dG):=ds.ag rfl
 have j6:I (.ag (.c (.ptr R.length 0 6))) ae=some (.str m.c7):=ds.ag rfl
 have j7:I (.ag (.c (.ptr R.length 0 7))) ae=some cf:=ds.ag rfl
 simp only[Nat.zero_add] at gd dz
 simp only[gd,dz,df,b5,cI,gb,g8,ie,fi,dL,fL,jw,j6,j7,aO,bP,aN,aZ,bn,bl,id_eq,bq,a1,bC,a5,L9,a0]
 cases dQ:(n.k==m.k) with
 |false=>exact aj.some ⟨rfl,db⟩
 |true=>
  simp only[aU,Bool.true_and]
  cases bF:(n.op==m.op) with
  |false=>exact aj.some ⟨rfl,db⟩
  |true=>
   simp only[aU,Bool.true_and]
   cases bD:(n.eh==m.eh&&(n.ed==m.ed&&n.ak==m.ak)) with
   |false=>exact aj.some ⟨rfl,db⟩
   |true=>
    simp only[aU,Bool.true_and]
    cases b8:(n.dG==m.dG) with
    |false=>exact aj.some ⟨rfl,db⟩
    |true=>
     simp only[aU,Bool.true_and]
     cases cu:(n.c7==m.c7) with
     |false=>exact aj.some ⟨rfl,db⟩
     |true=>
      simp only[aU,Bool.true_and]
      refine aj.ad (afz j k w hw bV au (s.aq db) ax (fun i e p aX aY=>(hp i e p aX aY).aq db) (eb.aq db) hg (fun i e p aX aY=>(nS i e p aX aY).aq db) (fun o U p uu q=>kp o U n ah rfl p uu q)) ?_
      rintro v aQ ⟨rfl,aT⟩
      rw[a0]
      exact aj.some ⟨rfl,db.bs aT⟩
theorem afA(j w:Nat)(hw:w<j)(bV:w≤4611686018427387904){av bx:Nat→Prop}:∀(k:Nat) (x y:X),g_ w (k+1) x→Cn j k av bx x y:=by
 intro k
 induction k with
 |zero=>intro x y au;exact SP j 0 w hw bV au (fun o U=>by omega)
 |succ k ba=>
  intro x y au
  refine SP j (k+1) w hw bV au (fun o U n ah e p hp q=> ?_)
  obtain rfl:k=o:=by omega
  subst e
  exact ba p q (au.2 p hp)
abbrev Gt(j k:Nat)(av bx:Nat→Prop)(x y:X):Prop:=∀(n m:fg) (aG cf:V) (ah dF:List X) (h:Lo),x= .mk n ah→y= .mk m dF→c6 av h (.agg (bH n aG)) x→c6 bx h (.agg (bH m cf)) y→
 aj (qK j (lp j k) n.k n.op n.eh n.ed n.ak n.dG n.c7 aG m.k m.op m.eh m.ed m.ak m.dG m.c7 cf h) fun v aa=>v= .bool (pj (k+1) x y)∧ai h aa []
theorem afB(j k:Nat){av bx:Nat→Prop}{aI:Lo}{gx Md:Nat}{n m:fg}{aG cf:V}{es cc:Lv}{ah dF:List X}(dR:bY aI gx (bH n aG))(e9:bY aI Md (bH m cf))(s:dq 8 aI aG es)(ax:es.length=ah.length)(hp:∀(i:Nat) (e:V) (p:X),es[i]? =some e→ah[i]? =some p→c6 av aI e p)
  (eb:dq 8 aI cf cc) (hg:cc.length=dF.length) (nS:∀(i:Nat) (e:V) (p:X),cc[i]? =some e→dF[i]? =some p→c6 bx aI e p) (bm:dF.length=ah.length) (hw:ah.length≤4611686018427387904) (kp:∀p,p∈ah→∀q,Gt j k av bx p q):
  ∀(r i f:Nat) (h:Lo),ah.length=i+r→r<f→ai aI h []→aL (wo j (lp j (k+1)) f (.ptr gx 0 0) (.ptr Md 0 0) ah.length i h) fun x ak aa=>ai aI aa []∧if nW (k+1) ah dF i=true then x= .exit 0∧ak=[] else x= .ret∧ak=[.bool false]:=by
 intro r
 induction r with
 |zero=>
  intro i f h hm aS aq
  obtain⟨f,rfl⟩:∃g,f=g+1:=⟨f-1,by omega⟩
  have bj:decide ((i:Int)<(ah.length:Int))=false:=decide_eq_false (by omega)
  simp only[wo,Fk,bj,a7]
  refine aL.some ⟨aq, ?_⟩
  rw[if_pos (SN (by omega))]
  exact⟨rfl,rfl⟩
 |succ r ba=>
  intro i f h hm aS aq
  obtain⟨f,rfl⟩:∃g,f=g+1:=⟨f-1,by omega⟩
  have bN:i<ah.length:=by omega
  have so:i<dF.length:=by omega
  have bj:decide ((i:Int)<(ah.length:Int))=true:=decide_eq_true (by omega)
  have e7:IntKind.i64.wrap ((i:Int)+1)=((i+1:Nat):Int):=by rw[wrap_i64 (by omega) (by omega)];omega
  obtain⟨a,cY,iF,lX,aV,b5,cI,cp,bF⟩:=c6.at (s.aq aq) ax (fun i e p aX aY=>(hp i e p aX aY).aq aq) bN
  obtain⟨b,il,kq,Ma,bb,dL,fL,hI,bD⟩:=c6.at (eb.aq aq) hg (fun i e p aX aY=>(nS i e p aX aY).aq aq) so
  have gd:=(dR.aq aq).af 7 0 0
  have dz:=(e9.aq aq).af 7 0 0
  have gP:I (.ag (.c (.ptr gx 0 7))) h=some aG:=(dR.aq aq).ag rfl
  have kj:I (.ag (.c (.ptr Md 0 7))) h=some cf:=(e9.aq aq).ag rfl
  have s3:∀bI,lp j (k+1) 54 [.agg (bH cY iF), .agg (bH il kq)] bI=qK j (lp j k) cY.k cY.op cY.eh cY.ed cY.ak cY.dG cY.c7 iF il.k il.op il.eh il.ed il.ak il.dG il.c7 kq bI:=fun bI=>rfl
  simp only[Nat.zero_add] at gd dz
  simp only[wo,Fk,bj,aU,gd,dz,gP,kj,b5,cI,dL,fL,aO,bP,aN,aZ,bn,bl,id_eq,bq,a1,bC,a5,e7,s3]
  refine aL.ad (kp ah[i] (List.getElem_mem bN) dF[i] cY il iF kq lX Ma h aV bb (aV▸cp) (bb▸hI)) ?_
  rintro v bI ⟨rfl,bX⟩
  have qP:=aq.bs bX
  rw[a0]
  cases dx:pj (k+1) ah[i] dF[i] with
  |false=>
   simp only[Bool.not_false,aU]
   refine aL.some ⟨qP, ?_⟩
   rw[Gs bN so,dx,Bool.false_and,if_neg (by decide)]
   exact⟨rfl,rfl⟩
  |true=>
   simp only[Bool.not_true,a7]
   rw[Gs bN so,dx,Bool.true_and]
   exact ba (i+1) f bI (by omega) (by omega) qP
theorem SQ(j k w:Nat)(hw:w<j)(bV:w≤4611686018427387904){av bx:Nat→Prop}{x y:X}(au:g_ w (k+1) x)(kp:∀o,k=o+1→∀n ah,x= .mk n ah→∀p,p∈ah→∀q,Gt j o av bx p q):Gt j k av bx x y:=by
 intro n m aG cf ah dF h aV bb ex FN
 subst aV;subst bb
 obtain⟨es,s,aw,ax,hp⟩:=ex.inv
 obtain⟨cc,eb,hn,hg,nS⟩:=FN.inv
 have Mc:ah.length≤w:=au.1
 rw[SO,SM]
 simp only[qK]
 refine aj.ad (fO (cs:=bH n aG) (mS s)) ?_
 rintro v R ⟨rfl,fS,ar⟩
 refine aj.ad (fO (cs:=bH m cf) (mS eb)) ?_
 rintro v ae ⟨rfl,ds,aA⟩
 have fS:=fS.aq aA
 have db:=ar.bs aA
 have gd:=fun ao=>fS.af ao 0 0
 have dz:=fun ao=>ds.af ao 0 0
 have df:I (.ag (.c (.ptr h.length 0 0))) ae=some (.int .i64 n.k):=fS.ag rfl
 have b5:I (.ag (.c (.ptr h.length 0 1))) ae=some (.str n.op):=fS.ag rfl
 have cI:I (.bp 3 (.c (.ptr h.length 0 2))) ae=some (.agg [.int .i64 n.eh, .int .i64 n.ed, .str n.ak]):=iE fS (by simp) (by decide)
 have gb:I (.ag (.c (.ptr h.length 0 5))) ae=some (.str n.dG):=fS.ag rfl
 have g8:I (.ag (.c (.ptr h.length 0 6))) ae=some (.str n.c7):=fS.ag rfl
 have ie:I (.ag (.c (.ptr h.length 0 7))) ae=some aG:=fS.ag rfl
 have fi:I (.ag (.c (.ptr R.length 0 0))) ae=some (.int .i64 m.k):=ds.ag rfl
 have dL:I (.ag (.c (.ptr R.length 0 1))) ae=some (.str m.op):=ds.ag rfl
 have fL:I (.bp 3 (.c (.ptr R.length 0 2))) ae=some (.agg [.int .i64 m.eh, .int .i64 m.ed, .str m.ak]):=iE ds (by simp) (by decide)
 have jw:I (.ag (.c (.ptr R.length 0 5))) ae=some (.str m.dG):=ds.ag rfl
 have j6:I (.ag (.c (.ptr R.length 0 6))) ae=some (.str m.c7):=ds.ag rfl
 have j7:I (.ag (.c (.ptr R.length 0 7))) ae=some cf:=ds.ag rfl
 simp only[Nat.zero_add] at gd dz
 have gP:=jv (s.aq db)
 have kj:=jv (eb.aq db)
 rw[ax] at gP
 rw[hg] at kj
 have hP:Fj j (lp j k) (.ptr h.length 0 0) (.ptr R.length 0 0) ae=some (.normal,[.bool (!(n.k==m.k&&(n.op==m.op&&((n.eh==m.eh&&(n.ed==m.ed&&n.ak==m.ak))&&(n.dG==m.dG&&(n.c7==m.c7&&decide (ah.length=dF.length)))))))],ae):=by
  have en:((ah.length:Int) !=(dF.length:Int))= !(decide (ah.length=dF.length)):=by
   by_cases q:ah.length=dF.length
   ·simp[q]
   ·have:(ah.length:Int)≠(dF.length:Int):=by omega
    simp[q,this]
  simp only[Fj,gd,dz,df,b5,cI,gb,g8,ie,fi,dL,fL,jw,j6,j7,gP,kj,aO,bP,aN,aZ,bn,bl,id_eq,bq,a1,bC,a5,SL,a0,en]
  have aH:(n.k !=m.k)= !(n.k==m.k):=rfl
  rw[aH]
  cases(n.k==m.k)<;>cases(n.op==m.op)<;>cases(n.eh==m.eh&&(n.ed==m.ed&&n.ak==m.ak))<;>cases(n.dG==m.dG)<;>cases(n.c7==m.c7)<;>rfl
 rw[hP,gY]
 simp only[decide_true,aU,aN,aZ,bn,bl,id_eq,bq,a0,a5]
 have pN:(n.k==m.k&&(n.op==m.op&&((n.eh==m.eh&&(n.ed==m.ed&&n.ak==m.ak))&&(n.dG==m.dG&&n.c7==m.c7)))&&(decide (ah.length=dF.length)&&nW k ah dF 0))=
   ((n.k==m.k&&(n.op==m.op&&((n.eh==m.eh&&(n.ed==m.ed&&n.ak==m.ak))&&(n.dG==m.dG&&(n.c7==m.c7&&decide (ah.length=dF.length))))))&&nW k ah dF 0):=by
  simp only[Bool.and_assoc]
 rw[pN]
 cases an:(n.k==m.k&&(n.op==m.op&&((n.eh==m.eh&&(n.ed==m.ed&&n.ak==m.ak))&&(n.dG==m.dG&&(n.c7==m.c7&&decide (ah.length=dF.length)))))) with
 |false=>
  simp only[Bool.not_false,aU,Bool.false_and]
  exact aj.some ⟨rfl,db⟩
 |true=>
  have hlen:dF.length=ah.length:=by
   simp only[Bool.and_eq_true,decide_eq_true_eq] at an
   exact an.2.2.2.2.2.symm
  simp only[Bool.not_true,a7,Bool.true_and,gd,ie,gP,aO,a1]
  have eT:aL (wo j (lp j k) j (.ptr h.length 0 0) (.ptr R.length 0 0) ah.length (0:Int) ae) fun x ak aa=>ai ae aa []∧if nW k ah dF 0=true then x= .exit 0∧ak=[] else x= .ret∧ak=[.bool false]:=by
   cases k with
   |zero=>
    have sx:ah=[]:=by
     cases ah with
     |nil=>rfl
     |cons p t=>exact absurd (au.2 p (by simp)) (by simp[g_])
    subst sx
    obtain⟨g,rfl⟩:∃g,j=g+1:=⟨j-1,by omega⟩
    exact⟨.exit 0,[],ae,rfl,ai.refl _ _,rfl,rfl⟩
   |succ o=>exact afB j o fS ds (s.aq db) ax (fun i e p aX aY=>(hp i e p aX aY).aq db) (eb.aq db) hg (fun i e p aX aY=>(nS i e p aX aY).aq db) hlen (by omega) (fun p uu q=>kp o rfl n ah rfl p uu q) ah.length 0 j ae (by omega) (by omega) (ai.refl _ _)
  refine aj.bO eT ?_
  rintro x ak aQ ⟨aT,r⟩
  cases ez:nW k ah dF 0 with
  |true=>
   rw[ez,if_pos rfl] at r
   obtain⟨rfl,rfl⟩:=r
   simp only[decide_true,aU,a5]
   exact aj.some ⟨rfl,db.bs aT⟩
  |false=>
   rw[ez,if_neg (by decide)] at r
   obtain⟨rfl,rfl⟩:=r
   simp only[show decide (cg.ret=cg.exit 0)=false from rfl,a7,decide_true,aU,aN,aZ,bn,bl,id_eq,bq,a0,a5]
   exact aj.some ⟨rfl,db.bs aT⟩
theorem afC(j w:Nat)(hw:w<j)(bV:w≤4611686018427387904){av bx:Nat→Prop}:∀(k:Nat) (x y:X),g_ w (k+1) x→Gt j k av bx x y:=by
 intro k
 induction k with
 |zero=>intro x y au;exact SQ j 0 w hw bV au (fun o U=>by omega)
 |succ k ba=>
  intro x y au
  refine SQ j (k+1) w hw bV au (fun o U n ah e p hp q=> ?_)
  obtain rfl:k=o:=by omega
  subst e
  exact ba p q (au.2 p hp)
end Go.Proofs.YtjpjeilfmjdhcaaGreat.eI
namespace Go.Proofs.YtjpjeilfmjdhcaaGreat.ep
open Go E
def rS(r:Int):Bool:=(decide (r≥97)&&decide (r≤122))||(decide (r≥65)&&decide (r≤90))||(decide (r≥945)&&decide (r≤969))||(r==95)
def p3(r:Int):Bool:=decide (r≥48)&&decide (r≤57)
theorem Me(j:Nat)(r:Int)(h:Lo):yk j r h=some (.bool (rS r),h):=by
 unfold yk rS
 generalize decide (r≥97)=dL
 generalize decide (r≤122)=fL
 generalize decide (r≥65)=j5
 generalize decide (r≤90)=kH
 generalize decide (r≥945)=jw
 generalize decide (r≤969)=j6
 generalize (r==95)=j7
 cases dL<;>cases fL<;>cases j5<;>cases kH<;>cases jw<;>cases j6<;>cases j7<;>rfl
theorem Gu(j:Nat)(r:Int)(h:Lo):wb j r h=some (.bool (p3 r),h):=by
 unfold wb p3
 generalize decide (r≥48)=dL
 generalize decide (r≤57)=fL
 cases dL<;>cases fL<;>rfl
def iv(s p:Lu):Bool:=decide (p.length≤s.length)&&(s.take p.length==p)
theorem Gv(j:Nat)(s p:Lu)(h:Lo):wa j s p h=some (.bool (iv s p),h):=by
 unfold wa Ln iv
 by_cases q:p.length≤s.length
 ·have e:decide ((s.length:Int)≥(p.length:Int))=true:=decide_eq_true (by omega)
  simp only[e,aU,BE q,aO,bC,fp,a0,decide_eq_true q,Bool.true_and]
 ·have e:decide ((s.length:Int)≥(p.length:Int))=false:=decide_eq_false (by omega)
  simp only[e,a7,fp,a0,decide_eq_false q,Bool.false_and]
def hK:Nat→Lu→Nat
 |0,_=>0
 |m+1,t=>if t=[] then 0 else if rS (dU t).1||p3 (dU t).1 then(dU t).2+hK m (t.drop (dU t).2) else 0
theorem Co:∀(m:Nat) (t:Lu),hK m t≤t.length
 |0,t=>Nat.zero_le _
 |m+1,t=>by
  unfold hK
  split
  ·exact Nat.zero_le _
  ·rename_i q
   split
   ·have:=Co m (t.drop (dU t).2)
    have:=qI t q
    simp only[List.length_drop] at*
    omega
   ·exact Nat.zero_le _
theorem Cp{s:Lu}{pos:Nat}(h:pos<s.length):s.drop pos≠ []:=by
 intro q
 have:=congrArg List.length q
 simp at this;omega
theorem afD(j:Nat){s:Lu}{id:Nat}:∀(m pos f:Nat) (h:Lo),(s.drop pos).length≤m→m<f→pos≤s.length→aP h id s pos→
  aL (ug j f (.ptr id 0 0) h) fun x ak aa=>ai h aa [id]∧((x= .exit 0∧ak=[]∧pos+hK m (s.drop pos)=s.length)∨(x= .ret∧ak=[.int .i64 ((pos+hK m (s.drop pos):Nat):Int)])):=by
 intro m
 induction m with
 |zero=>
  intro pos f h hm aS hp st
  obtain⟨f,rfl⟩:∃g,f=g+1:=⟨f-1,by omega⟩
  simp only[List.length_drop] at hm
  have e6:I (.ext 0 (.c (.bW [.bool false]))) h=some (.bool false):=mh rfl
  simp only[ug,BN,ub st (by omega),fp,e6,aO,a0,a7]
  exact aL.some ⟨ai.refl _ _, .inl ⟨rfl,rfl,by unfold hK;omega⟩⟩
 |succ m ba=>
  intro pos f h hm aS hp st
  obtain⟨f,rfl⟩:∃g,f=g+1:=⟨f-1,by omega⟩
  simp only[List.length_drop] at hm
  by_cases q:pos<s.length
  ·have en:=Cp q
   simp only[ug,BN]
   refine aL.ad (EH st q) ?_
   rintro v R ⟨rfl,fS,ar⟩
   rw[mh (v:= .bool true) rfl,aO,a0,aU,mh (v:= .int .i64 (pos:Int)) rfl,aO,a1,mh (v:= .int .i32 ((dU (s.drop pos)).1:Int)) rfl,aO,a1]
   have hw:=qI _ en
   simp only[List.length_drop] at hw
   have next:aL (ug j f (.ptr id 0 0) R) fun x ak aa=>ai h aa [id]∧((x= .exit 0∧ak=[]∧pos+((dU (s.drop pos)).2+hK m ((s.drop pos).drop (dU (s.drop pos)).2))=s.length)∨(x= .ret∧ak=[.int .i64 ((pos+((dU (s.drop pos)).2+hK m ((s.drop pos).drop (dU (s.drop pos)).2)):Nat):Int)])):=by
    refine(ba (pos+(dU (s.drop pos)).2) f R (by simp only[List.length_drop];omega) (by omega) (by omega) fS).mono ?_
    rintro x ak ae ⟨aA,r⟩
    refine⟨ar.trans aA (fun o U _=>U) (fun o U _=>U), ?_⟩
    rw[List.drop_drop,←Nat.add_assoc]
    exact r
   simp only[Me,Gu,fp,a0]
   rw[hK,if_neg en]
   cases bF:rS ((dU (s.drop pos)).1:Int) with
   |true=>
    simp only[Bool.not_true,a7,Bool.true_or,if_true]
    exact next
   |false=>
    cases bD:p3 ((dU (s.drop pos)).1:Int) with
    |true=>
     simp only[Bool.not_true,Bool.not_false,a7,aU,Bool.or_true,if_true]
     exact next
    |false=>
     simp only[Bool.not_false,aU,Bool.or_false,Bool.false_eq_true,if_false]
     exact aL.some ⟨ar, .inr ⟨rfl,rfl⟩⟩
  ·have e6:I (.ext 0 (.c (.bW [.bool false]))) h=some (.bool false):=mh rfl
   have bj:s.drop pos=[]:=List.drop_of_length_le (by omega)
   simp only[ug,BN,ub st (by omega),fp,e6,aO,a0,a7]
   exact aL.some ⟨ai.refl _ _, .inl ⟨rfl,rfl,by rw[bj,hK,if_pos rfl];omega⟩⟩
theorem SR{j:Nat}{s:Lu}{h:Lo}(aS:s.length<j):aj (BO j s h) fun v aa=>v= .int .i64 ((hK s.length s:Nat):Int)∧ai h aa []:=by
 simp only[BO]
 refine aj.ad (EG h s) ?_
 rintro v R ⟨rfl,st,ar⟩
 refine aj.bO (afD j s.length 0 j R (by simp) aS (by omega) st) ?_
 rintro x ak ae ⟨aA,⟨rfl,rfl,e⟩|⟨rfl,rfl⟩⟩
 ·have db:ai h ae []:=ar.trans aA (fun o U=>by cases U) (fun o U ax=>by simp at U;omega)
  simp only[decide_true,aU,a5]
  simp only[List.drop_zero,Nat.zero_add] at e
  exact aj.some ⟨by rw[e],db⟩
 ·have db:ai h ae []:=ar.trans aA (fun o U=>by cases U) (fun o U ax=>by simp at U;omega)
  simp only[show decide (cg.ret=cg.exit 0)=false from rfl,a7,decide_true,aU,aN,aZ,bn,bl,id_eq,bq,a1,a5,List.drop_zero,Nat.zero_add]
  exact aj.some ⟨rfl,db⟩
def wA:Nat→Nat→Lu→Option Nat
 |0,n,_=>some n
 |m+1,n,t=>if t=[] then some n else if rS (dU t).1||(n !=0&&p3 (dU t).1) then wA m (n+1) (t.drop (dU t).2) else none
def wB(s:Lu):Bool:=match wA s.length 0 s with
 |some n=>decide (0<n)&&decide (n≤16)
 |none=>false
theorem afE(j:Nat){s:Lu}{id:Nat}(a6:s.length≤4611686018427387904):∀(m pos n f:Nat) (h:Lo),(s.drop pos).length≤m→m<f→pos≤s.length→n≤pos→aP h id s pos→
  aL (rG j f n (.ptr id 0 0) h) fun x ak aa=>ai h aa [id]∧match wA m n (s.drop pos) with
   |some k=>x= .exit 0∧ak=[.int .i64 (k:Int)]
   |none=>x= .ret∧ak=[.bool false]:=by
 intro m
 induction m with
 |zero=>
  intro pos n f h hm aS hp bd st
  obtain⟨f,rfl⟩:∃g,f=g+1:=⟨f-1,by omega⟩
  simp only[List.length_drop] at hm
  have e6:I (.ext 0 (.c (.bW [.bool false]))) h=some (.bool false):=mh rfl
  simp only[rG,yl,ub st (by omega),fp,e6,aO,a0,a7]
  exact aL.some ⟨ai.refl _ _,rfl,rfl⟩
 |succ m ba=>
  intro pos n f h hm aS hp bd st
  obtain⟨f,rfl⟩:∃g,f=g+1:=⟨f-1,by omega⟩
  simp only[List.length_drop] at hm
  by_cases q:pos<s.length
  ·have en:=Cp q
   simp only[rG,yl]
   refine aL.ad (EH st q) ?_
   rintro v R ⟨rfl,fS,ar⟩
   rw[mh (v:= .bool true) rfl,aO,a0,aU,mh (v:= .int .i32 ((dU (s.drop pos)).1:Int)) rfl,aO,a1]
   have hw:=qI _ en
   simp only[List.length_drop] at hw
   have e7:IntKind.i64.wrap ((n:Int)+1)=((n+1:Nat):Int):=by rw[wrap_i64 (by omega) (by omega)];omega
   have next:aL (rG j f ((n+1:Nat):Int) (.ptr id 0 0) R) fun x ak aa=>ai h aa [id]∧match wA m (n+1) ((s.drop pos).drop (dU (s.drop pos)).2) with
     |some k=>x= .exit 0∧ak=[.int .i64 (k:Int)]
     |none=>x= .ret∧ak=[.bool false]:=by
    refine(ba (pos+(dU (s.drop pos)).2) (n+1) f R (by simp only[List.length_drop];omega) (by omega) (by omega) (by omega) fS).mono ?_
    rintro x ak ae ⟨aA,r⟩
    refine⟨ar.trans aA (fun o U _=>U) (fun o U _=>U), ?_⟩
    rw[List.drop_drop]
    exact r
   simp only[Me,Gu,fp,a0,e7]
   rw[wA,if_neg en]
   cases bF:rS ((dU (s.drop pos)).1:Int) with
   |true=>
    simp only[Bool.not_true,a7,Bool.true_or,if_true]
    exact next
   |false=>
    simp only[Bool.not_false,aU,Bool.false_or]
    by_cases z:n=0
    ·have aV:((n:Int)==0)=true:=by simp[z]
     have bb:(n !=0)=false:=by simp[z]
     simp only[aV,aU,bb,Bool.false_and,Bool.false_eq_true,if_false]
     exact aL.some ⟨ar,rfl,rfl⟩
    ·have aV:((n:Int)==0)=false:=by
      have:(n:Int)≠0:=by omega
      simpa using this
     have bb:(n !=0)=true:=by simp[z]
     cases bD:p3 ((dU (s.drop pos)).1:Int) with
     |true=>
      simp only[aV,bb,Bool.not_true,a7,Bool.true_and,if_true]
      exact next
     |false=>
      simp only[aV,bb,Bool.not_false,aU,a7,Bool.and_false,Bool.false_eq_true,if_false]
      exact aL.some ⟨ar,rfl,rfl⟩
  ·have e6:I (.ext 0 (.c (.bW [.bool false]))) h=some (.bool false):=mh rfl
   have bj:s.drop pos=[]:=List.drop_of_length_le (by omega)
   simp only[rG,yl,ub st (by omega),fp,e6,aO,a0,a7]
   refine aL.some ⟨ai.refl _ _, ?_⟩
   rw[bj,wA,if_pos rfl]
   exact⟨rfl,rfl⟩
theorem Mf{j:Nat}{s:Lu}{h:Lo}(aS:s.length<j)(a6:s.length≤4611686018427387904):aj (wc j s h) fun v aa=>v= .bool (wB s)∧ai h aa []:=by
 simp only[wc]
 refine aj.ad (EG h s) ?_
 rintro v R ⟨rfl,st,ar⟩
 have eT:=afE j a6 s.length 0 0 j R (by simp) aS (by omega) (by omega) st
 have z:((0:Nat):Int)=0:=rfl
 rw[z] at eT
 refine aj.bO eT ?_
 rintro x ak ae ⟨aA,r⟩
 have db:ai h ae []:=ar.trans aA (fun o U=>by cases U) (fun o U ax=>by simp at U;omega)
 unfold wB
 rw[List.drop_zero] at r
 cases e:wA s.length 0 s with
 |some n=>
  rw[e] at r
  obtain⟨rfl,rfl⟩:=r
  simp only[decide_true,aU,aN,aZ,bn,bl,id_eq,bq,a1,a5]
  by_cases q:0<n
  ·have aV:decide ((n:Int)>0)=true:=decide_eq_true (by omega)
   have bb:decide ((n:Int)≤16)=decide (n≤16):=decide_eq_decide.2 (by omega)
   simp only[aV,aU,bb,decide_eq_true q,Bool.true_and]
   exact aj.some ⟨rfl,db⟩
  ·have aV:decide ((n:Int)>0)=false:=decide_eq_false (by omega)
   simp only[aV,a7,decide_eq_false q,Bool.false_and]
   exact aj.some ⟨rfl,db⟩
 |none=>
  rw[e] at r
  obtain⟨rfl,rfl⟩:=r
  simp only[show decide (cg.ret=cg.exit 0)=false from rfl,a7,decide_true,aU,aN,aZ,bn,bl,id_eq,bq,a0,a5]
  exact aj.some ⟨rfl,db⟩
def s4:Nat→Int→Lu→Option Int
 |0,n,_=>some n
 |m+1,n,t=>if t=[] then some n else if p3 (dU t).1 then(if n>922337203685477580 then none else s4 m (IntKind.u64.wrap (IntKind.u64.wrap (10*n)+IntKind.u64.wrap (IntKind.i32.wrap ((dU t).1-48)))) (t.drop (dU t).2)) else none
def s5(s:Lu):Int × Bool:=match s4 s.length 0 s with
 |some n=>(IntKind.i64.wrap n,decide (n≤9223372036854775807)&&(s==[48]||s.head? !=some 48))
 |none=>(0,false)
theorem afF(j:Nat){s:Lu}{id:Nat}:∀(m pos f:Nat) (n:Int) (h:Lo),(s.drop pos).length≤m→m<f→pos≤s.length→aP h id s pos→
  aL (wg j f n (.ptr id 0 0) h) fun x ak aa=>ai h aa [id]∧match s4 m n (s.drop pos) with
   |some k=>x= .exit 0∧ak=[.int .u64 k]
   |none=>x= .ret∧ak=[.int .i64 0, .bool false]:=by
 intro m
 induction m with
 |zero=>
  intro pos f n h hm aS hp st
  obtain⟨f,rfl⟩:∃g,f=g+1:=⟨f-1,by omega⟩
  simp only[List.length_drop] at hm
  have e6:I (.ext 0 (.c (.bW [.bool false]))) h=some (.bool false):=mh rfl
  simp only[wg,BQ,ub st (by omega),fp,e6,aO,a0,a7]
  exact aL.some ⟨ai.refl _ _,rfl,rfl⟩
 |succ m ba=>
  intro pos f n h hm aS hp st
  obtain⟨f,rfl⟩:∃g,f=g+1:=⟨f-1,by omega⟩
  simp only[List.length_drop] at hm
  by_cases q:pos<s.length
  ·have en:=Cp q
   simp only[wg,BQ]
   refine aL.ad (EH st q) ?_
   rintro v R ⟨rfl,fS,ar⟩
   rw[mh (v:= .bool true) rfl,aO,a0,aU,mh (v:= .int .i32 ((dU (s.drop pos)).1:Int)) rfl,aO,a1]
   have hw:=qI _ en
   simp only[List.length_drop] at hw
   simp only[Gu,fp,a0]
   rw[s4,if_neg en]
   cases bF:p3 ((dU (s.drop pos)).1:Int) with
   |true=>
    simp only[Bool.not_true,a7,if_true]
    by_cases z:n>922337203685477580
    ·rw[decide_eq_true z,if_pos z,aU]
     exact aL.some ⟨ar,rfl,rfl⟩
    ·rw[decide_eq_false z,if_neg z,a7]
     refine(ba (pos+(dU (s.drop pos)).2) f _ R (by simp only[List.length_drop];omega) (by omega) (by omega) fS).mono ?_
     rintro x ak ae ⟨aA,r⟩
     refine⟨ar.trans aA (fun o U _=>U) (fun o U _=>U), ?_⟩
     rw[List.drop_drop]
     exact r
   |false=>
    simp only[Bool.not_false,aU,Bool.false_eq_true,if_false]
    exact aL.some ⟨ar,rfl,rfl⟩
  ·have e6:I (.ext 0 (.c (.bW [.bool false]))) h=some (.bool false):=mh rfl
   have bj:s.drop pos=[]:=List.drop_of_length_le (by omega)
   simp only[wg,BQ,ub st (by omega),fp,e6,aO,a0,a7]
   refine aL.some ⟨ai.refl _ _, ?_⟩
   rw[bj,s4,if_pos rfl]
   exact⟨rfl,rfl⟩
theorem afG{j:Nat}{s:Lu}{h:Lo}(aS:s.length<j)(en:s≠ []):aj (EU j s h) fun v aa=>v= .bW [.int .i64 (s5 s).1, .bool (s5 s).2]∧ai h aa []:=by
 simp only[EU]
 refine aj.ad (EG h s) ?_
 rintro v R ⟨rfl,st,ar⟩
 refine aj.bO (afF j s.length 0 j 0 R (by simp) aS (by omega) st) ?_
 rintro x ak ae ⟨aA,r⟩
 have db:ai h ae []:=ar.trans aA (fun o U=>by cases U) (fun o U ax=>by simp at U;omega)
 unfold s5
 rw[List.drop_zero] at r
 cases e:s4 s.length 0 s with
 |some n=>
  rw[e] at r
  obtain⟨rfl,rfl⟩:=r
  simp only[decide_true,aU,aN,aZ,bn,bl,id_eq,bq,a1,a5]
  by_cases q:n≤9223372036854775807
  ·rw[decide_eq_true q,aU,Bool.true_and]
   by_cases z:s=[48]
   ·have aV:(s==[48])=true:=by simp[z]
    rw[aV,aU,Bool.true_or]
    exact aj.some ⟨rfl,db⟩
   ·have aV:(s==[48])=false:=by simp[z]
    rw[aV,a7,Bool.false_or]
    cases s with
    |nil=>exact absurd rfl en
    |cons b t=>
     have bb:I (.mC (.c (.str (b::t))) (.c (.int .i64 (0:Int)))) ae=some (.int .u8 b.toNat):=EI (k:=0) rfl
     rw[bb,aO,a1]
     have cb:(((b.toNat:Nat):Int) !=48)=(some b !=some (48:UInt8)):=by
      by_cases w:b=48
      ·subst w;rfl
      ·have e7:(some b !=some (48:UInt8))=true:=by simp[w]
       rw[e7]
       have:((b.toNat:Nat):Int)≠48:=fun q=>w (UInt8.toNat_inj.1 (by show b.toNat=48;omega))
       simpa using this
     rw[cb]
     exact aj.some ⟨rfl,db⟩
  ·rw[decide_eq_false q,a7,Bool.false_and]
   exact aj.some ⟨rfl,db⟩
 |none=>
  rw[e] at r
  obtain⟨rfl,rfl⟩:=r
  simp only[show decide (cg.ret=cg.exit 0)=false from rfl,a7,decide_true,aU,aN,aZ,bn,bl,id_eq,bq,a1,a0,a5]
  exact aj.some ⟨rfl,db⟩
end Go.Proofs.YtjpjeilfmjdhcaaGreat.ep
