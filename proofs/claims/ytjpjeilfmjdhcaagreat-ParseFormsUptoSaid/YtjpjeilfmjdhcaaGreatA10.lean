/- Expressions: whether one has what its kind has; both functions. No condition. -/
import Derived.Test.YtjpjeilfmjdhcaaGreatA8
import Derived.Test.YtjpjeilfmjdhcaaGreatA9
set_option maxRecDepth 100000
set_option linter.unusedVariables false
set_option linter.unusedSimpArgs false
set_option linter.unnecessarySimpa false
namespace Go.Proofs.YtjpjeilfmjdhcaaGreat.eI
open Go E ep
def strs(l:List (Lu)):Lv:=l.map .str
theorem Cu(l:List (Lu)):(strs l).length=l.length:=by simp[strs]
def iw(s:Lu)(l:List (Lu)):Bool:=l.any fun x=>s==x
theorem agk(j:Nat){h:Lo}{jh:V}{l:List (Lu)}{s:Lu}(cx:dq 1 h jh (strs l))(ax:l.length≤1000):∀(m i f:Nat),l.length=i+m→m<f→yA j f s jh l.length i h=if iw s (l.drop i)=true then some (.ret,[.bool true],h) else some (.exit 0,[],h):=by
 intro m
 induction m with
 |zero=>
  intro i f hm aS
  obtain⟨f,rfl⟩:∃g,f=g+1:=⟨f-1,by omega⟩
  have bj:decide ((i:Int)<(l.length:Int))=false:=decide_eq_false (by omega)
  have bd:l.drop i=[]:=List.drop_of_length_le (by omega)
  simp only[yA,Fo,bj,a7,bd,iw,List.any_nil,Bool.false_eq_true,if_false]
 |succ m ba=>
  intro i f hm aS
  obtain⟨f,rfl⟩:∃g,f=g+1:=⟨f-1,by omega⟩
  have bN:i<l.length:=by omega
  have bj:decide ((i:Int)<(l.length:Int))=true:=decide_eq_true (by omega)
  have e7:IntKind.i64.wrap ((i:Int)+1)=((i+1:Nat):Int):=by rw[wrap_i64 (by omega) (by omega)];omega
  obtain⟨a,b5,cI⟩:=cx.hX (k:=(i:Int)) (e:= .str l[i]) (by omega) (by simp[strs,bN]) rfl
  have qQ:=ba (i+1) f (by omega) (by omega)
  simp only[yA,Fo,bj,aU,b5,cI,aO,bC,e7,qQ]
  have e:(l[i]==s)=(s==l[i]):=by
   rw[Bool.eq_iff_iff,beq_iff_eq,beq_iff_eq]
   exact eq_comm
  have aw:iw s (l[i]::l.drop (i+1))=(s==l[i]||iw s (l.drop (i+1))):=rfl
  rw[List.drop_eq_getElem_cons bN,e]
  cases an:(s==l[i]) with
  |true=>rw[aU,if_pos (by rw[aw,an];rfl)]
  |false=>
   have ae:iw s (l[i]::l.drop (i+1))=iw s (l.drop (i+1)):=by rw[aw,an,Bool.false_or]
   rw[a7,ae]
theorem agl{j:Nat}{h:Lo}{jh:V}{l:List (Lu)}{s:Lu}(cx:dq 1 h jh (strs l))(ax:l.length≤1000)(aS:1000<j):uj j s jh h=some (.bool (iw s l),h):=by
 have:=agk j (s:=s) cx ax l.length 0 j (by omega) (by omega)
 have z:((0:Nat):Int)=0:=rfl
 rw[z,List.drop_zero] at this
 simp only[uj,jv cx,Cu,aO,a1,this]
 cases iw s l<;>rfl
theorem agm(j:Nat){h:Lo}{jh:V}{l:List (Lu)}{s:Lu}(cx:dq 1 h jh (strs l))(ax:l.length≤1000):∀(m i f:Nat),l.length=i+m→m<f→(iw s (l.drop i)=true∧∃o:Nat,wm j f jh s l.length i h=some (.ret,[.int .i64 (o:Int)],h))∨(iw s (l.drop i)=false∧wm j f jh s l.length i h=some (.exit 0,[],h)):=by
 intro m
 induction m with
 |zero=>
  intro i f hm aS
  obtain⟨f,rfl⟩:∃g,f=g+1:=⟨f-1,by omega⟩
  have bj:decide ((i:Int)<(l.length:Int))=false:=decide_eq_false (by omega)
  have bd:l.drop i=[]:=List.drop_of_length_le (by omega)
  simp only[wm,Fb,bj,a7,bd,iw,List.any_nil,Bool.false_eq_true,false_and,false_or,true_and]
 |succ m ba=>
  intro i f hm aS
  obtain⟨f,rfl⟩:∃g,f=g+1:=⟨f-1,by omega⟩
  have bN:i<l.length:=by omega
  have bj:decide ((i:Int)<(l.length:Int))=true:=decide_eq_true (by omega)
  have e7:IntKind.i64.wrap ((i:Int)+1)=((i+1:Nat):Int):=by rw[wrap_i64 (by omega) (by omega)];omega
  obtain⟨a,b5,cI⟩:=cx.hX (k:=(i:Int)) (e:= .str l[i]) (by omega) (by simp[strs,bN]) rfl
  have qQ:=ba (i+1) f (by omega) (by omega)
  simp only[wm,Fb,bj,aU,b5,cI,aO,bC,e7]
  rw[List.drop_eq_getElem_cons bN]
  simp only[iw,List.any_cons]
  cases c:(s==l[i]) with
  |true=>exact .inl ⟨rfl,i,rfl⟩
  |false=>
   simp only[a7,Bool.false_or]
   exact qQ
theorem agn{j:Nat}{h:Lo}{jh:V}{l:List (Lu)}{s:Lu}(cx:dq 1 h jh (strs l))(ax:l.length≤1000)(aS:1000<j):Fc j jh s h=some (.bool (iw s l),h):=by
 have:=agm j (s:=s) cx ax l.length 0 j (by omega) (by omega)
 have z:((0:Nat):Int)=0:=rfl
 rw[z,List.drop_zero] at this
 simp only[Fc,Lz,jv cx,Cu,aO,a1]
 rcases this with⟨R,o,ae⟩|⟨R,ae⟩
 ·rw[ae,R,gY]
  have U:decide ((o:Int)≥0)=true:=decide_eq_true (by omega)
  simp only[show decide (cg.ret=cg.exit 0)=false from rfl,a7,decide_true,aU,aN,aZ,bn,bl,id_eq,bq,a1,a5,fp,U]
 ·rw[ae,R,gY]
  rfl
def wG(k n:Int)(s:Lu):Bool:=if k=0 then(n==0&&s==[]) else if k=1 then s==[] else if k=2 then(n==0&&decide (s.length≤100)) else false
theorem ago{j:Nat}{h:Lo}(k n:Int)(s:Lu):aj (E_ j k n s h) fun v aa=>v= .bool (wG k n s)∧ai h aa []:=by
 simp only[E_]
 refine aj.ad (fO (cs:=[.int .i64 k, .int .i64 n, .str s]) rfl) ?_
 rintro p R ⟨rfl,st,ar⟩
 have gd:=fun ao=>st.af ao 0 0
 have rT:I (.ag (.c (.ptr h.length 0 0))) R=some (.int .i64 k):=st.ag rfl
 have c5:I (.ag (.c (.ptr h.length 0 1))) R=some (.int .i64 n):=st.ag rfl
 have ew:I (.ag (.c (.ptr h.length 0 2))) R=some (.str s):=st.ag rfl
 have ig:I (.bp 3 (.c (.ptr h.length 0 0))) R=some (.agg [.int .i64 k, .int .i64 n, .str s]):=st.e4 rfl
 have fx:I (.build [.int .i64 0, .int .i64 0,(.str [])] []) R=some (.agg [.int .i64 0, .int .i64 0, .str []]):=rfl
 simp only[Nat.zero_add] at gd
 simp only[gd,rT,c5,ew,ig,fx,aO,a1,bC,bP,aN,aZ,bn,bl,id_eq,bq,a5,L9,a0]
 unfold wG
 have bb:decide ((s.length:Int)≤100)=decide (s.length≤100):=decide_eq_decide.2 (by omega)
 by_cases dQ:k=0
 ·have e:(k==0)=true:=by simp[dQ]
  rw[e,aU,if_pos dQ,Bool.true_and]
  exact aj.some ⟨rfl,ar⟩
 ·have e:(k==0)=false:=by simp[dQ]
  rw[e,a7,if_neg dQ]
  by_cases bF:k=1
  ·have e:(k==1)=true:=by simp[bF]
   rw[e,aU,if_pos bF]
   exact aj.some ⟨rfl,ar⟩
  ·have e:(k==1)=false:=by simp[bF]
   rw[e,a7,if_neg bF]
   by_cases bD:k=2
   ·have e:(k==2)=true:=by simp[bD]
    rw[e,aU,if_pos bD,bb]
    cases(n==0)<;>exact aj.some ⟨rfl,ar⟩
   ·have e:(k==2)=false:=by simp[bD]
    rw[e,a7,if_neg bD]
    exact aj.some ⟨rfl,ar⟩
theorem agp{j:Nat}{h:Lo}(k n:Int)(s:Lu):aj (Fm j k n s h) fun v aa=>v= .bool (wG k n s)∧ai h aa []:=by
 simp only[Fm]
 refine aj.ad (fO (cs:=[.int .i64 k, .int .i64 n, .str s]) rfl) ?_
 rintro p R ⟨rfl,st,ar⟩
 have gd:=fun ao=>st.af ao 0 0
 have rT:I (.ag (.c (.ptr h.length 0 0))) R=some (.int .i64 k):=st.ag rfl
 have c5:I (.ag (.c (.ptr h.length 0 1))) R=some (.int .i64 n):=st.ag rfl
 have ew:I (.ag (.c (.ptr h.length 0 2))) R=some (.str s):=st.ag rfl
 simp only[Nat.zero_add] at gd
 simp only[gd,rT,c5,ew,aO,a1,bC]
 unfold wG
 have bb:decide ((s.length:Int)≤100)=decide (s.length≤100):=decide_eq_decide.2 (by omega)
 by_cases dQ:k=0
 ·have e:(k==0)=true:=by simp[dQ]
  rw[e,aU,if_pos dQ]
  cases(n==0)<;>exact aj.some ⟨rfl,ar⟩
 ·have e:(k==0)=false:=by simp[dQ]
  rw[e,a7,if_neg dQ]
  by_cases bF:k=1
  ·have e:(k==1)=true:=by simp[bF]
   rw[e,aU,if_pos bF]
   exact aj.some ⟨rfl,ar⟩
  ·have e:(k==1)=false:=by simp[bF]
   rw[e,a7,if_neg bF]
   by_cases bD:k=2
   ·have e:(k==2)=true:=by simp[bD]
    rw[e,aU,if_pos bD,bb]
    cases(n==0)<;>exact aj.some ⟨rfl,ar⟩
   ·have e:(k==2)=false:=by simp[bD]
    rw[e,a7,if_neg bD]
    exact aj.some ⟨rfl,ar⟩
def GB:List (Lu):=[[79,82],[65,78,68],[61],[60,62],[60],[60,61],[62],[62,61],[43],[45],[42]]
def p6:List (Lu):=[[67,79,85,78,84],[83,85,77],[77,73,78],[77,65,88]]
theorem agq(j:Nat)(op:Lu)(h:Lo):∃m:Int,wk j op h=some (.int .i64 m,h)∧(m !=7)=iw op GB:=by
 simp only[iw,GB,List.any_cons,List.any_nil,Bool.or_false]
 unfold wk Fa
 cases(op==[79,82]) with
 |true=>exact⟨0,rfl,rfl⟩
 |false=>
  cases(op==[65,78,68]) with
  |true=>exact⟨1,rfl,rfl⟩
  |false=>
   cases(op==[61]) with
   |true=>exact⟨3,rfl,rfl⟩
   |false=>
    cases(op==[60,62]) with
    |true=>exact⟨3,rfl,rfl⟩
    |false=>
     cases(op==[60]) with
     |true=>exact⟨3,rfl,rfl⟩
     |false=>
      cases(op==[60,61]) with
      |true=>exact⟨3,rfl,rfl⟩
      |false=>
       cases(op==[62]) with
       |true=>exact⟨3,rfl,rfl⟩
       |false=>
        cases(op==[62,61]) with
        |true=>exact⟨3,rfl,rfl⟩
        |false=>
         cases(op==[43]) with
         |true=>exact⟨4,rfl,rfl⟩
         |false=>
          cases(op==[45]) with
          |true=>exact⟨4,rfl,rfl⟩
          |false=>
           cases(op==[42]) with
           |true=>exact⟨5,rfl,rfl⟩
           |false=>exact⟨7,rfl,rfl⟩
theorem Td{j:Nat}(aS:1000<j){h:Lo}(op:Lu):aj (yx j op h) fun v aa=>v= .bool (iw op p6)∧ai h aa []:=by
 simp only[yx]
 refine aj.ad (mg (ah:=[(0, .str [67,79,85,78,84]),(1, .str [83,85,77]),(2, .str [77,73,78]),(3, .str [77,65,88])]) (es:=strs p6) (by decide) rfl rfl rfl) ?_
 rintro x R ⟨-,-,dX,-,ar,-⟩
 rw[agn dX (by decide) aS,fp,a0]
 exact aj.some ⟨rfl,ar⟩
def fP(s:Lu):Bool:=wB s&& !lx s
def kJ(n:fg):Bool:=n.dG==[]&&n.c7==[]
def ml(n:fg):Bool:=n.eh==0&&(n.ed==0&&n.ak==[])
def pn(n:fg)(l:Nat):Bool:=
 if n.k=1 then decide (l=0)&&(kJ n&&(n.op==[]&&(wG n.eh n.ed n.ak&&decide (n.ed≥0))))
 else if n.k=2 then decide (l=0)&&(ml n&&(n.op==[]&&(fP n.c7&&(n.dG==[]||fP n.dG))))
 else if n.k=3 then decide (l=1)&&(kJ n&&(ml n&&iw n.op [[78,79,84],[45]]))
 else if n.k=4 then decide (l=2)&&(kJ n&&(ml n&&iw n.op GB))
 else if n.k=5 then decide (l=1)&&(kJ n&&(ml n&&iw n.op [[73,83,32,78,85,76,76],[73,83,32,78,79,84,32,78,85,76,76]]))
 else if n.k=6 then kJ n&&(ml n&&(iw n.op p6&&(decide (l=1)||(decide (l=0)&&n.op==[67,79,85,78,84]))))
 else false
theorem int_eq(l m:Nat):((l:Int)==(m:Int))=decide (l=m):=by
 by_cases q:l=m
 ·simp[q]
 ·have:(l:Int)≠(m:Int):=by omega
  simp[q,this]
def Te(n:fg):Prop:=n.dG.length≤1000000000000000∧n.c7.length≤1000000000000000
theorem Mq{j:Nat}{s:Lu}{h:Lo}(aS:300<j)(y_:s.length<j)(a6:s.length≤1000000000000000):aj (oz j s h) fun v aa=>v= .bool (fP s)∧ai h aa []:=by
 simp only[oz]
 refine aj.ad (Mf y_ (by omega)) ?_
 rintro v R ⟨rfl,ar⟩
 rw[a0]
 unfold fP
 cases wB s with
 |false=>exact aj.some ⟨rfl,ar⟩
 |true=>
  simp only[aU,Mp,fp,a0,Bool.true_and]
  exact aj.some ⟨rfl,ar⟩
theorem Mr{j:Nat}{s:Lu}{h:Lo}(aS:300<j)(y_:s.length<j)(a6:s.length≤1000000000000000):aj (oA j s h) fun v aa=>v= .bool (fP s)∧ai h aa []:=by
 simp only[oA,agj]
 refine aj.ad (Mf y_ (by omega)) ?_
 rintro v R ⟨rfl,ar⟩
 rw[a0]
 unfold fP
 cases wB s with
 |false=>exact aj.some ⟨rfl,ar⟩
 |true=>
  simp only[aU,agf aS y_ a6,fp,a0,Bool.true_and]
  exact aj.some ⟨rfl,ar⟩
theorem GC{j:Nat}(aS:1000<j){h:Lo}{s:Lu}{l:List (Lu)}{n:Nat}{ah:List (Nat × V)}{K:V→Lo→OvL}{Q:V→Lo→Prop}(bd:l.length=n)(agr:n≤1000)(ae:ah.all (fun p=>decide (p.1<n)&&kk 1 p.2)=true)(aQ:tS (List.replicate n (.str [])) ah=strs l)
  (eY:∀aa,ai h aa []→aj (K (.bool (iw s l)) aa) Q):aj (ad (aB (.dN 1 (.str []) n (ah.map fun p=>(p.1, .c p.2))) h) fun x Mj=>ad (uj j s x Mj) K) Q:=by
 refine aj.ad (mg (ah:=ah) (es:=strs l) (by omega) ae aQ (by rw[Cu,bd])) ?_
 rintro x R ⟨-,-,dX,-,ar,-⟩
 rw[agl dX (by omega) aS,fp]
 exact eY R ar
theorem ags{j:Nat}(aS:1000<j){h:Lo}{n:fg}{aG:V}{es:Lv}{l:Nat}(s:dq 8 h aG es)(ax:es.length=l)(iV:n.dG.length<j)(an:n.c7.length<j)(ok:Te n):
  aj (Fq j n.k n.op n.eh n.ed n.ak n.dG n.c7 aG h) fun v aa=>v= .bool (pn n l)∧ai h aa []:=by
 simp only[Fq]
 refine aj.ad (fO (cs:=bH n aG) (mS s)) ?_
 rintro v R ⟨rfl,st,ar⟩
 have gd:=fun ao=>st.af ao 0 0
 have rT:I (.ag (.c (.ptr h.length 0 0))) R=some (.int .i64 n.k):=st.ag rfl
 have c5:I (.ag (.c (.ptr h.length 0 1))) R=some (.str n.op):=st.ag rfl
 have ew:I (.bp 3 (.c (.ptr h.length 0 2))) R=some (.agg [.int .i64 n.eh, .int .i64 n.ed, .str n.ak]):=iE st (by simp) (by decide)
 have jP:I (.ag (.c (.ptr h.length 0 5))) R=some (.str n.dG):=st.ag rfl
 have k3:I (.ag (.c (.ptr h.length 0 6))) R=some (.str n.c7):=st.ag rfl
 have np:I (.ag (.c (.ptr h.length 0 7))) R=some aG:=st.ag rfl
 have ig:=jv (s.aq ar)
 rw[ax] at ig
 simp only[Nat.zero_add] at gd
 have e6:((l:Int)==0)=decide (l=0):=int_eq l 0
 have aV:((l:Int)==1)=decide (l=1):=int_eq l 1
 have bb:((l:Int)==2)=decide (l=2):=int_eq l 2
 have fx:I (.build [.int .i64 0, .int .i64 0,(.str [])] []) R=some (.agg [.int .i64 0, .int .i64 0, .str []]):=rfl
 have agt:Fp j (.ptr h.length 0 0) R=some (.normal,[.bool (kJ n)],R):=by
  simp only[Fp,gd,jP,k3,aO,bC]
  unfold kJ
  cases(n.dG==[])<;>rfl
 have pd:(n.eh==0&&(n.ed==0&&n.ak==[]))=ml n:=rfl
 simp only[gd,np,ig,aO,a1,agt,gY,decide_true,aU,aN,aZ,bn,bl,id_eq,bq,a0,a5,ew,bP,bC,fx,L9,pd,rT,c5,jP,k3,e6,aV,bb]
 unfold pn
 by_cases bF:n.k=1
 ·have e:(n.k==1)=true:=by simp[bF]
  rw[e,aU,if_pos bF]
  cases aI:decide (l=0) with
  |false=>exact aj.some ⟨rfl,ar⟩
  |true=>
   simp only[aU,Bool.true_and]
   cases hp:kJ n with
   |false=>exact aj.some ⟨rfl,ar⟩
   |true=>
    simp only[aU,Bool.true_and]
    cases cj:(n.op==[]) with
    |false=>exact aj.some ⟨rfl,ar⟩
    |true=>
     simp only[aU,Bool.true_and]
     refine aj.ad (agp n.eh n.ed n.ak) ?_
     rintro v ae ⟨rfl,aA⟩
     have ds:=st.aq aA
     have Cv:=ds.af 2 0 0
     have Cw:=ds.af 1 0 2
     have i_:I (.ag (.c (.ptr h.length 0 3))) ae=some (.int .i64 n.ed):=ds.ag rfl
     simp only[Nat.zero_add,Nat.reduceAdd] at Cv Cw
     rw[a0]
     cases bg:wG n.eh n.ed n.ak with
     |false=>exact aj.some ⟨rfl,ar.bs aA⟩
     |true=>
      simp only[aU,Bool.true_and,Cv,Cw,i_,aO,a1]
      exact aj.some ⟨rfl,ar.bs aA⟩
 ·have e:(n.k==1)=false:=by simp[bF]
  rw[e,a7,if_neg bF]
  by_cases bD:n.k=2
  ·have e:(n.k==2)=true:=by simp[bD]
   rw[e,aU,if_pos bD]
   cases aI:decide (l=0) with
   |false=>exact aj.some ⟨rfl,ar⟩
   |true=>
    simp only[aU,Bool.true_and]
    cases hp:ml n with
    |false=>exact aj.some ⟨rfl,ar⟩
    |true=>
     simp only[aU,Bool.true_and]
     cases cj:(n.op==[]) with
     |false=>exact aj.some ⟨rfl,ar⟩
     |true=>
      simp only[aU,Bool.true_and]
      refine aj.ad (Mr (by omega) an ok.2) ?_
      rintro v ae ⟨rfl,aA⟩
      have ds:=st.aq aA
      have Cx:=ds.af 5 0 0
      have jP:I (.ag (.c (.ptr h.length 0 5))) ae=some (.str n.dG):=ds.ag rfl
      simp only[Nat.zero_add] at Cx
      rw[a0]
      cases bg:fP n.c7 with
      |false=>exact aj.some ⟨rfl,ar.bs aA⟩
      |true=>
       simp only[aU,Bool.true_and,Cx,jP,aO,bC]
       cases aF:(n.dG==[]) with
       |true=>exact aj.some ⟨rfl,ar.bs aA⟩
       |false=>
        simp only[a7,Bool.false_or]
        refine aj.ad (Mr (by omega) iV ok.1) ?_
        rintro v aQ ⟨rfl,aT⟩
        rw[a0]
        exact aj.some ⟨rfl,(ar.bs aA).bs aT⟩
  ·have e:(n.k==2)=false:=by simp[bD]
   rw[e,a7,if_neg bD]
   by_cases b8:n.k=3
   ·have e:(n.k==3)=true:=by simp[b8]
    rw[e,aU,if_pos b8]
    cases aI:decide (l=1) with
    |false=>exact aj.some ⟨rfl,ar⟩
    |true=>
     simp only[aU,Bool.true_and]
     cases hp:kJ n with
     |false=>exact aj.some ⟨rfl,ar⟩
     |true=>
      simp only[aU,Bool.true_and]
      cases b0:ml n with
      |false=>exact aj.some ⟨rfl,ar⟩
      |true=>
       simp only[aU,Bool.true_and]
       refine GC aS (l:=[[78,79,84],[45]]) (ah:=[(0, .str [78,79,84]),(1, .str [45])]) rfl (by decide) rfl rfl ?_
       intro ae aA
       rw[a0]
       exact aj.some ⟨rfl,ar.bs aA⟩
   ·have e:(n.k==3)=false:=by simp[b8]
    rw[e,a7,if_neg b8]
    by_cases cu:n.k=4
    ·have e:(n.k==4)=true:=by simp[cu]
     rw[e,aU,if_pos cu]
     cases aI:decide (l=2) with
     |false=>exact aj.some ⟨rfl,ar⟩
     |true=>
      simp only[aU,Bool.true_and]
      cases hp:kJ n with
      |false=>exact aj.some ⟨rfl,ar⟩
      |true=>
       simp only[aU,Bool.true_and]
       cases b0:ml n with
       |false=>exact aj.some ⟨rfl,ar⟩
       |true=>
        simp only[aU,Bool.true_and]
        refine GC aS (l:=GB) (ah:=[(0, .str [79,82]),(1, .str [65,78,68]),(2, .str [61]),(3, .str [60,62]),(4, .str [60]),(5, .str [60,61]),(6, .str [62]),(7, .str [62,61]),(8, .str [43]),(9, .str [45]),(10, .str [42])]) rfl (by decide) rfl rfl ?_
        intro ae aA
        rw[a0]
        exact aj.some ⟨rfl,ar.bs aA⟩
    ·have e:(n.k==4)=false:=by simp[cu]
     rw[e,a7,if_neg cu]
     by_cases cK:n.k=5
     ·have e:(n.k==5)=true:=by simp[cK]
      rw[e,aU,if_pos cK]
      cases aI:decide (l=1) with
      |false=>exact aj.some ⟨rfl,ar⟩
      |true=>
       simp only[aU,Bool.true_and]
       cases hp:kJ n with
       |false=>exact aj.some ⟨rfl,ar⟩
       |true=>
        simp only[aU,Bool.true_and]
        cases b0:ml n with
        |false=>exact aj.some ⟨rfl,ar⟩
        |true=>
         simp only[aU,Bool.true_and]
         refine GC aS (l:=[[73,83,32,78,85,76,76],[73,83,32,78,79,84,32,78,85,76,76]]) (ah:=[(0, .str [73,83,32,78,85,76,76]),(1, .str [73,83,32,78,79,84,32,78,85,76,76])]) rfl (by decide) rfl rfl ?_
         intro ae aA
         rw[a0]
         exact aj.some ⟨rfl,ar.bs aA⟩
     ·have e:(n.k==5)=false:=by simp[cK]
      rw[e,a7,if_neg cK]
      by_cases me:n.k=6
      ·have e:(n.k==6)=true:=by simp[me]
       rw[e,aU,if_pos me]
       cases hp:kJ n with
       |false=>exact aj.some ⟨rfl,ar⟩
       |true=>
        simp only[aU,Bool.true_and]
        cases b0:ml n with
        |false=>exact aj.some ⟨rfl,ar⟩
        |true=>
         simp only[aU,Bool.true_and]
         refine GC aS (l:=p6) (ah:=[(0, .str [67,79,85,78,84]),(1, .str [83,85,77]),(2, .str [77,73,78]),(3, .str [77,65,88])]) rfl (by decide) rfl rfl ?_
         intro ae aA
         have db:=ar.bs aA
         have ds:=st.aq aA
         have Tf:=ds.af 1 0 0
         have c5:I (.ag (.c (.ptr h.length 0 1))) ae=some (.str n.op):=ds.ag rfl
         simp only[Nat.zero_add] at Tf
         rw[a0]
         cases aw:iw n.op p6 with
         |false=>exact aj.some ⟨rfl,db⟩
         |true=>
          simp only[aU,Bool.true_and]
          cases iY:decide (l=1) with
          |true=>exact aj.some ⟨rfl,db⟩
          |false=>
           simp only[a7,Bool.false_or]
           cases arx:decide (l=0) with
           |false=>exact aj.some ⟨rfl,db⟩
           |true=>
            simp only[aU,Tf,c5,aO,bC,Bool.true_and]
            exact aj.some ⟨rfl,db⟩
      ·have e:(n.k==6)=false:=by simp[me]
       rw[e,a7,if_neg me]
       exact aj.some ⟨rfl,ar⟩
theorem agu{j:Nat}(aS:1000<j){h:Lo}{n:fg}{aG:V}{es:Lv}{l:Nat}(s:dq 8 h aG es)(ax:es.length=l)(iV:n.dG.length<j)(an:n.c7.length<j)(ok:Te n):
  aj (Fg j n.k n.op n.eh n.ed n.ak n.dG n.c7 aG h) fun v aa=>v= .bool (pn n l)∧ai h aa []:=by
 simp only[Fg]
 refine aj.ad (fO (cs:=bH n aG) (mS s)) ?_
 rintro v R ⟨rfl,st,ar⟩
 have gd:=fun ao=>st.af ao 0 0
 have rT:I (.ag (.c (.ptr h.length 0 0))) R=some (.int .i64 n.k):=st.ag rfl
 have c5:I (.ag (.c (.ptr h.length 0 1))) R=some (.str n.op):=st.ag rfl
 have ew:I (.bp 3 (.c (.ptr h.length 0 2))) R=some (.agg [.int .i64 n.eh, .int .i64 n.ed, .str n.ak]):=iE st (by simp) (by decide)
 have jP:I (.ag (.c (.ptr h.length 0 5))) R=some (.str n.dG):=st.ag rfl
 have k3:I (.ag (.c (.ptr h.length 0 6))) R=some (.str n.c7):=st.ag rfl
 have np:I (.ag (.c (.ptr h.length 0 7))) R=some aG:=st.ag rfl
 have ig:=jv (s.aq ar)
 rw[ax] at ig
 simp only[Nat.zero_add] at gd
 have e6:((l:Int)==0)=decide (l=0):=int_eq l 0
 have aV:((l:Int)==1)=decide (l=1):=int_eq l 1
 have bb:((l:Int)==2)=decide (l=2):=int_eq l 2
 have fx:I (.build [.int .i64 0, .int .i64 0,(.str [])] []) R=some (.agg [.int .i64 0, .int .i64 0, .str []]):=rfl
 have agv:Ff j (.ptr h.length 0 0) R=some (.normal,[.bool (!kJ n)],R):=by
  simp only[Ff,gd,jP,k3,aO,bC]
  unfold kJ
  cases(n.dG==[])<;>rfl
 have pd:(n.eh==0&&(n.ed==0&&n.ak==[]))=ml n:=rfl
 have agw:Fe j (.ptr h.length 0 0) (!kJ n) R=if((n.k !=1&& !ml n)||(n.k !=2&& !kJ n))=true then some (.ret,[.bool false],R) else some (.normal,[],R):=by
  simp only[Fe,gd,rT,ew,aO,a1,bP,aN,aZ,bn,bl,id_eq,bq,bC,a5,fx,SL,a0,pd]
  cases(n.k !=1)<;>cases ml n<;>cases(n.k !=2)<;>cases kJ n<;>rfl
 simp only[gd,np,ig,aO,a1,agv,gY,decide_true,aU,aN,aZ,bn,bl,id_eq,bq,a0,a5]
 rw[agw]
 have fin:∀{Q:V→Lo→Prop} {K:OvL},True:=fun{_ _}=>trivial
 by_cases g:((n.k !=1&& !ml n)||(n.k !=2&& !kJ n))=true
 ·rw[if_pos g,gY]
  simp only[decide_true,aU,aN,aZ,bn,bl,id_eq,bq,a0,a5]
  refine aj.some ⟨?_,ar⟩
  have:pn n l=false:=by
   simp only[Bool.or_eq_true,Bool.and_eq_true,bne_iff_ne,ne_eq,Bool.not_eq_true'] at g
   unfold pn
   by_cases bF:n.k=1
   ·rw[if_pos bF]
    have hp:kJ n=false:=by
     rcases g with g|g
     ·exact absurd bF g.1
     ·exact g.2
    rw[hp];simp
   ·rw[if_neg bF]
    by_cases bD:n.k=2
    ·rw[if_pos bD]
     have b0:ml n=false:=by
      rcases g with g|g
      ·exact g.2
      ·exact absurd bD g.1
     rw[b0];simp
    ·rw[if_neg bD]
     have aF:kJ n=false∨ml n=false:=by
      rcases g with g|g
      ·exact .inr g.2
      ·exact .inl g.2
     rcases aF with aF|aF
     ·rw[aF];simp
     ·rw[aF];simp
  rw[this]
 ·rw[if_neg g,gY]
  simp only[Bool.or_eq_true,Bool.and_eq_true,bne_iff_ne,ne_eq,Bool.not_eq_true',not_or,not_and,Bool.not_eq_false] at g
  simp only[show decide (cg.normal=cg.ret)=false from rfl,a7,decide_true,aU,a5,gd,rT,aO,a1,c5,bC,ew,bP,aN,aZ,bn,bl,id_eq,bq,e6,aV,bb,jP,k3]
  unfold pn
  by_cases bF:n.k=1
  ·have e:(n.k==1)=true:=by simp[bF]
   have hp:kJ n=true:=g.2 (by omega)
   rw[e,aU,if_pos bF,hp,Bool.true_and]
   cases aI:decide (l=0) with
   |false=>exact aj.some ⟨rfl,ar⟩
   |true=>
    simp only[aU,Bool.true_and]
    cases cj:(n.op==[]) with
    |false=>exact aj.some ⟨rfl,ar⟩
    |true=>
     simp only[aU,Bool.true_and]
     refine aj.ad (ago n.eh n.ed n.ak) ?_
     rintro v ae ⟨rfl,aA⟩
     have ds:=st.aq aA
     have Cv:=ds.af 2 0 0
     have Cw:=ds.af 1 0 2
     have i_:I (.ag (.c (.ptr h.length 0 3))) ae=some (.int .i64 n.ed):=ds.ag rfl
     simp only[Nat.zero_add,Nat.reduceAdd] at Cv Cw
     rw[a0]
     cases bg:wG n.eh n.ed n.ak with
     |false=>exact aj.some ⟨rfl,ar.bs aA⟩
     |true=>
      simp only[aU,Bool.true_and,Cv,Cw,i_,aO,a1]
      exact aj.some ⟨rfl,ar.bs aA⟩
  ·have e:(n.k==1)=false:=by simp[bF]
   have b0:ml n=true:=g.1 bF
   rw[e,a7,if_neg bF,b0]
   by_cases bD:n.k=2
   ·have e:(n.k==2)=true:=by simp[bD]
    rw[e,aU,if_pos bD,Bool.true_and]
    cases aI:decide (l=0) with
    |false=>exact aj.some ⟨rfl,ar⟩
    |true=>
     simp only[aU,Bool.true_and]
     cases cj:(n.op==[]) with
     |false=>exact aj.some ⟨rfl,ar⟩
     |true=>
      simp only[aU,Bool.true_and]
      refine aj.ad (Mq (by omega) an ok.2) ?_
      rintro v ae ⟨rfl,aA⟩
      have ds:=st.aq aA
      have Cx:=ds.af 5 0 0
      have jP:I (.ag (.c (.ptr h.length 0 5))) ae=some (.str n.dG):=ds.ag rfl
      simp only[Nat.zero_add] at Cx
      rw[a0]
      cases bg:fP n.c7 with
      |false=>exact aj.some ⟨rfl,ar.bs aA⟩
      |true=>
       simp only[aU,Bool.true_and,Cx,jP,aO,bC]
       cases aF:(n.dG==[]) with
       |true=>exact aj.some ⟨rfl,ar.bs aA⟩
       |false=>
        simp only[a7,Bool.false_or]
        refine aj.ad (Mq (by omega) iV ok.1) ?_
        rintro v aQ ⟨rfl,aT⟩
        rw[a0]
        exact aj.some ⟨rfl,(ar.bs aA).bs aT⟩
   ·have e:(n.k==2)=false:=by simp[bD]
    have hp:kJ n=true:=g.2 bD
    rw[e,a7,if_neg bD,hp]
    simp only[Bool.true_and]
    by_cases b8:n.k=3
    ·have e:(n.k==3)=true:=by simp[b8]
     rw[e,aU,if_pos b8]
     cases aI:decide (l=1) with
     |false=>exact aj.some ⟨rfl,ar⟩
     |true=>
      simp only[aU,Bool.true_and,iw,List.any_cons,List.any_nil,Bool.or_false]
      cases(n.op==[78,79,84])<;>exact aj.some ⟨rfl,ar⟩
    ·have e:(n.k==3)=false:=by simp[b8]
     rw[e,a7,if_neg b8]
     by_cases cu:n.k=4
     ·have e:(n.k==4)=true:=by simp[cu]
      rw[e,aU,if_pos cu]
      cases aI:decide (l=2) with
      |false=>exact aj.some ⟨rfl,ar⟩
      |true=>
       obtain⟨m,em,hm⟩:=agq j n.op R
       simp only[aU,Bool.true_and,em,fp,a1,hm]
       exact aj.some ⟨rfl,ar⟩
     ·have e:(n.k==4)=false:=by simp[cu]
      rw[e,a7,if_neg cu]
      by_cases cK:n.k=5
      ·have e:(n.k==5)=true:=by simp[cK]
       rw[e,aU,if_pos cK]
       cases aI:decide (l=1) with
       |false=>exact aj.some ⟨rfl,ar⟩
       |true=>
        simp only[aU,Bool.true_and,iw,List.any_cons,List.any_nil,Bool.or_false]
        cases(n.op==[73,83,32,78,85,76,76])<;>exact aj.some ⟨rfl,ar⟩
      ·have e:(n.k==5)=false:=by simp[cK]
       rw[e,a7,if_neg cK]
       by_cases me:n.k=6
       ·have e:(n.k==6)=true:=by simp[me]
        rw[e,aU,if_pos me]
        cases aI:decide (l=0) with
        |false=>
         simp only[a7,Bool.false_and,Bool.or_false]
         cases iY:decide (l=1) with
         |false=>simp only[Bool.and_false];exact aj.some ⟨rfl,ar⟩
         |true=>
          simp only[aU,Bool.and_true]
          refine aj.ad (Td aS n.op) ?_
          rintro v ae ⟨rfl,aA⟩
          rw[a0]
          exact aj.some ⟨rfl,ar.bs aA⟩
        |true=>
         have iY:decide (l=1)=false:=by
          simp only[decide_eq_true_eq] at aI
          exact decide_eq_false (by omega)
         simp only[aU,Bool.true_and,iY,a7,Bool.false_or]
         cases OP:(n.op==[67,79,85,78,84]) with
         |false=>simp only[a7,Bool.and_false];exact aj.some ⟨rfl,ar⟩
         |true=>
          have:iw n.op p6=true:=by simp[iw,p6,OP]
          rw[this]
          exact aj.some ⟨rfl,ar⟩
       ·have e:(n.k==6)=false:=by simp[me]
        rw[e,a7,if_neg me]
        exact aj.some ⟨rfl,ar⟩
def fY(w:Nat):Nat→X→Prop
 |0,_=>False
 |k+1, .mk n ah=>(n.dG.length≤w∧n.c7.length≤w∧ah.length≤w)∧∀p,p∈ah→fY w k p
def j9:Nat→X→Bool
 |0,_=>false
 |m+1, .mk n ah=>pn n ah.length&&ah.all (j9 m)
abbrev Forms(j w k m:Nat)(av:Nat→Prop):Prop:=∀(d:Nat) (x:X) (n:fg) (aG:V) (ah:List X) (h:Lo),fY w d x→x= .mk n ah→c6 av h (.agg (bH n aG)) x→
 aj (ui j (mK j k) n.k n.op n.eh n.ed n.ak n.dG n.c7 aG (m:Int) h) fun v aa=>v= .bool (j9 m x)∧ai h aa []
theorem agx(j k w m:Nat)(Ms:m≤8){av:Nat→Prop}{aI:Lo}{mp:Nat}{aG:V}{es:Lv}{ah:List X}{d:Nat}(s:dq 8 aI aG es)(ax:es.length=ah.length)(hp:∀(i:Nat) (e:V) (p:X),es[i]? =some e→ah[i]? =some p→c6 av aI e p)(bj:∀p,p∈ah→fY w d p)
  (a8:ni aI mp (.int .i64 ((m+1:Nat):Int))) (hw:ah.length≤4611686018427387904) (kp:Forms j w k m av):
  ∀(r i f:Nat) (h:Lo),ah.length=i+r→r<f→ai aI h []→aL (sY j (BX j (mK j (k+2))) f aG (.fn 112 [.ptr mp 0 0]) ah.length i h) fun x ak aa=>ai aI aa []∧if(ah.drop i).all (j9 m)=true then x= .exit 0∧ak=[] else x= .ret∧∃o:Nat,ak=[.int .i64 (o:Int)]:=by
 intro r
 induction r with
 |zero=>
  intro i f h hm aS aq
  obtain⟨f,rfl⟩:∃g,f=g+1:=⟨f-1,by omega⟩
  have bj:decide ((i:Int)<(ah.length:Int))=false:=decide_eq_false (by omega)
  have bd:ah.drop i=[]:=List.drop_of_length_le (by omega)
  simp only[sY,yu,bj,a7]
  refine aL.some ⟨aq, ?_⟩
  rw[bd,List.all_nil,if_pos rfl]
  exact⟨rfl,rfl⟩
 |succ r ba=>
  intro i f h hm aS aq
  obtain⟨f,rfl⟩:∃g,f=g+1:=⟨f-1,by omega⟩
  have bN:i<ah.length:=by omega
  have uB:decide ((i:Int)<(ah.length:Int))=true:=decide_eq_true (by omega)
  have e7:IntKind.i64.wrap ((i:Int)+1)=((i+1:Nat):Int):=by rw[wrap_i64 (by omega) (by omega)];omega
  obtain⟨a,cY,iF,lX,aV,b5,cI,cp,bF⟩:=c6.at (s.aq aq) ax (fun i e p aX aY=>(hp i e p aX aY).aq aq) bN
  have Mb:∀bI,BX j (mK j (k+2)) (.fn 112 [.ptr mp 0 0]) [.agg (bH cY iF)] bI=Fh j (mK j (k+1)) cY.k cY.op cY.eh cY.ed cY.ak cY.dG cY.c7 iF (.ptr mp 0 0) bI:=fun bI=>rfl
  simp only[sY,yu,uB,aU,b5,cI,aO,bP,aN,aZ,bn,bl,id_eq,bq,a1,bC,a5,e7,Mb]
  have agy:aj (Fh j (mK j (k+1)) cY.k cY.op cY.eh cY.ed cY.ak cY.dG cY.c7 iF (.ptr mp 0 0) h) fun v aa=>v= .bool (!(j9 m ah[i]))∧ai h aa []:=by
   simp only[Fh]
   refine aj.ad (fO (cs:=bH cY iF) (by simp[bF];exact⟨rfl,rfl,rfl,rfl,rfl,rfl,rfl⟩)) ?_
   rintro v R ⟨rfl,st,ar⟩
   have ig:I (.bp 8 (.c (.ptr h.length 0 0))) R=some (.agg (bH cY iF)):=st.e4 rfl
   have lm:=((a8.aq aq).aq ar).ag rfl
   have ib:IntKind.i64.wrap (((m+1:Nat):Int)-1)=(m:Int):=by rw[wrap_i64 (by omega) (by omega)];omega
   have s3:∀bI,mK j (k+1) 73 [.agg (bH cY iF), .int .i64 (m:Int)] bI=ui j (mK j k) cY.k cY.op cY.eh cY.ed cY.ak cY.dG cY.c7 iF (m:Int) bI:=fun bI=>rfl
   simp only[ig,lm,aO,bP,aN,aZ,bn,bl,id_eq,bq,a1,bC,a5,ib,s3]
   refine aj.ad (kp d ah[i] cY iF lX R (bj _ (List.getElem_mem bN)) aV (aV▸cp.aq ar)) ?_
   rintro v ae ⟨rfl,aA⟩
   rw[a0]
   exact aj.some ⟨rfl,ar.bs aA⟩
  refine aL.ad agy ?_
  rintro v bI ⟨rfl,bX⟩
  have qP:=aq.bs bX
  rw[a0]
  cases dx:j9 m ah[i] with
  |false=>
   simp only[Bool.not_false,aU]
   refine aL.some ⟨qP, ?_⟩
   rw[List.drop_eq_getElem_cons bN,List.all_cons,dx,Bool.false_and,if_neg (by decide)]
   exact⟨rfl,i,rfl⟩
  |true=>
   simp only[Bool.not_true,a7]
   rw[List.drop_eq_getElem_cons bN,List.all_cons,dx,Bool.true_and]
   exact ba (i+1) f bI (by omega) (by omega) qP
theorem agz(j w k m:Nat)(aS:1000<j)(hw:w<j)(bV:w≤1000000000000000)(Ms:m+1≤8){av:Nat→Prop}(kp:Forms j w k m av):Forms j w (k+2) (m+1) av:=by
 intro d x n aG ah h bj au ex
 subst au
 obtain⟨es,s,aw,ax,hp⟩:=ex.inv
 obtain⟨d,rfl⟩:∃e,d=e+1:=by
  cases d with
  |zero=>exact absurd bj (by simp[fY])
  |succ d=>exact⟨d,rfl⟩
 obtain⟨⟨agA,agB,agC⟩,Mt⟩:=bj
 simp only[ui]
 refine aj.ad (fO (cs:=bH n aG) (mS s)) ?_
 rintro v R ⟨rfl,fS,ar⟩
 refine aj.ad (EF (v:= .int .i64 ((m+1:Nat):Int)) rfl) ?_
 rintro v ae ⟨rfl,mU,aA⟩
 have ds:=fS.aq aA
 have lm:=mU.ag rfl
 have ig:I (.bp 8 (.c (.ptr h.length 0 0))) ae=some (.agg (bH n aG)):=ds.e4 rfl
 have qv:decide (((m+1:Nat):Int)>0)=true:=decide_eq_true (by omega)
 have db:=ar.bs aA
 simp only[lm,aO,a1,qv,aU,ig,bP,aN,aZ,bn,bl,id_eq,bq,bC,a5]
 refine aj.ad (agu aS (s.aq db) ax (by omega) (by omega) ⟨by omega,by omega⟩) ?_
 rintro v aQ ⟨rfl,aT⟩
 have rU:=db.bs aT
 rw[a0]
 have Mu:j9 (m+1) (.mk n ah)=(pn n ah.length&&ah.all (j9 m)):=rfl
 rw[Mu]
 cases hP:pn n ah.length with
 |false=>exact aj.some ⟨rfl,rU⟩
 |true=>
  have ha:=ds.aq aT
  have gd:=ha.af 7 0 0
  have np:I (.ag (.c (.ptr h.length 0 7))) aQ=some aG:=ha.ag rfl
  have gP:=jv (s.aq rU)
  rw[ax] at gP
  simp only[Nat.zero_add] at gd
  simp only[aU,gd,np,aO,yv,E8,gP,a1,Bool.true_and]
  have eT:=agx j k w m (by omega) (s.aq rU) ax (fun i e p aX aY=>(hp i e p aX aY).aq rU) Mt (mU.aq aT) (by omega) kp ah.length 0 j aQ (by omega) (by omega) (ai.refl _ _)
  have z:((0:Nat):Int)=0:=rfl
  rw[z,List.drop_zero] at eT
  refine aj.ad (Q:=fun v aa=>v= .bool (!(ah.all (j9 m)))∧ai h aa []) (aj.ad (Q:=fun v aa=>(∃o:Int,v= .int .i64 o∧decide (o≥0)= !(ah.all (j9 m)))∧ai h aa []) (aj.bO eT ?_) ?_) ?_
  ·rintro x ak bo ⟨bu,r⟩
   have Cy:=rU.bs bu
   cases eW:ah.all (j9 m) with
   |true=>
    rw[eW,if_pos rfl] at r
    obtain⟨rfl,rfl⟩:=r
    simp only[decide_true,aU,a5]
    exact aj.some ⟨⟨-1,rfl,rfl⟩,Cy⟩
   |false=>
    rw[eW,if_neg (by decide)] at r
    obtain⟨rfl,o,rfl⟩:=r
    simp only[show decide (cg.ret=cg.exit 0)=false from rfl,a7,decide_true,aU,aN,aZ,bn,bl,id_eq,bq,a1,a5]
    exact aj.some ⟨⟨o,rfl,decide_eq_true (by omega)⟩,Cy⟩
  ·rintro v bo ⟨⟨o,rfl,U⟩,bu⟩
   rw[a1,U]
   exact aj.some ⟨rfl,bu⟩
  ·rintro v bo ⟨rfl,bu⟩
   rw[a0,Bool.not_not]
   exact aj.some ⟨rfl,bu⟩
theorem agD(j w k:Nat){av:Nat→Prop}:Forms j w k 0 av:=by
 intro d x n aG ah h bj au ex
 subst au
 obtain⟨es,s,aw,ax,hp⟩:=ex.inv
 simp only[ui]
 refine aj.ad (fO (cs:=bH n aG) (mS s)) ?_
 rintro v R ⟨rfl,fS,ar⟩
 refine aj.ad (EF (v:= .int .i64 ((0:Nat):Int)) rfl) ?_
 rintro v ae ⟨rfl,mU,aA⟩
 have lm:=mU.ag rfl
 have qv:decide (((0:Nat):Int)>0)=false:=by decide
 simp only[lm,aO,a1,qv,a7]
 exact aj.some ⟨rfl,ar.bs aA⟩
theorem Mv(j w:Nat)(aS:1000<j)(hw:w<j)(bV:w≤1000000000000000){av:Nat→Prop}:∀(m k:Nat),m≤8→2*m≤k→Forms j w k m av
 |0,k,_,_=>agD j w k
 |m+1,k,eR,aH=>by
  obtain⟨k,rfl⟩:∃o,k=o+2:=⟨k-2,by omega⟩
  exact agz j w k m aS hw bV eR (Mv j w aS hw bV m k (by omega) (by omega))
theorem agE{j w:Nat}(aS:1000<j)(hw:w<j)(bV:w≤1000000000000000){av:Nat→Prop}{d:Nat}{n:fg}{aG:V}{ah:List X}{h:Lo}(bj:fY w d (.mk n ah))(ex:c6 av h (.agg (bH n aG)) (.mk n ah)):
  aj (rM j n.k n.op n.eh n.ed n.ak n.dG n.c7 aG h) fun v aa=>v= .bool (j9 8 (.mk n ah))∧ai h aa []:=by
 obtain⟨es,s,aw,ax,hp⟩:=ex.inv
 simp only[rM]
 refine aj.ad (fO (cs:=bH n aG) (mS s)) ?_
 rintro v R ⟨rfl,fS,ar⟩
 have ig:I (.bp 8 (.c (.ptr h.length 0 0))) R=some (.agg (bH n aG)):=fS.e4 rfl
 simp only[ig,aO,bP,aN,aZ,bn,bl,id_eq,bq,a1,bC,a5]
 have:=Mv j w aS hw bV (av:=av) 8 j (by omega) (by omega) d _ n aG ah R bj rfl (ex.aq ar)
 rw[show((8:Nat):Int)=8 from rfl] at this
 refine aj.ad this ?_
 rintro v ae ⟨rfl,aA⟩
 rw[a0]
 exact aj.some ⟨rfl,ar.bs aA⟩
abbrev Sound(j w k m:Nat)(av:Nat→Prop):Prop:=∀(d:Nat) (x:X) (n:fg) (aG:V) (ah:List X) (h:Lo),fY w d x→x= .mk n ah→c6 av h (.agg (bH n aG)) x→
 aj (yC j (sZ j k) n.k n.op n.eh n.ed n.ak n.dG n.c7 aG (m:Int) h) fun v aa=>v= .bool (j9 m x)∧ai h aa []
theorem agF(j k w m:Nat)(Ms:m≤8){av:Nat→Prop}{aI:Lo}{gx:Nat}{n:fg}{aG:V}{es:Lv}{ah:List X}{d:Nat}(dR:bY aI gx (bH n aG))(s:dq 8 aI aG es)(ax:es.length=ah.length)(hp:∀(i:Nat) (e:V) (p:X),es[i]? =some e→ah[i]? =some p→c6 av aI e p)(bj:∀p,p∈ah→fY w d p)
  (hw:ah.length≤4611686018427387904) (kp:Sound j w k m av):
  ∀(r i f:Nat) (h:Lo),ah.length=i+r→r<f→ai aI h []→aL (yB j (sZ j (k+1)) f ((m+1:Nat):Int) (.ptr gx 0 0) ah.length i h) fun x ak aa=>ai aI aa []∧if(ah.drop i).all (j9 m)=true then x= .exit 0∧ak=[] else x= .ret∧ak=[.bool false]:=by
 intro r
 induction r with
 |zero=>
  intro i f h hm aS aq
  obtain⟨f,rfl⟩:∃g,f=g+1:=⟨f-1,by omega⟩
  have bj:decide ((i:Int)<(ah.length:Int))=false:=decide_eq_false (by omega)
  have bd:ah.drop i=[]:=List.drop_of_length_le (by omega)
  simp only[yB,Fs,bj,a7]
  refine aL.some ⟨aq, ?_⟩
  rw[bd,List.all_nil,if_pos rfl]
  exact⟨rfl,rfl⟩
 |succ r ba=>
  intro i f h hm aS aq
  obtain⟨f,rfl⟩:∃g,f=g+1:=⟨f-1,by omega⟩
  have bN:i<ah.length:=by omega
  have uB:decide ((i:Int)<(ah.length:Int))=true:=decide_eq_true (by omega)
  have e7:IntKind.i64.wrap ((i:Int)+1)=((i+1:Nat):Int):=by rw[wrap_i64 (by omega) (by omega)];omega
  have ib:IntKind.i64.wrap (((m+1:Nat):Int)-1)=(m:Int):=by rw[wrap_i64 (by omega) (by omega)];omega
  obtain⟨a,cY,iF,lX,aV,b5,cI,cp,bF⟩:=c6.at (s.aq aq) ax (fun i e p aX aY=>(hp i e p aX aY).aq aq) bN
  have gd:=(dR.aq aq).af 7 0 0
  have gP:I (.ag (.c (.ptr gx 0 7))) h=some aG:=(dR.aq aq).ag rfl
  have s3:∀bI,sZ j (k+1) 76 [.agg (bH cY iF), .int .i64 (m:Int)] bI=yC j (sZ j k) cY.k cY.op cY.eh cY.ed cY.ak cY.dG cY.c7 iF (m:Int) bI:=fun bI=>rfl
  simp only[Nat.zero_add] at gd
  simp only[yB,Fs,uB,aU,gd,gP,b5,cI,aO,bP,aN,aZ,bn,bl,id_eq,bq,a1,bC,a5,e7,ib,s3]
  refine aL.ad (kp d ah[i] cY iF lX h (bj _ (List.getElem_mem bN)) aV (aV▸cp)) ?_
  rintro v bI ⟨rfl,bX⟩
  have qP:=aq.bs bX
  rw[a0]
  cases dx:j9 m ah[i] with
  |false=>
   simp only[Bool.not_false,aU]
   refine aL.some ⟨qP, ?_⟩
   rw[List.drop_eq_getElem_cons bN,List.all_cons,dx,Bool.false_and,if_neg (by decide)]
   exact⟨rfl,rfl⟩
  |true=>
   simp only[Bool.not_true,a7]
   rw[List.drop_eq_getElem_cons bN,List.all_cons,dx,Bool.true_and]
   exact ba (i+1) f bI (by omega) (by omega) qP
theorem agG(j w k m:Nat)(aS:1000<j)(hw:w<j)(bV:w≤1000000000000000)(Ms:m+1≤8){av:Nat→Prop}(kp:Sound j w k m av):Sound j w (k+1) (m+1) av:=by
 intro d x n aG ah h bj au ex
 subst au
 obtain⟨es,s,aw,ax,hp⟩:=ex.inv
 obtain⟨d,rfl⟩:∃e,d=e+1:=by
  cases d with
  |zero=>exact absurd bj (by simp[fY])
  |succ d=>exact⟨d,rfl⟩
 obtain⟨⟨agA,agB,agC⟩,Mt⟩:=bj
 simp only[yC]
 refine aj.ad (fO (cs:=bH n aG) (mS s)) ?_
 rintro v R ⟨rfl,fS,ar⟩
 have ig:I (.bp 8 (.c (.ptr h.length 0 0))) R=some (.agg (bH n aG)):=fS.e4 rfl
 have qv:decide (((m+1:Nat):Int)<1)=false:=decide_eq_false (by omega)
 have Mu:j9 (m+1) (.mk n ah)=(pn n ah.length&&ah.all (j9 m)):=rfl
 rw[Mu]
 refine aj.bO (Q:=fun x ak aa=>ai R aa []∧if pn n ah.length=true then x= .normal∧ak=[] else x= .ret∧ak=[.bool false]) ?_ ?_
 ·simp only[Ft,qv,a7,ig,aO,bP,aN,aZ,bn,bl,id_eq,bq,a1,bC,a5]
  refine aL.ad (ags aS (s.aq ar) ax (by omega) (by omega) ⟨by omega,by omega⟩) ?_
  rintro v aQ ⟨rfl,aT⟩
  rw[a0]
  cases hP:pn n ah.length with
  |false=>exact aL.some ⟨aT,by rw[if_neg (by decide)];exact⟨rfl,rfl⟩⟩
  |true=>exact aL.some ⟨aT,by rw[if_pos rfl];exact⟨rfl,rfl⟩⟩
 ·rintro x ak aQ ⟨aT,r⟩
  cases hP:pn n ah.length with
  |false=>
   rw[hP,if_neg (by decide)] at r
   obtain⟨rfl,rfl⟩:=r
   simp only[decide_true,aU,aN,aZ,bn,bl,id_eq,bq,a0,a5,Bool.false_and]
   exact aj.some ⟨rfl,ar.bs aT⟩
  |true=>
   rw[hP,if_pos rfl] at r
   obtain⟨rfl,rfl⟩:=r
   have rU:=ar.bs aT
   have ha:=fS.aq aT
   have gd:=ha.af 7 0 0
   have np:I (.ag (.c (.ptr h.length 0 7))) aQ=some aG:=ha.ag rfl
   have gP:=jv (s.aq rU)
   rw[ax] at gP
   simp only[Nat.zero_add] at gd
   simp only[show decide (cg.normal=cg.ret)=false from rfl,a7,decide_true,aU,a5,gd,np,aO,gP,a1,Bool.true_and]
   have eT:=agF j k w m (by omega) ha (s.aq rU) ax (fun i e p aX aY=>(hp i e p aX aY).aq rU) Mt (by omega) kp ah.length 0 j aQ (by omega) (by omega) (ai.refl _ _)
   have z:((0:Nat):Int)=0:=rfl
   rw[z,List.drop_zero] at eT
   refine aj.bO eT ?_
   rintro x ak bo ⟨bu,r⟩
   have Cy:=rU.bs bu
   cases eW:ah.all (j9 m) with
   |true=>
    rw[eW,if_pos rfl] at r
    obtain⟨rfl,rfl⟩:=r
    simp only[decide_true,aU,a5]
    exact aj.some ⟨rfl,Cy⟩
   |false=>
    rw[eW,if_neg (by decide)] at r
    obtain⟨rfl,rfl⟩:=r
    simp only[show decide (cg.ret=cg.exit 0)=false from rfl,a7,decide_true,aU,aN,aZ,bn,bl,id_eq,bq,a0,a5]
    exact aj.some ⟨rfl,Cy⟩
theorem agH(j w k:Nat){av:Nat→Prop}:Sound j w k 0 av:=by
 intro d x n aG ah h bj au ex
 subst au
 obtain⟨es,s,aw,ax,hp⟩:=ex.inv
 simp only[yC]
 refine aj.ad (fO (cs:=bH n aG) (mS s)) ?_
 rintro v R ⟨rfl,fS,ar⟩
 have qv:decide (((0:Nat):Int)<1)=true:=by decide
 simp only[Ft,qv,aU,gY,decide_true,aN,aZ,bn,bl,id_eq,bq,a0,a5]
 exact aj.some ⟨rfl,ar⟩
theorem Tg(j w:Nat)(aS:1000<j)(hw:w<j)(bV:w≤1000000000000000){av:Nat→Prop}:∀(m k:Nat),m≤8→m≤k→Sound j w k m av
 |0,k,_,_=>agH j w k
 |m+1,k,eR,aH=>by
  obtain⟨k,rfl⟩:∃o,k=o+1:=⟨k-1,by omega⟩
  exact agG j w k m aS hw bV eR (Tg j w aS hw bV m k (by omega) (by omega))
theorem agI{j w:Nat}(aS:1000<j)(hw:w<j)(bV:w≤1000000000000000){av:Nat→Prop}{d:Nat}{n:fg}{aG:V}{ah:List X}{h:Lo}(bj:fY w d (.mk n ah))(ex:c6 av h (.agg (bH n aG)) (.mk n ah)):
  aj (rN j n.k n.op n.eh n.ed n.ak n.dG n.c7 aG h) fun v aa=>v= .bool (j9 8 (.mk n ah))∧ai h aa []:=by
 obtain⟨es,s,aw,ax,hp⟩:=ex.inv
 simp only[rN]
 refine aj.ad (fO (cs:=bH n aG) (mS s)) ?_
 rintro v R ⟨rfl,fS,ar⟩
 have ig:I (.bp 8 (.c (.ptr h.length 0 0))) R=some (.agg (bH n aG)):=fS.e4 rfl
 simp only[ig,aO,bP,aN,aZ,bn,bl,id_eq,bq,a1,bC,a5]
 have:=Tg j w aS hw bV (av:=av) 8 j (by omega) (by omega) d _ n aG ah R bj rfl (ex.aq ar)
 rw[show((8:Nat):Int)=8 from rfl] at this
 refine aj.ad this ?_
 rintro v ae ⟨rfl,aA⟩
 rw[a0]
 exact aj.some ⟨rfl,ar.bs aA⟩
end Go.Proofs.YtjpjeilfmjdhcaaGreat.eI
