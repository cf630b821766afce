/- The reader of expressions, as plain functions: what is read of words. No condition. -/
import Derived.Test.YtjpjeilfmjdhcaaGreatA10
import Derived.Test.YtjpjeilfmjdhcaaGreatA6
import Derived.Test.YtjpjeilfmjdhcaaGreatA9
set_option maxRecDepth 100000
set_option linter.unusedVariables false
set_option linter.unusedSimpArgs false
set_option linter.unnecessarySimpa false
namespace Go.Proofs.YtjpjeilfmjdhcaaGreat.fq
open Go E ep eI
structure bB where
 i:Nat
 e:Int
deriving DecidableEq
abbrev fr(α:Type):=bB→α × bB
def hQ:fg:=⟨0,[],0,0,[],[],[]⟩
def nq:X:= .mk hQ []
def Th(n:Int):X:= .mk ⟨1,[],1,n,[],[],[]⟩ []
def Ti(t:Lu):X:= .mk ⟨1,[],2,0,t,[],[]⟩ []
def Tj:X:= .mk ⟨1,[],0,0,[],[],[]⟩ []
def Tk(t c:Lu):X:= .mk ⟨2,[],0,0,[],t,c⟩ []
def Mw(op:Lu)(x:X):X:= .mk ⟨3,op,0,0,[],[],[]⟩ [x]
def Tl(op:Lu)(x y:X):X:= .mk ⟨4,op,0,0,[],[],[]⟩ [x,y]
def Mx(op:Lu)(x:X):X:= .mk ⟨5,op,0,0,[],[],[]⟩ [x]
def wH(op:Lu)(ah:List X):X:= .mk ⟨6,op,0,0,[],[],[]⟩ ah
def za(op:Lu):Nat:=if(op==[79,82])=true then 0 else if(op==[65,78,68])=true then 1 else if(op==[61])=true then 3 else if(op==[60,62])=true then 3 else if(op==[60])=true then 3 else if(op==[60,61])=true then 3 else
 if(op==[62])=true then 3 else if(op==[62,61])=true then 3 else if(op==[43])=true then 4 else if(op==[45])=true then 4 else if(op==[42])=true then 5 else 7
def hb(s:bB):bB:=⟨s.i+1,s.e⟩
def nZ(s:bB):bB:=if s.e=0 then⟨s.i,3⟩ else s
def hM(ws:List br)(k:Int)(s:bB):Option br:=if s.e=0 then(match ws[s.i]? with
 |some w=>if w.k=k then some w else none
 |none=>none) else none
def bA(ws:List br)(t:Lu)(s:bB):Bool × bB:=match hM ws (if lx t=true then 1 else 4) s with
 |some w=>if w.s=t then(true,hb s) else(false,s)
 |none=>(false,s)
def wI(ws:List br)(s:bB)(t:Lu):bB:=if(bA ws t s).1=true then(bA ws t s).2 else nZ s
def fl(ws:List br)(c_:List (Lu))(s:bB):bB:=c_.foldl (wI ws) s
def dB(ws:List br)(s:bB):Lu × bB:=match hM ws 1 s with
 |some w=>if lx w.s=true then([],nZ s) else(w.s,hb s)
 |none=>([],nZ s)
def wJ(ws:List br)(s:bB):Int × bB:=match hM ws 2 s with
 |some w=>(w.n,hb s)
 |none=>(0,nZ s)
def wK(ws:List br)(s:bB):Option br:=match hM ws 4 s with
 |some w=>some w
 |none=>hM ws 1 s
def mm(ws:List br)(of:Nat)(s:bB):Option (Lu) × bB:=match wK ws s with
 |some w=>if za w.s=of then(some w.s,hb s) else(none,s)
 |none=>(none,s)
def oI(ws:List br)(eL:fr X)(of:Nat):Nat→X→fr X
 |0,x,s=>(x,s)
 |f+1,x,s=>match mm ws of s with
  |(some op,s1)=>oI ws eL of f (Tl op x (eL s1).1) (eL s1).2
  |(none,s1)=>(x,s1)
def p7(ws:List br)(eL:fr X)(s:bB):X × bB:=match mm ws 3 (eL s).2 with
 |(some op,s1)=>(Tl op (eL s).1 (eL s1).1,(eL s1).2)
 |(none,s1)=>if(bA ws [73,83] s1).1=false then((eL s).1,(bA ws [73,83] s1).2) else
   if(bA ws [78,79,84] (bA ws [73,83] s1).2).1=true then
    (Mx [73,83,32,78,79,84,32,78,85,76,76] (eL s).1,fl ws [[78,85,76,76]] (bA ws [78,79,84] (bA ws [73,83] s1).2).2)
   else(Mx [73,83,32,78,85,76,76] (eL s).1,fl ws [[78,85,76,76]] (bA ws [78,79,84] (bA ws [73,83] s1).2).2)
def mV(ws:List br)(eL:fr X)(op:Lu)(s:bB):X × bB:=
 let s1:=fl ws [[40]] (hb s)
 if op=[67,79,85,78,84] then
  let h:=bA ws [42] s1
  if h.1=true then(wH op [],fl ws [[41]] h.2) else(wH op [(eL h.2).1],fl ws [[41]] (eL h.2).2)
 else(wH op [(eL s1).1],fl ws [[41]] (eL s1).2)
def po(ws:List br)(s:bB):X × bB:=
 let n:=dB ws s
 let d:=bA ws [46] n.2
 if d.1=true then(Tk n.1 (dB ws d.2).1,(dB ws d.2).2) else(Tk [] n.1,d.2)
def j_(ws:List br)(eL:fr X)(s:bB):X × bB:=
 let h:=bA ws [40] s
 if h.1=true then((eL h.2).1,fl ws [[41]] (eL h.2).2) else
 match hM ws 2 h.2 with
 |some w=>(Th w.n,hb h.2)
 |none=>match hM ws 3 h.2 with
  |some w=>(Ti w.s,hb h.2)
  |none=>
   let g:=bA ws [78,85,76,76] h.2
   if g.1=true then(Tj,g.2) else
   match hM ws 1 g.2 with
   |some w=>if iw w.s p6=true then mV ws eL w.s g.2 else po ws g.2
   |none=>po ws g.2
def nr(ws:List br)(eL:fr X):Nat→fr X
 |0,s=>(nq,s)
 |f+1,s=>if(bA ws [45] s).1=true then(Mw [45] (nr ws eL f (bA ws [45] s).2).1,(nr ws eL f (bA ws [45] s).2).2) else j_ ws eL (bA ws [45] s).2
def ei(ws:List br):Nat→Nat→fr X
 |0,_,s=>(nq,s)
 |f+1,of,s=>if of=2 then
   (if(bA ws [78,79,84] s).1=true then(Mw [78,79,84] (ei ws f 2 (bA ws [78,79,84] s).2).1,(ei ws f 2 (bA ws [78,79,84] s).2).2) else p7 ws (ei ws f 4) (bA ws [78,79,84] s).2)
  else if of=6 then nr ws (ei ws f 0) (ws.length+1) s
  else oI ws (ei ws f (of+1)) of (ws.length+1) (ei ws f (of+1) s).1 (ei ws f (of+1) s).2
theorem ks(ws:List br)(t:Lu)(s:bB):s.i≤(bA ws t s).2.i:=by
 unfold bA
 split
 ·split
  ·simp[hb]
  ·exact Nat.le_refl _
 ·exact Nat.le_refl _
theorem ly{ws:List br}{t:Lu}{s:bB}(h:(bA ws t s).1=true):(bA ws t s).2=hb s∧s.i<ws.length:=by
 unfold bA at h⊢
 cases bd:hM ws (if lx t=true then 1 else 4) s with
 |none=>rw[bd] at h;cases h
 |some w=>
  rw[bd] at h
  simp only at h⊢
  by_cases z:w.s=t
  ·rw[if_pos z]
   refine⟨rfl, ?_⟩
   unfold hM at bd
   split at bd
   ·split at bd
    ·rename_i a2 hw;exact(List.getElem?_eq_some_iff.1 hw).1
    ·cases bd
   ·cases bd
  ·rw[if_neg z] at h;cases h
theorem My{ws:List br}{t:Lu}{s:bB}(h:(bA ws t s).1=false):(bA ws t s).2=s:=by
 unfold bA at h⊢
 cases bd:hM ws (if lx t=true then 1 else 4) s with
 |none=>rfl
 |some w=>
  rw[bd] at h
  simp only at h⊢
  by_cases z:w.s=t
  ·rw[if_pos z] at h;cases h
  ·rw[if_neg z]
theorem GD(s:bB):(nZ s).i=s.i:=by unfold nZ;split<;>rfl
theorem pq(ws:List br):∀(c_:List (Lu)) (s:bB),s.i≤(fl ws c_ s).i
 | [],s=>Nat.le_refl _
 |t::c_,s=>by
  refine Nat.le_trans ?_ (pq ws c_ (wI ws s t))
  unfold wI
  split
  ·exact ks ws t s
  ·rw[GD];exact Nat.le_refl _
theorem uC(ws:List br)(s:bB):s.i≤(dB ws s).2.i:=by
 unfold dB
 split
 ·split
  ·rw[GD];exact Nat.le_refl _
  ·simp[hb]
 ·rw[GD];exact Nat.le_refl _
theorem Cz{ws:List br}{of:Nat}{s s1:bB}{op:Lu}(h:mm ws of s=(some op,s1)):s1=hb s:=by
 unfold mm at h
 split at h
 ·split at h
  ·simp only[Prod.mk.injEq] at h;exact h.2.symm
  ·simp at h
 ·simp at h
theorem CA{ws:List br}{of:Nat}{s s1:bB}(h:mm ws of s=(none,s1)):s1=s:=by
 unfold mm at h
 split at h
 ·split at h
  ·simp at h
  ·simp only[Prod.mk.injEq] at h;exact h.2.symm
 ·simp only[Prod.mk.injEq] at h;exact h.2.symm
def hc{α:Type}(m:fr α):Prop:=∀s,s.i≤(m s).2.i
theorem Tm{ws:List br}{eL:fr X}(aF:hc eL)(of:Nat):∀(f:Nat) (x:X) (s:bB),s.i≤(oI ws eL of f x s).2.i
 |0,x,s=>Nat.le_refl _
 |f+1,x,s=>by
  unfold oI
  split
  ·rename_i op s1 h
   rw[Cz h]
   refine Nat.le_trans ?_ (Tm aF of f _ _)
   refine Nat.le_trans ?_ (aF _)
   simp[hb]
  ·rename_i s1 h
   rw[CA h];exact Nat.le_refl _
theorem agJ{ws:List br}{eL:fr X}(aF:hc eL):hc (p7 ws eL):=by
 intro s
 unfold p7
 have aI:=aF s
 split
 ·rename_i op s1 h
  rw[Cz h]
  refine Nat.le_trans aI (Nat.le_trans ?_ (aF _))
  simp[hb]
 ·rename_i s1 h
  rw[CA h]
  have R:=ks ws [73,83] (eL s).2
  split
  ·exact Nat.le_trans aI R
  ·have ae:=ks ws [78,79,84] (bA ws [73,83] (eL s).2).2
   have aQ:=pq ws [[78,85,76,76]] (bA ws [78,79,84] (bA ws [73,83] (eL s).2).2).2
   split<;>exact Nat.le_trans aI (Nat.le_trans R (Nat.le_trans ae aQ))
theorem agK{ws:List br}{eL:fr X}(aF:hc eL)(op:Lu):hc (mV ws eL op):=by
 intro s
 have R:s.i≤(fl ws [[40]] (hb s)).i:=Nat.le_trans (by simp[hb]) (pq ws [[40]] (hb s))
 have ae:=ks ws [42] (fl ws [[40]] (hb s))
 simp only[mV]
 split
 ·split
  ·exact Nat.le_trans R (Nat.le_trans ae (pq ws _ _))
  ·exact Nat.le_trans R (Nat.le_trans ae (Nat.le_trans (aF _) (pq ws _ _)))
 ·exact Nat.le_trans R (Nat.le_trans (aF _) (pq ws _ _))
theorem Tn(ws:List br):hc (po ws):=by
 intro s
 simp only[po]
 have R:=uC ws s
 have ae:=ks ws [46] (dB ws s).2
 split
 ·exact Nat.le_trans R (Nat.le_trans ae (uC ws _))
 ·exact Nat.le_trans R ae
theorem agL{ws:List br}{eL:fr X}(aF:hc eL):hc (j_ ws eL):=by
 intro s
 simp only[j_]
 have R:=ks ws [40] s
 have ae:=ks ws [78,85,76,76] (bA ws [40] s).2
 split
 ·exact Nat.le_trans R (Nat.le_trans (aF _) (pq ws _ _))
 ·split
  ·refine Nat.le_trans R ?_;simp[hb]
  ·split
   ·refine Nat.le_trans R ?_;simp[hb]
   ·split
    ·exact Nat.le_trans R ae
    ·split
     ·split
      ·exact Nat.le_trans R (Nat.le_trans ae (agK aF _ _))
      ·exact Nat.le_trans R (Nat.le_trans ae (Tn ws _))
     ·exact Nat.le_trans R (Nat.le_trans ae (Tn ws _))
theorem To{ws:List br}{eL:fr X}(aF:hc eL):∀f,hc (nr ws eL f)
 |0=>fun s=>Nat.le_refl _
 |f+1=>fun s=>by
  simp only[nr]
  have R:=ks ws [45] s
  split
  ·exact Nat.le_trans R (To aF f _)
  ·exact Nat.le_trans R (agL aF _)
theorem p8(ws:List br):∀f of,hc (ei ws f of)
 |0,of=>fun s=>Nat.le_refl _
 |f+1,of=>fun s=>by
  simp only[ei]
  have R:=ks ws [78,79,84] s
  split
  ·split
   ·exact Nat.le_trans R (p8 ws f 2 _)
   ·exact Nat.le_trans R (agJ (p8 ws f 4) _)
  ·split
   ·exact To (p8 ws f 0) _ s
   ·exact Nat.le_trans (p8 ws f (of+1) s) (Tm (p8 ws f (of+1)) of _ _ _)
end Go.Proofs.YtjpjeilfmjdhcaaGreat.fq
namespace Go.Proofs.YtjpjeilfmjdhcaaGreat.fw
open Go E ep eI fq
structure e0(h:Lo)(r:Nat)(aW:V)(ws:List br)(s:bB):Prop where
 st:bY h r [aW, .int .i64 s.i, .int .i64 s.e]
 cx:dq 3 h aW (pk ws)
 n0:r∉dj aW
 le:s.i≤ws.length
 ih:ws.length≤600
theorem e0.aq{h aa:Lo}{r:Nat}{aW:V}{ws:List br}{s:bB}(q:e0 h r aW ws s)(k:ai h aa []):e0 aa r aW ws s:=⟨q.st.aq k,q.cx.aq k,q.n0,q.le,q.ih⟩
theorem e0.dp{h:Lo}{r:Nat}{aW:V}{ws:List br}{s:bB}(q:e0 h r aW ws s):I (.ag (.c (.ptr r 0 (0+0)))) h=some aW:=q.st.ag (o:=0) (c:=aW) rfl
theorem e0.hX{h:Lo}{r:Nat}{aW:V}{ws:List br}{s:bB}(q:e0 h r aW ws s):I (.ag (.c (.ptr r 0 (0+1)))) h=some (.int .i64 s.i):=q.st.ag (o:=1) (c:= .int .i64 s.i) rfl
theorem e0.GF{h:Lo}{r:Nat}{aW:V}{ws:List br}{s:bB}(q:e0 h r aW ws s):I (.ag (.c (.ptr r 0 (0+2)))) h=some (.int .i64 s.e):=q.st.ag (o:=2) (c:= .int .i64 s.e) rfl
theorem e0.wL{h:Lo}{r:Nat}{aW:V}{ws:List br}{s:bB}(q:e0 h r aW ws s)(ax:s.i<ws.length):aj (aB (.store 1 (.c (.ptr r 0 (0+1))) (.c (.int .i64 (IntKind.i64.wrap ((s.i:Int)+1))))) h) fun _ aa=>e0 aa r aW ws (hb s)∧ai h aa [r]:=by
 have w:IntKind.i64.wrap ((s.i:Int)+1)=((s.i+1:Nat):Int):=by have:=q.ih;rw[wrap_i64 (by omega) (by omega)];simp
 rw[w]
 refine(q.st.iK (o:=0+1) (x:= .int .i64 ((s.i+1:Nat):Int)) (by simp) ⟨rfl,rfl⟩).mono ?_
 rintro u aa ⟨st,k⟩
 exact⟨⟨st,q.cx.aJ k (fun o U z=>by simp at z;subst z;exact q.n0 U),q.n0,by show s.i+1≤_;omega,q.ih⟩,k⟩
theorem e0.Tp{h:Lo}{r:Nat}{aW:V}{ws:List br}{s:bB}(q:e0 h r aW ws s)(x:Int):aj (aB (.store 1 (.c (.ptr r 0 (0+2))) (.c (.int .i64 x))) h) fun _ aa=>e0 aa r aW ws ⟨s.i,x⟩∧ai h aa [r]:=by
 refine(q.st.iK (o:=0+2) (x:= .int .i64 x) (by simp) ⟨rfl,rfl⟩).mono ?_
 rintro u aa ⟨st,k⟩
 exact⟨⟨st,q.cx.aJ k (fun o U z=>by simp at z;subst z;exact q.n0 U),q.n0,q.le,q.ih⟩,k⟩
theorem e0.lt{h:Lo}{r:Nat}{aW:V}{ws:List br}{s:bB}(q:e0 h r aW ws s):r<h.length:=q.st.lt
theorem Tq{j:Nat}{h:Lo}{r:Nat}{aW:V}{ws:List br}{s:bB}(q:e0 h r aW ws s):B2 j (.ptr r 0 0) h=some (.bool (decide (s.i=ws.length)),h):=by
 have e:((s.i:Int)==(ws.length:Int))=decide (s.i=ws.length):=by
  by_cases z:s.i=ws.length
  ·rw[z];simp
  ·rw[decide_eq_false z,beq_eq_false_iff_ne];omega
 simp only[B2,q.st.bz,q.st.af,q.dp,q.hX,aO,a1,jv q.cx,Gw,e]
theorem Tr{j:Nat}{h:Lo}{r:Nat}{aW:V}{ws:List br}{s:bB}(q:e0 h r aW ws s):B4 j (.ptr r 0 0) h=some (.int .i64 s.e,h):=by
 simp only[B4,q.st.bz,q.st.af,q.GF,aO,a1]
theorem wM{j:Nat}{h:Lo}{r:Nat}{aW:V}{ws:List br}{s:bB}(q:e0 h r aW ws s):aj (rQ j (.ptr r 0 0) h) fun v aa=>v= .bW []∧e0 aa r aW ws (nZ s)∧ai h aa [r]:=by
 simp only[rQ,q.st.bz,q.st.af,q.GF,aO,a1]
 unfold nZ
 by_cases z:s.e=0
 ·have:(s.e==0)=true:=by rw[z];rfl
  simp only[this,aU,if_pos z]
  refine aj.ad (q.Tp 3) ?_
  rintro u aa ⟨aE,ar⟩
  exact aj.some ⟨rfl,aE,ar⟩
 ·have:(s.e==0)=false:=by simpa using z
  simp only[this,a7,if_neg z]
  exact aj.some ⟨rfl,q,ai.refl _ _⟩
def rV:br:=⟨0,[],0⟩
theorem qR{ws:List br}{k:Int}{s:bB}{w:br}(h:hM ws k s=some w):s.i<ws.length∧s.e=0∧ws[s.i]? =some w∧w.k=k:=by
 unfold hM at h
 split at h
 ·rename_i e6
  split at h
  ·rename_i a2 hw
   split at h
   ·rename_i aH
    injection h with h;subst h
    exact⟨(List.getElem?_eq_some_iff.1 hw).1,e6,hw,aH⟩
   ·cases h
  ·cases h
 ·cases h
theorem uD{j:Nat}{h:Lo}{r:Nat}{aW:V}{ws:List br}{s:bB}(k:Int)(q:e0 h r aW ws s):aj (qL j (.ptr r 0 0) k h) fun v aa=>v= .bW [.agg (jx ((hM ws k s).getD rV)), .bool (hM ws k s).isSome]∧ai h aa []:=by
 have key:∀{R:Lo},e0 R r aW ws s→FB j (.ptr r 0 0) k R=some (.normal,[.bool (hM ws k s).isNone],R):=by
  intro R aE
  simp only[FB,aE.st.bz,aE.st.af,aE.GF,aO,a1]
  unfold hM
  by_cases z:s.e=0
  ·have:(s.e !=0)=false:=by rw[z];rfl
   simp only[this,a7,Tq aE,fp,a0,if_pos z]
   by_cases y:s.i=ws.length
   ·have:ws[s.i]? =none:=by rw[List.getElem?_eq_none_iff];omega
    simp only[decide_eq_true y,aU,this]
    rfl
   ·have ax:s.i<ws.length:=by have:=aE.le;omega
    have hw:ws[s.i]? =some ws[s.i]:=List.getElem?_eq_getElem ax
    obtain⟨a,b5,cI⟩:=aE.cx.K7 (k:=(s.i:Int)) (cs:=jx ws[s.i]) (by omega) (by simp[pk,ax]) rfl (by decide) rfl
    obtain⟨b,dL,fL⟩:=cI 0 (.int .i64 ws[s.i].k) rfl
    simp only[decide_eq_false y,a7,aE.st.bz,aE.st.af,aE.dp,aE.hX,aO,a1,b5,dL,fL,hw]
    by_cases x:ws[s.i].k=k
    ·have:(ws[s.i].k !=k)=false:=by simp[x]
     simp only[this,if_pos x];rfl
    ·have:(ws[s.i].k !=k)=true:=by simpa using x
     simp only[this,if_neg x];rfl
  ·have:(s.e !=0)=true:=by simpa using z
   simp only[this,aU,if_neg z]
   rfl
 simp only[qL]
 refine aj.ad (hs (cs:=jx rV) rfl) ?_
 rintro jO R ⟨rfl,st,ar⟩
 have aE:=q.aq ar
 simp only[key aE,gY,decide_true,aU,aN,aZ,bn,bl,id_eq,bq,a0,a5]
 cases bd:hM ws k s with
 |none=>
  have fx:I (.build [.int .i64 0,(.str []), .int .i64 0] []) R=some (.agg (jx rV)):=rfl
  simp only[Option.isNone_none,aU,fx,aO,bP,aN,aZ,bn,bl,id_eq,bq,a1,bC,a5]
  refine aj.ad (st.ic (aM:=jx rV) rfl (by simp) rfl (n:=3) rfl) ?_
  rintro u ae ⟨ds,aA⟩
  simp only[show dS ae 3 (.ptr h.length 0 0)=some (.agg (jx rV)) from ds.bp,aO]
  exact aj.some ⟨rfl,ar.trans aA (fun o U=>by cases U) (fun o U bN=>by simp at U;omega)⟩
 |some w=>
  obtain⟨ax,-,hw,-⟩:=qR bd
  obtain⟨a,b5,cI⟩:=aE.cx.kn (k:=(s.i:Int)) (cs:=jx w) (by omega) (by simp[pk,hw]) rfl (by decide)
  simp only[Option.isNone_some,a7,aE.st.bz,aE.st.af,aE.dp,aE.hX,aO,a1,b5,cI,bP,aN,aZ,bn,bl,id_eq,bq,bC,a5]
  refine aj.ad (st.ic (aM:=jx w) rfl (by simp) rfl (n:=3) rfl) ?_
  rintro u ae ⟨ds,aA⟩
  simp only[show dS ae 3 (.ptr h.length 0 0)=some (.agg (jx w)) from ds.bp,aO]
  exact aj.some ⟨rfl,ar.trans aA (fun o U=>by cases U) (fun o U bN=>by simp at U;omega)⟩
theorem zb{h:Lo}{w:br}{K:V→Lo→OvL}{Q:V→Lo→Prop}(eY:∀ae,bY ae h.length (jx w)→ai h ae []→aj (K (.ptr h.length 0 0) ae) Q):
  aj (ad (aB (.alloc false (.agg [.int .i64 0,(.str []), .int .i64 0])) h) fun x mT=>ad (aB (.store 3 (.c x) (.c (.agg [.int .i64 w.k, .str w.s, .int .i64 w.n]))) mT) fun _ oJ=>K x oJ) Q:=by
 refine aj.ad (hs (cs:=jx rV) rfl) ?_
 rintro x R ⟨rfl,st,ar⟩
 refine aj.ad (st.ic (aM:=jx w) rfl (by simp) rfl (n:=3) rfl) ?_
 rintro u ae ⟨ds,aA⟩
 exact eY ae ds (ar.trans aA (fun o U=>by cases U) (fun o U bN=>by simp at U;omega))
theorem agM(j:Nat)(t:Lu)(h:Lo):FD j t 4 h=some (.normal,[.int .i64 (if lx t=true then 1 else 4)],h):=by
 simp only[FD,Mp,fp,a0]
 cases lx t<;>rfl
theorem ai.to{h R ae:Lo}{A:List Nat}(k:ai h R [])(l:ai R ae A):ai h ae A:=k.trans l (fun o U=>by cases U) (fun o U _=>U)
theorem ai.ro{h R ae:Lo}{A:List Nat}(k:ai h R A)(l:ai R ae []):ai h ae A:=k.trans l (fun o U _=>U) (fun o U=>by cases U)
theorem ai.b6{h R ae:Lo}{A:List Nat}(k:ai h R A)(l:ai R ae A):ai h ae A:=k.trans l (fun o U _=>U) (fun o U _=>U)
theorem fH{j:Nat}{h:Lo}{r:Nat}{aW:V}{ws:List br}{s:bB}(t:Lu)(q:e0 h r aW ws s):aj (gF j (.ptr r 0 0) t h) fun v aa=>v= .bool (bA ws t s).1∧e0 aa r aW ws (bA ws t s).2∧ai h aa [r]:=by
 simp only[gF,agM,gY,decide_true,aU,aN,aZ,bn,bl,id_eq,bq,a1,a5]
 refine aj.ad (uD _ q) ?_
 rintro v R ⟨rfl,ar⟩
 simp only[mf,aN,aZ,bn,bl,id_eq,bq,bP,a1,bC,a0,a5]
 refine zb fun ae st aA=> ?_
 have dW:=ar.bs aA
 have aR:=q.aq dW
 unfold bA
 cases bd:hM ws (if lx t=true then 1 else 4) s with
 |none=>
  simp only[FC,bd,Option.isSome_none,a7,gY,decide_true,aU,aN,aZ,bn,bl,id_eq,bq,a0,a5]
  exact aj.some ⟨rfl,aR,dW.mono (fun o U=>by cases U)⟩
 |some w=>
  simp only[bd,Option.getD_some] at st
  simp only[FC,bd,Option.isSome_some,aU,Option.getD_some,st.af,st.ag (o:=0+1) (c:= .str w.s) rfl,aO,bC,gY,decide_true,aN,aZ,bn,bl,id_eq,bq,a0,a5]
  by_cases z:w.s=t
  ·have:(w.s==t)=true:=by rw[z];exact beq_self_eq_true _
   simp only[this,aU,if_pos z,aR.st.bz,aR.st.af,aR.hX,aO,a1]
   refine aj.ad (aR.wL (qR bd).1) ?_
   rintro u aQ ⟨bE,aT⟩
   exact aj.some ⟨rfl,bE,ai.to dW aT⟩
  ·have:(w.s==t)=false:=by simpa using z
   simp only[this,a7,if_neg z]
   exact aj.some ⟨rfl,aR,dW.mono (fun o U=>by cases U)⟩
theorem CB(j:Nat){aI:Lo}{r:Nat}{aW jh:V}{ws:List br}{l:List (Lu)}(cx:dq 1 aI jh (strs l))(bc:∀o,o∈dj jh→o≠r)(ax:l.length≤1000):∀(m i f:Nat) (h:Lo) (s:bB),l.length=i+m→m<f→ai aI h [r]→e0 h r aW ws s→
  aL (qN j f (.ptr r 0 0) jh l.length i h) fun x ak aa=>x= .exit 0∧ak=[]∧e0 aa r aW ws (fl ws (l.drop i) s)∧ai aI aa [r]:=by
 intro m
 induction m with
 |zero=>
  intro i f h s aH aS k q
  obtain⟨f,rfl⟩:∃g,f=g+1:=⟨f-1,by omega⟩
  have bj:decide ((i:Int)<(l.length:Int))=false:=decide_eq_false (by omega)
  simp only[qN,FF,bj,a7]
  rw[List.drop_of_length_le (by omega)]
  exact aL.some ⟨rfl,rfl,q,k⟩
 |succ m ba=>
  intro i f h s aH aS k q
  obtain⟨f,rfl⟩:∃g,f=g+1:=⟨f-1,by omega⟩
  have aw:i<l.length:=by omega
  have bj:decide ((i:Int)<(l.length:Int))=true:=decide_eq_true (by omega)
  have agN:dq 1 h jh (strs l):=cx.aJ k (fun o U z=>bc o U (by simpa using z))
  obtain⟨a,b5,cI⟩:=agN.hX (k:=(i:Int)) (e:= .str l[i]) (by omega) (by simp[strs,aw]) rfl
  have hw:IntKind.i64.wrap ((i:Int)+1)=((i+1:Nat):Int):=by rw[wrap_i64 (by omega) (by omega)];simp
  simp only[qN,FF,bj,aU,b5,cI,aO,bC,hw]
  refine aL.ad (fH l[i] q) ?_
  rintro v R ⟨rfl,aE,ar⟩
  simp only[a0]
  rw[List.drop_eq_getElem_cons aw]
  have aV:fl ws (l[i]::l.drop (i+1)) s=fl ws (l.drop (i+1)) (wI ws s l[i]):=rfl
  rw[aV]
  unfold wI
  by_cases z:(bA ws l[i] s).1=true
  ·simp only[z,Bool.not_true,a7,if_true]
   exact ba (i+1) f R _ (by omega) (by omega) (ai.b6 k ar) aE
  ·simp only[Bool.not_eq_true] at z
   simp only[z,Bool.not_false,aU,Bool.false_eq_true,if_false]
   refine aL.ad (wM aE) ?_
   rintro v ae ⟨rfl,aR,aA⟩
   have:(bA ws l[i] s).2=s:=by
    unfold bA at z⊢
    split
    ·rename_i w bd
     rw[bd] at z
     simp only at z⊢
     split
     ·rename_i y;rw[if_pos y] at z;cases z
     ·rfl
    ·rfl
   rw[this] at aR
   exact ba (i+1) f ae _ (by omega) (by omega) (ai.b6 (ai.b6 k ar) aA) aR
theorem k4{j:Nat}(aS:1000<j){h:Lo}{r:Nat}{aW:V}{ws:List br}{s:bB}(q:e0 h r aW ws s){l:List (Lu)}{n:Nat}{ah:List (Nat × V)}{K:V→Lo→OvL}{Q:V→Lo→Prop}
  (bd:l.length=n) (agr:n≤1000) (ae:ah.all (fun p=>decide (p.1<n)&&kk 1 p.2)=true) (aQ:tS (List.replicate n (.str [])) ah=strs l) (eY:∀aa,e0 aa r aW ws (fl ws l s)→ai h aa [r]→aj (K (.bW []) aa) Q):
  aj (ad (aB (.dN 1 (.str []) n (ah.map fun p=>(p.1, .c p.2))) h) fun x mT=>ad (hA j (.ptr r 0 0) x mT) K) Q:=by
 refine aj.ad (mg (es:=strs l) (by omega) ae aQ (by rw[Cu,bd])) ?_
 rintro x R ⟨-,-,dX,-,ar,SS⟩
 have aE:=q.aq ar
 simp only[hA,jv dX,Cu,aO,a1]
 have bc:∀o,o∈dj x→o≠r:=fun o U z=>by have:=SS o U;have:=q.lt;omega
 have key:=CB j dX bc (by omega) l.length 0 j R s (by omega) (by omega) (ai.refl _ _) aE
 obtain⟨iI,ak,ix,e,rfl,rfl,aR,aA⟩:=key
 simp only[show qN j j (.ptr r 0 0) x l.length 0 R=_ from e,gY,decide_true,aU,a5,fp]
 exact eY ix (by simpa using aR) (ai.to ar aA)
theorem mW{j:Nat}{h:Lo}{r:Nat}{aW:V}{ws:List br}{s:bB}(q:e0 h r aW ws s):aj (lq j (.ptr r 0 0) h) fun v aa=>v= .str (dB ws s).1∧e0 aa r aW ws (dB ws s).2∧ai h aa [r]:=by
 simp only[lq]
 refine aj.ad (uD _ q) ?_
 rintro v R ⟨rfl,ar⟩
 simp only[mf,aN,aZ,bn,bl,id_eq,bq,bP,a1,bC,a0,a5]
 refine zb fun ae st aA=> ?_
 have dW:=ar.bs aA
 have aR:=q.aq dW
 unfold dB
 cases bd:hM ws 1 s with
 |none=>
  simp only[FE,bd,Option.isSome_none,Bool.not_false,aU]
  obtain⟨v,aQ,e,rfl,bE,aT⟩:=wM (j:=j) aR
  simp only[e,fp,gY,decide_true,aU,aN,aZ,bn,bl,id_eq,bq,bC,a5]
  exact aj.some ⟨rfl,bE,ai.to dW aT⟩
 |some w=>
  simp only[bd,Option.getD_some] at st
  simp only[FE,bd,Option.isSome_some,Bool.not_true,a7,Option.getD_some,st.af,st.ag (o:=0+1) (c:= .str w.s) rfl,aO,bC,Mp,fp,a0]
  cases aH:lx w.s with
  |true=>
   simp only[aU,if_true]
   obtain⟨v,aQ,e,rfl,bE,aT⟩:=wM (j:=j) aR
   simp only[e,fp,gY,decide_true,aU,aN,aZ,bn,bl,id_eq,bq,bC,a5]
   exact aj.some ⟨rfl,bE,ai.to dW aT⟩
  |false=>
   simp only[a7,gY,show decide (cg.normal=cg.ret)=false from rfl,decide_true,aU,a5,aR.st.bz,aR.st.af,aR.hX,aO,a1]
   refine aj.ad (aR.wL (qR bd).1) ?_
   rintro u aQ ⟨bE,aT⟩
   have ha:bY aQ R.length (jx w):=st.aJ aT (fun z=>by simp at z;have:=q.lt;have:=ar.len;omega)
   simp only[ha.af,ha.ag (o:=0+1) (c:= .str w.s) rfl,aO,bC]
   exact aj.some ⟨rfl,bE,ai.to dW aT⟩
theorem agO{j:Nat}{h:Lo}{r:Nat}{aW:V}{ws:List br}{s:bB}(q:e0 h r aW ws s):aj (FT j (.ptr r 0 0) h) fun v aa=>v= .int .i64 (wJ ws s).1∧e0 aa r aW ws (wJ ws s).2∧ai h aa [r]:=by
 simp only[FT]
 refine aj.ad (uD _ q) ?_
 rintro v R ⟨rfl,ar⟩
 simp only[mf,aN,aZ,bn,bl,id_eq,bq,bP,a1,bC,a0,a5]
 refine zb fun ae st aA=> ?_
 have dW:=ar.bs aA
 have aR:=q.aq dW
 unfold wJ
 cases bd:hM ws 2 s with
 |none=>
  simp only[bd,Option.isSome_none,Bool.not_false,aU]
  refine aj.ad (wM aR) ?_
  rintro v aQ ⟨rfl,bE,aT⟩
  exact aj.some ⟨rfl,bE,ai.to dW aT⟩
 |some w=>
  simp only[bd,Option.getD_some] at st
  simp only[bd,Option.isSome_some,Bool.not_true,a7,aR.st.bz,aR.st.af,aR.hX,aO,a1]
  refine aj.ad (aR.wL (qR bd).1) ?_
  rintro u aQ ⟨bE,aT⟩
  have ha:bY aQ R.length (jx w):=st.aJ aT (fun z=>by simp at z;have:=q.lt;have:=ar.len;omega)
  simp only[ha.af,ha.ag (o:=0+2) (c:= .int .i64 w.n) rfl,aO,a1]
  exact aj.some ⟨rfl,bE,ai.to dW aT⟩
theorem agP(j:Nat)(op:Lu)(h:Lo):wk j op h=some (.int .i64 ((za op:Nat):Int),h):=by
 unfold wk Fa za
 cases(op==[79,82]) with
 |true=>rfl
 |false=>
  cases(op==[65,78,68]) with
  |true=>rfl
  |false=>
   cases(op==[61]) with
   |true=>rfl
   |false=>
    cases(op==[60,62]) with
    |true=>rfl
    |false=>
     cases(op==[60]) with
     |true=>rfl
     |false=>
      cases(op==[60,61]) with
      |true=>rfl
      |false=>
       cases(op==[62]) with
       |true=>rfl
       |false=>
        cases(op==[62,61]) with
        |true=>rfl
        |false=>
         cases(op==[43]) with
         |true=>rfl
         |false=>
          cases(op==[45]) with
          |true=>rfl
          |false=>
           cases(op==[42]) with
           |true=>rfl
           |false=>
            rfl
theorem agQ{j:Nat}{h:Lo}{r:Nat}{aW:V}{ws:List br}{s:bB}(q:e0 h r aW ws s){id:Nat}{cs:Lv}(hy:id≠r)(bg:∀o,o∈dj aW→o≠id)(st:bY h id cs)(ok:Bool)(y4:br)(agR:cs=jx y4)(cj:ok=(hM ws 4 s).isSome)(hw:y4=(hM ws 4 s).getD rV):
  aL (B5 j (.ptr r 0 0) (.ptr id 0 0) ok h) fun x ak aa=>x= .normal∧ak=[.bool (wK ws s).isSome]∧bY aa id (jx ((wK ws s).getD rV))∧e0 aa r aW ws s∧ai h aa [id]:=by
 subst agR
 unfold wK
 cases bd:hM ws 4 s with
 |some w=>
  rw[bd] at cj hw
  subst cj
  simp only[Option.getD_some] at hw
  subst hw
  simp only[B5,Option.isSome_some,Bool.not_true,a7]
  exact aL.some ⟨rfl,rfl,st,q,ai.refl _ _⟩
 |none=>
  rw[bd] at cj hw
  subst cj
  simp only[B5,Option.isSome_none,Bool.not_false,aU]
  refine aL.ad (uD _ q) ?_
  rintro v R ⟨rfl,ar⟩
  simp only[mf,aN,aZ,bn,bl,id_eq,bq,bP,a1,bC,a0,a5]
  have aE:=q.aq ar
  refine aL.ad ((st.aq ar).ic (aM:=jx ((hM ws 1 s).getD rV)) rfl (by simp) rfl (n:=3) rfl) ?_
  rintro u ae ⟨ds,aA⟩
  have aR:e0 ae r aW ws s:=⟨aE.st.aJ aA (fun z=>by simp at z;exact hy z.symm),aE.cx.aJ aA (fun o U z=>by simp at z;exact bg o U z),aE.n0,aE.le,aE.ih⟩
  exact aL.some ⟨rfl,rfl,ds,aR,ai.to ar aA⟩
theorem agS{ws:List br}{s:bB}{w:br}(h:wK ws s=some w):s.i<ws.length∧s.e=0:=by
 unfold wK at h
 split at h
 ·rename_i a2 bd
  exact⟨(qR bd).1,(qR bd).2.1⟩
 ·exact⟨(qR h).1,(qR h).2.1⟩
theorem Mz{j:Nat}{h:Lo}{r:Nat}{aW:V}{ws:List br}{s:bB}(of:Nat)(q:e0 h r aW ws s):aj (yJ j (.ptr r 0 0) (of:Int) h) fun v aa=>v= .bW [.str ((mm ws of s).1.getD []), .bool (mm ws of s).1.isSome]∧e0 aa r aW ws (mm ws of s).2∧ai h aa [r]:=by
 simp only[yJ]
 refine aj.ad (uD _ q) ?_
 rintro v R ⟨rfl,ar⟩
 simp only[mf,aN,aZ,bn,bl,id_eq,bq,bP,a1,bC,a0,a5]
 have aE:=q.aq ar
 refine zb fun ae st aA=> ?_
 have aR:=aE.aq aA
 refine aj.bO (agQ aR (by have:=aE.lt;omega) (fun o U=>by have:=aE.cx.lt U;omega) st _ _ rfl rfl rfl) ?_
 rintro x ak aQ ⟨rfl,rfl,ha,bE,aT⟩
 have gy:ai h aQ []:=(ar.bs aA).trans aT (fun o U=>by cases U) (fun o U bN=>by simp at U;have:=ar.len;omega)
 simp only[decide_true,aU,aN,aZ,bn,bl,id_eq,bq,a0,a5]
 unfold mm
 cases bd:wK ws s with
 |none=>
  simp only[bd,Option.isSome_none,FG,Bool.not_false,aU,gY,decide_true,aN,aZ,bn,bl,id_eq,bq,bC,a0,a5]
  exact aj.some ⟨rfl,bE,gy.mono (fun o U=>by cases U)⟩
 |some w=>
  rw[bd,Option.getD_some] at ha
  simp only[bd,Option.isSome_some,FG,Bool.not_true,a7,ha.af,ha.ag (o:=0+1) (c:= .str w.s) rfl,aO,bC,agP,fp,a1]
  by_cases z:za w.s=of
  ·have:(((za w.s:Nat):Int) !=(of:Int))=false:=by rw[z];simp
   simp only[this,a7,gY,show decide (cg.normal=cg.ret)=false from rfl,decide_true,aU,a5,bE.st.bz,bE.st.af,bE.hX,aO,a1,if_pos z]
   refine aj.ad (bE.wL (agS bd).1) ?_
   rintro u bo ⟨bS,bu⟩
   have p2:bY bo R.length (jx w):=ha.aJ bu (fun y=>by simp at y;have:=aE.lt;omega)
   simp only[p2.af,p2.ag (o:=0+1) (c:= .str w.s) rfl,aO,bC]
   exact aj.some ⟨rfl,bS,ai.to gy bu⟩
  ·have:(((za w.s:Nat):Int) !=(of:Int))=true:=by rw[bne_iff_ne];omega
   simp only[this,aU,gY,decide_true,aN,aZ,bn,bl,id_eq,bq,bC,a0,a5,if_neg z]
   exact aj.some ⟨rfl,bE,gy.mono (fun o U=>by cases U)⟩
def p9(h:Lo)(r:Nat)(aW:V)(ws:List br)(p:X × bB)(v:V)(aa:Lo):Prop:=
 e0 aa r aW ws p.2∧ai h aa [r]∧∃n aG ah,p.1= .mk n ah∧v= .agg (bH n aG)∧c6 (fun o=>h.length≤o) aa (.agg (bH n aG)) (.mk n ah)
theorem l0{av:Nat→Prop}{h:Lo}{n m:fg}{aG:V}{ah:List X}(e:c6 av h (.agg (bH n aG)) (.mk m ah)):(bH n aG).all V.scalar=true:=by
 obtain⟨es,s,-,-,-⟩:=e.inv
 exact mS s
theorem mX{h R:Lo}{av:Nat→Prop}{n:fg}{aG:V}{ah:List X}{r:Nat}{aW:V}{ws:List br}{eZ s:bB}{cs:Lv}(cS:e0 h r aW ws eZ)(eR:cs.length=8)(au:bY R h.length cs)(q:e0 R r aW ws s)(k:ai h R [r])(e:c6 av R (.agg (bH n aG)) (.mk n ah))(cA:∀o,av o→h.length<o):
  aj (ad (aB (.store 8 (.c (.ptr h.length 0 0)) (.c (.agg (bH n aG)))) R) fun _ ae=>J (dS ae 8 (.ptr h.length 0 0)) fun fD=>some (fD,ae)) (p9 h r aW ws (.mk n ah,s)):=by
 refine aj.ad (au.ic (aM:=bH n aG) (by rw[eR];rfl) (by omega) (l0 e) (n:=8) eR) ?_
 rintro u ae ⟨ds,aA⟩
 have ax:(bH n aG).length=8:=rfl
 simp only[show dS ae 8 (.ptr h.length 0 0)=some (.agg (bH n aG)) from ds.bp,aO]
 refine aj.some ⟨⟨q.st.aJ aA (fun z=>by simp at z;have:=cS.lt;omega),q.cx.aJ aA (fun o U z=>by simp at z;have:=cS.cx.lt U;omega),q.n0,q.le,q.ih⟩, ?_,n,aG,ah,rfl,rfl, ?_⟩
 ·exact k.trans aA (fun o U _=>U) (fun o U bN=>by simp at U;omega)
 ·refine(e.aJ aA (fun o U z=> ?_)).mono (fun o _ z=>Nat.le_of_lt (cA o z))
  simp at U
  have:=cA o z
  omega
theorem wN{h:Lo}{n:fg}{aG:V}{K:V→Lo→OvL}{Q:V→Lo→Prop}(a6:(bH n aG).all V.scalar=true)(eY:∀ae,bY ae h.length (bH n aG)→ai h ae []→aj (K (.ptr h.length 0 0) ae) Q):
  aj (ad (aB (.alloc false (.agg gT)) h) fun x mT=>ad (aB (.store 8 (.c x) (.c (.agg (bH n aG)))) mT) fun _ oJ=>K x oJ) Q:=by
 refine aj.ad (hs (cs:=gT) rfl) ?_
 rintro x R ⟨rfl,st,ar⟩
 refine aj.ad (st.ic (aM:=bH n aG) rfl (by simp) a6 (n:=8) rfl) ?_
 rintro u ae ⟨ds,aA⟩
 exact eY ae ds (ar.trans aA (fun o U=>by cases U) (fun o U bN=>by simp at U;omega))
theorem GG{av:Nat→Prop}{h:Lo}{n:fg}{aG:V}{ah:List X}(e:c6 av h (.agg (bH n aG)) (.mk n ah)){m:fg}:aj (aB (.dN 8 (.agg gT) 1 [(0, .c (.agg (bH n aG)))]) h) fun v aa=>v.cells=[v]∧v.scalar=true∧ai h aa []∧c6 (fun o=>av o∨h.length≤o) aa (.agg (bH m v)) (.mk m [.mk n ah]):=by
 have a8:=l0 e
 refine(mg (az:=8) (z:= .agg gT) (len:=1) (ah:=[(0, .agg (bH n aG))]) (es:=[.agg (bH n aG)]) (by decide) (by
  have R:kk 8 (.agg (bH n aG))=true:=by
   simp only[kk,V.cells,a8,Bool.and_true];rfl
  simp only[List.all_cons,List.all_nil,R];rfl) rfl rfl).mono ?_
 rintro v aa ⟨-,-,ka,dc,zc,mD⟩
 refine⟨(oE ka).1,(oE ka).2,zc, .mk ka (fun o U=> .inr (mD o U)) rfl ?_⟩
 intro i ct p he hp
 cases i with
 |zero=>
  simp only[List.getElem?_cons_zero,Option.some.injEq] at he hp
  subst he;subst hp
  exact(e.aq zc).mono fun o _ z=> .inl z
 |succ i=>simp at he
theorem Ts{av bx:Nat→Prop}{h:Lo}{n jI:fg}{aG lr:V}{ah lu:List X}(e:c6 av h (.agg (bH n aG)) (.mk n ah))(ct:c6 bx h (.agg (bH jI lr)) (.mk jI lu)){m:fg}:
  aj (aB (.dN 8 (.agg gT) 2 [(0, .c (.agg (bH n aG))),(1, .c (.agg (bH jI lr)))]) h) fun v aa=>v.cells=[v]∧v.scalar=true∧ai h aa []∧c6 (fun o=>av o∨bx o∨h.length≤o) aa (.agg (bH m v)) (.mk m [.mk n ah, .mk jI lu]):=by
 have a8:=l0 e
 have agT:=l0 ct
 refine(mg (az:=8) (z:= .agg gT) (len:=2) (ah:=[(0, .agg (bH n aG)),(1, .agg (bH jI lr))]) (es:=[.agg (bH n aG), .agg (bH jI lr)]) (by decide) (by
  have R:kk 8 (.agg (bH n aG))=true:=by
   simp only[kk,V.cells,a8,Bool.and_true];rfl
  have ae:kk 8 (.agg (bH jI lr))=true:=by
   simp only[kk,V.cells,agT,Bool.and_true];rfl
  simp only[List.all_cons,List.all_nil,R,ae];rfl) rfl rfl).mono ?_
 rintro v aa ⟨-,-,ka,dc,zc,mD⟩
 refine⟨(oE ka).1,(oE ka).2,zc, .mk ka (fun o U=> .inr (.inr (mD o U))) rfl ?_⟩
 intro i x p he hp
 match i with
 |0=>
  simp only[List.getElem?_cons_zero,Option.some.injEq] at he hp
  subst he;subst hp
  exact(e.aq zc).mono fun o _ z=> .inl z
 |1=>
  simp only[List.getElem?_cons_succ,List.getElem?_cons_zero,Option.some.injEq] at he hp
  subst he;subst hp
  exact(ct.aq zc).mono fun o _ z=> .inr (.inl z)
 |i+2=>simp at he
theorem CC{h:Lo}{k:Int}{op:Lu}{v:V}(an:v.cells=[v])(a6:v.scalar=true):I (.build [.int .i64 0,(.str []), .int .i64 0, .int .i64 0,(.str []),(.str []),(.str []), .ab] [(0,(1,(.c (.int .i64 k)))),(1,(1,(.c (.str op)))),(7,(1,(.c v)))]) h=some (.agg (bH ⟨k,op,0,0,[],[],[]⟩ v)):=by
 have:je [.int .i64 k, .str op, .int .i64 0, .int .i64 0,(.str []),(.str []),(.str []), .ab] [(7,1,v)]=some (bH ⟨k,op,0,0,[],[],[]⟩ v):=by
  cases v<;>first|rfl|(simp[V.scalar] at a6)
 simp only[I,aB,e8,Bv,List.map_cons,List.map_nil,fW]
 rw[show je [.int .i64 0,(.str []), .int .i64 0, .int .i64 0,(.str []),(.str []),(.str []), .ab] [(0,1, .int .i64 k),(1,1, .str op),(7,1,v)]=je [.int .i64 k, .str op, .int .i64 0, .int .i64 0,(.str []),(.str []),(.str []), .ab] [(7,1,v)] from rfl,this]
 rfl
theorem wO{av:Nat→Prop}{h:Lo}{n:fg}:c6 av h (.agg (bH n .ab)) (.mk n []):= .mk (dq.ab _ _) (fun o U=>by cases U) rfl (fun i e p he=>by simp at he)
theorem uE{aK:Type}{p:Prop}{ao:Option aK}(hp:p):bk p ao=ao:=by unfold bk;exact if_pos hp
abbrev s7(j k f r:Nat)(aW:V)(ws:List br):Prop:=∀(of:Nat) (h:Lo) (s:bB),of≤6→e0 h r aW ws s→10*(ws.length-s.i)+8≤f+of→
 aj (iu j k 120 [.ptr r 0 0, .int .i64 (of:Int)] h) (p9 h r aW ws (ei ws f of s))
theorem zd{j k f r:Nat}{aW:V}{ws:List br}(aF:s7 j k f r aW ws){x:Int}(of:Nat)(au:x=(of:Int)){h:Lo}{s:bB}(cR:of≤6)(q:e0 h r aW ws s)(bd:10*(ws.length-s.i)+8≤f+of):
  aj (iu j k 120 [.ptr r 0 0, .int .i64 x] h) (p9 h r aW ws (ei ws f of s)):=by subst au;exact aF of h s cR q bd
theorem agU{j:Nat}{h:Lo}{r:Nat}{aW:V}{ws:List br}{s:bB}{x:Int}(of:Nat)(au:x=(of:Int))(q:e0 h r aW ws s):aj (yJ j (.ptr r 0 0) x h) fun v aa=>v= .bW [.str ((mm ws of s).1.getD []), .bool (mm ws of s).1.isSome]∧e0 aa r aW ws (mm ws of s).2∧ai h aa [r]:=by subst au;exact Mz of q
theorem agV(j k dz r:Nat){aW:V}{ws:List br}(aF:s7 j k dz r aW ws){of:Nat}(agW:of+1≤6){aI:Lo}{jO wP:Nat}(ary:aI.length≤jO)(bc:r<jO)(MA:∀o,o∈dj aW→o<jO)(arz:jO<wP):
  ∀(m f g:Nat) (h:Lo) (s:bB) (n:fg) (aG:V) (ah:List X) (cs:Lv),ws.length-s.i≤m→m<f→m<g→10*(ws.length-s.i)+8≤dz+(of+1)→e0 h r aW ws s→ai aI h [r]→cs.length=8→bY h jO cs→bY h wP (bH n aG)→c6 (fun o=>jO<o∧o≠wP) h (.agg (bH n aG)) (.mk n ah)→
  aL (yP j (iu j k) f (.ptr r 0 0) (of:Int) (.ptr jO 0 0) (.ptr wP 0 0) h) fun x ak aa=>x= .ret∧ak=[]∧∃jI lr lu,(oI ws (ei ws dz (of+1)) of g (.mk n ah) s).1= .mk jI lu∧bY aa jO (bH jI lr)∧c6 (fun o=>jO<o) aa (.agg (bH jI lr)) (.mk jI lu)∧e0 aa r aW ws (oI ws (ei ws dz (of+1)) of g (.mk n ah) s).2∧ai aI aa [r]:=by
 intro m
 induction m with
 |zero=>
  intro f g h s n aG ah cs hm aS dt rz q qx eR dX ht e
  obtain⟨f,rfl⟩:∃gj,f=gj+1:=⟨f-1,by omega⟩
  obtain⟨g,rfl⟩:∃cX,g=cX+1:=⟨g-1,by omega⟩
  simp only[yP,FQ]
  refine aL.ad (Mz of q) ?_
  rintro v R ⟨rfl,aE,ar⟩
  cases cj:mm ws of s with
  |mk ao s1=>
   rw[cj] at aE
   cases ao with
   |some op=>
    exfalso
    have:=Cz cj
    have ae:=aE.le
    rw[this] at ae
    simp only[hb] at ae
    omega
   |none=>
    have s8:=CA cj
    subst s8
    simp only[oI,cj,mf,aN,aZ,bn,bl,id_eq,bq,bC,a0,a5,Option.isSome_none,Bool.not_false,aU]
    have ze:=ht.aJ ar (fun z=>by simp at z;omega)
    have rW:=dX.aJ ar (fun z=>by simp at z;omega)
    have aV:=e.aJ ar (fun o U z=>by simp at U;omega)
    simp only[ze.e4 (n:=8) rfl,aO,bP,aN,aZ,bn,bl,id_eq,bq,a1,bC,a5]
    refine aL.ad (rW.ic (aM:=bH n aG) (by rw[eR];rfl) (by omega) (l0 e) (n:=8) eR) ?_
    rintro u ae ⟨hi,aA⟩
    refine aL.some ⟨rfl,rfl,n,aG,ah,rfl,hi, ?_, ?_, ?_⟩
    ·exact(aV.aJ aA (fun o U z=>by simp at U;omega)).mono fun o _ z=>z.1
    ·exact⟨aE.st.aJ aA (fun z=>by simp at z;omega),aE.cx.aJ aA (fun o U z=>by simp at z;have:=MA o U;omega),aE.n0,aE.le,aE.ih⟩
    ·exact(ai.b6 qx ar).trans aA (fun o U _=>U) (fun o U bN=>by simp at U;omega)
 |succ m ba=>
  intro f g h s n aG ah cs hm aS dt rz q qx eR dX ht e
  obtain⟨f,rfl⟩:∃gj,f=gj+1:=⟨f-1,by omega⟩
  obtain⟨g,rfl⟩:∃cX,g=cX+1:=⟨g-1,by omega⟩
  simp only[yP,FQ]
  refine aL.ad (Mz of q) ?_
  rintro v R ⟨rfl,aE,ar⟩
  have ze:=ht.aJ ar (fun z=>by simp at z;omega)
  have rW:=dX.aJ ar (fun z=>by simp at z;omega)
  have aV:=e.aJ ar (fun o U z=>by simp at U;omega)
  cases cj:mm ws of s with
  |mk ao s1=>
   rw[cj] at aE
   cases ao with
   |none=>
    have s8:=CA cj
    subst s8
    simp only[oI,cj,mf,aN,aZ,bn,bl,id_eq,bq,bC,a0,a5,Option.isSome_none,Bool.not_false,aU]
    simp only[ze.e4 (n:=8) rfl,aO,bP,aN,aZ,bn,bl,id_eq,bq,a1,bC,a5]
    refine aL.ad (rW.ic (aM:=bH n aG) (by rw[eR];rfl) (by omega) (l0 e) (n:=8) eR) ?_
    rintro u ae ⟨hi,aA⟩
    refine aL.some ⟨rfl,rfl,n,aG,ah,rfl,hi, ?_, ?_, ?_⟩
    ·exact(aV.aJ aA (fun o U z=>by simp at U;omega)).mono fun o _ z=>z.1
    ·exact⟨aE.st.aJ aA (fun z=>by simp at z;omega),aE.cx.aJ aA (fun o U z=>by simp at z;have:=MA o U;omega),aE.n0,aE.le,aE.ih⟩
    ·exact(ai.b6 qx ar).trans aA (fun o U _=>U) (fun o U bN=>by simp at U;omega)
   |some op=>
    have s8:=Cz cj
    subst s8
    have MB:IntKind.i64.wrap ((of:Int)+1)=((of+1:Nat):Int):=by rw[wrap_i64 (by omega) (by omega)];simp
    have hle:=aE.le
    simp only[hb] at hle
    simp only[oI,cj,mf,aN,aZ,bn,bl,id_eq,bq,bC,a0,a5,Option.isSome_some,Option.getD_some,Bool.not_true,a7,MB]
    simp only[ze.e4 (n:=8) rfl,aO,bP,aN,aZ,bn,bl,id_eq,bq,a1,bC,a5]
    refine aL.ad (aF (of+1) R (hb s) agW aE (by simp only[hb];omega)) ?_
    rintro v ae ⟨aR,aA,gk,mY,n1,k5,rfl,bb⟩
    have c5:wP<R.length:=ze.lt
    have Tt:=ze.aJ aA (fun z=>by simp at z;omega)
    have hi:=rW.aJ aA (fun z=>by simp at z;omega)
    have agX:=aV.aJ aA (fun o U z=>by simp at U;omega)
    simp only[bP,aN,aZ,bn,bl,id_eq,bq,a1,bC,a5,Tt.e4 (n:=8) rfl,uE]
    refine aL.ad (Ts agX bb (m:=⟨4,op,0,0,[],[],[]⟩)) ?_
    rintro y aQ ⟨qS,a_,aT,cb⟩
    simp only[CC qS a_,aO,bP,aN,aZ,bn,bl,id_eq,bq,a1,bC,a5]
    have MC:=Tt.aq aT
    refine aL.ad (MC.ic (aM:=bH ⟨4,op,0,0,[],[],[]⟩ y) rfl (by simp) (l0 cb) (n:=8) rfl) ?_
    rintro u bo ⟨n2,bu⟩
    have h0:=(hi.aq aT).aJ bu (fun z=>by simp at z;omega)
    have bE:=aR.aq aT
    have bS:e0 bo r aW ws (ei ws dz (of+1) (hb s)).2:=⟨bE.st.aJ bu (fun z=>by simp at z;omega),bE.cx.aJ bu (fun o U z=>by simp at z;have:=MA o U;omega),bE.n0,bE.le,bE.ih⟩
    have ew:R.length≤ae.length:=aA.len
    have dI:c6 (fun o=>jO<o∧o≠wP) bo (.agg (bH ⟨4,op,0,0,[],[],[]⟩ y)) (.mk ⟨4,op,0,0,[],[],[]⟩ [.mk n ah, .mk gk n1]):=by
     refine(cb.mono (fun o _ z=> ?_)).aJ bu (fun o U z=>by simp at U;omega)
     rcases z with z|z|z<;>omega
    have mono:=p8 ws dz (of+1) (hb s)
    simp only[hb] at mono
    rw[k5]
    have gM:ai aI bo [r]:=(ai.ro (ai.b6 (ai.b6 qx ar) aA) aT).trans bu (fun o U _=>U) (fun o U bN=>by simp at U;omega)
    exact ba f g bo _ _ y _ cs (by simp only[hb] at*;omega) (by omega) (by omega) (by simp only[hb] at*;omega) bS gM eR h0 n2 dI
theorem agY(j k dz r:Nat)(aS:1000<j){aW:V}{ws:List br}(aF:s7 j k dz r aW ws){h:Lo}{s:bB}(q:e0 h r aW ws s)(bd:10*(ws.length-s.i)+8≤dz+4):aj (LO j (iu j k) (.ptr r 0 0) h) (p9 h r aW ws (p7 ws (ei ws dz 4) s)):=by
 have nY:=q.lt
 have rX:∀o,o∈dj aW→o<h.length:=fun o U=>q.cx.lt U
 simp only[LO]
 refine aj.ad (hs (cs:=gT) rfl) ?_
 rintro du R ⟨rfl,dX,ar⟩
 have aE:=q.aq ar
 have c5:h.length<R.length:=dX.lt
 refine aj.ad (zd aF 4 rfl (by decide) aE bd) ?_
 rintro v ae ⟨aR,aA,n,aG,ah,hp,rfl,bb⟩
 simp only[bP,aN,aZ,bn,bl,id_eq,bq,a1,bC,a5]
 have hi:=dX.aJ aA (fun z=>by simp at z;omega)
 have ew:R.length≤ae.length:=aA.len
 have mono:=p8 ws dz 4 s
 refine wN (l0 bb) fun aQ ht aT=> ?_
 have bE:=aR.aq aT
 have gz:=hi.aq aT
 have cb:=bb.aq aT
 have eA:ai h aQ [r]:=ai.ro (ai.to ar aA) aT
 have i_:ae.length<aQ.length:=ht.lt
 refine aj.ad (agU 3 rfl bE) ?_
 rintro v bo ⟨rfl,bS,bu⟩
 have n2:=ht.aJ bu (fun z=>by simp at z;omega)
 have h0:=gz.aJ bu (fun z=>by simp at z;omega)
 have dI:=cb.aJ bu (fun o U z=>by simp at U;omega)
 have ns:aQ.length≤bo.length:=bu.len
 have gM:=ai.b6 eA bu
 unfold p7
 cases cj:mm ws 3 (ei ws dz 4 s).2 with
 |mk ao s1=>
  rw[cj] at bS
  cases ao with
  |some op=>
   have s8:=Cz cj
   subst s8
   have hle:=bS.le
   simp only[hb] at hle
   simp only[mf,aN,aZ,bn,bl,id_eq,bq,bC,a0,a5,Option.isSome_some,Option.getD_some,aU,n2.e4 (n:=8) rfl,aO,bP,a1]
   refine aj.ad (zd aF 4 rfl (by decide) bS (by simp only[hb];omega)) ?_
   rintro v bI ⟨dn,bX,gk,mY,n1,k5,rfl,fQ⟩
   have pr:=n2.aJ bX (fun z=>by simp at z;omega)
   have jy:=h0.aJ bX (fun z=>by simp at z;omega)
   have agZ:=dI.aJ bX (fun o U z=>by simp at U;omega)
   simp only[bP,aN,aZ,bn,bl,id_eq,bq,a1,bC,a5,pr.e4 (n:=8) rfl,uE]
   refine aj.ad (Ts agZ fQ (m:=⟨4,op,0,0,[],[],[]⟩)) ?_
   rintro y cR ⟨qS,a_,cP,gS⟩
   have jP:bo.length≤bI.length:=bX.len
   simp only[CC qS a_,aO,bP,aN,aZ,bn,bl,id_eq,bq,a1,bC,a5]
   rw[hp,k5]
   show aj _ (p9 h r aW ws (X.mk ⟨4,op,0,0,[],[],[]⟩ [.mk n ah, .mk gk n1],(ei ws dz 4 (hb (ei ws dz 4 s).2)).2))
   exact mX (cs:=gT) (n:=⟨4,op,0,0,[],[],[]⟩) (aG:=y) (ah:=[.mk n ah, .mk gk n1]) q rfl (jy.aq cP) (dn.aq cP) (ai.ro (ai.b6 gM bX) cP) gS (fun o z=>by rcases z with z|z|z<;>omega)
  |none=>
   have s8:=CA cj
   subst s8
   simp only[mf,aN,aZ,bn,bl,id_eq,bq,bC,a0,a5,Option.isSome_none,a7]
   refine aj.ad (fH [73,83] bS) ?_
   rintro v bI ⟨rfl,dn,bX⟩
   have pr:=n2.aJ bX (fun z=>by simp at z;omega)
   have jy:=h0.aJ bX (fun z=>by simp at z;omega)
   have fQ:=dI.aJ bX (fun o U z=>by simp at U;omega)
   have jP:bo.length≤bI.length:=bX.len
   have iN:=ai.b6 gM bX
   simp only[a0]
   by_cases aw:(bA ws [73,83] (ei ws dz 4 s).2).1=false
   ·simp only[aw,Bool.not_false,aU,if_true,pr.e4 (n:=8) rfl,aO,bP,aN,aZ,bn,bl,id_eq,bq,a1,bC,a5]
    rw[hp]
    exact mX (cs:=gT) (n:=n) (aG:=aG) (ah:=ah) q rfl jy dn iN fQ (fun o z=>by omega)
   ·have hn:(bA ws [73,83] (ei ws dz 4 s).2).1=true:=by simpa using aw
    simp only[hn,Bool.not_true,a7,Bool.true_eq_false,if_false,LN]
    obtain⟨v,cR,p_,rfl,ej,cP⟩:=fH (j:=j) [78,79,84] dn
    have zf:=pr.aJ cP (fun z=>by simp at z;omega)
    have mn:=jy.aJ cP (fun z=>by simp at z;omega)
    have gS:=fQ.aJ cP (fun o U z=>by simp at U;omega)
    have k3:bI.length≤cR.length:=cP.len
    have ja:=ai.b6 iN cP
    have fin:∀op:Lu,aj (ad (aB (.dN 1 (.str []) 1 [(0,(.c (.str [78,85,76,76])))]) cR) fun qT ag0=>
      ad (hA j (.ptr r 0 0) qT ag0) fun CD Tu=>
      J (I (.bp 8 (.c (.ptr ae.length 0 0))) Tu) fun p0=>
      sL p0 fun Tv=>im Tv fun ag1 Tw=>bt .i64 ag1 fun ag2=>im Tw fun ag3 Tx=>b1 ag3 fun ag4=>im Tx fun ag5 ag6=>bt .i64 ag5 fun ag7=>
      im ag6 fun ag8 ag9=>bt .i64 ag8 fun ag_=>im ag9 fun aha ahb=>b1 aha fun ahc=>im ahb fun ahd ahe=>b1 ahd fun ahf=>im ahe fun ahg ahh=>b1 ahg fun ahi=>
      im ahh fun ahj ahk=>dT ahk (
      ad (aB (.dN 8 (.agg [.int .i64 0,(.str []), .int .i64 0, .int .i64 0,(.str []),(.str []),(.str []), .ab]) 1 [(0,(.c (.agg [.int .i64 ag2, .str ag4, .int .i64 ag7, .int .i64 ag_, .str ahc, .str ahf, .str ahi,ahj])))]) Tu) fun Cr Ty=>
      J (I (.build [.int .i64 0,(.str []), .int .i64 0, .int .i64 0,(.str []),(.str []),(.str []), .ab] [(0,(1,(.c (.int .i64 (5))))),(1,(1,(.c (.str op)))),(7,(1,(.c Cr)))]) Ty) fun v4=>
      sL v4 fun ahl=>im ahl fun ahm ahn=>bt .i64 ahm fun aho=>im ahn fun ahp ahq=>b1 ahp fun ahr=>im ahq fun ahs aht=>bt .i64 ahs fun ahu=>
      im aht fun ahv ahw=>bt .i64 ahv fun ahx=>im ahw fun ahy ahz=>b1 ahy fun ahA=>im ahz fun ahB ahC=>b1 ahB fun ahD=>im ahC fun ahE ahF=>b1 ahE fun ahG=>
      im ahF fun ahH ahI=>dT ahI (
      ad (aB (.store 8 (.c (.ptr h.length 0 0)) (.c (.agg [.int .i64 aho, .str ahr, .int .i64 ahu, .int .i64 ahx, .str ahA, .str ahD, .str ahG,ahH]))) Ty) fun de Tz=>
      J (dS Tz 8 (.ptr h.length 0 0)) fun fD=>some (fD,Tz))))
      (p9 h r aW ws (Mx op (.mk n ah),fl ws [[78,85,76,76]] (bA ws [78,79,84] (bA ws [73,83] (ei ws dz 4 s).2).2).2)):=by
     intro op
     refine k4 aS ej (l:=[[78,85,76,76]]) (ah:=[(0, .str [78,85,76,76])]) rfl (by decide) rfl rfl fun eF fy dv=> ?_
     have MD:=zf.aJ dv (fun z=>by simp at z;omega)
     have mo:=mn.aJ dv (fun z=>by simp at z;omega)
     have hz:=gS.aJ dv (fun o U z=>by simp at U;omega)
     have np:cR.length≤eF.length:=dv.len
     simp only[MD.e4 (n:=8) rfl,aO,bP,aN,aZ,bn,bl,id_eq,bq,a1,bC,a5]
     refine aj.ad (GG hz (m:=⟨5,op,0,0,[],[],[]⟩)) ?_
     rintro y eR ⟨qS,a_,eJ,wQ⟩
     simp only[CC qS a_,aO,bP,aN,aZ,bn,bl,id_eq,bq,a1,bC,a5]
     exact mX (cs:=gT) (n:=⟨5,op,0,0,[],[],[]⟩) (aG:=y) (ah:=[.mk n ah]) q rfl (mo.aq eJ) (fy.aq eJ) (ai.ro (ai.b6 ja dv) eJ) wQ (fun o z=>by rcases z with z|z<;>omega)
    rw[hp]
    by_cases U:(bA ws [78,79,84] (bA ws [73,83] (ei ws dz 4 s).2).2).1=true
    ·simp only[p_,fp,a0,U,aU,gY,decide_true,aN,aZ,bn,bl,id_eq,bq,bC,a5,if_true]
     exact fin _
    ·have ahJ:(bA ws [78,79,84] (bA ws [73,83] (ei ws dz 4 s).2).2).1=false:=by simpa using U
     simp only[p_,fp,a0,ahJ,a7,gY,decide_true,aU,aN,aZ,bn,bl,id_eq,bq,bC,a5,Bool.false_eq_true,if_false]
     exact fin _
end Go.Proofs.YtjpjeilfmjdhcaaGreat.fw
