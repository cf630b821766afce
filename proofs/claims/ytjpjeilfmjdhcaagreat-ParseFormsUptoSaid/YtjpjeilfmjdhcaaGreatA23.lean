/- All that is read of few words fits. No condition. -/
import Derived.Test.YtjpjeilfmjdhcaaGreatA21
import Derived.Test.YtjpjeilfmjdhcaaGreatA14
import Derived.Test.YtjpjeilfmjdhcaaGreatA22
import Derived.Test.YtjpjeilfmjdhcaaGreatA17
import Derived.Test.YtjpjeilfmjdhcaaGreatA3
set_option maxRecDepth 100000
set_option linter.unusedVariables false
set_option linter.unusedSimpArgs false
set_option linter.unnecessarySimpa false
namespace Go.Proofs.YtjpjeilfmjdhcaaGreat.f_
open Go E ep eI fq
theorem VZ{α:Type}{ws:List br}{m:fr α}{P:α→Prop}(hm:∀s,P (m s).1):∀(f:Nat) (acc:List α) (s:bB),(∀a,a∈acc→P a)→∀a,a∈(gn ws m f acc s).1→P a
 |0,acc,s,h=>h
 |f+1,acc,s,h=>by
  simp only[gn]
  split
  ·exact VZ hm f _ _ (fun a bh=>by
    rcases List.mem_append.1 bh with q|q
    ·exact h a q
    ·rw[List.mem_singleton.1 q];exact hm _)
  ·exact h
theorem tu{α:Type}{ws:List br}{m:fr α}{P:α→Prop}(hm:∀s,P (m s).1)(s:bB):∀a,a∈(k8 ws m s).1→P a:=VZ hm _ _ _ (fun a bh=>by rw[List.mem_singleton.1 bh];exact hm _)
theorem N1{α:Type}{ws:List br}{m:fr α}{P:α→Prop}(hm:∀s,P (m s).1)(s:bB):∀a,a∈(nv ws m s).1→P a:=tu hm _
theorem Av{α:Type}{ws:List br}{m:fr α}(s:bB):(k8 ws m s).1.length≤ws.length+2:=by
 refine Nat.le_trans (NB _ _ _) ?_
 simp;omega
theorem N2{α:Type}{ws:List br}{m:fr α}(s:bB):(nv ws m s).1.length≤ws.length+2:=Av _
section
variable {ws:List br} (hw:hj 5000 ws)
include hw
theorem xF(s:bB):e1 5000 (gg ws s).1:=by
 simp only[gg]
 split<;>exact wV (by decide) hw _ 0 s
theorem N3(s:bB):∀x,x∈(nw ws s).1→e1 5000 x:=by
 intro x au
 simp only[nw] at au
 split at au
 ·rw[List.mem_singleton.1 au];exact xF hw _
 ·cases au
theorem anw(s:bB):e1 5000 (wW ws s).1.e:=xF hw s
theorem anx(s:bB):e1 5000 (pw ws s).1.e:=by
 simp only[pw]
 split<;>exact xF hw s
theorem anz(s:bB):e1 5000 (uI ws s).1.e:=xF hw _
theorem V0:∀(f:Nat) (acc:List hB) (s:bB),(∀a,a∈acc→e1 5000 a.on)→∀a,a∈(lz ws f acc s).1→e1 5000 a.on
 |0,acc,s,h=>h
 |f+1,acc,s,h=>by
  simp only[lz]
  split
  ·exact V0 f _ _ (fun a bh=>by
    rcases List.mem_append.1 bh with q|q
    ·exact h a q
    ·rw[List.mem_singleton.1 q];exact xF hw _)
  ·exact h
end
theorem V1{ws:List br}:∀(f:Nat) (acc:List hB) (s:bB),(lz ws f acc s).1.length≤acc.length+f
 |0,acc,s=>Nat.le_refl _
 |f+1,acc,s=>by
  simp only[lz]
  split
  ·refine Nat.le_trans (V1 f _ _) ?_
   simp;omega
  ·simp
theorem N4{ws:List br}(s:bB):(nw ws s).1.length≤1:=by
 simp only[nw]
 split<;>simp
def oR(q:k7):List X:=q.items.map (·.e)++q.eH.map (·.on)++q.c1++q.fh++q.eV.map (·.e)
def nB(m:ea):List X:=m.rows.flatten++m.ft.map (·.e)++m.c1++oR m.q
structure IY(N:Nat)(q:k7):Prop where
 m4:q.items.length≤N
 m5:q.eH.length≤N
 nz:q.c1.length≤N
 nA:q.fh.length≤N
 m6:q.eV.length≤N
structure V2(N:Nat)(m:ea):Prop where
 cY:m.hk.length≤N
 gk:m.keys.length≤N
 kg:m.rows.length≤N
 l4:m.ft.length≤N
 oQ:m.c1.length≤N
 qk:∀r,r∈m.rows→r.length≤N
 q:IY N m.q
def tv(m:ea):Prop:=(∀x,x∈nB m→e1 5000 x)∧V2 1000 m
theorem IZ(N:Nat):IY N pv:=⟨Nat.zero_le _,Nat.zero_le _,Nat.zero_le _,Nat.zero_le _,Nat.zero_le _⟩
theorem uY{k:Int}{n ao:Lu}{u:Bool}{cs:List jz}{z7:List (Lu)}(R:cs.length≤1000)(ae:z7.length≤1000):tv {ek with k:=k,name:=n,on:=ao,un:=u,hk:=cs,keys:=z7}:=
 ⟨fun x au=>by simp[nB,oR,ek,pv] at au,R,ae,Nat.zero_le _,Nat.zero_le _,Nat.zero_le _,(fun r bc=>nomatch bc),IZ _⟩
theorem V3{ws:List br}(hw:hj 5000 ws)(aS:ws.length≤600)(s:bB):(∀x,x∈oR (kb ws s).1→e1 5000 x)∧IY 1000 (kb ws s).1:=by
 have V4:∀(b:Bool) (t:bB),(∀a,a∈(r2 ws b t).1→e1 5000 a.e)∧(r2 ws b t).1.length≤1000:=by
  intro b t
  simp only[r2]
  split
  ·exact⟨(fun a bh=>nomatch bh),by simp⟩
  ·exact⟨tu (P:=fun a:ij=>e1 5000 a.e) (anw hw) t,Nat.le_trans (Av t) (by omega)⟩
 have V5:∀t:bB,(∀a,a∈(r0 ws t).1→e1 5000 a)∧(r0 ws t).1.length≤1000:=by
  intro t
  simp only[r0]
  split
  ·exact⟨tu (xF hw) _,Nat.le_trans (Av _) (by omega)⟩
  ·exact⟨(fun a bh=>nomatch bh),by simp⟩
 have V6:∀t:bB,(∀a,a∈(r1 ws t).1→e1 5000 a.e)∧(r1 ws t).1.length≤1000:=by
  intro t
  simp only[r1]
  split
  ·exact⟨tu (P:=fun a:iH=>e1 5000 a.e) (anx hw) _,Nat.le_trans (Av _) (by omega)⟩
  ·exact⟨(fun a bh=>nomatch bh),by simp⟩
 have V7:∀t u:bB,(∀a,a∈(lz ws (ws.length+1) [(kK ws t).1] u).1→e1 5000 a.on)∧(lz ws (ws.length+1) [(kK ws t).1] u).1.length≤1000:=fun t u=>
  ⟨V0 hw _ _ _ (fun a bh=>by rw[List.mem_singleton.1 bh];exact MM _),Nat.le_trans (V1 _ _ _) (by simp;omega)⟩
 have V8:∀t:bB,(∀a,a∈(nw ws t).1→e1 5000 a)∧(nw ws t).1.length≤1000:=fun t=>⟨N3 hw t,Nat.le_trans (N4 t) (by omega)⟩
 simp only[kb]
 refine⟨fun x au=> ?_,(V4 _ _).2,(V7 _ _).2,(V8 _).2,(V5 _).2,(V6 _).2⟩
 simp only[oR,List.mem_append,List.mem_map] at au
 rcases au with(((⟨a,bh,rfl⟩|⟨a,bh,rfl⟩)|au)|au)|⟨a,bh,rfl⟩
 ·exact(V4 _ _).1 a bh
 ·exact(V7 _ _).1 a bh
 ·exact(V8 _).1 x au
 ·exact(V5 _).1 x au
 ·exact(V6 _).1 a bh
theorem V9{k:Int}{n:Lu}{q:k7}(h:(∀x,x∈oR q→e1 5000 x)∧IY 1000 q):tv {ek with k:=k,name:=n,q:=q}:=
 ⟨fun x au=>h.1 x (by simpa [nB,ek] using au),Nat.zero_le _,Nat.zero_le _,Nat.zero_le _,Nat.zero_le _,Nat.zero_le _,(fun r bc=>nomatch bc),h.2⟩
theorem anA{ws:List br}(hw:hj 5000 ws)(aS:ws.length≤600)(s:bB):tv (ji ws s).1:=by
 have R:∀t,tv (mZ ws t).1:=fun t=>by
  simp only[mZ]
  split
  ·exact uY (Nat.le_trans (N2 _) (by omega)) (by simp[ek])
  ·split
   ·exact V9 (V3 hw aS _)
   ·exact uY (by simp[ek]) (Nat.le_trans (N2 _) (by omega))
 have ae:∀t,tv (nx ws t).1:=fun t=>by
  simp only[nx]
  split
  ·exact uY (by simp[ek]) (by simp[ek])
  ·split<;>exact uY (by simp[ek]) (by simp[ek])
 have aQ:∀t,tv (qa ws t).1:=fun t=>by
  simp only[qa]
  refine⟨fun x au=> ?_,Nat.zero_le _,Nat.zero_le _,Nat.le_trans (Av _) (by omega),Nat.zero_le _,Nat.zero_le _, ?_,IZ _⟩
  ·simp[nB,oR,ek,pv] at au
   obtain⟨r,bc,au⟩:=au
   exact tu (P:=fun r:List X=>∀x,x∈r→e1 5000 x) (fun u=>N1 (xF hw) u) _ r bc x au
  ·exact tu (P:=fun r:List X=>r.length≤1000) (fun u=>Nat.le_trans (N2 u) (by omega)) _
 have bo:∀t,tv (qV ws t).1:=fun t=>by
  simp only[qV]
  refine⟨fun x au=> ?_,Nat.zero_le _,Nat.zero_le _,Nat.zero_le _,Nat.le_trans (Av _) (by omega),Nat.le_trans (N4 _) (by omega),(fun r bc=>nomatch bc),IZ _⟩
  simp[nB,oR,ek,pv] at au
  rcases au with⟨a,bh,rfl⟩|au
  ·exact tu (P:=fun a:h7=>e1 5000 a.e) (anz hw) _ a bh
  ·exact N3 hw _ x au
 have bI:∀t,tv (qW ws t).1:=fun t=>by
  simp only[qW]
  refine⟨fun x au=> ?_,Nat.zero_le _,Nat.zero_le _,Nat.zero_le _,Nat.zero_le _,Nat.le_trans (N4 _) (by omega),(fun r bc=>nomatch bc),IZ _⟩
  simp[nB,oR,ek,pv] at au
  exact N3 hw _ x au
 have cR:∀t,tv (ny ws t).1:=fun t=>by
  simp only[ny]
  split
  ·exact uY (by simp[ek]) (by simp[ek])
  ·split
   ·exact uY (by simp[ek]) (by simp[ek])
   ·split<;>exact uY (by simp[ek]) (by simp[ek])
 simp only[ji]
 split
 ·exact R _
 ·split
  ·exact ae _
  ·split
   ·exact aQ _
   ·split
    ·exact bo _
    ·split
     ·exact bI _
     ·split
      ·exact V9 (V3 hw aS _)
      ·exact cR _
theorem jS{w:Nat}:∀{k:Nat} {x:X},fY w k x→g_ w k x
 |k+1, .mk n ah,d=>⟨d.1.2.2,fun p hp=>jS (d.2 p hp)⟩
theorem N5{w:Nat}:∀{l:List X},(∀x,x∈l→e1 w x)→∃D,∀x,x∈l→fY w D x
 | [],h=>⟨0,fun x au=>by cases au⟩
 |y::l,h=>by
  obtain⟨D,b_⟩:=N5 (l:=l) (fun x au=>h x (List.mem_cons_of_mem _ au))
  obtain⟨d,bj⟩:=h y List.mem_cons_self
  refine⟨max D d,fun x au=> ?_⟩
  rcases List.mem_cons.1 au with rfl|au
  ·exact zk bj (by omega)
  ·exact zk (b_ x au) (by omega)
theorem N6{w N:Nat}{m:ea}(g:(∀x,x∈nB m→e1 w x)∧V2 N m):∃D,h9 w D N m:=by
 obtain⟨h,l⟩:=g
 obtain⟨D,b_⟩:=N5 h
 refine⟨D,⟨fun r bc x au=>b_ x ?_,fun a bh=>b_ _ ?_,fun x au=>b_ x ?_,fun a bh=>b_ _ ?_,fun a bh=>b_ _ ?_,fun x au=>b_ x ?_,fun x au=>b_ x ?_,fun a bh=>b_ _ ?_,l.cY,l.gk,l.kg,l.l4,l.oQ,l.q.m4,l.q.m5,l.q.nz,l.q.nA,l.q.m6,l.qk⟩⟩
 ·simp only[nB,List.mem_append,List.mem_flatten];exact .inl (.inl (.inl ⟨r,bc,au⟩))
 ·simp only[nB,List.mem_append,List.mem_map];exact .inl (.inl (.inr ⟨a,bh,rfl⟩))
 ·simp only[nB,List.mem_append];exact .inl (.inr au)
 ·simp only[nB,oR,List.mem_append,List.mem_map];exact .inr (.inl (.inl (.inl (.inl ⟨a,bh,rfl⟩))))
 ·simp only[nB,oR,List.mem_append,List.mem_map];exact .inr (.inl (.inl (.inl (.inr ⟨a,bh,rfl⟩))))
 ·simp only[nB,oR,List.mem_append];exact .inr (.inl (.inl (.inr au)))
 ·simp only[nB,oR,List.mem_append];exact .inr (.inl (.inr au))
 ·simp only[nB,oR,List.mem_append,List.mem_map];exact .inr (.inr ⟨a,bh,rfl⟩)
theorem anB(t:Lu):∃D,h9 5000 D 1000 (jA t).1:=by
 have z:∃D,h9 5000 D 1000 ek:=N6 (uY (k:=0) (n:=[]) (ao:=[]) (u:=false) (cs:=[]) (z7:=[]) (by simp) (by simp))
 unfold jA
 split
 ·rename_i ws e hw
  simp only[qX]
  split
  ·exact z
  ·split
   ·exact z
   ·exact N6 (anA (M_ hw) (UJ hw) _)
 ·exact z
end Go.Proofs.YtjpjeilfmjdhcaaGreat.f_
namespace Go.Proofs.YtjpjeilfmjdhcaaGreat.hE
open Go E E.K ep eI fq fw fC f_ m3
theorem Dl{i n:Nat}(h:i<n)(bd:n≤1000000000):IntKind.i64.wrap ((i:Int)+1)=((i+1:Nat):Int):=by rw[wrap_i64 (by omega) (by omega)];simp
theorem uZ{i n:Nat}(h:i<n):decide ((i:Int)<(n:Int))=true:=decide_eq_true (by omega)
theorem xG(n:Nat):decide ((n:Int)<(n:Int))=false:=decide_eq_false (by omega)
theorem jD{α:Type}{T:hd α}{az:Nat}{h aa:Lo}{v:V}{xs:List α}{A:List Nat}(l:aC az T dH h v xs)(k:ai h aa A):aC az T dH aa v xs:=(cl az T).aJ l k (fun o _ z=>z)
def Dm(w D:Nat)(e:V):Prop:=∃bU aG ah,e= .agg (bH bU aG)∧(∀g,c6 dH g (.agg (bH bU aG)) (.mk bU ah))∧fY w D (.mk bU ah)
structure ld(w D:Nat)(aI h:Lo)(v:V)(n:Nat):Prop where
 es:∃es,dq 8 h v es∧es.length≤n∧∀e,e∈es→Dm w D e
 ap:j2 v
 ids:∀o,o∈dj v→aI.length≤o
theorem ld.mono{w D:Nat}{aI h:Lo}{v:V}{n m:Nat}(l:ld w D aI h v n)(q:n≤m):ld w D aI h v m:=by
 obtain⟨⟨es,s,ax,g⟩,a,i⟩:=l
 exact⟨⟨es,s,Nat.le_trans ax q,g⟩,a,i⟩
theorem I0{w D:Nat}{h:Lo}{v:V}{xs:List X}(l:aC 8 bL dH h v xs)(g:∀x,x∈xs→fY w D x):∃cc,dq 8 h v cc∧cc.length=xs.length∧∀e,e∈cc→Dm w D e:=by
 obtain⟨es,s,ax,-,he⟩:=l
 refine⟨es,s,ax,fun e au=> ?_⟩
 obtain⟨i,aw,rfl⟩:=List.mem_iff_getElem.1 au
 obtain⟨e,aV,bU,aG,ah,bb,cb,ex⟩:=he i (by omega)
 rw[List.getElem?_eq_getElem aw] at aV
 injection aV with aV
 refine⟨bU,aG,ah,by rw[aV,cb],(uU ex).2, ?_⟩
 rw[←bb]
 exact g _ (List.getElem_mem _)
theorem ld.app{w D:Nat}{aI h:Lo}{v y:V}{n m:Nat}{cc:Lv}(l:ld w D aI h v n)(s:dq 8 h y cc)(hm:cc.length≤m)(g:∀e,e∈cc→Dm w D e)(aF:n+m≤1000000000000)(k:ai aI h []):
  ∃eg aa,aB (.app 8 112 (.c v) (.c y)) h=some (eg,aa)∧ld w D aI aa eg (n+m)∧ai aI aa []∧ai h aa (dj v):=by
 obtain⟨⟨es,ht,ax,ge⟩,a,i⟩:=l
 obtain⟨eg,aa,e,eb,eK,gu,gj⟩:=BD (bytes:=112) ht a s.c (by
  have:(es.length+cc.length)*112≤1000000000000*112:=Nat.mul_le_mul (by omega) (Nat.le_refl _)
  exact Nat.le_trans this (by decide))
 refine⟨eg,aa,e,⟨⟨_,eb,by simp;omega,fun x au=> ?_⟩,eK,fun o U=>(gj o U).elim (i o) (fun q=>Nat.le_trans k.len q)⟩,k.trans gu (fun o U=>by cases U) (fun o U bN=>by have:=i o U;omega),gu⟩
 rcases List.mem_append.1 au with q|q
 ·exact ge x q
 ·exact g x q
theorem ld.one{w D:Nat}{aI h:Lo}{v:V}{n:Nat}{e:V}(l:ld w D aI h v n)(g:Dm w D e)(aF:n+1≤1000000000000)(k:ai aI h []){z:V}{K:V→Lo→a9}{Q:cg→Lv→Lo→Prop}(eY:∀eg aa,ld w D aI aa eg (n+1)→ai aI aa []→aL (K eg aa) Q):
  aL (ad (aB (.dN 8 z 1 [(0, .c e)]) h) fun q r=>ad (aB (.app 8 112 (.c v) (.c q)) r) K) Q:=by
 obtain⟨bU,aG,ah,rfl,ex,N7⟩:=g
 have jB:flat 8 (.agg (bH bU aG)):=c6.jB (ex [])
 have pl:kk 8 (.agg (bH bU aG))=true:=by simp only[kk,jB.1,jB.2];rfl
 obtain⟨y,R,aV,-,-,s6,dk,m0,ux⟩:=mg (h:=h) (az:=8) (z:=z) (len:=1) (ah:=[(0,(.agg (bH bU aG)))]) (es:=[(.agg (bH bU aG))]) (by omega) (by simp[pl]) rfl rfl
 have c5:ld w D aI R v n:=by
  obtain⟨⟨es,ht,ax,ge⟩,a,i⟩:=l
  exact⟨⟨es,ht.aq m0,ax,ge⟩,a,i⟩
 obtain⟨eg,aa,bb,ew,aA,-⟩:=c5.app s6 (m:=1) (by simp) (fun x au=>by rw[List.mem_singleton.1 au];exact⟨bU,aG,ah,rfl,ex,N7⟩) aF (k.bs m0)
 refine sS aV ?_
 refine sS bb ?_
 exact eY eg aa ew aA
theorem V_{b:Bool}{x y:OvL}{Q:V→Lo→Prop}(au:b=true→aj x Q)(bT:b=false→aj y Q):aj (al b x y) Q:=by cases b;exact bT rfl;exact au rfl
theorem Dn{aK:Type}(bU:fg)(aG:V)(K:Int→Lu→Int→Int→Lu→Lu→Lu→V→Option aK):aN gH (.agg (bH bU aG)) K=K bU.k bU.op bU.eh bU.ed bU.ak bU.dG bU.c7 aG:=by
 simp only[gH,aN,aZ,bn,bl,id_eq,bP,bq,a1,bC,a5]
variable {j w D B:Nat}
theorem anC(ez:B≤1000000000)(sj:B<j){aI:Lo}{gx:Nat}{eB:Lv}{a:V}{xs:List (List X)}(dR:bY aI gx eB)(bh:eB[0+6]? =some a)(l:aC 1 (cl 8 bL) dH aI a xs)(ax:xs.length≤B)(g:∀r,r∈xs→r.length≤B∧∀x,x∈r→fY w D x){N:Nat}(di:N≤4000000000):
  ∀(m i n:Nat) (h:Lo) (v:V),xs.length=i+m→m<n→ai aI h []→ld w D aI h v (N+30*i)→
   aL (z_ j n (.ptr gx 0 0) v xs.length i h) fun x ak aa=>ai aI aa []∧(x= .ret∧ak=[.bool false]∨x= .exit 0∧∃eg,ak=[eg]∧ld w D aI aa eg (N+30*xs.length)):=by
 intro m
 induction m with
 |zero=>
  intro i n h v hm bd k L
  obtain⟨n,rfl⟩:∃g,n=g+1:=⟨n-1,by omega⟩
  obtain rfl:i=xs.length:=by omega
  simp only[z_,HR,xG,a7]
  exact aL.some ⟨k, .inr ⟨rfl,v,rfl,L⟩⟩
 |succ m ba=>
  intro i n h v hm bd k L
  obtain⟨n,rfl⟩:∃g,n=g+1:=⟨n-1,by omega⟩
  have aw:i<xs.length:=by omega
  obtain⟨es,s,R,ae,he⟩:=jD l k
  obtain⟨e,aV,le⟩:=he i aw
  have le:aC 8 bL dH h e xs[i]:=le
  obtain⟨p,cF,cW⟩:=s.hX (k:=(i:Int)) (by omega) (by simpa using aV) (aC.a8 le).1
  obtain⟨aX,aY⟩:=g _ (List.getElem_mem aw)
  have hD:=dR.aq k
  obtain⟨cc,Wa,jB,Wb⟩:=I0 le aY
  obtain⟨eg,aa,bb,ew,aA,Nj⟩:=L.app (m:=B) Wa (by omega) Wb (by omega) k
  obtain⟨mB,eb,-,-,qq⟩:=jD l aA
  obtain⟨ct,o5,I1⟩:=qq i aw
  have I1:aC 8 bL dH aa ct xs[i]:=I1
  obtain⟨lR,kt,l6⟩:=eb.hX (k:=(i:Int)) (by omega) (by simpa using o5) (aC.a8 I1).1
  have q_:=dR.aq aA
  simp only[z_,HR,uZ aw,aU]
  refine gR (hD.af _ _ _) ?_
  refine gR (hD.ag bh) ?_
  refine gR cF ?_
  refine gR cW ?_
  refine sS bb ?_
  refine gR (q_.af _ _ _) ?_
  refine gR (q_.ag bh) ?_
  refine gR kt ?_
  refine gR l6 ?_
  refine gR I1.len ?_
  refine abd ?_
  by_cases an:xs[i].length≤30
  ·rw[show decide (((xs[i].length:Nat):Int)>30)=false from decide_eq_false (by omega),a7,Dl aw (by omega)]
   obtain⟨p0,aQ,cb,i_,aT,-⟩:=L.app (m:=30) Wa (by omega) Wb (by omega) k
   rw[bb] at cb
   injection cb with cb
   injection cb with dI fQ
   subst dI;subst fQ
   exact ba (i+1) n aa eg (by omega) (by omega) aA (i_.mono (by omega))
  ·rw[show decide (((xs[i].length:Nat):Int)>30)=true from decide_eq_true (by omega),aU]
   exact aL.some ⟨aA, .inl ⟨rfl,rfl⟩⟩
theorem anD(ez:B≤1000000000)(sj:B<j){aI:Lo}{gx:Nat}{eB:Lv}{a:V}{xs:List h7}(dR:bY aI gx eB)(bh:eB[0+7]? =some a)(l:aC 9 fs dH aI a xs)(ax:xs.length≤B)(g:∀x,x∈xs→fY w D x.e){N:Nat}(di:N≤100000000000):
  ∀(m i n:Nat) (h:Lo) (v:V),xs.length=i+m→m<n→ai aI h []→ld w D aI h v (N+i)→
   aL (Aa j n (.ptr gx 0 0) v xs.length i h) fun x ak aa=>ai aI aa []∧x= .exit 2∧∃eg,ak=[eg]∧ld w D aI aa eg (N+xs.length):=by
 intro m
 induction m with
 |zero=>
  intro i n h v hm bd k L
  obtain⟨n,rfl⟩:∃g,n=g+1:=⟨n-1,by omega⟩
  obtain rfl:i=xs.length:=by omega
  simp only[Aa,HT,xG,a7]
  exact aL.some ⟨k,rfl,v,rfl,L⟩
 |succ m ba=>
  intro i n h v hm bd k L
  obtain⟨n,rfl⟩:∃g,n=g+1:=⟨n-1,by omega⟩
  have aw:i<xs.length:=by omega
  obtain⟨es,s,-,-,he⟩:=jD l k
  obtain⟨e,aV,bU,aG,ah,au,rfl,cp⟩:=he i aw
  obtain⟨b,ec⟩:=tj s (k:=(i:Int)) (cs:=jj xs[i].c bU aG) (by omega) (by simpa using aV) rfl (by decide)
  have jC:=g _ (List.getElem_mem aw)
  rw[au] at jC
  have hD:=dR.aq k
  obtain⟨fi,jm⟩:=ec h (ai.refl _ _)
  have le:I (.bp 8 (.c (b 1))) h=some (.agg (bH bU aG)):=(jm 1).2.2 8 (show 1+8≤9 by decide)
  simp only[Aa,HT,uZ aw,aU]
  refine gR (hD.af _ _ _) ?_
  refine gR (hD.ag bh) ?_
  refine gR fi ?_
  refine gR (jm 1).1 ?_
  refine gR le ?_
  refine BK (Dn _ _ _) ?_
  refine L.one ⟨bU,aG,ah,rfl,(uU cp).2,jC⟩ (by omega) k fun eg aa ew aA=> ?_
  rw[Dl aw (by omega)]
  exact ba (i+1) n aa eg (by omega) (by omega) aA ew
theorem anE(ez:B≤1000000000)(sj:B<j){aI:Lo}{gx:Nat}{eB:Lv}{a:V}{xs:List ij}(dR:bY aI gx eB)(bh:eB[0+9+2]? =some a)(l:aC 9 eC dH aI a xs)(ax:xs.length≤B)(g:∀x,x∈xs→fY w D x.e){N:Nat}(di:N≤100000000000):
  ∀(m i n:Nat) (h:Lo) (v:V),xs.length=i+m→m<n→ai aI h []→ld w D aI h v (N+i)→
   aL (Ab j n (.ptr gx 0 0) v xs.length i h) fun x ak aa=>ai aI aa []∧x= .exit 4∧∃eg,ak=[eg]∧ld w D aI aa eg (N+xs.length):=by
 intro m
 induction m with
 |zero=>
  intro i n h v hm bd k L
  obtain⟨n,rfl⟩:∃g,n=g+1:=⟨n-1,by omega⟩
  obtain rfl:i=xs.length:=by omega
  simp only[Ab,HU,xG,a7]
  exact aL.some ⟨k,rfl,v,rfl,L⟩
 |succ m ba=>
  intro i n h v hm bd k L
  obtain⟨n,rfl⟩:∃g,n=g+1:=⟨n-1,by omega⟩
  have aw:i<xs.length:=by omega
  obtain⟨es,s,-,-,he⟩:=jD l k
  obtain⟨e,aV,bU,aG,ah,au,rfl,cp⟩:=he i aw
  obtain⟨b,ec⟩:=tj s (k:=(i:Int)) (cs:=fT bU aG (.str xs[i].n)) (by omega) (by simpa using aV) rfl (by decide)
  have jC:=g _ (List.getElem_mem aw)
  rw[au] at jC
  have hD:=dR.aq k
  obtain⟨fi,jm⟩:=ec h (ai.refl _ _)
  have le:I (.bp 8 (.c (b 0))) h=some (.agg (bH bU aG)):=(jm 0).2.2 8 (show 0+8≤9 by decide)
  simp only[Ab,HU,uZ aw,aU]
  refine gR (hD.af _ _ _) ?_
  refine gR (hD.af _ _ _) ?_
  refine gR (hD.ag bh) ?_
  refine gR fi ?_
  refine gR (jm 0).1 ?_
  refine gR le ?_
  refine BK (Dn _ _ _) ?_
  refine L.one ⟨bU,aG,ah,rfl,(uU cp).2,jC⟩ (by omega) k fun eg aa ew aA=> ?_
  rw[Dl aw (by omega)]
  exact ba (i+1) n aa eg (by omega) (by omega) aA ew
theorem anF(ez:B≤1000000000)(sj:B<j){aI:Lo}{gx:Nat}{eB:Lv}{a:V}{xs:List hB}(dR:bY aI gx eB)(bh:eB[0+9+3]? =some a)(l:aC 10 eM dH aI a xs)(ax:xs.length≤B)(g:∀x,x∈xs→fY w D x.on){N:Nat}(di:N≤100000000000):
  ∀(m i n:Nat) (h:Lo) (v:V),xs.length=i+m→m<n→ai aI h []→ld w D aI h v (N+i)→
   aL (Ac j n (.ptr gx 0 0) v xs.length i h) fun x ak aa=>ai aI aa []∧x= .exit 6∧∃eg,ak=[eg]∧ld w D aI aa eg (N+xs.length):=by
 intro m
 induction m with
 |zero=>
  intro i n h v hm bd k L
  obtain⟨n,rfl⟩:∃g,n=g+1:=⟨n-1,by omega⟩
  obtain rfl:i=xs.length:=by omega
  simp only[Ac,HV,xG,a7]
  exact aL.some ⟨k,rfl,v,rfl,L⟩
 |succ m ba=>
  intro i n h v hm bd k L
  obtain⟨n,rfl⟩:∃g,n=g+1:=⟨n-1,by omega⟩
  have aw:i<xs.length:=by omega
  obtain⟨es,s,-,-,he⟩:=jD l k
  obtain⟨e,aV,bU,aG,ah,au,rfl,cp⟩:=he i aw
  obtain⟨b,ec⟩:=tj s (k:=(i:Int)) (cs:=h8 xs[i].t xs[i].n bU aG) (by omega) (by simpa using aV) rfl (by decide)
  have jC:=g _ (List.getElem_mem aw)
  rw[au] at jC
  have hD:=dR.aq k
  obtain⟨fi,jm⟩:=ec h (ai.refl _ _)
  have le:I (.bp 8 (.c (b 2))) h=some (.agg (bH bU aG)):=(jm 2).2.2 8 (show 2+8≤10 by decide)
  simp only[Ac,HV,uZ aw,aU]
  refine gR (hD.af _ _ _) ?_
  refine gR (hD.af _ _ _) ?_
  refine gR (hD.ag bh) ?_
  refine gR fi ?_
  refine gR (jm 2).1 ?_
  refine gR le ?_
  refine BK (Dn _ _ _) ?_
  refine L.one ⟨bU,aG,ah,rfl,(uU cp).2,jC⟩ (by omega) k fun eg aa ew aA=> ?_
  rw[Dl aw (by omega)]
  exact ba (i+1) n aa eg (by omega) (by omega) aA ew
theorem anG(ez:B≤1000000000)(sj:B<j){aI:Lo}{gx:Nat}{eB:Lv}{a:V}{xs:List iH}(dR:bY aI gx eB)(bh:eB[0+9+6]? =some a)(l:aC 9 eS dH aI a xs)(ax:xs.length≤B)(g:∀x,x∈xs→fY w D x.e){N:Nat}(di:N≤100000000000):
  ∀(m i n:Nat) (h:Lo) (v:V),xs.length=i+m→m<n→ai aI h []→ld w D aI h v (N+i)→
   aL (Ad j n (.ptr gx 0 0) v xs.length i h) fun x ak aa=>ai aI aa []∧x= .exit 8∧∃eg,ak=[eg]∧ld w D aI aa eg (N+xs.length):=by
 intro m
 induction m with
 |zero=>
  intro i n h v hm bd k L
  obtain⟨n,rfl⟩:∃g,n=g+1:=⟨n-1,by omega⟩
  obtain rfl:i=xs.length:=by omega
  simp only[Ad,HW,xG,a7]
  exact aL.some ⟨k,rfl,v,rfl,L⟩
 |succ m ba=>
  intro i n h v hm bd k L
  obtain⟨n,rfl⟩:∃g,n=g+1:=⟨n-1,by omega⟩
  have aw:i<xs.length:=by omega
  obtain⟨es,s,-,-,he⟩:=jD l k
  obtain⟨e,aV,bU,aG,ah,au,rfl,cp⟩:=he i aw
  obtain⟨b,ec⟩:=tj s (k:=(i:Int)) (cs:=fT bU aG (.bool xs[i].d)) (by omega) (by simpa using aV) rfl (by decide)
  have jC:=g _ (List.getElem_mem aw)
  rw[au] at jC
  have hD:=dR.aq k
  obtain⟨fi,jm⟩:=ec h (ai.refl _ _)
  have le:I (.bp 8 (.c (b 0))) h=some (.agg (bH bU aG)):=(jm 0).2.2 8 (show 0+8≤9 by decide)
  simp only[Ad,HW,uZ aw,aU]
  refine gR (hD.af _ _ _) ?_
  refine gR (hD.af _ _ _) ?_
  refine gR (hD.ag bh) ?_
  refine gR fi ?_
  refine gR (jm 0).1 ?_
  refine gR le ?_
  refine BK (Dn _ _ _) ?_
  refine L.one ⟨bU,aG,ah,rfl,(uU cp).2,jC⟩ (by omega) k fun eg aa ew aA=> ?_
  rw[Dl aw (by omega)]
  exact ba (i+1) n aa eg (by omega) (by omega) aA ew
theorem anH(hw:w<j)(bV:w≤4611686018427387904)(b_:D≤j){aI:Lo}{v:V}{es:Lv}(s:dq 8 aI v es)(ax:es.length≤1000000000000)(g:∀e,e∈es→Dm w D e):
  ∀(m i n:Nat) (h:Lo),200=i+m∨200≤i→m<n→i≤es.length→ai aI h []→
   aL (Ae j n v es.length i h) fun x ak aa=>ai aI aa []∧(x= .ret∧ak=[.bool false]∨x= .exit 10∧ak=[]):=by
 intro m
 induction m with
 |zero=>
  intro i n h hm bd aw k
  obtain⟨n,rfl⟩:∃g,n=g+1:=⟨n-1,by omega⟩
  simp only[Ae,HX]
  by_cases an:i<es.length
  ·rw[uZ an,aU,show decide ((i:Int)≥200)=true from decide_eq_true (by omega),aU]
   exact aL.some ⟨k, .inl ⟨rfl,rfl⟩⟩
  ·obtain rfl:i=es.length:=by omega
   rw[xG,a7]
   exact aL.some ⟨k, .inr ⟨rfl,rfl⟩⟩
 |succ m ba=>
  intro i n h hm bd aw k
  obtain⟨n,rfl⟩:∃g,n=g+1:=⟨n-1,by omega⟩
  simp only[Ae,HX]
  by_cases an:i<es.length
  ·by_cases ae:200≤i
   ·rw[uZ an,aU,show decide ((i:Int)≥200)=true from decide_eq_true (by omega),aU]
    exact aL.some ⟨k, .inl ⟨rfl,rfl⟩⟩
   ·rw[uZ an,aU,show decide ((i:Int)≥200)=false from decide_eq_false (by omega),a7]
    obtain⟨bU,aG,ah,he,ex,N7⟩:=g _ (List.getElem_mem an)
    obtain⟨p,cF,cW⟩:=(s.aq k).kn (k:=(i:Int)) (cs:=bH bU aG) (by omega) (by rw[Int.toNat_natCast,List.getElem?_eq_getElem an,he]) rfl (by decide)
    refine gR cF ?_
    refine gR cW ?_
    refine BK (Dn _ _ _) ?_
    refine aL.ad (akl hw bV b_ (jS N7) (ex h)) ?_
    rintro u R ⟨⟨b,rfl⟩,ar⟩
    refine yj ?_
    cases b with
    |false=>exact aL.some ⟨k.bs ar, .inl ⟨rfl,rfl⟩⟩
    |true=>
     rw[Bool.not_true,a7,wrap_i64 (by omega) (by omega),show((i:Int)+1)=((i+1:Nat):Int) by simp]
     exact ba (i+1) n R (by omega) (by omega) (by omega) (k.bs ar)
  ·obtain rfl:i=es.length:=by omega
   rw[xG,a7]
   exact aL.some ⟨k, .inr ⟨rfl,rfl⟩⟩
theorem anI{N:Nat}(aS:1000<j)(ez:B≤1000000000)(sj:B<j)(hw:w<j)(bV:w≤4611686018427387904)(b_:D≤j)(di:N≤B){h:Lo}{m:ea}(G:h9 w D N m){bF bD b8 cu cK a b c d e:V}
  (de:aC 4 fI dH h bF m.hk) (cD:aC 1 fM dH h bD m.keys) (dd:aC 1 (cl 8 bL) dH h b8 m.rows) (dh:aC 9 fs dH h cu m.ft) (dZ:aC 8 bL dH h cK m.c1)
  (t1:aC 9 eC dH h a m.q.items) (t2:aC 10 eM dH h b m.q.eH) (t3:aC 8 bL dH h c m.q.c1) (t4:aC 8 bL dH h d m.q.fh) (t5:aC 9 eS dH h e m.q.eV):
  aj (xh j (.agg (fb m.k m.name m.on m.un bF bD b8 cu cK m.q.ch m.q.star a b c d e m.q.b7)) h) fun v aa=>(∃b,v= .bool b)∧ai h aa []:=by
 obtain⟨cF,R,aV,rfl,sp,ar⟩:=fO (h:=h) (cs:=fb m.k m.name m.on m.un bF bD b8 cu cK m.q.ch m.q.star a b c d e m.q.b7) (jk (aC.a8 de).2 (aC.a8 cD).2 (aC.a8 dd).2 (aC.a8 dh).2 (aC.a8 dZ).2 (aC.a8 t1).2 (aC.a8 t2).2 (aC.a8 t3).2 (aC.a8 t4).2 (aC.a8 t5).2)
 have cp:=G.cY
 have du:=G.gk
 have fB:=G.kg
 have jO:=G.l4
 have nn:=G.oQ
 have j4:=G.m4
 have fX:=G.m5
 have fR:=G.nz
 have mI:=G.nA
 have p1:=G.m6
 have r7:=jD dd ar
 have te:=jD dh ar
 have hV:=jD t1 ar
 have hN:=jD t2 ar
 have uS:=jD t5 ar
 have anJ:=ai.refl R []
 obtain⟨gd,anK,gP,anL⟩:=I0 (jD dZ ar) G.c1
 have mF:ld w D R R .ab 0:=⟨⟨[],dq.ab _ _,Nat.le_refl _,fun e he=>by cases he⟩,j2.ab,fun o U=>by cases U⟩
 obtain⟨v2,ae,bb,gN,aA,-⟩:=mF.app (m:=B) anK (by omega) anL (by omega) anJ
 obtain⟨dz,anM,kj,anN⟩:=I0 (jD t3 (ar.bs aA)) G.oP
 obtain⟨p0,aQ,cb,gh,aT,-⟩:=gN.app (m:=B) anM (by omega) anN (by omega) aA
 obtain⟨ar1,anO,lc,gc⟩:=I0 (jD t4 (ar.bs aT)) G.fh
 obtain⟨v4,bo,dI,k_,bu,-⟩:=gh.app (m:=B) anO (by omega) gc (by omega) aT
 have s2:=sp.aq aA
 have eu:=sp.aq aT
 have hx:=sp.aq bu
 simp only[xh]
 refine h6 aV ?_
 refine e_ (sp.af _ _ _) ?_
 refine e_ (sp.ag rfl) ?_
 refine h6 bb ?_
 refine e_ (s2.af _ _ _) ?_
 refine e_ (s2.af _ _ _) ?_
 refine e_ (s2.ag rfl) ?_
 refine h6 cb ?_
 refine e_ (eu.af _ _ _) ?_
 refine e_ (eu.af _ _ _) ?_
 refine e_ (eu.ag rfl) ?_
 refine h6 dI ?_
 refine e_ (hx.af _ _ _) ?_
 refine e_ (hx.ag rfl) ?_
 refine e_ (jD r7 bu).len ?_
 refine oy ?_
 refine aj.bO (anC ez sj sp rfl r7 (by omega) (fun r bc=>⟨Nat.le_trans (G.qk r bc) di,G.rows r bc⟩) (N:=0+B+B+B) (by omega) m.rows.length 0 j bo v4 (by omega) (by omega) bu k_) ?_
 rintro x ak bI ⟨bX,⟨rfl,rfl⟩|⟨rfl,wC,rfl,uL⟩⟩
 ·have nj:decide (cg.ret=cg.exit 0)=false:=rfl
  simp only[nj,a7,decide_true,aU,aZ,bn,bl,id_eq,bq,a0,a5]
  exact aj.some ⟨⟨_,rfl⟩,ar.bs bX⟩
 have kO:=sp.aq bX
 simp only[decide_true,aU,aZ,bn,bl,id_eq,bq,a5]
 refine e_ (kO.af _ _ _) ?_
 refine e_ (kO.ag rfl) ?_
 refine e_ (jD te bX).len ?_
 refine oy ?_
 refine aj.bO (anD ez sj sp rfl te (by omega) G.ft (N:=0+B+B+B+30*m.rows.length) (by omega) m.ft.length 0 j bI wC (by omega) (by omega) bX uL) ?_
 rintro x ak cR ⟨cP,rfl,v6,rfl,qe⟩
 have qi:=sp.aq cP
 simp only[decide_true,aU,aZ,bn,bl,id_eq,bq,a5]
 refine e_ (qi.af _ _ _) ?_
 refine e_ (qi.af _ _ _) ?_
 refine e_ (qi.ag rfl) ?_
 refine e_ (jD hV cP).len ?_
 refine oy ?_
 refine aj.bO (anE ez sj sp rfl hV (by omega) G.items (N:=0+B+B+B+30*m.rows.length+m.ft.length) (by omega) m.q.items.length 0 j cR v6 (by omega) (by omega) cP qe) ?_
 rintro x ak eF ⟨dv,rfl,anP,rfl,qd⟩
 have n8:=sp.aq dv
 simp only[decide_true,aU,aZ,bn,bl,id_eq,bq,a5]
 refine e_ (n8.af _ _ _) ?_
 refine e_ (n8.af _ _ _) ?_
 refine e_ (n8.ag rfl) ?_
 refine e_ (jD hN dv).len ?_
 refine oy ?_
 refine aj.bO (anF ez sj sp rfl hN (by omega) G.eH (N:=0+B+B+B+30*m.rows.length+m.ft.length+m.q.items.length) (by omega) m.q.eH.length 0 j eF anP (by omega) (by omega) dv qd) ?_
 rintro x ak eR ⟨eJ,rfl,anQ,rfl,r5⟩
 have sk:=sp.aq eJ
 simp only[decide_true,aU,aZ,bn,bl,id_eq,bq,a5]
 refine e_ (sk.af _ _ _) ?_
 refine e_ (sk.af _ _ _) ?_
 refine e_ (sk.ag rfl) ?_
 refine e_ (jD uS eJ).len ?_
 refine oy ?_
 refine aj.bO (anG ez sj sp rfl uS (by omega) G.eV (N:=0+B+B+B+30*m.rows.length+m.ft.length+m.q.items.length+m.q.eH.length) (by omega) m.q.eV.length 0 j eR anQ (by omega) (by omega) eJ r5) ?_
 rintro x ak fZ ⟨hv,rfl,ar2,rfl,GQ⟩
 obtain⟨⟨es,Wc,ar3,N8⟩,-,-⟩:=GQ
 simp only[decide_true,aU,aZ,bn,bl,id_eq,bq,a5]
 refine e_ (jv Wc) ?_
 refine oy ?_
 refine aj.bO (anH hw bV b_ Wc (by omega) N8 200 0 j fZ (by omega) (by omega) (by omega) (ai.refl _ _)) ?_
 rintro x ak hR ⟨Wd,⟨rfl,rfl⟩|⟨rfl,rfl⟩⟩
 ·have nj:decide (cg.ret=cg.exit 10)=false:=rfl
  simp only[nj,a7,decide_true,aU,aZ,bn,bl,id_eq,bq,a0,a5]
  exact aj.some ⟨⟨_,rfl⟩,ar.bs (hv.bs Wd)⟩
 have iO:=hv.bs Wd
 have Aw:=sp.aq iO
 simp only[decide_true,aU,a5]
 refine e_ (Aw.af _ _ _) ?_
 refine e_ (Aw.ag rfl) ?_
 refine e_ (jD r7 iO).len ?_
 refine oy ?_
 refine V_ (fun _=> ?_) (fun _=>aj.some ⟨⟨_,rfl⟩,ar.bs iO⟩)
 refine e_ (Aw.af _ _ _) ?_
 refine e_ (Aw.ag rfl) ?_
 refine e_ (jD (jD de ar) iO).len ?_
 refine oy ?_
 refine V_ (fun _=> ?_) (fun _=>aj.some ⟨⟨_,rfl⟩,ar.bs iO⟩)
 refine e_ (Aw.af _ _ _) ?_
 refine e_ (Aw.ag rfl) ?_
 refine e_ (jD (jD cD ar) iO).len ?_
 refine oy ?_
 exact aj.some ⟨⟨_,rfl⟩,ar.bs iO⟩
end Go.Proofs.YtjpjeilfmjdhcaaGreat.hE
namespace Go.Proofs.YtjpjeilfmjdhcaaGreat.h3
open Go E ep eI fq fw fC f_ hE
theorem oS{h:Lo}{n:Nat}{fU aM:Lv}{K:V→Lo→a9}{Q:cg→Lv→Lo→Prop}(b0:fU.all V.scalar=true)(vo:fU.length=n)(bj:aM.length=n)(aI:0<n)(a6:aM.all V.scalar=true)(eY:∀ae,bY ae h.length aM→ai h ae []→aL (K (.ptr h.length 0 0) ae) Q):
  aL (ad (aB (.alloc false (.agg fU)) h) fun x mT=>ad (aB (.store n (.c x) (.c (.agg aM))) mT) fun _ oJ=>K x oJ) Q:=by
 refine aL.ad (hs b0) ?_
 rintro x R ⟨rfl,st,ar⟩
 refine aL.ad (st.ic (aM:=aM) (by omega) (by omega) a6 (n:=n) vo) ?_
 rintro u ae ⟨ds,aA⟩
 exact eY ae ds (ar.trans aA (fun o U=>by cases U) (fun o U bN=>by simp at U;omega))
variable {α:Type}
def g1{α:Type}(f:α→α→Bool)(xs a_:List α)(i:Nat):Bool:=((xs.drop i).zip (a_.drop i)).all fun p=>f p.1 p.2
def gV{α:Type}(f:α→α→Bool)(xs a_:List α):Bool:=decide (xs.length=a_.length)&&g1 f xs a_ 0
theorem u0{f:α→α→Bool}{xs a_:List α}{i:Nat}(R:i<xs.length)(ae:i<a_.length):g1 f xs a_ i=(f xs[i] a_[i]&&g1 f xs a_ (i+1)):=by
 unfold g1
 rw[List.drop_eq_getElem_cons R,List.drop_eq_getElem_cons ae]
 rfl
theorem u1{f:α→α→Bool}{xs a_:List α}{i:Nat}(R:xs.length≤i):g1 f xs a_ i=true:=by
 unfold g1
 rw[List.drop_of_length_le R]
 rfl
theorem ra{f:α→α→Bool}{xs:List α}(aS:∀x,x∈xs→f x x=true):gV f xs xs=true:=by
 unfold gV g1
 simp only[List.drop_zero,decide_true,Bool.true_and,List.all_eq_true]
 rintro p hp
 obtain⟨i,aw,rfl⟩:=List.mem_iff_getElem.1 hp
 simp only[List.getElem_zip]
 exact aS _ (List.getElem_mem _)
theorem anR{f:α→α→Bool}{xs:List α}:gV f xs []=decide (xs.length=0):=by
 unfold gV g1
 simp
end Go.Proofs.YtjpjeilfmjdhcaaGreat.h3
