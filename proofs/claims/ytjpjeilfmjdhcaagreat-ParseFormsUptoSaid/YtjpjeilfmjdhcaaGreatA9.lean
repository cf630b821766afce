/- The lexer: signs; a word more; texts in quotes; a word. No condition. -/
import Derived.Test.YtjpjeilfmjdhcaaGreatA8
import Derived.KernelRfl
import Derived.Test.YtjpjeilfmjdhcaaGreatA3
import Derived.SizedLaws
set_option maxRecDepth 100000
set_option linter.unusedVariables false
set_option linter.unusedSimpArgs false
set_option linter.unnecessarySimpa false
namespace Go.Proofs.YtjpjeilfmjdhcaaGreat.ep
open Go E
def lY(s:Lu):Nat:=if iv s [60,62]||iv s [60,61]||iv s [62,61] then 2 else if 0≤Lib.indexByte [40,41,44,46,59,42,43,45,61,60,62] (s.headD 0) then 1 else 0
theorem Mg{s:Lu}(h:s≠ []):lY s≤s.length∧lY s≤2:=by
 have ax:0<s.length:=List.length_pos_iff.2 h
 unfold lY
 split
 ·rename_i q
  have:2≤s.length:=by
   by_cases z:2≤s.length
   ·exact z
   ·have e:∀a b,iv s [a,b]=false:=fun a b=>by
     unfold iv;rw[decide_eq_false (by simpa using z),Bool.false_and]
    simp[e] at q
  exact⟨this,Nat.le_refl _⟩
 ·split
  ·exact⟨ax,by decide⟩
  ·exact⟨Nat.zero_le _,by decide⟩
theorem afH{j:Nat}{h:Lo}{id:Nat}{s t:Lu}(q:ni h id (.str s)):EW j t (.ptr id 0 0) h=some (.bool (iv s t),h):=by
 simp only[EW,q.ag rfl,aO,bC,Gv,fp,a0]
theorem afI{h:Lo}{l:Lu}{b:UInt8}:I (.sw (.c (.str l)) (.c (.int .u8 b.toNat))) h=some (.int .i64 (Lib.indexByte l b)):=by
 have e:((b.toNat:Int).toNat).toUInt8=b:=by
  rw[Int.toNat_natCast];exact UInt8.ofNat_toNat
 simp only[I,aB,e8,Qy,fW,nL,e]
 rfl
theorem afJ{j:Nat}{h:Lo}{s:Lu}(en:s≠ [])(aS:4<j):aj (EX j s h) fun v aa=>v= .int .i64 ((lY s:Nat):Int)∧ai h aa []:=by
 simp only[EX]
 refine aj.ad (EF (v:= .str s) rfl) ?_
 rintro p R ⟨rfl,bF,ar⟩
 refine aj.ad (mg (ah:=[(0, .str [60,62]),(1, .str [60,61]),(2, .str [62,61])]) (es:=[.str [60,62], .str [60,61], .str [62,61]]) (by decide) rfl rfl rfl) ?_
 rintro x ae ⟨rfl,-,dX,-,aA,-⟩
 have bD:=bF.aq aA
 obtain⟨df,Cq,cS⟩:=dX.hX (k:=0) (e:= .str [60,62]) (by omega) rfl rfl
 obtain⟨b5,cF,aE⟩:=dX.hX (k:=1) (e:= .str [60,61]) (by omega) rfl rfl
 obtain⟨cI,cW,aR⟩:=dX.hX (k:=2) (e:= .str [62,61]) (by omega) rfl rfl
 have b3:∀t,pe j (.fn 116 [.ptr h.length 0 0]) [.str t] ae=EW j t (.ptr h.length 0 0) ae:=fun t=>rfl
 have db:=ar.bs aA
 have hlen:(([.str [60,62], .str [60,61], .str [62,61]]:Lv).length:Int)=3:=rfl
 obtain⟨g,dt⟩:∃g,j=g+4:=⟨j-4,by omega⟩
 have d0:decide ((0:Int)<3)=true:=rfl
 have d1:decide ((1:Int)<3)=true:=rfl
 have d2:decide ((2:Int)<3)=true:=rfl
 have d3:decide ((3:Int)<3)=false:=rfl
 have y4:IntKind.i64.wrap (0+1)=1:=by decide
 have e7:IntKind.i64.wrap (1+1)=2:=by decide
 have ib:IntKind.i64.wrap (2+1)=3:=by decide
 have eT:∃k:Int,ym j (pe j) (.er R.length 0 3) (.fn 116 [.ptr h.length 0 0]) ae=some (.int .i64 k,ae)∧decide (k≥0)=(iv s [60,62]||iv s [60,61]||iv s [62,61]):=by
  have y5:rH j (pe j) j=sU j (pe j) (sU j (pe j) (sU j (pe j) (sU j (pe j) (rH j (pe j) g)))):=by
   rw[show rH j (pe j) j=rH j (pe j) (g+4) by rw[←dt]];rfl
  simp only[ym,jv dX,hlen,aO,a1,y5]
  unfold sU
  simp only[d0,d1,d2,d3,aU,a7,Cq,cF,cW,cS,aE,aR,aO,bC,b3,afH bD,fp,a0,y4,e7,ib]
  cases e6:iv s [60,62]<;>cases aV:iv s [60,61]<;>cases bb:iv s [62,61]<;>refine⟨_,rfl, ?_⟩<;>decide
 obtain⟨k,afK,B7⟩:=eT
 simp only[afK,fp,a1,B7]
 unfold lY
 cases e:(iv s [60,62]||iv s [60,61]||iv s [62,61]) with
 |true=>
  simp only[aU,if_true]
  exact aj.some ⟨rfl,db⟩
 |false=>
  cases s with
  |nil=>exact absurd rfl en
  |cons b t=>
   have bb:I (.mC (.c (.str (b::t))) (.c (.int .i64 (0:Int)))) ae=some (.int .u8 b.toNat):=EI (k:=0) rfl
   simp only[a7,bD.ag rfl,aO,bC,bb,a1,Ls,Lr,afI,fp,Bool.false_eq_true,if_false]
   by_cases q:0≤Lib.indexByte [40,41,44,46,59,42,43,45,61,60,62] ((b::t).headD 0)
   ·have jc:0≤Lib.indexByte [40,41,44,46,59,42,43,45,61,60,62] b:=q
    rw[decide_eq_true (by omega),aU,if_pos q]
    exact aj.some ⟨rfl,db⟩
   ·have jc:¬0≤Lib.indexByte [40,41,44,46,59,42,43,45,61,60,62] b:=q
    rw[decide_eq_false (by omega),a7,if_neg q]
    exact aj.some ⟨rfl,db⟩
structure br where
 k:Int
 s:Lu
 n:Int
deriving DecidableEq
abbrev jx(w:br):Lv:=[.int .i64 w.k, .str w.s, .int .i64 w.n]
def pk(ws:List br):Lv:=ws.map fun w=> .agg (jx w)
theorem Gw(ws:List br):(pk ws).length=ws.length:=by simp[pk]
def k1(ok:Bool)(w:br)(ws:List br)(e:Int):List br × Int:=if ok=false then(ws,3) else if ws.length=600 then(ws,5) else(ws++ [w],e)
structure j8(h:Lo)(id:Nat)(s:Lu)(aW:V)(ws:List br)(e:Int):Prop where
 st:bY h id [.str s,aW, .int .i64 e]
 cx:dq 3 h aW (pk ws)
 ap:j2 aW
 ne:id∉dj aW
theorem j8.aq{h aa:Lo}{id:Nat}{s:Lu}{aW:V}{ws:List br}{e:Int}(q:j8 h id s aW ws e)(k:ai h aa []):j8 aa id s aW ws e:=⟨q.st.aq k,q.cx.aq k,q.ap,q.ne⟩
theorem j8.aJ{h aa:Lo}{id:Nat}{s:Lu}{aW:V}{ws:List br}{e:Int}{A:List Nat}(q:j8 h id s aW ws e)(k:ai h aa A)(R:id∉A)(ae:∀o,o∈dj aW→o∉A):j8 aa id s aW ws e:=⟨q.st.aJ k R,q.cx.aJ k ae,q.ap,q.ne⟩
theorem j2.a8{v:V}(a:j2 v):v.cells=[v]∧v.scalar=true:=by
 rcases a with rfl|rfl|⟨a,b,c,rfl⟩<;>exact⟨rfl,rfl⟩
theorem j8.err{h:Lo}{id:Nat}{s:Lu}{aW:V}{ws:List br}{e:Int}(q:j8 h id s aW ws e)(x:Int):aj (aB (.store 1 (.c (.ptr id 0 2)) (.c (.int .i64 x))) h) fun _ aa=>j8 aa id s aW ws x∧ai h aa [id]:=by
 refine(q.st.iK (o:=2) (x:= .int .i64 x) (by simp) ⟨rfl,rfl⟩).mono ?_
 rintro u R ⟨st,k⟩
 exact⟨⟨st,q.cx.aJ k (fun o U z=>q.ne (by simp at z;exact z▸U)),q.ap,q.ne⟩,k⟩
abbrev uw(h:Lo)(id:Nat)(s:Lu)(aW:V)(r:List br × Int)(aa:Lo):Prop:=∃kr,j8 aa id s kr r.1 r.2∧ai h aa (id::dj aW)∧∀o,o∈dj kr→o∈dj aW∨h.length≤o
theorem Gx{j:Nat}{h:Lo}{id:Nat}{s:Lu}{aW:V}{ws:List br}{e:Int}{ok:Bool}(w:br)(q:j8 h id s aW ws e)(ax:ws.length≤600):
  aj (uf j (.ptr id 0 0) w.k w.s w.n ok h) fun v aa=>v= .bW []∧uw h id s aW (k1 ok w ws e) aa:=by
 simp only[uf]
 refine aj.ad (fO (cs:=jx w) rfl) ?_
 rintro p R ⟨rfl,dL,ar⟩
 have aE:=q.aq ar
 have ov:=aE.st.bz 0 0
 have f1:=aE.st.af 1 0 0
 have f2:=aE.st.af 2 0 0
 have c5:I (.ag (.c (.ptr id 0 1))) R=some aW:=aE.st.ag rfl
 simp only[Nat.zero_add] at f1 f2
 cases ok with
 |false=>
  simp only[Bool.not_false,aU,ov,f2,aO]
  refine aj.ad (aE.err 3) ?_
  rintro u ae ⟨aR,aA⟩
  have dW:ai h ae (id::dj aW):=ar.trans aA (fun o U=>by cases U) (fun o U _=>by simp at U;simp[U])
  exact aj.some ⟨rfl,aW,by simpa [k1] using aR,dW,fun o U=> .inl U⟩
 |true=>
  simp only[Bool.not_true,a7,ov,f1,c5,aO,jv aE.cx,Gw,a1]
  by_cases z:ws.length=600
  ·have aV:((ws.length:Int)==600)=true:=by simp[z]
   simp only[aV,aU,f2,aO]
   refine aj.ad (aE.err 5) ?_
   rintro u ae ⟨aR,aA⟩
   have dW:ai h ae (id::dj aW):=ar.trans aA (fun o U=>by cases U) (fun o U _=>by simp at U;simp[U])
   exact aj.some ⟨rfl,aW,by simpa [k1,z] using aR,dW,fun o U=> .inl U⟩
  ·have aV:((ws.length:Int)==600)=false:=by
    have:(ws.length:Int)≠600:=by omega
    simpa using this
   have ig:I (.bp 3 (.c (.ptr h.length 0 0))) R=some (.agg (jx w)):=dL.e4 rfl
   simp only[aV,a7,ig,aO,bP,aN,aZ,bn,bl,id_eq,bq,a1,bC,a5]
   refine aj.ad (mg (ah:=[(0, .agg (jx w))]) (es:=pk [w]) (by decide) rfl rfl rfl) ?_
   rintro x ae ⟨-,-,dX,dD,aA,SS⟩
   have aR:=aE.aq aA
   have afL:=aR.st.bz 0 0
   have f12:=aR.st.af 1 0 0
   have Mh:I (.ag (.c (.ptr id 0 1))) ae=some aW:=aR.st.ag rfl
   simp only[Nat.zero_add] at f12
   rw[o9 _ Mh,o9 _ f12,o9 _ afL]
   have bc:oc=140737488355328:=rfl
   refine aj.ad (BD (bytes:=32) aR.cx aR.ap dX.c (by rw[Gw,Gw,bc];simp;omega)) ?_
   rintro y aQ ⟨s6,dk,aT,ux⟩
   have ha:=aR.st.aJ aT aR.ne
   have afM:=ha.bz 0 0
   have f13:=ha.af 1 0 0
   simp only[Nat.zero_add] at f13
   simp only[afM,f13,aO]
   refine aj.ad (ha.iK (o:=1) (x:=y) (by simp) (j2.a8 dk)) ?_
   rintro u bo ⟨p2,bu⟩
   have bN:=q.st.lt
   have arq:=ar.len
   have ars:=aA.len
   have SU:id∉dj y:=fun bT=>(ux id bT).elim q.ne (fun z=>by omega)
   have SV:=s6.aJ bu (fun o U z=>SU (by simp at z;exact z▸U))
   have afN:pk ws++pk [w]=pk (ws++ [w]):=by simp[pk]
   rw[afN] at SV
   have gy:ai h aQ (dj aW):=(ar.bs aA).trans aT (fun o U=>by cases U) (fun o U _=>U)
   have lZ:ai h bo (id::dj aW):=gy.trans bu (fun o U _=>List.mem_cons_of_mem _ U) (fun o U _=>by simp at U;simp[U])
   refine aj.some ⟨rfl,y, ?_,lZ,fun o U=>(ux o U).elim .inl (fun z=> .inr (by omega))⟩
   have lW:k1 true w ws e=(ws++ [w],e):=by simp[k1,z]
   rw[lW]
   exact⟨p2,SV,dk,SU⟩
def nX(b:Lu):List Int:=b.map fun c=>((c.toNat:Nat):Int)
theorem Mi(b:Lu):(nX b).length=b.length:=by simp[nX]
theorem SW:∀b:Lu,v3 (nX b)=b
 | []=>rfl
 |c::b=>by
  have:=SW b
  simp only[v3,nX,List.map_cons,List.map_map] at this⊢
  rw[this,Int.toNat_natCast,UInt8.ofNat_toNat]
def k2:Nat→Lu→Lu→Option (Lu × Nat)
 |0,_,_=>none
 |_+1,_,[]=>none
 |m+1,b,c::t=>if c=39 then(match t with
   |d::u=>if d=39 then(k2 m (b++ [c]) u).map fun p=>(p.1,p.2+2) else some (b,1)
   | []=>some (b,1)) else(k2 m (b++ [c]) t).map fun p=>(p.1,p.2+1)
theorem Gy(m:Nat)(b:Lu)(c:UInt8)(t:Lu):k2 (m+1) b (c::t)=if c=39 then(match t with
   |d::u=>if d=39 then(k2 m (b++ [c]) u).map fun p=>(p.1,p.2+2) else some (b,1)
   | []=>some (b,1)) else(k2 m (b++ [c]) t).map fun p=>(p.1,p.2+1):=by
 cases t<;>rfl
theorem SX{aI h:Lo}{b:Lu}{p4:V}{K:V→Lo→a9}{Q:cg→Lv→Lo→Prop}(n:rC aI (bv (nX b)) p4 h)(c:UInt8)(ax:b.length≤100000)(eY:∀v aa,rC aI (bv (nX (b++ [c]))) v aa→ai h aa (dj p4)→aL (K v aa) Q):
  aL (ad (aB (.dN 1 (.int .u8 0) 1 [(0,(.c (.int .u8 ((c.toNat:Nat):Int))))]) h) fun Cr Mj=>ad (aB (.app 1 1 (.c p4) (.c Cr)) Mj) K) Q:=by
 refine aL.ad (mg (ah:=[(0, .int .u8 ((c.toNat:Nat):Int))]) (es:=bv (nX [c])) (by decide) rfl rfl rfl) ?_
 rintro x R ⟨-,-,dX,-,ar,-⟩
 have bc:oc=140737488355328:=rfl
 have cY:=n.aJ ar
 refine aL.ad (BD (bytes:=1) cY.1 cY.2.1 dX.c (by rw[K6,K6,Mi,Mi,bc];simp;omega)) ?_
 rintro v ae ⟨s2,cI,aA,f2⟩
 have gk:rC aI (bv (nX b)++bv (nX [c])) v ae:=cY.aaV ⟨s2,cI,aA,f2⟩
 have e:bv (nX b)++bv (nX [c])=bv (nX (b++ [c])):=by simp[bv,nX]
 rw[e] at gk
 exact eY v ae gk (ar.trans aA (fun o U=>by cases U) (fun o U _=>U))
theorem SY{s:Lu}{i:Nat}{c:UInt8}{t:Lu}(h:s.drop i=c::t):s.drop (i+1)=t∧s[i]? =some c∧i<s.length:=by
 have ax:i<s.length:=by
  have:=congrArg List.length h
  simp at this;omega
 rw[List.drop_eq_getElem_cons ax] at h
 injection h with R ae
 exact⟨ae,by rw[List.getElem?_eq_getElem ax,R],ax⟩
theorem afO(c:UInt8)(t:Lu):iv (c::t) [39,39]=match t with
  |d::_=>(c==39)&&(d==39)
  | []=>false:=by
 cases t with
 |nil=>rfl
 |cons d u=>
  unfold iv
  rw[decide_eq_true (by simp),Bool.true_and]
  simp only[List.length_cons,List.length_nil,List.take_succ_cons,List.take_zero]
  by_cases R:c=39<;>by_cases ae:d=39<;>simp[R,ae]
theorem afP(j:Nat){aI:Lo}{id:Nat}{eZ s:Lu}{aW:V}{ws:List br}{e:Int}(a6:s.length≤4000)(oF:ws.length≤600):∀(m i f:Nat) (h:Lo) (b:Lu) (p4:V),(s.drop i).length≤m→m<f→i≤s.length→b.length≤i→rC aI (bv (nX b)) p4 h→j8 aI id eZ aW ws e→j8 h id eZ aW ws e→(∀o,o∈id::dj aW→o<aI.length)→
  aL (we j f (.ptr id 0 0) s p4 i h) fun x ak aa=>match k2 m b (s.drop i) with
   |some (c2,n)=>x= .ret∧ak=[.int .i64 ((i+n:Nat):Int)]∧uw aI id eZ aW (k1 (decide (c2.length≤100)) ⟨3,c2,0⟩ ws e) aa
   |none=>x= .exit 0∧ak=[]∧ai aI aa []:=by
 intro m
 induction m with
 |zero=>
  intro i f h b p4 hm aS aw aF n cS q bN
  obtain⟨f,rfl⟩:∃g,f=g+1:=⟨f-1,by omega⟩
  simp only[List.length_drop] at hm
  have bj:decide ((i:Int)<(s.length:Int))=false:=decide_eq_false (by omega)
  simp only[we,BM,bj,a7]
  exact aL.some ⟨rfl,rfl,n.2.2.1⟩
 |succ m ba=>
  intro i f h b p4 hm aS aw aF n cS q bN
  obtain⟨f,rfl⟩:∃g,f=g+1:=⟨f-1,by omega⟩
  simp only[List.length_drop] at hm
  cases Mk:s.drop i with
  |nil=>
   have art:s.length≤i:=by
    have:=congrArg List.length Mk
    simp at this;omega
   have bj:decide ((i:Int)<(s.length:Int))=false:=decide_eq_false (by omega)
   simp only[we,BM,bj,a7]
   exact aL.some ⟨rfl,rfl,n.2.2.1⟩
  |cons c t=>
   obtain⟨iV,an,afQ⟩:=SY Mk
   have bj:decide ((i:Int)<(s.length:Int))=true:=decide_eq_true (by omega)
   have SZ:∀o,o∈dj p4→aI.length≤o:=n.2.2.2
   have S0:∀{ae:Lo},ai h ae (dj p4)→j8 ae id eZ aW ws e:=fun{ae} k=>q.aJ k (fun z=>by have:=SZ _ z;have:=bN id (by simp);omega) (fun o U z=>by have:=SZ _ z;have:=bN o (by simp[U]);omega)
   have e7:IntKind.i64.wrap ((i:Int)+1)=((i+1:Nat):Int):=by rw[wrap_i64 (by omega) (by omega)];omega
   have ib:IntKind.i64.wrap (((i+1:Nat):Int)+1)=((i+2:Nat):Int):=by rw[wrap_i64 (by omega) (by omega)];omega
   simp only[we,BM,bj,aU,EI an,aO,a1,e7,ib]
   rw[Gy]
   by_cases bm:c=39
   ·have aV:(((c.toNat:Nat):Int) !=39)=false:=by subst bm;rfl
    simp only[aV,a7,EJ (Nat.le_of_lt afQ),aO,bC,Gv,fp,a0,Mk,afO,if_pos bm]
    have fin:aL (J (I (.toStr (.c p4)) h) fun p0=>
b1 p0 fun jN=>
J (I (.build [.int .i64 0,(.str []), .int .i64 0] [(0,(1,(.c (.int .i64 (3))))),(1,(1,(.c (.str jN))))]) h) fun v4=>
sL v4 fun l=>
im l fun c c5=>
bt .i64 c fun afR=>
im c5 fun bF ew=>
b1 bF fun afS=>
im ew fun bD i_=>
bt .i64 bD fun afT=>
dT i_ (
J (I (.cm (.c p4)) h) fun wC=>
bt .i64 wC fun yD=>
ad (uf j (.ptr id 0 0) afR afS afT (decide (yD≤(100))) h) fun Ml mT=>
some (cg.ret,[V.int .i64 ((i+1:Nat):Int)],mT))) fun x ak aa=>x= .ret∧ak=[.int .i64 ((i+1:Nat):Int)]∧uw aI id eZ aW (k1 (decide (b.length≤100)) ⟨3,b,0⟩ ws e) aa:=by
     have fx:I (.build [.int .i64 0,(.str []), .int .i64 0] [(0,(1,(.c (.int .i64 (3))))),(1,(1,(.c (.str b))))]) h=some (.agg [.int .i64 3, .str b, .int .i64 0]):=rfl
     have afU:decide ((((bv (nX b)).length:Nat):Int)≤100)=decide (b.length≤100):=decide_eq_decide.2 (by rw[K6,Mi];omega)
     simp only[aaT n.1,SW,aO,bC,fx,bP,aN,aZ,bn,bl,id_eq,bq,a1,a5,jv n.1,afU]
     refine aL.ad (Gx ⟨3,b,0⟩ q oF) ?_
     rintro u R ⟨-,kr,aE,ar,f1⟩
     have aru:=n.2.2.1.len
     exact aL.some ⟨rfl,rfl,kr,aE,n.2.2.1.trans ar (fun o U=>by cases U) (fun o U _=>U),fun o U=>(f1 o U).elim .inl (fun z=> .inr (by omega))⟩
    cases t with
    |nil=>
     simp only[a7]
     exact fin
    |cons d u=>
     by_cases y6:d=39
     ·obtain⟨hu,OR,afV⟩:=SY iV
      have bb:((c==39)&&(d==39))=true:=by simp[bm,y6]
      simp only[bb,aU,if_pos y6]
      refine SX n c (by omega) ?_
      intro v R cY ar
      refine(ba (i+2) f R (b++ [c]) v (by simp only[List.length_drop];omega) (by omega) (by omega) (by simp;omega) cY cS (S0 ar) bN).mono ?_
      rintro x ak ae r
      rw[show i+2=i+1+1 from rfl,hu] at r
      cases cb:k2 m (b++ [c]) u with
      |none=>rw[cb] at r;exact r
      |some p=>
       rw[cb] at r
       obtain⟨fD,bf,wD⟩:=r
       refine⟨fD, ?_,wD⟩
       rw[bf,show i+(p.2+2)=i+1+1+p.2 by omega]
     ·have bb:((c==39)&&(d==39))=false:=by simp[y6]
      simp only[bb,a7,if_neg y6]
      exact fin
   ·have aV:(((c.toNat:Nat):Int) !=39)=true:=by
     have:((c.toNat:Nat):Int)≠39:=fun z=>bm (UInt8.toNat_inj.1 (by show c.toNat=39;omega))
     simpa using this
    simp only[aV,aU,if_neg bm]
    refine SX n c (by omega) ?_
    intro v R cY ar
    refine(ba (i+1) f R (b++ [c]) v (by simp only[List.length_drop];omega) (by omega) (by omega) (by simp;omega) cY cS (S0 ar) bN).mono ?_
    rintro x ak ae r
    rw[iV] at r
    cases cb:k2 m (b++ [c]) t with
    |none=>rw[cb] at r;exact r
    |some p=>
     rw[cb] at r
     obtain⟨fD,bf,wD⟩:=r
     refine⟨fD, ?_,wD⟩
     rw[bf,show i+(p.2+1)=i+1+p.2 by omega]
theorem Gz:∀(m:Nat) (b t:Lu) (p:Lu × Nat),k2 m b t=some p→p.2≤t.length
 |0,b,t,p,h=>by cases h
 |m+1,b,[],p,h=>by cases h
 |m+1,b,c::t,p,h=>by
  rw[Gy] at h
  split at h
  ·cases t with
   |nil=>injection h with h;subst h;simp
   |cons d u=>
    simp only at h
    split at h
    ·cases e:k2 m (b++ [c]) u with
     |none=>rw[e] at h;cases h
     |some lR=>
      rw[e] at h;injection h with h;subst h
      have:=Gz m _ _ _ e
      simp only[List.length_cons];omega
    ·injection h with h;subst h;simp
  ·cases e:k2 m (b++ [c]) t with
   |none=>rw[e] at h;cases h
   |some lR=>
    rw[e] at h;injection h with h;subst h
    have:=Gz m _ _ _ e
    simp only[List.length_cons];omega
theorem afW{j:Nat}{h:Lo}{id:Nat}{eZ s:Lu}{aW:V}{ws:List br}{e:Int}(q:j8 h id eZ aW ws e)(a6:s.length≤4000)(R:1≤s.length)(oF:ws.length≤600)(aS:s.length<j):
  aj (ET j (.ptr id 0 0) s h) fun v aa=>match k2 s.length [] (s.drop 1) with
   |some (b,n)=>v= .int .i64 ((1+n:Nat):Int)∧uw h id eZ aW (k1 (decide (b.length≤100)) ⟨3,b,0⟩ ws e) aa
   |none=>v= .int .i64 ((s.length:Nat):Int)∧uw h id eZ aW (ws,3) aa:=by
 simp only[ET]
 have bN:∀o,o∈id::dj aW→o<h.length:=fun o U=>by
  rcases List.mem_cons.1 U with rfl|U
  ·exact q.st.lt
  ·exact q.cx.lt U
 have eT:=afP j (s:=s) a6 oF s.length 1 j h [] .ab (by simp) aS R (by simp) ⟨dq.ab _ _,j2.ab,ai.refl _ _,fun o U=>by cases U⟩ q q bN
 have z:((1:Nat):Int)=1:=rfl
 rw[z] at eT
 refine aj.bO eT ?_
 rintro x ak ae r
 cases cb:k2 s.length [] (s.drop 1) with
 |some p=>
  rw[cb] at r
  obtain⟨rfl,rfl,r⟩:=r
  simp only[show decide (cg.ret=cg.exit 0)=false from rfl,a7,decide_true,aU,aN,aZ,bn,bl,id_eq,bq,a1,a5]
  exact aj.some ⟨rfl,r⟩
 |none=>
  rw[cb] at r
  obtain⟨rfl,rfl,aA⟩:=r
  have aR:=q.aq aA
  have ov:=aR.st.bz 0 0
  have f2:=aR.st.af 2 0 0
  simp only[Nat.zero_add] at f2
  simp only[decide_true,aU,a5,ov,f2,aO]
  refine aj.ad (aR.err 3) ?_
  rintro u aQ ⟨bE,aT⟩
  exact aj.some ⟨rfl,aW,bE,aA.trans aT (fun o U=>by cases U) (fun o U _=>by simp at U;simp[U]),fun o U=> .inl U⟩
def lv(r:Int)(t:Lu)(ws:List br)(e:Int):Nat × (List br × Int):=
 if r=39 then(match k2 t.length [] (t.drop 1) with
  |some (b,n)=>(1+n,k1 (decide (b.length≤100)) ⟨3,b,0⟩ ws e)
  |none=>(t.length,(ws,3)))
 else if rS r then(hK t.length t,k1 (wB (t.take (hK t.length t))) ⟨1,t.take (hK t.length t),0⟩ ws e)
 else if p3 r then(hK t.length t,k1 (s5 (t.take (hK t.length t))).2 ⟨2,t.take (hK t.length t),(s5 (t.take (hK t.length t))).1⟩ ws e)
 else(max (lY t) 1,k1 (decide (0<lY t)) ⟨4,t.take (lY t),0⟩ ws e)
theorem GA(ok:Bool)(w:br)(ws:List br)(e:Int)(h:ws.length≤600):(k1 ok w ws e).1.length≤600:=by
 unfold k1
 split
 ·exact h
 ·split
  ·exact h
  ·simp only[List.length_append,List.length_cons,List.length_nil];omega
theorem afX(r:Int)(t:Lu)(ws:List br)(e:Int)(h:ws.length≤600):(lv r t ws e).2.1.length≤600:=by
 unfold lv
 split
 ·split
  ·exact GA _ _ _ _ h
  ·exact h
 ·split
  ·exact GA _ _ _ _ h
  ·split
   ·exact GA _ _ _ _ h
   ·exact GA _ _ _ _ h
theorem afY(r:Int)(t:Lu)(ws:List br)(e:Int)(en:t≠ []):(lv r t ws e).1≤t.length+1:=by
 have ax:0<t.length:=List.length_pos_iff.2 en
 unfold lv
 split
 ·cases cb:k2 t.length [] (t.drop 1) with
  |none=>simp
  |some p=>
   have:=Gz _ _ _ _ cb
   simp only[List.length_drop] at this
   simp only;omega
 ·split
  ·have:=Co t.length t;simp only;omega
  ·split
   ·have:=Co t.length t;simp only;omega
   ·have:=(Mg en).1;simp only;omega
theorem afZ{t:Lu}(en:t≠ [])(h:(rS (dU t).1||p3 (dU t).1)=true):0<hK t.length t:=by
 cases t with
 |nil=>exact absurd rfl en
 |cons b t=>
  rw[List.length_cons,hK,if_neg en,if_pos h]
  have:=(qI _ en).1
  omega
theorem af0{j:Nat}{h:Lo}{id:Nat}{eZ t:Lu}{aW:V}{ws:List br}{e:Int}(q:j8 h id eZ aW ws e)(a6:t.length≤4000)(en:t≠ [])(oF:ws.length≤600)(aS:4010<j):
  aj (EY j (.ptr id 0 0) ((dU t).1:Int) t h) fun v aa=>v= .int .i64 (((lv (dU t).1 t ws e).1:Nat):Int)∧uw h id eZ aW (lv (dU t).1 t ws e).2 aa:=by
 have ax:0<t.length:=List.length_pos_iff.2 en
 have nY:=Co t.length t
 simp only[EY]
 unfold lv
 by_cases dQ:((dU t).1:Int)=39
 ·have e6:(((dU t).1:Int)==39)=true:=by simpa using dQ
  rw[e6,aU,if_pos dQ]
  refine aj.ad (afW q a6 ax oF (by omega)) ?_
  rintro u R r
  cases cb:k2 t.length [] (t.drop 1) with
  |some p=>
   rw[cb] at r
   obtain⟨rfl,r⟩:=r
   exact aj.some ⟨rfl,r⟩
  |none=>
   rw[cb] at r
   obtain⟨rfl,r⟩:=r
   exact aj.some ⟨rfl,r⟩
 ·have e6:(((dU t).1:Int)==39)=false:=by simpa using dQ
  rw[e6,a7,if_neg dQ,Me,fp,a0]
  by_cases bF:rS ((dU t).1:Int)=true
  ·rw[bF,aU,if_pos rfl]
   refine aj.ad (SR (by omega)) ?_
   rintro u R ⟨rfl,ar⟩
   have fx:I (.build [.int .i64 0,(.str []), .int .i64 0] [(0,(1,(.c (.int .i64 (1))))),(1,(1,(.c (.str (t.take (hK t.length t))))))]) R=some (.agg [.int .i64 1, .str (t.take (hK t.length t)), .int .i64 0]):=rfl
   simp only[a1,BE nY,aO,bC,fx,bP,aN,aZ,bn,bl,id_eq,bq,a5]
   refine aj.ad (Mf (by simp;omega) (by simp;omega)) ?_
   rintro u ae ⟨rfl,aA⟩
   have dW:=ar.bs aA
   simp only[a0]
   refine aj.ad (Gx ⟨1,t.take (hK t.length t),0⟩ (q.aq dW) oF) ?_
   rintro u aQ ⟨-,kr,bE,aT,f3⟩
   have:=dW.len
   exact aj.some ⟨rfl,kr,bE,dW.trans aT (fun o U=>by cases U) (fun o U _=>U),fun o U=>(f3 o U).elim .inl (fun z=> .inr (by omega))⟩
  ·simp only[Bool.not_eq_true] at bF
   rw[bF,a7,if_neg (by decide),Gu,fp,a0]
   by_cases bD:p3 ((dU t).1:Int)=true
   ·rw[bD,aU,if_pos rfl]
    have qv:=afZ en (by rw[bF,bD];rfl)
    refine aj.ad (SR (by omega)) ?_
    rintro u R ⟨rfl,ar⟩
    simp only[a1,BE nY,aO,bC]
    refine aj.ad (afG (by simp;omega) (by
     intro z
     have:=congrArg List.length z
     rw[List.length_take,List.length_nil] at this
     omega)) ?_
    rintro u ae ⟨rfl,aA⟩
    have dW:=ar.bs aA
    generalize s5 (t.take (hK t.length t))=Mm
    have fx:I (.build [.int .i64 0,(.str []), .int .i64 0] [(0,(1,(.c (.int .i64 (2))))),(1,(1,(.c (.str (t.take (hK t.length t)))))),(2,(1,(.c (.int .i64 Mm.1))))]) ae=some (.agg [.int .i64 2, .str (t.take (hK t.length t)), .int .i64 Mm.1]):=rfl
    simp only[mf,aN,aZ,bn,bl,id_eq,bq,a1,a0,a5,BE nY,aO,bC,fx,bP]
    refine aj.ad (Gx ⟨2,t.take (hK t.length t),Mm.1⟩ (q.aq dW) oF) ?_
    rintro u aQ ⟨-,kr,bE,aT,f3⟩
    have:=dW.len
    exact aj.some ⟨rfl,kr,bE,dW.trans aT (fun o U=>by cases U) (fun o U _=>U),fun o U=>(f3 o U).elim .inl (fun z=> .inr (by omega))⟩
   ·simp only[Bool.not_eq_true] at bD
    rw[bD,a7,if_neg (by decide)]
    refine aj.ad (afJ en (by omega)) ?_
    rintro u R ⟨rfl,ar⟩
    have af1:=Mg en
    have fx:I (.build [.int .i64 0,(.str []), .int .i64 0] [(0,(1,(.c (.int .i64 (4))))),(1,(1,(.c (.str (t.take (lY t))))))]) R=some (.agg [.int .i64 4, .str (t.take (lY t)), .int .i64 0]):=rfl
    have D_:decide (((lY t:Nat):Int)>0)=decide (0<lY t):=decide_eq_decide.2 (by omega)
    have em:(if(1:Int)>((lY t:Nat):Int) then(1:Int) else((lY t:Nat):Int))=((max (lY t) 1:Nat):Int):=by split<;>omega
    simp only[a1,BE af1.1,aO,bC,fx,bP,aN,aZ,bn,bl,id_eq,bq,a5,D_,em]
    refine aj.ad (Gx ⟨4,t.take (lY t),0⟩ (q.aq ar) oF) ?_
    rintro u aQ ⟨-,kr,bE,aT,f3⟩
    have:=ar.len
    exact aj.some ⟨rfl,kr,bE,ar.trans aT (fun o U=>by cases U) (fun o U _=>U),fun o U=>(f3 o U).elim .inl (fun z=> .inr (by omega))⟩
def Cs(r:Int):Bool:=r==32||(r==9||r==10)
def gG(t:Lu)(eG:Nat)(dY:Bool)(ws:List br):Nat × Bool × (List br × Int):=
 if dY=true then(if((dU t).1:Int)=10 then(eG,false,(ws,0)) else(1,true,(ws,0)))
 else if 0<eG then(eG,false,(ws,0))
 else if Cs (dU t).1=true then(0,false,(ws,0))
 else if iv t [45,45]=true then(1,true,(ws,0))
 else if(((dU t).1:Int)==65533&& !iv t [239,191,189])=true then(0,false,(ws,3))
 else((lv (dU t).1 t ws 0).1,false,(lv (dU t).1 t ws 0).2)
def hL(ws:List br)(e:Int):Option (List br) × Int:=if e=0 then(some ws,0) else(none,e)
def scan:Nat→Lu→Nat→Bool→List br→Int→Option (List br) × Int
 |0,_,_,_,ws,e=>hL ws e
 |m+1,t,eG,dY,ws,e=>if t=[] then hL ws e else if e≠0 then(none,e) else
   scan m (t.drop (dU t).2) ((gG t eG dY ws).1-(dU t).2) (gG t eG dY ws).2.1 (gG t eG dY ws).2.2.1 (gG t eG dY ws).2.2.2
def oG(s:Lu):Option (List br) × Int:=if 4000<s.length then(none,5) else scan s.length s 0 false [] 0
theorem af2(j:Nat)(r:Int)(h:Lo):E0 j r h=some (.normal,[.bool (Cs r)],h):=by
 unfold E0 Cs
 cases bF:(r==32)<;>cases bD:(r==9)<;>rfl
theorem af3(j:Nat){s:Lu}{pos:Nat}(hp:pos≤s.length)(r:Int)(h:Lo):EZ j s pos r h=some (.normal,[.bool (r==65533&& !iv (s.drop pos) [239,191,189])],h):=by
 unfold EZ
 cases bF:(r==65533) with
 |false=>rfl
 |true=>simp only[aU,EJ hp,aO,bC,Gv,fp,a0,Bool.true_and]
theorem af4{j:Nat}{h:Lo}{id:Nat}{eZ s:Lu}{aW:V}{ws:List br}{pos:Nat}{behind:Int}{dY:Bool}(q:j8 h id eZ aW ws 0)(a6:s.length≤4000)(hp:pos<s.length)(oF:ws.length≤600)(aS:4010<j)(aF:behind≤10000):
  aL (yp j s (.ptr id 0 0) behind dY pos ((dU (s.drop pos)).1:Int) h) fun x ak aa=>x= .normal∧∃c2 oH,ak=[.int .i64 c2, .bool oH]∧oH=(gG (s.drop pos) (behind-pos).toNat dY ws).2.1∧((if oH=true then(pos:Int)+1 else c2)-pos).toNat=(gG (s.drop pos) (behind-pos).toNat dY ws).1∧c2≤10000∧
   uw h id eZ aW (gG (s.drop pos) (behind-pos).toNat dY ws).2.2 aa:=by
 have ov:=q.st.bz 0 0
 have f2:=q.st.af 2 0 0
 have ew:I (.ag (.c (.ptr id 0 2))) h=some (.int .i64 0):=q.st.ag rfl
 simp only[Nat.zero_add] at f2
 have en:=Cp hp
 have same:uw h id eZ aW (ws,0) h:=⟨aW,q,ai.refl _ _,fun o U=> .inl U⟩
 have one:(((pos:Int)+1)-pos).toNat=1:=by omega
 unfold gG
 simp only[yp,ov,f2,ew,aO,a1,bne_self_eq_false,a7]
 cases dY with
 |true=>
  simp only[aU,if_true]
  by_cases c:((dU (s.drop pos)).1:Int)=10
  ·have e:(((dU (s.drop pos)).1:Int) !=10)=false:=by simp[c]
   rw[e,if_pos c]
   exact aL.some ⟨rfl,_,_,rfl,rfl,by simp,aF,same⟩
  ·have e:(((dU (s.drop pos)).1:Int) !=10)=true:=by simpa using c
   rw[e,if_neg c]
   exact aL.some ⟨rfl,_,_,rfl,rfl,by simp only[if_true,one],aF,same⟩
 |false=>
  simp only[a7,Bool.false_eq_true,if_false]
  by_cases dQ:(pos:Int)<behind
  ·rw[decide_eq_true dQ,aU,if_pos (by omega)]
   exact aL.some ⟨rfl,_,_,rfl,rfl,by simp,aF,same⟩
  ·rw[decide_eq_false dQ,a7,if_neg (by omega),af2,gY]
   simp only[decide_true,aU,aN,aZ,bn,bl,id_eq,bq,a0,a5]
   by_cases bF:Cs ((dU (s.drop pos)).1:Int)=true
   ·rw[bF,aU,if_pos rfl]
    exact aL.some ⟨rfl,_,_,rfl,rfl,by simp;omega,aF,same⟩
   ·simp only[Bool.not_eq_true] at bF
    rw[bF,a7,if_neg (by decide),EJ (Nat.le_of_lt hp),aO,bC,Gv,fp,a0]
    by_cases bD:iv (s.drop pos) [45,45]=true
    ·rw[bD,aU,if_pos rfl]
     exact aL.some ⟨rfl,_,_,rfl,rfl,by simp only[if_true,one],aF,same⟩
    ·simp only[Bool.not_eq_true] at bD
     rw[bD,a7,if_neg (by decide),af3 j (Nat.le_of_lt hp),gY]
     simp only[decide_true,aU,aN,aZ,bn,bl,id_eq,bq,a0,a5]
     by_cases b8:(((dU (s.drop pos)).1:Int)==65533&& !iv (s.drop pos) [239,191,189])=true
     ·rw[b8,aU,if_pos rfl]
      simp only[ov,f2,aO]
      refine aL.ad (q.err 3) ?_
      rintro u R ⟨aE,ar⟩
      exact aL.some ⟨rfl,_,_,rfl,rfl,by simp;omega,aF,aW,aE,ar.mono (fun o U _=>by simp at U;simp[U]),fun o U=> .inl U⟩
     ·simp only[Bool.not_eq_true] at b8
      rw[b8,a7,if_neg (by decide),EJ (Nat.le_of_lt hp),aO,bC]
      refine aL.ad (af0 q (by simp;omega) en oF aS) ?_
      rintro u R ⟨rfl,r⟩
      have bd:=afY (dU (s.drop pos)).1 (s.drop pos) ws 0 en
      simp only[List.length_drop] at bd
      have e7:IntKind.i64.wrap ((pos:Int)+(((lv (dU (s.drop pos)).1 (s.drop pos) ws 0).1:Nat):Int))=(pos:Int)+(((lv (dU (s.drop pos)).1 (s.drop pos) ws 0).1:Nat):Int):=wrap_i64 (by omega) (by omega)
      simp only[a1,e7]
      exact aL.some ⟨rfl,_,_,rfl,rfl,by simp only[Bool.false_eq_true,if_false];omega,by omega,r⟩
theorem S1(t:Lu)(eG:Nat)(dY:Bool)(ws:List br)(h:ws.length≤600):(gG t eG dY ws).2.2.1.length≤600:=by
 unfold gG
 repeat' split
 all_goals first|exact h|exact afX _ _ _ _ h
theorem af5(j:Nat)(Mn:4010<j){dA:Lo}{id uy:Nat}{s:Lu}(a6:s.length≤4000)(hy:dA.length≤id)(arv:dA.length≤uy)(en:uy≠id):∀(m pos f:Nat) (h:Lo) (aW:V) (ws:List br) (e:Int) (behind:Int) (dY:Bool),(s.drop pos).length≤m→m<f→pos≤s.length→behind≤10000→ws.length≤600→
  ai dA h []→aP h uy s pos→j8 h id s aW ws e→(∀o,o∈dj aW→dA.length≤o∧o≠uy)→
  aL (wh j f s (.ptr id 0 0) behind dY (.ptr uy 0 0) h) fun x ak aa=>ai dA aa []∧match scan m (s.drop pos) (behind-pos).toNat dY ws e with
   |(some wE,_)=>x= .exit 0∧ak=[]∧∃kr,j8 aa id s kr wE 0∧∀o,o∈dj kr→dA.length≤o
   |(none,ct)=>ct≠0∧((x= .exit 0∧ak=[]∧∃kr wE,j8 aa id s kr wE ct)∨(x= .ret∧ak=[.ab, .int .i64 ct])):=by
 intro m
 have fin:∀{h:Lo} {aW:V} {ws:List br} {e:Int},ai dA h []→j8 h id s aW ws e→(∀o,o∈dj aW→dA.length≤o∧o≠uy)→ai dA h []∧match hL ws e with
   |(some wE,_)=>cg.exit 0= .exit 0∧([]:Lv)=[]∧∃kr,j8 h id s kr wE 0∧∀o,o∈dj kr→dA.length≤o
   |(none,ct)=>ct≠0∧((cg.exit 0= .exit 0∧([]:Lv)=[]∧∃kr wE,j8 h id s kr wE ct)∨(cg.exit 0= .ret∧([]:Lv)=[.ab, .int .i64 ct])):=by
  intro h aW ws e k q U
  refine⟨k, ?_⟩
  unfold hL
  by_cases z:e=0
  ·subst z
   rw[if_pos rfl]
   exact⟨rfl,rfl,aW,q,fun o dw=>(U o dw).1⟩
  ·rw[if_neg z]
   exact⟨z, .inl ⟨rfl,rfl,aW,ws,q⟩⟩
 induction m with
 |zero=>
  intro pos f h aW ws e behind dY hm aS hp aF oF k Ct q U
  obtain⟨f,rfl⟩:∃g,f=g+1:=⟨f-1,by omega⟩
  simp only[List.length_drop] at hm
  have e6:I (.ext 0 (.c (.bW [.bool false]))) h=some (.bool false):=mh rfl
  simp only[wh,BS,ub Ct (by omega),fp,e6,aO,a0,a7]
  exact aL.some (fin k q U)
 |succ m ba=>
  intro pos f h aW ws e behind dY hm aS hp aF oF k Ct q U
  obtain⟨f,rfl⟩:∃g,f=g+1:=⟨f-1,by omega⟩
  simp only[List.length_drop] at hm
  by_cases c:pos<s.length
  ·have JY:=Cp c
   have hw:=qI _ JY
   simp only[List.length_drop] at hw
   simp only[wh,BS]
   refine aL.ad (EH Ct c) ?_
   rintro v R ⟨rfl,af6,ar⟩
   have aE:=q.aJ ar (by simp;exact fun z=>en z.symm) (fun o dw=>by simp;exact(U o dw).2)
   have S2:ai dA R []:=k.trans ar (fun o U=>by cases U) (fun o U ax=>by simp at U;omega)
   rw[mh (v:= .bool true) rfl,aO,a0,aU,mh (v:= .int .i64 (pos:Int)) rfl,aO,a1,mh (v:= .int .i32 ((dU (s.drop pos)).1:Int)) rfl,aO,a1]
   rw[scan,if_neg JY]
   by_cases z:e=0
   ·subst z
    rw[if_neg (fun x=>x rfl)]
    refine aL.bO (af4 (dY:=dY) aE a6 c oF Mn aF) ?_
    rintro x ak ae ⟨rfl,c2,oH,rfl,y7,af7,hT,kr,aR,aA,f2⟩
    have DS:=ar.len
    have arw:=Ct.lt
    have Mo:=af6.aJ aA (fun dw=>by
     rcases List.mem_cons.1 dw with z|z
     ·exact en z
     ·exact(U _ z).2 rfl)
    have af8:ai dA ae []:=S2.trans aA (fun o U=>by cases U) (fun o dw ax=>by
     rcases List.mem_cons.1 dw with z|z
     ·omega
     ·have:=(U o z).1;omega)
    have JZ:∀o,o∈dj kr→dA.length≤o∧o≠uy:=fun o dw=>by
     have:=k.len
     rcases f2 o dw with z|z
     ·exact U o z
     ·exact⟨by omega,by omega⟩
    have uz:=S1 (s.drop pos) (behind-pos).toNat dY ws oF
    have e7:IntKind.i64.wrap ((pos:Int)+1)=(pos:Int)+1:=wrap_i64 (by omega) (by omega)
    simp only[show decide (cg.normal=cg.ret)=false from rfl,a7,decide_true,aU,aN,aZ,bn,bl,id_eq,bq,a1,a0,a5,e7]
    have next:=ba (pos+(dU (s.drop pos)).2) f ae kr _ _ (if oH=true then(pos:Int)+1 else c2) oH (by simp only[List.length_drop];omega) (by omega) (by omega) (by split<;>omega) uz af8 Mo aR JZ
    have af9:((if oH=true then(pos:Int)+1 else c2)-((pos+(dU (s.drop pos)).2:Nat):Int)).toNat=(gG (s.drop pos) (behind-pos).toNat dY ws).1-(dU (s.drop pos)).2:=by
     rw[←af7];omega
    rw[af9,←List.drop_drop,y7] at next
    rw[←y7] at next
    cases S3:oH with
    |true=>
     rw[S3] at next y7
     rw[←y7]
     simp only[aU]
     simpa using next
    |false=>
     rw[S3] at next y7
     rw[←y7]
     simp only[a7]
     simpa using next
   ·rw[if_pos z]
    have ov:=aE.st.bz 0 0
    have f2:=aE.st.af 2 0 0
    have ew:I (.ag (.c (.ptr id 0 2))) R=some (.int .i64 e):=aE.st.ag rfl
    simp only[Nat.zero_add] at f2
    have pd:(e !=0)=true:=by simpa using z
    have hP:∀dV iG ii b6,yp j s (.ptr id 0 0) dV iG ii b6 R=some (.ret,[.ab, .int .i64 e],R):=fun dV iG ii b6=>by
     simp only[yp,ov,f2,ew,aO,a1,pd,aU]
    rw[hP,gY]
    simp only[decide_true,aU,aN,aZ,bn,bl,id_eq,bq,a1,a5]
    exact aL.some ⟨S2,z, .inr ⟨rfl,rfl⟩⟩
  ·have e6:I (.ext 0 (.c (.bW [.bool false]))) h=some (.bool false):=mh rfl
   have bj:s.drop pos=[]:=List.drop_of_length_le (by omega)
   simp only[wh,BS,ub Ct (by omega),fp,e6,aO,a0,a7]
   rw[bj,scan,if_pos rfl]
   exact aL.some (fin k q U)
theorem af_{j:Nat}(Mn:4010<j){h:Lo}{s:Lu}:aj (E1 j s h) fun v aa=>ai h aa []∧match oG s with
  |(some ws,_)=>∃aW,v= .bW [aW, .int .i64 0]∧dq 3 aa aW (pk ws)∧j2 aW∧(∀o,o∈dj aW→h.length≤o)
  |(none,e)=>v= .bW [.ab, .int .i64 e]∧e≠0:=by
 simp only[E1]
 unfold oG
 by_cases c:4000<s.length
 ·rw[decide_eq_true (by omega),aU,if_pos c]
  exact aj.some ⟨ai.refl _ _,rfl,by decide⟩
 ·have fx:I (.build [(.str []), .ab, .int .i64 0] [(0,(1,(.c (.str s))))]) h=some (.agg [.str s, .ab, .int .i64 0]):=rfl
  rw[decide_eq_false (by omega),a7,if_neg c]
  simp only[fx,aO,bP,aN,aZ,bn,bl,id_eq,bq,bC,a1,a5]
  refine aj.ad (fO (cs:=[.str s, .ab, .int .i64 0]) rfl) ?_
  rintro p R ⟨rfl,fS,ar⟩
  refine aj.ad (EG R s) ?_
  rintro p ae ⟨rfl,Mo,aA⟩
  have aR:j8 ae h.length s .ab [] 0:=⟨fS.aq aA,dq.ab _ _,j2.ab,by simp[dj]⟩
  have OO:=fS.lt
  have eT:=af5 j Mn (dA:=h) (id:=h.length) (uy:=R.length) (s:=s) (by omega) (Nat.le_refl _) (by omega) (by omega) s.length 0 j ae .ab [] 0 0 false (by simp) (by omega) (by omega) (by omega) (by simp) (ar.bs aA) Mo aR (fun o U=>by cases U)
  have z:((0:Nat):Int)=0:=rfl
  rw[List.drop_zero,z,show((0:Int)-0).toNat=0 from rfl] at eT
  refine aj.bO eT ?_
  rintro x ak aQ ⟨aT,r⟩
  cases e:scan s.length s 0 false [] 0 with
  |mk ao ct=>
   cases ao with
   |some ws=>
    rw[e] at r
    obtain⟨rfl,rfl,aW,bE,aga⟩:=r
    have ov:=bE.st.bz 0 0
    have f2:=bE.st.af 2 0 0
    have f1:=bE.st.af 1 0 0
    have ew:I (.ag (.c (.ptr h.length 0 2))) aQ=some (.int .i64 0):=bE.st.ag rfl
    have c5:I (.ag (.c (.ptr h.length 0 1))) aQ=some aW:=bE.st.ag rfl
    simp only[Nat.zero_add] at f1 f2
    simp only[decide_true,aU,a5,ov,f1,f2,c5,ew,aO,a1,bne_self_eq_false,a7]
    exact aj.some ⟨aT,aW,rfl,bE.cx,bE.ap,aga⟩
   |none=>
    rw[e] at r
    obtain⟨b0,⟨rfl,rfl,aW,ws,bE⟩|⟨rfl,rfl⟩⟩:=r
    ·have ov:=bE.st.bz 0 0
     have f2:=bE.st.af 2 0 0
     have ew:I (.ag (.c (.ptr h.length 0 2))) aQ=some (.int .i64 ct):=bE.st.ag rfl
     have pd:(ct !=0)=true:=by simpa using b0
     simp only[Nat.zero_add] at f2
     simp only[decide_true,aU,a5,ov,f2,ew,aO,a1,pd]
     exact aj.some ⟨aT,rfl,b0⟩
    ·simp only[show decide (cg.ret=cg.exit 0)=false from rfl,a7,decide_true,aU,aN,aZ,bn,bl,id_eq,bq,a1,a5]
     exact aj.some ⟨aT,rfl,b0⟩
def wF:List (Lu):=[[67,82,69,65,84,69],[84,65,66,76,69],[73,78,68,69,88],[85,78,73,81,85,69],[77,65,84,69,82,73,65,76,73,90,69,68],[86,73,69,87],[68,82,79,80],[73,78,83,69,82,84],[73,78,84,79],[86,65,76,85,69,83],[85,80,68,65,84,69],[83,69,84],[68,69,76,69,84,69],[70,82,79,77],[83,69,76,69,67,84],[68,73,83,84,73,78,67,84],[87,72,69,82,69],[71,82,79,85,80],[66,89],[79,82,68,69,82],[65,83,67],[68,69,83,67],[76,73,77,73,84],[74,79,73,78],[79,78],[65,83],[65,78,68],[79,82],[78,79,84],[73,83],[78,85,76,76],[73,78,84],[84,69,88,84],[66,69,71,73,78],[67,79,77,77,73,84],[82,79,76,76,66,65,67,75],[67,79,85,78,84],[83,85,77],[77,73,78],[77,65,88]]
def lx(s:Lu):Bool:=wF.any fun w=>s==w
theorem agb(b c:Bool)(h:Lo):al b (some (cg.normal,[V.bool true],h)) (some (cg.normal,[V.bool c],h))=(some (cg.normal,[V.bool (b||c)],h):a9):=by cases b<;>rfl
theorem Mp(j:Nat)(s:Lu)(h:Lo):yq j s h=some (.bool (lx s),h):=by
 have e:E2 j s h=some (.normal,[.bool (lx s)],h):=by
  unfold E2
  simp only[agb]
  simp only[lx,wF,List.any_cons,List.any_nil,Bool.or_false]
 unfold yq
 rw[e]
 simp only[gY,decide_true,aU,aN,aZ,bn,bl,id_eq,bq,a0,a5]
 cases lx s<;>rfl
def p5(ws:List (Lu)):Lu:=ws.flatMap (·++ [32])
theorem y8(x:Lu)(xs:List (Lu)):p5 (x::xs)=x++32::p5 xs:=by simp[p5]
theorem S4:∀(x s r:Lu),32∉x→32∉s→(x++32::r).take (s.length+1)=s++ [32]→s=x
 | [],[],r,_,_,_=>rfl
 | [],a::s,r,_,a6,h=>by
  simp only[List.nil_append,List.length_cons,List.take_succ_cons,List.cons_append,List.cons.injEq] at h
  exact absurd (by simp[h.1]) a6
 |b::x,[],r,au,_,h=>by
  simp only[List.cons_append,List.length_nil,Nat.zero_add,List.take_succ_cons,List.take_zero,List.nil_append,List.cons.injEq,and_true] at h
  exact absurd (by simp[h]) au
 |b::x,a::s,r,au,a6,h=>by
  simp only[List.cons_append,List.length_cons,List.take_succ_cons,List.cons.injEq] at h
  obtain⟨rfl,h⟩:=h
  simp only[List.mem_cons,not_or] at au a6
  rw[S4 x s r au.2 a6.2 h]
theorem S5:∀(ws:List (Lu)) (o:Nat) (s:Lu),(∀x,x∈ws→32∉x)→32∉s→((32::p5 ws).drop o).take (s.length+2)=32::s++ [32]→s∈ws
 | [],o,s,_,_,h=>by
  have:=congrArg List.length h
  simp[p5] at this
  omega
 |x::xs,0,s,au,a6,h=>by
  rw[List.drop_zero,y8,List.take_succ_cons,List.cons_append,List.cons.injEq] at h
  rw[S4 x s _ (au x (by simp)) a6 h.2]
  simp
 |x::xs,o+1,s,au,a6,h=>by
  rw[y8,List.drop_succ_cons] at h
  by_cases c:o<x.length
  ·have e:(x++32::p5 xs).drop o=x[o]::(x++32::p5 xs).drop (o+1):=by
    rw[List.drop_eq_getElem_cons (by simp;omega),List.getElem_append_left c]
   rw[e,List.take_succ_cons,List.cons_append,List.cons.injEq] at h
   exact absurd (h.1▸List.getElem_mem c) (au x (by simp))
  ·have e:(x++32::p5 xs).drop o=(32::p5 xs).drop (o-x.length):=by
    rw[List.drop_append,List.drop_of_length_le (by omega),List.nil_append]
   rw[e] at h
   exact List.mem_cons_of_mem _ (S5 xs _ s (fun y bT=>au y (by simp[bT])) a6 h)
theorem S6:∀(ws:List (Lu)) (s:Lu),s∈ws→∃o,o+(s.length+2)≤(32::p5 ws).length∧((32::p5 ws).drop o).take (s.length+2)=32::s++ [32]
 |x::xs,s,h=>by
  rcases List.mem_cons.1 h with rfl|h
  ·refine⟨0, ?_, ?_⟩
   ·rw[y8];simp
   ·rw[y8,List.drop_zero,List.take_succ_cons,List.take_append]
    simp[List.take_of_length_le]
  ·obtain⟨o,R,ae⟩:=S6 xs s h
   refine⟨o+(x.length+1), ?_, ?_⟩
   ·rw[y8];simp at R⊢;omega
   ·rw[y8,show o+(x.length+1)=(o+x.length)+1 from rfl,List.drop_succ_cons,List.drop_append,List.drop_of_length_le (by omega),List.nil_append,show o+x.length-x.length=o by omega]
    exact ae
abbrev y9:Lu:=[32,67,82,69,65,84,69,32,84,65,66,76,69,32,73,78,68,69,88,32,85,78,73,81,85,69,32,77,65,84,69,82,73,65,76,73,90,69,68,32,86,73,69,87,32,68,82,79,80,32,73,78,83,69,82,84,32,73,78,84,79,32,86,65,76,85,69,83,32,85,80,68,65,84,69,32,83,69,84,32,68,69,76,69,84,69,32,70,82,79,77,32,83,69,76,69,67,84,32,68,73,83,84,73,78,67,84,32,87,72,69,82,69,32,71,82,79,85,80,32,66,89,32,79,82,68,69,82,32,65,83,67,32,68,69,83,67,32,76,73,77,73,84,32,74,79,73,78,32,79,78,32,65,83,32,65,78,68,32,79,82,32,78,79,84,32,73,83,32,78,85,76,76,32,73,78,84,32,84,69,88,84,32,66,69,71,73,78,32,67,79,77,77,73,84,32,82,79,76,76,66,65,67,75,32,67,79,85,78,84,32,83,85,77,32,77,73,78,32,77,65,88,32]
theorem S7:y9=32::p5 wF:=by decide
theorem S8:y9.length=223:=by decide
theorem S9:∀w,w∈wF→32∉w:=by decide
theorem S_(s:Lu):lx s=true↔s∈wF:=by
 unfold lx
 rw[List.any_eq_true]
 constructor
 ·rintro ⟨w,hw,e⟩
  have:s=w:=by simpa using e
  rw[this];exact hw
 ·intro h
  exact⟨s,h,by simp⟩
def uA(w:Lu):Nat→Nat→Bool
 |0,_=>false
 |m+1,i=>if i+w.length≤223 then((y9.drop i).take w.length==w)||uA w m (i+1) else false
theorem Ta(w:Lu):∀(m i:Nat),uA w m i=true↔∃o,i≤o∧o<i+m∧o+w.length≤223∧(y9.drop o).take w.length=w
 |0,i=>by
  simp only[uA,Bool.false_eq_true,false_iff]
  rintro ⟨o,R,ae,_⟩;omega
 |m+1,i=>by
  rw[uA]
  by_cases c:i+w.length≤223
  ·rw[if_pos c,Bool.or_eq_true,Ta w m (i+1)]
   constructor
   ·rintro (h|⟨o,R,ae,aQ,bo⟩)
    ·exact⟨i,Nat.le_refl _,by omega,c,by simpa using h⟩
    ·exact⟨o,by omega,by omega,aQ,bo⟩
   ·rintro ⟨o,R,ae,aQ,bo⟩
    by_cases q:o=i
    ·subst q;exact .inl (by simpa using bo)
    ·exact .inr ⟨o,by omega,by omega,aQ,bo⟩
  ·rw[if_neg c]
   simp only[Bool.false_eq_true,false_iff]
   rintro ⟨o,R,ae,aQ,_⟩;omega
theorem agc{s:Lu}(a6:32∉s):uA (32::s++ [32]) 224 0=lx s:=by
 have ax:(32::s++ [32]:Lu).length=s.length+2:=by simp
 rw[Bool.eq_iff_iff,Ta,S_,ax]
 constructor
 ·rintro ⟨o,-,-,aQ,bo⟩
  rw[S7] at bo
  exact S5 wF o s S9 a6 bo
 ·intro h
  obtain⟨o,R,ae⟩:=S6 wF s h
  rw[←S7] at R ae
  rw[S8] at R
  exact⟨o,by omega,by omega,R,ae⟩
theorem agd(j:Nat){w:Lu}{h:Lo}(hw:w.length≤4611686018427387904):∀(m i:Nat) (f:Nat),i+m=224→m<f→wi j f w i h=if uA w m i=true then some (.ret,[.bool true],h) else some (.exit 2,[],h):=by
 intro m
 induction m with
 |zero=>
  intro i f hm aS
  obtain⟨f,rfl⟩:∃g,f=g+1:=⟨f-1,by omega⟩
  have e7:IntKind.i64.wrap ((i:Int)+(w.length:Int))=(i:Int)+w.length:=wrap_i64 (by omega) (by omega)
  have bj:decide ((i:Int)+(w.length:Int)≤223)=false:=decide_eq_false (by omega)
  simp only[wi,BW,e7,bj,a7,uA,Bool.false_eq_true,if_false]
 |succ m ba=>
  intro i f hm aS
  obtain⟨f,rfl⟩:∃g,f=g+1:=⟨f-1,by omega⟩
  have e7:IntKind.i64.wrap ((i:Int)+(w.length:Int))=((i+w.length:Nat):Int):=by rw[wrap_i64 (by omega) (by omega)];omega
  have ib:IntKind.i64.wrap ((i:Int)+1)=((i+1:Nat):Int):=by rw[wrap_i64 (by omega) (by omega)];omega
  have qQ:=ba (i+1) f (by omega) (by omega)
  rw[uA]
  by_cases c:i+w.length≤223
  ·have bj:decide (((i+w.length:Nat):Int)≤223)=true:=decide_eq_true (by omega)
   have es:=aa0 (h:=h) (s:=y9) (a:=i) (b:=i+w.length) (by omega) (by rw[S8];exact c)
   rw[show i+w.length-i=w.length by omega] at es
   rw[if_pos c]
   simp only[wi,BW,e7,ib,bj,aU,es,aO,bC,qQ]
   cases e:((y9.drop i).take w.length==w)<;>simp[al]
  ·have bj:decide (((i+w.length:Nat):Int)≤223)=false:=decide_eq_false (by omega)
   rw[if_neg c]
   simp only[wi,BW,e7,bj,a7,Bool.false_eq_true,if_false]
theorem age(j:Nat){s:Lu}{h:Lo}(a6:s.length≤4611686018427387904):∀(m i f:Nat),s.length=i+m→m<f→ys j f s s.length i h=if 32∈s.drop i then some (.ret,[.bool false],h) else some (.exit 0,[],h):=by
 intro m
 induction m with
 |zero=>
  intro i f hm aS
  obtain⟨f,rfl⟩:∃g,f=g+1:=⟨f-1,by omega⟩
  have bj:decide ((i:Int)<(s.length:Int))=false:=decide_eq_false (by omega)
  have bd:s.drop i=[]:=List.drop_of_length_le (by omega)
  simp only[ys,E5,bj,a7,bd,List.not_mem_nil,if_false]
 |succ m ba=>
  intro i f hm aS
  obtain⟨f,rfl⟩:∃g,f=g+1:=⟨f-1,by omega⟩
  have bN:i<s.length:=by omega
  have bj:decide ((i:Int)<(s.length:Int))=true:=decide_eq_true (by omega)
  have ib:IntKind.i64.wrap ((i:Int)+1)=((i+1:Nat):Int):=by rw[wrap_i64 (by omega) (by omega)];omega
  have qQ:=ba (i+1) f (by omega) (by omega)
  have fx:I (.mC (.c (.str s)) (.c (.int .i64 (i:Int)))) h=some (.int .u8 (s[i].toNat)):=EI (List.getElem?_eq_getElem bN)
  simp only[ys,E5,bj,aU,fx,aO,a1,ib,qQ]
  rw[List.drop_eq_getElem_cons bN]
  by_cases c:s[i]=32
  ·have aV:(((s[i].toNat:Nat):Int)==32)=true:=by rw[c];rfl
   rw[aV,aU,if_pos (by simp[c])]
  ·have aV:(((s[i].toNat:Nat):Int)==32)=false:=by
    have:((s[i].toNat:Nat):Int)≠32:=fun z=>c (UInt8.toNat_inj.1 (by show s[i].toNat=32;omega))
    simpa using this
   rw[aV,a7]
   have:(32∈s[i]::s.drop (i+1))↔32∈s.drop (i+1):=by
    simp only[List.mem_cons]
    exact⟨fun z=>z.elim (fun y=>absurd y.symm c) id, .inr⟩
   simp only[this]
theorem agf{j:Nat}{s:Lu}{h:Lo}(aS:300<j)(y_:s.length<j)(a6:s.length≤1000000000000000):E6 j s h=some (.bool (lx s),h):=by
 unfold E6
 cases s with
 |nil=>rfl
 |cons b t=>
  generalize hP:b::t=s at*
  have e6:(s==([]:Lu))=false:=by rw[←hP];rfl
  have y5:=age j (h:=h) (s:=s) (by omega) s.length 0 j (by omega) y_
  have z:((0:Nat):Int)=0:=rfl
  rw[z,List.drop_zero] at y5
  rw[e6,a7,y5]
  by_cases c:32∈s
  ·have B7:lx s=false:=by
    cases e:lx s with
    |false=>rfl
    |true=>exact absurd c (S9 s ((S_ s).1 e))
   rw[if_pos c,gY,B7]
   rfl
  ·rw[if_neg c,gY]
   have agh:I (.bin .add (.c (.str [32])) (.c (.str s))) h=some (.str ([32]++s)):=QW (by simp;omega)
   have agi:I (.bin .add (.c (.str ([32]++s))) (.c (.str [32]))) h=some (.str ([32]++s++ [32])):=QW (by simp;omega)
   have Tb:=agd j (h:=h) (w:=[32]++s++ [32]) (by simp;omega) 224 0 j rfl (by omega)
   rw[z,show([32]++s++ [32]:Lu)=32::s++ [32] from rfl,agc c] at Tb
   simp only[decide_true,aU,a5,agh,agi,aO,bC]
   rw[show([32]++s++ [32]:Lu)=32::s++ [32] from rfl,Tb]
   cases lx s<;>rfl
theorem Tc(j:Nat):∀n,BV j n=rG j n
 |0=>rfl
 |n+1=>by
  show Lw j (BV j n)=yl j (rG j n)
  rw[Tc j n];rfl
theorem agj(j:Nat)(s:Lu)(h:Lo):E4 j s h=wc j s h:=by
 unfold E4 wc
 rw[Tc]
end Go.Proofs.YtjpjeilfmjdhcaaGreat.ep
