/- Loops that look for a member that isn't so; slices.ContainsFunc. Printed by my own tool. No condition. -/
import Derived.Test.YtjpjeilfmjdhcaaGreatA24
set_option maxRecDepth 100000
set_option linter.unusedVariables false
set_option linter.unusedSimpArgs false
set_option linter.unnecessarySimpa false
namespace Go.Proofs.YtjpjeilfmjdhcaaGreat.h3
open Go E ep eI fq fw fC f_ hE
theorem aoi{α:Type}{xs:List α}{q:α→Bool}{L:Nat→Int→Lo→a9}{aI:Lo}{k:Nat}{aK:Lv→Prop}
  (he:∀n h,L (n+1) (xs.length:Int) h=some (.exit k,[],h))
  (a6:∀(n i:Nat) (aw:i<xs.length) (h:Lo) (Q:cg→Lv→Lo→Prop),ai aI h []→(q xs[i]=true→∀aa,ai aI aa []→aL (L n ((i+1:Nat):Int) aa) Q)→(q xs[i]=false→∀ak aa,aK ak→ai aI aa []→Q .ret ak aa)→aL (L (n+1) (i:Int) h) Q):
  ∀(m i n:Nat) (h:Lo),xs.length=i+m→m<n→ai aI h []→aL (L n (i:Int) h) fun x ak aa=>ai aI aa []∧if(xs.drop i).all q=true then x= .exit k∧ak=[] else x= .ret∧aK ak:=by
 intro m
 induction m with
 |zero=>
  intro i n h hm bd aq
  obtain⟨n,rfl⟩:∃g,n=g+1:=⟨n-1,by omega⟩
  obtain rfl:i=xs.length:=by omega
  rw[he]
  refine aL.some ⟨aq, ?_⟩
  rw[List.drop_of_length_le (Nat.le_refl _),List.all_nil,if_pos rfl]
  exact⟨rfl,rfl⟩
 |succ m ba=>
  intro i n h hm bd aq
  obtain⟨n,rfl⟩:∃g,n=g+1:=⟨n-1,by omega⟩
  have aw:i<xs.length:=by omega
  refine a6 n i aw h _ aq (fun bm aa gu=> ?_) (fun bm ak aa r gu=> ?_)
  ·rw[List.drop_eq_getElem_cons aw,List.all_cons,bm,Bool.true_and]
   exact ba (i+1) n aa (by omega) (by omega) gu
  ·rw[List.drop_eq_getElem_cons aw,List.all_cons,bm,Bool.false_and,if_neg (by decide)]
   exact⟨gu,rfl,r⟩
theorem mw{α:Type}{xs:List α}{q:α→Bool}{L:Nat→Int→Lo→a9}{aI:Lo}{k n:Nat}{aK:Lv→Prop}(bd:xs.length<n)
  (he:∀n h,L (n+1) (xs.length:Int) h=some (.exit k,[],h))
  (a6:∀(n i:Nat) (aw:i<xs.length) (h:Lo) (Q:cg→Lv→Lo→Prop),ai aI h []→(q xs[i]=true→∀aa,ai aI aa []→aL (L n ((i+1:Nat):Int) aa) Q)→(q xs[i]=false→∀ak aa,aK ak→ai aI aa []→Q .ret ak aa)→aL (L (n+1) (i:Int) h) Q):
  aL (L n 0 aI) fun x ak aa=>ai aI aa []∧if xs.all q=true then x= .exit k∧ak=[] else x= .ret∧aK ak:=
 aoi (q:=q) he a6 xs.length 0 n aI (by omega) bd (ai.refl _ _)
theorem jT{i n:Nat}(h:i<n):decide ((i:Int)<(n:Int))=true:=decide_eq_true (by omega)
theorem jU(n:Nat):decide ((n:Int)<(n:Int))=false:=decide_eq_false (by omega)
theorem jV{i n:Nat}(h:i<n)(bd:n≤1000000000000):IntKind.i64.wrap ((i:Int)+1)=((i+1:Nat):Int):=by rw[wrap_i64 (by omega) (by omega)];simp
section
variable {av:Nat→Prop} {h:Lo} {a:V} {i:Nat}
theorem aC.I4{xs:List X}(l:aC 8 bL av h a xs)(aw:i<xs.length):∃p n aG ah,I (.cH 8 (.c a) (.c (.int .i64 (i:Int)))) h=some p∧I (.bp 8 (.c p)) h=some (.agg (bH n aG))∧xs[i]= .mk n ah∧c6 av h (.agg (bH n aG)) (.mk n ah):=by
 obtain⟨es,s,-,-,he⟩:=l
 obtain⟨e,aV,n,aG,ah,au,rfl,cp⟩:=he i aw
 obtain⟨p,cF,cW⟩:=s.kn (k:=(i:Int)) (cs:=bH n aG) (by omega) (by simpa using aV) rfl (by decide)
 exact⟨p,n,aG,ah,cF,cW,au,cp⟩
theorem aC.aoj{xs:List ij}(l:aC 9 eC av h a xs)(aw:i<xs.length):∃p n aG ah,I (.cH 9 (.c a) (.c (.int .i64 (i:Int)))) h=some p∧I (.bp 9 (.c p)) h=some (.agg (fT n aG (.str xs[i].n)))∧xs[i].e= .mk n ah∧c6 av h (.agg (bH n aG)) (.mk n ah):=by
 obtain⟨es,s,-,-,he⟩:=l
 obtain⟨e,aV,n,aG,ah,au,rfl,cp⟩:=he i aw
 obtain⟨p,cF,cW⟩:=s.kn (k:=(i:Int)) (cs:=fT n aG (.str xs[i].n)) (by omega) (by simpa using aV) rfl (by decide)
 exact⟨p,n,aG,ah,cF,cW,au,cp⟩
theorem aC.aok{xs:List iH}(l:aC 9 eS av h a xs)(aw:i<xs.length):∃p n aG ah,I (.cH 9 (.c a) (.c (.int .i64 (i:Int)))) h=some p∧I (.bp 9 (.c p)) h=some (.agg (fT n aG (.bool xs[i].d)))∧xs[i].e= .mk n ah∧c6 av h (.agg (bH n aG)) (.mk n ah):=by
 obtain⟨es,s,-,-,he⟩:=l
 obtain⟨e,aV,n,aG,ah,au,rfl,cp⟩:=he i aw
 obtain⟨p,cF,cW⟩:=s.kn (k:=(i:Int)) (cs:=fT n aG (.bool xs[i].d)) (by omega) (by simpa using aV) rfl (by decide)
 exact⟨p,n,aG,ah,cF,cW,au,cp⟩
theorem aC.aol{xs:List h7}(l:aC 9 fs av h a xs)(aw:i<xs.length):∃p n aG ah,I (.cH 9 (.c a) (.c (.int .i64 (i:Int)))) h=some p∧I (.bp 9 (.c p)) h=some (.agg (jj xs[i].c n aG))∧xs[i].e= .mk n ah∧c6 av h (.agg (bH n aG)) (.mk n ah):=by
 obtain⟨es,s,-,-,he⟩:=l
 obtain⟨e,aV,n,aG,ah,au,rfl,cp⟩:=he i aw
 obtain⟨p,cF,cW⟩:=s.kn (k:=(i:Int)) (cs:=jj xs[i].c n aG) (by omega) (by simpa using aV) rfl (by decide)
 exact⟨p,n,aG,ah,cF,cW,au,cp⟩
theorem aC.Wh{xs:List hB}(l:aC 10 eM av h a xs)(aw:i<xs.length):∃p n aG ah,I (.cH 10 (.c a) (.c (.int .i64 (i:Int)))) h=some p∧I (.bp 10 (.c p)) h=some (.agg (h8 xs[i].t xs[i].n n aG))∧xs[i].on= .mk n ah∧c6 av h (.agg (bH n aG)) (.mk n ah):=by
 obtain⟨es,s,-,-,he⟩:=l
 obtain⟨e,aV,n,aG,ah,au,rfl,cp⟩:=he i aw
 obtain⟨p,cF,cW⟩:=s.kn (k:=(i:Int)) (cs:=h8 xs[i].t xs[i].n n aG) (by omega) (by simpa using aV) rfl (by decide)
 exact⟨p,n,aG,ah,cF,cW,au,cp⟩
theorem aC.N9{xs:List jz}(l:aC 4 fI av h a xs)(aw:i<xs.length):∃p,I (.cH 4 (.c a) (.c (.int .i64 (i:Int)))) h=some p∧I (.bp 4 (.c p)) h=some (.agg (la xs[i].n xs[i].k xs[i].iG xs[i].un)):=by
 obtain⟨es,s,-,-,he⟩:=l
 obtain⟨e,aV,au⟩:=he i aw
 subst au
 exact s.kn (k:=(i:Int)) (cs:=la xs[i].n xs[i].k xs[i].iG xs[i].un) (by omega) (by simpa using aV) rfl (by decide)
theorem aC.I5{xs:List (Lu)}(l:aC 1 fM av h a xs)(aw:i<xs.length):∃p,I (.cH 1 (.c a) (.c (.int .i64 (i:Int)))) h=some p∧I (.ag (.c p)) h=some (.str xs[i]):=by
 obtain⟨es,s,-,-,he⟩:=l
 obtain⟨e,aV,au⟩:=he i aw
 subst au
 exact s.hX (k:=(i:Int)) (e:= .str xs[i]) (by omega) (by simpa using aV) rfl
theorem aC.atR{xs:List (List X)}(l:aC 1 (cl 8 bL) av h a xs)(aw:i<xs.length):∃p e,I (.cH 1 (.c a) (.c (.int .i64 (i:Int)))) h=some p∧I (.ag (.c p)) h=some e∧aC 8 bL av h e xs[i]:=by
 obtain⟨es,s,-,-,he⟩:=l
 obtain⟨e,aV,au⟩:=he i aw
 obtain⟨p,cF,cW⟩:=s.hX (k:=(i:Int)) (e:=e) (by omega) (by simpa using aV) (aC.a8 au).1
 exact⟨p,e,cF,cW,au⟩
end
theorem aom{j:Nat}{ay:bK}{f:V}{av:Nat→Prop}{h:Lo}{a:V}{xs:List X}{q:X→Bool}(l:aC 8 bL av h a xs)(ax:xs.length≤1000000000000)(aS:xs.length<j)
  (hm:∀(h:Lo) (cJ:V) (x:X),x∈xs→bL.aK av h cJ x→aj (ay f [cJ] h) fun v aa=>v= .bool (!(q x))∧ai h aa []):aj (yv j ay a f h) fun v aa=>v= .bool (!(xs.all q))∧ai h aa []:=by
 simp only[yv,E8,l.len,aO,a1]
 have eT:=mw (xs:=xs) (q:=q) (L:=fun n i h=>sY j ay n a f xs.length i h) (aI:=h) (k:=0) (n:=j) (aK:=fun ak=>∃o:Nat,ak=[.int .i64 (o:Int)]) aS
  (fun n h=>by simp only[sY,yu,jU,a7]) (by
   intro n i aw ae Q k eE eP
   obtain⟨p,n,aG,ah,cF,cW,au,cp⟩:=aC.I4 (l.aq k) aw
   simp only[sY,yu,jT aw,aU,cF,cW,aO,aN,aZ,bn,bl,id_eq,bP,bq,a1,bC,a0,a5,jV aw ax]
   refine aL.ad (hm ae (.agg (bH n aG)) xs[i] (List.getElem_mem aw) ⟨n,aG,ah,au,rfl,cp⟩) ?_
   rintro v aQ ⟨rfl,aT⟩
   rw[a0]
   cases bm:q xs[i] with
   |true=>exact eE bm _ (k.bs aT)
   |false=>exact aL.some (eP bm _ _ ⟨i,rfl⟩ (k.bs aT)))
 refine aj.ad (Q:=fun v aa=>ai h aa []∧∃o:Int,v= .int .i64 o∧decide (o≥0)= !(xs.all q)) (aj.bO eT ?_) ?_
 ·rintro x ak R ⟨ar,r⟩
  cases eW:xs.all q with
  |true=>
   rw[eW,if_pos rfl] at r
   obtain⟨rfl,rfl⟩:=r
   simp only[decide_true,aU,a5]
   exact aj.some ⟨ar,_,rfl,rfl⟩
  |false=>
   rw[eW,if_neg (by decide)] at r
   obtain⟨rfl,o,rfl⟩:=r
   simp only[show decide (cg.ret=cg.exit 0)=false from rfl,a7,decide_true,aU,aO,aN,aZ,bn,bl,id_eq,bP,bq,a1,bC,a0,a5]
   exact aj.some ⟨ar,_,rfl,decide_eq_true (by omega)⟩
 ·rintro v R ⟨ar,o,rfl,U⟩
  rw[a1,U]
  exact aj.some ⟨rfl,ar⟩
theorem aon{j:Nat}{ay:bK}{f:V}{av:Nat→Prop}{h:Lo}{a:V}{xs:List jz}{q:jz→Bool}(l:aC 4 fI av h a xs)(ax:xs.length≤1000000000000)(aS:xs.length<j)
  (hm:∀(h:Lo) (cJ:V) (x:jz),x∈xs→fI.aK av h cJ x→aj (ay f [cJ] h) fun v aa=>v= .bool (!(q x))∧ai h aa []):aj (H7 j ay a f h) fun v aa=>v= .bool (!(xs.all q))∧ai h aa []:=by
 simp only[H7,NO,l.len,aO,a1]
 have eT:=mw (xs:=xs) (q:=q) (L:=fun n i h=>Ag j ay n a f xs.length i h) (aI:=h) (k:=0) (n:=j) (aK:=fun ak=>∃o:Nat,ak=[.int .i64 (o:Int)]) aS
  (fun n h=>by simp only[Ag,H6,jU,a7]) (by
   intro n i aw ae Q k eE eP
   obtain⟨p,cF,cW⟩:=aC.N9 (l.aq k) aw
   simp only[Ag,H6,jT aw,aU,cF,cW,aO,aN,aZ,bn,bl,id_eq,bP,bq,a1,bC,a0,a5,jV aw ax]
   refine aL.ad (hm ae (.agg (la xs[i].n xs[i].k xs[i].iG xs[i].un)) xs[i] (List.getElem_mem aw) rfl) ?_
   rintro v aQ ⟨rfl,aT⟩
   rw[a0]
   cases bm:q xs[i] with
   |true=>exact eE bm _ (k.bs aT)
   |false=>exact aL.some (eP bm _ _ ⟨i,rfl⟩ (k.bs aT)))
 refine aj.ad (Q:=fun v aa=>ai h aa []∧∃o:Int,v= .int .i64 o∧decide (o≥0)= !(xs.all q)) (aj.bO eT ?_) ?_
 ·rintro x ak R ⟨ar,r⟩
  cases eW:xs.all q with
  |true=>
   rw[eW,if_pos rfl] at r
   obtain⟨rfl,rfl⟩:=r
   simp only[decide_true,aU,a5]
   exact aj.some ⟨ar,_,rfl,rfl⟩
  |false=>
   rw[eW,if_neg (by decide)] at r
   obtain⟨rfl,o,rfl⟩:=r
   simp only[show decide (cg.ret=cg.exit 0)=false from rfl,a7,decide_true,aU,aO,aN,aZ,bn,bl,id_eq,bP,bq,a1,bC,a0,a5]
   exact aj.some ⟨ar,_,rfl,decide_eq_true (by omega)⟩
 ·rintro v R ⟨ar,o,rfl,U⟩
  rw[a1,U]
  exact aj.some ⟨rfl,ar⟩
theorem aoo{j:Nat}{ay:bK}{f:V}{av:Nat→Prop}{h:Lo}{a:V}{xs:List (Lu)}{q:(Lu)→Bool}(l:aC 1 fM av h a xs)(ax:xs.length≤1000000000000)(aS:xs.length<j)
  (hm:∀(h:Lo) (cJ:V) (x:(Lu)),x∈xs→fM.aK av h cJ x→aj (ay f [cJ] h) fun v aa=>v= .bool (!(q x))∧ai h aa []):aj (H9 j ay a f h) fun v aa=>v= .bool (!(xs.all q))∧ai h aa []:=by
 simp only[H9,ym,l.len,aO,a1]
 have eT:=mw (xs:=xs) (q:=q) (L:=fun n i h=>rH j ay n a f xs.length i h) (aI:=h) (k:=0) (n:=j) (aK:=fun ak=>∃o:Nat,ak=[.int .i64 (o:Int)]) aS
  (fun n h=>by simp only[rH,sU,jU,a7]) (by
   intro n i aw ae Q k eE eP
   obtain⟨p,cF,cW⟩:=aC.I5 (l.aq k) aw
   simp only[rH,sU,jT aw,aU,cF,cW,aO,aN,aZ,bn,bl,id_eq,bP,bq,a1,bC,a0,a5,jV aw ax]
   refine aL.ad (hm ae (.str xs[i]) xs[i] (List.getElem_mem aw) rfl) ?_
   rintro v aQ ⟨rfl,aT⟩
   rw[a0]
   cases bm:q xs[i] with
   |true=>exact eE bm _ (k.bs aT)
   |false=>exact aL.some (eP bm _ _ ⟨i,rfl⟩ (k.bs aT)))
 refine aj.ad (Q:=fun v aa=>ai h aa []∧∃o:Int,v= .int .i64 o∧decide (o≥0)= !(xs.all q)) (aj.bO eT ?_) ?_
 ·rintro x ak R ⟨ar,r⟩
  cases eW:xs.all q with
  |true=>
   rw[eW,if_pos rfl] at r
   obtain⟨rfl,rfl⟩:=r
   simp only[decide_true,aU,a5]
   exact aj.some ⟨ar,_,rfl,rfl⟩
  |false=>
   rw[eW,if_neg (by decide)] at r
   obtain⟨rfl,o,rfl⟩:=r
   simp only[show decide (cg.ret=cg.exit 0)=false from rfl,a7,decide_true,aU,aO,aN,aZ,bn,bl,id_eq,bP,bq,a1,bC,a0,a5]
   exact aj.some ⟨ar,_,rfl,decide_eq_true (by omega)⟩
 ·rintro v R ⟨ar,o,rfl,U⟩
  rw[a1,U]
  exact aj.some ⟨rfl,ar⟩
theorem aop{j:Nat}{ay:bK}{f:V}{av:Nat→Prop}{h:Lo}{a:V}{xs:List (List X)}{q:(List X)→Bool}(l:aC 1 (cl 8 bL) av h a xs)(ax:xs.length≤1000000000000)(aS:xs.length<j)
  (hm:∀(h:Lo) (cJ:V) (x:(List X)),x∈xs→aC 8 bL av h cJ x→aj (ay f [cJ] h) fun v aa=>v= .bool (!(q x))∧ai h aa []):aj (Ii j ay a f h) fun v aa=>v= .bool (!(xs.all q))∧ai h aa []:=by
 simp only[Ii,NR,l.len,aO,a1]
 have eT:=mw (xs:=xs) (q:=q) (L:=fun n i h=>Ah j ay n a f xs.length i h) (aI:=h) (k:=0) (n:=j) (aK:=fun ak=>∃o:Nat,ak=[.int .i64 (o:Int)]) aS
  (fun n h=>by simp only[Ah,Ih,jU,a7]) (by
   intro n i aw ae Q k eE eP
   obtain⟨p,e,cF,cW,t⟩:=aC.atR (l.aq k) aw
   simp only[Ah,Ih,jT aw,aU,cF,cW,aO,aN,aZ,bn,bl,id_eq,bP,bq,a1,bC,a0,a5,jV aw ax]
   refine aL.ad (hm ae (e) xs[i] (List.getElem_mem aw) t) ?_
   rintro v aQ ⟨rfl,aT⟩
   rw[a0]
   cases bm:q xs[i] with
   |true=>exact eE bm _ (k.bs aT)
   |false=>exact aL.some (eP bm _ _ ⟨i,rfl⟩ (k.bs aT)))
 refine aj.ad (Q:=fun v aa=>ai h aa []∧∃o:Int,v= .int .i64 o∧decide (o≥0)= !(xs.all q)) (aj.bO eT ?_) ?_
 ·rintro x ak R ⟨ar,r⟩
  cases eW:xs.all q with
  |true=>
   rw[eW,if_pos rfl] at r
   obtain⟨rfl,rfl⟩:=r
   simp only[decide_true,aU,a5]
   exact aj.some ⟨ar,_,rfl,rfl⟩
  |false=>
   rw[eW,if_neg (by decide)] at r
   obtain⟨rfl,o,rfl⟩:=r
   simp only[show decide (cg.ret=cg.exit 0)=false from rfl,a7,decide_true,aU,aO,aN,aZ,bn,bl,id_eq,bP,bq,a1,bC,a0,a5]
   exact aj.some ⟨ar,_,rfl,decide_eq_true (by omega)⟩
 ·rintro v R ⟨ar,o,rfl,U⟩
  rw[a1,U]
  exact aj.some ⟨rfl,ar⟩
theorem aoq{j:Nat}{ay:bK}{f:V}{av:Nat→Prop}{h:Lo}{a:V}{xs:List h7}{q:h7→Bool}(l:aC 9 fs av h a xs)(ax:xs.length≤1000000000000)(aS:xs.length<j)
  (hm:∀(h:Lo) (cJ:V) (x:h7),x∈xs→fs.aK av h cJ x→aj (ay f [cJ] h) fun v aa=>v= .bool (!(q x))∧ai h aa []):aj (Il j ay a f h) fun v aa=>v= .bool (!(xs.all q))∧ai h aa []:=by
 simp only[Il,NT,l.len,aO,a1]
 have eT:=mw (xs:=xs) (q:=q) (L:=fun n i h=>Ai j ay n a f xs.length i h) (aI:=h) (k:=0) (n:=j) (aK:=fun ak=>∃o:Nat,ak=[.int .i64 (o:Int)]) aS
  (fun n h=>by simp only[Ai,Ik,jU,a7]) (by
   intro n i aw ae Q k eE eP
   obtain⟨p,n,aG,ah,cF,cW,au,cp⟩:=aC.aol (l.aq k) aw
   simp only[Ai,Ik,jT aw,aU,cF,cW,aO,aN,aZ,bn,bl,id_eq,bP,bq,a1,bC,a0,a5,jV aw ax]
   refine aL.ad (hm ae (.agg (jj xs[i].c n aG)) xs[i] (List.getElem_mem aw) ⟨n,aG,ah,au,rfl,cp⟩) ?_
   rintro v aQ ⟨rfl,aT⟩
   rw[a0]
   cases bm:q xs[i] with
   |true=>exact eE bm _ (k.bs aT)
   |false=>exact aL.some (eP bm _ _ ⟨i,rfl⟩ (k.bs aT)))
 refine aj.ad (Q:=fun v aa=>ai h aa []∧∃o:Int,v= .int .i64 o∧decide (o≥0)= !(xs.all q)) (aj.bO eT ?_) ?_
 ·rintro x ak R ⟨ar,r⟩
  cases eW:xs.all q with
  |true=>
   rw[eW,if_pos rfl] at r
   obtain⟨rfl,rfl⟩:=r
   simp only[decide_true,aU,a5]
   exact aj.some ⟨ar,_,rfl,rfl⟩
  |false=>
   rw[eW,if_neg (by decide)] at r
   obtain⟨rfl,o,rfl⟩:=r
   simp only[show decide (cg.ret=cg.exit 0)=false from rfl,a7,decide_true,aU,aO,aN,aZ,bn,bl,id_eq,bP,bq,a1,bC,a0,a5]
   exact aj.some ⟨ar,_,rfl,decide_eq_true (by omega)⟩
 ·rintro v R ⟨ar,o,rfl,U⟩
  rw[a1,U]
  exact aj.some ⟨rfl,ar⟩
end Go.Proofs.YtjpjeilfmjdhcaaGreat.h3
namespace Go.Proofs.YtjpjeilfmjdhcaaGreat.h3
open Go E E.K ep eI fq fw fC f_ hE
section
variable {b c p:Bool} {aI h:Lo}
theorem hG{K:a9}(k:ai aI h [])(eY:b=false→aL K fun x ak aa=>x= .normal∧ak=[.bool c]∧ai aI aa []):aL (al b (some (.normal,[.bool true],h)) K) fun x ak aa=>x= .normal∧ak=[.bool (b||c)]∧ai aI aa []:=by
 cases b with
 |true=>exact aL.some ⟨rfl,rfl,k⟩
 |false=>exact eY rfl
theorem u5(k:ai aI h []):aL (some (.normal,[.bool b],h)) fun x ak aa=>x= .normal∧ak=[.bool b]∧ai aI aa []:=aL.some ⟨rfl,rfl,k⟩
theorem I6{K:a9}(k:ai aI h [])(eY:b=true→aL K fun x ak aa=>ai aI aa []∧if c=true then x= .normal∧ak=[] else x= .ret∧ak=[.bool false]):aL (al (!b) (some (.ret,[.bool false],h)) K) fun x ak aa=>ai aI aa []∧if(b&&c)=true then x= .normal∧ak=[] else x= .ret∧ak=[.bool false]:=by
 cases b with
 |false=>exact aL.some ⟨k,by rw[Bool.false_and,if_neg (by decide)];exact⟨rfl,rfl⟩⟩
 |true=>exact eY rfl
theorem I7(k:ai aI h []):aL (some (.normal,[],h)) fun x ak aa=>ai aI aa []∧if true=true then x= .normal∧ak=[] else x= .ret∧ak=[.bool false]:=aL.some ⟨k,by rw[if_pos rfl];exact⟨rfl,rfl⟩⟩
theorem j0{k:Nat}{ri:a9}{K:Lo→OvL}(eT:aL ri fun x ak aa=>ai aI aa []∧if p=true then x= .exit k∧ak=[] else x= .ret∧ak=[.bool false])
  (eY:p=true→∀aa,ai aI aa []→aj (K aa) fun v ae=>v= .bool c∧ai aI ae []):
  aj (bO ri fun x ak aa=>al (decide (x= .exit k)) (dT ak (K aa)) (al (decide (x= .ret)) (aZ [a4] ak fun e=>some (.bool e,aa)) none)) fun v aa=>v= .bool (p&&c)∧ai aI aa []:=by
 refine aj.bO eT ?_
 rintro x ak R ⟨ar,r⟩
 cases p with
 |true=>
  rw[if_pos rfl] at r
  obtain⟨rfl,rfl⟩:=r
  simp only[decide_true,aU,a5]
  exact eY rfl R ar
 |false=>
  rw[if_neg (by decide)] at r
  obtain⟨rfl,rfl⟩:=r
  have:decide (cg.ret=cg.exit k)=false:=decide_eq_false (by simp)
  simp only[this,a7,decide_true,aU,aN,aZ,bn,bl,id_eq,bq,a0,a5]
  exact aj.some ⟨rfl,ar⟩
theorem Wi{ri:a9}{K:Lo→OvL}(eT:aL ri fun x ak aa=>ai aI aa []∧if p=true then x= .normal∧ak=[] else x= .ret∧ak=[.bool false])
  (eY:p=true→∀aa,ai aI aa []→aj (K aa) fun v ae=>v= .bool c∧ai aI ae []):
  aj (bO ri fun x ak aa=>al (decide (x= .ret)) (aZ [a4] ak fun e=>some (.bool e,aa)) (al (decide (x= .normal)) (dT ak (K aa)) none)) fun v aa=>v= .bool (p&&c)∧ai aI aa []:=by
 refine aj.bO eT ?_
 rintro x ak R ⟨ar,r⟩
 cases p with
 |true=>
  rw[if_pos rfl] at r
  obtain⟨rfl,rfl⟩:=r
  simp only[show decide (cg.normal=cg.ret)=false from rfl,a7,decide_true,aU,a5]
  exact eY rfl R ar
 |false=>
  rw[if_neg (by decide)] at r
  obtain⟨rfl,rfl⟩:=r
  simp only[decide_true,aU,aN,aZ,bn,bl,id_eq,bq,a0,a5]
  exact aj.some ⟨rfl,ar⟩
theorem Ay{ri:a9}{K:Bool→Lo→OvL}{Q:V→Lo→Prop}(eT:aL ri fun x ak aa=>x= .normal∧ak=[.bool b]∧ai aI aa [])
  (eY:∀aa,ai aI aa []→aj (K b aa) Q):
  aj (bO ri fun x ak aa=>al (decide (x= .normal)) (aZ [a4] ak fun e=>K e aa) none) Q:=by
 refine aj.bO eT ?_
 rintro x ak R ⟨rfl,rfl,ar⟩
 simp only[decide_true,aU,aN,aZ,bn,bl,id_eq,bq,a0,a5]
 exact eY R ar
theorem aor{ri:a9}{K:Bool→Lo→a9}{Q:cg→Lv→Lo→Prop}(eT:aL ri fun x ak aa=>x= .normal∧ak=[.bool b]∧ai aI aa [])
  (eY:∀aa,ai aI aa []→aL (K b aa) Q):
  aL (bO ri fun x ak aa=>al (decide (x= .normal)) (aZ [a4] ak fun e=>K e aa) none) Q:=by
 refine aL.bO eT ?_
 rintro x ak R ⟨rfl,rfl,ar⟩
 simp only[decide_true,aU,aN,aZ,bn,bl,id_eq,bq,a0,a5]
 exact eY R ar
theorem iR{aK:Lv→Prop}{K:a9}{Q:cg→Lv→Lo→Prop}(eP:b=false→Q .ret [.bool false] h)(eY:b=true→aL K Q):aL (al (!b) (some (.ret,[.bool false],h)) K) Q:=by
 cases b with
 |false=>exact aL.some (eP rfl)
 |true=>exact eY rfl
end
theorem tw{h:Lo}{id:Nat}{cs:Lv}(s:bY h id cs){o:Nat}{x:V}(U:o<cs.length)(an:x.cells=[x]∧x.scalar=true){K:Lo→a9}{Q:cg→Lv→Lo→Prop}(eY:∀aa,bY aa id (cs.set o x)→ai h aa [id]→aL (K aa) Q):
  aL (J (I (.af o (.c (.ptr id 0 0))) h) fun y=>ad (aB (.store 1 (.c y) (.c x)) h) fun _ R=>K R) Q:=by
 simp only[s.af,aO,Nat.zero_add]
 refine aL.ad (s.iK (o:=o) (x:=x) U an) ?_
 rintro u aa ⟨st,k⟩
 exact eY aa st k
theorem Dp(n:Nat):((n:Int)==0)=decide (n=0):=by
 by_cases h:n=0
 ·subst h;rfl
 ·rw[decide_eq_false h];simpa using h
def gW(x:X):Bool:=j9 8 x
def pB(c:jz):Bool:=fP c.n&&(c.k==1||c.k==2)
def pC(r:List X):Bool:= !(decide (r.length=0))&&r.all gW
def pD(a:h7):Bool:=fP a.c&&gW a.e
def pE(x:ij):Bool:=gW x.e&&(x.n==[]||fP x.n)
def qm(j:Nat)(l:List hB)(i:Nat):Bool:=match l[i]? with
 |some x=>fP x.t&&(fP x.n&&(if i=0 then hF j x.on nq else gW x.on))
 |none=>true
section
variable {j w:Nat} (aS:1000<j) (hw:w<j) (bV:w≤1000000000000)
include aS hw bV
theorem Dq{av:Nat→Prop}{h:Lo}{n:fg}{aG:V}{ah:List X}(g:e1 w (.mk n ah))(cp:c6 av h (.agg (bH n aG)) (.mk n ah)):aj (rM j n.k n.op n.eh n.ed n.ak n.dG n.c7 aG h) fun v aa=>v= .bool (gW (.mk n ah))∧ai h aa []:=by
 obtain⟨d,bj⟩:=g
 exact agE aS hw (by omega) bj cp
theorem Dr{av:Nat→Prop}{h:Lo}{n:fg}{aG:V}{ah:List X}(g:e1 w (.mk n ah))(cp:c6 av h (.agg (bH n aG)) (.mk n ah)):aj (rN j n.k n.op n.eh n.ed n.ak n.dG n.c7 aG h) fun v aa=>v= .bool (gW (.mk n ah))∧ai h aa []:=by
 obtain⟨d,bj⟩:=g
 exact agI aS hw (by omega) bj cp
theorem u6{h:Lo}{s:Lu}(a6:s.length≤w):aj (oz j s h) fun v aa=>v= .bool (fP s)∧ai h aa []:=Mq (by omega) (by omega) (by omega)
theorem u7{h:Lo}{s:Lu}(a6:s.length≤w):aj (oA j s h) fun v aa=>v= .bool (fP s)∧ai h aa []:=Mr (by omega) (by omega) (by omega)
theorem aos{av:Nat→Prop}{h:Lo}{cJ:V}{x:X}(g:e1 w x)(t:bL.aK av h cJ x):aj (H5 j [cJ] h) fun v aa=>v= .bool (!(gW x))∧ai h aa []:=by
 obtain⟨n,aG,ah,rfl,rfl,cp⟩:=t
 show aj (NL j n.k n.op n.eh n.ed n.ak n.dG n.c7 aG h) _
 simp only[NL]
 refine aj.ad (fO (cs:=bH n aG) (by simp only[List.all_cons,List.all_nil,gU cp];rfl)) ?_
 rintro p R ⟨rfl,st,ar⟩
 simp only[st.e4 (n:=8) rfl,aO,aN,aZ,bn,bl,id_eq,bP,bq,a1,bC,a0,a5]
 refine aj.ad (Dq aS hw bV g (cp.aq ar)) ?_
 rintro v ae ⟨rfl,aA⟩
 simp only[a0]
 exact aj.some ⟨rfl,ar.bs aA⟩
theorem I8{av:Nat→Prop}{h:Lo}{a:V}{xs:List X}(l:aC 8 bL av h a xs)(ax:xs.length≤w)(g:∀x,x∈xs→e1 w x):aj (xi j a h) fun v aa=>v= .bool (xs.all gW)∧ai h aa []:=by
 simp only[xi]
 refine aj.ad (aom (q:=gW) l (by omega) (by omega) (fun h cJ x au t=>show aj (H5 j [cJ] h) _ from aos aS hw bV (g x au) t)) ?_
 rintro v R ⟨rfl,ar⟩
 simp only[a0,Bool.not_not]
 exact aj.some ⟨rfl,ar⟩
theorem aot{h:Lo}{cJ:V}{x:jz}{av:Nat→Prop}(bd:x.n.length≤w)(t:fI.aK av h cJ x):aj (H8 j [cJ] h) fun v aa=>v= .bool (!(pB x))∧ai h aa []:=by
 have iV:cJ= .agg (la x.n x.k x.iG x.un):=t
 subst iV
 show aj (NP j x.n x.k x.iG x.un h) _
 simp only[NP]
 refine aj.ad (fO (cs:=la x.n x.k x.iG x.un) rfl) ?_
 rintro p R ⟨rfl,st,ar⟩
 simp only[st.af,st.ag (o:=0+0) (c:= .str x.n) rfl,aO,bC]
 refine aj.ad (u6 aS hw bV bd) ?_
 rintro v ae ⟨rfl,aA⟩
 have ds:=st.aq aA
 unfold pB
 simp only[a0,ds.af,ds.ag (o:=0+1) (c:= .int .i64 x.k) rfl,aO,a1]
 cases fP x.n with
 |false=>exact aj.some ⟨rfl,ar.bs aA⟩
 |true=>
  simp only[Bool.not_true,a7,Bool.true_and]
  cases R:x.k==1 with
  |true=>
   have:(x.k !=1)=false:=by simp[bne,R]
   rw[this,a7]
   exact aj.some ⟨by simp,ar.bs aA⟩
  |false=>
   have:(x.k !=1)=true:=by simp[bne,R]
   rw[this,aU]
   exact aj.some ⟨by simp[bne],ar.bs aA⟩
theorem aou{h:Lo}{cJ:V}{x:Lu}{av:Nat→Prop}(bd:x.length≤w)(t:fM.aK av h cJ x):aj (H_ j [cJ] h) fun v aa=>v= .bool (!(fP x))∧ai h aa []:=by
 have iV:cJ= .str x:=t
 subst iV
 show aj (NQ j x h) _
 simp only[NQ]
 refine aj.ad (u6 aS hw bV bd) ?_
 rintro v ae ⟨rfl,aA⟩
 simp only[a0]
 exact aj.some ⟨rfl,aA⟩
theorem aov{av:Nat→Prop}{h:Lo}{cJ:V}{x:List X}(l:aC 8 bL av h cJ x)(ax:x.length≤w)(g:∀y,y∈x→e1 w y):aj (Ij j [cJ] h) fun v aa=>v= .bool (!(pC x))∧ai h aa []:=by
 show aj (NS j cJ h) _
 simp only[NS,l.len,aO,a1,Dp]
 unfold pC
 cases bj:decide (x.length=0) with
 |true=>exact aj.some ⟨rfl,ai.refl _ _⟩
 |false=>
  simp only[a7,Bool.not_false,Bool.true_and]
  refine aj.ad (I8 aS hw bV l ax g) ?_
  rintro v ae ⟨rfl,aA⟩
  simp only[a0]
  exact aj.some ⟨rfl,aA⟩
theorem aow{av:Nat→Prop}{h:Lo}{cJ:V}{x:h7}(bd:x.c.length≤w)(g:e1 w x.e)(t:fs.aK av h cJ x):aj (Im j [cJ] h) fun v aa=>v= .bool (!(pD x))∧ai h aa []:=by
 obtain⟨n,aG,ah,au,rfl,cp⟩:=t
 show aj (NU j x.c n.k n.op n.eh n.ed n.ak n.dG n.c7 aG h) _
 simp only[NU]
 refine aj.ad (fO (cs:=jj x.c n aG) (by simp only[List.all_cons,List.all_nil,gU cp];rfl)) ?_
 rintro p R ⟨rfl,st,ar⟩
 simp only[st.af,st.ag (o:=0+0) (c:= .str x.c) rfl,aO,bC]
 refine aj.ad (u6 aS hw bV bd) ?_
 rintro v ae ⟨rfl,aA⟩
 have ds:=st.aq aA
 have c5:I (.bp 8 (.c (.ptr h.length 0 (0+1)))) ae=some (.agg (bH n aG)):=iE ds (o:=0+1) (n:=8) (by simp) (by decide)
 unfold pD
 simp only[a0,ds.af,c5,aO,aN,aZ,bn,bl,id_eq,bP,bq,a1,bC,a5]
 cases fP x.c with
 |false=>exact aj.some ⟨rfl,ar.bs aA⟩
 |true=>
  simp only[Bool.not_true,a7,Bool.true_and]
  rw[au] at g⊢
  refine aj.ad (Dq aS hw bV g (cp.aq (ar.bs aA))) ?_
  rintro v aQ ⟨rfl,aT⟩
  simp only[a0]
  exact aj.some ⟨rfl,(ar.bs aA).bs aT⟩
end
end Go.Proofs.YtjpjeilfmjdhcaaGreat.h3
namespace Go.Proofs.YtjpjeilfmjdhcaaGreat.h3
open Go E E.K ep eI fq fw fC f_ hE
theorem Wj(i:Nat):((i:Int)==0)=decide (i=0):=Dp i
theorem Wk(h:Lo):I (.build [.int .i64 0,(.str []), .int .i64 0, .int .i64 0,(.str []),(.str []),(.str []), .ab] []) h=some (.agg (bH hQ .ab)):=rfl
theorem Wl{av:Nat→Prop}{h:Lo}:c6 av h (.agg (bH hQ .ab)) nq:= .mk (dq.ab _ _) (fun o U=>nomatch U) rfl (fun i e p R=>by simp at R)
theorem Wm{j:Nat}{xs:List hB}{i:Nat}(aw:i<xs.length):qm j xs i=(fP xs[i].t&&(fP xs[i].n&&(if i=0 then hF j xs[i].on nq else gW xs[i].on))):=by
 unfold qm
 rw[List.getElem?_eq_getElem aw]
section
variable {j w:Nat} (aS:1000<j) (hw:w<j) (bV:w≤1000000000000)
include aS hw bV
theorem aox{av:Nat→Prop}{aI:Lo}{a:V}{xs:List ij}(l:aC 9 eC av aI a xs)(ax:xs.length≤w)(g:∀x,x∈xs→e1 w x.e)(pF:∀x,x∈xs→x.n.length≤w):
  aL (xj j j a xs.length 0 aI) fun x ak aa=>ai aI aa []∧if xs.all pE=true then x= .exit 0∧ak=[] else x= .ret∧ak=[.bool false]:=by
 refine mw (xs:=xs) (q:=pE) (L:=fun n i h=>xj j n a xs.length i h) (aK:=(·=[.bool false])) (by omega) (fun n h=>by simp only[xj,Ia,jU,a7]) ?_
 intro n i aw h Q k eE eP
 obtain⟨p,bU,aG,ah,cF,cW,au,cp⟩:=aC.aoj (l.aq k) aw
 have ge:=g _ (List.getElem_mem aw)
 rw[au] at ge
 simp only[xj,Ia,jT aw,aU,cF,cW,aO,aN,aZ,bn,bl,id_eq,bP,bq,a1,bC,a0,a5,jV aw (Nat.le_trans ax (by omega))]
 refine oS (n:=9) (fU:=(fT hQ .ab (.str []))) (aM:=fT bU aG (.str xs[i].n)) rfl rfl rfl (by decide) (by simp only[List.all_cons,List.all_nil,gU cp];rfl) fun R s1 ar=> ?_
 have c5:I (.bp 8 (.c (.ptr h.length 0 (0+0)))) R=some (.agg (bH bU aG)):=iE s1 (o:=0+0) (n:=8) (by simp) (by decide)
 simp only[s1.af,c5,aO,aN,aZ,bn,bl,id_eq,bP,bq,a1,bC,a0,a5]
 refine aL.ad (Dq aS hw bV ge (cp.aq ar)) ?_
 rintro v ae ⟨rfl,aA⟩
 have s2:=s1.aq aA
 have db:=(k.bs ar).bs aA
 have bm:pE xs[i]=(gW (.mk bU ah)&&(xs[i].n==[]||fP xs[i].n)):=by unfold pE;rw[au]
 simp only[a0,s2.af,s2.ag (o:=0+8) (c:= .str xs[i].n) rfl,aO,bC]
 refine iR (aK:=(·=[.bool false])) (fun aF=>eP (by rw[bm,aF,Bool.false_and]) _ _ rfl db) (fun aF=> ?_)
 rw[aF,Bool.true_and] at bm
 cases he:xs[i].n==[] with
 |true=>
  rw[he,Bool.true_or] at bm
  simp only[Bool.not_true,a7]
  exact eE bm _ db
 |false=>
  rw[he,Bool.false_or] at bm
  simp only[Bool.not_false,aU]
  refine aL.ad (u6 aS hw bV (pF _ (List.getElem_mem aw))) ?_
  rintro v aQ ⟨rfl,aT⟩
  simp only[a0]
  exact iR (aK:=(·=[.bool false])) (fun aF=>eP (by rw[bm,aF]) _ _ rfl (db.bs aT)) (fun aF=>eE (by rw[bm,aF]) _ (db.bs aT))
theorem aoy{av:Nat→Prop}{aI:Lo}{a:V}{xs:List iH}(l:aC 9 eS av aI a xs)(ax:xs.length≤w)(g:∀x,x∈xs→e1 w x.e):
  aL (xl j j a xs.length 0 aI) fun x ak aa=>ai aI aa []∧if xs.all (fun x=>gW x.e)=true then x= .exit 4∧ak=[] else x= .ret∧ak=[.bool false]:=by
 refine mw (xs:=xs) (q:=fun x=>gW x.e) (L:=fun n i h=>xl j n a xs.length i h) (aK:=(·=[.bool false])) (by omega) (fun n h=>by simp only[xl,Ie,jU,a7]) ?_
 intro n i aw h Q k eE eP
 obtain⟨p,bU,aG,ah,cF,cW,au,cp⟩:=aC.aok (l.aq k) aw
 have ge:=g _ (List.getElem_mem aw)
 rw[au] at ge eE eP
 simp only[xl,Ie,jT aw,aU,cF,cW,aO,aN,aZ,bn,bl,id_eq,bP,bq,a1,bC,a0,a5,jV aw (Nat.le_trans ax (by omega))]
 refine oS (n:=9) (fU:=(fT hQ .ab (.bool false))) (aM:=fT bU aG (.bool xs[i].d)) rfl rfl rfl (by decide) (by simp only[List.all_cons,List.all_nil,gU cp];rfl) fun R s1 ar=> ?_
 have c5:I (.bp 8 (.c (.ptr h.length 0 (0+0)))) R=some (.agg (bH bU aG)):=iE s1 (o:=0+0) (n:=8) (by simp) (by decide)
 simp only[s1.af,c5,aO,aN,aZ,bn,bl,id_eq,bP,bq,a1,bC,a0,a5]
 refine aL.ad (Dq aS hw bV ge (cp.aq ar)) ?_
 rintro v ae ⟨rfl,aA⟩
 have db:=(k.bs ar).bs aA
 simp only[a0]
 exact iR (aK:=(·=[.bool false])) (fun aF=>eP aF _ _ rfl db) (fun aF=>eE aF _ db)
theorem aoz{D:Nat}(b_:D≤j){av:Nat→Prop}{aI:Lo}{a:V}{xs:List hB}(l:aC 10 eM av aI a xs)(ax:xs.length≤w)(g:∀x,x∈xs→fY w D x.on)(pF:∀x,x∈xs→x.t.length≤w∧x.n.length≤w):
  aL (xk j j a xs.length 0 aI) fun x ak aa=>ai aI aa []∧if(List.range xs.length).all (qm j xs)=true then x= .exit 2∧ak=[] else x= .ret∧ak=[.bool false]:=by
 refine mw (xs:=List.range xs.length) (q:=qm j xs) (L:=fun n i h=>xk j n a xs.length i h) (aK:=(·=[.bool false])) (by simp;omega) (fun n h=>by simp only[List.length_range,xk,Ic,jU,a7]) ?_
 intro n i hn h Q k eE eP
 have aw:i<xs.length:=by simpa using hn
 simp only[List.getElem_range] at eE eP
 obtain⟨p,bU,aG,ah,cF,cW,au,cp⟩:=aC.Wh (l.aq k) aw
 have ge:=g _ (List.getElem_mem aw)
 obtain⟨N_,Oa⟩:=pF _ (List.getElem_mem aw)
 have bm:qm j xs i=(fP xs[i].t&&(fP xs[i].n&&(if i=0 then hF j (.mk bU ah) nq else gW (.mk bU ah)))):=by
  rw[Wm aw,au]
 rw[au] at ge
 simp only[xk,Ic,jT aw,aU,cF,cW,aO,aN,aZ,bn,bl,id_eq,bP,bq,a1,bC,a0,a5,jV aw (Nat.le_trans ax (by omega))]
 refine oS (n:=10) (fU:=(h8 [] [] hQ .ab)) (aM:=h8 xs[i].t xs[i].n bU aG) rfl rfl rfl (by decide) (by simp only[List.all_cons,List.all_nil,gU cp];rfl) fun R s1 ar=> ?_
 have hP:aL (Ib j (.ptr h.length 0 0) R) fun x ak aa=>ai R aa []∧if(fP xs[i].t&&(fP xs[i].n&&true))=true then x= .normal∧ak=[] else x= .ret∧ak=[.bool false]:=by
  simp only[Ib,s1.af,s1.ag (o:=0+0) (c:= .str xs[i].t) rfl,aO,bC]
  refine aL.ad (u6 aS hw bV N_) ?_
  rintro v ae ⟨rfl,aA⟩
  have s2:=s1.aq aA
  simp only[a0,s2.af,s2.ag (o:=0+1) (c:= .str xs[i].n) rfl,aO,bC]
  refine I6 aA fun _=> ?_
  refine aL.ad (u6 aS hw bV Oa) ?_
  rintro v aQ ⟨rfl,aT⟩
  simp only[a0]
  exact I6 (aA.bs aT) fun _=>I7 (aA.bs aT)
 refine aL.bO hP ?_
 rintro x ak ae ⟨aA,r⟩
 have s2:=s1.aq aA
 have db:=(k.bs ar).bs aA
 rw[Bool.and_true] at r
 cases bd:(fP xs[i].t&&fP xs[i].n) with
 |false=>
  rw[bd,if_neg (by decide)] at r
  obtain⟨rfl,rfl⟩:=r
  rw[←Bool.and_assoc,bd,Bool.false_and] at bm
  simp only[decide_true,aU,aN,aZ,bn,bl,id_eq,bq,a0,a5]
  exact aL.some (eP bm _ _ rfl db)
 |true=>
  rw[bd,if_pos rfl] at r
  obtain⟨rfl,rfl⟩:=r
  rw[←Bool.and_assoc,bd,Bool.true_and] at bm
  have c5:I (.bp 8 (.c (.ptr h.length 0 (0+2)))) ae=some (.agg (bH bU aG)):=iE s2 (o:=0+2) (n:=8) (by simp) (by decide)
  simp only[show decide (cg.normal=cg.ret)=false from rfl,decide_true,aU,a7,s2.af,c5,Wk,aO,Wj,aN,aZ,bn,bl,id_eq,bP,bq,a1,bC,a0,a5]
  have du:=cp.aq (ar.bs aA)
  by_cases aI:i=0
  ·rw[if_pos aI] at bm
   rw[decide_eq_true aI,aU]
   refine aL.ad (Ax (D:=D) hw (by omega) b_ (jS ge) du (Wl (av:=av))) ?_
   rintro v aQ ⟨rfl,aT⟩
   simp only[a0]
   refine iR (aK:=(·=[.bool false])) (fun aF=>eP (by rw[bm];exact aF) _ _ rfl (db.bs aT)) (fun aF=> ?_)
   simp only[Bool.not_true,a7]
   exact eE (by rw[bm];exact aF) _ (db.bs aT)
  ·rw[if_neg aI] at bm
   rw[decide_eq_false aI,a7,Bool.not_false,aU]
   refine aL.ad (Dq aS hw bV ⟨_,ge⟩ du) ?_
   rintro v aQ ⟨rfl,aT⟩
   simp only[a0]
   exact iR (aK:=(·=[.bool false])) (fun aF=>eP (by rw[bm];exact aF) _ _ rfl (db.bs aT)) (fun aF=>eE (by rw[bm];exact aF) _ (db.bs aT))
end
def tx(j:Nat)(q:k7):Bool:=
 q.items.all pE&&((List.range q.eH.length).all (qm j q.eH)&&(q.eV.all (fun x=>gW x.e)&&(q.star==decide (q.items.length=0)&&(decide (0<q.eH.length)&&(decide (-1≤q.b7)&&(decide (q.c1.length<2)&&(q.c1.all gW&&q.fh.all gW)))))))
theorem tz(n:Nat):decide ((n:Int)>0)=decide (0<n):=tr n 0
theorem aoA(n:Nat):decide ((n:Int)<2)=decide (n<2):=by
 by_cases h:n<2
 ·rw[decide_eq_true h,decide_eq_true (by omega)]
 ·rw[decide_eq_false h,decide_eq_false (by omega)]
theorem aoB(i:Int):decide (i≥-1)=decide (-1≤i):=rfl
theorem aoC{j w N D:Nat}(aS:1000<j)(hw:w<j)(bV:w≤1000000000000)(di:N≤w)(b_:D≤j){av:Nat→Prop}{h:Lo}{m:ea}(G:h9 w D N m)(M:l5 w m){a b c d e:V}
  (t1:aC 9 eC av h a m.q.items) (t2:aC 10 eM av h b m.q.eH) (t3:aC 8 bL av h c m.q.c1) (t4:aC 8 bL av h d m.q.fh) (t5:aC 9 eS av h e m.q.eV):
  aj (Ig j m.q.ch m.q.star a b c d e m.q.b7 h) fun v aa=>v= .bool (tx j m.q)∧ai h aa []:=by
 unfold tx
 simp only[Ig]
 refine aj.ad (fO (cs:=e2 m.q.ch m.q.star a b c d e m.q.b7) (qc (aC.a8 t1).2 (aC.a8 t2).2 (aC.a8 t3).2 (aC.a8 t4).2 (aC.a8 t5).2)) ?_
 rintro p R ⟨rfl,sp,ar⟩
 simp only[sp.af,sp.ag (o:=0+2) (c:=a) rfl,(t1.aq ar).len,aO,a1]
 refine kh ar (j0 (aox aS hw bV (t1.aq ar) (Nat.le_trans G.m4 di) (fun x au=>⟨D,G.items x au⟩) M.is) (fun _ ae aA=> ?_))
 have ku:=sp.aq aA
 have gA:=ar.bs aA
 simp only[ku.af,ku.ag (o:=0+3) (c:=b) rfl,(t2.aq gA).len,aO,a1]
 refine kh aA (j0 (aoz aS hw bV b_ (t2.aq gA) (Nat.le_trans G.m5 di) G.eH M.rs) (fun _ aQ aT=> ?_))
 have l7:=ku.aq aT
 have eA:=gA.bs aT
 simp only[l7.af,l7.ag (o:=0+6) (c:=e) rfl,(t5.aq eA).len,aO,a1]
 refine kh aT (j0 (aoy aS hw bV (t5.aq eA) (Nat.le_trans G.m6 di) (fun x au=>⟨D,G.eV x au⟩)) (fun _ bo bu=> ?_))
 have m7:=l7.aq bu
 have gM:=eA.bs bu
 simp only[m7.af,m7.ag (o:=0+1) (c:= .bool m.q.star) rfl,m7.ag (o:=0+2) (c:=a) rfl,m7.ag (o:=0+3) (c:=b) rfl,m7.ag (o:=0+7) (c:= .int .i64 m.q.b7) rfl,m7.ag (o:=0+4) (c:=c) rfl,(t1.aq gM).len,(t2.aq gM).len,(t3.aq gM).len,aO,a1,a0,Dp,tz,aoB,aoA]
 refine gp bu fun _=> ?_
 refine gp bu fun _=> ?_
 refine gp bu fun _=> ?_
 refine gp bu fun _=> ?_
 refine aj.ad (I8 aS hw bV (t3.aq gM) (Nat.le_trans G.nz di) (fun x au=>⟨D,G.oP x au⟩)) ?_
 rintro v bI ⟨rfl,bX⟩
 have rj:=m7.aq bX
 simp only[a0,rj.af,rj.ag (o:=0+5) (c:=d) rfl,aO]
 refine gp (bu.bs bX) fun _=> ?_
 refine aj.ad (I8 aS hw bV (t4.aq (gM.bs bX)) (Nat.le_trans G.nA di) (fun x au=>⟨D,G.fh x au⟩)) ?_
 rintro v cR ⟨rfl,cP⟩
 simp only[a0]
 exact kP ((bu.bs bX).bs cP)
end Go.Proofs.YtjpjeilfmjdhcaaGreat.h3
namespace Go.Proofs.YtjpjeilfmjdhcaaGreat.h3
open Go E E.K ep eI fq fw fC f_ hE
def tA(m:ea):ea:=
 if m.k=1 then{m with hk:=[]} else if m.k=2 then{m with on:=[],un:=false,keys:=[]} else if m.k=3∨m.k=10 then{m with q:=pv}
 else if m.k=7 then{m with rows:=[]} else if m.k=8 then{m with ft:=[],c1:=[]} else if m.k=9 then{m with c1:=[]} else m
def m8(m:ea):ea:=tA (if m.k≤9 then{m with name:=[]} else m)
def fc(av:Nat→Prop)(h:Lo)(id:Nat)(m:ea):Prop:=∃bF bD b8 cu cK a b c d e,bY h id (fb m.k m.name m.on m.un bF bD b8 cu cK m.q.ch m.q.star a b c d e m.q.b7)∧aC 4 fI av h bF m.hk∧aC 1 fM av h bD m.keys∧aC 1 (cl 8 bL) av h b8 m.rows∧aC 9 fs av h cu m.ft∧aC 8 bL av h cK m.c1∧
  aC 9 eC av h a m.q.items∧aC 10 eM av h b m.q.eH∧aC 8 bL av h c m.q.c1∧aC 8 bL av h d m.q.fh∧aC 9 eS av h e m.q.eV
theorem fc.aq{av:Nat→Prop}{h aa:Lo}{id:Nat}{m:ea}(t:fc av h id m)(k:ai h aa []):fc av aa id m:=by
 obtain⟨bF,bD,b8,cu,cK,a,b,c,d,e,s,de,cD,dd,dh,dZ,t1,t2,t3,t4,t5⟩:=t
 exact⟨bF,bD,b8,cu,cK,a,b,c,d,e,s.aq k,de.aq k,cD.aq k,dd.aq k,dh.aq k,dZ.aq k,t1.aq k,t2.aq k,t3.aq k,t4.aq k,t5.aq k⟩
theorem sl{av:Nat→Prop}{id:Nat}(cA:¬av id):∀o,o∈ [id]→¬av o:=fun o U=>by rw[List.mem_singleton.1 U];exact cA
theorem oK(s:Lu):(V.str s).cells=[.str s]∧(V.str s).scalar=true:=⟨rfl,rfl⟩
theorem Wn{av:Nat→Prop}{h:Lo}{v:V}{m:ea}(t:hl.aK av h v m):∃cs,v= .agg cs∧cs.all V.scalar=true∧∀aa,ai h aa []→bY aa h.length cs→fc av aa h.length m:=by
 obtain⟨bF,bD,b8,cu,cK,a,b,c,d,e,rfl,de,cD,dd,dh,dZ,t1,t2,t3,t4,t5⟩:=t
 exact⟨_,rfl,jk (aC.a8 de).2 (aC.a8 cD).2 (aC.a8 dd).2 (aC.a8 dh).2 (aC.a8 dZ).2 (aC.a8 t1).2 (aC.a8 t2).2 (aC.a8 t3).2 (aC.a8 t4).2 (aC.a8 t5).2,fun aa k s=>
  ⟨bF,bD,b8,cu,cK,a,b,c,d,e,s,de.aq k,cD.aq k,dd.aq k,dh.aq k,dZ.aq k,t1.aq k,t2.aq k,t3.aq k,t4.aq k,t5.aq k⟩⟩
theorem fc.load{av:Nat→Prop}{h:Lo}{id:Nat}{m:ea}(t:fc av h id m):∃cs,I (.bp 17 (.c (.ptr id 0 0))) h=some (.agg cs)∧dS h 17 (.ptr id 0 0)=some (.agg cs)∧cs.length=17∧cs.all V.scalar=true∧hl.aK av h (.agg cs) m:=by
 obtain⟨bF,bD,b8,cu,cK,a,b,c,d,e,s,de,cD,dd,dh,dZ,t1,t2,t3,t4,t5⟩:=t
 have l:=s.e4 (n:=17) rfl
 exact⟨_,l,s.bp,rfl,jk (aC.a8 de).2 (aC.a8 cD).2 (aC.a8 dd).2 (aC.a8 dh).2 (aC.a8 dZ).2 (aC.a8 t1).2 (aC.a8 t2).2 (aC.a8 t3).2 (aC.a8 t4).2 (aC.a8 t5).2,bF,bD,b8,cu,cK,a,b,c,d,e,rfl,de,cD,dd,dh,dZ,t1,t2,t3,t4,t5⟩
section
variable {av:Nat→Prop} {h:Lo} {id:Nat} {m:ea} (t:fc av h id m) (cA:¬av id) {K:Lo→a9} {Q:cg→Lv→Lo→Prop}
include t cA
theorem fc.u9(eY:∀aa,fc av aa id {m with name:=[]}→ai h aa [id]→aL (K aa) Q):aL (J (I (.af 1 (.c (.ptr id 0 0))) h) fun y=>ad (aB (.store 1 (.c y) (.c (.str []))) h) fun _ R=>K R) Q:=by
 have b4:=sl cA
 obtain⟨bF,bD,b8,cu,cK,a,b,c,d,e,s,de,cD,dd,dh,dZ,t1,t2,t3,t4,t5⟩:=t
 exact tw s (show 1<17 by decide) (oK []) fun aa eb k=>eY aa ⟨bF,bD,b8,cu,cK,a,b,c,d,e,eb,(cl 4 fI).aJ de k b4,(cl 1 fM).aJ cD k b4,(cl 1 (cl 8 bL)).aJ dd k b4,(cl 9 fs).aJ dh k b4,(cl 8 bL).aJ dZ k b4,(cl 9 eC).aJ t1 k b4,(cl 10 eM).aJ t2 k b4,(cl 8 bL).aJ t3 k b4,(cl 8 bL).aJ t4 k b4,(cl 9 eS).aJ t5 k b4⟩ k
theorem fc.Wo(eY:∀aa,fc av aa id {m with on:=[]}→ai h aa [id]→aL (K aa) Q):aL (J (I (.af 2 (.c (.ptr id 0 0))) h) fun y=>ad (aB (.store 1 (.c y) (.c (.str []))) h) fun _ R=>K R) Q:=by
 have b4:=sl cA
 obtain⟨bF,bD,b8,cu,cK,a,b,c,d,e,s,de,cD,dd,dh,dZ,t1,t2,t3,t4,t5⟩:=t
 exact tw s (show 2<17 by decide) (oK []) fun aa eb k=>eY aa ⟨bF,bD,b8,cu,cK,a,b,c,d,e,eb,(cl 4 fI).aJ de k b4,(cl 1 fM).aJ cD k b4,(cl 1 (cl 8 bL)).aJ dd k b4,(cl 9 fs).aJ dh k b4,(cl 8 bL).aJ dZ k b4,(cl 9 eC).aJ t1 k b4,(cl 10 eM).aJ t2 k b4,(cl 8 bL).aJ t3 k b4,(cl 8 bL).aJ t4 k b4,(cl 9 eS).aJ t5 k b4⟩ k
theorem fc.Wp(eY:∀aa,fc av aa id {m with un:=false}→ai h aa [id]→aL (K aa) Q):aL (J (I (.af 3 (.c (.ptr id 0 0))) h) fun y=>ad (aB (.store 1 (.c y) (.c (.bool false))) h) fun _ R=>K R) Q:=by
 have b4:=sl cA
 obtain⟨bF,bD,b8,cu,cK,a,b,c,d,e,s,de,cD,dd,dh,dZ,t1,t2,t3,t4,t5⟩:=t
 exact tw s (show 3<17 by decide) ⟨rfl,rfl⟩ fun aa eb k=>eY aa ⟨bF,bD,b8,cu,cK,a,b,c,d,e,eb,(cl 4 fI).aJ de k b4,(cl 1 fM).aJ cD k b4,(cl 1 (cl 8 bL)).aJ dd k b4,(cl 9 fs).aJ dh k b4,(cl 8 bL).aJ dZ k b4,(cl 9 eC).aJ t1 k b4,(cl 10 eM).aJ t2 k b4,(cl 8 bL).aJ t3 k b4,(cl 8 bL).aJ t4 k b4,(cl 9 eS).aJ t5 k b4⟩ k
theorem fc.Wq(eY:∀aa,fc av aa id {m with hk:=[]}→ai h aa [id]→aL (K aa) Q):aL (J (I (.af 4 (.c (.ptr id 0 0))) h) fun y=>ad (aB (.store 1 (.c y) (.c (.ab))) h) fun _ R=>K R) Q:=by
 have b4:=sl cA
 obtain⟨bF,bD,b8,cu,cK,a,b,c,d,e,s,de,cD,dd,dh,dZ,t1,t2,t3,t4,t5⟩:=t
 exact tw s (show 4<17 by decide) ⟨rfl,rfl⟩ fun aa eb k=>eY aa ⟨.ab,bD,b8,cu,cK,a,b,c,d,e,eb,aC.ab _ _ _ _,(cl 1 fM).aJ cD k b4,(cl 1 (cl 8 bL)).aJ dd k b4,(cl 9 fs).aJ dh k b4,(cl 8 bL).aJ dZ k b4,(cl 9 eC).aJ t1 k b4,(cl 10 eM).aJ t2 k b4,(cl 8 bL).aJ t3 k b4,(cl 8 bL).aJ t4 k b4,(cl 9 eS).aJ t5 k b4⟩ k
theorem fc.Wr(eY:∀aa,fc av aa id {m with keys:=[]}→ai h aa [id]→aL (K aa) Q):aL (J (I (.af 5 (.c (.ptr id 0 0))) h) fun y=>ad (aB (.store 1 (.c y) (.c (.ab))) h) fun _ R=>K R) Q:=by
 have b4:=sl cA
 obtain⟨bF,bD,b8,cu,cK,a,b,c,d,e,s,de,cD,dd,dh,dZ,t1,t2,t3,t4,t5⟩:=t
 exact tw s (show 5<17 by decide) ⟨rfl,rfl⟩ fun aa eb k=>eY aa ⟨bF, .ab,b8,cu,cK,a,b,c,d,e,eb,(cl 4 fI).aJ de k b4,aC.ab _ _ _ _,(cl 1 (cl 8 bL)).aJ dd k b4,(cl 9 fs).aJ dh k b4,(cl 8 bL).aJ dZ k b4,(cl 9 eC).aJ t1 k b4,(cl 10 eM).aJ t2 k b4,(cl 8 bL).aJ t3 k b4,(cl 8 bL).aJ t4 k b4,(cl 9 eS).aJ t5 k b4⟩ k
theorem fc.Ws(eY:∀aa,fc av aa id {m with rows:=[]}→ai h aa [id]→aL (K aa) Q):aL (J (I (.af 6 (.c (.ptr id 0 0))) h) fun y=>ad (aB (.store 1 (.c y) (.c (.ab))) h) fun _ R=>K R) Q:=by
 have b4:=sl cA
 obtain⟨bF,bD,b8,cu,cK,a,b,c,d,e,s,de,cD,dd,dh,dZ,t1,t2,t3,t4,t5⟩:=t
 exact tw s (show 6<17 by decide) ⟨rfl,rfl⟩ fun aa eb k=>eY aa ⟨bF,bD, .ab,cu,cK,a,b,c,d,e,eb,(cl 4 fI).aJ de k b4,(cl 1 fM).aJ cD k b4,aC.ab _ _ _ _,(cl 9 fs).aJ dh k b4,(cl 8 bL).aJ dZ k b4,(cl 9 eC).aJ t1 k b4,(cl 10 eM).aJ t2 k b4,(cl 8 bL).aJ t3 k b4,(cl 8 bL).aJ t4 k b4,(cl 9 eS).aJ t5 k b4⟩ k
theorem fc.Wt(eY:∀aa,fc av aa id {m with ft:=[]}→ai h aa [id]→aL (K aa) Q):aL (J (I (.af 7 (.c (.ptr id 0 0))) h) fun y=>ad (aB (.store 1 (.c y) (.c (.ab))) h) fun _ R=>K R) Q:=by
 have b4:=sl cA
 obtain⟨bF,bD,b8,cu,cK,a,b,c,d,e,s,de,cD,dd,dh,dZ,t1,t2,t3,t4,t5⟩:=t
 exact tw s (show 7<17 by decide) ⟨rfl,rfl⟩ fun aa eb k=>eY aa ⟨bF,bD,b8, .ab,cK,a,b,c,d,e,eb,(cl 4 fI).aJ de k b4,(cl 1 fM).aJ cD k b4,(cl 1 (cl 8 bL)).aJ dd k b4,aC.ab _ _ _ _,(cl 8 bL).aJ dZ k b4,(cl 9 eC).aJ t1 k b4,(cl 10 eM).aJ t2 k b4,(cl 8 bL).aJ t3 k b4,(cl 8 bL).aJ t4 k b4,(cl 9 eS).aJ t5 k b4⟩ k
theorem fc.I9(eY:∀aa,fc av aa id {m with c1:=[]}→ai h aa [id]→aL (K aa) Q):aL (J (I (.af 8 (.c (.ptr id 0 0))) h) fun y=>ad (aB (.store 1 (.c y) (.c (.ab))) h) fun _ R=>K R) Q:=by
 have b4:=sl cA
 obtain⟨bF,bD,b8,cu,cK,a,b,c,d,e,s,de,cD,dd,dh,dZ,t1,t2,t3,t4,t5⟩:=t
 exact tw s (show 8<17 by decide) ⟨rfl,rfl⟩ fun aa eb k=>eY aa ⟨bF,bD,b8,cu, .ab,a,b,c,d,e,eb,(cl 4 fI).aJ de k b4,(cl 1 fM).aJ cD k b4,(cl 1 (cl 8 bL)).aJ dd k b4,(cl 9 fs).aJ dh k b4,aC.ab _ _ _ _,(cl 9 eC).aJ t1 k b4,(cl 10 eM).aJ t2 k b4,(cl 8 bL).aJ t3 k b4,(cl 8 bL).aJ t4 k b4,(cl 9 eS).aJ t5 k b4⟩ k
theorem fc.aoD(eY:∀aa,fc av aa id {m with k:=0}→ai h aa [id]→aL (K aa) Q):aL (J (I (.af 0 (.c (.ptr id 0 0))) h) fun y=>ad (aB (.store 1 (.c y) (.c (.int .i64 0))) h) fun _ R=>K R) Q:=by
 have b4:=sl cA
 obtain⟨bF,bD,b8,cu,cK,a,b,c,d,e,s,de,cD,dd,dh,dZ,t1,t2,t3,t4,t5⟩:=t
 exact tw s (show 0<17 by decide) ⟨rfl,rfl⟩ fun aa eb k=>eY aa ⟨bF,bD,b8,cu,cK,a,b,c,d,e,eb,(cl 4 fI).aJ de k b4,(cl 1 fM).aJ cD k b4,(cl 1 (cl 8 bL)).aJ dd k b4,(cl 9 fs).aJ dh k b4,(cl 8 bL).aJ dZ k b4,(cl 9 eC).aJ t1 k b4,(cl 10 eM).aJ t2 k b4,(cl 8 bL).aJ t3 k b4,(cl 8 bL).aJ t4 k b4,(cl 9 eS).aJ t5 k b4⟩ k
theorem fc.Ob(eY:∀aa,fc av aa id {m with q:=pv}→ai h aa [id]→aL (K aa) Q):aL (J (I (.af 9 (.c (.ptr id 0 0))) h) fun z=>ad (aB (.store 8 (.c z) (.c (.agg (e2 false false .ab .ab .ab .ab .ab 0)))) h) fun _ R=>K R) Q:=by
 have b4:=sl cA
 obtain⟨bF,bD,b8,cu,cK,a,b,c,d,e,s,de,cD,dd,dh,dZ,t1,t2,t3,t4,t5⟩:=t
 simp only[s.af,aO]
 refine aL.ad (bY.GO s (o:=0+9) (n:=8) (aM:=e2 false false .ab .ab .ab .ab .ab 0) rfl (show 17≤17 by decide) (by decide) rfl) ?_
 rintro u aa ⟨eb,k⟩
 exact eY aa ⟨bF,bD,b8,cu,cK, .ab, .ab, .ab, .ab, .ab,eb,(cl 4 fI).aJ de k b4,(cl 1 fM).aJ cD k b4,(cl 1 (cl 8 bL)).aJ dd k b4,(cl 9 fs).aJ dh k b4,(cl 8 bL).aJ dZ k b4,aC.ab _ _ _ _,aC.ab _ _ _ _,aC.ab _ _ _ _,aC.ab _ _ _ _,aC.ab _ _ _ _⟩ k
end
theorem fc.kind{av:Nat→Prop}{h:Lo}{id:Nat}{m:ea}(t:fc av h id m):I (.ag (.c (.ptr id 0 (0+0)))) h=some (.int .i64 m.k)∧(∀i,I (.af i (.c (.ptr id 0 0))) h=some (.ptr id 0 (0+i))):=by
 obtain⟨bF,bD,b8,cu,cK,a,b,c,d,e,s,-⟩:=t
 exact⟨s.ag rfl,fun i=>s.af i 0 0⟩
end Go.Proofs.YtjpjeilfmjdhcaaGreat.h3
