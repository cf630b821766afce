/- What is new in memory, written out: statements. Printed by my own tool. No condition. -/
import Derived.Test.YtjpjeilfmjdhcaaGreatA16
import Derived.Test.YtjpjeilfmjdhcaaGreatA10
import Derived.Test.YtjpjeilfmjdhcaaGreatA13
import Derived.Test.YtjpjeilfmjdhcaaGreatA6
set_option maxRecDepth 100000
set_option linter.unusedVariables false
set_option linter.unusedSimpArgs false
set_option linter.unnecessarySimpa false
namespace Go.Proofs.YtjpjeilfmjdhcaaGreat.m3
open Go E ep eI fq fw fC f_
variable {az:Nat} {K:Nat→Prop} {h g:Lo} {av bx:Nat→Prop}
theorem CT{cs:Lv}{c:V}(r:gJ true K h (.agg cs) c):∃aM,c= .agg aM∧aM.length=cs.length∧∀(o:Nat) (z y:V),cs[o]? =some z→aM[o]? =some y→ef true K h z y:=by
 obtain⟨ax,-,bh,bc⟩:=r
 cases c with
 |agg aM=>exact⟨aM,rfl,ax,bc⟩
 |_=>simp[mi] at bh
theorem CU{cs aM:Lv}(ax:aM.length=cs.length)(a6:aM.all V.scalar=true)(bc:∀(o:Nat) (z y:V),cs[o]? =some z→aM[o]? =some y→ef true K h z y):gJ true K h (.agg cs) (.agg aM):=⟨ax,a6,rfl,bc⟩
theorem gJ.of{v u:V}(bg:v.cells=[v])(hu:u.cells=[u])(a6:u.scalar=true)(bh:mi u=mi v)(r:ef true K h v u):gJ true K h v u:=
 ⟨by rw[bg,hu];rfl,by rw[hu];simp[a6],bh,fun o z y R ae=>by
  rw[bg] at R;rw[hu] at ae
  cases o with
  |zero=>simp at R ae;subst R;subst ae;exact r
  |succ o=>simp at R⟩
theorem gJ.to{v u:V}(bg:v.cells=[v])(bd:mi v=false)(r:gJ true K h v u):ef true K h v u∧u.cells=[u]:=by
 obtain⟨ax,a6,bh,bc⟩:=r
 have hu:u.cells=[u]:=by
  cases u with
  |agg cs=>rw[bd] at bh;simp[mi] at bh
  |_=>rfl
 exact⟨bc 0 v u (by rw[bg];rfl) (by rw[hu];rfl),hu⟩
theorem G6{v:V}(a6:v.scalar=true):mi v=false∧v.cells=[v]:=by
 cases v<;>first|(simp[V.scalar] at a6;done)|exact⟨rfl,rfl⟩
structure r8(K:Nat→Prop)(az:Nat){α:Type}(T:hd α)(av:Nat→Prop)(h:Lo):Prop where
 jB:∀e x,T.aK av h e x→flat az e
 tg:∀(g:Lo) (bx:Nat→Prop) e x c,T.aK av h e x→gJ true K h e c→T.aK bx g c x
 th:∀e x,T.aK av h e x→∃c,gJ true K h e c
theorem qg{α:Type}{T:hd α}(t:r8 K az T av h)(cA:∀o,av o→K o){v u:V}{xs:List α}(l:aC az T av h v xs)(r:ef true K h v u):aC az T bx g u xs∧u.scalar=true:=by
 obtain⟨es,s,ax,aw,he⟩:=l
 have aj_:∀(i:Nat) (e:V),es[i]? =some e→∃x,T.aK av h e x:=fun i e q=>by
  have:i<es.length:=(List.getElem?_eq_some_iff.1 q).1
  obtain⟨ct,aV,bb⟩:=he i (by omega)
  rw[q] at aV;injection aV with aV;subst aV
  exact⟨_,bb⟩
 obtain⟨cc,s2,uz,Nc,pz⟩:=G4 (g:=g) s (fun o U=>cA o (aw o U)) (fun i e q=>by obtain⟨x,au⟩:=aj_ i e q;exact t.jB e x au) r
 refine⟨⟨cc,s2,by omega,fun o U=>(by rw[Nc] at U;cases U),fun i hn=> ?_⟩,(oE s2).2⟩
 obtain⟨e,aV,bb⟩:=he i hn
 have aS:cc[i]? =some (cc[i]'(by omega)):=List.getElem?_eq_getElem (by omega)
 exact⟨_,aS,t.tg g bx e _ _ bb (pz i e _ aV aS)⟩
theorem q7{α:Type}{T:hd α}(t:r8 K az T av h)(cA:∀o,av o→K o){v:V}{xs:List α}(l:aC az T av h v xs):∃u,ef true K h v u:=by
 obtain⟨es,s,ax,aw,he⟩:=l
 refine G5 s (fun o U=>cA o (aw o U)) (fun i e q=> ?_) rfl
 have:i<es.length:=(List.getElem?_eq_some_iff.1 q).1
 obtain⟨ct,aV,bb⟩:=he i (by omega)
 rw[q] at aV;injection aV with aV;subst aV
 exact t.th _ _ bb
theorem ti(cA:∀o,av o→K o):r8 K 8 bL av h where
 jB:=by rintro e x ⟨bU,aG,ah,rfl,rfl,ex⟩;exact c6.jB ex
 tg:=by
  rintro g bx e x c ⟨bU,aG,ah,rfl,rfl,ex⟩ r
  have q:=UM (g:=g) (bx:=bx) ex cA r
  obtain⟨mu,rfl,-⟩:=Nb r
  exact⟨bU,mu,ah,rfl,rfl,q⟩
 th:=by rintro e x ⟨bU,aG,ah,rfl,rfl,ex⟩;exact UN rfl ex cA
theorem uQ{bU:fg}{aG:V}{ah:List X}(ex:c6 av h (.agg (bH bU aG)) (.mk bU ah))(cA:∀o,av o→K o):∃mu,ef true K h aG mu∧mu.scalar=true∧∀(G7:V),ef true K h aG G7→∀(g:Lo) (bx:Nat→Prop),c6 bx g (.agg (bH bU G7)) (.mk bU ah):=by
 obtain⟨c,r⟩:=UN rfl ex cA
 obtain⟨mu,rfl,oN⟩:=Nb r
 refine⟨mu,oN, ?_,fun G7 UO g bx=> ?_⟩
 ·have:=r.a8
  simp only[V.cells,List.all_cons,Bool.and_eq_true] at this
  exact this.2.2.2.2.2.2.2.1
 ·have Ei:G7.scalar=true:=by
   obtain⟨es,s,aw,ax,hp⟩:=ex.inv
   obtain⟨cc,s2,-⟩:=G4 (g:=h) s (fun o U=>cA o (aw o U)) (fun i e he=>by
    obtain⟨p,m2⟩:=CS ax he
    exact c6.jB (hp i e p he m2)) UO
   exact(oE s2).2
  refine UM ex cA (CU rfl (uP (bU:=bU) Ei).2 (fun o z y R ae=> ?_))
  match o with
  |0|1|2|3|4|5|6=>injection R with R;injection ae with ae;subst R;subst ae;exact .same rfl (.inr rfl)
  |7=>injection R with R;injection ae with ae;subst R;subst ae;exact UO
  |o+8=>simp at R
theorem UP(cA:∀o,av o→K o):r8 K 9 eC av h where
 jB:=by
  rintro e x ⟨bU,aG,ah,au,rfl,ex⟩
  exact⟨rfl,by simp only[V.cells,List.all_cons,List.all_nil,gU ex];rfl⟩
 tg:=by
  rintro g bx e x c ⟨bU,aG,ah,au,rfl,ex⟩ r
  obtain⟨aM,rfl,ax,bc⟩:=CT r
  match aM,ax with
  | [zE,hI,kG,r7,te,zF,zG,tf,zH],_=>
   have df:=mr (bc 0 _ _ rfl rfl);have b5:=jb (bc 1 _ _ rfl rfl);have cI:=mr (bc 2 _ _ rfl rfl);have fo:=mr (bc 3 _ _ rfl rfl);have gC:=jb (bc 4 _ _ rfl rfl);have gb:=jb (bc 5 _ _ rfl rfl);have g8:=jb (bc 6 _ _ rfl rfl);have ke:=jb (bc 8 _ _ rfl rfl)
   subst df b5 cI fo gC gb g8 ke
   obtain⟨-,-,-,q⟩:=uQ ex cA
   exact⟨bU,tf,ah,au,rfl,q _ (bc 7 _ _ rfl rfl) g bx⟩
 th:=by
  rintro e x ⟨bU,aG,ah,au,rfl,ex⟩
  obtain⟨mu,oN,a6,-⟩:=uQ ex cA
  refine⟨.agg (fT bU mu (.str x.n)),CU rfl (by simp only[List.all_cons,List.all_nil,a6];rfl) (fun o z y R ae=> ?_)⟩
  match o with
  |0|1|2|3|4|5|6|8=>injection R with R;injection ae with ae;subst R;subst ae;exact .same rfl (.inr rfl)
  |7=>injection R with R;injection ae with ae;subst R;subst ae;exact oN
  |o+9=>simp at R
theorem UQ(cA:∀o,av o→K o):r8 K 9 eS av h where
 jB:=by
  rintro e x ⟨bU,aG,ah,au,rfl,ex⟩
  exact⟨rfl,by simp only[V.cells,List.all_cons,List.all_nil,gU ex];rfl⟩
 tg:=by
  rintro g bx e x c ⟨bU,aG,ah,au,rfl,ex⟩ r
  obtain⟨aM,rfl,ax,bc⟩:=CT r
  match aM,ax with
  | [zE,hI,kG,r7,te,zF,zG,tf,zH],_=>
   have df:=mr (bc 0 _ _ rfl rfl);have b5:=jb (bc 1 _ _ rfl rfl);have cI:=mr (bc 2 _ _ rfl rfl);have fo:=mr (bc 3 _ _ rfl rfl);have gC:=jb (bc 4 _ _ rfl rfl);have gb:=jb (bc 5 _ _ rfl rfl);have g8:=jb (bc 6 _ _ rfl rfl);have ke:=zD (bc 8 _ _ rfl rfl)
   subst df b5 cI fo gC gb g8 ke
   obtain⟨-,-,-,q⟩:=uQ ex cA
   exact⟨bU,tf,ah,au,rfl,q _ (bc 7 _ _ rfl rfl) g bx⟩
 th:=by
  rintro e x ⟨bU,aG,ah,au,rfl,ex⟩
  obtain⟨mu,oN,a6,-⟩:=uQ ex cA
  refine⟨.agg (fT bU mu (.bool x.d)),CU rfl (by simp only[List.all_cons,List.all_nil,a6];rfl) (fun o z y R ae=> ?_)⟩
  match o with
  |0|1|2|3|4|5|6|8=>injection R with R;injection ae with ae;subst R;subst ae;exact .same rfl (.inr rfl)
  |7=>injection R with R;injection ae with ae;subst R;subst ae;exact oN
  |o+9=>simp at R
theorem UR(cA:∀o,av o→K o):r8 K 9 fs av h where
 jB:=by
  rintro e x ⟨bU,aG,ah,au,rfl,ex⟩
  exact⟨rfl,by simp only[V.cells,List.all_cons,List.all_nil,gU ex];rfl⟩
 tg:=by
  rintro g bx e x c ⟨bU,aG,ah,au,rfl,ex⟩ r
  obtain⟨aM,rfl,ax,bc⟩:=CT r
  match aM,ax with
  | [zE,hI,kG,r7,te,zF,zG,tf,zH],_=>
   have df:=jb (bc 0 _ _ rfl rfl);have b5:=mr (bc 1 _ _ rfl rfl);have cI:=jb (bc 2 _ _ rfl rfl);have fo:=mr (bc 3 _ _ rfl rfl);have gC:=mr (bc 4 _ _ rfl rfl);have gb:=jb (bc 5 _ _ rfl rfl);have g8:=jb (bc 6 _ _ rfl rfl);have ie:=jb (bc 7 _ _ rfl rfl)
   subst df b5 cI fo gC gb g8 ie
   obtain⟨-,-,-,q⟩:=uQ ex cA
   exact⟨bU,zH,ah,au,rfl,q _ (bc 8 _ _ rfl rfl) g bx⟩
 th:=by
  rintro e x ⟨bU,aG,ah,au,rfl,ex⟩
  obtain⟨mu,oN,a6,-⟩:=uQ ex cA
  refine⟨.agg (jj x.c bU mu),CU rfl (by simp only[List.all_cons,List.all_nil,a6];rfl) (fun o z y R ae=> ?_)⟩
  match o with
  |0|1|2|3|4|5|6|7=>injection R with R;injection ae with ae;subst R;subst ae;exact .same rfl (.inr rfl)
  |8=>injection R with R;injection ae with ae;subst R;subst ae;exact oN
  |o+9=>simp at R
theorem US(cA:∀o,av o→K o):r8 K 10 eM av h where
 jB:=by
  rintro e x ⟨bU,aG,ah,au,rfl,ex⟩
  exact⟨rfl,by simp only[V.cells,List.all_cons,List.all_nil,gU ex];rfl⟩
 tg:=by
  rintro g bx e x c ⟨bU,aG,ah,au,rfl,ex⟩ r
  obtain⟨aM,rfl,ax,bc⟩:=CT r
  match aM,ax with
  | [zE,hI,kG,r7,te,zF,zG,tf,zH,UT],_=>
   have df:=jb (bc 0 _ _ rfl rfl);have b5:=jb (bc 1 _ _ rfl rfl);have cI:=mr (bc 2 _ _ rfl rfl);have fo:=jb (bc 3 _ _ rfl rfl);have gC:=mr (bc 4 _ _ rfl rfl);have gb:=mr (bc 5 _ _ rfl rfl);have g8:=jb (bc 6 _ _ rfl rfl);have ie:=jb (bc 7 _ _ rfl rfl);have ke:=jb (bc 8 _ _ rfl rfl)
   subst df b5 cI fo gC gb g8 ie ke
   obtain⟨-,-,-,q⟩:=uQ ex cA
   exact⟨bU,UT,ah,au,rfl,q _ (bc 9 _ _ rfl rfl) g bx⟩
 th:=by
  rintro e x ⟨bU,aG,ah,au,rfl,ex⟩
  obtain⟨mu,oN,a6,-⟩:=uQ ex cA
  refine⟨.agg (h8 x.t x.n bU mu),CU rfl (by simp only[List.all_cons,List.all_nil,a6];rfl) (fun o z y R ae=> ?_)⟩
  match o with
  |0|1|2|3|4|5|6|7|8=>injection R with R;injection ae with ae;subst R;subst ae;exact .same rfl (.inr rfl)
  |9=>injection R with R;injection ae with ae;subst R;subst ae;exact oN
  |o+10=>simp at R
theorem UU:r8 K 4 fI av h where
 jB:=by
  intro e x t
  have t:e= .agg (la x.n x.k x.iG x.un):=t
  subst t;exact⟨rfl,rfl⟩
 tg:=by
  intro g bx e x c t r
  have t:e= .agg (la x.n x.k x.iG x.un):=t
  subst t
  obtain⟨aM,rfl,ax,bc⟩:=CT r
  match aM,ax with
  | [zE,hI,kG,r7],_=>
   have df:=jb (bc 0 _ _ rfl rfl);have b5:=mr (bc 1 _ _ rfl rfl);have cI:=zD (bc 2 _ _ rfl rfl);have fo:=zD (bc 3 _ _ rfl rfl)
   subst df b5 cI fo
   exact rfl
 th:=by
  intro e x t
  have t:e= .agg (la x.n x.k x.iG x.un):=t
  subst t
  exact⟨_,gJ.refl rfl rfl (.inl rfl)⟩
theorem UW:r8 K 1 fM av h where
 jB:=by
  intro e x t
  have t:e= .str x:=t
  subst t;exact⟨rfl,rfl⟩
 tg:=by
  intro g bx e x c t r
  have t:e= .str x:=t
  subst t
  exact jb (r.to rfl rfl).1
 th:=by
  intro e x t
  have t:e= .str x:=t
  subst t
  exact⟨_,gJ.refl rfl rfl (.inl rfl)⟩
theorem UX(cA:∀o,av o→K o):r8 K 1 (cl 8 bL) av h where
 jB:=fun e x t=>by
  obtain⟨c,s⟩:=aC.a8 t
  exact⟨by rw[c];rfl,by rw[c];simp[s]⟩
 tg:=fun g bx e x c t r=>by
  obtain⟨bF,s1⟩:=aC.a8 t
  exact(qg (ti cA) cA t (r.to bF (G6 s1).1).1).1
 th:=fun e x t=>by
  obtain⟨bF,s1⟩:=aC.a8 t
  obtain⟨u,hu⟩:=q7 (ti cA) cA t
  obtain⟨-,wS⟩:=qg (bx:=av) (g:=h) (ti cA) cA t hu
  exact⟨u,gJ.of bF (G6 wS).2 wS (by rw[(G6 wS).1,(G6 s1).1]) hu⟩
theorem aka{cs:Lv}{u:V}(r:ef true K h (.agg cs) u):∃aM,u= .agg aM∧aM.length=cs.length∧∀(o:Nat) (z y:V),cs[o]? =some z→aM[o]? =some y→ef true K h z y:=by
 cases r with
 |same bg aF=>exact⟨cs,rfl,rfl,fun o z y R ae=>by rw[R] at ae;injection ae with ae;subst ae;exact .same (pY (by simpa [ff] using bg) R) (.inl rfl)⟩
 |agg ax hp=>exact⟨_,rfl,ax.symm,hp⟩
theorem akb(cA:∀o,av o→K o){v:V}{m:ea}(t:hl.aK av h v m):∃u,ef true K h v u:=by
 obtain⟨bF,bD,b8,cu,cK,a,b,c,d,e,rfl,de,cD,dd,dh,dZ,t1,t2,t3,t4,t5⟩:=t
 obtain⟨d1,R⟩:=q7 UU cA de
 obtain⟨d2,ae⟩:=q7 UW cA cD
 obtain⟨d3,aQ⟩:=q7 (UX cA) cA dd
 obtain⟨d4,bo⟩:=q7 (UR cA) cA dh
 obtain⟨d5,bI⟩:=q7 (ti cA) cA dZ
 obtain⟨eK,bh⟩:=q7 (UP cA) cA t1
 obtain⟨c2,aF⟩:=q7 (US cA) cA t2
 obtain⟨c0,an⟩:=q7 (ti cA) cA t3
 obtain⟨g4,bj⟩:=q7 (ti cA) cA t4
 obtain⟨ct,he⟩:=q7 (UQ cA) cA t5
 refine⟨.agg (fb m.k m.name m.on m.un d1 d2 d3 d4 d5 m.q.ch m.q.star eK c2 c0 g4 ct m.q.b7), .agg rfl fun k z y aX aY=> ?_⟩
 match k with
 |0|1|2|3|9|10|16=>injection aX with aX;injection aY with aY;subst aX;subst aY;exact .same rfl (.inr rfl)
 |4=>injection aX with aX;injection aY with aY;subst aX;subst aY;exact R
 |5=>injection aX with aX;injection aY with aY;subst aX;subst aY;exact ae
 |6=>injection aX with aX;injection aY with aY;subst aX;subst aY;exact aQ
 |7=>injection aX with aX;injection aY with aY;subst aX;subst aY;exact bo
 |8=>injection aX with aX;injection aY with aY;subst aX;subst aY;exact bI
 |11=>injection aX with aX;injection aY with aY;subst aX;subst aY;exact bh
 |12=>injection aX with aX;injection aY with aY;subst aX;subst aY;exact aF
 |13=>injection aX with aX;injection aY with aY;subst aX;subst aY;exact an
 |14=>injection aX with aX;injection aY with aY;subst aX;subst aY;exact bj
 |15=>injection aX with aX;injection aY with aY;subst aX;subst aY;exact he
 |k+17=>simp at aX
theorem akc(cA:∀o,av o→K o){v u:V}{m:ea}(t:hl.aK av h v m)(r:ef true K h v u)(g:Lo)(bx:Nat→Prop):hl.aK bx g u m:=by
 obtain⟨bF,bD,b8,cu,cK,a,b,c,d,e,rfl,de,cD,dd,dh,dZ,t1,t2,t3,t4,t5⟩:=t
 obtain⟨aM,rfl,ax,bc⟩:=aka r
 match aM,ax with
 | [zE,hI,kG,r7,te,zF,zG,tf,zH,UT,arT,akd,ake,akf,akg,akh,arU],_=>
  have df:=mr (bc 0 _ _ rfl rfl);have b5:=jb (bc 1 _ _ rfl rfl);have cI:=jb (bc 2 _ _ rfl rfl);have fo:=zD (bc 3 _ _ rfl rfl)
  have zI:=zD (bc 9 _ _ rfl rfl);have Nd:=zD (bc 10 _ _ rfl rfl);have aki:=mr (bc 16 _ _ rfl rfl)
  subst df b5 cI fo zI Nd aki
  exact⟨te,zF,zG,tf,zH,akd,ake,akf,akg,akh,rfl,(qg UU cA de (bc 4 _ _ rfl rfl)).1,(qg UW cA cD (bc 5 _ _ rfl rfl)).1,(qg (UX cA) cA dd (bc 6 _ _ rfl rfl)).1,(qg (UR cA) cA dh (bc 7 _ _ rfl rfl)).1,(qg (ti cA) cA dZ (bc 8 _ _ rfl rfl)).1,
   (qg (UP cA) cA t1 (bc 11 _ _ rfl rfl)).1,(qg (US cA) cA t2 (bc 12 _ _ rfl rfl)).1,(qg (ti cA) cA t3 (bc 13 _ _ rfl rfl)).1,(qg (ti cA) cA t4 (bc 14 _ _ rfl rfl)).1,(qg (UQ cA) cA t5 (bc 15 _ _ rfl rfl)).1⟩
end Go.Proofs.YtjpjeilfmjdhcaaGreat.m3
namespace Go.Proofs.YtjpjeilfmjdhcaaGreat.eI
open Go E ep
abbrev Mem(j k:Nat)(av:Nat→Prop)(x:X):Prop:=∀(n:fg) (aG:V) (ah:List X) (h:Lo) (gw:Int),x= .mk n ah→c6 av h (.agg (bH n aG)) x→0≤gw→gw≤1000000→
 aj (yE j (rP j k) n.k n.op n.eh n.ed n.ak n.dG n.c7 aG gw h) fun v aa=>(∃r:Int,v= .int .i64 r∧1≤r∧r≤gw+1)∧ai h aa []
theorem akj(j k:Nat){av:Nat→Prop}{aI:Lo}{gx:Nat}{n:fg}{aG:V}{es:Lv}{ah:List X}{gw:Int}(R:0≤gw)(ae:gw≤1000000)(dR:bY aI gx (bH n aG))(s:dq 8 aI aG es)(ax:es.length=ah.length)(hp:∀(i:Nat) (e:V) (p:X),es[i]? =some e→ah[i]? =some p→c6 av aI e p)
  (hw:ah.length≤4611686018427387904) (kp:∀p,p∈ah→Mem j k av p):
  ∀(r i f:Nat) (h:Lo) (m:Int),ah.length=i+r→r<f→ai aI h []→1≤m→m≤gw+1→aL (um j (rP j (k+1)) f gw (.ptr gx 0 0) m ah.length i h) fun x ak aa=>ai aI aa []∧(x= .exit 0∨x= .ret)∧∃r:Int,ak=[.int .i64 r]∧1≤r∧r≤gw+1:=by
 intro r
 induction r with
 |zero=>
  intro i f h m hm aS aq il tT
  obtain⟨f,rfl⟩:∃g,f=g+1:=⟨f-1,by omega⟩
  have bj:decide ((i:Int)<(ah.length:Int))=false:=decide_eq_false (by omega)
  simp only[um,B1,bj,a7]
  exact aL.some ⟨aq, .inl rfl,m,rfl,il,tT⟩
 |succ r ba=>
  intro i f h m hm aS aq il tT
  obtain⟨f,rfl⟩:∃g,f=g+1:=⟨f-1,by omega⟩
  have bN:i<ah.length:=by omega
  have uB:decide ((i:Int)<(ah.length:Int))=true:=decide_eq_true (by omega)
  have e7:IntKind.i64.wrap ((i:Int)+1)=((i+1:Nat):Int):=by rw[wrap_i64 (by omega) (by omega)];omega
  by_cases c:m>gw
  ·simp only[um,B1,uB,aU,decide_eq_true c]
   exact aL.some ⟨aq, .inr rfl,m,rfl,il,tT⟩
  ·have ib:IntKind.i64.wrap (gw-m)=gw-m:=wrap_i64 (by omega) (by omega)
   obtain⟨a,cY,iF,lX,aV,b5,cI,cp,bF⟩:=c6.at (s.aq aq) ax (fun i e p aX aY=>(hp i e p aX aY).aq aq) bN
   have gd:=(dR.aq aq).af 7 0 0
   have gP:I (.ag (.c (.ptr gx 0 7))) h=some aG:=(dR.aq aq).ag rfl
   have s3:∀bI q,rP j (k+1) 55 [.agg (bH cY iF), .int .i64 q] bI=yE j (rP j k) cY.k cY.op cY.eh cY.ed cY.ak cY.dG cY.c7 iF q bI:=fun bI q=>rfl
   simp only[Nat.zero_add] at gd
   simp only[um,B1,uB,aU,decide_eq_false c,a7,gd,gP,b5,cI,aO,bP,aN,aZ,bn,bl,id_eq,bq,a1,bC,a5,e7,ib,s3]
   refine aL.ad (kp ah[i] (List.getElem_mem bN) cY iF lX h (gw-m) aV (aV▸cp) (by omega) (by omega)) ?_
   rintro v bI ⟨⟨q,rfl,aE,aR⟩,bX⟩
   have oM:IntKind.i64.wrap (m+q)=m+q:=wrap_i64 (by omega) (by omega)
   simp only[a1,oM]
   exact ba (i+1) f bI (m+q) (by omega) (by omega) (aq.bs bX) (by omega) (by omega)
theorem akk(j w:Nat)(hw:w<j)(bV:w≤4611686018427387904){av:Nat→Prop}:∀(k:Nat) (x:X),g_ w (k+1) x→Mem j k av x:=by
 intro k
 induction k with
 |zero=>
  intro x au n aG ah h gw e ex R ae
  subst e
  have sx:ah=[]:=by
   cases ah with
   |nil=>rfl
   |cons p t=>exact absurd (au.2 p (by simp)) (by simp[g_])
  subst sx
  obtain⟨es,s,aw,ax,hp⟩:=ex.inv
  simp only[yE]
  refine aj.ad (fO (cs:=bH n aG) (mS s)) ?_
  rintro v aQ ⟨rfl,st,ar⟩
  have gd:=st.af 7 0 0
  have gP:I (.ag (.c (.ptr h.length 0 7))) aQ=some aG:=st.ag rfl
  have ig:=jv (s.aq ar)
  rw[ax] at ig
  simp only[Nat.zero_add] at gd
  obtain⟨g,rfl⟩:∃g,j=g+1:=⟨j-1,by omega⟩
  have y5:∀dw,um (g+1) (rP (g+1) 0) (g+1) gw (.ptr h.length 0 0) 1 (([]:List X).length:Int) 0 dw=some (.exit 0,[.int .i64 1],dw):=fun dw=>rfl
  simp only[gd,gP,ig,aO,a1,y5,gY,decide_true,aU,aN,aZ,bn,bl,id_eq,bq,a5]
  exact aj.some ⟨⟨1,rfl,by omega,by omega⟩,ar⟩
 |succ k ba=>
  intro x au n aG ah h gw e ex R ae
  subst e
  obtain⟨es,s,aw,ax,hp⟩:=ex.inv
  simp only[yE]
  refine aj.ad (fO (cs:=bH n aG) (mS s)) ?_
  rintro v aQ ⟨rfl,st,ar⟩
  have gd:=st.af 7 0 0
  have gP:I (.ag (.c (.ptr h.length 0 7))) aQ=some aG:=st.ag rfl
  have ig:=jv (s.aq ar)
  rw[ax] at ig
  simp only[Nat.zero_add] at gd
  have Mc:ah.length≤w:=au.1
  have eT:=akj j k R ae st (s.aq ar) ax (fun i e p aX aY=>(hp i e p aX aY).aq ar) (by omega) (fun p uu=>ba p (au.2 p uu)) ah.length 0 j aQ 1 (by omega) (by omega) (ai.refl _ _) (by omega) (by omega)
  have z:((0:Nat):Int)=0:=rfl
  rw[z] at eT
  simp only[gd,gP,ig,aO,a1]
  refine aj.bO eT ?_
  rintro x ak bo ⟨bu,zJ,r,rfl,fD,bf⟩
  rcases zJ with rfl|rfl
  ·simp only[decide_true,aU,aN,aZ,bn,bl,id_eq,bq,a1,a5]
   exact aj.some ⟨⟨r,rfl,fD,bf⟩,ar.bs bu⟩
  ·simp only[show decide (cg.ret=cg.exit 0)=false from rfl,a7,decide_true,aU,aN,aZ,bn,bl,id_eq,bq,a1,a5]
   exact aj.some ⟨⟨r,rfl,fD,bf⟩,ar.bs bu⟩
theorem akl{j w:Nat}(hw:w<j)(bV:w≤4611686018427387904){av:Nat→Prop}{k:Nat}(aH:k≤j){n:fg}{aG:V}{ah:List X}{h:Lo}(au:g_ w k (.mk n ah))(ex:c6 av h (.agg (bH n aG)) (.mk n ah)):
  aj (Fx j n.k n.op n.eh n.ed n.ak n.dG n.c7 aG h) fun v aa=>(∃b,v= .bool b)∧ai h aa []:=by
 obtain⟨es,s,aw,ax,hp⟩:=ex.inv
 simp only[Fx]
 refine aj.ad (fO (cs:=bH n aG) (mS s)) ?_
 rintro v R ⟨rfl,fS,ar⟩
 have ig:I (.bp 8 (.c (.ptr h.length 0 0))) R=some (.agg (bH n aG)):=fS.e4 rfl
 simp only[ig,aO,bP,aN,aZ,bn,bl,id_eq,bq,a1,bC,a5]
 refine aj.ad (akk j w hw bV (av:=av) j _ (au.mono (by omega)) n aG ah R 300 rfl (ex.aq ar) (by omega) (by omega)) ?_
 rintro v ae ⟨⟨r,rfl,-,-⟩,aA⟩
 rw[a1]
 exact aj.some ⟨⟨_,rfl⟩,ar.bs aA⟩
theorem akm{v:V}(a:j2 v):v.cells=[v]∧v.scalar=true:=by
 rcases a with rfl|rfl|⟨a,b,c,rfl⟩<;>exact⟨rfl,rfl⟩
end Go.Proofs.YtjpjeilfmjdhcaaGreat.eI
namespace Go.Proofs.YtjpjeilfmjdhcaaGreat.m3
open Go E ep eI fq fw fC f_
def ee:Lv→V
 | []=> .ab
 |e::es=> .cx (e::es)
mutual
def eN:X→V
 | .mk n ah=> .agg (bH n (ee (G8 ah)))
def G8:List X→Lv
 | []=> []
 |p::ah=>eN p::G8 ah
end
theorem CV:∀ah:List X,G8 ah=ah.map eN
 | []=>rfl
 |p::ah=>by simp[G8,CV ah]
theorem kf(es:Lv):(ee es).scalar=true∧(ee es).cells=[ee es]:=by cases es<;>exact⟨rfl,rfl⟩
theorem UY{az:Nat}{g:Lo}{es:Lv}(aS:∀e,e∈es→flat az e):dq az g (ee es) es:=by
 cases es with
 |nil=>exact dq.ab _ _
 |cons e es=>exact dq.cx (by simp[rr,(aS e (by simp)).1])
theorem UZ(es:Lv):dj (ee es)=[]:=by cases es<;>rfl
theorem zK{α:Type}{az:Nat}{T:hd α}{bx:Nat→Prop}{g:Lo}{f:α→V}{xs:List α}(aS:∀x,x∈xs→flat az (f x)∧T.aK bx g (f x) x):aC az T bx g (ee (xs.map f)) xs:=
 ⟨xs.map f,UY (fun e he=>by obtain⟨x,au,rfl⟩:=List.mem_map.1 he;exact(aS x au).1),by simp,fun o U=>(by rw[UZ] at U;cases U),fun i aw=>⟨f xs[i],by simp[aw],(aS _ (List.getElem_mem aw)).2⟩⟩
theorem U0(x:X):flat 8 (eN x):=by
 cases x with
 |mk n ah=>simp only[eN];exact uP (kf _).1
theorem U1{bx:Nat→Prop}{g:Lo}:∀x:X,c6 bx g (eN x) x:=by
 intro x
 refine X.rec (motive_1:=fun x=>c6 bx g (eN x) x) (motive_2:=fun ah=>∀p,p∈ah→c6 bx g (eN p) p) ?_ ?_ ?_ x
 ·intro n ah ba
  simp only[eN,CV]
  refine .mk (UY (fun e he=>by obtain⟨p,hp,rfl⟩:=List.mem_map.1 he;exact U0 p)) (fun o U=>by rw[UZ] at U;cases U) (by simp) (fun i e p R ae=> ?_)
  rw[List.getElem?_map,ae] at R
  simp at R
  subst R
  exact ba p (List.mem_of_getElem? ae)
 ·intro p hp;cases hp
 ·intro p ah R ae q bm
  rcases List.mem_cons.1 bm with rfl|bm
  ·exact R
  ·exact ae q bm
def pA(b:Bool):hd V where
 aK:=fun av h e c=>gJ b av h e c
 aJ:=by
  rintro av h aa v x A ⟨a,b,c,d⟩ k b4
  exact⟨a,b,c,fun o z y R ae=>(d o z y R ae).aJ fun i aw bN=>k.same i bN (fun z=>b4 i z aw)⟩
 mono:=by
  rintro av bx h v x ⟨a,b,c,d⟩ b4
  exact⟨a,b,c,fun o z y R ae=>(d o z y R ae).mono b4⟩
abbrev lA:hd V:=pA false
theorem w8{b:Bool}{az:Nat}{av:Nat→Prop}{h:Lo}{v:V}{us:Lv}(l:bw az (pA b) av h v us)(b0:us=[]→v= .ab):ef b av h v (ee us):=by
 obtain⟨es,s,a,aw,ax,he⟩:=l
 cases us with
 |nil=>rw[b0 rfl];exact .same rfl (.inr rfl)
 |cons u us=>
  have dQ:=s.c
  rcases a with rfl|rfl|⟨id,off,len,rfl⟩
  ·simp[fe] at dQ;subst dQ;simp at ax
  ·simp[fe] at dQ;subst dQ;simp at ax
  ·simp only[fe] at dQ
   split at dQ
   ·rename_i aM q dE
    split at dQ
    ·rename_i dw
     injection dQ with dQ
     have hlen:es.length=len:=by rw[←dQ];simp only[List.length_take,List.length_drop];omega
     have get:∀(i:Nat) (e c:V),aM[off+i]? =some e→(u::us)[i]? =some c→gJ b av h e c:=by
      intro i e c R ae
      have:i<(u::us).length:=(List.getElem?_eq_some_iff.1 ae).1
      have aQ:es[i]? =some e:=by
       rw[←dQ,List.getElem?_take,if_pos (by omega),List.getElem?_drop]
       exact R
      exact(pA b).mono (he i e c aQ ae) (fun o _ z=>z.1)
     exact .row (aw id (by simp[dj])) dE dw.2 (by omega) (fun i e c R ae=>⟨(get i e c R ae).len,(get i e c R ae).a8,(get i e c R ae).cr⟩) (fun i o e c z y R ae aE aR=>(get i e c R ae).at_ o z y aE aR)
    ·cases dQ
   ·cases dQ
theorem zL{b:Bool}{az bytes io n6:Nat}(b0:0<az)(TR:az≤1000)(AT:bytes≤1000){av bx:Nat→Prop}{h:Lo}{cs:Lv}{z e u cf:V}{us:Lv}{K:Lo→a9}{Q:cg→Lv→Lo→Prop}
  (st:bY h io cs) (an:cs[0+n6]? =some cf) (L:bw az (pA b) av h cf us) (uR:¬av io) (bg:gJ b bx h e u) (zo:∀o,o<h.length→bx o→av o∧o∉dj cf) (bd:∀o,h.length≤o→av o) (ax:us.length≤100000000000) (hp:kk az e=true)
  (eY:∀gO aa,bY aa io (cs.set (0+n6) gO)→bw az (pA b) av aa gO (us++ [u])→ai h aa (io::dj cf)→aL (K aa) Q):
  aL (ad (aB (.dN az z 1 [(0, .c e)]) h) fun x a=>bk (I (.ag (.c (.ptr io 0 (0+n6)))) a=some cf) (bk (I (.af n6 (.c (.ptr io 0 0))) a=some (.ptr io 0 (0+n6))) (ad (aB (.app az bytes (.c cf) (.c x)) a) fun y k=>J (I (.af n6 (.c (.ptr io 0 0))) k) fun p=>ad (aB (.store 1 (.c p) (.c y)) k) fun _ b=>K b))) Q:=by
 refine aL.ad (mg (az:=az) (z:=z) (len:=1) (ah:=[(0,e)]) (es:=[e]) (by omega) (by simp[hp]) rfl rfl) ?_
 rintro y R ⟨-,-,s6,dk,m0,ux⟩
 have fS:=st.aq m0
 rw[o9 _ (fS.ag an),o9 _ (fS.af n6 0 0)]
 obtain⟨es,qY,MN,U2,et,dg⟩:=L
 have MO:=qY.aq m0
 have MP:(es.length+ [e].length)*bytes≤oc:=by
  have:(es.length+1)*bytes≤100000000001*1000:=Nat.mul_le_mul (by omega) AT
  have e: [e].length=1:=rfl
  rw[e]
  exact Nat.le_trans this (by decide)
 refine aL.ad (BD (bytes:=bytes) MO MN s6.c MP) ?_
 rintro gO ae ⟨zg,c4,kw,zp⟩
 have akn:io∉dj cf:=fun z=>uR (U2 io z)
 have ds:=fS.aJ kw akn
 have bN:io<cs.length→True:=fun _=>trivial
 have U:0+n6<cs.length:=(List.getElem?_eq_some_iff.1 an).1
 simp only[ds.af,aO]
 refine aL.ad (ds.iK (o:=0+n6) (x:=gO) U (akm c4)) ?_
 rintro w aQ ⟨ha,aT⟩
 have U3:∀o,o∈dj gO→av o:=fun o U=>(zp o U).elim (U2 o) (fun z=>bd o (Nat.le_trans m0.len z))
 have en:∀o,o∈dj gO→o∉ [io]:=fun o U z=>uR (by have:=U3 o U;rw[List.mem_singleton.1 z] at this;exact this)
 have ol:∀o,o∈dj cf→o<h.length:=fun o U=>qY.lt U
 have gA:ai h ae (dj cf):=m0.trans kw (fun o U=>by cases U) (fun o U _=>U)
 refine eY gO aQ ha ⟨es++ [e],zg.aJ aT en,c4,U3,by simp[et], ?_⟩ (gA.trans aT (fun o U _=>List.mem_cons_of_mem _ U) (fun o U _=>by rw[List.mem_singleton.1 U];exact List.mem_cons_self))
 intro i a c aX aY
 have arV:io<h.length:=st.lt
 have fin:∀{a c:V},gJ b (fun o=>av o∧o∉dj cf∧o<h.length) h a c→gJ b (fun o=>av o∧o∉dj gO) aQ a c:=by
  intro a c q
  have aE:=(pA b).aJ ((pA b).aJ (show(pA b).aK _ h a c from q) m0 (fun o U=>by cases U)) kw (fun o U z=>z.2.1 U)
  have aR:=(pA b).aJ aE aT (fun o U z=>uR (by have:=z.1;rw[List.mem_singleton.1 U] at this;exact this))
  exact(pA b).mono aR (fun o _ z=>⟨z.1,fun w=>(zp o w).elim z.2.1 (fun x=>by have:=m0.len;have:=z.2.2;omega)⟩)
 by_cases aw:i<es.length
 ·rw[List.getElem?_append_left aw] at aX
  rw[List.getElem?_append_left (by omega)] at aY
  refine fin ?_
  exact(pA b).mono (dg i a c aX aY) (fun o U z=>⟨z.1,z.2,U⟩)
 ·have ako:i=es.length:=by
   have:=(List.getElem?_eq_some_iff.1 aX).1
   simp at this;omega
  subst ako
  rw[List.getElem?_append_right (by omega)] at aX
  rw[List.getElem?_append_right (by omega)] at aY
  simp[et] at aX aY
  subst aX;subst aY
  exact fin ((pA b).mono bg (fun o U z=>⟨(zo o U z).1,(zo o U z).2,U⟩))
theorem akp{av:Nat→Prop}{h:Lo}{n:fg}{cf:V}{ah:List X}(l:bw 8 lA av h cf (ah.map eN))(b0:ah=[]→cf= .ab):gJ false av h (.agg (bH n cf)) (eN (.mk n ah)):=by
 have a6:=(bw.a8 l).2
 have r:=w8 l (fun q=>b0 (by simpa using q))
 simp only[eN,CV]
 refine⟨rfl,(uP (kf _).1).2,rfl,fun o z y R ae=> ?_⟩
 match o with
 |0|1|2|3|4|5|6=>simp only[V.cells] at R ae;injection R with R;injection ae with ae;subst R;subst ae;exact .same rfl (.inr rfl)
 |7=>simp only[V.cells] at R ae;injection R with R;injection ae with ae;subst R;subst ae;exact r
 |o+8=>simp[V.cells] at R
abbrev G9(j k:Nat)(av:Nat→Prop)(x:X):Prop:=∀(n:fg) (aG:V) (ah:List X) (h:Lo),x= .mk n ah→c6 av h (.agg (bH n aG)) x→
 aj (rO j (mL j k) n.k n.op n.eh n.ed n.ak n.dG n.c7 aG h) fun v aa=>(∃cf,v= .agg (bH n cf)∧cf.scalar=true∧gJ false (fun o=>h.length≤o) aa (.agg (bH n cf)) (eN x))∧ai h aa []
theorem akq(j k:Nat){av:Nat→Prop}{R:Lo}{qy io:Nat}{n:fg}{aG:V}{es:Lv}{ah:List X}(hO:qy<io)(dR:bY R qy (bH n aG))(s:dq 8 R aG es)(ax:es.length=ah.length)(hp:∀(i:Nat) (e:V) (p:X),es[i]? =some e→ah[i]? =some p→c6 av R e p)
  (hw:ah.length≤1000000000) (kp:∀p,p∈ah→G9 j k av p) (cA:io=R.length):
  ∀(r i f:Nat) (h:Lo) (cf:V),ah.length=i+r→r<f→ai R h []→bY h io (bH n cf)→bw 8 lA (fun o=>R.length≤o∧o≠io) h cf ((ah.take i).map eN)→(i=0→cf= .ab)→
   aL (wu j (mL j (k+1)) f (.ptr qy 0 0) (.ptr io 0 0) ah.length i h) fun x ak aa=>ai R aa []∧x= .exit 0∧ak=[]∧∃gO,bY aa io (bH n gO)∧bw 8 lA (fun o=>R.length≤o∧o≠io) aa gO (ah.map eN)∧(ah=[]→gO= .ab):=by
 intro r
 induction r with
 |zero=>
  intro i f h cf hm aS aq st L z
  obtain⟨f,rfl⟩:∃g,f=g+1:=⟨f-1,by omega⟩
  have bj:decide ((i:Int)<(ah.length:Int))=false:=decide_eq_false (by omega)
  have aw:i=ah.length:=by omega
  subst aw
  rw[List.take_length] at L
  simp only[wu,Fu,bj,a7]
  exact aL.some ⟨aq,rfl,rfl,cf,st,L,fun q=>z (by rw[q];rfl)⟩
 |succ r ba=>
  intro i f h cf hm aS aq st L z
  obtain⟨f,rfl⟩:∃g,f=g+1:=⟨f-1,by omega⟩
  have bN:i<ah.length:=by omega
  have uB:decide ((i:Int)<(ah.length:Int))=true:=decide_eq_true (by omega)
  have e7:IntKind.i64.wrap ((i:Int)+1)=((i+1:Nat):Int):=by rw[wrap_i64 (by omega) (by omega)];omega
  obtain⟨a,cY,iF,lX,aV,b5,cI,cp,bF⟩:=c6.at (s.aq aq) ax (fun i e p aX aY=>(hp i e p aX aY).aq aq) bN
  have U4:=dR.aq aq
  have le:I (.ag (.c (.ptr qy 0 (0+7)))) h=some aG:=U4.ag rfl
  have et:I (.ag (.c (.ptr io 0 (0+7)))) h=some cf:=st.ag rfl
  have s3:∀bI,mL j (k+1) 36 [.agg (bH cY iF)] bI=rO j (mL j k) cY.k cY.op cY.eh cY.ed cY.ak cY.dG cY.c7 iF bI:=fun bI=>rfl
  simp only[wu,Fu,uB,aU,U4.af,st.af,et,le,b5,cI,aO,bP,aN,aZ,bn,bl,id_eq,bq,a1,bC,a5,e7,s3]
  refine aL.ad (kp ah[i] (List.getElem_mem bN) cY iF lX h aV (aV▸cp)) ?_
  rintro v ae ⟨⟨kq,rfl,bD,hI⟩,aA⟩
  have ds:=st.aq aA
  have akr:I (.ag (.c (.ptr io 0 (0+7)))) ae=some cf:=ds.ag rfl
  simp only[bP,aN,aZ,bn,bl,id_eq,bq,a1,bC,a5]
  rw[o9 _ akr,o9 _ (ds.af 7 0 0)]
  have OO:=aq.len
  have uz:=aA.len
  have arW:=st.lt
  refine zL (az:=8) (io:=io) (n6:=7) (bx:=fun o=>h.length≤o) (av:=fun o=>R.length≤o∧o≠io) (by decide) (by decide) (by decide) ds rfl ((ca 8 lA).aJ L aA (fun o U=>by cases U)) (fun q=>q.2 rfl) hI
   (fun o U q=>⟨⟨by have:h.length≤o:=q;omega,by have:h.length≤o:=q;omega⟩,fun w=>by have:=(bw.lt L w).1;have:h.length≤o:=q;omega⟩) (fun o U=>⟨by omega,by omega⟩) (by simp;omega) (l2 rfl (uP (bU:=cY) bD).2) fun gO aQ ha gh aT=> ?_
  have oL:ai R aQ []:=(aq.bs aA).trans aT (fun o U=>by cases U) (fun o U bN=>by
   rcases List.mem_cons.1 U with rfl|U
   ·omega
   ·have:=(bw.lt L U).2.1;omega)
  refine ba (i+1) f aQ gO (by omega) (by omega) oL ha ?_ (fun q=>by omega)
  have:(ah.take (i+1)).map eN=(ah.take i).map eN++ [eN ah[i]]:=by rw[←List.take_append_getElem bN,List.map_append];rfl
  rw[this]
  exact gh
theorem U5(j k w:Nat)(hw:w<j)(bV:w≤1000000000){av:Nat→Prop}{x:X}(au:g_ w (k+1) x)(kp:∀o,k=o+1→∀n ah,x= .mk n ah→∀p,p∈ah→G9 j o av p):G9 j k av x:=by
 intro n aG ah h e ex
 subst e
 obtain⟨es,s,aw,ax,hp⟩:=ex.inv
 have Mc:ah.length≤w:=au.1
 simp only[rO]
 refine aj.ad (fO (cs:=bH n aG) (mS s)) ?_
 rintro v R ⟨rfl,fS,ar⟩
 refine aj.ad (hs (cs:=gT) rfl) ?_
 rintro v ae ⟨rfl,U6,aA⟩
 have ds:=fS.aq aA
 have gd:=fun ao=>ds.af ao 0 0
 have df:I (.ag (.c (.ptr h.length 0 0))) ae=some (.int .i64 n.k):=ds.ag rfl
 have b5:I (.ag (.c (.ptr h.length 0 1))) ae=some (.str n.op):=ds.ag rfl
 have cI:I (.bp 3 (.c (.ptr h.length 0 2))) ae=some (.agg [.int .i64 n.eh, .int .i64 n.ed, .str n.ak]):=iE ds (by simp) (by decide)
 have gb:I (.ag (.c (.ptr h.length 0 5))) ae=some (.str n.dG):=ds.ag rfl
 have g8:I (.ag (.c (.ptr h.length 0 6))) ae=some (.str n.c7):=ds.ag rfl
 have fx:I (.build [.int .i64 0,(.str []), .int .i64 0, .int .i64 0,(.str []),(.str []),(.str []), .ab] [(0,(1,(.c (.int .i64 n.k)))),(1,(1,(.c (.str n.op)))),(2,(3,(.c (.agg [.int .i64 n.eh, .int .i64 n.ed, .str n.ak])))),(5,(1,(.c (.str n.dG)))),(6,(1,(.c (.str n.c7))))]) ae=some (.agg (bH n .ab)):=rfl
 simp only[Nat.zero_add] at gd
 simp only[gd,df,b5,cI,gb,g8,fx,aO,bP,aN,aZ,bn,bl,id_eq,bq,a1,bC,a5]
 refine aj.ad (hs (cs:=gT) rfl) ?_
 rintro v aQ ⟨rfl,U7,aT⟩
 refine aj.ad (U7.ic (aM:=bH n .ab) rfl (by simp) rfl rfl) ?_
 rintro u bo ⟨zM,bu⟩
 have Mh:=ar.len
 have DS:=fS.lt
 have afV:=U6.lt
 have arX:=U7.lt
 have n4:ai ae bo []:=aT.trans bu (fun o U=>by cases U) (fun o U ax=>by simp at U;omega)
 have p2:=ds.aq n4
 have U8:=p2.af 7 0 0
 have ie:I (.ag (.c (.ptr h.length 0 7))) bo=some aG:=p2.ag rfl
 have lZ:ai h bo []:=(ar.bs aA).bs n4
 have ig:=jv (s.aq lZ)
 rw[ax] at ig
 simp only[Nat.zero_add] at U8
 simp only[U8,ie,ig,aO,a1]
 have dW:=ar.bs aA
 have eT:aL (wu j (mL j k) j (.ptr h.length 0 0) (.ptr ae.length 0 0) ah.length (0:Int) bo) fun x ak aa=>ai ae aa []∧x= .exit 0∧ak=[]∧∃gO,bY aa ae.length (bH n gO)∧bw 8 lA (fun o=>ae.length≤o∧o≠ae.length) aa gO (ah.map eN)∧(ah=[]→gO= .ab):=by
  cases k with
  |zero=>
   have sx:ah=[]:=by
    cases ah with
    |nil=>rfl
    |cons p t=>exact absurd (au.2 p (by simp)) (by simp[g_])
   subst sx
   obtain⟨g,rfl⟩:∃g,j=g+1:=⟨j-1,by omega⟩
   exact⟨.exit 0,[],bo,rfl,n4,rfl,rfl, .ab,zM,bw.ab _ _ _ _,fun _=>rfl⟩
  |succ o=>exact akq j o (by omega) ds (s.aq dW) ax (fun i e p aX aY=>(hp i e p aX aY).aq dW) (by omega) (fun p uu=>kp o rfl n ah rfl p uu) rfl ah.length 0 j bo .ab (by omega) (by omega) n4 zM (bw.ab _ _ _ _) (fun _=>rfl)
 refine aj.bO eT ?_
 rintro x ak bI ⟨bX,rfl,rfl,cf,aks,uL,uS⟩
 have zN:=U6.aq bX
 have U9:=(bw.a8 uL).2
 have et:I (.bp 8 (.c (.ptr ae.length 0 0))) bI=some (.agg (bH n cf)):=aks.e4 rfl
 simp only[decide_true,aU,a5,et,aO,bP,aN,aZ,bn,bl,id_eq,bq,a1,bC]
 refine aj.ad (zN.ic (aM:=bH n cf) rfl (by simp) (uP (bU:=n) U9).2 rfl) ?_
 rintro u cR ⟨Nf,cP⟩
 have CW:dS cR 8 (.ptr R.length 0 0)=some (.agg (bH n cf)):=Nf.bp
 rw[CW,aO]
 refine aj.some ⟨⟨cf,rfl,U9, ?_⟩,(dW.bs bX).trans cP (fun o U=>by cases U) (fun o U bN=>by simp at U;omega)⟩
 exact lA.mono (lA.aJ (akp uL uS) cP (fun o U q=>by simp at U;have:=q.1;omega)) (fun o _ q=>by have:=q.1;omega)
theorem akt(j w:Nat)(hw:w<j)(bV:w≤1000000000){av:Nat→Prop}:∀(k:Nat) (x:X),g_ w (k+1) x→G9 j k av x:=by
 intro k
 induction k with
 |zero=>intro x au;exact U5 j 0 w hw bV au (fun o U=>by omega)
 |succ k ba=>
  intro x au
  refine U5 j (k+1) w hw bV au (fun o U n ah e p hp=> ?_)
  obtain rfl:k=o:=by omega
  subst e
  exact ba p (au.2 p hp)
theorem CX{j w D:Nat}(hw:w<j)(bV:w≤1000000000)(b_:D≤j){av:Nat→Prop}{h:Lo}{n:fg}{aG:V}{ah:List X}(b0:g_ w D (.mk n ah))(ex:c6 av h (.agg (bH n aG)) (.mk n ah)):
  aj (rO j (mL j j) n.k n.op n.eh n.ed n.ak n.dG n.c7 aG h) fun v aa=>(∃cf,v= .agg (bH n cf)∧cf.scalar=true∧gJ false (fun o=>h.length≤o) aa (.agg (bH n cf)) (eN (.mk n ah)))∧ai h aa []:=
 akt j w hw bV j _ (b0.mono (by omega)) n aG ah h rfl ex
def uT(v:V)(k:Int)(cs:Lv)(ao:Nat):V:=match v with
 | .er id off _=> .ptr id (off+k.toNat) ao
 |_=> .ref (.agg cs) ao
theorem aku{n:Nat}{h:Lo}{v:V}{es:Lv}(s:dq n h v es){k:Int}{cs:Lv}(aH:0≤k)(he:es[k.toNat]? =some (.agg cs))(an:cs.length=n)(aI:0<n):
  I (.cH n (.c v) (.c (.int .i64 k))) h=some (uT v k cs 0)∧∀(ao:Nat),I (.af ao (.c (uT v k cs 0))) h=some (uT v k cs ao)∧(∀x,cs[ao]? =some x→I (.ag (.c (uT v k cs ao))) h=some x)∧∀m,ao+m≤cs.length→I (.bp m (.c (uT v k cs ao))) h=some (.agg ((cs.drop ao).take m)):=by
 subst an
 have c:=s.c
 have one:∀(ao:Nat) (x:V),cs[ao]? =some x→ao+1≤cs.length∧(List.drop ao cs).take 1=[x]:=by
  intro ao x cj
  have bN:=(List.getElem?_eq_some_iff.1 cj).1
  refine⟨by omega, ?_⟩
  rw[List.drop_eq_getElem_cons bN]
  have:=(List.getElem?_eq_some_iff.1 cj).2
  simp[this]
 cases v with
 |ab=>simp[fe] at c;subst c;simp at he
 |hS=>simp[fe] at c;subst c;simp at he
 |cx cc=>
  simp only[fe] at c
  split at c
  ·injection c with c;subst c
   refine⟨?_,fun ao=>⟨?_,fun x cj=> ?_,fun m hm=> ?_⟩⟩<;>simp only[uT]
   ·simp[I,aB,e8,rA,fW,nJ,aH,he,V.cells]
   ·simp[I,aB,e8,vW,fW]
   ·obtain⟨nN,qE⟩:=one ao x cj
    have e:lh h 1 (.ref (.agg cs) ao)=some [x]:=by
     have q:lh h 1 (.ref (.agg cs) ao)=if ao+1≤cs.length then some ((cs.drop ao).take 1) else none:=rfl
     rw[q,if_pos nN,qE]
    simp only[I,aB,e8,tZ,fW,mA,e]
    rfl
   ·have q:lh h m (.ref (.agg cs) ao)=if ao+m≤cs.length then some ((cs.drop ao).take m) else none:=rfl
    simp only[I,aB,e8,vV,fW,dS,q]
    rw[if_pos hm]
    rfl
  ·cases c
 |er id off len=>
  simp only[fe] at c
  split at c
  ·rename_i cc q dE
   split at c
   ·rename_i dw
    obtain⟨rfl,jX⟩:=dw
    injection c with c
    rw[←c,List.getElem?_take] at he
    split at he
    ·rename_i bN
     rw[List.getElem?_drop] at he
     refine⟨?_,fun ao=>⟨?_,fun x cj=> ?_,fun m hm=> ?_⟩⟩<;>simp only[uT]
     ·simp only[I,aB,e8,rA,fW,nJ,dE]
      rw[if_pos ⟨aH,by omega⟩]
      simp
     ·simp[I,aB,e8,vW,fW,lK,dE]
     ·obtain⟨nN,qE⟩:=one ao x cj
      simp only[I,aB,e8,tZ,fW,mA,lh,dE,he,Option.map_some,V.cells]
      rw[if_pos nN,qE]
      rfl
     ·simp only[I,aB,e8,vV,fW,dS,lh,dE,he,Option.map_some,V.cells]
      rw[if_pos hm]
      rfl
    ·cases he
   ·cases c
  ·cases c
 |str l=>exact absurd rfl (s.h5 l)
 |_=>simp[fe] at c
theorem tj{n:Nat}{h:Lo}{v:V}{es:Lv}(s:dq n h v es){k:Int}{cs:Lv}(aH:0≤k)(he:es[k.toNat]? =some (.agg cs))(an:cs.length=n)(aI:0<n):
  ∃b:Nat→V,∀g,ai h g []→I (.cH n (.c v) (.c (.int .i64 k))) g=some (b 0)∧∀(ao:Nat),I (.af ao (.c (b 0))) g=some (b ao)∧(∀x,cs[ao]? =some x→I (.ag (.c (b ao))) g=some x)∧∀m,ao+m≤cs.length→I (.bp m (.c (b ao))) g=some (.agg ((cs.drop ao).take m)):=
 ⟨uT v k cs,fun g db=>aku (s.aq db) aH he an aI⟩
abbrev dH:Nat→Prop:=fun _=>False
theorem Ng:∀{es:Lv},(∀e,e∈es→ff e=true)→ln es=true
 | [],_=>rfl
 |e::es,h=>by simp only[ln,Bool.and_eq_true];exact⟨h e (by simp),Ng fun x au=>h x (List.mem_cons_of_mem _ au)⟩
theorem G_{az:Nat}{h:Lo}{v:V}{es:Lv}(s:dq az h v es)(aw:∀o,o∈dj v→False):(∀g,dq az g v es)∧((∀e,e∈es→ff e=true)→ff v=true):=by
 have c:=s.c
 cases v with
 |ab=>exact⟨fun g=>⟨c,s.h5⟩,fun _=>rfl⟩
 |hS=>exact⟨fun g=>⟨c,s.h5⟩,fun _=>rfl⟩
 |cx cc=>
  refine⟨fun g=>⟨c,s.h5⟩,fun q=> ?_⟩
  simp only[fe] at c
  split at c
  ·injection c with c;subst c
   simp only[ff]
   exact Ng q
  ·cases c
 |er id off len=>exact(aw id (by simp[dj])).elim
 |str l=>exact absurd rfl (s.h5 l)
 |_=>simp[fe] at c
theorem uU{h:Lo}{e:V}{x:X}(ex:c6 dH h e x):ff e=true∧∀g,c6 dH g e x:=by
 induction ex with
 | @mk bU aG es ah s aw ax hp ba=>
  obtain⟨s1,s2⟩:=G_ s aw
  refine⟨?_,fun g=> .mk (s1 g) aw ax fun i e p R ae=>(ba i e p R ae).2 g⟩
  have:=s2 fun e he=>by
   obtain⟨i,hn,rfl⟩:=List.mem_iff_getElem.1 he
   obtain⟨p,m2⟩:=CS ax (List.getElem?_eq_getElem hn)
   exact(ba i _ p (List.getElem?_eq_getElem hn) m2).1
  simp[ff,ln,this]
theorem akv{h:Lo}{v:V}{xs:List X}(l:aC 8 bL dH h v xs):ff v=true∧∀g,aC 8 bL dH g v xs:=by
 obtain⟨es,s,ax,aw,he⟩:=l
 obtain⟨s1,s2⟩:=G_ s aw
 refine⟨s2 fun e au=> ?_,fun g=>⟨es,s1 g,ax,aw,fun i hn=> ?_⟩⟩
 ·obtain⟨i,hn,rfl⟩:=List.mem_iff_getElem.1 au
  obtain⟨e,aV,n,aG,ah,-,bb,ex⟩:=he i (by omega)
  rw[List.getElem?_eq_getElem hn] at aV
  injection aV with aV
  rw[aV,bb]
  exact(uU ex).1
 ·obtain⟨e,aV,n,aG,ah,aE,aR,ex⟩:=he i hn
  exact⟨e,aV,n,aG,ah,aE,aR,(uU ex).2 g⟩
end Go.Proofs.YtjpjeilfmjdhcaaGreat.m3
namespace Go.Proofs.YtjpjeilfmjdhcaaGreat.wv
open Go E E.K ep eI fq fw fC f_ m3
theorem akw{j w D:Nat}(hw:w<j)(bV:w≤1000000000)(b_:D≤j){av:Nat→Prop}{aI:Lo}{a:V}{xs:List X}(l:aC 8 bL av aI a xs)(ax:xs.length≤w)(g:∀x,x∈xs→g_ w D x):
  ∀(m i n:Nat) (h:Lo) (out:V),xs.length=i+m→m<n→ai aI h []→bw 8 lA (fun o=>aI.length≤o) h out ((xs.take i).map eN)→(i=0→out= .ab)→aL (yF j n a out xs.length i h) fun x ak aa=>x= .exit 0∧∃kc,ak=[kc]∧bw 8 lA (fun o=>aI.length≤o) aa kc (xs.map eN)∧(xs=[]→kc= .ab)∧ai aI aa []:=by
 intro m
 induction m with
 |zero=>
  intro i n h out hm bd k L z
  obtain⟨n,rfl⟩:∃g,n=g+1:=⟨n-1,by omega⟩
  have bj:decide ((i:Int)<(xs.length:Int))=false:=decide_eq_false (by omega)
  simp only[yF,Fy,bj,a7]
  rw[List.take_of_length_le (by omega)] at L
  exact aL.some ⟨rfl,out,rfl,L,fun q=>z (by subst q;simp at hm;omega),k⟩
 |succ m ba=>
  intro i n h out hm bd k L z
  obtain⟨n,rfl⟩:∃g,n=g+1:=⟨n-1,by omega⟩
  have aw:i<xs.length:=by omega
  have bj:decide ((i:Int)<(xs.length:Int))=true:=decide_eq_true (by omega)
  have A4:IntKind.i64.wrap ((i:Int)+1)=((i+1:Nat):Int):=by rw[wrap_i64 (by omega) (by omega)];simp
  obtain⟨es,s,-,-,he⟩:=l.aq k
  obtain⟨e,aV,bU,aG,ah,au,rfl,cp⟩:=he i aw
  obtain⟨p,cF,cW⟩:=s.kn (k:=(i:Int)) (cs:=bH bU aG) (by omega) (by simpa using aV) rfl (by decide)
  have jC:=g _ (List.getElem_mem aw)
  rw[au] at jC
  simp only[yF,Fy,bj,aU,cF,cW,aO,aN,aZ,bn,bl,id_eq,bP,bq,a1,bC,a5,A4]
  refine aL.ad (CX hw (by omega) b_ jC cp) ?_
  rintro v R ⟨⟨cf,rfl,bD,du⟩,ar⟩
  simp only[aN,aZ,bn,bl,id_eq,bP,bq,a1,bC,a5]
  have lt:aI.length≤h.length:=k.len
  have jQ:=(ca 8 lA).aJ L ar (fun o U=>by cases U)
  refine tb (T:=lA) (bx:=fun o=>h.length≤o) (x:=eN (.mk bU ah)) (by decide) (by decide) (by decide) jQ du (fun o U z=>⟨by have:h.length≤o:=z;omega,fun y=>by have:=(bw.lt L y).1;have:h.length≤o:=z;omega⟩) (fun o U=>by have:=ar.len;omega) (by simp;omega) (l2 rfl (uP (bU:=bU) bD).2) fun a2 aQ gh aT=> ?_
  refine ba (i+1) n aQ a2 (by omega) (by omega) ((k.bs ar).trans aT (fun o U=>by cases U) (fun o U bN=>by have:=(bw.lt L U).2;omega)) ?_ (fun q=>by omega)
  have:(xs.take (i+1)).map eN=(xs.take i).map eN++ [eN (.mk bU ah)]:=by rw[←au,←List.take_append_getElem aw,List.map_append];rfl
  rw[this]
  exact gh
theorem akx{j w D:Nat}(hw:w<j)(bV:w≤1000000000)(b_:D≤j){av:Nat→Prop}{h:Lo}{a:V}{xs:List X}(l:aC 8 bL av h a xs)(ax:xs.length≤w)(g:∀x,x∈xs→g_ w D x):
  aj (mj j a h) fun v aa=>ef false (fun o=>h.length≤o) aa v (ee (xs.map eN))∧ai h aa []:=by
 simp only[mj,l.len,aO,a1]
 have eT:=akw hw bV b_ l ax g xs.length 0 j h .ab (by omega) (by omega) (ai.refl _ _) (bw.ab _ _ _ _) (fun _=>rfl)
 refine aj.bO eT ?_
 rintro x ak R ⟨rfl,out,rfl,L,z,k⟩
 simp only[decide_true,aU,aN,aZ,bn,bl,id_eq,bq,a5]
 exact aj.some ⟨w8 L (fun q=>z (by simpa using q)),k⟩
end Go.Proofs.YtjpjeilfmjdhcaaGreat.wv
namespace Go.Proofs.YtjpjeilfmjdhcaaGreat.CY
open Go E eI fq fC f_ m3
noncomputable def yG(j:Nat):Lv→Lo→OvL:=BI (wv.yG j)
theorem Fz(j:Nat):cq Tryz.prog 34 (yG j):=abb (wv.Fz j)
noncomputable def mj(j:Nat)(l:V)(h:Lo):OvL:=yG j [l] h
theorem Ha{j w D:Nat}(hw:w<j)(bV:w≤1000000000)(b_:D≤j){h:Lo}{a:V}{xs:List X}(l:aC 8 bL dH h a xs)(ax:xs.length≤w)(g:∀x,x∈xs→g_ w D x)(aa:Lo):mj j a aa=some (ee (xs.map eN),aa):=by
 obtain⟨n,rT⟩:=akv l
 obtain⟨v,ae,e,r,k⟩:=wv.akx hw bV b_ (rT []) ax g
 exact abc (W:=wv.yG j) (args:=[a]) (by simp[ln,n]) e r aa
end Go.Proofs.YtjpjeilfmjdhcaaGreat.CY
