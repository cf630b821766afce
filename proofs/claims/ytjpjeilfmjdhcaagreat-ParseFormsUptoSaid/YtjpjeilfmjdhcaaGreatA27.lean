/- The document's Formed: too long; all of a list; a query. No condition. -/
import Derived.Test.YtjpjeilfmjdhcaaGreatA26
set_option maxRecDepth 100000
set_option linter.unusedVariables false
set_option linter.unusedSimpArgs false
set_option linter.unnecessarySimpa false
set_option linter.unusedSectionVars false
namespace Go.Proofs.YtjpjeilfmjdhcaaGreat.h3
open Go E E.K ep eI fq fw fC f_ hE
theorem WD(n:Nat):decide ((n:Int)>8)=decide (8<n):=tr n 8
theorem ao2(n:Nat):decide ((n:Int)>10)=decide (10<n):=tr n 10
theorem ao3(n:Nat):decide ((n:Int)>3)=decide (3<n):=tr n 3
theorem ao4:∀a b c d e f g h i:Bool,((a||(b||(c||(d||(e||(f||(g||h)))))))||i)=(a||b||d||e||f||g||i||c||h):=by decide
theorem ao5{α:Type}(l:List α)(p:α→Bool):l.any p= !(l.all fun x=> !(p x)):=by induction l with
 |nil=>rfl
 |cons x l ba=>rw[List.any_cons,List.all_cons,ba,Bool.not_and,Bool.not_not]
theorem WE{j w:Nat}(hw:w<j)(bV:w≤1000000000000){av:Nat→Prop}{h:Lo}{v:V}{m:ea}(t:hl.aK av h v m)(bc:m.rows.length≤w):aj (Dk j v h) fun b aa=>b= .bool (qb m)∧ai h aa []:=by
 obtain⟨bF,bD,b8,cu,cK,a,b,c,d,e,rfl,de,cD,dd,dh,dZ,t1,t2,t3,t4,t5⟩:=t
 simp only[Dk]
 refine aj.ad (fO (cs:=fb m.k m.name m.on m.un bF bD b8 cu cK m.q.ch m.q.star a b c d e m.q.b7) (jk (aC.a8 de).2 (aC.a8 cD).2 (aC.a8 dd).2 (aC.a8 dh).2 (aC.a8 dZ).2 (aC.a8 t1).2 (aC.a8 t2).2 (aC.a8 t3).2 (aC.a8 t4).2 (aC.a8 t5).2)) ?_
 rintro p R ⟨rfl,s,ar⟩
 have uG:I (.bp 8 (.c (.ptr h.length 0 (0+9)))) R=some (.agg (e2 m.q.ch m.q.star a b c d e m.q.b7)):=iE s (o:=0+9) (n:=8) (by simp) (by decide)
 simp only[s.af,uG,aO,aN,aZ,bn,bl,id_eq,bP,bq,a1,a0,a5]
 refine qZ (n:=8) (fU:=e2 false false .ab .ab .ab .ab .ab 0) (aM:=e2 m.q.ch m.q.star a b c d e m.q.b7) rfl rfl rfl (by decide) (qc (aC.a8 t1).2 (aC.a8 t2).2 (aC.a8 t3).2 (aC.a8 t4).2 (aC.a8 t5).2) fun ae hY aA=> ?_
 have k:=ar.bs aA
 have s2:=s.aq aA
 refine kh k ?_
 have hP:aL (IH j (.ptr h.length 0 0) (.ptr R.length 0 0) ae) fun x ak aa=>x= .normal∧ak=[.bool (decide (8<m.hk.length)||(decide (8<m.keys.length)||(decide (10<m.rows.length)||(decide (8<m.ft.length)||(decide (8<m.q.items.length)||(decide (8<m.q.fh.length)||(decide (8<m.q.eV.length)||decide (3<m.q.eH.length))))))))]∧ai ae aa []:=by
  simp only[IH,s2.af,hY.af,s2.ag (o:=0+4) (c:=bF) rfl,s2.ag (o:=0+5) (c:=bD) rfl,s2.ag (o:=0+6) (c:=b8) rfl,s2.ag (o:=0+7) (c:=cu) rfl,hY.ag (o:=0+2) (c:=a) rfl,hY.ag (o:=0+3) (c:=b) rfl,hY.ag (o:=0+5) (c:=d) rfl,hY.ag (o:=0+6) (c:=e) rfl,aO,(de.aq k).len,(cD.aq k).len,(dd.aq k).len,(dh.aq k).len,(t1.aq k).len,(t2.aq k).len,(t4.aq k).len,(t5.aq k).len,a1,WD,ao2,ao3]
  refine hG (ai.refl _ _) fun _=> ?_
  refine hG (ai.refl _ _) fun _=> ?_
  refine hG (ai.refl _ _) fun _=> ?_
  refine hG (ai.refl _ _) fun _=> ?_
  refine hG (ai.refl _ _) fun _=> ?_
  refine hG (ai.refl _ _) fun _=> ?_
  refine hG (ai.refl _ _) fun _=> ?_
  exact u5 (ai.refl _ _)
 have ao6:qb m=((decide (8<m.hk.length)||(decide (8<m.keys.length)||(decide (10<m.rows.length)||(decide (8<m.ft.length)||(decide (8<m.q.items.length)||(decide (8<m.q.fh.length)||(decide (8<m.q.eV.length)||decide (3<m.q.eH.length))))))))||m.rows.any (fun r=>decide (8<r.length))):=(ao4 _ _ _ _ _ _ _ _ _).symm
 rw[ao6]
 refine Ay hP (fun aQ aT=> ?_)
 generalize (decide (8<m.hk.length)||(decide (8<m.keys.length)||(decide (10<m.rows.length)||(decide (8<m.ft.length)||(decide (8<m.q.items.length)||(decide (8<m.q.fh.length)||(decide (8<m.q.eV.length)||decide (3<m.q.eH.length))))))))=z
 cases z with
 |true=>exact aj.some ⟨rfl,aT⟩
 |false=>
  have eu:=s2.aq aT
  have eA:=k.bs aT
  simp only[a7,Bool.false_or,eu.af,eu.ag (o:=0+6) (c:=b8) rfl,(dd.aq eA).len,aO,a1]
  have eT:=mw (xs:=m.rows) (q:=fun r=> !(decide (8<r.length))) (L:=fun n i aa=>Ap j n (.ptr h.length 0 0) m.rows.length i aa) (aI:=aQ) (k:=0) (n:=j) (aK:=(·=[.bool true])) (by omega) (fun n h=>by simp only[Ap,II,jU,a7]) (by
   intro n i aw bo Q bu eE eP
   obtain⟨p,ct,cF,cW,t⟩:=aC.atR ((dd.aq eA).aq bu) aw
   have hx:=eu.aq bu
   simp only[Ap,II,jT aw,aU,hx.af,hx.ag (o:=0+6) (c:=b8) rfl,cF,cW,t.len,aO,a1,WD,jV aw (Nat.le_trans bc (by omega))]
   cases bj:decide (8<m.rows[i].length) with
   |true=>exact aL.some (eP (by rw[bj];rfl) _ _ rfl bu)
   |false=>exact eE (by rw[bj];rfl) _ bu)
  refine aj.bO eT ?_
  rintro x ak bo ⟨bu,r⟩
  rw[ao5]
  cases eW:m.rows.all (fun r=> !(decide (8<r.length))) with
  |true=>
   rw[eW,if_pos rfl] at r
   obtain⟨rfl,rfl⟩:=r
   simp only[decide_true,aU,a5]
   exact aj.some ⟨rfl,aT.bs bu⟩
  |false=>
   rw[eW,if_neg (by decide)] at r
   obtain⟨rfl,rfl⟩:=r
   simp only[show decide (cg.ret=cg.exit 0)=false from rfl,a7,decide_true,aU,aN,aZ,bn,bl,id_eq,bq,a0,a5]
   exact aj.some ⟨rfl,aT.bs bu⟩
theorem ao7(i:Nat):decide ((i:Int)>0)= !(decide (i=0)):=by
 by_cases h:i=0
 ·subst h;rfl
 ·rw[decide_eq_false h,decide_eq_true (by omega)];rfl
section
variable {j w:Nat} (aS:1000<j) (hw:w<j) (bV:w≤1000000000000)
include aS hw bV
theorem Jd{av:Nat→Prop}{aI:Lo}{a:V}{xs:List X}(l:aC 8 bL av aI a xs)(ax:xs.length≤w)(g:∀x,x∈xs→e1 w x):aj (xx j a aI) fun v aa=>v= .bool (xs.all gW)∧ai aI aa []:=by
 simp only[xx,l.len,aO,a1]
 have eT:=mw (xs:=xs) (q:=gW) (L:=fun n i aa=>Aq j n a xs.length i aa) (aI:=aI) (k:=0) (n:=j) (aK:=(·=[.bool false])) (by omega) (fun n h=>by simp only[Aq,IJ,jU,a7]) (by
  intro n i aw h Q k eE eP
  obtain⟨p,bU,aG,ah,cF,cW,au,cp⟩:=aC.I4 (l.aq k) aw
  have ge:=g _ (List.getElem_mem aw)
  rw[au] at ge eE eP
  simp only[Aq,IJ,jT aw,aU,cF,cW,aO,aN,aZ,bn,bl,id_eq,bP,bq,a1,bC,a5,jV aw (Nat.le_trans ax (by omega))]
  refine aL.ad (Dr aS hw bV ge cp) ?_
  rintro v ae ⟨rfl,aA⟩
  simp only[a0]
  exact iR (aK:=(·=[.bool false])) (fun aF=>eP aF _ _ rfl (k.bs aA)) (fun aF=>eE aF _ (k.bs aA)))
 have:=j0 (c:=true) (K:=fun h=>some (.bool true,h)) eT (fun _ aa gu=>aj.some ⟨rfl,gu⟩)
 rw[Bool.and_true] at this
 exact this
theorem ao8{av:Nat→Prop}{aI:Lo}{id:Nat}{cs:Lv}{a:V}{xs:List ij}(s:bY aI id cs)(bh:cs[0+2]? =some a)(l:aC 9 eC av aI a xs)(ax:xs.length≤w)(g:∀x,x∈xs→e1 w x.e)(pF:∀x,x∈xs→x.n.length≤w):
  aL (xy j j (.ptr id 0 0) xs.length 0 aI) fun x ak aa=>ai aI aa []∧if xs.all pE=true then x= .exit 0∧ak=[] else x= .ret∧ak=[.bool false]:=by
 refine mw (xs:=xs) (q:=pE) (L:=fun n i h=>xy j n (.ptr id 0 0) xs.length i h) (aK:=(·=[.bool false])) (by omega) (fun n h=>by simp only[xy,IL,jU,a7]) ?_
 intro n i aw h Q k eE eP
 obtain⟨p,gm,jE,bU,aG,ah,cF,ke,n7,cW,hW,au,cp⟩:=aC.Ja (l.aq k) aw
 have ge:=g _ (List.getElem_mem aw)
 rw[au] at ge
 have s1:=s.aq k
 have bm:pE xs[i]=(gW (.mk bU ah)&&(xs[i].n==[]||fP xs[i].n)):=by unfold pE;rw[au]
 simp only[xy,IL,jT aw,aU,s1.af,s1.ag bh,cF,cW,hW,aO,aN,aZ,bn,bl,id_eq,bP,bq,a1,bC,a0,a5,jV aw (Nat.le_trans ax (by omega))]
 refine aL.ad (Dr aS hw bV ge cp) ?_
 rintro v ae ⟨rfl,aA⟩
 have db:=k.bs aA
 have s2:=s.aq db
 obtain⟨lR,WA,Dw,sn,lr,lu,kt,Dx,Dy,-⟩:=aC.Ja (l.aq db) aw
 simp only[a0,s2.af,s2.ag bh,kt,Dx,Dy,aO,bC]
 refine iR (aK:=(·=[.bool false])) (fun aF=>eP (by rw[bm,aF,Bool.false_and]) _ _ rfl db) (fun aF=> ?_)
 rw[aF,Bool.true_and] at bm
 cases he:xs[i].n==[] with
 |true=>
  rw[he,Bool.true_or] at bm
  simp only[Bool.not_true,a7]
  exact eE bm _ db
 |false=>
  rw[he,Bool.false_or] at bm
  simp only[Bool.not_false,aU]
  refine aL.ad (u7 aS hw bV (pF _ (List.getElem_mem aw))) ?_
  rintro v aQ ⟨rfl,aT⟩
  simp only[a0]
  exact iR (aK:=(·=[.bool false])) (fun aF=>eP (by rw[bm,aF]) _ _ rfl (db.bs aT)) (fun aF=>eE (by rw[bm,aF]) _ (db.bs aT))
theorem ao9{av:Nat→Prop}{aI:Lo}{id:Nat}{cs:Lv}{a:V}{xs:List iH}(s:bY aI id cs)(bh:cs[0+6]? =some a)(l:aC 9 eS av aI a xs)(ax:xs.length≤w)(g:∀x,x∈xs→e1 w x.e):
  aL (xA j j (.ptr id 0 0) xs.length 0 aI) fun x ak aa=>ai aI aa []∧if xs.all (fun x=>gW x.e)=true then x= .exit 4∧ak=[] else x= .ret∧ak=[.bool false]:=by
 refine mw (xs:=xs) (q:=fun x=>gW x.e) (L:=fun n i h=>xA j n (.ptr id 0 0) xs.length i h) (aK:=(·=[.bool false])) (by omega) (fun n h=>by simp only[xA,IP,jU,a7]) ?_
 intro n i aw h Q k eE eP
 obtain⟨p,gm,jE,bU,aG,ah,cF,ke,n7,cW,hW,au,cp⟩:=aC.Oh (l.aq k) aw
 have ge:=g _ (List.getElem_mem aw)
 rw[au] at ge eE eP
 have s1:=s.aq k
 simp only[xA,IP,jT aw,aU,s1.af,s1.ag bh,cF,cW,hW,aO,aN,aZ,bn,bl,id_eq,bP,bq,a1,bC,a0,a5,jV aw (Nat.le_trans ax (by omega))]
 refine aL.ad (Dr aS hw bV ge cp) ?_
 rintro v ae ⟨rfl,aA⟩
 simp only[a0]
 exact iR (aK:=(·=[.bool false])) (fun aF=>eP aF _ _ rfl (k.bs aA)) (fun aF=>eE aF _ (k.bs aA))
theorem ao_{D:Nat}(b_:D≤j){av:Nat→Prop}{aI:Lo}{id:Nat}{cs:Lv}{a:V}{xs:List hB}(s:bY aI id cs)(bh:cs[0+3]? =some a)(l:aC 10 eM av aI a xs)(ax:xs.length≤w)(g:∀x,x∈xs→fY w D x.on)(pF:∀x,x∈xs→x.t.length≤w∧x.n.length≤w):
  aL (xz j j (.ptr id 0 0) xs.length 0 aI) fun x ak aa=>ai aI aa []∧if(List.range xs.length).all (qm j xs)=true then x= .exit 2∧ak=[] else x= .ret∧ak=[.bool false]:=by
 refine mw (xs:=List.range xs.length) (q:=qm j xs) (L:=fun n i h=>xz j n (.ptr id 0 0) xs.length i h) (aK:=(·=[.bool false])) (by simp;omega) (fun n h=>by simp only[List.length_range,xz,IN,jU,a7]) ?_
 intro n i hn h Q k eE eP
 have aw:i<xs.length:=by simpa using hn
 simp only[List.getElem_range] at eE eP
 obtain⟨p,bU,aG,ah,cF,cW,au,cp⟩:=aC.Wh (l.aq k) aw
 have ge:=g _ (List.getElem_mem aw)
 obtain⟨N_,Oa⟩:=pF _ (List.getElem_mem aw)
 have bm:qm j xs i=(fP xs[i].t&&(fP xs[i].n&&(if i=0 then hF j (.mk bU ah) nq else gW (.mk bU ah)))):=by
  rw[Wm aw,au]
 rw[au] at ge
 have eZ:=s.aq k
 simp only[xz,IN,jT aw,aU,eZ.af,eZ.ag bh,cF,cW,aO,aN,bn,bl,id_eq,bP,bq,a1,bC,a0,a5,jV aw (Nat.le_trans ax (by omega))]
 refine oS (n:=10) (fU:=(h8 [] [] hQ .ab)) (aM:=h8 xs[i].t xs[i].n bU aG) rfl rfl rfl (by decide) (by simp only[List.all_cons,List.all_nil,gU cp];rfl) fun R s1 ar=> ?_
 have hP:aL (IM j i (.ptr h.length 0 0) R) fun x ak aa=>x= .normal∧ak=[.bool (!(qm j xs i))]∧ai R aa []:=by
  rw[bm]
  simp only[IM,s1.af,s1.ag (o:=0+0) (c:= .str xs[i].t) rfl,aO,bC]
  refine aL.ad (u7 aS hw bV N_) ?_
  rintro v ae ⟨rfl,aA⟩
  have s2:=s1.aq aA
  simp only[a0,s2.af,s2.ag (o:=0+1) (c:= .str xs[i].n) rfl,aO,bC]
  refine WC aA fun _=> ?_
  refine aL.ad (u7 aS hw bV Oa) ?_
  rintro v aQ ⟨rfl,aT⟩
  have eu:=s2.aq aT
  have gy:=aA.bs aT
  have c5:I (.bp 8 (.c (.ptr h.length 0 (0+2)))) aQ=some (.agg (bH bU aG)):=iE eu (o:=0+2) (n:=8) (by simp) (by decide)
  simp only[a0,eu.af,c5,Wk,aO,Wj,ao7,aN,aZ,bn,bl,id_eq,bP,bq,a1,bC,a5]
  refine WC gy fun _=> ?_
  have du:=cp.aq (ar.bs gy)
  by_cases aI:i=0
  ·rw[if_pos aI,decide_eq_true aI,aU]
   refine aL.ad (AA (D:=D) hw (by omega) b_ (jS ge) du (Wl (av:=av))) ?_
   rintro v bo ⟨rfl,bu⟩
   simp only[a0,Bool.not_true,a7]
   rw[show X.mk hQ []=nq from rfl]
   cases hF j (.mk bU ah) nq with
   |false=>
    simp only[Bool.not_false,aU]
    exact aL.some ⟨rfl,rfl,gy.bs bu⟩
   |true=>
    simp only[Bool.not_true,a7]
    exact aL.some ⟨rfl,rfl,gy.bs bu⟩
  ·rw[if_neg aI,decide_eq_false aI,a7,Bool.not_false,aU]
   refine aL.ad (Dr aS hw bV ⟨_,ge⟩ du) ?_
   rintro v bo ⟨rfl,bu⟩
   simp only[a0]
   exact u5 (gy.bs bu)
 refine aor hP (fun ae aA=> ?_)
 have db:=(k.bs ar).bs aA
 exact iR (aK:=(·=[.bool false])) (fun aF=>eP aF _ _ rfl db) (fun aF=>eE aF _ db)
end
def Je(q:k7):Bool:= !(q.star==decide (q.items.length=0))||(decide (q.eH.length=0)||(decide (q.b7< -1)||(decide (1<q.c1.length)||(!(q.c1.all gW)|| !(q.fh.all gW)))))
theorem apa:∀a b c d e f g h i:Bool,(!(!a||(!b||(!c||(!d||(!e|| !f)))))&&(g&&(h&&(i&&true))))=(g&&(h&&(i&&(a&&(b&&(c&&(d&&(e&&f)))))))):=by decide
theorem apb(j:Nat)(q:k7):(!(Je q)&&(q.items.all pE&&((List.range q.eH.length).all (qm j q.eH)&&(q.eV.all (fun x=>gW x.e)&&true))))=tx j q:=by
 unfold Je tx
 have aV:decide (q.eH.length=0)= !(decide (0<q.eH.length)):=by by_cases h:q.eH.length=0<;>simp[h]<;>omega
 have bb:decide (q.b7< -1)= !(decide (-1≤q.b7)):=by
  by_cases h:q.b7< -1
  ·rw[decide_eq_true h,decide_eq_false (by omega)];rfl
  ·rw[decide_eq_false h,decide_eq_true (by omega)];rfl
 have cb:decide (1<q.c1.length)= !(decide (q.c1.length<2)):=by
  by_cases h:1<q.c1.length
  ·rw[decide_eq_true h,decide_eq_false (by omega)];rfl
  ·rw[decide_eq_false h,decide_eq_true (by omega)];rfl
 rw[aV,bb,cb]
 exact apa _ _ _ _ _ _ _ _ _
theorem apc{j w N D:Nat}(aS:1000<j)(hw:w<j)(bV:w≤1000000000000)(di:N≤w)(b_:D≤j){av:Nat→Prop}{h:Lo}{m:ea}(G:h9 w D N m)(M:l5 w m){a b c d e:V}
  (t1:aC 9 eC av h a m.q.items) (t2:aC 10 eM av h b m.q.eH) (t3:aC 8 bL av h c m.q.c1) (t4:aC 8 bL av h d m.q.fh) (t5:aC 9 eS av h e m.q.eV):
  aj (IQ j m.q.ch m.q.star a b c d e m.q.b7 h) fun v aa=>v= .bool (tx j m.q)∧ai h aa []:=by
 rw[←apb]
 simp only[IQ]
 refine aj.ad (fO (cs:=e2 m.q.ch m.q.star a b c d e m.q.b7) (qc (aC.a8 t1).2 (aC.a8 t2).2 (aC.a8 t3).2 (aC.a8 t4).2 (aC.a8 t5).2)) ?_
 rintro p R ⟨rfl,sp,ar⟩
 refine kh ar ?_
 have hP:aL (IK j (.ptr h.length 0 0) R) fun x ak aa=>x= .normal∧ak=[.bool (Je m.q)]∧ai R aa []:=by
  unfold Je
  simp only[IK,sp.af,sp.ag (o:=0+1) (c:= .bool m.q.star) rfl,sp.ag (o:=0+2) (c:=a) rfl,sp.ag (o:=0+3) (c:=b) rfl,sp.ag (o:=0+7) (c:= .int .i64 m.q.b7) rfl,sp.ag (o:=0+4) (c:=c) rfl,(t1.aq ar).len,(t2.aq ar).len,(t3.aq ar).len,aO,a1,a0,Dp,Od]
  refine hG (ai.refl _ _) fun _=> ?_
  refine hG (ai.refl _ _) fun _=> ?_
  refine hG (ai.refl _ _) fun _=> ?_
  refine hG (ai.refl _ _) fun _=> ?_
  refine aL.ad (Jd aS hw bV (t3.aq ar) (Nat.le_trans G.nz di) (fun x au=>⟨D,G.oP x au⟩)) ?_
  rintro v ae ⟨rfl,aA⟩
  have ku:=sp.aq aA
  simp only[a0,ku.af,ku.ag (o:=0+5) (c:=d) rfl,aO]
  refine hG aA fun _=> ?_
  refine aL.ad (Jd aS hw bV (t4.aq (ar.bs aA)) (Nat.le_trans G.nA di) (fun x au=>⟨D,G.fh x au⟩)) ?_
  rintro v aQ ⟨rfl,aT⟩
  simp only[a0]
  exact u5 (aA.bs aT)
 refine Ay hP (fun ae aA=> ?_)
 refine Ds aA fun _=> ?_
 have s2:=sp.aq aA
 have gA:=ar.bs aA
 simp only[s2.af,s2.ag (o:=0+2) (c:=a) rfl,(t1.aq gA).len,aO,a1]
 refine kh aA (j0 (ao8 aS hw bV s2 rfl (t1.aq gA) (Nat.le_trans G.m4 di) (fun x au=>⟨D,G.items x au⟩) M.is) (fun _ aQ aT=> ?_))
 have eu:=s2.aq aT
 have eA:=gA.bs aT
 simp only[eu.af,eu.ag (o:=0+3) (c:=b) rfl,(t2.aq eA).len,aO,a1]
 refine kh aT (j0 (ao_ aS hw bV b_ eu rfl (t2.aq eA) (Nat.le_trans G.m5 di) G.eH M.rs) (fun _ bo bu=> ?_))
 have hx:=eu.aq bu
 have gM:=eA.bs bu
 simp only[hx.af,hx.ag (o:=0+6) (c:=e) rfl,(t5.aq gM).len,aO,a1]
 exact kh bu (j0 (ao9 aS hw bV hx rfl (t5.aq gM) (Nat.le_trans G.m6 di) (fun x au=>⟨D,G.eV x au⟩)) (fun _ bI bX=>kP bX))
end Go.Proofs.YtjpjeilfmjdhcaaGreat.h3
namespace Go.Proofs.YtjpjeilfmjdhcaaGreat.h3
open Go E E.K ep eI fq fw fC f_ hE
theorem apd(h:Lo):I (.build [.int .i64 0,(.str []),(.str []), .bool false, .ab, .ab, .ab, .ab, .ab, .bool false, .bool false, .ab, .ab, .ab, .ab, .ab, .int .i64 0] []) h=some (.agg (fb 0 [] [] false .ab .ab .ab .ab .ab false false .ab .ab .ab .ab .ab 0)):=rfl
theorem ape(m:ea):(m8 m).k=m.k:=by
 unfold m8
 split<;>unfold tA<;>repeat' split
 all_goals rfl
theorem apf(j:Nat)(m:ea):lD j {m8 m with k:=0} ek=lD j (m8 m) {ek with k:=m.k}:=by
 unfold lD
 rw[ape]
 simp only[beq_self_eq_true,Bool.true_and]
 rfl
theorem apg{w D N:Nat}{m:ea}(G:h9 w D N m):h9 w D N {m with k:=0}:=⟨G.rows,G.ft,G.c1,G.items,G.eH,G.oP,G.fh,G.eV,G.cY,G.gk,G.kg,G.l4,G.oQ,G.m4,G.m5,G.nz,G.nA,G.m6,G.qk⟩
theorem aph(k:Int):decide (k<10)=decide (k≤9):=by
 by_cases h:k<10
 ·rw[decide_eq_true h,decide_eq_true (by omega)]
 ·rw[decide_eq_false h,decide_eq_false (by omega)]
theorem api{j:Nat}{k:Int}{h:Lo}:NZ j k h=some (.normal,[.bool (decide (k=3∨k=10))],h):=Wx (j:=j)
def Jf(j:Nat)(m:ea):Bool:=decide (m.k<1)||(decide (m.k>13)||(!(lD j (m8 m) {ek with k:=m.k})||(if m.k≤9 then(!(fP m.name)||qb m) else qb m)))
def Jg(j:Nat)(m:ea):Bool:=
 if m.k=1 then decide (0<m.hk.length) else if m.k=2 then fP m.on&&decide (0<m.keys.length) else if m.k=3∨m.k=10 then tx j m.q
 else if m.k=7 then decide (0<m.rows.length) else if m.k=8 then decide (0<m.ft.length) else true
def Jh(j:Nat)(m:ea):Bool:= !(Jf j m)&&((!(decide (1<m.c1.length))&&m.c1.all gW)&&(m.hk.all pB&&(m.keys.all fP&&(m.rows.all pC&&(m.ft.all pD&&Jg j m)))))
section
variable {j w:Nat} (aS:1000<j) (hw:w<j) (bV:w≤1000000000000)
include aS hw bV
theorem apj{av:Nat→Prop}{aI:Lo}{id:Nat}{cs:Lv}{a:V}{xs:List jz}(s:bY aI id cs)(bh:cs[0+4]? =some a)(l:aC 4 fI av aI a xs)(ax:xs.length≤w)(pF:∀x,x∈xs→x.n.length≤w):
  aL (xB j j (.ptr id 0 0) xs.length 0 aI) fun x ak aa=>ai aI aa []∧if xs.all pB=true then x= .exit 0∧ak=[] else x= .ret∧ak=[.bool false]:=by
 refine mw (xs:=xs) (q:=pB) (L:=fun n i h=>xB j n (.ptr id 0 0) xs.length i h) (aK:=(·=[.bool false])) (by omega) (fun n h=>by simp only[xB,IT,jU,a7]) ?_
 intro n i aw h Q k eE eP
 obtain⟨p,cS,aE,cF,df,fi,-⟩:=aC.Wz (l.aq k) aw
 have s1:=s.aq k
 simp only[xB,IT,jT aw,aU,s1.af,s1.ag bh,cF,df,fi,aO,bC,jV aw (Nat.le_trans ax (by omega))]
 refine aL.ad (u7 aS hw bV (pF _ (List.getElem_mem aw))) ?_
 rintro v ae ⟨rfl,aA⟩
 have db:=k.bs aA
 have s2:=s.aq db
 obtain⟨lR,Oj,aoL,kt,-,-,Om,On⟩:=aC.Wz (l.aq db) aw
 simp only[a0,s2.af,s2.ag bh,kt,Om,On,aO,a1]
 refine iR (aK:=(·=[.bool false])) (fun aF=>eP (by unfold pB;rw[aF,Bool.false_and]) _ _ rfl db) (fun aF=> ?_)
 have an:pB xs[i]=(xs[i].k==1||xs[i].k==2):=by unfold pB;rw[aF,Bool.true_and]
 cases R:xs[i].k==1 with
 |true=>
  rw[show(xs[i].k !=1)=false by simp[bne,R],a7]
  exact eE (by rw[an,R];rfl) _ db
 |false=>
  rw[show(xs[i].k !=1)=true by simp[bne,R],aU]
  rw[R,Bool.false_or] at an
  exact iR (b:=xs[i].k==2) (aK:=(·=[.bool false])) (fun aF=>eP (by rw[an,aF]) _ _ rfl db) (fun aF=>eE (by rw[an,aF]) _ db)
theorem apk{av:Nat→Prop}{aI:Lo}{id:Nat}{cs:Lv}{a:V}{xs:List (Lu)}(s:bY aI id cs)(bh:cs[0+5]? =some a)(l:aC 1 fM av aI a xs)(ax:xs.length≤w)(pF:∀x,x∈xs→x.length≤w):
  aL (xC j j (.ptr id 0 0) xs.length 0 aI) fun x ak aa=>ai aI aa []∧if xs.all fP=true then x= .exit 2∧ak=[] else x= .ret∧ak=[.bool false]:=by
 refine mw (xs:=xs) (q:=fP) (L:=fun n i h=>xC j n (.ptr id 0 0) xs.length i h) (aK:=(·=[.bool false])) (by omega) (fun n h=>by simp only[xC,IU,jU,a7]) ?_
 intro n i aw h Q k eE eP
 obtain⟨p,cF,cW⟩:=aC.I5 (l.aq k) aw
 have s1:=s.aq k
 simp only[xC,IU,jT aw,aU,s1.af,s1.ag bh,cF,cW,aO,bC,jV aw (Nat.le_trans ax (by omega))]
 refine aL.ad (u7 aS hw bV (pF _ (List.getElem_mem aw))) ?_
 rintro v ae ⟨rfl,aA⟩
 simp only[a0]
 exact iR (aK:=(·=[.bool false])) (fun aF=>eP aF _ _ rfl (k.bs aA)) (fun aF=>eE aF _ (k.bs aA))
theorem apl{av:Nat→Prop}{aI:Lo}{id:Nat}{cs:Lv}{a:V}{xs:List (List X)}(s:bY aI id cs)(bh:cs[0+6]? =some a)(l:aC 1 (cl 8 bL) av aI a xs)(ax:xs.length≤w)(g:∀x,x∈xs→x.length≤w∧∀y,y∈x→e1 w y):
  aL (xD j j (.ptr id 0 0) xs.length 0 aI) fun x ak aa=>ai aI aa []∧if xs.all pC=true then x= .exit 4∧ak=[] else x= .ret∧ak=[.bool false]:=by
 refine mw (xs:=xs) (q:=pC) (L:=fun n i h=>xD j n (.ptr id 0 0) xs.length i h) (aK:=(·=[.bool false])) (by omega) (fun n h=>by simp only[xD,IV,jU,a7]) ?_
 intro n i aw h Q k eE eP
 obtain⟨p,e,cF,cW,t⟩:=aC.atR (l.aq k) aw
 obtain⟨aX,aY⟩:=g _ (List.getElem_mem aw)
 have s1:=s.aq k
 simp only[xD,IV,jT aw,aU,s1.af,s1.ag bh,cF,cW,t.len,aO,a1,Dp,jV aw (Nat.le_trans ax (by omega))]
 cases bj:decide (xs[i].length=0) with
 |true=>exact aL.some (eP (by unfold pC;rw[bj];rfl) _ _ rfl k)
 |false=>
  simp only[a7]
  refine aL.ad (Jd aS hw bV t aX aY) ?_
  rintro v ae ⟨rfl,aA⟩
  simp only[a0]
  exact iR (aK:=(·=[.bool false])) (fun aF=>eP (by unfold pC;rw[bj,aF];rfl) _ _ rfl (k.bs aA)) (fun aF=>eE (by unfold pC;rw[bj,aF];rfl) _ (k.bs aA))
theorem apm{av:Nat→Prop}{aI:Lo}{id:Nat}{cs:Lv}{a:V}{xs:List h7}(s:bY aI id cs)(bh:cs[0+7]? =some a)(l:aC 9 fs av aI a xs)(ax:xs.length≤w)(g:∀x,x∈xs→e1 w x.e)(pF:∀x,x∈xs→x.c.length≤w):
  aL (xE j j (.ptr id 0 0) xs.length 0 aI) fun x ak aa=>ai aI aa []∧if xs.all pD=true then x= .exit 6∧ak=[] else x= .ret∧ak=[.bool false]:=by
 refine mw (xs:=xs) (q:=pD) (L:=fun n i h=>xE j n (.ptr id 0 0) xs.length i h) (aK:=(·=[.bool false])) (by omega) (fun n h=>by simp only[xE,IW,jU,a7]) ?_
 intro n i aw h Q k eE eP
 obtain⟨p,cS,jE,bU,aG,ah,cF,df,fi,cW,hW,au,cp⟩:=aC.Jb (l.aq k) aw
 have ge:=g _ (List.getElem_mem aw)
 rw[au] at ge
 have s1:=s.aq k
 have bm:pD xs[i]=(fP xs[i].c&&gW (.mk bU ah)):=by unfold pD;rw[au]
 simp only[xE,IW,jT aw,aU,s1.af,s1.ag bh,cF,df,fi,aO,bC,jV aw (Nat.le_trans ax (by omega))]
 refine aL.ad (u7 aS hw bV (pF _ (List.getElem_mem aw))) ?_
 rintro v ae ⟨rfl,aA⟩
 have db:=k.bs aA
 have s2:=s.aq db
 obtain⟨lR,Oj,Dw,sn,lr,lu,kt,-,-,l6,tC,nK,rk⟩:=aC.Jb (l.aq db) aw
 have apn:=au.symm.trans nK
 injection apn with aV bb
 subst aV;subst bb
 simp only[a0,s2.af,s2.ag bh,kt,l6,tC,aO,aN,aZ,bn,bl,id_eq,bP,bq,a1,bC,a5]
 refine iR (aK:=(·=[.bool false])) (fun aF=>eP (by rw[bm,aF,Bool.false_and]) _ _ rfl db) (fun aF=> ?_)
 rw[aF,Bool.true_and] at bm
 refine aL.ad (Dr aS hw bV ge rk) ?_
 rintro v aQ ⟨rfl,aT⟩
 simp only[a0]
 exact iR (aK:=(·=[.bool false])) (fun aF=>eP (by rw[bm,aF]) _ _ rfl (db.bs aT)) (fun aF=>eE (by rw[bm,aF]) _ (db.bs aT))
end
theorem apo{j w N D:Nat}(aS:1000<j)(hw:w<j)(bV:w≤1000000000)(di:N≤w)(b_:D≤j){av:Nat→Prop}{h:Lo}{v:V}{m:ea}(G:h9 w D N m)(M:l5 w m)(t:hl.aK av h v m):
  aj (At j v h) fun eg aa=>eg= .bool (Jh j m)∧ai h aa []:=by
 have t0:=hl.mono t (bx:=fun o=>o<h.length) (fun o U _=>U)
 have lE:w≤1000000000000:=by omega
 clear t
 have t:=t0
 obtain⟨bF,bD,b8,cu,cK,a,b,c,d,e,rfl,de,cD,dd,dh,dZ,t1,t2,t3,t4,t5⟩:=t
 unfold Jh
 simp only[At]
 refine aj.ad (fO (cs:=fb m.k m.name m.on m.un bF bD b8 cu cK m.q.ch m.q.star a b c d e m.q.b7) (jk (aC.a8 de).2 (aC.a8 cD).2 (aC.a8 dd).2 (aC.a8 dh).2 (aC.a8 dZ).2 (aC.a8 t1).2 (aC.a8 t2).2 (aC.a8 t3).2 (aC.a8 t4).2 (aC.a8 t5).2)) ?_
 rintro p R ⟨rfl,s,ar⟩
 refine kh ar ?_
 have Oe:aL (IS j (.ptr h.length 0 0) R) fun x ak aa=>x= .normal∧ak=[.bool (Jf j m)]∧ai R aa []:=by
  unfold Jf
  simp only[IS,s.af,s.ag (o:=0+0) (c:= .int .i64 m.k) rfl,s.e4 (n:=17) rfl,aO,a1]
  refine hG (ai.refl _ _) fun apq=> ?_
  refine hG (ai.refl _ _) fun _=> ?_
  have apr:1≤m.k:=by have:=of_decide_eq_false apq;omega
  refine aL.ad (ao1 apr (lb (T:=hl) t0 ar)) ?_
  rintro q ae ⟨Of,aA⟩
  simp only[apd,aO]
  refine aL.ad (WB hw lE b_ di (apg (Wv G)) Of (Ww (av:=fun _=>False) 0)) ?_
  rintro v aQ ⟨rfl,aT⟩
  have eu:=s.aq (aA.bs aT)
  have gy:=aA.bs aT
  have I_:=lb (T:=hl) t0 (ar.bs gy)
  have e6:lD j {m8 m with k:=0} {ek with k:=0}=lD j (m8 m) {ek with k:=m.k}:=apf j m
  rw[e6]
  simp only[a0,eu.af,eu.ag (o:=0+0) (c:= .int .i64 m.k) rfl,eu.ag (o:=0+1) (c:= .str m.name) rfl,eu.e4 (n:=17) rfl,aO,a1,bC,aph]
  refine hG gy fun _=> ?_
  by_cases Ji:m.k≤9
  ·rw[decide_eq_true Ji,aU,if_pos Ji]
   refine aL.ad (u7 aS hw lE M.VB) ?_
   rintro v bo ⟨rfl,bu⟩
   have hx:=eu.aq bu
   simp only[a0,hx.e4 (n:=17) rfl,aO]
   refine hG (gy.bs bu) fun _=> ?_
   refine aL.ad (WE hw lE (lb (T:=hl) I_ bu) (Nat.le_trans G.kg di)) ?_
   rintro v bI ⟨rfl,bX⟩
   simp only[a0]
   exact u5 ((gy.bs bu).bs bX)
  ·rw[decide_eq_false Ji,a7,if_neg Ji]
   refine aL.ad (WE hw lE I_ (Nat.le_trans G.kg di)) ?_
   rintro v bI ⟨rfl,bX⟩
   simp only[a0]
   exact u5 (gy.bs bX)
 refine Ay Oe (fun ae aA=> ?_)
 refine Ds aA fun _=> ?_
 have s2:=s.aq aA
 have gA:=ar.bs aA
 have Du:=dZ.aq gA
 have aps:aL (IX j (.ptr h.length 0 0) ae) fun x ak aa=>ai ae aa []∧if(!(decide (1<m.c1.length))&&m.c1.all gW)=true then x= .normal∧ak=[] else x= .ret∧ak=[.bool false]:=by
  simp only[IX,s2.af,s2.ag (o:=0+8) (c:=cK) rfl,Du.len,aO,a1,Od]
  refine aoY (ai.refl _ _) fun _=> ?_
  refine aL.ad (Jd aS hw lE Du (Nat.le_trans G.oQ di) (fun x au=>⟨D,G.c1 x au⟩)) ?_
  rintro v aQ ⟨rfl,aT⟩
  simp only[a0]
  have:=I6 (b:=m.c1.all gW) (c:=true) aT (fun _=>I7 aT)
  rw[Bool.and_true] at this
  exact this
 refine kh aA (Wi aps (fun _ aQ aT=> ?_))
 have eu:=s2.aq aT
 have eA:=gA.bs aT
 simp only[eu.af,eu.ag (o:=0+4) (c:=bF) rfl,(de.aq eA).len,aO,a1]
 refine kh aT (j0 (apj aS hw lE eu rfl (de.aq eA) (Nat.le_trans G.cY di) M.cs) (fun _ bo bu=> ?_))
 have hx:=eu.aq bu
 have gM:=eA.bs bu
 simp only[hx.af,hx.ag (o:=0+5) (c:=bD) rfl,(cD.aq gM).len,aO,a1]
 refine kh bu (j0 (apk aS hw lE hx rfl (cD.aq gM) (Nat.le_trans G.gk di) M.z7) (fun _ bI bX=> ?_))
 have kO:=hx.aq bX
 have iN:=gM.bs bX
 simp only[kO.af,kO.ag (o:=0+6) (c:=b8) rfl,(dd.aq iN).len,aO,a1]
 refine kh bX (j0 (apl aS hw lE kO rfl (dd.aq iN) (Nat.le_trans G.kg di) (fun x au=>⟨Nat.le_trans (G.qk x au) di,fun y bT=>⟨D,G.rows x au y bT⟩⟩)) (fun _ cR cP=> ?_))
 have qi:=kO.aq cP
 have ja:=iN.bs cP
 simp only[qi.af,qi.ag (o:=0+7) (c:=cu) rfl,(dh.aq ja).len,aO,a1]
 refine kh cP (j0 (apm aS hw lE qi rfl (dh.aq ja) (Nat.le_trans G.l4 di) (fun x au=>⟨D,G.ft x au⟩) M.eo) (fun _ eF dv=> ?_))
 have n8:=qi.aq dv
 have mq:=ja.bs dv
 unfold Jg
 simp only[n8.af,n8.ag (o:=0+0) (c:= .int .i64 m.k) rfl,n8.ag (o:=0+2) (c:= .str m.on) rfl,n8.ag (o:=0+4) (c:=bF) rfl,(de.aq mq).len,aO,a1,bC,tz]
 by_cases aX:m.k=1
 ·rw[jn aX,aU,if_pos aX]
  exact kP dv
 rw[jo aX,a7,if_neg aX]
 by_cases aY:m.k=2
 ·rw[jn aY,aU,if_pos aY]
  refine aj.ad (u7 aS hw lE M.on) ?_
  rintro v eR ⟨rfl,eJ⟩
  have sk:=n8.aq eJ
  simp only[a0,sk.af,sk.ag (o:=0+5) (c:=bD) rfl,(cD.aq (mq.bs eJ)).len,aO,a1,tz]
  exact gp (dv.bs eJ) fun _=>kP (dv.bs eJ)
 rw[jo aY,a7,if_neg aY,api]
 simp only[gY,decide_true,aU,aN,aZ,bn,bl,id_eq,bq,a0,a5]
 have uG:I (.bp 8 (.c (.ptr h.length 0 (0+9)))) eF=some (.agg (e2 m.q.ch m.q.star a b c d e m.q.b7)):=iE n8 (o:=0+9) (n:=8) (by simp) (by decide)
 by_cases cU:m.k=3∨m.k=10
 ·rw[decide_eq_true cU,aU,if_pos cU]
  simp only[n8.af,uG,aO,aN,aZ,bn,bl,id_eq,bP,bq,a1,bC,a0,a5]
  refine aj.ad (apc aS hw lE di b_ G M (t1.aq mq) (t2.aq mq) (t3.aq mq) (t4.aq mq) (t5.aq mq)) ?_
  rintro v eR ⟨rfl,eJ⟩
  simp only[a0]
  exact kP (dv.bs eJ)
 rw[decide_eq_false cU,a7,if_neg cU]
 by_cases oj:m.k=7
 ·rw[jn oj,aU,if_pos oj]
  simp only[n8.af,n8.ag (o:=0+6) (c:=b8) rfl,(dd.aq mq).len,aO,a1,tz]
  exact kP dv
 rw[jo oj,a7,if_neg oj]
 by_cases mv:m.k=8
 ·rw[jn mv,aU,if_pos mv]
  simp only[n8.af,n8.ag (o:=0+7) (c:=cu) rfl,(dh.aq mq).len,aO,a1,tz]
  exact kP dv
 rw[jo mv,a7,if_neg mv]
 exact kP dv
theorem apt{j:Nat}{x:ea}{k:Int}(h:lD j x {ek with k:=k}=true):x.hk=[]∧x.keys=[]∧x.rows=[]∧x.ft=[]∧x.c1=[]:=by
 unfold lD at h
 simp only[ek,Bool.and_eq_true,anR,decide_eq_true_eq,List.length_eq_zero_iff] at h
 exact⟨h.2.2.2.2.1,h.2.2.2.2.2.1,h.2.2.2.2.2.2.2.1,h.2.2.2.2.2.2.2.2.1,h.2.2.2.2.2.2.1⟩
theorem apu(j:Nat)(m:ea):Jh j m=tB j m:=by
 unfold Jh tB Jf Dt oT
 cases R:decide (m.k<1) with
 |true=>rfl
 |false=>
 cases ae:decide (m.k>13) with
 |true=>rfl
 |false=>
 cases aQ:lD j (m8 m) {ek with k:=m.k} with
 |false=>rfl
 |true=>
 obtain⟨hV,hN,lQ,qn,uS⟩:=apt aQ
 have aH:=of_decide_eq_false R
 have apv:(m.hk.all pB&&(m.keys.all fP&&(m.rows.all pC&&(m.ft.all pD&&Jg j m))))=u_ j m:=by
  unfold Jg u_
  unfold m8 at hV hN lQ qn
  by_cases fZ:m.k≤9
  ·rw[if_pos fZ] at hV hN lQ qn
   unfold tA at hV hN lQ qn
   have:m.k=1∨m.k=2∨m.k=3∨m.k=4∨m.k=5∨m.k=6∨m.k=7∨m.k=8∨m.k=9:=by omega
   rcases this with h|h|h|h|h|h|h|h|h<;>simp[h] at hV hN lQ qn<;>simp[h,hV,hN,lQ,qn,Bool.and_comm,Bool.and_left_comm,Bool.and_assoc]
  ·rw[if_neg fZ] at hV hN lQ qn
   unfold tA at hV hN lQ qn
   have e:∀i:Int,i≤9→m.k≠i:=fun i aw=>by omega
   by_cases hR:m.k=10
   ·simp[hR] at hV hN lQ qn
    simp[hR,hV,hN,lQ,qn]
   ·simp[e,hR] at hV hN lQ qn
    simp[e,hR,hV,hN,lQ,qn]
 rw[apv]
 by_cases fZ:m.k≤9
 ·rw[if_pos fZ,decide_eq_true fZ]
  generalize fP m.name=a,qb m=b,decide (1<m.c1.length)=c,m.c1.all gW=d,u_ j m=e
  cases a<;>cases b<;>cases c<;>cases d<;>rfl
 ·rw[if_neg fZ,decide_eq_false fZ]
  generalize qb m=b,decide (1<m.c1.length)=c,m.c1.all gW=d,u_ j m=e
  cases b<;>cases c<;>cases d<;>rfl
end Go.Proofs.YtjpjeilfmjdhcaaGreat.h3
