/- The layer E, its parts in one file: values and memory, operations, code, and what it comes to. No condition. -/
import Derived.Test.YtjpjeilfmjdhcaaGreatA1
import Derived.ChangeOld
import Derived.ChangeSlices
import Derived.Below
set_option maxRecDepth 100000
set_option linter.unusedVariables false
set_option linter.unusedSimpArgs false
set_option linter.unnecessarySimpa false
namespace Go.Proofs.YtjpjeilfmjdhcaaGreat.E
def Eg(n:Nat)(pre:Nat→List Nat)(cs:Nat→ga)(da ev:Nat→List Nat):List Nat→List Nat→Bool
 |_,[]=>true
 |seen,i::rest=> !seen.contains i&&(decide (i<n)&&((pre i).all (seen.contains ·)&&((ev i).all (fun o=>seen.contains o&&(pre i).any (fun p=>p==o||(ev p).contains o))&&
   (((cs i).act.kind==2||(da i).isEmpty)&&((da i).all (seen.contains ·)&&(seen.all (fun a=>(ev i).contains a||pW cs da ev a i)&&Eg n pre cs da ev (i::seen) rest))))))
structure Kn(n:Nat)(tW:Nat→List Nat)(cs:Nat→ga)(da ev:Nat→List Nat)(before:Nat→Prop)(i:Nat):Prop where
 lt:i<n
 pre:∀p,p∈tW i→before p
 mE:∀o,o∈ev i→before o∧∃p,p∈tW i∧(p=o∨o∈ev p)
 quiet:(cs i).act.kind<2→da i=[]
 res:∀r,r∈da i→before r
theorem PU{n:Nat}{pre:Nat→List Nat}{cs:Nat→ga}{da ev:Nat→List Nat}:∀(C seen:List Nat),Eg n pre cs da ev seen C=true→
  ∀A i B,C=A++i::B→(i∉A∧i∉seen)∧Kn n pre cs da ev (fun o=>o∈A∨o∈seen) i∧∀a,(a∈A∨a∈seen)→a∈ev i∨pW cs da ev a i=true
 | [],seen,h,A,i,B,e=>by cases A<;>simp at e
 |c::C,seen,h,A,i,B,e=>by
  simp only[Eg,Bool.and_eq_true,decide_eq_true_eq,Bool.not_eq_true',List.all_eq_true,Bool.or_eq_true,List.contains_eq_mem,decide_eq_false_iff_not,List.any_eq_true,beq_iff_eq,List.isEmpty_iff] at h
  obtain⟨R,ae,aQ,bo,bI,cR,eF,eR⟩:=h
  cases A with
  |nil=>
   simp only[List.nil_append,List.cons.injEq] at e
   obtain⟨rfl,rfl⟩:=e
   refine⟨⟨by simp,R⟩,⟨ae,fun p hp=> .inr (aQ p hp),fun o U=>⟨.inr (bo o U).1, ?_⟩,fun aH=> ?_,fun r bc=> .inr (cR r bc)⟩,fun a bh=> ?_⟩
   ·exact(bo o U).2
   ·rcases bI with q|q
    ·omega
    ·exact q
   ·rcases bh with q|q
    ·simp at q
    ·exact eF a q
  |cons a A=>
   simp only[List.cons_append,List.cons.injEq] at e
   obtain⟨rfl,rfl⟩:=e
   obtain⟨aX,aY,cU⟩:=PU _ (c::seen) eR A i B rfl
   have key:∀o,(o∈A∨o∈c::seen)→(o∈c::A∨o∈seen):=by
    intro o U
    simp only[List.mem_cons] at U⊢
    rcases U with q|q|q
    ·exact .inl (.inr q)
    ·exact .inl (.inl q)
    ·exact .inr q
   have xJ:∀o,(o∈c::A∨o∈seen)→(o∈A∨o∈c::seen):=by
    intro o U
    simp only[List.mem_cons] at U⊢
    rcases U with(q|q)|q
    ·exact .inr (.inl q)
    ·exact .inl q
    ·exact .inr (.inr q)
   refine⟨⟨fun q=> ?_,fun q=>aX.2 (by simp[q])⟩,⟨aY.lt,fun p hp=>key _ (aY.pre p hp),fun o U=>⟨key _ (aY.mE o U).1,(aY.mE o U).2⟩,aY.quiet,fun r bc=>key _ (aY.res r bc)⟩,fun a bh=>cU a (xJ a bh)⟩
   rcases List.mem_cons.1 q with q|q
   ·exact aX.2 (by simp[q])
   ·exact aX.1 q
def tX(pre:Nat→List Nat)(dJ:Nat→Prop)(l:List Nat):Prop:=∀X i Y,l=X++i::Y→∀p,p∈pre i→p∈X∨dJ p
section
variable {P:Program} {Q:ia} {n:Nat} {pre:Nat→List Nat} {cs:Nat→ga} {da ev:Nat→List Nat}
def Eh(n:Nat)(pre:Nat→List Nat)(cs:Nat→ga)(da ev:Nat→List Nat)(dJ:Nat→Prop)(C:List Nat):Prop:=
 ∀A i B,C=A++i::B→i∉A∧Kn n pre cs da ev (fun o=>o∈A∨dJ o) i∧∀a,a∈A→a∈ev i∨pW cs da ev a i=true
theorem Eh.out{dJ qC:Nat→Prop}{A B:List Nat}{i:Nat}(v:Eh n pre cs da ev dJ (A++i::B))(ax:∀o,dJ o→qC o)(aw:qC i):Eh n pre cs da ev qC (A++B):=by
 intro iy o vM e
 have mk:∀ng vN,A++i::B=ng++o::vN→(∀x,x∈ng→x=i∨x∈iy)→(∀x,x∈iy→x∈ng)→o∉iy∧Kn n pre cs da ev (fun k=>k∈iy∨qC k) o∧∀a,a∈iy→a∈ev o∨pW cs da ev a o=true:=by
  intro ng vN cb R ae
  obtain⟨aX,aY,cU⟩:=v ng o vN cb
  have key:∀x,(x∈ng∨dJ x)→(x∈iy∨qC x):=by
   rintro x (q|q)
   ·rcases R x q with rfl|z
    ·exact .inr aw
    ·exact .inl z
   ·exact .inr (ax x q)
  exact⟨fun q=>aX (ae o q),⟨aY.lt,fun p hp=>key p (aY.pre p hp),fun k aH=>⟨key k (aY.mE k aH).1,(aY.mE k aH).2⟩,aY.quiet,fun r bc=>key r (aY.res r bc)⟩,fun a bh=>cU a (ae a bh)⟩
 rcases Kk e with⟨X,R,ae⟩|⟨X,R,ae⟩
 ·subst R ae
  exact mk iy (X++i::B) (by simp) (fun x au=> .inr au) (fun x au=>au)
 ·subst R ae
  exact mk (A++i::X) vM (by simp) (fun x au=>by simp at au⊢;rcases au with q|q|q<;>simp[q]) (fun x au=>by simp at au⊢;rcases au with q|q<;>simp[q])
theorem PV:∀(l C:List Nat) (dJ:Nat→Prop) (t:Nat→V) (h:Lo),l.Nodup→(∀i,i∈l↔i∈C)→(∀i,i∈C→¬dJ i)→(∀i,dJ i→∀o,o∈ev i→dJ o)→
  tX pre dJ l→Eh n pre cs da ev dJ C→gX P Q (C.map (kW cs da)) t h→gX P Q (l.map (kW cs fun _=> [])) t h
 | [],C,dJ,t,h,_,hm,_,_,_,_,w=>by
  cases C with
  |nil=>exact w
  |cons c C=>exact absurd ((hm c).2 (by simp)) (by simp)
 |i::l,C,dJ,t,h,bd,hm,hu,vO,bc,v,w=>by
  have vP:i∈C:=(hm i).1 (by simp)
  obtain⟨A,B,rfl⟩:=List.append_of_mem vP
  have rz:=Kl fun A i B e=>(v A i B e).1
  obtain⟨aX,aY,cU⟩:=v A i B rfl
  have sv:∀p,p∈pre i→dJ p:=fun p hp=>(bc [] i l rfl p hp).elim (fun q=>by simp at q) (fun q=>q)
  have vQ:∀a,a∈A→¬dJ a:=fun a bh=>hu a (by simp[bh])
  have Bg:∀o,o∈ev i→dJ o:=by
   intro o U
   obtain⟨p,hp,q⟩:=(aY.mE o U).2
   rcases q with rfl|q
   ·exact sv p hp
   ·exact vO p (sv p hp) o q
  have jf:∀a,a∈A→pW cs da ev a i=true:=by
   intro a bh
   rcases cU a bh with q|q
   ·exact absurd (Bg a q) (vQ a bh)
   ·exact q
  have eW:A.Nodup:=(List.nodup_append.1 rz).1
  have st:=move (P:=P) (Q:=Q) (cs:=cs) (da:=da) (i:=i) aY.quiet A B t h (fun a bh=>by
    obtain⟨aE,aR,bE,bS,dn⟩:=Ee (jf a bh)
    obtain⟨X,Y,e⟩:=List.append_of_mem bh
    obtain⟨_,cD,_⟩:=v X a (Y++i::B) (by rw[e];simp)
    exact⟨aE,cD.quiet aE,aR,bE,bS⟩)
   (fun vL b iy e r DT en Bd=>by
    have aF:b∈A:=by rw[e];simp
    obtain⟨aE,aR,bE,bS,dn⟩:=Ee (jf b aF)
    rcases dn r DT with q|q|q
    ·exact absurd q en
    ·exfalso
     rcases aY.res r DT with z|z
     ·rw[e] at z
      have Km:r∈vL:=by
       simp only[List.mem_append,List.mem_cons] at z
       rcases z with z|z|z
       ·exact z
       ·exact absurd z en
       ·exact absurd z Bd
      obtain⟨X,Y,ct⟩:=List.append_of_mem Km
      obtain⟨_,cD,_⟩:=v X r (Y++b::iy++i::B) (by rw[e,ct];simp)
      rcases(cD.mE b q).1 with y|y
      ·rw[e,ct] at eW
       have:(X++r::Y++b::iy).Nodup:=eW
       have:=(List.nodup_append.1 this).2.2 b (by simp[y]) b (by simp)
       exact this rfl
      ·exact vQ b aF y
     ·exact vQ b aF (vO r z b q)
    ·exact q) eW w
  simp only[List.map_cons]
  rw[A_]
  refine Ec (fun _ _=>rfl) st (fun eg aa k=> ?_)
  rw[x6]
  refine⟨fun g dt=>by simp[kW] at dt, ?_⟩
  have Bc:=List.nodup_cons.1 bd
  have sD:i∉A:=aX
  have vR:i∉B:=(List.nodup_cons.1 (List.nodup_append.1 rz).2.1).1
  refine PV l (A++B) (fun o=>o=i∨dJ o) _ aa Bc.2 (fun o=> ?_) (fun o U q=> ?_) (fun o U gu oV=> ?_) (fun X o Y e p hp=> ?_) (v.out (fun o U=> .inr U) (.inl rfl)) k.2
  ·have:=hm o
   simp only[List.mem_append,List.mem_cons] at this⊢
   constructor
   ·intro q
    have Ko:o≠i:=by rintro rfl;exact Bc.1 q
    rcases this.1 (.inr q) with y|y|y
    ·exact .inl y
    ·exact absurd y Ko
    ·exact .inr y
   ·intro q
    have Ko:o≠i:=by rintro rfl;exact q.elim sD vR
    rcases this.2 (q.elim .inl (fun z=> .inr (.inr z))) with y|y
    ·exact absurd y Ko
    ·exact y
  ·rcases q with rfl|q
   ·exact(List.mem_append.1 U).elim sD vR
   ·exact hu o (by simp only[List.mem_append,List.mem_cons] at U⊢;rcases U with z|z<;>simp[z]) q
  ·rcases U with rfl|U
   ·exact .inr (Bg gu oV)
   ·exact .inr (vO o U gu oV)
  ·rcases bc (i::X) o Y (by rw[e];rfl) p hp with q|q
   ·rcases List.mem_cons.1 q with q|q
    ·exact .inr (.inl q)
    ·exact .inl q
   ·exact .inr (.inr q)
end
theorem ZH{ops:Array Oper}:∀(fuel gK:Nat) (dJ:Array Bool) (C:List Nat),C.length≤fuel→dJ.size=ops.size→(∀i,i∈C↔i<ops.size∧dJ.getD i false=false)→C.Nodup→
  tX (kC ops) (fun i=>dJ.getD i false=true) C→
  (lP .any ops fuel gK dJ).Nodup∧(∀i,i∈lP .any ops fuel gK dJ↔i∈C)∧tX (kC ops) (fun i=>dJ.getD i false=true) (lP .any ops fuel gK dJ):=by
 intro fuel
 induction fuel with
 |zero=>
  intro gK dJ C aS _ _ _ _
  cases C with
  |nil=>exact⟨by simp[lP],fun i=>by simp[lP],fun X i Y e=>by simp[lP] at e⟩
  |cons c C=>simp at aS
 |succ fuel ba=>
  intro gK dJ C aS lM hC rz bc
  have lk:∀i,i∈((List.range ops.size).filter fun i=>
   !dJ.getD i true&&((ops[i]?).map (·.after.all fun e=> !Region.binds .any e||dJ.getD e.on false)).getD false)↔
    i∈C∧∀p,p∈kC ops i→dJ.getD p false=true:=by
   intro i
   rw[List.mem_filter,List.mem_range,hC]
   constructor
   ·rintro ⟨R,ae⟩
    simp only[Bool.and_eq_true,Bool.not_eq_true'] at ae
    obtain⟨ae,aQ⟩:=ae
    refine⟨⟨R, ?_⟩,fun p hp=> ?_⟩
    ·rw[Array.getD_eq_getD_getElem?,Array.getElem?_eq_getElem (by omega)] at ae⊢
     exact ae
    ·unfold kC at hp
     rw[Array.getElem?_eq_getElem R] at hp aQ
     simp only[List.mem_map,List.mem_filter] at hp
     obtain⟨e,⟨aV,bb⟩,rfl⟩:=hp
     simp only[Option.map_some,Option.getD_some,Array.all_eq_true_iff_forall_mem,Bool.or_eq_true,Bool.not_eq_true'] at aQ
     rcases aQ e (by simpa using aV) with q|q
     ·rw[bb] at q;cases q
     ·exact q
   ·rintro ⟨⟨R,ae⟩,aQ⟩
    refine⟨R, ?_⟩
    simp only[Bool.and_eq_true,Bool.not_eq_true']
    refine⟨?_, ?_⟩
    ·rw[Array.getD_eq_getD_getElem?,Array.getElem?_eq_getElem (by omega)] at ae⊢
     exact ae
    ·rw[Array.getElem?_eq_getElem R]
     simp only[Option.map_some,Option.getD_some,Array.all_eq_true_iff_forall_mem,Bool.or_eq_true,Bool.not_eq_true']
     intro e he
     cases aF:Region.binds .any e with
     |false=>exact .inl rfl
     |true=>
      refine .inr (aQ e.on ?_)
      unfold kC
      rw[Array.getElem?_eq_getElem R]
      simp only[List.mem_map,List.mem_filter]
      exact⟨e,⟨by simpa using he,aF⟩,rfl⟩
  simp only[lP]
  generalize PH:((List.range ops.size).filter fun i=>
   !dJ.getD i true&&((ops[i]?).map (·.after.all fun e=> !Region.binds .any e||dJ.getD e.on false)).getD false)=rs at lk⊢
  cases Kp:rs[gK % rs.length]? with
  |none=>
   simp only
   cases C with
   |nil=>exact⟨List.nodup_nil,fun i=>by simp,fun X i Y e=>by simp at e⟩
   |cons c C=>
    exfalso
    have an:c∈rs:=(lk c).2 ⟨by simp,fun p hp=>(bc [] c C rfl p hp).elim (fun q=>by simp at q) (fun q=>q)⟩
    have ax:0<rs.length:=List.length_pos_of_mem an
    rw[List.getElem?_eq_getElem (Nat.mod_lt _ ax)] at Kp
    cases Kp
  |some i=>
   simp only
   obtain⟨vP,sv⟩:=(lk i).1 (List.mem_of_getElem? Kp)
   obtain⟨A,B,rfl⟩:=List.append_of_mem vP
   have od:=(hC i).1 vP
   have m9:∀o,(dJ.setIfInBounds i true).getD o false=true↔o=i∨dJ.getD o false=true:=by
    intro o
    rw[Array.getD_eq_getD_getElem?,Array.getD_eq_getD_getElem?,Array.getElem?_setIfInBounds]
    split
    ·rename_i q;subst q
     simp[lM,od.1]
    ·rename_i q
     constructor
     ·intro z;exact .inr z
     ·rintro (z|z)
      ·exact absurd z.symm q
      ·exact z
   have Bh:=List.nodup_append.1 rz
   have sD:i∉A:=fun q=>Bh.2.2 i q i (by simp) rfl
   have vR:i∉B:=(List.nodup_cons.1 Bh.2.1).1
   obtain⟨hV,hN,lQ⟩:=ba (gK/rs.length) (dJ.setIfInBounds i true) (A++B) (by simp only[List.length_append,List.length_cons] at aS⊢;omega) (by simpa using lM) (fun o=>by
     have sC:(dJ.setIfInBounds i true).getD o false=false↔¬(o=i∨dJ.getD o false=true):=by
      rw[←m9 o];simp
     rw[sC]
     have:=hC o
     simp only[List.mem_append,List.mem_cons] at this⊢
     constructor
     ·intro q
      have U:o≠i:=by rintro rfl;exact q.elim sD vR
      obtain⟨hV,hN⟩:=this.1 (q.elim .inl (fun z=> .inr (.inr z)))
      exact⟨hV,fun y=>y.elim U (fun y=>by rw[hN] at y;cases y)⟩
     ·rintro ⟨hV,hN⟩
      have lQ:dJ.getD o false=false:=by simpa using fun y=>hN (.inr y)
      rcases this.2 ⟨hV,lQ⟩ with y|y|y
      ·exact .inl y
      ·exact absurd (.inl y) hN
      ·exact .inr y) (by
     refine List.nodup_append.2 ⟨Bh.1,(List.nodup_cons.1 Bh.2.1).2,fun a bh b aF=>Bh.2.2 a bh b (by simp[aF])⟩) (fun X o Y e p hp=>by
     show p∈X∨(dJ.setIfInBounds i true).getD p false=true
     rw[m9]
     rcases Kk e with⟨Z,R,ae⟩|⟨Z,R,ae⟩
     ·subst R ae
      rcases bc X o (Z++i::B) (by simp) p hp with q|q
      ·exact .inl q
      ·exact .inr (.inr q)
     ·subst R ae
      rcases bc (A++i::Z) o Y (by simp) p hp with q|q
      ·simp only[List.mem_append,List.mem_cons] at q⊢
       rcases q with q|q|q
       ·exact .inl (.inl q)
       ·exact .inr (.inl q)
       ·exact .inl (.inr q)
      ·exact .inr (.inr q))
   refine⟨List.nodup_cons.2 ⟨fun q=> ?_,hV⟩,fun o=> ?_,fun X o Y e p hp=> ?_⟩
   ·exact(List.mem_append.1 ((hN i).1 q)).elim sD vR
   ·simp only[List.mem_cons,hN,List.mem_append]
    constructor
    ·rintro (q|q|q)
     ·exact .inr (.inl q)
     ·exact .inl q
     ·exact .inr (.inr q)
    ·rintro (q|q|q)
     ·exact .inr (.inl q)
     ·exact .inl q
     ·exact .inr (.inr q)
   ·cases X with
    |nil=>
     simp only[List.nil_append,List.cons.injEq] at e
     obtain⟨rfl,rfl⟩:=e
     exact .inr (sv p hp)
    |cons x X=>
     simp only[List.cons_append,List.cons.injEq] at e
     obtain⟨rfl,e⟩:=e
     rcases lQ X o Y e p hp with q|q
     ·exact .inl (by simp[q])
     ·replace q:(dJ.setIfInBounds i true).getD p false=true:=q
      rw[m9] at q
      rcases q with rfl|q
      ·exact .inl (by simp)
      ·exact .inr q
def Kq(pre:Nat→List Nat)(ord:List Nat):List (Nat × List Nat):=
 ord.foldl (fun acc i=>(i,((pre i).flatMap fun p=>p::(acc.lookup p).getD []).eraseDups)::acc) []
def Bi(pre:Nat→List Nat)(quiet:Nat→Bool):Nat→List Nat→List Nat→List Nat
 |0,_,done=>done.reverse
 |fuel+1,left,done=>
  let ready:=left.filter fun i=>(pre i).all (done.contains ·)
  match ready.find? quiet with
  |some i=>Bi pre quiet fuel (left.erase i) (i::done)
  |none=>match ready with
   |i::_=>Bi pre quiet fuel (left.erase i) (i::done)
   | []=>done.reverse
def PW(ev:Nat→List Nat)(kind:Nat→Nat):List Nat→List Nat→List (Nat × List Nat)
 |_,[]=> []
 |seen,i::rest=>(i,if kind i==2 then(seen.filter fun a=>kind a==1&& !(ev i).contains a) else [])::PW ev kind (i::seen) rest
def vS(o4:Nat→List Nat):Nat→List Nat→List (List Nat)
 |0,_=> [[]]
 |_+1,[]=> [[]]
 |f+1,l=>l.flatMap fun i=>if l.all (fun o=> !(o4 i).contains o) then(vS o4 f (l.erase i)).map (i::·) else []
def Kr(pre:Nat→List Nat)(et:Nat→Bool)(sig:List Nat)(i:Nat):List Nat:=pre i++(if et i then sig.takeWhile (fun o=> !(o==i)) else [])
def Bj(pre:Nat→List Nat):List Nat→List Nat→Bool
 |_,[]=>true
 |seen,i::rest=> !seen.contains i&&((pre i).all (seen.contains ·)&&Bj pre (i::seen) rest)
theorem PX{pre:Nat→List Nat}:∀(C seen:List Nat),Bj pre seen C=true→C.Nodup∧(∀i,i∈C→i∉seen)∧tX pre (·∈seen) C
 | [],seen,_=>⟨List.nodup_nil,fun i h=>by simp at h,fun X i Y e=>by simp at e⟩
 |c::C,seen,h=>by
  simp only[Bj,Bool.and_eq_true,Bool.not_eq_true',List.all_eq_true,List.contains_eq_mem,decide_eq_false_iff_not,decide_eq_true_eq] at h
  obtain⟨R,ae,aQ⟩:=h
  obtain⟨aX,aY,cU⟩:=PX C (c::seen) aQ
  refine⟨List.nodup_cons.2 ⟨fun q=>aY c q (by simp),aX⟩,fun i aw=> ?_,fun X i Y e p hp=> ?_⟩
  ·rcases List.mem_cons.1 aw with rfl|aw
   ·exact R
   ·exact fun q=>aY i aw (by simp[q])
  ·cases X with
   |nil=>
    simp only[List.nil_append,List.cons.injEq] at e
    obtain⟨rfl,rfl⟩:=e
    exact .inr (ae p hp)
   |cons x X=>
    simp only[List.cons_append,List.cons.injEq] at e
    obtain⟨rfl,e⟩:=e
    rcases cU X i Y e p hp with q|q
    ·exact .inl (by simp[q])
    ·rcases List.mem_cons.1 q with rfl|q
     ·exact .inl (by simp)
     ·exact .inr q
theorem PY{o4:Nat→List Nat}:∀(s l:List Nat) (f:Nat),s.length≤f→s.Nodup→l.Nodup→(∀i,i∈s↔i∈l)→(∀X i Y,s=X++i::Y→∀o,o∈o4 i→o∈l→o∈X)→s∈vS o4 f l
 | [],l,f,_,_,_,hm,_=>by
  have:l=[]:=by
   cases l with
   |nil=>rfl
   |cons a l=>exact absurd ((hm a).2 (by simp)) (by simp)
  subst this
  cases f<;>simp[vS]
 |i::s,l,0,aS,_,_,_,_=>by simp at aS
 |i::s,[],f+1,_,_,_,hm,_=>by exact absurd ((hm i).1 (by simp)) (by simp)
 |i::s,a::l,f+1,aS,a6,ax,hm,bc=>by
  have od:i∈a::l:=(hm i).1 (by simp)
  have Ei:=List.nodup_cons.1 a6
  simp only[vS,List.mem_flatMap]
  refine⟨i,od, ?_⟩
  have pN:(a::l).all (fun o=> !(o4 i).contains o)=true:=by
   simp only[List.all_eq_true,Bool.not_eq_true',List.contains_eq_mem,decide_eq_false_iff_not]
   intro o U q
   have:=bc [] i s rfl o q U
   simp at this
  rw[if_pos pN,List.mem_map]
  refine⟨s,PY s ((a::l).erase i) f (by simpa using aS) Ei.2 (ax.erase i) (fun o=> ?_) (fun X k Y e o U iX=> ?_),rfl⟩
  ·rw[ax.mem_erase_iff]
   have:=hm o
   simp only[List.mem_cons] at this⊢
   constructor
   ·intro q
    exact⟨by rintro rfl;exact Ei.1 q,this.1 (.inr q)⟩
   ·rintro ⟨aE,aR⟩
    exact(this.2 aR).resolve_left aE
  ·rw[ax.mem_erase_iff] at iX
   have:=bc (i::X) k Y (by rw[e];rfl) o U iX.2
   exact(List.mem_cons.1 this).resolve_left iX.1
theorem PZ{i:Nat}:∀{A Bk B AK:List Nat},A++i::B=Bk++i::AK→i∉A→i∉Bk→A=Bk
 | [],[],_,_,_,_,_=>rfl
 | [],a::Bk,_,_,e,_,h=>by simp at e;exact absurd (by simp[e.1]) h
 |a::A,[],_,_,e,h,_=>by simp at e;exact absurd (by simp[e.1]) h
 |a::A,eK::Bk,B,AK,e,h,aa=>by
  simp only[List.cons_append,List.cons.injEq] at e
  obtain⟨rfl,e⟩:=e
  rw[PZ e (fun q=>h (by simp[q])) (fun q=>aa (by simp[q]))]
theorem P0{i:Nat}:∀{A B:List Nat},i∉A→(A++i::B).takeWhile (fun o=> !(o==i))=A
 | [],B,_=>by simp
 |a::A,B,h=>by
  have bh:a≠i:=fun q=>h (by simp[q])
  simp only[List.cons_append,List.takeWhile_cons]
  have:(!(a==i))=true:=by simpa using bh
  rw[this]
  simp only[if_true]
  rw[P0 (fun q=>h (by simp[q]))]
theorem P1{pre o4:Nat→List Nat}(aF:∀i o,o∈o4 i→∃p,p∈pre i∧(p=o∨o∈o4 p)){l:List Nat}(bc:tX pre (fun _=>False) l):∀(m:Nat) (X:List Nat) (i:Nat) (Y:List Nat),X.length≤m→l=X++i::Y→∀o,o∈o4 i→o∈X
 |m,X,i,Y,hm,e,o,U=>by
  obtain⟨p,hp,q⟩:=aF i o U
  have Ks:p∈X:=(bc X i Y e p hp).elim (fun z=>z) (fun z=>z.elim)
  rcases q with rfl|q
  ·exact Ks
  ·obtain⟨ZI,ZJ,aV⟩:=List.append_of_mem Ks
   cases m with
   |zero=>simp at hm;subst hm;simp at Ks
   |succ m=>
    have:=P1 aF bc m ZI p (ZJ++i::Y) (by rw[aV] at hm;simp at hm;omega) (by rw[e,aV];simp) o q
    rw[aV];simp[this]
def Kt(n:Nat)(tW:Nat→List Nat)(cs:Nat→ga)(ord:List Nat)(da ev:Nat→List Nat):Option (List hr):=
 if(List.range n).all (ord.contains ·)&&Eg n tW cs da ev [] ord then some (ord.map (kW cs da)) else none
theorem ZK{P:Program}{Q:ia}{n:Nat}{pre:Nat→List Nat}{cs:Nat→ga}{sig:List Nat}{ord:List Nat}{da ev:Nat→List Nat}{l:List hr}
  (h:Kt n (Kr pre (fun i=>(cs i).act.kind==2) sig) cs ord da ev=some l) {t:Nat→V} {hp:Lo} (w:gX P Q l t hp)
  {s:List Nat} (a6:s.Nodup) (hm:∀i,i∈s↔i<n) (bc:tX pre (fun _=>False) s) (Bl:sig=s.filter fun i=>(cs i).act.kind==2):gX P Q (s.map (kW cs fun _=> [])) t hp:=by
 unfold Kt at h
 split at h
 ·rename_i an
  injection h with h;subst h
  simp only[Bool.and_eq_true,List.all_eq_true,List.mem_range,List.contains_eq_mem,decide_eq_true_eq] at an
  obtain⟨bF,bD⟩:=an
  have sp:=PU _ _ bD
  refine PV (n:=n) (pre:=Kr pre (fun i=>(cs i).act.kind==2) sig) (da:=da) (ev:=ev) s ord (fun _=>False) t hp a6 (fun i=> ?_) (fun _ _ q=>q) (fun _ q=>q.elim) ?_ (fun A i B e=> ?_) w
  ·rw[hm]
   refine⟨bF i,fun q=> ?_⟩
   obtain⟨A,B,e⟩:=List.append_of_mem q
   exact(sp A i B e).2.1.lt
  ·intro X i Y e p hp
   rcases List.mem_append.1 hp with q|q
   ·exact bc X i Y e p q
   ·left
    split at q
    ·rename_i A0
     have Ku:i∉X:=by
      rw[e] at a6
      exact fun z=>(List.nodup_append.1 a6).2.2 i z i (by simp) rfl
     have:sig=X.filter (fun i=>(cs i).act.kind==2)++i::Y.filter (fun i=>(cs i).act.kind==2):=by
      rw[Bl,e,List.filter_append,List.filter_cons,if_pos A0]
     rw[this,P0 (fun z=>Ku (List.mem_filter.1 z).1)] at q
     exact(List.mem_filter.1 q).1
    ·simp at q
  ·obtain⟨aX,aY,cU⟩:=sp A i B e
   have key:∀o,(o∈A∨o∈([]:List Nat))→(o∈A∨False):=fun o q=>q.elim .inl (fun z=>by simp at z)
   exact⟨aX.1,⟨aY.lt,fun p hp=>key p (aY.pre p hp),fun o U=>⟨key o (aY.mE o U).1,(aY.mE o U).2⟩,aY.quiet,fun r bc=>key r (aY.res r bc)⟩,fun a bh=>cU a (.inl bh)⟩
 ·cases h
def Kv(n:Nat)(pre:Nat→List Nat)(cs:Nat→ga)(sig:List Nat):Option (List hr):=
 let tW:=Kr pre (fun i=>(cs i).act.kind==2) sig
 let ord:=Bi tW (fun i=>(cs i).act.kind<2) n (List.range n) []
 let Ej:=Kq tW ord
 let ev:=fun i=>(Ej.lookup i).getD []
 let rel:=PW ev (fun i=>(cs i).act.kind) [] ord
 Kt n tW cs ord (fun i=>(rel.lookup i).getD []) ev
theorem ZL{P:Program}{Q:ia}{n:Nat}{pre:Nat→List Nat}{cs:Nat→ga}{sig:List Nat}{l:List hr}(h:Kv n pre cs sig=some l){t:Nat→V}{hp:Lo}(w:gX P Q l t hp)
  {s:List Nat} (a6:s.Nodup) (hm:∀i,i∈s↔i<n) (bc:tX pre (fun _=>False) s) (Bl:sig=s.filter fun i=>(cs i).act.kind==2):gX P Q (s.map (kW cs fun _=> [])) t hp:=
 ZK h w a6 hm bc Bl
def Kw(P:Program)(n:Nat)(ops:Array Oper):Option (List (List hr)):=
 match fK (vI P n ops) ops.toList with
 |none=>none
 |some gs=>
  let cs:=fun i=>gs.getD i default
  let pre:=kC ops
  let ord:=Bi pre (fun _=>true) ops.size (List.range ops.size) []
  let fk:=Kq pre ord
  let o4:=fun i=>(fk.lookup i).getD []
  let P2:=(List.range ops.size).filter fun i=>(cs i).act.kind==2
  let sigs:=vS o4 P2.length P2
  if P.follows .mixedOrders&&(decide (ord.length≤ops.size)&&(ord.all (fun i=>decide (i<ops.size))&&((List.range ops.size).all (ord.contains ·)&&(Bj pre [] ord&&
    (fk.all (fun p=>p.2.all fun o=>(pre p.1).any fun q=>q==o||(o4 q).contains o)&&decide (sigs.length≤24)))))) then
   fK (Kv ops.size pre cs) sigs
  else none
theorem P3{P:Program}{n:Nat}{ops:Array Oper}{gs:List ga}(h:fK (vI P n ops) ops.toList=some gs):∀is:List Nat,(∀i,i∈is→i<ops.size)→
  nM P n ops is=some (is.map (kW (fun i=>gs.getD i default) fun _=> []))
 | [],_=>rfl
 |i::is,aw=>by
  obtain⟨aX,aY⟩:=vh h
  have bN:=aw i (by simp)
  have Kx:i<gs.length:=by simpa [aX] using bN
  have dt:gs[i]? =some gs[i]:=List.getElem?_eq_getElem Kx
  obtain⟨ao,aE,aR⟩:=aY i _ dt
  have cj:ops[i]? =some ao:=by simpa using aE
  simp only[nM,cj,aR]
  rw[P3 h is (fun o U=>aw o (by simp[U]))]
  simp only[List.map_cons,kW,List.map_nil,List.getD_eq_getElem?_getD,dt,Option.getD_some]
theorem P4{α β:Type}{f:α→Option β}:∀{xs:List α} {a_:List β},fK f xs=some a_→∀x,x∈xs→∃y,y∈a_∧f x=some y
 | [],_,_,x,au=>by simp at au
 |a::xs,a_,h,x,au=>by
  simp only[fK] at h
  split at h
  ·rename_i y DF R ae
   injection h with h;subst h
   rcases List.mem_cons.1 au with rfl|au
   ·exact⟨y,by simp,R⟩
   ·obtain⟨z,aX,aY⟩:=P4 ae x au
    exact⟨z,by simp[aX],aY⟩
  ·cases h
theorem ZM{l:List (Nat × List Nat)}{i o:Nat}(h:o∈(l.lookup i).getD []):∃p,p∈l∧p.1=i∧o∈p.2:=by
 induction l with
 |nil=>simp at h
 |cons p l ba=>
  obtain⟨a,b⟩:=p
  rw[List.lookup_cons] at h
  split at h
  ·rename_i q
   have:i=a:=by simpa using q
   exact⟨(a,b),by simp,this.symm,by simpa using h⟩
  ·obtain⟨p,aX,aY⟩:=ba h
   exact⟨p,by simp[aX],aY⟩
theorem ZN{P:Program}{Q:ia}{n:Nat}{ops:Array Oper}{cs:Nat→ga}{ord:List Nat}{fk:List (Nat × List Nat)}{ls:List (List hr)}
  (cA:∀is:List Nat,(∀i,i∈is→i<ops.size)→nM P n ops is=some (is.map (kW cs fun _=> []))) (bF:P.follows .mixedOrders=true) (bD:ord.length≤ops.size) (b8:∀i,i∈ord→i<ops.size) (cu:∀i,i<ops.size→i∈ord)
  (cK:Bj (kC ops) [] ord=true) (me:∀p,p∈fk→∀o,o∈p.2→∃q,q∈kC ops p.1∧(q=o∨o∈(fk.lookup q).getD []))
  (h:fK (Kv ops.size (kC ops) cs) (vS (fun i=>(fk.lookup i).getD []) ((List.range ops.size).filter fun i=>(cs i).act.kind==2).length ((List.range ops.size).filter fun i=>(cs i).act.kind==2))=some ls)
  {t:Nat→V} {hp:Lo} (w:∀l,l∈ls→gX P Q l t hp) (gK:Nat):∃ho,nM P n ops (Region.schedule (P.follows .mixedOrders) ops gK)=some ho∧gX P Q ho t hp:=by
 obtain⟨t1,_,t3⟩:=PX _ _ cK
 have Ky:Region.schedule (P.follows .mixedOrders) ops gK=lP .any ops ops.size gK (Array.replicate ops.size false):=by
  unfold Region.schedule Region.linearise
  rw[bF]
  simp only[Bool.true_or,if_true,go_eq,List.reverse_nil,List.nil_append]
 rw[Ky]
 have Bm:∀i,(Array.replicate ops.size false).getD i false=false:=by
  intro i
  rw[Array.getD_eq_getD_getElem?,Array.getElem?_replicate]
  split<;>rfl
 obtain⟨aX,aY,cU⟩:=ZH (ops:=ops) ops.size gK (Array.replicate ops.size false) ord bD (by simp) (fun i=>⟨fun q=>⟨b8 i q,Bm i⟩,fun q=>cu i q.1⟩) t1 (fun X i Y e p hp=>(t3 X i Y e p hp).elim .inl (fun q=>by simp at q))
 generalize lP .any ops ops.size gK (Array.replicate ops.size false)=s at aX aY cU⊢
 have hm:∀i,i∈s↔i<ops.size:=fun i=>by rw[aY];exact⟨b8 i,cu i⟩
 have bc:tX (kC ops) (fun _=>False) s:=fun X i Y e p hp=>(cU X i Y e p hp).elim .inl (fun q=>by
  replace q:(Array.replicate ops.size false).getD p false=true:=q
  rw[Bm] at q;cases q)
 have aF:∀i o,o∈(fk.lookup i).getD []→∃p,p∈kC ops i∧(p=o∨o∈(fk.lookup p).getD []):=by
  intro i o U
  obtain⟨p,cF,cW,hW⟩:=ZM U
  obtain⟨q,aE,aR⟩:=me p cF o hW
  rw[cW] at aE
  exact⟨q,aE,aR⟩
 generalize A0:(fun i=>(cs i).act.kind==2)=et at h
 have Bl:s.filter et∈vS (fun i=>(fk.lookup i).getD []) ((List.range ops.size).filter et).length ((List.range ops.size).filter et):=by
  have P5:((List.range ops.size).filter et).Nodup:=List.nodup_range.filter _
  have P6:∀i,i∈s.filter et↔i∈(List.range ops.size).filter et:=fun i=>by
   simp only[List.mem_filter,List.mem_range,hm]
  refine PY _ _ _ ?_ (aX.filter _) P5 P6 (fun X i Y e o U iX=> ?_)
  ·have hp:=(List.perm_ext_iff_of_nodup (aX.filter et) P5).2 P6
   exact Nat.le_of_eq hp.length_eq
  ·have ZO:i∈s.filter et:=by rw[e];simp
   obtain⟨ZP,ZQ⟩:=List.mem_filter.1 ZO
   obtain⟨A,B,Kz⟩:=List.append_of_mem ZP
   have sD:i∉A:=by
    rw[Kz] at aX
    exact fun z=>(List.nodup_append.1 aX).2.2 i z i (by simp) rfl
   have ZR:=P1 aF bc A.length A i B (Nat.le_refl _) Kz o U
   have Ku:i∉X:=by
    have:=aX.filter et
    rw[e] at this
    exact fun z=>(List.nodup_append.1 this).2.2 i z i (by simp) rfl
   have bb:s.filter et=A.filter et++i::B.filter et:=by
    rw[Kz,List.filter_append,List.filter_cons,if_pos ZQ]
   rw[bb] at e
   rw[←PZ e (fun z=>sD (List.mem_filter.1 z).1) Ku]
   exact List.mem_filter.2 ⟨ZR,(List.mem_filter.1 iX).2⟩
 obtain⟨l,c5,ew⟩:=P4 h _ Bl
 exact⟨_,cA _ (fun i aw=>(hm i).1 aw),ZL ew (w l c5) aX hm bc (by rw[A0])⟩
theorem ZS{P:Program}{n:Nat}{ops:Array Oper}{ls:List (List hr)}(h:Kw P n ops=some ls){Q:ia}{t:Nat→V}{hp:Lo}(w:∀l,l∈ls→gX P Q l t hp)(gK:Nat):
  ∃ho,nM P n ops (Region.schedule (P.follows .mixedOrders) ops gK)=some ho∧gX P Q ho t hp:=by
 unfold Kw at h
 split at h
 ·cases h
 ·rename_i gs Bn
  simp only at h
  split at h
  ·rename_i an
   have cA:=P3 Bn
   generalize Bi (kC ops) (fun _=>true) ops.size (List.range ops.size) []=ord at h an
   generalize Kq (kC ops) ord=fk at h an
   rw[Bool.and_eq_true] at an;obtain⟨bF,an⟩:=an
   rw[Bool.and_eq_true] at an;obtain⟨bD,an⟩:=an
   rw[Bool.and_eq_true] at an;obtain⟨b8,an⟩:=an
   rw[Bool.and_eq_true] at an;obtain⟨cu,an⟩:=an
   rw[Bool.and_eq_true] at an;obtain⟨cK,an⟩:=an
   rw[Bool.and_eq_true] at an;obtain⟨me,an⟩:=an
   refine ZN (cs:=fun i=>gs.getD i default) cA bF (of_decide_eq_true bD) (fun i aw=> ?_) (fun i aw=> ?_) cK (fun p hp o U=> ?_) h w gK
   ·exact of_decide_eq_true (List.all_eq_true.1 b8 i aw)
   ·have:=List.all_eq_true.1 cu i (List.mem_range.2 aw)
    simpa using this
   ·have:=List.all_eq_true.1 (List.all_eq_true.1 me p hp) o U
    obtain⟨q,aE,aR⟩:=List.any_eq_true.1 this
    refine⟨q,aE, ?_⟩
    rw[Bool.or_eq_true] at aR
    rcases aR with aR|aR
    ·exact .inl (by simpa using aR)
    ·exact .inr (by simpa using aR)
  ·cases h
end Go.Proofs.YtjpjeilfmjdhcaaGreat.E
namespace Go.Proofs.YtjpjeilfmjdhcaaGreat.E
def ZT(ops:Array Oper):List (List Nat):=
 (List.range ops.size).foldl (fun acc i=>acc++ [((kC ops i).flatMap fun p=>p::acc.getD p []).eraseDups]) []
def KA(ops:Array Oper)(quiet:Nat→Bool):Nat→List Nat→List Nat→List Nat
 |0,_,done=>done.reverse
 |fuel+1,left,done=>
  let ready:=left.filter fun i=>(kC ops i).all (done.contains ·)
  match ready.find? quiet with
  |some i=>KA ops quiet fuel (left.erase i) (i::done)
  |none=>match ready with
   |i::_=>KA ops quiet fuel (left.erase i) (i::done)
   | []=>done.reverse
def P7(ev:Nat→List Nat)(kind:Nat→Nat):List Nat→List Nat→List (Nat × List Nat)
 |_,[]=> []
 |seen,i::rest=>(i,if kind i==2 then(seen.filter fun a=>kind a==1&& !(ev i).contains a) else [])::P7 ev kind (i::seen) rest
def KB(P:Program)(n:Nat)(ops:Array Oper):Option (List hr):=
 match fK (vI P n ops) ops.toList with
 |none=>none
 |some gs=>
  let Ej:=ZT ops
  let ord:=KA ops (fun i=>(gs.getD i default).act.kind<2) ops.size (List.range ops.size) []
  let rel:=P7 (fun i=>Ej.getD i []) (fun i=>(gs.getD i default).act.kind) [] ord
  if P.follows .mixedOrders&&((List.range ops.size).all (ord.contains ·)&&(decide (ord.length≤ops.size)&&Be ops (fun i=>gs.getD i default) (fun i=>(rel.lookup i).getD []) (fun i=>Ej.getD i []) [] ord)) then
   some (ord.map (kW (fun i=>gs.getD i default) fun i=>(rel.lookup i).getD []))
  else none
theorem P8{P:Program}{n:Nat}{ops:Array Oper}{gs:List ga}(h:fK (vI P n ops) ops.toList=some gs):∀is:List Nat,(∀i,i∈is→i<ops.size)→
  nM P n ops is=some (is.map (kW (fun i=>gs.getD i default) fun _=> []))
 | [],_=>rfl
 |i::is,aw=>by
  obtain⟨aX,aY⟩:=vh h
  have bN:=aw i (by simp)
  have Kx:i<gs.length:=by simpa [aX] using bN
  have dt:gs[i]? =some gs[i]:=List.getElem?_eq_getElem Kx
  obtain⟨ao,aE,aR⟩:=aY i _ dt
  have cj:ops[i]? =some ao:=by simpa using aE
  simp only[nM,cj,aR]
  rw[P8 h is (fun o U=>aw o (by simp[U]))]
  simp only[List.map_cons,kW,List.map_nil,List.getD_eq_getElem?_getD,dt,Option.getD_some]
theorem P9{m:Region.Mode}{ops:Array Oper}:∀(fuel gK:Nat) (dJ:Array Bool),∀i,i∈lP m ops fuel gK dJ→i<ops.size
 |0,_,_,i,h=>by simp[lP] at h
 |fuel+1,gK,dJ,i,h=>by
  simp only[lP] at h
  split at h
  ·rename_i o U
   have:=List.mem_of_getElem? U
   rw[List.mem_filter,List.mem_range] at this
   rcases List.mem_cons.1 h with q|q
   ·subst q;exact this.1
   ·exact P9 fuel _ _ i q
  ·simp at h
theorem ZU{P:Program}{n:Nat}{ops:Array Oper}{gs:List ga}(Bn:fK (vI P n ops) ops.toList=some gs){da ev:Nat→List Nat}{ord:List Nat}(bF:P.follows .mixedOrders=true)
  (bD:∀x,x<ops.size→x∈ord) (cu:ord.length≤ops.size) (b8:Be ops (fun i=>gs.getD i default) da ev [] ord=true) {Q:ia} {t:Nat→V} {hp:Lo} (w:gX P Q (ord.map (kW (fun i=>gs.getD i default) da)) t hp) (gK:Nat):
  ∃ho,nM P n ops (Region.schedule (P.follows .mixedOrders) ops gK)=some ho∧gX P Q ho t hp:=by
 have a6:=PT _ _ b8
 have Ky:Region.schedule (P.follows .mixedOrders) ops gK=lP .any ops ops.size gK (Array.replicate ops.size false):=by
  unfold Region.schedule Region.linearise
  rw[bF]
  simp only[Bool.true_or,if_true,go_eq,List.reverse_nil,List.nil_append]
 rw[Ky]
 have Bm:∀i,(Array.replicate ops.size false).getD i false=false:=by
  intro i
  rw[Array.getD_eq_getD_getElem?,Array.getElem?_replicate]
  split<;>rfl
 have bg:Bf ops (fun i=>gs.getD i default) da ev (fun i=>(Array.replicate ops.size false).getD i false=true) ord:=by
  intro A i B e
  obtain⟨aX,aY,cU⟩:=a6 A i B e
  have key:∀o,(o∈A∨o∈([]:List Nat))→(o∈A∨(Array.replicate ops.size false).getD o false=true):=fun o q=>q.elim .inl (fun z=>by simp at z)
  exact⟨aX.1,⟨aY.lt,fun p hp=>key p (aY.pre p hp),fun o U=>⟨key o (aY.mE o U).1,(aY.mE o U).2⟩,aY.quiet,fun r bc=>key r (aY.res r bc)⟩,fun a bh=>cU a (.inl bh)⟩
 have lk:∀i,i∈ord→i<ops.size:=fun i aw=>by
  obtain⟨A,B,e⟩:=List.append_of_mem aw
  exact(a6 A i B e).2.1.lt
 exact⟨_,P8 Bn _ (P9 _ _ _),ZG ops.size gK _ ord t hp cu (by simp) (fun i=>⟨fun q=>⟨lk i q,Bm i⟩,fun q=>bD i q.1⟩) (fun i q=>by rw[Bm] at q;cases q) bg w⟩
theorem ZV{P:Program}{n:Nat}{ops:Array Oper}{l:List hr}(h:KB P n ops=some l){Q:ia}{t:Nat→V}{hp:Lo}(w:gX P Q l t hp)(gK:Nat):
  ∃ho,nM P n ops (Region.schedule (P.follows .mixedOrders) ops gK)=some ho∧gX P Q ho t hp:=by
 unfold KB at h
 split at h
 ·cases h
 ·rename_i gs Bn
  simp only at h
  split at h
  ·rename_i an
   injection h with h;subst h
   simp only[Bool.and_eq_true,List.all_eq_true,List.mem_range,List.contains_eq_mem,decide_eq_true_eq] at an
   obtain⟨bF,bD,cu,b8⟩:=an
   exact ZU Bn bF bD cu b8 w gK
  ·cases h
theorem P_{α β:Type}{f:α→Option β}:∀{xs:List α} {a_:List β},fK f xs=some a_→∀(i:Nat) (aw:i<xs.length),∃y,y∈a_∧f xs[i]=some y
 | [],a_,h,i,aw=>by simp at aw
 |x::xs,a_,h,i,aw=>by
  simp only[fK] at h
  split at h
  ·rename_i y DF R ae
   injection h with h;subst h
   cases i with
   |zero=>exact⟨y,by simp,R⟩
   |succ i=>
    obtain⟨o2,aX,aY⟩:=P_ ae i (by simpa using aw)
    exact⟨o2,by simp[aX],by simpa using aY⟩
  ·cases h
def Ek:js:= .mc [⟨none,none, .bad,[]⟩]
def comp(P:Program)(n:Nat):Code→Option js
 | .skip=>some .skip
 | .region _ ops false=>match nM P n ops (List.range ops.size) with
  |some l=>some (.mc l)
  |none=>some Ek
 | .region _ ops true=>match KB P n ops with
  |some l=>some (.mc l)
  |none=>match Kw P n ops with
   |some ls=>some (.draw ls)
   |none=>if ops.size≤8 then(fK (nM P n ops) (J9 P ops)).map .draw else some Ek
 | .seq a b=>match comp P n a,comp P n b with
  |some a,some b=>some (.seq a b)
  |_,_=>none
 | .cond c a b=>match fN n c,comp P n a,comp P n b with
  |some c,some a,some b=>some (.cond c a b)
  |_,_,_=>none
 | .block id b=>(comp P n b).map (.block id)
 | .loop b=>(comp P n b).map .loop
 | .exit id=>some (.exit id)
 | .ret=>some .ret
 |_=>some Ek
theorem vT{P:Program}{Q:ia}{t:Nat→V}{h:Lo}(w:kB P Ek Q t h):False:=w
theorem ZW{n:Nat}{Q:ia}{next:(Nat→V)→Lo→Prop}{L:Loc}{w:World}{e:Exit}{a:Act}{a2:World}{N:Act→World→Prop}{aK:Exit→Act→World→Prop}
  (u:up n (D7 next Q) L w e a a2) (bd:∀t h cZ,next t h→fA cZ a2 n t a.tmps→a.defers=[]→cw cZ h a2→Fr (Own L) w a2→Ext L w cZ→N a a2)
  (bc:e≠ .normal→up n Q L w e a a2→aK e a a2):Exit.then N aK e a a2:=by
 obtain⟨x,bR,aa,cZ,rfl,ae,aQ,bo,bI,cR,eF⟩:=u
 cases x with
 |normal=>exact bd bR aa cZ ae aQ bo bI cR eF
 |exit id=>exact bc (by simp[cg.up]) ⟨.exit id,bR,aa,cZ,rfl,ae,aQ,bo,bI,cR,eF⟩
 |ret=>exact bc (by simp[cg.up]) ⟨.ret,bR,aa,cZ,rfl,ae,aQ,bo,bI,cR,eF⟩
def WP(P:Program)(n:Nat)(c:Code)(Q:ia)(t:Nat→V)(h:Lo):Prop:=
 ∀L w a,fA L w n t a.tmps→a.defers=[]→cw L h w→c.wp P (up n Q L w) a w
theorem ZX{P:Program}{n:Nat}{c:Code}{Q:ia}(av:Nat→(Nat→V)→Lo→Prop)
  (round:∀m t h,av m t h→WP P n c (D7 (fun bR aa=>∃cC,cC<m∧av cC bR aa) Q) t h) {m:Nat} {t:Nat→V} {h:Lo} (aI:av m t h):WP P n (.loop c) Q t h:=by
 intro L w a r bj H b k cs
 have key:∀m t h,av m t h→∀L w a,fA L w n t a.tmps→a.defers=[]→cw L h w→
   ∃e eK a2,up n Q L w e eK a2∧Arrives P (lone (b.at a (.code c:: .inLoop c::k)) cs w) b k cs e eK a2:=by
  intro m
  induction m using Nat.strongRecOn with
  |_ m ba=>
   intro t h cA L w a r bj H
   obtain⟨e,KC,pG,bm,Bo⟩:=round m t h cA L w a r bj H b (.inLoop c::k) cs
   obtain⟨x,bR,aa,cZ,rfl,ae,aQ,bo,bI,cR,eF⟩:=bm
   cases x with
   |normal=>
    obtain⟨cC,bN,ZY⟩:=ae
    obtain⟨ZZ,Z0,DC,Z1,Z2⟩:=ba cC bN bR aa ZY cZ pG KC aQ bo bI
    exact⟨ZZ,Z0,DC,x1 cR eF Z1, .of_steps (Steps.trans Bo (.one step_inLoop)) Z2⟩
   |exit id=>exact⟨_,KC,pG,⟨.exit id,bR,aa,cZ,rfl,ae,aQ,bo,bI,cR,eF⟩, .pass (x:= .inLoop c) rfl (fun _ _=> .inl (by simp[cg.up])) Bo⟩
   |ret=>exact⟨_,KC,pG,⟨.ret,bR,aa,cZ,rfl,ae,aQ,bo,bI,cR,eF⟩, .pass (x:= .inLoop c) rfl (fun _ _=> .inl (by simp[cg.up])) Bo⟩
 obtain⟨e,eK,a2,bm,Bo⟩:=key m t h aI L w a r bj H
 exact⟨e,eK,a2,bm, .of_steps (.one step_loop) Bo⟩
theorem Z3{P:Program}{n:Nat}:∀(c:Code) (x:js),comp P n c=some x→∀(Q:ia) (t:Nat→V) (h:Lo),kB P x Q t h→WP P n c Q t h:=by
 intro c
 induction c with
 |skip=>
  intro x an Q t h bm L w a r bj H
  simp only[comp,Option.some.injEq] at an
  subst an
  exact wp_skip ⟨.normal,t,h,L,rfl,bm,r,bj,H,Fr.refl _ _,Ext.refl _ _⟩
 |region id ops draw=>
  intro x an Q t h bm L w a r bj H
  cases draw with
  |false=>
   simp only[comp] at an
   split at an
   ·rename_i l R
    injection an with an;subst an
    exact wp_region (A7 _ l R t h bm L w a r bj H _ (fun _ _ _ u=>u))
   ·injection an with an;subst an;exact(vT bm).elim
  |true=>
   have cN:=tI (Own L) w
   have ex:=Ext.refl L w
   simp only[comp] at an
   split at an
   ·rename_i l ax
    injection an with an;subst an
    refine wp_region_draw (fun gK=> ?_)
    obtain⟨ho,aV,bb⟩:=ZV ax bm gK
    exact A7 _ ho aV t h bb L {w with drawn:=w.drawn+1} a (r.step H cN ex) bj H.drew _ (fun _ _ _ u=>x1 cN ex u)
   ·split at an
    ·rename_i ls Z4
     injection an with an;subst an
     refine wp_region_draw (fun gK=> ?_)
     obtain⟨ho,aV,bb⟩:=ZS Z4 bm gK
     exact A7 _ ho aV t h bb L {w with drawn:=w.drawn+1} a (r.step H cN ex) bj H.drew _ (fun _ _ _ u=>x1 cN ex u)
    ·split at an
     ·simp only[Option.map_eq_some_iff] at an
      obtain⟨ls,R,rfl⟩:=an
      refine wp_region_draw (fun gK=> ?_)
      have hm:=Zm P ops gK
      obtain⟨i,bN,aw⟩:=List.mem_iff_getElem.1 hm
      obtain⟨y,cU,h_⟩:=P_ R i bN
      rw[←aw]
      exact A7 _ y h_ t h (bm y cU) L {w with drawn:=w.drawn+1} a (r.step H cN ex) bj H.drew _ (fun _ _ _ u=>x1 cN ex u)
     ·injection an with an;subst an;exact(vT bm).elim
 |seq bF bD KD Bp=>
  intro x an Q t h bm L w a r bj H
  simp only[comp] at an
  split at an
  ·rename_i cp du R ae
   injection an with an;subst an
   refine wp_seq (wp_mono (KD cp R _ t h bm L w a r bj H) (fun e eK a2 u=> ?_))
   exact ZW u (fun bR aa cZ bd oi KE qD cN ex=>wp_mono (Bp du ae Q bR aa bd cZ a2 eK oi KE qD) (fun _ _ _ nI=>x1 cN ex nI)) (fun _ nI=>nI)
  ·cases an
 |cond c bF bD KD Bp=>
  intro x an Q t h bm L w a r bj H
  simp only[comp] at an
  split at an
  ·rename_i ao cp du aI R ae
   injection an with an;subst an
   have rc:=fV r aI
   simp only[kB] at bm
   split at bm
   ·rename_i q
    rw[q] at rc
    refine wp_cond_true ?_ (KD cp R _ t h bm L w a r bj H)
    generalize a.eval c=z at rc
    cases rc;rfl
   ·rename_i q
    rw[q] at rc
    refine wp_cond_false ?_ (Bp du ae _ t h bm L w a r bj H)
    generalize a.eval c=z at rc
    cases rc;rfl
   ·exact bm.elim
  ·cases an
 |block id c ba=>
  intro x an Q t h bm L w a r bj H
  simp only[comp,Option.map_eq_some_iff] at an
  obtain⟨cp,R,rfl⟩:=an
  refine wp_block (wp_mono (ba cp R _ t h bm L w a r bj H) (fun e eK a2 u=> ?_))
  obtain⟨x,bR,aa,cZ,rfl,ae,rest⟩:=u
  cases x with
  |normal=>exact⟨.normal,bR,aa,cZ,rfl,ae,rest⟩
  |exit o=>
   simp only[D8] at ae
   simp only[cg.up,Exit.inBlock]
   split
   ·rename_i U;rw[if_pos U] at ae;exact⟨.normal,bR,aa,cZ,rfl,ae,rest⟩
   ·rename_i U;rw[if_neg U] at ae;exact⟨.exit o,bR,aa,cZ,rfl,ae,rest⟩
  |ret=>exact⟨.ret,bR,aa,cZ,rfl,ae,rest⟩
 |loop c ba=>
  intro x an Q t h bm
  simp only[comp,Option.map_eq_some_iff] at an
  obtain⟨cp,R,rfl⟩:=an
  obtain⟨av,⟨m,aI⟩,round⟩:=bm
  exact ZX av (fun m t h cA=>ba cp R _ t h (round m t h cA)) aI
 |exit id=>
  intro x an Q t h bm L w a r bj H
  simp only[comp,Option.some.injEq] at an
  subst an
  exact wp_exit ⟨.exit id,t,h,L,rfl,bm,r,bj,H,Fr.refl _ _,Ext.refl _ _⟩
 |ret=>
  intro x an Q t h bm L w a r bj H
  simp only[comp,Option.some.injEq] at an
  subst an
  exact wp_ret ⟨.ret,t,h,L,rfl,bm,r,bj,H,Fr.refl _ _,Ext.refl _ _⟩
 |rangeFunc=>intro x an Q t h bm;simp only[comp,Option.some.injEq] at an;subst an;exact(vT bm).elim
 |scope=>intro x an Q t h bm;simp only[comp,Option.some.injEq] at an;subst an;exact(vT bm).elim
 |label=>intro x an Q t h bm;simp only[comp,Option.some.injEq] at an;subst an;exact(vT bm).elim
 |goto=>intro x an Q t h bm;simp only[comp,Option.some.injEq] at an;subst an;exact(vT bm).elim
 |refuse=>intro x an Q t h bm;simp only[comp,Option.some.injEq] at an;subst an;exact(vT bm).elim
inductive jg where
 |t (i:Nat)
 |c5 (i:Nat)
 |Bq (n i:Nat)
 deriving Inhabited,Repr
def jg.aB(t:Nat→V)(h:Lo):jg→Option V
 | .t i=>some (t i)
 | .c5 i=>mA h (t i)
 | .Bq n i=>dS h n (t i)
structure El where
 n:Nat
 res:List jg
 code:js
 deriving Inhabited,Repr
def Br(P:Program)(n:Nat):ResultVar→Option jg
 | .tmp t=>if t<n then some (.t t) else none
 | .cell a t=>if a<n then match P.info? t,P.underlying t with
   |some i,some _=>if jH P t then some (.Bq i.size a) else some (.c5 a)
   |_,_=>none
  else none
def sE(P:Program)(fn:Func):Option El:=match fn.body with
 |none=>none
 |some c=>match comp P fn.ntmps c,fK (Br P fn.ntmps) fn.results.toList with
  |some x,some rs=>some ⟨fn.ntmps,rs,x⟩
  |_,_=>none
def tY(args:Lv):Nat→V:=fun i=>args.getD i (.bW [])
def Bs(rs:List jg)(t:Nat→V)(h:Lo)(K:V→Prop):Prop:=match fK (jg.aB t h) rs with
 |none=>False
 |some [v]=>K v
 |some ak=>K (.bW ak)
def Qa(P:Program)(kR:Array Value)(g:ResultVar→Sem Value):Prop:=
 (∀t,g (.tmp t)=pure (kR.getD t undef))∧∀a t,g (.cell a t)=(do loadVar t (←asAddr (kR.getD a undef)))
theorem Z5{P:Program}{L:Loc}{w:World}{h:Lo}(H:cw L h w){t:TypeId}{v c:V}{x:Value}(hu:(P.underlying t).isSome=true)(a6:jH P t=false)(r:bM L w v x)(he:mA h v=some c):
  ∃y,(do loadVar t (←asAddr x):Sem Value).run P w= .ok y w∧bM L w c y:=by
 unfold mA at he
 split at he
 ·rename_i c0 an
  injection he with he;subst he
  obtain⟨b,ao,rfl,_,f,R,ae⟩:=DM H r an
  refine⟨f 0, ?_,ae 0 _ rfl⟩
  have:=R 0 (by omega)
  simp only[Nat.add_zero] at this
  simp only[asAddr,loadVar,Sem.run_bind,Sem.run_pure,Result.andThen_ok,xL w hu,a6,Bool.false_eq_true,if_false,run_load,this]
 ·cases he
theorem Z6{P:Program}{L:Loc}{w:World}{h:Lo}(H:cw L h w){t:TypeId}{i:TypeInfo}{v c:V}{x:Value}(aw:P.info? t=some i)(hu:(P.underlying t).isSome=true)(a6:jH P t=true)(r:bM L w v x)(he:dS h i.size v=some c):
  ∃y,(do loadVar t (←asAddr x):Sem Value).run P w= .ok y w∧bM L w c y:=by
 unfold dS at he
 simp only[Option.map_eq_some_iff] at he
 obtain⟨cs,an,rfl⟩:=he
 obtain⟨b,ao,rfl,ax,f,R,ae⟩:=DM H r an
 refine⟨.agg ((List.range i.size).map f).toArray, ?_, .agg _ (by simp[ax]) (fun k c aH=> ?_)⟩
 ·simp only[asAddr,loadVar,Sem.run_bind,Sem.run_pure,Result.andThen_ok,xL w hu,a6,if_true,run_sizeOf w aw,E.run_loadCells P w b ao i.size f R]
 ·have oV:k<i.size:=by rw[←ax];exact(List.getElem?_eq_some_iff.1 aH).1
  have:=ae k c aH
  rw[Array.getD_eq_getD_getElem?]
  simp[oV];exact this
theorem Qb{L:Loc}{w:World}{h:Lo}(H:cw L h w){P:Program}{n:Nat}{t:Nat→V}{kR:Array Value}(r:fA L w n t kR){g:ResultVar→Sem Value}(dt:Qa P kR g):
  ∀(rs:List ResultVar) (eo:List jg) (ak:Lv),fK (Br P n) rs=some eo→fK (jg.aB t h) eo=some ak→
  ∃us:List Value,(rs.mapM g).run P w= .ok us w∧us.length=ak.length∧∀(k:Nat) (v:V),ak[k]? =some v→bM L w v (us.getD k undef)
 | [],eo,ak,R,ae=>by
  simp[fK] at R;subst R
  simp[fK] at ae;subst ae
  exact⟨[],by simp,rfl,fun k s aH=>by simp at aH⟩
 |x::rs,eo,ak,R,ae=>by
  simp only[fK] at R
  split at R
  ·rename_i s Z7 aE aR
   injection R with R;subst R
   simp only[fK] at ae
   split at ae
   ·rename_i v pX cF cW
    injection ae with ae;subst ae
    obtain⟨us,aX,aY,cU⟩:=Qb H r dt rs Z7 pX aR cW
    have one:∃y,(g x).run P w= .ok y w∧bM L w v y:=by
     cases x with
     |tmp o=>
      simp only[Br] at aE
      split at aE
      ·rename_i U
       injection aE with aE;subst aE
       simp only[jg.aB,Option.some.injEq] at cF
       subst cF
       exact⟨_,by rw[dt.1];simp,r.2 o U⟩
      ·cases aE
     |cell o ty=>
      simp only[Br] at aE
      split at aE
      ·rename_i U
       rw[dt.2]
       split at aE
       ·rename_i i d aw bj
        have hu:(P.underlying ty).isSome=true:=by rw[bj];rfl
        split at aE
        ·rename_i a6
         injection aE with aE;subst aE
         exact Z6 H aw hu a6 (r.2 o U) cF
        ·rename_i a6
         injection aE with aE;subst aE
         exact Z5 H hu (by simpa using a6) (r.2 o U) cF
       ·cases aE
      ·cases aE
    obtain⟨y,nN,qE⟩:=one
    refine⟨y::us, ?_,by simp[aY],fun k s aH=> ?_⟩
    ·rw[List.mapM_cons]
     simp only[Sem.run_bind,Sem.run_pure,Result.andThen_ok,nN,aX]
    ·cases k with
     |zero=>simp at aH;subst aH;exact qE
     |succ k=>simp at aH;exact cU k s aH
   ·cases ae
  ·cases R
theorem Qc{L:Loc}{w:World}{h:Lo}(H:cw L h w){P:Program}{fn:Func}{t:Nat→V}{kR:Array Value}(r:fA L w fn.ntmps t kR){eo:List jg}(a6:fK (Br P fn.ntmps) fn.results.toList=some eo){K:V→Prop}(aH:Bs eo t h K):
  ∃v y,(results fn kR).run P w= .ok y w∧bM L w v y∧K v:=by
 suffices a6:∀g:ResultVar→Sem Value,Qa P kR g→∃v y,(do
   let ak←fn.results.mapM g
   pure (if h:ak.size=1 then ak[0] else .tuple ak):Sem Value).run P w= .ok y w∧bM L w v y∧K v from a6 _ ⟨fun _=>rfl,fun _ _=>rfl⟩
 intro g dt
 unfold Bs at aH
 cases bg:fK (jg.aB t h) eo with
 |none=>rw[bg] at aH;exact aH.elim
 |some ak=>
 obtain⟨us,aX,aY,cU⟩:=Qb H r dt _ eo ak a6 bg
 rw[Array.mapM_eq_mapM_toList,map_eq_pure_bind,bind_assoc]
 rw[Sem.run_bind]
 rw[aX]
 simp only[Result.andThen_ok,pure_bind]
 by_cases R:us.length=1
 ·obtain⟨u,rfl⟩:=List.length_eq_one_iff.1 R
  obtain⟨v,rfl⟩:=List.length_eq_one_iff.1 (aY.symm.trans R)
  rw[bg] at aH
  exact⟨v,u,by simp,cU 0 v rfl,aH⟩
 ·have:¬us.toArray.size=1:=by simpa using R
  simp only[dif_neg this,Sem.run_pure]
  refine⟨.bW ak,_,rfl, .bW us.toArray (by simp[aY]) (fun k c aH=> ?_), ?_⟩
  ·have:=cU k c aH
   simpa [Array.getD_eq_getD_getElem?,List.getD_eq_getElem?_getD] using this
  ·rw[bg] at aH
   split at aH
   ·exact aH.elim
   ·rename_i v e;injection e with e;subst e;simp at aY;exact absurd aY R
   ·rename_i pX _ e;injection e with e;subst e;exact aH
theorem Z8{L:Loc}{w:World}{args:Lv}{xs:Array Value}(a:lO L w args xs){n:Nat}(h:args.length≤n):
  fA L w n (tY args) (xs++Array.replicate (n-xs.size) undef):=by
 refine⟨by simp[a.1];omega,fun i aw=> ?_⟩
 rw[Array.getD_eq_getD_getElem?,Array.getElem?_append,a.1]
 unfold tY
 split
 ·rename_i q
  rw[List.getD_eq_getElem?_getD,List.getElem?_eq_getElem q,←Array.getD_eq_getD_getElem?]
  exact a.2 i _ (List.getElem?_eq_getElem q)
 ·rename_i q
  rw[List.getD_eq_getElem?_getD,List.getElem?_eq_none (by omega)]
  have:(Array.replicate (n-args.length) undef)[i-args.length]? =some undef:=by
   rw[Array.getElem?_replicate,if_pos (by omega)]
  rw[this]
  exact JW
def Z9(rs:List jg)(aK:V→Lo→Prop):ia:=fun x t h=>match x with
 | .exit _=>False
 |_=>Bs rs t h fun v=>aK v h
theorem kl.Z_{P:Program}{f:FuncId}{fn:Func}{e:El}{args:Lv}{h:Lo}{aK:V→Lo→Prop}(aS:P.funcs[f]? =some fn)(an:sE P fn=some e)(bd:args.length≤e.n)
  (hw:kB P e.code (Z9 e.res aK) (tY args) h):kl P f args h aK:=by
 unfold sE at an
 split at an
 ·cases an
 ·rename_i c aF
  split at an
  ·rename_i x rs R ae
   injection an with an;subst an
   intro L w xs a H
   refine calls_of_wp aS aF ?_
   refine wp_mono (Z3 c x R _ (tY args) h hw L w _ (Z8 a bd) rfl H) (fun e eK a2 u=> ?_)
   obtain⟨x,bR,aa,cZ,rfl,q,cU,h_,ma,sF,oj⟩:=u
   cases x with
   |exit=>exact q.elim
   |normal=>
    obtain⟨v,y,cF,cW,hW⟩:=Qc ma cU ae q
    exact⟨h_,y,cF,y,v,aa,cZ,rfl,hW,cW,ma,sF,oj⟩
   |ret=>
    obtain⟨v,y,cF,cW,hW⟩:=Qc ma cU ae q
    exact⟨h_,y,cF,y,v,aa,cZ,rfl,hW,cW,ma,sF,oj⟩
  ·cases an
abbrev aaa:=FuncId→Lv→Lo→OvL
def arj(F:aaa)(x:km)(t:Nat→V)(h:Lo):OvL:=match x with
 | .op ao=>cQ ao t h
 | .call f args=>F f (args.map (·.get t)) h
 | .ry mD args=>match mD.get t with
  | .fn f fz=>F f (args.map (·.get t)++fz) h
  |_=>none
 | .tU x=>match A3 h (x.get t) with
  |some [p]=>some p
  |_=>none
 | .bad=>none
def Qd(g:ga)(t:Nat→V)(h:Lo):Bool:=match g.dst with
 |some d=>match oh g t h with
  |some v=>V.beq v (t d)
  |none=>false
 |none=>false
def Em(rs:List jg)(t:Nat→V)(h:Lo):Option V:=match fK (jg.aB t h) rs with
 |none=>none
 |some [v]=>some v
 |some ak=>some (.bW ak)
theorem Qe{rs:List jg}{t:Nat→V}{h:Lo}{v:V}(e:Em rs t h=some v){K:V→Prop}(k:K v):Bs rs t h K:=by
 unfold Em at e
 unfold Bs
 cases hm:fK (jg.aB t h) rs with
 |none=>rw[hm] at e;cases e
 |some ak=>
  rw[hm] at e
  match ak,e with
  | [],e=>injection e with e;subst e;exact k
  | [u],e=>injection e with e;subst e;exact k
  |u::nI::us,e=>injection e with e;subst e;exact k
def mF:Loc:=⟨fun _=>none,0⟩
theorem sG(b:Nat):¬Own mF b:=fun⟨_,_,h⟩=>by cases h
theorem Qf(w:World):cw mF [] w:=⟨rfl,(fun id fJ h=>by simp at h),(fun id p h=>by cases h),(fun id b fu s h=>by cases h),(fun i o b p q h=>by cases h),(fun id es az n h=>by simp at h)⟩
def En(P:Program)(t:TypeId):Bool:=match P.underlying t with
 |some (.struct _)|some (.array _ _)=>true
 |_=>false
def elemV(P:Program)(e:TypeId)(cs:Lv):V:=match En P e,cs with
 |false,[c]=>c
 |_,cs=> .agg cs
variable {H:Type}
mutual
def e3(P:Program):DataW H→TypeId→Option (Lv)
 | .lit l,t=>match P.underlying t,l with
  |some .bool, .bool b=>some [.bool b]
  |some (.int gu), .int k n=>if k=gu∧(Lit.int k n).wf=true then some [.int k n] else none
  |some .string, .string s=>if s.length≤maxLen then some [.str s] else none
  |_,_=>none
 | .nil,t=>match P.underlying t with
  |some (.pointer _)=>some [.ki]
  |some (.slice _)=>some [.ab]
  |some (.map _ _)=>some [.kv]
  |_=>none
 | .ptr d,t=>match P.underlying t with
  |some (.pointer e)=>if 0<P.cellsOf e then(match e3 P d e with|some cs=>some [.ref (elemV P e cs) 0]|none=>none) else none
  |_=>none
 | .slice elems _,t=>match P.underlying t with
  |some (.slice e)=>if 0<P.cellsOf e∧elems.length≤maxLen then(match om P elems e with|some es=>some [.cx es]|none=>none) else none
  |_=>none
 | .agg parts,t=>match P.underlying t with
  |some (.struct cc)=>kX P parts cc.toList 0 (P.cellsOf t)
  |some (.array n e)=>if n*P.cellsOf e=P.cellsOf t then vU P parts e else none
  |_=>none
 |_,_=>none
def om(P:Program):List (DataW H)→TypeId→Option (Lv)
 | [],_=>some []
 |d::aM,e=>match e3 P d e,om P aM e with
  |some cs,some es=>some (elemV P e cs::es)
  |_,_=>none
def kX(P:Program):List (DataW H)→List Field→Nat→Nat→Option (Lv)
 | [],[],ao,gD=>if ao=gD then some [] else none
 |d::aM,f::cc,ao,gD=>if f.offset=ao then(match e3 P d f.type,kX P aM cc (ao+P.cellsOf f.type) gD with
   |some a,some b=>some (a++b)
   |_,_=>none) else none
 |_,_,_,_=>none
def vU(P:Program):List (DataW H)→TypeId→Option (Lv)
 | [],_=>some []
 |d::aM,e=>match e3 P d e,vU P aM e with
  |some a,some b=>some (a++b)
  |_,_=>none
end
structure ll(w:World)(ak:Lv)(cs:List Value):Prop where
 len:ak.length=cs.length
 a8:∀v,v∈ak→v.scalar=true
 rep:∀(k:Nat) v x,ak[k]? =some v→cs[k]? =some x→bM mF w v x
theorem ll.nil{w:World}:ll w [] []:=⟨rfl,fun _ h=>by simp at h,fun k v x h=>by simp at h⟩
theorem ll.one{w:World}{v:V}{x:Value}(h:bM mF w v x)(s:v.scalar=true):ll w [v] [x]:=
 ⟨rfl,fun u hu=>by simp at hu;subst hu;exact s,fun k u y R ae=>by
  cases k with
  |zero=>simp at R ae;subst R;subst ae;exact h
  |succ k=>simp at R⟩
theorem ll.append{w:World}{ak us:Lv}{cs aM:List Value}(h:ll w ak cs)(g:ll w us aM):ll w (ak++us) (cs++aM):=
 ⟨by simp[h.len,g.len],fun v bg=>(List.mem_append.1 bg).elim (h.a8 v) (g.a8 v),fun k v x R ae=>by
  rw[List.getElem?_append] at R ae
  rw[h.len] at R
  split at R
  ·rename_i q;rw[if_pos q] at ae;exact h.rep k v x R ae
  ·rename_i q;rw[if_neg q] at ae;exact g.rep _ v x R ae⟩
theorem Qg{P:Program}{e:TypeId}{cs:Lv}(a8:∀v,v∈cs→v.scalar=true):(elemV P e cs).cells=cs:=by
 unfold elemV
 split
 ·rename_i c _
  have:=a8 c (by simp)
  cases c<;>first|rfl|(simp[V.scalar] at this)
 ·rfl
theorem KF{w:World}{a:Addr}{n:Nat}{cs:List Value}(h:w.cells? 0 a n=some cs)(bd:0<n):a.spot=none∧a.block<w.heap.size∧cs.length=n∧∀o,o<n→w.cell? ⟨a.block,a.off+o,none⟩=cs[o]? :=by
 obtain⟨_,ax,an⟩:=World.cells?_some h
 have aF:=World.cells?_block h bd
 have a6:a.spot=none:=by
  have aI:=an 0 bd
  rw[List.getElem?_eq_getElem (by omega)] at aI
  cases a6:a.spot with
  |none=>rfl
  |some s=>
   unfold World.cell? at aI
   simp[Addr.add,a6] at aI
   split at aI<;>simp at aI
 refine⟨a6,aF,ax,fun o U=> ?_⟩
 have:=an o U
 rw[←this]
 obtain⟨b,ao,s⟩:=a
 simp only at a6;subst a6
 rw[tH]
theorem aab{w:World}{P:Program}{e:TypeId}{a:Addr}{cs:List Value}{ak:Lv}(h:w.cells? 0 a (P.cellsOf e)=some cs)(bd:0<P.cellsOf e)(c:ll w ak cs):bM mF w (.ref (elemV P e ak) 0) (.pointer (some a)):=by
 obtain⟨R,ae,aQ,bo⟩:=KF h bd
 obtain⟨b,ao,s⟩:=a
 simp only at R;subst R
 have Qh:=Qg (P:=P) (e:=e) c.a8
 refine bM.ref (ao:=ao) (o:=0) (fun k=>cs.getD k undef) (sG b) ae (fun k v aH=> ?_) (fun k v aH=> ?_)
 ·rw[Qh] at aH
  have su:=(List.getElem?_eq_some_iff.1 aH).1
  rw[c.len] at su
  rw[bo k (by omega),List.getD_eq_getElem?_getD,List.getElem?_eq_getElem su];rfl
 ·rw[Qh] at aH
  have su:=(List.getElem?_eq_some_iff.1 aH).1
  rw[c.len] at su
  refine c.rep k v _ aH ?_
  rw[List.getD_eq_getElem?_getD,List.getElem?_eq_getElem su];rfl
theorem x7{α β:Type}{f:α→Option β}:∀{l:List α} {r:List β},l.mapM f=some r→(l=[]∧r=[])∨∃x xs y a_,l=x::xs∧r=y::a_∧f x=some y∧xs.mapM f=some a_
 | [],r,h=>by simp at h;exact .inl ⟨rfl,h⟩
 |x::xs,r,h=>by
  rw[List.mapM_cons] at h
  cases au:f x with
  |none=>simp[au] at h
  |some y=>
   cases nb:xs.mapM f with
   |none=>simp[au,nb] at h
   |some a_=>simp[au,nb] at h;exact .inr ⟨x,xs,y,a_,rfl,h.symm,au,nb⟩
section
variable {enc:TypeId × Value→H} {P:Program} {w:World} {sp:Nat→Bool} {held:Bool}
def KG(enc:TypeId × Value→H)(P:Program)(w:World)(sp:Nat→Bool)(held:Bool)(fuel:Nat):Prop:=
 ∀(t:TypeId) (cs:List Value) (d:DataW H) (ah:List MemPlace) (ak:Lv),DataW.trod enc P w 0 sp held fuel t cs=some (d,ah)→e3 P d t=some ak→ll w ak cs
theorem Qi:∀(aM:List (DataW H)) (cc:List Field) (ao gD:Nat) (us:Lv),kX P aM cc ao gD=some us→ao≤gD∧∀f,f∈cc→f.offset+P.cellsOf f.type≤gD
 | [],[],ao,gD,us,h=>by
  simp only[kX] at h
  split at h
  ·rename_i q;exact⟨by omega,fun f aS=>by simp at aS⟩
  ·cases h
 | [],_::_,ao,gD,us,h=>by simp[kX] at h
 |_::_,[],ao,gD,us,h=>by simp[kX] at h
 |d::aM,f::cc,ao,gD,us,h=>by
  simp only[kX] at h
  split at h
  ·rename_i cj
   split at h
   ·rename_i a b bh aF
    obtain⟨aX,aY⟩:=Qi aM cc _ gD b aF
    refine⟨by omega,fun g dt=> ?_⟩
    rcases List.mem_cons.1 dt with q|q
    ·subst q;omega
    ·exact aY g q
   ·cases h
  ·cases h
theorem Qj{fuel:Nat}(ba:KG enc P w sp held fuel)(cs:List Value):∀(cc:List Field) (ao:Nat) (xs:List (DataW H × List MemPlace)) (us:Lv),
  (cc.mapM fun f=>DataW.trod enc P w 0 sp held fuel f.type ((cs.drop f.offset).take (P.cellsOf f.type)))=some xs→kX P (xs.map (·.1)) cc ao cs.length=some us→ll w us (cs.drop ao)
 | [],ao,xs,us,h,bg=>by
  simp at h;subst h
  simp only[List.map_nil,kX] at bg
  split at bg
  ·rename_i q
   injection bg with bg;subst bg
   rw[q,List.drop_length]
   exact ll.nil
  ·cases bg
 |f::cc,ao,xs,us,h,bg=>by
  have hle:=(Qi _ _ _ _ _ bg).2 f (by simp)
  rcases x7 h with⟨q,_⟩|⟨x,Bt,y,a_,aV,bb,cb,dI⟩
  ·cases q
  ·injection aV with aV o5;subst aV;subst o5;subst bb
   simp only[List.map_cons,kX] at bg
   split at bg
   ·rename_i cj
    split at bg
    ·rename_i a b bh aF
     injection bg with bg;subst bg
     have AU:=ba _ _ _ _ _ cb bh
     have eL:=Qj ba cs cc (ao+P.cellsOf f.type) a_ b dI aF
     have:cs.drop ao=(cs.drop f.offset).take (P.cellsOf f.type)++cs.drop (ao+P.cellsOf f.type):=by
      rw[cj,←List.drop_drop,List.take_append_drop]
     rw[this]
     exact AU.append eL
    ·cases bg
   ·cases bg
theorem Qk{fuel:Nat}(ba:KG enc P w sp held fuel)(cs:List Value)(e:TypeId):∀(n k:Nat) (xs:List (DataW H × List MemPlace)) (us:Lv),
  ((List.range' k n).mapM fun i=>DataW.trod enc P w 0 sp held fuel e ((cs.drop (i*P.cellsOf e)).take (P.cellsOf e)))=some xs→vU P (xs.map (·.1)) e=some us→
  (k+n)*P.cellsOf e≤cs.length→ll w us ((cs.drop (k*P.cellsOf e)).take (n*P.cellsOf e))
 |0,k,xs,us,h,bg,_=>by
  simp at h;subst h
  simp[vU] at bg;subst bg
  simpa using ll.nil
 |n+1,k,xs,us,h,bg,hle=>by
  rw[List.range'_succ] at h
  rcases x7 h with⟨q,_⟩|⟨x,Bt,y,a_,aV,bb,cb,dI⟩
  ·cases q
  ·injection aV with aV o5;subst aV;subst o5;subst bb
   simp only[List.map_cons,vU] at bg
   split at bg
   ·rename_i a b bh aF
    injection bg with bg;subst bg
    have AU:=ba _ _ _ _ _ cb bh
    have eL:=Qk ba cs e n (k+1) a_ b dI aF (by rw[show k+1+n=k+(n+1) by omega];exact hle)
    have:(cs.drop (k*P.cellsOf e)).take ((n+1)*P.cellsOf e)=(cs.drop (k*P.cellsOf e)).take (P.cellsOf e)++(cs.drop ((k+1)*P.cellsOf e)).take (n*P.cellsOf e):=by
     rw[show(n+1)*P.cellsOf e=P.cellsOf e+n*P.cellsOf e by rw[Nat.add_mul];omega,List.take_add,List.drop_drop,show k*P.cellsOf e+P.cellsOf e=(k+1)*P.cellsOf e by rw[Nat.add_mul];omega]
    rw[this]
    exact AU.append eL
   ·cases bg
theorem Ql{fuel:Nat}(ba:KG enc P w sp held fuel)(a:Addr)(e:TypeId)(bd:0<P.cellsOf e):∀(n k:Nat) (xs:List (DataW H × List MemPlace)) (es:Lv),
  ((List.range' k n).mapM fun i=>(w.cells? 0 (a.add (i*P.cellsOf e)) (P.cellsOf e)).bind (DataW.trod enc P w 0 sp held fuel e))=some xs→om P (xs.map (·.1)) e=some es→
  es.length=n∧∀(i:Nat) (v:V),es[i]? =some v→∃cs us,w.cells? 0 (a.add ((k+i)*P.cellsOf e)) (P.cellsOf e)=some cs∧v=elemV P e us∧ll w us cs
 |0,k,xs,es,h,bg=>by
  simp at h;subst h
  simp[om] at bg;subst bg
  exact⟨rfl,fun i v h=>by simp at h⟩
 |n+1,k,xs,es,h,bg=>by
  rw[List.range'_succ] at h
  rcases x7 h with⟨q,_⟩|⟨x,Bt,y,a_,aV,bb,cb,dI⟩
  ·cases q
  ·injection aV with aV o5;subst aV;subst o5;subst bb
   simp only[List.map_cons,om] at bg
   split at bg
   ·rename_i us mB bh aF
    injection bg with bg;subst bg
    obtain⟨aX,aY⟩:=Ql ba a e bd n (k+1) a_ mB dI aF
    refine⟨by simp[aX],fun i v aw=> ?_⟩
    cases i with
    |zero=>
     simp at aw;subst aw
     simp only[Option.bind_eq_some_iff] at cb
     obtain⟨cs,aE,aR⟩:=cb
     exact⟨cs,us,by simpa using aE,rfl,ba _ _ _ _ _ aR bh⟩
    |succ i=>
     simp at aw
     obtain⟨cs,aac,aE,aR,bE⟩:=aY i v aw
     exact⟨cs,aac,by rw[show k+(i+1)=k+1+i by omega];exact aE,aR,bE⟩
   ·cases bg
theorem aad{a:Addr}{e:TypeId}{len cap:Nat}{es:Lv}(bd:0<P.cellsOf e)(jq:len≤cap)(ax:es.length=len)
  (h:∀(i:Nat) (v:V),es[i]? =some v→∃cs us,w.cells? 0 (a.add ((0+i)*P.cellsOf e)) (P.cellsOf e)=some cs∧v=elemV P e us∧ll w us cs):bM mF w (.cx es) (.slice (some a) len cap):=by
 cases es with
 |nil=>simp at ax;subst ax;exact .oU a cap
 |cons v0 gv=>
  obtain⟨ark,arl,hV,hN,lQ⟩:=h 0 v0 rfl
  have o6:=KF hV bd
  obtain⟨b,ao,s⟩:=a
  have a6:s=none:=by have:=o6.1;simpa [Addr.add] using this
  subst a6
  have aF:b<w.heap.size:=by have:=o6.2.1;simpa [Addr.add] using this
  subst ax
  have key:∀(i:Nat) (v:V),(v0::gv)[i]? =some v→∃cs us,ll w us cs∧v.cells=us∧cs.length=P.cellsOf e∧∀o,o<P.cellsOf e→w.cell? ⟨b,ao+i*P.cellsOf e+o,none⟩=cs[o]? :=by
   intro i v aw
   obtain⟨cs,us,aE,aR,bE⟩:=h i v aw
   obtain⟨cF,cW,hW,qF⟩:=KF aE bd
   refine⟨cs,us,bE,by rw[aR];exact Qg bE.a8,hW,fun o U=> ?_⟩
   have:=qF o U
   rw[Nat.zero_add,tH] at this
   exact this
  refine bM.cx (az:=P.cellsOf e) (fun i o=>(w.cell? ⟨b,ao+i*P.cellsOf e+o,none⟩).getD undef) (sG b) aF jq (fun i v aw=> ?_) (fun i o v c aw U=> ?_) (fun i o v c aw U=> ?_)
  ·obtain⟨cs,us,aE,aR,bE,bS⟩:=key i v aw
   exact⟨by rw[aR,aE.len,bE],by rw[aR];exact List.all_eq_true.2 aE.a8⟩
  ·obtain⟨cs,us,aE,aR,bE,bS⟩:=key i v aw
   rw[aR] at U
   have iX:=(List.getElem?_eq_some_iff.1 U).1
   rw[aE.len,bE] at iX
   rw[bS o iX,List.getElem?_eq_getElem (by omega)];rfl
  ·obtain⟨cs,us,aE,aR,bE,bS⟩:=key i v aw
   rw[aR] at U
   have iX:=(List.getElem?_eq_some_iff.1 U).1
   rw[aE.len,bE] at iX
   refine aE.rep o c _ U ?_
   show cs[o]? =some ((w.cell? ⟨b,ao+i*P.cellsOf e+o,none⟩).getD undef)
   rw[bS o iX,List.getElem?_eq_getElem (by omega)];rfl
end
theorem KH{enc:TypeId × Value→H}{P:Program}{w:World}{sp:Nat→Bool}{held:Bool}:∀(fuel:Nat) (t:TypeId) (cs:List Value) (d:DataW H) (ah:List MemPlace) (ak:Lv),
  DataW.trod enc P w 0 sp held fuel t cs=some (d,ah)→e3 P d t=some ak→ll w ak cs:=by
 intro fuel
 induction fuel with
 |zero=>intro t cs d ah ak h;cases h
 |succ fuel ba=>
  intro t cs d ah ak h bg
  simp only[DataW.trod] at h
  split at h
  ·rename_i hu
   injection h with h;injection h with R ae;subst R
   simp only[e3,hu] at bg
   injection bg with bg;subst bg
   exact .one (.bool _) rfl
  ·rename_i k gu n hu
   split at h
   ·rename_i bm
    injection h with h;injection h with R ae;subst R
    simp only[e3,hu] at bg
    split at bg
    ·injection bg with bg;subst bg
     rw[bm.1]
     exact .one (.int _ _) rfl
    ·cases bg
   ·cases h
  ·rename_i k gu n hu
   split at h
   ·injection h with h;injection h with R ae;subst R
    simp only[e3,hu] at bg
    cases bg
   ·cases h
  ·rename_i s hu
   split at h
   ·injection h with h;injection h with R ae;subst R
    simp only[e3,hu] at bg
    split at bg
    ·injection bg with bg;subst bg
     exact .one (.str s.data.toList) rfl
    ·cases bg
   ·cases h
  ·rename_i e hu
   injection h with h;injection h with R ae;subst R
   simp only[e3,hu] at bg
   injection bg with bg;subst bg
   exact .one .ki rfl
  ·rename_i e a hu
   simp only[Option.map_eq_some_iff,Option.bind_eq_some_iff] at h
   obtain⟨x,⟨oZ,R,ae⟩,aQ⟩:=h
   injection aQ with aQ bo;subst aQ
   simp only[e3,hu] at bg
   split at bg
   ·rename_i bd
    split at bg
    ·rename_i us bj
     injection bg with bg;subst bg
     exact .one (aab R bd (ba e oZ x.1 x.2 us ae bj)) rfl
    ·cases bg
   ·cases bg
  ·rename_i e hu
   injection h with h;injection h with R ae;subst R
   simp only[e3,hu] at bg
   injection bg with bg;subst bg
   exact .one .ab rfl
  ·rename_i e a len cap hu
   split at h
   ·rename_i an
    simp only[Option.bind_eq_some_iff,Option.map_eq_some_iff] at h
    obtain⟨elems,R,rest,ae,aQ⟩:=h
    injection aQ with aQ bo;subst aQ
    simp only[e3,hu] at bg
    split at bg
    ·rename_i bd
     split at bg
     ·rename_i es bj
      injection bg with bg;subst bg
      rw[List.range_eq_range'] at R
      obtain⟨aX,aY⟩:=Ql ba a e bd.1 len 0 elems es R bj
      exact .one (aad bd.1 an.2.1 aX aY) rfl
     ·cases bg
    ·cases bg
   ·cases h
  ·rename_i cs cp KI cc hu
   split at h
   ·rename_i ax
    simp only[Option.map_eq_some_iff] at h
    obtain⟨xs,R,ae⟩:=h
    injection ae with ae aQ;subst ae
    simp only[e3,hu] at bg
    rw[←ax] at bg
    simpa using Qj ba cs cc.toList 0 xs ak R bg
   ·cases h
  ·rename_i cs cp KI n e hu
   split at h
   ·rename_i ax
    simp only[Option.map_eq_some_iff] at h
    obtain⟨xs,R,ae⟩:=h
    injection ae with ae aQ;subst ae
    simp only[e3,hu] at bg
    split at bg
    ·rename_i bd
     rw[List.range_eq_range'] at R
     have:=Qk ba cs e n 0 xs ak R bg (by rw[Nat.zero_add,bd,ax];exact Nat.le_refl _)
     rw[Nat.zero_mul,List.drop_zero,bd,←ax,List.take_length] at this
     exact this
    ·cases bg
   ·cases h
  ·rename_i hu
   injection h with h;injection h with R ae;subst R
   simp[e3,hu] at bg
  ·rename_i hu
   split at h
   ·injection h with h;injection h with R ae;subst R
    simp[e3] at bg
   ·simp only[Option.map_eq_some_iff] at h
    obtain⟨x,R,ae⟩:=h
    injection ae with ae aQ;subst ae
    simp[e3] at bg
   ·cases h
  ·rename_i hu
   injection h with h;injection h with R ae;subst R
   simp only[e3,hu] at bg
   injection bg with bg;subst bg
   exact .one .kv rfl
  ·rename_i hu
   split at h
   ·split at h
    ·simp only[Option.bind_eq_some_iff] at h
     obtain⟨x,R,ae⟩:=h
     split at ae
     ·injection ae with ae;injection ae with ae aQ;subst ae
      simp[e3] at bg
     ·cases ae
    ·cases h
   ·cases h
  all_goals first
   |(injection h with h;injection h with R ae;subst R;simp only[e3] at bg;split at bg<;>simp_all;done)
   |(split at h<;>first|(cases h;done)|(injection h with h;injection h with R ae;subst R;simp[e3] at bg;done))
   |(cases h;done)
   |trace_state
end Go.Proofs.YtjpjeilfmjdhcaaGreat.E
namespace Go.Proofs.YtjpjeilfmjdhcaaGreat.E
open Go.RowKit
theorem aae{w a2:World}(f:Fr (Own mF) w a2):Below w.heap.size w a2:=⟨f.os,f.tape,f.output,f.size,fun k aH=>f.block k aH (sG k)⟩
theorem aaf{P:Program}{f:FuncId}{args:Lv}{xs:Array Value}{w:World}{aK:V→Lo→Prop}(c:kl P f args [] aK)(a:lO mF w args xs):
  Calls P f xs w fun e a2=>∃x v aa cZ,e= .returned x∧aK v aa∧bM cZ a2 v x∧cw cZ aa a2∧Below w.heap.size w a2:=
 (c mF w xs a (Qf w)).mono fun e a2 ⟨x,v,aa,cZ,R,ae,aQ,bo,bI,cR⟩=>⟨x,v,aa,cZ,R,ae,aQ,bo,aae bI⟩
theorem aag{P:Program}{f:FuncId}{args:Lv}{xs:Array Value}{w:World}{b:Bool}(c:kl P f args [] fun v _=>v= .bool b)(a:lO mF w args xs):
  Calls P f xs w fun e a2=>e= .returned (.bool b)∧Below w.heap.size w a2:=
 (aaf c a).mono fun e a2 ⟨x,v,aa,cZ,R,ae,aQ,bo,bI⟩=>⟨by subst ae;cases aQ;exact R,bI⟩
theorem lO.nil{L:Loc}{w:World}:lO L w [] #[]:=⟨rfl,fun k v h=>by simp at h⟩
theorem lO.cons{L:Loc}{w:World}{u:V}{us:Lv}{x:Value}{xs:List Value}(h:bM L w u x)(g:lO L w us xs.toArray):lO L w (u::us) (x::xs).toArray:=by
 refine⟨by have:=g.1;simp at this⊢;exact this,fun k v aH=> ?_⟩
 cases k with
 |zero=>simp at aH;subst aH;exact h
 |succ k=>
  simp at aH
  have:=g.2 k v aH
  simpa [Array.getD_eq_getD_getElem?] using this
theorem Qm{w:World}{ak:Lv}{xs:Array Value}(h:ll w ak xs.toList):bM mF w (.agg ak) (.agg xs):=
 .agg xs (by have:=h.len;simpa using this.symm) (fun k c aH=>by
  have ax:=(List.getElem?_eq_some_iff.1 aH).1
  rw[h.len] at ax
  have:xs[k]? =some xs[k]:=Array.getElem?_eq_getElem (by simpa using ax)
  rw[Array.getD_eq_getD_getElem?,this]
  exact h.rep k c _ aH (by simpa using this))
theorem aah{w:World}{v:V}{x:Value}(h:ll w [v] [x]):bM mF w v x:=h.rep 0 v x rfl rfl
def x8(P:Program)(S:List TypeId)(t:TypeId):Bool:=match P.underlying t with
 |some .bool|some (.int _)|some .string=>true
 |some (.pointer e)|some (.slice e)=>S.contains e&&decide (0<P.cellsOf e)
 |some (.struct cc)=>cc.toList.all (fun f=>S.contains f.type)&&Bu cc.toList 0
 |some (.array n e)=>S.contains e&&decide (n*P.cellsOf e=P.cellsOf t)
 |_=>false
where
 Bu:List Field→Nat→Bool
  | [],ao=>decide (ao=P.cellsOf t)
  |f::cc,ao=>decide (f.offset=ao)&&Bu cc (ao+P.cellsOf f.type)
variable {H:Type} {enc:TypeId × Value→H} {P:Program} {w:World} {sp:Nat→Bool} {held:Bool}
theorem Qn{fuel:Nat}{S:List TypeId}(ba:∀t cs d ah,S.contains t=true→DataW.trod enc P w 0 sp held fuel t cs=some (d,ah)→∃ak,e3 P d t=some ak){α:Type}(g:α→Option (List Value)){e:TypeId}(he:S.contains e=true):
  ∀(l:List α) (xs:List (DataW H × List MemPlace)),(l.mapM fun i=>(g i).bind (DataW.trod enc P w 0 sp held fuel e))=some xs→(∃es,om P (xs.map (·.1)) e=some es)∧∃es,vU P (xs.map (·.1)) e=some es
 |l,xs,h=>by
  induction l generalizing xs with
  |nil=>simp at h;subst h;exact⟨⟨[],rfl⟩,[],rfl⟩
  |cons a l Bp=>
   rcases x7 h with⟨q,_⟩|⟨x,Bt,y,a_,aV,bb,cb,dI⟩
   ·cases q
   ·injection aV with aV o5;subst aV;subst o5;subst bb
    simp only[Option.bind_eq_some_iff] at cb
    obtain⟨cs,_,aR⟩:=cb
    obtain⟨ak,bg⟩:=ba e cs y.1 y.2 he aR
    obtain⟨⟨es,aX⟩,mB,aY⟩:=Bp a_ dI
    simp only[List.map_cons,om,vU,bg,aX,aY]
    exact⟨⟨_,rfl⟩,_,rfl⟩
theorem Qo{fuel:Nat}{S:List TypeId}(ba:∀t cs d ah,S.contains t=true→DataW.trod enc P w 0 sp held fuel t cs=some (d,ah)→∃ak,e3 P d t=some ak)(t:TypeId)(cs:List Value):
  ∀(cc:List Field) (ao:Nat) (xs:List (DataW H × List MemPlace)),(cc.mapM fun f=>DataW.trod enc P w 0 sp held fuel f.type ((cs.drop f.offset).take (P.cellsOf f.type)))=some xs→
   (∀f,f∈cc→S.contains f.type=true)→x8.Bu P t cc ao=true→∃us,kX P (xs.map (·.1)) cc ao (P.cellsOf t)=some us
 | [],ao,xs,h,_,cj=>by
  simp at h;subst h
  simp only[x8.Bu,decide_eq_true_eq] at cj
  exact⟨[],by simp[kX,cj]⟩
 |f::cc,ao,xs,h,hP,cj=>by
  rcases x7 h with⟨q,_⟩|⟨x,Bt,y,a_,aV,bb,cb,dI⟩
  ·cases q
  ·injection aV with aV o5;subst aV;subst o5;subst bb
   simp only[x8.Bu,Bool.and_eq_true,decide_eq_true_eq] at cj
   obtain⟨ak,bg⟩:=ba f.type _ y.1 y.2 (hP f (by simp)) cb
   obtain⟨us,hu⟩:=Qo ba t cs cc _ a_ dI (fun g dt=>hP g (by simp[dt])) cj.2
   exact⟨ak++us,by simp only[List.map_cons,kX,cj.1,if_true,bg,hu]⟩
theorem KJ{S:List TypeId}(hP:S.all (x8 P S)=true):∀(fuel:Nat) (t:TypeId) (cs:List Value) (d:DataW H) (ah:List MemPlace),S.contains t=true→DataW.trod enc P w 0 sp held fuel t cs=some (d,ah)→∃ak,e3 P d t=some ak:=by
 intro fuel
 induction fuel with
 |zero=>intro t cs d ah _ h;cases h
 |succ fuel ba=>
  intro t cs d ah iV h
  have jf:x8 P S t=true:=List.all_eq_true.1 hP t (by simpa using iV)
  simp only[DataW.trod] at h
  unfold x8 at jf
  split at h
  ·rename_i hu
   injection h with h;injection h with R ae;subst R
   simp[e3,hu]
  ·rename_i k gu n hu
   split at h
   ·rename_i bm
    injection h with h;injection h with R ae;subst R
    simp[e3,hu,bm.2]
   ·cases h
  ·rename_i k gu n hu
   rw[hu] at jf;simp at jf
  ·rename_i s hu
   split at h
   ·rename_i bm
    injection h with h;injection h with R ae;subst R
    have:s.data.toList.length≤maxLen:=bm
    exact⟨_,by simp only[e3,hu];rw[if_pos this]⟩
   ·cases h
  ·rename_i e hu
   injection h with h;injection h with R ae;subst R
   simp[e3,hu]
  ·rename_i e a hu
   rw[hu] at jf
   simp only[Bool.and_eq_true,decide_eq_true_eq] at jf
   simp only[Option.map_eq_some_iff,Option.bind_eq_some_iff] at h
   obtain⟨x,⟨oZ,R,ae⟩,aQ⟩:=h
   injection aQ with aQ bo;subst aQ
   obtain⟨ak,bg⟩:=ba e oZ x.1 x.2 jf.1 ae
   simp[e3,hu,jf.2,bg]
  ·rename_i e hu
   injection h with h;injection h with R ae;subst R
   simp[e3,hu]
  ·rename_i e a len cap hu
   rw[hu] at jf
   simp only[Bool.and_eq_true,decide_eq_true_eq] at jf
   split at h
   ·rename_i bm
    simp only[Option.bind_eq_some_iff,Option.map_eq_some_iff] at h
    obtain⟨elems,R,rest,ae,aQ⟩:=h
    injection aQ with aQ bo;subst aQ
    obtain⟨⟨es,he⟩,_⟩:=Qn ba (fun i=>w.cells? 0 (a.add (i*P.cellsOf e)) (P.cellsOf e)) jf.1 _ _ R
    have ax:elems.length=len:=by
     have:∀(l:List Nat) (r:List (DataW H × List MemPlace)),(l.mapM fun i=>(w.cells? 0 (a.add (i*P.cellsOf e)) (P.cellsOf e)).bind (DataW.trod enc P w 0 sp held fuel e))=some r→r.length=l.length:=by
      intro l
      induction l with
      |nil=>intro r q;simp at q;simp[←q]
      |cons x l aai=>
       intro r q
       rcases x7 q with⟨q,_⟩|⟨iI,Bt,y,a_,aV,bb,cb,dI⟩
       ·cases q
       ·injection aV with aV o5;subst o5;subst bb
        simp[aai a_ dI]
     simpa using this _ _ R
    have hle:(elems.map (·.1)).length≤maxLen:=by rw[List.length_map,ax];omega
    exact⟨_,by simp only[e3,hu];rw[if_pos ⟨jf.2,hle⟩,he]⟩
   ·cases h
  ·rename_i cs cp KI cc hu
   rw[hu] at jf
   simp only[Bool.and_eq_true,List.all_eq_true] at jf
   split at h
   ·simp only[Option.map_eq_some_iff] at h
    obtain⟨xs,R,ae⟩:=h
    injection ae with ae aQ;subst ae
    obtain⟨us,vv⟩:=Qo ba t cs cc.toList 0 xs R jf.1 jf.2
    exact⟨us,by simp only[e3,hu];exact vv⟩
   ·cases h
  ·rename_i cs cp KI n e hu
   rw[hu] at jf
   simp only[Bool.and_eq_true,decide_eq_true_eq] at jf
   split at h
   ·simp only[Option.map_eq_some_iff] at h
    obtain⟨xs,R,ae⟩:=h
    injection ae with ae aQ;subst ae
    obtain⟨_,es,he⟩:=Qn ba (fun i=>some ((cs.drop (i*P.cellsOf e)).take (P.cellsOf e))) jf.1 _ xs (by simpa using R)
    exact⟨es,by simp only[e3,hu,jf.2,if_true];exact he⟩
   ·cases h
  all_goals first
   |(rename_i hu;rw[hu] at jf;simp at jf;done)
   |(cases h;done)
theorem x9{d:DataW H}{t:TypeId}{ak:Lv}(hu:P.underlying t=some .bool)(h:e3 P d t=some ak):∃b,ak=[.bool b]:=by
 cases d<;>simp[e3,hu] at h
 rename_i l
 cases l<;>simp at h
 exact⟨_,h.symm⟩
theorem aaj{d:DataW H}{t:TypeId}{k:IntKind}{ak:Lv}(hu:P.underlying t=some (.int k))(h:e3 P d t=some ak):∃n,ak=[.int k n]∧k.min≤n∧n≤k.max:=by
 cases d<;>simp[e3,hu] at h
 rename_i l
 cases l<;>simp at h
 obtain⟨⟨rfl,R⟩,ae⟩:=h
 simp only[Lit.wf,Bool.and_eq_true,decide_eq_true_eq] at R
 exact⟨_,ae.symm,R⟩
theorem Eo{d:DataW H}{t:TypeId}{ak:Lv}(hu:P.underlying t=some .string)(h:e3 P d t=some ak):∃s,ak=[.str s]:=by
 cases d<;>simp[e3,hu] at h
 rename_i l
 cases l<;>simp at h
 exact⟨_,h.2.symm⟩
theorem Qp:∀{aM:List (DataW H)} {e:TypeId} {es:Lv},om P aM e=some es→es.length=aM.length
 | [],e,es,h=>by simp[om] at h;subst h;rfl
 |d::aM,e,es,h=>by
  simp only[om] at h
  split at h
  ·rename_i cs mB R ae
   injection h with h;subst h
   simp[Qp ae]
  ·cases h
theorem aak{d:DataW H}{t e:TypeId}{ak:Lv}(hu:P.underlying t=some (.slice e))(h:e3 P d t=some ak):ak=[.ab]∨∃elems sp es,d= .slice elems sp∧om P elems e=some es∧ak=[.cx es]:=by
 cases d<;>simp[e3,hu] at h
 ·exact .inl h.symm
 ·rename_i elems sp
  obtain⟨R,ae⟩:=h
  split at ae
  ·rename_i es he
   injection ae with ae
   exact .inr ⟨elems,sp,es,rfl,he,ae.symm⟩
  ·cases ae
theorem sH{d:DataW H}{t:TypeId}{cc:Array Field}{ak:Lv}(hu:P.underlying t=some (.struct cc))(h:e3 P d t=some ak):∃ah,d= .agg ah∧kX P ah cc.toList 0 (P.cellsOf t)=some ak:=by
 cases d<;>simp[e3,hu] at h
 exact⟨_,rfl,h⟩
theorem g6{ah:List (DataW H)}{f:Field}{cc:List Field}{ao gD:Nat}{ak:Lv}(h:kX P ah (f::cc) ao gD=some ak):∃d aM a b,ah=d::aM∧e3 P d f.type=some a∧kX P aM cc (ao+P.cellsOf f.type) gD=some b∧ak=a++b:=by
 cases ah with
 |nil=>simp[kX] at h
 |cons d aM=>
  simp only[kX] at h
  split at h
  ·split at h
   ·rename_i a b bh aF
    injection h with h
    exact⟨d,aM,a,b,rfl,bh,aF,h.symm⟩
   ·cases h
  ·cases h
theorem sI{ah:List (DataW H)}{ao gD:Nat}{ak:Lv}(h:kX P ah [] ao gD=some ak):ah=[]∧ak=[]:=by
 cases ah with
 |nil=>
  simp only[kX] at h
  split at h
  ·injection h with h;exact⟨rfl,h.symm⟩
  ·cases h
 |cons=>simp[kX] at h
end Go.Proofs.YtjpjeilfmjdhcaaGreat.E
namespace Go.Proofs.YtjpjeilfmjdhcaaGreat.E
mutual
def ff:V→Bool
 | .int .. | .bool _| .str _| .ki| .ab| .hS| .kv| .lF=>true
 | .ref e _=>ff e
 | .cx es=>ln es
 | .fn _ cs=>ln cs
 | .agg cs=>ln cs
 | .bW cs=>ln cs
 |_=>false
def ln:Lv→Bool
 | []=>true
 |v::ak=>ff v&&ln ak
end
mutual
def bare:V→Bool
 | .int .. | .bool _| .str _| .ki| .ab| .hS| .kv| .lF=>true
 | .agg cs=>x_ cs
 | .bW cs=>x_ cs
 |_=>false
def x_:Lv→Bool
 | []=>true
 |v::ak=>bare v&&x_ ak
end
theorem pY:∀{ak:Lv} {k:Nat} {v:V},ln ak=true→ak[k]? =some v→ff v=true
 | [],k,v,_,h=>by simp at h
 |u::us,0,v,h,aH=>by simp[ln] at h aH;subst aH;exact h.1
 |u::us,k+1,v,h,aH=>by simp[ln] at h aH;exact pY h.2 aH
theorem Ep:∀{ak:Lv} {k:Nat} {v:V},x_ ak=true→ak[k]? =some v→bare v=true
 | [],k,v,_,h=>by simp at h
 |u::us,0,v,h,aH=>by simp[x_] at h aH;subst aH;exact h.1
 |u::us,k+1,v,h,aH=>by simp[x_] at h aH;exact Ep h.2 aH
theorem Er{e:V}(h:ff e=true){k:Nat}{c:V}(aH:e.cells[k]? =some c):ff c=true:=by
 cases e<;>first
  |(simp only[V.cells] at aH;exact pY (by simpa [ff] using h) aH)
  |(simp only[V.cells] at aH;cases k<;>simp at aH<;>subst aH<;>exact h)
theorem aal{L:Loc}{w:World}{v:V}{x:Value}(r:bM L w v x):ff v=true→bM mF w v x:=by
 induction r with
 |int k n=>exact fun _=> .int k n
 |bool b=>exact fun _=> .bool b
 |str l=>exact fun _=> .str l
 |ki=>exact fun _=> .ki
 |ref f cj aF an bc ba=>exact fun h=> .ref f (sG _) aF an (fun k c aH=>ba k c aH (Er (by simpa [ff] using h) aH))
 |ab=>exact fun _=> .ab
 |cx f cj aF jq a6 an bc ba=>exact fun h=> .cx f (sG _) aF jq a6 an (fun i o e c R ae=>ba i o e c R ae (Er (pY (by simpa [ff] using h) R) ae))
 |oU a cap=>exact fun _=> .oU a cap
 |hS a=>exact fun _=> .hS a
 |kv=>exact fun _=> .kv
 |fn ak ax bc ba=>exact fun h=> .fn ak ax (fun k c aH=>ba k c aH (pY (by simpa [ff] using h) aH))
 |lF=>exact fun _=> .lF
 |agg ak ax bc ba=>exact fun h=> .agg ak ax (fun k c aH=>ba k c aH (pY (by simpa [ff] using h) aH))
 |bW ak ax bc ba=>exact fun h=> .bW ak ax (fun k c aH=>ba k c aH (pY (by simpa [ff] using h) aH))
 |_=>exact fun h=>by simp[ff] at h
theorem aam{L cZ:Loc}{w:World}{v:V}{x:Value}(r:bM L w v x):bare v=true→bM cZ w v x:=by
 induction r with
 |int k n=>exact fun _=> .int k n
 |bool b=>exact fun _=> .bool b
 |str l=>exact fun _=> .str l
 |ki=>exact fun _=> .ki
 |ab=>exact fun _=> .ab
 |hS a=>exact fun _=> .hS a
 |kv=>exact fun _=> .kv
 |lF=>exact fun _=> .lF
 |agg ak ax bc ba=>exact fun h=> .agg ak ax (fun k c aH=>ba k c aH (Ep (by simpa [bare] using h) aH))
 |bW ak ax bc ba=>exact fun h=> .bW ak ax (fun k c aH=>ba k c aH (Ep (by simpa [bare] using h) aH))
 |_=>exact fun h=>by simp[bare] at h
theorem cw.kept{L:Loc}{h:Lo}{w a2:World}(H:cw L h w)(cN:Fr (Own mF) w a2):cw L h a2:=by
 have nG:Fr (Own L) w a2:=cN.mono (fun b aF=>(sG b aF).elim)
 have aJ:∀b,b<w.heap.size→a2.heap[b]? =w.heap[b]? :=fun b aF=>cN.block b aF (sG b)
 exact⟨H.len,fun id fJ cj=>nE.step H nG (Ext.refl L w) (H.ik id fJ cj) rfl (fun b fu s aF=>aJ b (H.mem _ _ _ _ aF)),H.lt,fun id b fu s aF=>Nat.lt_of_lt_of_le (H.mem _ _ _ _ aF) cN.size,H.inj,fun id es az n au=>qp.step H nG (Ext.refl L w) (H.nF id es az n au) rfl (fun b fu s aF hw=>⟨aJ b (H.mem _ _ _ _ aF),hw⟩)⟩
structure arn where
 left:List Bool
 asked:List (Option V × Bool)
 deriving Inhabited
inductive aan where
 |nil
 |node (v:V) (l r:aan)
theorem oo{a b:Nat}:(a.beq b=true)↔a=b:=Nat.beq_eq▸Iff.rfl
theorem KK{a b:Nat}:(a.beq b=false)↔a≠b:=by rw[←Bool.not_eq_true];exact not_congr oo
def aao(x:bJ)(t:Nat→V)(h:Lo):OvL:=some (x.get t,h)
def aap(c:bJ)(a:bJ)(b:bJ)(t:Nat→V)(h:Lo):OvL:=match c.get t with
 | .bool q=>some (if q then a.get t else b.get t,h)
 |_=>none
def KL(arr:Bool)(z:V)(t:Nat→V)(h:Lo):OvL:=pQ arr h z
def Es(arr:Bool)(x:bJ)(t:Nat→V)(h:Lo):OvL:=pQ arr h (x.get t)
def Bv(z:Lv)(ah:List (Nat × Nat × bJ))(t:Nat→V)(h:Lo):OvL:=(je z (ah.map fun p=>(p.1,p.2.1,p.2.2.get t))).map fun cs=>(.agg cs,h)
def Qq(az:Nat)(z:V)(len:Nat)(ah:List (Nat × bJ))(t:Nat→V)(h:Lo):OvL:=A1 h az z len (ah.map fun p=>(p.1,p.2.get t))
def tZ(a:bJ)(t:Nat→V)(h:Lo):OvL:=(mA h (a.get t)).map fun v=>(v,h)
def vV(n:Nat)(a:bJ)(t:Nat→V)(h:Lo):OvL:=(dS h n (a.get t)).map fun v=>(v,h)
def Bw(n:Nat)(a:bJ)(x:bJ)(t:Nat→V)(h:Lo):OvL:=(pS h n (a.get t) (x.get t)).map fun aa=>(.bW [],aa)
def Qr(x:bJ)(t:Nat→V)(h:Lo):OvL:=(DW h (x.get t)).map fun v=>(v,h)
def Qs(op:BinOp)(x:bJ)(y:bJ)(t:Nat→V)(h:Lo):OvL:=(tL op (x.get t) (y.get t)).map fun v=>(v,h)
def Et(neg:Bool)(T:pM)(x:bJ)(y:bJ)(t:Nat→V)(h:Lo):OvL:=(sr h T (x.get t) (y.get t)).map fun b=>(.bool (if neg then !b else b),h)
def aaq(op:UnOp)(x:bJ)(t:Nat→V)(h:Lo):OvL:=(DV op (x.get t)).map fun v=>(v,h)
def aar(k:IntKind)(x:bJ)(t:Nat→V)(h:Lo):OvL:=match x.get t with
 | .int _ m=>some (.int k (k.wrap m),h)
 |_=>none
def Qt(x:bJ)(t:Nat→V)(h:Lo):OvL:=(xR h (x.get t)).map fun v=>(v,h)
def aas(f:FuncId)(fz:List bJ)(t:Nat→V)(h:Lo):OvL:=some (.fn f (fz.map (·.get t)),h)
def Eu(x:bJ)(et:Option bJ)(aw:Option bJ)(t:Nat→V)(h:Lo):OvL:=match x.get t with
 | .str l=>(vq l (et.map (·.get t)) (aw.map (·.get t))).map fun v=>(v,h)
 |_=>none
def vW(off:Nat)(x:bJ)(t:Nat→V)(h:Lo):OvL:=match x.get t with
 | .ptr id i o=>if lK h id then some (.ptr id i (o+off),h) else none
 | .ref e o=>some (.ref e (o+off),h)
 |_=>none
def rA(az:Nat)(x:bJ)(i:bJ)(t:Nat→V)(h:Lo):OvL:=match i.get t with
 | .int _ m=>(nJ h az (x.get t) m).map fun v=>(v,h)
 |_=>none
def Qu(x:bJ)(i:bJ)(t:Nat→V)(h:Lo):OvL:=match x.get t,i.get t with
 | .str l, .int _ m=>(AQ l m).map fun v=>(v,h)
 |_,_=>none
def Qv(i:Nat)(x:bJ)(t:Nat→V)(h:Lo):OvL:=(AR i (x.get t)).map fun v=>(v,h)
def aat(x:bJ)(t:Nat→V)(h:Lo):OvL:=match x.get t with
 | .str l=>some (.int .i64 l.length,h)
 |_=>none
def Qw(x:bJ)(t:Nat→V)(h:Lo):OvL:=(ss h (x.get t)).map fun(m:Nat)=>((.int .i64 m:V),h)
def Qx(az:Nat)(bytes:Nat)(x:bJ)(y:bJ)(t:Nat→V)(h:Lo):OvL:=(vt h az (y.get t)).bind fun es=>tM h az bytes (x.get t) es
def aau(jZ:Bool)(x:bJ)(y:bJ)(t:Nat→V)(h:Lo):OvL:=(xS jZ (x.get t) (y.get t)).map fun v=>(v,h)
def aav(x:bJ)(a_:List bJ)(t:Nat→V)(h:Lo):OvL:=(xT (x.get t) (a_.map (·.get t))).map fun v=>(v,h)
def aaw(f:FuncId)(fz:List bJ)(t:Nat→V)(h:Lo):OvL:=some (.eD f (fz.map (·.get t)),h)
def aax(x:bJ)(t:Nat→V)(h:Lo):OvL:=D0 h (x.get t)
def aay(x:bJ)(y:bJ)(t:Nat→V)(h:Lo):OvL:=match nL h (x.get t),nL h (y.get t) with
 |some l,some m=>some (.int .i64 (Lib.compareBytes l m),h)
 |_,_=>none
def Qy(x:bJ)(c:bJ)(t:Nat→V)(h:Lo):OvL:=match nL h (x.get t),c.get t with
 |some l, .int .u8 c=>some (.int .i64 (Lib.indexByte l c.toNat.toUInt8),h)
 |_,_=>none
def aaz(x:bJ)(c:bJ)(t:Nat→V)(h:Lo):OvL:=match nL h (x.get t),c.get t with
 |some l, .int .u8 c=>some (.int .i64 (Lib.countByte l c.toNat.toUInt8:Nat),h)
 |_,_=>none
def KM(x:bJ)(t:Nat→V)(h:Lo):OvL:=xV h (x.get t)
def e8(dg:fF)(t:Nat→V)(h:Lo):OvL:=
 match dg with
 | .rv df=>aao df t h
 | .pick df b5 cI=>aap df b5 cI t h
 | .alloc df b5=>KL df b5 t h
 | .box df b5=>Es df b5 t h
 | .build df b5=>Bv df b5 t h
 | .dN df b5 cI fo=>Qq df b5 cI fo t h
 | .ag df=>tZ df t h
 | .bp df b5=>vV df b5 t h
 | .store df b5 cI=>Bw df b5 cI t h
 | .bz df=>Qr df t h
 | .bin df b5 cI=>Qs df b5 cI t h
 | .eq df b5 cI fo=>Et df b5 cI fo t h
 | .un df b5=>aaq df b5 t h
 | .toInt df b5=>aar df b5 t h
 | .toStr df=>Qt df t h
 | .vA df b5=>aas df b5 t h
 | .kU df b5 cI=>Eu df b5 cI t h
 | .af df b5=>vW df b5 t h
 | .cH df b5 cI=>rA df b5 cI t h
 | .mC df b5=>Qu df b5 t h
 | .ext df b5=>Qv df b5 t h
 | .vB df=>aat df t h
 | .cm df=>Qw df t h
 | .app df b5 cI fo=>Qx df b5 cI fo t h
 | .tR df b5 cI=>aau df b5 cI t h
 | .vC df b5=>aav df b5 t h
 | .vD df b5=>aaw df b5 t h
 | .o1 df=>aax df t h
 | .vE df b5=>aay df b5 t h
 | .sw df b5=>Qy df b5 t h
 | .vF df b5=>aaz df b5 t h
 | .og df=>KM df t h
 |_=>none
theorem aaA(dg:fF)(t:Nat→V)(h:Lo):e8 dg t h=cQ dg t h:=by cases dg<;>rfl
def nD.beq:nD→nD→Bool
 | .row es s, .row mB eb=>V.qs es mB&&decide (s=eb)
 | .map e c, .map ct c0=>Qz e ct&&decide (c=c0)
 | .oa l p, .oa ho lR=>decide (l=ho)&&decide (p=lR)
 | .ob m s n p, .ob cC eb jI lR=>decide (m=cC)&&decide (s=eb)&&decide (n=jI)&&decide (p=lR)
 | .dead, .dead=>true
 |_,_=>false
where Qz:List (V × V × Nat)→List (V × V × Nat)→Bool
 | [],[]=>true
 |(a,b,c)::l,(eK,c2,c0)::ho=>V.beq a eK&&V.beq b c2&&decide (c=c0)&&Qz l ho
 |_,_=>false
def QA:Lo→Lo→Bool
 | [],[]=>true
 |a::l,b::ho=>nD.beq a b&&QA l ho
 |_,_=>false
def aaB(p q:V × Lo):Bool:=V.beq p.1 q.1&&QA p.2 q.2
def once:List (V × Lo)→List (V × Lo)→List (V × Lo)
 |acc,[]=>acc
 |acc,p::ah=>match acc.any (aaB p) with
  |true=>once acc ah
  |false=>once (acc++ [p]) ah
abbrev Ev:=FuncId→Lv→Lo→OvL
def sJ(P:Program)(sum:Ev):Prop:=∀f args h v aa,sum f args h=some (v,aa)→qz P f=true∧kl P f args h fun v2 ae=>v2=v∧ae=aa
theorem Ew{P:Program}{Q lo:ia}(bm:∀x t h,Q x t h→lo x t h):∀(l:List hr) (t:Nat→V) (h:Lo),gX P Q l t h→gX P lo l t h
 | [],t,h,w=>bm _ _ _ w
 |i::rest,t,h,w=>by
  simp only[gX] at w⊢
  split at w
  ·refine PQ (fun s _=>rfl) w (fun v aa g=> ?_)
   rw[x6] at g⊢
   exact⟨g.1,Ew bm rest _ _ g.2⟩
  ·rw[x6] at w⊢
   exact⟨w.1,Ew bm rest _ _ w.2⟩
  ·exact w.elim
theorem aaC{P:Program}:∀(c:js) (Q lo:ia) (t:Nat→V) (h:Lo),(∀x t h,Q x t h→lo x t h)→kB P c Q t h→kB P c lo t h:=by
 intro c
 induction c with
 |skip=>intro Q lo t h bm w;exact bm _ _ _ w
 |mc l=>intro Q lo t h bm w;exact Ew bm l t h w
 |draw ls=>intro Q lo t h bm w l ax;exact Ew bm l t h (w l ax)
 |seq a b sK vX=>
  intro Q lo t h bm w
  simp only[kB] at w⊢
  refine sK _ _ t h (fun x t h g=> ?_) w
  cases x with
  |normal=>exact vX _ _ _ _ bm g
  |exit o=>exact bm _ _ _ g
  |ret=>exact bm _ _ _ g
 |cond c a b sK vX=>
  intro Q lo t h bm w
  simp only[kB] at w⊢
  split at w
  ·exact sK _ _ _ _ bm w
  ·exact vX _ _ _ _ bm w
  ·exact w
 |block id a ba=>
  intro Q lo t h bm w
  simp only[kB] at w⊢
  refine ba _ _ t h (fun x t h g=> ?_) w
  cases x with
  |normal=>exact bm _ _ _ g
  |ret=>exact bm _ _ _ g
  |exit o=>
   simp only[D8] at g⊢
   split at g
   ·rename_i U;rw[if_pos U];exact bm _ _ _ g
   ·rename_i U;rw[if_neg U];exact bm _ _ _ g
 |loop a ba=>
  intro Q lo t h bm w
  simp only[kB] at w⊢
  obtain⟨av,aI,bc⟩:=w
  refine⟨av,aI,fun m t h aw=>ba _ _ t h (fun x t h g=> ?_) (bc m t h aw)⟩
  cases x with
  |normal=>exact g
  |exit o=>exact bm _ _ _ g
  |ret=>exact bm _ _ _ g
 |exit id=>intro Q lo t h bm w;exact bm _ _ _ w
 |ret=>intro Q lo t h bm w;exact bm _ _ _ w
theorem wrap_i64{n:Int}(R: -9223372036854775808≤n)(ae:n≤9223372036854775807):IntKind.i64.wrap n=n:=by
 simp only[IntKind.wrap,IntKind.signed,IntKind.bits,Bool.true_and,decide_eq_true_eq,ge_iff_le]
 have e:(2:Int)^64=18446744073709551616:=by decide
 have bb:(2:Int)^(64-1)=9223372036854775808:=by decide
 simp only[e,bb]
 split<;>omega
abbrev cy:=List (Nat × V)
def cy.get(t:Nat→V):cy→Nat→V
 | [],i=>t i
 |(d,v)::l,i=>match i.beq d with
  |true=>v
  |false=>cy.get t l i
def cy.set:cy→Nat→V→cy
 | [],d,v=> [(d,v)]
 |(g4,eg)::l,d,v=>match d.beq g4 with
  |true=>(d,v)::l
  |false=>(g4,eg)::cy.set l d v
def kY(l:cy)(dst:Option Nat)(v:V):cy:=match dst with
 |some d=>l.set d v
 |none=>l
def kZ(P:Program)(f:FuncId)(args:Lv)(h:Lo)(v:V)(aa:Lo):Prop:=qz P f=true∧kl P f args h fun v2 ae=>v2=v∧ae=aa
structure rB where
 left:List (V × Lo)
 cs:List Prop
def aaD(P:Program)(sum:Ev)(ask:Bool)(x:km)(t:Nat→V)(h:Lo)(a:rB):Option (V × Lo × rB):=match x with
 | .op e=>match ask with
  |true=>match a.left with
   |p::ah=>some (p.1,p.2,⟨ah,(cQ e t h=some p)::a.cs⟩)
   | []=>none
  |false=>match e8 e t h with
   |some p=>some (p.1,p.2,a)
   |none=>none
 | .call f args=>match ask with
  |true=>match a.left with
   |p::ah=>some (p.1,p.2,⟨ah,kZ P f (args.map (·.get t)) h p.1 p.2::a.cs⟩)
   | []=>none
  |false=>match sum f (args.map (·.get t)) h with
   |some p=>some (p.1,p.2,a)
   |none=>none
 | .ry mD args=>match mD.get t with
  | .fn f fz=>match ask with
   |true=>match a.left with
    |p::ah=>some (p.1,p.2,⟨ah,kZ P f (args.map (·.get t)++fz) h p.1 p.2::a.cs⟩)
    | []=>none
   |false=>match sum f (args.map (·.get t)++fz) h with
    |some p=>some (p.1,p.2,a)
    |none=>none
  |_=>none
 |_=>none
def asked(asks:List Nat)(dst:Option Nat):Bool:=match dst with
 |some d=>asks.any (Nat.beq d)
 |none=>asks.any (Nat.beq 9999)
def KN(P:Program)(sum:Ev)(asks:List Nat)(t:Nat→V):List hr→cy→Lo→rB→Option (cy × Lo × rB)
 | [],E,h,a=>some (E,h,a)
 |i::rest,E,h,a=>match kA (E.get t) i.guard with
  |some true=>match aaD P sum (asked asks i.dst) i.act (E.get t) h a with
   |some (v,aa,eK)=>match i.da.all fun g=>Qd g ((kY E i.dst v).get t) aa with
    |true=>KN P sum asks t rest (kY E i.dst v) aa eK
    |false=>none
   |none=>none
  |some false=>match i.da.all fun g=>Qd g ((kY E i.dst (.bW [])).get t) h with
   |true=>KN P sum asks t rest (kY E i.dst (.bW [])) h a
   |false=>none
  |none=>none
def QB(body:cy→Lo→rB→Option (cg × cy × Lo × rB)):Nat→cy→Lo→rB→Option (cg × cy × Lo × rB)
 |0,_,_,_=>none
 |k+1,E,h,a=>match body E h a with
  |some (.normal,gl,aa,eK)=>QB body k gl aa eK
  |r=>r
def ya(P:Program)(sum:Ev)(asks:List Nat)(j:Nat)(t:Nat→V):js→cy→Lo→rB→Option (cg × cy × Lo × rB)
 | .skip,E,h,a=>some (.normal,E,h,a)
 | .mc l,E,h,a=>match KN P sum asks t l E h a with
  |some (gl,aa,eK)=>some (.normal,gl,aa,eK)
  |none=>none
 | .draw _,_,_,_=>none
 | .seq x y,E,h,a=>match ya P sum asks j t x E h a with
  |some (.normal,gl,aa,eK)=>ya P sum asks j t y gl aa eK
  |r=>r
 | .cond c x y,E,h,a=>match c.get (E.get t) with
  | .bool true=>ya P sum asks j t x E h a
  | .bool false=>ya P sum asks j t y E h a
  |_=>none
 | .block id x,E,h,a=>match ya P sum asks j t x E h a with
  |some (.exit o,gl,aa,eK)=>if o=id then some (.normal,gl,aa,eK) else some (.exit o,gl,aa,eK)
  |r=>r
 | .loop x,E,h,a=>QB (ya P sum asks j t x) j E h a
 | .exit id,E,h,a=>some (.exit id,E,h,a)
 | .ret,E,h,a=>some (.ret,E,h,a)
theorem kZ.wp{P:Program}{f:FuncId}{args:Lv}{h aa:Lo}{v:V}(c:kZ P f args h v aa){K:V→Lo→Prop}(k:K v aa):kl P f args h K:=c.2.mono (fun v2 ae ⟨fD,bf⟩=>by subst fD;subst bf;exact k)
def kD(P:Program)(c:js)(t:Nat→V)(h:Lo)(x:cg)(bR:Nat→V)(aa:Lo):Prop:=∀Q:ia,Q x bR aa→kB P c Q t h
theorem kD.seq{P:Program}{a b:js}{t t1 t2:Nat→V}{h R ae:Lo}{x:cg}(r:kD P a t h .normal t1 R)(s:kD P b t1 R x t2 ae):kD P (.seq a b) t h x t2 ae:=
 fun Q q=>r _ (s Q q)
theorem kD.stop{P:Program}{a b:js}{t t1:Nat→V}{h R:Lo}{x:cg}(r:kD P a t h x t1 R)(au:x≠ .normal):kD P (.seq a b) t h x t1 R:=
 fun Q q=>r _ (by cases x with|normal=>exact absurd rfl au|exit o=>exact q|ret=>exact q)
def KO(id:Nat):cg→cg
 | .exit o=>if o=id then .normal else .exit o
 |x=>x
theorem kD.block{P:Program}{a:js}{id:Nat}{t t1:Nat→V}{h R:Lo}{x:cg}(r:kD P a t h x t1 R):kD P (.block id a) t h (KO id x) t1 R:=
 fun Q q=>r _ (by
  cases x with
  |normal=>exact q
  |ret=>exact q
  |exit o=>
   simp only[D8]
   simp only[KO] at q
   split
   ·rename_i U;rw[if_pos U] at q;exact q
   ·rename_i U;rw[if_neg U] at q;exact q)
theorem kD.round{P:Program}{a:js}{t t1 t2:Nat→V}{h R ae:Lo}{x:cg}(r:kD P a t h .normal t1 R)(s:kD P (.loop a) t1 R x t2 ae):kD P (.loop a) t h x t2 ae:=by
 intro Q q
 have w:=s Q q
 simp only[kB] at w⊢
 obtain⟨av,⟨m,hm⟩,bc⟩:=w
 refine⟨fun k bR aa=>av k bR aa∨(k=m+1∧bR=t∧aa=h),⟨m+1, .inr ⟨rfl,rfl,rfl⟩⟩, ?_⟩
 rintro k bR aa (aw|⟨rfl,rfl,rfl⟩)
 ·refine aaC _ _ _ _ _ (fun x t h g=> ?_) (bc k bR aa aw)
  cases x with
  |normal=>
   obtain⟨cC,aX,aY⟩:=g
   exact⟨cC,aX, .inl aY⟩
  |exit o=>exact g
  |ret=>exact g
 ·exact r _ ⟨m,Nat.lt_succ_self m, .inl hm⟩
theorem kD.last{P:Program}{a:js}{t t1:Nat→V}{h R:Lo}{x:cg}(r:kD P a t h x t1 R)(au:x≠ .normal):kD P (.loop a) t h x t1 R:=by
 intro Q q
 simp only[kB]
 refine⟨fun k bR aa=>bR=t∧aa=h,⟨0,rfl,rfl⟩, ?_⟩
 rintro m bR aa ⟨rfl,rfl⟩
 exact r _ (by cases x with|normal=>exact absurd rfl au|exit o=>exact q|ret=>exact q)
theorem kZ.aaE{P:Program}{f:FuncId}{fn:Func}{e:El}{args:Lv}{h aa:Lo}{x:cg}{bR:Nat→V}{v:V}(aS:P.funcs[f]? =some fn)(an:sE P fn=some e)(o3:qz P f=true)(bd:args.length≤e.n)
  (r:kD P e.code (tY args) h x bR aa) (au:x= .normal∨x= .ret) (bg:Em e.res bR aa=some v):kZ P f args h v aa:=by
 refine⟨o3,kl.Z_ aS an bd (r _ ?_)⟩
 rcases au with rfl|rfl
 ·exact Qe bg ⟨rfl,rfl⟩
 ·exact Qe bg ⟨rfl,rfl⟩
theorem aaF{h:Lo}{v:V}{es:Lv}(an:fe h 1 v=some es)(bg:∀l,v≠ .str l){k:Nat}{e:V}(he:es[k]? =some e)(a6:e.cells=[e]):
  ∃a,nJ h 1 v (k:Int)=some a∧mA h a=some e:=by
 unfold fe at an
 split at an
 ·injection an with an;subst an;simp at he
 ·injection an with an;subst an;simp at he
 ·split at an
  ·injection an with an;subst an
   refine⟨.ref e 0, ?_, ?_⟩
   ·simp[nJ,he,a6]
   ·simp[mA,lh,a6]
  ·cases an
 ·rename_i id off len
  split at an
  ·rename_i gv s dE
   split at an
   ·rename_i dw
    obtain⟨rfl,jX⟩:=dw
    injection an with an;subst an
    have aH:k<len∧gv[off+k]? =some e:=by
     rw[List.getElem?_take] at he
     split at he
     ·rename_i q
      rw[List.getElem?_drop] at he
      exact⟨q,he⟩
     ·cases he
    refine⟨.ptr id (off+k) 0, ?_, ?_⟩
    ·simp only[nJ,dE,Int.toNat_natCast]
     rw[if_pos ⟨Int.natCast_nonneg _,by omega⟩]
     rfl
    ·simp[mA,lh,dE,aH.2,a6]
   ·cases an
  ·cases an
 ·exact absurd rfl (bg _)
 ·cases an
theorem aaG{h:Lo}{v:V}{es:Lv}{az:Nat}(an:fe h az v=some es)(bg:∀l,v≠ .str l):ss h v=some es.length:=by
 unfold fe at an
 split at an
 ·injection an with an;subst an;rfl
 ·injection an with an;subst an;rfl
 ·split at an
  ·injection an with an;subst an;rfl
  ·cases an
 ·rename_i id off len
  split at an
  ·rename_i gv s dE
   split at an
   ·rename_i dw
    injection an with an;subst an
    have hlen:((gv.drop off).take len).length=len:=by simp only[List.length_take,List.length_drop];omega
    simp[ss,lK,dE,hlen]
   ·cases an
  ·cases an
 ·exact absurd rfl (bg _)
 ·cases an
end Go.Proofs.YtjpjeilfmjdhcaaGreat.E
