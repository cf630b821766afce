/- What is read is formed. No condition. -/
import Derived.Test.YtjpjeilfmjdhcaaGreatA26
import Derived.Test.YtjpjeilfmjdhcaaGreatA23
import Derived.Test.YtjpjeilfmjdhcaaGreatA21
import Derived.Test.YtjpjeilfmjdhcaaGreatA27
import Derived.Test.YtjpjeilfmjdhcaaGreatProg
import Derived.Test.YtjpjeilfmjdhcaaGreatA3
set_option maxRecDepth 100000
set_option linter.unusedVariables false
set_option linter.unusedSimpArgs false
set_option linter.unnecessarySimpa false
set_option linter.unusedSectionVars false
namespace Go.Proofs.YtjpjeilfmjdhcaaGreat.h3
open Go E ep eI fq fw fC f_ hE
def WG(w:br):Prop:=(w.k=1→wB w.s=true)∧(w.k=2→0≤w.n)
def iS(ws:List br):Prop:=∀w,w∈ws→WG w
theorem apw(n:Int):0≤IntKind.u64.wrap n:=by
 simp only[IntKind.wrap,IntKind.signed,IntKind.bits]
 first|exact Int.emod_nonneg _ (by decide)|(simp;omega)
theorem WH:∀(m:Nat) (n:Int) (t:Lu) (r:Int),0≤n→s4 m n t=some r→0≤r
 |0,n,t,r,h,e=>by simp[s4] at e;omega
 |m+1,n,t,r,h,e=>by
  simp only[s4] at e
  split at e
  ·injection e with e;omega
  ·split at e
   ·split at e
    ·cases e
    ·exact WH m _ _ r (apw _) e
   ·cases e
theorem apx{s:Lu}(h:(s5 s).2=true):0≤(s5 s).1:=by
 unfold s5 at h⊢
 split at h
 ·rename_i n bd
  simp only[Bool.and_eq_true,decide_eq_true_eq] at h
  have:=WH _ _ _ _ (Int.le_refl 0) bd
  rw[wrap_i64 (by omega) (by omega)]
  exact this
 ·cases h
theorem Jj{ok:Bool}{w:br}{ws:List br}{e:Int}(h:iS ws)(g:ok=true→WG w):iS (k1 ok w ws e).1:=by
 unfold k1
 cases ok with
 |false=>exact h
 |true=>
  simp only[Bool.true_eq_false,if_false]
  split
  ·exact h
  ·intro x au
   rcases List.mem_append.1 au with q|q
   ·exact h x q
   ·rw[List.mem_singleton.1 q];exact g rfl
theorem apy{r:Int}{t:Lu}{ws:List br}{e:Int}(h:iS ws):iS (lv r t ws e).2.1:=by
 unfold lv
 split
 ·split
  ·exact Jj h fun _=>⟨fun q=>by simp at q,fun q=>by simp at q⟩
  ·exact h
 ·split
  ·exact Jj h fun q=>⟨fun _=>q,fun z=>by simp at z⟩
  ·split
   ·exact Jj h fun q=>⟨fun z=>by simp at z,fun _=>apx q⟩
   ·exact Jj h fun _=>⟨fun q=>by simp at q,fun q=>by simp at q⟩
theorem apz{t:Lu}{eG:Nat}{dY:Bool}{ws:List br}(h:iS ws):iS (gG t eG dY ws).2.2.1:=by
 unfold gG
 split
 ·split<;>exact h
 ·split
  ·exact h
  ·split
   ·exact h
   ·split
    ·exact h
    ·split
     ·exact h
     ·exact apy h
theorem apA:∀(m:Nat) (t:Lu) (eG:Nat) (dY:Bool) (ws:List br) (e:Int) (y:List br) (ct:Int),iS ws→scan m t eG dY ws e=(some y,ct)→iS y:=by
 have fin:∀{ws:List br} {e:Int} {y:List br} {ct:Int},iS ws→ep.hL ws e=(some y,ct)→iS y:=by
  intro ws e y ct h q
  unfold ep.hL at q
  split at q
  ·simp only[Prod.mk.injEq,Option.some.injEq] at q;rw[←q.1];exact h
  ·simp at q
 intro m
 induction m with
 |zero=>intro t eG dY ws e y ct h q;exact fin h q
 |succ m ba=>
  intro t eG dY ws e y ct h q
  simp only[scan] at q
  split at q
  ·exact fin h q
  ·split at q
   ·simp at q
   ·exact ba _ _ _ _ _ _ _ (apz h) q
theorem apB:∀(m:Nat) (t:Lu) (eG:Nat) (dY:Bool) (ws:List br) (e ct:Int),scan m t eG dY ws e=(none,ct)→ct≠0:=by
 have fin:∀{ws:List br} {e ct:Int},hL ws e=(none,ct)→ct≠0:=by
  intro ws e ct q
  unfold ep.hL at q
  split at q
  ·simp at q
  ·simp only[Prod.mk.injEq,true_and] at q;rw[←q];assumption
 intro m
 induction m with
 |zero=>intro t eG dY ws e ct q;exact fin q
 |succ m ba=>
  intro t eG dY ws e ct q
  simp only[scan] at q
  split at q
  ·exact fin q
  ·split at q
   ·rename_i h;simp only[Prod.mk.injEq,true_and] at q;rw[←q];exact h
   ·exact ba _ _ _ _ _ _ q
theorem apC{s:Lu}{y:List br}{e:Int}(h:oG s=(some y,e)):iS y:=by
 unfold oG at h
 split at h
 ·simp at h
 ·exact apA _ _ _ _ _ _ _ _ (fun w hw=>by cases hw) h
def iT{α:Type}(m:fr α)(P:α→Prop):Prop:=∀s,(m s).2.e=0→s.e=0∧P (m s).1
variable {ws:List br}
theorem dM(t:Lu)(s:bB):(bA ws t s).2.e=s.e:=by
 unfold bA
 split
 ·split<;>rfl
 ·rfl
theorem apD(s:bB):(nZ s).e≠0:=by
 unfold nZ
 split
 ·simp
 ·assumption
theorem vb{s:bB}{p:Prop}(h:(nZ s).e=0):p:=absurd h (apD s)
theorem apE{s:bB}{t:Lu}(h:(wI ws s t).e=0):s.e=0:=by
 unfold wI at h
 split at h
 ·rwa[dM] at h
 ·exact vb h
theorem lf:∀(c_:List (Lu)) (s:bB),(fl ws c_ s).e=0→s.e=0
 | [],s,h=>h
 |t::c_,s,h=>apE (lf c_ _ h)
theorem AB{k:Int}{s:bB}{w:br}(h:hM ws k s=some w):s.e=0∧w∈ws∧w.k=k:=by
 unfold hM at h
 split at h
 ·rename_i he
  split at h
  ·rename_i a2 hw
   split at h
   ·rename_i aH
    injection h with h;subst h
    exact⟨he,List.mem_of_getElem? hw,aH⟩
   ·cases h
  ·cases h
 ·cases h
theorem n9(g:iS ws):iT (dB ws) (fun n=>fP n=true):=by
 intro s h
 unfold dB at h⊢
 split at h
 ·rename_i w hw
  obtain⟨R,ae,aQ⟩:=AB hw
  split at h
  ·exact vb h
  ·rename_i aH
   refine⟨R, ?_⟩
   simp only[aH,Bool.false_eq_true,if_false]
   unfold fP
   rw[(g w ae).1 aQ]
   simpa using aH
 ·exact vb h
theorem apF(g:iS ws):iT (wJ ws) (fun n=>0≤n):=by
 intro s h
 unfold wJ at h⊢
 split at h
 ·rename_i w hw
  obtain⟨R,ae,aQ⟩:=AB hw
  exact⟨R,(g w ae).2 aQ⟩
 ·exact vb h
theorem WI(of:Nat)(s:bB):(mm ws of s).2.e=s.e:=by
 unfold mm
 split
 ·split<;>rfl
 ·rfl
def rm{α:Type}(m:fr α):Prop:=∀s,(m s).2.e=0→s.e=0
theorem WJ{eL:fr X}(aF:rm eL)(of:Nat):∀(f:Nat) (x:X),rm (oI ws eL of f x)
 |0,x=>fun s h=>h
 |f+1,x=>fun s h=>by
  have q:=WI (ws:=ws) of s
  simp only[oI] at h
  split at h
  ·rename_i op s1 cj
   rw[cj] at q
   rw[←q]
   exact aF _ (WJ aF of f _ _ h)
  ·rename_i s1 cj
   rw[cj] at q
   rw[←q];exact h
theorem apG{eL:fr X}(aF:rm eL):rm (p7 ws eL):=by
 intro s h
 have q:=WI (ws:=ws) 3 (eL s).2
 unfold p7 at h
 split at h
 ·rename_i op s1 cj
  rw[cj] at q
  exact aF s (by rw[←q];exact aF _ h)
 ·rename_i s1 cj
  rw[cj] at q
  refine aF s ?_
  rw[←q]
  show s1.e=0
  split at h
  ·rwa[dM] at h
  ·split at h
   ·have:=lf _ _ h;rwa[dM,dM] at this
   ·have:=lf _ _ h;rwa[dM,dM] at this
theorem Oq:rm (dB ws):=by
 intro s h
 unfold dB at h
 split at h
 ·rename_i w hw
  exact(AB hw).1
 ·exact vb h
theorem apH:rm (po ws):=by
 intro s h
 simp only[po] at h
 split at h
 ·have:=Oq _ h;rw[dM] at this;exact Oq _ this
 ·rw[dM] at h;exact Oq _ h
theorem apI{eL:fr X}(aF:rm eL):rm (j_ ws eL):=by
 intro s h
 simp only[j_] at h
 split at h
 ·have:=aF _ (lf _ _ h);rwa[dM] at this
 ·split at h
  ·rename_i w hw
   have:=(AB hw).1;rwa[dM] at this
  ·split at h
   ·rename_i w hw
    have:=(AB hw).1;rwa[dM] at this
   ·split at h
    ·rwa[dM,dM] at h
    ·split at h
     ·rename_i w hw
      have:=(AB hw).1;rwa[dM,dM] at this
     ·have:=apH _ h;rwa[dM,dM] at this
theorem WK{eL:fr X}(aF:rm eL):∀f,rm (nr ws eL f)
 |0=>fun s h=>h
 |f+1=>fun s h=>by
  simp only[nr] at h
  split at h
  ·have:=WK aF f _ h;rwa[dM] at this
  ·have:=apI aF _ h;rwa[dM] at this
theorem AD:∀(f of:Nat),rm (ei ws f of)
 |0,of=>fun s h=>h
 |f+1,of=>fun s h=>by
  simp only[ei] at h
  split at h
  ·split at h
   ·have:=AD f 2 _ h;rwa[dM] at this
   ·have:=apG (AD f 4) _ h;rwa[dM] at this
  ·split at h
   ·exact WK (AD f 0) _ _ h
   ·exact AD f (of+1) _ (WJ (AD f (of+1)) of _ _ _ h)
theorem vc:iT (gg ws) (fun x=>gW x=true):=by
 intro s h
 simp only[gg] at h⊢
 split at h
 ·simp at h
 ·rename_i an
  rw[if_neg an]
  refine⟨AD _ _ _ h, ?_⟩
  unfold gW
  cases q:j9 8 (ei ws (10*ws.length+10) 0 s).1 with
  |true=>rfl
  |false=>exact absurd ⟨h,q⟩ an
theorem WL{α:Type}{m:fr α}{P:α→Prop}(hm:iT m P):∀(f:Nat) (acc:List α) (s:bB),(gn ws m f acc s).2.e=0→s.e=0∧(∀x,x∈(gn ws m f acc s).1→x∈acc∨P x)∧acc.length≤(gn ws m f acc s).1.length
 |0,acc,s,h=>⟨h,fun x au=> .inl au,Nat.le_refl _⟩
 |f+1,acc,s,h=>by
  simp only[gn] at h⊢
  split at h
  ·rename_i an
   rw[if_pos an]
   obtain⟨R,ae,aQ⟩:=WL hm f _ _ h
   obtain⟨bo,bI⟩:=hm _ R
   rw[dM] at bo
   refine⟨bo,fun x au=> ?_,by simp at aQ;omega⟩
   rcases ae x au with q|q
   ·rcases List.mem_append.1 q with q|q
    ·exact .inl q
    ·rw[List.mem_singleton.1 q];exact .inr bI
   ·exact .inr q
  ·rename_i an
   rw[if_neg an]
   rw[dM] at h
   exact⟨h,fun x au=> .inl au,Nat.le_refl _⟩
theorem AE{α:Type}{m:fr α}{P:α→Prop}(hm:iT m P):iT (k8 ws m) (fun l=>(∀x,x∈l→P x)∧0<l.length):=by
 intro s h
 simp only[k8] at h⊢
 obtain⟨R,ae,aQ⟩:=WL hm _ _ _ h
 obtain⟨bo,bI⟩:=hm _ R
 refine⟨bo,fun x au=> ?_,by simp at aQ;omega⟩
 rcases ae x au with q|q
 ·rw[List.mem_singleton.1 q];exact bI
 ·exact q
theorem Ot{α:Type}{m:fr α}{P:α→Prop}(hm:iT m P):iT (nv ws m) (fun l=>(∀x,x∈l→P x)∧0<l.length):=by
 intro s h
 simp only[nv] at h⊢
 obtain⟨R,ae⟩:=AE hm _ (lf _ _ h)
 exact⟨lf _ _ R,ae⟩
theorem apJ:iT (qU ws) (fun k=>k=1∨k=2):=by
 intro s h
 simp only[qU] at h⊢
 split at h
 ·rename_i an
  rw[if_pos an]
  rw[dM] at h
  exact⟨h, .inl rfl⟩
 ·rename_i an
  rw[if_neg an]
  split at h
  ·rename_i bj
   rw[if_pos bj]
   rw[dM,dM] at h
   exact⟨h, .inr rfl⟩
  ·exact vb h
theorem apK(g:iS ws):iT (s_ ws) (fun c=>pB c=true):=by
 intro s h
 simp only[s_] at h⊢
 rw[dM] at h
 have R:(qU ws (dB ws s).2).2.e=0:=by
  split at h
  ·have:=lf _ _ h;rwa[dM] at this
  ·rwa[dM] at h
 obtain⟨ae,aQ⟩:=apJ _ R
 obtain⟨bo,bI⟩:=n9 g _ ae
 refine⟨bo, ?_⟩
 simp only[pB,Bool.and_eq_true,bI,true_and]
 rcases aQ with q|q<;>rw[q]<;>rfl
theorem Ou:iT (nw ws) (fun l=>l.length≤1∧∀x,x∈l→gW x=true):=by
 intro s h
 simp only[nw] at h⊢
 split at h
 ·rename_i an
  rw[if_pos an]
  obtain⟨R,ae⟩:=vc _ h
  rw[dM] at R
  exact⟨R,Nat.le_refl _,fun x au=>by rw[List.mem_singleton.1 au];exact ae⟩
 ·rename_i an
  rw[if_neg an]
  rw[dM] at h
  exact⟨h,Nat.zero_le _,fun x au=>by cases au⟩
theorem WM(g:iS ws)(n:Lu):iT (k9 ws n) (fun m=>m=n∨fP m=true):=by
 intro s h
 simp only[k9] at h⊢
 split at h
 ·rename_i an
  rw[if_pos an]
  obtain⟨R,ae⟩:=n9 g _ h
  rw[dM] at R
  exact⟨R, .inr ae⟩
 ·rename_i an
  rw[if_neg an]
  rw[dM] at h
  exact⟨h, .inl rfl⟩
theorem WN(g:iS ws):iT (kK ws) (fun r=>fP r.t=true∧fP r.n=true∧r.on=nq):=by
 intro s h
 simp only[kK] at h⊢
 obtain⟨R,ae⟩:=WM g _ _ h
 obtain⟨aQ,bo⟩:=n9 g _ R
 exact⟨aQ,bo,ae.elim (fun q=>by rw[q];exact bo) id,trivial⟩
theorem apL(g:iS ws):iT (wW ws) (fun r=>pE r=true):=by
 intro s h
 simp only[wW] at h⊢
 obtain⟨R,ae⟩:=WM g _ _ h
 obtain⟨aQ,bo⟩:=vc _ R
 refine⟨aQ, ?_⟩
 simp only[pE,bo,Bool.true_and,Bool.or_eq_true]
 rcases ae with q|q
 ·exact .inl (by rw[q];rfl)
 ·exact .inr q
theorem apM:iT (pw ws) (fun r=>gW r.e=true):=by
 intro s h
 simp only[pw] at h⊢
 split at h
 ·rename_i an
  rw[if_pos an]
  rw[dM] at h
  exact vc _ h
 ·rename_i an
  rw[if_neg an]
  rw[dM,dM] at h
  exact vc _ h
def WO(r:hB):Prop:=fP r.t=true∧fP r.n=true∧gW r.on=true
theorem apN(g:iS ws):iT (wX ws) WO:=by
 intro s h
 simp only[wX] at h⊢
 obtain⟨R,ae⟩:=vc _ h
 obtain⟨aQ,bo,bI,cR⟩:=WN g _ (lf _ _ R)
 exact⟨aQ,bo,bI,ae⟩
theorem WQ(g:iS ws):∀(f:Nat) (acc:List hB) (s:bB),(lz ws f acc s).2.e=0→s.e=0∧∃l,(lz ws f acc s).1=acc++l∧∀x,x∈l→WO x
 |0,acc,s,h=>⟨h,[],by simp[lz],fun x au=>by cases au⟩
 |f+1,acc,s,h=>by
  simp only[lz] at h⊢
  split at h
  ·rename_i an
   rw[if_pos an]
   obtain⟨R,l,ae,aQ⟩:=WQ g f _ _ h
   obtain⟨bo,bI⟩:=apN g _ R
   rw[dM] at bo
   refine⟨bo,_::l,by rw[ae,List.append_assoc];rfl,fun x au=> ?_⟩
   rcases List.mem_cons.1 au with q|q
   ·rw[q];exact bI
   ·exact aQ x q
  ·rename_i an
   rw[if_neg an]
   rw[dM] at h
   exact⟨h,[],by simp,fun x au=>by cases au⟩
theorem apO:iT (r0 ws) (fun l=>∀x,x∈l→gW x=true):=by
 intro s h
 simp only[r0] at h⊢
 split at h
 ·rename_i an
  rw[if_pos an]
  obtain⟨R,ae,aQ⟩:=AE vc _ h
  have:=lf _ _ R
  rw[dM] at this
  exact⟨this,ae⟩
 ·rename_i an
  rw[if_neg an]
  rw[dM] at h
  exact⟨h,fun x au=>by cases au⟩
theorem apP:iT (r1 ws) (fun l=>∀x,x∈l→gW x.e=true):=by
 intro s h
 simp only[r1] at h⊢
 split at h
 ·rename_i an
  rw[if_pos an]
  obtain⟨R,ae,aQ⟩:=AE apM _ h
  have:=lf _ _ R
  rw[dM] at this
  exact⟨this,ae⟩
 ·rename_i an
  rw[if_neg an]
  rw[dM] at h
  exact⟨h,fun x au=>by cases au⟩
theorem apQ(g:iS ws):iT (zm ws) (fun n=> -1≤n):=by
 intro s h
 simp only[zm] at h⊢
 split at h
 ·rename_i an
  rw[if_pos an]
  obtain⟨R,ae⟩:=apF g _ h
  rw[dM] at R
  exact⟨R,by omega⟩
 ·rename_i an
  rw[if_neg an]
  rw[dM] at h
  exact⟨h,Int.le_refl _⟩
theorem apR(g:iS ws)(star:Bool):iT (r2 ws star) (fun l=>(∀x,x∈l→pE x=true)∧(star==decide (l.length=0))=true):=by
 intro s h
 simp only[r2] at h⊢
 cases star with
 |true=>exact⟨h,fun x au=>by simp at au,by simp⟩
 |false=>
  simp only[Bool.false_eq_true,if_false] at h⊢
  obtain⟨R,ae,aQ⟩:=AE (apL g) _ h
  refine⟨R,ae, ?_⟩
  rw[decide_eq_false (by omega)];rfl
theorem apS(j:Nat):hF j nq nq=true:=by
 simp[hF,nq,pj]
theorem WR(g:iS ws)(j:Nat):iT (kb ws) (fun q=>tx j q=true):=by
 intro s h
 simp only[kb] at h⊢
 obtain⟨R,b5⟩:=apQ g _ h
 obtain⟨ae,cI⟩:=apP _ R
 obtain⟨aQ,fo⟩:=apO _ ae
 obtain⟨bo,gC,gb⟩:=Ou _ aQ
 obtain⟨bI,l,g8,ie⟩:=WQ g _ _ _ bo
 obtain⟨cR,ke,zI,Nd⟩:=WN g _ bI
 obtain⟨eF,apT,apU⟩:=apR g _ _ (lf _ _ cR)
 rw[dM,dM] at eF
 refine⟨eF, ?_⟩
 simp only[tx,Bool.and_eq_true,List.all_eq_true,decide_eq_true_eq]
 refine⟨apT, ?_,cI,apU, ?_,b5,by omega,gb,fo⟩
 ·intro i aw
  rw[g8]
  unfold qm
  cases i with
  |zero=>
   simp only[List.cons_append,List.getElem?_cons_zero,if_true,ke,zI,Nd,apS,Bool.and_self]
  |succ i=>
   simp only[List.cons_append,List.nil_append,List.getElem?_cons_succ,Nat.add_eq_zero_iff,Nat.one_ne_zero,and_false,if_false]
   cases au:l[i]? with
   |none=>rfl
   |some x=>
    obtain⟨dL,fL,j5⟩:=ie x (List.mem_of_getElem? au)
    simp only[dL,fL,j5,Bool.and_self]
 ·rw[g8];simp
theorem apV(j:Nat)(k:Int):lD j {ek with k:=k} {ek with k:=k}=true:=by
 simp[lD,u3,gV,g1,ek,pv]
def sJ(j:Nat)(m:ea):Prop:=1≤m.k∧m.k≤13∧m8 m={ek with k:=m.k}∧m.c1.length≤1∧(∀x,x∈m.c1→gW x=true)∧oT m=true∧u_ j m=true
theorem apW{j:Nat}{m:ea}(h:sJ j m)(ax:qb m=false):tB j m=true:=by
 obtain⟨R,ae,aQ,bo,bI,cR,eF⟩:=h
 have aV:decide (m.k<1)=false:=decide_eq_false (by omega)
 have bb:decide (m.k>13)=false:=decide_eq_false (by omega)
 have cb:decide (1<m.c1.length)=false:=decide_eq_false (by omega)
 have dI:m.c1.all gW=true:=by rw[List.all_eq_true];exact bI
 simp only[tB,Dt,aV,bb,aQ,apV,ax,cb,dI,cR,eF,Bool.not_true,Bool.or_false,Bool.not_false,Bool.and_self]
theorem apX(g:iS ws)(j:Nat):iT (mZ ws) (sJ j):=by
 intro s h
 simp only[mZ] at h⊢
 split at h
 ·rename_i an
  rw[if_pos an]
  obtain⟨R,ae,aQ⟩:=Ot (apK g) _ h
  obtain⟨bo,bI⟩:=n9 g _ R
  rw[dM] at bo
  refine⟨bo,by simp,by simp,rfl,Nat.zero_le _,(fun x au=>by cases au), ?_, ?_⟩
  ·simp only[oT,bI,Bool.or_true]
  ·simp only[u_,if_true,aQ,decide_true,Bool.true_and,List.all_eq_true];exact ae
 ·rename_i an
  rw[if_neg an]
  split at h
  ·rename_i bj
   rw[if_pos bj]
   obtain⟨R,ae⟩:=WR g j _ h
   obtain⟨aQ,bo⟩:=n9 g _ (lf _ _ R)
   have bI:=lf _ _ aQ
   rw[dM,dM] at bI
   refine⟨bI,by simp,by simp,rfl,Nat.zero_le _,(fun x au=>by cases au), ?_, ?_⟩
   ·simp only[oT,bo,Bool.or_true]
   ·exact ae
  ·rename_i bj
   rw[if_neg bj]
   obtain⟨R,ae,aQ⟩:=Ot (n9 g) _ h
   obtain⟨bo,bI⟩:=n9 g _ R
   obtain⟨cR,eF⟩:=n9 g _ (lf _ _ bo)
   have eR:=lf _ _ cR
   rw[dM,dM,dM] at eR
   refine⟨eR,by simp,by simp,rfl,Nat.zero_le _,(fun x au=>by cases au), ?_, ?_⟩
   ·simp only[oT,eF,Bool.or_true]
   ·show(fP _&&(decide (0<List.length _)&&List.all _ fP))=true
    simp only[bI,aQ,decide_true,Bool.true_and,List.all_eq_true];exact ae
theorem apY(g:iS ws)(j:Nat):iT (nx ws) (sJ j):=by
 intro s h
 simp only[nx] at h⊢
 split at h
 ·rename_i an
  rw[if_pos an]
  obtain⟨R,ae⟩:=n9 g _ h
  rw[dM] at R
  exact⟨R,by simp,by simp,rfl,Nat.zero_le _,(fun x au=>by cases au),by simp only[oT,ae,Bool.or_true],rfl⟩
 ·rename_i an
  rw[if_neg an]
  split at h
  ·rename_i bj
   rw[if_pos bj]
   obtain⟨R,ae⟩:=n9 g _ h
   rw[dM,dM] at R
   exact⟨R,by simp,by simp,rfl,Nat.zero_le _,(fun x au=>by cases au),by simp only[oT,ae,Bool.or_true],rfl⟩
  ·rename_i bj
   rw[if_neg bj]
   obtain⟨R,ae⟩:=n9 g _ h
   have R:=lf _ _ R
   rw[dM,dM] at R
   exact⟨R,by simp,by simp,rfl,Nat.zero_le _,(fun x au=>by cases au),by simp only[oT,ae,Bool.or_true],rfl⟩
theorem apZ(g:iS ws)(j:Nat):iT (qa ws) (sJ j):=by
 intro s h
 simp only[qa] at h⊢
 obtain⟨R,ae,aQ⟩:=AE (Ot vc) _ h
 obtain⟨bo,bI⟩:=n9 g _ (lf _ _ R)
 refine⟨lf _ _ bo,by simp,by simp,rfl,Nat.zero_le _,(fun x au=>by cases au),by simp only[oT,bI,Bool.or_true], ?_⟩
 show(decide (0<List.length _)&&List.all _ pC)=true
 simp only[aQ,decide_true,Bool.true_and,List.all_eq_true]
 intro r bc
 obtain⟨aE,aR⟩:=ae r bc
 simp only[pC,Bool.and_eq_true,List.all_eq_true]
 exact⟨by rw[decide_eq_false (by omega)];rfl,aE⟩
theorem ap0(g:iS ws):iT (uI ws) (fun a=>pD a=true):=by
 intro s h
 simp only[uI] at h⊢
 obtain⟨R,ae⟩:=vc _ h
 obtain⟨aQ,bo⟩:=n9 g _ (lf _ _ R)
 exact⟨aQ,by simp only[pD,ae,bo,Bool.and_self]⟩
theorem ap1(g:iS ws)(j:Nat):iT (qV ws) (sJ j):=by
 intro s h
 simp only[qV] at h⊢
 obtain⟨R,b5,cI⟩:=Ou _ h
 obtain⟨ae,aQ,bo⟩:=AE (ap0 g) _ R
 obtain⟨bI,cR⟩:=n9 g _ (lf _ _ ae)
 refine⟨bI,by simp,by simp,rfl,b5,cI,by simp only[oT,cR,Bool.or_true], ?_⟩
 show(decide (0<List.length _)&&List.all _ pD)=true
 simp only[bo,decide_true,Bool.true_and,List.all_eq_true]
 exact aQ
theorem ap2(g:iS ws)(j:Nat):iT (qW ws) (sJ j):=by
 intro s h
 simp only[qW] at h⊢
 obtain⟨R,b5,cI⟩:=Ou _ h
 obtain⟨bI,cR⟩:=n9 g _ R
 exact⟨lf _ _ bI,by simp,by simp,rfl,b5,cI,by simp only[oT,cR,Bool.or_true],rfl⟩
theorem ap3(j:Nat):iT (ny ws) (sJ j):=by
 intro s h
 simp only[ny] at h⊢
 split at h
 ·rename_i an
  rw[if_pos an]
  rw[dM] at h
  exact⟨h,by simp,by simp,rfl,Nat.zero_le _,(fun x au=>by cases au),rfl,rfl⟩
 ·rename_i an
  rw[if_neg an]
  split at h
  ·rename_i an
   rw[if_pos an]
   rw[dM,dM] at h
   exact⟨h,by simp,by simp,rfl,Nat.zero_le _,(fun x au=>by cases au),rfl,rfl⟩
  ·rename_i an
   rw[if_neg an]
   split at h
   ·rename_i an
    rw[if_pos an]
    rw[dM,dM,dM] at h
    exact⟨h,by simp,by simp,rfl,Nat.zero_le _,(fun x au=>by cases au),rfl,rfl⟩
   ·exact vb h
theorem ap4(g:iS ws)(j:Nat):iT (ji ws) (sJ j):=by
 intro s h
 simp only[ji] at h⊢
 split at h
 ·rename_i an
  rw[if_pos an]
  have q:=apX g j _ h
  rwa[dM] at q
 rename_i an
 rw[if_neg an]
 split at h
 ·rename_i an
  rw[if_pos an]
  have q:=apY g j _ h
  rwa[dM,dM] at q
 rename_i an
 rw[if_neg an]
 split at h
 ·rename_i an
  rw[if_pos an]
  have q:=apZ g j _ h
  rwa[dM,dM,dM] at q
 rename_i an
 rw[if_neg an]
 split at h
 ·rename_i an
  rw[if_pos an]
  have q:=ap1 g j _ h
  rwa[dM,dM,dM,dM] at q
 rename_i an
 rw[if_neg an]
 split at h
 ·rename_i an
  rw[if_pos an]
  have q:=ap2 g j _ h
  rwa[dM,dM,dM,dM,dM] at q
 rename_i an
 rw[if_neg an]
 split at h
 ·rename_i an
  rw[if_pos an]
  obtain⟨q,r⟩:=WR g j _ h
  rw[dM,dM,dM,dM,dM,dM] at q
  exact⟨q,by simp,by simp,rfl,Nat.zero_le _,(fun x au=>by cases au),rfl,r⟩
 rename_i an
 rw[if_neg an]
 have q:=ap3 j _ h
 rwa[dM,dM,dM,dM,dM,dM] at q
theorem ap5(j:Nat)(t:Lu)(h:(jA t).2=0):tB j (jA t).1=true:=by
 unfold jA at h⊢
 split at h
 ·rename_i ws e hw
  simp only[qX] at h⊢
  split at h
  ·rename_i an;exact absurd h an
  ·rename_i an
   split at h
   ·simp at h
   ·rename_i ax
    rw[if_neg an,if_neg ax]
    have e6:(r3 ws (ji ws ⟨0,0⟩).2).e=0:=by simpa using an
    have aV:(ji ws ⟨0,0⟩).2.e=0:=by
     simp only[r3] at e6
     split at e6
     ·rwa[dM] at e6
     ·exact vb e6
    exact apW (ap4 (apC hw) j _ aV).2 (by simpa using ax)
 ·rename_i e hw
  exfalso
  simp only at h
  unfold oG at hw
  split at hw
  ·simp at hw;omega
  ·exact apB _ _ _ _ _ _ _ hw h
end Go.Proofs.YtjpjeilfmjdhcaaGreat.h3
namespace Go.Proofs.YtjpjeilfmjdhcaaGreat.h3
open Go E ep eI fq fw fC f_ hE
abbrev kQ(s:Lu):Prop:=s.length≤5000
variable {ws:List br}
theorem WS(hw:hj 5000 ws){n:Lu}(bd:kQ n)(s:bB):kQ (k9 ws n s).1:=by
 simp only[k9]
 split
 ·exact wU hw _
 ·exact bd
theorem WT(hw:hj 5000 ws)(s:bB):kQ (kK ws s).1.t∧kQ (kK ws s).1.n:=⟨wU hw _,WS hw (wU hw _) _⟩
theorem WU(hw:hj 5000 ws):∀(f:Nat) (acc:List hB) (s:bB),(∀r,r∈acc→kQ r.t∧kQ r.n)→∀r,r∈(lz ws f acc s).1→kQ r.t∧kQ r.n
 |0,acc,s,h=>h
 |f+1,acc,s,h=>by
  simp only[lz]
  split
  ·refine WU hw f _ _ fun r bc=> ?_
   rcases List.mem_append.1 bc with q|q
   ·exact h r q
   ·rw[List.mem_singleton.1 q];exact WT hw _
  ·exact h
def Ov(q:k7):Prop:=(∀a,a∈q.items→kQ a.n)∧∀a,a∈q.eH→kQ a.t∧kQ a.n
theorem WV(hw:hj 5000 ws)(s:bB):Ov (kb ws s).1:=by
 simp only[kb]
 refine⟨?_, ?_⟩
 ·simp only[r2]
  split
  ·exact fun a (bh:a∈ [])=>by cases bh
  ·exact tu (P:=fun a:ij=>kQ a.n) (fun u=>WS hw (Nat.zero_le _) _) _
 ·exact WU hw _ _ _ fun r bc=>by rw[List.mem_singleton.1 bc];exact WT hw _
theorem vd{m:ea}(R:kQ m.name)(ae:kQ m.on)(aQ:∀c,c∈m.hk→kQ c.n)(bo:∀k,k∈m.keys→kQ k)(bI:∀a,a∈m.ft→kQ a.c)(cR:Ov m.q):l5 5000 m:=⟨R,ae,aQ,bo,bI,cR.1,cR.2⟩
theorem AF:Ov pv:=⟨fun a bh=>(nomatch bh),fun a bh=>(nomatch bh)⟩
theorem ve{k:Int}{n:Lu}(h:kQ n):l5 5000 {ek with k:=k,name:=n}:=vd h (Nat.zero_le _) (fun _ q=>nomatch q) (fun _ q=>nomatch q) (fun _ q=>nomatch q) AF
theorem ap6(hw:hj 5000 ws)(s:bB):l5 5000 (ji ws s).1:=by
 have N:∀t,kQ (dB ws t).1:=fun t=>wU hw t
 have R:∀t,l5 5000 (mZ ws t).1:=fun t=>by
  simp only[mZ]
  split
  ·exact vd (N _) (Nat.zero_le _) (N1 (P:=fun c:jz=>kQ c.n) (fun u=>N _) _) (fun _ q=>nomatch q) (fun _ q=>nomatch q) AF
  ·split
   ·exact vd (N _) (Nat.zero_le _) (fun _ q=>nomatch q) (fun _ q=>nomatch q) (fun _ q=>nomatch q) (WV hw _)
   ·exact vd (N _) (N _) (fun _ q=>nomatch q) (N1 (P:=kQ) (fun u=>N _) _) (fun _ q=>nomatch q) AF
 have ae:∀t,l5 5000 (nx ws t).1:=fun t=>by
  simp only[nx]
  split
  ·exact ve (N _)
  ·split<;>exact ve (N _)
 have aQ:∀t,l5 5000 (qa ws t).1:=fun t=>by
  simp only[qa]
  exact vd (N _) (Nat.zero_le _) (fun _ q=>nomatch q) (fun _ q=>nomatch q) (fun _ q=>nomatch q) AF
 have bo:∀t,l5 5000 (qV ws t).1:=fun t=>by
  simp only[qV]
  exact vd (N _) (Nat.zero_le _) (fun _ q=>nomatch q) (fun _ q=>nomatch q) (tu (P:=fun a:h7=>kQ a.c) (fun u=>N _) _) AF
 have bI:∀t,l5 5000 (qW ws t).1:=fun t=>by
  simp only[qW]
  exact vd (N _) (Nat.zero_le _) (fun _ q=>nomatch q) (fun _ q=>nomatch q) (fun _ q=>nomatch q) AF
 have cR:∀t,l5 5000 (ny ws t).1:=fun t=>by
  simp only[ny]
  split
  ·exact ve (Nat.zero_le _)
  ·split
   ·exact ve (Nat.zero_le _)
   ·split<;>exact ve (Nat.zero_le _)
 simp only[ji]
 split
 ·exact R _
 ·split
  ·exact ae _
  ·split
   ·exact aQ _
   ·split
    ·exact bo _
    ·split
     ·exact bI _
     ·split
      ·exact vd (Nat.zero_le _) (Nat.zero_le _) (fun _ q=>nomatch q) (fun _ q=>nomatch q) (fun _ q=>nomatch q) (WV hw _)
      ·exact cR _
theorem ap7(t:Lu):l5 5000 (jA t).1:=by
 unfold jA
 split
 ·rename_i ws e hw
  simp only[qX]
  split
  ·exact ve (k:=0) (Nat.zero_le _)
  ·split
   ·exact ve (k:=0) (Nat.zero_le _)
   ·exact ap6 (M_ hw) _
 ·exact ve (k:=0) (Nat.zero_le _)
end Go.Proofs.YtjpjeilfmjdhcaaGreat.h3
namespace Go.Proofs.YtjpjeilfmjdhcaaGreat.Jk
open Go E E.K ep eI fq fw fC f_ m3 h3
noncomputable section
def z9(j:Nat):Lv→Lo→OvL:=ow (hE.z9 j)
theorem NJ(j:Nat):cq Tryz.prog 4 (z9 j):=sR (hE.NJ j)
def ts(j:Nat)(h:Lo):OvL:=z9 j [] h
def Af(j:Nat):Lv→Lo→OvL:=ow (hE.Af j)
theorem NK(j:Nat):cq Tryz.prog 5 (Af j):=sR (hE.NK j)
def xh(j:Nat)(s:V)(h:Lo):OvL:=Af j [s] h
def zW(j:Nat):Lv→Lo→OvL:=ow (f_.zW j)
theorem Hs(j:Nat):cq Tryz.prog 6 (zW j):=sR (f_.Hs j)
def xd(j:Nat)(t:Lu)(h:Lo):OvL:=zW j [.str t] h
def Aj(j:Nat):Lv→Lo→OvL:=ow (hE.Aj j)
theorem NV(j:Nat):cq Tryz.prog 7 (Aj j):=sR (hE.NV j)
def xm(j:Nat)(s:V)(h:Lo):OvL:=Aj j [s] h
def zV(j:Nat):Lv→Lo→OvL:=ow (uV.zV j)
theorem Nu(j:Nat):cq Tryz.prog 8 (zV j):=sR (uV.Nu j)
def sa(j:Nat)(s:V)(h:Lo):OvL:=zV j [s] h
def Au(j:Nat):Lv→Lo→OvL:=ow (hE.Au j)
theorem N0(j:Nat):cq Tryz.prog 9 (Au j):=sR (hE.N0 j)
def At(j:Nat)(s:V)(h:Lo):OvL:=Au j [s] h
def z5(j:Nat):Lv→Lo→OvL:=ow (f_.z5 j)
theorem HO(j:Nat):cq Tryz.prog 10 (z5 j):=sR (f_.HO j)
def uW(j:Nat)(a b:V)(h:Lo):OvL:=z5 j [a,b] h
def Ao(j:Nat):Lv→Lo→OvL:=ow (hE.Ao j)
theorem ID(j:Nat):cq Tryz.prog 11 (Ao j):=sR (hE.ID j)
def xw(j:Nat)(a b:V)(h:Lo):OvL:=Ao j [a,b] h
theorem AG{W:Lv→Lo→OvL}{args:Lv}{h:Lo}{b:Bool}(gQ:iA h=true)(t:aj (W args h) fun v aa=>v= .bool b∧ai h aa []):ow W args h=some (.bool b,h):=by
 obtain⟨v,aa,e,rfl,k⟩:=t
 exact EM e gQ (fun o U=>k.same o U (fun z=>by cases z)) (.same rfl (.inl rfl))
theorem ap8{j:Nat}(aS:5000000<j){h:Lo}(gQ:iA h=true)(text:Lu):∃u,xd j text h=some (.bW [u, .int .i64 (jA text).2],h)∧∀g bx,hl.aK bx g u (jA text).1:=by
 obtain⟨v,aa,e,k,V,rfl,t⟩:=Vv aS text (h:=h)
 have t:=Na t
 obtain⟨u,r⟩:=akb (K:=fun o=>h.length≤o) (fun o q=>q) t
 refine⟨u,EM (W:=f_.zW j) (args:=[.str text]) e gQ (fun o U=>k.same o U (fun z=>by cases z)) (.bW rfl fun i c d R ae=> ?_),fun g bx=>akc (fun o q=>q) t r g bx⟩
 match i with
 |0=>injection R with R;injection ae with ae;subst R;subst ae;exact r
 |1=>injection R with R;injection ae with ae;subst R;subst ae;exact .same rfl (.inl rfl)
 |i+2=>simp at R
open tk (kL kM kN qh l3 lB oO)
open uV (z8 sh VD)
structure vf(bF bD b8 cu cK a b c d e:V)(m:ea):Prop where
 de:aC 4 fI dH [] bF m.hk
 cD:aC 1 fM dH [] bD m.keys
 dd:aC 1 (cl 8 bL) dH [] b8 m.rows
 dh:aC 9 fs dH [] cu m.ft
 dZ:aC 8 bL dH [] cK m.c1
 t1:aC 9 eC dH [] a m.q.items
 t2:aC 10 eM dH [] b m.q.eH
 t3:aC 8 bL dH [] c m.q.c1
 t4:aC 8 bL dH [] d m.q.fh
 t5:aC 9 eS dH [] e m.q.eV
theorem ap9(h:Lo):ai [] h []:=⟨Nat.zero_le _,fun o U=>by simp at U⟩
theorem lg{α:Type}{T:hd α}{az:Nat}{v:V}{xs:List α}(l:aC az T dH [] v xs)(h:Lo):aC az T dH h v xs:=(cl az T).aJ l (ap9 h) (fun o U=>by cases U)
theorem qo{α:Type}{T:hd α}{az:Nat}{v:V}{xs:List α}(l:aC az T dH [] v xs)(h:Lo)(bx:Nat→Prop):aC az T bx h v xs:=(cl az T).mono (lg l h) (fun o _ q=>q.elim)
theorem vf.Ow{bF bD b8 cu cK a b c d e:V}{m:ea}(q:vf bF bD b8 cu cK a b c d e m)(h:Lo)(bx:Nat→Prop):hl.aK bx h (.agg (fb m.k m.name m.on m.un bF bD b8 cu cK m.q.ch m.q.star a b c d e m.q.b7)) m:=
 ⟨bF,bD,b8,cu,cK,a,b,c,d,e,rfl,qo q.de h bx,qo q.cD h bx,qo q.dd h bx,qo q.dh h bx,qo q.dZ h bx,qo q.t1 h bx,qo q.t2 h bx,qo q.t3 h bx,qo q.t4 h bx,qo q.t5 h bx⟩
theorem WW(x:X):eN x= .agg (bH (l3 x) (lB x)):=by
 cases x with
 |mk n ah=>simp[eN,CV,l3,lB,oO]
theorem AH(x:X):x= .mk (l3 x) (oO x):=by cases x;rfl
theorem DA{bx:Nat→Prop}{g:Lo}(x:X):c6 bx g (.agg (bH (l3 x) (lB x))) (.mk (l3 x) (oO x)):=by
 have:=U1 (bx:=bx) (g:=g) x
 rw[WW] at this
 rwa[←AH]
theorem CZ(x:X):(lB x).scalar=true:=(kf _).1
theorem Jl(xs:List X)(bx:Nat→Prop)(g:Lo):aC 8 bL bx g (ee (xs.map eN)) xs:=zK fun x au=>⟨U0 x,l3 x,lB x,oO x,AH x,WW x,DA x⟩
theorem ap_(es:Lv):flat 1 (ee es):=⟨by rw[(kf es).2];rfl,by rw[(kf es).2];simp[(kf es).1]⟩
theorem WX{bF bD b8 cu cK a b c d e:V}{m:ea}(q:vf bF bD b8 cu cK a b c d e m)(h:Lo)(bx:Nat→Prop):hl.aK bx h (z8 bF bD m) m:=
 ⟨_,_,_,_,_,_,_,_,_,_,rfl,qo q.de h bx,qo q.cD h bx,zK fun r bc=>⟨ap_ _,Jl r bx h⟩,
  zK fun x au=>⟨⟨rfl,by simp only[qh,V.cells,List.all_cons,List.all_nil,CZ];rfl⟩,l3 x.e,lB x.e,oO x.e,AH _,rfl,DA _⟩,Jl _ bx h,
  zK fun x au=>⟨⟨rfl,by simp only[kL,V.cells,List.all_cons,List.all_nil,CZ];rfl⟩,l3 x.e,lB x.e,oO x.e,AH _,rfl,DA _⟩,
  zK fun x au=>⟨⟨rfl,by simp only[kN,V.cells,List.all_cons,List.all_nil,CZ];rfl⟩,l3 x.on,lB x.on,oO x.on,AH _,rfl,DA _⟩,Jl _ bx h,Jl _ bx h,
  zK fun x au=>⟨⟨rfl,by simp only[kM,V.cells,List.all_cons,List.all_nil,CZ];rfl⟩,l3 x.e,lB x.e,oO x.e,AH _,rfl,DA _⟩⟩
variable {j w D N:Nat} {h:Lo} {m:ea}
theorem WY(hw:w<j)(bV:w≤1000000000)(di:N≤w)(b_:D≤j)(gQ:iA h=true)(G:h9 w D N m){bF bD b8 cu cK a b c d e:V}(q:vf bF bD b8 cu cK a b c d e m):
  sa j (.agg (fb m.k m.name m.on m.un bF bD b8 cu cK m.q.ch m.q.star a b c d e m.q.b7)) h=some (z8 bF bD m,h):=by
 obtain⟨v,aa,e,r,k⟩:=VD hw bV di b_ gQ G (lg q.de h) (lg q.cD h) (lg q.dd h) (lg q.dh h) (lg q.dZ h) (lg q.t1 h) (lg q.t2 h) (lg q.t3 h) (lg q.t4 h) (lg q.t5 h)
 exact EM (W:=uV.zV j) (args:=[_]) e gQ (fun o U=>k.same o U (fun z=>by cases z)) r
theorem WZ(aS:1000<j)(hw:w<j)(bV:w≤1000000000)(di:N≤w)(b_:D≤j)(gQ:iA h=true)(G:h9 w D N m){bF bD b8 cu cK a b c d e:V}(q:vf bF bD b8 cu cK a b c d e m):
  ∃c2,xh j (.agg (fb m.k m.name m.on m.un bF bD b8 cu cK m.q.ch m.q.star a b c d e m.q.b7)) h=some (.bool c2,h):=by
 obtain⟨v,aa,e,⟨c2,rfl⟩,k⟩:=hE.anI (j:=j) (w:=w) (D:=D) (B:=w) (N:=N) aS bV hw hw (by omega) b_ di G (lg q.de h) (lg q.cD h) (lg q.dd h) (lg q.dh h) (lg q.dZ h) (lg q.t1 h) (lg q.t2 h) (lg q.t3 h) (lg q.t4 h) (lg q.t5 h)
 exact⟨c2,AG (W:=hE.Af j) (args:=[_]) gQ ⟨_,_,e,rfl,k⟩⟩
theorem W0(aS:1000<j)(hw:w<j)(bV:w≤1000000000)(di:N≤w)(b_:D≤j)(gQ:iA h=true)(G:h9 w D N m)(M:l5 w m){v:V}{av:Nat→Prop}(t:hl.aK av h v m):xm j v h=some (.bool (tB j m),h):=
 AG (W:=hE.Aj j) (args:=[v]) gQ (aoH aS hw bV di b_ G M t)
theorem aqa(aS:1000<j)(hw:w<j)(bV:w≤1000000000)(di:N≤w)(b_:D≤j)(gQ:iA h=true)(G:h9 w D N m)(M:l5 w m){v:V}{av:Nat→Prop}(t:hl.aK av h v m):At j v h=some (.bool (tB j m),h):=by
 have:=apo aS hw bV di b_ G M t
 rw[apu] at this
 exact AG (W:=hE.Au j) (args:=[v]) gQ this
theorem W1(hw:w<j)(bV:w≤1000000000)(di:N≤w)(b_:D≤j)(gQ:iA h=true)(G:h9 w D N m){cC:ea}{v eg:V}{av bx:Nat→Prop}(t:hl.aK av h v m)(bR:hl.aK bx h eg cC):uW j v eg h=some (.bool (lD j m cC),h):=
 AG (W:=f_.z5 j) (args:=[v,eg]) gQ (Wg hw (by omega) b_ (by omega) (by omega) G t bR)
theorem aqb(hw:w<j)(bV:w≤1000000000)(di:N≤w)(b_:D≤j)(gQ:iA h=true)(G:h9 w D N m){cC:ea}{v eg:V}{av bx:Nat→Prop}(t:hl.aK av h v m)(bR:hl.aK bx h eg cC):xw j v eg h=some (.bool (lD j m cC),h):=
 AG (W:=hE.Ao j) (args:=[v,eg]) gQ (WB hw (by omega) b_ di G t bR)
theorem aqc:jA [68,82,79,80,32,84,65,66,76,69,32,116,59]=({ek with k:=4,name:=[116]},0):=by kernel_rfl
theorem aqd(aS:5000000<j)(gQ:iA h=true):ts j h=some (.bool true,h):=by
 refine AG (W:=hE.z9 j) (args:=[]) gQ ?_
 show aj (hE.ts j h) _
 obtain⟨v,R,e,ar,ar4,rfl,t⟩:=Vv aS (h:=h) [68,82,79,80,32,84,65,66,76,69,32,116,59]
 rw[aqc] at t e
 obtain⟨bF,bD,b8,cu,cK,a,b,c,d,ct,rfl,de,cD,dd,dh,dZ,t1,t2,t3,t4,t5⟩:=Na t
 simp only[hE.ts]
 refine h6 e ?_
 simp only[aN,aZ,bn,bl,id_eq,mf,bP,bq,a1,bC,a0,a5]
 refine aj.ad (hs (cs:=g0) rfl) ?_
 rintro p ae ⟨rfl,s2,aA⟩
 refine aj.ad (s2.ic (aM:=fb 4 [116] [] false bF bD b8 cu cK false false a b c d ct 0) rfl (by decide) (jk (aC.a8 de).2 (aC.a8 cD).2 (aC.a8 dd).2 (aC.a8 dh).2 (aC.a8 dZ).2 (aC.a8 t1).2 (aC.a8 t2).2 (aC.a8 t3).2 (aC.a8 t4).2 (aC.a8 t5).2) (n:=17) rfl) ?_
 rintro u aQ ⟨eu,aT⟩
 have db:ai h aQ []:=(ar.bs aA).trans aT (fun o U=>by cases U) (fun o U bN=>by have:=ar.len;simp at U;omega)
 simp only[show((0:Int)==0)=true from rfl,aU]
 refine e_ (eu.af _ _ _) ?_
 refine e_ (eu.ag rfl) ?_
 refine oy ?_
 simp only[show((4:Int)==4)=true from rfl,aU]
 refine e_ (eu.af _ _ _) ?_
 refine e_ (eu.ag rfl) ?_
 refine Ra ?_
 exact aj.some ⟨rfl,db⟩
end
end Go.Proofs.YtjpjeilfmjdhcaaGreat.Jk
namespace Go.Proofs.YtjpjeilfmjdhcaaGreat.AI
open Go E E.K Jk
noncomputable section
abbrev W2:dO:= .agg [aP,a3,a3,a4,aD,aD,aD,aD,aD,a4,a4,aD,aD,aD,aD,aD,aP]
abbrev Jm:dO:= .bW [W2,aP]
def ng:=cE [(a3,[2,23]),(a4,[6,9,10,11,13,14,15,16,18,19,20,21,29,31,32,33,38,41,42,43,44,49,50,51,53,54,56,57,58]),(aP,[8,26,52]),(Jm,[22,24])]
def fB(j:Nat):cd Tryz.prog:= .c (.c (.c (.c (.c (.c (.c (.c .ao (NJ j)) (NK j)) (Hs j)) (NV j)) (Nu j)) (N0 j)) (HO j)) (ID j)
def Jn(j:Nat)(a:V)(b:V)(h:Lo):a9:=
ad (ts j h) fun o f=>
bG o fun k=>
al (!k) (
ad (ts j f) fun g c=>
bG g fun d=>
some (.ret,[.bool d],c)) (
J (I (.bp 17 (.c a)) f) fun l=>
ad (xh j l f) fun g c=>
bG g fun m=>
al (!m) (
ad (ts j c) fun i e=>
bG i fun d=>
some (.ret,[.bool d],e)) (
J (I (.bp 17 (.c b)) c) fun n=>
ad (xh j n c) fun i e=>
bG i fun p=>
al (!p) (
ad (ts j e) fun q r=>
bG q fun d=>
some (.ret,[.bool d],r)) (
some (.normal,[],e))))
def aqe(j:Nat):cz Tryz.prog:= .of ng (fB j) [] (cT Tryz.prog Tryz.f3 [1,0] []) [aD,aD] [3,4] [(.ret,[6],[a4]),(.normal,[],[])] (Jn j) (fun _ _ _=>by kernel_rfl)
def Ox(j:Nat)(a:V)(b:V)(text:Lu)(h:Lo):OvL:=
ad (aB (.box false (.c a)) h) fun c z=>
ad (aB (.box false (.c b)) z) fun d bQ=>
bO (Jn j c d bQ) fun q r s=>
al (decide (q= .ret)) (
aZ [a4] r fun bZ=>
some ((.bool bZ),s)) (
al (decide (q= .normal)) (
dT r (
ad (xd j text s) fun ac b2=>
aN Jm ac fun b9 cn cr cB cL cM cO am cV ap c3 c8 c9 dc c4 dD dk dP=>
ad (aB (.alloc false (.agg [.int .i64 0,(.str []),(.str []), .bool false, .ab, .ab, .ab, .ab, .ab, .bool false, .bool false, .ab, .ab, .ab, .ab, .ab, .int .i64 0])) b2) fun t d_=>
ad (aB (.store 17 (.c t) (.c (.agg [.int .i64 b9, .str cn, .str cr, .bool cB,cL,cM,cO,am,cV, .bool ap, .bool c3,c8,c9,dc,c4,dD, .int .i64 dk]))) d_) fun gE l=>
J (I (.bp 17 (.c c)) l) fun dV=>
J (I (.bp 17 (.c c)) l) fun m=>
ad (sa j dV l) fun ey u=>
bk (I (.bp 17 (.c c)) u=some m) (
ad (xm j ey u) fun eX v=>
bG eX fun be=>
bk (I (.bp 17 (.c c)) v=some m) (
ad (At j m v) fun e5 e=>
bG e5 fun ec=>
al (be==ec) (
J (I (.bp 17 (.c c)) e) fun bi=>
J (I (.bp 17 (.c d)) e) fun w=>
J (I (.bp 17 (.c c)) e) fun f=>
J (I (.bp 17 (.c d)) e) fun g=>
ad (sa j bi e) fun fE i=>
bk (I (.bp 17 (.c d)) i=some g) (
bk (I (.bp 17 (.c c)) i=some f) (
bk (I (.bp 17 (.c d)) i=some w) (
ad (sa j w i) fun fG n=>
bk (I (.bp 17 (.c d)) n=some g) (
bk (I (.bp 17 (.c c)) n=some f) (
ad (uW j fE fG n) fun fk p=>
bG fk fun eD=>
bk (I (.bp 17 (.c d)) p=some g) (
bk (I (.bp 17 (.c c)) p=some f) (
ad (xw j f g p) fun gL o=>
bG gL fun hh=>
al (eD==hh) (
J (I (.bp 17 (.c c)) o) fun hZ=>
J (I (.bp 17 (.c c)) o) fun x=>
ad (sa j hZ o) fun hJ y=>
bk (I (.bp 17 (.c c)) y=some x) (
ad (sa j x y) fun fu iB=>
ad (uW j hJ fu iB) fun iC k=>
bG iC fun bv=>
al bv (
al (dP !=(0)) (
some ((.bool true),k)) (
J (I (.bp 17 (.c t)) k) fun iM=>
ad (xm j iM k) fun iZ iD=>
bG iZ fun eB=>
some ((.bool eB),iD))) (
some ((.bool false),k)))) (
some ((.bool false),o)))))))))) (
some ((.bool false),e)))))) (
none))
def aqf(j:Nat):Lv→Lo→OvL:=cv [aD,aD,a3] (Ox j)
theorem aqg(j:Nat):cq Tryz.prog 3 (aqf j):=cG ng (fB j) [aqe j] [([1,0],0)] [aD,aD,a3] _ Tryz.func3 (by kernel_rfl) (by kernel_rfl) (by kernel_rfl) (fun _ _ _ _=>by kernel_rfl)
open eI fq fC f_ m3 h3
open uV (z8)
theorem aqh{aK:Type}{k:Int}{name on:Lu}{un:Bool}{bF bD b8 cu cK:V}{ch star:Bool}{a b c d e:V}{b7 x:Int}(K:Int→Lu→Lu→Bool→V→V→V→V→V→Bool→Bool→V→V→V→V→V→Int→Int→Option aK):
  aN Jm (.bW [.agg (fb k name on un bF bD b8 cu cK ch star a b c d e b7), .int .i64 x]) K=K k name on un bF bD b8 cu cK ch star a b c d e b7 x:=by
 simp only[Jm,W2,aN,aZ,bn,bl,id_eq,mf,bP,bq,a1,bC,a0,a5]
theorem aqi{j w D N:Nat}(aS:5000000<j)(hw:w<j)(bV:w≤1000000000)(di:N≤w)(b_:D≤j){m cC:ea}(G:h9 w D N m)(Jo:h9 w D N cC)(M:l5 w m)(h4:l5 w cC){text:Lu}{E:Nat}(dx:E≤j)(zt:h9 5000 E 1000 (jA text).1)
  {bF bD b8 cu cK a b c d e:V} (q:vf bF bD b8 cu cK a b c d e m) {d1 d2 d3 d4 d5 eK c2 c0 g4 ct:V} (jc:vf d1 d2 d3 d4 d5 eK c2 c0 g4 ct cC):
  aj (Ox j (.agg (fb m.k m.name m.on m.un bF bD b8 cu cK m.q.ch m.q.star a b c d e m.q.b7)) (.agg (fb cC.k cC.name cC.on cC.un d1 d2 d3 d4 d5 cC.q.ch cC.q.star eK c2 c0 g4 ct cC.q.b7)) text []) fun v _=>v= .bool true:=by
 have aqj:=jk (k:=m.k) (name:=m.name) (on:=m.on) (un:=m.un) (ch:=m.q.ch) (star:=m.q.star) (b7:=m.q.b7) (aC.a8 q.de).2 (aC.a8 q.cD).2 (aC.a8 q.dd).2 (aC.a8 q.dh).2 (aC.a8 q.dZ).2 (aC.a8 q.t1).2 (aC.a8 q.t2).2 (aC.a8 q.t3).2 (aC.a8 q.t4).2 (aC.a8 q.t5).2
 have aqk:=jk (k:=cC.k) (name:=cC.name) (on:=cC.on) (un:=cC.un) (ch:=cC.q.ch) (star:=cC.q.star) (b7:=cC.q.b7) (aC.a8 jc.de).2 (aC.a8 jc.cD).2 (aC.a8 jc.dd).2 (aC.a8 jc.dh).2 (aC.a8 jc.dZ).2 (aC.a8 jc.t1).2 (aC.a8 jc.t2).2 (aC.a8 jc.t3).2 (aC.a8 jc.t4).2 (aC.a8 jc.t5).2
 obtain⟨R,aV,hD,ar,cY⟩:=Lk (h:=[]) aqj
 obtain⟨ae,bb,e9,aA,gk⟩:=Lk (h:=R) aqk
 have dR:=hD.aq aA
 have DB:=gk (cY rfl)
 have aql:I (.bp 17 (.c (.ptr ([]:Lo).length 0 0))) ae=some _:=dR.e4 rfl
 have aqm:I (.bp 17 (.c (.ptr R.length 0 0))) ae=some _:=e9.e4 rfl
 simp only[Ox]
 refine h6 aV ?_
 refine h6 bb ?_
 have f4:=aqd (j:=j) aS DB
 have hP:aL (Jn j (.ptr ([]:Lo).length 0 0) (.ptr R.length 0 0) ae) fun x ak aa=>aa=ae∧(x= .ret∧ak=[.bool true]∨x= .normal∧ak=[]):=by
  obtain⟨dL,f1⟩:=WZ (by omega) hw bV di b_ DB G q
  obtain⟨fL,f2⟩:=WZ (by omega) hw bV di b_ DB Jo jc
  simp only[Jn]
  refine sS f4 ?_
  refine yj ?_
  rw[Bool.not_true,a7]
  refine gR aql ?_
  refine sS f1 ?_
  refine yj ?_
  cases dL with
  |false=>
   rw[Bool.not_false,aU]
   refine sS f4 ?_
   refine yj ?_
   exact aL.some ⟨rfl, .inl ⟨rfl,rfl⟩⟩
  |true=>
   rw[Bool.not_true,a7]
   refine gR aqm ?_
   refine sS f2 ?_
   refine yj ?_
   cases fL with
   |false=>
    rw[Bool.not_false,aU]
    refine sS f4 ?_
    refine yj ?_
    exact aL.some ⟨rfl, .inl ⟨rfl,rfl⟩⟩
   |true=>
    rw[Bool.not_true,a7]
    exact aL.some ⟨rfl, .inr ⟨rfl,rfl⟩⟩
 refine aj.bO hP ?_
 rintro x ak g ⟨rfl,⟨rfl,rfl⟩|⟨rfl,rfl⟩⟩
 ·simp only[decide_true,aU,aZ,bn,bl,id_eq,bq,a0,a5]
  exact aj.some rfl
 simp only[show decide (cg.normal=cg.ret)=false from rfl,a7,decide_true,aU,a5]
 obtain⟨u,LX,W3⟩:=ap8 aS DB text
 obtain⟨fD,bf,wD,aqn,n5,nN,qE,aqo,aqp,aqq,rfl,v1,v2,p0,v4,wC,e7,ib,oM,qf,iQ⟩:=W3 [] dH
 refine h6 LX ?_
 refine EP (aqh _) ?_
 obtain⟨aQ,cb,dm,aT,kg⟩:=Lj (h:=g) (cs:=g0) rfl
 obtain⟨nI,bo,dI,xH,bu,l4⟩:=dm.Rd (aM:=fb (jA text).1.k (jA text).1.name (jA text).1.on (jA text).1.un fD bf wD aqn n5 (jA text).1.q.ch (jA text).1.q.star nN qE aqo aqp aqq (jA text).1.q.b7) rfl (by decide) (jk (aC.a8 v1).2 (aC.a8 v2).2 (aC.a8 p0).2 (aC.a8 v4).2 (aC.a8 wC).2 (aC.a8 e7).2 (aC.a8 ib).2 (aC.a8 oM).2 (aC.a8 qf).2 (aC.a8 iQ).2) (n:=17) rfl
 have gQ:=l4 (kg DB)
 have W4:=dR.lt
 have W5:=e9.lt
 have aqr:=(dR.aq aT).aJ bu (fun z=>by have:=List.mem_singleton.1 z;omega)
 have uN:=(e9.aq aT).aJ bu (fun z=>by have:=List.mem_singleton.1 z;omega)
 have gP:I (.bp 17 (.c (.ptr ([]:Lo).length 0 0))) bo=some _:=aqr.e4 rfl
 have kj:I (.bp 17 (.c (.ptr R.length 0 0))) bo=some _:=uN.e4 rfl
 have CW:I (.bp 17 (.c (.ptr g.length 0 0))) bo=some _:=xH.e4 rfl
 have Jp:=WY hw bV di b_ gQ G q
 have aqs:=WY hw bV di b_ gQ Jo jc
 have u4:=WX q bo dH
 have dG:=WX jc bo dH
 refine h6 cb ?_
 refine h6 dI ?_
 refine e_ gP ?_
 refine e_ gP ?_
 refine h6 Jp ?_
 refine jJ gP ?_
 refine h6 (W0 (by omega) hw bV di b_ gQ G M u4) ?_
 refine ue ?_
 refine jJ gP ?_
 refine h6 (aqa (by omega) hw bV di b_ gQ G M (q.Ow bo dH)) ?_
 refine ue ?_
 rw[beq_self_eq_true,aU]
 refine e_ gP ?_
 refine e_ kj ?_
 refine e_ gP ?_
 refine e_ kj ?_
 refine h6 Jp ?_
 refine jJ kj ?_
 refine jJ gP ?_
 refine jJ kj ?_
 refine h6 aqs ?_
 refine jJ kj ?_
 refine jJ gP ?_
 refine h6 (W1 hw bV di b_ gQ G u4 dG) ?_
 refine ue ?_
 refine jJ kj ?_
 refine jJ gP ?_
 refine h6 (aqb hw bV di b_ gQ G (q.Ow bo dH) (jc.Ow bo dH)) ?_
 refine ue ?_
 rw[beq_self_eq_true,aU]
 refine e_ gP ?_
 refine e_ gP ?_
 refine h6 Jp ?_
 refine jJ gP ?_
 refine h6 Jp ?_
 refine h6 (W1 hw bV di b_ gQ G u4 u4) ?_
 refine ue ?_
 rw[aog b_ G,aU]
 by_cases z:(jA text).2=0
 ·rw[z,show((0:Int) !=0)=false from rfl,a7]
  refine e_ CW ?_
  refine h6 (W0 (w:=5000) (N:=1000) (by omega) (by omega) (by omega) (by omega) dx gQ zt (ap7 text) (W3 bo dH)) ?_
  refine ue ?_
  rw[ap5 j text z]
  exact aj.some rfl
 ·rw[show((jA text).2 !=0)=true by simpa using z,aU]
  exact aj.some rfl
end
end Go.Proofs.YtjpjeilfmjdhcaaGreat.AI
