/- The layer E, its parts in one file: values and memory, operations, code, and what it comes to. No condition. -/
import Derived.Test.YtjpjeilfmjdhcaaGreatA2
import Derived.SizedLaws
import Derived.KernelRfl
set_option maxRecDepth 100000
set_option linter.unusedVariables false
set_option linter.unusedSimpArgs false
set_option linter.unnecessarySimpa false
namespace Go.Proofs.YtjpjeilfmjdhcaaGreat.E
noncomputable section
inductive dO where
 |any
 |int (k:IntKind)
 |bool
 |str
 |agg (l:List dO)
 |bW (l:List dO)
def al{aK:Type}(b:Bool)(x y:Option aK):Option aK:=match b with
 |true=>x
 |false=>y
def J{α aK:Type}(ao:Option α)(k:α→Option aK):Option aK:=match ao with
 |some v=>k v
 |none=>none
theorem QC{α aK:Type}{ao:Option α}{k:α→Option aK}{r:aK}(h:J ao k=some r):∃v,ao=some v∧k v=some r:=by
 cases ao with
 |none=>cases h
 |some p=>exact⟨p,rfl,h⟩
def ad{aK:Type}(ao:OvL)(k:V→Lo→Option aK):Option aK:=match ao with
 |some p=>k p.1 p.2
 |none=>none
def bO{aK:Type}(ao:Option (cg × Lv × Lo))(k:cg→Lv→Lo→Option aK):Option aK:=match ao with
 |some p=>k p.1 p.2.1 p.2.2
 |none=>none
def bt{aK:Type}(k:IntKind)(v:V)(f:Int→Option aK):Option aK:=match v with
 | .int gu n=>al (decide (gu=k)) (f n) none
 |_=>none
def bG{aK:Type}(v:V)(f:Bool→Option aK):Option aK:=match v with
 | .bool b=>f b
 |_=>none
def b1{aK:Type}(v:V)(f:Lu→Option aK):Option aK:=match v with
 | .str l=>f l
 |_=>none
def sL{aK:Type}(v:V)(f:Lv→Option aK):Option aK:=match v with
 | .agg l=>f l
 |_=>none
def Bx{aK:Type}(v:V)(f:Lv→Option aK):Option aK:=match v with
 | .bW l=>f l
 |_=>none
def im{aK:Type}(l:Lv)(f:V→Lv→Option aK):Option aK:=match l with
 |v::ak=>f v ak
 | []=>none
def dT{aK:Type}(l:Lv)(r:Option aK):Option aK:=match l with
 | []=>r
 |_::_=>none
mutual
def sM{aK:Type}:dO→V→(V→Option aK)→Option aK
 | .any,v,f=>f v
 | .int k,v,f=>bt k v fun n=>f (.int k n)
 | .bool,v,f=>bG v fun b=>f (.bool b)
 | .str,v,f=>b1 v fun l=>f (.str l)
 | .agg eo,v,f=>sL v fun l=>t_ eo l fun ho=>f (.agg ho)
 | .bW eo,v,f=>Bx v fun l=>t_ eo l fun ho=>f (.bW ho)
def t_{aK:Type}:List dO→Lv→(Lv→Option aK)→Option aK
 | [],l,f=>dT l (f [])
 |s::eo,l,f=>im l fun v ak=>sM s v fun eg=>t_ eo ak fun pX=>f (eg::pX)
end
theorem Ex{aK:Type}{b:Bool}{x y:Option aK}{r:aK}(h:al b x y=some r):(b=true∧x=some r)∨(b=false∧y=some r):=by
 cases b
 ·exact .inr ⟨rfl,h⟩
 ·exact .inl ⟨rfl,h⟩
theorem KP{aK:Type}{ao:OvL}{k:V→Lo→Option aK}{r:aK}(h:ad ao k=some r):∃v aa,ao=some (v,aa)∧k v aa=some r:=by
 cases ao with
 |none=>cases h
 |some p=>exact⟨p.1,p.2,rfl,h⟩
theorem aaH{aK:Type}{ao:Option (cg × Lv × Lo)}{k:cg→Lv→Lo→Option aK}{r:aK}(h:bO ao k=some r):∃x v aa,ao=some (x,v,aa)∧k x v aa=some r:=by
 cases ao with
 |none=>cases h
 |some p=>exact⟨p.1,p.2.1,p.2.2,rfl,h⟩
theorem QD{aK:Type}{k:IntKind}{v:V}{f:Int→Option aK}{r:aK}(h:bt k v f=some r):∃n,v= .int k n∧f n=some r:=by
 cases v with
 |int gu n=>
  rcases Ex (show al (decide (gu=k)) (f n) none=some r from h) with⟨q,e⟩|⟨_,e⟩
  ·exact⟨n,by rw[of_decide_eq_true q],e⟩
  ·cases e
 |_=>cases h
theorem QE{aK:Type}{v:V}{f:Bool→Option aK}{r:aK}(h:bG v f=some r):∃n,v= .bool n∧f n=some r:=by
 unfold bG at h
 split at h
 ·exact⟨_,rfl,h⟩
 ·cases h
theorem QF{aK:Type}{v:V}{f:Lu→Option aK}{r:aK}(h:b1 v f=some r):∃n,v= .str n∧f n=some r:=by
 unfold b1 at h
 split at h
 ·exact⟨_,rfl,h⟩
 ·cases h
theorem QG{aK:Type}{v:V}{f:Lv→Option aK}{r:aK}(h:sL v f=some r):∃n,v= .agg n∧f n=some r:=by
 unfold sL at h
 split at h
 ·exact⟨_,rfl,h⟩
 ·cases h
theorem QH{aK:Type}{v:V}{f:Lv→Option aK}{r:aK}(h:Bx v f=some r):∃n,v= .bW n∧f n=some r:=by
 unfold Bx at h
 split at h
 ·exact⟨_,rfl,h⟩
 ·cases h
theorem KQ{aK:Type}{l:Lv}{f:V→Lv→Option aK}{r:aK}(h:im l f=some r):∃v ak,l=v::ak∧f v ak=some r:=by
 cases l with
 |nil=>cases h
 |cons v ak=>exact⟨v,ak,rfl,h⟩
theorem KR{aK:Type}{l:Lv}{ao:Option aK}{r:aK}(h:dT l ao=some r):l=[]∧ao=some r:=by
 cases l with
 |nil=>exact⟨rfl,h⟩
 |cons v ak=>cases h
mutual
theorem QI{aK:Type}:∀{s:dO} {v:V} {f:V→Option aK} {r:aK},sM s v f=some r→f v=some r
 | .any,v,f,r,h=>by simpa only[sM] using h
 | .int k,v,f,r,h=>by
  simp only[sM] at h
  obtain⟨n,e,h⟩:=QD h;rw[e];exact h
 | .bool,v,f,r,h=>by
  simp only[sM] at h
  obtain⟨n,rfl,h⟩:=QE h;exact h
 | .str,v,f,r,h=>by
  simp only[sM] at h
  obtain⟨n,rfl,h⟩:=QF h;exact h
 | .agg eo,v,f,r,h=>by
  simp only[sM] at h
  obtain⟨n,rfl,h⟩:=QG h
  exact By (f:=fun l=>f (.agg l)) h
 | .bW eo,v,f,r,h=>by
  simp only[sM] at h
  obtain⟨n,rfl,h⟩:=QH h
  exact By (f:=fun l=>f (.bW l)) h
theorem By{aK:Type}:∀{eo:List dO} {l:Lv} {f:Lv→Option aK} {r:aK},t_ eo l f=some r→f l=some r
 | [],l,f,r,h=>by
  simp only[t_] at h
  obtain⟨rfl,h⟩:=KR h;exact h
 |s::eo,l,f,r,h=>by
  simp only[t_] at h
  obtain⟨v,ak,rfl,h⟩:=KQ h
  have:=QI h
  exact By (f:=fun pX=>f (v::pX)) this
end
def cy.find:cy→Nat→Option V
 | [],_=>none
 |(d,v)::l,i=>match i.beq d with
  |true=>some v
  |false=>cy.find l i
def cy.gD(E:cy):Nat→V:=cy.get (fun _=> .lG) E
def cy.hold(E:cy)(t:Nat→V):Prop:=∀i v,E.find i=some v→t i=v
def cy.Bz:cy→List Nat→cy
 | [],_=> []
 |(d,v)::l,aM=>match aM.any (Nat.beq d) with
  |true=>cy.Bz l aM
  |false=>(d,v)::cy.Bz l aM
def cy.Ey:cy→List Nat→Lv→cy
 |E,d::aM,v::ak=>cy.Ey (E.set d v) aM ak
 |E,_,_=>E
theorem cy.KS:∀{E:cy} {i:Nat} {v:V},E.find i=some v→E.gD i=v
 | [],i,v,h=>by cases h
 |(d,u)::l,i,v,h=>by
  simp only[cy.find] at h
  simp only[cy.gD,cy.get]
  split at h
  ·rename_i q
   first
   |(injection h;done)
   |(rw[q];injection h)
  ·rename_i q
   first
   |exact cy.KS h
   |(rw[q];exact cy.KS h)
theorem cy.o7:∀{E:cy} {i:Nat},(E.find i).isSome=true→E.find i=some (E.gD i)
 |E,i,h=>by
  obtain⟨v,bg⟩:=Option.isSome_iff_exists.1 h
  rw[bg,cy.KS bg]
theorem cy.KT:∀(E:cy) (d:Nat) (v:V) (o:Nat),(E.set d v).find o=if o=d then some v else E.find o
 | [],d,v,o=>by
  simp only[cy.set,cy.find]
  split
  ·rename_i h;rw[oo] at h;rw[if_pos h]
  ·rename_i h;rw[KK] at h;rw[if_neg h]
 |(g4,eg)::l,d,v,o=>by
  simp only[cy.set]
  split
  ·rename_i h
   rw[oo] at h;subst h
   simp only[cy.find]
   split
   ·rename_i R;rw[oo] at R;rw[if_pos R]
   ·rename_i R;rw[KK] at R;rw[if_neg R]
  ·rename_i h
   rw[KK] at h
   simp only[cy.find]
   split
   ·rename_i R;rw[oo] at R;rw[if_neg (by omega)]
   ·rw[cy.KT l]
theorem cy.KU:∀(E:cy) (aM:List Nat) (o:Nat) (v:V),(E.Bz aM).find o=some v→o∉aM∧E.find o=some v
 | [],aM,o,v,h=>by cases h
 |(d,u)::l,aM,o,v,h=>by
  simp only[cy.Bz] at h
  split at h
  ·rename_i q
   obtain⟨aX,aY⟩:=cy.KU l aM o v h
   refine⟨aX, ?_⟩
   simp only[cy.find]
   split
   ·rename_i z
    rw[oo] at z;subst z
    rw[List.any_eq_true] at q
    obtain⟨x,aE,aR⟩:=q
    rw[oo] at aR;subst aR
    exact absurd aE aX
   ·exact aY
  ·rename_i q
   simp only[cy.find] at h⊢
   split at h
   ·rename_i z
    refine⟨fun aE=> ?_,h⟩
    rw[oo] at z;subst z
    rw[Bool.eq_false_iff] at q
    exact q (List.any_eq_true.2 ⟨_,aE,oo.2 rfl⟩)
   ·exact cy.KU l aM o v h
theorem cy.aaI{E:cy}{t:Nat→V}(h:E.hold t)(d:Nat)(v:V):(E.set d v).hold (pI t d v):=by
 intro i u hu
 rw[cy.KT] at hu
 unfold pI
 split at hu
 ·rename_i q;rw[if_pos q];injection hu
 ·rename_i q;rw[if_neg q];exact h i u hu
theorem cy.vY{E:cy}{t:Nat→V}(h:E.hold t){d:Nat}{v:V}(bj:t d=v):(E.set d v).hold t:=by
 intro i u hu
 rw[cy.KT] at hu
 split at hu
 ·rename_i q;subst q;injection hu with hu;subst hu;exact bj
 ·exact h i u hu
theorem cy.QJ{E:cy}{t:Nat→V}(h:E.hold t)(d:Option Nat)(v:V):(kY E d v).hold (g5 t d v):=by
 cases d with
 |none=>exact h
 |some d=>exact cy.aaI h d v
theorem cy.QK{t:Nat→V}:∀{aM:List Nat} {ak:Lv} {E:cy},E.hold t→aM.map t=ak→(E.Ey aM ak).hold t
 | [],ak,E,h,q=>by subst q;exact h
 |d::aM,ak,E,h,q=>by
  subst q
  simp only[List.map_cons,cy.Ey]
  exact cy.QK (cy.vY h rfl) rfl
theorem cy.Ez{t:Nat→V}:∀(aM:List Nat),cy.hold (aM.zip (aM.map t)) t
 | [],i,v,h=>by cases h
 |d::aM,i,v,h=>by
  simp only[List.map_cons,List.zip_cons_cons,cy.find] at h
  split at h
  ·rename_i q;rw[oo] at q;subst q;injection h
  ·exact cy.Ez aM i v h
def bJ.known(E:cy):bJ→Bool
 | .t i=>(E.find i).isSome
 | .c _=>true
theorem bJ.KV{E:cy}{t:Nat→V}(h:E.hold t){x:bJ}(k:x.known E=true):x.get t=x.get E.gD:=by
 cases x with
 |t i=>exact h i _ (cy.o7 k)
 |c v=>rfl
theorem bJ.KW{E:cy}{t:Nat→V}(h:E.hold t):∀{xs:List bJ},xs.all (bJ.known E)=true→xs.map (·.get t)=xs.map (·.get E.gD)
 | [],_=>rfl
 |x::xs,k=>by
  simp only[List.all_cons,Bool.and_eq_true] at k
  simp only[List.map_cons,bJ.KV h k.1,bJ.KW h k.2]
def KX(E:cy)(e:fF):Bool:=e.rd.all fun i=>(E.find i).isSome
theorem KY{E:cy}{t:Nat→V}(dx:E.hold t){e:fF}(k:KX E e=true)(h:Lo):cQ e t h=e8 e E.gD h:=by
 rw[aaA]
 exact Kc (fun i aw=>dx i _ (cy.o7 (List.all_eq_true.1 k i aw))) h
def aB(e:fF)(h:Lo):OvL:=e8 e (fun _=> .lG) h
def I(e:fF)(h:Lo):Option V:=(aB e h).map Prod.fst
def QL:fF→Bool
 | .alloc _ _=>false
 | .box _ _=>false
 | .dN _ _ _ _=>false
 | .store _ _ _=>false
 | .O1 _=>false
 | .O2 _ _ _ _=>false
 | .app _ _ _ _=>false
 | .copy _ _ _=>false
 | .O3=>false
 | .O5 _ _ _ _=>false
 | .delete _ _ _=>false
 | .O6 _ _ _ _ _=>false
 | .o1 _=>false
 | .O7 _=>false
 | .og _=>false
 | .O9 _ _ _=>false
 |_=>true
theorem aaJ{ao:Option V}{h aa:Lo}{v:V}(e:(ao.map fun v=>(v,h))=some (v,aa)):aa=h:=by
 cases ao with
 |none=>cases e
 |some u=>injection e with e;injection e with _ e;exact e.symm
theorem aaK{e:fF}{t:Nat→V}{h aa:Lo}{v:V}(bc:QL e=true)(q:cQ e t h=some (v,aa)):aa=h:=by
 cases e<;>first|(cases bc;done)|skip
 case build z ah=>
  simp only[cQ] at q
  generalize je z _=ao at q
  cases ao with
  |none=>cases q
  |some u=>injection q with q;injection q with _ q;exact q.symm
 case cm x=>
  simp only[cQ] at q
  generalize ss h _=ao at q
  cases ao with
  |none=>cases q
  |some u=>injection q with q;injection q with _ q;exact q.symm
 case DU x=>cases q
 case O8 x=>cases q
 case eq neg T x y=>
  simp only[cQ] at q
  generalize sr h T _ _=ao at q
  cases ao with
  |none=>cases q
  |some u=>injection q with q;injection q with _ q;exact q.symm
 all_goals
  simp only[cQ] at q
  repeat' split at q
  all_goals first
   |(cases q;done)
   |exact aaJ q
   |(injection q with q;injection q with _ q;exact q.symm)
abbrev dy:=FuncId→Lv→Lo→OvL
abbrev bK:=V→Lv→Lo→OvL
abbrev a9:=Option (cg × Lv × Lo)
abbrev oq:=List (cg × List Nat × List dO)
structure o8 where
 call:dy
 ay:bK
 sub:Nat→Lv→Lo→a9
def bk{aK:Type}(p:Prop)(ao:Option aK):Option aK:= @ite _ p (Classical.propDecidable p) ao none
theorem QM{aK:Type}{p:Prop}{ao:Option aK}{r:aK}(h:bk p ao=some r):p∧ao=some r:=by
 unfold bk at h
 split at h
 ·rename_i q;exact⟨q,h⟩
 ·cases h
theorem o9{aK:Type}{p:Prop}(ao:Option aK)(h:p):bk p ao=ao:=by
 unfold bk;rw[if_pos h]
def KZ(E:cy):Option (Nat × Bool)→Option Bool
 |none=>some true
 |some (s,q)=>match E.find s with
  |some (.bool true)=>some q
  |some (.bool false)=>some (!q)
  |some (.bW [])=>some false
  |_=>none
theorem QN{E:cy}{t:Nat→V}(dx:E.hold t){g:Option (Nat × Bool)}{b:Bool}(h:KZ E g=some b):kA t g=some b:=by
 cases g with
 |none=>exact h
 |some p=>
  obtain⟨s,q⟩:=p
  simp only[KZ] at h
  split at h
  ·rename_i e;injection h with h;subst h;simp only[kA,dx s _ e];cases q<;>rfl
  ·rename_i e;injection h with h;subst h;simp only[kA,dx s _ e];cases q<;>rfl
  ·rename_i e;injection h with h;subst h;simp only[kA,dx s _ e]
  ·cases h
def pZ{aK:Type}(E:cy)(h:Lo):List ga→Option aK→Option aK
 | [],r=>r
 |g::gs,r=>match g.act,g.dst with
  | .op e,some d=>match KZ E g.guard with
   |some true=>match KX E e,(E.find d).isSome with
    |true,true=>bk ((e8 e E.gD h).map Prod.fst=some (E.gD d)) (pZ E h gs r)
    |_,_=>none
   |some false=>match E.find d with
    |some (.bW [])=>pZ E h gs r
    |_=>none
   |none=>none
  |_,_=>none
def K0{aK:Type}(ao:Option (List (V × Lo)))(k:V→Lo→Option aK):Option aK:=match ao with
 |some [p]=>k p.1 p.2
 |_=>none
theorem aaL{aK:Type}{ao:Option (List (V × Lo))}{k:V→Lo→Option aK}{r:aK}(e:K0 ao k=some r):∃v h,ao=some [(v,h)]∧k v h=some r:=by
 unfold K0 at e
 split at e
 ·rename_i p
  exact⟨p.1,p.2,rfl,e⟩
 ·cases e
def sN{aK:Type}(eU:o8)(x:km)(E:cy)(h:Lo)(k:V→Lo→Option aK):Option aK:=match x with
 | .op e=>match KX E e with
  |true=>match QL e with
   |true=>J ((e8 e E.gD h).map Prod.fst) fun v=>k v h
   |false=>ad (e8 e E.gD h) k
  |false=>none
 | .call f args=>match args.all (bJ.known E) with
  |true=>ad (eU.call f (args.map (·.get E.gD)) h) k
  |false=>none
 | .ry mD args=>match(mD::args).all (bJ.known E) with
  |true=>ad (eU.ay (mD.get E.gD) (args.map (·.get E.gD)) h) k
  |false=>none
 | .tU x=>match bJ.known E x with
  |true=>K0 (A3 h (x.get E.gD)) k
  |false=>none
 |_=>none
def yb{aK:Type}(A:List (Nat × dO))(d:Option Nat)(v:V)(k:V→Option aK):Option aK:=match d with
 |none=>k v
 |some d=>match A.lookup d with
  |some s=>sM s v k
  |none=>k v
def o_{aK:Type}(A:List (Nat × dO))(eU:o8):List hr→cy→Lo→(cy→Lo→Option aK)→Option aK
 | [],E,h,k=>k E h
 |i::rest,E,h,k=>match i.guard with
  |none=>sN eU i.act E h fun v aa=>yb A i.dst v fun eg=>pZ (kY E i.dst eg) aa i.da (o_ A eU rest (kY E i.dst eg) aa k)
  |some (s,q)=>match(E.find s).isSome with
   |false=>none
   |true=>match E.gD s with
    | .bool b=>al b
      (match q with
       |true=>sN eU i.act (E.set s (.bool true)) h fun v aa=>yb A i.dst v fun eg=>pZ (kY (E.set s (.bool true)) i.dst eg) aa i.da (o_ A eU rest (kY (E.set s (.bool true)) i.dst eg) aa k)
       |false=>pZ (kY (E.set s (.bool true)) i.dst (.bW [])) h i.da (o_ A eU rest (kY (E.set s (.bool true)) i.dst (.bW [])) h k))
      (match q with
       |false=>sN eU i.act (E.set s (.bool false)) h fun v aa=>yb A i.dst v fun eg=>pZ (kY (E.set s (.bool false)) i.dst eg) aa i.da (o_ A eU rest (kY (E.set s (.bool false)) i.dst eg) aa k)
       |true=>pZ (kY (E.set s (.bool false)) i.dst (.bW [])) h i.da (o_ A eU rest (kY (E.set s (.bool false)) i.dst (.bW [])) h k))
    | .bW []=>pZ (kY E i.dst (.bW [])) h i.da (o_ A eU rest (kY E i.dst (.bW [])) h k)
    |_=>none
def EA{aK:Type}:oq→cg→(cg→List Nat→List dO→Option aK)→Option aK
 | [],_,_=>none
 |ao::os,x,f=>al (decide (x=ao.1)) (f ao.1 ao.2.1 ao.2.2) (EA os x f)
def vZ:oq→cg→Option (List Nat)
 | [],_=>none
 |ao::os,x=>if x=ao.1 then some ao.2.1 else vZ os x
theorem QO{aK:Type}:∀{os:oq} {x:cg} {f:cg→List Nat→List dO→Option aK} {r:aK},EA os x f=some r→∃aM qG,vZ os x=some aM∧f x aM qG=some r
 | [],x,f,r,h=>by cases h
 |ao::os,x,f,r,h=>by
  simp only[EA] at h
  rcases Ex h with⟨q,h⟩|⟨q,h⟩
  ·have q:=of_decide_eq_true q
   refine⟨ao.2.1,ao.2.2, ?_,by rw[q];exact h⟩
   simp only[vZ];rw[if_pos q]
  ·have q:=of_decide_eq_false q
   obtain⟨aM,qG,aX,aY⟩:=QO h
   refine⟨aM,qG, ?_,aY⟩
   simp only[vZ];rw[if_neg q];exact aX
inductive jt where
 |skip
 |mc (l:List hr)
 |seq (x y:jt)
 |cond (c:bJ) (x y:jt)
 |block (id:Nat) (x:jt)
 |exit (id:Nat)
 |ret
 |draw (ls:List (List hr))
 |sub (i:Nat) (c:js) (ins:List Nat) (outs:oq)
def jt.I:jt→js
 | .skip=> .skip
 | .mc l=> .mc l
 | .seq x y=> .seq x.I y.I
 | .cond c x y=> .cond c x.I y.I
 | .block id x=> .block id x.I
 | .exit id=> .exit id
 | .ret=> .ret
 | .draw ls=> .draw ls
 | .sub _ c _ _=>c
def mG:List hr→List Nat
 | []=> []
 |i::l=>match i.dst with
  |some d=>d::mG l
  |none=>mG l
def mH:js→List Nat
 | .mc l=>mG l
 | .draw ls=>ls.flatMap mG
 | .seq x y=>mH x++mH y
 | .cond _ x y=>mH x++mH y
 | .block _ x=>mH x
 | .loop x=>mH x
 |_=> []
def QP{aK:Type}(c:bJ)(E:cy)(a b:cy→Option aK):Option aK:=match c with
 | .t s=>match(E.find s).isSome with
  |true=>match E.gD s with
   | .bool q=>al q (a (E.set s (.bool true))) (b (E.set s (.bool false)))
   |_=>none
  |false=>none
 | .c v=>match v with
  | .bool true=>a E
  | .bool false=>b E
  |_=>none
def EB{aK:Type}(A:List (Nat × dO))(eU:o8)(E:cy)(h:Lo)(aM:List Nat)(out:Lv × Lo):List (List hr)→Option aK→Option aK
 | [],r=>r
 |l::ls,r=>bk ((o_ A eU l E h fun gl aa=>match aM.all fun d=>(gl.find d).isSome with
  |true=>some (aM.map gl.gD,aa)
  |false=>none)=some out) (EB A eU E h aM out ls r)
def kE{aK:Type}(A:List (Nat × dO))(eU:o8):jt→cy→Lo→(cg→cy→Lo→Option aK)→Option aK
 | .skip,E,h,k=>k .normal E h
 | .mc l,E,h,k=>o_ A eU l E h (k .normal)
 | .seq x y,E,h,k=>kE A eU x E h fun ex E h=>match ex with
  | .normal=>kE A eU y E h k
  | .exit o=>k (.exit o) E h
  | .ret=>k .ret E h
 | .cond c x y,E,h,k=>QP c E (fun E=>kE A eU x E h k) (fun E=>kE A eU y E h k)
 | .block id x,E,h,k=>kE A eU x E h fun ex E h=>k (KO id ex) E h
 | .exit id,E,h,k=>k (.exit id) E h
 | .ret,E,h,k=>k .ret E h
 | .draw ls,E,h,k=>match ls with
  | []=>none
  |l::rest=>o_ A eU l E h fun gl aa=>match(mG l).all (fun d=>(gl.find d).isSome),rest.all (fun ho=>(mG ho).all fun d=>(mG l).any (Nat.beq d)) with
   |true,true=>EB A eU E h (mG l) ((mG l).map gl.gD,aa) rest (k .normal gl aa)
   |_,_=>none
 | .sub i c ins outs,E,h,k=>match ins.all fun d=>(E.find d).isSome with
  |true=>bO (eU.sub i (ins.map E.gD) h) fun x ak aa=>EA outs x fun iI aM qG=>t_ qG ak fun pX=>k iI ((E.Bz (mH c)).Ey aM pX) aa
  |false=>none
def qH(P:Program)(c:js)(ins:List Nat)(outs:oq)(f:Lv→Lo→a9):Prop:=
 ∀t h x ak aa,f (ins.map t) h=some (x,ak,aa)→∃bR aM,kD P c t h x bR aa∧vZ outs x=some aM∧aM.map bR=ak∧∀o,o∉mH c→bR o=t o
def fv(P:Program)(f:dy):Prop:=∀g args h v aa,f g args h=some (v,aa)→kZ P g args h v aa
def dC(P:Program)(f:bK):Prop:=∀u args h v aa,f u args h=some (v,aa)→∃g fz,(u= .fn g fz∧kZ P g (args++fz) h v aa)∨(u= .eD g fz∧kZ P g (fz++args) h v aa)
def jt.ok(P:Program)(eU:o8):jt→Prop
 | .seq x y=>x.ok P eU∧y.ok P eU
 | .cond _ x y=>x.ok P eU∧y.ok P eU
 | .block _ x=>x.ok P eU
 | .sub i c ins outs=>qH P c ins outs (eU.sub i)
 |_=>True
theorem aaM{P:Program}{aK:Type}{eU:o8}(an:fv P eU.call)(bg:dC P eU.ay){x:km}{E:cy}{h:Lo}{k:V→Lo→Option aK}{r:aK}(e:sN eU x E h k=some r){t:Nat→V}(dx:E.hold t):
  ∃v aa,(∀{K:V→Lo→Prop},K v aa→kV P x t h K)∧k v aa=some r:=by
 cases x with
 |op q=>
  simp only[sN] at e
  split at e
  ·rename_i aH
   split at e
   ·rename_i bc
    obtain⟨v,aV,bb⟩:=QC e
    obtain⟨⟨eg,aa⟩,cb,dI⟩:=Option.map_eq_some_iff.1 aV
    subst dI
    have fQ:=KY dx aH h
    rw[cb] at fQ
    have:=aaK bc fQ
    subst this
    refine⟨eg,aa,fun K=> ?_,bb⟩
    simp only[kV,fQ]
    exact K
   ·obtain⟨v,aa,aV,bb⟩:=KP e
    refine⟨v,aa,fun K=> ?_,bb⟩
    simp only[kV,KY dx aH,aV]
    exact K
  ·cases e
 |call f args=>
  simp only[sN] at e
  split at e
  ·rename_i aH
   obtain⟨v,aa,aV,bb⟩:=KP e
   refine⟨v,aa,fun K=> ?_,bb⟩
   simp only[kV]
   rw[←bJ.KW dx aH] at aV
   exact(an _ _ _ _ _ aV).wp K
  ·cases e
 |ry mD args=>
  simp only[sN] at e
  split at e
  ·rename_i aH
   obtain⟨v,aa,aV,bb⟩:=KP e
   refine⟨v,aa,fun K=> ?_,bb⟩
   simp only[List.all_cons,Bool.and_eq_true] at aH
   rw[←bJ.KW dx aH.2,←bJ.KV dx aH.1] at aV
   obtain⟨g,fz,⟨aX,aY⟩|⟨aX,aY⟩⟩:=bg _ _ _ _ _ aV
   ·simp only[kV,aX]
    exact⟨aY.1,aY.wp K⟩
   ·simp only[kV,aX]
    exact⟨aY.1,aY.wp K⟩
  ·cases e
 |tU y=>
  simp only[sN] at e
  split at e
  ·rename_i aH
   obtain⟨v,aa,aV,bb⟩:=aaL e
   refine⟨v,aa,fun K=> ?_,bb⟩
   rw[←bJ.KV dx aH] at aV
   simp only[kV,aV]
   intro p hp
   simp only[List.mem_cons,List.not_mem_nil,or_false] at hp
   subst hp
   exact K
  ·cases e
 |bad=>cases e
theorem EC{aK:Type}{E:cy}{h:Lo}{t:Nat→V}(dx:E.hold t):∀{gs:List ga} {ao:Option aK} {r:aK},pZ E h gs ao=some r→ao=some r∧∀K:Prop,K→pU gs t h K
 | [],ao,r,e=>⟨e,fun K k=>k⟩
 |g::gs,ao,r,e=>by
  simp only[pZ] at e
  split at e
  ·rename_i aV d bh bj
   split at e
   ·rename_i hw
    have hw:=QN dx hw
    split at e
    ·rename_i aH aaN
     obtain⟨p,e⟩:=QM e
     obtain⟨aX,aY⟩:=EC dx e
     refine⟨aX,fun K k=> ?_⟩
     simp only[pU,qA,bj]
     refine⟨?_,aY K k⟩
     simp only[oh,hw,bh,KY dx aH]
     rw[p,dx d _ (cy.o7 aaN)]
    ·cases e
   ·rename_i hw
    have hw:=QN dx hw
    split at e
    ·rename_i aH
     obtain⟨aX,aY⟩:=EC dx e
     refine⟨aX,fun K k=> ?_⟩
     simp only[pU,qA,bj]
     refine⟨?_,aY K k⟩
     simp only[oh,hw,dx d _ aH]
    ·cases e
   ·cases e
  ·cases e
theorem aaO{aK:Type}{A:List (Nat × dO)}{d:Option Nat}{v:V}{k:V→Option aK}{r:aK}(e:yb A d v k=some r):k v=some r:=by
 unfold yb at e
 split at e
 ·exact e
 ·split at e
  ·exact QI e
  ·exact e
theorem ED{t:Nat→V}{d:Option Nat}{v:V}{o:Nat}(h:∀x,d=some x→o≠x):g5 t d v o=t o:=by
 cases d with
 |none=>rfl
 |some d=>simp only[g5,pI];rw[if_neg (h d rfl)]
theorem BA{P:Program}{aK:Type}{A:List (Nat × dO)}{eU:o8}(an:fv P eU.call)(bg:dC P eU.ay):∀{l:List hr} {E:cy} {h:Lo} {k:cy→Lo→Option aK} {r:aK},o_ A eU l E h k=some r→∀{t:Nat→V},E.hold t→
  ∃bR gl aa,(∀Q:ia,Q .normal bR aa→gX P Q l t h)∧gl.hold bR∧(∀o,o∉mG l→bR o=t o)∧k gl aa=some r
 | [],E,h,k,r,e,t,dx=>⟨t,E,h,fun Q q=>q,dx,fun _ _=>rfl,e⟩
 |i::rest,E,h,k,r,e,t,dx=>by
  have yes:∀{E:cy},E.hold t→kA t i.guard=some true→
    (sN eU i.act E h fun v aa=>yb A i.dst v fun eg=>pZ (kY E i.dst eg) aa i.da (o_ A eU rest (kY E i.dst eg) aa k))=some r→
    ∃bR gl aa,(∀Q:ia,Q .normal bR aa→gX P Q (i::rest) t h)∧gl.hold bR∧(∀o,o∉mG (i::rest)→bR o=t o)∧k gl aa=some r:=by
   intro E dx hw e
   obtain⟨v,R,aX,e⟩:=aaM an bg e dx
   have e:=aaO e
   have BB:=cy.QJ dx i.dst v
   obtain⟨e,aY⟩:=EC BB e
   obtain⟨bR,gl,aa,aE,aR,bE,bS⟩:=BA an bg e BB
   refine⟨bR,gl,aa,fun Q q=> ?_,aR,fun o U=> ?_,bS⟩
   ·simp only[gX,hw]
    exact aX (aY _ (aE Q q))
   ·simp only[mG] at U
    split at U
    ·rename_i d bj
     simp only[List.mem_cons,not_or] at U
     rw[bE o U.2]
     exact ED (fun x au=>by rw[bj] at au;injection au with au;subst au;exact U.1)
    ·rename_i bj
     rw[bE o U]
     exact ED (fun x au=>by rw[bj] at au;cases au)
  have no:∀{E:cy},E.hold t→kA t i.guard=some false→
    pZ (kY E i.dst (.bW [])) h i.da (o_ A eU rest (kY E i.dst (.bW [])) h k)=some r→
    ∃bR gl aa,(∀Q:ia,Q .normal bR aa→gX P Q (i::rest) t h)∧gl.hold bR∧(∀o,o∉mG (i::rest)→bR o=t o)∧k gl aa=some r:=by
   intro E dx hw e
   have BB:=cy.QJ dx i.dst (.bW [])
   obtain⟨e,aY⟩:=EC BB e
   obtain⟨bR,gl,aa,aE,aR,bE,bS⟩:=BA an bg e BB
   refine⟨bR,gl,aa,fun Q q=> ?_,aR,fun o U=> ?_,bS⟩
   ·simp only[gX,hw]
    exact aY _ (aE Q q)
   ·simp only[mG] at U
    split at U
    ·rename_i d bj
     simp only[List.mem_cons,not_or] at U
     rw[bE o U.2]
     exact ED (fun x au=>by rw[bj] at au;injection au with au;subst au;exact U.1)
    ·rename_i bj
     rw[bE o U]
     exact ED (fun x au=>by rw[bj] at au;cases au)
  simp only[o_] at e
  split at e
  ·rename_i dt
   exact yes dx (by rw[dt];rfl) e
  ·rename_i s q dt
   split at e
   ·cases e
   ·rename_i a6
    split at e
    ·rename_i b aF
     have lN:t s= .bool b:=by rw[dx s _ (cy.o7 a6),aF]
     rcases Ex e with⟨rfl,e⟩|⟨rfl,e⟩
     ·cases q
      ·exact no (cy.vY dx lN) (by rw[dt];simp only[kA,lN];rfl) e
      ·exact yes (cy.vY dx lN) (by rw[dt];simp only[kA,lN];rfl) e
     ·cases q
      ·exact yes (cy.vY dx lN) (by rw[dt];simp only[kA,lN];rfl) e
      ·exact no (cy.vY dx lN) (by rw[dt];simp only[kA,lN];rfl) e
    ·rename_i aF
     have lN:t s= .bW []:=by rw[dx s _ (cy.o7 a6),aF]
     exact no dx (by rw[dt];simp only[kA,lN]) e
    ·cases e
theorem QQ{P:Program}{aK:Type}{A:List (Nat × dO)}{eU:o8}(an:fv P eU.call)(bg:dC P eU.ay){E:cy}{h:Lo}{aM:List Nat}{t bR:Nat→V}{aa:Lo}(dx:E.hold t)(out:∀o,o∉aM→bR o=t o):
  ∀{ls:List (List hr)} {ao:Option aK} {r:aK},(∀l,l∈ls→∀d,d∈mG l→d∈aM)→EB A eU E h aM (aM.map bR,aa) ls ao=some r→ao=some r∧∀l,l∈ls→∀Q:ia,Q .normal bR aa→gX P Q l t h
 | [],ao,r,_,e=>⟨e,fun l ax=>by cases ax⟩
 |l::ls,ao,r,a6,e=>by
  simp only[EB] at e
  obtain⟨p,e⟩:=QM e
  obtain⟨aX,aY⟩:=QQ an bg dx out (fun l ax=>a6 l (List.mem_cons_of_mem _ ax)) e
  refine⟨aX,fun ho hg=> ?_⟩
  rcases List.mem_cons.1 hg with rfl|hg
  ·intro Q q
   obtain⟨t2,xX,ae,aE,aR,bE,bS⟩:=BA an bg p dx
   split at bS
   ·rename_i aH
    injection bS with bS;injection bS with bS dn;subst dn
    refine aE Q ?_
    have:t2=bR:=by
     funext o
     by_cases U:o∈aM
     ·have R:t2 o=xX.gD o:=aR o _ (cy.o7 (List.all_eq_true.1 aH o U))
      rw[R]
      have:=List.map_inj_left.1 bS o U
      exact this
     ·rw[out o U,bE o (fun q=>U (a6 _ hg o q))]
    rw[this];exact q
   ·cases bS
  ·exact aY ho hg
theorem K1{P:Program}{aK:Type}{A:List (Nat × dO)}{eU:o8}(an:fv P eU.call)(bg:dC P eU.ay):∀{c:jt} {E:cy} {h:Lo} {k:cg→cy→Lo→Option aK} {r:aK},c.ok P eU→kE A eU c E h k=some r→∀{t:Nat→V},E.hold t→
  ∃x bR gl aa,kD P c.I t h x bR aa∧gl.hold bR∧(∀o,o∉mH c.I→bR o=t o)∧k x gl aa=some r:=by
 intro c
 induction c with
 |skip=>intro E h k r ok e t dx;exact⟨.normal,t,E,h,fun Q q=>q,dx,fun _ _=>rfl,e⟩
 |mc l=>
  intro E h k r ok e t dx
  simp only[kE] at e
  obtain⟨bR,gl,aa,aE,aR,bE,bS⟩:=BA an bg e dx
  exact⟨.normal,bR,gl,aa,aE,aR,bE,bS⟩
 |seq a b sK vX=>
  intro E h k r ok e t dx
  simp only[kE] at e
  obtain⟨x,t1,qw,R,aE,aR,bE,bS⟩:=sK ok.1 e dx
  cases x with
  |normal=>
   obtain⟨x,t2,xX,ae,cF,cW,hW,qF⟩:=vX ok.2 bS aR
   refine⟨x,t2,xX,ae,aE.seq cF,cW,fun o U=> ?_,qF⟩
   simp only[jt.I,mH,List.mem_append,not_or] at U
   rw[hW o U.2,bE o U.1]
  |exit o=>exact⟨_,t1,qw,R,aE.stop (by simp),aR,fun o U=>bE o (fun q=>U (by simp[jt.I,mH,q])),bS⟩
  |ret=>exact⟨_,t1,qw,R,aE.stop (by simp),aR,fun o U=>bE o (fun q=>U (by simp[jt.I,mH,q])),bS⟩
 |cond c a b sK vX=>
  intro E h k r ok e t dx
  have QR:∀{E:cy},E.hold t→c.get t= .bool true→kE A eU a E h k=some r→∃x bR gl aa,kD P (jt.cond c a b).I t h x bR aa∧gl.hold bR∧(∀o,o∉mH (jt.cond c a b).I→bR o=t o)∧k x gl aa=some r:=by
   intro E dx aF e
   obtain⟨x,t1,qw,R,aE,aR,bE,bS⟩:=sK ok.1 e dx
   refine⟨x,t1,qw,R,fun Q q=> ?_,aR,fun o U=>bE o (fun q=>U (by simp[jt.I,mH,q])),bS⟩
   simp only[jt.I,kB,aF]
   exact aE Q q
  have QS:∀{E:cy},E.hold t→c.get t= .bool false→kE A eU b E h k=some r→∃x bR gl aa,kD P (jt.cond c a b).I t h x bR aa∧gl.hold bR∧(∀o,o∉mH (jt.cond c a b).I→bR o=t o)∧k x gl aa=some r:=by
   intro E dx aF e
   obtain⟨x,t1,qw,R,aE,aR,bE,bS⟩:=vX ok.2 e dx
   refine⟨x,t1,qw,R,fun Q q=> ?_,aR,fun o U=>bE o (fun q=>U (by simp[jt.I,mH,q])),bS⟩
   simp only[jt.I,kB,aF]
   exact aE Q q
  simp only[kE,QP] at e
  split at e
  ·rename_i s
   split at e
   ·rename_i a6
    split at e
    ·rename_i q bm
     have lN:t s= .bool q:=by rw[dx s _ (cy.o7 a6),bm]
     rcases Ex e with⟨rfl,e⟩|⟨rfl,e⟩
     ·exact QR (cy.vY dx lN) lN e
     ·exact QS (cy.vY dx lN) lN e
    ·cases e
   ·cases e
  ·split at e
   ·exact QR dx rfl e
   ·exact QS dx rfl e
   ·cases e
 |block id a sK=>
  intro E h k r ok e t dx
  simp only[kE] at e
  obtain⟨x,t1,qw,R,aE,aR,bE,bS⟩:=sK ok e dx
  exact⟨_,t1,qw,R,aE.block,aR,bE,bS⟩
 |exit id=>intro E h k r ok e t dx;exact⟨.exit id,t,E,h,fun Q q=>q,dx,fun _ _=>rfl,e⟩
 |ret=>intro E h k r ok e t dx;exact⟨.ret,t,E,h,fun Q q=>q,dx,fun _ _=>rfl,e⟩
 |draw ls=>
  intro E h k r ok e t dx
  simp only[kE] at e
  split at e
  ·cases e
  ·rename_i l rest
   obtain⟨bR,gl,aa,aE,aR,bE,bS⟩:=BA an bg e dx
   split at bS
   ·rename_i aH a6
    have hm:(mG l).map gl.gD=(mG l).map bR:=List.map_congr_left fun d bj=>(aR d _ (cy.o7 (List.all_eq_true.1 aH d bj))).symm
    rw[hm] at bS
    obtain⟨aX,aY⟩:=QQ an bg dx bE (fun ho hg d bj=>by
     have:=List.all_eq_true.1 (List.all_eq_true.1 a6 ho hg) d bj
     rw[List.any_eq_true] at this
     obtain⟨x,cp,du⟩:=this
     rw[oo] at du;subst du;exact cp) bS
    refine⟨.normal,bR,gl,aa,fun Q q=> ?_,aR,fun o U=>bE o (fun q=>U ?_),aX⟩
    ·simp only[jt.I,kB]
     intro ho hg
     rcases List.mem_cons.1 hg with rfl|hg
     ·exact aE Q q
     ·exact aY ho hg Q q
    ·simp only[jt.I,mH,List.mem_flatMap]
     exact⟨l,by simp,q⟩
   ·cases bS
 |sub i c ins outs=>
  intro E h k r ok e t dx
  simp only[kE] at e
  split at e
  ·rename_i aH
   obtain⟨x,ak,R,aV,e⟩:=aaH e
   obtain⟨aM,qG,aX,e⟩:=QO e
   have e:=By e
   have hm:ins.map E.gD=ins.map t:=List.map_congr_left fun d bj=>(dx d _ (cy.o7 (List.all_eq_true.1 aH d bj))).symm
   rw[hm] at aV
   obtain⟨t1,K2,aE,aR,bE,bS⟩:=ok t h x ak R aV
   rw[aX] at aR;injection aR with aR;subst aR
   refine⟨x,t1,_,R,aE,cy.QK (fun o v U=> ?_) bE,bS,e⟩
   obtain⟨hV,hN⟩:=cy.KU _ _ _ _ U
   rw[bS o hV]
   exact dx o v hN
  ·cases e
def yc(outs:oq)(x:cg)(E:cy)(h:Lo):a9:=match vZ outs x with
 |some aM=>match aM.all fun d=>(E.find d).isSome with
  |true=>some (x,aM.map E.gD,h)
  |false=>none
 |none=>none
def j0(ins:List Nat)(qG:List dO)(outs:oq)(g:Lv→Lo→a9)(x:cg)(E:cy)(h:Lo):a9:=match x with
 | .normal=>match ins.all fun d=>(E.find d).isSome with
  |true=>t_ qG (ins.map E.gD) fun ak=>g ak h
  |false=>none
 | .exit o=>yc outs (.exit o) E h
 | .ret=>yc outs .ret E h
theorem K3{outs:oq}{x y:cg}{E:cy}{h aa:Lo}{ak:Lv}(e:yc outs x E h=some (y,ak,aa)){t:Nat→V}(dx:E.hold t):∃aM,y=x∧aa=h∧vZ outs x=some aM∧aM.map t=ak:=by
 unfold yc at e
 split at e
 ·rename_i aM aaP
  split at e
  ·rename_i aH
   injection e with e;injection e with aV bb;injection bb with bb cb
   refine⟨aM,aV.symm,cb.symm,aaP, ?_⟩
   rw[←bb]
   exact List.map_congr_left fun d bj=>dx d _ (cy.o7 (List.all_eq_true.1 aH d bj))
  ·cases e
 ·cases e
theorem qH.of{P:Program}{A:List (Nat × dO)}{eU:o8}{c:jt}{ins:List Nat}{outs:oq}{f:Lv→Lo→a9}(an:fv P eU.call)(bg:dC P eU.ay)(ok:c.ok P eU)
  (e:∀ak h r,f ak h=some r→kE A eU c (ins.zip ak) h (yc outs)=some r):qH P c.I ins outs f:=by
 intro t h x ak aa q
 obtain⟨y,bR,gl,R,aE,aR,bE,bS⟩:=K1 an bg ok (e _ _ _ q) (cy.Ez ins)
 obtain⟨aM,rfl,rfl,aX,aY⟩:=K3 bS aR
 exact⟨bR,aM,aE,aX,aY,bE⟩
theorem qH.loop{P:Program}{A:List (Nat × dO)}{eU:o8}{c:jt}{ins:List Nat}{qG:List dO}{outs:oq}{G:Nat→Lv→Lo→a9}(an:fv P eU.call)(bg:dC P eU.ay)(ok:c.ok P eU)
  (aI:∀ak h r,G 0 ak h=some r→False) (e:∀n ak h r,G (n+1) ak h=some r→kE A eU c (ins.zip ak) h (j0 ins qG outs (G n))=some r):∀n,qH P (.loop c.I) ins outs (G n)
 |0=>fun t h x ak aa q=>(aI _ _ _ q).elim
 |n+1=>by
  intro t h x ak aa q
  obtain⟨y,bR,gl,R,aE,aR,bE,bS⟩:=K1 an bg ok (e _ _ _ _ q) (cy.Ez ins)
  cases y with
  |normal=>
   simp only[j0] at bS
   split at bS
   ·rename_i aH
    have bS:=By bS
    have hm:ins.map gl.gD=ins.map bR:=List.map_congr_left fun d bj=>(aR d _ (cy.o7 (List.all_eq_true.1 aH d bj))).symm
    rw[hm] at bS
    obtain⟨t2,aM,cF,cW,hW,qF⟩:=qH.loop an bg ok aI e n bR R x ak aa bS
    exact⟨t2,aM,aE.round cF,cW,hW,fun o U=>by rw[qF o U];exact bE o U⟩
   ·cases bS
  |exit o=>
   obtain⟨aM,rfl,rfl,aX,aY⟩:=K3 bS aR
   exact⟨bR,aM,aE.last (by simp),aX,aY,bE⟩
  |ret=>
   obtain⟨aM,rfl,rfl,aX,aY⟩:=K3 bS aR
   exact⟨bR,aM,aE.last (by simp),aX,aY,bE⟩
def EE(E:cy)(h:Lo):jg→Option V
 | .t i=>E.find i
 | .c5 i=>match(E.find i).isSome with
  |true=>mA h (E.gD i)
  |false=>none
 | .Bq n i=>match(E.find i).isSome with
  |true=>dS h n (E.gD i)
  |false=>none
def yd{aK:Type}(E:cy)(h:Lo):List jg→(Lv→Option aK)→Option aK
 | [],k=>k []
 |r::rs,k=>J (EE E h r) fun v=>yd E h rs fun ak=>k (v::ak)
def K4:Lv→V
 | [v]=>v
 |ak=> .bW ak
def K5(rs:List jg)(x:cg)(E:cy)(h:Lo):OvL:=match x with
 | .normal=>yd E h rs fun ak=>some (K4 ak,h)
 | .ret=>yd E h rs fun ak=>some (K4 ak,h)
 | .exit _=>none
theorem QT{aK:Type}{E:cy}{h:Lo}{t:Nat→V}(dx:E.hold t):∀{rs:List jg} {k:Lv→Option aK} {r:aK},yd E h rs k=some r→∃ak,fK (jg.aB t h) rs=some ak∧k ak=some r
 | [],k,r,e=>⟨[],rfl,e⟩
 |a::rs,k,r,e=>by
  simp only[yd] at e
  obtain⟨v,aV,e⟩:=QC e
  obtain⟨ak,aX,aY⟩:=QT dx e
  refine⟨v::ak, ?_,aY⟩
  have:jg.aB t h a=some v:=by
   cases a with
   |t i=>simp only[EE] at aV;simp only[jg.aB];rw[dx i v aV]
   |c5 i=>
    simp only[EE] at aV
    split at aV
    ·rename_i q;simp only[jg.aB];rw[dx i _ (cy.o7 q)];exact aV
    ·cases aV
   |Bq n i=>
    simp only[EE] at aV
    split at aV
    ·rename_i q;simp only[jg.aB];rw[dx i _ (cy.o7 q)];exact aV
    ·cases aV
  simp only[fK,this,aX]
def ye(args:Lv):cy:=(List.range args.length).zip args
theorem aaQ(args:Lv):(ye args).hold (tY args):=by
 have:ye args=(List.range args.length).zip ((List.range args.length).map (tY args)):=by
  unfold ye
  congr 1
  apply List.ext_getElem
  ·simp
  ·intro i R ae
   simp[tY,List.getElem?_eq_getElem R]
 rw[this]
 exact cy.Ez _
theorem kZ.aaR{P:Program}{f:FuncId}{fn:Func}{e:El}{A:List (Nat × dO)}{eU:o8}{c:jt}{args:Lv}{h aa:Lo}{v:V}(aS:P.funcs[f]? =some fn)(BC:sE P fn=some e)(o3:qz P f=true)(bd:args.length≤e.n)
  (aaS:c.I=e.code) (an:fv P eU.call) (bg:dC P eU.ay) (ok:c.ok P eU) (q:kE A eU c (ye args) h (K5 e.res)=some (v,aa)):kZ P f args h v aa:=by
 obtain⟨x,bR,gl,R,aE,aR,bE,bS⟩:=K1 an bg ok q (aaQ args)
 have fin:∀y,(y= .normal∨y= .ret)→x=y→(yd gl R e.res fun ak=>some (K4 ak,R))=some (v,aa)→kZ P f args h v aa:=by
  intro y bT au r
  subst au
  obtain⟨ak,aX,aY⟩:=QT aR r
  injection aY with aY;injection aY with aY cU;subst cU
  refine kZ.aaE aS BC o3 bd (aaS▸aE) bT ?_
  unfold Em
  rw[aX,←aY]
  match ak with
  | []=>rfl
  | [w]=>rfl
  |w::u::us=>rfl
 cases x with
 |normal=>exact fin _ (.inl rfl) rfl bS
 |ret=>exact fin _ (.inr rfl) rfl bS
 |exit o=>cases bS
def nh:dy:=fun _ _ _=>none
def nO(g:FuncId)(w:Lv→Lo→OvL)(f:dy):dy:=fun i args h=>match Nat.beq i g with
 |true=>w args h
 |false=>f i args h
def nP:bK:=fun _ _ _=>none
def ju(g:FuncId)(w:Lv→Lo→OvL)(f:bK):bK:=fun u args h=>match u with
 | .fn i fz=>match Nat.beq i g with
  |true=>w (args++fz) h
  |false=>f (.fn i fz) args h
 | .eD i fz=>match Nat.beq i g with
  |true=>w (fz++args) h
  |false=>f (.eD i fz) args h
 |u=>f u args h
theorem nQ{P:Program}:fv P nh:=fun _ _ _ _ _ h=>by cases h
theorem ot{P:Program}:dC P nP:=fun _ _ _ _ _ h=>by cases h
theorem pa{P:Program}{g:FuncId}{w:Lv→Lo→OvL}{f:dy}(hw:∀args h v aa,w args h=some (v,aa)→kZ P g args h v aa)(aS:fv P f):fv P (nO g w f):=by
 intro i args h v aa e
 simp only[nO] at e
 split at e
 ·rename_i q
  rw[oo] at q;subst q;exact hw _ _ _ _ e
 ·exact aS _ _ _ _ _ e
theorem j1{P:Program}{g:FuncId}{w:Lv→Lo→OvL}{f:bK}(hw:∀args h v aa,w args h=some (v,aa)→kZ P g args h v aa)(aS:dC P f):dC P (ju g w f):=by
 intro u args h v aa e
 simp only[ju] at e
 split at e
 ·rename_i i fz
  split at e
  ·rename_i q
   rw[oo] at q;subst q;exact⟨i,fz, .inl ⟨rfl,hw _ _ _ _ e⟩⟩
  ·exact aS _ _ _ _ _ e
 ·rename_i i fz
  split at e
  ·rename_i q
   rw[oo] at q;subst q;exact⟨i,fz, .inr ⟨rfl,hw _ _ _ _ e⟩⟩
  ·exact aS _ _ _ _ _ e
 ·exact aS _ _ _ _ _ e
def aj(ao:OvL)(Q:V→Lo→Prop):Prop:=∃v h,ao=some (v,h)∧Q v h
def aL(ao:a9)(Q:cg→Lv→Lo→Prop):Prop:=∃x ak h,ao=some (x,ak,h)∧Q x ak h
theorem aj.some{v:V}{h:Lo}{Q:V→Lo→Prop}(q:Q v h):aj (some (v,h)) Q:=⟨v,h,rfl,q⟩
theorem aL.some{x:cg}{ak:Lv}{h:Lo}{Q:cg→Lv→Lo→Prop}(q:Q x ak h):aL (some (x,ak,h)) Q:=⟨x,ak,h,rfl,q⟩
theorem aj.mono{ao:OvL}{Q lo:V→Lo→Prop}(h:aj ao Q)(g:∀v h,Q v h→lo v h):aj ao lo:=by
 obtain⟨v,R,e,q⟩:=h;exact⟨v,R,e,g _ _ q⟩
theorem aL.mono{ao:a9}{Q lo:cg→Lv→Lo→Prop}(h:aL ao Q)(g:∀x ak h,Q x ak h→lo x ak h):aL ao lo:=by
 obtain⟨x,v,R,e,q⟩:=h;exact⟨x,v,R,e,g _ _ _ q⟩
theorem aj.ad{ao:OvL}{k:V→Lo→OvL}{Q T:V→Lo→Prop}(a:aj ao Q)(b:∀v h,Q v h→aj (k v h) T):aj (ad ao k) T:=by
 obtain⟨v,h,e,q⟩:=a;rw[e];exact b v h q
theorem aj.bO{ao:a9}{k:cg→Lv→Lo→OvL}{Q:cg→Lv→Lo→Prop}{T:V→Lo→Prop}(a:aL ao Q)(b:∀x v h,Q x v h→aj (k x v h) T):aj (bO ao k) T:=by
 obtain⟨x,v,h,e,q⟩:=a;rw[e];exact b x v h q
theorem aL.ad{ao:OvL}{k:V→Lo→a9}{Q:V→Lo→Prop}{T:cg→Lv→Lo→Prop}(a:aj ao Q)(b:∀v h,Q v h→aL (k v h) T):aL (ad ao k) T:=by
 obtain⟨v,h,e,q⟩:=a;rw[e];exact b v h q
theorem aL.bO{ao:a9}{k:cg→Lv→Lo→a9}{Q T:cg→Lv→Lo→Prop}(a:aL ao Q)(b:∀x v h,Q x v h→aL (k x v h) T):aL (bO ao k) T:=by
 obtain⟨x,v,h,e,q⟩:=a;rw[e];exact b x v h q
@[simp] theorem aO {α aK:Type} (v:α) (k:α→Option aK):J (some v) k=k v:=rfl
@[simp] theorem fp {aK:Type} (v:V) (h:Lo) (k:V→Lo→Option aK):ad (some (v,h)) k=k v h:=rfl
@[simp] theorem gY {aK:Type} (x:cg) (v:Lv) (h:Lo) (k:cg→Lv→Lo→Option aK):bO (some (x,v,h)) k=k x v h:=rfl
@[simp] theorem a1 {aK:Type} (k:IntKind) (n:Int) (f:Int→Option aK):bt k (.int k n) f=f n:=by simp[bt,al]
@[simp] theorem a0 {aK:Type} (b:Bool) (f:Bool→Option aK):bG (.bool b) f=f b:=rfl
@[simp] theorem bC {aK:Type} (l:Lu) (f:Lu→Option aK):b1 (.str l) f=f l:=rfl
@[simp] theorem bP {aK:Type} (l:Lv) (f:Lv→Option aK):sL (.agg l) f=f l:=rfl
@[simp] theorem mf {aK:Type} (l:Lv) (f:Lv→Option aK):Bx (.bW l) f=f l:=rfl
@[simp] theorem bq {aK:Type} (v:V) (l:Lv) (f:V→Lv→Option aK):im (v::l) f=f v l:=rfl
@[simp] theorem a5 {aK:Type} (r:Option aK):dT [] r=r:=rfl
@[simp] theorem aU {aK:Type} (x y:Option aK):al true x y=x:=rfl
@[simp] theorem a7 {aK:Type} (x y:Option aK):al false x y=y:=rfl
def dj:V→List Nat
 | .er id _ _=> [id]
 |_=> []
structure dq(az:Nat)(h:Lo)(v:V)(es:Lv):Prop where
 c:fe h az v=some es
 h5:∀l,v≠ .str l
def j2(v:V):Prop:=v= .ab∨v= .hS∨∃id off len,v= .er id off len
structure ai(h aa:Lo)(ids:List Nat):Prop where
 len:h.length≤aa.length
 same:∀o,o<h.length→o∉ids→aa[o]? =h[o]?
theorem ai.refl(h:Lo)(ids:List Nat):ai h h ids:=⟨Nat.le_refl _,fun _ _ _=>rfl⟩
theorem ai.mono{h aa:Lo}{A B:List Nat}(k:ai h aa A)(s:∀o,o∈A→o<h.length→o∈B):ai h aa B:=⟨k.len,fun o U bd=>k.same o U (fun q=>bd (s o q U))⟩
theorem ai.trans{h R ae:Lo}{A B C:List Nat}(k:ai h R A)(l:ai R ae B)(dR:∀o,o∈A→o<h.length→o∈C)(e9:∀o,o∈B→o<h.length→o∈C):ai h ae C:=
 ⟨Nat.le_trans k.len l.len,fun o U bd=>(l.same o (Nat.lt_of_lt_of_le U k.len) (fun q=>bd (e9 o q U))).trans (k.same o U (fun q=>bd (dR o q U)))⟩
theorem dq.lt{az:Nat}{h:Lo}{v:V}{es:Lv}(s:dq az h v es){id:Nat}(aw:id∈dj v):id<h.length:=by
 cases v<;>simp only[dj,List.not_mem_nil,List.mem_cons,or_false] at aw
 subst aw
 have:=s.c
 simp only[fe] at this
 split at this
 ·rename_i e
  exact(List.getElem?_eq_some_iff.1 e).1
 ·cases this
theorem dq.aJ{az:Nat}{h aa:Lo}{v:V}{es:Lv}{A:List Nat}(s:dq az h v es)(k:ai h aa A)(d:∀id,id∈dj v→id∉A):dq az aa v es:=by
 refine⟨?_,s.h5⟩
 have c:=s.c
 cases v<;>first|exact c|skip
 rename_i id off len
 have ax:=s.lt (id:=id) (by simp[dj])
 simp only[fe] at c⊢
 rw[k.same id ax (d id (by simp[dj]))]
 exact c
theorem dq.len{az:Nat}{h:Lo}{v:V}{es:Lv}(s:dq az h v es):ss h v=some es.length:=aaG s.c s.h5
theorem dq.ab(az:Nat)(h:Lo):dq az h .ab []:=⟨rfl,fun l q=>by cases q⟩
theorem dq.hS(az:Nat)(h:Lo):dq az h .hS []:=⟨rfl,fun l q=>by cases q⟩
theorem dq.cx{az:Nat}{h:Lo}{es:Lv}(a6:rr az es=true):dq az h (.cx es) es:=⟨by simp[fe,a6],fun l q=>by cases q⟩
theorem j2.ab:j2 .ab:= .inl rfl
theorem j2.er(id off len:Nat):j2 (.er id off len):= .inr (.inr ⟨id,off,len,rfl⟩)
theorem jv{az:Nat}{h:Lo}{v:V}{es:Lv}(s:dq az h v es):I (.cm (.c v)) h=some (.int .i64 es.length):=by
 simp[I,aB,e8,Qw,bJ.get,s.len]
theorem dq.hX{h:Lo}{v:V}{es:Lv}(s:dq 1 h v es){k:Int}{e:V}(aH:0≤k)(he:es[k.toNat]? =some e)(an:e.cells=[e]):
  ∃a,I (.cH 1 (.c v) (.c (.int .i64 k))) h=some a∧I (.ag (.c a)) h=some e:=by
 obtain⟨a,R,ae⟩:=aaF s.c s.h5 he an
 have Ki:((k.toNat:Nat):Int)=k:=Int.toNat_of_nonneg aH
 rw[Ki] at R
 exact⟨a,by simp[I,aB,e8,rA,bJ.get,R],by simp[I,aB,e8,tZ,bJ.get,ae]⟩
theorem dq.QU{az:Nat}(h:Lo)(es:Lv):dq az (h++ [.row es az]) (.er h.length 0 es.length) es:=
 ⟨by simp[fe],fun l q=>by cases q⟩
theorem BD{az bytes:Nat}{h:Lo}{b y:V}{es cc:Lv}(e9:dq az h b es)(a:j2 b)(bT:fe h az y=some cc)(bc:(es.length+cc.length)*bytes≤oc):
  aj (aB (.app az bytes (.c b) (.c y)) h) fun v aa=>dq az aa v (es++cc)∧j2 v∧ai h aa (dj b)∧(∀o,o∈dj v→o∈dj b∨h.length≤o):=by
 have new:∀(aI:Lo),aI.length=h.length→(∀o,o<h.length→o∉dj b→aI[o]? =h[o]?)→∀gs:Lv,gs=es++cc→
   aj (some (V.er h.length 0 gs.length,aI++ [nD.row gs az])) fun v aa=>dq az aa v (es++cc)∧j2 v∧ai h aa (dj b)∧(∀o,o∈dj v→o∈dj b∨h.length≤o):=by
  intro aI ax aH gs dt
  subst dt
  refine aj.some ⟨?_,j2.er _ _ _,⟨?_, ?_⟩, ?_⟩
  ·have:=dq.QU (az:=az) aI (es++cc)
   rwa[ax] at this
  ·simp[ax]
  ·intro o U bd
   rw[List.getElem?_append_left (by omega)]
   exact aH o U bd
  ·intro o U
   simp only[dj,List.mem_cons,List.not_mem_nil,or_false] at U
   subst U;exact .inr (Nat.le_refl _)
 have e6:aB (.app az bytes (.c b) (.c y)) h=tM h az bytes b cc:=by
  simp only[aB,e8,Qx,bJ.get,XV bT,Option.bind_some]
 rw[e6]
 rcases a with rfl|rfl|⟨id,off,len,rfl⟩
 ·have:es=[]:=by have:=e9.c;simp[fe] at this;exact this
  subst this
  simp only[tM]
  split
  ·rename_i aI
   have:cc=[]:=List.eq_nil_of_length_eq_zero aI
   subst this
   exact aj.some ⟨dq.ab _ _, .inl rfl,ai.refl _ _,fun o U=>by cases U⟩
  ·rw[if_pos (by simpa using bc)]
   exact new h rfl (fun _ _ _=>rfl) cc rfl
 ·have:es=[]:=by have:=e9.c;simp[fe] at this;exact this
  subst this
  simp only[tM]
  split
  ·rename_i aI
   have:cc=[]:=List.eq_nil_of_length_eq_zero aI
   subst this
   exact aj.some ⟨dq.hS _ _, .inr (.inl rfl),ai.refl _ _,fun o U=>by cases U⟩
  ·rw[if_pos (by simpa using bc)]
   exact new h rfl (fun _ _ _=>rfl) cc rfl
 ·have c:=e9.c
  simp only[fe] at c
  split at c
  ·rename_i aM s dE
   split at c
   ·rename_i dw
    obtain⟨rfl,jX⟩:=dw
    injection c with c
    have hlen:es.length=len:=by rw[←c];simp only[List.length_take,List.length_drop];omega
    simp only[tM,dE]
    rw[if_pos ⟨trivial,jX,by rw[←hlen];exact bc⟩,c]
    have:=new (h.set id (DP off len aM s h.length)) (by simp) (fun o U bd=>by
     rw[List.getElem?_set_ne (by intro q;subst q;exact bd (by simp[dj]))]) (es++cc) rfl
    rw[show len+cc.length=(es++cc).length by simp[hlen]]
    exact this
   ·cases c
  ·cases c
theorem mg{az len:Nat}{z:V}{ah:List (Nat × V)}{h:Lo}{es:Lv}(R:len*az≤16777216)(ae:ah.all (fun p=>decide (p.1<len)&&kk az p.2)=true)(aQ:tS (List.replicate len z) ah=es)(bo:es.length=len):
  aj (aB (.dN az z len (ah.map fun p=>(p.1, .c p.2))) h) fun v aa=>v= .er h.length 0 len∧aa=h++ [.row es az]∧dq az aa v es∧j2 v∧ai h aa []∧(∀o,o∈dj v→h.length≤o):=by
 have:aB (.dN az z len (ah.map fun p=>(p.1, .c p.2))) h=some (.er h.length 0 len,h++ [.row es az]):=by
  simp only[aB,e8,Qq,List.map_map,A1]
  have e:(ah.map ((fun p:Nat × bJ=>(p.1,bJ.get (fun _=>V.lG) p.2))∘fun p:Nat × V=>(p.1,bJ.c p.2)))=ah:=by
   conv=>rhs;rw[←List.map_id ah]
   rfl
  rw[e,if_pos ⟨R,ae⟩,aQ]
 rw[this]
 refine aj.some ⟨rfl,rfl, ?_,j2.er _ _ _,⟨by simp,fun o U _=>by rw[List.getElem?_append_left U]⟩,fun o U=>by simp[dj] at U;omega⟩
 rw[←bo];exact dq.QU h es
def bv(ms:List Int):Lv:=ms.map (V.int .u8)
@[simp] theorem K6 (ms:List Int):(bv ms).length=ms.length:=by simp[bv]
def v3(ms:List Int):Lu:=ms.map fun n=>UInt8.ofNat n.toNat
theorem QV:∀ms:List Int,fK byteOf (bv ms)=some (v3 ms)
 | []=>rfl
 |m::ms=>by
  have:=QV ms
  simp only[bv] at this
  simp only[bv,List.map_cons,fK,this];rfl
theorem aaT{h:Lo}{v:V}{ms:List Int}(s:dq 1 h v (bv ms)):I (.toStr (.c v)) h=some (.str (v3 ms)):=by
 have:xR h v=some (.str (v3 ms)):=by
  unfold xR
  split
  ·rename_i l;exact absurd rfl (s.h5 l)
  ·rw[s.c];simp[QV]
 simp[I,aB,e8,Qt,bJ.get,this]
abbrev rC(h:Lo)(es:Lv)(v:V)(aa:Lo):Prop:=dq 1 aa v es∧j2 v∧ai h aa []∧(∀o,o∈dj v→h.length≤o)
abbrev aaU(b:V)(h:Lo)(es:Lv)(v:V)(aa:Lo):Prop:=dq 1 aa v es∧j2 v∧ai h aa (dj b)∧(∀o,o∈dj v→o∈dj b∨h.length≤o)
theorem rC.aaV{h R ae:Lo}{a b:V}{es cc:Lv}(n:rC h es a R)(q:aaU a R cc b ae):rC h cc b ae:=by
 obtain⟨s1,b5,ar,f1⟩:=n
 obtain⟨s2,cI,aA,f2⟩:=q
 refine⟨s2,cI,ar.trans aA (fun o U=>by cases U) (fun o U bN=>by have:=f1 o U;omega),fun o U=> ?_⟩
 rcases f2 o U with q|q
 ·exact f1 o q
 ·have:=ar.len;omega
theorem rC.aJ{h R ae:Lo}{v:V}{es:Lv}(n:rC h es v R)(k:ai R ae []):rC h es v ae:=
 ⟨n.1.aJ k (fun _ _ q=>by cases q),n.2.1,n.2.2.1.trans k (fun o U=>by cases U) (fun o U=>by cases U),n.2.2.2⟩
theorem ai.bs{h R ae:Lo}(k:ai h R [])(l:ai R ae []):ai h ae []:=k.trans l (fun o U=>by cases U) (fun o U=>by cases U)
theorem dq.aq{az:Nat}{h aa:Lo}{v:V}{es:Lv}(s:dq az h v es)(k:ai h aa []):dq az aa v es:=s.aJ k (fun _ _ q=>by cases q)
theorem fW(t:Nat→V)(v:V):(bJ.c v).get t=v:=rfl
@[simp] theorem aro (a:List Int):(v3 a).length=a.length:=by simp[v3]
theorem QW{h:Lo}{a b:Lu}(ax:a.length+b.length<9223372036854775808):I (.bin .add (.c (.str a)) (.c (.str b))) h=some (.str (a++b)):=by
 simp only[I,aB,e8,Qs,fW,tL,Jw]
 rw[if_pos ax];rfl
variable {H:Type}
theorem yf{P:Program}{d:DataW H}{t:TypeId}{ak:Lv}(hu:P.underlying t=some (.int .i64))(h:e3 P d t=some ak):∃n,ak=[.int .i64 n]∧-9223372036854775808≤n∧n<9223372036854775808:=by
 obtain⟨n,rfl,c5,ew⟩:=aaj hu h
 refine⟨n,rfl, ?_⟩
 exact⟨c5,Int.lt_of_le_of_lt ew (by decide)⟩
end
end Go.Proofs.YtjpjeilfmjdhcaaGreat.E
namespace Go.Proofs.YtjpjeilfmjdhcaaGreat.E
def bY(h:Lo)(id:Nat)(cs:Lv):Prop:=h[id]? =some (.row [.agg cs] cs.length)
theorem bY.lt{h:Lo}{id:Nat}{cs:Lv}(s:bY h id cs):id<h.length:=(List.getElem?_eq_some_iff.1 s).1
theorem bY.alive{h:Lo}{id:Nat}{cs:Lv}(s:bY h id cs):lK h id=true:=by
 unfold bY at s
 simp[lK,s]
theorem bY.aJ{h aa:Lo}{id:Nat}{cs:Lv}{A:List Nat}(s:bY h id cs)(k:ai h aa A)(bd:id∉A):bY aa id cs:=by
 unfold bY
 rw[k.same id s.lt bd];exact s
theorem bY.aq{h aa:Lo}{id:Nat}{cs:Lv}(s:bY h id cs)(k:ai h aa []):bY aa id cs:=s.aJ k (fun q=>by cases q)
theorem bY.bz{h:Lo}{id:Nat}{cs:Lv}(s:bY h id cs)(i o:Nat):I (.bz (.c (.ptr id i o))) h=some (.ptr id i o):=by
 simp[I,aB,e8,Qr,fW,DW,s.alive]
theorem bY.af{h:Lo}{id:Nat}{cs:Lv}(s:bY h id cs)(off i o:Nat):I (.af off (.c (.ptr id i o))) h=some (.ptr id i (o+off)):=by
 simp[I,aB,e8,vW,fW,s.alive]
theorem bY.ag{h:Lo}{id:Nat}{cs:Lv}(s:bY h id cs){o:Nat}{c:V}(U:cs[o]? =some c):I (.ag (.c (.ptr id 0 o))) h=some c:=by
 unfold bY at s
 have bN:o<cs.length:=(List.getElem?_eq_some_iff.1 U).1
 have e:(List.drop o cs).take 1=[c]:=by
  rw[List.drop_eq_getElem_cons bN]
  have:=(List.getElem?_eq_some_iff.1 U).2
  simp[this]
 simp only[I,aB,e8,tZ,fW,mA,lh,s,List.getElem?_cons_zero,Option.map_some,V.cells]
 rw[if_pos (by omega),e]
 rfl
theorem bY.bp{h:Lo}{id:Nat}{cs:Lv}(s:bY h id cs):dS h cs.length (.ptr id 0 0)=some (.agg cs):=by
 unfold bY at s
 simp only[dS,lh,s,List.getElem?_cons_zero,Option.map_some,V.cells]
 rw[if_pos (by omega)]
 simp
theorem bY.e4{h:Lo}{id n:Nat}{cs:Lv}(s:bY h id cs)(bd:cs.length=n):I (.bp n (.c (.ptr id 0 0))) h=some (.agg cs):=by
 subst bd
 simp[I,aB,e8,vV,fW,s.bp]
theorem QX:∀(cs:Lv) (o:Nat) (x:V),o<cs.length→cs.take o++ [x]++cs.drop (o+1)=cs.set o x
 |c::cs,0,x,_=>by simp
 |c::cs,o+1,x,h=>by
  have:=QX cs o x (by simpa using h)
  simpa using this
theorem bY.set{h:Lo}{id:Nat}{cs aM:Lv}(s:bY h id cs)(ax:aM.length=cs.length):bY (h.set id (.row [.agg aM] cs.length)) id aM:=by
 unfold bY
 rw[ax]
 exact List.getElem?_set_self s.lt
theorem ai.set(h:Lo)(id:Nat)(ao:nD):ai h (h.set id ao) [id]:=⟨by simp,fun o U bd=>by rw[List.getElem?_set_ne (by intro q;subst q;exact bd (by simp))]⟩
theorem bY.iK{h:Lo}{id:Nat}{cs:Lv}(s:bY h id cs){o:Nat}{x:V}(U:o<cs.length)(an:x.cells=[x]∧x.scalar=true):
  aj (aB (.store 1 (.c (.ptr id 0 o)) (.c x)) h) fun _ aa=>bY aa id (cs.set o x)∧ai h aa [id]:=by
 have e:aB (.store 1 (.c (.ptr id 0 o)) (.c x)) h=some (.bW [],h.set id (.row [.agg (cs.set o x)] cs.length)):=by
  have eb:=s
  unfold bY at eb
  have pb:pR h (.ptr id 0 o) [x]=some (h.set id (.row [.agg (cs.set o x)] cs.length)):=by
   simp only[pR,eb,List.length_cons,List.length_nil,List.getElem?_cons_zero,Option.map_some,putCells,List.set_cons_zero]
   rw[if_pos (by omega),QX cs o x U]
  have es:pS h 1 (.ptr id 0 o) x=some (h.set id (.row [.agg (cs.set o x)] cs.length)):=by
   unfold pS
   split
   ·simp[V.scalar] at an
   ·simp[V.scalar] at an
   ·rw[an.1,if_pos (by simp[an.2]),pb]
  simp only[aB,e8,Bw,fW,es,Option.map_some]
 rw[e]
 exact aj.some ⟨s.set (by simp),ai.set _ _ _⟩
theorem bY.ic{h:Lo}{id:Nat}{cs aM:Lv}(s:bY h id cs)(ax:aM.length=cs.length)(aI:0<cs.length)(a6:aM.all V.scalar=true){n:Nat}(bd:cs.length=n):
  aj (aB (.store n (.c (.ptr id 0 0)) (.c (.agg aM))) h) fun _ aa=>bY aa id aM∧ai h aa [id]:=by
 subst bd
 have e:aB (.store cs.length (.c (.ptr id 0 0)) (.c (.agg aM))) h=some (.bW [],h.set id (.row [.agg aM] cs.length)):=by
  have eb:=s
  unfold bY at eb
  have es:pS h cs.length (.ptr id 0 0) (.agg aM)=some (h.set id (.row [.agg aM] cs.length)):=by
   have q:pS h cs.length (.ptr id 0 0) (.agg aM)=pR h (.ptr id 0 0) aM:=if_pos ⟨ax,a6,aI⟩
   rw[q]
   simp only[pR,eb,List.getElem?_cons_zero,Option.map_some,putCells,List.set_cons_zero]
   rw[if_pos (by omega)]
   simp[ax]
  simp only[aB,e8,Bw,fW,es,Option.map_some]
 rw[e]
 exact aj.some ⟨s.set ax,ai.set _ _ _⟩
theorem hs{h:Lo}{cs:Lv}(a6:cs.all V.scalar=true):aj (aB (.alloc false (.agg cs)) h) fun v aa=>v= .ptr h.length 0 0∧bY aa h.length cs∧ai h aa []:=by
 have e:aB (.alloc false (.agg cs)) h=some (.ptr h.length 0 0,h++ [.row [.agg cs] cs.length]):=by
  simp only[aB,e8,KL,pQ,vn,V.cells,a6,if_true]
  rfl
 rw[e]
 exact aj.some ⟨rfl,by simp[bY],by simp,fun o U _=>by rw[List.getElem?_append_left U]⟩
theorem fO{h:Lo}{cs:Lv}(a6:cs.all V.scalar=true):aj (aB (.box false (.c (.agg cs))) h) fun v aa=>v= .ptr h.length 0 0∧bY aa h.length cs∧ai h aa []:=by
 have e:aB (.box false (.c (.agg cs))) h=some (.ptr h.length 0 0,h++ [.row [.agg cs] cs.length]):=by
  simp only[aB,e8,Es,fW,pQ,vn,V.cells,a6,if_true]
  rfl
 rw[e]
 exact aj.some ⟨rfl,by simp[bY],by simp,fun o U _=>by rw[List.getElem?_append_left U]⟩
theorem dq.kn{n:Nat}{h:Lo}{v:V}{es:Lv}(s:dq n h v es){k:Int}{cs:Lv}(aH:0≤k)(he:es[k.toNat]? =some (.agg cs))(an:cs.length=n)(aI:0<n):
  ∃a,I (.cH n (.c v) (.c (.int .i64 k))) h=some a∧I (.bp n (.c a)) h=some (.agg cs):=by
 subst an
 have c:=s.c
 cases v with
 |ab=>simp[fe] at c;subst c;simp at he
 |hS=>simp[fe] at c;subst c;simp at he
 |cx cc=>
  simp only[fe] at c
  split at c
  ·injection c with c;subst c
   refine⟨.ref (.agg cs) 0, ?_, ?_⟩
   ·simp[I,aB,e8,rA,fW,nJ,aH,he,V.cells]
   ·simp[I,aB,e8,vV,fW,dS,lh,V.cells]
  ·cases c
 |er id off len=>
  simp only[fe] at c
  split at c
  ·rename_i cc q dE
   split at c
   ·rename_i dw
    obtain⟨rfl,jX⟩:=dw
    injection c with c
    rw[←c,List.getElem?_take] at he
    split at he
    ·rename_i bN
     rw[List.getElem?_drop] at he
     refine⟨.ptr id (off+k.toNat) 0, ?_, ?_⟩
     ·simp only[I,aB,e8,rA,fW,nJ,dE]
      rw[if_pos ⟨aH,by omega⟩]
      simp
     ·simp only[I,aB,e8,vV,fW,dS,lh,dE]
      rw[if_pos (by omega),he]
      simp[V.cells]
    ·cases he
   ·cases c
  ·cases c
 |str l=>exact absurd rfl (s.h5 l)
 |_=>simp[fe] at c
theorem dq.K7{n:Nat}{h:Lo}{v:V}{es:Lv}(s:dq n h v es){k:Int}{cs:Lv}(aH:0≤k)(he:es[k.toNat]? =some (.agg cs))(an:cs.length=n)(aI:0<n)(a6:cs.all V.scalar=true):
  ∃a,I (.cH n (.c v) (.c (.int .i64 k))) h=some a∧∀(ao:Nat) (x:V),cs[ao]? =some x→∃b,I (.af ao (.c a)) h=some b∧I (.ag (.c b)) h=some x:=by
 subst an
 have c:=s.c
 have one:∀(ao:Nat) (x:V),cs[ao]? =some x→ao+1≤cs.length∧(List.drop ao cs).take 1=[x]:=by
  intro ao x cj
  have bN:=(List.getElem?_eq_some_iff.1 cj).1
  refine⟨by omega, ?_⟩
  rw[List.drop_eq_getElem_cons bN]
  have:=(List.getElem?_eq_some_iff.1 cj).2
  simp[this]
 cases v with
 |ab=>simp[fe] at c;subst c;simp at he
 |hS=>simp[fe] at c;subst c;simp at he
 |cx cc=>
  simp only[fe] at c
  split at c
  ·injection c with c;subst c
   refine⟨.ref (.agg cs) 0, ?_,fun ao x cj=>⟨.ref (.agg cs) ao, ?_, ?_⟩⟩
   ·simp[I,aB,e8,rA,fW,nJ,aH,he,V.cells]
   ·simp[I,aB,e8,vW,fW]
   ·obtain⟨nN,qE⟩:=one ao x cj
    have e:lh h 1 (.ref (.agg cs) ao)=some [x]:=by
     have q:lh h 1 (.ref (.agg cs) ao)=if ao+1≤cs.length then some ((cs.drop ao).take 1) else none:=rfl
     rw[q,if_pos nN,qE]
    simp only[I,aB,e8,tZ,fW,mA,e]
    rfl
  ·cases c
 |er id off len=>
  simp only[fe] at c
  split at c
  ·rename_i cc q dE
   split at c
   ·rename_i dw
    obtain⟨rfl,jX⟩:=dw
    injection c with c
    rw[←c,List.getElem?_take] at he
    split at he
    ·rename_i bN
     rw[List.getElem?_drop] at he
     refine⟨.ptr id (off+k.toNat) 0, ?_,fun ao x cj=>⟨.ptr id (off+k.toNat) ao, ?_, ?_⟩⟩
     ·simp only[I,aB,e8,rA,fW,nJ,dE]
      rw[if_pos ⟨aH,by omega⟩]
      simp
     ·simp[I,aB,e8,vW,fW,lK,dE]
     ·obtain⟨nN,qE⟩:=one ao x cj
      simp only[I,aB,e8,tZ,fW,mA,lh,dE,he,Option.map_some,V.cells]
      rw[if_pos nN,qE]
      rfl
    ·cases he
   ·cases c
  ·cases c
 |str l=>exact absurd rfl (s.h5 l)
 |_=>simp[fe] at c
def ni(h:Lo)(id:Nat)(v:V):Prop:=h[id]? =some (.row [v] 1)
theorem ni.lt{h:Lo}{id:Nat}{v:V}(s:ni h id v):id<h.length:=(List.getElem?_eq_some_iff.1 s).1
theorem ni.aJ{h aa:Lo}{id:Nat}{v:V}{A:List Nat}(s:ni h id v)(k:ai h aa A)(bd:id∉A):ni aa id v:=by
 show aa[id]? =_
 rw[k.same id s.lt bd];exact s
theorem ni.aq{h aa:Lo}{id:Nat}{v:V}(s:ni h id v)(k:ai h aa []):ni aa id v:=s.aJ k (fun q=>by cases q)
theorem ni.ag{h:Lo}{id:Nat}{v:V}(s:ni h id v)(an:v.cells=[v]):I (.ag (.c (.ptr id 0 0))) h=some v:=by
 unfold ni at s
 simp only[I,aB,e8,tZ,fW,mA,lh,s,List.getElem?_cons_zero,Option.map_some,an]
 rw[if_pos (by omega)]
 rfl
theorem aaW{v:V}(a6:v.scalar=true):vn false v=some ([v],1):=by
 cases v<;>first|rfl|(simp[V.scalar] at a6)
theorem EF{h:Lo}{v:V}(a6:v.scalar=true):aj (aB (.box false (.c v)) h) fun p aa=>p= .ptr h.length 0 0∧ni aa h.length v∧ai h aa []:=by
 have e:aB (.box false (.c v)) h=some (.ptr h.length 0 0,h++ [.row [v] 1]):=by
  simp only[aB,e8,Es,fW,pQ,aaW a6,Option.map_some]
 rw[e]
 exact aj.some ⟨rfl,by simp[ni],by simp,fun o U _=>by rw[List.getElem?_append_left U]⟩
def dU(t:Lu):Nat × Nat:=Utf8.decode ⟨t.toArray⟩ 0
def ou(t:Lu)(k:Nat):Nat:=(t[k]?.getD 0).toNat
theorem aaX(t:Lu)(k:Nat):((⟨t.toArray⟩:ByteArray).get! k).toNat=ou t k:=by
 unfold ou
 show((t.toArray)[k]!).toNat=_
 rw[getElem!_def]
 by_cases h:k<t.length
 ·simp[h]
 ·simp[h];rfl
theorem v5(t:Lu)(i:Nat):Utf8.decode ⟨t.toArray⟩ i=
  (let ua (k:Nat):Nat:=ou t (i+k)
   let cont (k:Nat):Bool:=i+k<t.length&&ua k/64==2
   let fi:=ua 0
   if fi<0x80 then(fi,1)
   else if fi/32==6&&cont 1 then
    let c:=(fi % 32)*64+ua 1 % 64
    if c≥0x80 then(c,2) else(Utf8.runeError,1)
   else if fi/16==14&&cont 1&&cont 2 then
    let c:=(fi % 16)*4096+(ua 1 % 64)*64+ua 2 % 64
    if c≥0x800&&Utf8.valid c then(c,3) else(Utf8.runeError,1)
   else if fi/8==30&&cont 1&&cont 2&&cont 3 then
    let c:=(fi % 8)*262144+(ua 1 % 64)*4096+(ua 2 % 64)*64+ua 3 % 64
    if c≥0x10000&&Utf8.valid c then(c,4) else(Utf8.runeError,1)
   else(Utf8.runeError,1)):=by
 unfold Utf8.decode
 simp only[aaX]
 rfl
theorem aaY(t:Lu)(i k:Nat):ou (t.drop i) k=ou t (i+k):=by
 unfold ou;rw[List.getElem?_drop]
theorem aaZ(t:Lu)(i:Nat):Utf8.decode ⟨t.toArray⟩ i=dU (t.drop i):=by
 unfold dU
 have c:∀k,decide (0+k<(t.drop i).length)=decide (i+k<t.length):=fun k=>by
  rw[List.length_drop];exact decide_eq_decide.2 (by omega)
 rw[v5,v5]
 simp only[aaY,Nat.zero_add,Nat.add_zero] at c⊢
 simp only[c]
theorem qI(t:Lu)(h:t≠ []):1≤(dU t).2∧(dU t).2≤t.length:=by
 have ax:0<t.length:=List.length_pos_iff.2 h
 unfold dU
 rw[v5]
 simp only[Nat.zero_add]
 split
 ·exact⟨Nat.le_refl _,ax⟩
 ·split
  ·rename_i q
   simp only[Bool.and_eq_true,decide_eq_true_eq] at q
   split
   ·exact⟨by simp only;omega,by simp only;omega⟩
   ·exact⟨Nat.le_refl _,ax⟩
  ·split
   ·rename_i q
    simp only[Bool.and_eq_true,decide_eq_true_eq] at q
    split
    ·exact⟨by simp only;omega,by simp only;omega⟩
    ·exact⟨Nat.le_refl _,ax⟩
   ·split
    ·rename_i q
     simp only[Bool.and_eq_true,decide_eq_true_eq] at q
     split
     ·exact⟨by simp only;omega,by simp only;omega⟩
     ·exact⟨Nat.le_refl _,ax⟩
    ·exact⟨Nat.le_refl _,ax⟩
theorem sO{b:UInt8}{t:Lu}(h:b.toNat<128):dU (b::t)=(b.toNat,1):=by
 unfold dU
 rw[v5]
 simp only[Nat.zero_add,ou,List.getElem?_cons_zero,Option.getD_some]
 rw[if_pos h]
def aP(h:Lo)(id:Nat)(s:Lu)(pos:Nat):Prop:=h[id]? =some (.oa s pos)
theorem aP.lt{h:Lo}{id:Nat}{s:Lu}{pos:Nat}(q:aP h id s pos):id<h.length:=(List.getElem?_eq_some_iff.1 q).1
theorem aP.aJ{h aa:Lo}{id:Nat}{s:Lu}{pos:Nat}{A:List Nat}(q:aP h id s pos)(k:ai h aa A)(bd:id∉A):aP aa id s pos:=by
 show aa[id]? =_
 rw[k.same id q.lt bd];exact q
theorem EG(h:Lo)(s:Lu):aj (aB (.o1 (.c (.str s))) h) fun v aa=>v= .ptr h.length 0 0∧aP aa h.length s 0∧ai h aa []:=by
 have e:aB (.o1 (.c (.str s))) h=some (.ptr h.length 0 0,h++ [.oa s 0]):=rfl
 rw[e]
 exact aj.some ⟨rfl,by simp[aP],by simp,fun o U _=>by rw[List.getElem?_append_left U]⟩
theorem EH{h:Lo}{id:Nat}{s:Lu}{pos:Nat}(q:aP h id s pos)(hp:pos<s.length):aj (aB (.og (.c (.ptr id 0 0))) h) fun v aa=>v= .bW [.bool true, .int .i64 (pos:Int), .int .i32 ((dU (s.drop pos)).1:Int)]∧aP aa id s (pos+(dU (s.drop pos)).2)∧ai h aa [id]:=by
 have hy:=q.lt
 unfold aP at q
 have e:aB (.og (.c (.ptr id 0 0))) h=some (.bW [.bool true, .int .i64 (pos:Int), .int .i32 ((dU (s.drop pos)).1:Int)],h.set id (.oa s (pos+(dU (s.drop pos)).2))):=by
  simp only[aB,e8,KM,fW,xV,q,if_pos hp,aaZ]
 rw[e]
 exact aj.some ⟨rfl,List.getElem?_set_self hy,ai.set _ _ _⟩
theorem ub{h:Lo}{id:Nat}{s:Lu}{pos:Nat}(q:aP h id s pos)(hp:s.length≤pos):aB (.og (.c (.ptr id 0 0))) h=some (.bW [.bool false],h):=by
 unfold aP at q
 simp only[aB,e8,KM,fW,xV,q]
 rw[if_neg (by omega)]
theorem mh{h:Lo}{k:Nat}{ak:Lv}{v:V}(bg:ak[k]? =some v):I (.ext k (.c (.bW ak))) h=some v:=by
 simp[I,aB,e8,Qv,fW,AR,bg]
theorem EI{h:Lo}{s:Lu}{k:Nat}{b:UInt8}(aF:s[k]? =some b):I (.mC (.c (.str s)) (.c (.int .i64 (k:Int)))) h=some (.int .u8 b.toNat):=by
 simp[I,aB,e8,Qu,fW,AQ,aF]
theorem aa0{h:Lo}{s:Lu}{a b:Nat}(R:a≤b)(ae:b≤s.length):I (.kU (.c (.str s)) (some (.c (.int .i64 (a:Int)))) (some (.c (.int .i64 (b:Int))))) h=some (.str ((s.drop a).take (b-a))):=by
 have e:∀n:Nat,∀d,m_ (some (V.int .i64 (n:Int))) d=some n:=fun n d=>by simp only[m_];rw[if_pos (by omega),Int.toNat_natCast]
 simp only[I,aB,e8,Eu,fW,vq,Option.map_some,e]
 rw[if_pos ⟨R,ae⟩]
 rfl
theorem EJ{h:Lo}{s:Lu}{a:Nat}(R:a≤s.length):I (.kU (.c (.str s)) (some (.c (.int .i64 (a:Int)))) none) h=some (.str (s.drop a)):=by
 have e:∀n:Nat,∀d,m_ (some (V.int .i64 (n:Int))) d=some n:=fun n d=>by simp only[m_];rw[if_pos (by omega),Int.toNat_natCast]
 have bb:∀d,m_ none d=some d:=fun d=>rfl
 simp only[I,aB,e8,Eu,fW,vq,Option.map_some,Option.map_none,e,bb]
 rw[if_pos ⟨R,Nat.le_refl _⟩,List.take_of_length_le (by simp)]
 rfl
theorem BE{h:Lo}{s:Lu}{b:Nat}(ae:b≤s.length):I (.kU (.c (.str s)) none (some (.c (.int .i64 (b:Int))))) h=some (.str (s.take b)):=by
 have e:∀n:Nat,∀d,m_ (some (V.int .i64 (n:Int))) d=some n:=fun n d=>by simp only[m_];rw[if_pos (by omega),Int.toNat_natCast]
 have bb:∀d,m_ none d=some d:=fun d=>rfl
 simp only[I,aB,e8,Eu,fW,vq,Option.map_some,Option.map_none,e,bb]
 rw[if_pos ⟨Nat.zero_le _,ae⟩]
 simp
variable {H:Type}
end Go.Proofs.YtjpjeilfmjdhcaaGreat.E
namespace Go.Proofs.YtjpjeilfmjdhcaaGreat.E
noncomputable section
mutual
def yg:dO→Type→Type
 | .any,aK=>V→aK
 | .int _,aK=>Int→aK
 | .bool,aK=>Bool→aK
 | .str,aK=>Lu→aK
 | .agg eo,aK=>kF eo aK
 | .bW eo,aK=>kF eo aK
def kF:List dO→Type→Type
 | [],aK=>aK
 |s::eo,aK=>yg s (kF eo aK)
end
mutual
def bn{aK:Type}:(s:dO)→(X:Type)→yg s X→V→(X→Option aK)→Option aK
 | .any,X,f,v,k=>k (f v)
 | .int i,X,f,v,k=>bt i v fun n=>k (f n)
 | .bool,X,f,v,k=>bG v fun n=>k (f n)
 | .str,X,f,v,k=>b1 v fun n=>k (f n)
 | .agg eo,X,f,v,k=>sL v fun l=>bl eo X f l k
 | .bW eo,X,f,v,k=>Bx v fun l=>bl eo X f l k
def bl{aK:Type}:(eo:List dO)→(X:Type)→kF eo X→Lv→(X→Option aK)→Option aK
 | [],X,f,l,k=>dT l (k f)
 |s::eo,X,f,l,k=>im l fun v ak=>bn s (kF eo X) f v fun g=>bl eo X g ak k
end
mutual
def sP:(s:dO)→(X:Type)→(V→X→Prop)→yg s X→Prop
 | .any,X,P,f=>∀v,P v (f v)
 | .int i,X,P,f=>∀n,P (.int i n) (f n)
 | .bool,X,P,f=>∀n,P (.bool n) (f n)
 | .str,X,P,f=>∀n,P (.str n) (f n)
 | .agg eo,X,P,f=>nR eo X (fun l=>P (.agg l)) f
 | .bW eo,X,P,f=>nR eo X (fun l=>P (.bW l)) f
def nR:(eo:List dO)→(X:Type)→(Lv→X→Prop)→kF eo X→Prop
 | [],X,P,f=>P [] f
 |s::eo,X,P,f=>sP s (kF eo X) (fun v g=>nR eo X (fun ak=>P (v::ak)) g) f
end
mutual
theorem QY{aK:Type}:∀(s:dO) (X:Type) (P:V→X→Prop) (f:yg s X) (v:V) (k:X→Option aK) (r:aK),sP s X P f→bn s X f v k=some r→∃g,P v g∧k g=some r
 | .any,X,P,f,v,k,r,a,e=>by
  simp only[bn] at e;simp only[sP] at a
  exact⟨_,a v,e⟩
 | .int i,X,P,f,v,k,r,a,e=>by
  simp only[bn] at e;simp only[sP] at a
  obtain⟨n,rfl,bb⟩:=QD e
  exact⟨_,a n,bb⟩
 | .bool,X,P,f,v,k,r,a,e=>by
  simp only[bn] at e;simp only[sP] at a
  obtain⟨n,rfl,e⟩:=QE e
  exact⟨_,a n,e⟩
 | .str,X,P,f,v,k,r,a,e=>by
  simp only[bn] at e;simp only[sP] at a
  obtain⟨n,rfl,e⟩:=QF e
  exact⟨_,a n,e⟩
 | .agg eo,X,P,f,v,k,r,a,e=>by
  simp only[bn] at e;simp only[sP] at a
  obtain⟨n,rfl,e⟩:=QG e
  exact EK eo X _ f n k r a e
 | .bW eo,X,P,f,v,k,r,a,e=>by
  simp only[bn] at e;simp only[sP] at a
  obtain⟨n,rfl,e⟩:=QH e
  exact EK eo X _ f n k r a e
theorem EK{aK:Type}:∀(eo:List dO) (X:Type) (P:Lv→X→Prop) (f:kF eo X) (l:Lv) (k:X→Option aK) (r:aK),nR eo X P f→bl eo X f l k=some r→∃g,P l g∧k g=some r
 | [],X,P,f,l,k,r,a,e=>by
  simp only[bl] at e;simp only[nR] at a
  obtain⟨rfl,e⟩:=KR e
  exact⟨_,a,e⟩
 |s::eo,X,P,f,l,k,r,a,e=>by
  simp only[bl] at e;simp only[nR] at a
  obtain⟨v,ak,rfl,e⟩:=KQ e
  obtain⟨g,p,e⟩:=QY s _ _ f v _ r a e
  exact EK eo X _ g ak k r p e
end
def cv{aK:Type}(c_:List dO)(f:kF c_ (Lo→Option aK))(ak:Lv)(h:Lo):Option aK:=bl c_ (Lo→Option aK) f ak fun g=>g h
theorem EL{aK:Type}{c_:List dO}{f:kF c_ (Lo→Option aK)}{P:Lv→(Lo→Option aK)→Prop}(a:nR c_ _ P f){ak:Lv}{h:Lo}{r:aK}(e:cv c_ f ak h=some r):∃g,P ak g∧g h=some r:=EK c_ _ P f ak _ r a e
mutual
theorem QZ:∀(s:dO) (X:Type) (P:V→X→Prop) (f:yg s X),(∀v g,P v g)→sP s X P f
 | .any,X,P,f,a=>fun v=>a _ _
 | .int i,X,P,f,a=>fun v=>a _ _
 | .bool,X,P,f,a=>fun v=>a _ _
 | .str,X,P,f,a=>fun v=>a _ _
 | .agg eo,X,P,f,a=>K8 eo X _ f fun v g=>a _ g
 | .bW eo,X,P,f,a=>K8 eo X _ f fun v g=>a _ g
theorem K8:∀(eo:List dO) (X:Type) (P:Lv→X→Prop) (f:kF eo X),(∀v g,P v g)→nR eo X P f
 | [],X,P,f,a=>a _ _
 |s::eo,X,P,f,a=>QZ s _ _ f fun v g=>K8 eo X _ g fun ak g=>a _ g
end
theorem Q0{aK:Type}:∀(eo:List dO) (X:Type) (f:kF eo X) (l:Lv) (k:X→Option aK) (r:aK),bl eo X f l k=some r→l.length=eo.length
 | [],X,f,l,k,r,e=>by
  simp only[bl] at e
  obtain⟨rfl,e⟩:=KR e
  rfl
 |s::eo,X,f,l,k,r,e=>by
  simp only[bl] at e
  obtain⟨v,ak,rfl,e⟩:=KQ e
  obtain⟨g,_,e⟩:=QY s _ (fun _ _=>True) f v _ r (QZ s _ _ f fun _ _=>trivial) e
  rw[List.length_cons,List.length_cons,Q0 eo X g ak k r e]
structure cz(P:Program) where
 code:js
 ins:List Nat
 outs:oq
 f:Lv→Lo→a9
 ok:qH P code ins outs f
structure cd(P:Program) where
 call:dy
 ay:bK
 BF:fv P call
 BG:dC P ay
def cq(P:Program)(g:FuncId)(w:Lv→Lo→OvL):Prop:=∀args h v aa,w args h=some (v,aa)→kZ P g args h v aa
def cd.ao{P:Program}:cd P:=⟨nh,nP,nQ,ot⟩
def cd.c{P:Program}(x:cd P){g:FuncId}{w:Lv→Lo→OvL}(ok:cq P g w):cd P:=⟨nO g w x.call,x.ay,pa ok x.BF,x.BG⟩
def cd.r{P:Program}(x:cd P){rc:dy}(dK:fv P rc):cd P:=⟨rc,x.ay,dK,x.BG⟩
def cd.v{P:Program}(x:cd P){ay:bK}(b3:dC P ay):cd P:=⟨x.call,ay,x.BF,b3⟩
inductive ko where
 |skip
 |mc (l:List hr)
 |seq (x y:ko)
 |cond (c:bJ) (x y:ko)
 |block (id:Nat) (x:ko)
 |exit (id:Nat)
 |ret
 |draw (ls:List (List hr))
 |sub (i:Nat)
def K9{P:Program}:List (cz P)→Nat→Option (cz P)
 | [],_=>none
 |p::_,0=>some p
 |_::ah,i+1=>K9 ah i
def K_{P:Program}:List (cz P)→Nat→Lv→Lo→a9
 | [],_=>fun _ _=>none
 |p::_,0=>p.f
 |_::ah,i+1=>K_ ah i
def ko.lS{P:Program}(ah:List (cz P)):ko→jt
 | .skip=> .skip
 | .mc l=> .mc l
 | .seq x y=> .seq (x.lS ah) (y.lS ah)
 | .cond c x y=> .cond c (x.lS ah) (y.lS ah)
 | .block i x=> .block i (x.lS ah)
 | .exit i=> .exit i
 | .ret=> .ret
 | .draw l=> .draw l
 | .sub i=>match K9 ah i with
  |some p=> .sub i p.code p.ins p.outs
  |none=> .skip
def cd.sig{P:Program}(x:cd P)(ah:List (cz P)):o8:=⟨x.call,x.ay,K_ ah⟩
theorem Q1{P:Program}:∀{ah:List (cz P)} {i:Nat} {p:cz P},K9 ah i=some p→qH P p.code p.ins p.outs (K_ ah i)
 | [],i,p,e=>by cases e
 |q::ah,0,p,e=>by
  injection e with e;subst e;exact q.ok
 |q::ah,i+1,p,e=>Q1 (ah:=ah) e
theorem ko.ok{P:Program}(x:cd P)(ah:List (cz P)):∀k:ko,(k.lS ah).ok P (x.sig ah)
 | .skip=>trivial
 | .mc l=>trivial
 | .seq a b=>⟨ko.ok x ah a,ko.ok x ah b⟩
 | .cond c a b=>⟨ko.ok x ah a,ko.ok x ah b⟩
 | .block i a=>ko.ok x ah a
 | .exit i=>trivial
 | .ret=>trivial
 | .draw l=>trivial
 | .sub i=>by
  simp only[ko.lS]
  split
  ·rename_i p q
   exact Q1 q
  ·trivial
def cz.of{P:Program}(A:List (Nat × dO))(x:cd P)(ah:List (cz P))(k:ko)(c_:List dO)(ins:List Nat)(outs:oq)(S:kF c_ (Lo→a9))
  (q:nR c_ _ (fun ak g=>∀h,kE A (x.sig ah) (k.lS ah) (ins.zip ak) h (yc outs)=g h) S):cz P:=
 ⟨(k.lS ah).I,ins,outs,cv c_ S,qH.of x.BF x.BG (k.ok x ah) fun ak h r e=>by
  obtain⟨g,p,e⟩:=EL q e
  rw[p h];exact e⟩
theorem cz.aa1{P:Program}{A:List (Nat × dO)}{x:cd P}{ah:List (cz P)}{k:ko}{c_:List dO}{ins:List Nat}{outs:oq}{B:kF c_ (Lo→a9)→kF c_ (Lo→a9)}{L:Nat→kF c_ (Lo→a9)}
  (cS:nR c_ _ (fun _ g=>∀h,g h=none) (L 0)) (La:∀n,L (n+1)=B (L n))
  (q:∀self,nR c_ _ (fun ak g=>∀h,kE A (x.sig ah) (k.lS ah) (ins.zip ak) h (j0 ins c_ outs (cv c_ self))=g h) (B self)) (n:Nat):qH P (.loop (k.lS ah).I) ins outs (cv c_ (L n)):=by
 refine qH.loop (A:=A) (eU:=x.sig ah) (c:=k.lS ah) (qG:=c_) (G:=fun n=>cv c_ (L n)) x.BF x.BG (k.ok x ah) (fun ak h r e=> ?_) (fun n ak h r e=> ?_) n
 ·obtain⟨g,p,e⟩:=EL cS e
  rw[p h] at e;cases e
 ·rw[La n] at e
  obtain⟨g,p,e⟩:=EL (q (L n)) e
  rw[p h];exact e
def cz.loop{P:Program}(A:List (Nat × dO))(x:cd P)(ah:List (cz P))(k:ko)(c_:List dO)(ins:List Nat)(outs:oq)(B:kF c_ (Lo→a9)→kF c_ (Lo→a9))(L:Nat→kF c_ (Lo→a9))
  (cS:nR c_ _ (fun _ g=>∀h,g h=none) (L 0)) (La:∀n,L (n+1)=B (L n))
  (q:∀self,nR c_ _ (fun ak g=>∀h,kE A (x.sig ah) (k.lS ah) (ins.zip ak) h (j0 ins c_ outs (cv c_ self))=g h) (B self)) (n:Nat):cz P:=
 ⟨.loop (k.lS ah).I,ins,outs,cv c_ (L n),cz.aa1 cS La q n⟩
theorem aa2{P:Program}{f:FuncId}{fn:Func}(n:Nat)(res:List jg)(A:List (Nat × dO))(x:cd P)(ah:List (cz P))(k:ko)(c_:List dO)(F:kF c_ (Lo→OvL))(aS:P.funcs[f]? =some fn)
  (BC:sE P fn=some ⟨n,res,(k.lS ah).I⟩) (o3:qz P f=true) (bd:Nat.ble c_.length n=true)
  (q:nR c_ _ (fun ak g=>∀h,kE A (x.sig ah) (k.lS ah) (ye ak) h (K5 res)=g h) F):cq P f (cv c_ F):=by
 intro args h v aa e6
 obtain⟨g,p,e⟩:=EL q e6
 have ax:args.length=c_.length:=Q0 c_ _ F args _ _ e6
 exact kZ.aaR (A:=A) (eU:=x.sig ah) (c:=k.lS ah) aS BC o3 (by rw[ax];exact Nat.le_of_ble_eq_true bd) rfl x.BF x.BG (k.ok x ah) ((p h).trans e)
def aa3(P:Program)(fn:Func):js:=match sE P fn with
 |some e=>e.code
 |none=> .skip
def Q2(P:Program)(fn:Func):Nat:=match sE P fn with
 |some e=>e.n
 |none=>0
def Q3(P:Program)(fn:Func):List jg:=match sE P fn with
 |some e=>e.res
 |none=> []
def v7:js→List Nat→js
 |c,[]=>c
 | .seq a b,i::p=>match i with
  |0=>v7 a p
  |_=>v7 b p
 | .cond _ a b,i::p=>match i with
  |0=>v7 a p
  |_=>v7 b p
 | .block _ x,_::p=>v7 x p
 | .loop x,_::p=>v7 x p
 |_,_=> .skip
abbrev yh:=List (List Nat × Nat)
def uc(k:Nat):yh→yh
 | []=> []
 |([],_)::r=>uc k r
 |(o::p,i)::r=>match Nat.beq o k with
  |true=>(p,i)::uc k r
  |false=>uc k r
def rD(d:ko):yh→ko
 | []=>d
 |([],i)::_=> .sub i
 |(_::_,_)::r=>rD d r
def yi:js→yh→ko
 | .skip,cs=>rD .skip cs
 | .mc l,cs=>rD (.mc l) cs
 | .draw l,cs=>rD (.draw l) cs
 | .seq a b,cs=>rD (.seq (yi a (uc 0 cs)) (yi b (uc 1 cs))) cs
 | .cond c a b,cs=>rD (.cond c (yi a (uc 0 cs)) (yi b (uc 1 cs))) cs
 | .block o x,cs=>rD (.block o (yi x (uc 0 cs))) cs
 | .loop _,cs=>rD .skip cs
 | .exit o,cs=>rD (.exit o) cs
 | .ret,cs=>rD .ret cs
def cT(P:Program)(fn:Func)(p:List Nat)(cs:yh):ko:=yi (v7 (aa3 P fn) p) cs
theorem cG{P:Program}{f:FuncId}{fn:Func}(A:List (Nat × dO))(x:cd P)(ah:List (cz P))(cs:yh)(c_:List dO)(F:kF c_ (Lo→OvL))(aS:P.funcs[f]? =some fn)
  (BC:sE P fn=some ⟨Q2 P fn,Q3 P fn,((cT P fn [] cs).lS ah).I⟩) (o3:qz P f=true) (bd:Nat.ble c_.length (Q2 P fn)=true)
  (q:nR c_ _ (fun ak g=>∀h,kE A (x.sig ah) ((cT P fn [] cs).lS ah) (ye ak) h (K5 (Q3 P fn))=g h) F):cq P f (cv c_ F):=aa2 _ _ A x ah _ c_ F aS BC o3 bd q
def aN(s:dO){aK:Type}(v:V)(f:yg s (Option aK)):Option aK:=bn s (Option aK) f v id
def aZ(eo:List dO){aK:Type}(l:Lv)(f:kF eo (Option aK)):Option aK:=bl eo (Option aK) f l id
instance {n:Nat}:OfNat bJ n:=⟨.t n⟩
namespace K
def ci(n:Int):bJ:= .c (.int .i64 n)
abbrev aD:dO:= .any
abbrev a4:dO:= .bool
abbrev a3:dO:= .str
abbrev aP:dO:= .int .i64
def ao(d:Nat)(x:fF):hr:=⟨some d,none, .op x,[]⟩
def on(x:fF):hr:=⟨none,none, .op x,[]⟩
def rv(d:Nat)(x:bJ):hr:=ao d (.rv x)
def gd(d n:Nat)(x:bJ):hr:=ao d (.af n x)
def c5(d:Nat)(x:bJ):hr:=ao d (.ag x)
def Bq(d n:Nat)(x:bJ):hr:=ao d (.bp n x)
def ov(d:Nat)(x:bJ):hr:=ao d (.bz x)
def st(n:Nat)(p x:bJ):hr:=on (.store n p x)
def eB(d f:Nat)(xs:List bJ):hr:=⟨some d,none, .call f xs,[]⟩
def ud(d:Nat)(x:bJ)(xs:List bJ):hr:=⟨some d,none, .ry x xs,[]⟩
def Q4(s:dO)(r:List (Nat × dO)):List Nat→List (Nat × dO)
 | []=>r
 |d::aM=>(d,s)::Q4 s r aM
def cE:List (dO × List Nat)→List (Nat × dO)
 | []=> []
 |(s,aM)::l=>Q4 s (cE l) aM
def hY:List ko→ko
 | []=> .skip
 | [a]=>a
 |a::b::l=> .seq a (hY (b::l))
end K
open Go.RowKit
abbrev aa4:=Nat × IntKind × List Int × TypeId
def pins(ah:List aa4):Lo:=ah.map fun p=> .tG p.1 p.2.1 p.2.2.1 p.2.2.2
mutual
def iz(n:Nat):V→Bool
 | .ptr id _ _=>decide (id<n)
 | .er id _ _=>decide (id<n)
 | .mp id=>decide (id<n)
 | .ref e _=>iz n e
 | .cx es=>pc n es
 | .fn _ cs=>pc n cs
 | .eD _ cs=>pc n cs
 | .agg cs=>pc n cs
 | .bW cs=>pc n cs
 |_=>true
def pc(n:Nat):Lv→Bool
 | []=>true
 |v::ak=>iz n v&&pc n ak
end
theorem v8{n:Nat}:∀{ak:Lv} {k:Nat} {v:V},pc n ak=true→ak[k]? =some v→iz n v=true
 | [],k,v,_,h=>by simp at h
 |u::us,0,v,h,aH=>by simp[pc] at h aH;subst aH;exact h.1
 |u::us,k+1,v,h,aH=>by simp[pc] at h aH;exact v8 h.2 aH
theorem v9{n:Nat}:∀{ak:Lv},(∀(k:Nat) (v:V),ak[k]? =some v→iz n v=true)→pc n ak=true
 | [],h=>rfl
 |u::us,h=>by simp only[pc,Bool.and_eq_true];exact⟨h 0 u rfl,v9 fun k v aH=>h (k+1) v aH⟩
theorem Q5{n:Nat}{e:V}(h:iz n e=true){k:Nat}{c:V}(aH:e.cells[k]? =some c):iz n c=true:=by
 cases e<;>first
  |(simp only[V.cells] at aH;exact v8 (by simpa [iz] using h) aH)
  |(simp only[V.cells] at aH;cases k<;>simp at aH<;>subst aH<;>exact h)
theorem Q6{n:Nat}{e:V}(h:∀(k:Nat) (c:V),e.cells[k]? =some c→iz n c=true):iz n e=true:=by
 cases e<;>first
  |exact h 0 _ rfl
  |(simp only[iz];exact v9 h)
theorem aa5{L:Loc}{w:World}{n:Nat}(bN:∀id p,L.at_ id=some p→id<n)(bd:L.len=n){v:V}{x:Value}(r:bM L w v x):iz n v=true:=by
 induction r with
 |ptr h=>exact decide_eq_true (bN _ _ h)
 |er h an b0=>exact decide_eq_true (bN _ _ h)
 |mp h=>exact decide_eq_true (bN _ _ h)
 |nC x h ax R=>exact decide_eq_true (by omega)
 |lH x h ax R=>exact decide_eq_true (by omega)
 |tE x h ax R=>exact decide_eq_true (by omega)
 |ref f cj aF an bc ba=>simp only[iz];exact Q6 fun k c aH=>ba k c aH
 |cx f cj aF jq a6 an bc ba=>simp only[iz];exact v9 fun i e aw=>Q6 fun o c U=>ba i o e c aw U
 |fn ak ax bc ba=>simp only[iz];exact v9 fun k c aH=>ba k c aH
 |eD ak ax bc ba=>simp only[iz];exact v9 fun k c aH=>ba k c aH
 |agg ak ax bc ba=>simp only[iz];exact v9 fun k c aH=>ba k c aH
 |bW ak ax bc ba=>simp only[iz];exact v9 fun k c aH=>ba k c aH
 |oU a cap=>rfl
 |_=>rfl
theorem Q7{L cZ:Loc}{w:World}{n:Nat}(eQ:∀id,id<n→cZ.at_ id=L.at_ id)(sQ:∀b,Own L b→Own cZ b)(bd:L.len=n){v:V}{x:Value}(r:bM cZ w v x):iz n v=true→bM L w v x:=by
 induction r with
 |int k n=>exact fun _=> .int k n
 |bool b=>exact fun _=> .bool b
 |str l=>exact fun _=> .str l
 |ki=>exact fun _=> .ki
 |ptr h=>exact fun q=> .ptr ((eQ _ (of_decide_eq_true q)).symm.trans h)
 |ref f cj aF an bc ba=>exact fun h=> .ref f (fun q=>cj (sQ _ q)) aF an (fun k c aH=>ba k c aH (Q5 (by simpa [iz] using h) aH))
 |ab=>exact fun _=> .ab
 |er h an b0=>exact fun q=> .er ((eQ _ (of_decide_eq_true q)).symm.trans h) an b0
 |cx f cj aF jq a6 an bc ba=>exact fun h=> .cx f (fun q=>cj (sQ _ q)) aF jq a6 an (fun i o e c R ae=>ba i o e c R ae (Q5 (v8 (by simpa [iz] using h) R) ae))
 |oU a cap=>exact fun _=> .oU a cap
 |hS a=>exact fun _=> .hS a
 |kv=>exact fun _=> .kv
 |mp h=>exact fun q=> .mp ((eQ _ (of_decide_eq_true q)).symm.trans h)
 |fn ak ax bc ba=>exact fun h=> .fn ak ax (fun k c aH=>ba k c aH (v8 (by simpa [iz] using h) aH))
 |eD ak ax bc ba=>exact fun h=> .eD ak ax (fun k c aH=>ba k c aH (v8 (by simpa [iz] using h) aH))
 |lF=>exact fun _=> .lF
 |agg ak ax bc ba=>exact fun h=> .agg ak ax (fun k c aH=>ba k c aH (v8 (by simpa [iz] using h) aH))
 |bW ak ax bc ba=>exact fun h=> .bW ak ax (fun k c aH=>ba k c aH (v8 (by simpa [iz] using h) aH))
 |lG x=>exact fun _=> .lG x
 |nC x h ax R=>exact fun q=> .nC x ((eQ _ (of_decide_eq_true q)).symm.trans h) (by rw[bd];exact of_decide_eq_true q) R
 |lH x h ax R=>exact fun q=> .lH x ((eQ _ (of_decide_eq_true q)).symm.trans h) (by rw[bd];exact of_decide_eq_true q) R
 |tE x h ax R=>exact fun q=> .tE x ((eQ _ (of_decide_eq_true q)).symm.trans h) (by rw[bd];exact of_decide_eq_true q) R
def Q8:nD→Bool
 | .jW _ _ _=>true
 |_=>false
def iA(h:Lo):Bool:=h.all fun ao=> !(Q8 ao)
theorem Lb{h:Lo}(q:iA h=true){i:Nat}:¬jF h i:=by
 rintro ⟨es,az,n,e⟩
 have:=List.all_eq_true.1 q _ (List.mem_of_getElem? e)
 simp[Q8] at this
def mi:V→Bool
 | .agg _=>true
 |_=>false
inductive ef(b:Bool)(av:Nat→Prop)(h:Lo):V→V→Prop
 |same {v:V} (bg:ff v=true) (aF:b=true∨bare v=true):ef b av h v v
 |agg {cs aM:Lv} (ax:cs.length=aM.length) (hp:∀(k:Nat) (c d:V),cs[k]? =some c→aM[k]? =some d→ef b av h c d):ef b av h (.agg cs) (.agg aM)
 |bW {cs aM:Lv} (ax:cs.length=aM.length) (hp:∀(k:Nat) (c d:V),cs[k]? =some c→aM[k]? =some d→ef b av h c d):ef b av h (.bW cs) (.bW aM)
 |cx {aM es:Lv} (aF:b=true) (ax:es.length=aM.length) (aS:∀(i:Nat) (e c:V),aM[i]? =some e→es[i]? =some c→c.cells.length=e.cells.length∧c.cells.all V.scalar=true∧mi c=mi e)
   (he:∀(i o:Nat) (e c z y:V),aM[i]? =some e→es[i]? =some c→e.cells[o]? =some z→c.cells[o]? =some y→ef b av h z y):ef b av h (.cx aM) (.cx es)
 |row {id off len az:Nat} {aM es:Lv} (hy:av id) (aF:h[id]? =some (.row aM az)) (cj:off+len≤aM.length) (ax:es.length=len)
   (aS:∀(i:Nat) (e c:V),aM[off+i]? =some e→es[i]? =some c→c.cells.length=e.cells.length∧c.cells.all V.scalar=true∧mi c=mi e)
   (he:∀(i o:Nat) (e c z y:V),aM[off+i]? =some e→es[i]? =some c→e.cells[o]? =some z→c.cells[o]? =some y→ef b av h z y):ef b av h (.er id off len) (.cx es)
theorem ef.aJ{b:Bool}{av:Nat→Prop}{h aa:Lo}{v u:V}(r:ef b av h v u)(k:∀o,av o→o<h.length→aa[o]? =h[o]?):ef b av aa v u:=by
 induction r with
 |same bg aF=>exact .same bg aF
 |agg ax hp ba=>exact .agg ax ba
 |bW ax hp ba=>exact .bW ax ba
 |cx aF ax aS he ba=>exact .cx aF ax aS ba
 |row hy aF cj ax aS he ba=>exact .row hy ((k _ hy (List.getElem?_eq_some_iff.1 aF).1).trans aF) cj ax aS ba
theorem ef.mono{b:Bool}{av bx:Nat→Prop}{h:Lo}{v u:V}(r:ef b av h v u)(k:∀o,o<h.length→av o→bx o):ef b bx h v u:=by
 induction r with
 |same bg aF=>exact .same bg aF
 |agg ax hp ba=>exact .agg ax ba
 |bW ax hp ba=>exact .bW ax ba
 |cx aF ax aS he ba=>exact .cx aF ax aS ba
 |row hy aF cj ax aS he ba=>exact .row (k _ (List.getElem?_eq_some_iff.1 aF).1 hy) aF cj ax aS ba
theorem Lc{a b:V}(dt:mi a=mi b)(an:a.cells=b.cells):a=b:=by
 cases a<;>cases b<;>simp[mi] at dt<;>simp[V.cells] at an<;>first|(rw[an];done)|(simp[an];done)
theorem Ld{e c:V}(ax:c.cells.length=e.cells.length)(h:∀(o:Nat) (z y:V),e.cells[o]? =some z→c.cells[o]? =some y→y=z):c.cells=e.cells:=by
 apply List.ext_getElem ax
 intro o R ae
 exact h o _ _ (List.getElem?_eq_getElem ae) (List.getElem?_eq_getElem R)
theorem ef.ff{b:Bool}{av:Nat→Prop}{h:Lo}{v u:V}(r:ef b av h v u):E.ff v=true→u=v:=by
 induction r with
 |same bg aF=>exact fun _=>rfl
 | @agg cs aM ax hp ba=>
  intro q
  congr 1
  apply List.ext_getElem ax.symm
  intro k R ae
  exact ba k _ _ (List.getElem?_eq_getElem ae) (List.getElem?_eq_getElem R) (pY (by simpa [E.ff] using q) (List.getElem?_eq_getElem ae))
 | @bW cs aM ax hp ba=>
  intro q
  congr 1
  apply List.ext_getElem ax.symm
  intro k R ae
  exact ba k _ _ (List.getElem?_eq_getElem ae) (List.getElem?_eq_getElem R) (pY (by simpa [E.ff] using q) (List.getElem?_eq_getElem ae))
 | @cx aM es aF ax aS he ba=>
  intro q
  congr 1
  apply List.ext_getElem ax
  intro i R ae
  have aV:=List.getElem?_eq_getElem ae
  have bb:=List.getElem?_eq_getElem R
  obtain⟨aX,aY,cU⟩:=aS i _ _ aV bb
  exact Lc cU (Ld aX fun o z y aE aR=>ba i o _ _ z y aV bb aE aR (Er (pY (by simpa [E.ff] using q) aV) aE))
 |row hy aF cj ax aS he ba=>intro q;simp[E.ff] at q
theorem ef.uniq{b:Bool}{av:Nat→Prop}{h:Lo}{v u:V}(r:ef b av h v u):∀{nI:V},ef b av h v nI→nI=u:=by
 induction r with
 |same bg aF=>exact fun oi=>oi.ff bg
 | @agg cs aM ax hp ba=>
  intro nI oi
  cases oi with
  |same bg aF=>exact((ef.agg ax hp:ef b av h (.agg cs) (.agg aM)).ff bg).symm
  | @agg _ K2 hg nS=>
   congr 1
   apply List.ext_getElem (hg.symm.trans ax)
   intro k R ae
   have e:cs[k]? =some (cs[k]'(by omega)):=List.getElem?_eq_getElem (by omega)
   exact ba k _ _ e (List.getElem?_eq_getElem ae) (nS k _ _ e (List.getElem?_eq_getElem R))
 | @bW cs aM ax hp ba=>
  intro nI oi
  cases oi with
  |same bg aF=>exact((ef.bW ax hp:ef b av h (.bW cs) (.bW aM)).ff bg).symm
  | @bW _ K2 hg nS=>
   congr 1
   apply List.ext_getElem (hg.symm.trans ax)
   intro k R ae
   have e:cs[k]? =some (cs[k]'(by omega)):=List.getElem?_eq_getElem (by omega)
   exact ba k _ _ e (List.getElem?_eq_getElem ae) (nS k _ _ e (List.getElem?_eq_getElem R))
 | @cx aM es aF ax aS he ba=>
  intro nI oi
  cases oi with
  |same bg hT=>exact((ef.cx aF ax aS he:ef b av h (.cx aM) (.cx es)).ff bg).symm
  | @cx _ mB hT hg sC qq=>
   congr 1
   apply List.ext_getElem (hg.trans ax.symm)
   intro i R ae
   have e:aM[i]? =some (aM[i]'(by omega)):=List.getElem?_eq_getElem (by omega)
   have aV:=List.getElem?_eq_getElem R
   have bb:=List.getElem?_eq_getElem ae
   obtain⟨aX,aY,cU⟩:=aS i _ _ e bb
   obtain⟨f1,f2,f3⟩:=sC i _ _ e aV
   refine Lc (f3.trans cU.symm) (Ld (f1.trans aX.symm) fun o z y aE aR=> ?_)
   have U:o<es[i].cells.length:=(List.getElem?_eq_some_iff.1 aE).1
   have pd:(aM[i]'(by omega)).cells[o]? =some ((aM[i]'(by omega)).cells[o]'(by omega)):=List.getElem?_eq_getElem (by omega)
   exact ba i o _ _ _ z e bb pd aE (qq i o _ _ _ y e aV pd aR)
 | @row id off len az aM es hy aF cj ax aS he ba=>
  intro nI oi
  cases oi with
  |same bg hT=>simp[E.ff] at bg
  | @row _ _ _ hU K2 mB DJ hT arp hg sC qq=>
   rw[aF] at hT
   injection hT with hT
   injection hT with aE aR
   subst aE;subst aR
   congr 1
   apply List.ext_getElem (by omega)
   intro i R ae
   have e:aM[off+i]? =some (aM[off+i]'(by omega)):=List.getElem?_eq_getElem (by omega)
   have aV:=List.getElem?_eq_getElem R
   have bb:=List.getElem?_eq_getElem ae
   obtain⟨aX,aY,cU⟩:=aS i _ _ e bb
   obtain⟨f1,f2,f3⟩:=sC i _ _ e aV
   refine Lc (f3.trans cU.symm) (Ld (f1.trans aX.symm) fun o z y aE aR=> ?_)
   have U:o<es[i].cells.length:=(List.getElem?_eq_some_iff.1 aE).1
   have pd:(aM[off+i]'(by omega)).cells[o]? =some ((aM[off+i]'(by omega)).cells[o]'(by omega)):=List.getElem?_eq_getElem (by omega)
   exact ba i o _ _ _ z e bb pd aE (qq i o _ _ _ y e aV pd aR)
mutual
theorem Le{n:Nat}:∀{v:V},ff v=true→iz n v=true
 | .int ..,_=>rfl
 | .bool _,_=>rfl
 | .str _,_=>rfl
 | .ki,_=>rfl
 | .ab,_=>rfl
 | .hS,_=>rfl
 | .kv,_=>rfl
 | .lF,_=>rfl
 | .ref e _,h=>by simp only[iz];exact Le (by simpa [ff] using h)
 | .cx es,h=>by simp only[iz];exact BH (by simpa [ff] using h)
 | .fn _ cs,h=>by simp only[iz];exact BH (by simpa [ff] using h)
 | .agg cs,h=>by simp only[iz];exact BH (by simpa [ff] using h)
 | .bW cs,h=>by simp only[iz];exact BH (by simpa [ff] using h)
 | .ptr ..,h=>by simp[ff] at h
 | .er ..,h=>by simp[ff] at h
 | .mp _,h=>by simp[ff] at h
 | .eD ..,h=>by simp[ff] at h
 | .lG,h=>by simp[ff] at h
theorem BH{n:Nat}:∀{ak:Lv},ln ak=true→pc n ak=true
 | [],_=>rfl
 |v::ak,h=>by
  simp only[ln,Bool.and_eq_true] at h
  simp only[pc,Bool.and_eq_true]
  exact⟨Le h.1,BH h.2⟩
end
theorem aa6{L cZ:Loc}{w:World}{n:Nat}{aa:Lo}(qD:cw cZ aa w)(eQ:∀id,id<n→cZ.at_ id=L.at_ id)(bN:∀id p,L.at_ id=some p→id<n)(sQ:∀b,Own L b→Own cZ b)(bd:L.len=n)
  (gQ:∀i,i<n→¬jF aa i) {v u:V} (r:ef true (fun o=>n≤o) aa v u):∀{x:Value},bM cZ w v x→bM L w u x:=by
 induction r with
 |same bg aF=>exact fun q=>Q7 eQ sQ bd q (Le bg)
 | @agg cs aM ax hp ba=>
  intro x q
  cases q with
  |agg ak hg bc=>
   refine .agg ak (hg.trans ax) fun k d aH=> ?_
   have U:k<aM.length:=(List.getElem?_eq_some_iff.1 aH).1
   have e:cs[k]? =some (cs[k]'(by omega)):=List.getElem?_eq_getElem (by omega)
   exact ba k _ _ e aH (bc k _ e)
 | @bW cs aM ax hp ba=>
  intro x q
  cases q with
  |bW ak hg bc=>
   refine .bW ak (hg.trans ax) fun k d aH=> ?_
   have U:k<aM.length:=(List.getElem?_eq_some_iff.1 aH).1
   have e:cs[k]? =some (cs[k]'(by omega)):=List.getElem?_eq_getElem (by omega)
   exact ba k _ _ e aH (bc k _ e)
 | @cx aM es aF ax aS he ba=>
  intro x q
  have nj:∀(i:Nat) (c:V),es[i]? =some c→∃e,aM[i]? =some e:=fun i c an=>by
   have:i<es.length:=(List.getElem?_eq_some_iff.1 an).1
   exact⟨_,List.getElem?_eq_getElem (show i<aM.length by omega)⟩
  cases q with
  | @cx _ az b ao cap f Lf aF jq a6 an bc=>
   have c7:∀(i o:Nat) (c y:V),es[i]? =some c→c.cells[o]? =some y→∃e z,aM[i]? =some e∧e.cells[o]? =some z∧ef true (fun o=>n≤o) aa z y:=by
    intro i o c y R ae
    obtain⟨e,hO⟩:=nj i c R
    have U:o<c.cells.length:=(List.getElem?_eq_some_iff.1 ae).1
    have:=(aS i e c hO R).1
    have b0:e.cells[o]? =some (e.cells[o]'(by omega)):=List.getElem?_eq_getElem (by omega)
    exact⟨e,_,hO,b0,he i o e c _ y hO R b0 ae⟩
   rw[←ax]
   refine .cx (az:=az) f (fun z=>Lf (sQ _ z)) aF (by omega) (fun i c R=> ?_) (fun i o c y R ae=> ?_) (fun i o c y R ae=> ?_)
   ·obtain⟨e,hO⟩:=nj i c R
    obtain⟨aX,aY,-⟩:=aS i e c hO R
    exact⟨aX.trans (a6 i e hO).1,aY⟩
   ·obtain⟨e,z,aX,aY,-⟩:=c7 i o c y R ae
    exact an i o e z aX aY
   ·obtain⟨e,z,aX,aY,cU⟩:=c7 i o c y R ae
    exact ba i o e c z y aX R aY ae (bc i o e z aX aY)
  |oU a cap=>
   have:es=[]:=List.eq_nil_of_length_eq_zero (by simpa using ax)
   subst this
   exact .oU a cap
 | @row id off len az aM es hy aF cj ax aS he ba=>
  intro x q
  obtain⟨b,base,c,e,cN,R,ae,aQ,bo,bI⟩:=qD.ik _ _ aF
  cases q with
  |lH x h ax iY=>rw[R] at h;cases h
  | @er _ _ _ cap c2 jG hU h an b0=>
   rw[R] at h
   injection h with h
   injection h with aE h
   injection h with aR bE
   subst aE;subst aR;subst bE
   have no:¬Own L b:=by
    rintro ⟨i,p,aw⟩
    have jX:=bN _ _ aw
    rcases qD.inj i id b p (base,az) ((eQ i jX).trans aw) R with e|e|e
    ·have:n≤id:=hy
     omega
    ·exact gQ i jX e
    ·obtain⟨mB,hU,jI,e⟩:=e
     rw[aF] at e;cases e
   have key:∀(i o:Nat) (ct c0:V),es[i]? =some ct→ct.cells[o]? =some c0→∃y,c[base+(off+i)*az+o]? =some y∧bM L w c0 y:=by
    intro i o ct c0 aw U
    have od:i<es.length:=(List.getElem?_eq_some_iff.1 aw).1
    have bj:aM[off+i]? =some (aM[off+i]'(by omega)):=List.getElem?_eq_getElem (by omega)
    have iX:o<ct.cells.length:=(List.getElem?_eq_some_iff.1 U).1
    have f1:=(aS i _ ct bj aw).1
    have pP:(aM[off+i]'(by omega)).cells[o]? =some ((aM[off+i]'(by omega)).cells[o]'(by omega)):=List.getElem?_eq_getElem (by omega)
    obtain⟨v,v1,v2⟩:=bI (off+i) o _ _ bj pP
    exact⟨v,v1,ba i o _ ct _ c0 bj aw pP U v2⟩
   have Lg:∀(i o:Nat),base+off*az+i*az+o=base+(off+i)*az+o:=fun i o=>by rw[Nat.add_mul];omega
   rw[←ax]
   refine .cx (az:=az) (fun i o=>(c[base+(off+i)*az+o]?).getD undef) no (qD.mem _ _ _ _ R) (by omega) (fun i c aw=>by
    have od:i<es.length:=(List.getElem?_eq_some_iff.1 aw).1
    have bj:aM[off+i]? =some (aM[off+i]'(by omega)):=List.getElem?_eq_getElem (by omega)
    obtain⟨aX,aY,-⟩:=aS i _ c bj aw
    exact⟨aX.trans (bo _ _ bj).1,aY⟩) (fun i o ct c0 aw U=> ?_) (fun i o ct c0 aw U=> ?_)
   ·obtain⟨y,hI,kG⟩:=key i o ct c0 aw U
    rw[Lg,vj ae,hI];rfl
   ·obtain⟨y,hI,kG⟩:=key i o ct c0 aw U
    simp only[hI,Option.getD_some];exact kG
theorem cw.back{L cZ:Loc}{h aa:Lo}{w a2:World}(H:cw L h w)(qD:cw cZ aa a2)(ex:Ext L w cZ)(cN:Fr (Own L) w a2)(k:∀o,o<h.length→aa[o]? =h[o]?)(gQ:iA h=true):
  cw L h a2∧∀id,id<h.length→cZ.at_ id=L.at_ id:=by
 have eQ:∀id,id<h.length→cZ.at_ id=L.at_ id:=by
  intro id aw
  rcases ex.same id (by rw[H.len];exact aw) with e|e
  ·have cj:h[id]? =some h[id]:=List.getElem?_eq_getElem aw
   have kx:=qD.ik id h[id] (by rw[k id aw];exact cj)
   have ao:=H.ik id h[id] cj
   generalize h[id]=fJ at ao kx cj
   cases fJ with
   |row es az=>obtain⟨b,base,c,ct,f,q,-⟩:=kx;rw[e] at q;cases q
   |map gB c7=>obtain⟨b,base,az,m,q,-⟩:=kx;rw[e] at q;cases q
   |oa l p=>obtain⟨b,az,q,-⟩:=kx;rw[e] at q;cases q
   |ob m a s t=>obtain⟨b,az,mx,q,-⟩:=kx;rw[e] at q;cases q
   |dead=>exact kx.trans ao.symm
   |jW es az n=>exact absurd ⟨es,az,n,cj⟩ (Lb gQ)
   |tG g db fU ct=>obtain⟨b,az,q,-⟩:=kx;rw[e] at q;cases q
  ·exact e
 have bN:∀id p,L.at_ id=some p→id<h.length:=fun id p q=>by rw[←H.len];exact H.lt id p q
 have sQ:∀b,Own L b→Own cZ b:=fun b ⟨i,p,q⟩=>⟨i,p,(eQ i (bN _ _ q)).trans q⟩
 have conv:∀{y:V} {v v0:Value},bM L w y v0→bM cZ a2 y v→bM L a2 y v:=fun o6 r=>Q7 eQ sQ H.len r (aa5 bN H.len o6)
 refine⟨⟨H.len,fun id fJ cj=> ?_,H.lt,fun id b fu s q=>Nat.lt_of_lt_of_le (H.mem _ _ _ _ q) cN.size,H.inj,fun id es az n q=>absurd ⟨es,az,n,q⟩ (Lb gQ)⟩,eQ⟩
 have aw:id<h.length:=(List.getElem?_eq_some_iff.1 cj).1
 have kx:=qD.ik id fJ (by rw[k id aw];exact cj)
 have ao:=H.ik id fJ cj
 have bh:=eQ id aw
 cases fJ with
 |row es az=>
  obtain⟨b,base,c,e,f,aE,aR,bE,bS,dn⟩:=kx
  obtain⟨fi,AN,dQ,e6,f0,cF,cW,hW,qF,Lh⟩:=ao
  refine⟨b,base,c,e,f,bh.symm.trans aE,aR,bE,bS,fun i o x y R ae=> ?_⟩
  obtain⟨v,v1,v2⟩:=dn i o x y R ae
  obtain⟨v0,-,p0⟩:=Lh i o x y R ae
  exact⟨v,v1,conv p0 v2⟩
 |map gB c7=>
  obtain⟨b,base,az,m,aE,aR,bE,bS⟩:=kx
  obtain⟨fi,AN,aa7,Li,cF,cW,hW,qF⟩:=ao
  refine⟨b,base,az,m,bh.symm.trans aE,aR,bE,fun i db v t R=> ?_⟩
  obtain⟨e,aV,bb,cb,dI⟩:=bS i db v t R
  obtain⟨e6,-,aY,cU,-⟩:=qF i db v t R
  exact⟨e,aV,conv aY bb,conv cU cb,dI⟩
 |oa l p=>
  obtain⟨b,az,aE,aR⟩:=kx
  exact⟨b,az,bh.symm.trans aE,aR⟩
 |ob m a s t=>
  obtain⟨b,az,mx,aE,aR,bE⟩:=kx
  obtain⟨fi,aa7,aa8,cF,cW,hW⟩:=ao
  refine⟨b,az,mx,bh.symm.trans aE,aR, ?_⟩
  cases m with
  |none=>cases mx with
   |none=>trivial
   |some r=>exact bE
  |some i=>cases mx with
   |none=>exact bE
   |some r=>
    have Q9:i<L.len:=by
     cases aa8 with
     |none=>exact hW.elim
     |some o6=>exact hW.1
    have dw:=eQ i (by rw[←H.len];exact Q9)
    refine⟨Q9, ?_⟩
    rcases bE.2 with z|⟨p,z⟩
    ·exact .inl (dw.symm.trans z)
    ·exact .inr ⟨p,dw.symm.trans z⟩
 |dead=>exact ao
 |jW es az n=>trivial
 |tG g db fU e=>
  obtain⟨b,az,aE,aR⟩:=kx
  exact⟨b,az,bh.symm.trans aE,aR⟩
theorem kl.freeze{P:Program}{f:FuncId}{args:Lv}{h:Lo}{u:V}(gQ:iA h=true)(c:kl P f args h fun v aa=>(∀o,o<h.length→aa[o]? =h[o]?)∧ef true (fun o=>h.length≤o) aa v u):kl P f args h fun v aa=>v=u∧aa=h:=by
 intro L w xs a H
 refine(c L w xs a H).mono ?_
 rintro e a2 ⟨x,v,aa,cZ,R,⟨k,r⟩,bo,bI,cR,eF⟩
 obtain⟨aa9,eQ⟩:=H.back bI eF cR k gQ
 have bN:∀id p,L.at_ id=some p→id<h.length:=fun id p q=>by rw[←H.len];exact H.lt id p q
 refine⟨x,u,h,L,R,⟨rfl,rfl⟩,aa6 bI eQ bN (fun b ⟨i,p,q⟩=>⟨i,p,(eQ i (bN _ _ q)).trans q⟩) H.len (fun i aw=> ?_) r bo,aa9,cR,Ext.refl L w⟩
 rintro ⟨es,az,n,e⟩
 rw[k i aw] at e
 exact Lb gQ ⟨es,az,n,e⟩
theorem ef.up{av:Nat→Prop}{h:Lo}{v u:V}(r:ef false av h v u):ef true av h v u:=by
 induction r with
 |same bg aF=>exact .same bg (.inl rfl)
 |agg ax hp ba=>exact .agg ax ba
 |bW ax hp ba=>exact .bW ax ba
 |cx aF ax aS he ba=>exact absurd aF (by decide)
 |row hy aF cj ax aS he ba=>exact .row hy aF cj ax aS ba
theorem aa_{L cZ:Loc}{w:World}{aa:Lo}(qD:cw cZ aa w)(sQ:∀b,Own cZ b→¬Own L b){av:Nat→Prop}{v u:V}(r:ef false av aa v u):∀{x:Value},bM cZ w v x→bM L w u x:=by
 induction r with
 |same bg aF=>exact fun q=>aam q (aF.resolve_left (by decide))
 | @agg cs aM ax hp ba=>
  intro x q
  cases q with
  |agg ak hg bc=>
   refine .agg ak (hg.trans ax) fun k d aH=> ?_
   have U:k<aM.length:=(List.getElem?_eq_some_iff.1 aH).1
   have e:cs[k]? =some (cs[k]'(by omega)):=List.getElem?_eq_getElem (by omega)
   exact ba k _ _ e aH (bc k _ e)
 | @bW cs aM ax hp ba=>
  intro x q
  cases q with
  |bW ak hg bc=>
   refine .bW ak (hg.trans ax) fun k d aH=> ?_
   have U:k<aM.length:=(List.getElem?_eq_some_iff.1 aH).1
   have e:cs[k]? =some (cs[k]'(by omega)):=List.getElem?_eq_getElem (by omega)
   exact ba k _ _ e aH (bc k _ e)
 |cx aF ax aS he ba=>exact absurd aF (by decide)
 | @row id off len az aM es hy aF cj ax aS he ba=>
  intro x q
  obtain⟨b,base,c,e,cN,R,ae,aQ,bo,bI⟩:=qD.ik _ _ aF
  cases q with
  |lH x h ax iY=>rw[R] at h;cases h
  | @er _ _ _ cap c2 jG hU h an b0=>
   rw[R] at h
   injection h with h
   injection h with aE h
   injection h with aR bE
   subst aE;subst aR;subst bE
   have no:¬Own L b:=sQ b ⟨_,_,R⟩
   have key:∀(i o:Nat) (ct c0:V),es[i]? =some ct→ct.cells[o]? =some c0→∃y,c[base+(off+i)*az+o]? =some y∧bM L w c0 y:=by
    intro i o ct c0 aw U
    have od:i<es.length:=(List.getElem?_eq_some_iff.1 aw).1
    have bj:aM[off+i]? =some (aM[off+i]'(by omega)):=List.getElem?_eq_getElem (by omega)
    have iX:o<ct.cells.length:=(List.getElem?_eq_some_iff.1 U).1
    have f1:=(aS i _ ct bj aw).1
    have pP:(aM[off+i]'(by omega)).cells[o]? =some ((aM[off+i]'(by omega)).cells[o]'(by omega)):=List.getElem?_eq_getElem (by omega)
    obtain⟨v,v1,v2⟩:=bI (off+i) o _ _ bj pP
    exact⟨v,v1,ba i o _ ct _ c0 bj aw pP U v2⟩
   have Lg:∀(i o:Nat),base+off*az+i*az+o=base+(off+i)*az+o:=fun i o=>by rw[Nat.add_mul];omega
   rw[←ax]
   refine .cx (az:=az) (fun i o=>(c[base+(off+i)*az+o]?).getD undef) no (qD.mem _ _ _ _ R) (by omega) (fun i c aw=>by
    have od:i<es.length:=(List.getElem?_eq_some_iff.1 aw).1
    have bj:aM[off+i]? =some (aM[off+i]'(by omega)):=List.getElem?_eq_getElem (by omega)
    obtain⟨aX,aY,-⟩:=aS i _ c bj aw
    exact⟨aX.trans (bo _ _ bj).1,aY⟩) (fun i o ct c0 aw U=> ?_) (fun i o ct c0 aw U=> ?_)
   ·obtain⟨y,hI,kG⟩:=key i o ct c0 aw U
    rw[Lg,vj ae,hI];rfl
   ·obtain⟨y,hI,kG⟩:=key i o ct c0 aw U
    simp only[hI,Option.getD_some];exact kG
theorem kl.aba{P:Program}{f:FuncId}{args:Lv}{u:V}{av:Nat→Prop}(bh:ln args=true)(c:kl P f args [] fun v aa=>ef false av aa v u)(h:Lo):kl P f args h fun v aa=>v=u∧aa=h:=by
 intro L w xs a H
 refine(c mF w xs ⟨a.1,fun k v aH=>aal (a.2 k v aH) (pY bh aH)⟩ (Qf w)).mono ?_
 rintro e a2 ⟨x,v,aa,cZ,R,r,bo,bI,cR,eF⟩
 refine⟨x,u,h,L,R,⟨rfl,rfl⟩,aa_ bI (fun b aF=> ?_) r bo,H.kept cR,cR.mono (fun b aF=>(sG b aF).elim),Ext.refl L w⟩
 rintro ⟨i,p,q⟩
 rcases eF.own b aF with z|z
 ·exact sG b z
 ·have:=H.mem i b p.1 p.2 q
  omega
def BI(W:Lv→Lo→OvL)(args:Lv)(h:Lo):OvL:=match ln args with
 |true=>match W args [] with
  |some (v,aa)=> @dite _ (∃u,ef false (fun _=>True) aa v u) (Classical.propDecidable _) (fun q=>some (Classical.choose q,h)) (fun _=>none)
  |none=>none
 |false=>none
theorem abb{P:Program}{f:FuncId}{W:Lv→Lo→OvL}(ok:∀args h v aa,W args h=some (v,aa)→kZ P f args h v aa):∀args h v aa,BI W args h=some (v,aa)→kZ P f args h v aa:=by
 intro args h v aa e
 unfold BI at e
 split at e
 ·rename_i bh
  split at e
  ·rename_i v0 aI e6
   split at e
   ·rename_i q
    injection e with e
    injection e with aV bb
    subst bb
    obtain⟨BJ,c⟩:=ok _ _ _ _ e6
    refine⟨BJ, ?_⟩
    rw[←aV]
    exact kl.aba (av:=fun _=>True) bh (c.mono fun v2 ae ⟨fD,bf⟩=>by subst fD;subst bf;exact Classical.choose_spec q) h
   ·cases e
  ·cases e
 ·cases e
theorem abc{W:Lv→Lo→OvL}{args:Lv}{aa:Lo}{v:V}(bh:ln args=true)(e:W args []=some (v,aa)){av:Nat→Prop}{u:V}(r:ef false av aa v u)(h:Lo):BI W args h=some (u,h):=by
 have oi:ef false (fun _=>True) aa v u:=r.mono fun _ _ _=>trivial
 have q:∃u,ef false (fun _=>True) aa v u:=⟨u,oi⟩
 unfold BI
 rw[bh,e]
 simp only
 rw[dif_pos q,oi.uniq (Classical.choose_spec q)]
def ow(W:Lv→Lo→OvL)(args:Lv)(h:Lo):OvL:=match W args h with
 |some (v,aa)=> @dite _ (iA h=true∧(∀o,o<h.length→aa[o]? =h[o]?)∧∃u,ef true (fun o=>h.length≤o) aa v u) (Classical.propDecidable _) (fun q=>some (Classical.choose q.2.2,h)) (fun _=>none)
 |none=>none
theorem sR{P:Program}{f:FuncId}{W:Lv→Lo→OvL}(ok:∀args h v aa,W args h=some (v,aa)→kZ P f args h v aa):∀args h v aa,ow W args h=some (v,aa)→kZ P f args h v aa:=by
 intro args h v aa e
 unfold ow at e
 split at e
 ·rename_i v0 aI e6
  split at e
  ·rename_i q
   injection e with e
   injection e with aV bb
   subst bb
   obtain⟨BJ,c⟩:=ok _ _ _ _ e6
   refine⟨BJ, ?_⟩
   rw[←aV]
   exact kl.freeze q.1 (c.mono fun v2 ae ⟨fD,bf⟩=>by subst fD;subst bf;exact⟨q.2.1,Classical.choose_spec q.2.2⟩)
  ·cases e
 ·cases e
theorem EM{W:Lv→Lo→OvL}{args:Lv}{h aa:Lo}{v:V}(e:W args h=some (v,aa))(gQ:iA h=true)(k:∀o,o<h.length→aa[o]? =h[o]?){u:V}(r:ef true (fun o=>h.length≤o) aa v u):ow W args h=some (u,h):=by
 have q:iA h=true∧(∀o,o<h.length→aa[o]? =h[o]?)∧∃u,ef true (fun o=>h.length≤o) aa v u:=⟨gQ,k,u,r⟩
 unfold ow
 rw[e]
 simp only
 rw[dif_pos q,r.uniq (Classical.choose_spec q.2.2)]
theorem e_{α:Type}{ao:Option α}{v:α}{k:α→OvL}{Q:V→Lo→Prop}(e:ao=some v)(h:aj (k v) Q):aj (J ao k) Q:=by subst e;exact h
theorem gR{α:Type}{ao:Option α}{v:α}{k:α→a9}{Q:cg→Lv→Lo→Prop}(e:ao=some v)(h:aL (k v) Q):aL (J ao k) Q:=by subst e;exact h
theorem ox{α aK:Type}{ao:Option α}{v:α}{k:α→Option aK}{r:Option aK}(e:ao=some v)(h:k v=r):J ao k=r:=by subst e;exact h
theorem h6{ao:OvL}{v:V}{g:Lo}{k:V→Lo→OvL}{Q:V→Lo→Prop}(e:ao=some (v,g))(h:aj (k v g) Q):aj (ad ao k) Q:=by subst e;exact h
theorem sS{ao:OvL}{v:V}{g:Lo}{k:V→Lo→a9}{Q:cg→Lv→Lo→Prop}(e:ao=some (v,g))(h:aL (k v g) Q):aL (ad ao k) Q:=by subst e;exact h
theorem nk{aK:Type}{ao:OvL}{v:V}{g:Lo}{k:V→Lo→Option aK}{r:Option aK}(e:ao=some (v,g))(h:k v g=r):ad ao k=r:=by subst e;exact h
theorem jJ{p:Prop}{ao:OvL}{Q:V→Lo→Prop}(e:p)(h:aj ao Q):aj (bk p ao) Q:=by rw[o9 _ e];exact h
theorem Q_{p:Prop}{ao:a9}{Q:cg→Lv→Lo→Prop}(e:p)(h:aL ao Q):aL (bk p ao) Q:=by rw[o9 _ e];exact h
theorem j3{aK:Type}{p:Prop}{ao r:Option aK}(e:p)(h:ao=r):bk p ao=r:=by rw[o9 _ e];exact h
theorem oy{k:IntKind}{n:Int}{f:Int→OvL}{Q:V→Lo→Prop}(h:aj (f n) Q):aj (bt k (.int k n) f) Q:=by rw[a1];exact h
theorem abd{k:IntKind}{n:Int}{f:Int→a9}{Q:cg→Lv→Lo→Prop}(h:aL (f n) Q):aL (bt k (.int k n) f) Q:=by rw[a1];exact h
theorem EN{aK:Type}{k:IntKind}{n:Int}{f:Int→Option aK}{r:Option aK}(h:f n=r):bt k (.int k n) f=r:=by rw[a1];exact h
theorem ue{b:Bool}{f:Bool→OvL}{Q:V→Lo→Prop}(h:aj (f b) Q):aj (bG (.bool b) f) Q:=h
theorem yj{b:Bool}{f:Bool→a9}{Q:cg→Lv→Lo→Prop}(h:aL (f b) Q):aL (bG (.bool b) f) Q:=h
theorem EO{aK:Type}{b:Bool}{f:Bool→Option aK}{r:Option aK}(h:f b=r):bG (.bool b) f=r:=h
theorem Ra{l:Lu}{f:Lu→OvL}{Q:V→Lo→Prop}(h:aj (f l) Q):aj (b1 (.str l) f) Q:=h
theorem Rb{aK:Type}{l:Lu}{f:Lu→Option aK}{r:Option aK}(h:f l=r):b1 (.str l) f=r:=h
theorem EP{ao kx:OvL}{Q:V→Lo→Prop}(e:ao=kx)(h:aj kx Q):aj ao Q:=by rw[e];exact h
theorem BK{ao kx:a9}{Q:cg→Lv→Lo→Prop}(e:ao=kx)(h:aL kx Q):aL ao Q:=by rw[e];exact h
theorem Rc{h:Lo}{es:Lv}{n:Nat}(q:iA h=true):iA (h++ [.row es n])=true:=by
 unfold iA at q⊢
 rw[List.all_append,q];rfl
theorem abe{h:Lo}{id n:Nat}{es:Lv}(q:iA h=true):iA (h.set id (.row es n))=true:=by
 unfold iA at q⊢
 rw[List.all_eq_true] at q⊢
 intro ao cj
 rcases List.mem_or_eq_of_mem_set cj with z|rfl
 ·exact q ao z
 ·rfl
theorem Lj{h:Lo}{cs:Lv}(a6:cs.all V.scalar=true):∃aa,aB (.alloc false (.agg cs)) h=some (.ptr h.length 0 0,aa)∧bY aa h.length cs∧ai h aa []∧(iA h=true→iA aa=true):=by
 have e:aB (.alloc false (.agg cs)) h=some (.ptr h.length 0 0,h++ [.row [.agg cs] cs.length]):=by
  simp only[aB,e8,KL,pQ,vn,V.cells,a6,if_true]
  rfl
 exact⟨_,e,by simp[bY],⟨by simp,fun o U _=>by rw[List.getElem?_append_left U]⟩,Rc⟩
theorem Lk{h:Lo}{cs:Lv}(a6:cs.all V.scalar=true):∃aa,aB (.box false (.c (.agg cs))) h=some (.ptr h.length 0 0,aa)∧bY aa h.length cs∧ai h aa []∧(iA h=true→iA aa=true):=by
 have e:aB (.box false (.c (.agg cs))) h=some (.ptr h.length 0 0,h++ [.row [.agg cs] cs.length]):=by
  simp only[aB,e8,Es,fW,pQ,vn,V.cells,a6,if_true]
  rfl
 exact⟨_,e,by simp[bY],⟨by simp,fun o U _=>by rw[List.getElem?_append_left U]⟩,Rc⟩
theorem bY.Rd{h:Lo}{id:Nat}{cs aM:Lv}(s:bY h id cs)(ax:aM.length=cs.length)(aI:0<cs.length)(a6:aM.all V.scalar=true){n:Nat}(bd:cs.length=n):
  ∃u aa,aB (.store n (.c (.ptr id 0 0)) (.c (.agg aM))) h=some (u,aa)∧bY aa id aM∧ai h aa [id]∧(iA h=true→iA aa=true):=by
 subst bd
 have e:aB (.store cs.length (.c (.ptr id 0 0)) (.c (.agg aM))) h=some (.bW [],h.set id (.row [.agg aM] cs.length)):=by
  have eb:=s
  unfold bY at eb
  have es:pS h cs.length (.ptr id 0 0) (.agg aM)=some (h.set id (.row [.agg aM] cs.length)):=by
   have q:pS h cs.length (.ptr id 0 0) (.agg aM)=pR h (.ptr id 0 0) aM:=if_pos ⟨ax,a6,aI⟩
   rw[q]
   simp only[pR,eb,List.getElem?_cons_zero,Option.map_some,putCells,List.set_cons_zero]
   rw[if_pos (by omega)]
   simp[ax]
  simp only[aB,e8,Bw,fW,es,Option.map_some]
 exact⟨_,_,e,s.set ax,ai.set _ _ _,abe⟩
variable {H:Type}
mutual
def g7:DataW H→Nat
 | .lit (.string bytes)=>bytes.length+1
 | .lit _=>1
 | .nil=>1
 | .ptr d=>g7 d+1
 | .slice elems spare=>nm elems+nm spare+1
 | .agg parts=>nm parts+1
 | .iface _ d=>g7 d+1
 | .map entries=>ER entries+1
 | .held _=>1
def nm:List (DataW H)→Nat
 | []=>0
 |d::r=>g7 d+nm r
def ER:List (Lit × DataW H)→Nat
 | []=>0
 |x::r=>Ll x+ER r
def Ll:Lit × DataW H→Nat
 |(.string bytes,d)=>bytes.length+g7 d+1
 |(_,d)=>g7 d+1
end
theorem Re(d:DataW H):1≤g7 d:=by
 cases d with
 |lit l=>cases l<;>simp[g7]
 |_=>simp[g7]
theorem Lm{d:DataW H}:∀{l:List (DataW H)},d∈l→g7 d≤nm l
 |x::l,h=>by
  simp only[nm]
  rcases List.mem_cons.1 h with rfl|h
  ·omega
  ·have:=Lm h;omega
theorem Rf:∀l:List (DataW H),l.length≤nm l
 | []=>by simp[nm]
 |x::l=>by
  have:=Re x
  have:=Rf l
  simp only[nm,List.length_cons];omega
theorem jK{d:DataW H}{ah:List (DataW H)}(h:d∈ah):g7 d+1≤g7 (.agg ah):=by
 have:=Lm h
 simp only[g7];omega
theorem rE{P:Program}{t:TypeId}{d:DataW H}{ak:Lv}(hu:P.underlying t=some .string)(h:e3 P d t=some ak):∃s,ak=[.str s]∧s.length+1≤g7 d:=by
 obtain⟨s,rfl⟩:=Eo hu h
 refine⟨s,rfl, ?_⟩
 cases d<;>simp[e3,hu] at h
 rename_i l
 cases l<;>simp at h
 rename_i b
 obtain⟨-,rfl⟩:=h
 simp[g7]
theorem Rg{P:Program}{e:TypeId}:∀{aM:List (DataW H)} {es:Lv},om P aM e=some es→∀v,v∈es→∃(d:DataW H) (cs:Lv),d∈aM∧e3 P d e=some cs∧v=elemV P e cs
 | [],es,h,v,aw=>by simp[om] at h;subst h;cases aw
 |d::aM,es,h,v,aw=>by
  simp only[om] at h
  split at h
  ·rename_i cs mB R ae
   injection h with h;subst h
   rcases List.mem_cons.1 aw with rfl|aw
   ·exact⟨d,cs,List.mem_cons_self,R,rfl⟩
   ·obtain⟨g4,oZ,aE,aR,bE⟩:=Rg ae v aw
    exact⟨g4,oZ,List.mem_cons_of_mem _ aE,aR,bE⟩
  ·cases h
theorem Rh{P:Program}{d:DataW H}{t e:TypeId}{ak:Lv}(hu:P.underlying t=some (.slice e))(h:e3 P d t=some ak):
  ak=[.ab]∨∃es,ak=[.cx es]∧es.length+1≤g7 d∧∀v,v∈es→∃(jL:DataW H) (cs:Lv),e3 P jL e=some cs∧v=elemV P e cs∧g7 jL+1≤g7 d:=by
 rcases aak hu h with rfl|⟨elems,sp,es,rfl,aV,rfl⟩
 ·exact .inl rfl
 ·refine .inr ⟨es,rfl, ?_,fun v bg=> ?_⟩
  ·rw[Qp aV]
   have:=Rf elems
   simp only[g7];omega
  ·obtain⟨jL,cs,R,ae,aQ⟩:=Rg aV v bg
   have:=Lm R
   exact⟨jL,cs,ae,aQ,by simp only[g7];omega⟩
theorem v_{P:Program}{e:TypeId}(h:En P e=true)(cs:Lv):elemV P e cs= .agg cs:=by
 simp only[elemV,h]
theorem Ri{P:Program}{e:TypeId}(h:En P e=false)(c:V):elemV P e [c]=c:=by
 simp only[elemV,h]
end
end Go.Proofs.YtjpjeilfmjdhcaaGreat.E
