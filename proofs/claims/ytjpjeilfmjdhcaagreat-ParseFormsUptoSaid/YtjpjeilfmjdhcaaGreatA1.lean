/- The layer E, its parts in one file: values and memory, operations, code, and what it comes to. No condition. -/
import Derived.Test.YtjpjeilfmjdhcaaGreatA0
import Derived.Laws.Tables
import Derived.BigFrame
import Derived.Lib.Bytealg
import Derived.BigCall
import Derived.KernelRfl
import Derived.Laws.Externs
set_option maxRecDepth 100000
set_option linter.unusedVariables false
set_option linter.unusedSimpArgs false
set_option linter.unnecessarySimpa false
namespace Go.Proofs.YtjpjeilfmjdhcaaGreat.E
def mz.fits(P:Program)(t:TypeId):mz→Prop
 | .i=>∃k,P.underlying t=some (.int k)
 | .s=>P.underlying t=some .string
 | .b=>P.underlying t=some .bool
def kT(L:Loc)(w:World)(gB:List (V × V × Nat))(gr:List MapEntry):Prop:=
 gr.length=gB.length∧∀(i:Nat) (k v:V) (t:Nat),gB[i]? =some (k,v,t)→∃e:MapEntry,gr[i]? =some e∧bM L w k e.key∧bM L w v e.val∧e.born=t
theorem kT.tail{L:Loc}{w:World}{p:V × V × Nat}{gB:List (V × V × Nat)}{m:MapEntry}{gr:List MapEntry}(h:kT L w (p::gB) (m::gr)):kT L w gB gr:=
 ⟨by simpa using h.1,fun i k v t aw=>by obtain⟨e,q⟩:=h.2 (i+1) k v t (by simpa using aw);exact⟨e,by simpa using q⟩⟩
theorem run_getObj_map{P:Program}{w:World}{b:Nat}{gr:Array MapEntry}{clock:Nat}(h:w.heap[b]? =some (.map gr clock)):(getObj b).run P w= .ok (.map gr clock) w:=by
 simp only[getObj,Sem.run,h]
inductive fF where
 |rv (x:bJ)
 |pick (c a b:bJ)
 |alloc (arr:Bool) (z:V)
 |box (arr:Bool) (x:bJ)
 |build (z:Lv) (parts:List (Nat × Nat × bJ))
 |dN (az:Nat) (z:V) (len:Nat) (parts:List (Nat × bJ))
 |ag (a:bJ)
 |bp (n:Nat) (a:bJ)
 |store (n:Nat) (a x:bJ)
 |bz (x:bJ)
 |bin (op:BinOp) (x y:bJ)
 |eq (neg:Bool) (T:pM) (x y:bJ)
 |un (op:UnOp) (x:bJ)
 |toInt (k:IntKind) (x:bJ)
 |JQ (x:bJ)
 |toStr (x:bJ)
 |O1 (x:bJ)
 |vA (f:FuncId) (fz:List bJ)
 |O2 (z:V) (bytes:Nat) (len cap:bJ)
 |kU (x:bJ) (et aw:Option bJ)
 |JR (az:Nat) (x:bJ) (et aw jZ:Option bJ)
 |JS (n az:Nat) (x:bJ) (et aw:Option bJ)
 |af (off:Nat) (x:bJ)
 |JT (off:Nat) (x:bJ)
 |JU (off n:Nat) (x:bJ)
 |JV (n az:Nat) (x i:bJ)
 |cH (az:Nat) (x i:bJ)
 |mC (x i:bJ)
 |ext (i:Nat) (x:bJ)
 |vB (x:bJ)
 |cm (x:bJ)
 |app (az bytes:Nat) (x y:bJ)
 |copy (az:Nat) (x y:bJ)
 |tR (jZ:Bool) (x y:bJ)
 |vC (x:bJ) (a_:List bJ)
 |vD (f:FuncId) (fz:List bJ)
 |O3
 |DU (x:bJ)
 |lookup (O4:mz) (z:V) (ok:Bool) (m k:bJ)
 |O5 (O4:mz) (m k v:bJ)
 |delete (O4:mz) (m k:bJ)
 |O6 (az bytes:Nat) (z:V) (x n:bJ)
 |o1 (x:bJ)
 |O7 (x:bJ)
 |og (x:bJ)
 |X9 (n az:Nat) (agg:Bool) (x i:bJ)
 |X_ (x:bJ)
 |O8 (x:bJ)
 |Ya (x:bJ)
 |vE (x y:bJ)
 |sw (x y:bJ)
 |O9 (az:Nat) (z:V) (x:bJ)
 |entry (x:bJ)
 |vF (x y:bJ)
 deriving Inhabited,Repr
def hH(P:Program)(L:Loc)(w:World)(s:Sem Next)(v:V)(aa:Lo):Prop:=
 ∃x a2 cZ,(s.run P w= .ok (.value x) a2∨(s.run P w= .ok .skip a2∧x=undef))∧bM cZ a2 v x∧cw cZ aa a2∧Fr (Own L) w a2∧Ext L w cZ
theorem Good.op{P:Program}{L:Loc}{w:World}{s:Sem Value}{v:V}{aa:Lo}(g:Good P L w s v aa):hH P L w (do pure (.value (←s))) v aa:=by
 obtain⟨x,a2,cZ,R,rest⟩:=g
 exact⟨x,a2,cZ, .inl (by simp[R]),rest⟩
theorem JW{L:Loc}{w:World}:bM L w (.bW []) undef:= .bW #[] rfl (fun k c aH=>by simp at aH)
theorem Yb{P:Program}{L:Loc}{aa:Lo}{w:World}{s:Sem Unit}(g:∃a2,s.run P w= .ok () a2∧cw L aa a2∧Fr (Own L) w a2):hH P L w (do s;pure .skip) (.bW []) aa:=by
 obtain⟨a2,R,ae,aQ⟩:=g
 exact⟨undef,a2,L, .inr ⟨by simp[R],rfl⟩,JW,ae,aQ,Ext.refl L w⟩
theorem hH.same{P:Program}{L:Loc}{h:Lo}{w:World}{s:Sem Next}{v:V}{x:Value}(H:cw L h w)(a6:s.run P w= .ok (.value x) w)(r:bM L w v x):hH P L w s v h:=
 ⟨x,w,L, .inl a6,r,H,Fr.refl _ _,Ext.refl _ _⟩
def DV(op:UnOp)(x:V):Option V:=
 match op,x with
 | .neg, .int k n=>some (.int k (k.wrap (0-n)))
 | .xor, .int k n=>some (.int k (bits .xor k (if k.signed then-1 else k.max) n))
 | .not, .bool b=>some (.bool (!b))
 |_,_=>none
theorem Yc{P:Program}{L:Loc}{h:Lo}{w:World}(H:cw L h w){op:UnOp}{x v:V}{a:Value}(bh:bM L w x a)(he:DV op x=some v):Good P L w (Op.unary op a) v h:=by
 unfold DV at he
 split at he<;>first|cases he;done|skip
 all_goals injection he with he;subst he;cases bh
 ·exact .same H (by simp[Op.unary,Op.intArith]) (.int _ _)
 ·exact .same H (by simp only[Op.unary,intBits_xor,Sem.run_pure]) (.int _ _)
 ·exact .same H (by simp[Op.unary]) (.bool _)
def DW(h:Lo):V→Option V
 | .ptr id i o=>if lK h id then some (.ptr id i o) else none
 | .ref e o=>some (.ref e o)
 | .fn f c=>some (.fn f c)
 |_=>none
def xS(jZ:Bool):V→V→Option V
 | .int k a, .int _ b=>some (.int k (if jZ then(if b>a then b else a) else(if b<a then b else a)))
 |_,_=>none
theorem O_{P:Program}{L:Loc}{h:Lo}{w:World}(H:cw L h w){jZ:Bool}{c_:Array TypeId}{ty:TypeId}{x y v:V}{a b:Value}(bh:bM L w x a)(aF:bM L w y b)(he:xS jZ x y=some v):
  Good P L w (if jZ then Builtin.max_ c_ ty #[a,b] else Builtin.min_ c_ ty #[a,b]) v h:=by
 cases x<;>cases y<;>simp only[xS] at he<;>first|(cases he;done)|skip
 injection he with he;subst he
 cases bh;cases aF
 cases jZ with
 |true=>exact .same H (by simp[Builtin.max_,Builtin.max2]) (.int _ _)
 |false=>exact .same H (by simp[Builtin.min_,Builtin.min2]) (.int _ _)
def mb(a b:Int):Int:=if b>a then b else a
def xT:V→Lv→Option V
 |v,[]=>some v
 |v,y::a_=>match xS true v y with
  |some u=>xT u a_
  |none=>none
theorem Pa{P:Program}{L:Loc}{h:Lo}{w:World}(H:cw L h w):∀(a_:Lv) (fu:List Value) (x v:V) (a:Value),bM L w x a→fu.length=a_.length→(∀k y,a_[k]? =some y→bM L w y (fu.getD k undef))→xT x a_=some v→
  Good P L w (fu.foldlM Builtin.max2 a) v h
 | [],fu,x,v,a,bh,ax,bc,he=>by
  have:fu=[]:=List.eq_nil_of_length_eq_zero (by simpa using ax)
  subst this
  simp only[xT,Option.some.injEq] at he
  subst he
  exact .same H (by simp) bh
 |y::a_,[],x,v,a,bh,ax,bc,he=>by simp at ax
 |y::a_,b::fu,x,v,a,bh,ax,bc,he=>by
  have aF:=bc 0 y rfl
  simp only[List.getD_cons_zero] at aF
  simp only[xT] at he
  split at he
  ·rename_i u hu
   cases x<;>cases y<;>simp only[xS] at hu<;>first|(cases hu;done)|skip
   injection hu with hu;subst hu
   cases bh;cases aF
   have:=Pa (P:=P) H a_ fu _ v _ (.int _ _) (by simpa using ax) (fun k z aH=>by simpa using bc (k+1) z (by simpa using aH)) he
   simpa [List.foldlM,Builtin.max2] using this
  ·cases he
def tS(es:Lv):List (Nat × V)→Lv
 | []=>es
 |(i,v)::ah=>tS (es.set i v) ah
def kk(az:Nat)(v:V):Bool:=v.cells.length==az&&v.cells.all V.scalar&&(match v with| .bW _| .lG=>false|_=>true)
theorem Pb{az:Nat}{v:V}(h:kk az v=true):flat az v∧(v.scalar=true∨∃cs,v= .agg cs):=by
 simp only[kk,Bool.and_eq_true,beq_iff_eq] at h
 refine⟨⟨h.1.1,h.1.2⟩, ?_⟩
 cases v<;>first|exact .inl rfl|exact .inr ⟨_,rfl⟩|(simp at h)
def A1(h:Lo)(az:Nat)(z:V)(len:Nat)(ah:List (Nat × V)):OvL:=
 if len*az≤16777216∧ah.all (fun p=>decide (p.1<len)&&kk az p.2) then
  some (.er h.length 0 len,h++ [.row (tS (List.replicate len z) ah) az]) else none
def DX(L:Loc)(w:World):List (Nat × V)→List (Nat × Value)→Prop
 | [],[]=>True
 |(i,v)::ah,(o,x)::xs=>i=o∧bM L w v x∧DX L w ah xs
 |_,_=>False
def DY(L:Loc)(w:World)(az:Nat)(es:Lv)(c:Array Value):Prop:=
 c.size=es.length*az∧(∀(k:Nat) (e:V),es[k]? =some e→flat az e)∧∀(i o:Nat) (e y:V),es[i]? =some e→e.cells[o]? =some y→∃v,c[i*az+o]? =some v∧bM L w y v
theorem Pc{L:Loc}{w:World}{az len:Nat}:∀(ah:List (Nat × V)) (xs:List (Nat × Value)) (es:Lv) (c:Array Value),DX L w ah xs→es.length=len→ah.all (fun p=>decide (p.1<len)&&kk az p.2)=true→
  DY L w az es c→∃c0,Instr.fill (fun i=>some (i*az,az)) c xs=some c0∧(tS es ah).length=len∧DY L w az (tS es ah) c0
 | [],[],es,c,_,ax,_,an=>⟨c,rfl,ax,an⟩
 | [],_::_,_,_,h,_,_,_=>h.elim
 |_::_,[],_,_,h,_,_,_=>h.elim
 |(i,v)::ah,(o,x)::xs,es,c,h,ax,hp,an=>by
  obtain⟨rfl,ae,aQ⟩:=h
  simp only[List.all_cons,Bool.and_eq_true,decide_eq_true_eq] at hp
  obtain⟨⟨aw,Yd⟩,sx⟩:=hp
  obtain⟨hq,bg⟩:=Pb Yd
  obtain⟨bF,bD⟩:=ae.cells bg
  have nb:x.cells.size=az:=by rw[bF,hq.1]
  have hm:(i+1)*az≤len*az:=Nat.mul_le_mul_right _ aw
  have vw:=an.1
  rw[ax] at vw
  have rq:i*az+x.cells.toList.length≤c.size:=by rw[Nat.add_mul] at hm;simp only[Array.length_toList];omega
  have JO:(x.cells.zipIdx.foldl (fun cs (p:Value × Nat)=>cs.setIfInBounds (i*az+p.2) p.1) c)=lI c (i*az) x.cells.toList:=by
   have:=OZ x.cells.toList 0 c (i*az)
   rw[←Array.foldl_toList,Array.toList_zipIdx]
   exact this
  have vm:DY L w az (es.set i v) (lI c (i*az) x.cells.toList):=by
   refine⟨by rw[xI];simpa using an.1,fun k e aH=> ?_,fun a b e y bh aF=> ?_⟩
   ·by_cases q:k=i
    ·subst q;rw[List.getElem?_set_self (by omega)] at aH;injection aH with aH;subst aH;exact hq
    ·rw[List.getElem?_set_ne (fun e=>q e.symm)] at aH;exact an.2.1 k e aH
   ·rw[AL _ _ _ rq]
    simp only[Array.length_toList,nb]
    by_cases q:a=i
    ·subst q
     rw[List.getElem?_set_self (by omega)] at bh
     injection bh with bh;subst bh
     have jr:=(List.getElem?_eq_some_iff.1 aF).1
     rw[hq.1] at jr
     rw[if_pos (by omega),show a*az+b-a*az=b by omega]
     refine⟨x.cells.getD b undef, ?_,bD b y aF⟩
     simp[Array.getD,nb,jr]
    ·rw[List.getElem?_set_ne (fun e=>q e.symm)] at bh
     have jr:=(List.getElem?_eq_some_iff.1 aF).1
     rw[(an.2.1 a e bh).1] at jr
     rw[if_neg ?_]
     ·exact an.2.2 a b e y bh aF
     ·intro dw
      rcases Nat.lt_or_gt_of_ne q with jc|jc
      ·have:(a+1)*az≤i*az:=Nat.mul_le_mul_right _ jc
       rw[Nat.add_mul] at this;omega
      ·have:(i+1)*az≤a*az:=Nat.mul_le_mul_right _ jc
       rw[Nat.add_mul] at this;omega
  obtain⟨Ye,aX,aY,cU⟩:=Pc ah xs (es.set i v) _ aQ (by simpa using ax) sx vm
  refine⟨Ye, ?_,aY,cU⟩
  simp only[Instr.fill]
  rw[if_neg (by simp only[Bool.or_eq_true,decide_eq_true_eq];simp only[Array.length_toList] at rq;omega),JO]
  exact aX
theorem Yf{P:Program}{L:Loc}{h aa:Lo}{w:World}(H:cw L h w){t e:TypeId}{i:TypeInfo}{nc:Value}{z r:V}{len:Nat}{ah:List (Nat × V)}{xs:List (Nat × Value)}(hu:P.underlying t=some (.slice e))(sy:P.info? e=some i)
  (b0:i.zero=some nc) (bg:vi nc=some z) (Yg:kk i.size z=true) (qv:0<i.size) (a6:DX L w ah xs) (he:A1 h i.size z len ah=some (r,aa)):Good P L w (Instr.buildSlice t len xs.toArray) r aa:=by
 unfold A1 at he
 split at he
 ·rename_i dw
  injection he with he;injection he with hO jd;subst hO;subst jd
  obtain⟨hq,Yh⟩:=Pb Yg
  obtain⟨bF,bD⟩:=(DG (L:=L) (w:=w) bg).cells Yh
  rw[hq.1] at bF
  have Yi:∀a2,(zeroValue e).run P a2= .ok nc a2:=fun a2=>by simp[zeroValue,typeInfo,sy,b0]
  let xU:Array Value:=if len*i.size=0 then #[] else nc.cells
  let dQ:Array Value:=(Array.range (len*i.size)).map fun q=>xU[q % xU.size]!
  have Yj:DY L w i.size (List.replicate len z) dQ:=by
   refine⟨by simp[dQ],fun k e aH=> ?_,fun a o x y au bT=> ?_⟩
   ·have:=List.mem_of_getElem? aH
    rw[List.mem_replicate] at this
    rw[this.2];exact hq
   ·have nK:=au
    have hm:=List.mem_of_getElem? au
    rw[List.mem_replicate] at hm
    obtain⟨_,rfl⟩:=hm
    have oY:=(List.getElem?_eq_some_iff.1 nK).1
    rw[List.length_replicate] at oY
    have iX:=(List.getElem?_eq_some_iff.1 bT).1
    rw[hq.1] at iX
    have hm:=JF (a:=a) (n:=len) (az:=i.size) (o:=o) oY iX
    refine⟨nc.cells.getD o undef, ?_,bD o y bT⟩
    have en:len*i.size≠0:=by omega
    have Yk:xU=nc.cells:=if_neg en
    simp only[dQ,Yk,Array.getElem?_map,Array.getElem?_range,hm,if_true,Option.map_some,bF]
    congr 1
    rw[Nat.mul_comm a,Nat.mul_add_mod,Nat.mod_eq_of_lt iX]
    simp[Array.getD,bF,iX,getElem!_pos]
  obtain⟨c0,aX,aY,cU⟩:=Pc ah xs (List.replicate len z) dQ a6 (by simp) dw.2 Yj
  have iW:(Instr.buildSlice t len xs.toArray).run P w= .ok (.slice (some ⟨w.heap.size,0,none⟩) len len) {w with heap:=w.heap.push (.cells c0 e)}:=by
   simp only[Instr.buildSlice,Sem.run_bind,run_underlying hu,Result.andThen_ok,run_sizeOf w sy]
   rw[if_neg (by omega)]
   have Pd:∀JX:Array Value,JX=xU→Instr.fill (fun Yl=>some (Yl*i.size,i.size)) (Array.map (fun x=>JX[x % JX.size]!) (Array.range (len*i.size))) xs=some c0:=by
    rintro _ rfl
    exact aX
   by_cases q:len*i.size=0
   ·rw[if_pos q,Sem.run_bind,Sem.run_pure,Result.andThen_ok]
    try dsimp only
    rw[Pd #[] (by simp[xU,q])]
    simp only[newRow,Sem.run_bind,run_newObj,Result.andThen_ok,Sem.run_pure]
   ·rw[if_neg q,Sem.run_bind,Yi,Result.andThen_ok]
    rw[Sem.run_bind,Sem.run_pure,Result.andThen_ok]
    try dsimp only
    rw[Pd nc.cells (by simp[xU,q])]
    simp only[newRow,Sem.run_bind,run_newObj,Result.andThen_ok,Sem.run_pure]
  obtain⟨ar,aA,aT⟩:=JC H (tS (List.replicate len z) ah) i.size c0 e (0,0) (AS _) cU.2.1 cU.2.2
  refine⟨_,_,_,iW, ?_,ar,aA,aT⟩
  have qt:l8 {w with heap:=w.heap.push (.cells c0 e)} w.heap.size=len*i.size:=by
   rw[rn (c:=c0) (e:=e) (cN:=(0,0)) (by show(w.heap.push _)[w.heap.size]? =_;simp),cU.1,aY]
  have:=bM.er (L:=L.push (w.heap.size,0,i.size)) (w:={w with heap:=w.heap.push (.cells c0 e)}) (off:=0) (len:=len) (cap:=len) (L.nH (w.heap.size,0,i.size)) (Nat.le_refl _)
   (by rw[qt];simp only[Nat.zero_add];exact Nat.le_refl _)
  rw[H.len] at this
  simpa only[Nat.zero_mul,Nat.add_zero,Nat.zero_add] using this
 ·cases he
def Pe(h:Lo):V→Option V
 | .er id off len=>if lK h id then some (.er id off len) else none
 |_=>none
theorem Ym{w:World}{b ao:Nat}{c:Array Value}{e:TypeId}{cN:Nat × Nat}(h:w.heap[b]? =some (.cells c e cN)):∃nG,w.freeze ⟨b,ao,none⟩ 1=put w b (.cells c e nG)∧(vg cN c.size→ao=c.size→vg nG c.size):=by
 obtain⟨et,aw⟩:=cN
 have aF:=(Array.getElem?_eq_some_iff.1 h).1
 have aq7:=(Array.getElem?_eq_some_iff.1 h).2
 refine⟨if et==aw then(ao,ao+1) else(min et ao,max aw (ao+1)), ?_, ?_⟩
 ·unfold World.freeze put
  rw[if_neg (by decide)]
  congr 1
  apply Array.ext_getElem?
  intro k
  rw[Array.getElem?_modify,Array.getElem?_setIfInBounds]
  split
  ·rename_i q;subst q
   rw[h]
   simp[aF]
  ·rfl
 ·rintro ⟨aE,aR⟩ rfl
  simp only at aE aR
  split
  ·exact⟨by simp,fun ao cj=>by simp;omega⟩
  ·rename_i en
   have JY:et≠aw:=by simpa using en
   have A0:c.size≤et:=by
    rcases Nat.lt_or_ge et c.size with z|z
    ·exact absurd ⟨Nat.le_refl _,by omega⟩ (aR et z)
    ·exact z
   refine⟨by simp;omega,fun ao cj=> ?_⟩
   simp only[Nat.min_def,Nat.max_def]
   split<;>split<;>omega
theorem aq8{P:Program}{L:Loc}{h:Lo}{w:World}(H:cw L h w){src e:TypeId}(a6:P.underlying src=some (.slice e))(DR:P.underlying e=some (.int .u8)){v r:V}{x:Value}(rep:bM L w v x)(he:Pe h v=some r):
  Good P L w (convert src src x) r h:=by
 unfold Pe at he
 split at he
 ·rename_i id off len
  split at he
  ·rename_i oY
   injection he with he;subst he
   obtain⟨p,hp⟩:=vl H oY
   have hy:=H.lt id p hp
   rw[H.len] at hy
   cases dE:h[id]? with
   |none=>rw[List.getElem?_eq_none_iff] at dE;omega
   |some fJ=>
   cases rep with
   |lH _ g=>rw[hp] at g;cases g
   | @er _ _ _ cap b base az g an b0=>
    have jr:=H.mem _ _ _ _ g
    have Pf:(convert src src (.slice (some ⟨b,base+off*az,none⟩) len cap)).run P w=((markStringish ⟨b,base+off*az,none⟩).run P w).andThen fun _ a2=> .ok (.slice (some ⟨b,base+off*az,none⟩) len cap) a2:=by
     simp only[convert,Sem.run_bind,run_underlying a6,run_underlying DR,Result.andThen_ok,beq_self_eq_true,Sem.run_pure]
    cases hw:w.heap[b]? with
    |none=>rw[Array.getElem?_eq_none_iff] at hw;omega
    |some ao=>
    have plain:∀a2,(markStringish ⟨b,base+off*az,none⟩).run P w= .ok () a2→a2=w→Good P L w (convert src src (.slice (some ⟨b,base+off*az,none⟩) len cap)) (.er id off len) h:=by
     rintro a2 hm rfl
     exact .same H (by rw[Pf,hm];rfl) (.er g an b0)
    cases ao with
    |cells c kz cN=>
     obtain⟨nG,f1,f2⟩:=Ym (ao:=c.size) hw
     have hm:(markStringish ⟨b,base+off*az,none⟩).run P w= .ok () (put w b (.cells c kz nG)):=by
      simp only[markStringish,Sem.run_bind,run_shape,Result.andThen_ok,World.shape?,hw]
      simp only[run_freeze,f1]
     have iJ:Fr (Own L) w (put w b (.cells c kz nG)):=DI ⟨id,_,g⟩ hw rfl
     have Yn:h.set id fJ=h:=by
      apply List.ext_getElem?
      intro k
      by_cases q:id=k
      ·subst q;rw[List.getElem?_set_self hy,dE]
      ·rw[List.getElem?_set_ne q]
     have nd:cw L (h.set id fJ) (put w b (.cells c kz nG)):=by
      refine cw.set H g hy (fun⟨_,_,_,q⟩=>by simp[lK,q] at oY) iJ (fun k _ aH=>pK aH) ?_ (fun es s n q=>by subst q;simp[lK,dE] at oY)
      have:=H.ik id fJ dE
      cases fJ with
      |row es s=>
       obtain⟨dL,DO,bF,aV,DZ,R,ae,aQ,bo,bI⟩:=this
       rw[g] at R;injection R with R;injection R with aE aR;injection aR with aR bE;subst aE;subst aR;subst bE
       rw[hw] at ae;injection ae with ae;injection ae with aE aR bE;subst aE;subst aR;subst bE
       exact⟨b,base,c,kz,nG,g,pJ jr,f2 aQ rfl,bo,fun i o x y b5 cI=>let⟨v,hV,hN⟩:=bI i o x y b5 cI;⟨v,hV,H.my hN iJ (Ext.refl L w)⟩⟩
      |map gB clock=>
       obtain⟨dL,DO,Pg,gr,R,ae,_⟩:=this
       rw[g] at R;injection R with R;injection R with aE aR;subst aE
       rw[hw] at ae;cases ae
      |oa l pos=>
       obtain⟨dL,Pg,R,ae⟩:=this
       rw[g] at R;injection R with R;injection R with aE aR;subst aE
       rw[hw] at ae;cases ae
      |ob m s1 s2 eu=>
       obtain⟨dL,Pg,mx,R,ae,_⟩:=this
       rw[g] at R;injection R with R;injection R with aE aR;subst aE
       rw[hw] at ae;cases ae
      |dead=>rw[show L.at_ id=none from this] at g;cases g
      |jW es s n=>trivial
      |tG cX k fU e=>simp[lK,dE] at oY
     rw[Yn] at nd
     refine⟨_,_,L,by rw[Pf,hm];rfl, ?_,nd,iJ,Ext.refl _ _⟩
     exact H.my (.er g an b0) iJ (Ext.refl L w)
    |_=>exact plain w (by simp[markStringish,World.shape?,hw]) rfl
  ·cases he
 ·cases he
def D0(h:Lo):V→OvL
 | .str l=>some (.ptr h.length 0 0,h++ [.oa l 0])
 |_=>none
theorem Yo{P:Program}{L:Loc}{h aa:Lo}{w:World}(H:cw L h w){t:TypeId}(hu:P.underlying t=some .string){v r:V}{x:Value}(rep:bM L w v x)(he:D0 h v=some (r,aa)):Good P L w (Instr.range t x) r aa:=by
 unfold D0 at he
 split at he
 ·rename_i l
  injection he with he;injection he with hO jd;subst hO;subst jd
  cases rep
  have cN:=AM (Own L) w (.stringIter ⟨l.toArray⟩ 0)
  have ex:=Ju L w w.heap.size 0 1 (Nat.le_refl _)
  refine⟨.pointer (some ⟨w.heap.size,0,none⟩),_,L.push (w.heap.size,0,1), ?_, ?_,cw.push H _ _ 0 1 ⟨w.heap.size,1,L.nH _,by show(w.heap.push _)[w.heap.size]? =_;simp⟩,cN,ex⟩
  ·simp only[Instr.range,Sem.run_bind,run_underlying hu,Result.andThen_ok,Sem.run_pure,run_newObj]
  ·have:=bM.ptr (i:=0) (o:=0) (w:={w with heap:=w.heap.push (.stringIter ⟨l.toArray⟩ 0)}) (L.nH (w.heap.size,0,1))
   rw[H.len] at this
   exact this
 ·cases he
def xV(h:Lo):V→OvL
 | .ptr id 0 0=>match h[id]? with
  |some (.oa l pos)=>if pos<l.length then
    some (.bW [.bool true, .int .i64 pos, .int .i32 (Utf8.decode ⟨l.toArray⟩ pos).1],h.set id (.oa l (pos+(Utf8.decode ⟨l.toArray⟩ pos).2)))
   else some (.bW [.bool false],h)
  |_=>none
 |_=>none
theorem Ph{P:Program}{w:World}{b:Nat}{s:ByteArray}{pos:Nat}(h:w.heap[b]? =some (.stringIter s pos)):(getObj b).run P w= .ok (.stringIter s pos) w:=by
 simp only[getObj,Sem.run,h]
theorem Yp{P:Program}{w:World}{b:Nat}{s:ByteArray}{pos:Nat}(h:w.heap[b]? =some (.stringIter s pos))(ao:Obj):(setObj b ao).run P w= .ok () (E.put w b ao):=by
 simp only[setObj,Sem.run,h];rfl
theorem Yq{P:Program}{L:Loc}{h aa:Lo}{w:World}(H:cw L h w){ty:TypeId}{v r:V}{x:Value}(rep:bM L w v x)(he:xV h v=some (r,aa)):Good P L w (Instr.next x true ty) r aa:=by
 unfold xV at he
 split at he
 ·rename_i id
  split at he
  ·rename_i l pos dE
   have hy:id<h.length:=(List.getElem?_eq_some_iff.1 dE).1
   obtain⟨b,az,R,ae⟩:=H.ik id _ dE
   have jr:=(Array.getElem?_eq_some_iff.1 ae).1
   cases rep with
   |nC _ g=>rw[R] at g;cases g
   |ptr g=>
    rw[R] at g;injection g with g;injection g with aE aR;injection aR with aR bE;subst aE;subst aR
    have Pj:(⟨l.toArray⟩:ByteArray).size=l.length:=by simp[ByteArray.size]
    split at he
    ·rename_i hp
     injection he with he;injection he with hO jd;subst hO;subst jd
     have iJ:Fr (Own L) w (put w b (.stringIter ⟨l.toArray⟩ (pos+(Utf8.decode ⟨l.toArray⟩ pos).2))):=by
      refine⟨rfl,rfl,rfl,by rw[DH];exact Nat.le_refl _,fun k aH cj=>pK (fun q=>cj (q▸⟨id,_,R⟩)),fun k aH=> ?_⟩
      by_cases q:k=b
      ·subst q
       unfold l8
       rw[pJ jr,ae]
      ·exact DE (pK q)
     refine⟨.tuple #[.bool true, .int .i64 pos, .int .i32 (Utf8.decode ⟨l.toArray⟩ pos).1],_,L, ?_, ?_,cw.set H R hy (fun⟨_,_,_,q⟩=>by rw[dE] at q;cases q) iJ (fun k _ aH=>pK aH) ⟨b,az,R,pJ jr⟩,iJ,Ext.refl _ _⟩
     ·simp only[Instr.next,Sem.run_bind,Ph ae,Result.andThen_ok,Sem.run_pure,Pj,hp,if_true,Nat.zero_mul,Nat.add_zero]
      simp only[Yp ae,Result.andThen_ok,goInt]
     ·refine .bW _ rfl (fun k c aH=> ?_)
      match k,aH with
      |0,aH=>simp at aH;subst aH;exact .bool _
      |1,aH=>simp at aH;subst aH;exact .int _ _
      |2,aH=>simp at aH;subst aH;exact .int _ _
      |k+3,aH=>simp at aH
    ·rename_i hp
     injection he with he;injection he with hO jd;subst hO;subst jd
     refine .same H (x:= .tuple #[.bool false]) ?_ ?_
     ·simp only[Instr.next,Sem.run_bind,Ph ae,Result.andThen_ok,Sem.run_pure,Pj,hp,if_false,Nat.zero_mul,Nat.add_zero]
     ·refine .bW _ rfl (fun k c aH=> ?_)
      match k,aH with
      |0,aH=>simp at aH;subst aH;exact .bool _
      |k+1,aH=>simp at aH
  ·cases he
 ·cases he
def nL(h:Lo)(v:V):Option (Lu):=match v with
 | .str l=>some l
 |v=>(fe h 1 v).bind (fK byteOf)
theorem add_add(a:Addr)(i:Nat):(a.add i).add 1=a.add (i+1):=by
 obtain⟨b,ao,x⟩:=a
 unfold Addr.add
 by_cases h:i=0
 ·subst h;simp
 ·simp only[h,if_false]
  simp
  omega
theorem Pk{P:Program}{w:World}(a:Addr):∀(n i:Nat) (acc r:Array Value) (a2:World),(loadCellsFrom a i n acc).run P w= .ok r a2→∃ak:List Value,r=acc++ak.toArray∧ak.length=n
 |0,i,acc,r,a2,h=>by
  simp only[loadCellsFrom,Sem.run_pure] at h
  injection h with R ae
  exact⟨[],by simp[R],rfl⟩
 |n+1,i,acc,r,a2,h=>by
  simp only[loadCellsFrom,Sem.run_bind] at h
  cases bg:(load (a.add i)).run P w with
  |halt x y=>rw[bg] at h;simp[Result.andThen] at h
  |ok v e7=>
   rw[bg] at h
   simp only[Result.andThen_ok] at h
   have hw:e7=w:=by
    rw[run_load] at bg
    split at bg
    ·injection bg with _ e;exact e.symm
    ·split at bg
     ·injection bg with _ e;exact e.symm
     ·cases bg
   subst hw
   obtain⟨ak,R,ae⟩:=Pk a n (i+1) _ r a2 h
   exact⟨v::ak,by rw[R];simp,by simp[ae]⟩
theorem Pl{P:Program}{w:World}(a:Addr):∀(h5:List Int) (i:Nat) (acc:Array Value) (b:ByteArray),(loadCellsFrom a i h5.length acc).run P w= .ok (acc++(h5.map (Value.int .u8)).toArray) w→
  (Extern.Bytes.loadBytes (a.add i) h5.length b).run P w= .ok (h5.foldl (fun r n=>r.push (UInt8.ofNat n.toNat)) b) w
 | [],i,acc,b,h=>by simp[Extern.Bytes.loadBytes]
 |n::h5,i,acc,b,h=>by
  simp only[List.length_cons,loadCellsFrom,Sem.run_bind] at h
  cases bg:(load (a.add i)).run P w with
  |halt x y=>rw[bg] at h;simp[Result.andThen] at h
  |ok v e7=>
   rw[bg] at h
   simp only[Result.andThen_ok] at h
   have hw:e7=w:=by
    rw[run_load] at bg
    split at bg
    ·injection bg with _ e;exact e.symm
    ·split at bg
     ·injection bg with _ e;exact e.symm
     ·cases bg
   subst hw
   obtain⟨ak,R,ae⟩:=Pk a h5.length (i+1) _ _ _ h
   have aQ:v::ak=(n::h5).map (Value.int .u8):=by
    have:=congrArg Array.toList R
    simp only[Array.toList_append,Array.toList_push,List.append_assoc,List.singleton_append] at this
    exact(List.append_cancel_left this).symm
   simp only[List.map_cons,List.cons.injEq] at aQ
   obtain⟨rfl,bo⟩:=aQ
   have ba:=Pl a h5 (i+1) (acc.push (.int .u8 n)) (b.push (UInt8.ofNat n.toNat)) (by rw[h];simp)
   simp only[List.length_cons,Extern.Bytes.loadBytes,Sem.run_bind,bg,Result.andThen_ok,List.foldl_cons,add_add]
   exact ba
theorem D1{P:Program}{L:Loc}{h:Lo}{w:World}(H:cw L h w){v:V}{x:Value}{l:Lu}(rep:bM L w v x)(he:nL h v=some l):(Extern.Bytes.bytesOf x).run P w= .ok ⟨l.toArray⟩ w:=by
 have main:(∀l,v≠ .str l)→(fe h 1 v).bind (fK byteOf)=some l→(Extern.Bytes.bytesOf x).run P w= .ok ⟨l.toArray⟩ w:=by
  intro bg he
  simp only[Option.bind_eq_some_iff] at he
  obtain⟨es,an,hm⟩:=he
  obtain⟨hlen,hq,fn,vy,jY⟩:=AW (P:=P) H rep an
  obtain⟨base,cap,rfl⟩:=OY H rep an bg
  obtain⟨aX,aY⟩:=vh hm
  cases base with
  |none=>
   have aI:es=[]:=by
    generalize dt:es.length=n at rep
    cases rep with
    |ab=>exact List.length_eq_zero_iff.1 dt
    |lH _ q aE=>
     simp only[fe] at an
     split at an
     ·rename_i gv s dE
      obtain⟨b,base,c,e,cN,R,_⟩:=H.ik _ _ dE
      rw[q] at R;cases R
     ·cases an
    |_=>simp[fe] at an
   subst aI
   simp[fK] at hm
   subst hm
   simp[Extern.Bytes.bytesOf]
   rfl
  |some a=>
   have ax:=vy es.length w (Nat.le_refl _) rfl
   simp only[Builtin.firstCells,Nat.mul_one] at ax
   have JL:∃h5:List Int,(List.range es.length).map fn=h5.map (Value.int .u8)∧h5.map (fun n=>UInt8.ofNat n.toNat)=l:=by
    refine⟨es.map fun e=>(match e with| .int _ n=>n|_=>0), ?_, ?_⟩
    ·apply List.ext_getElem?
     intro k
     by_cases aH:k<es.length
     ·have o0:es[k]? =some es[k]:=List.getElem?_eq_getElem aH
      obtain⟨y,bT⟩:∃y,l[k]? =some y:=⟨l[k],List.getElem?_eq_getElem (by omega)⟩
      obtain⟨z,aE,aR⟩:=aY k y bT
      rw[o0] at aE;injection aE with aE;subst aE
      have:∃n,es[k]= .int .u8 n:=by
       generalize es[k]=z at aR
       cases z<;>simp[byteOf] at aR
       rename_i db n
       cases db<;>simp[byteOf] at aR
       exact⟨n,rfl⟩
      obtain⟨n,bd⟩:=this
      have bc:=jY k 0 es[k] es[k] o0 (by rw[bd];rfl)
      rw[bd] at bc
      simp only[Nat.mul_one,Nat.add_zero] at bc
      have JM:fn k= .int .u8 n:=bc.vz
      rw[List.getElem?_map,List.getElem?_range aH,List.getElem?_map,List.getElem?_map,o0,bd]
      simp[JM]
     ·rw[List.getElem?_eq_none (by simp;omega),List.getElem?_eq_none (by simp;omega)]
    ·apply List.ext_getElem?
     intro k
     by_cases aH:k<es.length
     ·have o0:es[k]? =some es[k]:=List.getElem?_eq_getElem aH
      obtain⟨y,bT⟩:∃y,l[k]? =some y:=⟨l[k],List.getElem?_eq_getElem (by omega)⟩
      obtain⟨z,aE,aR⟩:=aY k y bT
      rw[o0] at aE;injection aE with aE;subst aE
      rw[List.getElem?_map,List.getElem?_map,o0,bT]
      generalize es[k]=z at aR
      cases z<;>simp[byteOf] at aR
      rename_i db n
      cases db<;>simp[byteOf] at aR
      simp[aR]
     ·rw[List.getElem?_eq_none (by simp;omega),List.getElem?_eq_none (by omega)]
   obtain⟨h5,cY,gk⟩:=JL
   rw[cY] at ax
   have Pm:h5.length=es.length:=by
    have:=congrArg List.length cY
    simpa using this.symm
   have:=Pl (P:=P) (w:=w) a h5 0 #[] .empty (by rw[Pm];simpa [Go.loadCells] using ax)
   rw[Pm] at this
   have df:a.add 0=a:=by obtain⟨b,ao,x⟩:=a;simp[Addr.add]
   rw[df] at this
   simp only[Extern.Bytes.bytesOf]
   rw[this,foldl_push_bytes,gk]
   simp[ByteArray.empty,ByteArray.emptyWithCapacity]
   rfl
 unfold nL at he
 split at he
 ·injection he with he;subst he;cases rep;simp[Extern.Bytes.bytesOf]
 ·rename_i en
  exact main (fun l q=>en l q) he
theorem Yr{P:Program}{L:Loc}{h:Lo}{w:World}(H:cw L h w){u v:V}{x y:Value}{l m:Lu}(A2:bM L w u x)(xO:bM L w v y)(hu:nL h u=some l)(bg:nL h v=some m):
  (Extern.BytealgCompare.compare #[x,y]).run P w= .ok (.int .i64 (Lib.compareBytes l m)) w:=by
 change Sem.run P (do pure (goInt (Extern.BytealgCompare.cmp (←Extern.Bytes.bytesOf x) (←Extern.Bytes.bytesOf y)))) w=_
 simp only[Sem.run_bind,D1 H A2 hu,D1 H xO bg,Result.andThen_ok,Sem.run_pure]
 rw[Lib.cmp_eq]
 rfl
theorem Ys{P:Program}{L:Loc}{h:Lo}{w:World}(H:cw L h w){u:V}{x:Value}{l:Lu}{c:Int}(A2:bM L w u x)(hu:nL h u=some l):
  (Extern.BytealgIndexByte.indexByte #[x, .int .u8 c]).run P w= .ok (.int .i64 (Lib.indexByte l c.toNat.toUInt8)) w:=by
 have:=Lib.run_indexByteString (P:=P) ⟨l.toArray⟩ c w
 change Sem.run P (do
  let b←Extern.Bytes.bytesOf (.string ⟨l.toArray⟩)
  let c0←Extern.Bytes.asByte (.int .u8 c)
  match(List.range b.size).find? fun i=>b[i]! ==c0 with
  |some i=>pure (goInt i)
  |none=>pure (goInt (-1))) w=_ at this
 change Sem.run P (do
  let b←Extern.Bytes.bytesOf x
  let c0←Extern.Bytes.asByte (.int .u8 c)
  match(List.range b.size).find? fun i=>b[i]! ==c0 with
  |some i=>pure (goInt i)
  |none=>pure (goInt (-1))) w=_
 rw[Sem.run_bind] at this⊢
 rw[D1 H A2 hu]
 simpa [Extern.Bytes.bytesOf] using this
theorem Yt{P:Program}{L:Loc}{h:Lo}{w:World}(H:cw L h w){u:V}{x:Value}{l:Lu}{c:Int}(A2:bM L w u x)(hu:nL h u=some l):
  (Extern.BytealgCount.count #[x, .int .u8 c]).run P w= .ok (.int .i64 (Lib.countByte l c.toNat.toUInt8)) w:=by
 have:=Lib.run_countString (P:=P) ⟨l.toArray⟩ c w
 change Sem.run P (do
  let b←Extern.Bytes.bytesOf (.string ⟨l.toArray⟩)
  let c0←Extern.Bytes.asByte (.int .u8 c)
  pure (goInt (b.foldl (fun n x=>if x==c0 then n+1 else n) (0:Nat)))) w=_ at this
 change Sem.run P (do
  let b←Extern.Bytes.bytesOf x
  let c0←Extern.Bytes.asByte (.int .u8 c)
  pure (goInt (b.foldl (fun n x=>if x==c0 then n+1 else n) (0:Nat)))) w=_
 rw[Sem.run_bind] at this⊢
 rw[D1 H A2 hu]
 simpa [Extern.Bytes.bytesOf] using this
def aq9(h:Lo):V→OvL
 | .kv=>some (.ptr h.length 0 0,h++ [.ob none 0 [] 0])
 | .mp id=>match h[id]? with
  |some (.map _ clock)=>some (.ptr h.length 0 0,h++ [.ob (some id) clock [] clock])
  |_=>none
 |_=>none
def A3(h:Lo):V→Option (List (V × Lo))
 | .ptr id 0 0=>match h[id]? with
  |some (.ob none _ _ _)=>some [(.bW [.bool false],h)]
  |some (.ob (some m) since seen pH)=>match h[m]? with
   |some (.map gB clock)=>
    if(!seen.isEmpty&& !gB.isEmpty&&gB.all fun e=>decide (pH≤e.2.2)) then none else
     let left:=gB.filter fun e=> !seen.contains e.2.2
     let nF:=left.filter fun e=>decide (e.2.2<since)
     let new:=left.filter fun e=>decide (since≤e.2.2)
     some ((if nF.isEmpty then [(.bW [.bool false],h)] else [])++(nF++new).map fun e=>(.bW [.bool true,e.1,e.2.1],h.set id (.ob (some m) since (seen++ [e.2.2]) clock)))
   |_=>none
  |_=>none
 |_=>none
theorem kT.cons{L:Loc}{w:World}{p:V × V × Nat}{gB:List (V × V × Nat)}{m:MapEntry}{gr:List MapEntry}(aH:bM L w p.1 m.key)(bg:bM L w p.2.1 m.val)(aF:m.born=p.2.2)(h:kT L w gB gr):kT L w (p::gB) (m::gr):=by
 refine⟨by simp[h.1],fun i k v t aw=> ?_⟩
 cases i with
 |zero=>
  simp only[List.getElem?_cons_zero,Option.some.injEq] at aw
  subst aw
  exact⟨m,rfl,aH,bg,aF⟩
 |succ i=>exact h.2 i k v t (by simpa using aw)
theorem kT.head{L:Loc}{w:World}{p:V × V × Nat}{gB:List (V × V × Nat)}{m:MapEntry}{gr:List MapEntry}(h:kT L w (p::gB) (m::gr)):bM L w p.1 m.key∧bM L w p.2.1 m.val∧m.born=p.2.2:=by
 obtain⟨e,R,ae,aQ,bo⟩:=h.2 0 p.1 p.2.1 p.2.2 rfl
 simp only[List.getElem?_cons_zero,Option.some.injEq] at R
 subst R
 exact⟨ae,aQ,bo⟩
theorem kT.filter{L:Loc}{w:World}(q:Nat→Bool):∀{gB:List (V × V × Nat)} {gr:List MapEntry},kT L w gB gr→kT L w (gB.filter fun e=>q e.2.2) (gr.filter fun e=>q e.born)
 | [],[],h=>h
 | [],m::gr,h=>by have:=h.1;simp at this
 |p::gB,[],h=>by have:=h.1;simp at this
 |p::gB,m::gr,h=>by
  have ba:=kT.filter q h.tail
  obtain⟨R,ae,aQ⟩:=h.head
  simp only[List.filter_cons,aQ]
  split
  ·exact .cons R ae aQ ba
  ·exact ba
theorem kT.append{L:Loc}{w:World}:∀{gB Pn:List (V × V × Nat)} {gr Po:List MapEntry},kT L w gB gr→kT L w Pn Po→kT L w (gB++Pn) (gr++Po)
 | [],_,[],_,_,aa=>aa
 | [],_,m::gr,_,h,_=>by have:=h.1;simp at this
 |p::gB,_,[],_,h,_=>by have:=h.1;simp at this
 |p::gB,_,m::gr,_,h,aa=> .cons h.head.1 h.head.2.1 h.head.2.2 (kT.append h.tail aa)
theorem kT.all{L:Loc}{w:World}(q:Nat→Bool):∀{gB:List (V × V × Nat)} {gr:List MapEntry},kT L w gB gr→(gB.all fun e=>q e.2.2)=(gr.all fun e=>q e.born)
 | [],[],h=>rfl
 | [],m::gr,h=>by have:=h.1;simp at this
 |p::gB,[],h=>by have:=h.1;simp at this
 |p::gB,m::gr,h=>by
  simp only[List.all_cons,h.head.2.2,kT.all q h.tail]
theorem Pp{P:Program}{w:World}{b:Nat}{m:Option Nat}{s:Nat}{seen:Array Nat}{c:Nat}(h:w.heap[b]? =some (.mapIter m s seen c)):(getObj b).run P w= .ok (.mapIter m s seen c) w:=by
 simp only[getObj,Sem.run,h]
theorem Yu{P:Program}{w:World}{b:Nat}{m:Option Nat}{s:Nat}{seen:Array Nat}{c:Nat}(h:w.heap[b]? =some (.mapIter m s seen c))(ao:Obj):(setObj b ao).run P w= .ok () (E.put w b ao):=by
 simp only[setObj,Sem.run,h];rfl
theorem Yv{B:Nat→Prop}{w:World}{b:Nat}{m cC:Option Nat}{s eb:Nat}{seen Yw:Array Nat}{c c0:Nat}(aF:B b)(h:w.heap[b]? =some (.mapIter m s seen c)):Fr B w (put w b (.mapIter cC eb Yw c0)):=by
 have jr:=(Array.getElem?_eq_some_iff.1 h).1
 refine⟨rfl,rfl,rfl,by rw[DH];exact Nat.le_refl _,fun k aH cj=>pK (fun q=>cj (q▸aF)),fun k aH=> ?_⟩
 by_cases q:k=b
 ·subst q
  unfold l8
  rw[pJ jr,h]
 ·exact DE (pK q)
theorem Yx{P:Program}{w:World}(n:Nat)(bd:0<n):∃o a2,(choose (.mapNext n)).run P w= .ok o a2∧o<n∧(a2=w∨a2={w with drawn:=w.drawn+1}):=by
 rw[run_choose]
 split
 ·rename_i q
  exact⟨0,w,rfl,bd, .inl rfl⟩
 ·exact⟨_,_,rfl,Nat.mod_lt _ bd, .inr rfl⟩
theorem Yy{P:Program}{L:Loc}{h:Lo}{w:World}(H:cw L h w){ty:TypeId}{v:V}{x:Value}{outs:List (V × Lo)}(rep:bM L w v x)(he:A3 h v=some outs):
  ∃p,p∈outs∧Good P L w (Instr.next x false ty) p.1 p.2:=by
 unfold A3 at he
 split at he
 ·rename_i id
  split at he
  ·rename_i since seen pH dE
   injection he with he;subst he
   obtain⟨b,az,mx,R,ae,aQ⟩:=H.ik id _ dE
   cases mx<;>simp only at aQ
   refine⟨_,List.mem_singleton.2 rfl, ?_⟩
   cases rep with
   |nC _ g=>rw[R] at g;cases g
   |ptr g=>
    rw[R] at g;injection g with g;injection g with aE aR;injection aR with aR bE;subst aE;subst aR
    refine .same H (x:= .tuple #[.bool false]) ?_ ?_
    ·simp only[Instr.next,Sem.run_bind,Pp ae,Result.andThen_ok,Sem.run_pure,Nat.zero_mul,Nat.add_zero]
    ·refine .bW _ rfl (fun k c aH=> ?_)
     match k,aH with
     |0,aH=>simp at aH;subst aH;exact .bool _
     |k+1,aH=>simp at aH
  ·rename_i m since seen pH dE
   split at he
   ·rename_i gB clock Yz
    split at he
    ·cases he
    ·rename_i YA
     injection he with he
     have hy:id<h.length:=(List.getElem?_eq_some_iff.1 dE).1
     obtain⟨b,az,mx,R,ae,aQ⟩:=H.ik id _ dE
     obtain⟨eD,aq_,ara,gr,il,tT,Pq,YB⟩:=H.ik m _ Yz
     cases mx with
     |none=>simp only at aQ
     |some xW=>
     simp only at aQ
     obtain⟨YC,Pr⟩:=aQ
     have YD:xW=eD:=by
      rcases Pr with q|⟨p,q⟩
      ·rw[il] at q;cases q
      ·rw[il] at q;injection q with q;injection q with q _;exact q.symm
     subst YD
     have jr:=(Array.getElem?_eq_some_iff.1 ae).1
     have Ps:kT L w gB gr.toList:=⟨by simpa using Pq,fun i k v t aw=>by simpa using YB i k v t aw⟩
     cases rep with
     |nC _ g=>rw[R] at g;cases g
     |ptr g=>
     rw[R] at g;injection g with g;injection g with aE aR;injection aR with aR bE;subst aE;subst aR;subst bE
     have qw:=Ps.filter (fun t=> !seen.contains t)
     have xX:=qw.filter (fun t=>decide (t<since))
     have YE:=qw.filter (fun t=>decide (since≤t))
     have Pt:=xX.append YE
     have YF:gr.isEmpty=gB.isEmpty:=by
      have:=Pq
      cases gB with
      |nil=>simp at this;simp[this]
      |cons p ah=>simp at this⊢;intro q;simp[q] at this
     have YG:(!seen.toArray.isEmpty&& !gr.isEmpty&&gr.all fun e=>decide (e.born≥pH))=false:=by
      have:=Ps.all (fun t=>decide (pH≤t))
      rw[YF]
      have bh:(gr.all fun e=>decide (e.born≥pH))=gr.toList.all fun e=>decide (pH≤e.born):=by
       simp
      rw[bh,←this]
      simpa using YA
     
     let sz:=(gr.filter fun e=> !seen.toArray.contains e.born).filter fun e=>decide (e.born<since)
     let D2:=(gr.filter fun e=> !seen.toArray.contains e.born).filter fun e=>decide (e.born≥since)
     let C:Array (Option MapEntry):=(if sz.isEmpty then #[none] else #[])++(sz++D2).map some
     have Pu:sz.toList=(gr.toList.filter fun e=> !seen.contains e.born).filter fun e=>decide (e.born<since):=by simp[sz]
     have YH:D2.toList=(gr.toList.filter fun e=> !seen.contains e.born).filter fun e=>decide (since≤e.born):=by simp[D2]
     have YI:sz.isEmpty=((gB.filter fun e=> !seen.contains e.2.2).filter fun e=>decide (e.2.2<since)).isEmpty:=by
      have:=xX.1
      rw[←Pu] at this
      cases bm:((gB.filter fun e=> !seen.contains e.2.2).filter fun e=>decide (e.2.2<since)) with
      |nil=>rw[bm] at this;simp at this;simp[this]
      |cons p ah=>rw[bm] at this;simp at this⊢;intro q;simp[q] at this
     have qv:0<C.size:=by
      simp only[C,Array.size_append,Array.size_map]
      cases bm:sz.isEmpty with
      |true=>simp;omega
      |false=>
       have:sz.size≠0:=by simpa [Array.isEmpty] using bm
       omega
     obtain⟨o,e7,YJ,JZ,A4⟩:=Yx (P:=P) (w:=w) C.size qv
     have Pv:C[o]? =some C[o]:=by simp[JZ]
     have iW:(Instr.next (.pointer (some ⟨b,0+0*az+0,none⟩)) false ty).run P w=(match C[o]? with
       |some (some e)=>do setObj b (.mapIter (some xW) since (seen.toArray.push e.born) clock);pure (.tuple #[.bool true,e.key,e.val])
       |some none=>pure (.tuple #[.bool false])
       |none=>stuck "Next: no such candidate":Sem Value).run P e7:=by
      simp only[Instr.next,Sem.run_bind,Pp ae,run_getObj_map tT,Result.andThen_ok,Sem.run_pure,Nat.zero_mul,Nat.add_zero]
      rw[YG]
      simp only[Bool.false_eq_true,if_false,Sem.run_bind,Sem.run_pure,Result.andThen_ok]
      rw[YJ]
      simp only[Result.andThen_ok]
      rfl
     have DZ:Fr (Own L) w e7:=by rcases A4 with rfl|rfl;exact Fr.refl _ _;exact tI _ _
     have H1:cw L h e7:=by rcases A4 with rfl|rfl;exact H;exact H.drew
     have YK:e7.heap=w.heap:=by rcases A4 with rfl|rfl<;>rfl
     have lk:C[o]∈C.toList:=by simp
     have YL:C.toList=(if sz.isEmpty then [none] else [])++(sz.toList++D2.toList).map some:=by
      simp only[C,Array.toList_append,Array.toList_map]
      congr 1
      split<;>rfl
     rw[YL,List.mem_append] at lk
     rcases lk with lk|lk
     ·split at lk
      ·rename_i cj
       simp only[List.mem_singleton] at lk
       refine⟨(.bW [.bool false],h), ?_, ?_⟩
       ·rw[←he,←YI,cj];simp
       ·refine⟨.tuple #[.bool false],e7,L, ?_, ?_,H1,DZ,Ext.refl _ _⟩
        ·rw[iW,Pv,lk];simp
        ·refine .bW _ rfl (fun k c aH=> ?_)
         match k,aH with
         |0,aH=>simp at aH;subst aH;exact .bool _
         |k+1,aH=>simp at aH
      ·simp at lk
     ·simp only[List.mem_map] at lk
      obtain⟨e,Pw,A5⟩:=lk
      rw[Pu,YH] at Pw
      obtain⟨i,od,D3⟩:=List.mem_iff_getElem.1 Pw
      have Px:=od
      rw[Pt.1] at Px
      obtain⟨⟨qx,v0,t0⟩,hp⟩:∃p,(((gB.filter fun e=> !seen.contains e.2.2).filter fun e=>decide (e.2.2<since))++((gB.filter fun e=> !seen.contains e.2.2).filter fun e=>decide (since≤e.2.2)))[i]? =some p:=⟨_,List.getElem?_eq_getElem Px⟩
      obtain⟨ct,aV,bb,cb,dI⟩:=Pt.2 i qx v0 t0 hp
      rw[List.getElem?_eq_getElem od,D3] at aV
      injection aV with aV;subst aV
      refine⟨(.bW [.bool true,qx,v0],h.set id (.ob (some m) since (seen++ [t0]) clock)), ?_, ?_⟩
      ·rw[←he,List.mem_append]
       exact .inr (List.mem_map.2 ⟨(qx,v0,t0),List.mem_of_getElem? hp,rfl⟩)
      ·have ix:e7.heap[b]? =some (.mapIter (some xW) since seen.toArray pH):=by rw[YK];exact ae
       have YM:=(Array.getElem?_eq_some_iff.1 ix).1
       have J0:Fr (Own L) e7 (E.put e7 b (.mapIter (some xW) since (seen.toArray.push e.born) clock)):=Yv ⟨id,_,R⟩ ix
       refine⟨.tuple #[.bool true,e.key,e.val],_,L, ?_, ?_,cw.set H1 R hy (fun⟨_,_,_,q⟩=>by rw[dE] at q;cases q) J0 (fun k _ aH=>pK aH) ⟨b,az,some xW,R, ?_,YC,Pr⟩,DZ.trans (Ext.refl L w) J0,Ext.refl _ _⟩
       ·rw[iW,Pv,←A5]
        simp only[Sem.run_bind,Yu ix,Result.andThen_ok,Sem.run_pure]
       ·have st:∀{v:V} {x:Value},bM L w v x→bM L (E.put e7 b (.mapIter (some xW) since (seen.toArray.push e.born) clock)) v x:=fun r=>H.my r (DZ.trans (Ext.refl L w) J0) (Ext.refl _ _)
        refine .bW _ rfl (fun k c aH=> ?_)
        match k,aH with
        |0,aH=>simp at aH;subst aH;exact .bool _
        |1,aH=>simp at aH;subst aH;exact st bb
        |2,aH=>simp at aH;subst aH;exact st cb
        |k+3,aH=>simp at aH
       ·rw[pJ YM,dI]
        simp
   ·cases he
  ·cases he
 ·cases he
def zeroOf(P:Program)(t:TypeId):Option V:=(P.info? t).bind fun i=>i.zero.bind vi
def Py(P:Program)(t:TypeId):Bool:=match P.underlying t with
 |some (.array _ e)=>P.cellsOf e==1
 |_=>false
def vG(n:Nat):Option Operand→Option (Option bJ)
 |none=>some none
 |some x=>(fN n x).map some
def Pz(P:Program)(t:TypeId):Option mz:=match P.underlying t with
 |some (.int _)=>some .i
 |some .string=>some .s
 |some .bool=>some .b
 |_=>none
theorem arb{P:Program}{t:TypeId}{k:mz}(h:Pz P t=some k):k.fits P t:=by
 unfold Pz at h
 split at h<;>first|(cases h;done)|skip
 all_goals injection h with h;subst h
 ·rename_i q;exact⟨_,q⟩
 ·rename_i q;exact q
 ·rename_i q;exact q
def J1(P:Program)(t:TypeId):Option pM:=match P.underlying t with
 |some .bool=>some .bool
 |some (.pointer _)=>some .ptr
 |some (.slice _)=>some .slice
 |some (.map _ _)=>some .map
 |some (.func _ _ _)=>some .func
 |some (.struct _)=>if P.eqGuardType P.depth t=false then(rp P 8 t).map (.struct (P.cellsOf t)) else none
 |_=>none
theorem YN{P:Program}{t:TypeId}{T:pM}(h:J1 P t=some T):T.fits P t:=by
 unfold J1 at h
 split at h<;>first|(cases h;done)|skip
 ·rename_i q;injection h with h;subst h;exact q
 ·rename_i q;injection h with h;subst h;exact⟨_,q⟩
 ·rename_i q;injection h with h;subst h;exact⟨_,q⟩
 ·rename_i q;injection h with h;subst h;exact⟨_,_,q⟩
 ·rename_i q;injection h with h;subst h;exact⟨_,_,_,q⟩
 ·rename_i q
  split at h
  ·rename_i g
   simp only[Option.map_eq_some_iff] at h
   obtain⟨ls,R,rfl⟩:=h
   exact⟨R,g,by simp[jH,q],rfl⟩
  ·cases h
def YO(P:Program)(t:TypeId):Bool:=match P.underlying t with
 |some (.int _)|some .string=>true
 |_=>false
def placesOf(P:Program)(t:TypeId):Option (Nat→Option (Nat × Nat)):=
 match P.underlying t with
 |some (.array _ e)=>(P.info? e).map fun qy=>fun i=>some (i*qy.size,qy.size)
 |some (.struct cc)=>(cc.toList.mapM (fun f=>(P.info? f.type).map fun i=>(f.offset,i.size))).map fun ah=>fun i=>ah.toArray[i]?
 |_=>none
def D4(n:Nat)(place:Nat→Option (Nat × Nat))(ah:List (Nat × Operand)):Option (List (Nat × Nat × bJ)):=
 fK (fun p=>match place p.1,fN n p.2 with|some q,some x=>some (q.1,q.2,x)|_,_=>none) ah
def PA(P:Program)(n:Nat)(b:Builtin)(c_:Array TypeId)(xs:Array Operand):Option fF:=
 match b,c_.toList,xs.toList with
 | .len,t::_,[x]=>match P.underlying t,fN n x with
  |some .string,some x=>some (.vB x)
  |some (.slice _),some x=>some (.cm x)
  |_,_=>none
 | .append,[t,t2],[x,y]=>match P.underlying t,P.underlying t2,fN n x,fN n y with
  |some (.slice e),some (.int _),some x,some y=>none
  |some (.slice e),some (.int _),_,_=>none
  |some (.slice e),some _,some x,some y=>match P.info? e with
   |some i=>match i.zero with
    |some z=>if 0<i.bytes∧z.cells.size=i.size∧0<i.size then some (.app i.size i.bytes x y) else none
    |none=>none
   |none=>none
  |_,_,_,_=>none
 | .min,_,[x,y]=>match fN n x,fN n y with|some x,some y=>some (.tR false x y)|_,_=>none
 | .max,_,[x,y]=>match fN n x,fN n y with|some x,some y=>some (.tR true x y)|_,_=>none
 | .max,_,x::a_=>match fN n x,fK (fN n) a_ with|some x,some a_=>some (.vC x a_)|_,_=>none
 |_,_,_=>none
def fm(P:Program)(n:Nat)(ao:Op):Option fF:=
 match ao with
 | .move x=>(fN n x).map .rv
 | .assign x=>(fN n x).map .rv
 | .pick c a b=>match fN n c,fN n a,fN n b with|some c,some a,some b=>some (.pick c a b)|_,_,_=>none
 | .alloc T=>(zeroOf P T).map (.alloc (Py P T))
 | .box T x=>(fN n x).map (.box (Py P T))
 | .build T ah=>match zeroOf P T,placesOf P T with
  |some (.agg z),some place=>(D4 n place ah.toList).map (.build z)
  |_,_=>none
 | .buildSlice T len ah=>match P.underlying T with
  |some (.slice e)=>match P.info? e,zeroOf P e,fK (fun p:Nat × Operand=>(fN n p.2).map fun x=>(p.1,x)) ah.toList with
   |some i,some z,some ah=>if kk i.size z∧0<i.size then some (.dN i.size z len ah) else none
   |_,_,_=>none
  |_=>none
 | .load T a=>match P.info? T,P.underlying T,fN n a with
  |some i,some _,some a=>if jH P T then some (.bp i.size a) else some (.ag a)
  |_,_,_=>none
 | .store T a x=>match P.info? T,fN n a,fN n x with
  |some i,some a,some x=>some (.store i.size a x)
  |_,_,_=>none
 | .nilCheck x=>(fN n x).map .bz
 | .binOp op T x y _=>match fN n x,fN n y with
  |some x,some y=>if op= .eql∨op= .neq then(if YO P T then some (.bin op x y) else(J1 P T).map fun T=> .eq (op= .neq) T x y) else some (.bin op x y)
  |_,_=>none
 | .unOp op _ x=>(fN n x).map (.un op)
 | .convert s d x=>match P.underlying s,P.underlying d,fN n x with
  |some (.int _),some (.int k),some x=>some (.toInt k x)
  |some (.slice e),some .string,some x=>if P.underlying e matches some (.int .u8) then some (.toStr x) else none
  |_,_,_=>none
 | .makeFunc (.func f) first fz=>match fK (fN n) first.toList,fK (fN n) fz.toList with
  |some [],some cs=>some (.vA f cs)
  |some (c::cs),some []=>some (.vD f (c::cs))
  |_,_=>none
 | .slice T x et aw jZ=>match P.underlying T,fN n x,vG n et,vG n aw,vG n jZ with
  |some .string,some x,some et,some aw,some none=>some (.kU x et aw)
  |_,_,_,_,_=>none
 | .fieldAddr T x k=>match P.underlying T,fN n x with
  |some (.struct cc),some x=>match cc[k]? with
   |some g=>(P.info? g.type).bind fun i=>if i.size≠0 then some (.af g.offset x) else none
   |none=>none
  |_,_=>none
 | .indexAddr T x i=>match P.underlying T,fN n x,fN n i with
  |some (.slice e),some x,some i=>(P.info? e).map fun qy=> .cH qy.size x i
  |_,_,_=>none
 | .index T x i=>match P.underlying T,fN n x,fN n i with
  |some .string,some x,some i=>some (.mC x i)
  |_,_,_=>none
 | .extract x i=>(fN n x).map (.ext i)
 | .range T x=>match P.underlying T,fN n x with
  |some .string,some x=>some (.o1 x)
  |_,_=>none
 | .next x true=>(fN n x).map .og
 | .call {callee:= .builtin b,args,argTypes}=>PA P n b argTypes args
 |_=>none
def cQ(dg:fF)(t:Nat→V)(h:Lo):OvL:=
 match dg with
 | .rv x=>some (x.get t,h)
 | .pick c a b=>match c.get t with
  | .bool q=>some (if q then a.get t else b.get t,h)
  |_=>none
 | .alloc arr z=>pQ arr h z
 | .box arr x=>pQ arr h (x.get t)
 | .build z ah=>(je z (ah.map fun p=>(p.1,p.2.1,p.2.2.get t))).map fun cs=>(.agg cs,h)
 | .dN az z len ah=>A1 h az z len (ah.map fun p=>(p.1,p.2.get t))
 | .ag a=>(mA h (a.get t)).map fun v=>(v,h)
 | .bp n a=>(dS h n (a.get t)).map fun v=>(v,h)
 | .store n a x=>(pS h n (a.get t) (x.get t)).map fun aa=>(.bW [],aa)
 | .bz x=>(DW h (x.get t)).map fun v=>(v,h)
 | .bin op x y=>(tL op (x.get t) (y.get t)).map fun v=>(v,h)
 | .eq neg T x y=>(sr h T (x.get t) (y.get t)).map fun b=>(.bool (if neg then !b else b),h)
 | .un op x=>(DV op (x.get t)).map fun v=>(v,h)
 | .toInt k x=>match x.get t with
  | .int _ m=>some (.int k (k.wrap m),h)
  |_=>none
 | .toStr x=>(xR h (x.get t)).map fun v=>(v,h)
 | .vA f fz=>some (.fn f (fz.map (·.get t)),h)
 | .kU x et aw=>match x.get t with
  | .str l=>(vq l (et.map (·.get t)) (aw.map (·.get t))).map fun v=>(v,h)
  |_=>none
 | .af off x=>match x.get t with
  | .ptr id i o=>if lK h id then some (.ptr id i (o+off),h) else none
  | .ref e o=>some (.ref e (o+off),h)
  |_=>none
 | .cH az x i=>match i.get t with
  | .int _ m=>(nJ h az (x.get t) m).map fun v=>(v,h)
  |_=>none
 | .mC x i=>match x.get t,i.get t with
  | .str l, .int _ m=>(AQ l m).map fun v=>(v,h)
  |_,_=>none
 | .ext i x=>(AR i (x.get t)).map fun v=>(v,h)
 | .vB x=>match x.get t with
  | .str l=>some (.int .i64 l.length,h)
  |_=>none
 | .cm x=>(ss h (x.get t)).map fun(m:Nat)=>((.int .i64 m:V),h)
 | .app az bytes x y=>(vt h az (y.get t)).bind fun es=>tM h az bytes (x.get t) es
 | .tR jZ x y=>(xS jZ (x.get t) (y.get t)).map fun v=>(v,h)
 | .vC x a_=>(xT (x.get t) (a_.map (·.get t))).map fun v=>(v,h)
 | .vD f fz=>some (.eD f (fz.map (·.get t)),h)
 | .o1 x=>D0 h (x.get t)
 | .vE x y=>match nL h (x.get t),nL h (y.get t) with
  |some l,some m=>some (.int .i64 (Lib.compareBytes l m),h)
  |_,_=>none
 | .sw x c=>match nL h (x.get t),c.get t with
  |some l, .int .u8 c=>some (.int .i64 (Lib.indexByte l c.toNat.toUInt8),h)
  |_,_=>none
 | .vF x c=>match nL h (x.get t),c.get t with
  |some l, .int .u8 c=>some (.int .i64 (Lib.countByte l c.toNat.toUInt8:Nat),h)
  |_,_=>none
 | .og x=>xV h (x.get t)
 |_=>none
theorem J2{P:Program}{t:TypeId}{z:V}(h:zeroOf P t=some z):∃i nc,P.info? t=some i∧i.zero=some nc∧vi nc=some z:=by
 unfold zeroOf at h
 simp only[Option.bind_eq_some_iff] at h
 obtain⟨i,R,nc,ae,aQ⟩:=h
 exact⟨i,nc,R,ae,aQ⟩
theorem PB{L:Loc}{w:World}{n:Nat}{t:Nat→V}{a:Act}(r:fA L w n t a.tmps){x:Option Operand}{e:Option bJ}(h:vG n x=some e):vp L w (e.map (·.get t)) (x.map a.eval):=by
 cases x with
 |none=>simp[vG] at h;subst h;trivial
 |some x=>
  simp only[vG,Option.map_eq_some_iff] at h
  obtain⟨y,R,rfl⟩:=h
  exact fV r R
theorem PC{L:Loc}{w:World}{n:Nat}{t:Nat→V}{a:Act}(r:fA L w n t a.tmps){place:Nat→Option (Nat × Nat)}:∀(ah:List (Nat × Operand)) (dF:List (Nat × Nat × bJ)),D4 n place ah=some dF→
  JN L w place (dF.map fun p=>(p.1,p.2.1,p.2.2.get t)) (ah.map fun p=>(p.1,a.eval p.2))
 | [],dF,h=>by simp[D4,fK] at h;subst h;trivial
 |(i,x)::ah,dF,h=>by
  simp only[D4,fK] at h
  split at h
  ·rename_i y a_ R ae
   injection h with h;subst h
   split at R
   ·rename_i q z aX aY
    injection R with R;subst R
    exact⟨aX,fV r aY,PC r ah a_ ae⟩
   ·cases R
  ·cases h
theorem PD{L:Loc}{w:World}{n:Nat}{t:Nat→V}{a:Act}(r:fA L w n t a.tmps):∀(ah:List (Nat × Operand)) (dF:List (Nat × bJ)),fK (fun p:Nat × Operand=>(fN n p.2).map fun x=>(p.1,x)) ah=some dF→
  DX L w (dF.map fun p=>(p.1,p.2.get t)) (ah.map fun p=>(p.1,a.eval p.2))
 | [],dF,h=>by simp[fK] at h;subst h;trivial
 |(i,x)::ah,dF,h=>by
  simp only[fK] at h
  split at h
  ·rename_i y a_ R ae
   injection h with h;subst h
   simp only[Option.map_eq_some_iff] at R
   obtain⟨z,aX,rfl⟩:=R
   exact⟨rfl,fV r aX,PD r ah a_ ae⟩
  ·cases h
theorem xY{L:Loc}{w:World}{n:Nat}{t:Nat→V}{a:Act}(r:fA L w n t a.tmps){xs:List Operand}{a_:List bJ}(h:fK (fN n) xs=some a_):
  (xs.toArray.map a.eval).size=(a_.map (·.get t)).length∧∀k c,(a_.map (·.get t))[k]? =some c→bM L w c ((xs.toArray.map a.eval).getD k undef):=by
 obtain⟨aX,aY⟩:=vh h
 refine⟨by simp[aX],fun k c aH=> ?_⟩
 simp only[List.getElem?_map,Option.map_eq_some_iff] at aH
 obtain⟨y,bT,rfl⟩:=aH
 obtain⟨x,aE,aR⟩:=aY k y bT
 have:(xs.toArray.map a.eval).getD k undef=a.eval x:=by
  rw[Array.getD_eq_getD_getElem?]
  simp[aE]
 rw[this]
 exact fV r aR
theorem PE{P:Program}{L:Loc}{h:Lo}{w:World}(H:cw L h w){op:BinOp}{T:TypeId}{x y:Operand}{a b:Value}{u v r:V}(bh:bM L w u a)(aF:bM L w v b)(he:tL op u v=some r):
  Good P L w (do eqGuard op T x y a b;binOp op T a b) r h:=by
 obtain⟨z,a2,cZ,R,rest⟩:=Xm (P:=P) (t:=T) H bh aF he
 have dt:(eqGuard op T x y a b).run P w= .ok () w:=by
  refine xK w op T x y a b ?_ ?_
  ·rintro ⟨cs,aM,rfl,rfl⟩
   unfold tL at he
   split at he
   ·cases bh
   ·cases bh
   ·cases he
  ·rintro ⟨rfl,rfl⟩
   unfold tL at he
   split at he
   ·cases bh
   ·cases bh
   ·cases he
 exact⟨z,a2,cZ,by rw[Sem.run_bind,dt,Result.andThen_ok];exact R,rest⟩
theorem YP{P:Program}{L:Loc}{h:Lo}{w:World}(H:cw L h w){op:BinOp}{t:TypeId}{T:pM}(eE:T.fits P t)(D5:op= .eql∨op= .neq){x y:Operand}{a b:Value}{u v:V}{r:Bool}(bh:bM L w u a)(aF:bM L w v b)
  (he:sr h T u v=some r):Good P L w (do eqGuard op t x y a b;binOp op t a b) (.bool (if op= .neq then !r else r)) h:=by
 obtain⟨R,ae,aQ⟩:=Xx (P:=P) H eE bh aF he
 refine .same H (x:= .bool (if op= .neq then !r else r)) ?_ (.bool _)
 rw[Sem.run_bind,ae,Result.andThen_ok,aQ op D5]
 rcases D5 with rfl|rfl
 ·simp[R]
 ·simp[R]
theorem YQ{P:Program}{L:Loc}{h aa:Lo}{w:World}(H:cw L h w){n:Nat}{t:Nat→V}{a:Act}(r:fA L w n t a.tmps){dst:_}{ty:_}{pos:_}{after:_}{guard:_}{x:_}{dg:fF}{v:V}(an:fm P n (.move x)=some dg)(he:cQ dg t h=some (v,aa)):
  hH P L w (execOp a.eval ⟨dst, .move x,ty,pos,after,guard⟩) v aa:=by
 simp only[fm,Option.map_eq_some_iff] at an
 obtain⟨e,R,rfl⟩:=an
 simp only[cQ,Option.some.injEq,Prod.mk.injEq] at he
 obtain⟨rfl,rfl⟩:=he
 exact .same H rfl (fV r R)
theorem YR{P:Program}{L:Loc}{h aa:Lo}{w:World}(H:cw L h w){n:Nat}{t:Nat→V}{a:Act}(r:fA L w n t a.tmps){dst:_}{ty:_}{pos:_}{after:_}{guard:_}{x:_}{dg:fF}{v:V}(an:fm P n (.assign x)=some dg)(he:cQ dg t h=some (v,aa)):
  hH P L w (execOp a.eval ⟨dst, .assign x,ty,pos,after,guard⟩) v aa:=by
 simp only[fm,Option.map_eq_some_iff] at an
 obtain⟨e,R,rfl⟩:=an
 simp only[cQ,Option.some.injEq,Prod.mk.injEq] at he
 obtain⟨rfl,rfl⟩:=he
 exact .same H rfl (fV r R)
theorem YS{P:Program}{L:Loc}{h aa:Lo}{w:World}(H:cw L h w){n:Nat}{t:Nat→V}{a:Act}(r:fA L w n t a.tmps){dst:_}{ty:_}{pos:_}{after:_}{guard:_}{c:_}{x:_}{y:_}{dg:fF}{v:V}(an:fm P n (.pick c x y)=some dg)(he:cQ dg t h=some (v,aa)):
  hH P L w (execOp a.eval ⟨dst, .pick c x y,ty,pos,after,guard⟩) v aa:=by
 simp only[fm] at an
 split at an
 ·rename_i c0 iI o2 R ae aQ
  injection an with an;subst an
  simp only[cQ] at he
  split at he
  ·rename_i q bm
   injection he with he;injection he with hO jd;subst hO;subst jd
   have rc:=fV r R
   rw[bm] at rc
   cases q with
   |true=>exact .same H (by simp only[execOp];generalize a.eval c=z at rc;cases rc;simp[asBool]) (fV r ae)
   |false=>exact .same H (by simp only[execOp];generalize a.eval c=z at rc;cases rc;simp[asBool]) (fV r aQ)
  ·cases he
 ·cases an
theorem YT{P:Program}{L:Loc}{h aa:Lo}{w:World}(H:cw L h w){n:Nat}{t:Nat→V}{a:Act}(r:fA L w n t a.tmps){dst:_}{ty:_}{pos:_}{after:_}{guard:_}{T:_}{dg:fF}{v:V}(an:fm P n (.alloc T)=some dg)(he:cQ dg t h=some (v,aa)):
  hH P L w (execOp a.eval ⟨dst, .alloc T,ty,pos,after,guard⟩) v aa:=by
 simp only[fm,Option.map_eq_some_iff] at an
 obtain⟨z,R,rfl⟩:=an
 obtain⟨i,nc,aX,aY,cU⟩:=J2 R
 exact(XI H aX aY cU he).op
theorem YU{P:Program}{L:Loc}{h aa:Lo}{w:World}(H:cw L h w){n:Nat}{t:Nat→V}{a:Act}(r:fA L w n t a.tmps){dst:_}{ty:_}{pos:_}{after:_}{guard:_}{T:_}{x:_}{dg:fF}{v:V}(an:fm P n (.box T x)=some dg)(he:cQ dg t h=some (v,aa)):
  hH P L w (execOp a.eval ⟨dst, .box T x,ty,pos,after,guard⟩) v aa:=by
 simp only[fm,Option.map_eq_some_iff] at an
 obtain⟨e,R,rfl⟩:=an
 exact(OM H (fV r R) he).op
theorem YV{P:Program}{L:Loc}{h aa:Lo}{w:World}(H:cw L h w){n:Nat}{t:Nat→V}{a:Act}(r:fA L w n t a.tmps){dst:_}{ty:_}{pos:_}{after:_}{guard:_}{T:_}{ah:_}{dg:fF}{v:V}(an:fm P n (.build T ah)=some dg)(he:cQ dg t h=some (v,aa)):
  hH P L w (execOp a.eval ⟨dst, .build T ah,ty,pos,after,guard⟩) v aa:=by
 simp only[fm] at an
 split at an
 ·rename_i z place b0 hp
  simp only[Option.map_eq_some_iff] at an
  obtain⟨dF,R,rfl⟩:=an
  simp only[cQ,Option.map_eq_some_iff,Prod.mk.injEq] at he
  obtain⟨cs,aS,rfl,rfl⟩:=he
  obtain⟨i,nc,aX,aY,cU⟩:=J2 b0
  have YW:bM L w (.agg z) nc:=DG cU
  cases YW with
  |agg ak ax bc=>
   obtain⟨us,f1,f2,f3⟩:=O0 _ _ z cs ak (PC r ah.toList dF R) ax bc aS
   have aF:P.built T ((ah.map fun(i,x)=>(i,a.eval x)).toList)=some us:=by
    unfold placesOf at hp
    unfold Program.built
    rw[aX]
    have J3:(ah.map fun(i,x)=>(i,a.eval x)).toList=ah.toList.map fun p=>(p.1,a.eval p.2):=by simp
    rw[J3]
    split at hp
    ·rename_i m e hu
     simp only[Option.map_eq_some_iff] at hp
     obtain⟨qy,aE,rfl⟩:=hp
     simp only[hu,aY,aE]
     exact f1
    ·rename_i cc hu
     simp only[Option.map_eq_some_iff] at hp
     obtain⟨pl,aE,rfl⟩:=hp
     simp only[hu,aY,aE]
     exact f1
    ·cases hp
   exact Good.op (.same H (run_build w T _ us aF) (.agg us f2 f3))
 ·cases an
theorem YX{P:Program}{L:Loc}{h aa:Lo}{w:World}(H:cw L h w){n:Nat}{t:Nat→V}{a:Act}(r:fA L w n t a.tmps){dst:_}{ty:_}{pos:_}{after:_}{guard:_}{T:_}{len:_}{ah:_}{dg:fF}{v:V}(an:fm P n (.buildSlice T len ah)=some dg)(he:cQ dg t h=some (v,aa)):
  hH P L w (execOp a.eval ⟨dst, .buildSlice T len ah,ty,pos,after,guard⟩) v aa:=by
 simp only[fm] at an
 split at an
 ·rename_i e hu
  split at an
  ·rename_i i z dF R ae aQ
   split at an
   ·rename_i dw
    injection an with an;subst an
    obtain⟨xP,nc,aX,aY,cU⟩:=J2 ae
    rw[R] at aX;injection aX with aX;subst aX
    have:=Yf (P:=P) H hu R aY cU dw.1 dw.2 (PD r ah.toList dF aQ) he
    have e:∀f:Nat × Operand→Nat × Value,(∀p,f p=(p.1,a.eval p.2))→hH P L w (do pure (.value (←Instr.buildSlice T len (ah.map f)))) v aa:=by
     intro f aS
     have J3:ah.map f=(ah.toList.map fun p=>(p.1,a.eval p.2)).toArray:=by
      have:f=fun p=>(p.1,a.eval p.2):=funext aS
      rw[this];apply Array.ext';simp
     rw[J3]
     exact this.op
    exact e _ (fun _=>rfl)
   ·cases an
  ·cases an
 ·cases an
theorem YY{P:Program}{L:Loc}{h aa:Lo}{w:World}(H:cw L h w){n:Nat}{t:Nat→V}{a:Act}(r:fA L w n t a.tmps){dst:_}{ty:_}{pos:_}{after:_}{guard:_}{T:_}{x:_}{dg:fF}{v:V}(an:fm P n (.load T x)=some dg)(he:cQ dg t h=some (v,aa)):
  hH P L w (execOp a.eval ⟨dst, .load T x,ty,pos,after,guard⟩) v aa:=by
 simp only[fm] at an
 split at an
 ·rename_i i d e R ae aQ
  have hu:(P.underlying T).isSome=true:=by rw[ae];rfl
  split at an
  ·rename_i a6
   injection an with an;subst an
   simp only[cQ,Option.map_eq_some_iff,Prod.mk.injEq] at he
   obtain⟨c,q,rfl,rfl⟩:=he
   exact(XA H R hu a6 (fV r aQ) q).op
  ·rename_i a6
   injection an with an;subst an
   simp only[cQ,Option.map_eq_some_iff,Prod.mk.injEq] at he
   obtain⟨c,q,rfl,rfl⟩:=he
   exact(Xz H hu (by simpa using a6) (fV r aQ) q).op
 ·cases an
theorem YZ{P:Program}{L:Loc}{h aa:Lo}{w:World}(H:cw L h w){n:Nat}{t:Nat→V}{a:Act}(r:fA L w n t a.tmps){dst:_}{ty:_}{pos:_}{after:_}{guard:_}{T:_}{x:_}{y:_}{dg:fF}{v:V}(an:fm P n (.store T x y)=some dg)(he:cQ dg t h=some (v,aa)):
  hH P L w (execOp a.eval ⟨dst, .store T x y,ty,pos,after,guard⟩) v aa:=by
 simp only[fm] at an
 split at an
 ·rename_i i aV bb R ae aQ
  injection an with an;subst an
  simp only[cQ,Option.map_eq_some_iff,Prod.mk.injEq] at he
  obtain⟨c,q,rfl,rfl⟩:=he
  exact Yb (XO H R (fV r ae) (fV r aQ) q)
 ·cases an
theorem Y0{P:Program}{L:Loc}{h aa:Lo}{w:World}(H:cw L h w){n:Nat}{t:Nat→V}{a:Act}(r:fA L w n t a.tmps){dst:_}{ty:_}{pos:_}{after:_}{guard:_}{x:_}{dg:fF}{v:V}(an:fm P n (.nilCheck x)=some dg)(he:cQ dg t h=some (v,aa)):
  hH P L w (execOp a.eval ⟨dst, .nilCheck x,ty,pos,after,guard⟩) v aa:=by
 simp only[fm,Option.map_eq_some_iff] at an
 obtain⟨e,R,rfl⟩:=an
 simp only[cQ,Option.map_eq_some_iff,Prod.mk.injEq] at he
 obtain⟨c,q,rfl,rfl⟩:=he
 have rx:=fV r R
 generalize au:a.eval x=z at rx
 unfold DW at q
 split at q
 ·rename_i id i o bg
  rw[bg] at rx
  split at q
  ·rename_i oY
   injection q with q;subst q
   obtain⟨p,hp⟩:=vl H oY
   cases rx with
   |ptr g=>exact .same H (by simp only[execOp,au];rfl) (.ptr g)
   |nC _ g=>rw[hp] at g;cases g
  ·cases q
 ·rename_i ct o bg
  rw[bg] at rx
  injection q with q;subst q
  cases rx with
  |ref f aX aY cU h_=>exact .same H (by simp only[execOp,au];rfl) (.ref f aX aY cU h_)
 ·rename_i f cs bg
  rw[bg] at rx
  injection q with q;subst q
  cases rx with
  |fn ak aX aY=>exact .same H (by simp only[execOp,au];rfl) (.fn ak aX aY)
 ·cases q
theorem Y1{P:Program}{L:Loc}{h aa:Lo}{w:World}(H:cw L h w){n:Nat}{t:Nat→V}{a:Act}(r:fA L w n t a.tmps){dst:_}{ty:_}{pos:_}{after:_}{guard:_}{op:_}{T:_}{x:_}{y:_}{J4:_}{dg:fF}{v:V}(an:fm P n (.binOp op T x y J4)=some dg)(he:cQ dg t h=some (v,aa)):
  hH P L w (execOp a.eval ⟨dst, .binOp op T x y J4,ty,pos,after,guard⟩) v aa:=by
 simp only[fm] at an
 split at an
 ·rename_i aV bb R ae
  split at an
  ·rename_i D5
   split at an
   ·injection an with an;subst an
    simp only[cQ,Option.map_eq_some_iff,Prod.mk.injEq] at he
    obtain⟨c,q,rfl,rfl⟩:=he
    exact(PE H (fV r R) (fV r ae) q).op
   ·simp only[Option.map_eq_some_iff] at an
    obtain⟨arc,eE,rfl⟩:=an
    simp only[cQ,Option.map_eq_some_iff,Prod.mk.injEq] at he
    obtain⟨c,q,rfl,rfl⟩:=he
    have:=YP (P:=P) (x:=x) (y:=y) H (YN eE) D5 (fV r R) (fV r ae) q
    simp only[decide_eq_true_eq]
    exact this.op
  ·injection an with an;subst an
   simp only[cQ,Option.map_eq_some_iff,Prod.mk.injEq] at he
   obtain⟨c,q,rfl,rfl⟩:=he
   exact(PE H (fV r R) (fV r ae) q).op
 ·cases an
theorem Y2{P:Program}{L:Loc}{h aa:Lo}{w:World}(H:cw L h w){n:Nat}{t:Nat→V}{a:Act}(r:fA L w n t a.tmps){dst:_}{ty:_}{pos:_}{after:_}{guard:_}{op:_}{T:_}{x:_}{dg:fF}{v:V}(an:fm P n (.unOp op T x)=some dg)(he:cQ dg t h=some (v,aa)):
  hH P L w (execOp a.eval ⟨dst, .unOp op T x,ty,pos,after,guard⟩) v aa:=by
 simp only[fm,Option.map_eq_some_iff] at an
 obtain⟨e,R,rfl⟩:=an
 simp only[cQ,Option.map_eq_some_iff,Prod.mk.injEq] at he
 obtain⟨c,q,rfl,rfl⟩:=he
 exact(Yc H (fV r R) q).op
theorem Y3{P:Program}{L:Loc}{h aa:Lo}{w:World}(H:cw L h w){n:Nat}{t:Nat→V}{a:Act}(r:fA L w n t a.tmps){dst:_}{ty:_}{pos:_}{after:_}{guard:_}{s:_}{d:_}{x:_}{dg:fF}{v:V}(an:fm P n (.convert s d x)=some dg)(he:cQ dg t h=some (v,aa)):
  hH P L w (execOp a.eval ⟨dst, .convert s d x,ty,pos,after,guard⟩) v aa:=by
 simp only[fm] at an
 split at an
 ·rename_i ar k e R ae aQ
  injection an with an;subst an
  simp only[cQ] at he
  split at he
  ·rename_i aA m hm
   injection he with he;injection he with hO jd;subst hO;subst jd
   have rx:=fV r aQ
   rw[hm] at rx
   have au:=rx.vz
   refine Good.op (.same H (x:= .int k (k.wrap m)) ?_ (.int _ _))
   rw[au]
   simp only[convert,Sem.run_bind,run_underlying R,run_underlying ae,Result.andThen_ok,Conv.intToInt,Sem.run_pure]
  ·cases he
 ·rename_i e6 e R ae aQ
  split at an
  ·rename_i eR
   injection an with an;subst an
   simp only[cQ,Option.map_eq_some_iff,Prod.mk.injEq] at he
   obtain⟨c,q,rfl,rfl⟩:=he
   have Y4:P.underlying e6=some (.int .u8):=by
    revert eR;cases P.underlying e6 with
    |none=>intro h;cases h
    |some d=>cases d<;>intro h<;>first|cases h;done|skip
             rename_i k;cases k<;>first|rfl|cases h
   exact(X8 H R Y4 ae (fV r aQ) q).op
  ·cases an
 ·cases an
theorem Y5{P:Program}{L:Loc}{h aa:Lo}{w:World}(H:cw L h w){n:Nat}{t:Nat→V}{a:Act}(r:fA L w n t a.tmps){dst:_}{ty:_}{pos:_}{after:_}{guard:_}{fn:_}{first:_}{fz:_}{dg:fF}{v:V}(an:fm P n (.makeFunc fn first fz)=some dg)(he:cQ dg t h=some (v,aa)):
  hH P L w (execOp a.eval ⟨dst, .makeFunc fn first fz,ty,pos,after,guard⟩) v aa:=by
 cases fn<;>simp only[fm] at an<;>first|(cases an;done)|skip
 split at an
 ·rename_i cs aS R
  injection an with an;subst an
  simp only[cQ,Option.some.injEq,Prod.mk.injEq] at he
  obtain⟨rfl,rfl⟩:=he
  obtain⟨aX,aY⟩:=xY r R
  obtain⟨f1,f2⟩:=xY r aS
  have Y6:first.map a.eval= #[]:=by
   have:first.toList.toArray.map a.eval=first.map a.eval:=by simp
   rw[this] at f1
   exact Array.eq_empty_of_size_eq_zero (by simpa using f1)
  exact Good.op (.same H (x:= .func (.func _) #[] (fz.toList.toArray.map a.eval)) (by simp only[execOp,Y6];rfl) (.fn _ aX aY))
 ·rename_i c cs aS R
  injection an with an;subst an
  simp only[cQ,Option.some.injEq,Prod.mk.injEq] at he
  obtain⟨rfl,rfl⟩:=he
  obtain⟨aX,aY⟩:=xY r aS
  obtain⟨f1,f2⟩:=xY r R
  have A5:fz.map a.eval= #[]:=by
   have:fz.toList.toArray.map a.eval=fz.map a.eval:=by simp
   rw[this] at f1
   exact Array.eq_empty_of_size_eq_zero (by simpa using f1)
  exact Good.op (.same H (x:= .func (.func _) (first.toList.toArray.map a.eval) #[]) (by simp only[execOp,A5];rfl) (.eD _ aX aY))
 ·cases an
theorem Y7{P:Program}{L:Loc}{h aa:Lo}{w:World}(H:cw L h w){n:Nat}{t:Nat→V}{a:Act}(r:fA L w n t a.tmps){dst:_}{ty:_}{pos:_}{after:_}{guard:_}{T:_}{q:_}{dg:fF}{v:V}(an:fm P n (.makeMap T q)=some dg)(he:cQ dg t h=some (v,aa)):
  hH P L w (execOp a.eval ⟨dst, .makeMap T q,ty,pos,after,guard⟩) v aa:=by
 simp only[fm] at an
 cases an
theorem Y8{P:Program}{L:Loc}{h aa:Lo}{w:World}(H:cw L h w){n:Nat}{t:Nat→V}{a:Act}(r:fA L w n t a.tmps){dst:_}{ty:_}{pos:_}{after:_}{guard:_}{T:_}{l:_}{c:_}{dg:fF}{v:V}(an:fm P n (.makeSlice T l c)=some dg)(he:cQ dg t h=some (v,aa)):
  hH P L w (execOp a.eval ⟨dst, .makeSlice T l c,ty,pos,after,guard⟩) v aa:=by
 simp only[fm] at an
 cases an
theorem Y9{P:Program}{L:Loc}{h aa:Lo}{w:World}(H:cw L h w){n:Nat}{t:Nat→V}{a:Act}(r:fA L w n t a.tmps){dst:_}{ty:_}{pos:_}{after:_}{guard:_}{T:_}{x:_}{et:_}{aw:_}{jZ:_}{dg:fF}{v:V}(an:fm P n (.slice T x et aw jZ)=some dg)(he:cQ dg t h=some (v,aa)):
  hH P L w (execOp a.eval ⟨dst, .slice T x et aw jZ,ty,pos,after,guard⟩) v aa:=by
 simp only[fm] at an
 split at an
 ·rename_i iI ard hn hu R ae aQ bo
  injection an with an;subst an
  simp only[cQ] at he
  split at he
  ·rename_i l ax
   simp only[Option.map_eq_some_iff,Prod.mk.injEq] at he
   obtain⟨c,q,rfl,rfl⟩:=he
   have rx:=fV r R
   rw[ax] at rx
   have hm:jZ=none:=by cases jZ with
    |none=>rfl
    |some _=>simp[vG] at bo
   subst hm
   exact(XS H hu rx (PB r ae) (PB r aQ) q).op
  ·cases he
 ·cases an
theorem Y_{P:Program}{L:Loc}{h aa:Lo}{w:World}(H:cw L h w){n:Nat}{t:Nat→V}{a:Act}(r:fA L w n t a.tmps){dst:_}{ty:_}{pos:_}{after:_}{guard:_}{T:_}{x:_}{k:_}{dg:fF}{v:V}(an:fm P n (.fieldAddr T x k)=some dg)(he:cQ dg t h=some (v,aa)):
  hH P L w (execOp a.eval ⟨dst, .fieldAddr T x k,ty,pos,after,guard⟩) v aa:=by
 simp only[fm] at an
 split at an
 ·rename_i cc iI hu R
  split at an
  ·rename_i g dt
   simp only[Option.bind_eq_some_iff] at an
   obtain⟨i,sy,an⟩:=an
   split at an
   ·rename_i b0
    injection an with an;subst an
    simp only[cQ] at he
    have rx:=fV r R
    split at he
    ·rename_i id b o bg
     split at he
     ·rename_i oY
      injection he with he;injection he with hO jd;subst hO;subst jd
      exact(OL H (fun Za xP JE z=>by rw[bg] at z;injection z with hV _ _;rw[←hV];exact oY) hu dt sy b0 rx (by rw[bg];rfl)).op
     ·cases he
    ·rename_i ct o bg
     injection he with he;injection he with hO jd;subst hO;subst jd
     exact(OL H (fun Za xP JE z=>by rw[bg] at z;cases z) hu dt sy b0 rx (by rw[bg];rfl)).op
    ·cases he
   ·cases an
  ·cases an
 ·cases an
theorem Zb{P:Program}{L:Loc}{h aa:Lo}{w:World}(H:cw L h w){n:Nat}{t:Nat→V}{a:Act}(r:fA L w n t a.tmps){dst:_}{ty:_}{pos:_}{after:_}{guard:_}{T:_}{x:_}{k:_}{dg:fF}{v:V}(an:fm P n (.field T x k)=some dg)(he:cQ dg t h=some (v,aa)):
  hH P L w (execOp a.eval ⟨dst, .field T x k,ty,pos,after,guard⟩) v aa:=by
 simp only[fm] at an
 cases an
theorem Zc{P:Program}{L:Loc}{h aa:Lo}{w:World}(H:cw L h w){n:Nat}{t:Nat→V}{a:Act}(r:fA L w n t a.tmps){dst:_}{ty:_}{pos:_}{after:_}{guard:_}{T:_}{x:_}{i:_}{dg:fF}{v:V}(an:fm P n (.indexAddr T x i)=some dg)(he:cQ dg t h=some (v,aa)):
  hH P L w (execOp a.eval ⟨dst, .indexAddr T x i,ty,pos,after,guard⟩) v aa:=by
 simp only[fm] at an
 split at an
 ·rename_i e iI xP hu R ae
  simp only[Option.map_eq_some_iff] at an
  obtain⟨qy,sy,rfl⟩:=an
  simp only[cQ] at he
  split at he
  ·rename_i db m hm
   simp only[Option.map_eq_some_iff,Prod.mk.injEq] at he
   obtain⟨c,q,rfl,rfl⟩:=he
   have A6:=fV r ae
   rw[hm] at A6
   show hH P L w (do pure (.value (←Instr.indexAt T (a.eval x) (a.eval i)))) _ _
   rw[A6.vz]
   exact(XB H hu sy (fV r R) q).op
  ·cases he
 ·cases an
theorem Zd{P:Program}{L:Loc}{h aa:Lo}{w:World}(H:cw L h w){n:Nat}{t:Nat→V}{a:Act}(r:fA L w n t a.tmps){dst:_}{ty:_}{pos:_}{after:_}{guard:_}{T:_}{x:_}{i:_}{dg:fF}{v:V}(an:fm P n (.index T x i)=some dg)(he:cQ dg t h=some (v,aa)):
  hH P L w (execOp a.eval ⟨dst, .index T x i,ty,pos,after,guard⟩) v aa:=by
 simp only[fm] at an
 split at an
 ·rename_i iI xP hu R ae
  injection an with an;subst an
  simp only[cQ] at he
  split at he
  ·rename_i l db m ax hm
   simp only[Option.map_eq_some_iff,Prod.mk.injEq] at he
   obtain⟨c,q,rfl,rfl⟩:=he
   have rx:=fV r R
   have A6:=fV r ae
   rw[ax] at rx;rw[hm] at A6
   show hH P L w (do pure (.value (←Instr.index T (a.eval x) (a.eval i)))) _ _
   rw[A6.vz]
   exact(XC H hu rx q).op
  ·cases he
 ·cases an
theorem Ze{P:Program}{L:Loc}{h aa:Lo}{w:World}(H:cw L h w){n:Nat}{t:Nat→V}{a:Act}(r:fA L w n t a.tmps){dst:_}{ty:_}{pos:_}{after:_}{guard:_}{x:_}{i:_}{dg:fF}{v:V}(an:fm P n (.extract x i)=some dg)(he:cQ dg t h=some (v,aa)):
  hH P L w (execOp a.eval ⟨dst, .extract x i,ty,pos,after,guard⟩) v aa:=by
 simp only[fm,Option.map_eq_some_iff] at an
 obtain⟨e,R,rfl⟩:=an
 simp only[cQ,Option.map_eq_some_iff,Prod.mk.injEq] at he
 obtain⟨c,q,rfl,rfl⟩:=he
 exact(XD H (fV r R) q).op
theorem Zf{P:Program}{L:Loc}{h aa:Lo}{w:World}(H:cw L h w){n:Nat}{t:Nat→V}{a:Act}(r:fA L w n t a.tmps){dst:_}{ty:_}{pos:_}{after:_}{guard:_}{T:_}{m:_}{k:_}{ok:_}{dg:fF}{v:V}(an:fm P n (.lookup T m k ok)=some dg)(he:cQ dg t h=some (v,aa)):
  hH P L w (execOp a.eval ⟨dst, .lookup T m k ok,ty,pos,after,guard⟩) v aa:=by
 simp only[fm] at an
 cases an
theorem Zg{P:Program}{L:Loc}{h aa:Lo}{w:World}(H:cw L h w){n:Nat}{t:Nat→V}{a:Act}(r:fA L w n t a.tmps){dst:_}{ty:_}{pos:_}{after:_}{guard:_}{T:_}{m:_}{k:_}{x:_}{dg:fF}{v:V}(an:fm P n (.mapUpdate T m k x)=some dg)(he:cQ dg t h=some (v,aa)):
  hH P L w (execOp a.eval ⟨dst, .mapUpdate T m k x,ty,pos,after,guard⟩) v aa:=by
 simp only[fm] at an
 cases an
theorem Zh{P:Program}{L:Loc}{h aa:Lo}{w:World}(H:cw L h w){n:Nat}{t:Nat→V}{a:Act}(r:fA L w n t a.tmps){dst:_}{ty:_}{pos:_}{after:_}{guard:_}{c:_}{dg:fF}{v:V}(an:fm P n (.call c)=some dg)(he:cQ dg t h=some (v,aa)):
  hH P L w (execOp a.eval ⟨dst, .call c,ty,pos,after,guard⟩) v aa:=by
 obtain⟨callee,xs,c_⟩:=c
 cases callee<;>simp only[fm] at an<;>first|(cases an;done)|skip
 rename_i b
 rw[Go.BigFrame.execOp_builtin]
 unfold PA at an
 split at an
 ·
  rename_i t0 are x lN nb
  have sA:xs= #[x]:=by rw[←Array.toArray_toList (xs:=xs),nb]
  have vH:Array.map a.eval #[x]= #[a.eval x]:=by simp
  have D6:c_[0]? =some t0:=by rw[←Array.getElem?_toList,lN];rfl
  subst sA
  rw[vH]
  split at an
  ·rename_i e hu R
   injection an with an;subst an
   simp only[cQ] at he
   split at he
   ·rename_i l ax
    injection he with he;injection he with hO jd;subst hO;subst jd
    have rx:=fV r R
    rw[ax] at rx
    exact(XG H hu D6 rx).op
   ·cases he
  ·rename_i e6 e hu R
   injection an with an;subst an
   simp only[cQ,Option.map_eq_some_iff,Prod.mk.injEq] at he
   obtain⟨c,q,rfl,rfl⟩:=he
   exact(XF H hu D6 (fV r R) q).op
  ·cases an
 ·
  rename_i t0 t2 x y lN nb
  have sA:xs= #[x,y]:=by rw[←Array.toArray_toList (xs:=xs),nb]
  have vH:Array.map a.eval #[x,y]= #[a.eval x,a.eval y]:=by simp
  have D6:c_= #[t0,t2]:=by rw[←Array.toArray_toList (xs:=c_),lN]
  subst sA
  rw[vH];subst D6
  split at an
  ·cases an
  ·cases an
  ·rename_i e cD iI o2 arf en hu tN R ae
   split at an
   ·rename_i i sy
    split at an
    ·rename_i z b0
     split at an
     ·rename_i dw
      injection an with an;subst an
      simp only[cQ,Option.bind_eq_some_iff] at he
      obtain⟨es,aE,aR⟩:=he
      exact(X6 H ⟨rfl,rfl,hu,tN,fun k aH=>en _ (by rw[←aH]),sy,b0,dw.1,dw.2.1,dw.2.2⟩ (fV r R) (fV r ae) aE aR).op
     ·cases an
    ·cases an
   ·cases an
  ·cases an
 ·
  rename_i x y nb
  have sA:xs= #[x,y]:=by rw[←Array.toArray_toList (xs:=xs),nb]
  have vH:Array.map a.eval #[x,y]= #[a.eval x,a.eval y]:=by simp
  subst sA
  rw[vH]
  split at an
  ·rename_i iI o2 R ae
   injection an with an;subst an
   simp only[cQ,Option.map_eq_some_iff,Prod.mk.injEq] at he
   obtain⟨c,q,rfl,rfl⟩:=he
   have:=O_ (P:=P) (c_:=c_) (ty:=ty) H (fV r R) (fV r ae) q
   exact this.op
  ·cases an
 ·
  rename_i x y nb
  have sA:xs= #[x,y]:=by rw[←Array.toArray_toList (xs:=xs),nb]
  have vH:Array.map a.eval #[x,y]= #[a.eval x,a.eval y]:=by simp
  subst sA
  rw[vH]
  split at an
  ·rename_i iI o2 R ae
   injection an with an;subst an
   simp only[cQ,Option.map_eq_some_iff,Prod.mk.injEq] at he
   obtain⟨c,q,rfl,rfl⟩:=he
   have:=O_ (P:=P) (c_:=c_) (ty:=ty) H (fV r R) (fV r ae) q
   exact this.op
  ·cases an
 ·
  rename_i x a_ en nb
  have sA:xs= #[x]++a_.toArray:=by rw[←Array.toArray_toList (xs:=xs),nb];simp
  split at an
  ·rename_i iI DF R ae
   injection an with an;subst an
   simp only[cQ,Option.map_eq_some_iff,Prod.mk.injEq] at he
   obtain⟨c,q,rfl,rfl⟩:=he
   obtain⟨aX,aY⟩:=xY r ae
   have:=Pa (P:=P) H (DF.map (·.get t)) (a_.map a.eval) _ _ _ (fV r R) (by simpa using aX) (fun k y aH=>by
    have z:=aY k y aH
    simpa using z) q
   have e:Builtin.max_ c_ ty (Array.map a.eval xs)=(a_.map a.eval).foldlM Builtin.max2 (a.eval x):=by
    subst sA
    simp[Builtin.max_]
   have bb:=this.op
   rw[←e] at bb
   exact bb
  ·cases an
 ·cases an
theorem Zi{P:Program}{L:Loc}{h aa:Lo}{w:World}(H:cw L h w){n:Nat}{t:Nat→V}{a:Act}(r:fA L w n t a.tmps){dst:_}{ty:_}{pos:_}{after:_}{guard:_}{T:_}{x:_}{dg:fF}{v:V}(an:fm P n (.range T x)=some dg)(he:cQ dg t h=some (v,aa)):
  hH P L w (execOp a.eval ⟨dst, .range T x,ty,pos,after,guard⟩) v aa:=by
 simp only[fm] at an
 split at an
 ·rename_i e hu R
  injection an with an;subst an
  exact(Yo H hu (fV r R) he).op
 ·cases an
theorem Zj{P:Program}{L:Loc}{h aa:Lo}{w:World}(H:cw L h w){n:Nat}{t:Nat→V}{a:Act}(r:fA L w n t a.tmps){dst:_}{ty:_}{pos:_}{after:_}{guard:_}{x:_}{q:_}{dg:fF}{v:V}(an:fm P n (.next x q)=some dg)(he:cQ dg t h=some (v,aa)):
  hH P L w (execOp a.eval ⟨dst, .next x q,ty,pos,after,guard⟩) v aa:=by
 cases q<;>simp only[fm] at an<;>first|(cases an;done)|skip
 simp only[Option.map_eq_some_iff] at an
 obtain⟨e,R,rfl⟩:=an
 exact(Yq H (fV r R) he).op
theorem Zk{P:Program}{L:Loc}{h aa:Lo}{w:World}(H:cw L h w){n:Nat}{t:Nat→V}{a:Act}(r:fA L w n t a.tmps){dst:_}{ty:_}{pos:_}{after:_}{guard:_}{x:_}{dg:fF}{v:V}(an:fm P n (.entry x)=some dg)(he:cQ dg t h=some (v,aa)):
  hH P L w (execOp a.eval ⟨dst, .entry x,ty,pos,after,guard⟩) v aa:=by
 simp only[fm] at an
 cases an
theorem Zl{P:Program}{L:Loc}{h aa:Lo}{w:World}(H:cw L h w){n:Nat}{t:Nat→V}{a:Act}(r:fA L w n t a.tmps){ao:Oper}{dg:fF}{v:V}(an:fm P n ao.op=some dg)(he:cQ dg t h=some (v,aa)):
  hH P L w (execOp a.eval ao) v aa:=by
 obtain⟨dst,op,ty,pos,after,guard⟩:=ao
 simp only at an
 cases op
 case move x=>exact YQ H r an he
 case assign x=>exact YR H r an he
 case pick c x y=>exact YS H r an he
 case alloc T=>exact YT H r an he
 case box T x=>exact YU H r an he
 case build T ah=>exact YV H r an he
 case buildSlice T len ah=>exact YX H r an he
 case load T x=>exact YY H r an he
 case store T x y=>exact YZ H r an he
 case nilCheck x=>exact Y0 H r an he
 case binOp op T x y J4=>exact Y1 H r an he
 case unOp op T x=>exact Y2 H r an he
 case convert s d x=>exact Y3 H r an he
 case makeFunc fn first fz=>exact Y5 H r an he
 case makeMap T q=>exact Y7 H r an he
 case makeSlice T l c=>exact Y8 H r an he
 case slice T x et aw jZ=>exact Y9 H r an he
 case fieldAddr T x k=>exact Y_ H r an he
 case field T x k=>exact Zb H r an he
 case indexAddr T x i=>exact Zc H r an he
 case index T x i=>exact Zd H r an he
 case extract x i=>exact Ze H r an he
 case lookup T m k ok=>exact Zf H r an he
 case mapUpdate T m k x=>exact Zg H r an he
 case call c=>exact Zh H r an he
 case range T x=>exact Zi H r an he
 case next x q=>exact Zj H r an he
 case entry x=>exact Zk H r an he
 all_goals simp[fm] at an
def lO(L:Loc)(w:World)(ak:Lv)(xs:Array Value):Prop:=xs.size=ak.length∧∀k v,ak[k]? =some v→bM L w v (xs.getD k undef)
def kl(P:Program)(f:FuncId)(args:Lv)(h:Lo)(aK:V→Lo→Prop):Prop:=
 ∀L w xs,lO L w args xs→cw L h w→Calls P f xs w fun e a2=>∃x v aa cZ,e= .returned x∧aK v aa∧bM cZ a2 v x∧cw cZ aa a2∧Fr (Own L) w a2∧Ext L w cZ
theorem kl.mono{P:Program}{f:FuncId}{args:Lv}{h:Lo}{aK PF:V→Lo→Prop}(c:kl P f args h aK)(bc:∀v aa,aK v aa→PF v aa):kl P f args h PF:=
 fun L w xs a H=>(c L w xs a H).mono fun e a2 ⟨x,v,aa,cZ,R,ae,rest⟩=>⟨x,v,aa,cZ,R,bc _ _ ae,rest⟩
def qz(P:Program)(f:FuncId):Bool:=match P.funcs[f]? with
 |some fn=>fn.name != "runtime.NumGoroutine"&&fn.body.isSome
 |none=>false
theorem J5{P:Program}{f:FuncId}(h:qz P f=true)(args:Array Value)(w:World):(callFunc f args).run P w= .ok (.enter f args) w:=by
 unfold qz at h
 split at h
 ·rename_i fn vy
  simp only[Bool.and_eq_true,bne_iff_ne,ne_eq,Option.isSome_iff_ne_none] at h
  cases aF:fn.body with
  |none=>exact absurd aF h.2
  |some c=>simp[callFunc,vy,h.1,aF]
 ·cases h
inductive km where
 |op (ao:fF)
 |call (f:FuncId) (args:List bJ)
 |ry (mD:bJ) (args:List bJ)
 |tU (x:bJ)
 |bad
 deriving Inhabited,Repr
structure ga where
 dst:Option Nat
 guard:Option (Nat × Bool)
 act:km
 deriving Inhabited,Repr
structure hr where
 dst:Option Nat
 guard:Option (Nat × Bool)
 act:km
 da:List ga
 deriving Inhabited,Repr
inductive cg where
 |normal
 |exit (id:Nat)
 |ret
 deriving DecidableEq,Repr,Inhabited
def cg.up:cg→Exit
 | .normal=> .normal
 | .exit id=> .exit id
 | .ret=> .ret
inductive js where
 |skip
 |mc (l:List hr)
 |draw (ls:List (List hr))
 |seq (x y:js)
 |cond (c:bJ) (x y:js)
 |block (id:Nat) (x:js)
 |loop (x:js)
 |exit (id:Nat)
 |ret
 deriving Inhabited,Repr
abbrev ia:=cg→(Nat→V)→Lo→Prop
def g5(t:Nat→V)(dst:Option Nat)(v:V):Nat→V:=match dst with
 |some d=>pI t d v
 |none=>t
def xZ(ao:OvL)(k:V→Lo→Prop):Prop:=match ao with
 |some (v,h)=>k v h
 |none=>False
@[simp] theorem arh (v:V) (h:Lo) (k:V→Lo→Prop):xZ (some (v,h)) k=k v h:=rfl
def kA(t:Nat→V):Option (Nat × Bool)→Option Bool
 |none=>some true
 |some (s,q)=>match t s with
  | .bool b=>some (b==q)
  | .bW []=>some false
  |_=>none
def kV(P:Program)(x:km)(t:Nat→V)(h:Lo)(k:V→Lo→Prop):Prop:=match x with
 | .op ao=>xZ (cQ ao t h) k
 | .call f args=>kl P f (args.map (·.get t)) h k
 | .ry mD args=>match mD.get t with
  | .fn f fz=>qz P f=true∧kl P f (args.map (·.get t)++fz) h k
  | .eD f fz=>qz P f=true∧kl P f (fz++args.map (·.get t)) h k
  |_=>False
 | .tU x=>match A3 h (x.get t) with
  |some outs=>∀p,p∈outs→k p.1 p.2
  |none=>False
 | .bad=>False
def oh(g:ga)(t:Nat→V)(h:Lo):Option V:=match kA t g.guard with
 |some true=>match g.act with
  | .op ao=>(cQ ao t h).map (·.1)
  |_=>none
 |some false=>some (.bW [])
 |none=>none
def qA(g:ga)(t:Nat→V)(h:Lo):Prop:=match g.dst with
 |some d=>oh g t h=some (t d)
 |none=>False
def pU(gs:List ga)(t:Nat→V)(h:Lo)(K:Prop):Prop:=match gs with
 | []=>K
 |g::gs=>qA g t h∧pU gs t h K
def gX(P:Program)(Q:ia):List hr→(Nat→V)→Lo→Prop
 | [],t,h=>Q .normal t h
 |i::rest,t,h=>match kA t i.guard with
  |some true=>kV P i.act t h fun v aa=>pU i.da (g5 t i.dst v) aa (gX P Q rest (g5 t i.dst v) aa)
  |some false=>pU i.da (g5 t i.dst (.bW [])) h (gX P Q rest (g5 t i.dst (.bW [])) h)
  |none=>False
def D7(next:(Nat→V)→Lo→Prop)(Q:ia):ia
 | .normal,t,h=>next t h
 |e,t,h=>Q e t h
def D8(id:Nat)(Q:ia):ia
 | .exit o,t,h=>if o=id then Q .normal t h else Q (.exit o) t h
 |e,t,h=>Q e t h
def kB(P:Program):js→ia→(Nat→V)→Lo→Prop
 | .skip,Q,t,h=>Q .normal t h
 | .mc l,Q,t,h=>gX P Q l t h
 | .draw ls,Q,t,h=>∀l,l∈ls→gX P Q l t h
 | .seq x y,Q,t,h=>kB P x (D7 (fun t h=>kB P y Q t h) Q) t h
 | .cond c x y,Q,t,h=>match c.get t with
  | .bool true=>kB P x Q t h
  | .bool false=>kB P y Q t h
  |_=>False
 | .block id x,Q,t,h=>kB P x (D8 id Q) t h
 | .loop x,Q,t,h=>∃av:Nat→(Nat→V)→Lo→Prop,(∃m,av m t h)∧∀m t h,av m t h→kB P x (D7 (fun bR aa=>∃cC,cC<m∧av cC bR aa) Q) t h
 | .exit id,Q,t,h=>Q (.exit id) t h
 | .ret,Q,t,h=>Q .ret t h
def x0(P:Program)(f:FuncId):Nat:=match P.funcs[f]? with
 |some fn=>if fn.body.isNone&&fn.origin== "" then
   (if fn.name= "internal/bytealg.Compare" then 1 else if fn.name= "internal/bytealg.IndexByteString"∨fn.name= "internal/bytealg.IndexByte" then 2 else if fn.name= "internal/bytealg.Count"∨fn.name= "internal/bytealg.CountString" then 3 else 0) else 0
 |none=>0
def J6(n:Nat)(k:Nat)(xs:List Operand):Option km:=match k,xs with
 |1,[x,y]=>match fN n x,fN n y with
  |some x,some y=>some (.op (.vE x y))
  |_,_=>none
 |2,[x,y]=>match fN n x,fN n y with
  |some x,some y=>some (.op (.sw x y))
  |_,_=>none
 |3,[x,y]=>match fN n x,fN n y with
  |some x,some y=>some (.op (.vF x y))
  |_,_=>none
 |_,_=>none
def J7(P:Program)(n:Nat)(ao:Op):Option km:=match ao with
 | .call {callee:= .value (.func f),args,argTypes:=_}=>if qz P f then(fK (fN n) args.toList).map (.call f) else J6 n (x0 P f) args.toList
 | .call {callee:= .value (.tmp i),args,argTypes:=_}=>if i<n then(fK (fN n) args.toList).map (.ry (.t i)) else none
 | .next x false=>(fN n x).map .tU
 |ao=>(fm P n ao).map .op
def J8(n:Nat)(ops:Array Oper):Option (Nat × Bool)→Option (Option (Nat × Bool))
 |none=>some none
 |some (o,q)=>match(ops[o]?).bind (·.dst) with
  |some s=>if s<n then some (some (s,q)) else none
  |none=>none
def PG(P:Program)(n:Nat)(ao:Op):km:=(J7 P n ao).getD .bad
def vI(P:Program)(n:Nat)(ops:Array Oper)(ao:Oper):Option ga:=(J8 n ops ao.guard).map fun g=>⟨ao.dst,g,PG P n ao.op⟩
def nM(P:Program)(n:Nat)(ops:Array Oper):List Nat→Option (List hr)
 | []=>some []
 |i::rest=>match ops[i]? with
  |none=>none
  |some ao=>match vI P n ops ao,nM P n ops rest with
   |some g,some l=>some (⟨g.dst,g.guard,g.act,[]⟩::l)
   |_,_=>none
def vJ(m:Region.Mode)(ops:Array Oper):Nat→Array Bool→List Nat→List (List Nat)
 |0,_,acc=> [acc.reverse]
 |fuel+1,dJ,acc=>
  let rs:=(List.range ops.size).filter fun i=>
   !dJ.getD i true&&((ops[i]?).map (·.after.all fun e=> !Region.binds m e||dJ.getD e.on false)).getD false
  if rs.isEmpty then [acc.reverse] else rs.flatMap fun i=>vJ m ops fuel (dJ.setIfInBounds i true) (i::acc)
theorem D9(m:Region.Mode)(ops:Array Oper):∀(fuel t:Nat) (dJ:Array Bool) (acc:List Nat),Region.linearise.go m ops fuel t dJ acc∈vJ m ops fuel dJ acc
 |0,t,dJ,acc=>by simp[Region.linearise.go,vJ]
 |fuel+1,t,dJ,acc=>by
  simp only[Region.linearise.go,vJ]
  generalize PH:((List.range ops.size).filter fun i=> !dJ.getD i true&&((ops[i]?).map (·.after.all fun e=> !Region.binds m e||dJ.getD e.on false)).getD false)=rs
  cases rs with
  |nil=>simp
  |cons r rs=>
   have ax:t % (r::rs).length<(r::rs).length:=Nat.mod_lt _ (by simp)
   simp only[List.isEmpty_cons,Bool.false_eq_true,if_false,List.getElem?_eq_getElem ax]
   exact List.mem_flatMap.2 ⟨_,List.getElem_mem ax,D9 m ops fuel _ _ _⟩
def J9(P:Program)(ops:Array Oper):List (List Nat):=
 let z:=Array.replicate ops.size false
 if P.follows .mixedOrders|| !Region.departs ops then vJ .any ops ops.size z []
 else vJ .text ops ops.size z []++vJ .gc ops ops.size z []
theorem Zm(P:Program)(ops:Array Oper)(t:Nat):Region.schedule (P.follows .mixedOrders) ops t∈J9 P ops:=by
 unfold Region.schedule J9
 split
 ·rename_i bm
  simp only[bm,if_true]
  exact D9 _ _ _ _ _ _
 ·rename_i bm
  simp only[bm]
  refine List.mem_append.2 ?_
  split
  ·exact .inl (D9 _ _ _ _ _ _)
  ·exact .inr (D9 _ _ _ _ _ _)
def up(n:Nat)(Q:ia)(L:Loc)(w:World):Exit→Act→World→Prop:=fun e eK a2=>
 ∃x bR aa cZ,e=x.up∧Q x bR aa∧fA cZ a2 n bR eK.tmps∧eK.defers=[]∧cw cZ aa a2∧Fr (Own L) w a2∧Ext L w cZ
theorem x1{n:Nat}{Q:ia}{L tF:Loc}{w pG:World}(cN:Fr (Own L) w pG)(ex:Ext L w tF){e:Exit}{a:Act}{a2:World}(u:up n Q tF pG e a a2):up n Q L w e a a2:=by
 obtain⟨x,bR,aa,cZ,R,ae,aQ,bo,bI,cR,eF⟩:=u
 exact⟨x,bR,aa,cZ,R,ae,aQ,bo,bI,cN.trans ex cR,ex.trans eF cN.size⟩
theorem J_{L:Loc}{w:World}{n:Nat}{t:Nat→V}{a:Act}(r:fA L w n t a.tmps){xs:Array Operand}{a_:List bJ}(h:fK (fN n) xs.toList=some a_):lO L w (a_.map (·.get t)) (xs.map a.eval):=by
 obtain⟨aX,aY⟩:=xY r h
 have:xs.toList.toArray.map a.eval=xs.map a.eval:=by simp
 rw[this] at aX aY
 exact⟨aX,aY⟩
theorem lO.append{L:Loc}{w:World}{us ak:Lv}{xs a_:Array Value}(au:lO L w us xs)(bT:lO L w ak a_):lO L w (us++ak) (xs++a_):=by
 refine⟨by simp[au.1,bT.1],fun k v aH=> ?_⟩
 rw[Array.getD_eq_getD_getElem?,Array.getElem?_append]
 rw[List.getElem?_append] at aH
 rw[au.1]
 split at aH
 ·rename_i q;rw[if_pos q,←Array.getD_eq_getD_getElem?];exact au.2 k v aH
 ·rename_i q;rw[if_neg q,←Array.getD_eq_getD_getElem?];exact bT.2 _ v aH
theorem Zn(a:Act)(dst:Option Tmp)(v:Value):(a.put dst v).defers=a.defers:=by cases dst<;>rfl
theorem fA.put{L:Loc}{w:World}{n:Nat}{t:Nat→V}{a:Act}(r:fA L w n t a.tmps){dst:Option Nat}{v:V}{x:Value}(bg:bM L w v x):fA L w n (g5 t dst v) (a.put dst x).tmps:=by
 cases dst with
 |none=>exact r
 |some d=>exact fA.pI r bg
theorem PI{L:Loc}{w:World}{n:Nat}{t:Nat→V}{a:Act}(r:fA L w n t a.tmps){ops:Array Oper}{ao:Oper}{g:Option (Nat × Bool)}(dt:J8 n ops ao.guard=some g){b:Bool}(hw:kA t g=some b):
  Region.wanted ao (yielded ops a.tmps)=b:=by
 unfold J8 at dt
 unfold Region.wanted
 split at dt
 ·injection dt with dt;subst dt
  simp only[kA,Option.some.injEq] at hw
  subst hw
  rename_i bm
  rw[bm]
 ·rename_i o q bm
  rw[bm]
  split at dt
  ·rename_i s a6
   split at dt
   ·rename_i PJ
    injection dt with dt;subst dt
    have rs:=r.2 s PJ
    have lM:s<a.tmps.size:=by rw[r.1];exact PJ
    have bT:yielded ops a.tmps o=match a.tmps.getD s undef with| .bool b=>some b|_=>none:=by
     unfold yielded
     rw[a6]
     simp only[Option.bind_some,Array.getElem?_eq_getElem lM]
     have:a.tmps.getD s undef=a.tmps[s]:=by simp[Array.getD,lM]
     rw[this]
     cases a.tmps[s]<;>rfl
    simp only[bT]
    simp only[kA] at hw
    split at hw
    ·rename_i c2 aF
     injection hw with hw;subst hw
     rw[aF] at rs
     generalize a.tmps.getD s undef=z at rs
     cases rs
     cases c2<;>cases q<;>rfl
    ·rename_i aF
     injection hw with hw;subst hw
     rw[aF] at rs
     generalize a.tmps.getD s undef=z at rs
     cases rs with
     |bW ak R ae=>cases q<;>rfl
    ·cases hw
   ·cases dt
  ·cases dt
theorem Zo{fn:Func}(R:fn.name= "internal/bytealg.Compare")(ae:fn.origin= ""):Extern.find fn=some Extern.BytealgCompare.compare∧Extern.findNext fn=none:=by
 unfold Extern.find Extern.findNext
 simp only[R,ae]
 have b5:Extern.allGenericRows.lookup "internal/bytealg.Compare"=none:=by kernel_rfl
 have cI:Extern.allTypedRows.lookup "internal/bytealg.Compare"=none:=by kernel_rfl
 have fo:Extern.allRows.lookup "internal/bytealg.Compare"=some Extern.BytealgCompare.compare:=by kernel_rfl
 have gC:Extern.allNextRows.lookup "internal/bytealg.Compare"=none:=by kernel_rfl
 have gb:Extern.allNextRows.lookup ""=none:=by kernel_rfl
 rw[b5,cI,fo,gC,gb]
 exact⟨rfl,rfl⟩
theorem Zp{fn:Func}(R:fn.name= "internal/bytealg.IndexByteString"∨fn.name= "internal/bytealg.IndexByte")(ae:fn.origin= ""):Extern.find fn=some Extern.BytealgIndexByte.indexByte∧Extern.findNext fn=none:=by
 have gb:Extern.allNextRows.lookup ""=none:=by kernel_rfl
 rcases R with R|R
 ·have b5:Extern.allGenericRows.lookup "internal/bytealg.IndexByteString"=none:=by kernel_rfl
  have cI:Extern.allTypedRows.lookup "internal/bytealg.IndexByteString"=none:=by kernel_rfl
  have fo:Extern.allRows.lookup "internal/bytealg.IndexByteString"=some Extern.BytealgIndexByte.indexByte:=by kernel_rfl
  have gC:Extern.allNextRows.lookup "internal/bytealg.IndexByteString"=none:=by kernel_rfl
  unfold Extern.find Extern.findNext
  simp only[R,ae]
  rw[b5,cI,fo,gC,gb]
  exact⟨rfl,rfl⟩
 ·have b5:Extern.allGenericRows.lookup "internal/bytealg.IndexByte"=none:=by kernel_rfl
  have cI:Extern.allTypedRows.lookup "internal/bytealg.IndexByte"=none:=by kernel_rfl
  have fo:Extern.allRows.lookup "internal/bytealg.IndexByte"=some Extern.BytealgIndexByte.indexByte:=by kernel_rfl
  have gC:Extern.allNextRows.lookup "internal/bytealg.IndexByte"=none:=by kernel_rfl
  unfold Extern.find Extern.findNext
  simp only[R,ae]
  rw[b5,cI,fo,gC,gb]
  exact⟨rfl,rfl⟩
theorem Zq{fn:Func}(R:fn.name= "internal/bytealg.Count"∨fn.name= "internal/bytealg.CountString")(ae:fn.origin= ""):Extern.find fn=some Extern.BytealgCount.count∧Extern.findNext fn=none:=by
 have gb:Extern.allNextRows.lookup ""=none:=by kernel_rfl
 rcases R with R|R
 ·have b5:Extern.allGenericRows.lookup "internal/bytealg.Count"=none:=by kernel_rfl
  have cI:Extern.allTypedRows.lookup "internal/bytealg.Count"=none:=by kernel_rfl
  have fo:Extern.allRows.lookup "internal/bytealg.Count"=some Extern.BytealgCount.count:=by kernel_rfl
  have gC:Extern.allNextRows.lookup "internal/bytealg.Count"=none:=by kernel_rfl
  unfold Extern.find Extern.findNext
  simp only[R,ae]
  rw[b5,cI,fo,gC,gb]
  exact⟨rfl,rfl⟩
 ·have b5:Extern.allGenericRows.lookup "internal/bytealg.CountString"=none:=by kernel_rfl
  have cI:Extern.allTypedRows.lookup "internal/bytealg.CountString"=none:=by kernel_rfl
  have fo:Extern.allRows.lookup "internal/bytealg.CountString"=some Extern.BytealgCount.count:=by kernel_rfl
  have gC:Extern.allNextRows.lookup "internal/bytealg.CountString"=none:=by kernel_rfl
  unfold Extern.find Extern.findNext
  simp only[R,ae]
  rw[b5,cI,fo,gC,gb]
  exact⟨rfl,rfl⟩
theorem Ka{P:Program}{f:FuncId}{args:Array Value}{w:World}:(x0 P f=1→(callFunc f args).run P w=((Extern.BytealgCompare.compare args).run P w).andThen fun v a2=> .ok (.value v) a2)∧
  (x0 P f=2→(callFunc f args).run P w=((Extern.BytealgIndexByte.indexByte args).run P w).andThen fun v a2=> .ok (.value v) a2)∧
  (x0 P f=3→(callFunc f args).run P w=((Extern.BytealgCount.count args).run P w).andThen fun v a2=> .ok (.value v) a2):=by
 unfold x0
 cases aS:P.funcs[f]? with
 |none=>simp
 |some fn=>
  simp only
  split
  ·rename_i aF
   simp only[Bool.and_eq_true,beq_iff_eq] at aF
   split
   ·rename_i bd
    obtain⟨aX,aY⟩:=Zo bd aF.2
    exact⟨fun _=>run_callFunc_extern aS (by rw[bd];rfl) aF.1 aY aX args w,fun q=>by simp at q,fun q=>by simp at q⟩
   ·split
    ·rename_i bd
     obtain⟨aX,aY⟩:=Zp bd aF.2
     exact⟨fun q=>by simp at q,fun _=>run_callFunc_extern aS (by rcases bd with bd|bd<;>rw[bd]<;>rfl) aF.1 aY aX args w,fun q=>by simp at q⟩
    ·split
     ·rename_i bd
      obtain⟨aX,aY⟩:=Zq bd aF.2
      exact⟨fun q=>by simp at q,fun q=>by simp at q,fun _=>run_callFunc_extern aS (by rcases bd with bd|bd<;>rw[bd]<;>rfl) aF.1 aY aX args w⟩
     ·exact⟨fun q=>by simp at q,fun q=>by simp at q,fun q=>by simp at q⟩
  ·exact⟨fun q=>by simp at q,fun q=>by simp at q,fun q=>by simp at q⟩
theorem Zr{P:Program}{L:Loc}{h:Lo}{w:World}(H:cw L h w){n:Nat}{t:Nat→V}{a:Act}(r:fA L w n t a.tmps){f:FuncId}{xs:List Operand}{x:km}(an:J6 n (x0 P f) xs=some x):
  ∃dg,x= .op dg∧∀v aa,cQ dg t h=some (v,aa)→∃y,(callFunc f (xs.map a.eval).toArray).run P w= .ok (.value y) w∧bM L w v y∧aa=h:=by
 unfold J6 at an
 split at an
 ·rename_i x y aH
  split at an
  ·rename_i iI o2 R ae
   injection an with an;subst an
   refine⟨_,rfl,fun v aa he=> ?_⟩
   simp only[cQ] at he
   split at he
   ·rename_i l m aE aR
    injection he with he;injection he with aV bb;subst aV;subst bb
    refine⟨_, ?_, .int _ _,rfl⟩
    rw[Ka.1 aH]
    have:=Yr (P:=P) H (fV r R) (fV r ae) aE aR
    simp only[List.map_cons,List.map_nil]
    rw[this];rfl
   ·cases he
  ·cases an
 ·rename_i x y aH
  split at an
  ·rename_i iI o2 R ae
   injection an with an;subst an
   refine⟨_,rfl,fun v aa he=> ?_⟩
   simp only[cQ] at he
   split at he
   ·rename_i l c aE aR
    injection he with he;injection he with aV bb;subst aV;subst bb
    refine⟨_, ?_, .int _ _,rfl⟩
    rw[Ka.2.1 aH]
    have bf:=fV r ae
    rw[aR] at bf
    have bb:=bf.vz
    have:=Ys (P:=P) (c:=c) H (fV r R) aE
    simp only[List.map_cons,List.map_nil]
    rw[bb,this];rfl
   ·cases he
  ·cases an
 ·rename_i x y aH
  split at an
  ·rename_i iI o2 R ae
   injection an with an;subst an
   refine⟨_,rfl,fun v aa he=> ?_⟩
   simp only[cQ] at he
   split at he
   ·rename_i l c aE aR
    injection he with he;injection he with aV bb;subst aV;subst bb
    refine⟨_, ?_, .int _ _,rfl⟩
    rw[Ka.2.2 aH]
    have bf:=fV r ae
    rw[aR] at bf
    have bb:=bf.vz
    have:=Yt (P:=P) (c:=c) H (fV r R) aE
    simp only[List.map_cons,List.map_nil]
    rw[bb,this];rfl
   ·cases he
  ·cases an
 ·cases an
theorem A7{P:Program}{n:Nat}{Q:ia}{ops:Array Oper}:∀(is:List Nat) (l:List hr),nM P n ops is=some l→∀(t:Nat→V) (h:Lo),gX P Q l t h→
  ∀L w a,fA L w n t a.tmps→a.defers=[]→cw L h w→∀x2:Exit→Act→World→Prop,(∀e eK a2,up n Q L w e eK a2→x2 e eK a2)→wpOps P ops x2 is a w
 | [],l,an,t,h,bm,L,w,a,r,bj,H,x2,Kb=>by
  simp[nM] at an;subst an
  exact Kb _ _ _ ⟨.normal,t,h,L,rfl,bm,r,bj,H,Fr.refl _ _,Ext.refl _ _⟩
 |i::is,l,an,t,h,bm,L,w,a,r,bj,H,x2,Kb=>by
  simp only[nM] at an
  split at an
  ·cases an
  ·rename_i ao cj
   split at an
   ·rename_i D_ ho sB ax
    injection an with an;subst an
    simp only[vI,Option.map_eq_some_iff] at sB
    obtain⟨g,dt,rfl⟩:=sB
    simp only[wpOps,cj]
    simp only[gX,pU] at bm
    have next:∀{v:V} {aa:Lo} {x:Value} {a2:World} {cZ:Loc},gX P Q ho (g5 t ao.dst v) aa→bM cZ a2 v x→cw cZ aa a2→Fr (Own L) w a2→Ext L w cZ→
      wpOps P ops x2 is (a.put ao.dst x) a2:=by
     intro v aa x a2 cZ aH bc nd aS he
     exact A7 is ho ax _ aa aH cZ a2 (a.put ao.dst x) (fA.put (r.step H aS he) bc) (by rw[Zn];exact bj) nd x2 (fun e eK ari u=>Kb _ _ _ (x1 aS he u))
    split at bm
    ·rename_i hw
     rw[if_pos (PI r dt hw)]
     refine .inl ?_
     unfold Oper.wp
     obtain⟨dst,op,ty,pos,after,guard⟩:=ao
     simp only[PG] at bm
     cases au:J7 P n op with
     |none=>rw[au] at bm;exact bm.elim
     |some x=>
     rw[au] at bm
     simp only[Option.getD_some] at bm
     unfold J7 at au
     split at au
     ·rename_i f args A8
      split at au
      ·rename_i o3
       simp only[Option.map_eq_some_iff] at au
       obtain⟨a_,R,rfl⟩:=au
       simp only[kV] at bm
       rw[execOp_call_go,J5 o3,Oper.upon_enter]
       refine(bm L w _ ?_ H).mono ?_
       ·have:=J_ r R
        simpa using this
       ·rintro e a2 ⟨x,v,aa,cZ,rfl,aH,bc,nd,aS,he⟩
        exact next aH bc nd aS he
      ·obtain⟨dg,rfl,g⟩:=Zr H r au
       simp only[kV,xZ] at bm
       split at bm
       ·rename_i v aa he
        obtain⟨y,iW,bc,rfl⟩:=g v aa he
        rw[execOp_call_go]
        have:args.toList.map a.eval=(args.map a.eval).toList:=by simp
        rw[this] at iW
        simp only[Array.toArray_toList] at iW
        have aI:(#[]++Array.map a.eval args++ #[]:Array Value)=Array.map a.eval args:=by simp
        rw[aI,iW,Oper.upon_value]
        exact next bm bc H (Fr.refl _ _) (Ext.refl _ _)
       ·exact bm.elim
     ·rename_i k args A8
      split at au
      ·rename_i Zs
       simp only[Option.map_eq_some_iff] at au
       obtain⟨a_,R,rfl⟩:=au
       simp only[kV] at bm
       have x3:=r.2 k Zs
       simp only[bJ.Xk] at bm
       split at bm
       ·rename_i f fz aS
        obtain⟨o3,bm⟩:=bm
        rw[aS] at x3
        have A9:a.eval (.tmp k)=a.tmps.getD k undef:=rfl
        generalize b0:a.tmps.getD k undef=z at x3 A9
        cases x3 with
        |fn ak aX aY=>
         have iW:(execOp a.eval {dst:=dst,op:= .call {callee:= .value (.tmp k),args:=args,argTypes:=A8},type:=ty,pos:=pos,after:=after,guard:=guard}).run P w= .ok (.enter f (args.map a.eval++ak)) w:=by
          have:execOp a.eval {dst:=dst,op:= .call {callee:= .value (.tmp k),args:=args,argTypes:=A8},type:=ty,pos:=pos,after:=after,guard:=guard}=
            (do let d←Deferred.ofValue (a.eval (.tmp k)) (args.map a.eval);invoke d.target d.args):=rfl
          rw[this,A9]
          simp only[Deferred.ofValue,Sem.run_bind,Sem.run_pure,Result.andThen_ok,invoke]
          rw[J5 o3]
          simp
         rw[iW,Oper.upon_enter]
         refine(bm L w _ ?_ H).mono ?_
         ·exact(J_ r R).append ⟨aX,aY⟩
         ·rintro e a2 ⟨x,v,aa,cZ,rfl,aH,bc,nd,aS,he⟩
          exact next aH bc nd aS he
       ·rename_i f fz aS
        obtain⟨o3,bm⟩:=bm
        rw[aS] at x3
        have A9:a.eval (.tmp k)=a.tmps.getD k undef:=rfl
        generalize b0:a.tmps.getD k undef=z at x3 A9
        cases x3 with
        |eD ak aX aY=>
         have iW:(execOp a.eval {dst:=dst,op:= .call {callee:= .value (.tmp k),args:=args,argTypes:=A8},type:=ty,pos:=pos,after:=after,guard:=guard}).run P w= .ok (.enter f (ak++args.map a.eval)) w:=by
          have:execOp a.eval {dst:=dst,op:= .call {callee:= .value (.tmp k),args:=args,argTypes:=A8},type:=ty,pos:=pos,after:=after,guard:=guard}=
            (do let d←Deferred.ofValue (a.eval (.tmp k)) (args.map a.eval);invoke d.target d.args):=rfl
          rw[this,A9]
          simp only[Deferred.ofValue,Sem.run_bind,Sem.run_pure,Result.andThen_ok,invoke]
          rw[J5 o3]
          simp
         rw[iW,Oper.upon_enter]
         refine(bm L w _ ?_ H).mono ?_
         ·exact lO.append ⟨aX,aY⟩ (J_ r R)
         ·rintro e a2 ⟨x,v,aa,cZ,rfl,aH,bc,nd,aS,he⟩
          exact next aH bc nd aS he
       ·exact bm.elim
      ·cases au
     ·rename_i x4
      simp only[Option.map_eq_some_iff] at au
      obtain⟨e,R,rfl⟩:=au
      simp only[kV] at bm
      split at bm
      ·rename_i outs he
       obtain⟨p,hp,z,a2,cZ,aX,aY,cU,h_,ma⟩:=Yy (P:=P) (ty:=ty) H (fV r R) he
       have iW:(execOp a.eval ⟨dst, .next x4 false,ty,pos,after,guard⟩).run P w= .ok (.value z) a2:=by
        have:execOp a.eval ⟨dst, .next x4 false,ty,pos,after,guard⟩=(do pure (.value (←Instr.next (a.eval x4) false ty))):=rfl
        rw[this]
        simp[aX]
       rw[iW,Oper.upon_value]
       exact next (bm p hp) aY cU h_ ma
      ·exact bm.elim
     ·simp only[Option.map_eq_some_iff] at au
      obtain⟨dg,R,rfl⟩:=au
      simp only[kV,xZ] at bm
      split at bm
      ·rename_i v aa he
       obtain⟨x,a2,cZ,iW,bc,nd,aS,hex⟩:=Zl H r (ao:=⟨dst,op,ty,pos,after,guard⟩) R he
       rcases iW with iW|⟨iW,rfl⟩
       ·rw[iW,Oper.upon_value];exact next bm bc nd aS hex
       ·rw[iW,Oper.upon_skip];exact next bm bc nd aS hex
      ·exact bm.elim
    ·rename_i hw
     rw[if_neg (by rw[PI r dt hw];simp)]
     exact next bm JW H (Fr.refl _ _) (Ext.refl _ _)
    ·exact bm.elim
   ·cases an
def nf(t bR:Nat→V)(l:List Nat):Prop:=∀s,s∈l→t s=bR s
theorem vK{t bR:Nat→V}{a b:List Nat}:nf t bR (a++b)↔nf t bR a∧nf t bR b:=
 ⟨fun h=>⟨fun s a6=>h s (List.mem_append.2 (.inl a6)),fun s a6=>h s (List.mem_append.2 (.inr a6))⟩,fun h s a6=>(List.mem_append.1 a6).elim (h.1 s) (h.2 s)⟩
def bJ.rd:bJ→List Nat
 | .t i=> [i]
 | .c _=> []
def qB:List bJ→List Nat
 | []=> []
 |x::xs=>x.rd++qB xs
def tV:Option bJ→List Nat
 |none=> []
 |some x=>x.rd
theorem bJ.get_congr{t bR:Nat→V}{x:bJ}(h:nf t bR x.rd):x.get t=x.get bR:=by
 cases x with
 |t i=>exact h i (by simp[bJ.rd])
 |c v=>rfl
theorem x5{t bR:Nat→V}:∀{xs:List bJ},nf t bR (qB xs)→xs.map (·.get t)=xs.map (·.get bR)
 | [],_=>rfl
 |x::xs,h=>by
  obtain⟨R,ae⟩:=vK.1 h
  simp only[List.map_cons]
  rw[bJ.get_congr R,x5 ae]
theorem PK{t bR:Nat→V}{x:Option bJ}(h:nf t bR (tV x)):x.map (·.get t)=x.map (·.get bR):=by
 cases x with
 |none=>rfl
 |some x=>simp only[Option.map_some];rw[bJ.get_congr h]
theorem PL{t bR:Nat→V}:∀{xs:List (Nat × Nat × bJ)},nf t bR (qB (xs.map (·.2.2)))→xs.map (fun p=>(p.1,p.2.1,p.2.2.get t))=xs.map (fun p=>(p.1,p.2.1,p.2.2.get bR))
 | [],_=>rfl
 |x::xs,h=>by
  obtain⟨R,ae⟩:=vK.1 h
  simp only[List.map_cons]
  rw[bJ.get_congr R,PL ae]
theorem PM{t bR:Nat→V}:∀{xs:List (Nat × bJ)},nf t bR (qB (xs.map (·.2)))→xs.map (fun p=>(p.1,p.2.get t))=xs.map (fun p=>(p.1,p.2.get bR))
 | [],_=>rfl
 |x::xs,h=>by
  obtain⟨R,ae⟩:=vK.1 h
  simp only[List.map_cons]
  rw[bJ.get_congr R,PM ae]
def fF.rd:fF→List Nat
 | .rv x=>x.rd
 | .pick c a b=>c.rd++(a.rd++b.rd)
 | .alloc _ _=> []
 | .box _ x=>x.rd
 | .build _ ah=>qB (ah.map (·.2.2))
 | .dN _ _ _ ah=>qB (ah.map (·.2))
 | .ag a=>a.rd
 | .bp _ a=>a.rd
 | .store _ a x=>a.rd++x.rd
 | .bz x=>x.rd
 | .bin _ x y=>x.rd++y.rd
 | .eq _ _ x y=>x.rd++y.rd
 | .un _ x=>x.rd
 | .toInt _ x=>x.rd
 | .JQ x=>x.rd
 | .toStr x=>x.rd
 | .O1 x=>x.rd
 | .vA _ cs=>qB cs
 | .O2 _ _ l c=>l.rd++c.rd
 | .kU x et aw=>x.rd++(tV et++tV aw)
 | .JR _ x et aw jZ=>x.rd++(tV et++(tV aw++tV jZ))
 | .JS _ _ x et aw=>x.rd++(tV et++tV aw)
 | .af _ x=>x.rd
 | .JT _ x=>x.rd
 | .JU _ _ x=>x.rd
 | .JV _ _ x i=>x.rd++i.rd
 | .cH _ x i=>x.rd++i.rd
 | .mC x i=>x.rd++i.rd
 | .ext _ x=>x.rd
 | .vB x=>x.rd
 | .cm x=>x.rd
 | .app _ _ x y=>x.rd++y.rd
 | .copy _ x y=>x.rd++y.rd
 | .tR _ x y=>x.rd++y.rd
 | .vC x a_=>x.rd++qB a_
 | .vD _ cs=>qB cs
 | .O3=> []
 | .DU x=>x.rd
 | .lookup _ _ _ m k=>m.rd++k.rd
 | .O5 _ m k v=>m.rd++(k.rd++v.rd)
 | .delete _ m k=>m.rd++k.rd
 | .O6 _ _ _ x n=>x.rd++n.rd
 | .o1 x=>x.rd
 | .O7 x=>x.rd
 | .og x=>x.rd
 | .X9 _ _ _ x i=>x.rd++i.rd
 | .X_ x=>x.rd
 | .O8 x=>x.rd
 | .Ya x=>x.rd
 | .vE x y=>x.rd++y.rd
 | .sw x y=>x.rd++y.rd
 | .vF x y=>x.rd++y.rd
 | .O9 _ _ x=>x.rd
 | .entry x=>x.rd
theorem Kc{t bR:Nat→V}{ao:fF}(g:nf t bR ao.rd)(h:Lo):cQ ao t h=cQ ao bR h:=by
 cases ao<;>simp only[fF.rd,vK] at g
 case rv x=>simp only[cQ,bJ.get_congr g]
 case pick c a b=>simp only[cQ,bJ.get_congr g.1,bJ.get_congr g.2.1,bJ.get_congr g.2.2]
 case alloc=>rfl
 case box x=>simp only[cQ,bJ.get_congr g]
 case build z ah=>simp only[cQ,PL g]
 case dN az z len ah=>simp only[cQ,PM g]
 case ag x=>simp only[cQ,bJ.get_congr g]
 case bp n x=>simp only[cQ,bJ.get_congr g]
 case store n a x=>simp only[cQ,bJ.get_congr g.1,bJ.get_congr g.2]
 case bz x=>simp only[cQ,bJ.get_congr g]
 case bin op x y=>simp only[cQ,bJ.get_congr g.1,bJ.get_congr g.2]
 case eq Kd T x y=>simp only[cQ,bJ.get_congr g.1,bJ.get_congr g.2]
 case un op x=>simp only[cQ,bJ.get_congr g]
 case toInt k x=>simp only[cQ,bJ.get_congr g]
 case toStr x=>simp only[cQ,bJ.get_congr g]
 case vA f cs=>simp only[cQ,x5 g]
 case kU x et aw=>simp only[cQ,bJ.get_congr g.1,PK g.2.1,PK g.2.2]
 case af off x=>simp only[cQ,bJ.get_congr g]
 case cH az x i=>simp only[cQ,bJ.get_congr g.1,bJ.get_congr g.2]
 case mC x i=>simp only[cQ,bJ.get_congr g.1,bJ.get_congr g.2]
 case ext i x=>simp only[cQ,bJ.get_congr g]
 case vB x=>simp only[cQ,bJ.get_congr g]
 case cm x=>simp only[cQ,bJ.get_congr g]
 case app az b x y=>simp only[cQ,bJ.get_congr g.1,bJ.get_congr g.2]
 case tR jZ x y=>simp only[cQ,bJ.get_congr g.1,bJ.get_congr g.2]
 case vC x a_=>simp only[cQ,bJ.get_congr g.1,x5 g.2]
 case vD f cs=>simp only[cQ,x5 g]
 case o1 x=>simp only[cQ,bJ.get_congr g]
 case og x=>simp only[cQ,bJ.get_congr g]
 case vE x y=>simp only[cQ,bJ.get_congr g.1,bJ.get_congr g.2]
 case sw x y=>simp only[cQ,bJ.get_congr g.1,bJ.get_congr g.2]
 case vF x y=>simp only[cQ,bJ.get_congr g.1,bJ.get_congr g.2]
 all_goals rfl
def fF.kind:fF→Nat
 | .rv _| .pick .. | .build .. | .bin .. | .un .. | .toInt .. | .JQ _| .vA .. | .kU .. | .JT .. | .JU .. | .mC .. | .ext .. | .vB _| .tR .. | .vC .. | .vD .. =>0
 | .ag _| .bp .. | .bz _| .eq .. | .toStr _| .JR .. | .JS .. | .af .. | .JV .. | .cH .. | .cm _| .DU _| .lookup .. | .vE .. | .sw .. | .entry .. | .vF .. =>1
 |_=>2
theorem pV{ao:Option V}{h R:Lo}{v:V}(e:(ao.map fun v=>(v,h))=some (v,R)):R=h∧∀ae:Lo,(ao.map fun v=>(v,ae))=some (v,ae):=by
 cases ao with
 |none=>cases e
 |some u=>simp at e;obtain⟨rfl,rfl⟩:=e;exact⟨rfl,fun _=>rfl⟩
theorem PN{ao:fF}(k:ao.kind=0){t:Nat→V}{h R:Lo}{v:V}(e:cQ ao t h=some (v,R)):R=h∧∀ae,cQ ao t ae=some (v,ae):=by
 cases ao<;>simp only[fF.kind] at k<;>first|(cases k;done)|skip
 case rv x=>simp only[cQ,Option.some.injEq,Prod.mk.injEq] at e⊢;exact⟨e.2.symm,fun _=>by simp[e.1]⟩
 case pick c a b=>
  simp only[cQ] at e⊢
  split at e
  ·simp only[Option.some.injEq,Prod.mk.injEq] at e⊢;exact⟨e.2.symm,fun _=>by simp[e.1]⟩
  ·cases e
 case build z ah=>
  simp only[cQ] at e⊢
  cases aS:je z (ah.map fun p=>(p.1,p.2.1,p.2.2.get t)) with
  |none=>rw[aS] at e;cases e
  |some u=>rw[aS] at e;simp at e;obtain⟨rfl,rfl⟩:=e;exact⟨rfl,fun _=>rfl⟩
 case bin op x y=>exact pV e
 case un op x=>exact pV e
 case toInt k x=>
  simp only[cQ] at e⊢
  split at e
  ·simp only[Option.some.injEq,Prod.mk.injEq] at e⊢;exact⟨e.2.symm,fun _=>by simp[e.1]⟩
  ·cases e
 case JQ x=>cases e
 case vA f cs=>simp only[cQ,Option.some.injEq,Prod.mk.injEq] at e⊢;exact⟨e.2.symm,fun _=>by simp[e.1]⟩
 case kU x et aw=>
  simp only[cQ] at e⊢
  split at e
  ·exact pV e
  ·cases e
 case JT off x=>cases e
 case JU off n x=>cases e
 case mC x i=>
  simp only[cQ] at e⊢
  split at e
  ·exact pV e
  ·cases e
 case ext i x=>exact pV e
 case vB x=>
  simp only[cQ] at e⊢
  split at e
  ·simp only[Option.some.injEq,Prod.mk.injEq] at e⊢;exact⟨e.2.symm,fun _=>by simp[e.1]⟩
  ·cases e
 case tR jZ x y=>exact pV e
 case vC x a_=>exact pV e
 case vD f cs=>simp only[cQ,Option.some.injEq,Prod.mk.injEq] at e⊢;exact⟨e.2.symm,fun _=>by simp[e.1]⟩
theorem Zt{ao:fF}(k:ao.kind=1){t:Nat→V}{h R:Lo}{v:V}(e:cQ ao t h=some (v,R)):R=h:=by
 cases ao<;>simp only[fF.kind] at k<;>first|(cases k;done)|skip
 case ag a=>exact(pV e).1
 case bp n a=>exact(pV e).1
 case bz a=>exact(pV e).1
 case eq Kd T x y=>
  simp only[cQ,Option.map_eq_some_iff,Prod.mk.injEq] at e
  obtain⟨_,_,_,rfl⟩:=e;rfl
 case toStr a=>exact(pV e).1
 case JR az x et aw jZ=>cases e
 case JS=>cases e
 case af off x=>
  simp only[cQ] at e
  split at e
  ·split at e
   ·simp at e;exact e.2.symm
   ·cases e
  ·simp at e;exact e.2.symm
  ·cases e
 case JV=>cases e
 case cH=>
  simp only[cQ] at e
  split at e
  ·exact(pV e).1
  ·cases e
 case cm x=>
  simp only[cQ,Option.map_eq_some_iff,Prod.mk.injEq] at e
  obtain⟨_,_,_,rfl⟩:=e;rfl
 case DU x=>cases e
 case lookup=>cases e
 case entry x=>cases e
 case vE x y=>
  simp only[cQ] at e
  split at e
  ·injection e with e;injection e with aV bb;exact bb.symm
  ·cases e
 case sw x y=>
  simp only[cQ] at e
  split at e
  ·injection e with e;injection e with aV bb;exact bb.symm
  ·cases e
 case vF x y=>
  simp only[cQ] at e
  split at e
  ·injection e with e;injection e with aV bb;exact bb.symm
  ·cases e
def km.rd:km→List Nat
 | .op ao=>ao.rd
 | .call _ args=>qB args
 | .ry mD args=>mD.rd++qB args
 | .tU x=>x.rd
 | .bad=> []
def km.kind:km→Nat
 | .op ao=>ao.kind
 |_=>2
def Ke:Option (Nat × Bool)→List Nat
 |none=> []
 |some (s,_)=> [s]
def ga.rd(g:ga):List Nat:=Ke g.guard++g.act.rd
theorem PO{t bR:Nat→V}{g:Option (Nat × Bool)}(h:nf t bR (Ke g)):kA t g=kA bR g:=by
 cases g with
 |none=>rfl
 |some p=>
  obtain⟨s,q⟩:=p
  have:t s=bR s:=h s (by simp[Ke])
  simp only[kA,this]
theorem Ea{t bR:Nat→V}{g:ga}(a:nf t bR g.rd)(h:Lo):oh g t h=oh g bR h:=by
 obtain⟨b5,cI⟩:=vK.1 a
 unfold oh
 rw[PO b5]
 split
 ·split
  ·rename_i ao cj
   rw[cj] at cI
   rw[Kc cI]
  ·rfl
 ·rfl
 ·rfl
theorem Zu{g:ga}(k:g.act.kind=0){t:Nat→V}{h:Lo}{v:V}(e:oh g t h=some v)(ae:Lo):oh g t ae=some v:=by
 unfold oh at e⊢
 split at e
 ·split at e
  ·rename_i ao cj
   rw[cj] at k
   simp only[Option.map_eq_some_iff] at e
   obtain⟨⟨u,R⟩,aV,bb⟩:=e
   try simp only[cj]
   rw[(PN k aV).2 ae]
   exact congrArg some bb
  ·cases e
 ·exact e
 ·cases e
theorem PQ{P:Program}{x:km}{t bR:Nat→V}{h:Lo}{k gu:V→Lo→Prop}(a:nf t bR x.rd)(w:kV P x t h k)(aH:∀v aa,k v aa→gu v aa):kV P x bR h gu:=by
 cases x with
 |op ao=>
  simp only[kV] at w⊢
  rw[←Kc (ao:=ao) a]
  unfold xZ at w⊢
  split at w
  ·exact aH _ _ w
  ·exact w.elim
 |call f args=>
  simp only[kV] at w⊢
  rw[←x5 a]
  exact w.mono aH
 |ry mD args=>
  obtain⟨b5,cI⟩:=vK.1 a
  simp only[kV] at w⊢
  rw[←x5 cI,←bJ.get_congr b5]
  split at w
  ·exact⟨w.1,w.2.mono aH⟩
  ·exact⟨w.1,w.2.mono aH⟩
  ·exact w.elim
 |tU y=>
  simp only[kV] at w⊢
  rw[←bJ.get_congr (x:=y) a]
  split at w
  ·exact fun p hp=>aH _ _ (w p hp)
  ·exact w.elim
 |bad=>exact w.elim
def step(P:Program)(g:ga)(t:Nat→V)(h:Lo)(K:(Nat→V)→Lo→Prop):Prop:=match kA t g.guard with
 |some true=>kV P g.act t h fun v aa=>K (g5 t g.dst v) aa
 |some false=>K (g5 t g.dst (.bW [])) h
 |none=>False
theorem Eb{P:Program}{g:ga}(k:g.act.kind<2){t:Nat→V}{h:Lo}{K:(Nat→V)→Lo→Prop}:step P g t h K↔∃v,oh g t h=some v∧K (g5 t g.dst v) h:=by
 unfold step oh
 cases hw:kA t g.guard with
 |none=>simp
 |some b=>
  cases b with
  |false=>simp
  |true=>
   simp only
   cases bh:g.act with
   |op ao=>
    rw[bh] at k
    simp only[kV,xZ]
    cases he:cQ ao t h with
    |none=>simp
    |some p=>
     obtain⟨v,aa⟩:=p
     have dw:aa=h:=by
      have:ao.kind<2:=k
      rcases Nat.lt_or_ge ao.kind 1 with q|q
      ·exact(PN (by omega) he).1
      ·exact Zt (by omega) he
     subst dw
     simp
   |call f args=>rw[bh] at k;simp[km.kind] at k
   |ry f args=>rw[bh] at k;simp[km.kind] at k
   |tU y=>rw[bh] at k;simp[km.kind] at k
   |bad=>rw[bh] at k;simp[km.kind] at k
def apart(a b:ga):Bool:=match a.dst,b.dst with
 |none,none=>true
 |some d,none=> !b.rd.contains d
 |none,some e=> !a.rd.contains e
 |some d,some e=> !b.rd.contains d&& !a.rd.contains e&&d !=e
theorem Kf{t:Nat→V}{d:Option Nat}{l:List Nat}(h:∀s,d=some s→s∉l)(v:V):nf (g5 t d v) t l:=by
 intro s a6
 cases d with
 |none=>rfl
 |some d=>
  have:s≠d:=fun e=>h d rfl (e▸a6)
  simp[g5,pI,this]
theorem Zv{a b:ga}(h:apart a b=true):∀s,a.dst=some s→s∉b.rd:=by
 intro s a6
 unfold apart at h
 rw[a6] at h
 cases aF:b.dst<;>rw[aF] at h<;>simp at h<;>first|exact h|exact h.1.1
theorem Zw{a b:ga}(h:apart a b=true):apart b a=true:=by
 unfold apart at h⊢
 cases bh:a.dst<;>cases aF:b.dst<;>rw[bh,aF] at h<;>simp_all
 exact fun e=>h.2 e.symm
theorem put_comm{a b:ga}(h:apart a b=true)(t:Nat→V)(u v:V):g5 (g5 t a.dst u) b.dst v=g5 (g5 t b.dst v) a.dst u:=by
 unfold apart at h
 cases bh:a.dst with
 |none=>rfl
 |some d=>cases aF:b.dst with
  |none=>rfl
  |some e=>
   rw[bh,aF] at h
   simp at h
   funext o
   simp only[g5,pI]
   by_cases R:o=d
   ·by_cases ae:o=e
    ·exact absurd (R.symm.trans ae) h.2
    ·simp[R,ae];intro q;exact absurd q h.2
   ·simp[R]
theorem A_{P:Program}{Q:ia}{i:hr}{rest:List hr}{t:Nat→V}{h:Lo}:
  gX P Q (i::rest) t h↔step P ⟨i.dst,i.guard,i.act⟩ t h fun bR aa=>pU i.da bR aa (gX P Q rest bR aa):=by
 first
 |(simp only[gX,step];done)
 |(simp only[gX,step]
   split<;>rename_i hw<;>rw[hw])
theorem x6{gs:List ga}{t:Nat→V}{h:Lo}{K:Prop}:pU gs t h K↔(∀g,g∈gs→qA g t h)∧K:=by
 induction gs with
 |nil=>simp[pU]
 |cons g gs ba=>simp[pU,ba,and_assoc]
theorem Ec{P:Program}{g:ga}{t bR:Nat→V}{h:Lo}{K PR:(Nat→V)→Lo→Prop}(a:nf t bR g.rd)(s:step P g t h K)(aH:∀v aa,K (g5 t g.dst v) aa→PR (g5 bR g.dst v) aa):step P g bR h PR:=by
 obtain⟨b5,cI⟩:=vK.1 a
 unfold step at s⊢
 rw[←PO b5]
 split at s
 ·exact PQ cI s aH
 ·exact aH _ _ s
 ·exact s.elim
def kW(cs:Nat→ga)(da:Nat→List Nat)(i:Nat):hr:=⟨(cs i).dst,(cs i).guard,(cs i).act,(da i).map cs⟩
def Ed(g:ga):Bool:=match g.dst with
 |some d=> !g.rd.contains d
 |none=>true
theorem Kg{a b:ga}(h:apart a b=true)(t:Nat→V)(v:V):nf (g5 t a.dst v) t b.rd:=Kf (fun s a6=>Zv h s a6) v
theorem Zx{t:Nat→V}{d:Nat}{v:V}:g5 t (some d) v d=v:=by simp[g5,pI]
theorem Zy{t:Nat→V}{a:ga}{d:Nat}(h:a.dst≠some d)(v:V):g5 t a.dst v d=t d:=by
 cases bh:a.dst with
 |none=>rfl
 |some e=>simp only[g5,pI];rw[if_neg (fun q=>h (by rw[bh,q]))]
def wr(b r:ga):Bool:=match b.dst with
 |some d=> !r.rd.contains d&&r.dst !=some d
 |none=>true
theorem Zz{b r:ga}(h:wr b r=true):(∀s,b.dst=some s→s∉r.rd)∧∀s,b.dst=some s→r.dst≠some s:=by
 unfold wr at h
 refine⟨fun s a6=> ?_,fun s a6=> ?_⟩<;>rw[a6] at h<;>simp at h
 ·exact h.1
 ·exact h.2
theorem ZA{b r:ga}(aF:wr b r=true){t:Nat→V}{v:V}{h:Lo}(k:qA r (g5 t b.dst v) h):qA r t h:=by
 obtain⟨R,ae⟩:=Zz aF
 unfold qA at k⊢
 cases bj:r.dst with
 |none=>rw[bj] at k;exact k.elim
 |some d=>
  rw[bj] at k
  simp only at k⊢
  rw[Ea (Kf R v)] at k
  rw[Zy (fun q=>ae d q bj)] at k
  exact k
def pW(cs:Nat→ga)(da:Nat→List Nat)(ev:Nat→List Nat)(a i:Nat):Bool:=
 decide ((cs a).act.kind<2)&&apart (cs a) (cs i)&&Ed (cs a)&&(!((cs i).act.kind==2&&(cs a).act.kind==1)||(da i).contains a)&&
  (da i).all fun r=>r==a||(ev r).contains a||wr (cs a) (cs r)
theorem Ee{cs:Nat→ga}{da ev:Nat→List Nat}{a i:Nat}(h:pW cs da ev a i=true):
  (cs a).act.kind<2∧apart (cs a) (cs i)=true∧Ed (cs a)=true∧((cs i).act.kind=2→(cs a).act.kind=1→a∈da i)∧∀r,r∈da i→r=a∨a∈ev r∨wr (cs a) (cs r)=true:=by
 simp only[pW,Bool.and_eq_true,decide_eq_true_eq,Bool.or_eq_true,Bool.not_eq_true',List.all_eq_true,beq_iff_eq,List.contains_eq_mem,Bool.and_eq_false_iff,beq_eq_false_iff_ne] at h
 obtain⟨⟨⟨⟨R,ae⟩,aQ⟩,bo⟩,bI⟩:=h
 refine⟨R,ae,aQ,fun aE aR=> ?_,fun r bc=> ?_⟩
 ·rcases bo with(z|z)|z
  ·exact absurd aE z
  ·exact absurd aR z
  ·exact z
 ·rcases bI r bc with(z|z)|z
  ·exact .inl z
  ·exact .inr (.inl z)
  ·exact .inr (.inr z)
theorem ZB(x:km):x.kind≤2:=by
 cases x with
 |op ao=>cases ao<;>simp[km.kind,fF.kind]
 |_=>simp[km.kind]
theorem move{P:Program}{Q:ia}{cs:Nat→ga}{da:Nat→List Nat}{i:Nat}(ZC:(cs i).act.kind<2→da i=[]):∀(A B:List Nat) (t:Nat→V) (h:Lo),
  (∀a,a∈A→(cs a).act.kind<2∧da a=[]∧apart (cs a) (cs i)=true∧Ed (cs a)=true∧((cs i).act.kind=2→(cs a).act.kind=1→a∈da i))→
  (∀vL b iy,A=vL++b::iy→∀r,r∈da i→r≠b→r∉iy→wr (cs b) (cs r)=true)→A.Nodup→
  gX P Q ((A++i::B).map (kW cs da)) t h→
  step P (cs i) t h fun bR aa=>(∀r,r∈da i→r∉A→qA (cs r) bR aa)∧gX P Q ((A++B).map (kW cs da)) bR aa
 | [],B,t,h,_,_,_,w=>by
  simp only[List.nil_append,List.map_cons] at w
  rw[A_] at w
  refine Ec (fun _ _=>rfl) w (fun v aa k=> ?_)
  obtain⟨ar,aA⟩:=x6.1 k
  exact⟨fun r bc _=>ar _ (List.mem_map.2 ⟨r,bc,rfl⟩),aA⟩
 |a::A,B,t,h,eW,Ba,bd,w=>by
  obtain⟨PS,ZD,Bb,dR,rd⟩:=eW a (by simp)
  simp only[List.cons_append,List.map_cons] at w
  rw[A_] at w
  obtain⟨cJ,aV,e7⟩:=(Eb (g:=cs a) PS).1 w
  have ZE:=x6.1 e7
  have ib:gX P Q ((A++i::B).map (kW cs da)) (g5 t (cs a).dst cJ) h:=ZE.2
  have Bc:=List.nodup_cons.1 bd
  have ba:=move ZC A B (g5 t (cs a).dst cJ) h (fun b aF=>eW b (by simp[aF]))
   (fun vL b iy a6 r bc en Bd=>Ba (a::vL) b iy (by rw[a6];rfl) r bc en Bd) Bc.2 ib
  have bb:∀v,oh (cs a) (g5 t (cs i).dst v) h=some cJ:=fun v=>by
   rw[Ea (Kg (Zw Bb) t v)];exact aV
  have fin:∀v aa,oh (cs a) (g5 t (cs i).dst v) aa=some cJ→gX P Q ((A++B).map (kW cs da)) (g5 (g5 t (cs i).dst v) (cs a).dst cJ) aa→
    gX P Q ((a::A++B).map (kW cs da)) (g5 t (cs i).dst v) aa:=by
   intro v aa e k
   simp only[List.cons_append,List.map_cons]
   rw[A_]
   refine(Eb (g:=cs a) PS).2 ⟨cJ,e, ?_⟩
   show pU ((da a).map cs) _ _ _
   rw[ZD]
   exact k
  have res:∀v aa,(∀r,r∈da i→r∉A→qA (cs r) (g5 (g5 t (cs i).dst v) (cs a).dst cJ) aa)→∀r,r∈da i→r∉a::A→qA (cs r) (g5 t (cs i).dst v) aa:=by
   intro v aa ar r bc ZF
   have Kh:=not_or.1 (fun q=>ZF (List.mem_cons.2 q))
   exact ZA (Ba [] a A rfl r bc Kh.1 Kh.2) (ar r bc Kh.2)
  rcases Nat.lt_or_ge (cs i).act.kind 2 with q|q
  ·obtain⟨Ef,aX,aY,cU⟩:=(Eb q).1 ba
   rw[put_comm Bb] at aY cU
   rw[Ea (Kg Bb t cJ)] at aX
   exact(Eb q).2 ⟨Ef,aX,res Ef h aY,fin Ef h (bb Ef) cU⟩
  ·refine Ec (Kg Bb t cJ) ba (fun v aa k=> ?_)
   obtain⟨ar,aA⟩:=k
   rw[put_comm Bb] at ar aA
   refine⟨res v aa ar,fin v aa ?_ aA⟩
   rcases Nat.lt_or_ge (cs a).act.kind 1 with z|z
   ·exact Zu (by omega) (bb v) aa
   ·have Ki:(cs i).act.kind=2:=by have:=ZB (cs i).act;omega
    have:=ar a (rd Ki (by omega)) Bc.1
    unfold qA at this
    cases bj:(cs a).dst with
    |none=>rw[bj] at this;exact this.elim
    |some d=>
     rw[bj] at this
     simp only[Zx] at this
     have a6:nf (g5 (g5 t (cs i).dst v) (some d) cJ) (g5 t (cs i).dst v) (cs a).rd:=by
      refine Kf (fun s a6=> ?_) cJ
      injection a6 with a6;subst a6
      unfold Ed at dR
      rw[bj] at dR
      simpa using dR
     rw[Ea a6] at this
     exact this
def kC(ops:Array Oper)(i:Nat):List Nat:=match ops[i]? with
 |some ao=>(ao.after.toList.filter (fun e=>Region.binds .any e)).map (·.on)
 |none=> []
def Be(ops:Array Oper)(cs:Nat→ga)(da ev:Nat→List Nat):List Nat→List Nat→Bool
 |_,[]=>true
 |seen,i::rest=> !seen.contains i&&(decide (i<ops.size)&&((kC ops i).all (seen.contains ·)&&((ev i).all (fun o=>seen.contains o&&(kC ops i).any (fun p=>p==o||(ev p).contains o))&&
   (((cs i).act.kind==2||(da i).isEmpty)&&((da i).all (seen.contains ·)&&(seen.all (fun a=>(ev i).contains a||pW cs da ev a i)&&Be ops cs da ev (i::seen) rest))))))
structure Kj(ops:Array Oper)(cs:Nat→ga)(da ev:Nat→List Nat)(before:Nat→Prop)(i:Nat):Prop where
 lt:i<ops.size
 pre:∀p,p∈kC ops i→before p
 mE:∀o,o∈ev i→before o∧∃p,p∈kC ops i∧(p=o∨o∈ev p)
 quiet:(cs i).act.kind<2→da i=[]
 res:∀r,r∈da i→before r
theorem PT{ops:Array Oper}{cs:Nat→ga}{da ev:Nat→List Nat}:∀(C seen:List Nat),Be ops cs da ev seen C=true→
  ∀A i B,C=A++i::B→(i∉A∧i∉seen)∧Kj ops cs da ev (fun o=>o∈A∨o∈seen) i∧∀a,(a∈A∨a∈seen)→a∈ev i∨pW cs da ev a i=true
 | [],seen,h,A,i,B,e=>by cases A<;>simp at e
 |c::C,seen,h,A,i,B,e=>by
  simp only[Be,Bool.and_eq_true,decide_eq_true_eq,Bool.not_eq_true',List.all_eq_true,Bool.or_eq_true,List.contains_eq_mem,decide_eq_false_iff_not,List.any_eq_true,beq_iff_eq,List.isEmpty_iff] at h
  obtain⟨R,ae,aQ,bo,bI,cR,eF,eR⟩:=h
  cases A with
  |nil=>
   simp only[List.nil_append,List.cons.injEq] at e
   obtain⟨rfl,rfl⟩:=e
   refine⟨⟨by simp,R⟩,⟨ae,fun p hp=> .inr (aQ p hp),fun o U=>⟨.inr (bo o U).1, ?_⟩,fun aH=> ?_,fun r bc=> .inr (cR r bc)⟩,fun a bh=> ?_⟩
   ·exact(bo o U).2
   ·rcases bI with q|q
    ·omega
    ·exact q
   ·rcases bh with q|q
    ·simp at q
    ·exact eF a q
  |cons a A=>
   simp only[List.cons_append,List.cons.injEq] at e
   obtain⟨rfl,rfl⟩:=e
   obtain⟨aX,aY,cU⟩:=PT _ (c::seen) eR A i B rfl
   have key:∀o,(o∈A∨o∈c::seen)→(o∈c::A∨o∈seen):=by
    intro o U
    simp only[List.mem_cons] at U⊢
    rcases U with q|q|q
    ·exact .inl (.inr q)
    ·exact .inl (.inl q)
    ·exact .inr q
   have xJ:∀o,(o∈c::A∨o∈seen)→(o∈A∨o∈c::seen):=by
    intro o U
    simp only[List.mem_cons] at U⊢
    rcases U with(q|q)|q
    ·exact .inr (.inl q)
    ·exact .inl q
    ·exact .inr (.inr q)
   refine⟨⟨fun q=> ?_,fun q=>aX.2 (by simp[q])⟩,⟨aY.lt,fun p hp=>key _ (aY.pre p hp),fun o U=>⟨key _ (aY.mE o U).1,(aY.mE o U).2⟩,aY.quiet,fun r bc=>key _ (aY.res r bc)⟩,fun a bh=>cU a (xJ a bh)⟩
   rcases List.mem_cons.1 q with q|q
   ·exact aX.2 (by simp[q])
   ·exact aX.1 q
def lP(m:Region.Mode)(ops:Array Oper):Nat→Nat→Array Bool→List Nat
 |0,_,_=> []
 |fuel+1,t,dJ=>
  let rs:=(List.range ops.size).filter fun i=>
   !dJ.getD i true&&((ops[i]?).map (·.after.all fun e=> !Region.binds m e||dJ.getD e.on false)).getD false
  match rs[t % rs.length]? with
  |some i=>i::lP m ops fuel (t/rs.length) (dJ.setIfInBounds i true)
  |none=> []
theorem go_eq(m:Region.Mode)(ops:Array Oper):∀(fuel t:Nat) (dJ:Array Bool) (acc:List Nat),Region.linearise.go m ops fuel t dJ acc=acc.reverse++lP m ops fuel t dJ
 |0,t,dJ,acc=>by simp[Region.linearise.go,lP]
 |fuel+1,t,dJ,acc=>by
  simp only[Region.linearise.go,lP]
  generalize (List.filter _ (List.range ops.size))=rs
  cases rs[t % rs.length]? with
  |none=>simp
  |some i=>
   simp only
   rw[go_eq m ops fuel]
   simp
theorem Kk{α:Type}{A B iy vM:List α}{o:α}(e:A++B=iy++o::vM):(∃X,A=iy++o::X∧vM=X++B)∨(∃X,B=X++o::vM∧iy=A++X):=by
 rcases List.append_eq_append_iff.1 e with⟨X,R,ae⟩|⟨X,R,ae⟩
 ·exact .inr ⟨X,ae,R⟩
 ·cases X with
  |nil=>simp at R ae;exact .inr ⟨[],by simp[ae],by simp[R]⟩
  |cons x X=>
   simp only[List.cons_append,List.cons.injEq] at ae
   obtain⟨rfl,rfl⟩:=ae
   exact .inl ⟨X,R,rfl⟩
section
variable {P:Program} {Q:ia} {ops:Array Oper} {cs:Nat→ga} {da ev:Nat→List Nat}
def Bf(ops:Array Oper)(cs:Nat→ga)(da ev:Nat→List Nat)(dJ:Nat→Prop)(C:List Nat):Prop:=
 ∀A i B,C=A++i::B→i∉A∧Kj ops cs da ev (fun o=>o∈A∨dJ o) i∧∀a,a∈A→a∈ev i∨pW cs da ev a i=true
theorem Kl{α:Type}:∀{C:List α},(∀A i B,C=A++i::B→i∉A)→C.Nodup
 | [],_=>List.nodup_nil
 |c::C,h=>List.nodup_cons.2 ⟨fun q=>by
   obtain⟨X,Y,e⟩:=List.append_of_mem q
   exact h (c::X) c Y (by rw[e];rfl) (by simp),Kl fun A i B e=>fun q=>h (c::A) i B (by rw[e];rfl) (by simp[q])⟩
theorem Bf.out{dJ qC:Nat→Prop}{A B:List Nat}{i:Nat}(v:Bf ops cs da ev dJ (A++i::B))(ax:∀o,dJ o→qC o)(aw:qC i):Bf ops cs da ev qC (A++B):=by
 intro iy o vM e
 have mk:∀ng vN,A++i::B=ng++o::vN→(∀x,x∈ng→x=i∨x∈iy)→(∀x,x∈iy→x∈ng)→o∉iy∧Kj ops cs da ev (fun k=>k∈iy∨qC k) o∧∀a,a∈iy→a∈ev o∨pW cs da ev a o=true:=by
  intro ng vN cb R ae
  obtain⟨aX,aY,cU⟩:=v ng o vN cb
  have key:∀x,(x∈ng∨dJ x)→(x∈iy∨qC x):=by
   rintro x (q|q)
   ·rcases R x q with rfl|z
    ·exact .inr aw
    ·exact .inl z
   ·exact .inr (ax x q)
  exact⟨fun q=>aX (ae o q),⟨aY.lt,fun p hp=>key p (aY.pre p hp),fun k aH=>⟨key k (aY.mE k aH).1,(aY.mE k aH).2⟩,aY.quiet,fun r bc=>key r (aY.res r bc)⟩,fun a bh=>cU a (ae a bh)⟩
 rcases Kk e with⟨X,R,ae⟩|⟨X,R,ae⟩
 ·subst R ae
  exact mk iy (X++i::B) (by simp) (fun x au=> .inr au) (fun x au=>au)
 ·subst R ae
  exact mk (A++i::X) vM (by simp) (fun x au=>by simp at au⊢;rcases au with q|q|q<;>simp[q]) (fun x au=>by simp at au⊢;rcases au with q|q<;>simp[q])
theorem ZG:∀(fuel gK:Nat) (dJ:Array Bool) (C:List Nat) (t:Nat→V) (h:Lo),C.length≤fuel→dJ.size=ops.size→
  (∀i,i∈C↔i<ops.size∧dJ.getD i false=false)→(∀i,dJ.getD i false=true→∀o,o∈ev i→dJ.getD o false=true)→
  Bf ops cs da ev (fun i=>dJ.getD i false=true) C→gX P Q (C.map (kW cs da)) t h→gX P Q ((lP .any ops fuel gK dJ).map (kW cs fun _=> [])) t h:=by
 intro fuel
 induction fuel with
 |zero=>
  intro gK dJ C t h aS _ _ _ _ w
  cases C with
  |nil=>exact w
  |cons c C=>simp at aS
 |succ fuel ba=>
  intro gK dJ C t h aS lM hC vO v w
  have lk:∀i,i∈((List.range ops.size).filter fun i=>
   !dJ.getD i true&&((ops[i]?).map (·.after.all fun e=> !Region.binds .any e||dJ.getD e.on false)).getD false)↔
    i∈C∧∀p,p∈kC ops i→dJ.getD p false=true:=by
   intro i
   rw[List.mem_filter,List.mem_range,hC]
   constructor
   ·rintro ⟨R,ae⟩
    simp only[Bool.and_eq_true,Bool.not_eq_true'] at ae
    obtain⟨ae,aQ⟩:=ae
    refine⟨⟨R, ?_⟩,fun p hp=> ?_⟩
    ·rw[Array.getD_eq_getD_getElem?,Array.getElem?_eq_getElem (by omega)] at ae⊢
     exact ae
    ·unfold kC at hp
     rw[Array.getElem?_eq_getElem R] at hp aQ
     simp only[List.mem_map,List.mem_filter] at hp
     obtain⟨e,⟨aV,bb⟩,rfl⟩:=hp
     simp only[Option.map_some,Option.getD_some,Array.all_eq_true_iff_forall_mem,Bool.or_eq_true,Bool.not_eq_true'] at aQ
     rcases aQ e (by simpa using aV) with q|q
     ·rw[bb] at q;cases q
     ·exact q
   ·rintro ⟨⟨R,ae⟩,aQ⟩
    refine⟨R, ?_⟩
    simp only[Bool.and_eq_true,Bool.not_eq_true']
    refine⟨?_, ?_⟩
    ·rw[Array.getD_eq_getD_getElem?,Array.getElem?_eq_getElem (by omega)] at ae⊢
     exact ae
    ·rw[Array.getElem?_eq_getElem R]
     simp only[Option.map_some,Option.getD_some,Array.all_eq_true_iff_forall_mem,Bool.or_eq_true,Bool.not_eq_true']
     intro e he
     cases aF:Region.binds .any e with
     |false=>exact .inl rfl
     |true=>
      refine .inr (aQ e.on ?_)
      unfold kC
      rw[Array.getElem?_eq_getElem R]
      simp only[List.mem_map,List.mem_filter]
      exact⟨e,⟨by simpa using he,aF⟩,rfl⟩
  simp only[lP]
  generalize PH:((List.range ops.size).filter fun i=>
   !dJ.getD i true&&((ops[i]?).map (·.after.all fun e=> !Region.binds .any e||dJ.getD e.on false)).getD false)=rs at lk⊢
  cases bc:rs[gK % rs.length]? with
  |none=>
   simp only
   cases C with
   |nil=>exact w
   |cons c C=>
    exfalso
    have an:c∈rs:=(lk c).2 ⟨by simp,fun p hp=>((v [] c C rfl).2.1.pre p hp).elim (fun q=>by simp at q) (fun q=>q)⟩
    have ax:0<rs.length:=List.length_pos_of_mem an
    rw[List.getElem?_eq_getElem (Nat.mod_lt _ ax)] at bc
    cases bc
  |some i=>
   simp only
   have aw:i∈rs:=List.mem_of_getElem? bc
   obtain⟨vP,sv⟩:=(lk i).1 aw
   obtain⟨A,B,rfl⟩:=List.append_of_mem vP
   have rz:=Kl fun A i B e=>(v A i B e).1
   obtain⟨aX,aY,cU⟩:=v A i B rfl
   have od:=(hC i).1 vP
   have vQ:∀a,a∈A→dJ.getD a false=false:=fun a bh=>((hC a).1 (by simp[bh])).2
   have Bg:∀o,o∈ev i→dJ.getD o false=true:=by
    intro o U
    obtain⟨p,hp,q⟩:=(aY.mE o U).2
    rcases q with rfl|q
    ·exact sv p hp
    ·exact vO p (sv p hp) o q
   have jf:∀a,a∈A→pW cs da ev a i=true:=by
    intro a bh
    rcases cU a bh with q|q
    ·have:=Bg a q;rw[vQ a bh] at this;cases this
    ·exact q
   have eW:A.Nodup:=(List.nodup_append.1 rz).1
   have st:=move (P:=P) (Q:=Q) (cs:=cs) (da:=da) (i:=i) aY.quiet A B t h (fun a bh=>by
     obtain⟨aE,aR,bE,bS,dn⟩:=Ee (jf a bh)
     obtain⟨X,Y,e⟩:=List.append_of_mem bh
     obtain⟨_,cD,_⟩:=v X a (Y++i::B) (by rw[e];simp)
     exact⟨aE,cD.quiet aE,aR,bE,bS⟩)
    (fun vL b iy e r bc en Bd=>by
     have aF:b∈A:=by rw[e];simp
     obtain⟨aE,aR,bE,bS,dn⟩:=Ee (jf b aF)
     rcases dn r bc with q|q|q
     ·exact absurd q en
     ·exfalso
      
      rcases aY.res r bc with z|z
      ·rw[e] at z
       have Km:r∈vL:=by
        simp only[List.mem_append,List.mem_cons] at z
        rcases z with z|z|z
        ·exact z
        ·exact absurd z en
        ·exact absurd z Bd
       obtain⟨X,Y,ct⟩:=List.append_of_mem Km
       obtain⟨_,cD,_⟩:=v X r (Y++b::iy++i::B) (by rw[e,ct];simp)
       rcases(cD.mE b q).1 with y|y
       ·rw[e,ct] at eW
        have:(X++r::Y++b::iy).Nodup:=eW
        have:=(List.nodup_append.1 this).2.2 b (by simp[y]) b (by simp)
        exact this rfl
       ·rw[vQ b aF] at y;cases y
      ·have:=vO r z b q
       rw[vQ b aF] at this;cases this
     ·exact q) eW w
   simp only[List.map_cons]
   rw[A_]
   refine Ec (fun _ _=>rfl) st (fun eg aa k=> ?_)
   rw[x6]
   refine⟨fun g dt=>by simp[kW] at dt, ?_⟩
   have m9:∀o,(dJ.setIfInBounds i true).getD o false=true↔o=i∨dJ.getD o false=true:=by
    intro o
    rw[Array.getD_eq_getD_getElem?,Array.getD_eq_getD_getElem?,Array.getElem?_setIfInBounds]
    split
    ·rename_i q;subst q
     simp[lM,od.1]
    ·rename_i q
     constructor
     ·intro z;exact .inr z
     ·rintro (z|z)
      ·exact absurd z.symm q
      ·exact z
   refine ba (gK/rs.length) (dJ.setIfInBounds i true) (A++B) _ aa ?_ (by simpa using lM) ?_ ?_ ?_ k.2
   ·simp only[List.length_append,List.length_cons] at aS⊢;omega
   ·intro o
    have sC:(dJ.setIfInBounds i true).getD o false=false↔¬(o=i∨dJ.getD o false=true):=by
     rw[←m9 o];simp
    rw[sC]
    have:=hC o
    simp only[List.mem_append,List.mem_cons] at this⊢
    have sD:i∉A:=aX
    have vR:i∉B:=by
     have:=(List.nodup_append.1 rz).2.1
     exact(List.nodup_cons.1 this).1
    constructor
    ·intro q
     have U:o≠i:=by rintro rfl;exact q.elim sD vR
     obtain⟨hV,hN⟩:=this.1 (q.elim .inl (fun z=> .inr (.inr z)))
     exact⟨hV,fun y=>y.elim U (fun y=>by rw[hN] at y;cases y)⟩
    ·rintro ⟨hV,hN⟩
     have lQ:dJ.getD o false=false:=by simpa using fun y=>hN (.inr y)
     rcases this.2 ⟨hV,lQ⟩ with y|y|y
     ·exact .inl y
     ·exact absurd (.inl y) hN
     ·exact .inr y
   ·intro o U gu oV
    rw[m9] at U⊢
    rcases U with rfl|U
    ·exact .inr (Bg gu oV)
    ·exact .inr (vO o U gu oV)
   ·exact v.out (fun o U=>(m9 o).2 (.inr U)) ((m9 i).2 (.inl rfl))
end
end Go.Proofs.YtjpjeilfmjdhcaaGreat.E
