/- The layer E, its parts in one file: values and memory, operations, code, and what it comes to. No condition. -/
import Derived.Calls
import Derived.Laws.Sem
import Derived.Below
import Derived.Laws.Rows
import Derived.Laws.Append
import Derived.Laws.Cells
import Derived.Laws.Entries
import Derived.Laws.StructEq
import Derived.Laws.Cover3
import Derived.Laws.Pointers
import Derived.WalkSpells
import Derived.Laws.BytesString
import Derived.Lib.ConvBytes
import Derived.Lib.Strings
import Derived.Lib.SmallJoins
import Derived.Laws.BytesArg
set_option maxRecDepth 100000
set_option linter.unusedVariables false
set_option linter.unusedSimpArgs false
set_option linter.unnecessarySimpa false
namespace Go.Proofs.YtjpjeilfmjdhcaaGreat.E
inductive V where
 |int (k:IntKind) (n:Int)
 |bool (b:Bool)
 |str (l:List UInt8)
 |ki
 |ptr (id i o:Nat)
 |ref (e:V) (o:Nat)
 |ab
 |er (id off len:Nat)
 |cx (es:List V)
 |hS
 |kv
 |mp (id:Nat)
 |fn (f:FuncId) (fz:List V)
 |eD (f:FuncId) (fz:List V)
 |lF
 |agg (cs:List V)
 |bW (ak:List V)
 |lG
 deriving Inhabited,Repr
def V.cells:V→List V
 | .agg cs=>cs
 |v=> [v]
def V.scalar:V→Bool
 | .agg _| .bW _| .lG=>false
 |_=>true
def flat(az:Nat)(e:V):Prop:=e.cells.length=az∧e.cells.all V.scalar=true
abbrev Lv:=List V
abbrev Lu:=List UInt8
structure Loc where
 at_:Nat→Option (Nat × Nat × Nat)
 len:Nat
def Own(L:Loc)(b:Nat):Prop:=∃id p,L.at_ id=some (b,p)
def l8(w:World)(b:Nat):Nat:=
 match w.heap[b]? with
 |some (.cells c _ _)=>c.size
 |_=>0
inductive bM(L:Loc)(w:World):V→Value→Prop
 |int (k:IntKind) (n:Int):bM L w (.int k n) (.int k n)
 |bool (b:Bool):bM L w (.bool b) (.bool b)
 |str (l:List UInt8):bM L w (.str l) (.string ⟨l.toArray⟩)
 |ki:bM L w .ki (.pointer none)
 |ptr {id i o b base az:Nat} (h:L.at_ id=some (b,base,az)):bM L w (.ptr id i o) (.pointer (some ⟨b,base+i*az+o,none⟩))
 |ref {e:V} {o b ao:Nat} (f:Nat→Value) (cj:¬Own L b) (aF:b<w.heap.size)
   (an:∀(k:Nat) (c:V),e.cells[k]? =some c→w.cell? ⟨b,ao+k,none⟩=some (f k)) (bc:∀(k:Nat) (c:V),e.cells[k]? =some c→bM L w c (f k)):
   bM L w (.ref e o) (.pointer (some ⟨b,ao+o,none⟩))
 |ab:bM L w .ab (.slice none 0 0)
 |er {id off len cap b base az:Nat} (h:L.at_ id=some (b,base,az)) (an:len≤cap) (b0:base+(off+cap)*az≤l8 w b):
   bM L w (.er id off len) (.slice (some ⟨b,base+off*az,none⟩) len cap)
 |cx {es:Lv} {az b ao cap:Nat} (f:Nat→Nat→Value) (cj:¬Own L b) (aF:b<w.heap.size) (jq:es.length≤cap)
   (a6:∀(i:Nat) (e:V),es[i]? =some e→flat az e)
   (an:∀(i o:Nat) (e c:V),es[i]? =some e→e.cells[o]? =some c→w.cell? ⟨b,ao+i*az+o,none⟩=some (f i o))
   (bc:∀(i o:Nat) (e c:V),es[i]? =some e→e.cells[o]? =some c→bM L w c (f i o)):bM L w (.cx es) (.slice (some ⟨b,ao,none⟩) es.length cap)
 |oU (a:Addr) (cap:Nat):bM L w (.cx []) (.slice (some a) 0 cap)
 |hS (a:Addr):bM L w .hS (.slice (some a) 0 0)
 |kv:bM L w .kv (.map none)
 |mp {id b base az:Nat} (h:L.at_ id=some (b,base,az)):bM L w (.mp id) (.map (some b))
 |fn {f:FuncId} {fz:Lv} (ak:Array Value) (ax:ak.size=fz.length) (bc:∀k c,fz[k]? =some c→bM L w c (ak.getD k undef)):
   bM L w (.fn f fz) (.func (.func f) #[] ak)
 |eD {f:FuncId} {fz:Lv} (ak:Array Value) (ax:ak.size=fz.length) (bc:∀k c,fz[k]? =some c→bM L w c (ak.getD k undef)):
   bM L w (.eD f fz) (.func (.func f) ak #[])
 |lF:bM L w .lF .nilFunc
 |agg {cs:Lv} (ak:Array Value) (ax:ak.size=cs.length) (bc:∀k c,cs[k]? =some c→bM L w c (ak.getD k undef)):bM L w (.agg cs) (.agg ak)
 |bW {cs:Lv} (ak:Array Value) (ax:ak.size=cs.length) (bc:∀k c,cs[k]? =some c→bM L w c (ak.getD k undef)):bM L w (.bW cs) (.tuple ak)
 |lG (x:Value):bM L w .lG x
 |nC {id i o:Nat} (x:Value) (h:L.at_ id=none) (ax:id<L.len) (R:x.oneCell'=true):bM L w (.ptr id i o) x
 |lH {id off len:Nat} (x:Value) (h:L.at_ id=none) (ax:id<L.len) (R:x.oneCell'=true):bM L w (.er id off len) x
 |tE {id:Nat} (x:Value) (h:L.at_ id=none) (ax:id<L.len) (R:x.oneCell'=true):bM L w (.mp id) x
structure Fr(B:Nat→Prop)(w a2:World):Prop where
 os:a2.os=w.os
 tape:a2.tape=w.tape
 output:a2.output=w.output
 size:w.heap.size≤a2.heap.size
 block:∀k,k<w.heap.size→¬B k→a2.heap[k]? =w.heap[k]?
 cells:∀k,k<w.heap.size→l8 a2 k=l8 w k
structure Ext(L:Loc)(w:World)(cZ:Loc):Prop where
 len:L.len≤cZ.len
 same:∀id,id<L.len→cZ.at_ id=none∨cZ.at_ id=L.at_ id
 own:∀b,Own cZ b→Own L b∨w.heap.size≤b
theorem Fr.refl(B:Nat→Prop)(w:World):Fr B w w:=⟨rfl,rfl,rfl,Nat.le_refl _,fun _ _ _=>rfl,fun _ _=>rfl⟩
theorem Ext.refl(L:Loc)(w:World):Ext L w L:=⟨Nat.le_refl _,fun _ _=> .inr rfl,fun _ h=> .inl h⟩
theorem Fr.trans{L tF:Loc}{w pG DC:World}(h:Fr (Own L) w pG)(x:Ext L w tF)(k:Fr (Own tF) pG DC):Fr (Own L) w DC:=
 ⟨k.os.trans h.os,k.tape.trans h.tape,k.output.trans h.output,Nat.le_trans h.size k.size,
  fun i aw cj=>(k.block i (Nat.lt_of_lt_of_le aw h.size) (fun ao=>(x.own i ao).elim cj (fun q=>by omega))).trans (h.block i aw cj),
  fun i aw=>(k.cells i (Nat.lt_of_lt_of_le aw h.size)).trans (h.cells i aw)⟩
theorem Ext.trans{L tF Oz:Loc}{w pG:World}(h:Ext L w tF)(k:Ext tF pG Oz)(hw:w.heap.size≤pG.heap.size):Ext L w Oz:=
 ⟨Nat.le_trans h.len k.len,
  fun id aw=>by
   rcases k.same id (Nat.lt_of_lt_of_le aw h.len) with e|e
   ·exact .inl e
   ·rcases h.same id aw with ct|ct
    ·exact .inl (e.trans ct)
    ·exact .inr (e.trans ct),
  fun b aF=>by
   rcases k.own b aF with e|e
   ·exact h.own b e
   ·exact .inr (Nat.le_trans hw e)⟩
theorem Fr.mono{B AK:Nat→Prop}{w a2:World}(h:Fr B w a2)(aF:∀b,B b→AK b):Fr AK w a2:=
 ⟨h.os,h.tape,h.output,h.size,fun k aH cj=>h.block k aH (fun q=>cj (aF k q)),h.cells⟩
theorem DD{w a2:World}{a:Addr}(h:a2.heap[a.block]? =w.heap[a.block]?):a2.cell? a=w.cell? a:=by
 unfold World.cell?
 rw[h]
theorem DE{w a2:World}{b:Nat}(h:a2.heap[b]? =w.heap[b]?):l8 a2 b=l8 w b:=by
 unfold l8
 rw[h]
theorem bM.step{L cZ:Loc}{w a2:World}{v:V}{x:Value}(h:bM L w v x)(cN:Fr (Own L) w a2)(ex:Ext L w cZ)
  (eT:∀id b base az,L.at_ id=some (b,base,az)→b<w.heap.size) (bN:∀id p,L.at_ id=some p→id<L.len):bM cZ a2 v x:=by
 induction h with
 |int k n=>exact .int k n
 |bool b=>exact .bool b
 |str l=>exact .str l
 |ki=>exact .ki
 | @ptr id i o b base az h=>
  have aw:=bN _ _ h
  rcases ex.same id aw with e|e
  ·exact .nC _ e (Nat.lt_of_lt_of_le aw ex.len) rfl
  ·exact .ptr (e.trans h)
 | @ref e o b ao f cj aF an bc ba=>
  have hT:a2.heap[b]? =w.heap[b]? :=cN.block b aF cj
  exact .ref f (fun q=>(ex.own b q).elim cj (fun z=>by omega)) (Nat.lt_of_lt_of_le aF cN.size)
   (fun k c aH=>by rw[DD (w:=w) hT];exact an k c aH) (fun k c aH=>ba k c aH)
 |ab=>exact .ab
 | @er id off len cap b base az h an b0=>
  have aw:=bN _ _ h
  rcases ex.same id aw with e|e
  ·exact .lH _ e (Nat.lt_of_lt_of_le aw ex.len) rfl
  ·exact .er (e.trans h) an (by rw[cN.cells b (eT _ _ _ _ h)];exact b0)
 | @cx es az b ao cap f cj aF jq a6 an bc ba=>
  have hT:a2.heap[b]? =w.heap[b]? :=cN.block b aF cj
  exact .cx f (fun q=>(ex.own b q).elim cj (fun z=>by omega)) (Nat.lt_of_lt_of_le aF cN.size) jq a6
   (fun i o e c R ae=>by rw[DD (w:=w) hT];exact an i o e c R ae) (fun i o e c R ae=>ba i o e c R ae)
 |oU a cap=>exact .oU a cap
 |hS a=>exact .hS a
 |kv=>exact .kv
 | @mp id b base az h=>
  have aw:=bN _ _ h
  rcases ex.same id aw with e|e
  ·exact .tE _ e (Nat.lt_of_lt_of_le aw ex.len) rfl
  ·exact .mp (e.trans h)
 |fn ak ax bc ba=>exact .fn ak ax (fun k c aH=>ba k c aH)
 |eD ak ax bc ba=>exact .eD ak ax (fun k c aH=>ba k c aH)
 |lF=>exact .lF
 |agg ak ax bc ba=>exact .agg ak ax (fun k c aH=>ba k c aH)
 |bW ak ax bc ba=>exact .bW ak ax (fun k c aH=>ba k c aH)
 |lG x=>exact .lG x
 | @nC id i o x h ax R=>
  rcases ex.same id ax with e|e
  ·exact .nC _ e (Nat.lt_of_lt_of_le ax ex.len) R
  ·exact .nC _ (e.trans h) (Nat.lt_of_lt_of_le ax ex.len) R
 | @lH id off len x h ax R=>
  rcases ex.same id ax with e|e
  ·exact .lH _ e (Nat.lt_of_lt_of_le ax ex.len) R
  ·exact .lH _ (e.trans h) (Nat.lt_of_lt_of_le ax ex.len) R
 | @tE id x h ax R=>
  rcases ex.same id ax with e|e
  ·exact .tE _ e (Nat.lt_of_lt_of_le ax ex.len) R
  ·exact .tE _ (e.trans h) (Nat.lt_of_lt_of_le ax ex.len) R
inductive nD where
 |row (es:Lv) (az:Nat)
 |map (gB:List (V × V × Nat)) (clock:Nat)
 |oa (l:List UInt8) (pos:Nat)
 |ob (m:Option Nat) (since:Nat) (seen:List Nat) (pH:Nat)
 |dead
 |jW (es:Lv) (az iU:Nat)
 |tG (g:Nat) (k:IntKind) (fU:List Int) (e:TypeId)
 deriving Inhabited,Repr
abbrev Lo:=List nD
abbrev OvL:=Option (V × Lo)
def vg(cN:Nat × Nat)(n:Nat):Prop:=cN.1≤cN.2∧∀ao,ao<n→¬(cN.1≤ao∧ao<cN.2)
def nE(L:Loc)(w:World)(id:Nat):nD→Prop
 | .row es az=>∃b base c e cN,L.at_ id=some (b,base,az)∧w.heap[b]? =some (.cells c e cN)∧vg cN c.size∧
   (∀(i:Nat) (x:V),es[i]? =some x→flat az x)∧
   ∀(i o:Nat) (x y:V),es[i]? =some x→x.cells[o]? =some y→∃v,c[base+i*az+o]? =some v∧bM L w y v
 | .map gB clock=>∃b base az gr,L.at_ id=some (b,base,az)∧w.heap[b]? =some (.map gr clock)∧gr.size=gB.length∧
   ∀(i:Nat) (k v:V) (t:Nat),gB[i]? =some (k,v,t)→∃e:MapEntry,gr[i]? =some e∧bM L w k e.key∧bM L w v e.val∧e.born=t
 | .oa l pos=>∃b az,L.at_ id=some (b,0,az)∧w.heap[b]? =some (.stringIter ⟨l.toArray⟩ pos)
 | .ob m since seen pH=>∃b az mx,L.at_ id=some (b,0,az)∧w.heap[b]? =some (.mapIter mx since seen.toArray pH)∧
   (match m,mx with
    |none,none=>True
    |some i,some r=>i<L.len∧(L.at_ i=none∨∃p,L.at_ i=some (r,p))
    |_,_=>False)
 | .dead=>L.at_ id=none
 | .jW _ _ _=>True
 | .tG g k fU e=>∃base az,L.at_ id=some (g,base,az)∧w.heap[g]? =some (.cells (fU.map fun z=>Value.int k z).toArray e (0,0))
def jF(h:Lo)(i:Nat):Prop:=∃es az n,h[i]? =some (.jW es az n)
def qp(L:Loc)(h:Lo)(w:World)(id:Nat)(es:Lv)(az iU:Nat):Prop:=
 ∃b base,L.at_ id=some (b,base,az)∧iU<L.len∧
  (L.at_ iU=none∨L.at_ iU=some (b,base,az)∨
   ((∀o p,L.at_ o=some (b,p)→jF h o)∧∃c e cN,w.heap[b]? =some (.cells c e cN)∧(∀(i:Nat) (x:V),es[i]? =some x→flat az x)∧
    ∀(i o:Nat) (x y:V),es[i]? =some x→x.cells[o]? =some y→∃v,c[base+i*az+o]? =some v∧bM L w y v))
structure cw(L:Loc)(h:Lo)(w:World):Prop where
 len:L.len=h.length
 ik:∀id fJ,h[id]? =some fJ→nE L w id fJ
 lt:∀id p,L.at_ id=some p→id<L.len
 mem:∀id b base az,L.at_ id=some (b,base,az)→b<w.heap.size
 inj:∀i o b p q,L.at_ i=some (b,p)→L.at_ o=some (b,q)→i=o∨jF h i∨jF h o
 nF:∀id es az iU,h[id]? =some (.jW es az iU)→qp L h w id es az iU
theorem cw.my{L cZ:Loc}{h:Lo}{w a2:World}(H:cw L h w){v:V}{x:Value}(r:bM L w v x)(cN:Fr (Own L) w a2)(ex:Ext L w cZ):bM cZ a2 v x:=
 r.step cN ex H.mem H.lt
theorem qp.step{L cZ:Loc}{h aa:Lo}{w a2:World}(H:cw L h w)(cN:Fr (Own L) w a2)(ex:Ext L w cZ){id:Nat}{es:Lv}{az iU:Nat}(r:qp L h w id es az iU)
  (eQ:cZ.at_ id=L.at_ id) (aF:∀b base az,L.at_ id=some (b,base,az)→(∀o p,L.at_ o=some (b,p)→jF h o)→a2.heap[b]? =w.heap[b]? ∧∀o p,cZ.at_ o=some (b,p)→jF aa o):qp cZ aa a2 id es az iU:=by
 obtain⟨b,base,R,ae,aQ⟩:=r
 refine⟨b,base,eQ.trans R,Nat.lt_of_lt_of_le ae ex.len, ?_⟩
 rcases aQ with aQ|aQ|⟨aQ,c,e,f,bo,bI,cR⟩
 ·rcases ex.same iU ae with q|q
  ·exact .inl q
  ·exact .inl (q.trans aQ)
 ·rcases ex.same iU ae with q|q
  ·exact .inl q
  ·exact .inr (.inl (q.trans aQ))
 ·obtain⟨aX,aY⟩:=aF b base az R aQ
  refine .inr (.inr ⟨aY,c,e,f,aX.trans bo,bI,fun i o x y aE aR=> ?_⟩)
  obtain⟨v,ar,aA⟩:=cR i o x y aE aR
  exact⟨v,ar,H.my aA cN ex⟩
def fA(L:Loc)(w:World)(n:Nat)(t:Nat→V)(kR:Array Value):Prop:=kR.size=n∧∀i,i<n→bM L w (t i) (kR.getD i undef)
theorem fA.step{L cZ:Loc}{h:Lo}{w a2:World}{n:Nat}{t:Nat→V}{kR:Array Value}(r:fA L w n t kR)(H:cw L h w)(cN:Fr (Own L) w a2)(ex:Ext L w cZ):fA cZ a2 n t kR:=
 ⟨r.1,fun i aw=>H.my (r.2 i aw) cN ex⟩
def pI(t:Nat→V)(d:Nat)(v:V):Nat→V:=fun o=>if o=d then v else t o
theorem fA.pI{L:Loc}{w:World}{n:Nat}{t:Nat→V}{kR:Array Value}(r:fA L w n t kR){d:Nat}{v:V}{x:Value}(bg:bM L w v x):fA L w n (pI t d v) (kR.setIfInBounds d x):=by
 refine⟨by simpa using r.1,fun i aw=> ?_⟩
 unfold E.pI
 have a6:=r.1
 by_cases bj:i=d
 ·subst bj
  rw[if_pos rfl]
  have:(kR.setIfInBounds i x).getD i undef=x:=by
   simp[Array.getD,a6,aw]
  rw[this];exact bg
 ·rw[if_neg bj]
  have:(kR.setIfInBounds d x).getD i undef=kR.getD i undef:=by
   simp only[Array.getD,Array.size_setIfInBounds]
   split
   ·rename_i q
    simp only[Array.getInternal_eq_getElem]
    rw[Array.getElem_setIfInBounds]
    rw[if_neg (fun e=>bj e.symm)]
   ·rfl
  rw[this];exact r.2 i aw
def ofValue:Value→Option V
 | .int k n=>some (.int k n)
 | .bool b=>some (.bool b)
 | .string s=>some (.str s.data.toList)
 | .pointer none=>some .ki
 | .slice none 0 0=>some .ab
 | .map none=>some .kv
 | .nilFunc=>some .lF
 | .tuple ak=>if ak.size=0 then some (.bW []) else none
 |_=>none
theorem OA{L:Loc}{w:World}{x:Value}{v:V}(h:ofValue x=some v):bM L w v x:=by
 unfold ofValue at h
 split at h<;>first|(cases h;done)|skip
 ·injection h with h;subst h;exact .int _ _
 ·injection h with h;subst h;exact .bool _
 ·rename_i s;injection h with h;subst h;exact .str s.data.toList
 ·injection h with h;subst h;exact .ki
 ·injection h with h;subst h;exact .ab
 ·injection h with h;subst h;exact .kv
 ·injection h with h;subst h;exact .lF
 ·split at h
  ·rename_i ak bg
   injection h with h;subst h;exact .bW ak (by simpa using bg) (fun k c aH=>by simp at aH)
  ·cases h
def fK{α β:Type}(f:α→Option β):List α→Option (List β)
 | []=>some []
 |x::xs=>match f x,fK f xs with
  |some y,some a_=>some (y::a_)
  |_,_=>none
theorem vh{α β:Type}{f:α→Option β}:∀{xs:List α} {a_:List β},fK f xs=some a_→a_.length=xs.length∧∀(i:Nat) y,a_[i]? =some y→∃x,xs[i]? =some x∧f x=some y
 | [],a_,h=>by simp[fK] at h;subst h;simp
 |x::xs,a_,h=>by
  simp only[fK] at h
  split at h
  ·rename_i y DF R ae
   injection h with h;subst h
   obtain⟨aX,aY⟩:=vh ae
   refine⟨by simp[aX],fun i z b0=> ?_⟩
   cases i with
   |zero=>simp at b0;subst b0;exact⟨x,by simp,R⟩
   |succ i=>simp at b0;obtain⟨iI,aV,bb⟩:=aY i z b0;exact⟨iI,by simpa using aV,bb⟩
  ·cases h
def vi:Value→Option V
 | .agg ak=>(fK ofValue ak.toList).map .agg
 |x=>ofValue x
theorem DG{L:Loc}{w:World}{x:Value}{v:V}(h:vi x=some v):bM L w v x:=by
 unfold vi at h
 split at h
 ·rename_i ak
  simp only[Option.map_eq_some_iff] at h
  obtain⟨cs,R,rfl⟩:=h
  obtain⟨aX,aY⟩:=vh R
  refine .agg ak (by simpa using aX.symm) (fun k c aH=> ?_)
  obtain⟨y,aV,bb⟩:=aY k c aH
  have oV:ak[k]? =some y:=by simpa using aV
  have:ak.getD k undef=y:=by
   rw[Array.getD_eq_getD_getElem?,oV];rfl
  rw[this];exact OA bb
 ·exact OA h
theorem tH(b ao n:Nat):(⟨b,ao,none⟩:Addr).add n=⟨b,ao+n,none⟩:=by
 unfold Addr.add
 split
 ·rename_i h;subst h;rfl
 ·rfl
theorem vj{w:World}{b:Nat}{c:Array Value}{e:TypeId}{cN:Nat × Nat}(h:w.heap[b]? =some (.cells c e cN))(ao:Nat):w.cell? ⟨b,ao,none⟩=c[ao]? :=by
 simp[World.cell?,h]
theorem rn{w:World}{b:Nat}{c:Array Value}{e:TypeId}{cN:Nat × Nat}(h:w.heap[b]? =some (.cells c e cN)):l8 w b=c.size:=by
 simp[l8,h]
theorem Xh{w:World}{b:Nat}{c:Array Value}{e:TypeId}{cN:Nat × Nat}(h:w.heap[b]? =some (.cells c e cN))(ok:vg cN c.size)(ao:Nat)(cj:ao<c.size):w.frozen? ⟨b,ao,none⟩=false:=by
 obtain⟨et,aw⟩:=cN
 have:=ok.2 ao cj
 simp[World.frozen?,h]
 simpa using this
def put(w:World)(b:Nat)(ao:Obj):World:={w with heap:=w.heap.setIfInBounds b ao}
theorem pJ{w:World}{b:Nat}{ao:Obj}(h:b<w.heap.size):(put w b ao).heap[b]? =some ao:=by
 simp[put,h]
theorem pK{w:World}{b k:Nat}{ao:Obj}(h:k≠b):(put w b ao).heap[k]? =w.heap[k]? :=by
 simp only[put]
 rw[Array.getElem?_setIfInBounds_ne (fun e=>h e.symm)]
theorem DH{w:World}{b:Nat}{ao:Obj}:(put w b ao).heap.size=w.heap.size:=by simp[put]
theorem Xi{w:World}{b:Nat}{ao kx:Obj}:put (put w b ao) b kx=put w b kx:=by
 simp[put]
theorem Xj{w:World}{b ao:Nat}{c:Array Value}{e:TypeId}{cN:Nat × Nat}{v:Value}(h:w.heap[b]? =some (.cells c e cN)):
  w.setCell ⟨b,ao,none⟩ v=put w b (.cells (c.setIfInBounds ao v) e cN):=by
 have aF:=(Array.getElem?_eq_some_iff.1 h).1
 have bg:=(Array.getElem?_eq_some_iff.1 h).2
 unfold World.setCell put
 congr 1
 apply Array.ext_getElem?
 intro i
 rw[Array.getElem?_modify,Array.getElem?_setIfInBounds]
 by_cases q:b=i
 ·subst q
  simp[aF,bg]
 ·simp[q]
def lI(c:Array Value)(ao:Nat):List Value→Array Value
 | []=>c
 |v::ak=>lI (c.setIfInBounds ao v) (ao+1) ak
theorem xI(ak:List Value):∀(c:Array Value) (ao:Nat),(lI c ao ak).size=c.size:=by
 induction ak with
 |nil=>intro c ao;rfl
 |cons v ak ba=>intro c ao;simp[lI,ba]
theorem AL(ak:List Value):∀(c:Array Value) (ao:Nat),ao+ak.length≤c.size→∀k,(lI c ao ak)[k]? =if ao≤k∧k<ao+ak.length then ak[k-ao]? else c[k]? :=by
 induction ak with
 |nil=>intro c ao _ k;simp[lI];intro R ae;omega
 |cons v ak ba=>
  intro c ao h k
  simp only[List.length_cons] at h⊢
  rw[lI,ba _ _ (by simp;omega)]
  by_cases R:ao+1≤k∧k<ao+1+ak.length
  ·rw[if_pos R,if_pos (by omega)]
   rw[show k-ao=(k-(ao+1))+1 by omega];rfl
  ·rw[if_neg R,Array.getElem?_setIfInBounds]
   by_cases ae:ao=k
   ·subst ae
    rw[if_pos rfl,if_pos (by omega),if_pos (by omega)]
    simp
   ·rw[if_neg ae]
    split
    ·omega
    ·rfl
theorem Jt(P:Program)(b ao:Nat)(e:TypeId)(cN:Nat × Nat)(ak:List Value):∀(i:Nat) (c:Array Value) (w:World),w.heap[b]? =some (.cells c e cN)→vg cN c.size→
  ao+i+ak.length≤c.size→(∀v∈ak,v.oneCell'=true)→(storeCells ⟨b,ao,none⟩ ak i).run P w= .ok () (put w b (.cells (lI c (ao+i) ak) e cN)):=by
 induction ak with
 |nil=>
  intro i c w h _ _ _
  simp only[storeCells,Sem.run_pure,lI]
  have aF:=(Array.getElem?_eq_some_iff.1 h).1
  have e:w.heap.setIfInBounds b (.cells c e cN)=w.heap:=by
   apply Array.ext_getElem?
   intro k
   rw[Array.getElem?_setIfInBounds]
   split
   ·rename_i q;subst q;rw[h]
   ·rfl
  unfold put
  rw[e]
 |cons v ak ba=>
  intro i c w h ok ax R
  simp only[List.length_cons] at ax
  simp only[storeCells,Sem.run_bind,tH]
  rw[run_store P w _ v _ (R v (by simp))]
  rw[vj h,Xh h ok _ (by omega)]
  have a6:∃u,c[ao+i]? =some u:=⟨c[ao+i],by simp⟩
  obtain⟨u,hu⟩:=a6
  rw[hu]
  simp only[Bool.false_eq_true,if_false,Result.andThen_ok]
  rw[Xj h]
  have aF:=(Array.getElem?_eq_some_iff.1 h).1
  have aa:=pJ (w:=w) (b:=b) (ao:= .cells (c.setIfInBounds (ao+i) v) e cN) aF
  have:=ba (i+1) (c.setIfInBounds (ao+i) v) _ aa (by simpa using ok) (by simp;omega) (fun x au=>R x (by simp[au]))
  rw[this,Xi]
  rfl
theorem run_loadCells(P:Program)(w:World)(b ao n:Nat)(f:Nat→Value)(h:∀o,o<n→w.cell? ⟨b,ao+o,none⟩=some (f o)):
  (loadCells ⟨b,ao,none⟩ n).run P w= .ok ((List.range n).map f).toArray w:=by
 have:=Go.run_loadCells (P:=P) (w:=w) ⟨b,ao,none⟩ n f (fun o U=>by rw[tH];exact h o U)
 exact this
theorem AM(B:Nat→Prop)(w:World)(ao:Obj):Fr B w {w with heap:=w.heap.push ao}:=by
 refine⟨rfl,rfl,rfl,by simp,fun k aH _=> ?_,fun k aH=> ?_⟩
 ·show(w.heap.push ao)[k]? =_
  rw[Array.getElem?_push,if_neg (by omega)]
 ·refine DE ?_
  show(w.heap.push ao)[k]? =_
  rw[Array.getElem?_push,if_neg (by omega)]
theorem tI(B:Nat→Prop)(w:World):Fr B w {w with drawn:=w.drawn+1}:=⟨rfl,rfl,rfl,Nat.le_refl _,fun _ _ _=>rfl,fun _ _=>rfl⟩
theorem DI{B:Nat→Prop}{w:World}{b:Nat}{c c0:Array Value}{e ct:TypeId}{cN nG:Nat × Nat}(aF:B b)(h:w.heap[b]? =some (.cells c e cN))(a6:c0.size=c.size):Fr B w (put w b (.cells c0 ct nG)):=by
 have bN:=(Array.getElem?_eq_some_iff.1 h).1
 refine⟨rfl,rfl,rfl,by simp[put],fun k aH bd=>pK (fun q=>bd (q▸aF)),fun k aH=> ?_⟩
 by_cases q:k=b
 ·subst q
  rw[rn (pJ bN),rn h,a6]
 ·exact DE (pK q)
def Loc.push(L:Loc)(p:Nat × Nat × Nat):Loc:=⟨fun i=>if i=L.len then some p else L.at_ i,L.len+1⟩
def Loc.kill(L:Loc)(id:Nat):Loc:=⟨fun i=>if i=id then none else L.at_ i,L.len⟩
theorem Loc.nH(L:Loc)(p:Nat × Nat × Nat):(L.push p).at_ L.len=some p:=by simp[Loc.push]
theorem Loc.oW(L:Loc)(p:Nat × Nat × Nat){i:Nat}(h:i<L.len):(L.push p).at_ i=L.at_ i:=by simp[Loc.push];intro q;omega
theorem Loc.pL(L:Loc)(id:Nat):(L.kill id).at_ id=none:=by simp[Loc.kill]
theorem Loc.oX(L:Loc){id i:Nat}(h:i≠id):(L.kill id).at_ i=L.at_ i:=by simp[Loc.kill,h]
theorem Ju(L:Loc)(w:World)(b base az:Nat)(aF:w.heap.size≤b):Ext L w (L.push (b,base,az)):=by
 refine⟨by simp[Loc.push],fun id aw=> .inr (L.oW _ aw),fun x ⟨id,p,h⟩=> ?_⟩
 simp only[Loc.push] at h
 split at h
 ·injection h with h;injection h with R ae;subst R;exact .inr aF
 ·exact .inl ⟨id,p,h⟩
theorem nE.step{L cZ:Loc}{h:Lo}{w a2:World}(H:cw L h w)(cN:Fr (Own L) w a2)(ex:Ext L w cZ){id:Nat}{fJ:nD}(r:nE L w id fJ)
  (eQ:cZ.at_ id=L.at_ id) (jr:∀b base az,L.at_ id=some (b,base,az)→a2.heap[b]? =w.heap[b]?):nE cZ a2 id fJ:=by
 cases fJ with
 |row es az=>
  obtain⟨b,base,c,e,f,R,ae,aQ,bo,bI⟩:=r
  refine⟨b,base,c,e,f,eQ.trans R,(jr _ _ _ R).trans ae,aQ,bo,fun i o x y au bT=> ?_⟩
  obtain⟨v,aX,aY⟩:=bI i o x y au bT
  exact⟨v,aX,H.my aY cN ex⟩
 |map gB clock=>
  obtain⟨b,base,az,gr,R,ae,aQ,bo⟩:=r
  refine⟨b,base,az,gr,eQ.trans R,(jr _ _ _ R).trans ae,aQ,fun i k v t au=> ?_⟩
  obtain⟨e,aX,aY,cU,h_⟩:=bo i k v t au
  exact⟨e,aX,H.my aY cN ex,H.my cU cN ex,h_⟩
 |oa l pos=>
  obtain⟨b,az,R,ae⟩:=r
  exact⟨b,az,eQ.trans R,(jr _ _ _ R).trans ae⟩
 |ob m since seen pH=>
  obtain⟨b,az,mx,R,ae,aQ⟩:=r
  refine⟨b,az,mx,eQ.trans R,(jr _ _ _ R).trans ae, ?_⟩
  cases m with
  |none=>cases mx with
   |none=>trivial
   |some r=>exact aQ
  |some i=>cases mx with
   |none=>exact aQ
   |some r=>
    obtain⟨aE,aR⟩:=aQ
    refine⟨Nat.lt_of_lt_of_le aE ex.len, ?_⟩
    rcases ex.same i aE with e|e
    ·exact .inl e
    ·rcases aR with aR|⟨p,aR⟩
     ·exact .inl (e.trans aR)
     ·exact .inr ⟨p,e.trans aR⟩
 |dead=>exact eQ.trans r
 |jW es az n=>trivial
 |tG g k fU e=>
  obtain⟨base,az,R,ae⟩:=r
  exact⟨base,az,eQ.trans R,(jr _ _ _ R).trans ae⟩
theorem cw.push{L:Loc}{h:Lo}{w:World}(H:cw L h w)(ao:Obj)(fJ:nD)(base az:Nat)
  (dE:nE (L.push (w.heap.size,base,az)) {w with heap:=w.heap.push ao} L.len fJ) (vk:∀es s n,fJ≠ .jW es s n:=by intro _ _ _ q;cases q):
  cw (L.push (w.heap.size,base,az)) (h++ [fJ]) {w with heap:=w.heap.push ao}:=by
 have cN:=AM (Own L) w ao
 have ex:=Ju L w w.heap.size base az (Nat.le_refl _)
 have hold:∀b,b<w.heap.size→({w with heap:=w.heap.push ao}:World).heap[b]? =w.heap[b]? :=fun b aF=>by
  show(w.heap.push ao)[b]? =_
  rw[Array.getElem?_push,if_neg (by omega)]
 have aJ:∀i,jF h i→jF (h++ [fJ]) i:=fun i ⟨es,s,n,q⟩=>by
  have aw:i<h.length:=(List.getElem?_eq_some_iff.1 q).1
  exact⟨es,s,n,by rw[List.getElem?_append_left aw];exact q⟩
 have nF:∀id es hU iU,(h++ [fJ])[id]? =some (.jW es hU iU)→qp (L.push (w.heap.size,base,az)) (h++ [fJ]) {w with heap:=w.heap.push ao} id es hU iU:=by
  intro id es hU iU au
  by_cases aw:id<h.length
  ·rw[List.getElem?_append_left aw] at au
   have r:=H.nF id es hU iU au
   refine qp.step H cN ex r (L.oW _ (by rw[H.len];exact aw)) (fun b fu s aF hw=>⟨hold b (H.mem _ _ _ _ aF),fun o p U=> ?_⟩)
   simp only[Loc.push] at U
   split at U
   ·injection U with U;injection U with U _;have:=H.mem _ _ _ _ aF;omega
   ·exact aJ _ (hw o p U)
  ·rw[List.getElem?_append_right (by omega)] at au
   have:id-h.length=0:=by
    rcases Nat.lt_or_ge (id-h.length) 1 with q|q
    ·omega
    ·rw[List.getElem?_eq_none (by simpa using q)] at au;cases au
   rw[this] at au
   simp at au
   exact absurd au (vk _ _ _)
 refine⟨by simp[Loc.push,H.len],fun id x au=> ?_,fun id p hp=> ?_,fun id b fu s hp=> ?_,fun i o b p q hp bm=> ?_,nF⟩
 ·by_cases aw:id<h.length
  ·rw[List.getElem?_append_left aw] at au
   refine nE.step H cN ex (H.ik id x au) (L.oW _ (by rw[H.len];exact aw)) (fun b fu s aF=>hold b (H.mem _ _ _ _ aF))
  ·rw[List.getElem?_append_right (by omega)] at au
   have:id=h.length:=by
    rcases Nat.lt_or_ge (id-h.length) 1 with q|q
    ·omega
    ·rw[List.getElem?_eq_none (by simpa using q)] at au;cases au
   subst this
   simp at au
   subst au
   rw[←H.len];exact dE
 ·simp only[Loc.push] at hp⊢
  split at hp
  ·omega
  ·have:=H.lt id p hp;omega
 ·simp only[Loc.push] at hp
  show b<(w.heap.push ao).size
  rw[Array.size_push]
  split at hp
  ·injection hp with hp;injection hp with hp _;omega
  ·have:=H.mem _ _ _ _ hp;omega
 ·simp only[Loc.push] at hp bm
  split at hp<;>split at bm
  ·exact .inl (by omega)
  ·injection hp with hp;injection hp with hp _;have:=H.mem _ _ _ _ bm;omega
  ·injection bm with bm;injection bm with bm _;have:=H.mem _ _ _ _ hp;omega
  ·rcases H.inj i o b p q hp bm with z|z|z
   ·exact .inl z
   ·exact .inr (.inl (aJ _ z))
   ·exact .inr (.inr (aJ _ z))
theorem cw.set{L:Loc}{h:Lo}{w a2:World}(H:cw L h w){id:Nat}{fJ:nD}{b base az:Nat}(eQ:L.at_ id=some (b,base,az))(hy:id<h.length)(bd:¬jF h id)
  (cN:Fr (Own L) w a2) (tJ:∀k,k<w.heap.size→k≠b→a2.heap[k]? =w.heap[k]?) (dE:nE L a2 id fJ) (vk:∀es s n,fJ≠ .jW es s n:=by intro _ _ _ q;cases q):cw L (h.set id fJ) a2:=by
 have aJ:∀i,jF h i→jF (h.set id fJ) i:=fun i z=>by
  have aw:i≠id:=fun q=>bd (q▸z)
  obtain⟨es,s,n,q⟩:=z
  exact⟨es,s,n,by rw[List.getElem?_set_ne (fun e=>aw e.symm)];exact q⟩
 refine⟨by simp[H.len],fun i x au=> ?_,H.lt,fun i b fu s hp=>Nat.lt_of_lt_of_le (H.mem _ _ _ _ hp) cN.size,fun i o b p q hp bm=> ?_,fun i es hU iU au=> ?_⟩
 rotate_left
 ·rcases H.inj i o b p q hp bm with z|z|z
  ·exact .inl z
  ·exact .inr (.inl (aJ _ z))
  ·exact .inr (.inr (aJ _ z))
 ·by_cases q:i=id
  ·subst q
   rw[List.getElem?_set_self (by simpa using hy)] at au
   injection au with au
   exact absurd au (vk _ _ _)
  ·rw[List.getElem?_set_ne (fun e=>q e.symm)] at au
   refine qp.step H cN (Ext.refl L w) (H.nF i es hU iU au) rfl (fun c2 fu s aF hw=>⟨tJ c2 (H.mem _ _ _ _ aF) (fun e=> ?_),fun o p U=>aJ _ (hw o p U)⟩)
   subst e
   exact bd (hw id _ eQ)
 by_cases q:i=id
 ·subst q
  rw[List.getElem?_set_self (by simpa using hy)] at au
  injection au with au;subst au;exact dE
 ·rw[List.getElem?_set_ne (fun e=>q e.symm)] at au
  by_cases tK:jF h i
  ·obtain⟨es,s,n,z⟩:=tK
   rw[z] at au;injection au with au;subst au;trivial
  refine nE.step H cN (Ext.refl L w) (H.ik i x au) rfl (fun c2 fu s aF=>tJ c2 (H.mem _ _ _ _ aF) (fun e=> ?_))
  subst e
  rcases H.inj i id _ _ _ aF eQ with z|z|z
  ·exact q z
  ·exact tK z
  ·exact bd z
theorem cw.OB{L:Loc}{h:Lo}{w a2:World}(H:cw L h w){id b base az c2 jG hU:Nat}{fJ:nD}(eQ:L.at_ id=some (b,base,az))
  (cN:Fr (Own L) w a2) (tJ:∀k,k<w.heap.size→k≠b→a2.heap[k]? =w.heap[k]?) (hT:c2=b∨w.heap.size≤c2) (so:c2<a2.heap.size)
  (dE:nE ((L.kill id).push (c2,jG,hU)) a2 L.len fJ) (bd:¬jF h id) (vk:∀es s n,fJ≠ .jW es s n:=by intro _ _ _ q;cases q):cw ((L.kill id).push (c2,jG,hU)) (h.set id .dead++ [fJ]) a2∧Ext L w ((L.kill id).push (c2,jG,hU)):=by
 have hy:=H.lt _ _ eQ
 have ex:Ext L w ((L.kill id).push (c2,jG,hU)):=by
  refine⟨by simp[Loc.push,Loc.kill],fun i aw=> ?_,fun x ⟨i,p,hp⟩=> ?_⟩
  ·rw[Loc.oW (L.kill id) _ aw]
   by_cases q:i=id
   ·exact .inl (by rw[q];exact L.pL id)
   ·exact .inr (L.oX q)
  ·simp only[Loc.push] at hp
   split at hp
   ·injection hp with hp;injection hp with R ae;subst R
    rcases hT with e|e
    ·exact .inl (by rw[e];exact⟨id,_,eQ⟩)
    ·exact .inr e
   ·by_cases q:i=id
    ·subst q;rw[L.pL] at hp;cases hp
    ·rw[L.oX q] at hp;exact .inl ⟨i,p,hp⟩
 have aJ:∀i,jF h i→jF (h.set id .dead++ [fJ]) i:=fun i z=>by
  have aw:i≠id:=fun q=>bd (q▸z)
  obtain⟨es,s,n,q⟩:=z
  have ax:i<h.length:=(List.getElem?_eq_some_iff.1 q).1
  exact⟨es,s,n,by rw[List.getElem?_append_left (by simpa using ax),List.getElem?_set_ne (fun e=>aw e.symm)];exact q⟩
 refine⟨⟨by simp[Loc.push,Loc.kill,H.len],fun i x au=> ?_,fun i p hp=> ?_,fun i c fu s hp=> ?_,fun i o c p q hp bm=> ?_,fun i es s iU au=> ?_⟩,ex⟩
 ·by_cases aw:i<h.length
  ·rw[List.getElem?_append_left (by simpa using aw)] at au
   have hn:i<(L.kill id).len:=by show i<L.len;rw[H.len];exact aw
   by_cases q:i=id
   ·subst q
    rw[List.getElem?_set_self (by simpa using aw)] at au
    injection au with au;subst au
    show _=none
    rw[Loc.oW _ _ hn,L.pL]
   ·rw[List.getElem?_set_ne (fun e=>q e.symm)] at au
    by_cases tK:jF h i
    ·obtain⟨es,s,n,z⟩:=tK
     rw[z] at au;injection au with au;subst au;trivial
    refine nE.step H cN ex (H.ik i x au) (by rw[Loc.oW _ _ hn,L.oX q]) (fun c fu s aF=>tJ c (H.mem _ _ _ _ aF) (fun e=> ?_))
    subst e
    rcases H.inj i id _ _ _ aF eQ with z|z|z
    ·exact q z
    ·exact tK z
    ·exact bd z
  ·rw[List.getElem?_append_right (by simpa using aw)] at au
   simp only[List.length_set] at au
   have:i=h.length:=by
    rcases Nat.lt_or_ge (i-h.length) 1 with q|q
    ·omega
    ·rw[List.getElem?_eq_none (by simpa using q)] at au;cases au
   subst this
   simp at au
   subst au
   rw[←H.len];exact dE
 ·simp only[Loc.push] at hp⊢
  split at hp
  ·omega
  ·by_cases q:i=id
   ·subst q;rw[L.pL] at hp;cases hp
   ·rw[L.oX q] at hp;have:=H.lt i p hp;show i<L.len+1;omega
 ·simp only[Loc.push] at hp
  split at hp
  ·injection hp with hp;injection hp with hp _;omega
  ·by_cases q:i=id
   ·subst q;rw[L.pL] at hp;cases hp
   ·rw[L.oX q] at hp;exact Nat.lt_of_lt_of_le (H.mem _ _ _ _ hp) cN.size
 ·have key:∀i p,i≠id→L.at_ i=some (c2,p)→jF h i:=fun i p aw hp=>by
   rcases hT with e|e
   ·subst e
    rcases H.inj i id _ _ _ hp eQ with z|z|z
    ·exact(aw z).elim
    ·exact z
    ·exact(bd z).elim
   ·have:=H.mem i _ _ _ hp;omega
  simp only[Loc.push] at hp bm
  split at hp<;>split at bm
  ·exact .inl (by omega)
  ·injection hp with hp;injection hp with hp _
   by_cases z:o=id
   ·subst z;rw[L.pL] at bm;cases bm
   ·rw[L.oX z] at bm;subst hp;exact .inr (.inr (aJ _ (key o _ z bm)))
  ·injection bm with bm;injection bm with bm _
   by_cases z:i=id
   ·subst z;rw[L.pL] at hp;cases hp
   ·rw[L.oX z] at hp;subst bm;exact .inr (.inl (aJ _ (key i _ z hp)))
  ·by_cases z:i=id
   ·subst z;rw[L.pL] at hp;cases hp
   ·by_cases Jv:o=id
    ·subst Jv;rw[L.pL] at bm;cases bm
    ·rw[L.oX z] at hp;rw[L.oX Jv] at bm
     rcases H.inj i o c p q hp bm with y|y|y
     ·exact .inl y
     ·exact .inr (.inl (aJ _ y))
     ·exact .inr (.inr (aJ _ y))
 ·by_cases aw:i<h.length
  ·rw[List.getElem?_append_left (by simpa using aw)] at au
   have hn:i<(L.kill id).len:=by show i<L.len;rw[H.len];exact aw
   by_cases q:i=id
   ·subst q
    rw[List.getElem?_set_self (by simpa using aw)] at au
    injection au with au;cases au
   ·rw[List.getElem?_set_ne (fun e=>q e.symm)] at au
    refine qp.step H cN ex (H.nF i es s iU au) (by rw[Loc.oW _ _ hn,L.oX q]) (fun c fu s aF hw=>⟨tJ c (H.mem _ _ _ _ aF) (fun e=> ?_),fun o p U=> ?_⟩)
    ·subst e;exact bd (hw id _ eQ)
    ·simp only[Loc.push] at U
     split at U
     ·injection U with U;injection U with U _
      rcases hT with e|e
      ·exact(bd (hw id _ (by rw[←U,e];exact eQ))).elim
      ·have:=H.mem _ _ _ _ aF;omega
     ·by_cases z:o=id
      ·subst z;rw[L.pL] at U;cases U
      ·rw[L.oX z] at U;exact aJ _ (hw o p U)
  ·rw[List.getElem?_append_right (by simpa using aw)] at au
   simp only[List.length_set] at au
   have:i-h.length=0:=by
    rcases Nat.lt_or_ge (i-h.length) 1 with q|q
    ·omega
    ·rw[List.getElem?_eq_none (by simpa using q)] at au;cases au
   rw[this] at au
   simp at au
   exact absurd au (vk _ _ _)
theorem cw.OC{L:Loc}{h:Lo}{w a2:World}(H:cw L h w){id b base az c2 jG hU:Nat}{fJ:nD}{aM:Lv}(eQ:L.at_ id=some (b,base,az))
  (cN:Fr (Own L) w a2) (tJ:∀k,k<w.heap.size→k≠b→a2.heap[k]? =w.heap[k]?) (an:(c2=b∧jG=base∧hU=az)∨(w.heap.size≤c2∧a2.heap[b]? =w.heap[b]? ∧nE L w id (.row aM az))) (so:c2<a2.heap.size)
  (dE:nE (L.push (c2,jG,hU)) a2 L.len fJ) (bd:¬jF h id) (vk:∀es s n,fJ≠ .jW es s n:=by intro _ _ _ q;cases q):cw (L.push (c2,jG,hU)) (h.set id (.jW aM az h.length)++ [fJ]) a2∧Ext L w (L.push (c2,jG,hU)):=by
 have hy:=H.lt _ _ eQ
 have DJ:id<h.length:=by rw[←H.len];exact hy
 have hT:c2=b∨w.heap.size≤c2:=by rcases an with q|q<;>simp[q.1]
 have ex:Ext L w (L.push (c2,jG,hU)):=by
  refine⟨by simp[Loc.push],fun i aw=> .inr (L.oW _ aw),fun x ⟨i,p,hp⟩=> ?_⟩
  simp only[Loc.push] at hp
  split at hp
  ·injection hp with hp;injection hp with R ae;subst R
   rcases hT with e|e
   ·exact .inl (by rw[e];exact⟨id,_,eQ⟩)
   ·exact .inr e
  ·exact .inl ⟨i,p,hp⟩
 have aJ:∀i,jF h i→jF (h.set id (.jW aM az h.length)++ [fJ]) i:=fun i z=>by
  have aw:i≠id:=fun q=>bd (q▸z)
  obtain⟨es,s,n,q⟩:=z
  have ax:i<h.length:=(List.getElem?_eq_some_iff.1 q).1
  exact⟨es,s,n,by rw[List.getElem?_append_left (by simpa using ax),List.getElem?_set_ne (fun e=>aw e.symm)];exact q⟩
 have self:jF (h.set id (.jW aM az h.length)++ [fJ]) id:=⟨aM,az,h.length,by rw[List.getElem?_append_left (by simpa using DJ),List.getElem?_set_self (by simpa using DJ)]⟩
 have key:∀i p,L.at_ i=some (b,p)→jF (h.set id (.jW aM az h.length)++ [fJ]) i:=fun i p hp=>by
  rcases H.inj i id _ _ _ hp eQ with z|z|z
  ·rw[z];exact self
  ·exact aJ _ z
  ·exact(bd z).elim
 refine⟨⟨by simp[Loc.push,H.len],fun i x au=> ?_,fun i p hp=> ?_,fun i c fu s hp=> ?_,fun i o c p q hp bm=> ?_,fun i es s iU au=> ?_⟩,ex⟩
 ·by_cases aw:i<h.length
  ·rw[List.getElem?_append_left (by simpa using aw)] at au
   have hn:i<L.len:=by rw[H.len];exact aw
   by_cases q:i=id
   ·subst q
    rw[List.getElem?_set_self (by simpa using aw)] at au
    injection au with au;subst au
    trivial
   ·rw[List.getElem?_set_ne (fun e=>q e.symm)] at au
    by_cases tK:jF h i
    ·obtain⟨es,s,n,z⟩:=tK
     rw[z] at au;injection au with au;subst au;trivial
    refine nE.step H cN ex (H.ik i x au) (by rw[Loc.oW _ _ hn]) (fun c fu s aF=>tJ c (H.mem _ _ _ _ aF) (fun e=> ?_))
    subst e
    rcases H.inj i id _ _ _ aF eQ with z|z|z
    ·exact q z
    ·exact tK z
    ·exact bd z
  ·rw[List.getElem?_append_right (by simpa using aw)] at au
   simp only[List.length_set] at au
   have:i=h.length:=by
    rcases Nat.lt_or_ge (i-h.length) 1 with q|q
    ·omega
    ·rw[List.getElem?_eq_none (by simpa using q)] at au;cases au
   subst this
   simp at au
   subst au
   rw[←H.len];exact dE
 ·simp only[Loc.push] at hp⊢
  split at hp
  ·omega
  ·have:=H.lt i p hp;show i<L.len+1;omega
 ·simp only[Loc.push] at hp
  split at hp
  ·injection hp with hp;injection hp with hp _;omega
  ·exact Nat.lt_of_lt_of_le (H.mem _ _ _ _ hp) cN.size
 ·have xJ:∀i p,L.at_ i=some (c2,p)→jF (h.set id (.jW aM az h.length)++ [fJ]) i:=fun i p hp=>by
   rcases hT with e|e
   ·subst e;exact key i p hp
   ·have:=H.mem i _ _ _ hp;omega
  simp only[Loc.push] at hp bm
  split at hp<;>split at bm
  ·exact .inl (by omega)
  ·injection hp with hp;injection hp with hp _
   subst hp;exact .inr (.inr (xJ o _ bm))
  ·injection bm with bm;injection bm with bm _
   subst bm;exact .inr (.inl (xJ i _ hp))
  ·rcases H.inj i o c p q hp bm with y|y|y
   ·exact .inl y
   ·exact .inr (.inl (aJ _ y))
   ·exact .inr (.inr (aJ _ y))
 ·by_cases aw:i<h.length
  ·rw[List.getElem?_append_left (by simpa using aw)] at au
   have hn:i<L.len:=by rw[H.len];exact aw
   by_cases q:i=id
   ·subst q
    rw[List.getElem?_set_self (by simpa using aw)] at au
    injection au with au
    injection au with aV bb cb
    subst aV;subst bb;subst cb
    refine⟨b,base,by rw[Loc.oW _ _ hn];exact eQ,by show h.length<L.len+1;rw[H.len];omega, ?_⟩
    rcases an with⟨rfl,rfl,rfl⟩|⟨bF,bD,b8⟩
    ·exact .inr (.inl (by rw[←H.len];exact L.nH _))
    ·refine .inr (.inr ⟨fun o p U=> ?_, ?_⟩)
     ·simp only[Loc.push] at U
      split at U
      ·injection U with U;injection U with U _
       have:=H.mem _ _ _ _ eQ;omega
      ·exact key o p U
     ·obtain⟨fi,AN,c,e,f,R,ae,aQ,bo,bI⟩:=b8
      rw[eQ] at R;injection R with R;injection R with aE aR;injection aR with aR bE;subst aE;subst aR
      refine⟨c,e,f,bD.trans ae,bo,fun a o x y hV hN=> ?_⟩
      obtain⟨v,ar,aA⟩:=bI a o x y hV hN
      exact⟨v,ar,H.my aA cN ex⟩
   ·rw[List.getElem?_set_ne (fun e=>q e.symm)] at au
    refine qp.step H cN ex (H.nF i es s iU au) (by rw[Loc.oW _ _ hn]) (fun c fu s aF hw=>⟨tJ c (H.mem _ _ _ _ aF) (fun e=> ?_),fun o p U=> ?_⟩)
    ·subst e;exact bd (hw id _ eQ)
    ·simp only[Loc.push] at U
     split at U
     ·injection U with U;injection U with U _
      rcases hT with e|e
      ·exact(bd (hw id _ (by rw[←U,e];exact eQ))).elim
      ·have:=H.mem _ _ _ _ aF;omega
     ·exact aJ _ (hw o p U)
  ·rw[List.getElem?_append_right (by simpa using aw)] at au
   simp only[List.length_set] at au
   have:i-h.length=0:=by
    rcases Nat.lt_or_ge (i-h.length) 1 with q|q
    ·omega
    ·rw[List.getElem?_eq_none (by simpa using q)] at au;cases au
   rw[this] at au
   simp at au
   exact absurd au (vk _ _ _)
inductive bJ where
 |t (i:Nat)
 |c (v:V)
 deriving Inhabited,Repr
def bJ.get(t:Nat→V):bJ→V
 | .t i=>t i
 | .c v=>v
@[simp] theorem bJ.Xk (t:Nat→V) (i:Nat):(bJ.t i).get t=t i:=rfl
@[simp] theorem bJ.aqY (t:Nat→V) (v:V):(bJ.c v).get t=v:=rfl
def fN(n:Nat):Operand→Option bJ
 | .tmp i=>if i<n then some (.t i) else none
 | .const v=>(vi v).map .c
 | .func f=>some (.c (.fn f []))
 | .global _=>none
theorem fV{L:Loc}{w:World}{n:Nat}{t:Nat→V}{a:Act}(r:fA L w n t a.tmps){x:Operand}{e:bJ}(h:fN n x=some e):bM L w (e.get t) (a.eval x):=by
 unfold fN at h
 split at h
 ·split at h
  ·rename_i i aw;injection h with h;subst h;exact r.2 i aw
  ·cases h
 ·rename_i v
  simp only[Option.map_eq_some_iff] at h
  obtain⟨y,R,rfl⟩:=h
  exact DG R
 ·injection h with h;subst h;exact .fn #[] rfl (fun k c aH=>by simp at aH)
 ·cases h
theorem bM.one{L:Loc}{w:World}{v:V}{x:Value}(h:bM L w v x)(a6:v.scalar=true):x.oneCell'=true:=by
 cases h<;>first|rfl|(simp[V.scalar] at a6;done)|assumption
theorem Xl{x:Value}(h:x.oneCell'=true):x.cells= #[x]:=by
 cases x<;>first|rfl|(simp[Value.oneCell'] at h)
theorem bM.cells{L:Loc}{w:World}{v:V}{x:Value}(h:bM L w v x)(a6:v.scalar=true∨∃cs,v= .agg cs):
  x.cells.size=v.cells.length∧∀k c,v.cells[k]? =some c→bM L w c (x.cells.getD k undef):=by
 rcases a6 with a6|⟨cs,rfl⟩
 ·have R:=Xl (h.one a6)
  have ae:v.cells=[v]:=by cases v<;>first|rfl|(simp[V.scalar] at a6)
  rw[R,ae]
  refine⟨rfl,fun k c aH=> ?_⟩
  cases k with
  |zero=>simp at aH;subst aH;exact h
  |succ k=>simp at aH
 ·cases h with
  |agg ak ax bc=>exact⟨ax,bc⟩
def Good(P:Program)(L:Loc)(w:World)(s:Sem Value)(v:V)(aa:Lo):Prop:=
 ∃x a2 cZ,s.run P w= .ok x a2∧bM cZ a2 v x∧cw cZ aa a2∧Fr (Own L) w a2∧Ext L w cZ
theorem Good.same{P:Program}{L:Loc}{h:Lo}{w:World}{s:Sem Value}{v:V}{x:Value}(H:cw L h w)(a6:s.run P w= .ok x w)(r:bM L w v x):Good P L w s v h:=
 ⟨x,w,L,a6,r,H,Fr.refl _ _,Ext.refl _ _⟩
def OD(op:BinOp)(k:IntKind)(a b:Int):Option V:=
 match op with
 | .add=>some (.int k (k.wrap (a+b)))
 | .sub=>some (.int k (k.wrap (a-b)))
 | .mul=>some (.int k (k.wrap (a*b)))
 | .quo=>if b=0 then none else some (.int k (k.wrap (a.tdiv b)))
 | .rem=>if b=0 then none else some (.int k (a.tmod b))
 | .and=>some (.int k (bits .and k a b))
 | .or=>some (.int k (bits .or k a b))
 | .xor=>some (.int k (bits .xor k a b))
 | .andNot=>some (.int k (bits .andNot k a b))
 | .eql=>some (.bool (a==b))
 | .neq=>some (.bool (a !=b))
 | .lss=>some (.bool (decide (a<b)))
 | .leq=>some (.bool (decide (a≤b)))
 | .gtr=>some (.bool (decide (a>b)))
 | .geq=>some (.bool (decide (a≥b)))
 | .shl| .shr=>none
def Jw(op:BinOp)(a b:Lu):Option V:=
 match op with
 | .add=>if a.length+b.length<9223372036854775808 then some (.str (a++b)) else none
 | .eql=>some (.bool (a==b))
 | .neq=>some (.bool (!(a==b)))
 | .lss=>some (.bool (Op.bytesLess a b))
 | .leq=>some (.bool (Op.bytesLess a b||a==b))
 | .gtr=>some (.bool (!(Op.bytesLess a b||a==b)))
 | .geq=>some (.bool (!Op.bytesLess a b))
 |_=>none
def tL(op:BinOp)(x y:V):Option V:=
 match x,y with
 | .int k a, .int gu b=>
  match op with
  | .shl=>if b<0 then none else some (.int k (k.wrap (a*2^(min b.toNat k.bits))))
  | .shr=>if b<0 then none else some (.int k (a.fdiv (2^(min b.toNat k.bits))))
  |op=>if k=gu then OD op k a b else none
 | .str a, .str b=>Jw op a b
 |_,_=>none
theorem Xm{P:Program}{L:Loc}{h:Lo}{w:World}(H:cw L h w){op:BinOp}{t:TypeId}{x y v:V}{a b:Value}(bh:bM L w x a)(aF:bM L w y b)
  (he:tL op x y=some v):Good P L w (binOp op t a b) v h:=by
 unfold tL at he
 split at he
 ·rename_i k m gu n
  cases bh;cases aF
  cases op<;>simp only[] at he
  case shl=>
   split at he
   ·cases he
   ·rename_i bd
    injection he with he;subst he
    exact .same H (by simp[binOp,Op.shift,bd]) (.int _ _)
  case shr=>
   split at he
   ·cases he
   ·rename_i bd
    injection he with he;subst he
    exact .same H (by simp[binOp,Op.shift,bd]) (.int _ _)
  all_goals
   split at he
   ·rename_i aH
    subst aH
    simp only[OD] at he
    first
    |(injection he with he;subst he
      first
      |exact .same H (by simp[binOp,Op.intArith,Op.intCmp,intBits_and,intBits_or,intBits_xor,intBits_andNot]) (.int _ _)
      |exact .same H (by simp[binOp,Op.intArith,Op.intCmp]) (.bool _))
    |(split at he
      ·cases he
      ·rename_i b0
       injection he with he;subst he
       exact .same H (by simp[binOp,Op.intDiv,b0]) (.int _ _))
   ·cases he
 ·rename_i l m
  cases bh;cases aF
  have ax:(⟨l.toArray⟩:ByteArray).toList=l:=ByteArray.toList_mk l
  have hm:(⟨m.toArray⟩:ByteArray).toList=m:=ByteArray.toList_mk m
  have cx:(⟨l.toArray⟩:ByteArray).size=l.length:=by simp[ByteArray.size]
  have lJ:(⟨m.toArray⟩:ByteArray).size=m.length:=by simp[ByteArray.size]
  cases op<;>simp only[Jw] at he<;>first|(cases he;done)|skip
  case add=>
   split at he
   ·rename_i bN
    injection he with he;subst he
    refine .same H (x:= .string ⟨(l++m).toArray⟩) ?_ (.str _)
    have Xn:¬(((⟨l.toArray⟩:ByteArray).size+(⟨m.toArray⟩:ByteArray).size:Nat):Int)>IntKind.i64.max:=by
     rw[cx,lJ]
     simp[IntKind.max,IntKind.signed,IntKind.bits]
     omega
    simp only[binOp,Op.stringOp,if_neg Xn,Sem.run_pure,ByteArray.mk_append_mk,List.append_toArray]
   ·cases he
  all_goals
   injection he with he;subst he
   exact .same H (by simp only[binOp,Op.stringOp,ax,hm,Sem.run_pure]) (.bool _)
 ·cases he
theorem xK{P:Program}(w:World)(op:BinOp)(t:TypeId)(x y:Operand)(a b:Value)(h:¬∃cs aM,a= .agg cs∧b= .agg aM)(aa:¬(a= .nilIface∧b= .nilIface)):(eqGuard op t x y a b).run P w= .ok () w:=by
 unfold eqGuard
 cases op<;>first|rfl|skip
 all_goals
  cases a<;>cases b<;>first|rfl|exact absurd ⟨rfl,rfl⟩ aa|exact absurd ⟨_,_,rfl,rfl⟩ h
inductive mz where
 |i|s|b
 deriving DecidableEq,Repr
inductive pM where
 |bool|ptr|slice|map|func
 |struct (n:Nat) (leaves:List (Nat × mz))
 deriving DecidableEq,Repr
def lK(h:Lo)(id:Nat):Bool:=
 match h[id]? with
 |some .dead=>false
 |some (.jW _ _ _)=>false
 |some (.tG _ _ _ _)=>false
 |some _=>true
 |none=>false
theorem vl{L:Loc}{h:Lo}{w:World}(H:cw L h w){id:Nat}(bh:lK h id=true):∃p,L.at_ id=some p:=by
 unfold lK at bh
 cases dE:h[id]? with
 |none=>simp[dE] at bh
 |some fJ=>
  have:=H.ik id _ dE
  cases fJ with
  |row es az=>obtain⟨b,base,_,_,_,R,_⟩:=this;exact⟨_,R⟩
  |map e c=>obtain⟨b,base,az,_,R,_⟩:=this;exact⟨_,R⟩
  |oa l p=>obtain⟨b,az,R,_⟩:=this;exact⟨_,R⟩
  |ob m s e d=>obtain⟨b,az,mx,R,_⟩:=this;exact⟨_,R⟩
  |dead=>simp[dE] at bh
  |jW es s n=>simp[dE] at bh
  |tG g k fU e=>simp[dE] at bh
def isNil(h:Lo):pM→V→Option Bool
 | .ptr, .ki=>some true
 | .ptr, .ptr id _ _=>if lK h id then some false else none
 | .ptr, .ref _ _=>some false
 | .slice, .ab=>some true
 | .slice, .er id _ _=>if lK h id then some false else none
 | .slice, .cx _=>some false
 | .slice, .hS=>some false
 | .map, .kv=>some true
 | .map, .mp id=>if lK h id then some false else none
 | .func, .lF=>some true
 | .func, .fn _ _=>some false
 |_,_=>none
def sq:mz→Option V→Option V→Option Bool
 | .i,some (.int k a),some (.int gu b)=>if k=gu then some (a==b) else none
 | .s,some (.str a),some (.str b)=>some (a==b)
 | .b,some (.bool a),some (.bool b)=>some (a==b)
 |_,_,_=>none
def l9(cs aM:Lv):List (Nat × mz)→Option Bool
 | []=>some true
 |(ao,k)::ls=>match sq k cs[ao]? aM[ao]? with
  |some true=>l9 cs aM ls
  |some false=>some false
  |none=>none
def sr(h:Lo)(T:pM)(x y:V):Option Bool:=
 match T,x,y with
 | .bool, .bool a, .bool b=>some (a==b)
 | .struct n ls, .agg cs, .agg aM=>if cs.length=n∧aM.length=n then l9 cs aM ls else none
 | .bool,_,_=>none
 | .struct _ _,_,_=>none
 |T,x,y=>match isNil h T x,isNil h T y with
  |some true,some b=>some b
  |some b,some true=>some b
  |_,_=>none
def AO(f:Field→Option (List (Nat × mz))):List Field→Option (List (Nat × mz))
 | []=>some []
 |g::gs=>if g.name= "_" then AO f gs else match f g,AO f gs with
  |some a,some b=>some (a++b)
  |_,_=>none
def rp(P:Program):Nat→TypeId→Option (List (Nat × mz))
 |0,_=>none
 |d+1,t=>match P.underlying t with
  |some .bool=>if P.cellsOf t=1 then some [(0, .b)] else none
  |some (.int _)=>if P.cellsOf t=1 then some [(0, .i)] else none
  |some .string=>if P.cellsOf t=1 then some [(0, .s)] else none
  |some (.struct cc)=>if P.stoodInHeld t then none else
    AO (fun g=>match P.info? g.type,rp P d g.type with
     |some i,some ls=>if ls.all (·.1<i.size)∧g.offset+i.size≤P.cellsOf t then some (ls.map fun p=>(g.offset+p.1,p.2)) else none
     |_,_=>none) cc.toList
  |_=>none
theorem OE(cs aM:Lv):∀(a b:List (Nat × mz)),l9 cs aM (a++b)=(match l9 cs aM a with|some true=>l9 cs aM b|x=>x)
 | [],b=>by simp[l9]
 |(ao,k)::a,b=>by
  simp only[List.cons_append,l9]
  cases sq k cs[ao]? aM[ao]? with
  |none=>rfl
  |some r=>cases r with
   |true=>exact OE cs aM a b
   |false=>rfl
theorem OF(cs aM:Lv)(off n:Nat):∀(ls:List (Nat × mz)),(ls.all (·.1<n))=true→
  l9 cs aM (ls.map fun p=>(off+p.1,p.2))=l9 ((cs.drop off).take n) ((aM.drop off).take n) ls
 | [],_=>rfl
 |(ao,k)::ls,h=>by
  simp only[List.all_cons,Bool.and_eq_true,decide_eq_true_eq] at h
  simp only[List.map_cons,l9]
  have aV:((cs.drop off).take n)[ao]? =cs[off+ao]? :=by rw[List.getElem?_take,if_pos h.1,List.getElem?_drop]
  have bb:((aM.drop off).take n)[ao]? =aM[off+ao]? :=by rw[List.getElem?_take,if_pos h.1,List.getElem?_drop]
  rw[aV,bb,OF cs aM off n ls h.2]
def jH(P:Program)(t:TypeId):Bool:=match P.underlying t with
 |some (.struct _)=>true
 |some (.array _ _)=>true
 |_=>false
theorem xL{P:Program}(w:World){t:TypeId}(h:(P.underlying t).isSome=true):(isAgg t).run P w= .ok (jH P t) w:=by
 unfold isAgg jH
 obtain⟨d,bj⟩:=Option.isSome_iff_exists.1 h
 simp only[Sem.run_bind,run_underlying bj,Result.andThen_ok,bj]
 cases d<;>rfl
theorem run_sizeOf{P:Program}(w:World){t:TypeId}{i:TypeInfo}(h:P.info? t=some i):(sizeOf t).run P w= .ok i.size w:=by
 simp[sizeOf,typeInfo,h]
theorem Xo{P:Program}{L:Loc}{w:World}{u:TypeId}{i:TypeInfo}{cs:Lv}{xs:Array Value}(ax:xs.size=cs.length)(bc:∀k c,cs[k]? =some c→bM L w c (xs.getD k undef))
  (aw:P.info? u=some i) (hu:(P.underlying u).isSome=true) (off:Nat):
  (jH P u=true→off+i.size≤cs.length→∃a_,(part u xs off).run P w= .ok (.agg a_) w∧a_.size=((cs.drop off).take i.size).length∧∀k c,((cs.drop off).take i.size)[k]? =some c→bM L w c (a_.getD k undef))∧
  (jH P u=false→∀c,cs[off]? =some c→∃y,(part u xs off).run P w= .ok y w∧bM L w c y):=by
 refine⟨fun h aF=>⟨xs.extract off (off+i.size), ?_, ?_, ?_⟩,fun h c an=> ?_⟩
 ·simp only[part,Sem.run_bind,xL w hu,h,Result.andThen_ok,if_true,run_sizeOf w aw,Sem.run_pure]
 ·simp[ax];omega
 ·intro k c aH
  rw[List.getElem?_take] at aH
  split at aH
  ·rename_i bN
   rw[List.getElem?_drop] at aH
   have:=bc _ _ aH
   have e:(xs.extract off (off+i.size)).getD k undef=xs.getD (off+k) undef:=by
    rw[Array.getD_eq_getD_getElem?,Array.getD_eq_getD_getElem?,Array.getElem?_extract]
    rw[if_pos (by omega)]
   rw[e];exact this
  ·cases aH
 ·have bN:off<xs.size:=by
   rw[ax]
   exact(List.getElem?_eq_some_iff.1 an).1
  have au:xs[off]? =some xs[off]:=by simp[bN]
  refine⟨xs[off], ?_, ?_⟩
  ·simp only[part,Sem.run_bind,xL w hu,h,Result.andThen_ok,Bool.false_eq_true,if_false,au,Sem.run_pure]
  ·have:=bc _ _ an
   rwa[Array.getD_eq_getD_getElem?,au] at this
def Jx(P:Program)(L:Loc)(w:World)(t:TypeId)(cs:Lv)(a:Value):Prop:=
 (jH P t=true∧cs.length=P.cellsOf t∧∃xs:Array Value,a= .agg xs∧xs.size=cs.length∧∀k c,cs[k]? =some c→bM L w c (xs.getD k undef))∨
 (jH P t=false∧∃c,cs=[c]∧bM L w c a)
theorem Jy(cs aM:Lv)(k:mz)(r:Bool)(h:l9 cs aM [(0,k)]=some r):sq k cs[0]? aM[0]? =some r:=by
 simp only[l9] at h
 split at h<;>simp_all
theorem OG{P:Program}{L:Loc}{w:World}:∀(d:Nat) (t:TypeId) (D:Nat) (ls:List (Nat × mz)) (cs aM:Lv) (a b:Value) (r:Bool),
  rp P d t=some ls→Jx P L w t cs a→Jx P L w t aM b→l9 cs aM ls=some r→(Op.equalIn (D+d) t a b).run P w= .ok r w
 |0,t,D,ls,cs,aM,a,b,r,ax,_,_,_=>by simp[rp] at ax
 |d+1,t,D,ls,cs,aM,a,b,r,ax,bh,aF,he=>by
  unfold rp at ax
  split at ax
  ·rename_i hu
   obtain⟨_,rfl⟩:P.cellsOf t=1∧ls=_:=by
    split at ax
    ·rename_i q;exact⟨q,(Option.some.inj ax).symm⟩
    ·cases ax
   have a6:jH P t=false:=by simp[jH,hu]
   rcases bh with⟨R,_⟩|⟨_,c,rfl,an⟩
   ·rw[a6] at R;cases R
   rcases aF with⟨R,_⟩|⟨_,c0,rfl,vm⟩
   ·rw[a6] at R;cases R
   have he:=Jy _ _ _ _ he
   cases c<;>cases c0<;>simp[sq] at he
   cases an;cases vm;subst he
   exact run_equalIn_bool w (D+d) t _ _ hu
  ·rename_i k hu
   obtain⟨_,rfl⟩:P.cellsOf t=1∧ls=_:=by
    split at ax
    ·rename_i q;exact⟨q,(Option.some.inj ax).symm⟩
    ·cases ax
   have a6:jH P t=false:=by simp[jH,hu]
   rcases bh with⟨R,_⟩|⟨_,c,rfl,an⟩
   ·rw[a6] at R;cases R
   rcases aF with⟨R,_⟩|⟨_,c0,rfl,vm⟩
   ·rw[a6] at R;cases R
   have he:=Jy _ _ _ _ he
   cases c<;>cases c0<;>simp[sq] at he
   obtain⟨rfl,rfl⟩:=he
   cases an;cases vm
   exact run_equalIn_int w (D+d) t _ _ _ _ hu
  ·rename_i hu
   obtain⟨_,rfl⟩:P.cellsOf t=1∧ls=_:=by
    split at ax
    ·rename_i q;exact⟨q,(Option.some.inj ax).symm⟩
    ·cases ax
   have a6:jH P t=false:=by simp[jH,hu]
   rcases bh with⟨R,_⟩|⟨_,c,rfl,an⟩
   ·rw[a6] at R;cases R
   rcases aF with⟨R,_⟩|⟨_,c0,rfl,vm⟩
   ·rw[a6] at R;cases R
   have he:=Jy _ _ _ _ he
   cases c<;>cases c0<;>simp[sq] at he
   cases an;cases vm;subst he
   rw[show D+(d+1)=(D+d)+1 from rfl,run_equalIn_string w (D+d) t _ _ hu,ByteArray.toList_mk,ByteArray.toList_mk]
  ·rename_i cc hu
   have a6:jH P t=true:=by simp[jH,hu]
   split at ax
   ·cases ax
   rename_i hp
   obtain⟨hlen,xs,rfl,au,Xp⟩:cs.length=P.cellsOf t∧∃xs:Array Value,a= .agg xs∧xs.size=cs.length∧∀k c,cs[k]? =some c→bM L w c (xs.getD k undef):=by
    rcases bh with⟨_,h⟩|⟨R,_⟩
    ·exact h
    ·rw[a6] at R;cases R
   obtain⟨Xq,a_,rfl,bT,Xr⟩:aM.length=P.cellsOf t∧∃xs:Array Value,b= .agg xs∧xs.size=aM.length∧∀k c,aM[k]? =some c→bM L w c (xs.getD k undef):=by
    rcases aF with⟨_,h⟩|⟨R,_⟩
    ·exact h
    ·rw[a6] at R;cases R
   have aS:P.fieldsOf t=cc:=by simp[Program.fieldsOf,hu]
   rw[show D+(d+1)=(D+d)+1 from rfl,run_equalIn_struct w (D+d) t xs a_ (by rw[aS];exact hu) (by simpa using hp),aS]
   generalize cc.toList=l at ax
   clear aS hu hp
   induction l generalizing ls r with
   |nil=>
    simp only[AO] at ax
    injection ax with ax;subst ax
    simp[l9] at he;subst he
    simp[Op.eqFields]
   |cons g gs ba=>
    simp only[AO] at ax
    by_cases bd:g.name= "_"
    ·rw[if_pos bd] at ax
     simp only[Op.eqFields]
     rw[if_neg (by simpa using bd)]
     exact ba ls r he ax
    ·rw[if_neg bd] at ax
     split at ax
     ·rename_i gP kj R ae
      injection ax with ax;subst ax
      rw[OE] at he
      split at R
      ·rename_i i DK aw lL
       split at R
       ·rename_i pN
        injection R with R;subst R
        rw[OF cs aM g.offset i.size DK pN.1] at he
        simp only[Op.eqFields]
        rw[if_pos (by simpa using bd)]
        have Xs:(P.underlying g.type).isSome=true:=by
         cases d with
         |zero=>simp[rp] at lL
         |succ d=>
          unfold rp at lL
          cases q:P.underlying g.type with
          |some _=>rfl
          |none=>rw[q] at lL;cases lL
        have cells:∀(fU:Array Value) (es:Lv),es.length=P.cellsOf t→fU.size=es.length→(∀k c,es[k]? =some c→bM L w c (fU.getD k undef))→
          ∃u,(part g.type fU g.offset).run P w= .ok u w∧Jx P L w g.type ((es.drop g.offset).take i.size) u:=by
         intro fU es aE aR bE
         have OH:P.cellsOf g.type=i.size:=by simp[Program.cellsOf,aw]
         have:=Xo (P:=P) aR bE aw Xs g.offset
         by_cases pO:jH P g.type=true
         ·obtain⟨us,aX,aY,cU⟩:=this.1 pO (by rw[aE];exact pN.2)
          refine⟨_,aX, .inl ⟨pO, ?_,us,rfl,aY,cU⟩⟩
          have:=pN.2
          simp[OH,aE];omega
         ·have pO:jH P g.type=false:=by simpa using pO
          have R:i.size=1:=by
           cases d with
           |zero=>simp[rp] at lL
           |succ d=>
            unfold rp at lL
            rw[OH] at lL
            split at lL
            ·split at lL
             ·assumption
             ·cases lL
            ·split at lL
             ·assumption
             ·cases lL
            ·split at lL
             ·assumption
             ·cases lL
            ·rename_i q;simp[jH,q] at pO
            ·cases lL
          have bN:g.offset<es.length:=by rw[aE];have:=pN.2;omega
          obtain⟨u,aX,aY⟩:=this.2 pO es[g.offset] (by simp[bN])
          refine⟨u,aX, .inr ⟨pO,es[g.offset], ?_,aY⟩⟩
          rw[R,List.drop_eq_getElem_cons bN];rfl
        obtain⟨u,aV,bF⟩:=cells xs cs hlen au Xp
        obtain⟨nI,bb,bD⟩:=cells a_ aM Xq bT Xr
        simp only[Sem.run_bind,aV,bb,Result.andThen_ok]
        cases bm:l9 ((cs.drop g.offset).take i.size) ((aM.drop g.offset).take i.size) DK with
        |none=>rw[bm] at he;cases he
        |some q=>
         have:=OG d g.type D DK _ _ u nI q lL bF bD bm
         rw[this]
         rw[bm] at he
         cases q with
         |true=>
          simp only[Result.andThen_ok]
          simp
          exact ba kj r he ae
         |false=>
          injection he with he;subst he
          simp
       ·cases R
      ·cases R
     ·cases ax
  ·cases ax
def pM.fits(P:Program)(t:TypeId):pM→Prop
 | .bool=>P.underlying t=some .bool
 | .ptr=>∃e,P.underlying t=some (.pointer e)
 | .slice=>∃e,P.underlying t=some (.slice e)
 | .map=>∃k e,P.underlying t=some (.map k e)
 | .func=>∃a b c,P.underlying t=some (.func a b c)
 | .struct n ls=>rp P 8 t=some ls∧P.eqGuardType P.depth t=false∧jH P t=true∧P.cellsOf t=n
theorem OI{L:Loc}{h:Lo}{w:World}(H:cw L h w){T:pM}{v:V}{x:Value}{b:Bool}(r:bM L w v x)(he:isNil h T v=some b):
  (T= .ptr∧∃p,x= .pointer p∧p.isNone=b)∨(T= .slice∧∃p n c,x= .slice p n c∧p.isNone=b∧(b=true→n=0∧c=0))∨(T= .map∧∃p,x= .map p∧p.isNone=b)∨
  (T= .func∧((b=true∧x= .nilFunc)∨(b=false∧∃f c d,x= .func f c d))):=by
 unfold isNil at he
 split at he
 ·injection he with he;subst he;cases r;exact .inl ⟨rfl,_,rfl,rfl⟩
 ·split at he
  ·rename_i bh
   injection he with he;subst he
   obtain⟨p,hp⟩:=vl H bh
   cases r with
   |ptr _=>exact .inl ⟨rfl,_,rfl,rfl⟩
   |nC _ h=>rw[hp] at h;cases h
  ·cases he
 ·injection he with he;subst he;cases r;exact .inl ⟨rfl,_,rfl,rfl⟩
 ·injection he with he;subst he;cases r;exact .inr (.inl ⟨rfl,_,_,_,rfl,rfl,fun _=>⟨rfl,rfl⟩⟩)
 ·split at he
  ·rename_i bh
   injection he with he;subst he
   obtain⟨p,hp⟩:=vl H bh
   cases r with
   |er _=>exact .inr (.inl ⟨rfl,_,_,_,rfl,rfl,fun h=>by cases h⟩)
   |lH _ h=>rw[hp] at h;cases h
  ·cases he
 ·injection he with he;subst he
  cases r<;>exact .inr (.inl ⟨rfl,_,_,_,rfl,rfl,fun h=>by cases h⟩)
 ·injection he with he;subst he
  cases r;exact .inr (.inl ⟨rfl,_,_,_,rfl,rfl,fun h=>by cases h⟩)
 ·injection he with he;subst he;cases r;exact .inr (.inr (.inl ⟨rfl,_,rfl,rfl⟩))
 ·split at he
  ·rename_i bh
   injection he with he;subst he
   obtain⟨p,hp⟩:=vl H bh
   cases r with
   |mp _=>exact .inr (.inr (.inl ⟨rfl,_,rfl,rfl⟩))
   |tE _ h=>rw[hp] at h;cases h
  ·cases he
 ·injection he with he;subst he;cases r;exact .inr (.inr (.inr ⟨rfl, .inl ⟨rfl,rfl⟩⟩))
 ·injection he with he;subst he;cases r;exact .inr (.inr (.inr ⟨rfl, .inr ⟨rfl,_,_,_,rfl⟩⟩))
 ·cases he
theorem Xt{P:Program}(w:World)(d:Nat){t e:TypeId}(hu:P.underlying t=some (.pointer e))(m cC:Option Addr)(h:m=none∨cC=none):
  (Op.equalIn (d+1) t (.pointer m) (.pointer cC)).run P w= .ok (m.isNone&&cC.isNone) w:=by
 rcases h with rfl|rfl
 ·cases cC<;>simp[Op.equalIn,run_underlying hu]
 ·cases m<;>simp[Op.equalIn,run_underlying hu]
theorem Xu{P:Program}(w:World)(d:Nat){t e:TypeId}(hu:P.underlying t=some (.slice e))(m cC:Option Addr)(n c jI c0:Nat)(h:m=none∨cC=none):
  (Op.equalIn (d+1) t (.slice m n c) (.slice cC jI c0)).run P w= .ok (m.isNone&&cC.isNone) w:=by
 rcases h with rfl|rfl
 ·cases cC<;>simp[Op.equalIn,run_underlying hu]
 ·cases m<;>simp[Op.equalIn,run_underlying hu]
theorem Xv{P:Program}(w:World)(d:Nat){t k e:TypeId}(hu:P.underlying t=some (.map k e))(m cC:Option Nat)(h:m=none∨cC=none):
  (Op.equalIn (d+1) t (.map m) (.map cC)).run P w= .ok (m.isNone&&cC.isNone) w:=by
 rcases h with rfl|rfl
 ·cases cC<;>simp[Op.equalIn,run_underlying hu]
 ·cases m<;>simp[Op.equalIn,run_underlying hu]
theorem Jz{P:Program}(w:World)(d:Nat){t:TypeId}{ar aA:Array TypeId}{aT:Bool}(hu:P.underlying t=some (.func ar aA aT))(f gj:Fn)(c e c0 ct:Array Value):
  (Op.equalIn (d+1) t .nilFunc .nilFunc).run P w= .ok true w∧(Op.equalIn (d+1) t .nilFunc (.func f c e)).run P w= .ok false w∧(Op.equalIn (d+1) t (.func f c e) .nilFunc).run P w= .ok false w:=
 ⟨by simp[Op.equalIn,run_underlying hu],by simp[Op.equalIn,run_underlying hu],by simp[Op.equalIn,run_underlying hu]⟩
theorem Xw{p q r:Bool}(h:(match some p,some q with|some true,some b=>some b|some b,some true=>some b|_,_=>none)=some r):(p=true∨q=true)∧r=(p&&q):=by
 cases p<;>cases q<;>simp at h<;>subst h<;>simp
theorem Xx{P:Program}{L:Loc}{h:Lo}{w:World}(H:cw L h w){t:TypeId}{T:pM}(eE:T.fits P t){x y:V}{a b:Value}{r:Bool}(bh:bM L w x a)(aF:bM L w y b)
  (he:sr h T x y=some r):(Op.equal t a b).run P w= .ok r w∧(∀op x y,(eqGuard op t x y a b).run P w= .ok () w)∧
   (∀op,op= .eql∨op= .neq→binOp op t a b=(if op= .eql then(do pure (.bool (←Op.equal t a b))) else(do pure (.bool (!(←Op.equal t a b)))))):=by
 have Xy:∀{T:pM},T.fits P t→(match isNil h T x,isNil h T y with|some true,some b=>some b|some b,some true=>some b|_,_=>none)=some r→
   (Op.equal t a b).run P w= .ok r w∧(∀op x y,(eqGuard op t x y a b).run P w= .ok () w)∧
   (∀op,op= .eql∨op= .neq→binOp op t a b=(if op= .eql then(do pure (.bool (←Op.equal t a b))) else(do pure (.bool (!(←Op.equal t a b)))))):=by
  intro T eE he
  cases R:isNil h T x with
  |none=>rw[R] at he;simp at he
  |some p=>
   cases ae:isNil h T y with
   |none=>rw[R,ae] at he;cases p<;>simp at he
   |some q=>
    rw[R,ae] at he
    obtain⟨DL,rfl⟩:=Xw he
    have s1:=OI H bh R
    have s2:=OI H aF ae
    rcases s1 with⟨rfl,m,rfl,rfl⟩|⟨rfl,m,n,c,rfl,rfl,aqZ⟩|⟨rfl,m,rfl,rfl⟩|⟨rfl,hm⟩
    ·rcases s2 with⟨_,cC,rfl,rfl⟩|⟨dw,_⟩|⟨dw,_⟩|⟨dw,_⟩<;>first|cases dw|skip
     obtain⟨e,hu⟩:=eE
     exact⟨Xt w 9999 hu m cC (by simpa using DL),fun op x y=>xK w op t x y _ _ (by simp) (by simp),fun op cj=>by rcases cj with rfl|rfl<;>rfl⟩
    ·rcases s2 with⟨dw,_⟩|⟨_,cC,jI,c0,rfl,rfl,aq0⟩|⟨dw,_⟩|⟨dw,_⟩<;>first|cases dw|skip
     obtain⟨e,hu⟩:=eE
     exact⟨Xu w 9999 hu m cC n c jI c0 (by simpa using DL),fun op x y=>xK w op t x y _ _ (by simp) (by simp),fun op cj=>by rcases cj with rfl|rfl<;>rfl⟩
    ·rcases s2 with⟨dw,_⟩|⟨dw,_⟩|⟨_,cC,rfl,rfl⟩|⟨dw,_⟩<;>first|cases dw|skip
     obtain⟨k,e,hu⟩:=eE
     exact⟨Xv w 9999 hu m cC (by simpa using DL),fun op x y=>xK w op t x y _ _ (by simp) (by simp),fun op cj=>by rcases cj with rfl|rfl<;>rfl⟩
    ·rcases s2 with⟨dw,_⟩|⟨dw,_⟩|⟨dw,_⟩|⟨_,l_⟩<;>first|cases dw|skip
     obtain⟨ar,aA,aT,hu⟩:=eE
     refine⟨?_,fun op x y=>xK w op t x y _ _ ?_ ?_,fun op cj=> ?_⟩
     ·rcases hm with⟨rfl,rfl⟩|⟨rfl,f,c,d,rfl⟩<;>rcases l_ with⟨rfl,rfl⟩|⟨rfl,gj,c0,g4,rfl⟩
      ·exact(Jz w 9999 hu default default #[] #[] #[] #[]).1
      ·exact(Jz w 9999 hu gj default c0 g4 #[] #[]).2.1
      ·exact(Jz w 9999 hu f default c d #[] #[]).2.2
      ·simp at DL
     ·rcases hm with⟨rfl,rfl⟩|⟨rfl,f,c,d,rfl⟩<;>simp
     ·rcases hm with⟨rfl,rfl⟩|⟨rfl,f,c,d,rfl⟩<;>simp
     ·rcases hm with⟨rfl,rfl⟩|⟨rfl,f,c,d,rfl⟩<;>rcases l_ with⟨rfl,rfl⟩|⟨rfl,gj,c0,g4,rfl⟩<;>rcases cj with rfl|rfl<;>rfl
 unfold sr at he
 split at he
 ·injection he with he;subst he
  cases bh;cases aF
  refine⟨run_equalIn_bool w 9999 t _ _ eE,fun op x y=>xK w op t x y _ _ (by simp) (by simp),fun op cj=>by rcases cj with rfl|rfl<;>rfl⟩
 ·rename_i n ls cs aM
  split at he
  ·rename_i bd
   obtain⟨ax,dt,a6,an⟩:=eE
   cases bh with
   |agg xs R ae=>cases aF with
    |agg a_ aQ bo=>
     refine⟨?_,fun op x y=>run_eqGuard_agg w op t x y xs a_ dt,fun op cj=>by rcases cj with rfl|rfl<;>rfl⟩
     have:=OG (P:=P) (w:=w) 8 t 9992 ls cs aM (.agg xs) (.agg a_) r ax (.inl ⟨a6,by rw[bd.1,an],xs,rfl,R,ae⟩) (.inl ⟨a6,by rw[bd.2,an],a_,rfl,aQ,bo⟩) he
     exact this
  ·cases he
 ·cases he
 ·cases he
 ·exact Xy eE he
def lh(h:Lo)(n:Nat):V→Option (Lv)
 | .ptr id i o=>match h[id]? with
  |some (.row es az)=>
   if o+n≤az then(es[i]?).map fun e=>(e.cells.drop o).take n
   else if o=0∧az=1∧i+n≤es.length then some (((es.drop i).take n).flatMap V.cells) else none
  |_=>none
 | .ref e o=>if o+n≤e.cells.length then some ((e.cells.drop o).take n) else none
 |_=>none
theorem OJ:∀(es:Lv) (k:Nat) (c:V),(∀(i:Nat) (e:V),es[i]? =some e→e.cells.length=1)→(es.flatMap V.cells)[k]? =some c→∃e,es[k]? =some e∧e.cells[0]? =some c
 | [],k,c,_,h=>by simp at h
 |e::es,k,c,a6,h=>by
  have R:=a6 0 e (by simp)
  rw[List.flatMap_cons] at h
  cases k with
  |zero=>
   rw[List.getElem?_append_left (by omega)] at h
   exact⟨e,by simp,h⟩
  |succ k=>
   rw[List.getElem?_append_right (by omega),R] at h
   obtain⟨ct,aX,aY⟩:=OJ es k c (fun i x au=>a6 (i+1) x (by simpa using au)) (by simpa using h)
   exact⟨ct,by simpa using aX,aY⟩
theorem JA:∀(es:Lv),(∀(i:Nat) (e:V),es[i]? =some e→e.cells.length=1)→(es.flatMap V.cells).length=es.length
 | [],_=>rfl
 |e::es,a6=>by
  rw[List.flatMap_cons,List.length_append,a6 0 e (by simp),JA es (fun i x au=>a6 (i+1) x (by simpa using au))]
  simp<;>omega
theorem DM{L:Loc}{h:Lo}{w:World}(H:cw L h w){n:Nat}{v:V}{x:Value}{cs:Lv}(r:bM L w v x)(he:lh h n v=some cs):
  ∃b ao,x= .pointer (some ⟨b,ao,none⟩)∧cs.length=n∧∃f:Nat→Value,(∀k,k<n→w.cell? ⟨b,ao+k,none⟩=some (f k))∧∀k c,cs[k]? =some c→bM L w c (f k):=by
 unfold lh at he
 split at he
 ·rename_i id i o
  split at he
  ·rename_i es az dE
   obtain⟨b,base,c,e,cN,R,ae,aQ,bo,bI⟩:=H.ik id _ dE
   have au:x= .pointer (some ⟨b,base+i*az+o,none⟩):=by
    cases r with
    |ptr g=>rw[R] at g;injection g with g;injection g with aX aY;injection aY with aY cU;subst aX;subst aY;subst cU;rfl
    |nC _ g=>rw[R] at g;cases g
   split at he
   ·rename_i U
    simp only[Option.map_eq_some_iff] at he
    obtain⟨y,bT,rfl⟩:=he
    have hlen:=(bo i y bT).1
    have key:∀k,k<n→∃v,c[base+i*az+(o+k)]? =some v∧∀z,y.cells[o+k]? =some z→bM L w z v:=by
     intro k aH
     have b0:y.cells[o+k]? =some y.cells[o+k]:=by simp<;>omega
     obtain⟨v,aX,aY⟩:=bI i (o+k) y _ bT b0
     exact⟨v,aX,fun z pP=>by rw[b0] at pP;injection pP with pP;subst pP;exact aY⟩
    refine⟨b,_,au,by simp<;>omega,fun k=>(c[base+i*az+(o+k)]?).getD undef,fun k aH=> ?_,fun k z b0=> ?_⟩
    ·obtain⟨v,aX,_⟩:=key k aH
     show _=some ((c[base+i*az+(o+k)]?).getD undef)
     rw[vj ae,show base+i*az+o+k=base+i*az+(o+k) by omega,aX];rfl
    ·rw[List.getElem?_take] at b0
     split at b0
     ·rename_i aH
      rw[List.getElem?_drop] at b0
      obtain⟨v,aX,aY⟩:=key k aH
      show bM L w z ((c[base+i*az+(o+k)]?).getD undef)
      rw[aX];exact aY z b0
     ·cases b0
   ·split at he
    ·rename_i dw
     obtain⟨rfl,rfl,jX⟩:=dw
     injection he with he;subst he
     have AP:∀(k:Nat) (e:V),((es.drop i).take n)[k]? =some e→e.cells.length=1:=by
      intro k y bT
      rw[List.getElem?_take] at bT
      split at bT
      ·rw[List.getElem?_drop] at bT;exact(bo _ y bT).1
      ·cases bT
     have key:∀k,k<n→∃v,c[base+i*1+0+k]? =some v∧∀z,((((es.drop i).take n).flatMap V.cells))[k]? =some z→bM L w z v:=by
      intro k aH
      have bT:es[i+k]? =some es[i+k]:=by simp<;>omega
      have aq1:=(bo _ _ bT).1
      have b0:(es[i+k]).cells[0]? =some (es[i+k]).cells[0]:=by simp<;>omega
      obtain⟨v,aX,aY⟩:=bI (i+k) 0 _ _ bT b0
      refine⟨v,by rw[←aX];congr 1;omega,fun z pP=> ?_⟩
      obtain⟨ct,aE,aR⟩:=OJ _ k z AP pP
      rw[List.getElem?_take,if_pos aH,List.getElem?_drop,bT] at aE
      injection aE with aE;subst aE
      rw[b0] at aR;injection aR with aR;subst aR;exact aY
     refine⟨b,_,au,by rw[JA _ AP];simp<;>omega,fun k=>(c[base+i*1+0+k]?).getD undef,fun k aH=> ?_,fun k z b0=> ?_⟩
     ·obtain⟨v,aX,_⟩:=key k aH
      show _=some ((c[base+i*1+0+k]?).getD undef)
      rw[vj ae,aX];rfl
     ·have aH:k<n:=by
       have:=(List.getElem?_eq_some_iff.1 b0).1
       rw[JA _ AP] at this
       simp at this;omega
      obtain⟨v,aX,aY⟩:=key k aH
      show bM L w z ((c[base+i*1+0+k]?).getD undef)
      rw[aX];exact aY z b0
    ·cases he
  ·cases he
 ·rename_i e o
  split at he
  ·rename_i U
   injection he with he;subst he
   cases r with
   | @ref _ _ b ao f cj aF an bc=>
    refine⟨b,ao+o,rfl,by simp<;>omega,fun k=>f (o+k),fun k aH=> ?_,fun k z b0=> ?_⟩
    ·have b0:e.cells[o+k]? =some e.cells[o+k]:=by simp<;>omega
     have:=an _ _ b0
     rw[show ao+o+k=ao+(o+k) by omega];exact this
    ·rw[List.getElem?_take] at b0
     split at b0
     ·rw[List.getElem?_drop] at b0;exact bc _ _ b0
     ·cases b0
  ·cases he
 ·cases he
def mA(h:Lo)(v:V):Option V:=
 match lh h 1 v with
 |some [c]=>some c
 |_=>none
def dS(h:Lo)(n:Nat)(v:V):Option V:=(lh h n v).map .agg
theorem Xz{P:Program}{L:Loc}{h:Lo}{w:World}(H:cw L h w){t:TypeId}{v c:V}{x:Value}(hu:(P.underlying t).isSome=true)(a6:jH P t=false)
  (r:bM L w v x) (he:mA h v=some c):Good P L w (Instr.loadAt t x) c h:=by
 unfold mA at he
 split at he
 ·rename_i c0 an
  injection he with he;subst he
  obtain⟨b,ao,rfl,_,f,R,ae⟩:=DM H r an
  refine .same H (x:=f 0) ?_ (ae 0 _ rfl)
  have:=R 0 (by omega)
  simp only[Nat.add_zero] at this
  simp only[Instr.loadAt,Instr.sureAddr,loadVar,Sem.run_bind,Sem.run_pure,Result.andThen_ok,xL w hu,a6,Bool.false_eq_true,if_false,run_load,this]
 ·cases he
theorem XA{P:Program}{L:Loc}{h:Lo}{w:World}(H:cw L h w){t:TypeId}{i:TypeInfo}{v c:V}{x:Value}(aw:P.info? t=some i)(hu:(P.underlying t).isSome=true)(a6:jH P t=true)
  (r:bM L w v x) (he:dS h i.size v=some c):Good P L w (Instr.loadAt t x) c h:=by
 unfold dS at he
 simp only[Option.map_eq_some_iff] at he
 obtain⟨cs,an,rfl⟩:=he
 obtain⟨b,ao,rfl,ax,f,R,ae⟩:=DM H r an
 refine .same H (x:= .agg ((List.range i.size).map f).toArray) ?_ (.agg _ (by simp[ax]) (fun k c aH=> ?_))
 ·simp only[Instr.loadAt,Instr.sureAddr,loadVar,Sem.run_bind,Sem.run_pure,Result.andThen_ok,xL w hu,a6,if_true,run_sizeOf w aw,E.run_loadCells P w b ao i.size f R]
 ·have oV:k<i.size:=by rw[←ax];exact(List.getElem?_eq_some_iff.1 aH).1
  have:=ae k c aH
  rw[Array.getD_eq_getD_getElem?]
  simp[oV];exact this
def OK(off:Nat):V→Option V
 | .ptr id i o=>some (.ptr id i (o+off))
 | .ref e o=>some (.ref e (o+off))
 |_=>none
theorem OL{P:Program}{L:Loc}{h:Lo}{w:World}(H:cw L h w){t:TypeId}{cc:Array Field}{k:Nat}{g:Field}{i:TypeInfo}{v c:V}{x:Value}(oY:∀id i o,v= .ptr id i o→lK h id=true)
  (hu:P.underlying t=some (.struct cc)) (dt:cc[k]? =some g) (aw:P.info? g.type=some i) (b0:i.size≠0) (r:bM L w v x) (he:OK g.offset v=some c):Good P L w (Instr.fieldAt t x k) c h:=by
 have key:∀b ao,x= .pointer (some ⟨b,ao,none⟩)→(Instr.fieldAt t x k).run P w= .ok (.pointer (some ⟨b,ao+g.offset,none⟩)) w:=by
  intro b ao au
  subst au
  simp only[Instr.fieldAt,Sem.run_bind,run_underlying hu,Result.andThen_ok,dt,Instr.sureAddr,Sem.run_pure,fieldPlace,run_sizeOf w aw,if_neg b0,tH]
 unfold OK at he
 split at he
 ·rename_i id a o
  injection he with he;subst he
  obtain⟨p,hp⟩:=vl H (oY _ _ _ rfl)
  cases r with
  | @ptr _ _ _ b base az q=>exact .same H (key _ _ rfl) (by rw[Nat.add_assoc];exact .ptr q)
  |nC _ q=>rw[hp] at q;cases q
 ·injection he with he;subst he
  cases r with
  |ref f cj aF an bc=>exact .same H (key _ _ rfl) (by rw[Nat.add_assoc];exact .ref f cj aF an bc)
 ·cases he
def nJ(h:Lo)(az:Nat)(v:V)(i:Int):Option V:=
 match v with
 | .er id off len=>if 0≤i∧i<len then
   match h[id]? with
   |some (.row _ s)=>if s=az then some (.ptr id (off+i.toNat) 0) else none
   |_=>none
  else none
 | .cx es=>if 0≤i then(es[i.toNat]?).bind fun e=>if e.cells.length=az then some (.ref e 0) else none else none
 |_=>none
theorem XB{P:Program}{L:Loc}{h:Lo}{w:World}(H:cw L h w){t e:TypeId}{i:TypeInfo}{v c:V}{x:Value}{k:IntKind}{m:Int}
  (hu:P.underlying t=some (.slice e)) (aw:P.info? e=some i) (r:bM L w v x) (he:nJ h i.size v m=some c):Good P L w (Instr.indexAt t x (.int k m)) c h:=by
 have key:∀b ao len cap,x= .slice (some ⟨b,ao,none⟩) len cap→0≤m→m<len→(Instr.indexAt t x (.int k m)).run P w= .ok (.pointer (some ⟨b,ao+m.toNat*i.size,none⟩)) w:=by
  intro b ao len cap au aI R
  subst au
  simp only[Instr.indexAt,asIntOf,Sem.run_bind,Sem.run_pure,Result.andThen_ok,run_underlying hu,aI,R,and_self,if_true,run_sizeOf w aw,tH]
 unfold nJ at he
 split at he
 ·rename_i id off len
  split at he
  ·rename_i hm
   split at he
   ·rename_i es s dE
    obtain⟨b,base,ky,kz,cN,R,ae,aQ,bo,bI⟩:=H.ik id _ dE
    split at he
    ·rename_i dw
     subst dw
     injection he with he;subst he
     cases r with
     |er g an b0=>
      rw[R] at g;injection g with g;injection g with aX aY;injection aY with aY cU;subst aX;subst aY;subst cU
      refine .same H (key _ _ _ _ rfl hm.1 hm.2) ?_
      have:=bM.ptr (w:=w) (i:=off+m.toNat) (o:=0) R
      rw[Nat.add_mul] at this
      simpa [Nat.add_assoc] using this
     |lH _ g=>rw[R] at g;cases g
    ·cases he
   ·cases he
  ·cases he
 ·rename_i es
  split at he
  ·rename_i aI
   simp only[Option.bind_eq_some_iff] at he
   obtain⟨ct,qq,a6⟩:=he
   split at a6
   ·rename_i hlen
    injection a6 with a6;subst a6
    have bN:=(List.getElem?_eq_some_iff.1 qq).1
    cases r with
    | @cx _ az b ao cap f cj aF jq a6 an bc=>
     have lM:az=i.size:=by rw[←(a6 _ _ qq).1,hlen]
     subst lM
     refine .same H (key _ _ _ _ rfl aI (by omega)) ?_
     have:=bM.ref (L:=L) (w:=w) (e:=ct) (o:=0) (b:=b) (ao:=ao+m.toNat*i.size) (fun q=>f m.toNat q) cj aF (fun q z b0=>an _ _ _ _ qq b0) (fun q z b0=>bc _ _ _ _ qq b0)
     simpa using this
    |oU a cap=>simp at qq
   ·cases a6
  ·cases he
 ·cases he
def AQ(l:Lu)(i:Int):Option V:=if 0≤i then(l[i.toNat]?).map fun b=> .int .u8 b.toNat else none
theorem XC{P:Program}{L:Loc}{h:Lo}{w:World}(H:cw L h w){t:TypeId}{l:Lu}{c:V}{x:Value}{k:IntKind}{m:Int}
  (hu:P.underlying t=some .string) (r:bM L w (.str l) x) (he:AQ l m=some c):Good P L w (Instr.index t x (.int k m)) c h:=by
 unfold AQ at he
 split at he
 ·rename_i aI
  simp only[Option.map_eq_some_iff] at he
  obtain⟨b,aF,rfl⟩:=he
  cases r
  have bN:=(List.getElem?_eq_some_iff.1 aF)
  obtain⟨bN,JB⟩:=bN
  have a6:(⟨l.toArray⟩:ByteArray)[m.toNat]? =some b:=by
   rw[ByteArray.getElem?_lt' _ _ (by simpa [ByteArray.size] using bN)]
   simp[←JB,ByteArray.getElem_eq_getElem_data]
  refine .same H (x:= .int .u8 b.toNat) ?_ (.int _ _)
  simp only[Instr.index,asIntOf,Sem.run_bind,Sem.run_pure,Result.andThen_ok,run_underlying hu,aI,if_true,a6]
 ·cases he
def AR(i:Nat):V→Option V
 | .bW ak=>ak[i]?
 |_=>none
theorem XD{P:Program}{L:Loc}{h:Lo}{w:World}(H:cw L h w){i:Nat}{v c:V}{x:Value}(r:bM L w v x)(he:AR i v=some c):Good P L w (Instr.extract x i) c h:=by
 cases v<;>simp only[AR] at he<;>first|(cases he;done)|skip
 cases r with
 |bW ak ax bc=>
  have bN:=(List.getElem?_eq_some_iff.1 he).1
  have au:ak[i]? =some (ak.getD i undef):=by simp[Array.getD,ax,bN]
  exact .same H (by simp only[Instr.extract,au,Sem.run_pure]) (bc _ _ he)
def ss(h:Lo):V→Option Nat
 | .ab=>some 0
 | .er id _ len=>if lK h id then some len else none
 | .cx es=>some es.length
 | .hS=>some 0
 |_=>none
theorem XE{L:Loc}{h:Lo}{w:World}(H:cw L h w){v:V}{x:Value}{n:Nat}(r:bM L w v x)(he:ss h v=some n):∃a cap,x= .slice a n cap:=by
 unfold ss at he
 split at he
 ·injection he with he;subst he;cases r;exact⟨_,_,rfl⟩
 ·split at he
  ·rename_i bh
   injection he with he;subst he
   obtain⟨p,hp⟩:=vl H bh
   cases r with
   |er _=>exact⟨_,_,rfl⟩
   |lH _ q=>rw[hp] at q;cases q
  ·cases he
 ·injection he with he;subst he
  cases r<;>exact⟨_,_,rfl⟩
 ·injection he with he;subst he
  cases r;exact⟨_,_,rfl⟩
 ·cases he
theorem XF{P:Program}{L:Loc}{h:Lo}{w:World}(H:cw L h w){t e ty:TypeId}{c_:Array TypeId}{v:V}{x:Value}{n:Nat}(hu:P.underlying t=some (.slice e))(iV:c_[0]? =some t)(r:bM L w v x)(he:ss h v=some n):
  Good P L w (Builtin.len_ c_ ty #[x]) (.int .i64 n) h:=by
 obtain⟨a,cap,rfl⟩:=XE H r he
 refine .same H (x:= .int .i64 n) ?_ (.int _ _)
 unfold Builtin.len_
 rw[iV]
 simp[run_underlying hu,goInt]
theorem XG{P:Program}{L:Loc}{h:Lo}{w:World}(H:cw L h w){t ty:TypeId}{c_:Array TypeId}{l:Lu}{x:Value}(hu:P.underlying t=some .string)(iV:c_[0]? =some t)(r:bM L w (.str l) x):
  Good P L w (Builtin.len_ c_ ty #[x]) (.int .i64 l.length) h:=by
 cases r
 have a6:(⟨l.toArray⟩:ByteArray).size=l.length:=by simp[ByteArray.size]
 refine .same H (x:= .int .i64 l.length) ?_ (.int _ _)
 unfold Builtin.len_
 rw[iV]
 simp only[Sem.run_bind,List.getElem?_toArray,List.getElem?_cons_zero,run_underlying hu,Result.andThen_ok,Sem.run_pure,goInt,a6]
theorem JC{L:Loc}{h:Lo}{w:World}(H:cw L h w)(es:Lv)(az:Nat)(c:Array Value)(ty:TypeId)(cN:Nat × Nat)(aS:vg cN c.size)
  (a6:∀(i:Nat) (e:V),es[i]? =some e→flat az e)
  (an:∀(i o:Nat) (e y:V),es[i]? =some e→e.cells[o]? =some y→∃v,c[i*az+o]? =some v∧bM L w y v):
  cw (L.push (w.heap.size,0,az)) (h++ [.row es az]) {w with heap:=w.heap.push (.cells c ty cN)}∧Fr (Own L) w {w with heap:=w.heap.push (.cells c ty cN)}∧Ext L w (L.push (w.heap.size,0,az)):=by
 have nG:=AM (Own L) w (.cells c ty cN)
 have ex:=Ju L w w.heap.size 0 az (Nat.le_refl _)
 refine⟨cw.push H _ _ 0 az ?_,nG,ex⟩
 refine⟨w.heap.size,0,c,ty,cN,L.nH _, ?_,aS,a6,fun i o e y aw U=> ?_⟩
 ·show(w.heap.push _)[w.heap.size]? =_
  simp
 ·obtain⟨v,aX,aY⟩:=an i o e y aw U
  exact⟨v,by rw[Nat.zero_add];exact aX,H.my aY nG ex⟩
theorem AS(n:Nat):vg (0,0) n:=⟨Nat.le_refl _,fun ao _ h=>by omega⟩
def vn(arr:Bool)(v:V):Option (Lv × Nat):=
 if arr then
  match v with
  | .agg cs=>if cs.all V.scalar then some (cs,1) else none
  |_=>none
 else
  match v with
  | .bW _| .lG=>none
  |v=>if v.cells.all V.scalar then some ([v],v.cells.length) else none
def pQ(arr:Bool)(h:Lo)(v:V):OvL:=
 (vn arr v).map fun p=>(.ptr h.length 0 0,h++ [.row p.1 p.2])
theorem xM{v:V}(h:v.scalar=true):v.cells=[v]:=by cases v<;>first|rfl|(simp[V.scalar] at h)
theorem OM{P:Program}{L:Loc}{h aa:Lo}{w:World}(H:cw L h w){arr:Bool}{t:TypeId}{v r:V}{x:Value}(rep:bM L w v x)(he:pQ arr h v=some (r,aa)):
  Good P L w (Instr.box t x) r aa:=by
 unfold pQ at he
 simp only[Option.map_eq_some_iff,Prod.mk.injEq] at he
 obtain⟨⟨es,az⟩,aF,rfl,rfl⟩:=he
 have go:(∀(i:Nat) (e:V),es[i]? =some e→flat az e)→(∀(i o:Nat) (e y:V),es[i]? =some e→e.cells[o]? =some y→∃u,x.cells[i*az+o]? =some u∧bM L w y u)→
   Good P L w (Instr.box t x) (.ptr h.length 0 0) (h++ [.row es az]):=by
  intro R ae
  obtain⟨aX,aY,cU⟩:=JC H es az x.cells t (0,0) (AS _) R ae
  refine⟨.pointer (some ⟨w.heap.size,0,none⟩),_,_,rfl, ?_,aX,aY,cU⟩
  have:=bM.ptr (L:=L.push (w.heap.size,0,az)) (w:={w with heap:=w.heap.push (.cells x.cells t)}) (i:=0) (o:=0) (L.nH (w.heap.size,0,az))
  rw[H.len] at this
  simpa using this
 unfold vn at aF
 cases arr with
 |true=>
  simp only[if_true] at aF
  split at aF
  ·rename_i cs
   split at aF
   ·rename_i pN
    injection aF with aF;injection aF with XH AT;subst XH;subst AT
    have xN:∀(i:Nat) (e:V),cs[i]? =some e→e.scalar=true:=fun i e he=>List.all_eq_true.1 pN e (List.mem_of_getElem? he)
    cases rep with
    |agg ak ax bc=>
     refine go (fun i e he=>by unfold flat;rw[xM (xN i e he)];exact⟨rfl,by simp[xN i e he]⟩) (fun i o e y he bT=> ?_)
     rw[xM (xN i e he)] at bT
     cases o with
     |zero=>
      simp at bT;subst bT
      have bN:=(List.getElem?_eq_some_iff.1 he).1
      refine⟨ak.getD i undef, ?_,bc i e he⟩
      show ak[i*1+0]? =_
      simp[Array.getD,ax,bN]
     |succ o=>simp at bT
   ·cases aF
  ·cases aF
 |false=>
  simp only[Bool.false_eq_true,if_false] at aF
  have hT:(if v.cells.all V.scalar then some ([v],v.cells.length) else none)=some (es,az)∧(v.scalar=true∨∃cs,v= .agg cs):=by
   cases v<;>first|exact⟨aF, .inl rfl⟩|exact⟨aF, .inr ⟨_,rfl⟩⟩|cases aF
  obtain⟨hT,bg⟩:=hT
  obtain⟨pN,rfl,rfl⟩:v.cells.all V.scalar=true∧es=[v]∧az=v.cells.length:=by
   split at hT
   ·rename_i q;injection hT with hT;injection hT with aE aR;exact⟨q,aE.symm,aR.symm⟩
   ·cases hT
  obtain⟨bF,bD⟩:=rep.cells bg
  refine go (fun i e he=> ?_) (fun i o e y he bT=> ?_)
  ·cases i with
   |zero=>simp at he;subst he;exact⟨rfl,pN⟩
   |succ i=>simp at he
  ·cases i with
   |zero=>
    simp at he;subst he
    have bN:=(List.getElem?_eq_some_iff.1 bT).1
    refine⟨x.cells.getD o undef, ?_,bD o y bT⟩
    simp[Array.getD,bF,bN]
   |succ i=>simp at he
theorem XI{P:Program}{L:Loc}{h aa:Lo}{w:World}(H:cw L h w){arr:Bool}{t:TypeId}{i:TypeInfo}{z:Value}{v r:V}(aw:P.info? t=some i)(b0:i.zero=some z)(bg:vi z=some v)
  (he:pQ arr h v=some (r,aa)):Good P L w (Instr.alloc t true (.tuple #[])) r aa:=by
 obtain⟨x,a2,cZ,R,rest⟩:=OM (P:=P) H (t:=t) (DG bg) he
 refine⟨x,a2,cZ, ?_,rest⟩
 rw[←R]
 simp[Instr.alloc,zeroValue,typeInfo,aw,b0,Instr.box]
def putCells(e:V)(o:Nat)(cs:Lv):V:=
 match e with
 | .agg aM=> .agg (aM.take o++cs++aM.drop (o+cs.length))
 |_=>cs.headD .lG
def pR(h:Lo)(v:V)(cs:Lv):Option (Lo):=
 match v with
 | .ptr id i o=>match h[id]? with
  |some (.row es az)=>
   if o+cs.length≤az then(es[i]?).map fun e=>h.set id (.row (es.set i (putCells e o cs)) az)
   else if o=0∧az=1∧i+cs.length≤es.length then some (h.set id (.row (es.take i++cs++es.drop (i+cs.length)) 1)) else none
  |_=>none
 |_=>none
def pS(h:Lo)(n:Nat)(a v:V):Option (Lo):=
 match v with
 | .bW _| .lG=>none
 |v=>if v.cells.length=n∧v.cells.all V.scalar∧0<n then pR h a v.cells else none
theorem XJ{L:Loc}{w:World}{cs:Lv}{xs:Array Value}(ax:xs.size=cs.length)(bc:∀k c,cs[k]? =some c→bM L w c (xs.getD k undef)):
  ∀(k:Nat) (c:V),cs[k]? =some c→∃u,xs.toList[k]? =some u∧bM L w c u:=by
 intro k c aH
 have bN:=(List.getElem?_eq_some_iff.1 aH).1
 refine⟨xs.getD k undef, ?_,bc k c aH⟩
 simp[Array.getD,ax,bN]
theorem ON{e:V}{o:Nat}{cs:Lv}(h:o+cs.length≤e.cells.length)(a6:cs.all V.scalar=true)(aI:0<cs.length):(putCells e o cs).cells.length=e.cells.length:=by
 unfold putCells
 split
 ·rename_i aM
  simp[V.cells] at h⊢
  omega
 ·rename_i en
  have:e.cells=[e]:=by cases e<;>first|rfl|exact absurd rfl (en _)
  rw[this] at h⊢
  simp only[List.length_singleton] at h⊢
  obtain⟨c,rfl⟩:∃c,cs=[c]:=by
   match cs,h,aI with
   | [c],_,_=>exact⟨c,rfl⟩
   | [],_,aI=>simp at aI
   |_::_::_,h,_=>simp at h;omega
  simp only[List.all_cons,List.all_nil,Bool.and_true] at a6
  simp[xM a6]
theorem XK{az:Nat}{e:V}{o:Nat}{cs:Lv}(h:o+cs.length≤az)(a6:cs.all V.scalar=true)(aI:0<cs.length)(he:flat az e):flat az (putCells e o cs):=by
 refine⟨by rw[ON (by rw[he.1];exact h) a6 aI,he.1], ?_⟩
 have bh:=he.2
 unfold putCells
 split
 ·simp only[V.cells,List.all_append,Bool.and_eq_true] at bh⊢
  exact⟨⟨List.all_eq_true.2 (fun x au=>List.all_eq_true.1 bh x (List.mem_of_mem_take au)),a6⟩,List.all_eq_true.2 (fun x au=>List.all_eq_true.1 bh x (List.mem_of_mem_drop au))⟩
 ·match cs,aI,a6 with
  |c::cs,_,a6=>
   simp only[List.all_cons,Bool.and_eq_true] at a6
   simp[xM a6.1,a6.1]
theorem XL{e:V}{o:Nat}{cs:Lv}(h:o+cs.length≤e.cells.length)(a6:cs.all V.scalar=true)(aI:0<cs.length)(k:Nat)(y:V)(bT:(putCells e o cs).cells[k]? =some y):
  (o≤k∧k<o+cs.length∧cs[k-o]? =some y)∨(¬(o≤k∧k<o+cs.length)∧e.cells[k]? =some y):=by
 unfold putCells at bT
 split at bT
 ·rename_i aM
  simp only[V.cells] at h bT⊢
  by_cases R:k<o
  ·right
   refine⟨by omega, ?_⟩
   rw[List.append_assoc,List.getElem?_append_left (by simp<;>omega),List.getElem?_take,if_pos R] at bT
   exact bT
  ·by_cases ae:k<o+cs.length
   ·left
    refine⟨by omega,ae, ?_⟩
    rw[List.append_assoc,List.getElem?_append_right (by simp<;>omega)] at bT
    simp only[List.length_take] at bT
    rw[List.getElem?_append_left (by omega)] at bT
    rw[show min o aM.length=o by omega] at bT
    exact bT
   ·right
    refine⟨by omega, ?_⟩
    rw[List.getElem?_append_right (by simp<;>omega)] at bT
    simp only[List.length_append,List.length_take] at bT
    rw[List.getElem?_drop,show min o aM.length=o by omega,show o+cs.length+(k-(o+cs.length))=k by omega] at bT
    exact bT
 ·rename_i en
  have he:e.cells=[e]:=by cases e<;>first|rfl|exact absurd rfl (en _)
  rw[he] at h
  simp only[List.length_singleton] at h
  obtain⟨c,rfl⟩:∃c,cs=[c]:=by
   match cs,h,aI with
   | [c],_,_=>exact⟨c,rfl⟩
   | [],_,aI=>simp at aI
   |_::_::_,h,_=>simp at h;omega
  simp only[List.all_cons,List.all_nil,Bool.and_true] at a6
  simp only[List.length_singleton] at h⊢
  have U:o=0:=by omega
  subst U
  simp only[List.headD_cons,xM a6] at bT
  cases k with
  |zero=>left;exact⟨by omega,by omega,by simpa using bT⟩
  |succ k=>simp at bT
theorem XM{P:Program}{L:Loc}{h aa:Lo}{w:World}(H:cw L h w){v:V}{x:Value}{cs:Lv}{us:List Value}(rep:bM L w v x)(ax:us.length=cs.length)
  (bc:∀(k:Nat) (c:V),cs[k]? =some c→∃u,us[k]? =some u∧bM L w c u) (a6:cs.all V.scalar=true) (aI:0<cs.length) (he:pR h v cs=some aa):
  ∃a a2,x= .pointer (some a)∧(storeCells a us).run P w= .ok () a2∧cw L aa a2∧Fr (Own L) w a2:=by
 have AP:∀u∈us,u.oneCell'=true:=by
  intro u hu
  obtain⟨k,aH⟩:=List.getElem?_of_mem hu
  have bN:=(List.getElem?_eq_some_iff.1 aH).1
  have an:cs[k]? =some cs[k]:=by simp<;>omega
  obtain⟨nI,aX,aY⟩:=bc k _ an
  rw[aH] at aX;injection aX with aX;subst aX
  exact aY.one (List.all_eq_true.1 a6 _ (List.getElem_mem _))
 unfold pR at he
 split at he
 ·rename_i id i o
  split at he
  ·rename_i es az dE
   have hy:id<h.length:=(List.getElem?_eq_some_iff.1 dE).1
   obtain⟨b,base,c,e,cN,R,ae,aQ,bo,bI⟩:=H.ik id _ dE
   have au:x= .pointer (some ⟨b,base+i*az+o,none⟩):=by
    cases rep with
    |ptr g=>rw[R] at g;injection g with g;injection g with aX aY;injection aY with aY cU;subst aX;subst aY;subst cU;rfl
    |nC _ g=>rw[R] at g;cases g
   have aF:=(Array.getElem?_eq_some_iff.1 ae).1
   
   have main:∀(mB:Lv),base+i*az+o+us.length≤c.size→(∀(k:Nat) (x:V),mB[k]? =some x→flat az x)→
     (∀(a k:Nat) (x y:V),mB[a]? =some x→x.cells[k]? =some y→
      (base+i*az+o≤base+a*az+k∧base+a*az+k<base+i*az+o+us.length∧cs[base+a*az+k-(base+i*az+o)]? =some y)∨
      (¬(base+i*az+o≤base+a*az+k∧base+a*az+k<base+i*az+o+us.length)∧∃iI,es[a]? =some iI∧iI.cells[k]? =some y))→
     ∃a a2,x= .pointer (some a)∧(storeCells a us).run P w= .ok () a2∧cw L (h.set id (.row mB az)) a2∧Fr (Own L) w a2:=by
    intro mB rq hlen m9
    have iW:=E.Jt P b (base+i*az+o) e cN us 0 c w ae aQ (by simpa using rq) AP
    have iJ:Fr (Own L) w (E.put w b (.cells (lI c (base+i*az+o+0) us) e cN)):=DI ⟨id,_,R⟩ ae (xI _ _ _)
    refine⟨_,_,au,iW, ?_,iJ⟩
    refine cw.set H R hy (fun⟨_,_,_,q⟩=>by rw[dE] at q;cases q) iJ (fun k _ aH=>pK aH) ?_
    refine⟨b,base,_,e,cN,R,pJ aF, ?_,hlen,fun a k x y nK bT=> ?_⟩
    ·rw[xI];exact aQ
    ·rw[AL _ _ _ (by simpa using rq)]
     rcases m9 a k x y nK bT with⟨aE,aR,bE⟩|⟨aE,iI,aR,bE⟩
     ·rw[if_pos ⟨by omega,by omega⟩]
      obtain⟨u,aX,aY⟩:=bc _ y bE
      exact⟨u,by rw[show base+i*az+o+0=base+i*az+o from rfl];exact aX,H.my aY iJ (Ext.refl _ _)⟩
     ·rw[if_neg (by simpa using aE)]
      obtain⟨v,aX,aY⟩:=bI a k iI y aR bE
      exact⟨v,aX,H.my aY iJ (Ext.refl _ _)⟩
   split at he
   ·rename_i U
    simp only[Option.map_eq_some_iff] at he
    obtain⟨y,bT,rfl⟩:=he
    have aq2:=(bo i y bT).1
    have aw:i<es.length:=(List.getElem?_eq_some_iff.1 bT).1
    have aq3:=ON (e:=y) (o:=o) (cs:=cs) (by omega) a6 aI
    refine main _ ?_ (fun k z b0=> ?_) (fun a k z u b0 hu=> ?_)
    ·
     have JD:y.cells[o+cs.length-1]? =some y.cells[o+cs.length-1]:=by simp<;>omega
     obtain⟨v,aX,_⟩:=bI i _ y _ bT JD
     have:=(Array.getElem?_eq_some_iff.1 aX).1
     omega
    ·by_cases q:k=i
     ·subst q
      rw[List.getElem?_set_self aw] at b0
      injection b0 with b0;subst b0;exact XK U a6 aI (bo _ y bT)
     ·rw[List.getElem?_set_ne (fun e=>q e.symm)] at b0;exact bo k z b0
    ·by_cases q:a=i
     ·subst q
      rw[List.getElem?_set_self aw] at b0
      injection b0 with b0;subst b0
      rcases XL (e:=y) (o:=o) (cs:=cs) (by omega) a6 aI k u hu with⟨aE,aR,bE⟩|⟨aE,aR⟩
      ·left;exact⟨by omega,by omega,by rw[show base+a*az+k-(base+a*az+o)=k-o by omega];exact bE⟩
      ·right;exact⟨by omega,y,bT,aR⟩
     ·rw[List.getElem?_set_ne (fun e=>q e.symm)] at b0
      have vo:=(bo a z b0).1
      have su:=(List.getElem?_eq_some_iff.1 hu).1
      right
      refine⟨fun dw=> ?_,z,b0,hu⟩
      rcases Nat.lt_or_gt_of_ne q with q|q
      ·have:(a+1)*az≤i*az:=Nat.mul_le_mul_right _ q
       rw[Nat.add_mul] at this;omega
      ·have:(i+1)*az≤a*az:=Nat.mul_le_mul_right _ q
       rw[Nat.add_mul] at this;omega
   ·split at he
    ·rename_i dw
     obtain⟨rfl,rfl,jX⟩:=dw
     injection he with he;subst he
     have xN:∀(k:Nat) (z:V),cs[k]? =some z→z.cells=[z]:=fun k z b0=>xM (List.all_eq_true.1 a6 z (List.mem_of_getElem? b0))
     have parts:∀(k:Nat) (z:V),(es.take i++cs++es.drop (i+cs.length))[k]? =some z→(i≤k∧k<i+cs.length∧cs[k-i]? =some z)∨(¬(i≤k∧k<i+cs.length)∧es[k]? =some z):=by
      intro k z b0
      by_cases bF:k<i
      ·right
       rw[List.append_assoc,List.getElem?_append_left (by simp<;>omega),List.getElem?_take,if_pos bF] at b0
       exact⟨by omega,b0⟩
      ·by_cases bD:k<i+cs.length
       ·left
        rw[List.append_assoc,List.getElem?_append_right (by simp<;>omega)] at b0
        simp only[List.length_take] at b0
        rw[List.getElem?_append_left (by omega),show min i es.length=i by omega] at b0
        exact⟨by omega,bD,b0⟩
       ·right
        rw[List.getElem?_append_right (by simp<;>omega)] at b0
        simp only[List.length_append,List.length_take] at b0
        rw[List.getElem?_drop,show min i es.length=i by omega,show i+cs.length+(k-(i+cs.length))=k by omega] at b0
        exact⟨by omega,b0⟩
     refine main _ ?_ (fun k z b0=> ?_) (fun a k z u b0 hu=> ?_)
     ·have bT:es[i+cs.length-1]? =some es[i+cs.length-1]:=by simp<;>omega
      have OO:=(bo _ _ bT).1
      have JD:(es[i+cs.length-1]).cells[0]? =some (es[i+cs.length-1]).cells[0]:=by simp<;>omega
      obtain⟨v,aX,_⟩:=bI _ 0 _ _ bT JD
      have:=(Array.getElem?_eq_some_iff.1 aX).1
      omega
     ·rcases parts k z b0 with⟨_,_,q⟩|⟨_,q⟩
      ·have XN:=List.all_eq_true.1 a6 z (List.mem_of_getElem? q)
       unfold flat;rw[xN _ z q];exact⟨rfl,by simp[XN]⟩
      ·exact bo k z q
     ·rcases parts a z b0 with⟨aE,aR,q⟩|⟨aE,q⟩
      ·rw[xN _ z q] at hu
       cases k with
       |zero=>
        simp at hu;subst hu
        left;exact⟨by omega,by omega,by rw[show base+a*1+0-(base+i*1+0)=a-i by omega];exact q⟩
       |succ k=>simp at hu
      ·right
       have vo:=(bo a z q).1
       have su:=(List.getElem?_eq_some_iff.1 hu).1
       exact⟨by omega,z,q,hu⟩
    ·cases he
  ·cases he
 ·cases he
theorem XO{P:Program}{L:Loc}{h aa:Lo}{w:World}(H:cw L h w){t:TypeId}{i:TypeInfo}{a v:V}{x y:Value}(aw:P.info? t=some i)(AU:bM L w a x)(xO:bM L w v y)
  (he:pS h i.size a v=some aa):∃a2,(Instr.storeAt t x y).run P w= .ok () a2∧cw L aa a2∧Fr (Own L) w a2:=by
 unfold pS at he
 have main:(v.scalar=true∨∃cs,v= .agg cs)→(if v.cells.length=i.size∧v.cells.all V.scalar∧0<i.size then pR h a v.cells else none)=some aa→
   ∃a2,(Instr.storeAt t x y).run P w= .ok () a2∧cw L aa a2∧Fr (Own L) w a2:=by
  intro bg he
  split at he
  ·rename_i dw
   obtain⟨bF,bD⟩:=xO.cells bg
   obtain⟨b2,a2,aV,bb,cb,dI⟩:=XM (P:=P) H AU (by simpa using bF) (XJ bF bD) dw.2.1 (by omega) he
   subst aV
   refine⟨a2, ?_,cb,dI⟩
   simp only[Instr.storeAt,Instr.sureAddr,storeVar,Sem.run_bind,Sem.run_pure,Result.andThen_ok,run_sizeOf w aw]
   rw[if_neg (by simp[bF,dw.1])]
   simp[bb]
  ·cases he
 cases v<;>first|(cases he;done)|exact main (.inl rfl) he|exact main (.inr ⟨_,rfl⟩) he
def m_:Option V→Nat→Option Nat
 |none,d=>some d
 |some (.int _ i),_=>if 0≤i then some i.toNat else none
 |_,_=>none
def vp(L:Loc)(w:World)(ao:Option V)(x:Option Value):Prop:=
 match ao,x with
 |none,none=>True
 |some v,some y=>bM L w v y
 |_,_=>False
theorem AV{P:Program}{L:Loc}{w:World}{ao:Option V}{x:Option Value}{d n y:Nat}{code:BoundsCode}(h:vp L w ao x)(aF:m_ ao d=some n)(bd:ao≠none→n≤y):
  (ao=none∧x=none∧n=d)∨(∃v,x=some v∧(Instr.sliceBound v y code).run P w= .ok n w):=by
 cases ao with
 |none=>cases x with
  |none=>left;simp[m_] at aF;exact⟨rfl,rfl,aF.symm⟩
  |some _=>exact h.elim
 |some v=>cases x with
  |none=>exact h.elim
  |some z=>
   right
   have h:bM L w v z:=h
   have bd:=bd (by simp)
   cases v<;>simp[m_] at aF
   rename_i k i
   obtain⟨aI,rfl⟩:=aF
   cases h
   refine⟨_,rfl, ?_⟩
   simp only[Instr.sliceBound,asIntOf,Sem.run_bind,Sem.run_pure,Result.andThen_ok]
   rw[if_pos ⟨aI,by omega⟩]
   rfl
theorem XP{P:Program}{L:Loc}{w:World}{DN:Bool}{len cap et aw m:Nat}{a b c:Option V}{x y z:Option Value}(bh:vp L w a x)(aF:vp L w b y)(an:vp L w c z)
  (R:m_ c cap=some m) (ae:m_ b len=some aw) (aQ:m_ a 0=some et) (hm:m≤cap) (dw:aw≤m) (ax:et≤aw) (XQ:c≠none→b≠none):
  (Instr.sliceBounds DN len cap x y z).run P w= .ok (et,aw,m) w:=by
 have cb:(x=none∧et=0)∨(∃v,x=some v∧∀code,(Instr.sliceBound v aw code).run P w= .ok et w):=by
  cases x with
  |none=>
   rcases AV (P:=P) (code:= .sliceB) bh aQ (fun _=>ax) with⟨_,_,q⟩|⟨v,q,_⟩
   ·exact .inl ⟨rfl,q⟩
   ·cases q
  |some v=>
   refine .inr ⟨v,rfl,fun code=> ?_⟩
   rcases AV (P:=P) (code:=code) bh aQ (fun _=>ax) with⟨_,q,_⟩|⟨eg,q,e⟩
   ·cases q
   ·injection q with q;subst q;exact e
 rcases AV (P:=P) (code:=if DN then .slice3Acap else .slice3Alen) an R (fun _=>hm) with⟨OP,rfl,rfl⟩|⟨v,rfl,aV⟩
 ·rcases AV (P:=P) (code:=if DN then .sliceAcap else .sliceAlen) aF ae (fun _=>dw) with⟨_,rfl,rfl⟩|⟨u,rfl,bb⟩
  ·rcases cb with⟨rfl,rfl⟩|⟨eg,rfl,cb⟩
   ·simp only[Instr.sliceBounds,Sem.run_bind,Sem.run_pure,Result.andThen_ok]
   ·simp only[Instr.sliceBounds,Sem.run_bind,Sem.run_pure,Result.andThen_ok,cb]
  ·rcases cb with⟨rfl,rfl⟩|⟨eg,rfl,cb⟩
   ·simp only[Instr.sliceBounds,Sem.run_bind,Sem.run_pure,Result.andThen_ok,bb]
   ·simp only[Instr.sliceBounds,Sem.run_bind,Sem.run_pure,Result.andThen_ok,bb,cb]
 ·have XR:b≠none:=XQ (by intro e;subst e;exact an.elim)
  rcases AV (P:=P) (code:= .slice3B) aF ae (fun _=>dw) with⟨q,_⟩|⟨u,rfl,bb⟩
  ·exact absurd q XR
  ·rcases cb with⟨rfl,rfl⟩|⟨eg,rfl,cb⟩
   ·simp only[Instr.sliceBounds,Sem.run_bind,Sem.run_pure,Result.andThen_ok,aV,bb]
   ·simp only[Instr.sliceBounds,Sem.run_bind,Sem.run_pure,Result.andThen_ok,aV,bb,cb]
def vq(l:Lu)(a b:Option V):Option V:=
 match m_ a 0,m_ b l.length with
 |some et,some aw=>if et≤aw∧aw≤l.length then some (.str ((l.drop et).take (aw-et))) else none
 |_,_=>none
theorem XS{P:Program}{L:Loc}{h:Lo}{w:World}(H:cw L h w){t:TypeId}{l:Lu}{x:Value}{a b:Option V}{y z:Option Value}{c:V}(hu:P.underlying t=some .string)
  (r:bM L w (.str l) x) (bh:vp L w a y) (aF:vp L w b z) (he:vq l a b=some c):Good P L w (Instr.sliceAt t x y z none) c h:=by
 unfold vq at he
 split at he
 ·rename_i et aw R ae
  split at he
  ·rename_i hle
   injection he with he;subst he
   cases r
   have a6:(⟨l.toArray⟩:ByteArray).size=l.length:=by simp[ByteArray.size]
   have hT:=XP (P:=P) (DN:=false) (len:=l.length) (cap:=l.length) (m:=l.length) (c:=none) (z:=none) bh aF trivial rfl ae R (Nat.le_refl _) hle.2 hle.1 (fun h=>absurd rfl h)
   refine .same H (x:= .string ⟨((l.drop et).take (aw-et)).toArray⟩) ?_ (.str _)
   have he:(⟨l.toArray⟩:ByteArray).extract et aw=⟨((l.drop et).take (aw-et)).toArray⟩:=by
    have:=Lib.extract_data ⟨l.toArray⟩ et aw
    rw[←Go.Joins.bytes_eta ((⟨l.toArray⟩:ByteArray).extract et aw),this]
   simp only[Instr.sliceAt,Instr.slice,Sem.run_bind,run_underlying hu,Result.andThen_ok,a6,hT,Sem.run_pure,Option.isSome_none,Bool.false_eq_true,if_false,he]
  ·cases he
 ·cases he
mutual
def V.beq:V→V→Bool
 | .int k n, .int gu jI=>decide (k=gu)&&decide (n=jI)
 | .bool b, .bool c2=>decide (b=c2)
 | .str l, .str ho=>decide (l=ho)
 | .ki, .ki=>true
 | .ptr a b c, .ptr eK c2 c0=>decide (a=eK)&&decide (b=c2)&&decide (c=c0)
 | .ref e o, .ref ct JE=>V.beq e ct&&decide (o=JE)
 | .ab, .ab=>true
 | .er a b c, .er eK c2 c0=>decide (a=eK)&&decide (b=c2)&&decide (c=c0)
 | .cx es, .cx mB=>V.qs es mB
 | .hS, .hS=>true
 | .kv, .kv=>true
 | .mp i, .mp xP=>decide (i=xP)
 | .fn f cs, .fn gj oZ=>decide (f=gj)&&V.qs cs oZ
 | .eD f cs, .eD gj oZ=>decide (f=gj)&&V.qs cs oZ
 | .lF, .lF=>true
 | .agg cs, .agg oZ=>V.qs cs oZ
 | .bW cs, .bW oZ=>V.qs cs oZ
 | .lG, .lG=>true
 |_,_=>false
def V.qs:Lv→Lv→Bool
 | [],[]=>true
 |x::xs,y::a_=>V.beq x y&&V.qs xs a_
 |_,_=>false
end
mutual
theorem V.beq_eq:∀x y:V,V.beq x y=true→x=y
 | .int k n,y,h=>by cases y<;>simp_all [V.beq]
 | .bool b,y,h=>by cases y<;>simp_all [V.beq]
 | .str l,y,h=>by cases y<;>simp_all [V.beq]
 | .ki,y,h=>by cases y<;>simp_all [V.beq]
 | .ptr a b c,y,h=>by cases y<;>simp_all [V.beq]
 | .ref e o,y,h=>by
  cases y<;>simp[V.beq] at h
  obtain⟨R,rfl⟩:=h
  rw[V.beq_eq _ _ R]
 | .ab,y,h=>by cases y<;>simp_all [V.beq]
 | .er a b c,y,h=>by cases y<;>simp_all [V.beq]
 | .cx es,y,h=>by cases y<;>simp[V.beq] at h;rw[V.vr _ _ h]
 | .hS,y,h=>by cases y<;>simp_all [V.beq]
 | .kv,y,h=>by cases y<;>simp_all [V.beq]
 | .mp i,y,h=>by cases y<;>simp_all [V.beq]
 | .fn f cs,y,h=>by
  cases y<;>simp[V.beq] at h
  obtain⟨rfl,R⟩:=h
  rw[V.vr _ _ R]
 | .eD f cs,y,h=>by
  cases y<;>simp[V.beq] at h
  obtain⟨rfl,R⟩:=h
  rw[V.vr _ _ R]
 | .lF,y,h=>by cases y<;>simp_all [V.beq]
 | .agg cs,y,h=>by cases y<;>simp[V.beq] at h;rw[V.vr _ _ h]
 | .bW cs,y,h=>by cases y<;>simp[V.beq] at h;rw[V.vr _ _ h]
 | .lG,y,h=>by cases y<;>simp_all [V.beq]
theorem V.vr:∀x y:Lv,V.qs x y=true→x=y
 | [],y,h=>by cases y<;>simp_all [V.qs]
 |x::xs,y,h=>by
  cases y<;>simp[V.qs] at h
  obtain⟨R,ae⟩:=h
  rw[V.beq_eq _ _ R,V.vr _ _ ae]
end
def rr(az:Nat)(es:Lv):Bool:=(es.head?.map (·.cells.length)).getD az==az
theorem XT{L:Loc}{w:World}{es:Lv}{x:Value}{az:Nat}(rep:bM L w (.cx es) x)(h:rr az es=true):∀(k:Nat) (e:V),es[k]? =some e→flat az e:=by
 cases rep with
 | @cx _ s b ao cap f cj aF jq a6 an bc=>
  intro k e aH
  cases es with
  |nil=>simp at aH
  |cons y a_=>
   have aI:=(a6 0 y (by simp)).1
   simp[rr] at h
   have:=a6 k e aH
   rw[←aI,h] at this
   exact this
 |oU a cap=>intro k e aH;simp at aH
def fe(h:Lo)(az:Nat):V→Option (Lv)
 | .ab=>some []
 | .hS=>some []
 | .cx es=>if rr az es then some es else none
 | .er id off len=>match h[id]? with
  |some (.row es s)=>if s=az∧off+len≤es.length then some ((es.drop off).take len) else none
  |_=>none
 | .str l=>if az=1 then some (l.map fun b=> .int .u8 b.toNat) else none
 |_=>none
theorem JF{a n az o:Nat}(h:a<n)(U:o<az):a*az+o<n*az:=by
 have:(a+1)*az≤n*az:=Nat.mul_le_mul_right _ h
 rw[Nat.add_mul] at this
 omega
theorem AW{P:Program}{L:Loc}{h:Lo}{w:World}(H:cw L h w){az:Nat}{v:V}{x:Value}{es:Lv}(rep:bM L w v x)(he:fe h az v=some es):
  (∀a2,(Builtin.lenOf x).run P a2= .ok es.length a2)∧(∀(k:Nat) (e:V),es[k]? =some e→flat az e)∧
  ∃f:Nat→Value,(∀n a2,n≤es.length→a2.heap=w.heap→(Builtin.firstCells az n x).run P a2= .ok ((List.range (n*az)).map f).toArray a2)∧
   ∀(i o:Nat) (e y:V),es[i]? =some e→e.cells[o]? =some y→bM L w y (f (i*az+o)):=by
 
 have runs:∀(b ao len cap:Nat) (f:Nat→Value),(∀k,k<len*az→w.cell? ⟨b,ao+k,none⟩=some (f k))→∀n a2,n≤len→a2.heap=w.heap→(Builtin.firstCells az n (.slice (some ⟨b,ao,none⟩) len cap)).run P a2= .ok ((List.range (n*az)).map f).toArray a2:=by
  intro b ao len cap f aS n a2 bd hw
  simp only[Builtin.firstCells]
  refine E.run_loadCells P a2 b ao (n*az) f (fun k aH=> ?_)
  rw[DD (w:=w) (by rw[hw])]
  exact aS k (Nat.lt_of_lt_of_le aH (Nat.mul_le_mul_right _ bd))
 unfold fe at he
 split at he
 ·injection he with he;subst he;cases rep
  refine⟨fun a2=>by simp[Builtin.lenOf],fun k e aH=>by simp at aH,fun _=>undef,fun n a2 bd hw=> ?_,fun i o e y R=>by simp at R⟩
  obtain rfl:n=0:=by simpa using bd
  simp[Builtin.firstCells]
 ·injection he with he;subst he;cases rep
  refine⟨fun a2=>by simp[Builtin.lenOf],fun k e aH=>by simp at aH,fun _=>undef,fun n a2 bd hw=> ?_,fun i o e y R=>by simp at R⟩
  obtain rfl:n=0:=by simpa using bd
  simp[Builtin.firstCells,Go.loadCells,loadCellsFrom]
 ·rename_i gv
  split at he
  ·rename_i dw
   obtain rfl:gv=es:=by injection he
   clear he
   have hq:=XT rep dw
   cases rep with
   | @cx _ s b ao cap f cj aF jq a6 an bc=>
    refine⟨fun a2=>by simp[Builtin.lenOf],hq,fun k=>f (k/az) (k % az), ?_,fun i o e y R ae=> ?_⟩
    ·refine runs b ao gv.length cap _ (fun k aH=> ?_)
     have lM:0<az:=by
      rcases Nat.eq_zero_or_pos az with q|q
      ·subst q;simp at aH
      ·exact q
     have aw:k/az<gv.length:=Nat.div_lt_of_lt_mul (by rw[Nat.mul_comm];exact aH)
     have R:gv[k/az]? =some gv[k/az]:=by simp[aw]
     have ax:=(hq _ _ R).1
     have XU:s=az:=by rw[←(a6 _ _ R).1,ax]
     have U:k % az<az:=Nat.mod_lt _ lM
     have ae:(gv[k/az]).cells[k % az]? =some (gv[k/az]).cells[k % az]:=by simp<;>omega
     have:=an _ _ _ _ R ae
     rw[XU] at this
     have vs:=Nat.div_add_mod k az
     rw[show ao+k=ao+k/az*az+k % az by rw[Nat.mul_comm (k/az) az];omega]
     exact this
    ·have iX:=(List.getElem?_eq_some_iff.1 ae).1
     rw[(hq _ _ R).1] at iX
     have aV:(i*az+o)/az=i:=by rw[Nat.mul_comm,Nat.mul_add_div (by omega),Nat.div_eq_of_lt iX];rfl
     have bb:(i*az+o) % az=o:=by rw[Nat.mul_comm,Nat.mul_add_mod,Nat.mod_eq_of_lt iX]
     show bM L w y (f ((i*az+o)/az) ((i*az+o) % az))
     rw[aV,bb]
     exact bc _ _ _ _ R ae
   |oU a cap=>
    refine⟨fun a2=>by simp[Builtin.lenOf],fun k e aH=>by simp at aH,fun _=>undef,fun n a2 bd hw=> ?_,fun i o e y R=>by simp at R⟩
    obtain rfl:n=0:=by simpa using bd
    simp[Builtin.firstCells,Go.loadCells,loadCellsFrom]
  ·cases he
 ·rename_i id off len
  split at he
  ·rename_i gv s dE
   split at he
   ·rename_i dw
    obtain⟨rfl,jX⟩:=dw
    injection he with he;subst he
    obtain⟨b,base,c,e,cN,R,ae,aQ,bo,bI⟩:=H.ik id _ dE
    have m9:∀(k:Nat) (e:V),((gv.drop off).take len)[k]? =some e→gv[off+k]? =some e:=by
     intro k e aH
     rw[List.getElem?_take] at aH
     split at aH
     ·rw[List.getElem?_drop] at aH;exact aH
     ·cases aH
    have hlen:((gv.drop off).take len).length=len:=by simp<;>omega
    have hq:∀(k:Nat) (e:V),((gv.drop off).take len)[k]? =some e→flat s e:=fun k e aH=>bo _ e (m9 k e aH)
    cases rep with
    | @er _ _ _ cap dL DO s1 g jq b0=>
     rw[R] at g;injection g with g;injection g with aE aR;injection aR with aR bE;subst aE;subst aR;subst bE
     refine⟨fun a2=>by simp[Builtin.lenOf,hlen],hq,fun k=>(c[base+off*s+k]?).getD undef, ?_,fun i o e y iY ix=> ?_⟩
     ·rw[hlen]
      refine runs b _ len cap _ (fun k aH=> ?_)
      have lM:0<s:=by
       rcases Nat.eq_zero_or_pos s with q|q
       ·subst q;simp at aH
       ·exact q
      have aw:k/s<len:=Nat.div_lt_of_lt_mul (by rw[Nat.mul_comm];exact aH)
      have aX:gv[off+k/s]? =some gv[off+k/s]:=by simp<;>omega
      have ax:=(bo _ _ aX).1
      have U:k % s<s:=Nat.mod_lt _ lM
      have aY:(gv[off+k/s]).cells[k % s]? =some (gv[off+k/s]).cells[k % s]:=by simp<;>omega
      obtain⟨v,cU,_⟩:=bI _ _ _ _ aX aY
      have vs:=Nat.div_add_mod k s
      have aV:base+off*s+k=base+(off+k/s)*s+k % s:=by rw[Nat.add_mul,Nat.mul_comm (k/s) s];omega
      rw[vj ae]
      show _=some ((c[base+off*s+k]?).getD undef)
      rw[aV,cU];rfl
     ·obtain⟨v,cU,h_⟩:=bI _ _ _ _ (m9 i e iY) ix
      have aV:base+off*s+(i*s+o)=base+(off+i)*s+o:=by rw[Nat.add_mul];omega
      show bM L w y ((c[base+off*s+(i*s+o)]?).getD undef)
      rw[aV,cU];exact h_
    |lH _ g=>rw[R] at g;cases g
   ·cases he
  ·cases he
 ·rename_i l
  split at he
  ·rename_i R
   subst R
   injection he with he;subst he
   cases rep
   have a6:(⟨l.toArray⟩:ByteArray).size=l.length:=by simp[ByteArray.size]
   refine⟨fun a2=>by simp[Builtin.lenOf,a6],fun k e aH=> ?_,fun k=> .int .u8 ((l.getD k 0).toNat:Int),fun n a2 bd hw=> ?_,fun i o e y R ae=> ?_⟩
   ·simp only[List.getElem?_map,Option.map_eq_some_iff] at aH
    obtain⟨b,_,rfl⟩:=aH
    exact⟨rfl,rfl⟩
   ·simp only[List.length_map] at bd
    simp only[Builtin.firstCells,Sem.run_pure,Nat.mul_one]
    congr 1
    apply Array.ext'
    apply List.ext_getElem?
    intro k
    have:=Lib.extract_data ⟨l.toArray⟩ 0 n
    simp only[List.drop_zero,Nat.sub_zero] at this
    simp only[Array.toList_map,this,List.getElem?_map,List.getElem?_take,List.getElem?_range]
    by_cases aH:k<n
    ·rw[if_pos aH]
     have su:k<l.length:=by omega
     simp[aH,List.getD,su]
    ·rw[if_neg aH]
     simp[aH]
   ·simp only[List.getElem?_map,Option.map_eq_some_iff] at R
    obtain⟨b,aF,rfl⟩:=R
    cases o with
    |zero=>
     simp[V.cells] at ae;subst ae
     simp only[Nat.mul_one,Nat.add_zero,List.getD,aF,Option.getD_some]
     exact .int _ _
    |succ o=>simp[V.cells] at ae
  ·cases he
 ·cases he
theorem OQ{P:Program}{L:Loc}{w:World}{s id off len b base:Nat}{gv:Lv}{x:Value}{c:Array Value}{e:TypeId}{cN:Nat × Nat}(rep:bM L w (.er id off len) x)(R:L.at_ id=some (b,base,s))(ae:w.heap[b]? =some (.cells c e cN))
  (bo:∀(i:Nat) (x:V),gv[i]? =some x→flat s x) (bI:∀(i o:Nat) (x y:V),gv[i]? =some x→x.cells[o]? =some y→∃v,c[base+i*s+o]? =some v∧bM L w y v) (jX:off+len≤gv.length):
  (∀a2,(Builtin.lenOf x).run P a2= .ok ((gv.drop off).take len).length a2)∧(∀(k:Nat) (e:V),((gv.drop off).take len)[k]? =some e→flat s e)∧
  ∃f:Nat→Value,(∀n a2,n≤((gv.drop off).take len).length→a2.heap=w.heap→(Builtin.firstCells s n x).run P a2= .ok ((List.range (n*s)).map f).toArray a2)∧
   ∀(i o:Nat) (e y:V),((gv.drop off).take len)[i]? =some e→e.cells[o]? =some y→bM L w y (f (i*s+o)):=by
 have runs:∀(b ao len cap:Nat) (f:Nat→Value),(∀k,k<len*s→w.cell? ⟨b,ao+k,none⟩=some (f k))→∀n a2,n≤len→a2.heap=w.heap→(Builtin.firstCells s n (.slice (some ⟨b,ao,none⟩) len cap)).run P a2= .ok ((List.range (n*s)).map f).toArray a2:=by
  intro b ao len cap f aS n a2 bd hw
  simp only[Builtin.firstCells]
  refine E.run_loadCells P a2 b ao (n*s) f (fun k aH=> ?_)
  rw[DD (w:=w) (by rw[hw])]
  exact aS k (Nat.lt_of_lt_of_le aH (Nat.mul_le_mul_right _ bd))
 have m9:∀(k:Nat) (e:V),((gv.drop off).take len)[k]? =some e→gv[off+k]? =some e:=by
  intro k e aH
  rw[List.getElem?_take] at aH
  split at aH
  ·rw[List.getElem?_drop] at aH;exact aH
  ·cases aH
 have hlen:((gv.drop off).take len).length=len:=by simp<;>omega
 have hq:∀(k:Nat) (e:V),((gv.drop off).take len)[k]? =some e→flat s e:=fun k e aH=>bo _ e (m9 k e aH)
 cases rep with
 | @er _ _ _ cap dL DO s1 g jq b0=>
  rw[R] at g;injection g with g;injection g with aE aR;injection aR with aR bE;subst aE;subst aR;subst bE
  refine⟨fun a2=>by simp[Builtin.lenOf,hlen],hq,fun k=>(c[base+off*s+k]?).getD undef, ?_,fun i o e y iY ix=> ?_⟩
  ·rw[hlen]
   refine runs b _ len cap _ (fun k aH=> ?_)
   have lM:0<s:=by
    rcases Nat.eq_zero_or_pos s with q|q
    ·subst q;simp at aH
    ·exact q
   have aw:k/s<len:=Nat.div_lt_of_lt_mul (by rw[Nat.mul_comm];exact aH)
   have aX:gv[off+k/s]? =some gv[off+k/s]:=by simp<;>omega
   have ax:=(bo _ _ aX).1
   have U:k % s<s:=Nat.mod_lt _ lM
   have aY:(gv[off+k/s]).cells[k % s]? =some (gv[off+k/s]).cells[k % s]:=by simp<;>omega
   obtain⟨v,cU,_⟩:=bI _ _ _ _ aX aY
   have vs:=Nat.div_add_mod k s
   have aV:base+off*s+k=base+(off+k/s)*s+k % s:=by rw[Nat.add_mul,Nat.mul_comm (k/s) s];omega
   rw[vj ae]
   show _=some ((c[base+off*s+k]?).getD undef)
   rw[aV,cU];rfl
  ·obtain⟨v,cU,h_⟩:=bI _ _ _ _ (m9 i e iY) ix
   have aV:base+off*s+(i*s+o)=base+(off+i)*s+o:=by rw[Nat.add_mul];omega
   show bM L w y ((c[base+off*s+(i*s+o)]?).getD undef)
   rw[aV,cU];exact h_
 |lH _ g=>rw[R] at g;cases g
def vt(h:Lo)(az:Nat)(v:V):Option (Lv):=match v with
 | .er id off len=>match h[id]? with
  |some (.jW es s iU)=>match h[iU]? with
   |some (.row cc eb)=>if s=az∧eb=az∧off+len≤es.length∧V.qs (cc.take es.length) es=true then some ((es.drop off).take len) else none
   |_=>none
  |_=>fe h az (.er id off len)
 |v=>fe h az v
theorem XV{h:Lo}{az:Nat}{v:V}{es:Lv}(e:fe h az v=some es):vt h az v=some es:=by
 cases v with
 |er id off len=>
  simp only[vt]
  split
  ·rename_i q
   simp[fe,q] at e
  ·exact e
 |_=>exact e
theorem XW{P:Program}{L:Loc}{h:Lo}{w:World}(H:cw L h w){az:Nat}{v:V}{x:Value}{es:Lv}(rep:bM L w v x)(he:vt h az v=some es):
  (∀a2,(Builtin.lenOf x).run P a2= .ok es.length a2)∧(∀(k:Nat) (e:V),es[k]? =some e→flat az e)∧
  ∃f:Nat→Value,(∀n a2,n≤es.length→a2.heap=w.heap→(Builtin.firstCells az n x).run P a2= .ok ((List.range (n*az)).map f).toArray a2)∧
   ∀(i o:Nat) (e y:V),es[i]? =some e→e.cells[o]? =some y→bM L w y (f (i*az+o)):=by
 cases v with
 |er id off len=>
  simp only[vt] at he
  split at he
  ·rename_i gv s iU dE
   split at he
   ·rename_i cc eb XX
    split at he
    ·rename_i dw
     obtain⟨rfl,rfl,jX,JB⟩:=dw
     injection he with he;subst he
     have sv:=V.vr _ _ JB
     obtain⟨b,base,R,ae,aQ⟩:=H.nF id gv eb iU dE
     obtain⟨c2,jG,c,e,cN,aX,aY,cU,h_,ma⟩:=H.ik iU _ XX
     have dt:∀(i:Nat) (y:V),gv[i]? =some y→cc[i]? =some y:=fun i y bT=>by
      rw[←sv,List.getElem?_take] at bT
      split at bT
      ·exact bT
      ·cases bT
     rcases aQ with aQ|aQ|⟨aQ,c,e,cN,bo,bI,cR⟩
     ·rw[aQ] at aX;cases aX
     ·rw[aQ] at aX;injection aX with aX;injection aX with aE aR;injection aR with aR bE;subst aE;subst aR
      exact OQ rep R aY (fun i y bT=>h_ i y (dt i y bT)) (fun i o y z bT b0=>ma i o y z (dt i y bT) b0) jX
     ·exact OQ rep R bo bI cR jX
    ·cases he
   ·cases he
  ·exact AW H rep he
 |_=>exact AW H rep he
theorem cw.drew{L:Loc}{h:Lo}{w:World}(H:cw L h w):cw L h {w with drawn:=w.drawn+1}:=
 ⟨H.len,fun id fJ dE=>nE.step H (tI _ w) (Ext.refl L w) (H.ik id fJ dE) rfl (fun _ _ _ _=>rfl),H.lt,H.mem,H.inj,fun id es az n au=>qp.step H (tI _ w) (Ext.refl L w) (H.nF id es az n au) rfl (fun _ _ _ _ hw=>⟨rfl,hw⟩)⟩
def oc:Nat:=140737488355328
def DP(off len:Nat)(aM:Lv)(az n:Nat):nD:=match decide (off=0)&&decide (len=aM.length) with
 |true=> .jW aM az n
 |false=> .dead
def tM(h:Lo)(az bytes:Nat)(d:V)(es:Lv):OvL:=
 match d with
 | .ab=>if es.length=0 then some (.ab,h) else if es.length*bytes≤oc then some (.er h.length 0 es.length,h++ [.row es az]) else none
 | .hS=>if es.length=0 then some (.hS,h) else if es.length*bytes≤oc then some (.er h.length 0 es.length,h++ [.row es az]) else none
 | .er id off len=>match h[id]? with
  |some (.row aM s)=>if s=az∧off+len≤aM.length∧(len+es.length)*bytes≤oc then
    some (.er h.length 0 (len+es.length),h.set id (DP off len aM az h.length)++ [.row ((aM.drop off).take len++es) az]) else none
  |_=>none
 |_=>none
theorem JG{L:Loc}{w:World}{az:Nat}{aM es:Lv}{na fn:Nat→Value}{c:Array Value}
  (bj:∀(k:Nat) (e:V),aM[k]? =some e→flat az e) (he:∀(k:Nat) (e:V),es[k]? =some e→flat az e)
  (cj:∀(i o:Nat) (e y:V),aM[i]? =some e→e.cells[o]? =some y→bM L w y (na (i*az+o)))
  (bd:∀(i o:Nat) (e y:V),es[i]? =some e→e.cells[o]? =some y→bM L w y (fn (i*az+o))) (base:Nat)
  (XY:∀k,k<aM.length*az→c[base+k]? =some (na k)) (OR:∀k,k<es.length*az→c[base+aM.length*az+k]? =some (fn k)):
  (∀(k:Nat) (e:V),(aM++es)[k]? =some e→flat az e)∧
  ∀(i o:Nat) (e y:V),(aM++es)[i]? =some e→e.cells[o]? =some y→∃v,c[base+i*az+o]? =some v∧bM L w y v:=by
 refine⟨fun k e aH=> ?_,fun i o e y aw U=> ?_⟩
 ·by_cases q:k<aM.length
  ·rw[List.getElem?_append_left q] at aH;exact bj k e aH
  ·rw[List.getElem?_append_right (by omega)] at aH;exact he _ e aH
 ·by_cases q:i<aM.length
  ·rw[List.getElem?_append_left q] at aw
   have iX:=(List.getElem?_eq_some_iff.1 U).1
   rw[(bj i e aw).1] at iX
   have:=JF (az:=az) q iX
   exact⟨_,by rw[Nat.add_assoc];exact XY _ this,cj i o e y aw U⟩
  ·rw[List.getElem?_append_right (by omega)] at aw
   have od:=(List.getElem?_eq_some_iff.1 aw).1
   have iX:=(List.getElem?_eq_some_iff.1 U).1
   rw[(he _ e aw).1] at iX
   have:=JF (az:=az) od iX
   have aV:base+i*az+o=base+aM.length*az+((i-aM.length)*az+o):=by
    have:i*az=aM.length*az+(i-aM.length)*az:=by rw[←Nat.add_mul];congr 1;omega
    omega
   exact⟨_,by rw[aV];exact OR _ this,bd _ o e y aw U⟩
theorem run_append_grow{P:Program}{w:World}{c_:Array TypeId}{ty t e t2:TypeId}{i:TypeInfo}{z:Value}{cD:TypeDesc}(iV:c_[0]? =some t)(XZ:c_[1]? =some t2)(hu:P.underlying t=some (.slice e))(tN:P.underlying t2=some cD)
  (JH:∀k,cD≠ .int k) (aw:P.info? e=some i) (b0:i.zero=some z) (fi:0<i.bytes)
  {base:Option Addr} {len cap n:Nat} {x:Value} {nF new:Array Value} (ax:∀a2,(Builtin.lenOf x).run P a2= .ok n a2)
  (cj:∀a2,a2.heap=w.heap→(Builtin.firstCells i.size len (.slice base len cap)).run P a2= .ok nF a2)
  (bd:∀a2,a2.heap=w.heap→(Builtin.firstCells i.size n x).run P a2= .ok new a2) (dt:cap<len+n) (aF:(len+n)*i.bytes≤oc):
  ∃kS,len+n≤kS∧(Builtin.append_ c_ ty #[.slice base len cap,x]).run P w=
   .ok (.slice (some ⟨w.heap.size,0,none⟩) (len+n) kS) {w with drawn:=w.drawn+1,heap:=w.heap.push (.cells (nF++new++Builtin.zeroCells z.cells (kS-(len+n))) e)}:=by
 refine⟨grownCap w (len+n) cap e,grownCap_ge w _ _ _, ?_⟩
 have rq:=growslice_fits dt (Nat.le_trans aF (by unfold oc;omega))
 have JI:(match cD with| .int _=>true|_=>false)=false:=by cases cD<;>first|rfl|exact absurd rfl (JH _)
 have aq4:¬(((len+n:Nat):Int)>IntKind.i64.max∧(False∨i.bytes=0)):=by
  rintro ⟨_,h|h⟩
  ·exact h
  ·omega
 have bj:({w with drawn:=w.drawn+1}:World).heap=w.heap:=rfl
 unfold Builtin.append_
 rw[iV,XZ]
 simp only[List.getElem?_toArray,List.getElem?_cons_zero,List.getElem?_cons_succ,Sem.run_bind,run_underlying hu,run_underlying tN,Result.andThen_ok,Sem.run_pure,run_sizeOf w aw,JI,Bool.false_eq_true,if_false,ax]
 rw[if_neg (by omega:¬len+n≤cap)]
 have JJ:∀a2,(typeInfo e).run P a2= .ok i a2:=fun a2=>by simp[typeInfo,aw]
 rw[Sem.run_bind,JJ,Result.andThen_ok]
 try dsimp only
 rw[if_neg (by rintro ⟨_,f|f⟩<;>first|exact f|(exact Bool.noConfusion f)|omega)]
 rw[Sem.run_bind,JJ,Result.andThen_ok]
 try dsimp only
 rw[if_neg (by omega)]
 rw[Sem.run_bind,run_choose,if_neg (by simp[Question.forced]),Result.andThen_ok]
 try dsimp only
 rw[Sem.run_bind,JJ,Result.andThen_ok]
 try dsimp only
 rw[Sem.run_bind,run_askRoom,Result.andThen_ok]
 try dsimp only
 rw[Sem.run_bind,cj _ bj,Result.andThen_ok]
 try dsimp only
 rw[if_pos (by rfl:(!false)=true)]
 rw[Sem.run_bind,bd _ bj,Result.andThen_ok]
 try dsimp only
 rw[Sem.run_bind]
 have X0:∀a2,(zeroValue e).run P a2= .ok z a2:=fun a2=>by simp[zeroValue,typeInfo,aw,b0]
 rw[X0,Result.andThen_ok]
 rfl
theorem OS(f:Nat→Value)(n k:Nat)(h:k<n):(((List.range n).map f).toArray:Array Value)[k]? =some (f k):=by simp[h]
structure tO(P:Program)(c_:Array TypeId)(t e t2:TypeId)(i:TypeInfo)(z:Value)(cD:TypeDesc):Prop where
 t0:c_[0]? =some t
 t1:c_[1]? =some t2
 vu:P.underlying t=some (.slice e)
 de:P.underlying t2=some cD
 OT:∀k,cD≠ .int k
 inf:P.info? e=some i
 zero:i.zero=some z
 bytes:0<i.bytes
 cells:z.cells.size=i.size
 pos:0<i.size
theorem run_append_fits{P:Program}{w:World}{c_:Array TypeId}{ty t e t2:TypeId}{i:TypeInfo}{z:Value}{cD:TypeDesc}(T:tO P c_ t e t2 i z cD)
  {base:Option Addr} {len cap n:Nat} {x:Value} {new:Array Value} (ax:∀a2,(Builtin.lenOf x).run P a2= .ok n a2)
  (bd:∀a2,a2.heap=w.heap→(Builtin.firstCells i.size n x).run P a2= .ok new a2) (dt:len+n≤cap):
  (Builtin.append_ c_ ty #[.slice base len cap,x]).run P w=
   ((match base with|some a=>storeCells (a.add (len*i.size)) new.toList|none=>pure ():Sem Unit).run P w).andThen fun _ a2=> .ok (.slice base (len+n) cap) a2:=by
 have tN:=T.de
 have JH:=T.OT
 have JI:(match cD with| .int _=>true|_=>false)=false:=by cases cD<;>first|rfl|exact absurd rfl (JH _)
 unfold Builtin.append_
 rw[T.t0,T.t1]
 simp only[List.getElem?_toArray,List.getElem?_cons_zero,List.getElem?_cons_succ,Sem.run_bind,run_underlying T.vu,run_underlying tN,Result.andThen_ok,Sem.run_pure,run_sizeOf w T.inf,JI,Bool.false_eq_true,if_false,ax]
 rw[if_pos dt,if_pos (by rfl:(!false)=true)]
 rw[Sem.run_bind,bd w rfl,Result.andThen_ok]
 cases base with
 |none=>rfl
 |some a=>simp only[Sem.run_bind,Sem.run_pure]
theorem OU(L:Loc)(w:World){id b base az c2 jG hU:Nat}(eQ:L.at_ id=some (b,base,az))(hT:c2=b∨w.heap.size≤c2):Ext L w ((L.kill id).push (c2,jG,hU)):=by
 refine⟨by simp[Loc.push,Loc.kill],fun q bm=> ?_,fun q ⟨jc,p,hp⟩=> ?_⟩
 ·rw[Loc.oW (L.kill id) _ bm]
  by_cases z:q=id
  ·exact .inl (by rw[z];exact L.pL id)
  ·exact .inr (L.oX z)
 ·simp only[Loc.push] at hp
  split at hp
  ·injection hp with hp;injection hp with cF cW;subst cF
   rcases hT with e|e
   ·exact .inl (by rw[e];exact⟨id,_,eQ⟩)
   ·exact .inr e
  ·by_cases z:jc=id
   ·subst z;rw[L.pL] at hp;cases hp
   ·rw[L.oX z] at hp;exact .inl ⟨jc,p,hp⟩
theorem JK{P:Program}{L:Loc}{w:World}{c_:Array TypeId}{ty t e t2:TypeId}{i:TypeInfo}{z:Value}{cD:TypeDesc}(T:tO P c_ t e t2 i z cD){y:Value}{es aM:Lv}{fn na:Nat→Value}
  (hlen:∀a2,(Builtin.lenOf y).run P a2= .ok es.length a2) (hq:∀(k:Nat) (e:V),es[k]? =some e→flat i.size e)
  (lj:∀a2,a2.heap=w.heap→(Builtin.firstCells i.size es.length y).run P a2= .ok ((List.range (es.length*i.size)).map fn).toArray a2)
  (jY:∀(a o:Nat) (e y:V),es[a]? =some e→e.cells[o]? =some y→bM L w y (fn (a*i.size+o)))
  (base:Option Addr) (cap:Nat) (bj:∀(k:Nat) (e:V),aM[k]? =some e→flat i.size e)
  (tP:∀(a o:Nat) (e y:V),aM[a]? =some e→e.cells[o]? =some y→bM L w y (na (a*i.size+o)))
  (tQ:∀a2,a2.heap=w.heap→(Builtin.firstCells i.size aM.length (.slice base aM.length cap)).run P a2= .ok ((List.range (aM.length*i.size)).map na).toArray a2)
  (jq:cap<aM.length+es.length) (aF:(aM.length+es.length)*i.bytes≤oc):∃kS c,aM.length+es.length≤kS∧
   (Builtin.append_ c_ ty #[.slice base aM.length cap,y]).run P w= .ok (.slice (some ⟨w.heap.size,0,none⟩) (aM.length+es.length) kS) {w with drawn:=w.drawn+1,heap:=w.heap.push (.cells c e)}∧
   c.size=kS*i.size∧(∀(k:Nat) (e:V),(aM++es)[k]? =some e→flat i.size e)∧∀(a o:Nat) (e y:V),(aM++es)[a]? =some e→e.cells[o]? =some y→∃v,c[a*i.size+o]? =some v∧bM L w y v:=by
 obtain⟨kS,R,ae⟩:=run_append_grow T.t0 T.t1 T.vu T.de T.OT T.inf T.zero T.bytes (ty:=ty) (base:=base) (len:=aM.length) (cap:=cap) hlen tQ lj jq aF
 refine⟨kS,_,R,ae, ?_, ?_⟩
 ·simp only[Array.size_append,List.size_toArray,List.length_map,List.length_range,size_zeroCells,T.cells]
  have:kS*i.size=(aM.length+es.length)*i.size+(kS-(aM.length+es.length))*i.size:=by rw[←Nat.add_mul];congr 1;omega
  rw[this,Nat.add_mul]
 ·have:=JG (L:=L) (w:=w) (c:=((List.range (aM.length*i.size)).map na).toArray++((List.range (es.length*i.size)).map fn).toArray++Builtin.zeroCells z.cells (kS-(aM.length+es.length))) bj hq tP jY 0 (fun k aH=> ?_) (fun k aH=> ?_)
  ·simp only[Nat.zero_add] at this;exact this
  ·rw[Array.append_assoc,Array.getElem?_append_left (by simp only[List.size_toArray,List.length_map,List.length_range];omega),Nat.zero_add]
   exact OS _ _ _ aH
  ·rw[Array.append_assoc,Array.getElem?_append_right (by simp only[List.size_toArray,List.length_map,List.length_range];omega),Array.getElem?_append_left (by simp only[List.size_toArray,List.length_map,List.length_range];omega)]
   simp only[List.size_toArray,List.length_map,List.length_range,Nat.zero_add]
   rw[show aM.length*i.size+k-aM.length*i.size=k by omega]
   exact OS _ _ _ aH
theorem OV{P:Program}{L:Loc}{h:Lo}{w:World}(H:cw L h w){c_:Array TypeId}{ty t e t2:TypeId}{i:TypeInfo}{z:Value}{cD:TypeDesc}(T:tO P c_ t e t2 i z cD){y:Value}{es:Lv}{fn:Nat→Value}
  (hlen:∀a2,(Builtin.lenOf y).run P a2= .ok es.length a2) (hq:∀(k:Nat) (e:V),es[k]? =some e→flat i.size e)
  (lj:∀a2,a2.heap=w.heap→(Builtin.firstCells i.size es.length y).run P a2= .ok ((List.range (es.length*i.size)).map fn).toArray a2)
  (jY:∀(a o:Nat) (e y:V),es[a]? =some e→e.cells[o]? =some y→bM L w y (fn (a*i.size+o)))
  (base:Option Addr) (aS:∀a2,(Builtin.firstCells i.size 0 (.slice base 0 0)).run P a2= .ok #[] a2) (aI:es.length≠0) (aF:es.length*i.bytes≤oc):
  Good P L w (Builtin.append_ c_ ty #[.slice base 0 0,y]) (.er h.length 0 es.length) (h++ [.row es i.size]):=by
 obtain⟨kS,c,R,ae,aQ,bo,bI⟩:=JK T (ty:=ty) (aM:=[]) (na:=fun _=>undef) hlen hq lj jY base 0 (fun k e aH=>by simp at aH) (fun a o e y h=>by simp at h) (fun a2 _=>by simpa using aS a2)
  (by simp only[List.length_nil,Nat.zero_add];omega) (by simpa only[List.length_nil,Nat.zero_add] using aF)
 simp only[List.length_nil,Nat.zero_add] at R ae
 simp only[List.nil_append] at bo bI
 obtain⟨aX,aY,cU⟩:=JC H.drew es i.size c e (0,0) (AS _) bo (fun a o e y aE aR=>by
  obtain⟨v,ar,aA⟩:=bI a o e y aE aR
  exact⟨v,ar,H.my aA (tI _ w) (Ext.refl L w)⟩)
 refine⟨_,_,_,ae, ?_,aX,(tI (Own L) w).trans (Ext.refl L w) aY,(Ext.refl L w).trans cU (Nat.le_refl _)⟩
 have qt:l8 {w with drawn:=w.drawn+1,heap:=w.heap.push (.cells c e)} w.heap.size=kS*i.size:=by
  rw[rn (c:=c) (e:=e) (cN:=(0,0)) (by show(w.heap.push _)[w.heap.size]? =_;simp),aQ]
 have:=bM.er (L:=L.push (w.heap.size,0,i.size)) (w:={w with drawn:=w.drawn+1,heap:=w.heap.push (.cells c e)}) (off:=0) (len:=es.length) (cap:=kS) (L.nH (w.heap.size,0,i.size)) R
  (by rw[qt];simp only[Nat.zero_add];exact Nat.le_refl _)
 rw[H.len] at this
 simpa only[Nat.zero_mul,Nat.add_zero,Nat.zero_add] using this
theorem OW{L:Loc}{h:Lo}{w:World}(H:cw L h w){id b base az:Nat}{aM:Lv}(dE:h[id]? =some (.row aM az))(eQ:L.at_ id=some (b,base,az)){c:Array Value}{kz:TypeId}{cN:Nat × Nat}
  (hw:w.heap[b]? =some (.cells c kz cN)) {off len:Nat} (jX:off+len≤aM.length) (k:Nat) (aH:k<len*az):
  ∃v,c[base+off*az+k]? =some v:=by
 obtain⟨fi,AN,dQ,e6,aq5,R,ae,aQ,bo,bI⟩:=H.ik id _ dE
 rw[eQ] at R;injection R with R;injection R with aE aR;injection aR with aR bE;subst aE;subst aR
 rw[hw] at ae;injection ae with ae;injection ae with aE aR bE;subst aE
 have lM:0<az:=by
  rcases Nat.eq_zero_or_pos az with q|q
  ·subst q;simp at aH
  ·exact q
 have hn:k/az<len:=Nat.div_lt_of_lt_mul (by rw[Nat.mul_comm];exact aH)
 have bN:off+k/az<aM.length:=by omega
 have aX:aM[off+k/az]? =some aM[off+k/az]:=List.getElem?_eq_getElem bN
 have ax:=(bo _ _ aX).1
 have U:k % az<az:=Nat.mod_lt _ lM
 have aY:(aM[off+k/az]).cells[k % az]? =some ((aM[off+k/az]).cells[k % az]'(by rw[ax];exact U)):=List.getElem?_eq_getElem _
 obtain⟨v,cU,_⟩:=bI _ _ _ _ aX aY
 have vs:=Nat.div_add_mod k az
 have aV:base+off*az+k=base+(off+k/az)*az+k % az:=by rw[Nat.add_mul,Nat.mul_comm (k/az) az];omega
 exact⟨v,by rw[aV];exact cU⟩
theorem OX(L:Loc)(w:World){id b base az c2 jG hU:Nat}(eQ:L.at_ id=some (b,base,az))(hT:c2=b∨w.heap.size≤c2):Ext L w (L.push (c2,jG,hU)):=by
 refine⟨by simp[Loc.push],fun q bm=> .inr (L.oW _ bm),fun q ⟨jc,p,hp⟩=> ?_⟩
 simp only[Loc.push] at hp
 split at hp
 ·injection hp with hp;injection hp with cF cW;subst cF
  rcases hT with e|e
  ·exact .inl (by rw[e];exact⟨id,_,eQ⟩)
  ·exact .inr e
 ·exact .inl ⟨jc,p,hp⟩
theorem X1{P:Program}{L:Loc}{h:Lo}{w:World}(H:cw L h w){c_:Array TypeId}{ty t e t2:TypeId}{i:TypeInfo}{z:Value}{cD:TypeDesc}(T:tO P c_ t e t2 i z cD){y:Value}{es aM:Lv}{fn:Nat→Value}
  (hlen:∀a2,(Builtin.lenOf y).run P a2= .ok es.length a2) (hq:∀(k:Nat) (e:V),es[k]? =some e→flat i.size e)
  (lj:∀a2,a2.heap=w.heap→(Builtin.firstCells i.size es.length y).run P a2= .ok ((List.range (es.length*i.size)).map fn).toArray a2)
  (jY:∀(a o:Nat) (e y:V),es[a]? =some e→e.cells[o]? =some y→bM L w y (fn (a*i.size+o)))
  {id off len b base cap:Nat} (dE:h[id]? =some (.row aM i.size)) (eQ:L.at_ id=some (b,base,i.size)) (jX:off+len≤aM.length) (jq:len≤cap) (b0:base+(off+cap)*i.size≤l8 w b) (qu:len+es.length≤cap):
  Good P L w (Builtin.append_ c_ ty #[.slice (some ⟨b,base+off*i.size,none⟩) len cap,y]) (.er h.length 0 (len+es.length)) (h.set id .dead++ [.row ((aM.drop off).take len++es) i.size]):=by
 obtain⟨fi,AN,c,kz,cN,R,ae,aQ,bo,bI⟩:=H.ik id _ dE
 rw[eQ] at R;injection R with R;injection R with aE aR;injection aR with aR bE;subst aE;subst aR
 have jr:=(Array.getElem?_eq_some_iff.1 ae).1
 have ru:((aM.drop off).take len).length=len:=by simp only[List.length_take,List.length_drop];omega
 have vv:∀u∈(List.range (es.length*i.size)).map fn,u.oneCell'=true:=by
  intro u hu
  simp only[List.mem_map,List.mem_range] at hu
  obtain⟨k,aH,rfl⟩:=hu
  have hn:k/i.size<es.length:=Nat.div_lt_of_lt_mul (by rw[Nat.mul_comm];exact aH)
  have aX:es[k/i.size]? =some es[k/i.size]:=List.getElem?_eq_getElem hn
  have aS:=hq _ _ aX
  have U:k % i.size<i.size:=Nat.mod_lt _ T.pos
  have aY:(es[k/i.size]).cells[k % i.size]? =some ((es[k/i.size]).cells[k % i.size]'(by rw[aS.1];exact U)):=List.getElem?_eq_getElem _
  have:=jY _ _ _ _ aX aY
  have vs:=Nat.div_add_mod k i.size
  rw[show k/i.size*i.size+k % i.size=k by rw[Nat.mul_comm];exact vs] at this
  exact this.one (List.all_eq_true.1 aS.2 _ (List.getElem_mem _))
 have vw:base+(off+cap)*i.size≤c.size:=by rw[←rn ae];exact b0
 have rq:base+off*i.size+len*i.size+es.length*i.size≤c.size:=by
  have:(len+es.length)*i.size≤cap*i.size:=Nat.mul_le_mul_right _ qu
  rw[Nat.add_mul] at this vw
  omega
 have AX:base+off*i.size+len*i.size+0+((List.range (es.length*i.size)).map fn).length≤c.size:=by simp only[List.length_map,List.length_range];omega
 have iW:=E.Jt P b (base+off*i.size+len*i.size) kz cN ((List.range (es.length*i.size)).map fn) 0 c w ae aQ AX vv
 generalize oe:lI c (base+off*i.size+len*i.size+0) ((List.range (es.length*i.size)).map fn)=W at iW
 have vx:W.size=c.size:=by rw[←oe];exact xI _ _ _
 have iJ:Fr (Own L) w (E.put w b (.cells W kz cN)):=DI ⟨id,_,eQ⟩ ae vx
 have AY:∀k,W[k]? =if base+off*i.size+len*i.size≤k∧k<base+off*i.size+len*i.size+es.length*i.size then some (fn (k-(base+off*i.size+len*i.size))) else c[k]? :=by
  intro k
  rw[←oe,AL _ _ _ AX]
  simp only[Nat.add_zero,List.length_map,List.length_range]
  split
  ·rename_i q
   rw[List.getElem?_map,List.getElem?_range (by omega)];rfl
  ·rfl
 have pT:∀(k:Nat) (e:V),((aM.drop off).take len)[k]? =some e→aM[off+k]? =some e:=by
  intro k e aH
  rw[List.getElem?_take] at aH
  split at aH
  ·rw[List.getElem?_drop] at aH;exact aH
  ·cases aH
 obtain⟨ar,aA⟩:=JG (L:=L) (w:=w) (c:=W) (az:=i.size) (aM:=(aM.drop off).take len) (es:=es) (na:=fun k=>(c[base+off*i.size+k]?).getD undef) (fn:=fn) (fun k e aH=>bo _ e (pT k e aH)) hq
  (fun a o e y aE aR=>by
   obtain⟨v,cU,h_⟩:=bI _ _ _ _ (pT a e aE) aR
   have aV:base+off*i.size+(a*i.size+o)=base+(off+a)*i.size+o:=by rw[Nat.add_mul];omega
   show bM L w y ((c[base+off*i.size+(a*i.size+o)]?).getD undef)
   rw[aV,cU];exact h_) jY (base+off*i.size)
  (fun k aH=>by
   rw[ru] at aH
   rw[AY,if_neg (by omega)]
   obtain⟨v,bg⟩:=OW H dE eQ ae jX k aH
   show _=some ((c[base+off*i.size+k]?).getD undef)
   rw[bg];rfl)
  (fun k aH=>by
   rw[ru,AY,if_pos (by omega)]
   congr 2;omega)
 have hex:=OU L w (c2:=b) (jG:=base+off*i.size) (hU:=i.size) eQ (.inl rfl)
 obtain⟨t1,AZ⟩:=cw.OB H (c2:=b) (jG:=base+off*i.size) (hU:=i.size) eQ iJ (fun k _ aH=>pK aH) (.inl rfl) (by rw[DH];exact jr)
  (fJ:= .row ((aM.drop off).take len++es) i.size) (by
   refine⟨b,base+off*i.size,W,kz,cN,Loc.nH (L.kill id) _,pJ jr,by rw[vx];exact aQ,ar,fun a o x y aE aR=> ?_⟩
   obtain⟨v,aX,aY⟩:=aA a o x y aE aR
   exact⟨v,aX,H.my aY iJ hex⟩) (fun⟨_,_,_,q⟩=>by rw[dE] at q;cases q)
 refine⟨.slice (some ⟨b,base+off*i.size,none⟩) (len+es.length) cap,_,_, ?_, ?_,t1,iJ,hex⟩
 ·rw[run_append_fits T hlen lj qu]
  simp only[tH]
  rw[iW];rfl
 ·have qt:l8 (E.put w b (.cells W kz cN)) b=c.size:=by rw[rn (pJ jr),vx]
  have:=bM.er (L:=(L.kill id).push (b,base+off*i.size,i.size)) (w:=E.put w b (.cells W kz cN)) (off:=0) (len:=len+es.length) (cap:=cap) (Loc.nH (L.kill id) (b,base+off*i.size,i.size)) qu (by
    rw[qt];rw[Nat.add_mul] at vw;simp only[Nat.zero_add];omega)
  rw[show(L.kill id).len=h.length from H.len] at this
  simpa only[Nat.zero_mul,Nat.add_zero] using this
theorem X2{P:Program}{L:Loc}{h:Lo}{w:World}(H:cw L h w){c_:Array TypeId}{ty t e t2:TypeId}{i:TypeInfo}{z:Value}{cD:TypeDesc}(T:tO P c_ t e t2 i z cD){y:Value}{es aM:Lv}{fn:Nat→Value}
  (hlen:∀a2,(Builtin.lenOf y).run P a2= .ok es.length a2) (hq:∀(k:Nat) (e:V),es[k]? =some e→flat i.size e)
  (lj:∀a2,a2.heap=w.heap→(Builtin.firstCells i.size es.length y).run P a2= .ok ((List.range (es.length*i.size)).map fn).toArray a2)
  (jY:∀(a o:Nat) (e y:V),es[a]? =some e→e.cells[o]? =some y→bM L w y (fn (a*i.size+o)))
  {id off len b base cap:Nat} (dE:h[id]? =some (.row aM i.size)) (eQ:L.at_ id=some (b,base,i.size)) (jX:off+len≤aM.length) (jq:len≤cap) (b0:base+(off+cap)*i.size≤l8 w b) (qu:len+es.length≤cap) (X3:off=0) (aq6:len=aM.length):
  Good P L w (Builtin.append_ c_ ty #[.slice (some ⟨b,base+off*i.size,none⟩) len cap,y]) (.er h.length 0 (len+es.length)) (h.set id (.jW aM i.size h.length)++ [.row ((aM.drop off).take len++es) i.size]):=by
 obtain⟨fi,AN,c,kz,cN,R,ae,aQ,bo,bI⟩:=H.ik id _ dE
 rw[eQ] at R;injection R with R;injection R with aE aR;injection aR with aR bE;subst aE;subst aR
 have jr:=(Array.getElem?_eq_some_iff.1 ae).1
 have ru:((aM.drop off).take len).length=len:=by simp only[List.length_take,List.length_drop];omega
 have vv:∀u∈(List.range (es.length*i.size)).map fn,u.oneCell'=true:=by
  intro u hu
  simp only[List.mem_map,List.mem_range] at hu
  obtain⟨k,aH,rfl⟩:=hu
  have hn:k/i.size<es.length:=Nat.div_lt_of_lt_mul (by rw[Nat.mul_comm];exact aH)
  have aX:es[k/i.size]? =some es[k/i.size]:=List.getElem?_eq_getElem hn
  have aS:=hq _ _ aX
  have U:k % i.size<i.size:=Nat.mod_lt _ T.pos
  have aY:(es[k/i.size]).cells[k % i.size]? =some ((es[k/i.size]).cells[k % i.size]'(by rw[aS.1];exact U)):=List.getElem?_eq_getElem _
  have:=jY _ _ _ _ aX aY
  have vs:=Nat.div_add_mod k i.size
  rw[show k/i.size*i.size+k % i.size=k by rw[Nat.mul_comm];exact vs] at this
  exact this.one (List.all_eq_true.1 aS.2 _ (List.getElem_mem _))
 have vw:base+(off+cap)*i.size≤c.size:=by rw[←rn ae];exact b0
 have rq:base+off*i.size+len*i.size+es.length*i.size≤c.size:=by
  have:(len+es.length)*i.size≤cap*i.size:=Nat.mul_le_mul_right _ qu
  rw[Nat.add_mul] at this vw
  omega
 have AX:base+off*i.size+len*i.size+0+((List.range (es.length*i.size)).map fn).length≤c.size:=by simp only[List.length_map,List.length_range];omega
 have iW:=E.Jt P b (base+off*i.size+len*i.size) kz cN ((List.range (es.length*i.size)).map fn) 0 c w ae aQ AX vv
 generalize oe:lI c (base+off*i.size+len*i.size+0) ((List.range (es.length*i.size)).map fn)=W at iW
 have vx:W.size=c.size:=by rw[←oe];exact xI _ _ _
 have iJ:Fr (Own L) w (E.put w b (.cells W kz cN)):=DI ⟨id,_,eQ⟩ ae vx
 have AY:∀k,W[k]? =if base+off*i.size+len*i.size≤k∧k<base+off*i.size+len*i.size+es.length*i.size then some (fn (k-(base+off*i.size+len*i.size))) else c[k]? :=by
  intro k
  rw[←oe,AL _ _ _ AX]
  simp only[Nat.add_zero,List.length_map,List.length_range]
  split
  ·rename_i q
   rw[List.getElem?_map,List.getElem?_range (by omega)];rfl
  ·rfl
 have pT:∀(k:Nat) (e:V),((aM.drop off).take len)[k]? =some e→aM[off+k]? =some e:=by
  intro k e aH
  rw[List.getElem?_take] at aH
  split at aH
  ·rw[List.getElem?_drop] at aH;exact aH
  ·cases aH
 obtain⟨ar,aA⟩:=JG (L:=L) (w:=w) (c:=W) (az:=i.size) (aM:=(aM.drop off).take len) (es:=es) (na:=fun k=>(c[base+off*i.size+k]?).getD undef) (fn:=fn) (fun k e aH=>bo _ e (pT k e aH)) hq
  (fun a o e y aE aR=>by
   obtain⟨v,cU,h_⟩:=bI _ _ _ _ (pT a e aE) aR
   have aV:base+off*i.size+(a*i.size+o)=base+(off+a)*i.size+o:=by rw[Nat.add_mul];omega
   show bM L w y ((c[base+off*i.size+(a*i.size+o)]?).getD undef)
   rw[aV,cU];exact h_) jY (base+off*i.size)
  (fun k aH=>by
   rw[ru] at aH
   rw[AY,if_neg (by omega)]
   obtain⟨v,bg⟩:=OW H dE eQ ae jX k aH
   show _=some ((c[base+off*i.size+k]?).getD undef)
   rw[bg];rfl)
  (fun k aH=>by
   rw[ru,AY,if_pos (by omega)]
   congr 2;omega)
 have hex:=OX L w (c2:=b) (jG:=base+off*i.size) (hU:=i.size) eQ (.inl rfl)
 obtain⟨t1,AZ⟩:=cw.OC H (aM:=aM) (c2:=b) (jG:=base+off*i.size) (hU:=i.size) eQ iJ (fun k _ aH=>pK aH) (.inl ⟨rfl,by rw[X3];simp,rfl⟩) (by rw[DH];exact jr)
  (fJ:= .row ((aM.drop off).take len++es) i.size) (by
   refine⟨b,base+off*i.size,W,kz,cN,Loc.nH L _,pJ jr,by rw[vx];exact aQ,ar,fun a o x y aE aR=> ?_⟩
   obtain⟨v,aX,aY⟩:=aA a o x y aE aR
   exact⟨v,aX,H.my aY iJ hex⟩) (fun⟨_,_,_,q⟩=>by rw[dE] at q;cases q)
 refine⟨.slice (some ⟨b,base+off*i.size,none⟩) (len+es.length) cap,_,_, ?_, ?_,t1,iJ,hex⟩
 ·rw[run_append_fits T hlen lj qu]
  simp only[tH]
  rw[iW];rfl
 ·have qt:l8 (E.put w b (.cells W kz cN)) b=c.size:=by rw[rn (pJ jr),vx]
  have:=bM.er (L:=L.push (b,base+off*i.size,i.size)) (w:=E.put w b (.cells W kz cN)) (off:=0) (len:=len+es.length) (cap:=cap) (Loc.nH L (b,base+off*i.size,i.size)) qu (by
    rw[qt];rw[Nat.add_mul] at vw;simp only[Nat.zero_add];omega)
  rw[show L.len=h.length from H.len] at this
  simpa only[Nat.zero_mul,Nat.add_zero] using this
theorem X4{P:Program}{L:Loc}{h:Lo}{w:World}(H:cw L h w){c_:Array TypeId}{ty t e t2:TypeId}{i:TypeInfo}{z:Value}{cD:TypeDesc}(T:tO P c_ t e t2 i z cD){y:Value}{es aM:Lv}{fn na:Nat→Value}
  (hlen:∀a2,(Builtin.lenOf y).run P a2= .ok es.length a2) (hq:∀(k:Nat) (e:V),es[k]? =some e→flat i.size e)
  (lj:∀a2,a2.heap=w.heap→(Builtin.firstCells i.size es.length y).run P a2= .ok ((List.range (es.length*i.size)).map fn).toArray a2)
  (jY:∀(a o:Nat) (e y:V),es[a]? =some e→e.cells[o]? =some y→bM L w y (fn (a*i.size+o)))
  {id b base len cap:Nat} {b2:Addr} {xQ:Lv} (dE:h[id]? =some (.row xQ i.size)) (eQ:L.at_ id=some (b,base,i.size)) (pT:aM.length=len)
  (bj:∀(k:Nat) (e:V),aM[k]? =some e→flat i.size e)
  (tP:∀(a o:Nat) (e y:V),aM[a]? =some e→e.cells[o]? =some y→bM L w y (na (a*i.size+o)))
  (tQ:∀a2,a2.heap=w.heap→(Builtin.firstCells i.size len (.slice (some b2) len cap)).run P a2= .ok ((List.range (len*i.size)).map na).toArray a2)
  (jq:cap<len+es.length) (aF:(len+es.length)*i.bytes≤oc):
  Good P L w (Builtin.append_ c_ ty #[.slice (some b2) len cap,y]) (.er h.length 0 (len+es.length)) (h.set id .dead++ [.row (aM++es) i.size]):=by
 subst pT
 obtain⟨kS,c0,ar,aA,aT,bu,bX⟩:=JK T (ty:=ty) hlen hq lj jY (some b2) cap bj tP tQ jq aF
 have DQ:∀k,k<w.heap.size→({w with drawn:=w.drawn+1,heap:=w.heap.push (.cells c0 e)}:World).heap[k]? =w.heap[k]? :=fun k aH=>by
  show(w.heap.push _)[k]? =_
  rw[Array.getElem?_push,if_neg (by omega)]
 have iJ:Fr (Own L) w {w with drawn:=w.drawn+1,heap:=w.heap.push (.cells c0 e)}:=
  (tI (Own L) w).trans (Ext.refl L w) (AM (Own L) {w with drawn:=w.drawn+1} (.cells c0 e))
 have hex:=OU L w (c2:=w.heap.size) (jG:=0) (hU:=i.size) eQ (.inr (Nat.le_refl _))
 obtain⟨t1,AZ⟩:=cw.OB H (c2:=w.heap.size) (jG:=0) (hU:=i.size) eQ iJ (fun k aH _=>DQ k aH) (.inr (Nat.le_refl _)) (by show _<(w.heap.push _).size;simp)
  (fJ:= .row (aM++es) i.size) (by
   refine⟨w.heap.size,0,c0,e,(0,0),Loc.nH (L.kill id) _,by show(w.heap.push _)[w.heap.size]? =_;simp,AS _,bu,fun a o x y aE aR=> ?_⟩
   obtain⟨v,aX,aY⟩:=bX a o x y aE aR
   exact⟨v,by rw[Nat.zero_add];exact aX,H.my aY iJ hex⟩) (fun⟨_,_,_,q⟩=>by rw[dE] at q;cases q)
 refine⟨_,_,_,aA, ?_,t1,iJ,hex⟩
 have qt:l8 {w with drawn:=w.drawn+1,heap:=w.heap.push (.cells c0 e)} w.heap.size=kS*i.size:=by
  rw[rn (c:=c0) (e:=e) (cN:=(0,0)) (by show(w.heap.push _)[w.heap.size]? =_;simp),aT]
 have:=bM.er (L:=(L.kill id).push (w.heap.size,0,i.size)) (w:={w with drawn:=w.drawn+1,heap:=w.heap.push (.cells c0 e)}) (off:=0) (len:=aM.length+es.length) (cap:=kS) (Loc.nH (L.kill id) (w.heap.size,0,i.size)) ar
  (by rw[qt];simp only[Nat.zero_add];exact Nat.le_refl _)
 rw[show(L.kill id).len=h.length from H.len] at this
 simpa only[Nat.zero_mul,Nat.add_zero,Nat.zero_add] using this
theorem X5{P:Program}{L:Loc}{h:Lo}{w:World}(H:cw L h w){c_:Array TypeId}{ty t e t2:TypeId}{i:TypeInfo}{z:Value}{cD:TypeDesc}(T:tO P c_ t e t2 i z cD){y:Value}{es aM:Lv}{fn na:Nat→Value}
  (hlen:∀a2,(Builtin.lenOf y).run P a2= .ok es.length a2) (hq:∀(k:Nat) (e:V),es[k]? =some e→flat i.size e)
  (lj:∀a2,a2.heap=w.heap→(Builtin.firstCells i.size es.length y).run P a2= .ok ((List.range (es.length*i.size)).map fn).toArray a2)
  (jY:∀(a o:Nat) (e y:V),es[a]? =some e→e.cells[o]? =some y→bM L w y (fn (a*i.size+o)))
  {id b base len cap:Nat} {b2:Addr} {xQ:Lv} (dE:h[id]? =some (.row xQ i.size)) (eQ:L.at_ id=some (b,base,i.size)) (pT:aM.length=len)
  (bj:∀(k:Nat) (e:V),aM[k]? =some e→flat i.size e)
  (tP:∀(a o:Nat) (e y:V),aM[a]? =some e→e.cells[o]? =some y→bM L w y (na (a*i.size+o)))
  (tQ:∀a2,a2.heap=w.heap→(Builtin.firstCells i.size len (.slice (some b2) len cap)).run P a2= .ok ((List.range (len*i.size)).map na).toArray a2)
  (jq:cap<len+es.length) (aF:(len+es.length)*i.bytes≤oc):
  Good P L w (Builtin.append_ c_ ty #[.slice (some b2) len cap,y]) (.er h.length 0 (len+es.length)) (h.set id (.jW xQ i.size h.length)++ [.row (aM++es) i.size]):=by
 subst pT
 obtain⟨kS,c0,ar,aA,aT,bu,bX⟩:=JK T (ty:=ty) hlen hq lj jY (some b2) cap bj tP tQ jq aF
 have DQ:∀k,k<w.heap.size→({w with drawn:=w.drawn+1,heap:=w.heap.push (.cells c0 e)}:World).heap[k]? =w.heap[k]? :=fun k aH=>by
  show(w.heap.push _)[k]? =_
  rw[Array.getElem?_push,if_neg (by omega)]
 have iJ:Fr (Own L) w {w with drawn:=w.drawn+1,heap:=w.heap.push (.cells c0 e)}:=
  (tI (Own L) w).trans (Ext.refl L w) (AM (Own L) {w with drawn:=w.drawn+1} (.cells c0 e))
 have hex:=OX L w (c2:=w.heap.size) (jG:=0) (hU:=i.size) eQ (.inr (Nat.le_refl _))
 obtain⟨t1,AZ⟩:=cw.OC H (aM:=xQ) (c2:=w.heap.size) (jG:=0) (hU:=i.size) eQ iJ (fun k aH _=>DQ k aH) (.inr ⟨Nat.le_refl _,DQ _ (H.mem _ _ _ _ eQ),H.ik id _ dE⟩) (by show _<(w.heap.push _).size;simp)
  (fJ:= .row (aM++es) i.size) (by
   refine⟨w.heap.size,0,c0,e,(0,0),Loc.nH L _,by show(w.heap.push _)[w.heap.size]? =_;simp,AS _,bu,fun a o x y aE aR=> ?_⟩
   obtain⟨v,aX,aY⟩:=bX a o x y aE aR
   exact⟨v,by rw[Nat.zero_add];exact aX,H.my aY iJ hex⟩) (fun⟨_,_,_,q⟩=>by rw[dE] at q;cases q)
 refine⟨_,_,_,aA, ?_,t1,iJ,hex⟩
 have qt:l8 {w with drawn:=w.drawn+1,heap:=w.heap.push (.cells c0 e)} w.heap.size=kS*i.size:=by
  rw[rn (c:=c0) (e:=e) (cN:=(0,0)) (by show(w.heap.push _)[w.heap.size]? =_;simp),aT]
 have:=bM.er (L:=L.push (w.heap.size,0,i.size)) (w:={w with drawn:=w.drawn+1,heap:=w.heap.push (.cells c0 e)}) (off:=0) (len:=aM.length+es.length) (cap:=kS) (Loc.nH L (w.heap.size,0,i.size)) ar
  (by rw[qt];simp only[Nat.zero_add];exact Nat.le_refl _)
 rw[show L.len=h.length from H.len] at this
 simpa only[Nat.zero_mul,Nat.add_zero,Nat.zero_add] using this
theorem X6{P:Program}{L:Loc}{h aa:Lo}{w:World}(H:cw L h w){c_:Array TypeId}{ty t e t2:TypeId}{i:TypeInfo}{z:Value}{cD:TypeDesc}(T:tO P c_ t e t2 i z cD){d s r:V}{x y:Value}{es:Lv}
  (rd:bM L w d x) (rs:bM L w s y) (an:vt h i.size s=some es) (he:tM h i.size i.bytes d es=some (r,aa)):Good P L w (Builtin.append_ c_ ty #[x,y]) r aa:=by
 obtain⟨hlen,hq,fn,vy,jY⟩:=XW (P:=P) H rs an
 have lj:∀a2,a2.heap=w.heap→(Builtin.firstCells i.size es.length y).run P a2= .ok ((List.range (es.length*i.size)).map fn).toArray a2:=fun a2 hw=>vy _ a2 (Nat.le_refl _) hw
 unfold tM at he
 split at he
 ·cases rd
  split at he
  ·rename_i aI
   injection he with he;injection he with hO jd;subst hO;subst jd
   refine .same H (x:= .slice none 0 0) ?_ .ab
   rw[run_append_fits T hlen lj (by omega),aI];rfl
  ·rename_i aI
   split at he
   ·rename_i aF
    injection he with he;injection he with hO jd;subst hO;subst jd
    exact OV H T hlen hq lj jY none (fun a2=>by simp[Builtin.firstCells]) aI aF
   ·cases he
 ·cases rd with
  |hS a=>
   split at he
   ·rename_i aI
    injection he with he;injection he with hO jd;subst hO;subst jd
    refine .same H (x:= .slice (some a) 0 0) ?_ (.hS a)
    rw[run_append_fits T hlen lj (by omega),aI]
    simp[storeCells]
   ·rename_i aI
    split at he
    ·rename_i aF
     injection he with he;injection he with hO jd;subst hO;subst jd
     exact OV H T hlen hq lj jY (some a) (fun a2=>by simp[Builtin.firstCells,Go.loadCells,loadCellsFrom]) aI aF
    ·cases he
 ·rename_i id off len
  split at he
  ·rename_i aM eb dE
   split at he
   ·rename_i dw
    obtain⟨rfl,jX,aF⟩:=dw
    injection he with he;injection he with hO jd;subst hO;subst jd
    obtain⟨b,base,c,kz,cN,R,ae,aQ,bo,bI⟩:=H.ik id _ dE
    have ru:((aM.drop off).take len).length=len:=by simp only[List.length_take,List.length_drop];omega
    have X7:fe h i.size (.er id off len)=some ((aM.drop off).take len):=by
     simp[fe,dE,jX]
    obtain⟨A0,pT,na,tQ,tP⟩:=AW (P:=P) H (az:=i.size) (v:= .er id off len) rd X7
    cases rd with
    | @er _ _ _ cap dL DO s1 g jq b0=>
     rw[R] at g;injection g with g;injection g with aE aR;injection aR with aR bE;subst aE;subst aR;subst bE
     cases bm:(decide (off=0)&&decide (len=aM.length)) with
     |false=>
      simp only[DP,bm]
      by_cases qu:len+es.length≤cap
      ·exact X1 H T hlen hq lj jY dE R jX jq b0 qu
      ·exact X4 H T hlen hq lj jY dE R ru pT tP (fun a2 hw=>tQ len a2 (by rw[ru];exact Nat.le_refl _) hw) (by omega) aF
     |true=>
      simp only[DP,bm]
      simp only[Bool.and_eq_true,decide_eq_true_eq] at bm
      by_cases qu:len+es.length≤cap
      ·exact X2 H T hlen hq lj jY dE R jX jq b0 qu bm.1 bm.2
      ·exact X5 H T hlen hq lj jY dE R ru pT tP (fun a2 hw=>tQ len a2 (by rw[ru];exact Nat.le_refl _) hw) (by omega) aF
    |lH _ g=>rw[R] at g;cases g
   ·cases he
  ·cases he
 ·cases he
theorem bM.vz{L:Loc}{w:World}{k:IntKind}{n:Int}{x:Value}(h:bM L w (.int k n) x):x= .int k n:=by cases h;rfl
def byteOf:V→Option UInt8
 | .int .u8 n=>some (UInt8.ofNat n.toNat)
 |_=>none
def xR(h:Lo)(v:V):Option V:=
 match v with
 | .str _=>none
 |v=>(fe h 1 v).bind fun es=>(fK byteOf es).map .str
theorem OY{L:Loc}{h:Lo}{w:World}(H:cw L h w){az:Nat}{v:V}{x:Value}{es:Lv}(rep:bM L w v x)(he:fe h az v=some es)(bg:∀l,v≠ .str l):∃base cap,x= .slice base es.length cap:=by
 unfold fe at he
 split at he
 ·injection he with he;subst he;cases rep;exact⟨_,_,rfl⟩
 ·injection he with he;subst he;cases rep;exact⟨_,_,rfl⟩
 ·split at he
  ·injection he with he;subst he;cases rep<;>exact⟨_,_,rfl⟩
  ·cases he
 ·rename_i id off len
  split at he
  ·rename_i gv s dE
   split at he
   ·rename_i dw
    injection he with he;subst he
    obtain⟨b,base,c,e,cN,R,_⟩:=H.ik id _ dE
    have hlen:((gv.drop off).take len).length=len:=by simp only[List.length_take,List.length_drop];omega
    rw[hlen]
    cases rep with
    |er g=>exact⟨_,_,rfl⟩
    |lH _ g=>rw[R] at g;cases g
   ·cases he
  ·cases he
 ·exact absurd rfl (bg _)
 ·cases he
theorem X8{P:Program}{L:Loc}{h:Lo}{w:World}(H:cw L h w){src dst e:TypeId}(a6:P.underlying src=some (.slice e))(DR:P.underlying e=some (.int .u8))(bj:P.underlying dst=some .string)
  {v r:V} {x:Value} (rep:bM L w v x) (he:xR h v=some r):Good P L w (convert src dst x) r h:=by
 have main:(∀l,v≠ .str l)→((fe h 1 v).bind fun es=>(fK byteOf es).map .str)=some r→Good P L w (convert src dst x) r h:=by
  intro bg he
  simp only[Option.bind_eq_some_iff,Option.map_eq_some_iff] at he
  obtain⟨es,an,l,hm,rfl⟩:=he
  obtain⟨hlen,hq,fn,vy,jY⟩:=AW (P:=P) H rep an
  obtain⟨base,cap,rfl⟩:=OY H rep an bg
  obtain⟨aX,aY⟩:=vh hm
  refine .same H (x:= .string ⟨l.toArray⟩) ?_ (.str l)
  cases base with
  |none=>
   have aI:es=[]:=by
    generalize dt:es.length=n at rep
    cases rep with
    |ab=>exact List.length_eq_zero_iff.1 dt
    |lH _ q aE=>
     simp only[fe] at an
     split at an
     ·rename_i gv s dE
      obtain⟨b,base,c,e,cN,R,_⟩:=H.ik _ _ dE
      rw[q] at R;cases R
     ·cases an
    |_=>simp[fe] at an
   subst aI
   simp[fK] at hm
   subst hm
   have:=run_convert_bytes_nil w src e a6 DR 0 cap dst bj
   simp only[List.length_nil]
   rw[this];rfl
  |some a=>
   have ax:=vy es.length w (Nat.le_refl _) rfl
   simp only[Builtin.firstCells,Nat.mul_one] at ax
   have JL:∃h5:List Int,(List.range es.length).map fn=h5.map (Value.int .u8)∧h5.map (fun n=>UInt8.ofNat n.toNat)=l:=by
    refine⟨es.map fun e=>(match e with| .int _ n=>n|_=>0), ?_, ?_⟩
    ·apply List.ext_getElem?
     intro k
     by_cases aH:k<es.length
     ·have o0:es[k]? =some es[k]:=List.getElem?_eq_getElem aH
      obtain⟨y,bT⟩:∃y,l[k]? =some y:=⟨l[k],List.getElem?_eq_getElem (by omega)⟩
      obtain⟨z,aE,aR⟩:=aY k y bT
      rw[o0] at aE;injection aE with aE;subst aE
      have:∃n,es[k]= .int .u8 n:=by
       generalize es[k]=z at aR
       cases z<;>simp[byteOf] at aR
       rename_i db n
       cases db<;>simp[byteOf] at aR
       exact⟨n,rfl⟩
      obtain⟨n,bd⟩:=this
      have bc:=jY k 0 es[k] es[k] o0 (by rw[bd];rfl)
      rw[bd] at bc
      simp only[Nat.mul_one,Nat.add_zero] at bc
      have JM:fn k= .int .u8 n:=bc.vz
      rw[List.getElem?_map,List.getElem?_range aH,List.getElem?_map,List.getElem?_map,o0,bd]
      simp[JM]
     ·rw[List.getElem?_eq_none (by simp;omega),List.getElem?_eq_none (by simp;omega)]
    ·apply List.ext_getElem?
     intro k
     by_cases aH:k<es.length
     ·have o0:es[k]? =some es[k]:=List.getElem?_eq_getElem aH
      obtain⟨y,bT⟩:∃y,l[k]? =some y:=⟨l[k],List.getElem?_eq_getElem (by omega)⟩
      obtain⟨z,aE,aR⟩:=aY k y bT
      rw[o0] at aE;injection aE with aE;subst aE
      rw[List.getElem?_map,List.getElem?_map,o0,bT]
      generalize es[k]=z at aR
      cases z<;>simp[byteOf] at aR
      rename_i db n
      cases db<;>simp[byteOf] at aR
      simp[aR]
     ·rw[List.getElem?_eq_none (by simp;omega),List.getElem?_eq_none (by omega)]
   obtain⟨h5,cY,gk⟩:=JL
   rw[cY] at ax
   rw[run_convert_bytes_string w src dst e _ _ cap a6 DR bj,run_bytesToString w a es.length cap h5 ax,foldl_push_bytes,gk]
   simp[ByteArray.empty,ByteArray.emptyWithCapacity]
   rfl
 unfold xR at he
 split at he
 ·cases he
 ·rename_i en
  exact main (fun l q=>en l q) he
theorem OZ(ak:List Value):∀(n:Nat) (cs:Array Value) (off:Nat),(ak.zipIdx n).foldl (fun cs (p:Value × Nat)=>cs.setIfInBounds (off+p.2) p.1) cs=lI cs (off+n) ak:=by
 induction ak with
 |nil=>intro n cs off;rfl
 |cons v ak ba=>
  intro n cs off
  simp only[List.zipIdx_cons,List.foldl_cons,lI]
  rw[ba,Nat.add_assoc]
def je(cs:Lv):List (Nat × Nat × V)→Option (Lv)
 | []=>some cs
 |(off,n,v)::rest=>
  match v with
  | .bW _| .lG=>none
  |v=>if v.cells.length=n∧off+n≤cs.length then je (cs.take off++v.cells++cs.drop (off+n)) rest else none
def JN(L:Loc)(w:World)(place:Nat→Option (Nat × Nat)):List (Nat × Nat × V)→List (Nat × Value)→Prop
 | [],[]=>True
 |(off,n,v)::ah,(i,x)::xs=>place i=some (off,n)∧bM L w v x∧JN L w place ah xs
 |_,_=>False
theorem O0{L:Loc}{w:World}{place:Nat→Option (Nat × Nat)}:∀(ah:List (Nat × Nat × V)) (xs:List (Nat × Value)) (cs r:Lv) (ak:Array Value),JN L w place ah xs→ak.size=cs.length→
  (∀k c,cs[k]? =some c→bM L w c (ak.getD k undef))→je cs ah=some r→∃us,Instr.fill place ak xs=some us∧us.size=r.length∧∀k c,r[k]? =some c→bM L w c (us.getD k undef)
 | [],[],cs,r,ak,_,ax,bc,he=>by
  simp[je] at he;subst he
  exact⟨ak,rfl,ax,bc⟩
 | [],_::_,_,_,_,h,_,_,_=>h.elim
 |_::_,[],_,_,_,h,_,_,_=>h.elim
 |(off,n,v)::ah,(i,x)::xs,cs,r,ak,h,ax,bc,he=>by
  obtain⟨R,ae,aQ⟩:=h
  have main:(v.scalar=true∨∃aM,v= .agg aM)→(if v.cells.length=n∧off+n≤cs.length then je (cs.take off++v.cells++cs.drop (off+n)) ah else none)=some r→
    ∃us,Instr.fill place ak ((i,x)::xs)=some us∧us.size=r.length∧∀k c,r[k]? =some c→bM L w c (us.getD k undef):=by
   intro bg he
   split at he
   ·rename_i dw
    obtain⟨bF,bD⟩:=ae.cells bg
    have lM:x.cells.size=n:=by omega
    have JO:(x.cells.zipIdx.foldl (fun cs (p:Value × Nat)=>cs.setIfInBounds (off+p.2) p.1) ak)=lI ak off x.cells.toList:=by
     have:=OZ x.cells.toList 0 ak off
     rw[←Array.foldl_toList,Array.toList_zipIdx]
     exact this
    have rq:off+x.cells.toList.length≤ak.size:=by simp only[Array.length_toList];omega
    have DS:(cs.take off).length=off:=by simp only[List.length_take];omega
    obtain⟨us,aX,aY,cU⟩:=O0 (place:=place) ah xs _ r (lI ak off x.cells.toList) aQ (by rw[xI];simp only[List.length_append,List.length_take,List.length_drop];omega) (fun k c aH=>by
     have hw:=AL x.cells.toList ak off rq k
     have JP:∀u,(lI ak off x.cells.toList)[k]? =some u→bM L w c u→bM L w c ((lI ak off x.cells.toList).getD k undef):=by
      intro u hu DT
      rw[Array.getD_eq_getD_getElem?,hu];exact DT
     by_cases aE:k<off
     ·rw[List.append_assoc,List.getElem?_append_left (by omega),List.getElem?_take,if_pos aE] at aH
      rw[if_neg (by omega)] at hw
      have bN:k<ak.size:=by omega
      refine JP ak[k] (by rw[hw];simp[bN]) ?_
      have:=bc k c aH
      rwa[Array.getD_eq_getD_getElem?,show ak[k]? =some ak[k] by simp[bN]] at this
     ·by_cases aR:k<off+n
      ·rw[List.append_assoc,List.getElem?_append_right (by omega),DS,List.getElem?_append_left (by omega)] at aH
       rw[if_pos (by simp only[Array.length_toList];omega)] at hw
       have bN:k-off<x.cells.size:=by omega
       refine JP x.cells[k-off] (by rw[hw];simp[bN]) ?_
       have:=bD _ c aH
       rwa[Array.getD_eq_getD_getElem?,show x.cells[k-off]? =some x.cells[k-off] by simp[bN]] at this
      ·rw[List.getElem?_append_right (by simp only[List.length_append];omega)] at aH
       simp only[List.length_append,DS,dw.1] at aH
       rw[List.getElem?_drop,show off+n+(k-(off+n))=k by omega] at aH
       rw[if_neg (by simp only[Array.length_toList];omega)] at hw
       have bN:k<ak.size:=by rw[ax];exact(List.getElem?_eq_some_iff.1 aH).1
       refine JP ak[k] (by rw[hw];simp[bN]) ?_
       have:=bc k c aH
       rwa[Array.getD_eq_getD_getElem?,show ak[k]? =some ak[k] by simp[bN]] at this) he
    refine⟨us, ?_,aY,cU⟩
    simp only[Instr.fill,R]
    rw[if_neg (by simp only[Bool.or_eq_true,decide_eq_true_eq];omega)]
    rw[JO];exact aX
   ·cases he
  simp only[je] at he
  cases v<;>first|(cases he;done)|exact main (.inl rfl) he|exact main (.inr ⟨_,rfl⟩) he
end Go.Proofs.YtjpjeilfmjdhcaaGreat.E
