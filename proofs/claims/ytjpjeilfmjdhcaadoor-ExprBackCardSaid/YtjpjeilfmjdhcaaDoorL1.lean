/- The layer E, its parts in one file: values and memory, operations, code, and what it comes to. No condition. -/
import Derived.Calls
import Derived.Laws.Sem
import Derived.Below
import Derived.Laws.Rows
import Derived.Laws.Append
import Derived.Laws.Cells
import Derived.Laws.Entries
import Derived.Laws.StructEq
import Derived.Laws.Cover3
import Derived.Laws.Pointers
import Derived.WalkSpells
import Derived.Laws.BytesString
import Derived.Lib.ConvBytes
import Derived.Lib.Strings
import Derived.Lib.SmallJoins
import Derived.Laws.BytesArg
/- The layer E, part 1: values with immutable slices written out and a small heap of rows; what it means that they stand for the machine's values and memory; that this is kept where memory that is not owned stays. No condition. -/
namespace Go.Proofs.YtjpjeilfmjdhcaaDoor.E
/-- A value: an immutable slice bears its elements; what can be written lies in a heap, by a number. -/
inductive V where
  | int (k:IntKind) (n:Int)
  | bool (b:Bool)
  | str (l:List UInt8)
  | nilp
  | ptr (id i j:Nat)
  | ref (e:V) (j:Nat)
  | nils
  | hsl (id off len:Nat)
  | sl (es:List V)
  | esl
  | nilm
  | mp (id:Nat)
  | fn (f:FuncId) (caps:List V)
  /-- A function with its first arguments bound (a method's value). -/
  | bm (f:FuncId) (caps:List V)
  | nilf
  | agg (cs:List V)
  | tup (vs:List V)
  | junk
  deriving Inhabited,Repr
def V.cells:V → List V
  | .agg cs => cs
  | v => [v]
/-- What a value that is no value of several cells is in the machine. -/
def V.scalar:V → Bool
  | .agg _ | .tup _ | .junk => false
  | _ => true
/-- An element of a row: so many cells, each a plain one. -/
def flat (sz:Nat) (e:V):Prop := e.cells.length = sz ∧ e.cells.all V.scalar = true
structure Loc where
  at_:Nat → Option (Nat × Nat × Nat)
  len:Nat
def Own (L:Loc) (b:Nat):Prop := ∃ id p,L.at_ id = some (b,p)
/-- How many cells a block has. -/
def bsz (w:World) (b:Nat):Nat :=
  match w.heap[b]? with
  | some (.cells c _ _) => c.size
  | _ => 0
inductive Rep (L:Loc) (w:World):V → Value → Prop
  | int (k:IntKind) (n:Int):Rep L w (.int k n) (.int k n)
  | bool (b:Bool):Rep L w (.bool b) (.bool b)
  | str (l:List UInt8):Rep L w (.str l) (.string ⟨l.toArray⟩)
  | nilp:Rep L w .nilp (.pointer none)
  | ptr {id i j b base sz:Nat} (h:L.at_ id = some (b,base,sz)):Rep L w (.ptr id i j) (.pointer (some ⟨b,base + i * sz + j,none⟩))
  | ref {e:V} {j b o:Nat} (f:Nat → Value) (ho:¬ Own L b) (hb:b < w.heap.size)
      (hc:∀ (k:Nat) (c:V),e.cells[k]? = some c → w.cell? ⟨b,o + k,none⟩ = some (f k)) (hr:∀ (k:Nat) (c:V),e.cells[k]? = some c → Rep L w c (f k)) :
      Rep L w (.ref e j) (.pointer (some ⟨b,o + j,none⟩))
  | nils:Rep L w .nils (.slice none 0 0)
  | hsl {id off len cap b base sz:Nat} (h:L.at_ id = some (b,base,sz)) (hc:len ≤ cap) (hz:base + (off + cap) * sz ≤ bsz w b) :
      Rep L w (.hsl id off len) (.slice (some ⟨b,base + off * sz,none⟩) len cap)
  | sl {es:List V} {sz b o cap:Nat} (f:Nat → Nat → Value) (ho:¬ Own L b) (hb:b < w.heap.size) (hcap:es.length ≤ cap)
      (hs:∀ (i:Nat) (e:V),es[i]? = some e → flat sz e)
      (hc:∀ (i j:Nat) (e c:V),es[i]? = some e → e.cells[j]? = some c → w.cell? ⟨b,o + i * sz + j,none⟩ = some (f i j))
      (hr:∀ (i j:Nat) (e c:V),es[i]? = some e → e.cells[j]? = some c → Rep L w c (f i j)):Rep L w (.sl es) (.slice (some ⟨b,o,none⟩) es.length cap)
  | sl0 (a:Addr) (cap:Nat):Rep L w (.sl []) (.slice (some a) 0 cap)
  | esl (a:Addr):Rep L w .esl (.slice (some a) 0 0)
  | nilm:Rep L w .nilm (.map none)
  | mp {id b base sz:Nat} (h:L.at_ id = some (b,base,sz)):Rep L w (.mp id) (.map (some b))
  | fn {f:FuncId} {caps:List V} (vs:Array Value) (hl:vs.size = caps.length) (hr:∀ k c,caps[k]? = some c → Rep L w c (vs.getD k undef)) :
      Rep L w (.fn f caps) (.func (.func f) #[] vs)
  | bm {f:FuncId} {caps:List V} (vs:Array Value) (hl:vs.size = caps.length) (hr:∀ k c,caps[k]? = some c → Rep L w c (vs.getD k undef)) :
      Rep L w (.bm f caps) (.func (.func f) vs #[])
  | nilf:Rep L w .nilf .nilFunc
  | agg {cs:List V} (vs:Array Value) (hl:vs.size = cs.length) (hr:∀ k c,cs[k]? = some c → Rep L w c (vs.getD k undef)):Rep L w (.agg cs) (.agg vs)
  | tup {cs:List V} (vs:Array Value) (hl:vs.size = cs.length) (hr:∀ k c,cs[k]? = some c → Rep L w c (vs.getD k undef)):Rep L w (.tup cs) (.tuple vs)
  | junk (x:Value):Rep L w .junk x
  | ptrD {id i j:Nat} (x:Value) (h:L.at_ id = none) (hl:id < L.len) (h1:x.oneCell' = true):Rep L w (.ptr id i j) x
  | hslD {id off len:Nat} (x:Value) (h:L.at_ id = none) (hl:id < L.len) (h1:x.oneCell' = true):Rep L w (.hsl id off len) x
  | mpD {id:Nat} (x:Value) (h:L.at_ id = none) (hl:id < L.len) (h1:x.oneCell' = true):Rep L w (.mp id) x
/-- Of what lay there, that is not owned, nothing has turned; no block has another number of cells. -/
structure Fr (B:Nat → Prop) (w w':World):Prop where
  os:w'.os = w.os
  tape:w'.tape = w.tape
  output:w'.output = w.output
  size:w.heap.size ≤ w'.heap.size
  block:∀ k,k < w.heap.size → ¬ B k → w'.heap[k]? = w.heap[k]?
  cells:∀ k,k < w.heap.size → bsz w' k = bsz w k
structure Ext (L:Loc) (w:World) (L':Loc):Prop where
  len:L.len ≤ L'.len
  same:∀ id,id < L.len → L'.at_ id = none ∨ L'.at_ id = L.at_ id
  own:∀ b,Own L' b → Own L b ∨ w.heap.size ≤ b
theorem Fr.refl (B:Nat → Prop) (w:World):Fr B w w := ⟨rfl,rfl,rfl,Nat.le_refl _,fun _ _ _ => rfl,fun _ _ => rfl⟩
theorem Ext.refl (L:Loc) (w:World):Ext L w L := ⟨Nat.le_refl _,fun _ _ => .inr rfl,fun _ h => .inl h⟩
theorem Fr.trans {L L₁ : Loc} {w w₁ w₂ : World} (h:Fr (Own L) w w₁) (x:Ext L w L₁) (k:Fr (Own L₁) w₁ w₂):Fr (Own L) w w₂ :=
  ⟨k.os.trans h.os,k.tape.trans h.tape,k.output.trans h.output,Nat.le_trans h.size k.size,
   fun i hi ho => (k.block i (Nat.lt_of_lt_of_le hi h.size) (fun o => (x.own i o).elim ho (fun q => by omega))).trans (h.block i hi ho),
   fun i hi => (k.cells i (Nat.lt_of_lt_of_le hi h.size)).trans (h.cells i hi)⟩
theorem Ext.trans {L L₁ L₂ : Loc} {w w₁ : World} (h:Ext L w L₁) (k:Ext L₁ w₁ L₂) (hw:w.heap.size ≤ w₁.heap.size):Ext L w L₂ :=
  ⟨Nat.le_trans h.len k.len,
   fun id hi => by
     rcases k.same id (Nat.lt_of_lt_of_le hi h.len) with e | e
     · exact .inl e
     · rcases h.same id hi with e' | e'
       · exact .inl (e.trans e')
       · exact .inr (e.trans e'),
   fun b hb => by
     rcases k.own b hb with e | e
     · exact h.own b e
     · exact .inr (Nat.le_trans hw e)⟩
theorem Fr.mono {B B':Nat → Prop} {w w':World} (h:Fr B w w') (hb:∀ b,B b → B' b):Fr B' w w' :=
  ⟨h.os,h.tape,h.output,h.size,fun k hk ho => h.block k hk (fun q => ho (hb k q)),h.cells⟩
theorem cell?_of_heap {w w':World} {a:Addr} (h:w'.heap[a.block]? = w.heap[a.block]?):w'.cell? a = w.cell? a := by
  unfold World.cell?
  rw [h]
theorem bsz_of_heap {w w':World} {b:Nat} (h:w'.heap[b]? = w.heap[b]?):bsz w' b = bsz w b := by
  unfold bsz
  rw [h]
/-- What stands for a value goes on standing for it. 'hL': what is owned lies in memory. -/
theorem Rep.step {L L':Loc} {w w':World} {v:V} {x:Value} (h:Rep L w v x) (fr:Fr (Own L) w w') (ex:Ext L w L')
    (hL:∀ id b base sz,L.at_ id = some (b,base,sz) → b < w.heap.size) (hlt:∀ id p,L.at_ id = some p → id < L.len):Rep L' w' v x := by
  induction h with
  | int k n => exact .int k n
  | bool b => exact .bool b
  | str l => exact .str l
  | nilp => exact .nilp
  | @ptr id i j b base sz h =>
    have hi := hlt _ _ h
    rcases ex.same id hi with e | e
    · exact .ptrD _ e (Nat.lt_of_lt_of_le hi ex.len) rfl
    · exact .ptr (e.trans h)
  | @ref e j b o f ho hb hc hr ih =>
    have hb':w'.heap[b]? = w.heap[b]? := fr.block b hb ho
    exact .ref f (fun q => (ex.own b q).elim ho (fun z => by omega)) (Nat.lt_of_lt_of_le hb fr.size)
      (fun k c hk => by rw [cell?_of_heap (w := w) hb']; exact hc k c hk) (fun k c hk => ih k c hk)
  | nils => exact .nils
  | @hsl id off len cap b base sz h hc hz =>
    have hi := hlt _ _ h
    rcases ex.same id hi with e | e
    · exact .hslD _ e (Nat.lt_of_lt_of_le hi ex.len) rfl
    · exact .hsl (e.trans h) hc (by rw [fr.cells b (hL _ _ _ _ h)]; exact hz)
  | @sl es sz b o cap f ho hb hcap hs hc hr ih =>
    have hb':w'.heap[b]? = w.heap[b]? := fr.block b hb ho
    exact .sl f (fun q => (ex.own b q).elim ho (fun z => by omega)) (Nat.lt_of_lt_of_le hb fr.size) hcap hs
      (fun i j e c h1 h2 => by rw [cell?_of_heap (w := w) hb']; exact hc i j e c h1 h2) (fun i j e c h1 h2 => ih i j e c h1 h2)
  | sl0 a cap => exact .sl0 a cap
  | esl a => exact .esl a
  | nilm => exact .nilm
  | @mp id b base sz h =>
    have hi := hlt _ _ h
    rcases ex.same id hi with e | e
    · exact .mpD _ e (Nat.lt_of_lt_of_le hi ex.len) rfl
    · exact .mp (e.trans h)
  | fn vs hl hr ih => exact .fn vs hl (fun k c hk => ih k c hk)
  | bm vs hl hr ih => exact .bm vs hl (fun k c hk => ih k c hk)
  | nilf => exact .nilf
  | agg vs hl hr ih => exact .agg vs hl (fun k c hk => ih k c hk)
  | tup vs hl hr ih => exact .tup vs hl (fun k c hk => ih k c hk)
  | junk x => exact .junk x
  | @ptrD id i j x h hl h1 =>
    rcases ex.same id hl with e | e
    · exact .ptrD _ e (Nat.lt_of_lt_of_le hl ex.len) h1
    · exact .ptrD _ (e.trans h) (Nat.lt_of_lt_of_le hl ex.len) h1
  | @hslD id off len x h hl h1 =>
    rcases ex.same id hl with e | e
    · exact .hslD _ e (Nat.lt_of_lt_of_le hl ex.len) h1
    · exact .hslD _ (e.trans h) (Nat.lt_of_lt_of_le hl ex.len) h1
  | @mpD id x h hl h1 =>
    rcases ex.same id hl with e | e
    · exact .mpD _ e (Nat.lt_of_lt_of_le hl ex.len) h1
    · exact .mpD _ (e.trans h) (Nat.lt_of_lt_of_le hl ex.len) h1
/-! ### The heap -/
inductive Ob where
  | row (es:List V) (sz:Nat)
  | map (ents:List (V × V × Nat)) (clock:Nat)
  | siter (l:List UInt8) (pos:Nat)
  | miter (m:Option Nat) (since:Nat) (seen:List Nat) (stepped:Nat)
  | dead
  /-- A row to which was appended: it reads as the row 'nid' begins, or as it was. -/
  | was (es:List V) (sz nid:Nat)
  /-- A variable of the program that holds these numbers, and is not written. -/
  | pin (g:Nat) (k:IntKind) (zs:List Int) (e:TypeId)
  deriving Inhabited,Repr
def okFr (fr:Nat × Nat) (n:Nat):Prop := fr.1 ≤ fr.2 ∧ ∀ o,o < n → ¬ (fr.1 ≤ o ∧ o < fr.2)
def ORel (L:Loc) (w:World) (id:Nat):Ob → Prop
  | .row es sz => ∃ b base c e fr,L.at_ id = some (b,base,sz) ∧ w.heap[b]? = some (.cells c e fr) ∧ okFr fr c.size ∧
      (∀ (i:Nat) (x:V),es[i]? = some x → flat sz x) ∧
      ∀ (i j:Nat) (x y:V),es[i]? = some x → x.cells[j]? = some y → ∃ v,c[base + i * sz + j]? = some v ∧ Rep L w y v
  | .map ents clock => ∃ b base sz mes,L.at_ id = some (b,base,sz) ∧ w.heap[b]? = some (.map mes clock) ∧ mes.size = ents.length ∧
      ∀ (i:Nat) (k v:V) (t:Nat),ents[i]? = some (k,v,t) → ∃ e:MapEntry,mes[i]? = some e ∧ Rep L w k e.key ∧ Rep L w v e.val ∧ e.born = t
  | .siter l pos => ∃ b sz,L.at_ id = some (b,0,sz) ∧ w.heap[b]? = some (.stringIter ⟨l.toArray⟩ pos)
  | .miter m since seen stepped => ∃ b sz mb,L.at_ id = some (b,0,sz) ∧ w.heap[b]? = some (.mapIter mb since seen.toArray stepped) ∧
      (match m,mb with
       | none,none => True
       | some i,some r => i < L.len ∧ (L.at_ i = none ∨ ∃ p,L.at_ i = some (r,p))
       | _,_ => False)
  | .dead => L.at_ id = none
  | .was _ _ _ => True
  | .pin g k zs e => ∃ base sz,L.at_ id = some (g,base,sz) ∧ w.heap[g]? = some (.cells (zs.map fun z => Value.int k z).toArray e (0,0))
def isWas (h:List Ob) (i:Nat):Prop := ∃ es sz n,h[i]? = some (.was es sz n)
/-- What is known of such a row: the new one lies where it lay, or nothing else lies there. -/
def OldR (L:Loc) (h:List Ob) (w:World) (id:Nat) (es:List V) (sz nid:Nat):Prop :=
  ∃ b base,L.at_ id = some (b,base,sz) ∧ nid < L.len ∧
    (L.at_ nid = none ∨ L.at_ nid = some (b,base,sz) ∨
      ((∀ j p,L.at_ j = some (b,p) → isWas h j) ∧ ∃ c e fr,w.heap[b]? = some (.cells c e fr) ∧ (∀ (i:Nat) (x:V),es[i]? = some x → flat sz x) ∧
        ∀ (i j:Nat) (x y:V),es[i]? = some x → x.cells[j]? = some y → ∃ v,c[base + i * sz + j]? = some v ∧ Rep L w y v))
structure HRel (L:Loc) (h:List Ob) (w:World):Prop where
  len:L.len = h.length
  obs:∀ id ob,h[id]? = some ob → ORel L w id ob
  lt:∀ id p,L.at_ id = some p → id < L.len
  mem:∀ id b base sz,L.at_ id = some (b,base,sz) → b < w.heap.size
  inj:∀ i j b p q,L.at_ i = some (b,p) → L.at_ j = some (b,q) → i = j ∨ isWas h i ∨ isWas h j
  old:∀ id es sz nid,h[id]? = some (.was es sz nid) → OldR L h w id es sz nid
theorem HRel.step_rep {L L':Loc} {h:List Ob} {w w':World} (H:HRel L h w) {v:V} {x:Value} (r:Rep L w v x) (fr:Fr (Own L) w w') (ex:Ext L w L'):Rep L' w' v x :=
  r.step fr ex H.mem H.lt
/-- It stays so, where its block has not turned. -/
theorem OldR.step {L L':Loc} {h h':List Ob} {w w':World} (H:HRel L h w) (fr:Fr (Own L) w w') (ex:Ext L w L') {id:Nat} {es:List V} {sz nid:Nat} (r:OldR L h w id es sz nid)
    (hat:L'.at_ id = L.at_ id) (hb:∀ b base sz,L.at_ id = some (b,base,sz) → (∀ j p,L.at_ j = some (b,p) → isWas h j) → w'.heap[b]? = w.heap[b]? ∧ ∀ j p,L'.at_ j = some (b,p) → isWas h' j):OldR L' h' w' id es sz nid := by
  obtain ⟨b,base,h1,h2,h3⟩ := r
  refine ⟨b,base,hat.trans h1,Nat.lt_of_lt_of_le h2 ex.len,?_⟩
  rcases h3 with h3 | h3 | ⟨h3,c,e,f,h4,h5,h6⟩
  · rcases ex.same nid h2 with q | q
    · exact .inl q
    · exact .inl (q.trans h3)
  · rcases ex.same nid h2 with q | q
    · exact .inl q
    · exact .inr (.inl (q.trans h3))
  · obtain ⟨g1,g2⟩ := hb b base sz h1 h3
    refine .inr (.inr ⟨g2,c,e,f,g1.trans h4,h5,fun i j x y q1 q2 => ?_⟩)
    obtain ⟨v,k1,k2⟩ := h6 i j x y q1 q2
    exact ⟨v,k1,H.step_rep k2 fr ex⟩
/-- An environment: what each temporary holds. -/
def TRel (L:Loc) (w:World) (n:Nat) (t:Nat → V) (tm:Array Value):Prop := tm.size = n ∧ ∀ i,i < n → Rep L w (t i) (tm.getD i undef)
theorem TRel.step {L L':Loc} {h:List Ob} {w w':World} {n:Nat} {t:Nat → V} {tm:Array Value} (r:TRel L w n t tm) (H:HRel L h w) (fr:Fr (Own L) w w') (ex:Ext L w L'):TRel L' w' n t tm :=
  ⟨r.1,fun i hi => H.step_rep (r.2 i hi) fr ex⟩
def upd (t:Nat → V) (d:Nat) (v:V):Nat → V := fun j => if j = d then v else t j
theorem TRel.upd {L:Loc} {w:World} {n:Nat} {t:Nat → V} {tm:Array Value} (r:TRel L w n t tm) {d:Nat} {v:V} {x:Value} (hv:Rep L w v x):TRel L w n (upd t d v) (tm.setIfInBounds d x) := by
  refine ⟨by simpa using r.1,fun i hi => ?_⟩
  unfold E.upd
  have hs := r.1
  by_cases hd:i = d
  · subst hd
    rw [if_pos rfl]
    have:(tm.setIfInBounds i x).getD i undef = x := by
      simp [Array.getD,hs,hi]
    rw [this]; exact hv
  · rw [if_neg hd]
    have:(tm.setIfInBounds d x).getD i undef = tm.getD i undef := by
      simp only [Array.getD,Array.size_setIfInBounds]
      split
      · rename_i q
        simp only [Array.getInternal_eq_getElem]
        rw [Array.getElem_setIfInBounds]
        rw [if_neg (fun e => hd e.symm)]
      · rfl
    rw [this]; exact r.2 i hi
/-- The closed values of the program's text. -/
def ofValue:Value → Option V
  | .int k n => some (.int k n)
  | .bool b => some (.bool b)
  | .string s => some (.str s.data.toList)
  | .pointer none => some .nilp
  | .slice none 0 0 => some .nils
  | .map none => some .nilm
  | .nilFunc => some .nilf
  | .tuple vs => if vs.size = 0 then some (.tup []) else none
  | _ => none
theorem ofValue_rep {L:Loc} {w:World} {x:Value} {v:V} (h:ofValue x = some v):Rep L w v x := by
  unfold ofValue at h
  split at h <;> first | (cases h; done) | skip
  · injection h with h; subst h; exact .int _ _
  · injection h with h; subst h; exact .bool _
  · rename_i s; injection h with h; subst h; exact .str s.data.toList
  · injection h with h; subst h; exact .nilp
  · injection h with h; subst h; exact .nils
  · injection h with h; subst h; exact .nilm
  · injection h with h; subst h; exact .nilf
  · split at h
    · rename_i vs hv
      injection h with h; subst h; exact .tup vs (by simpa using hv) (fun k c hk => by simp at hk)
    · cases h
def mapAll {α β : Type} (f : α → Option β):List α → Option (List β)
  | [] => some []
  | x :: xs => match f x,mapAll f xs with
    | some y,some ys => some (y :: ys)
    | _,_ => none
theorem mapAll_get {α β : Type} {f : α → Option β}:∀ {xs:List α} {ys:List β},mapAll f xs = some ys → ys.length = xs.length ∧ ∀ (i:Nat) y,ys[i]? = some y → ∃ x,xs[i]? = some x ∧ f x = some y
  | [],ys,h => by simp [mapAll] at h; subst h; simp
  | x :: xs,ys,h => by
    simp only [mapAll] at h
    split at h
    · rename_i y ys' h1 h2
      injection h with h; subst h
      obtain ⟨g1,g2⟩ := mapAll_get h2
      refine ⟨by simp [g1],fun i z hz => ?_⟩
      cases i with
      | zero => simp at hz; subst hz; exact ⟨x,by simp,h1⟩
      | succ i => simp at hz; obtain ⟨x',e1,e2⟩ := g2 i z hz; exact ⟨x',by simpa using e1,e2⟩
    · cases h
/-- With the zero values of structs and arrays. -/
def ofZero:Value → Option V
  | .agg vs => (mapAll ofValue vs.toList).map .agg
  | x => ofValue x
theorem ofZero_rep {L:Loc} {w:World} {x:Value} {v:V} (h:ofZero x = some v):Rep L w v x := by
  unfold ofZero at h
  split at h
  · rename_i vs
    simp only [Option.map_eq_some_iff] at h
    obtain ⟨cs,h1,rfl⟩ := h
    obtain ⟨g1,g2⟩ := mapAll_get h1
    refine .agg vs (by simpa using g1.symm) (fun k c hk => ?_)
    obtain ⟨y,e1,e2⟩ := g2 k c hk
    have hk':vs[k]? = some y := by simpa using e1
    have:vs.getD k undef = y := by
      rw [Array.getD_eq_getD_getElem?,hk']; rfl
    rw [this]; exact ofValue_rep e2
  · exact ofValue_rep h
end Go.Proofs.YtjpjeilfmjdhcaaDoor.E
/- The layer E, part 2: what reading, writing and making memory does to what stands for what. No condition. -/
namespace Go.Proofs.YtjpjeilfmjdhcaaDoor.E
theorem addr_add (b o n:Nat):(⟨b,o,none⟩:Addr).add n = ⟨b,o + n,none⟩ := by
  unfold Addr.add
  split
  · rename_i h; subst h; rfl
  · rfl
theorem cell?_row {w:World} {b:Nat} {c:Array Value} {e:TypeId} {fr:Nat × Nat} (h:w.heap[b]? = some (.cells c e fr)) (o:Nat):w.cell? ⟨b,o,none⟩ = c[o]? := by
  simp [World.cell?,h]
theorem bsz_row {w:World} {b:Nat} {c:Array Value} {e:TypeId} {fr:Nat × Nat} (h:w.heap[b]? = some (.cells c e fr)):bsz w b = c.size := by
  simp [bsz,h]
theorem frozen?_row {w:World} {b:Nat} {c:Array Value} {e:TypeId} {fr:Nat × Nat} (h:w.heap[b]? = some (.cells c e fr)) (ok:okFr fr c.size) (o:Nat) (ho:o < c.size):w.frozen? ⟨b,o,none⟩ = false := by
  obtain ⟨lo,hi⟩ := fr
  have := ok.2 o ho
  simp [World.frozen?,h]
  simpa using this
/-- A block turned whole. -/
def put (w:World) (b:Nat) (o:Obj):World := { w with heap := w.heap.setIfInBounds b o }
theorem put_same {w:World} {b:Nat} {o:Obj} (h:b < w.heap.size):(put w b o).heap[b]? = some o := by
  simp [put,h]
theorem put_other {w:World} {b k:Nat} {o:Obj} (h:k ≠ b):(put w b o).heap[k]? = w.heap[k]? := by
  simp only [put]
  rw [Array.getElem?_setIfInBounds_ne (fun e => h e.symm)]
theorem put_size {w:World} {b:Nat} {o:Obj}:(put w b o).heap.size = w.heap.size := by simp [put]
theorem put_put {w:World} {b:Nat} {o o':Obj}:put (put w b o) b o' = put w b o' := by
  simp [put]
theorem setCell_put {w:World} {b o:Nat} {c:Array Value} {e:TypeId} {fr:Nat × Nat} {v:Value} (h:w.heap[b]? = some (.cells c e fr)) :
    w.setCell ⟨b,o,none⟩ v = put w b (.cells (c.setIfInBounds o v) e fr) := by
  have hb := (Array.getElem?_eq_some_iff.1 h).1
  have hv := (Array.getElem?_eq_some_iff.1 h).2
  unfold World.setCell put
  congr 1
  apply Array.ext_getElem?
  intro i
  rw [Array.getElem?_modify,Array.getElem?_setIfInBounds]
  by_cases q:b = i
  · subst q
    simp [hb,hv]
  · simp [q]
def writeAt (c:Array Value) (o:Nat):List Value → Array Value
  | [] => c
  | v :: vs => writeAt (c.setIfInBounds o v) (o + 1) vs
theorem writeAt_size (vs:List Value):∀ (c:Array Value) (o:Nat),(writeAt c o vs).size = c.size := by
  induction vs with
  | nil => intro c o; rfl
  | cons v vs ih => intro c o; simp [writeAt,ih]
theorem writeAt_get (vs:List Value):∀ (c:Array Value) (o:Nat),o + vs.length ≤ c.size → ∀ k,(writeAt c o vs)[k]? = if o ≤ k ∧ k < o + vs.length then vs[k - o]? else c[k]? := by
  induction vs with
  | nil => intro c o _ k; simp [writeAt]; intro h1 h2; omega
  | cons v vs ih =>
    intro c o h k
    simp only [List.length_cons] at h ⊢
    rw [writeAt,ih _ _ (by simp; omega)]
    by_cases h1:o + 1 ≤ k ∧ k < o + 1 + vs.length
    · rw [if_pos h1,if_pos (by omega)]
      rw [show k - o = (k - (o + 1)) + 1 by omega]; rfl
    · rw [if_neg h1,Array.getElem?_setIfInBounds]
      by_cases h2:o = k
      · subst h2
        rw [if_pos rfl,if_pos (by omega),if_pos (by omega)]
        simp
      · rw [if_neg h2]
        split
        · omega
        · rfl
theorem run_storeCells (P:Program) (b o:Nat) (e:TypeId) (fr:Nat × Nat) (vs:List Value):∀ (i:Nat) (c:Array Value) (w:World),w.heap[b]? = some (.cells c e fr) → okFr fr c.size →
    o + i + vs.length ≤ c.size → (∀ v ∈ vs,v.oneCell' = true) → (storeCells ⟨b,o,none⟩ vs i).run P w = .ok () (put w b (.cells (writeAt c (o + i) vs) e fr)) := by
  induction vs with
  | nil =>
    intro i c w h _ _ _
    simp only [storeCells,Sem.run_pure,writeAt]
    have hb := (Array.getElem?_eq_some_iff.1 h).1
    have e:w.heap.setIfInBounds b (.cells c e fr) = w.heap := by
      apply Array.ext_getElem?
      intro k
      rw [Array.getElem?_setIfInBounds]
      split
      · rename_i q; subst q; rw [h]
      · rfl
    unfold put
    rw [e]
  | cons v vs ih =>
    intro i c w h ok hl h1
    simp only [List.length_cons] at hl
    simp only [storeCells,Sem.run_bind,addr_add]
    rw [run_store P w _ v _ (h1 v (by simp))]
    rw [cell?_row h,frozen?_row h ok _ (by omega)]
    have hs:∃ u,c[o + i]? = some u := ⟨c[o + i],by simp⟩
    obtain ⟨u,hu⟩ := hs
    rw [hu]
    simp only [Bool.false_eq_true,if_false,Result.andThen_ok]
    rw [setCell_put h]
    have hb := (Array.getElem?_eq_some_iff.1 h).1
    have h' := put_same (w := w) (b := b) (o := .cells (c.setIfInBounds (o + i) v) e fr) hb
    have := ih (i + 1) (c.setIfInBounds (o + i) v) _ h' (by simpa using ok) (by simp; omega) (fun x hx => h1 x (by simp [hx]))
    rw [this,put_put]
    rfl
theorem run_loadCells (P:Program) (w:World) (b o n:Nat) (f:Nat → Value) (h:∀ j,j < n → w.cell? ⟨b,o + j,none⟩ = some (f j)) :
    (loadCells ⟨b,o,none⟩ n).run P w = .ok ((List.range n).map f).toArray w := by
  have := Go.run_loadCells (P := P) (w := w) ⟨b,o,none⟩ n f (fun j hj => by rw [addr_add]; exact h j hj)
  exact this
/-! ### What is kept -/
theorem fr_alloc (B:Nat → Prop) (w:World) (o:Obj):Fr B w { w with heap := w.heap.push o } := by
  refine ⟨rfl,rfl,rfl,by simp,fun k hk _ => ?_,fun k hk => ?_⟩
  · show (w.heap.push o)[k]? = _
    rw [Array.getElem?_push,if_neg (by omega)]
  · refine bsz_of_heap ?_
    show (w.heap.push o)[k]? = _
    rw [Array.getElem?_push,if_neg (by omega)]
theorem fr_drew (B:Nat → Prop) (w:World):Fr B w { w with drawn := w.drawn + 1 } := ⟨rfl,rfl,rfl,Nat.le_refl _,fun _ _ _ => rfl,fun _ _ => rfl⟩
theorem fr_put {B:Nat → Prop} {w:World} {b:Nat} {c c':Array Value} {e e':TypeId} {fr fr':Nat × Nat} (hb:B b) (h:w.heap[b]? = some (.cells c e fr)) (hs:c'.size = c.size):Fr B w (put w b (.cells c' e' fr')) := by
  have hlt := (Array.getElem?_eq_some_iff.1 h).1
  refine ⟨rfl,rfl,rfl,by simp [put],fun k hk hn => put_other (fun q => hn (q ▸ hb)),fun k hk => ?_⟩
  by_cases q:k = b
  · subst q
    rw [bsz_row (put_same hlt),bsz_row h,hs]
  · exact bsz_of_heap (put_other q)
def Loc.push (L:Loc) (p:Nat × Nat × Nat):Loc := ⟨fun i => if i = L.len then some p else L.at_ i,L.len + 1⟩
/-- One number falls away. -/
def Loc.kill (L:Loc) (id:Nat):Loc := ⟨fun i => if i = id then none else L.at_ i,L.len⟩
theorem Loc.push_new (L:Loc) (p:Nat × Nat × Nat):(L.push p).at_ L.len = some p := by simp [Loc.push]
theorem Loc.push_old (L:Loc) (p:Nat × Nat × Nat) {i:Nat} (h:i < L.len):(L.push p).at_ i = L.at_ i := by simp [Loc.push]; intro q; omega
theorem Loc.kill_same (L:Loc) (id:Nat):(L.kill id).at_ id = none := by simp [Loc.kill]
theorem Loc.kill_other (L:Loc) {id i:Nat} (h:i ≠ id):(L.kill id).at_ i = L.at_ i := by simp [Loc.kill,h]
theorem ext_push (L:Loc) (w:World) (b base sz:Nat) (hb:w.heap.size ≤ b):Ext L w (L.push (b,base,sz)) := by
  refine ⟨by simp [Loc.push],fun id hi => .inr (L.push_old _ hi),fun x ⟨id,p,h⟩ => ?_⟩
  simp only [Loc.push] at h
  split at h
  · injection h with h; injection h with h1 h2; subst h1; exact .inr hb
  · exact .inl ⟨id,p,h⟩
/-- An object of the heap whose block has not turned goes on standing for it. -/
theorem ORel.step {L L':Loc} {h:List Ob} {w w':World} (H:HRel L h w) (fr:Fr (Own L) w w') (ex:Ext L w L') {id:Nat} {ob:Ob} (r:ORel L w id ob)
    (hat:L'.at_ id = L.at_ id) (hbl:∀ b base sz,L.at_ id = some (b,base,sz) → w'.heap[b]? = w.heap[b]?):ORel L' w' id ob := by
  cases ob with
  | row es sz =>
    obtain ⟨b,base,c,e,f,h1,h2,h3,h4,h5⟩ := r
    refine ⟨b,base,c,e,f,hat.trans h1,(hbl _ _ _ h1).trans h2,h3,h4,fun i j x y hx hy => ?_⟩
    obtain ⟨v,g1,g2⟩ := h5 i j x y hx hy
    exact ⟨v,g1,H.step_rep g2 fr ex⟩
  | map ents clock =>
    obtain ⟨b,base,sz,mes,h1,h2,h3,h4⟩ := r
    refine ⟨b,base,sz,mes,hat.trans h1,(hbl _ _ _ h1).trans h2,h3,fun i k v t hx => ?_⟩
    obtain ⟨e,g1,g2,g3,g4⟩ := h4 i k v t hx
    exact ⟨e,g1,H.step_rep g2 fr ex,H.step_rep g3 fr ex,g4⟩
  | siter l pos =>
    obtain ⟨b,sz,h1,h2⟩ := r
    exact ⟨b,sz,hat.trans h1,(hbl _ _ _ h1).trans h2⟩
  | miter m since seen stepped =>
    obtain ⟨b,sz,mb,h1,h2,h3⟩ := r
    refine ⟨b,sz,mb,hat.trans h1,(hbl _ _ _ h1).trans h2,?_⟩
    cases m with
    | none => cases mb with
      | none => trivial
      | some r => exact h3
    | some i => cases mb with
      | none => exact h3
      | some r =>
        obtain ⟨q1,q2⟩ := h3
        refine ⟨Nat.lt_of_lt_of_le q1 ex.len,?_⟩
        rcases ex.same i q1 with e | e
        · exact .inl e
        · rcases q2 with q2 | ⟨p,q2⟩
          · exact .inl (e.trans q2)
          · exact .inr ⟨p,e.trans q2⟩
  | dead => exact hat.trans r
  | was es sz n => trivial
  | pin g k zs e =>
    obtain ⟨base,sz,h1,h2⟩ := r
    exact ⟨base,sz,hat.trans h1,(hbl _ _ _ h1).trans h2⟩
/-- A new object. -/
theorem HRel.push {L:Loc} {h:List Ob} {w:World} (H:HRel L h w) (o:Obj) (ob:Ob) (base sz:Nat)
    (hob:ORel (L.push (w.heap.size,base,sz)) { w with heap := w.heap.push o } L.len ob) (hnw:∀ es s n,ob ≠ .was es s n := by intro _ _ _ q; cases q) :
    HRel (L.push (w.heap.size,base,sz)) (h ++ [ob]) { w with heap := w.heap.push o } := by
  have fr := fr_alloc (Own L) w o
  have ex := ext_push L w w.heap.size base sz (Nat.le_refl _)
  have hold:∀ b,b < w.heap.size → ({ w with heap := w.heap.push o }:World).heap[b]? = w.heap[b]? := fun b hb => by
    show (w.heap.push o)[b]? = _
    rw [Array.getElem?_push,if_neg (by omega)]
  have keep:∀ i,isWas h i → isWas (h ++ [ob]) i := fun i ⟨es,s,n,q⟩ => by
    have hi:i < h.length := (List.getElem?_eq_some_iff.1 q).1
    exact ⟨es,s,n,by rw [List.getElem?_append_left hi]; exact q⟩
  have old:∀ id es sz' nid,(h ++ [ob])[id]? = some (.was es sz' nid) → OldR (L.push (w.heap.size,base,sz)) (h ++ [ob]) { w with heap := w.heap.push o } id es sz' nid := by
    intro id es sz' nid hx
    by_cases hi:id < h.length
    · rw [List.getElem?_append_left hi] at hx
      have r := H.old id es sz' nid hx
      refine OldR.step H fr ex r (L.push_old _ (by rw [H.len]; exact hi)) (fun b bs s hb hw => ⟨hold b (H.mem _ _ _ _ hb),fun j p hj => ?_⟩)
      simp only [Loc.push] at hj
      split at hj
      · injection hj with hj; injection hj with hj _; have := H.mem _ _ _ _ hb; omega
      · exact keep _ (hw j p hj)
    · rw [List.getElem?_append_right (by omega)] at hx
      have:id - h.length = 0 := by
        rcases Nat.lt_or_ge (id - h.length) 1 with q | q
        · omega
        · rw [List.getElem?_eq_none (by simpa using q)] at hx; cases hx
      rw [this] at hx
      simp at hx
      exact absurd hx (hnw _ _ _)
  refine ⟨by simp [Loc.push,H.len],fun id x hx => ?_,fun id p hp => ?_,fun id b bs s hp => ?_,fun i j b p q hp hq => ?_,old⟩
  · by_cases hi:id < h.length
    · rw [List.getElem?_append_left hi] at hx
      refine ORel.step H fr ex (H.obs id x hx) (L.push_old _ (by rw [H.len]; exact hi)) (fun b bs s hb => hold b (H.mem _ _ _ _ hb))
    · rw [List.getElem?_append_right (by omega)] at hx
      have:id = h.length := by
        rcases Nat.lt_or_ge (id - h.length) 1 with q | q
        · omega
        · rw [List.getElem?_eq_none (by simpa using q)] at hx; cases hx
      subst this
      simp at hx
      subst hx
      rw [← H.len]; exact hob
  · simp only [Loc.push] at hp ⊢
    split at hp
    · omega
    · have := H.lt id p hp; omega
  · simp only [Loc.push] at hp
    show b < (w.heap.push o).size
    rw [Array.size_push]
    split at hp
    · injection hp with hp; injection hp with hp _; omega
    · have := H.mem _ _ _ _ hp; omega
  · simp only [Loc.push] at hp hq
    split at hp <;> split at hq
    · exact .inl (by omega)
    · injection hp with hp; injection hp with hp _; have := H.mem _ _ _ _ hq; omega
    · injection hq with hq; injection hq with hq _; have := H.mem _ _ _ _ hp; omega
    · rcases H.inj i j b p q hp hq with z | z | z
      · exact .inl z
      · exact .inr (.inl (keep _ z))
      · exact .inr (.inr (keep _ z))
/-- An object is written anew in its place. -/
theorem HRel.set {L:Loc} {h:List Ob} {w w':World} (H:HRel L h w) {id:Nat} {ob:Ob} {b base sz:Nat} (hat:L.at_ id = some (b,base,sz)) (hid:id < h.length) (hn:¬ isWas h id)
    (fr:Fr (Own L) w w') (hoth:∀ k,k < w.heap.size → k ≠ b → w'.heap[k]? = w.heap[k]?) (hob:ORel L w' id ob) (hnw:∀ es s n,ob ≠ .was es s n := by intro _ _ _ q; cases q):HRel L (h.set id ob) w' := by
  have keep:∀ i,isWas h i → isWas (h.set id ob) i := fun i z => by
    have hi:i ≠ id := fun q => hn (q ▸ z)
    obtain ⟨es,s,n,q⟩ := z
    exact ⟨es,s,n,by rw [List.getElem?_set_ne (fun e => hi e.symm)]; exact q⟩
  refine ⟨by simp [H.len],fun i x hx => ?_,H.lt,fun i b bs s hp => Nat.lt_of_lt_of_le (H.mem _ _ _ _ hp) fr.size,fun i j b p q hp hq => ?_,fun i es sz' nid hx => ?_⟩
  rotate_left
  · rcases H.inj i j b p q hp hq with z | z | z
    · exact .inl z
    · exact .inr (.inl (keep _ z))
    · exact .inr (.inr (keep _ z))
  · by_cases q:i = id
    · subst q
      rw [List.getElem?_set_self (by simpa using hid)] at hx
      injection hx with hx
      exact absurd hx (hnw _ _ _)
    · rw [List.getElem?_set_ne (fun e => q e.symm)] at hx
      refine OldR.step H fr (Ext.refl L w) (H.old i es sz' nid hx) rfl (fun b' bs s hb hw => ⟨hoth b' (H.mem _ _ _ _ hb) (fun e => ?_),fun j p hj => keep _ (hw j p hj)⟩)
      subst e
      exact hn (hw id _ hat)
  by_cases q:i = id
  · subst q
    rw [List.getElem?_set_self (by simpa using hid)] at hx
    injection hx with hx; subst hx; exact hob
  · rw [List.getElem?_set_ne (fun e => q e.symm)] at hx
    by_cases hiw:isWas h i
    · obtain ⟨es,s,n,z⟩ := hiw
      rw [z] at hx; injection hx with hx; subst hx; trivial
    refine ORel.step H fr (Ext.refl L w) (H.obs i x hx) rfl (fun b' bs s hb => hoth b' (H.mem _ _ _ _ hb) (fun e => ?_))
    subst e
    rcases H.inj i id _ _ _ hb hat with z | z | z
    · exact q z
    · exact hiw z
    · exact hn z
/-- A number falls away, and a new one stands for (part of) its block, or for a new block. -/
theorem HRel.turn {L:Loc} {h:List Ob} {w w':World} (H:HRel L h w) {id b base sz b' base' sz':Nat} {ob:Ob} (hat:L.at_ id = some (b,base,sz))
    (fr:Fr (Own L) w w') (hoth:∀ k,k < w.heap.size → k ≠ b → w'.heap[k]? = w.heap[k]?) (hb':b' = b ∨ w.heap.size ≤ b') (hlt':b' < w'.heap.size)
    (hob:ORel ((L.kill id).push (b',base',sz')) w' L.len ob) (hn:¬ isWas h id) (hnw:∀ es s n,ob ≠ .was es s n := by intro _ _ _ q; cases q):HRel ((L.kill id).push (b',base',sz')) (h.set id .dead ++ [ob]) w' ∧ Ext L w ((L.kill id).push (b',base',sz')) := by
  have hid := H.lt _ _ hat
  have ex:Ext L w ((L.kill id).push (b',base',sz')) := by
    refine ⟨by simp [Loc.push,Loc.kill],fun i hi => ?_,fun x ⟨i,p,hp⟩ => ?_⟩
    · rw [Loc.push_old (L.kill id) _ hi]
      by_cases q:i = id
      · exact .inl (by rw [q]; exact L.kill_same id)
      · exact .inr (L.kill_other q)
    · simp only [Loc.push] at hp
      split at hp
      · injection hp with hp; injection hp with h1 h2; subst h1
        rcases hb' with e | e
        · exact .inl (by rw [e]; exact ⟨id,_,hat⟩)
        · exact .inr e
      · by_cases q:i = id
        · subst q; rw [L.kill_same] at hp; cases hp
        · rw [L.kill_other q] at hp; exact .inl ⟨i,p,hp⟩
  have keep:∀ i,isWas h i → isWas (h.set id .dead ++ [ob]) i := fun i z => by
    have hi:i ≠ id := fun q => hn (q ▸ z)
    obtain ⟨es,s,n,q⟩ := z
    have hl:i < h.length := (List.getElem?_eq_some_iff.1 q).1
    exact ⟨es,s,n,by rw [List.getElem?_append_left (by simpa using hl),List.getElem?_set_ne (fun e => hi e.symm)]; exact q⟩
  refine ⟨⟨by simp [Loc.push,Loc.kill,H.len],fun i x hx => ?_,fun i p hp => ?_,fun i c bs s hp => ?_,fun i j c p q hp hq => ?_,fun i es s nid hx => ?_⟩,ex⟩
  · by_cases hi:i < h.length
    · rw [List.getElem?_append_left (by simpa using hi)] at hx
      have hi':i < (L.kill id).len := by show i < L.len; rw [H.len]; exact hi
      by_cases q:i = id
      · subst q
        rw [List.getElem?_set_self (by simpa using hi)] at hx
        injection hx with hx; subst hx
        show _ = none
        rw [Loc.push_old _ _ hi',L.kill_same]
      · rw [List.getElem?_set_ne (fun e => q e.symm)] at hx
        by_cases hiw:isWas h i
        · obtain ⟨es,s,n,z⟩ := hiw
          rw [z] at hx; injection hx with hx; subst hx; trivial
        refine ORel.step H fr ex (H.obs i x hx) (by rw [Loc.push_old _ _ hi',L.kill_other q]) (fun c bs s hb => hoth c (H.mem _ _ _ _ hb) (fun e => ?_))
        subst e
        rcases H.inj i id _ _ _ hb hat with z | z | z
        · exact q z
        · exact hiw z
        · exact hn z
    · rw [List.getElem?_append_right (by simpa using hi)] at hx
      simp only [List.length_set] at hx
      have:i = h.length := by
        rcases Nat.lt_or_ge (i - h.length) 1 with q | q
        · omega
        · rw [List.getElem?_eq_none (by simpa using q)] at hx; cases hx
      subst this
      simp at hx
      subst hx
      rw [← H.len]; exact hob
  · simp only [Loc.push] at hp ⊢
    split at hp
    · omega
    · by_cases q:i = id
      · subst q; rw [L.kill_same] at hp; cases hp
      · rw [L.kill_other q] at hp; have := H.lt i p hp; show i < L.len + 1; omega
  · simp only [Loc.push] at hp
    split at hp
    · injection hp with hp; injection hp with hp _; omega
    · by_cases q:i = id
      · subst q; rw [L.kill_same] at hp; cases hp
      · rw [L.kill_other q] at hp; exact Nat.lt_of_lt_of_le (H.mem _ _ _ _ hp) fr.size
  · have key:∀ i p,i ≠ id → L.at_ i = some (b',p) → isWas h i := fun i p hi hp => by
      rcases hb' with e | e
      · subst e
        rcases H.inj i id _ _ _ hp hat with z | z | z
        · exact (hi z).elim
        · exact z
        · exact (hn z).elim
      · have := H.mem i _ _ _ hp; omega
    simp only [Loc.push] at hp hq
    split at hp <;> split at hq
    · exact .inl (by omega)
    · injection hp with hp; injection hp with hp _
      by_cases z:j = id
      · subst z; rw [L.kill_same] at hq; cases hq
      · rw [L.kill_other z] at hq; subst hp; exact .inr (.inr (keep _ (key j _ z hq)))
    · injection hq with hq; injection hq with hq _
      by_cases z:i = id
      · subst z; rw [L.kill_same] at hp; cases hp
      · rw [L.kill_other z] at hp; subst hq; exact .inr (.inl (keep _ (key i _ z hp)))
    · by_cases z:i = id
      · subst z; rw [L.kill_same] at hp; cases hp
      · by_cases z':j = id
        · subst z'; rw [L.kill_same] at hq; cases hq
        · rw [L.kill_other z] at hp; rw [L.kill_other z'] at hq
          rcases H.inj i j c p q hp hq with y | y | y
          · exact .inl y
          · exact .inr (.inl (keep _ y))
          · exact .inr (.inr (keep _ y))
  · by_cases hi:i < h.length
    · rw [List.getElem?_append_left (by simpa using hi)] at hx
      have hi':i < (L.kill id).len := by show i < L.len; rw [H.len]; exact hi
      by_cases q:i = id
      · subst q
        rw [List.getElem?_set_self (by simpa using hi)] at hx
        injection hx with hx; cases hx
      · rw [List.getElem?_set_ne (fun e => q e.symm)] at hx
        refine OldR.step H fr ex (H.old i es s nid hx) (by rw [Loc.push_old _ _ hi',L.kill_other q]) (fun c bs s hb hw => ⟨hoth c (H.mem _ _ _ _ hb) (fun e => ?_),fun j p hj => ?_⟩)
        · subst e; exact hn (hw id _ hat)
        · simp only [Loc.push] at hj
          split at hj
          · injection hj with hj; injection hj with hj _
            rcases hb' with e | e
            · exact (hn (hw id _ (by rw [← hj,e]; exact hat))).elim
            · have := H.mem _ _ _ _ hb; omega
          · by_cases z:j = id
            · subst z; rw [L.kill_same] at hj; cases hj
            · rw [L.kill_other z] at hj; exact keep _ (hw j p hj)
    · rw [List.getElem?_append_right (by simpa using hi)] at hx
      simp only [List.length_set] at hx
      have:i - h.length = 0 := by
        rcases Nat.lt_or_ge (i - h.length) 1 with q | q
        · omega
        · rw [List.getElem?_eq_none (by simpa using q)] at hx; cases hx
      rw [this] at hx
      simp at hx
      exact absurd hx (hnw _ _ _)
/-- A row to which is appended: the new one stands for its block, or for a new one; the old one can be read. -/
theorem HRel.turnW {L:Loc} {h:List Ob} {w w':World} (H:HRel L h w) {id b base sz b' base' sz':Nat} {ob:Ob} {ds:List V} (hat:L.at_ id = some (b,base,sz))
    (fr:Fr (Own L) w w') (hoth:∀ k,k < w.heap.size → k ≠ b → w'.heap[k]? = w.heap[k]?) (hc:(b' = b ∧ base' = base ∧ sz' = sz) ∨ (w.heap.size ≤ b' ∧ w'.heap[b]? = w.heap[b]? ∧ ORel L w id (.row ds sz))) (hlt':b' < w'.heap.size)
    (hob:ORel (L.push (b',base',sz')) w' L.len ob) (hn:¬ isWas h id) (hnw:∀ es s n,ob ≠ .was es s n := by intro _ _ _ q; cases q):HRel (L.push (b',base',sz')) (h.set id (.was ds sz h.length) ++ [ob]) w' ∧ Ext L w (L.push (b',base',sz')) := by
  have hid := H.lt _ _ hat
  have hid':id < h.length := by rw [← H.len]; exact hid
  have hb':b' = b ∨ w.heap.size ≤ b' := by rcases hc with q | q <;> simp [q.1]
  have ex:Ext L w (L.push (b',base',sz')) := by
    refine ⟨by simp [Loc.push],fun i hi => .inr (L.push_old _ hi),fun x ⟨i,p,hp⟩ => ?_⟩
    simp only [Loc.push] at hp
    split at hp
    · injection hp with hp; injection hp with h1 h2; subst h1
      rcases hb' with e | e
      · exact .inl (by rw [e]; exact ⟨id,_,hat⟩)
      · exact .inr e
    · exact .inl ⟨i,p,hp⟩
  have keep:∀ i,isWas h i → isWas (h.set id (.was ds sz h.length) ++ [ob]) i := fun i z => by
    have hi:i ≠ id := fun q => hn (q ▸ z)
    obtain ⟨es,s,n,q⟩ := z
    have hl:i < h.length := (List.getElem?_eq_some_iff.1 q).1
    exact ⟨es,s,n,by rw [List.getElem?_append_left (by simpa using hl),List.getElem?_set_ne (fun e => hi e.symm)]; exact q⟩
  have self:isWas (h.set id (.was ds sz h.length) ++ [ob]) id := ⟨ds,sz,h.length,by rw [List.getElem?_append_left (by simpa using hid'),List.getElem?_set_self (by simpa using hid')]⟩
  have key:∀ i p,L.at_ i = some (b,p) → isWas (h.set id (.was ds sz h.length) ++ [ob]) i := fun i p hp => by
    rcases H.inj i id _ _ _ hp hat with z | z | z
    · rw [z]; exact self
    · exact keep _ z
    · exact (hn z).elim
  refine ⟨⟨by simp [Loc.push,H.len],fun i x hx => ?_,fun i p hp => ?_,fun i c bs s hp => ?_,fun i j c p q hp hq => ?_,fun i es s nid hx => ?_⟩,ex⟩
  · by_cases hi:i < h.length
    · rw [List.getElem?_append_left (by simpa using hi)] at hx
      have hi':i < L.len := by rw [H.len]; exact hi
      by_cases q:i = id
      · subst q
        rw [List.getElem?_set_self (by simpa using hi)] at hx
        injection hx with hx; subst hx
        trivial
      · rw [List.getElem?_set_ne (fun e => q e.symm)] at hx
        by_cases hiw:isWas h i
        · obtain ⟨es,s,n,z⟩ := hiw
          rw [z] at hx; injection hx with hx; subst hx; trivial
        refine ORel.step H fr ex (H.obs i x hx) (by rw [Loc.push_old _ _ hi']) (fun c bs s hb => hoth c (H.mem _ _ _ _ hb) (fun e => ?_))
        subst e
        rcases H.inj i id _ _ _ hb hat with z | z | z
        · exact q z
        · exact hiw z
        · exact hn z
    · rw [List.getElem?_append_right (by simpa using hi)] at hx
      simp only [List.length_set] at hx
      have:i = h.length := by
        rcases Nat.lt_or_ge (i - h.length) 1 with q | q
        · omega
        · rw [List.getElem?_eq_none (by simpa using q)] at hx; cases hx
      subst this
      simp at hx
      subst hx
      rw [← H.len]; exact hob
  · simp only [Loc.push] at hp ⊢
    split at hp
    · omega
    · have := H.lt i p hp; show i < L.len + 1; omega
  · simp only [Loc.push] at hp
    split at hp
    · injection hp with hp; injection hp with hp _; omega
    · exact Nat.lt_of_lt_of_le (H.mem _ _ _ _ hp) fr.size
  · have key':∀ i p,L.at_ i = some (b',p) → isWas (h.set id (.was ds sz h.length) ++ [ob]) i := fun i p hp => by
      rcases hb' with e | e
      · subst e; exact key i p hp
      · have := H.mem i _ _ _ hp; omega
    simp only [Loc.push] at hp hq
    split at hp <;> split at hq
    · exact .inl (by omega)
    · injection hp with hp; injection hp with hp _
      subst hp; exact .inr (.inr (key' j _ hq))
    · injection hq with hq; injection hq with hq _
      subst hq; exact .inr (.inl (key' i _ hp))
    · rcases H.inj i j c p q hp hq with y | y | y
      · exact .inl y
      · exact .inr (.inl (keep _ y))
      · exact .inr (.inr (keep _ y))
  · by_cases hi:i < h.length
    · rw [List.getElem?_append_left (by simpa using hi)] at hx
      have hi':i < L.len := by rw [H.len]; exact hi
      by_cases q:i = id
      · subst q
        rw [List.getElem?_set_self (by simpa using hi)] at hx
        injection hx with hx
        injection hx with e1 e2 e3
        subst e1; subst e2; subst e3
        refine ⟨b,base,by rw [Loc.push_old _ _ hi']; exact hat,by show h.length < L.len + 1; rw [H.len]; omega,?_⟩
        rcases hc with ⟨rfl,rfl,rfl⟩ | ⟨c1,c2,c3⟩
        · exact .inr (.inl (by rw [← H.len]; exact L.push_new _))
        · refine .inr (.inr ⟨fun j p hj => ?_,?_⟩)
          · simp only [Loc.push] at hj
            split at hj
            · injection hj with hj; injection hj with hj _
              have := H.mem _ _ _ _ hat; omega
            · exact key j p hj
          · obtain ⟨b0,base0,c,e,f,h1,h2,h3,h4,h5⟩ := c3
            rw [hat] at h1; injection h1 with h1; injection h1 with q1 q2; injection q2 with q2 q3; subst q1; subst q2
            refine ⟨c,e,f,c2.trans h2,h4,fun a j x y z1 z2 => ?_⟩
            obtain ⟨v,k1,k2⟩ := h5 a j x y z1 z2
            exact ⟨v,k1,H.step_rep k2 fr ex⟩
      · rw [List.getElem?_set_ne (fun e => q e.symm)] at hx
        refine OldR.step H fr ex (H.old i es s nid hx) (by rw [Loc.push_old _ _ hi']) (fun c bs s hb hw => ⟨hoth c (H.mem _ _ _ _ hb) (fun e => ?_),fun j p hj => ?_⟩)
        · subst e; exact hn (hw id _ hat)
        · simp only [Loc.push] at hj
          split at hj
          · injection hj with hj; injection hj with hj _
            rcases hb' with e | e
            · exact (hn (hw id _ (by rw [← hj,e]; exact hat))).elim
            · have := H.mem _ _ _ _ hb; omega
          · exact keep _ (hw j p hj)
    · rw [List.getElem?_append_right (by simpa using hi)] at hx
      simp only [List.length_set] at hx
      have:i - h.length = 0 := by
        rcases Nat.lt_or_ge (i - h.length) 1 with q | q
        · omega
        · rw [List.getElem?_eq_none (by simpa using q)] at hx; cases hx
      rw [this] at hx
      simp at hx
      exact absurd hx (hnw _ _ _)
end Go.Proofs.YtjpjeilfmjdhcaaDoor.E
/- The layer E, part 3: the operations on values, and what they are of the program's own: comparisons, arithmetic, strings, fields. No condition. -/
namespace Go.Proofs.YtjpjeilfmjdhcaaDoor.E
set_option linter.unusedSimpArgs false
set_option linter.unusedVariables false
inductive EO where
  | t (i:Nat)
  | c (v:V)
  deriving Inhabited,Repr
def EO.get (t:Nat → V):EO → V
  | .t i => t i
  | .c v => v
@[simp] theorem EO.get_t (t:Nat → V) (i:Nat):(EO.t i).get t = t i := rfl
@[simp] theorem EO.get_c (t:Nat → V) (v:V):(EO.c v).get t = v := rfl
def cOpd (n:Nat):Operand → Option EO
  | .tmp i => if i < n then some (.t i) else none
  | .const v => (ofZero v).map .c
  | .func f => some (.c (.fn f []))
  | .global _ => none
theorem cOpd_rep {L:Loc} {w:World} {n:Nat} {t:Nat → V} {a:Act} (r:TRel L w n t a.tmps) {x:Operand} {e:EO} (h:cOpd n x = some e):Rep L w (e.get t) (a.eval x) := by
  unfold cOpd at h
  split at h
  · split at h
    · rename_i i hi; injection h with h; subst h; exact r.2 i hi
    · cases h
  · rename_i v
    simp only [Option.map_eq_some_iff] at h
    obtain ⟨y,h1,rfl⟩ := h
    exact ofZero_rep h1
  · injection h with h; subst h; exact .fn #[] rfl (fun k c hk => by simp at hk)
  · cases h
theorem Rep.one {L:Loc} {w:World} {v:V} {x:Value} (h:Rep L w v x) (hs:v.scalar = true):x.oneCell' = true := by
  cases h <;> first | rfl | (simp [V.scalar] at hs; done) | assumption
theorem cells_of_one {x:Value} (h:x.oneCell' = true):x.cells = #[x] := by
  cases x <;> first | rfl | (simp [Value.oneCell'] at h)
theorem Rep.cells {L:Loc} {w:World} {v:V} {x:Value} (h:Rep L w v x) (hs:v.scalar = true ∨ ∃ cs,v = .agg cs) :
    x.cells.size = v.cells.length ∧ ∀ k c,v.cells[k]? = some c → Rep L w c (x.cells.getD k undef) := by
  rcases hs with hs | ⟨cs,rfl⟩
  · have h1 := cells_of_one (h.one hs)
    have h2:v.cells = [v] := by cases v <;> first | rfl | (simp [V.scalar] at hs)
    rw [h1,h2]
    refine ⟨rfl,fun k c hk => ?_⟩
    cases k with
    | zero => simp at hk; subst hk; exact h
    | succ k => simp at hk
  · cases h with
    | agg vs hl hr => exact ⟨hl,hr⟩
/-- A run that leaves a value standing for 'v', and memory standing for 'h''. -/
def Good (P:Program) (L:Loc) (w:World) (s:Sem Value) (v:V) (h':List Ob):Prop :=
  ∃ x w' L',s.run P w = .ok x w' ∧ Rep L' w' v x ∧ HRel L' h' w' ∧ Fr (Own L) w w' ∧ Ext L w L'
theorem Good.same {P:Program} {L:Loc} {h:List Ob} {w:World} {s:Sem Value} {v:V} {x:Value} (H:HRel L h w) (hs:s.run P w = .ok x w) (r:Rep L w v x):Good P L w s v h :=
  ⟨x,w,L,hs,r,H,Fr.refl _ _,Ext.refl _ _⟩
/-! ### Arithmetic and comparisons -/
def evInt (op:BinOp) (k:IntKind) (a b:Int):Option V :=
  match op with
  | .add => some (.int k (k.wrap (a + b)))
  | .sub => some (.int k (k.wrap (a - b)))
  | .mul => some (.int k (k.wrap (a * b)))
  | .quo => if b = 0 then none else some (.int k (k.wrap (a.tdiv b)))
  | .rem => if b = 0 then none else some (.int k (a.tmod b))
  | .and => some (.int k (bits .and k a b))
  | .or => some (.int k (bits .or k a b))
  | .xor => some (.int k (bits .xor k a b))
  | .andNot => some (.int k (bits .andNot k a b))
  | .eql => some (.bool (a == b))
  | .neq => some (.bool (a != b))
  | .lss => some (.bool (decide (a < b)))
  | .leq => some (.bool (decide (a ≤ b)))
  | .gtr => some (.bool (decide (a > b)))
  | .geq => some (.bool (decide (a ≥ b)))
  | .shl | .shr => none
def evStr (op:BinOp) (a b:List UInt8):Option V :=
  match op with
  | .add => if a.length + b.length < 9223372036854775808 then some (.str (a ++ b)) else none
  | .eql => some (.bool (a == b))
  | .neq => some (.bool (!(a == b)))
  | .lss => some (.bool (Op.bytesLess a b))
  | .leq => some (.bool (Op.bytesLess a b || a == b))
  | .gtr => some (.bool (!(Op.bytesLess a b || a == b)))
  | .geq => some (.bool (!Op.bytesLess a b))
  | _ => none
def evBin (op:BinOp) (x y:V):Option V :=
  match x,y with
  | .int k a,.int k' b =>
    match op with
    | .shl => if b < 0 then none else some (.int k (k.wrap (a * 2 ^ (min b.toNat k.bits))))
    | .shr => if b < 0 then none else some (.int k (a.fdiv (2 ^ (min b.toNat k.bits))))
    | op => if k = k' then evInt op k a b else none
  | .str a,.str b => evStr op a b
  | _,_ => none
theorem evBin_good {P:Program} {L:Loc} {h:List Ob} {w:World} (H:HRel L h w) {op:BinOp} {t:TypeId} {x y v:V} {a b:Value} (ha:Rep L w x a) (hb:Rep L w y b)
    (he:evBin op x y = some v):Good P L w (binOp op t a b) v h := by
  unfold evBin at he
  split at he
  · rename_i k m k' n
    cases ha; cases hb
    cases op <;> simp only [] at he
    case shl =>
      split at he
      · cases he
      · rename_i hn
        injection he with he; subst he
        exact .same H (by simp [binOp,Op.shift,hn]) (.int _ _)
    case shr =>
      split at he
      · cases he
      · rename_i hn
        injection he with he; subst he
        exact .same H (by simp [binOp,Op.shift,hn]) (.int _ _)
    all_goals
      split at he
      · rename_i hk
        subst hk
        simp only [evInt] at he
        first
        | (injection he with he; subst he
           first
           | exact .same H (by simp [binOp,Op.intArith,Op.intCmp,intBits_and,intBits_or,intBits_xor,intBits_andNot]) (.int _ _)
           | exact .same H (by simp [binOp,Op.intArith,Op.intCmp]) (.bool _))
        | (split at he
           · cases he
           · rename_i hz
             injection he with he; subst he
             exact .same H (by simp [binOp,Op.intDiv,hz]) (.int _ _))
      · cases he
  · rename_i l m
    cases ha; cases hb
    have hl:(⟨l.toArray⟩:ByteArray).toList = l := ByteArray.toList_mk l
    have hm:(⟨m.toArray⟩:ByteArray).toList = m := ByteArray.toList_mk m
    have sl:(⟨l.toArray⟩:ByteArray).size = l.length := by simp [ByteArray.size]
    have sm:(⟨m.toArray⟩:ByteArray).size = m.length := by simp [ByteArray.size]
    cases op <;> simp only [evStr] at he <;> first | (cases he; done) | skip
    case add =>
      split at he
      · rename_i hlt
        injection he with he; subst he
        refine .same H (x := .string ⟨(l ++ m).toArray⟩) ?_ (.str _)
        have hmax:¬ (((⟨l.toArray⟩:ByteArray).size + (⟨m.toArray⟩:ByteArray).size:Nat):Int) > IntKind.i64.max := by
          rw [sl,sm]
          simp [IntKind.max,IntKind.signed,IntKind.bits]
          omega
        simp only [binOp,Op.stringOp,if_neg hmax,Sem.run_pure,ByteArray.mk_append_mk,List.append_toArray]
      · cases he
    all_goals
      injection he with he; subst he
      exact .same H (by simp only [binOp,Op.stringOp,hl,hm,Sem.run_pure]) (.bool _)
  · cases he
theorem run_eqGuard_plain {P:Program} (w:World) (op:BinOp) (t:TypeId) (x y:Operand) (a b:Value) (h:¬ ∃ cs ds,a = .agg cs ∧ b = .agg ds) (h':¬ (a = .nilIface ∧ b = .nilIface)):(eqGuard op t x y a b).run P w = .ok () w := by
  unfold eqGuard
  cases op <;> first | rfl | skip
  all_goals
    cases a <;> cases b <;> first | rfl | exact absurd ⟨rfl,rfl⟩ h' | exact absurd ⟨_,_,rfl,rfl⟩ h
/-- The kinds of plain values. -/
inductive LK where
  | i | s | b
  deriving DecidableEq,Repr
inductive EqT where
  | bool | ptr | slice | map | func
  | struct (n:Nat) (leaves:List (Nat × LK))
  deriving DecidableEq,Repr
def aliveB (h:List Ob) (id:Nat):Bool :=
  match h[id]? with
  | some .dead => false
  | some (.was _ _ _) => false
  | some (.pin _ _ _ _) => false
  | some _ => true
  | none => false
theorem alive_at {L:Loc} {h:List Ob} {w:World} (H:HRel L h w) {id:Nat} (ha:aliveB h id = true):∃ p,L.at_ id = some p := by
  unfold aliveB at ha
  cases hob:h[id]? with
  | none => simp [hob] at ha
  | some ob =>
    have := H.obs id _ hob
    cases ob with
    | row es sz => obtain ⟨b,base,_,_,_,h1,_⟩ := this; exact ⟨_,h1⟩
    | map e c => obtain ⟨b,base,sz,_,h1,_⟩ := this; exact ⟨_,h1⟩
    | siter l p => obtain ⟨b,sz,h1,_⟩ := this; exact ⟨_,h1⟩
    | miter m s e d => obtain ⟨b,sz,mb,h1,_⟩ := this; exact ⟨_,h1⟩
    | dead => simp [hob] at ha
    | was es s n => simp [hob] at ha
    | pin g k zs e => simp [hob] at ha
/-- Is it nil? -/
def isNil (h:List Ob):EqT → V → Option Bool
  | .ptr,.nilp => some true
  | .ptr,.ptr id _ _ => if aliveB h id then some false else none
  | .ptr,.ref _ _ => some false
  | .slice,.nils => some true
  | .slice,.hsl id _ _ => if aliveB h id then some false else none
  | .slice,.sl _ => some false
  | .slice,.esl => some false
  | .map,.nilm => some true
  | .map,.mp id => if aliveB h id then some false else none
  | .func,.nilf => some true
  | .func,.fn _ _ => some false
  | _,_ => none
def eqAt:LK → Option V → Option V → Option Bool
  | .i,some (.int k a),some (.int k' b) => if k = k' then some (a == b) else none
  | .s,some (.str a),some (.str b) => some (a == b)
  | .b,some (.bool a),some (.bool b) => some (a == b)
  | _,_,_ => none
def eqLeaves (cs ds:List V):List (Nat × LK) → Option Bool
  | [] => some true
  | (o,k) :: ls => match eqAt k cs[o]? ds[o]? with
    | some true => eqLeaves cs ds ls
    | some false => some false
    | none => none
def evEq (h:List Ob) (T:EqT) (x y:V):Option Bool :=
  match T,x,y with
  | .bool,.bool a,.bool b => some (a == b)
  | .struct n ls,.agg cs,.agg ds => if cs.length = n ∧ ds.length = n then eqLeaves cs ds ls else none
  | .bool,_,_ => none
  | .struct _ _,_,_ => none
  | T,x,y => match isNil h T x,isNil h T y with
    | some true,some b => some b
    | some b,some true => some b
    | _,_ => none
def leavesAll (f:Field → Option (List (Nat × LK))):List Field → Option (List (Nat × LK))
  | [] => some []
  | g :: gs => if g.name = "_" then leavesAll f gs else match f g, leavesAll f gs with
    | some a,some b => some (a ++ b)
    | _,_ => none
/-- The places of the plain values in a struct that is compared by '=='. -/
def leavesOf (P:Program):Nat → TypeId → Option (List (Nat × LK))
  | 0,_ => none
  | d + 1,t => match P.underlying t with
    | some .bool => if P.cellsOf t = 1 then some [(0,.b)] else none
    | some (.int _) => if P.cellsOf t = 1 then some [(0,.i)] else none
    | some .string => if P.cellsOf t = 1 then some [(0,.s)] else none
    | some (.struct fs) => if P.stoodInHeld t then none else
        leavesAll (fun g => match P.info? g.type,leavesOf P d g.type with
          | some i,some ls => if ls.all (·.1 < i.size) ∧ g.offset + i.size ≤ P.cellsOf t then some (ls.map fun p => (g.offset + p.1,p.2)) else none
          | _,_ => none) fs.toList
    | _ => none
theorem eqLeaves_append (cs ds:List V):∀ (a b:List (Nat × LK)),eqLeaves cs ds (a ++ b) = (match eqLeaves cs ds a with | some true => eqLeaves cs ds b | x => x)
  | [],b => by simp [eqLeaves]
  | (o,k) :: a,b => by
    simp only [List.cons_append,eqLeaves]
    cases eqAt k cs[o]? ds[o]? with
    | none => rfl
    | some r => cases r with
      | true => exact eqLeaves_append cs ds a b
      | false => rfl
theorem eqLeaves_shift (cs ds:List V) (off n:Nat):∀ (ls:List (Nat × LK)),(ls.all (·.1 < n)) = true →
    eqLeaves cs ds (ls.map fun p => (off + p.1,p.2)) = eqLeaves ((cs.drop off).take n) ((ds.drop off).take n) ls
  | [],_ => rfl
  | (o,k) :: ls,h => by
    simp only [List.all_cons,Bool.and_eq_true,decide_eq_true_eq] at h
    simp only [List.map_cons,eqLeaves]
    have e1:((cs.drop off).take n)[o]? = cs[off + o]? := by rw [List.getElem?_take,if_pos h.1,List.getElem?_drop]
    have e2:((ds.drop off).take n)[o]? = ds[off + o]? := by rw [List.getElem?_take,if_pos h.1,List.getElem?_drop]
    rw [e1,e2,eqLeaves_shift cs ds off n ls h.2]
/-- A value as its cells say, by what its type is. -/
def isStruct (P:Program) (t:TypeId):Bool := match P.underlying t with
  | some (.struct _) => true
  | some (.array _ _) => true
  | _ => false
theorem run_isAgg {P:Program} (w:World) {t:TypeId} (h:(P.underlying t).isSome = true):(isAgg t).run P w = .ok (isStruct P t) w := by
  unfold isAgg isStruct
  obtain ⟨d,hd⟩ := Option.isSome_iff_exists.1 h
  simp only [Sem.run_bind,run_underlying hd,Result.andThen_ok,hd]
  cases d <;> rfl
theorem run_sizeOf {P:Program} (w:World) {t:TypeId} {i:TypeInfo} (h:P.info? t = some i):(sizeOf t).run P w = .ok i.size w := by
  simp [sizeOf,typeInfo,h]
/-- 'part' of cells. -/
theorem run_part {P:Program} {L:Loc} {w:World} {u:TypeId} {i:TypeInfo} {cs:List V} {xs:Array Value} (hl:xs.size = cs.length) (hr:∀ k c,cs[k]? = some c → Rep L w c (xs.getD k undef))
    (hi:P.info? u = some i) (hu:(P.underlying u).isSome = true) (off:Nat) :
    (isStruct P u = true → off + i.size ≤ cs.length → ∃ ys,(part u xs off).run P w = .ok (.agg ys) w ∧ ys.size = ((cs.drop off).take i.size).length ∧ ∀ k c,((cs.drop off).take i.size)[k]? = some c → Rep L w c (ys.getD k undef)) ∧
    (isStruct P u = false → ∀ c,cs[off]? = some c → ∃ y,(part u xs off).run P w = .ok y w ∧ Rep L w c y) := by
  refine ⟨fun h hb => ⟨xs.extract off (off + i.size),?_,?_,?_⟩,fun h c hc => ?_⟩
  · simp only [part,Sem.run_bind,run_isAgg w hu,h,Result.andThen_ok,if_true,run_sizeOf w hi,Sem.run_pure]
  · simp [hl]; omega
  · intro k c hk
    rw [List.getElem?_take] at hk
    split at hk
    · rename_i hlt
      rw [List.getElem?_drop] at hk
      have := hr _ _ hk
      have e:(xs.extract off (off + i.size)).getD k undef = xs.getD (off + k) undef := by
        rw [Array.getD_eq_getD_getElem?,Array.getD_eq_getD_getElem?,Array.getElem?_extract]
        rw [if_pos (by omega)]
      rw [e]; exact this
    · cases hk
  · have hlt:off < xs.size := by
      rw [hl]
      exact (List.getElem?_eq_some_iff.1 hc).1
    have hx:xs[off]? = some xs[off] := by simp [hlt]
    refine ⟨xs[off],?_,?_⟩
    · simp only [part,Sem.run_bind,run_isAgg w hu,h,Result.andThen_ok,Bool.false_eq_true,if_false,hx,Sem.run_pure]
    · have := hr _ _ hc
      rwa [Array.getD_eq_getD_getElem?,hx] at this
/-- A value 'a' of type t whose cells stand for 'cs'. -/
def CellsOf (P:Program) (L:Loc) (w:World) (t:TypeId) (cs:List V) (a:Value):Prop :=
  (isStruct P t = true ∧ cs.length = P.cellsOf t ∧ ∃ xs:Array Value,a = .agg xs ∧ xs.size = cs.length ∧ ∀ k c,cs[k]? = some c → Rep L w c (xs.getD k undef)) ∨
  (isStruct P t = false ∧ ∃ c,cs = [c] ∧ Rep L w c a)
theorem eqLeaves_one (cs ds:List V) (k:LK) (r:Bool) (h:eqLeaves cs ds [(0,k)] = some r):eqAt k cs[0]? ds[0]? = some r := by
  simp only [eqLeaves] at h
  split at h <;> simp_all
theorem run_equalIn_leaves {P:Program} {L:Loc} {w:World}:∀ (d:Nat) (t:TypeId) (D:Nat) (ls:List (Nat × LK)) (cs ds:List V) (a b:Value) (r:Bool),
    leavesOf P d t = some ls → CellsOf P L w t cs a → CellsOf P L w t ds b → eqLeaves cs ds ls = some r → (Op.equalIn (D + d) t a b).run P w = .ok r w
  | 0,t,D,ls,cs,ds,a,b,r,hl,_,_,_ => by simp [leavesOf] at hl
  | d + 1,t,D,ls,cs,ds,a,b,r,hl,ha,hb,he => by
    unfold leavesOf at hl
    split at hl
    · rename_i hu
      obtain ⟨_,rfl⟩:P.cellsOf t = 1 ∧ ls = _ := by
        split at hl
        · rename_i q; exact ⟨q,(Option.some.inj hl).symm⟩
        · cases hl
      have hs:isStruct P t = false := by simp [isStruct,hu]
      rcases ha with ⟨h1,_⟩ | ⟨_,c,rfl,hc⟩
      · rw [hs] at h1; cases h1
      rcases hb with ⟨h1,_⟩ | ⟨_,c',rfl,hc'⟩
      · rw [hs] at h1; cases h1
      have he := eqLeaves_one _ _ _ _ he
      cases c <;> cases c' <;> simp [eqAt] at he
      cases hc; cases hc'; subst he
      exact run_equalIn_bool w (D + d) t _ _ hu
    · rename_i k hu
      obtain ⟨_,rfl⟩:P.cellsOf t = 1 ∧ ls = _ := by
        split at hl
        · rename_i q; exact ⟨q,(Option.some.inj hl).symm⟩
        · cases hl
      have hs:isStruct P t = false := by simp [isStruct,hu]
      rcases ha with ⟨h1,_⟩ | ⟨_,c,rfl,hc⟩
      · rw [hs] at h1; cases h1
      rcases hb with ⟨h1,_⟩ | ⟨_,c',rfl,hc'⟩
      · rw [hs] at h1; cases h1
      have he := eqLeaves_one _ _ _ _ he
      cases c <;> cases c' <;> simp [eqAt] at he
      obtain ⟨rfl,rfl⟩ := he
      cases hc; cases hc'
      exact run_equalIn_int w (D + d) t _ _ _ _ hu
    · rename_i hu
      obtain ⟨_,rfl⟩:P.cellsOf t = 1 ∧ ls = _ := by
        split at hl
        · rename_i q; exact ⟨q,(Option.some.inj hl).symm⟩
        · cases hl
      have hs:isStruct P t = false := by simp [isStruct,hu]
      rcases ha with ⟨h1,_⟩ | ⟨_,c,rfl,hc⟩
      · rw [hs] at h1; cases h1
      rcases hb with ⟨h1,_⟩ | ⟨_,c',rfl,hc'⟩
      · rw [hs] at h1; cases h1
      have he := eqLeaves_one _ _ _ _ he
      cases c <;> cases c' <;> simp [eqAt] at he
      cases hc; cases hc'; subst he
      rw [show D + (d + 1) = (D + d) + 1 from rfl,run_equalIn_string w (D + d) t _ _ hu,ByteArray.toList_mk,ByteArray.toList_mk]
    · rename_i fs hu
      have hs:isStruct P t = true := by simp [isStruct,hu]
      split at hl
      · cases hl
      rename_i hp
      obtain ⟨hlen,xs,rfl,hx,hxr⟩:cs.length = P.cellsOf t ∧ ∃ xs:Array Value,a = .agg xs ∧ xs.size = cs.length ∧ ∀ k c,cs[k]? = some c → Rep L w c (xs.getD k undef) := by
        rcases ha with ⟨_,h⟩ | ⟨h1,_⟩
        · exact h
        · rw [hs] at h1; cases h1
      obtain ⟨hlen',ys,rfl,hy,hyr⟩:ds.length = P.cellsOf t ∧ ∃ xs:Array Value,b = .agg xs ∧ xs.size = ds.length ∧ ∀ k c,ds[k]? = some c → Rep L w c (xs.getD k undef) := by
        rcases hb with ⟨_,h⟩ | ⟨h1,_⟩
        · exact h
        · rw [hs] at h1; cases h1
      have hf:P.fieldsOf t = fs := by simp [Program.fieldsOf,hu]
      rw [show D + (d + 1) = (D + d) + 1 from rfl,run_equalIn_struct w (D + d) t xs ys (by rw [hf]; exact hu) (by simpa using hp),hf]
      generalize fs.toList = l at hl
      clear hf hu hp
      induction l generalizing ls r with
      | nil =>
        simp only [leavesAll] at hl
        injection hl with hl; subst hl
        simp [eqLeaves] at he; subst he
        simp [Op.eqFields]
      | cons g gs ih =>
        simp only [leavesAll] at hl
        by_cases hn : g.name = "_"
        · rw [if_pos hn] at hl
          simp only [Op.eqFields]
          rw [if_neg (by simpa using hn)]
          exact ih ls r he hl
        · rw [if_neg hn] at hl
          split at hl
          · rename_i la lb h1 h2
            injection hl with hl; subst hl
            rw [eqLeaves_append] at he
            split at h1
            · rename_i i lg hi hlg
              split at h1
              · rename_i hall
                injection h1 with h1; subst h1
                rw [eqLeaves_shift cs ds g.offset i.size lg hall.1] at he
                simp only [Op.eqFields]
                rw [if_pos (by simpa using hn)]
                have hsu:(P.underlying g.type).isSome = true := by
                  cases d with
                  | zero => simp [leavesOf] at hlg
                  | succ d =>
                    unfold leavesOf at hlg
                    cases q:P.underlying g.type with
                    | some _ => rfl
                    | none => rw [q] at hlg; cases hlg
                have cells:∀ (zs:Array Value) (es:List V),es.length = P.cellsOf t → zs.size = es.length → (∀ k c,es[k]? = some c → Rep L w c (zs.getD k undef)) →
                    ∃ u,(part g.type zs g.offset).run P w = .ok u w ∧ CellsOf P L w g.type ((es.drop g.offset).take i.size) u := by
                  intro zs es q1 q2 q3
                  have hco:P.cellsOf g.type = i.size := by simp [Program.cellsOf,hi]
                  have := run_part (P := P) q2 q3 hi hsu g.offset
                  by_cases hst:isStruct P g.type = true
                  · obtain ⟨us,g1,g2,g3⟩ := this.1 hst (by rw [q1]; exact hall.2)
                    refine ⟨_,g1,.inl ⟨hst,?_,us,rfl,g2,g3⟩⟩
                    have := hall.2
                    simp [hco,q1]; omega
                  · have hst:isStruct P g.type = false := by simpa using hst
                    have h1:i.size = 1 := by
                      cases d with
                      | zero => simp [leavesOf] at hlg
                      | succ d =>
                        unfold leavesOf at hlg
                        rw [hco] at hlg
                        split at hlg
                        · split at hlg
                          · assumption
                          · cases hlg
                        · split at hlg
                          · assumption
                          · cases hlg
                        · split at hlg
                          · assumption
                          · cases hlg
                        · rename_i q; simp [isStruct,q] at hst
                        · cases hlg
                    have hlt:g.offset < es.length := by rw [q1]; have := hall.2; omega
                    obtain ⟨u,g1,g2⟩ := this.2 hst es[g.offset] (by simp [hlt])
                    refine ⟨u,g1,.inr ⟨hst,es[g.offset],?_,g2⟩⟩
                    rw [h1,List.drop_eq_getElem_cons hlt]; rfl
                obtain ⟨u,e1,c1⟩ := cells xs cs hlen hx hxr
                obtain ⟨u',e2,c2⟩ := cells ys ds hlen' hy hyr
                simp only [Sem.run_bind,e1,e2,Result.andThen_ok]
                cases hq:eqLeaves ((cs.drop g.offset).take i.size) ((ds.drop g.offset).take i.size) lg with
                | none => rw [hq] at he; cases he
                | some q =>
                  have := run_equalIn_leaves d g.type D lg _ _ u u' q hlg c1 c2 hq
                  rw [this]
                  rw [hq] at he
                  cases q with
                  | true =>
                    simp only [Result.andThen_ok]
                    simp
                    exact ih lb r he h2
                  | false =>
                    injection he with he; subst he
                    simp
              · cases h1
            · cases h1
          · cases hl
    · cases hl
end Go.Proofs.YtjpjeilfmjdhcaaDoor.E
/- The layer E, part 4: operations that leave memory as it is, or read it. No condition. -/
namespace Go.Proofs.YtjpjeilfmjdhcaaDoor.E
set_option linter.unusedSimpArgs false
set_option linter.unusedVariables false
/-! ### '==' -/
def EqT.fits (P:Program) (t:TypeId):EqT → Prop
  | .bool => P.underlying t = some .bool
  | .ptr => ∃ e,P.underlying t = some (.pointer e)
  | .slice => ∃ e,P.underlying t = some (.slice e)
  | .map => ∃ k e,P.underlying t = some (.map k e)
  | .func => ∃ a b c,P.underlying t = some (.func a b c)
  | .struct n ls => leavesOf P 8 t = some ls ∧ P.eqGuardType P.depth t = false ∧ isStruct P t = true ∧ P.cellsOf t = n
theorem isNil_spec {L:Loc} {h:List Ob} {w:World} (H:HRel L h w) {T:EqT} {v:V} {x:Value} {b:Bool} (r:Rep L w v x) (he:isNil h T v = some b) :
    (T = .ptr ∧ ∃ p,x = .pointer p ∧ p.isNone = b) ∨ (T = .slice ∧ ∃ p n c,x = .slice p n c ∧ p.isNone = b ∧ (b = true → n = 0 ∧ c = 0)) ∨ (T = .map ∧ ∃ p,x = .map p ∧ p.isNone = b) ∨
    (T = .func ∧ ((b = true ∧ x = .nilFunc) ∨ (b = false ∧ ∃ f c d,x = .func f c d))) := by
  unfold isNil at he
  split at he
  · injection he with he; subst he; cases r; exact .inl ⟨rfl,_,rfl,rfl⟩
  · split at he
    · rename_i ha
      injection he with he; subst he
      obtain ⟨p,hp⟩ := alive_at H ha
      cases r with
      | ptr _ => exact .inl ⟨rfl,_,rfl,rfl⟩
      | ptrD _ h => rw [hp] at h; cases h
    · cases he
  · injection he with he; subst he; cases r; exact .inl ⟨rfl,_,rfl,rfl⟩
  · injection he with he; subst he; cases r; exact .inr (.inl ⟨rfl,_,_,_,rfl,rfl,fun _ => ⟨rfl,rfl⟩⟩)
  · split at he
    · rename_i ha
      injection he with he; subst he
      obtain ⟨p,hp⟩ := alive_at H ha
      cases r with
      | hsl _ => exact .inr (.inl ⟨rfl,_,_,_,rfl,rfl,fun h => by cases h⟩)
      | hslD _ h => rw [hp] at h; cases h
    · cases he
  · injection he with he; subst he
    cases r <;> exact .inr (.inl ⟨rfl,_,_,_,rfl,rfl,fun h => by cases h⟩)
  · injection he with he; subst he
    cases r; exact .inr (.inl ⟨rfl,_,_,_,rfl,rfl,fun h => by cases h⟩)
  · injection he with he; subst he; cases r; exact .inr (.inr (.inl ⟨rfl,_,rfl,rfl⟩))
  · split at he
    · rename_i ha
      injection he with he; subst he
      obtain ⟨p,hp⟩ := alive_at H ha
      cases r with
      | mp _ => exact .inr (.inr (.inl ⟨rfl,_,rfl,rfl⟩))
      | mpD _ h => rw [hp] at h; cases h
    · cases he
  · injection he with he; subst he; cases r; exact .inr (.inr (.inr ⟨rfl,.inl ⟨rfl,rfl⟩⟩))
  · injection he with he; subst he; cases r; exact .inr (.inr (.inr ⟨rfl,.inr ⟨rfl,_,_,_,rfl⟩⟩))
  · cases he
theorem eqIn_ptr {P:Program} (w:World) (d:Nat) {t e:TypeId} (hu:P.underlying t = some (.pointer e)) (m m':Option Addr) (h:m = none ∨ m' = none) :
    (Op.equalIn (d + 1) t (.pointer m) (.pointer m')).run P w = .ok (m.isNone && m'.isNone) w := by
  rcases h with rfl | rfl
  · cases m' <;> simp [Op.equalIn,run_underlying hu]
  · cases m <;> simp [Op.equalIn,run_underlying hu]
theorem eqIn_slice {P:Program} (w:World) (d:Nat) {t e:TypeId} (hu:P.underlying t = some (.slice e)) (m m':Option Addr) (n c n' c':Nat) (h:m = none ∨ m' = none) :
    (Op.equalIn (d + 1) t (.slice m n c) (.slice m' n' c')).run P w = .ok (m.isNone && m'.isNone) w := by
  rcases h with rfl | rfl
  · cases m' <;> simp [Op.equalIn,run_underlying hu]
  · cases m <;> simp [Op.equalIn,run_underlying hu]
theorem eqIn_map {P:Program} (w:World) (d:Nat) {t k e:TypeId} (hu:P.underlying t = some (.map k e)) (m m':Option Nat) (h:m = none ∨ m' = none) :
    (Op.equalIn (d + 1) t (.map m) (.map m')).run P w = .ok (m.isNone && m'.isNone) w := by
  rcases h with rfl | rfl
  · cases m' <;> simp [Op.equalIn,run_underlying hu]
  · cases m <;> simp [Op.equalIn,run_underlying hu]
theorem eqIn_func {P:Program} (w:World) (d:Nat) {t:TypeId} {k1 k2:Array TypeId} {k3:Bool} (hu:P.underlying t = some (.func k1 k2 k3)) (f f':Fn) (c e c' e':Array Value) :
    (Op.equalIn (d + 1) t .nilFunc .nilFunc).run P w = .ok true w ∧ (Op.equalIn (d + 1) t .nilFunc (.func f c e)).run P w = .ok false w ∧ (Op.equalIn (d + 1) t (.func f c e) .nilFunc).run P w = .ok false w :=
  ⟨by simp [Op.equalIn,run_underlying hu],by simp [Op.equalIn,run_underlying hu],by simp [Op.equalIn,run_underlying hu]⟩
/-- What the two ways of asking come to. -/
theorem nil_two {p q r:Bool} (h:(match some p,some q with | some true,some b => some b | some b,some true => some b | _,_ => none) = some r):(p = true ∨ q = true) ∧ r = (p && q) := by
  cases p <;> cases q <;> simp at h <;> subst h <;> simp
theorem evEq_run {P:Program} {L:Loc} {h:List Ob} {w:World} (H:HRel L h w) {t:TypeId} {T:EqT} (hT:T.fits P t) {x y:V} {a b:Value} {r:Bool} (ha:Rep L w x a) (hb:Rep L w y b)
    (he:evEq h T x y = some r):(Op.equal t a b).run P w = .ok r w ∧ (∀ op x y,(eqGuard op t x y a b).run P w = .ok () w) ∧
      (∀ op,op = .eql ∨ op = .neq → binOp op t a b = (if op = .eql then (do pure (.bool (← Op.equal t a b))) else (do pure (.bool (!(← Op.equal t a b)))))) := by
  have nilcase:∀ {T:EqT},T.fits P t → (match isNil h T x,isNil h T y with | some true,some b => some b | some b,some true => some b | _,_ => none) = some r →
      (Op.equal t a b).run P w = .ok r w ∧ (∀ op x y,(eqGuard op t x y a b).run P w = .ok () w) ∧
      (∀ op,op = .eql ∨ op = .neq → binOp op t a b = (if op = .eql then (do pure (.bool (← Op.equal t a b))) else (do pure (.bool (!(← Op.equal t a b)))))) := by
    intro T hT he
    cases h1:isNil h T x with
    | none => rw [h1] at he; simp at he
    | some p =>
      cases h2:isNil h T y with
      | none => rw [h1,h2] at he; cases p <;> simp at he
      | some q =>
        rw [h1,h2] at he
        obtain ⟨hpq,rfl⟩ := nil_two he
        have s1 := isNil_spec H ha h1
        have s2 := isNil_spec H hb h2
        rcases s1 with ⟨rfl,m,rfl,rfl⟩ | ⟨rfl,m,n,c,rfl,rfl,hmz⟩ | ⟨rfl,m,rfl,rfl⟩ | ⟨rfl,hm⟩
        · rcases s2 with ⟨_,m',rfl,rfl⟩ | ⟨hh,_⟩ | ⟨hh,_⟩ | ⟨hh,_⟩ <;> first | cases hh | skip
          obtain ⟨e,hu⟩ := hT
          exact ⟨eqIn_ptr w 9999 hu m m' (by simpa using hpq),fun op x y => run_eqGuard_plain w op t x y _ _ (by simp) (by simp),fun op ho => by rcases ho with rfl | rfl <;> rfl⟩
        · rcases s2 with ⟨hh,_⟩ | ⟨_,m',n',c',rfl,rfl,hmz'⟩ | ⟨hh,_⟩ | ⟨hh,_⟩ <;> first | cases hh | skip
          obtain ⟨e,hu⟩ := hT
          exact ⟨eqIn_slice w 9999 hu m m' n c n' c' (by simpa using hpq),fun op x y => run_eqGuard_plain w op t x y _ _ (by simp) (by simp),fun op ho => by rcases ho with rfl | rfl <;> rfl⟩
        · rcases s2 with ⟨hh,_⟩ | ⟨hh,_⟩ | ⟨_,m',rfl,rfl⟩ | ⟨hh,_⟩ <;> first | cases hh | skip
          obtain ⟨k,e,hu⟩ := hT
          exact ⟨eqIn_map w 9999 hu m m' (by simpa using hpq),fun op x y => run_eqGuard_plain w op t x y _ _ (by simp) (by simp),fun op ho => by rcases ho with rfl | rfl <;> rfl⟩
        · rcases s2 with ⟨hh,_⟩ | ⟨hh,_⟩ | ⟨hh,_⟩ | ⟨_,hm'⟩ <;> first | cases hh | skip
          obtain ⟨k1,k2,k3,hu⟩ := hT
          refine ⟨?_,fun op x y => run_eqGuard_plain w op t x y _ _ ?_ ?_,fun op ho => ?_⟩
          · rcases hm with ⟨rfl,rfl⟩ | ⟨rfl,f,c,d,rfl⟩ <;> rcases hm' with ⟨rfl,rfl⟩ | ⟨rfl,f',c',d',rfl⟩
            · exact (eqIn_func w 9999 hu default default #[] #[] #[] #[]).1
            · exact (eqIn_func w 9999 hu f' default c' d' #[] #[]).2.1
            · exact (eqIn_func w 9999 hu f default c d #[] #[]).2.2
            · simp at hpq
          · rcases hm with ⟨rfl,rfl⟩ | ⟨rfl,f,c,d,rfl⟩ <;> simp
          · rcases hm with ⟨rfl,rfl⟩ | ⟨rfl,f,c,d,rfl⟩ <;> simp
          · rcases hm with ⟨rfl,rfl⟩ | ⟨rfl,f,c,d,rfl⟩ <;> rcases hm' with ⟨rfl,rfl⟩ | ⟨rfl,f',c',d',rfl⟩ <;> rcases ho with rfl | rfl <;> rfl
  unfold evEq at he
  split at he
  · injection he with he; subst he
    cases ha; cases hb
    refine ⟨run_equalIn_bool w 9999 t _ _ hT,fun op x y => run_eqGuard_plain w op t x y _ _ (by simp) (by simp),fun op ho => by rcases ho with rfl | rfl <;> rfl⟩
  · rename_i n ls cs ds
    split at he
    · rename_i hn
      obtain ⟨hl,hg,hs,hc⟩ := hT
      cases ha with
      | agg xs h1 h2 => cases hb with
        | agg ys h3 h4 =>
          refine ⟨?_,fun op x y => run_eqGuard_agg w op t x y xs ys hg,fun op ho => by rcases ho with rfl | rfl <;> rfl⟩
          have := run_equalIn_leaves (P := P) (w := w) 8 t 9992 ls cs ds (.agg xs) (.agg ys) r hl (.inl ⟨hs,by rw [hn.1,hc],xs,rfl,h1,h2⟩) (.inl ⟨hs,by rw [hn.2,hc],ys,rfl,h3,h4⟩) he
          exact this
    · cases he
  · cases he
  · cases he
  · exact nilcase hT he
end Go.Proofs.YtjpjeilfmjdhcaaDoor.E
/- The layer E, part 5: reading memory, addresses, slices and strings cut. No condition. -/
namespace Go.Proofs.YtjpjeilfmjdhcaaDoor.E
set_option linter.unusedSimpArgs false
set_option linter.unusedVariables false
/-! ### Loads -/
def rdCells (h:List Ob) (n:Nat):V → Option (List V)
  | .ptr id i j => match h[id]? with
    | some (.row es sz) =>
      if j + n ≤ sz then (es[i]?).map fun e => (e.cells.drop j).take n
      else if j = 0 ∧ sz = 1 ∧ i + n ≤ es.length then some (((es.drop i).take n).flatMap V.cells) else none
    | _ => none
  | .ref e j => if j + n ≤ e.cells.length then some ((e.cells.drop j).take n) else none
  | _ => none
theorem getElem?_flatMap_one:∀ (es:List V) (k:Nat) (c:V),(∀ (i:Nat) (e:V),es[i]? = some e → e.cells.length = 1) → (es.flatMap V.cells)[k]? = some c → ∃ e,es[k]? = some e ∧ e.cells[0]? = some c
  | [],k,c,_,h => by simp at h
  | e :: es,k,c,hs,h => by
    have h1 := hs 0 e (by simp)
    rw [List.flatMap_cons] at h
    cases k with
    | zero =>
      rw [List.getElem?_append_left (by omega)] at h
      exact ⟨e,by simp,h⟩
    | succ k =>
      rw [List.getElem?_append_right (by omega),h1] at h
      obtain ⟨e',g1,g2⟩ := getElem?_flatMap_one es k c (fun i x hx => hs (i + 1) x (by simpa using hx)) (by simpa using h)
      exact ⟨e',by simpa using g1,g2⟩
theorem length_flatMap_one:∀ (es:List V),(∀ (i:Nat) (e:V),es[i]? = some e → e.cells.length = 1) → (es.flatMap V.cells).length = es.length
  | [],_ => rfl
  | e :: es,hs => by
    rw [List.flatMap_cons,List.length_append,hs 0 e (by simp),length_flatMap_one es (fun i x hx => hs (i + 1) x (by simpa using hx))]
    simp <;> omega
theorem rdCells_spec {L:Loc} {h:List Ob} {w:World} (H:HRel L h w) {n:Nat} {v:V} {x:Value} {cs:List V} (r:Rep L w v x) (he:rdCells h n v = some cs) :
    ∃ b o,x = .pointer (some ⟨b,o,none⟩) ∧ cs.length = n ∧ ∃ f:Nat → Value,(∀ k,k < n → w.cell? ⟨b,o + k,none⟩ = some (f k)) ∧ ∀ k c,cs[k]? = some c → Rep L w c (f k) := by
  unfold rdCells at he
  split at he
  · rename_i id i j
    split at he
    · rename_i es sz hob
      obtain ⟨b,base,c,e,fr,h1,h2,h3,h4,h5⟩ := H.obs id _ hob
      have hx:x = .pointer (some ⟨b,base + i * sz + j,none⟩) := by
        cases r with
        | ptr g => rw [h1] at g; injection g with g; injection g with g1 g2; injection g2 with g2 g3; subst g1; subst g2; subst g3; rfl
        | ptrD _ g => rw [h1] at g; cases g
      split at he
      · rename_i hj
        simp only [Option.map_eq_some_iff] at he
        obtain ⟨y,hy,rfl⟩ := he
        have hlen := (h4 i y hy).1
        have key:∀ k,k < n → ∃ v,c[base + i * sz + (j + k)]? = some v ∧ ∀ z,y.cells[j + k]? = some z → Rep L w z v := by
          intro k hk
          have hz:y.cells[j + k]? = some y.cells[j + k] := by simp <;> omega
          obtain ⟨v,g1,g2⟩ := h5 i (j + k) y _ hy hz
          exact ⟨v,g1,fun z hz' => by rw [hz] at hz'; injection hz' with hz'; subst hz'; exact g2⟩
        refine ⟨b,_,hx,by simp <;> omega,fun k => (c[base + i * sz + (j + k)]?).getD undef,fun k hk => ?_,fun k z hz => ?_⟩
        · obtain ⟨v,g1,_⟩ := key k hk
          show _ = some ((c[base + i * sz + (j + k)]?).getD undef)
          rw [cell?_row h2,show base + i * sz + j + k = base + i * sz + (j + k) by omega,g1]; rfl
        · rw [List.getElem?_take] at hz
          split at hz
          · rename_i hk
            rw [List.getElem?_drop] at hz
            obtain ⟨v,g1,g2⟩ := key k hk
            show Rep L w z ((c[base + i * sz + (j + k)]?).getD undef)
            rw [g1]; exact g2 z hz
          · cases hz
      · split at he
        · rename_i hh
          obtain ⟨rfl,rfl,hin⟩ := hh
          injection he with he; subst he
          have hone:∀ (k:Nat) (e:V),((es.drop i).take n)[k]? = some e → e.cells.length = 1 := by
            intro k y hy
            rw [List.getElem?_take] at hy
            split at hy
            · rw [List.getElem?_drop] at hy; exact (h4 _ y hy).1
            · cases hy
          have key:∀ k,k < n → ∃ v,c[base + i * 1 + 0 + k]? = some v ∧ ∀ z,((((es.drop i).take n).flatMap V.cells))[k]? = some z → Rep L w z v := by
            intro k hk
            have hy:es[i + k]? = some es[i + k] := by simp <;> omega
            have h1c := (h4 _ _ hy).1
            have hz:(es[i + k]).cells[0]? = some (es[i + k]).cells[0] := by simp <;> omega
            obtain ⟨v,g1,g2⟩ := h5 (i + k) 0 _ _ hy hz
            refine ⟨v,by rw [← g1]; congr 1; omega,fun z hz' => ?_⟩
            obtain ⟨e',q1,q2⟩ := getElem?_flatMap_one _ k z hone hz'
            rw [List.getElem?_take,if_pos hk,List.getElem?_drop,hy] at q1
            injection q1 with q1; subst q1
            rw [hz] at q2; injection q2 with q2; subst q2; exact g2
          refine ⟨b,_,hx,by rw [length_flatMap_one _ hone]; simp <;> omega,fun k => (c[base + i * 1 + 0 + k]?).getD undef,fun k hk => ?_,fun k z hz => ?_⟩
          · obtain ⟨v,g1,_⟩ := key k hk
            show _ = some ((c[base + i * 1 + 0 + k]?).getD undef)
            rw [cell?_row h2,g1]; rfl
          · have hk:k < n := by
              have := (List.getElem?_eq_some_iff.1 hz).1
              rw [length_flatMap_one _ hone] at this
              simp at this; omega
            obtain ⟨v,g1,g2⟩ := key k hk
            show Rep L w z ((c[base + i * 1 + 0 + k]?).getD undef)
            rw [g1]; exact g2 z hz
        · cases he
    · cases he
  · rename_i e j
    split at he
    · rename_i hj
      injection he with he; subst he
      cases r with
      | @ref _ _ b o f ho hb hc hr =>
        refine ⟨b,o + j,rfl,by simp <;> omega,fun k => f (j + k),fun k hk => ?_,fun k z hz => ?_⟩
        · have hz:e.cells[j + k]? = some e.cells[j + k] := by simp <;> omega
          have := hc _ _ hz
          rw [show o + j + k = o + (j + k) by omega]; exact this
        · rw [List.getElem?_take] at hz
          split at hz
          · rw [List.getElem?_drop] at hz; exact hr _ _ hz
          · cases hz
    · cases he
  · cases he
def evLoad1 (h:List Ob) (v:V):Option V :=
  match rdCells h 1 v with
  | some [c] => some c
  | _ => none
def evLoadN (h:List Ob) (n:Nat) (v:V):Option V := (rdCells h n v).map .agg
theorem load1_good {P:Program} {L:Loc} {h:List Ob} {w:World} (H:HRel L h w) {t:TypeId} {v c:V} {x:Value} (hu:(P.underlying t).isSome = true) (hs:isStruct P t = false)
    (r:Rep L w v x) (he:evLoad1 h v = some c):Good P L w (Instr.loadAt t x) c h := by
  unfold evLoad1 at he
  split at he
  · rename_i c' hc
    injection he with he; subst he
    obtain ⟨b,o,rfl,_,f,h1,h2⟩ := rdCells_spec H r hc
    refine .same H (x := f 0) ?_ (h2 0 _ rfl)
    have := h1 0 (by omega)
    simp only [Nat.add_zero] at this
    simp only [Instr.loadAt,Instr.sureAddr,loadVar,Sem.run_bind,Sem.run_pure,Result.andThen_ok,run_isAgg w hu,hs,Bool.false_eq_true,if_false,run_load,this]
  · cases he
theorem loadN_good {P:Program} {L:Loc} {h:List Ob} {w:World} (H:HRel L h w) {t:TypeId} {i:TypeInfo} {v c:V} {x:Value} (hi:P.info? t = some i) (hu:(P.underlying t).isSome = true) (hs:isStruct P t = true)
    (r:Rep L w v x) (he:evLoadN h i.size v = some c):Good P L w (Instr.loadAt t x) c h := by
  unfold evLoadN at he
  simp only [Option.map_eq_some_iff] at he
  obtain ⟨cs,hc,rfl⟩ := he
  obtain ⟨b,o,rfl,hl,f,h1,h2⟩ := rdCells_spec H r hc
  refine .same H (x := .agg ((List.range i.size).map f).toArray) ?_ (.agg _ (by simp [hl]) (fun k c hk => ?_))
  · simp only [Instr.loadAt,Instr.sureAddr,loadVar,Sem.run_bind,Sem.run_pure,Result.andThen_ok,run_isAgg w hu,hs,if_true,run_sizeOf w hi,E.run_loadCells P w b o i.size f h1]
  · have hk':k < i.size := by rw [← hl]; exact (List.getElem?_eq_some_iff.1 hk).1
    have := h2 k c hk
    rw [Array.getD_eq_getD_getElem?]
    simp [hk']; exact this
/-! ### Addresses -/
def evFaddr (off:Nat):V → Option V
  | .ptr id i j => some (.ptr id i (j + off))
  | .ref e j => some (.ref e (j + off))
  | _ => none
theorem faddr_good {P:Program} {L:Loc} {h:List Ob} {w:World} (H:HRel L h w) {t:TypeId} {fs:Array Field} {k:Nat} {g:Field} {i:TypeInfo} {v c:V} {x:Value} (hal:∀ id i j,v = .ptr id i j → aliveB h id = true)
    (hu:P.underlying t = some (.struct fs)) (hg:fs[k]? = some g) (hi:P.info? g.type = some i) (hz:i.size ≠ 0) (r:Rep L w v x) (he:evFaddr g.offset v = some c):Good P L w (Instr.fieldAt t x k) c h := by
  have key:∀ b o,x = .pointer (some ⟨b,o,none⟩) → (Instr.fieldAt t x k).run P w = .ok (.pointer (some ⟨b,o + g.offset,none⟩)) w := by
    intro b o hx
    subst hx
    simp only [Instr.fieldAt,Sem.run_bind,run_underlying hu,Result.andThen_ok,hg,Instr.sureAddr,Sem.run_pure,fieldPlace,run_sizeOf w hi,if_neg hz,addr_add]
  unfold evFaddr at he
  split at he
  · rename_i id a j
    injection he with he; subst he
    obtain ⟨p,hp⟩ := alive_at H (hal _ _ _ rfl)
    cases r with
    | @ptr _ _ _ b base sz q => exact .same H (key _ _ rfl) (by rw [Nat.add_assoc]; exact .ptr q)
    | ptrD _ q => rw [hp] at q; cases q
  · injection he with he; subst he
    cases r with
    | ref f ho hb hc hr => exact .same H (key _ _ rfl) (by rw [Nat.add_assoc]; exact .ref f ho hb hc hr)
  · cases he
/-- An element's address in an array's variable (n elements of sz cells). -/
def evIaddrA (h:List Ob) (n sz:Nat) (v:V) (i:Int):Option V :=
  if 0 ≤ i ∧ i < n then
    match v with
    | .ptr id a j => match h[id]? with
      | some (.row _ s) => if s = sz ∧ j = 0 ∧ n ≠ 1 then some (.ptr id (a + i.toNat) 0) else some (.ptr id a (j + i.toNat * sz))
      | _ => none
    | .ref e j => some (.ref e (j + i.toNat * sz))
    | _ => none
  else none
def evIaddrL (h:List Ob) (sz:Nat) (v:V) (i:Int):Option V :=
  match v with
  | .hsl id off len => if 0 ≤ i ∧ i < len then
      match h[id]? with
      | some (.row _ s) => if s = sz then some (.ptr id (off + i.toNat) 0) else none
      | _ => none
    else none
  | .sl es => if 0 ≤ i then (es[i.toNat]?).bind fun e => if e.cells.length = sz then some (.ref e 0) else none else none
  | _ => none
theorem iaddrA_good {P:Program} {L:Loc} {h:List Ob} {w:World} (H:HRel L h w) {t e:TypeId} {n:Nat} {i:TypeInfo} {v c:V} {x:Value} {k:IntKind} {m:Int}
    (hu:P.underlying t = some (.array n e)) (hi:P.info? e = some i) (r:Rep L w v x) (he:evIaddrA h n i.size v m = some c):Good P L w (Instr.indexAt t x (.int k m)) c h := by
  unfold evIaddrA at he
  split at he
  · rename_i hm
    have key:∀ b o,x = .pointer (some ⟨b,o,none⟩) → (Instr.indexAt t x (.int k m)).run P w = .ok (.pointer (some ⟨b,o + m.toNat * i.size,none⟩)) w := by
      intro b o hx
      subst hx
      simp only [Instr.indexAt,asIntOf,Sem.run_bind,Sem.run_pure,Result.andThen_ok,run_underlying hu,Instr.sureAddr,hm,and_self,if_true,run_sizeOf w hi,addr_add]
    split at he
    · rename_i id a j
      split at he
      · rename_i es s hob
        obtain ⟨b,base,cc,ee,fr,h1,h2,h3,h4,h5⟩ := H.obs id _ hob
        have hx:x = .pointer (some ⟨b,base + a * s + j,none⟩) := by
          cases r with
          | ptr g => rw [h1] at g; injection g with g; injection g with g1 g2; injection g2 with g2 g3; subst g1; subst g2; subst g3; rfl
          | ptrD _ g => rw [h1] at g; cases g
        split at he
        · rename_i hh
          obtain ⟨rfl,rfl,_⟩ := hh
          injection he with he; subst he
          refine .same H (key _ _ hx) ?_
          have := Rep.ptr (w := w) (i := a + m.toNat) (j := 0) h1
          rw [Nat.add_mul] at this
          simpa [Nat.add_assoc] using this
        · injection he with he; subst he
          refine .same H (key _ _ hx) ?_
          have := Rep.ptr (w := w) (i := a) (j := j + m.toNat * i.size) h1
          simpa [Nat.add_assoc] using this
      · cases he
    · injection he with he; subst he
      cases r with
      | ref f ho hb hc hr => exact .same H (key _ _ rfl) (by rw [Nat.add_assoc]; exact .ref f ho hb hc hr)
    · cases he
  · cases he
theorem iaddrL_good {P:Program} {L:Loc} {h:List Ob} {w:World} (H:HRel L h w) {t e:TypeId} {i:TypeInfo} {v c:V} {x:Value} {k:IntKind} {m:Int}
    (hu:P.underlying t = some (.slice e)) (hi:P.info? e = some i) (r:Rep L w v x) (he:evIaddrL h i.size v m = some c):Good P L w (Instr.indexAt t x (.int k m)) c h := by
  have key:∀ b o len cap,x = .slice (some ⟨b,o,none⟩) len cap → 0 ≤ m → m < len → (Instr.indexAt t x (.int k m)).run P w = .ok (.pointer (some ⟨b,o + m.toNat * i.size,none⟩)) w := by
    intro b o len cap hx h0 h1
    subst hx
    simp only [Instr.indexAt,asIntOf,Sem.run_bind,Sem.run_pure,Result.andThen_ok,run_underlying hu,h0,h1,and_self,if_true,run_sizeOf w hi,addr_add]
  unfold evIaddrL at he
  split at he
  · rename_i id off len
    split at he
    · rename_i hm
      split at he
      · rename_i es s hob
        obtain ⟨b,base,cc,ee,fr,h1,h2,h3,h4,h5⟩ := H.obs id _ hob
        split at he
        · rename_i hh
          subst hh
          injection he with he; subst he
          cases r with
          | hsl g hc hz =>
            rw [h1] at g; injection g with g; injection g with g1 g2; injection g2 with g2 g3; subst g1; subst g2; subst g3
            refine .same H (key _ _ _ _ rfl hm.1 hm.2) ?_
            have := Rep.ptr (w := w) (i := off + m.toNat) (j := 0) h1
            rw [Nat.add_mul] at this
            simpa [Nat.add_assoc] using this
          | hslD _ g => rw [h1] at g; cases g
        · cases he
      · cases he
    · cases he
  · rename_i es
    split at he
    · rename_i h0
      simp only [Option.bind_eq_some_iff] at he
      obtain ⟨e',he',hs⟩ := he
      split at hs
      · rename_i hlen
        injection hs with hs; subst hs
        have hlt := (List.getElem?_eq_some_iff.1 he').1
        cases r with
        | @sl _ sz b o cap f ho hb hcap hs hc hr =>
          have hsz:sz = i.size := by rw [← (hs _ _ he').1,hlen]
          subst hsz
          refine .same H (key _ _ _ _ rfl h0 (by omega)) ?_
          have := Rep.ref (L := L) (w := w) (e := e') (j := 0) (b := b) (o := o + m.toNat * i.size) (fun q => f m.toNat q) ho hb (fun q z hz => hc _ _ _ _ he' hz) (fun q z hz => hr _ _ _ _ he' hz)
          simpa using this
        | sl0 a cap => simp at he'
      · cases hs
    · cases he
  · cases he
/-! ### Fields and elements of values, lengths, tuples -/
def evField1 (off:Nat):V → Option V
  | .agg cs => cs[off]?
  | _ => none
def evFieldN (off n:Nat):V → Option V
  | .agg cs => if off + n ≤ cs.length then some (.agg ((cs.drop off).take n)) else none
  | _ => none
theorem field_good {P:Program} {L:Loc} {h:List Ob} {w:World} (H:HRel L h w) {t:TypeId} {fs:Array Field} {k:Nat} {g:Field} {i:TypeInfo} {v c:V} {x:Value}
    (hu:P.underlying t = some (.struct fs)) (hg:fs[k]? = some g) (hi:P.info? g.type = some i) (hs:(P.underlying g.type).isSome = true) (r:Rep L w v x)
    (he:(isStruct P g.type = false ∧ evField1 g.offset v = some c) ∨ (isStruct P g.type = true ∧ evFieldN g.offset i.size v = some c)):Good P L w (Instr.field t x k) c h := by
  have go:∀ (cs:List V) (xs:Array Value),v = .agg cs → x = .agg xs → xs.size = cs.length → (∀ k c,cs[k]? = some c → Rep L w c (xs.getD k undef)) → Good P L w (Instr.field t x k) c h := by
    intro cs xs hv hx h1 h2
    subst hv; subst hx
    have hp := run_part (P := P) h1 h2 hi hs g.offset
    rcases he with ⟨hst,he⟩ | ⟨hst,he⟩
    · obtain ⟨y,g1,g2⟩ := hp.2 hst c he
      exact .same H (by simp only [Instr.field,Sem.run_bind,run_underlying hu,Result.andThen_ok,hg,asAgg,Sem.run_pure,g1]) g2
    · simp only [evFieldN] at he
      split at he
      · rename_i hle
        injection he with he; subst he
        obtain ⟨ys,g1,g2,g3⟩ := hp.1 hst hle
        exact .same H (by simp only [Instr.field,Sem.run_bind,run_underlying hu,Result.andThen_ok,hg,asAgg,Sem.run_pure,g1]) (.agg ys g2 g3)
      · cases he
  cases v <;> first | (rcases he with ⟨_,he⟩ | ⟨_,he⟩ <;> simp [evField1,evFieldN] at he; done) | skip
  cases r with
  | agg vs hl hr => exact go _ _ rfl rfl hl hr
def evIdxS (l:List UInt8) (i:Int):Option V := if 0 ≤ i then (l[i.toNat]?).map fun b => .int .u8 b.toNat else none
theorem idxS_good {P:Program} {L:Loc} {h:List Ob} {w:World} (H:HRel L h w) {t:TypeId} {l:List UInt8} {c:V} {x:Value} {k:IntKind} {m:Int}
    (hu:P.underlying t = some .string) (r:Rep L w (.str l) x) (he:evIdxS l m = some c):Good P L w (Instr.index t x (.int k m)) c h := by
  unfold evIdxS at he
  split at he
  · rename_i h0
    simp only [Option.map_eq_some_iff] at he
    obtain ⟨b,hb,rfl⟩ := he
    cases r
    have hlt := (List.getElem?_eq_some_iff.1 hb)
    obtain ⟨hlt,hbe⟩ := hlt
    have hs:(⟨l.toArray⟩:ByteArray)[m.toNat]? = some b := by
      rw [ByteArray.getElem?_lt' _ _ (by simpa [ByteArray.size] using hlt)]
      simp [← hbe,ByteArray.getElem_eq_getElem_data]
    refine .same H (x := .int .u8 b.toNat) ?_ (.int _ _)
    simp only [Instr.index,asIntOf,Sem.run_bind,Sem.run_pure,Result.andThen_ok,run_underlying hu,h0,if_true,hs]
  · cases he
def evExt (i:Nat):V → Option V
  | .tup vs => vs[i]?
  | _ => none
theorem ext_good {P:Program} {L:Loc} {h:List Ob} {w:World} (H:HRel L h w) {i:Nat} {v c:V} {x:Value} (r:Rep L w v x) (he:evExt i v = some c):Good P L w (Instr.extract x i) c h := by
  cases v <;> simp only [evExt] at he <;> first | (cases he; done) | skip
  cases r with
  | tup vs hl hr =>
    have hlt := (List.getElem?_eq_some_iff.1 he).1
    have hx:vs[i]? = some (vs.getD i undef) := by simp [Array.getD,hl,hlt]
    exact .same H (by simp only [Instr.extract,hx,Sem.run_pure]) (hr _ _ he)
def evLenL (h:List Ob):V → Option Nat
  | .nils => some 0
  | .hsl id _ len => if aliveB h id then some len else none
  | .sl es => some es.length
  | .esl => some 0
  | _ => none
theorem lenL_spec {L:Loc} {h:List Ob} {w:World} (H:HRel L h w) {v:V} {x:Value} {n:Nat} (r:Rep L w v x) (he:evLenL h v = some n):∃ a cap,x = .slice a n cap := by
  unfold evLenL at he
  split at he
  · injection he with he; subst he; cases r; exact ⟨_,_,rfl⟩
  · split at he
    · rename_i ha
      injection he with he; subst he
      obtain ⟨p,hp⟩ := alive_at H ha
      cases r with
      | hsl _ => exact ⟨_,_,rfl⟩
      | hslD _ q => rw [hp] at q; cases q
    · cases he
  · injection he with he; subst he
    cases r <;> exact ⟨_,_,rfl⟩
  · injection he with he; subst he
    cases r; exact ⟨_,_,rfl⟩
  · cases he
theorem lenL_good {P:Program} {L:Loc} {h:List Ob} {w:World} (H:HRel L h w) {t e ty:TypeId} {ts:Array TypeId} {v:V} {x:Value} {n:Nat} (hu:P.underlying t = some (.slice e)) (ht:ts[0]? = some t) (r:Rep L w v x) (he:evLenL h v = some n) :
    Good P L w (Builtin.len_ ts ty #[x]) (.int .i64 n) h := by
  obtain ⟨a,cap,rfl⟩ := lenL_spec H r he
  refine .same H (x := .int .i64 n) ?_ (.int _ _)
  unfold Builtin.len_
  rw [ht]
  simp [run_underlying hu,goInt]
theorem lenS_good {P:Program} {L:Loc} {h:List Ob} {w:World} (H:HRel L h w) {t ty:TypeId} {ts:Array TypeId} {l:List UInt8} {x:Value} (hu:P.underlying t = some .string) (ht:ts[0]? = some t) (r:Rep L w (.str l) x) :
    Good P L w (Builtin.len_ ts ty #[x]) (.int .i64 l.length) h := by
  cases r
  have hs:(⟨l.toArray⟩:ByteArray).size = l.length := by simp [ByteArray.size]
  refine .same H (x := .int .i64 l.length) ?_ (.int _ _)
  unfold Builtin.len_
  rw [ht]
  simp only [Sem.run_bind,List.getElem?_toArray,List.getElem?_cons_zero,run_underlying hu,Result.andThen_ok,Sem.run_pure,goInt,hs]
end Go.Proofs.YtjpjeilfmjdhcaaDoor.E
/- The layer E, part 6: new memory, stores, slices cut. No condition. -/
namespace Go.Proofs.YtjpjeilfmjdhcaaDoor.E
set_option linter.unusedSimpArgs false
set_option linter.unusedVariables false
/-! ### New rows -/
/-- A new block whose cells stand for elements. -/
theorem newRow_good {L:Loc} {h:List Ob} {w:World} (H:HRel L h w) (es:List V) (sz:Nat) (c:Array Value) (ty:TypeId) (fr:Nat × Nat) (hf:okFr fr c.size)
    (hs:∀ (i:Nat) (e:V),es[i]? = some e → flat sz e)
    (hc:∀ (i j:Nat) (e y:V),es[i]? = some e → e.cells[j]? = some y → ∃ v,c[i * sz + j]? = some v ∧ Rep L w y v) :
    HRel (L.push (w.heap.size,0,sz)) (h ++ [.row es sz]) { w with heap := w.heap.push (.cells c ty fr) } ∧ Fr (Own L) w { w with heap := w.heap.push (.cells c ty fr) } ∧ Ext L w (L.push (w.heap.size,0,sz)) := by
  have fr' := fr_alloc (Own L) w (.cells c ty fr)
  have ex := ext_push L w w.heap.size 0 sz (Nat.le_refl _)
  refine ⟨HRel.push H _ _ 0 sz ?_,fr',ex⟩
  refine ⟨w.heap.size,0,c,ty,fr,L.push_new _,?_,hf,hs,fun i j e y hi hj => ?_⟩
  · show (w.heap.push _)[w.heap.size]? = _
    simp
  · obtain ⟨v,g1,g2⟩ := hc i j e y hi hj
    exact ⟨v,by rw [Nat.zero_add]; exact g1,H.step_rep g2 fr' ex⟩
theorem okFr_zero (n:Nat):okFr (0,0) n := ⟨Nat.le_refl _,fun o _ h => by omega⟩
/-- What is laid for a variable. -/
def boxOf (arr:Bool) (v:V):Option (List V × Nat) :=
  if arr then
    match v with
    | .agg cs => if cs.all V.scalar then some (cs,1) else none
    | _ => none
  else
    match v with
    | .tup _ | .junk => none
    | v => if v.cells.all V.scalar then some ([v],v.cells.length) else none
def evBox (arr:Bool) (h:List Ob) (v:V):Option (V × List Ob) :=
  (boxOf arr v).map fun p => (.ptr h.length 0 0,h ++ [.row p.1 p.2])
theorem scalar_cells {v:V} (h:v.scalar = true):v.cells = [v] := by cases v <;> first | rfl | (simp [V.scalar] at h)
theorem box_good {P:Program} {L:Loc} {h h':List Ob} {w:World} (H:HRel L h w) {arr:Bool} {t:TypeId} {v r:V} {x:Value} (rep:Rep L w v x) (he:evBox arr h v = some (r,h')) :
    Good P L w (Instr.box t x) r h' := by
  unfold evBox at he
  simp only [Option.map_eq_some_iff,Prod.mk.injEq] at he
  obtain ⟨⟨es,sz⟩,hb,rfl,rfl⟩ := he
  have go:(∀ (i:Nat) (e:V),es[i]? = some e → flat sz e) → (∀ (i j:Nat) (e y:V),es[i]? = some e → e.cells[j]? = some y → ∃ u,x.cells[i * sz + j]? = some u ∧ Rep L w y u) →
      Good P L w (Instr.box t x) (.ptr h.length 0 0) (h ++ [.row es sz]) := by
    intro h1 h2
    obtain ⟨g1,g2,g3⟩ := newRow_good H es sz x.cells t (0,0) (okFr_zero _) h1 h2
    refine ⟨.pointer (some ⟨w.heap.size,0,none⟩),_,_,rfl,?_,g1,g2,g3⟩
    have := Rep.ptr (L := L.push (w.heap.size,0,sz)) (w := { w with heap := w.heap.push (.cells x.cells t) }) (i := 0) (j := 0) (L.push_new (w.heap.size,0,sz))
    rw [H.len] at this
    simpa using this
  unfold boxOf at hb
  cases arr with
  | true =>
    simp only [if_true] at hb
    split at hb
    · rename_i cs
      split at hb
      · rename_i hall
        injection hb with hb; injection hb with hb1 hb2; subst hb1; subst hb2
        have hsc:∀ (i:Nat) (e:V),cs[i]? = some e → e.scalar = true := fun i e he => List.all_eq_true.1 hall e (List.mem_of_getElem? he)
        cases rep with
        | agg vs hl hr =>
          refine go (fun i e he => by unfold flat; rw [scalar_cells (hsc i e he)]; exact ⟨rfl,by simp [hsc i e he]⟩) (fun i j e y he hy => ?_)
          rw [scalar_cells (hsc i e he)] at hy
          cases j with
          | zero =>
            simp at hy; subst hy
            have hlt := (List.getElem?_eq_some_iff.1 he).1
            refine ⟨vs.getD i undef,?_,hr i e he⟩
            show vs[i * 1 + 0]? = _
            simp [Array.getD,hl,hlt]
          | succ j => simp at hy
      · cases hb
    · cases hb
  | false =>
    simp only [Bool.false_eq_true,if_false] at hb
    have hb':(if v.cells.all V.scalar then some ([v],v.cells.length) else none) = some (es,sz) ∧ (v.scalar = true ∨ ∃ cs,v = .agg cs) := by
      cases v <;> first | exact ⟨hb,.inl rfl⟩ | exact ⟨hb,.inr ⟨_,rfl⟩⟩ | cases hb
    obtain ⟨hb',hv⟩ := hb'
    obtain ⟨hall,rfl,rfl⟩:v.cells.all V.scalar = true ∧ es = [v] ∧ sz = v.cells.length := by
      split at hb'
      · rename_i q; injection hb' with hb'; injection hb' with q1 q2; exact ⟨q,q1.symm,q2.symm⟩
      · cases hb'
    obtain ⟨c1,c2⟩ := rep.cells hv
    refine go (fun i e he => ?_) (fun i j e y he hy => ?_)
    · cases i with
      | zero => simp at he; subst he; exact ⟨rfl,hall⟩
      | succ i => simp at he
    · cases i with
      | zero =>
        simp at he; subst he
        have hlt := (List.getElem?_eq_some_iff.1 hy).1
        refine ⟨x.cells.getD j undef,?_,c2 j y hy⟩
        simp [Array.getD,c1,hlt]
      | succ i => simp at he
theorem alloc_good {P:Program} {L:Loc} {h h':List Ob} {w:World} (H:HRel L h w) {arr:Bool} {t:TypeId} {i:TypeInfo} {z:Value} {v r:V} (hi:P.info? t = some i) (hz:i.zero = some z) (hv:ofZero z = some v)
    (he:evBox arr h v = some (r,h')):Good P L w (Instr.alloc t true (.tuple #[])) r h' := by
  obtain ⟨x,w',L',h1,rest⟩ := box_good (P := P) H (t := t) (ofZero_rep hv) he
  refine ⟨x,w',L',?_,rest⟩
  rw [← h1]
  simp [Instr.alloc,zeroValue,typeInfo,hi,hz,Instr.box]
/-! ### Stores -/
def putCells (e:V) (j:Nat) (cs:List V):V :=
  match e with
  | .agg ds => .agg (ds.take j ++ cs ++ ds.drop (j + cs.length))
  | _ => cs.headD .junk
def wrCells (h:List Ob) (v:V) (cs:List V):Option (List Ob) :=
  match v with
  | .ptr id i j => match h[id]? with
    | some (.row es sz) =>
      if j + cs.length ≤ sz then (es[i]?).map fun e => h.set id (.row (es.set i (putCells e j cs)) sz)
      else if j = 0 ∧ sz = 1 ∧ i + cs.length ≤ es.length then some (h.set id (.row (es.take i ++ cs ++ es.drop (i + cs.length)) 1)) else none
    | _ => none
  | _ => none
def evStore (h:List Ob) (n:Nat) (a v:V):Option (List Ob) :=
  match v with
  | .tup _ | .junk => none
  | v => if v.cells.length = n ∧ v.cells.all V.scalar ∧ 0 < n then wrCells h a v.cells else none
theorem toList_getD_rep {L:Loc} {w:World} {cs:List V} {xs:Array Value} (hl:xs.size = cs.length) (hr:∀ k c,cs[k]? = some c → Rep L w c (xs.getD k undef)) :
    ∀ (k:Nat) (c:V),cs[k]? = some c → ∃ u,xs.toList[k]? = some u ∧ Rep L w c u := by
  intro k c hk
  have hlt := (List.getElem?_eq_some_iff.1 hk).1
  refine ⟨xs.getD k undef,?_,hr k c hk⟩
  simp [Array.getD,hl,hlt]
theorem putCells_length {e:V} {j:Nat} {cs:List V} (h:j + cs.length ≤ e.cells.length) (hs:cs.all V.scalar = true) (h0:0 < cs.length):(putCells e j cs).cells.length = e.cells.length := by
  unfold putCells
  split
  · rename_i ds
    simp [V.cells] at h ⊢
    omega
  · rename_i hne
    have:e.cells = [e] := by cases e <;> first | rfl | exact absurd rfl (hne _)
    rw [this] at h ⊢
    simp only [List.length_singleton] at h ⊢
    obtain ⟨c,rfl⟩:∃ c,cs = [c] := by
      match cs,h,h0 with
      | [c],_,_ => exact ⟨c,rfl⟩
      | [],_,h0 => simp at h0
      | _ :: _ :: _,h,_ => simp at h; omega
    simp only [List.all_cons,List.all_nil,Bool.and_true] at hs
    simp [scalar_cells hs]
theorem putCells_flat {sz:Nat} {e:V} {j:Nat} {cs:List V} (h:j + cs.length ≤ sz) (hs:cs.all V.scalar = true) (h0:0 < cs.length) (he:flat sz e):flat sz (putCells e j cs) := by
  refine ⟨by rw [putCells_length (by rw [he.1]; exact h) hs h0,he.1],?_⟩
  have ha := he.2
  unfold putCells
  split
  · simp only [V.cells,List.all_append,Bool.and_eq_true] at ha ⊢
    exact ⟨⟨List.all_eq_true.2 (fun x hx => List.all_eq_true.1 ha x (List.mem_of_mem_take hx)),hs⟩,List.all_eq_true.2 (fun x hx => List.all_eq_true.1 ha x (List.mem_of_mem_drop hx))⟩
  · match cs,h0,hs with
    | c :: cs,_,hs =>
      simp only [List.all_cons,Bool.and_eq_true] at hs
      simp [scalar_cells hs.1,hs.1]
theorem putCells_get {e:V} {j:Nat} {cs:List V} (h:j + cs.length ≤ e.cells.length) (hs:cs.all V.scalar = true) (h0:0 < cs.length) (k:Nat) (y:V) (hy:(putCells e j cs).cells[k]? = some y) :
    (j ≤ k ∧ k < j + cs.length ∧ cs[k - j]? = some y) ∨ (¬ (j ≤ k ∧ k < j + cs.length) ∧ e.cells[k]? = some y) := by
  unfold putCells at hy
  split at hy
  · rename_i ds
    simp only [V.cells] at h hy ⊢
    by_cases h1:k < j
    · right
      refine ⟨by omega,?_⟩
      rw [List.append_assoc,List.getElem?_append_left (by simp <;> omega),List.getElem?_take,if_pos h1] at hy
      exact hy
    · by_cases h2:k < j + cs.length
      · left
        refine ⟨by omega,h2,?_⟩
        rw [List.append_assoc,List.getElem?_append_right (by simp <;> omega)] at hy
        simp only [List.length_take] at hy
        rw [List.getElem?_append_left (by omega)] at hy
        rw [show min j ds.length = j by omega] at hy
        exact hy
      · right
        refine ⟨by omega,?_⟩
        rw [List.getElem?_append_right (by simp <;> omega)] at hy
        simp only [List.length_append,List.length_take] at hy
        rw [List.getElem?_drop,show min j ds.length = j by omega,show j + cs.length + (k - (j + cs.length)) = k by omega] at hy
        exact hy
  · rename_i hne
    have he:e.cells = [e] := by cases e <;> first | rfl | exact absurd rfl (hne _)
    rw [he] at h
    simp only [List.length_singleton] at h
    obtain ⟨c,rfl⟩:∃ c,cs = [c] := by
      match cs,h,h0 with
      | [c],_,_ => exact ⟨c,rfl⟩
      | [],_,h0 => simp at h0
      | _ :: _ :: _,h,_ => simp at h; omega
    simp only [List.all_cons,List.all_nil,Bool.and_true] at hs
    simp only [List.length_singleton] at h ⊢
    have hj:j = 0 := by omega
    subst hj
    simp only [List.headD_cons,scalar_cells hs] at hy
    cases k with
    | zero => left; exact ⟨by omega,by omega,by simpa using hy⟩
    | succ k => simp at hy
/-- The run of a store of cells into an owned row. -/
theorem wr_good {P:Program} {L:Loc} {h h':List Ob} {w:World} (H:HRel L h w) {v:V} {x:Value} {cs:List V} {us:List Value} (rep:Rep L w v x) (hl:us.length = cs.length)
    (hr:∀ (k:Nat) (c:V),cs[k]? = some c → ∃ u,us[k]? = some u ∧ Rep L w c u) (hs:cs.all V.scalar = true) (h0:0 < cs.length) (he:wrCells h v cs = some h') :
    ∃ a w',x = .pointer (some a) ∧ (storeCells a us).run P w = .ok () w' ∧ HRel L h' w' ∧ Fr (Own L) w w' := by
  have hone:∀ u ∈ us,u.oneCell' = true := by
    intro u hu
    obtain ⟨k,hk⟩ := List.getElem?_of_mem hu
    have hlt := (List.getElem?_eq_some_iff.1 hk).1
    have hc:cs[k]? = some cs[k] := by simp <;> omega
    obtain ⟨u',g1,g2⟩ := hr k _ hc
    rw [hk] at g1; injection g1 with g1; subst g1
    exact g2.one (List.all_eq_true.1 hs _ (List.getElem_mem _))
  unfold wrCells at he
  split at he
  · rename_i id i j
    split at he
    · rename_i es sz hob
      have hid:id < h.length := (List.getElem?_eq_some_iff.1 hob).1
      obtain ⟨b,base,c,e,fr,h1,h2,h3,h4,h5⟩ := H.obs id _ hob
      have hx:x = .pointer (some ⟨b,base + i * sz + j,none⟩) := by
        cases rep with
        | ptr g => rw [h1] at g; injection g with g; injection g with g1 g2; injection g2 with g2 g3; subst g1; subst g2; subst g3; rfl
        | ptrD _ g => rw [h1] at g; cases g
      have hb := (Array.getElem?_eq_some_iff.1 h2).1
      -- whatever is written, if it lies in the block
      have main:∀ (es':List V),base + i * sz + j + us.length ≤ c.size → (∀ (k:Nat) (x:V),es'[k]? = some x → flat sz x) →
          (∀ (a k:Nat) (x y:V),es'[a]? = some x → x.cells[k]? = some y →
            (base + i * sz + j ≤ base + a * sz + k ∧ base + a * sz + k < base + i * sz + j + us.length ∧ cs[base + a * sz + k - (base + i * sz + j)]? = some y) ∨
            (¬ (base + i * sz + j ≤ base + a * sz + k ∧ base + a * sz + k < base + i * sz + j + us.length) ∧ ∃ x',es[a]? = some x' ∧ x'.cells[k]? = some y)) →
          ∃ a w',x = .pointer (some a) ∧ (storeCells a us).run P w = .ok () w' ∧ HRel L (h.set id (.row es' sz)) w' ∧ Fr (Own L) w w' := by
        intro es' hfit hlen hget
        have hrun := E.run_storeCells P b (base + i * sz + j) e fr us 0 c w h2 h3 (by simpa using hfit) hone
        have hfr:Fr (Own L) w (E.put w b (.cells (writeAt c (base + i * sz + j + 0) us) e fr)) := fr_put ⟨id,_,h1⟩ h2 (writeAt_size _ _ _)
        refine ⟨_,_,hx,hrun,?_,hfr⟩
        refine HRel.set H h1 hid (fun ⟨_,_,_,q⟩ => by rw [hob] at q; cases q) hfr (fun k _ hk => put_other hk) ?_
        refine ⟨b,base,_,e,fr,h1,put_same hb,?_,hlen,fun a k x y hx' hy => ?_⟩
        · rw [writeAt_size]; exact h3
        · rw [writeAt_get _ _ _ (by simpa using hfit)]
          rcases hget a k x y hx' hy with ⟨q1,q2,q3⟩ | ⟨q1,x',q2,q3⟩
          · rw [if_pos ⟨by omega,by omega⟩]
            obtain ⟨u,g1,g2⟩ := hr _ y q3
            exact ⟨u,by rw [show base + i * sz + j + 0 = base + i * sz + j from rfl]; exact g1,H.step_rep g2 hfr (Ext.refl _ _)⟩
          · rw [if_neg (by simpa using q1)]
            obtain ⟨v,g1,g2⟩ := h5 a k x' y q2 q3
            exact ⟨v,g1,H.step_rep g2 hfr (Ext.refl _ _)⟩
      split at he
      · rename_i hj
        simp only [Option.map_eq_some_iff] at he
        obtain ⟨y,hy,rfl⟩ := he
        have hyl := (h4 i y hy).1
        have hi:i < es.length := (List.getElem?_eq_some_iff.1 hy).1
        have hpl := putCells_length (e := y) (j := j) (cs := cs) (by omega) hs h0
        refine main _ ?_ (fun k z hz => ?_) (fun a k z u hz hu => ?_)
        · -- the last cell is there
          have hlast:y.cells[j + cs.length - 1]? = some y.cells[j + cs.length - 1] := by simp <;> omega
          obtain ⟨v,g1,_⟩ := h5 i _ y _ hy hlast
          have := (Array.getElem?_eq_some_iff.1 g1).1
          omega
        · by_cases q:k = i
          · subst q
            rw [List.getElem?_set_self hi] at hz
            injection hz with hz; subst hz; exact putCells_flat hj hs h0 (h4 _ y hy)
          · rw [List.getElem?_set_ne (fun e => q e.symm)] at hz; exact h4 k z hz
        · by_cases q:a = i
          · subst q
            rw [List.getElem?_set_self hi] at hz
            injection hz with hz; subst hz
            rcases putCells_get (e := y) (j := j) (cs := cs) (by omega) hs h0 k u hu with ⟨q1,q2,q3⟩ | ⟨q1,q2⟩
            · left; exact ⟨by omega,by omega,by rw [show base + a * sz + k - (base + a * sz + j) = k - j by omega]; exact q3⟩
            · right; exact ⟨by omega,y,hy,q2⟩
          · rw [List.getElem?_set_ne (fun e => q e.symm)] at hz
            have hzl := (h4 a z hz).1
            have hkl := (List.getElem?_eq_some_iff.1 hu).1
            right
            refine ⟨fun hh => ?_,z,hz,hu⟩
            rcases Nat.lt_or_gt_of_ne q with q | q
            · have:(a + 1) * sz ≤ i * sz := Nat.mul_le_mul_right _ q
              rw [Nat.add_mul] at this; omega
            · have:(i + 1) * sz ≤ a * sz := Nat.mul_le_mul_right _ q
              rw [Nat.add_mul] at this; omega
      · split at he
        · rename_i hh
          obtain ⟨rfl,rfl,hin⟩ := hh
          injection he with he; subst he
          have hsc:∀ (k:Nat) (z:V),cs[k]? = some z → z.cells = [z] := fun k z hz => scalar_cells (List.all_eq_true.1 hs z (List.mem_of_getElem? hz))
          have parts:∀ (k:Nat) (z:V),(es.take i ++ cs ++ es.drop (i + cs.length))[k]? = some z → (i ≤ k ∧ k < i + cs.length ∧ cs[k - i]? = some z) ∨ (¬ (i ≤ k ∧ k < i + cs.length) ∧ es[k]? = some z) := by
            intro k z hz
            by_cases c1:k < i
            · right
              rw [List.append_assoc,List.getElem?_append_left (by simp <;> omega),List.getElem?_take,if_pos c1] at hz
              exact ⟨by omega,hz⟩
            · by_cases c2:k < i + cs.length
              · left
                rw [List.append_assoc,List.getElem?_append_right (by simp <;> omega)] at hz
                simp only [List.length_take] at hz
                rw [List.getElem?_append_left (by omega),show min i es.length = i by omega] at hz
                exact ⟨by omega,c2,hz⟩
              · right
                rw [List.getElem?_append_right (by simp <;> omega)] at hz
                simp only [List.length_append,List.length_take] at hz
                rw [List.getElem?_drop,show min i es.length = i by omega,show i + cs.length + (k - (i + cs.length)) = k by omega] at hz
                exact ⟨by omega,hz⟩
          refine main _ ?_ (fun k z hz => ?_) (fun a k z u hz hu => ?_)
          · have hy:es[i + cs.length - 1]? = some es[i + cs.length - 1] := by simp <;> omega
            have hl1 := (h4 _ _ hy).1
            have hlast:(es[i + cs.length - 1]).cells[0]? = some (es[i + cs.length - 1]).cells[0] := by simp <;> omega
            obtain ⟨v,g1,_⟩ := h5 _ 0 _ _ hy hlast
            have := (Array.getElem?_eq_some_iff.1 g1).1
            omega
          · rcases parts k z hz with ⟨_,_,q⟩ | ⟨_,q⟩
            · have hz1 := List.all_eq_true.1 hs z (List.mem_of_getElem? q)
              unfold flat; rw [hsc _ z q]; exact ⟨rfl,by simp [hz1]⟩
            · exact h4 k z q
          · rcases parts a z hz with ⟨q1,q2,q⟩ | ⟨q1,q⟩
            · rw [hsc _ z q] at hu
              cases k with
              | zero =>
                simp at hu; subst hu
                left; exact ⟨by omega,by omega,by rw [show base + a * 1 + 0 - (base + i * 1 + 0) = a - i by omega]; exact q⟩
              | succ k => simp at hu
            · right
              have hzl := (h4 a z q).1
              have hkl := (List.getElem?_eq_some_iff.1 hu).1
              exact ⟨by omega,z,q,hu⟩
        · cases he
    · cases he
  · cases he
theorem store_good {P:Program} {L:Loc} {h h':List Ob} {w:World} (H:HRel L h w) {t:TypeId} {i:TypeInfo} {a v:V} {x y:Value} (hi:P.info? t = some i) (ra:Rep L w a x) (rv:Rep L w v y)
    (he:evStore h i.size a v = some h'):∃ w',(Instr.storeAt t x y).run P w = .ok () w' ∧ HRel L h' w' ∧ Fr (Own L) w w' := by
  unfold evStore at he
  have main:(v.scalar = true ∨ ∃ cs,v = .agg cs) → (if v.cells.length = i.size ∧ v.cells.all V.scalar ∧ 0 < i.size then wrCells h a v.cells else none) = some h' →
      ∃ w',(Instr.storeAt t x y).run P w = .ok () w' ∧ HRel L h' w' ∧ Fr (Own L) w w' := by
    intro hv he
    split at he
    · rename_i hh
      obtain ⟨c1,c2⟩ := rv.cells hv
      obtain ⟨ad,w',e1,e2,e3,e4⟩ := wr_good (P := P) H ra (by simpa using c1) (toList_getD_rep c1 c2) hh.2.1 (by omega) he
      subst e1
      refine ⟨w',?_,e3,e4⟩
      simp only [Instr.storeAt,Instr.sureAddr,storeVar,Sem.run_bind,Sem.run_pure,Result.andThen_ok,run_sizeOf w hi]
      rw [if_neg (by simp [c1,hh.1])]
      simp [e2]
    · cases he
  cases v <;> first | (cases he; done) | exact main (.inl rfl) he | exact main (.inr ⟨_,rfl⟩) he
end Go.Proofs.YtjpjeilfmjdhcaaDoor.E
/- The layer E, part 7: slices and strings cut, appended, copied, made; bytes and strings. No condition. -/
namespace Go.Proofs.YtjpjeilfmjdhcaaDoor.E
set_option linter.unusedSimpArgs false
set_option linter.unusedVariables false
/-! ### Cuts -/
def bndV:Option V → Nat → Option Nat
  | none,d => some d
  | some (.int _ i),_ => if 0 ≤ i then some i.toNat else none
  | _,_ => none
/-- What a bound's value is in the machine. -/
def BRep (L:Loc) (w:World) (o:Option V) (x:Option Value):Prop :=
  match o,x with
  | none,none => True
  | some v,some y => Rep L w v y
  | _,_ => False
theorem run_bound {P:Program} {L:Loc} {w:World} {o:Option V} {x:Option Value} {d n y:Nat} {code:BoundsCode} (h:BRep L w o x) (hb:bndV o d = some n) (hn:o ≠ none → n ≤ y) :
    (o = none ∧ x = none ∧ n = d) ∨ (∃ v,x = some v ∧ (Instr.sliceBound v y code).run P w = .ok n w) := by
  cases o with
  | none => cases x with
    | none => left; simp [bndV] at hb; exact ⟨rfl,rfl,hb.symm⟩
    | some _ => exact h.elim
  | some v => cases x with
    | none => exact h.elim
    | some z =>
      right
      have h:Rep L w v z := h
      have hn := hn (by simp)
      cases v <;> simp [bndV] at hb
      rename_i k i
      obtain ⟨h0,rfl⟩ := hb
      cases h
      refine ⟨_,rfl,?_⟩
      simp only [Instr.sliceBound,asIntOf,Sem.run_bind,Sem.run_pure,Result.andThen_ok]
      rw [if_pos ⟨h0,by omega⟩]
      rfl
theorem run_sliceBounds {P:Program} {L:Loc} {w:World} {isS:Bool} {len cap lo hi m:Nat} {a b c:Option V} {x y z:Option Value} (ha:BRep L w a x) (hb:BRep L w b y) (hc:BRep L w c z)
    (h1:bndV c cap = some m) (h2:bndV b len = some hi) (h3:bndV a 0 = some lo) (hm:m ≤ cap) (hh:hi ≤ m) (hl:lo ≤ hi) (hbc:c ≠ none → b ≠ none) :
    (Instr.sliceBounds isS len cap x y z).run P w = .ok (lo,hi,m) w := by
  have e3:(x = none ∧ lo = 0) ∨ (∃ v,x = some v ∧ ∀ code,(Instr.sliceBound v hi code).run P w = .ok lo w) := by
    cases x with
    | none =>
      rcases run_bound (P := P) (code := .sliceB) ha h3 (fun _ => hl) with ⟨_,_,q⟩ | ⟨v,q,_⟩
      · exact .inl ⟨rfl,q⟩
      · cases q
    | some v =>
      refine .inr ⟨v,rfl,fun code => ?_⟩
      rcases run_bound (P := P) (code := code) ha h3 (fun _ => hl) with ⟨_,q,_⟩ | ⟨v',q,e⟩
      · cases q
      · injection q with q; subst q; exact e
  rcases run_bound (P := P) (code := if isS then .slice3Acap else .slice3Alen) hc h1 (fun _ => hm) with ⟨hcn,rfl,rfl⟩ | ⟨v,rfl,e1⟩
  · rcases run_bound (P := P) (code := if isS then .sliceAcap else .sliceAlen) hb h2 (fun _ => hh) with ⟨_,rfl,rfl⟩ | ⟨u,rfl,e2⟩
    · rcases e3 with ⟨rfl,rfl⟩ | ⟨v',rfl,e3⟩
      · simp only [Instr.sliceBounds,Sem.run_bind,Sem.run_pure,Result.andThen_ok]
      · simp only [Instr.sliceBounds,Sem.run_bind,Sem.run_pure,Result.andThen_ok,e3]
    · rcases e3 with ⟨rfl,rfl⟩ | ⟨v',rfl,e3⟩
      · simp only [Instr.sliceBounds,Sem.run_bind,Sem.run_pure,Result.andThen_ok,e2]
      · simp only [Instr.sliceBounds,Sem.run_bind,Sem.run_pure,Result.andThen_ok,e2,e3]
  · have hbn:b ≠ none := hbc (by intro e; subst e; exact hc.elim)
    rcases run_bound (P := P) (code := .slice3B) hb h2 (fun _ => hh) with ⟨q,_⟩ | ⟨u,rfl,e2⟩
    · exact absurd q hbn
    · rcases e3 with ⟨rfl,rfl⟩ | ⟨v',rfl,e3⟩
      · simp only [Instr.sliceBounds,Sem.run_bind,Sem.run_pure,Result.andThen_ok,e1,e2]
      · simp only [Instr.sliceBounds,Sem.run_bind,Sem.run_pure,Result.andThen_ok,e1,e2,e3]
def evSlcS (l:List UInt8) (a b:Option V):Option V :=
  match bndV a 0,bndV b l.length with
  | some lo,some hi => if lo ≤ hi ∧ hi ≤ l.length then some (.str ((l.drop lo).take (hi - lo))) else none
  | _,_ => none
theorem slcS_good {P:Program} {L:Loc} {h:List Ob} {w:World} (H:HRel L h w) {t:TypeId} {l:List UInt8} {x:Value} {a b:Option V} {y z:Option Value} {c:V} (hu:P.underlying t = some .string)
    (r:Rep L w (.str l) x) (ha:BRep L w a y) (hb:BRep L w b z) (he:evSlcS l a b = some c):Good P L w (Instr.sliceAt t x y z none) c h := by
  unfold evSlcS at he
  split at he
  · rename_i lo hi h1 h2
    split at he
    · rename_i hle
      injection he with he; subst he
      cases r
      have hs:(⟨l.toArray⟩:ByteArray).size = l.length := by simp [ByteArray.size]
      have hb' := run_sliceBounds (P := P) (isS := false) (len := l.length) (cap := l.length) (m := l.length) (c := none) (z := none) ha hb trivial rfl h2 h1 (Nat.le_refl _) hle.2 hle.1 (fun h => absurd rfl h)
      refine .same H (x := .string ⟨((l.drop lo).take (hi - lo)).toArray⟩) ?_ (.str _)
      have he:(⟨l.toArray⟩:ByteArray).extract lo hi = ⟨((l.drop lo).take (hi - lo)).toArray⟩ := by
        have := Lib.extract_data ⟨l.toArray⟩ lo hi
        rw [← Go.Joins.bytes_eta ((⟨l.toArray⟩:ByteArray).extract lo hi),this]
      simp only [Instr.sliceAt,Instr.slice,Sem.run_bind,run_underlying hu,Result.andThen_ok,hs,hb',Sem.run_pure,Option.isSome_none,Bool.false_eq_true,if_false,he]
    · cases he
  · cases he
def evSlcL (h:List Ob) (v:V) (a b c:Option V):Option V :=
  match v with
  | .nils => match bndV a 0,bndV b 0,bndV c 0 with
    | some 0,some 0,some 0 => if c.isSome && b.isNone then none else some .nils
    | _,_,_ => none
  | .esl => match bndV a 0,bndV b 0,bndV c 0 with
    | some 0,some 0,some 0 => if c.isSome && b.isNone then none else some .esl
    | _,_,_ => none
  | .hsl id off len => if aliveB h id then
      match bndV a 0,bndV b len with
      | some lo,some hi => if lo ≤ hi ∧ hi ≤ len then
          match c with
          | none => if lo = hi ∧ 0 < lo then some (.sl []) else some (.hsl id (off + lo) (hi - lo))
          | some (.int _ m) => if b.isSome ∧ lo = hi ∧ m = hi then some .esl else none
          | _ => none
        else none
      | _,_ => none
    else none
  | .sl es => match bndV a 0,bndV b es.length with
    | some lo,some hi => if lo ≤ hi ∧ hi ≤ es.length then
        match c with
        | none => some (.sl ((es.drop lo).take (hi - lo)))
        | some (.int _ m) => if b.isSome ∧ lo = hi ∧ m = hi then some .esl else none
        | _ => none
      else none
    | _,_ => none
  | _ => none
theorem slcL_good {P:Program} {L:Loc} {h:List Ob} {w:World} (H:HRel L h w) {t e:TypeId} {i:TypeInfo} {v:V} {x:Value} {a b c:Option V} {y z u:Option Value} {r:V} (hu:P.underlying t = some (.slice e)) (hinf:P.info? e = some i)
    (hrow:∀ id off len,v = .hsl id off len → ∃ es,h[id]? = some (.row es i.size)) (hel:∀ es,v = .sl es → ∀ (k:Nat) (e:V),es[k]? = some e → e.cells.length = i.size)
    (rep:Rep L w v x) (ha:BRep L w a y) (hb:BRep L w b z) (hc:BRep L w c u) (he:evSlcL h v a b c = some r):Good P L w (Instr.sliceAt t x y z u) r h := by
  have run:∀ (ad:Option Addr) (len cap lo hi m:Nat),x = .slice ad len cap → (Instr.sliceBounds true len cap y z u).run P w = .ok (lo,hi,m) w →
      (Instr.sliceAt t x y z u).run P w = .ok (.slice (if m = lo then ad else ad.map (·.add (lo * i.size))) (hi - lo) (m - lo)) w := by
    intro ad len cap lo hi m hx hr
    subst hx
    simp only [Instr.sliceAt,Instr.slice,Sem.run_bind,run_underlying hu,Result.andThen_ok,hr,run_sizeOf w hinf,Sem.run_pure]
  unfold evSlcL at he
  split at he
  · split at he
    · rename_i h1 h2 h3
      split at he
      · cases he
      · rename_i hcb
        injection he with he; subst he
        cases rep
        have hr := run_sliceBounds (P := P) (isS := true) (len := 0) (cap := 0) ha hb hc h3 h2 h1 (Nat.le_refl _) (Nat.le_refl _) (Nat.le_refl _) (fun q q' => hcb (by subst q'; cases c <;> simp at q ⊢))
        exact .same H (run none 0 0 0 0 0 rfl hr) .nils
    · cases he
  · split at he
    · rename_i h1 h2 h3
      split at he
      · cases he
      · rename_i hcb
        injection he with he; subst he
        cases rep
        have hr := run_sliceBounds (P := P) (isS := true) (len := 0) (cap := 0) ha hb hc h3 h2 h1 (Nat.le_refl _) (Nat.le_refl _) (Nat.le_refl _) (fun q q' => hcb (by subst q'; cases c <;> simp at q ⊢))
        exact .same H (run _ 0 0 0 0 0 rfl hr) (by rw [if_pos rfl]; exact .esl _)
    · cases he
  · rename_i id off len
    split at he
    · rename_i hal
      obtain ⟨p,hp⟩ := alive_at H hal
      obtain ⟨es,hob⟩ := hrow _ _ _ rfl
      obtain ⟨b0,base,cc,ee,fr,g1,g2,g3,g4,g5⟩ := H.obs id _ hob
      split at he
      · rename_i lo hi h1 h2
        split at he
        · rename_i hle
          cases rep with
          | @hsl _ _ _ cap b1 base1 sz g hcap hz =>
            rw [g1] at g; injection g with g; injection g with q1 q2; injection q2 with q2 q3; subst q1; subst q2; subst q3
            split at he
            · -- no third index
              cases u with
              | some _ => exact hc.elim
              | none =>
                have hr := run_sliceBounds (P := P) (isS := true) (len := len) (cap := cap) (m := cap) (c := none) (z := none) ha hb trivial rfl h2 h1 (Nat.le_refl _) (by omega) hle.1 (fun q => absurd rfl q)
                have rr := run _ len cap lo hi cap rfl hr
                split at he
                · rename_i hlo
                  injection he with he; subst he
                  refine .same H rr ?_
                  rw [show hi - lo = 0 by omega]
                  split <;> exact .sl0 _ _
                · rename_i hlo
                  injection he with he; subst he
                  refine .same H rr ?_
                  have e:(if cap = lo then some (⟨b0,base + off * i.size,none⟩:Addr) else (some (⟨b0,base + off * i.size,none⟩:Addr)).map (·.add (lo * i.size))) = some ⟨b0,base + (off + lo) * i.size,none⟩ := by
                    split
                    · have:lo = 0 := by omega
                      subst this; rfl
                    · simp only [Option.map_some,addr_add,Nat.add_mul,Nat.add_assoc]
                  rw [e]
                  refine .hsl g1 (by omega) ?_
                  rw [show off + lo + (cap - lo) = off + cap by omega]
                  exact hz
            · rename_i k m
              split at he
              · rename_i hh
                injection he with he; subst he
                obtain ⟨hbs,rfl,rfl⟩ := hh
                have h3:bndV (some (.int k ((lo:Nat):Int))) cap = some lo := by simp [bndV]
                have hr := run_sliceBounds (P := P) (isS := true) (len := len) (cap := cap) ha hb hc h3 h2 h1 (by omega) (Nat.le_refl _) (Nat.le_refl _) (fun _ q => by rw [q] at hbs; cases hbs)
                refine .same H (run _ len cap lo lo lo rfl hr) ?_
                rw [if_pos rfl,Nat.sub_self]
                exact .esl _
              · cases he
            · cases he
          | hslD _ g => rw [hp] at g; cases g
        · cases he
      · cases he
    · cases he
  · rename_i es
    split at he
    · rename_i lo hi h1 h2
      split at he
      · rename_i hle
        have key:∃ ad cap,x = .slice (some ad) es.length cap ∧ es.length ≤ cap ∧ ∀ m,m ≤ cap → (m = lo → lo = hi) → Rep L w (.sl ((es.drop lo).take (hi - lo))) (.slice (if m = lo then some ad else (some ad).map (·.add (lo * i.size))) (hi - lo) (m - lo)) ∨ m < hi := by
          cases rep with
          | @sl _ sz b0 o cap f ho hbb hcap hs hcc hr =>
            refine ⟨⟨b0,o,none⟩,cap,rfl,hcap,fun m hm hml => ?_⟩
            rcases Nat.lt_or_ge m hi with q | q
            · exact .inr q
            · left
              have hlen:((es.drop lo).take (hi - lo)).length = hi - lo := by simp <;> omega
              by_cases hz:hi - lo = 0
              · have e0:(es.drop lo).take (hi - lo) = [] := by rw [hz]; rfl
                rw [e0,hz]
                split <;> exact .sl0 _ _
              · rw [if_neg (fun q => by have := hml q; omega)]
                simp only [Option.map_some,addr_add]
                have hlt:lo < es.length := by omega
                have hsz:sz = i.size := by
                  have g:es[lo]? = some es[lo] := by simp
                  rw [← (hs lo _ g).1,hel _ rfl lo _ g]
                subst hsz
                have hget:∀ (k:Nat) (e:V),((es.drop lo).take (hi - lo))[k]? = some e → es[lo + k]? = some e := by
                  intro k e hk
                  rw [List.getElem?_take] at hk
                  split at hk
                  · rw [List.getElem?_drop] at hk; exact hk
                  · cases hk
                have := Rep.sl (L := L) (w := w) (es := (es.drop lo).take (hi - lo)) (sz := i.size) (b := b0) (o := o + lo * i.size) (cap := m - lo) (fun a j => f (lo + a) j) ho hbb (by rw [hlen]; omega) (fun k e hk => hs _ e (hget k e hk))
                  (fun a j e c h1 h2 => by
                    have := hcc _ j e c (hget a e h1) h2
                    rw [Nat.add_mul] at this
                    rw [show o + lo * i.size + a * i.size + j = o + (lo * i.size + a * i.size) + j by omega]; exact this)
                  (fun a j e c h1 h2 => hr _ j e c (hget a e h1) h2)
                rwa [hlen] at this
          | sl0 a cap =>
            refine ⟨a,cap,rfl,Nat.zero_le _,fun m hm hml => .inl ?_⟩
            have hz:hi = 0 := by have := hle.2; simpa using this
            have hz':lo = 0 := by omega
            subst hz; subst hz'
            simp only [List.drop_nil,List.take_nil]
            split <;> exact .sl0 _ _
        obtain ⟨ad,cap,rfl,hcap,hk⟩ := key
        split at he
        · cases u with
          | some _ => exact hc.elim
          | none =>
            injection he with he; subst he
            have hr := run_sliceBounds (P := P) (isS := true) (len := es.length) (cap := cap) (m := cap) (c := none) (z := none) ha hb trivial rfl h2 h1 (Nat.le_refl _) (by omega) hle.1 (fun q => absurd rfl q)
            refine .same H (run _ _ cap lo hi cap rfl hr) ?_
            rcases hk cap (Nat.le_refl _) (fun q => by omega) with q | q
            · exact q
            · omega
        · rename_i k m
          split at he
          · rename_i hh
            injection he with he; subst he
            obtain ⟨hbs,rfl,rfl⟩ := hh
            have h3:bndV (some (.int k ((lo:Nat):Int))) cap = some lo := by simp [bndV]
            have hr := run_sliceBounds (P := P) (isS := true) (len := es.length) (cap := cap) ha hb hc h3 h2 h1 (by omega) (Nat.le_refl _) (Nat.le_refl _) (fun _ q => by rw [q] at hbs; cases hbs)
            refine .same H (run _ _ cap lo lo lo rfl hr) ?_
            rw [if_pos rfl,Nat.sub_self]
            exact .esl _
          · cases he
        · cases he
      · cases he
    · cases he
  · cases he
/-- A slice of an array's variable (n elements). -/
def evSlcA (h:List Ob) (n sz:Nat) (v:V) (a b:Option V):Option V :=
  match v with
  | .ptr id i j => match h[id]? with
    | some (.row es s) => match bndV a 0,bndV b n with
      | some lo,some hi => if s = sz ∧ j = 0 ∧ i + n ≤ es.length ∧ 0 < n ∧ lo ≤ hi ∧ hi ≤ n then
          (if lo = hi ∧ 0 < lo then some (.sl []) else some (.hsl id (i + lo) (hi - lo))) else none
      | _,_ => none
    | _ => none
  | _ => none
theorem row_fits {L:Loc} {h:List Ob} {w:World} (H:HRel L h w) {id b base sz:Nat} {es:List V} (hob:h[id]? = some (.row es sz)) (hat:L.at_ id = some (b,base,sz)) {n:Nat} (hn:n ≤ es.length) (h0:0 < n) (hs:0 < sz) :
    base + n * sz ≤ bsz w b := by
  obtain ⟨b0,base0,c,e,fr,h1,h2,h3,h4,h5⟩ := H.obs id _ hob
  rw [hat] at h1; injection h1 with h1; injection h1 with q1 q2; injection q2 with q2 q3; subst q1; subst q2
  have hy:es[n - 1]? = some es[n - 1] := by simp <;> omega
  have hl := (h4 _ _ hy).1
  have hz:(es[n - 1]).cells[sz - 1]? = some (es[n - 1]).cells[sz - 1] := by simp <;> omega
  obtain ⟨v,g1,_⟩ := h5 _ _ _ _ hy hz
  have := (Array.getElem?_eq_some_iff.1 g1).1
  rw [bsz_row h2]
  have e:n * sz = (n - 1) * sz + sz := by rw [← Nat.succ_mul]; congr 1; omega
  omega
theorem slcA_good {P:Program} {L:Loc} {h:List Ob} {w:World} (H:HRel L h w) {t e:TypeId} {n:Nat} {i:TypeInfo} {v:V} {x:Value} {a b:Option V} {y z:Option Value} {r:V} (hu:P.underlying t = some (.array n e)) (hinf:P.info? e = some i) (hs:0 < i.size)
    (rep:Rep L w v x) (ha:BRep L w a y) (hb:BRep L w b z) (he:evSlcA h n i.size v a b = some r):Good P L w (Instr.sliceAt t x y z none) r h := by
  unfold evSlcA at he
  split at he
  · rename_i id k j
    split at he
    · rename_i es s hob
      obtain ⟨b0,base,c,ee,fr,h1,h2,h3,h4,h5⟩ := H.obs id _ hob
      have hx:x = .pointer (some ⟨b0,base + k * s + j,none⟩) := by
        cases rep with
        | ptr g => rw [h1] at g; injection g with g; injection g with g1 g2; injection g2 with g2 g3; subst g1; subst g2; subst g3; rfl
        | ptrD _ g => rw [h1] at g; cases g
      split at he
      · rename_i lo hi g1 g2
        split at he
        · rename_i hh
          obtain ⟨rfl,rfl,hin,h0,hle,hhn⟩ := hh
          have hr := run_sliceBounds (P := P) (isS := false) (len := n) (cap := n) (m := n) (c := none) (z := none) ha hb trivial rfl g2 g1 (Nat.le_refl _) hhn hle (fun q => absurd rfl q)
          have run:(Instr.sliceAt t x y z none).run P w = .ok (.slice (some (if n = lo then ⟨b0,base + k * i.size,none⟩ else ⟨b0,base + k * i.size + lo * i.size,none⟩)) (hi - lo) (n - lo)) w := by
            subst hx
            simp only [Instr.sliceAt,Sem.run_bind,run_underlying hu,Result.andThen_ok,Instr.sureAddr,Sem.run_pure,hr,run_sizeOf w hinf,Nat.add_zero,addr_add]
          split at he
          · injection he with he; subst he
            refine .same H run ?_
            rw [show hi - lo = 0 by omega]
            exact .sl0 _ _
          · rename_i hlo
            injection he with he; subst he
            refine .same H run ?_
            have e:(if n = lo then (⟨b0,base + k * i.size,none⟩:Addr) else ⟨b0,base + k * i.size + lo * i.size,none⟩) = ⟨b0,base + (k + lo) * i.size,none⟩ := by
              split
              · have:lo = 0 := by omega
                subst this; rfl
              · rw [Nat.add_mul,Nat.add_assoc]
            rw [e]
            refine .hsl h1 (by omega) ?_
            have := row_fits H hob h1 hin (by omega) hs
            rw [show k + lo + (n - lo) = k + n by omega]
            exact this
        · cases he
      · cases he
    · cases he
  · cases he
end Go.Proofs.YtjpjeilfmjdhcaaDoor.E
/- The layer E, part 8: slices appended, copied, made; bytes and strings; composite values. No condition. -/
namespace Go.Proofs.YtjpjeilfmjdhcaaDoor.E
set_option linter.unusedSimpArgs false
set_option linter.unusedVariables false
mutual
def V.beq:V → V → Bool
  | .int k n,.int k' n' => decide (k = k') && decide (n = n')
  | .bool b,.bool b' => decide (b = b')
  | .str l,.str l' => decide (l = l')
  | .nilp,.nilp => true
  | .ptr a b c,.ptr a' b' c' => decide (a = a') && decide (b = b') && decide (c = c')
  | .ref e j,.ref e' j' => V.beq e e' && decide (j = j')
  | .nils,.nils => true
  | .hsl a b c,.hsl a' b' c' => decide (a = a') && decide (b = b') && decide (c = c')
  | .sl es,.sl es' => V.beqs es es'
  | .esl,.esl => true
  | .nilm,.nilm => true
  | .mp i,.mp i' => decide (i = i')
  | .fn f cs,.fn f' cs' => decide (f = f') && V.beqs cs cs'
  | .bm f cs,.bm f' cs' => decide (f = f') && V.beqs cs cs'
  | .nilf,.nilf => true
  | .agg cs,.agg cs' => V.beqs cs cs'
  | .tup cs,.tup cs' => V.beqs cs cs'
  | .junk,.junk => true
  | _,_ => false
def V.beqs:List V → List V → Bool
  | [],[] => true
  | x :: xs,y :: ys => V.beq x y && V.beqs xs ys
  | _,_ => false
end
mutual
theorem V.beq_eq:∀ x y:V,V.beq x y = true → x = y
  | .int k n,y,h => by cases y <;> simp_all [V.beq]
  | .bool b,y,h => by cases y <;> simp_all [V.beq]
  | .str l,y,h => by cases y <;> simp_all [V.beq]
  | .nilp,y,h => by cases y <;> simp_all [V.beq]
  | .ptr a b c,y,h => by cases y <;> simp_all [V.beq]
  | .ref e j,y,h => by
    cases y <;> simp [V.beq] at h
    obtain ⟨h1,rfl⟩ := h
    rw [V.beq_eq _ _ h1]
  | .nils,y,h => by cases y <;> simp_all [V.beq]
  | .hsl a b c,y,h => by cases y <;> simp_all [V.beq]
  | .sl es,y,h => by cases y <;> simp [V.beq] at h; rw [V.beqs_eq _ _ h]
  | .esl,y,h => by cases y <;> simp_all [V.beq]
  | .nilm,y,h => by cases y <;> simp_all [V.beq]
  | .mp i,y,h => by cases y <;> simp_all [V.beq]
  | .fn f cs,y,h => by
    cases y <;> simp [V.beq] at h
    obtain ⟨rfl,h1⟩ := h
    rw [V.beqs_eq _ _ h1]
  | .bm f cs,y,h => by
    cases y <;> simp [V.beq] at h
    obtain ⟨rfl,h1⟩ := h
    rw [V.beqs_eq _ _ h1]
  | .nilf,y,h => by cases y <;> simp_all [V.beq]
  | .agg cs,y,h => by cases y <;> simp [V.beq] at h; rw [V.beqs_eq _ _ h]
  | .tup cs,y,h => by cases y <;> simp [V.beq] at h; rw [V.beqs_eq _ _ h]
  | .junk,y,h => by cases y <;> simp_all [V.beq]
theorem V.beqs_eq:∀ x y:List V,V.beqs x y = true → x = y
  | [],y,h => by cases y <;> simp_all [V.beqs]
  | x :: xs,y,h => by
    cases y <;> simp [V.beqs] at h
    obtain ⟨h1,h2⟩ := h
    rw [V.beq_eq _ _ h1,V.beqs_eq _ _ h2]
end
def headOk (sz:Nat) (es:List V):Bool := (es.head?.map (·.cells.length)).getD sz == sz
theorem headOk_spec {L:Loc} {w:World} {es:List V} {x:Value} {sz:Nat} (rep:Rep L w (.sl es) x) (h:headOk sz es = true):∀ (k:Nat) (e:V),es[k]? = some e → flat sz e := by
  cases rep with
  | @sl _ s b o cap f ho hb hcap hs hc hr =>
    intro k e hk
    cases es with
    | nil => simp at hk
    | cons y ys =>
      have h0 := (hs 0 y (by simp)).1
      simp [headOk] at h
      have := hs k e hk
      rw [← h0,h] at this
      exact this
  | sl0 a cap => intro k e hk; simp at hk
/-- A slice's elements (a string's are its bytes). -/
def conts (h:List Ob) (sz:Nat):V → Option (List V)
  | .nils => some []
  | .esl => some []
  | .sl es => if headOk sz es then some es else none
  | .hsl id off len => match h[id]? with
    | some (.row es s) => if s = sz ∧ off + len ≤ es.length then some ((es.drop off).take len) else none
    | _ => none
  | .str l => if sz = 1 then some (l.map fun b => .int .u8 b.toNat) else none
  | _ => none
theorem mul_le_of_lt {a n sz j:Nat} (h:a < n) (hj:j < sz):a * sz + j < n * sz := by
  have:(a + 1) * sz ≤ n * sz := Nat.mul_le_mul_right _ h
  rw [Nat.add_mul] at this
  omega
/-- What is read of a slice that is appended or copied. -/
theorem conts_spec {P:Program} {L:Loc} {h:List Ob} {w:World} (H:HRel L h w) {sz:Nat} {v:V} {x:Value} {es:List V} (rep:Rep L w v x) (he:conts h sz v = some es) :
    (∀ w',(Builtin.lenOf x).run P w' = .ok es.length w') ∧ (∀ (k:Nat) (e:V),es[k]? = some e → flat sz e) ∧
    ∃ f:Nat → Value,(∀ n w',n ≤ es.length → w'.heap = w.heap → (Builtin.firstCells sz n x).run P w' = .ok ((List.range (n * sz)).map f).toArray w') ∧
      ∀ (i j:Nat) (e y:V),es[i]? = some e → e.cells[j]? = some y → Rep L w y (f (i * sz + j)) := by
  -- the run over a block
  have runs:∀ (b o len cap:Nat) (f:Nat → Value),(∀ k,k < len * sz → w.cell? ⟨b,o + k,none⟩ = some (f k)) → ∀ n w',n ≤ len → w'.heap = w.heap → (Builtin.firstCells sz n (.slice (some ⟨b,o,none⟩) len cap)).run P w' = .ok ((List.range (n * sz)).map f).toArray w' := by
    intro b o len cap f hf n w' hn hw
    simp only [Builtin.firstCells]
    refine E.run_loadCells P w' b o (n * sz) f (fun k hk => ?_)
    rw [cell?_of_heap (w := w) (by rw [hw])]
    exact hf k (Nat.lt_of_lt_of_le hk (Nat.mul_le_mul_right _ hn))
  unfold conts at he
  split at he
  · injection he with he; subst he; cases rep
    refine ⟨fun w' => by simp [Builtin.lenOf],fun k e hk => by simp at hk,fun _ => undef,fun n w' hn hw => ?_,fun i j e y h1 => by simp at h1⟩
    obtain rfl:n = 0 := by simpa using hn
    simp [Builtin.firstCells]
  · injection he with he; subst he; cases rep
    refine ⟨fun w' => by simp [Builtin.lenOf],fun k e hk => by simp at hk,fun _ => undef,fun n w' hn hw => ?_,fun i j e y h1 => by simp at h1⟩
    obtain rfl:n = 0 := by simpa using hn
    simp [Builtin.firstCells,Go.loadCells,loadCellsFrom]
  · rename_i es0
    split at he
    · rename_i hh
      obtain rfl:es0 = es := by injection he
      clear he
      have hfl := headOk_spec rep hh
      cases rep with
      | @sl _ s b o cap f ho hb hcap hs hc hr =>
        refine ⟨fun w' => by simp [Builtin.lenOf],hfl,fun k => f (k / sz) (k % sz),?_,fun i j e y h1 h2 => ?_⟩
        · refine runs b o es0.length cap _ (fun k hk => ?_)
          have hsz:0 < sz := by
            rcases Nat.eq_zero_or_pos sz with q | q
            · subst q; simp at hk
            · exact q
          have hi:k / sz < es0.length := Nat.div_lt_of_lt_mul (by rw [Nat.mul_comm]; exact hk)
          have h1:es0[k / sz]? = some es0[k / sz] := by simp [hi]
          have hl := (hfl _ _ h1).1
          have hsz':s = sz := by rw [← (hs _ _ h1).1,hl]
          have hj:k % sz < sz := Nat.mod_lt _ hsz
          have h2:(es0[k / sz]).cells[k % sz]? = some (es0[k / sz]).cells[k % sz] := by simp <;> omega
          have := hc _ _ _ _ h1 h2
          rw [hsz'] at this
          have hdm := Nat.div_add_mod k sz
          rw [show o + k = o + k / sz * sz + k % sz by rw [Nat.mul_comm (k / sz) sz]; omega]
          exact this
        · have hjl := (List.getElem?_eq_some_iff.1 h2).1
          rw [(hfl _ _ h1).1] at hjl
          have e1:(i * sz + j) / sz = i := by rw [Nat.mul_comm,Nat.mul_add_div (by omega),Nat.div_eq_of_lt hjl]; rfl
          have e2:(i * sz + j) % sz = j := by rw [Nat.mul_comm,Nat.mul_add_mod,Nat.mod_eq_of_lt hjl]
          show Rep L w y (f ((i * sz + j) / sz) ((i * sz + j) % sz))
          rw [e1,e2]
          exact hr _ _ _ _ h1 h2
      | sl0 a cap =>
        refine ⟨fun w' => by simp [Builtin.lenOf],fun k e hk => by simp at hk,fun _ => undef,fun n w' hn hw => ?_,fun i j e y h1 => by simp at h1⟩
        obtain rfl:n = 0 := by simpa using hn
        simp [Builtin.firstCells,Go.loadCells,loadCellsFrom]
    · cases he
  · rename_i id off len
    split at he
    · rename_i es0 s hob
      split at he
      · rename_i hh
        obtain ⟨rfl,hin⟩ := hh
        injection he with he; subst he
        obtain ⟨b,base,c,e,fr,h1,h2,h3,h4,h5⟩ := H.obs id _ hob
        have hget:∀ (k:Nat) (e:V),((es0.drop off).take len)[k]? = some e → es0[off + k]? = some e := by
          intro k e hk
          rw [List.getElem?_take] at hk
          split at hk
          · rw [List.getElem?_drop] at hk; exact hk
          · cases hk
        have hlen:((es0.drop off).take len).length = len := by simp <;> omega
        have hfl:∀ (k:Nat) (e:V),((es0.drop off).take len)[k]? = some e → flat s e := fun k e hk => h4 _ e (hget k e hk)
        cases rep with
        | @hsl _ _ _ cap b1 base1 s1 g hcap hz =>
          rw [h1] at g; injection g with g; injection g with q1 q2; injection q2 with q2 q3; subst q1; subst q2; subst q3
          refine ⟨fun w' => by simp [Builtin.lenOf,hlen],hfl,fun k => (c[base + off * s + k]?).getD undef,?_,fun i j e y h1' h2' => ?_⟩
          · rw [hlen]
            refine runs b _ len cap _ (fun k hk => ?_)
            have hsz:0 < s := by
              rcases Nat.eq_zero_or_pos s with q | q
              · subst q; simp at hk
              · exact q
            have hi:k / s < len := Nat.div_lt_of_lt_mul (by rw [Nat.mul_comm]; exact hk)
            have g1:es0[off + k / s]? = some es0[off + k / s] := by simp <;> omega
            have hl := (h4 _ _ g1).1
            have hj:k % s < s := Nat.mod_lt _ hsz
            have g2:(es0[off + k / s]).cells[k % s]? = some (es0[off + k / s]).cells[k % s] := by simp <;> omega
            obtain ⟨v,g3,_⟩ := h5 _ _ _ _ g1 g2
            have hdm := Nat.div_add_mod k s
            have e1:base + off * s + k = base + (off + k / s) * s + k % s := by rw [Nat.add_mul,Nat.mul_comm (k / s) s]; omega
            rw [cell?_row h2]
            show _ = some ((c[base + off * s + k]?).getD undef)
            rw [e1,g3]; rfl
          · obtain ⟨v,g3,g4⟩ := h5 _ _ _ _ (hget i e h1') h2'
            have e1:base + off * s + (i * s + j) = base + (off + i) * s + j := by rw [Nat.add_mul]; omega
            show Rep L w y ((c[base + off * s + (i * s + j)]?).getD undef)
            rw [e1,g3]; exact g4
        | hslD _ g => rw [h1] at g; cases g
      · cases he
    · cases he
  · rename_i l
    split at he
    · rename_i h1
      subst h1
      injection he with he; subst he
      cases rep
      have hs:(⟨l.toArray⟩:ByteArray).size = l.length := by simp [ByteArray.size]
      refine ⟨fun w' => by simp [Builtin.lenOf,hs],fun k e hk => ?_,fun k => .int .u8 ((l.getD k 0).toNat:Int),fun n w' hn hw => ?_,fun i j e y h1 h2 => ?_⟩
      · simp only [List.getElem?_map,Option.map_eq_some_iff] at hk
        obtain ⟨b,_,rfl⟩ := hk
        exact ⟨rfl,rfl⟩
      · simp only [List.length_map] at hn
        simp only [Builtin.firstCells,Sem.run_pure,Nat.mul_one]
        congr 1
        apply Array.ext'
        apply List.ext_getElem?
        intro k
        have := Lib.extract_data ⟨l.toArray⟩ 0 n
        simp only [List.drop_zero,Nat.sub_zero] at this
        simp only [Array.toList_map,this,List.getElem?_map,List.getElem?_take,List.getElem?_range]
        by_cases hk:k < n
        · rw [if_pos hk]
          have hkl:k < l.length := by omega
          simp [hk,List.getD,hkl]
        · rw [if_neg hk]
          simp [hk]
      · simp only [List.getElem?_map,Option.map_eq_some_iff] at h1
        obtain ⟨b,hb,rfl⟩ := h1
        cases j with
        | zero =>
          simp [V.cells] at h2; subst h2
          simp only [Nat.mul_one,Nat.add_zero,List.getD,hb,Option.getD_some]
          exact .int _ _
        | succ j => simp [V.cells] at h2
    · cases he
  · cases he
/-- What is read of a slice of a block of its own. -/
theorem hsl_spec {P:Program} {L:Loc} {w:World} {s id off len b base:Nat} {es0:List V} {x:Value} {c:Array Value} {e:TypeId} {fr:Nat × Nat} (rep:Rep L w (.hsl id off len) x) (h1:L.at_ id = some (b,base,s)) (h2:w.heap[b]? = some (.cells c e fr))
    (h4:∀ (i:Nat) (x:V),es0[i]? = some x → flat s x) (h5:∀ (i j:Nat) (x y:V),es0[i]? = some x → x.cells[j]? = some y → ∃ v,c[base + i * s + j]? = some v ∧ Rep L w y v) (hin:off + len ≤ es0.length) :
    (∀ w',(Builtin.lenOf x).run P w' = .ok ((es0.drop off).take len).length w') ∧ (∀ (k:Nat) (e:V),((es0.drop off).take len)[k]? = some e → flat s e) ∧
    ∃ f:Nat → Value,(∀ n w',n ≤ ((es0.drop off).take len).length → w'.heap = w.heap → (Builtin.firstCells s n x).run P w' = .ok ((List.range (n * s)).map f).toArray w') ∧
      ∀ (i j:Nat) (e y:V),((es0.drop off).take len)[i]? = some e → e.cells[j]? = some y → Rep L w y (f (i * s + j)) := by
  have runs:∀ (b o len cap:Nat) (f:Nat → Value),(∀ k,k < len * s → w.cell? ⟨b,o + k,none⟩ = some (f k)) → ∀ n w',n ≤ len → w'.heap = w.heap → (Builtin.firstCells s n (.slice (some ⟨b,o,none⟩) len cap)).run P w' = .ok ((List.range (n * s)).map f).toArray w' := by
    intro b o len cap f hf n w' hn hw
    simp only [Builtin.firstCells]
    refine E.run_loadCells P w' b o (n * s) f (fun k hk => ?_)
    rw [cell?_of_heap (w := w) (by rw [hw])]
    exact hf k (Nat.lt_of_lt_of_le hk (Nat.mul_le_mul_right _ hn))
  have hget:∀ (k:Nat) (e:V),((es0.drop off).take len)[k]? = some e → es0[off + k]? = some e := by
    intro k e hk
    rw [List.getElem?_take] at hk
    split at hk
    · rw [List.getElem?_drop] at hk; exact hk
    · cases hk
  have hlen:((es0.drop off).take len).length = len := by simp <;> omega
  have hfl:∀ (k:Nat) (e:V),((es0.drop off).take len)[k]? = some e → flat s e := fun k e hk => h4 _ e (hget k e hk)
  cases rep with
  | @hsl _ _ _ cap b1 base1 s1 g hcap hz =>
    rw [h1] at g; injection g with g; injection g with q1 q2; injection q2 with q2 q3; subst q1; subst q2; subst q3
    refine ⟨fun w' => by simp [Builtin.lenOf,hlen],hfl,fun k => (c[base + off * s + k]?).getD undef,?_,fun i j e y h1' h2' => ?_⟩
    · rw [hlen]
      refine runs b _ len cap _ (fun k hk => ?_)
      have hsz:0 < s := by
        rcases Nat.eq_zero_or_pos s with q | q
        · subst q; simp at hk
        · exact q
      have hi:k / s < len := Nat.div_lt_of_lt_mul (by rw [Nat.mul_comm]; exact hk)
      have g1:es0[off + k / s]? = some es0[off + k / s] := by simp <;> omega
      have hl := (h4 _ _ g1).1
      have hj:k % s < s := Nat.mod_lt _ hsz
      have g2:(es0[off + k / s]).cells[k % s]? = some (es0[off + k / s]).cells[k % s] := by simp <;> omega
      obtain ⟨v,g3,_⟩ := h5 _ _ _ _ g1 g2
      have hdm := Nat.div_add_mod k s
      have e1:base + off * s + k = base + (off + k / s) * s + k % s := by rw [Nat.add_mul,Nat.mul_comm (k / s) s]; omega
      rw [cell?_row h2]
      show _ = some ((c[base + off * s + k]?).getD undef)
      rw [e1,g3]; rfl
    · obtain ⟨v,g3,g4⟩ := h5 _ _ _ _ (hget i e h1') h2'
      have e1:base + off * s + (i * s + j) = base + (off + i) * s + j := by rw [Nat.add_mul]; omega
      show Rep L w y ((c[base + off * s + (i * s + j)]?).getD undef)
      rw [e1,g3]; exact g4
  | hslD _ g => rw [h1] at g; cases g
/-- A slice's elements, also if there was appended to it. -/
def contsW (h:List Ob) (sz:Nat) (v:V):Option (List V) := match v with
  | .hsl id off len => match h[id]? with
    | some (.was es s nid) => match h[nid]? with
      | some (.row fs s') => if s = sz ∧ s' = sz ∧ off + len ≤ es.length ∧ V.beqs (fs.take es.length) es = true then some ((es.drop off).take len) else none
      | _ => none
    | _ => conts h sz (.hsl id off len)
  | v => conts h sz v
theorem contsW_of {h:List Ob} {sz:Nat} {v:V} {es:List V} (e:conts h sz v = some es):contsW h sz v = some es := by
  cases v with
  | hsl id off len =>
    simp only [contsW]
    split
    · rename_i q
      simp [conts,q] at e
    · exact e
  | _ => exact e
theorem contsW_spec {P:Program} {L:Loc} {h:List Ob} {w:World} (H:HRel L h w) {sz:Nat} {v:V} {x:Value} {es:List V} (rep:Rep L w v x) (he:contsW h sz v = some es) :
    (∀ w',(Builtin.lenOf x).run P w' = .ok es.length w') ∧ (∀ (k:Nat) (e:V),es[k]? = some e → flat sz e) ∧
    ∃ f:Nat → Value,(∀ n w',n ≤ es.length → w'.heap = w.heap → (Builtin.firstCells sz n x).run P w' = .ok ((List.range (n * sz)).map f).toArray w') ∧
      ∀ (i j:Nat) (e y:V),es[i]? = some e → e.cells[j]? = some y → Rep L w y (f (i * sz + j)) := by
  cases v with
  | hsl id off len =>
    simp only [contsW] at he
    split at he
    · rename_i es0 s nid hob
      split at he
      · rename_i fs s' hob2
        split at he
        · rename_i hh
          obtain ⟨rfl,rfl,hin,hbe⟩ := hh
          injection he with he; subst he
          have hpre := V.beqs_eq _ _ hbe
          obtain ⟨b,base,h1,h2,h3⟩ := H.old id es0 s' nid hob
          obtain ⟨b',base',c,e,fr,g1,g2,g3,g4,g5⟩ := H.obs nid _ hob2
          have hg:∀ (i:Nat) (y:V),es0[i]? = some y → fs[i]? = some y := fun i y hy => by
            rw [← hpre,List.getElem?_take] at hy
            split at hy
            · exact hy
            · cases hy
          rcases h3 with h3 | h3 | ⟨h3,c,e,fr,h4,h5,h6⟩
          · rw [h3] at g1; cases g1
          · rw [h3] at g1; injection g1 with g1; injection g1 with q1 q2; injection q2 with q2 q3; subst q1; subst q2
            exact hsl_spec rep h1 g2 (fun i y hy => g4 i y (hg i y hy)) (fun i j y z hy hz => g5 i j y z (hg i y hy) hz) hin
          · exact hsl_spec rep h1 h4 h5 h6 hin
        · cases he
      · cases he
    · exact conts_spec H rep he
  | _ => exact conts_spec H rep he
end Go.Proofs.YtjpjeilfmjdhcaaDoor.E
/- The layer E, part 9: append, copy, make. No condition. -/
namespace Go.Proofs.YtjpjeilfmjdhcaaDoor.E
set_option linter.unusedSimpArgs false
set_option linter.unusedVariables false
theorem HRel.drew {L:Loc} {h:List Ob} {w:World} (H:HRel L h w):HRel L h { w with drawn := w.drawn + 1 } :=
  ⟨H.len,fun id ob hob => ORel.step H (fr_drew _ w) (Ext.refl L w) (H.obs id ob hob) rfl (fun _ _ _ _ => rfl),H.lt,H.mem,H.inj,fun id es sz n hx => OldR.step H (fr_drew _ w) (Ext.refl L w) (H.old id es sz n hx) rfl (fun _ _ _ _ hw => ⟨rfl,hw⟩)⟩
def roomMax:Nat := 140737488355328
/-- What is left of a row to which was appended. -/
def oldOb (off len:Nat) (ds:List V) (sz n:Nat):Ob := match decide (off = 0) && decide (len = ds.length) with
  | true => .was ds sz n
  | false => .dead
def evApp (h:List Ob) (sz bytes:Nat) (d:V) (es:List V):Option (V × List Ob) :=
  match d with
  | .nils => if es.length = 0 then some (.nils,h) else if es.length * bytes ≤ roomMax then some (.hsl h.length 0 es.length,h ++ [.row es sz]) else none
  | .esl => if es.length = 0 then some (.esl,h) else if es.length * bytes ≤ roomMax then some (.hsl h.length 0 es.length,h ++ [.row es sz]) else none
  | .hsl id off len => match h[id]? with
    | some (.row ds s) => if s = sz ∧ off + len ≤ ds.length ∧ (len + es.length) * bytes ≤ roomMax then
        some (.hsl h.length 0 (len + es.length),h.set id (oldOb off len ds sz h.length) ++ [.row ((ds.drop off).take len ++ es) sz]) else none
    | _ => none
  | _ => none
theorem rows_append {L:Loc} {w:World} {sz:Nat} {ds es:List V} {fo fn:Nat → Value} {c:Array Value}
    (hd:∀ (k:Nat) (e:V),ds[k]? = some e → flat sz e) (he:∀ (k:Nat) (e:V),es[k]? = some e → flat sz e)
    (ho:∀ (i j:Nat) (e y:V),ds[i]? = some e → e.cells[j]? = some y → Rep L w y (fo (i * sz + j)))
    (hn:∀ (i j:Nat) (e y:V),es[i]? = some e → e.cells[j]? = some y → Rep L w y (fn (i * sz + j))) (base:Nat)
    (hc1:∀ k,k < ds.length * sz → c[base + k]? = some (fo k)) (hc2:∀ k,k < es.length * sz → c[base + ds.length * sz + k]? = some (fn k)) :
    (∀ (k:Nat) (e:V),(ds ++ es)[k]? = some e → flat sz e) ∧
    ∀ (i j:Nat) (e y:V),(ds ++ es)[i]? = some e → e.cells[j]? = some y → ∃ v,c[base + i * sz + j]? = some v ∧ Rep L w y v := by
  refine ⟨fun k e hk => ?_,fun i j e y hi hj => ?_⟩
  · by_cases q:k < ds.length
    · rw [List.getElem?_append_left q] at hk; exact hd k e hk
    · rw [List.getElem?_append_right (by omega)] at hk; exact he _ e hk
  · by_cases q:i < ds.length
    · rw [List.getElem?_append_left q] at hi
      have hjl := (List.getElem?_eq_some_iff.1 hj).1
      rw [(hd i e hi).1] at hjl
      have := mul_le_of_lt (sz := sz) q hjl
      exact ⟨_,by rw [Nat.add_assoc]; exact hc1 _ this,ho i j e y hi hj⟩
    · rw [List.getElem?_append_right (by omega)] at hi
      have hil := (List.getElem?_eq_some_iff.1 hi).1
      have hjl := (List.getElem?_eq_some_iff.1 hj).1
      rw [(he _ e hi).1] at hjl
      have := mul_le_of_lt (sz := sz) hil hjl
      have e1:base + i * sz + j = base + ds.length * sz + ((i - ds.length) * sz + j) := by
        have:i * sz = ds.length * sz + (i - ds.length) * sz := by rw [← Nat.add_mul]; congr 1; omega
        omega
      exact ⟨_,by rw [e1]; exact hc2 _ this,hn _ j e y hi hj⟩
/-- A slice's run when it must grow. -/
theorem run_append_grow {P:Program} {w:World} {ts:Array TypeId} {ty t e t2:TypeId} {i:TypeInfo} {z:Value} {u2:TypeDesc} (ht:ts[0]? = some t) (ht2:ts[1]? = some t2) (hu:P.underlying t = some (.slice e)) (hu2:P.underlying t2 = some u2)
    (hni:∀ k,u2 ≠ .int k) (hi:P.info? e = some i) (hz:i.zero = some z) (b0:0 < i.bytes)
    {base:Option Addr} {len cap n:Nat} {x:Value} {old new:Array Value} (hl:∀ w',(Builtin.lenOf x).run P w' = .ok n w')
    (ho:∀ w',w'.heap = w.heap → (Builtin.firstCells i.size len (.slice base len cap)).run P w' = .ok old w')
    (hn:∀ w',w'.heap = w.heap → (Builtin.firstCells i.size n x).run P w' = .ok new w') (hg:cap < len + n) (hb:(len + n) * i.bytes ≤ roomMax) :
    ∃ newCap,len + n ≤ newCap ∧ (Builtin.append_ ts ty #[.slice base len cap,x]).run P w =
      .ok (.slice (some ⟨w.heap.size,0,none⟩) (len + n) newCap) { w with drawn := w.drawn + 1,heap := w.heap.push (.cells (old ++ new ++ Builtin.zeroCells z.cells (newCap - (len + n))) e) } := by
  refine ⟨grownCap w (len + n) cap e,grownCap_ge w _ _ _,?_⟩
  have hfit := growslice_fits hg (Nat.le_trans hb (by unfold roomMax; omega))
  have hzint:(match u2 with | .int _ => true | _ => false) = false := by cases u2 <;> first | rfl | exact absurd rfl (hni _)
  have hnoti:¬ (((len + n:Nat):Int) > IntKind.i64.max ∧ (False ∨ i.bytes = 0)) := by
    rintro ⟨_,h | h⟩
    · exact h
    · omega
  have hd:({ w with drawn := w.drawn + 1 }:World).heap = w.heap := rfl
  unfold Builtin.append_
  rw [ht,ht2]
  simp only [List.getElem?_toArray,List.getElem?_cons_zero,List.getElem?_cons_succ,Sem.run_bind,run_underlying hu,run_underlying hu2,Result.andThen_ok,Sem.run_pure,run_sizeOf w hi,hzint,Bool.false_eq_true,if_false,hl]
  rw [if_neg (by omega:¬ len + n ≤ cap)]
  have hti:∀ w',(typeInfo e).run P w' = .ok i w' := fun w' => by simp [typeInfo,hi]
  rw [Sem.run_bind,hti,Result.andThen_ok]
  try dsimp only
  rw [if_neg (by rintro ⟨_,f | f⟩ <;> first | exact f | (exact Bool.noConfusion f) | omega)]
  rw [Sem.run_bind,hti,Result.andThen_ok]
  try dsimp only
  rw [if_neg (by omega)]
  rw [Sem.run_bind,run_choose,if_neg (by simp [Question.forced]),Result.andThen_ok]
  try dsimp only
  rw [Sem.run_bind,hti,Result.andThen_ok]
  try dsimp only
  rw [Sem.run_bind,run_askRoom,Result.andThen_ok]
  try dsimp only
  rw [Sem.run_bind,ho _ hd,Result.andThen_ok]
  try dsimp only
  rw [if_pos (by rfl:(!false) = true)]
  rw [Sem.run_bind,hn _ hd,Result.andThen_ok]
  try dsimp only
  rw [Sem.run_bind]
  have hzv:∀ w',(zeroValue e).run P w' = .ok z w' := fun w' => by simp [zeroValue,typeInfo,hi,hz]
  rw [hzv,Result.andThen_ok]
  rfl
end Go.Proofs.YtjpjeilfmjdhcaaDoor.E
/- The layer E, part 10: append whole; copy; make; conversions between bytes and strings. No condition. -/
namespace Go.Proofs.YtjpjeilfmjdhcaaDoor.E
set_option linter.unusedSimpArgs false
set_option linter.unusedVariables false
theorem getElem?_rangeMap (f:Nat → Value) (n k:Nat) (h:k < n):(((List.range n).map f).toArray:Array Value)[k]? = some (f k) := by simp [h]
/-- What an append is given: the destination's type, its elements', the other's. -/
structure AppT (P:Program) (ts:Array TypeId) (t e t2:TypeId) (i:TypeInfo) (z:Value) (u2:TypeDesc):Prop where
  t0:ts[0]? = some t
  t1:ts[1]? = some t2
  u0:P.underlying t = some (.slice e)
  u1:P.underlying t2 = some u2
  ni:∀ k,u2 ≠ .int k
  inf:P.info? e = some i
  zero:i.zero = some z
  bytes:0 < i.bytes
  cells:z.cells.size = i.size
  pos:0 < i.size
theorem run_append_fits {P:Program} {w:World} {ts:Array TypeId} {ty t e t2:TypeId} {i:TypeInfo} {z:Value} {u2:TypeDesc} (T:AppT P ts t e t2 i z u2)
    {base:Option Addr} {len cap n:Nat} {x:Value} {new:Array Value} (hl:∀ w',(Builtin.lenOf x).run P w' = .ok n w')
    (hn:∀ w',w'.heap = w.heap → (Builtin.firstCells i.size n x).run P w' = .ok new w') (hg:len + n ≤ cap) :
    (Builtin.append_ ts ty #[.slice base len cap,x]).run P w =
      ((match base with | some a => storeCells (a.add (len * i.size)) new.toList | none => pure ():Sem Unit).run P w).andThen fun _ w' => .ok (.slice base (len + n) cap) w' := by
  have hu2 := T.u1
  have hni := T.ni
  have hzint:(match u2 with | .int _ => true | _ => false) = false := by cases u2 <;> first | rfl | exact absurd rfl (hni _)
  unfold Builtin.append_
  rw [T.t0,T.t1]
  simp only [List.getElem?_toArray,List.getElem?_cons_zero,List.getElem?_cons_succ,Sem.run_bind,run_underlying T.u0,run_underlying hu2,Result.andThen_ok,Sem.run_pure,run_sizeOf w T.inf,hzint,Bool.false_eq_true,if_false,hl]
  rw [if_pos hg,if_pos (by rfl:(!false) = true)]
  rw [Sem.run_bind,hn w rfl,Result.andThen_ok]
  cases base with
  | none => rfl
  | some a => simp only [Sem.run_bind,Sem.run_pure]
theorem ext_turn (L:Loc) (w:World) {id b base sz b' base' sz':Nat} (hat:L.at_ id = some (b,base,sz)) (hb':b' = b ∨ w.heap.size ≤ b'):Ext L w ((L.kill id).push (b',base',sz')) := by
  refine ⟨by simp [Loc.push,Loc.kill],fun q hq => ?_,fun q ⟨q',p,hp⟩ => ?_⟩
  · rw [Loc.push_old (L.kill id) _ hq]
    by_cases z:q = id
    · exact .inl (by rw [z]; exact L.kill_same id)
    · exact .inr (L.kill_other z)
  · simp only [Loc.push] at hp
    split at hp
    · injection hp with hp; injection hp with p1 p2; subst p1
      rcases hb' with e | e
      · exact .inl (by rw [e]; exact ⟨id,_,hat⟩)
      · exact .inr e
    · by_cases z:q' = id
      · subst z; rw [L.kill_same] at hp; cases hp
      · rw [L.kill_other z] at hp; exact .inl ⟨q',p,hp⟩
/-- A new array: its cells. -/
theorem app_grow {P:Program} {L:Loc} {w:World} {ts:Array TypeId} {ty t e t2:TypeId} {i:TypeInfo} {z:Value} {u2:TypeDesc} (T:AppT P ts t e t2 i z u2) {y:Value} {es ds:List V} {fn fo:Nat → Value}
    (hlen:∀ w',(Builtin.lenOf y).run P w' = .ok es.length w') (hfl:∀ (k:Nat) (e:V),es[k]? = some e → flat i.size e)
    (hnew:∀ w',w'.heap = w.heap → (Builtin.firstCells i.size es.length y).run P w' = .ok ((List.range (es.length * i.size)).map fn).toArray w')
    (hrn:∀ (a j:Nat) (e y:V),es[a]? = some e → e.cells[j]? = some y → Rep L w y (fn (a * i.size + j)))
    (base:Option Addr) (cap:Nat) (hd:∀ (k:Nat) (e:V),ds[k]? = some e → flat i.size e)
    (hro:∀ (a j:Nat) (e y:V),ds[a]? = some e → e.cells[j]? = some y → Rep L w y (fo (a * i.size + j)))
    (hfo:∀ w',w'.heap = w.heap → (Builtin.firstCells i.size ds.length (.slice base ds.length cap)).run P w' = .ok ((List.range (ds.length * i.size)).map fo).toArray w')
    (hcap:cap < ds.length + es.length) (hb:(ds.length + es.length) * i.bytes ≤ roomMax):∃ newCap c,ds.length + es.length ≤ newCap ∧
      (Builtin.append_ ts ty #[.slice base ds.length cap,y]).run P w = .ok (.slice (some ⟨w.heap.size,0,none⟩) (ds.length + es.length) newCap) { w with drawn := w.drawn + 1,heap := w.heap.push (.cells c e) } ∧
      c.size = newCap * i.size ∧ (∀ (k:Nat) (e:V),(ds ++ es)[k]? = some e → flat i.size e) ∧ ∀ (a j:Nat) (e y:V),(ds ++ es)[a]? = some e → e.cells[j]? = some y → ∃ v,c[a * i.size + j]? = some v ∧ Rep L w y v := by
  obtain ⟨newCap,h1,h2⟩ := run_append_grow T.t0 T.t1 T.u0 T.u1 T.ni T.inf T.zero T.bytes (ty := ty) (base := base) (len := ds.length) (cap := cap) hlen hfo hnew hcap hb
  refine ⟨newCap,_,h1,h2,?_,?_⟩
  · simp only [Array.size_append,List.size_toArray,List.length_map,List.length_range,size_zeroCells,T.cells]
    have:newCap * i.size = (ds.length + es.length) * i.size + (newCap - (ds.length + es.length)) * i.size := by rw [← Nat.add_mul]; congr 1; omega
    rw [this,Nat.add_mul]
  · have := rows_append (L := L) (w := w) (c := ((List.range (ds.length * i.size)).map fo).toArray ++ ((List.range (es.length * i.size)).map fn).toArray ++ Builtin.zeroCells z.cells (newCap - (ds.length + es.length))) hd hfl hro hrn 0 (fun k hk => ?_) (fun k hk => ?_)
    · simp only [Nat.zero_add] at this; exact this
    · rw [Array.append_assoc,Array.getElem?_append_left (by simp only [List.size_toArray,List.length_map,List.length_range]; omega),Nat.zero_add]
      exact getElem?_rangeMap _ _ _ hk
    · rw [Array.append_assoc,Array.getElem?_append_right (by simp only [List.size_toArray,List.length_map,List.length_range]; omega),Array.getElem?_append_left (by simp only [List.size_toArray,List.length_map,List.length_range]; omega)]
      simp only [List.size_toArray,List.length_map,List.length_range,Nat.zero_add]
      rw [show ds.length * i.size + k - ds.length * i.size = k by omega]
      exact getElem?_rangeMap _ _ _ hk
/-- To nothing something is appended. -/
theorem app_fresh {P:Program} {L:Loc} {h:List Ob} {w:World} (H:HRel L h w) {ts:Array TypeId} {ty t e t2:TypeId} {i:TypeInfo} {z:Value} {u2:TypeDesc} (T:AppT P ts t e t2 i z u2) {y:Value} {es:List V} {fn:Nat → Value}
    (hlen:∀ w',(Builtin.lenOf y).run P w' = .ok es.length w') (hfl:∀ (k:Nat) (e:V),es[k]? = some e → flat i.size e)
    (hnew:∀ w',w'.heap = w.heap → (Builtin.firstCells i.size es.length y).run P w' = .ok ((List.range (es.length * i.size)).map fn).toArray w')
    (hrn:∀ (a j:Nat) (e y:V),es[a]? = some e → e.cells[j]? = some y → Rep L w y (fn (a * i.size + j)))
    (base:Option Addr) (hf:∀ w',(Builtin.firstCells i.size 0 (.slice base 0 0)).run P w' = .ok #[] w') (h0:es.length ≠ 0) (hb:es.length * i.bytes ≤ roomMax) :
    Good P L w (Builtin.append_ ts ty #[.slice base 0 0,y]) (.hsl h.length 0 es.length) (h ++ [.row es i.size]) := by
  obtain ⟨newCap,c,h1,h2,h3,h4,h5⟩ := app_grow T (ty := ty) (ds := []) (fo := fun _ => undef) hlen hfl hnew hrn base 0 (fun k e hk => by simp at hk) (fun a j e y h => by simp at h) (fun w' _ => by simpa using hf w')
    (by simp only [List.length_nil,Nat.zero_add]; omega) (by simpa only [List.length_nil,Nat.zero_add] using hb)
  simp only [List.length_nil,Nat.zero_add] at h1 h2
  simp only [List.nil_append] at h4 h5
  obtain ⟨g1,g2,g3⟩ := newRow_good H.drew es i.size c e (0,0) (okFr_zero _) h4 (fun a j e y q1 q2 => by
    obtain ⟨v,k1,k2⟩ := h5 a j e y q1 q2
    exact ⟨v,k1,H.step_rep k2 (fr_drew _ w) (Ext.refl L w)⟩)
  refine ⟨_,_,_,h2,?_,g1,(fr_drew (Own L) w).trans (Ext.refl L w) g2,(Ext.refl L w).trans g3 (Nat.le_refl _)⟩
  have hbs:bsz { w with drawn := w.drawn + 1,heap := w.heap.push (.cells c e) } w.heap.size = newCap * i.size := by
    rw [bsz_row (c := c) (e := e) (fr := (0,0)) (by show (w.heap.push _)[w.heap.size]? = _; simp),h3]
  have := Rep.hsl (L := L.push (w.heap.size,0,i.size)) (w := { w with drawn := w.drawn + 1,heap := w.heap.push (.cells c e) }) (off := 0) (len := es.length) (cap := newCap) (L.push_new (w.heap.size,0,i.size)) h1
    (by rw [hbs]; simp only [Nat.zero_add]; exact Nat.le_refl _)
  rw [H.len] at this
  simpa only [Nat.zero_mul,Nat.add_zero,Nat.zero_add] using this
/-- The cells of a slice of an owned row. -/
theorem row_cells {L:Loc} {h:List Ob} {w:World} (H:HRel L h w) {id b base sz:Nat} {ds:List V} (hob:h[id]? = some (.row ds sz)) (hat:L.at_ id = some (b,base,sz)) {c:Array Value} {ee:TypeId} {fr:Nat × Nat}
    (hw:w.heap[b]? = some (.cells c ee fr)) {off len:Nat} (hin:off + len ≤ ds.length) (k:Nat) (hk:k < len * sz) :
    ∃ v,c[base + off * sz + k]? = some v := by
  obtain ⟨b0,base0,c0,e0,fr0,h1,h2,h3,h4,h5⟩ := H.obs id _ hob
  rw [hat] at h1; injection h1 with h1; injection h1 with q1 q2; injection q2 with q2 q3; subst q1; subst q2
  rw [hw] at h2; injection h2 with h2; injection h2 with q1 q2 q3; subst q1
  have hsz:0 < sz := by
    rcases Nat.eq_zero_or_pos sz with q | q
    · subst q; simp at hk
    · exact q
  have hi':k / sz < len := Nat.div_lt_of_lt_mul (by rw [Nat.mul_comm]; exact hk)
  have hlt:off + k / sz < ds.length := by omega
  have g1:ds[off + k / sz]? = some ds[off + k / sz] := List.getElem?_eq_getElem hlt
  have hl := (h4 _ _ g1).1
  have hj:k % sz < sz := Nat.mod_lt _ hsz
  have g2:(ds[off + k / sz]).cells[k % sz]? = some ((ds[off + k / sz]).cells[k % sz]'(by rw [hl]; exact hj)) := List.getElem?_eq_getElem _
  obtain ⟨v,g3,_⟩ := h5 _ _ _ _ g1 g2
  have hdm := Nat.div_add_mod k sz
  have e1:base + off * sz + k = base + (off + k / sz) * sz + k % sz := by rw [Nat.add_mul,Nat.mul_comm (k / sz) sz]; omega
  exact ⟨v,by rw [e1]; exact g3⟩
theorem ext_turnW (L:Loc) (w:World) {id b base sz b' base' sz':Nat} (hat:L.at_ id = some (b,base,sz)) (hb':b' = b ∨ w.heap.size ≤ b'):Ext L w (L.push (b',base',sz')) := by
  refine ⟨by simp [Loc.push],fun q hq => .inr (L.push_old _ hq),fun q ⟨q',p,hp⟩ => ?_⟩
  simp only [Loc.push] at hp
  split at hp
  · injection hp with hp; injection hp with p1 p2; subst p1
    rcases hb' with e | e
    · exact .inl (by rw [e]; exact ⟨id,_,hat⟩)
    · exact .inr e
  · exact .inl ⟨q',p,hp⟩
/-- In place. -/
theorem app_place {P:Program} {L:Loc} {h:List Ob} {w:World} (H:HRel L h w) {ts:Array TypeId} {ty t e t2:TypeId} {i:TypeInfo} {z:Value} {u2:TypeDesc} (T:AppT P ts t e t2 i z u2) {y:Value} {es ds:List V} {fn:Nat → Value}
    (hlen:∀ w',(Builtin.lenOf y).run P w' = .ok es.length w') (hfl:∀ (k:Nat) (e:V),es[k]? = some e → flat i.size e)
    (hnew:∀ w',w'.heap = w.heap → (Builtin.firstCells i.size es.length y).run P w' = .ok ((List.range (es.length * i.size)).map fn).toArray w')
    (hrn:∀ (a j:Nat) (e y:V),es[a]? = some e → e.cells[j]? = some y → Rep L w y (fn (a * i.size + j)))
    {id off len b base cap:Nat} (hob:h[id]? = some (.row ds i.size)) (hat:L.at_ id = some (b,base,i.size)) (hin:off + len ≤ ds.length) (hcap:len ≤ cap) (hz:base + (off + cap) * i.size ≤ bsz w b) (hroom:len + es.length ≤ cap) :
    Good P L w (Builtin.append_ ts ty #[.slice (some ⟨b,base + off * i.size,none⟩) len cap,y]) (.hsl h.length 0 (len + es.length)) (h.set id .dead ++ [.row ((ds.drop off).take len ++ es) i.size]) := by
  obtain ⟨b0,base0,c,ee,fr,h1,h2,h3,h4,h5⟩ := H.obs id _ hob
  rw [hat] at h1; injection h1 with h1; injection h1 with q1 q2; injection q2 with q2 q3; subst q1; subst q2
  have hbl := (Array.getElem?_eq_some_iff.1 h2).1
  have hlend:((ds.drop off).take len).length = len := by simp only [List.length_take,List.length_drop]; omega
  have hus:∀ u ∈ (List.range (es.length * i.size)).map fn,u.oneCell' = true := by
    intro u hu
    simp only [List.mem_map,List.mem_range] at hu
    obtain ⟨k,hk,rfl⟩ := hu
    have hi':k / i.size < es.length := Nat.div_lt_of_lt_mul (by rw [Nat.mul_comm]; exact hk)
    have g1:es[k / i.size]? = some es[k / i.size] := List.getElem?_eq_getElem hi'
    have hf := hfl _ _ g1
    have hj:k % i.size < i.size := Nat.mod_lt _ T.pos
    have g2:(es[k / i.size]).cells[k % i.size]? = some ((es[k / i.size]).cells[k % i.size]'(by rw [hf.1]; exact hj)) := List.getElem?_eq_getElem _
    have := hrn _ _ _ _ g1 g2
    have hdm := Nat.div_add_mod k i.size
    rw [show k / i.size * i.size + k % i.size = k by rw [Nat.mul_comm]; exact hdm] at this
    exact this.one (List.all_eq_true.1 hf.2 _ (List.getElem_mem _))
  have hcs:base + (off + cap) * i.size ≤ c.size := by rw [← bsz_row h2]; exact hz
  have hfit:base + off * i.size + len * i.size + es.length * i.size ≤ c.size := by
    have:(len + es.length) * i.size ≤ cap * i.size := Nat.mul_le_mul_right _ hroom
    rw [Nat.add_mul] at this hcs
    omega
  have hfit':base + off * i.size + len * i.size + 0 + ((List.range (es.length * i.size)).map fn).length ≤ c.size := by simp only [List.length_map,List.length_range]; omega
  have hrun := E.run_storeCells P b (base + off * i.size + len * i.size) ee fr ((List.range (es.length * i.size)).map fn) 0 c w h2 h3 hfit' hus
  generalize hW:writeAt c (base + off * i.size + len * i.size + 0) ((List.range (es.length * i.size)).map fn) = W at hrun
  have hWs:W.size = c.size := by rw [← hW]; exact writeAt_size _ _ _
  have hfr:Fr (Own L) w (E.put w b (.cells W ee fr)) := fr_put ⟨id,_,hat⟩ h2 hWs
  have hwr:∀ k,W[k]? = if base + off * i.size + len * i.size ≤ k ∧ k < base + off * i.size + len * i.size + es.length * i.size then some (fn (k - (base + off * i.size + len * i.size))) else c[k]? := by
    intro k
    rw [← hW,writeAt_get _ _ _ hfit']
    simp only [Nat.add_zero,List.length_map,List.length_range]
    split
    · rename_i q
      rw [List.getElem?_map,List.getElem?_range (by omega)]; rfl
    · rfl
  have hdl:∀ (k:Nat) (e:V),((ds.drop off).take len)[k]? = some e → ds[off + k]? = some e := by
    intro k e hk
    rw [List.getElem?_take] at hk
    split at hk
    · rw [List.getElem?_drop] at hk; exact hk
    · cases hk
  obtain ⟨k1,k2⟩ := rows_append (L := L) (w := w) (c := W) (sz := i.size) (ds := (ds.drop off).take len) (es := es) (fo := fun k => (c[base + off * i.size + k]?).getD undef) (fn := fn) (fun k e hk => h4 _ e (hdl k e hk)) hfl
    (fun a j e y q1 q2 => by
      obtain ⟨v,g3,g4⟩ := h5 _ _ _ _ (hdl a e q1) q2
      have e1:base + off * i.size + (a * i.size + j) = base + (off + a) * i.size + j := by rw [Nat.add_mul]; omega
      show Rep L w y ((c[base + off * i.size + (a * i.size + j)]?).getD undef)
      rw [e1,g3]; exact g4) hrn (base + off * i.size)
    (fun k hk => by
      rw [hlend] at hk
      rw [hwr,if_neg (by omega)]
      obtain ⟨v,hv⟩ := row_cells H hob hat h2 hin k hk
      show _ = some ((c[base + off * i.size + k]?).getD undef)
      rw [hv]; rfl)
    (fun k hk => by
      rw [hlend,hwr,if_pos (by omega)]
      congr 2; omega)
  have hex := ext_turn L w (b' := b) (base' := base + off * i.size) (sz' := i.size) hat (.inl rfl)
  obtain ⟨t1,t2'⟩ := HRel.turn H (b' := b) (base' := base + off * i.size) (sz' := i.size) hat hfr (fun k _ hk => put_other hk) (.inl rfl) (by rw [put_size]; exact hbl)
    (ob := .row ((ds.drop off).take len ++ es) i.size) (by
      refine ⟨b,base + off * i.size,W,ee,fr,Loc.push_new (L.kill id) _,put_same hbl,by rw [hWs]; exact h3,k1,fun a j x y q1 q2 => ?_⟩
      obtain ⟨v,g1,g2⟩ := k2 a j x y q1 q2
      exact ⟨v,g1,H.step_rep g2 hfr hex⟩) (fun ⟨_,_,_,q⟩ => by rw [hob] at q; cases q)
  refine ⟨.slice (some ⟨b,base + off * i.size,none⟩) (len + es.length) cap,_,_,?_,?_,t1,hfr,hex⟩
  · rw [run_append_fits T hlen hnew hroom]
    simp only [addr_add]
    rw [hrun]; rfl
  · have hbs:bsz (E.put w b (.cells W ee fr)) b = c.size := by rw [bsz_row (put_same hbl),hWs]
    have := Rep.hsl (L := (L.kill id).push (b,base + off * i.size,i.size)) (w := E.put w b (.cells W ee fr)) (off := 0) (len := len + es.length) (cap := cap) (Loc.push_new (L.kill id) (b,base + off * i.size,i.size)) hroom (by
        rw [hbs]; rw [Nat.add_mul] at hcs; simp only [Nat.zero_add]; omega)
    rw [show (L.kill id).len = h.length from H.len] at this
    simpa only [Nat.zero_mul,Nat.add_zero] using this
/-- In place. -/
theorem app_placeW {P:Program} {L:Loc} {h:List Ob} {w:World} (H:HRel L h w) {ts:Array TypeId} {ty t e t2:TypeId} {i:TypeInfo} {z:Value} {u2:TypeDesc} (T:AppT P ts t e t2 i z u2) {y:Value} {es ds:List V} {fn:Nat → Value}
    (hlen:∀ w',(Builtin.lenOf y).run P w' = .ok es.length w') (hfl:∀ (k:Nat) (e:V),es[k]? = some e → flat i.size e)
    (hnew:∀ w',w'.heap = w.heap → (Builtin.firstCells i.size es.length y).run P w' = .ok ((List.range (es.length * i.size)).map fn).toArray w')
    (hrn:∀ (a j:Nat) (e y:V),es[a]? = some e → e.cells[j]? = some y → Rep L w y (fn (a * i.size + j)))
    {id off len b base cap:Nat} (hob:h[id]? = some (.row ds i.size)) (hat:L.at_ id = some (b,base,i.size)) (hin:off + len ≤ ds.length) (hcap:len ≤ cap) (hz:base + (off + cap) * i.size ≤ bsz w b) (hroom:len + es.length ≤ cap) (h00:off = 0) (hll:len = ds.length) :
    Good P L w (Builtin.append_ ts ty #[.slice (some ⟨b,base + off * i.size,none⟩) len cap,y]) (.hsl h.length 0 (len + es.length)) (h.set id (.was ds i.size h.length) ++ [.row ((ds.drop off).take len ++ es) i.size]) := by
  obtain ⟨b0,base0,c,ee,fr,h1,h2,h3,h4,h5⟩ := H.obs id _ hob
  rw [hat] at h1; injection h1 with h1; injection h1 with q1 q2; injection q2 with q2 q3; subst q1; subst q2
  have hbl := (Array.getElem?_eq_some_iff.1 h2).1
  have hlend:((ds.drop off).take len).length = len := by simp only [List.length_take,List.length_drop]; omega
  have hus:∀ u ∈ (List.range (es.length * i.size)).map fn,u.oneCell' = true := by
    intro u hu
    simp only [List.mem_map,List.mem_range] at hu
    obtain ⟨k,hk,rfl⟩ := hu
    have hi':k / i.size < es.length := Nat.div_lt_of_lt_mul (by rw [Nat.mul_comm]; exact hk)
    have g1:es[k / i.size]? = some es[k / i.size] := List.getElem?_eq_getElem hi'
    have hf := hfl _ _ g1
    have hj:k % i.size < i.size := Nat.mod_lt _ T.pos
    have g2:(es[k / i.size]).cells[k % i.size]? = some ((es[k / i.size]).cells[k % i.size]'(by rw [hf.1]; exact hj)) := List.getElem?_eq_getElem _
    have := hrn _ _ _ _ g1 g2
    have hdm := Nat.div_add_mod k i.size
    rw [show k / i.size * i.size + k % i.size = k by rw [Nat.mul_comm]; exact hdm] at this
    exact this.one (List.all_eq_true.1 hf.2 _ (List.getElem_mem _))
  have hcs:base + (off + cap) * i.size ≤ c.size := by rw [← bsz_row h2]; exact hz
  have hfit:base + off * i.size + len * i.size + es.length * i.size ≤ c.size := by
    have:(len + es.length) * i.size ≤ cap * i.size := Nat.mul_le_mul_right _ hroom
    rw [Nat.add_mul] at this hcs
    omega
  have hfit':base + off * i.size + len * i.size + 0 + ((List.range (es.length * i.size)).map fn).length ≤ c.size := by simp only [List.length_map,List.length_range]; omega
  have hrun := E.run_storeCells P b (base + off * i.size + len * i.size) ee fr ((List.range (es.length * i.size)).map fn) 0 c w h2 h3 hfit' hus
  generalize hW:writeAt c (base + off * i.size + len * i.size + 0) ((List.range (es.length * i.size)).map fn) = W at hrun
  have hWs:W.size = c.size := by rw [← hW]; exact writeAt_size _ _ _
  have hfr:Fr (Own L) w (E.put w b (.cells W ee fr)) := fr_put ⟨id,_,hat⟩ h2 hWs
  have hwr:∀ k,W[k]? = if base + off * i.size + len * i.size ≤ k ∧ k < base + off * i.size + len * i.size + es.length * i.size then some (fn (k - (base + off * i.size + len * i.size))) else c[k]? := by
    intro k
    rw [← hW,writeAt_get _ _ _ hfit']
    simp only [Nat.add_zero,List.length_map,List.length_range]
    split
    · rename_i q
      rw [List.getElem?_map,List.getElem?_range (by omega)]; rfl
    · rfl
  have hdl:∀ (k:Nat) (e:V),((ds.drop off).take len)[k]? = some e → ds[off + k]? = some e := by
    intro k e hk
    rw [List.getElem?_take] at hk
    split at hk
    · rw [List.getElem?_drop] at hk; exact hk
    · cases hk
  obtain ⟨k1,k2⟩ := rows_append (L := L) (w := w) (c := W) (sz := i.size) (ds := (ds.drop off).take len) (es := es) (fo := fun k => (c[base + off * i.size + k]?).getD undef) (fn := fn) (fun k e hk => h4 _ e (hdl k e hk)) hfl
    (fun a j e y q1 q2 => by
      obtain ⟨v,g3,g4⟩ := h5 _ _ _ _ (hdl a e q1) q2
      have e1:base + off * i.size + (a * i.size + j) = base + (off + a) * i.size + j := by rw [Nat.add_mul]; omega
      show Rep L w y ((c[base + off * i.size + (a * i.size + j)]?).getD undef)
      rw [e1,g3]; exact g4) hrn (base + off * i.size)
    (fun k hk => by
      rw [hlend] at hk
      rw [hwr,if_neg (by omega)]
      obtain ⟨v,hv⟩ := row_cells H hob hat h2 hin k hk
      show _ = some ((c[base + off * i.size + k]?).getD undef)
      rw [hv]; rfl)
    (fun k hk => by
      rw [hlend,hwr,if_pos (by omega)]
      congr 2; omega)
  have hex := ext_turnW L w (b' := b) (base' := base + off * i.size) (sz' := i.size) hat (.inl rfl)
  obtain ⟨t1,t2'⟩ := HRel.turnW H (ds := ds) (b' := b) (base' := base + off * i.size) (sz' := i.size) hat hfr (fun k _ hk => put_other hk) (.inl ⟨rfl,by rw [h00]; simp,rfl⟩) (by rw [put_size]; exact hbl)
    (ob := .row ((ds.drop off).take len ++ es) i.size) (by
      refine ⟨b,base + off * i.size,W,ee,fr,Loc.push_new L _,put_same hbl,by rw [hWs]; exact h3,k1,fun a j x y q1 q2 => ?_⟩
      obtain ⟨v,g1,g2⟩ := k2 a j x y q1 q2
      exact ⟨v,g1,H.step_rep g2 hfr hex⟩) (fun ⟨_,_,_,q⟩ => by rw [hob] at q; cases q)
  refine ⟨.slice (some ⟨b,base + off * i.size,none⟩) (len + es.length) cap,_,_,?_,?_,t1,hfr,hex⟩
  · rw [run_append_fits T hlen hnew hroom]
    simp only [addr_add]
    rw [hrun]; rfl
  · have hbs:bsz (E.put w b (.cells W ee fr)) b = c.size := by rw [bsz_row (put_same hbl),hWs]
    have := Rep.hsl (L := L.push (b,base + off * i.size,i.size)) (w := E.put w b (.cells W ee fr)) (off := 0) (len := len + es.length) (cap := cap) (Loc.push_new L (b,base + off * i.size,i.size)) hroom (by
        rw [hbs]; rw [Nat.add_mul] at hcs; simp only [Nat.zero_add]; omega)
    rw [show L.len = h.length from H.len] at this
    simpa only [Nat.zero_mul,Nat.add_zero] using this
/-- Into a new array. -/
theorem app_new {P:Program} {L:Loc} {h:List Ob} {w:World} (H:HRel L h w) {ts:Array TypeId} {ty t e t2:TypeId} {i:TypeInfo} {z:Value} {u2:TypeDesc} (T:AppT P ts t e t2 i z u2) {y:Value} {es ds:List V} {fn fo:Nat → Value}
    (hlen:∀ w',(Builtin.lenOf y).run P w' = .ok es.length w') (hfl:∀ (k:Nat) (e:V),es[k]? = some e → flat i.size e)
    (hnew:∀ w',w'.heap = w.heap → (Builtin.firstCells i.size es.length y).run P w' = .ok ((List.range (es.length * i.size)).map fn).toArray w')
    (hrn:∀ (a j:Nat) (e y:V),es[a]? = some e → e.cells[j]? = some y → Rep L w y (fn (a * i.size + j)))
    {id b base len cap:Nat} {ad:Addr} {ds0:List V} (hob:h[id]? = some (.row ds0 i.size)) (hat:L.at_ id = some (b,base,i.size)) (hdl:ds.length = len)
    (hd:∀ (k:Nat) (e:V),ds[k]? = some e → flat i.size e)
    (hro:∀ (a j:Nat) (e y:V),ds[a]? = some e → e.cells[j]? = some y → Rep L w y (fo (a * i.size + j)))
    (hfo:∀ w',w'.heap = w.heap → (Builtin.firstCells i.size len (.slice (some ad) len cap)).run P w' = .ok ((List.range (len * i.size)).map fo).toArray w')
    (hcap:cap < len + es.length) (hb:(len + es.length) * i.bytes ≤ roomMax) :
    Good P L w (Builtin.append_ ts ty #[.slice (some ad) len cap,y]) (.hsl h.length 0 (len + es.length)) (h.set id .dead ++ [.row (ds ++ es) i.size]) := by
  subst hdl
  obtain ⟨newCap,c',k1,k2,k3,k4,k5⟩ := app_grow T (ty := ty) hlen hfl hnew hrn (some ad) cap hd hro hfo hcap hb
  have hw':∀ k,k < w.heap.size → ({ w with drawn := w.drawn + 1,heap := w.heap.push (.cells c' e) }:World).heap[k]? = w.heap[k]? := fun k hk => by
    show (w.heap.push _)[k]? = _
    rw [Array.getElem?_push,if_neg (by omega)]
  have hfr:Fr (Own L) w { w with drawn := w.drawn + 1,heap := w.heap.push (.cells c' e) } :=
    (fr_drew (Own L) w).trans (Ext.refl L w) (fr_alloc (Own L) { w with drawn := w.drawn + 1 } (.cells c' e))
  have hex := ext_turn L w (b' := w.heap.size) (base' := 0) (sz' := i.size) hat (.inr (Nat.le_refl _))
  obtain ⟨t1,t2'⟩ := HRel.turn H (b' := w.heap.size) (base' := 0) (sz' := i.size) hat hfr (fun k hk _ => hw' k hk) (.inr (Nat.le_refl _)) (by show _ < (w.heap.push _).size; simp)
    (ob := .row (ds ++ es) i.size) (by
      refine ⟨w.heap.size,0,c',e,(0,0),Loc.push_new (L.kill id) _,by show (w.heap.push _)[w.heap.size]? = _; simp,okFr_zero _,k4,fun a j x y q1 q2 => ?_⟩
      obtain ⟨v,g1,g2⟩ := k5 a j x y q1 q2
      exact ⟨v,by rw [Nat.zero_add]; exact g1,H.step_rep g2 hfr hex⟩) (fun ⟨_,_,_,q⟩ => by rw [hob] at q; cases q)
  refine ⟨_,_,_,k2,?_,t1,hfr,hex⟩
  have hbs:bsz { w with drawn := w.drawn + 1,heap := w.heap.push (.cells c' e) } w.heap.size = newCap * i.size := by
    rw [bsz_row (c := c') (e := e) (fr := (0,0)) (by show (w.heap.push _)[w.heap.size]? = _; simp),k3]
  have := Rep.hsl (L := (L.kill id).push (w.heap.size,0,i.size)) (w := { w with drawn := w.drawn + 1,heap := w.heap.push (.cells c' e) }) (off := 0) (len := ds.length + es.length) (cap := newCap) (Loc.push_new (L.kill id) (w.heap.size,0,i.size)) k1
    (by rw [hbs]; simp only [Nat.zero_add]; exact Nat.le_refl _)
  rw [show (L.kill id).len = h.length from H.len] at this
  simpa only [Nat.zero_mul,Nat.add_zero,Nat.zero_add] using this
/-- Into a new array. -/
theorem app_newW {P:Program} {L:Loc} {h:List Ob} {w:World} (H:HRel L h w) {ts:Array TypeId} {ty t e t2:TypeId} {i:TypeInfo} {z:Value} {u2:TypeDesc} (T:AppT P ts t e t2 i z u2) {y:Value} {es ds:List V} {fn fo:Nat → Value}
    (hlen:∀ w',(Builtin.lenOf y).run P w' = .ok es.length w') (hfl:∀ (k:Nat) (e:V),es[k]? = some e → flat i.size e)
    (hnew:∀ w',w'.heap = w.heap → (Builtin.firstCells i.size es.length y).run P w' = .ok ((List.range (es.length * i.size)).map fn).toArray w')
    (hrn:∀ (a j:Nat) (e y:V),es[a]? = some e → e.cells[j]? = some y → Rep L w y (fn (a * i.size + j)))
    {id b base len cap:Nat} {ad:Addr} {ds0:List V} (hob:h[id]? = some (.row ds0 i.size)) (hat:L.at_ id = some (b,base,i.size)) (hdl:ds.length = len)
    (hd:∀ (k:Nat) (e:V),ds[k]? = some e → flat i.size e)
    (hro:∀ (a j:Nat) (e y:V),ds[a]? = some e → e.cells[j]? = some y → Rep L w y (fo (a * i.size + j)))
    (hfo:∀ w',w'.heap = w.heap → (Builtin.firstCells i.size len (.slice (some ad) len cap)).run P w' = .ok ((List.range (len * i.size)).map fo).toArray w')
    (hcap:cap < len + es.length) (hb:(len + es.length) * i.bytes ≤ roomMax) :
    Good P L w (Builtin.append_ ts ty #[.slice (some ad) len cap,y]) (.hsl h.length 0 (len + es.length)) (h.set id (.was ds0 i.size h.length) ++ [.row (ds ++ es) i.size]) := by
  subst hdl
  obtain ⟨newCap,c',k1,k2,k3,k4,k5⟩ := app_grow T (ty := ty) hlen hfl hnew hrn (some ad) cap hd hro hfo hcap hb
  have hw':∀ k,k < w.heap.size → ({ w with drawn := w.drawn + 1,heap := w.heap.push (.cells c' e) }:World).heap[k]? = w.heap[k]? := fun k hk => by
    show (w.heap.push _)[k]? = _
    rw [Array.getElem?_push,if_neg (by omega)]
  have hfr:Fr (Own L) w { w with drawn := w.drawn + 1,heap := w.heap.push (.cells c' e) } :=
    (fr_drew (Own L) w).trans (Ext.refl L w) (fr_alloc (Own L) { w with drawn := w.drawn + 1 } (.cells c' e))
  have hex := ext_turnW L w (b' := w.heap.size) (base' := 0) (sz' := i.size) hat (.inr (Nat.le_refl _))
  obtain ⟨t1,t2'⟩ := HRel.turnW H (ds := ds0) (b' := w.heap.size) (base' := 0) (sz' := i.size) hat hfr (fun k hk _ => hw' k hk) (.inr ⟨Nat.le_refl _,hw' _ (H.mem _ _ _ _ hat),H.obs id _ hob⟩) (by show _ < (w.heap.push _).size; simp)
    (ob := .row (ds ++ es) i.size) (by
      refine ⟨w.heap.size,0,c',e,(0,0),Loc.push_new L _,by show (w.heap.push _)[w.heap.size]? = _; simp,okFr_zero _,k4,fun a j x y q1 q2 => ?_⟩
      obtain ⟨v,g1,g2⟩ := k5 a j x y q1 q2
      exact ⟨v,by rw [Nat.zero_add]; exact g1,H.step_rep g2 hfr hex⟩) (fun ⟨_,_,_,q⟩ => by rw [hob] at q; cases q)
  refine ⟨_,_,_,k2,?_,t1,hfr,hex⟩
  have hbs:bsz { w with drawn := w.drawn + 1,heap := w.heap.push (.cells c' e) } w.heap.size = newCap * i.size := by
    rw [bsz_row (c := c') (e := e) (fr := (0,0)) (by show (w.heap.push _)[w.heap.size]? = _; simp),k3]
  have := Rep.hsl (L := L.push (w.heap.size,0,i.size)) (w := { w with drawn := w.drawn + 1,heap := w.heap.push (.cells c' e) }) (off := 0) (len := ds.length + es.length) (cap := newCap) (Loc.push_new L (w.heap.size,0,i.size)) k1
    (by rw [hbs]; simp only [Nat.zero_add]; exact Nat.le_refl _)
  rw [show L.len = h.length from H.len] at this
  simpa only [Nat.zero_mul,Nat.add_zero,Nat.zero_add] using this
theorem app_good {P:Program} {L:Loc} {h h':List Ob} {w:World} (H:HRel L h w) {ts:Array TypeId} {ty t e t2:TypeId} {i:TypeInfo} {z:Value} {u2:TypeDesc} (T:AppT P ts t e t2 i z u2) {d s r:V} {x y:Value} {es:List V}
    (rd:Rep L w d x) (rs:Rep L w s y) (hc:contsW h i.size s = some es) (he:evApp h i.size i.bytes d es = some (r,h')):Good P L w (Builtin.append_ ts ty #[x,y]) r h' := by
  obtain ⟨hlen,hfl,fn,hfn,hrn⟩ := contsW_spec (P := P) H rs hc
  have hnew:∀ w',w'.heap = w.heap → (Builtin.firstCells i.size es.length y).run P w' = .ok ((List.range (es.length * i.size)).map fn).toArray w' := fun w' hw => hfn _ w' (Nat.le_refl _) hw
  unfold evApp at he
  split at he
  · cases rd
    split at he
    · rename_i h0
      injection he with he; injection he with he1 he2; subst he1; subst he2
      refine .same H (x := .slice none 0 0) ?_ .nils
      rw [run_append_fits T hlen hnew (by omega),h0]; rfl
    · rename_i h0
      split at he
      · rename_i hb
        injection he with he; injection he with he1 he2; subst he1; subst he2
        exact app_fresh H T hlen hfl hnew hrn none (fun w' => by simp [Builtin.firstCells]) h0 hb
      · cases he
  · cases rd with
    | esl a =>
      split at he
      · rename_i h0
        injection he with he; injection he with he1 he2; subst he1; subst he2
        refine .same H (x := .slice (some a) 0 0) ?_ (.esl a)
        rw [run_append_fits T hlen hnew (by omega),h0]
        simp [storeCells]
      · rename_i h0
        split at he
        · rename_i hb
          injection he with he; injection he with he1 he2; subst he1; subst he2
          exact app_fresh H T hlen hfl hnew hrn (some a) (fun w' => by simp [Builtin.firstCells,Go.loadCells,loadCellsFrom]) h0 hb
        · cases he
  · rename_i id off len
    split at he
    · rename_i ds s' hob
      split at he
      · rename_i hh
        obtain ⟨rfl,hin,hb⟩ := hh
        injection he with he; injection he with he1 he2; subst he1; subst he2
        obtain ⟨b,base,c,ee,fr,h1,h2,h3,h4,h5⟩ := H.obs id _ hob
        have hlend:((ds.drop off).take len).length = len := by simp only [List.length_take,List.length_drop]; omega
        have hcc:conts h i.size (.hsl id off len) = some ((ds.drop off).take len) := by
          simp [conts,hob,hin]
        obtain ⟨hlo,hdl,fo,hfo,hro⟩ := conts_spec (P := P) H (sz := i.size) (v := .hsl id off len) rd hcc
        cases rd with
        | @hsl _ _ _ cap b1 base1 s1 g hcap hz =>
          rw [h1] at g; injection g with g; injection g with q1 q2; injection q2 with q2 q3; subst q1; subst q2; subst q3
          cases hq:(decide (off = 0) && decide (len = ds.length)) with
          | false =>
            simp only [oldOb,hq]
            by_cases hroom:len + es.length ≤ cap
            · exact app_place H T hlen hfl hnew hrn hob h1 hin hcap hz hroom
            · exact app_new H T hlen hfl hnew hrn hob h1 hlend hdl hro (fun w' hw => hfo len w' (by rw [hlend]; exact Nat.le_refl _) hw) (by omega) hb
          | true =>
            simp only [oldOb,hq]
            simp only [Bool.and_eq_true,decide_eq_true_eq] at hq
            by_cases hroom:len + es.length ≤ cap
            · exact app_placeW H T hlen hfl hnew hrn hob h1 hin hcap hz hroom hq.1 hq.2
            · exact app_newW H T hlen hfl hnew hrn hob h1 hlend hdl hro (fun w' hw => hfo len w' (by rw [hlend]; exact Nat.le_refl _) hw) (by omega) hb
        | hslD _ g => rw [h1] at g; cases g
      · cases he
    · cases he
  · cases he
end Go.Proofs.YtjpjeilfmjdhcaaDoor.E
/- The layer E, part 11: copy, make, conversions between bytes and strings, composite values, small things. No condition. -/
namespace Go.Proofs.YtjpjeilfmjdhcaaDoor.E
set_option linter.unusedSimpArgs false
set_option linter.unusedVariables false
/-! ### copy -/
def evCopy (h:List Ob) (sz:Nat) (d:V) (es:List V):Option (V × List Ob) :=
  match d with
  | .nils => some (.int .i64 0,h)
  | .esl => some (.int .i64 0,h)
  | .sl [] => some (.int .i64 0,h)
  | .hsl id off len => match h[id]? with
    | some (.row ds s) => if s = sz ∧ off + len ≤ ds.length then
        some (.int .i64 (min es.length len:Nat),h.set id (.row (ds.take off ++ es.take (min es.length len) ++ ds.drop (off + min es.length len)) sz)) else none
    | _ => none
  | _ => none
theorem copy_good {P:Program} {L:Loc} {h h':List Ob} {w:World} (H:HRel L h w) {ts:Array TypeId} {ty t e:TypeId} {i:TypeInfo} (t0:ts[0]? = some t) (hu:P.underlying t = some (.slice e)) (hinf:P.info? e = some i) (hp:0 < i.size)
    {d s r:V} {x y:Value} {es:List V} (rd:Rep L w d x) (rs:Rep L w s y) (hc:conts h i.size s = some es) (he:evCopy h i.size d es = some (r,h')):Good P L w (Builtin.copy_ ts ty #[x,y]) r h' := by
  obtain ⟨hlen,hfl,fn,hfn,hrn⟩ := conts_spec (P := P) H rs hc
  have run:∀ (base:Option Addr) (len cap:Nat),x = .slice base len cap → (Builtin.copy_ ts ty #[x,y]).run P w =
      ((match base with | some a => storeCells a ((List.range (min es.length len * i.size)).map fn) | none => pure ():Sem Unit).run P w).andThen fun _ w' => .ok (.int .i64 (min es.length len:Nat)) w' := by
    intro base len cap hx
    subst hx
    unfold Builtin.copy_
    rw [t0]
    simp only [List.getElem?_toArray,List.getElem?_cons_zero,List.getElem?_cons_succ,Sem.run_bind,run_underlying hu,Result.andThen_ok,Sem.run_pure,hlen,run_sizeOf w hinf]
    rw [show Nat.min es.length len = min es.length len from rfl,hfn _ w (Nat.min_le_left _ _) rfl]
    simp only [Result.andThen_ok]
    cases base with
    | none => rfl
    | some a => simp only [Sem.run_bind,Sem.run_pure]; rfl
  unfold evCopy at he
  split at he
  · injection he with he; injection he with he1 he2; subst he1; subst he2
    cases rd
    refine .same H (x := .int .i64 ((min es.length 0:Nat):Int)) ?_ (by rw [Nat.min_zero]; exact .int _ _)
    rw [run none 0 0 rfl]; rfl
  · injection he with he; injection he with he1 he2; subst he1; subst he2
    cases rd with
    | esl a =>
      refine .same H (x := .int .i64 ((min es.length 0:Nat):Int)) ?_ (by rw [Nat.min_zero]; exact .int _ _)
      rw [run (some a) 0 0 rfl]
      simp [storeCells]
  · injection he with he; injection he with he1 he2; subst he1; subst he2
    have key:∀ (a:Addr) (cap:Nat),x = .slice (some a) 0 cap → Good P L w (Builtin.copy_ ts ty #[x,y]) (.int .i64 0) h := by
      intro a cap hx
      refine .same H (x := .int .i64 ((min es.length 0:Nat):Int)) ?_ (by rw [Nat.min_zero]; exact .int _ _)
      rw [run (some a) 0 cap hx]
      simp [storeCells]
    cases rd with
    | sl f ho hb hcap hs hc' hr => exact key _ _ rfl
    | sl0 a cap => exact key _ _ rfl
  · rename_i id off len
    split at he
    · rename_i ds s' hob
      split at he
      · rename_i hh
        obtain ⟨rfl,hin⟩ := hh
        injection he with he; injection he with he1 he2; subst he1; subst he2
        obtain ⟨b,base,c,ee,fr,h1,h2,h3,h4,h5⟩ := H.obs id _ hob
        have hid:id < h.length := (List.getElem?_eq_some_iff.1 hob).1
        have hbl := (Array.getElem?_eq_some_iff.1 h2).1
        generalize hn:min es.length len = n at *
        have hnl:n ≤ len := by omega
        have hne:n ≤ es.length := by omega
        cases rd with
        | @hsl _ _ _ cap b1 base1 s1 g hcap hz =>
          rw [h1] at g; injection g with g; injection g with q1 q2; injection q2 with q2 q3; subst q1; subst q2; subst q3
          have hus:∀ u ∈ (List.range (n * i.size)).map fn,u.oneCell' = true := by
            intro u hu
            simp only [List.mem_map,List.mem_range] at hu
            obtain ⟨k,hk,rfl⟩ := hu
            have hi':k / i.size < es.length := Nat.lt_of_lt_of_le (Nat.div_lt_of_lt_mul (by rw [Nat.mul_comm]; exact hk)) hne
            have g1:es[k / i.size]? = some es[k / i.size] := List.getElem?_eq_getElem hi'
            have hf := hfl _ _ g1
            have hj:k % i.size < i.size := Nat.mod_lt _ hp
            have g2:(es[k / i.size]).cells[k % i.size]? = some ((es[k / i.size]).cells[k % i.size]'(by rw [hf.1]; exact hj)) := List.getElem?_eq_getElem _
            have := hrn _ _ _ _ g1 g2
            have hdm := Nat.div_add_mod k i.size
            rw [show k / i.size * i.size + k % i.size = k by rw [Nat.mul_comm]; exact hdm] at this
            exact this.one (List.all_eq_true.1 hf.2 _ (List.getElem_mem _))
          have hfit:base + off * i.size + n * i.size ≤ c.size := by
            rcases Nat.eq_zero_or_pos n with q | q
            · have hz' := hz
              rw [bsz_row h2,Nat.add_mul] at hz'
              rw [q]; omega
            · obtain ⟨v,hv⟩ := row_cells H hob h1 h2 (off := off) (len := n) (by omega) (n * i.size - 1) (by have := Nat.mul_pos q hp; omega)
              have := (Array.getElem?_eq_some_iff.1 hv).1
              have := Nat.mul_pos q hp
              omega
          have hfit':base + off * i.size + 0 + ((List.range (n * i.size)).map fn).length ≤ c.size := by simp only [List.length_map,List.length_range]; omega
          have hrun := E.run_storeCells P b (base + off * i.size) ee fr ((List.range (n * i.size)).map fn) 0 c w h2 h3 hfit' hus
          generalize hW:writeAt c (base + off * i.size + 0) ((List.range (n * i.size)).map fn) = W at hrun
          have hWs:W.size = c.size := by rw [← hW]; exact writeAt_size _ _ _
          have hfr:Fr (Own L) w (E.put w b (.cells W ee fr)) := fr_put ⟨id,_,h1⟩ h2 hWs
          have hwr:∀ k,W[k]? = if base + off * i.size ≤ k ∧ k < base + off * i.size + n * i.size then some (fn (k - (base + off * i.size))) else c[k]? := by
            intro k
            rw [← hW,writeAt_get _ _ _ hfit']
            simp only [Nat.add_zero,List.length_map,List.length_range]
            split
            · rename_i q
              rw [List.getElem?_map,List.getElem?_range (by omega)]; rfl
            · rfl
          have hparts:∀ (k:Nat) (e:V),(ds.take off ++ es.take n ++ ds.drop (off + n))[k]? = some e → (off ≤ k ∧ k < off + n ∧ es[k - off]? = some e) ∨ (¬ (off ≤ k ∧ k < off + n) ∧ ds[k]? = some e) := by
            intro k e hk
            have hl1:(ds.take off).length = off := by simp only [List.length_take]; omega
            have hl2:(es.take n).length = n := by simp only [List.length_take]; omega
            by_cases c1:k < off
            · rw [List.append_assoc,List.getElem?_append_left (by omega),List.getElem?_take,if_pos c1] at hk
              exact .inr ⟨by omega,hk⟩
            · by_cases c2:k < off + n
              · rw [List.append_assoc,List.getElem?_append_right (by omega),hl1,List.getElem?_append_left (by omega),List.getElem?_take,if_pos (by omega)] at hk
                exact .inl ⟨by omega,c2,hk⟩
              · rw [List.getElem?_append_right (by simp only [List.length_append]; omega)] at hk
                simp only [List.length_append,hl1,hl2] at hk
                rw [List.getElem?_drop,show off + n + (k - (off + n)) = k by omega] at hk
                exact .inr ⟨by omega,hk⟩
          refine ⟨.int .i64 n,E.put w b (.cells W ee fr),L,?_,.int _ _,?_,hfr,Ext.refl L w⟩
          · have := run (some ⟨b,base + off * i.size,none⟩) len cap rfl
            rw [hn] at this
            simp only at this
            rw [this,hrun]; rfl
          · refine HRel.set H h1 hid (fun ⟨_,_,_,q⟩ => by rw [hob] at q; cases q) hfr (fun k _ hk => put_other hk) ⟨b,base,W,ee,fr,h1,put_same hbl,by rw [hWs]; exact h3,fun k e hk => ?_,fun a j x y q1 q2 => ?_⟩
            · rcases hparts k e hk with ⟨_,_,q⟩ | ⟨_,q⟩
              · exact hfl _ e q
              · exact h4 _ e q
            · rcases hparts a x q1 with ⟨p1,p2,q⟩ | ⟨p1,q⟩
              · have hjl := (List.getElem?_eq_some_iff.1 q2).1
                rw [(hfl _ x q).1] at hjl
                have hm := mul_le_of_lt (a := a - off) (n := n) (sz := i.size) (j := j) (by omega) hjl
                have e1:base + a * i.size + j = base + off * i.size + ((a - off) * i.size + j) := by
                  have:a * i.size = off * i.size + (a - off) * i.size := by rw [← Nat.add_mul]; congr 1; omega
                  omega
                refine ⟨fn ((a - off) * i.size + j),?_,H.step_rep (hrn _ _ _ _ q q2) hfr (Ext.refl L w)⟩
                rw [e1,hwr,if_pos (by omega)]
                congr 2; omega
              · have hjl := (List.getElem?_eq_some_iff.1 q2).1
                rw [(h4 _ x q).1] at hjl
                obtain ⟨v,g1,g2⟩ := h5 _ _ _ _ q q2
                refine ⟨v,?_,H.step_rep g2 hfr (Ext.refl L w)⟩
                rw [hwr,if_neg ?_]
                · exact g1
                · intro hh
                  rcases Nat.lt_or_ge a off with q' | q'
                  · have:(a + 1) * i.size ≤ off * i.size := Nat.mul_le_mul_right _ q'
                    rw [Nat.add_mul] at this; omega
                  · have:(off + n) * i.size ≤ a * i.size := Nat.mul_le_mul_right _ (by omega)
                    rw [Nat.add_mul] at this; omega
        | hslD _ g => rw [h1] at g; cases g
      · cases he
    · cases he
  · cases he
/-! ### make -/
def evMake (h:List Ob) (z:V) (bytes:Nat) (len cap:Int):Option (V × List Ob) :=
  if 0 ≤ len ∧ len ≤ cap ∧ bytes * cap ≤ roomMax ∧ cap < 4611686018427387904 ∧ z.cells.all V.scalar then
    some (.hsl h.length 0 len.toNat,h ++ [.row (List.replicate len.toNat z) z.cells.length]) else none
theorem make_good {P:Program} {L:Loc} {h h':List Ob} {w:World} (H:HRel L h w) {t e:TypeId} {i:TypeInfo} {zv:Value} {z r:V} (hu:P.underlying t = some (.slice e)) (hinf:P.info? e = some i) (hz:i.zero = some zv) (hv:ofZero zv = some z)
    (hsz:z.cells.length = i.size) (hpos:0 < i.size) {k k':IntKind} {len cap:Int} (he:evMake h z i.bytes len cap = some (r,h')):Good P L w (Instr.makeSlice t (.int k len) (.int k' cap)) r h' := by
  unfold evMake at he
  split at he
  · rename_i hh
    obtain ⟨h0,h1,h2,h3,h4⟩ := hh
    injection he with he; injection he with he1 he2; subst he1; subst he2
    have wl:IntKind.i64.wrap len = len := by rw [IntKind.wrap_i64]; omega
    have wc:IntKind.i64.wrap cap = cap := by rw [IntKind.wrap_i64]; omega
    have rz:Rep L w z zv := ofZero_rep hv
    have hzs:z.scalar = true ∨ ∃ cs,z = .agg cs := by
      cases z <;> first | exact .inl rfl | exact .inr ⟨_,rfl⟩ | (simp [V.cells,V.scalar] at h4)
    obtain ⟨c1,c2⟩ := rz.cells hzs
    rw [hsz] at c1
    have hlarge:(decide (cap < 0) || decide ((i.bytes:Int) * cap > 2 ^ 48)) = false := by
      simp only [Bool.or_eq_false_iff,decide_eq_false_iff_not]
      refine ⟨by omega,?_⟩
      have:(roomMax:Int) = 140737488355328 := rfl
      omega
    have hn:cap.toNat * i.size ≠ 0 ∨ cap.toNat * i.size = 0 := by omega
    let c:Array Value := (Array.range (cap.toNat * i.size)).map fun q => zv.cells[q % zv.cells.size]!
    have hrun:(Instr.makeSlice t (.int k len) (.int k' cap)).run P w = .ok (.slice (some ⟨w.heap.size,0,none⟩) len.toNat cap.toNat) { w with heap := w.heap.push (.cells c e) } := by
      have hz':∀ w',(zeroValue e).run P w' = .ok zv w' := fun w' => by simp [zeroValue,typeInfo,hinf,hz]
      have hti:∀ w',(typeInfo e).run P w' = .ok i w' := fun w' => by simp [typeInfo,hinf]
      simp only [Instr.makeSlice,asInt,asIntOf,Sem.run_bind,run_underlying hu,Result.andThen_ok,Sem.run_pure,hti,wl,wc]
      rw [hlarge]
      simp only [Bool.false_or]
      rw [show (decide (len < 0) || decide (len > cap)) = false by simp only [Bool.or_eq_false_iff,decide_eq_false_iff_not]; omega]
      simp only [Bool.false_eq_true,if_false,Sem.run_bind,run_askRoom,Result.andThen_ok,run_sizeOf _ hinf]
      by_cases q:cap.toNat * i.size = 0
      · rw [if_pos q]
        simp only [Sem.run_pure,Result.andThen_ok,newRow,Sem.run_bind,run_newObj]
        have:c = #[] := by simp [c,q]
        rw [this]
        have e0:∀ f:Nat → Value,Array.map f (Array.range (cap.toNat * i.size)) = #[] := fun f => by rw [q]; simp
        rw [e0]
      · rw [if_neg q]
        simp only [Sem.run_pure,Result.andThen_ok,newRow,Sem.run_bind,run_newObj,hz']
        rfl
    have hcz:∀ q,q < cap.toNat * i.size → c[q]? = some (zv.cells.getD (q % i.size) undef) := by
      intro q hq
      have hlt:q % i.size < zv.cells.size := by rw [c1]; exact Nat.mod_lt _ hpos
      simp only [c,Array.getElem?_map,Array.getElem?_range,hq,if_true,Option.map_some,c1]
      congr 1
      simp [Array.getD,c1 ▸ hlt,Array.getElem!_eq_getD,getElem!_pos,hlt]
    obtain ⟨g1,g2,g3⟩ := newRow_good H (List.replicate len.toNat z) z.cells.length c e (0,0) (okFr_zero _) (fun a x hx => by
        have := List.mem_of_getElem? hx
        rw [List.mem_replicate] at this
        rw [this.2]; exact ⟨rfl,h4⟩)
      (fun a j x y hx hy => by
        have hx' := hx
        have hm := List.mem_of_getElem? hx
        rw [List.mem_replicate] at hm
        obtain ⟨_,rfl⟩ := hm
        have hal := (List.getElem?_eq_some_iff.1 hx').1
        rw [List.length_replicate] at hal
        have hjl := (List.getElem?_eq_some_iff.1 hy).1
        rw [hsz] at hjl ⊢
        have hm := mul_le_of_lt (a := a) (n := cap.toNat) (sz := i.size) (j := j) (by omega) hjl
        refine ⟨zv.cells.getD j undef,?_,c2 j y hy⟩
        rw [hcz _ hm,Nat.mul_comm,Nat.mul_add_mod,Nat.mod_eq_of_lt hjl])
    rw [hsz] at g1 g3 ⊢
    refine ⟨_,_,_,hrun,?_,g1,g2,g3⟩
    have hbs:bsz { w with heap := w.heap.push (.cells c e) } w.heap.size = cap.toNat * i.size := by
      rw [bsz_row (c := c) (e := e) (fr := (0,0)) (by show (w.heap.push _)[w.heap.size]? = _; simp)]
      simp [c]
    have := Rep.hsl (L := L.push (w.heap.size,0,i.size)) (w := { w with heap := w.heap.push (.cells c e) }) (off := 0) (len := len.toNat) (cap := cap.toNat) (L.push_new (w.heap.size,0,i.size)) (by omega)
      (by rw [hbs]; simp only [Nat.zero_add]; exact Nat.le_refl _)
    rw [H.len] at this
    simpa only [Nat.zero_mul,Nat.add_zero,Nat.zero_add] using this
  · cases he
end Go.Proofs.YtjpjeilfmjdhcaaDoor.E
/- The layer E, part 12: bytes and strings, composite values, small things. No condition. -/
namespace Go.Proofs.YtjpjeilfmjdhcaaDoor.E
set_option linter.unusedSimpArgs false
set_option linter.unusedVariables false
/-! ### Bytes and strings -/
theorem Rep.int_inv {L:Loc} {w:World} {k:IntKind} {n:Int} {x:Value} (h:Rep L w (.int k n) x):x = .int k n := by cases h; rfl
def byteOf:V → Option UInt8
  | .int .u8 n => some (UInt8.ofNat n.toNat)
  | _ => none
def evToStr (h:List Ob) (v:V):Option V :=
  match v with
  | .str _ => none
  | v => (conts h 1 v).bind fun es => (mapAll byteOf es).map .str
theorem conts_slice {L:Loc} {h:List Ob} {w:World} (H:HRel L h w) {sz:Nat} {v:V} {x:Value} {es:List V} (rep:Rep L w v x) (he:conts h sz v = some es) (hv:∀ l,v ≠ .str l):∃ base cap,x = .slice base es.length cap := by
  unfold conts at he
  split at he
  · injection he with he; subst he; cases rep; exact ⟨_,_,rfl⟩
  · injection he with he; subst he; cases rep; exact ⟨_,_,rfl⟩
  · split at he
    · injection he with he; subst he; cases rep <;> exact ⟨_,_,rfl⟩
    · cases he
  · rename_i id off len
    split at he
    · rename_i es0 s hob
      split at he
      · rename_i hh
        injection he with he; subst he
        obtain ⟨b,base,c,e,fr,h1,_⟩ := H.obs id _ hob
        have hlen:((es0.drop off).take len).length = len := by simp only [List.length_take,List.length_drop]; omega
        rw [hlen]
        cases rep with
        | hsl g => exact ⟨_,_,rfl⟩
        | hslD _ g => rw [h1] at g; cases g
      · cases he
    · cases he
  · exact absurd rfl (hv _)
  · cases he
theorem toStr_good {P:Program} {L:Loc} {h:List Ob} {w:World} (H:HRel L h w) {src dst e:TypeId} (hs:P.underlying src = some (.slice e)) (he8:P.underlying e = some (.int .u8)) (hd:P.underlying dst = some .string)
    {v r:V} {x:Value} (rep:Rep L w v x) (he:evToStr h v = some r):Good P L w (convert src dst x) r h := by
  have main:(∀ l,v ≠ .str l) → ((conts h 1 v).bind fun es => (mapAll byteOf es).map .str) = some r → Good P L w (convert src dst x) r h := by
    intro hv he
    simp only [Option.bind_eq_some_iff,Option.map_eq_some_iff] at he
    obtain ⟨es,hc,l,hm,rfl⟩ := he
    obtain ⟨hlen,hfl,fn,hfn,hrn⟩ := conts_spec (P := P) H rep hc
    obtain ⟨base,cap,rfl⟩ := conts_slice H rep hc hv
    obtain ⟨g1,g2⟩ := mapAll_get hm
    refine .same H (x := .string ⟨l.toArray⟩) ?_ (.str l)
    cases base with
    | none =>
      have h0:es = [] := by
        generalize hg:es.length = n at rep
        cases rep with
        | nils => exact List.length_eq_zero_iff.1 hg
        | hslD _ q q1 =>
          simp only [conts] at hc
          split at hc
          · rename_i es0 s hob
            obtain ⟨b,base,c,e,fr,h1,_⟩ := H.obs _ _ hob
            rw [q] at h1; cases h1
          · cases hc
        | _ => simp [conts] at hc
      subst h0
      simp [mapAll] at hm
      subst hm
      have := run_convert_bytes_nil w src e hs he8 0 cap dst hd
      simp only [List.length_nil]
      rw [this]; rfl
    | some a =>
      have hl := hfn es.length w (Nat.le_refl _) rfl
      simp only [Builtin.firstCells,Nat.mul_one] at hl
      have hns:∃ ns:List Int,(List.range es.length).map fn = ns.map (Value.int .u8) ∧ ns.map (fun n => UInt8.ofNat n.toNat) = l := by
        refine ⟨es.map fun e => (match e with | .int _ n => n | _ => 0),?_,?_⟩
        · apply List.ext_getElem?
          intro k
          by_cases hk:k < es.length
          · have hek:es[k]? = some es[k] := List.getElem?_eq_getElem hk
            obtain ⟨y,hy⟩:∃ y,l[k]? = some y := ⟨l[k],List.getElem?_eq_getElem (by omega)⟩
            obtain ⟨z,q1,q2⟩ := g2 k y hy
            rw [hek] at q1; injection q1 with q1; subst q1
            have:∃ n,es[k] = .int .u8 n := by
              generalize es[k] = z at q2
              cases z <;> simp [byteOf] at q2
              rename_i kk n
              cases kk <;> simp [byteOf] at q2
              exact ⟨n,rfl⟩
            obtain ⟨n,hn⟩ := this
            have hr := hrn k 0 es[k] es[k] hek (by rw [hn]; rfl)
            rw [hn] at hr
            simp only [Nat.mul_one,Nat.add_zero] at hr
            have hfk:fn k = .int .u8 n := hr.int_inv
            rw [List.getElem?_map,List.getElem?_range hk,List.getElem?_map,List.getElem?_map,hek,hn]
            simp [hfk]
          · rw [List.getElem?_eq_none (by simp; omega),List.getElem?_eq_none (by simp; omega)]
        · apply List.ext_getElem?
          intro k
          by_cases hk:k < es.length
          · have hek:es[k]? = some es[k] := List.getElem?_eq_getElem hk
            obtain ⟨y,hy⟩:∃ y,l[k]? = some y := ⟨l[k],List.getElem?_eq_getElem (by omega)⟩
            obtain ⟨z,q1,q2⟩ := g2 k y hy
            rw [hek] at q1; injection q1 with q1; subst q1
            rw [List.getElem?_map,List.getElem?_map,hek,hy]
            generalize es[k] = z at q2
            cases z <;> simp [byteOf] at q2
            rename_i kk n
            cases kk <;> simp [byteOf] at q2
            simp [q2]
          · rw [List.getElem?_eq_none (by simp; omega),List.getElem?_eq_none (by omega)]
      obtain ⟨ns,n1,n2⟩ := hns
      rw [n1] at hl
      rw [run_convert_bytes_string w src dst e _ _ cap hs he8 hd,run_bytesToString w a es.length cap ns hl,foldl_push_bytes,n2]
      simp [ByteArray.empty,ByteArray.emptyWithCapacity]
      rfl
  unfold evToStr at he
  split at he
  · cases he
  · rename_i hne
    exact main (fun l q => hne l q) he
theorem bytesWorld_eq (w:World) (e:TypeId) (s:ByteArray):Lib.bytesWorld w e s = { w with drawn := w.drawn + 1,heap := w.heap.push (.cells (Lib.bytesCells w e s) e ((Lib.bytesCells w e s).size,(Lib.bytesCells w e s).size + 1)) } := by
  have hh:(Lib.bytesWorld w e s).heap = w.heap.push (.cells (Lib.bytesCells w e s) e ((Lib.bytesCells w e s).size,(Lib.bytesCells w e s).size + 1)) := by
    apply Array.ext_getElem?
    intro k
    rw [Array.getElem?_push]
    rcases Nat.lt_trichotomy k w.heap.size with q | q | q
    · rw [Lib.bytesWorld_at_old w e s k q,if_neg (by omega)]
    · subst q; rw [Lib.bytesWorld_at_new,if_pos rfl]
    · rw [if_neg (by omega),Array.getElem?_eq_none (by rw [Lib.bytesWorld_size]; omega),Array.getElem?_eq_none (by omega)]
  rw [← hh]
  unfold Lib.bytesWorld World.freeze
  rfl
def evToBytes (h:List Ob) (l:List UInt8):V × List Ob := (.hsl h.length 0 l.length,h ++ [.row (l.map fun b => .int .u8 b.toNat) 1])
theorem toBytes_good {P:Program} {L:Loc} {h:List Ob} {w:World} (H:HRel L h w) {src dst e:TypeId} {u:TypeDesc} (hs:P.underlying src = some u) (hd:P.underlying dst = some (.slice e)) (he8:P.underlying e = some (.int .u8))
    {l:List UInt8} {x:Value} (rep:Rep L w (.str l) x):Good P L w (convert src dst x) (evToBytes h l).1 (evToBytes h l).2 := by
  cases rep
  have hsz:(⟨l.toArray⟩:ByteArray).size = l.length := by simp [ByteArray.size]
  have hrun := Lib.run_convert_string_bytes w src dst e ⟨l.toArray⟩ hs hd he8
  rw [bytesWorld_eq,hsz] at hrun
  generalize hc:Lib.bytesCells w e ⟨l.toArray⟩ = c at hrun
  have hcz:c.size = grownCap w l.length 0 e := by
    rw [← hc]
    have := grownCap_ge w l.length 0 e
    simp [Lib.bytesCells,hsz]; omega
  have hget:∀ k,k < l.length → c[k]? = some (.int .u8 ((l.getD k 0).toNat:Int)) := by
    intro k hk
    rw [← hc]
    simp only [Lib.bytesCells]
    rw [Array.getElem?_append_left (by simpa using hk)]
    simp [List.getD,hk]
  obtain ⟨g1,g2,g3⟩ := newRow_good H.drew (l.map fun b => .int .u8 b.toNat) 1 c e (c.size,c.size + 1) ⟨by simp,fun o ho hh => by have := hh.1; simp at this; omega⟩ (fun k y hy => by
      simp only [List.getElem?_map,Option.map_eq_some_iff] at hy
      obtain ⟨b,_,rfl⟩ := hy
      exact ⟨rfl,rfl⟩) (fun a j y z hy hz => by
      simp only [List.getElem?_map,Option.map_eq_some_iff] at hy
      obtain ⟨b,hb,rfl⟩ := hy
      have hal := (List.getElem?_eq_some_iff.1 hb).1
      cases j with
      | zero =>
        simp [V.cells] at hz; subst hz
        refine ⟨_,by simpa using hget a hal,?_⟩
        simp only [List.getD,hb,Option.getD_some]
        exact .int _ _
      | succ j => simp [V.cells] at hz)
  refine ⟨_,_,_,hrun,?_,g1,(fr_drew (Own L) w).trans (Ext.refl L w) g2,(Ext.refl L w).trans g3 (Nat.le_refl _)⟩
  have hbs:bsz { w with drawn := w.drawn + 1,heap := w.heap.push (.cells c e (c.size,c.size + 1)) } w.heap.size = c.size :=
    bsz_row (c := c) (e := e) (fr := (c.size,c.size + 1)) (by show (w.heap.push _)[w.heap.size]? = _; simp)
  have := Rep.hsl (L := L.push (w.heap.size,0,1)) (w := { w with drawn := w.drawn + 1,heap := w.heap.push (.cells c e (c.size,c.size + 1)) }) (off := 0) (len := l.length) (cap := grownCap w l.length 0 e) (L.push_new (w.heap.size,0,1)) (grownCap_ge _ _ _ _)
    (by rw [hbs,hcz]; simp)
  rw [H.len] at this
  simpa only [evToBytes,Nat.zero_mul,Nat.add_zero,Nat.zero_add] using this
/-! ### Composite values -/
theorem fold_writeAt (vs:List Value):∀ (n:Nat) (cs:Array Value) (off:Nat),(vs.zipIdx n).foldl (fun cs (p:Value × Nat) => cs.setIfInBounds (off + p.2) p.1) cs = writeAt cs (off + n) vs := by
  induction vs with
  | nil => intro n cs off; rfl
  | cons v vs ih =>
    intro n cs off
    simp only [List.zipIdx_cons,List.foldl_cons,writeAt]
    rw [ih,Nat.add_assoc]
def fillV (cs:List V):List (Nat × Nat × V) → Option (List V)
  | [] => some cs
  | (off,n,v) :: rest =>
    match v with
    | .tup _ | .junk => none
    | v => if v.cells.length = n ∧ off + n ≤ cs.length then fillV (cs.take off ++ v.cells ++ cs.drop (off + n)) rest else none
/-- The parts of a composite value. -/
def PRep (L:Loc) (w:World) (place:Nat → Option (Nat × Nat)):List (Nat × Nat × V) → List (Nat × Value) → Prop
  | [],[] => True
  | (off,n,v) :: ps,(i,x) :: xs => place i = some (off,n) ∧ Rep L w v x ∧ PRep L w place ps xs
  | _,_ => False
theorem fill_spec {L:Loc} {w:World} {place:Nat → Option (Nat × Nat)}:∀ (ps:List (Nat × Nat × V)) (xs:List (Nat × Value)) (cs r:List V) (vs:Array Value),PRep L w place ps xs → vs.size = cs.length →
    (∀ k c,cs[k]? = some c → Rep L w c (vs.getD k undef)) → fillV cs ps = some r → ∃ us,Instr.fill place vs xs = some us ∧ us.size = r.length ∧ ∀ k c,r[k]? = some c → Rep L w c (us.getD k undef)
  | [],[],cs,r,vs,_,hl,hr,he => by
    simp [fillV] at he; subst he
    exact ⟨vs,rfl,hl,hr⟩
  | [],_ :: _,_,_,_,h,_,_,_ => h.elim
  | _ :: _,[],_,_,_,h,_,_,_ => h.elim
  | (off,n,v) :: ps,(i,x) :: xs,cs,r,vs,h,hl,hr,he => by
    obtain ⟨h1,h2,h3⟩ := h
    have main:(v.scalar = true ∨ ∃ ds,v = .agg ds) → (if v.cells.length = n ∧ off + n ≤ cs.length then fillV (cs.take off ++ v.cells ++ cs.drop (off + n)) ps else none) = some r →
        ∃ us,Instr.fill place vs ((i,x) :: xs) = some us ∧ us.size = r.length ∧ ∀ k c,r[k]? = some c → Rep L w c (us.getD k undef) := by
      intro hv he
      split at he
      · rename_i hh
        obtain ⟨c1,c2⟩ := h2.cells hv
        have hsz:x.cells.size = n := by omega
        have hfold:(x.cells.zipIdx.foldl (fun cs (p:Value × Nat) => cs.setIfInBounds (off + p.2) p.1) vs) = writeAt vs off x.cells.toList := by
          have := fold_writeAt x.cells.toList 0 vs off
          rw [← Array.foldl_toList,Array.toList_zipIdx]
          exact this
        have hfit:off + x.cells.toList.length ≤ vs.size := by simp only [Array.length_toList]; omega
        have hlt1:(cs.take off).length = off := by simp only [List.length_take]; omega
        obtain ⟨us,g1,g2,g3⟩ := fill_spec (place := place) ps xs _ r (writeAt vs off x.cells.toList) h3 (by rw [writeAt_size]; simp only [List.length_append,List.length_take,List.length_drop]; omega) (fun k c hk => by
          have hw := writeAt_get x.cells.toList vs off hfit k
          have hgoal:∀ u,(writeAt vs off x.cells.toList)[k]? = some u → Rep L w c u → Rep L w c ((writeAt vs off x.cells.toList).getD k undef) := by
            intro u hu hr'
            rw [Array.getD_eq_getD_getElem?,hu]; exact hr'
          by_cases q1:k < off
          · rw [List.append_assoc,List.getElem?_append_left (by omega),List.getElem?_take,if_pos q1] at hk
            rw [if_neg (by omega)] at hw
            have hlt:k < vs.size := by omega
            refine hgoal vs[k] (by rw [hw]; simp [hlt]) ?_
            have := hr k c hk
            rwa [Array.getD_eq_getD_getElem?,show vs[k]? = some vs[k] by simp [hlt]] at this
          · by_cases q2:k < off + n
            · rw [List.append_assoc,List.getElem?_append_right (by omega),hlt1,List.getElem?_append_left (by omega)] at hk
              rw [if_pos (by simp only [Array.length_toList]; omega)] at hw
              have hlt:k - off < x.cells.size := by omega
              refine hgoal x.cells[k - off] (by rw [hw]; simp [hlt]) ?_
              have := c2 _ c hk
              rwa [Array.getD_eq_getD_getElem?,show x.cells[k - off]? = some x.cells[k - off] by simp [hlt]] at this
            · rw [List.getElem?_append_right (by simp only [List.length_append]; omega)] at hk
              simp only [List.length_append,hlt1,hh.1] at hk
              rw [List.getElem?_drop,show off + n + (k - (off + n)) = k by omega] at hk
              rw [if_neg (by simp only [Array.length_toList]; omega)] at hw
              have hlt:k < vs.size := by rw [hl]; exact (List.getElem?_eq_some_iff.1 hk).1
              refine hgoal vs[k] (by rw [hw]; simp [hlt]) ?_
              have := hr k c hk
              rwa [Array.getD_eq_getD_getElem?,show vs[k]? = some vs[k] by simp [hlt]] at this) he
        refine ⟨us,?_,g2,g3⟩
        simp only [Instr.fill,h1]
        rw [if_neg (by simp only [Bool.or_eq_true,decide_eq_true_eq]; omega)]
        rw [hfold]; exact g1
      · cases he
    simp only [fillV] at he
    cases v <;> first | (cases he; done) | exact main (.inl rfl) he | exact main (.inr ⟨_,rfl⟩) he
end Go.Proofs.YtjpjeilfmjdhcaaDoor.E
