/- The layer E, part 1: values with immutable slices written out and a small heap of rows; what it means that they stand for the machine's values and memory; that this is kept where memory that is not owned stays. No condition. -/
import Derived.Calls
import Derived.Laws.Sem
import Derived.Below
namespace Go.Proofs.Ytdcdmpgigmhhpaa.E

/-- A value: an immutable slice bears its elements; what can be written lies in a heap, by a number. -/
inductive V where
  | int (k : IntKind) (n : Int)
  | bool (b : Bool)
  | str (l : List UInt8)
  | nilp
  | ptr (id i j : Nat)
  | ref (e : V) (j : Nat)
  | nils
  | hsl (id off len : Nat)
  | sl (es : List V)
  | esl
  | nilm
  | mp (id : Nat)
  | fn (f : FuncId) (caps : List V)
  | nilf
  | agg (cs : List V)
  | tup (vs : List V)
  | junk
  deriving Inhabited, Repr

def V.cells : V → List V
  | .agg cs => cs
  | v => [v]

/-- What a value that is no value of several cells is in the machine. -/
def V.scalar : V → Bool
  | .agg _ | .tup _ | .junk => false
  | _ => true

/-- An element of a row: so many cells, each a plain one. -/
def flat (sz : Nat) (e : V) : Prop := e.cells.length = sz ∧ e.cells.all V.scalar = true

structure Loc where
  at_ : Nat → Option (Nat × Nat × Nat)
  len : Nat

def Own (L : Loc) (b : Nat) : Prop := ∃ id p, L.at_ id = some (b, p)

/-- How many cells a block has. -/
def bsz (w : World) (b : Nat) : Nat :=
  match w.heap[b]? with
  | some (.cells c _ _) => c.size
  | _ => 0

inductive Rep (L : Loc) (w : World) : V → Value → Prop
  | int (k : IntKind) (n : Int) : Rep L w (.int k n) (.int k n)
  | bool (b : Bool) : Rep L w (.bool b) (.bool b)
  | str (l : List UInt8) : Rep L w (.str l) (.string ⟨l.toArray⟩)
  | nilp : Rep L w .nilp (.pointer none)
  | ptr {id i j b base sz : Nat} (h : L.at_ id = some (b, base, sz)) : Rep L w (.ptr id i j) (.pointer (some ⟨b, base + i * sz + j, none⟩))
  | ref {e : V} {j b o : Nat} (f : Nat → Value) (ho : ¬ Own L b) (hb : b < w.heap.size)
      (hc : ∀ (k : Nat) (c : V), e.cells[k]? = some c → w.cell? ⟨b, o + k, none⟩ = some (f k)) (hr : ∀ (k : Nat) (c : V), e.cells[k]? = some c → Rep L w c (f k)) :
      Rep L w (.ref e j) (.pointer (some ⟨b, o + j, none⟩))
  | nils : Rep L w .nils (.slice none 0 0)
  | hsl {id off len cap b base sz : Nat} (h : L.at_ id = some (b, base, sz)) (hc : len ≤ cap) (hz : base + (off + cap) * sz ≤ bsz w b) :
      Rep L w (.hsl id off len) (.slice (some ⟨b, base + off * sz, none⟩) len cap)
  | sl {es : List V} {sz b o cap : Nat} (f : Nat → Nat → Value) (ho : ¬ Own L b) (hb : b < w.heap.size) (hcap : es.length ≤ cap)
      (hs : ∀ (i : Nat) (e : V), es[i]? = some e → flat sz e)
      (hc : ∀ (i j : Nat) (e c : V), es[i]? = some e → e.cells[j]? = some c → w.cell? ⟨b, o + i * sz + j, none⟩ = some (f i j))
      (hr : ∀ (i j : Nat) (e c : V), es[i]? = some e → e.cells[j]? = some c → Rep L w c (f i j)) : Rep L w (.sl es) (.slice (some ⟨b, o, none⟩) es.length cap)
  | sl0 (a : Addr) (cap : Nat) : Rep L w (.sl []) (.slice (some a) 0 cap)
  | esl (a : Addr) : Rep L w .esl (.slice (some a) 0 0)
  | nilm : Rep L w .nilm (.map none)
  | mp {id b base sz : Nat} (h : L.at_ id = some (b, base, sz)) : Rep L w (.mp id) (.map (some b))
  | fn {f : FuncId} {caps : List V} (vs : Array Value) (hl : vs.size = caps.length) (hr : ∀ k c, caps[k]? = some c → Rep L w c (vs.getD k undef)) :
      Rep L w (.fn f caps) (.func (.func f) #[] vs)
  | nilf : Rep L w .nilf .nilFunc
  | agg {cs : List V} (vs : Array Value) (hl : vs.size = cs.length) (hr : ∀ k c, cs[k]? = some c → Rep L w c (vs.getD k undef)) : Rep L w (.agg cs) (.agg vs)
  | tup {cs : List V} (vs : Array Value) (hl : vs.size = cs.length) (hr : ∀ k c, cs[k]? = some c → Rep L w c (vs.getD k undef)) : Rep L w (.tup cs) (.tuple vs)
  | junk (x : Value) : Rep L w .junk x
  | ptrD {id i j : Nat} (x : Value) (h : L.at_ id = none) (hl : id < L.len) (h1 : x.oneCell' = true) : Rep L w (.ptr id i j) x
  | hslD {id off len : Nat} (x : Value) (h : L.at_ id = none) (hl : id < L.len) (h1 : x.oneCell' = true) : Rep L w (.hsl id off len) x
  | mpD {id : Nat} (x : Value) (h : L.at_ id = none) (hl : id < L.len) (h1 : x.oneCell' = true) : Rep L w (.mp id) x

/-- Of what lay there, that is not owned, nothing has turned; no block has another number of cells. -/
structure Fr (B : Nat → Prop) (w w' : World) : Prop where
  os : w'.os = w.os
  tape : w'.tape = w.tape
  output : w'.output = w.output
  size : w.heap.size ≤ w'.heap.size
  block : ∀ k, k < w.heap.size → ¬ B k → w'.heap[k]? = w.heap[k]?
  cells : ∀ k, k < w.heap.size → bsz w' k = bsz w k

structure Ext (L : Loc) (w : World) (L' : Loc) : Prop where
  len : L.len ≤ L'.len
  same : ∀ id, id < L.len → L'.at_ id = none ∨ L'.at_ id = L.at_ id
  own : ∀ b, Own L' b → Own L b ∨ w.heap.size ≤ b

theorem Fr.refl (B : Nat → Prop) (w : World) : Fr B w w := ⟨rfl, rfl, rfl, Nat.le_refl _, fun _ _ _ => rfl, fun _ _ => rfl⟩
theorem Ext.refl (L : Loc) (w : World) : Ext L w L := ⟨Nat.le_refl _, fun _ _ => .inr rfl, fun _ h => .inl h⟩

theorem Fr.trans {L L₁ : Loc} {w w₁ w₂ : World} (h : Fr (Own L) w w₁) (x : Ext L w L₁) (k : Fr (Own L₁) w₁ w₂) : Fr (Own L) w w₂ :=
  ⟨k.os.trans h.os, k.tape.trans h.tape, k.output.trans h.output, Nat.le_trans h.size k.size,
   fun i hi ho => (k.block i (Nat.lt_of_lt_of_le hi h.size) (fun o => (x.own i o).elim ho (fun q => by omega))).trans (h.block i hi ho),
   fun i hi => (k.cells i (Nat.lt_of_lt_of_le hi h.size)).trans (h.cells i hi)⟩

theorem Ext.trans {L L₁ L₂ : Loc} {w w₁ : World} (h : Ext L w L₁) (k : Ext L₁ w₁ L₂) (hw : w.heap.size ≤ w₁.heap.size) : Ext L w L₂ :=
  ⟨Nat.le_trans h.len k.len,
   fun id hi => by
     rcases k.same id (Nat.lt_of_lt_of_le hi h.len) with e | e
     · exact .inl e
     · rcases h.same id hi with e' | e'
       · exact .inl (e.trans e')
       · exact .inr (e.trans e'),
   fun b hb => by
     rcases k.own b hb with e | e
     · exact h.own b e
     · exact .inr (Nat.le_trans hw e)⟩

theorem Fr.mono {B B' : Nat → Prop} {w w' : World} (h : Fr B w w') (hb : ∀ b, B b → B' b) : Fr B' w w' :=
  ⟨h.os, h.tape, h.output, h.size, fun k hk ho => h.block k hk (fun q => ho (hb k q)), h.cells⟩

theorem cell?_of_heap {w w' : World} {a : Addr} (h : w'.heap[a.block]? = w.heap[a.block]?) : w'.cell? a = w.cell? a := by
  unfold World.cell?
  rw [h]

theorem bsz_of_heap {w w' : World} {b : Nat} (h : w'.heap[b]? = w.heap[b]?) : bsz w' b = bsz w b := by
  unfold bsz
  rw [h]

theorem lt_of_bsz {w : World} {b n : Nat} (h : n ≤ bsz w b) (hn : 0 < n) : b < w.heap.size := by
  unfold bsz at h
  split at h
  · rename_i hh
    rcases Nat.lt_or_ge b w.heap.size with q | q
    · exact q
    · rw [Array.getElem?_eq_none q] at hh; cases hh
  · omega

/-- What stands for a value goes on standing for it. 'hL': what is owned lies in memory. -/
theorem Rep.step {L L' : Loc} {w w' : World} {v : V} {x : Value} (h : Rep L w v x) (fr : Fr (Own L) w w') (ex : Ext L w L')
    (hL : ∀ id b base sz, L.at_ id = some (b, base, sz) → b < w.heap.size) (hlt : ∀ id p, L.at_ id = some p → id < L.len) : Rep L' w' v x := by
  induction h with
  | int k n => exact .int k n
  | bool b => exact .bool b
  | str l => exact .str l
  | nilp => exact .nilp
  | @ptr id i j b base sz h =>
    have hi := hlt _ _ h
    rcases ex.same id hi with e | e
    · exact .ptrD _ e (Nat.lt_of_lt_of_le hi ex.len) rfl
    · exact .ptr (e.trans h)
  | @ref e j b o f ho hb hc hr ih =>
    have hb' : w'.heap[b]? = w.heap[b]? := fr.block b hb ho
    exact .ref f (fun q => (ex.own b q).elim ho (fun z => by omega)) (Nat.lt_of_lt_of_le hb fr.size)
      (fun k c hk => by rw [cell?_of_heap (w := w) hb']; exact hc k c hk) (fun k c hk => ih k c hk)
  | nils => exact .nils
  | @hsl id off len cap b base sz h hc hz =>
    have hi := hlt _ _ h
    rcases ex.same id hi with e | e
    · exact .hslD _ e (Nat.lt_of_lt_of_le hi ex.len) rfl
    · exact .hsl (e.trans h) hc (by rw [fr.cells b (hL _ _ _ _ h)]; exact hz)
  | @sl es sz b o cap f ho hb hcap hs hc hr ih =>
    have hb' : w'.heap[b]? = w.heap[b]? := fr.block b hb ho
    exact .sl f (fun q => (ex.own b q).elim ho (fun z => by omega)) (Nat.lt_of_lt_of_le hb fr.size) hcap hs
      (fun i j e c h1 h2 => by rw [cell?_of_heap (w := w) hb']; exact hc i j e c h1 h2) (fun i j e c h1 h2 => ih i j e c h1 h2)
  | sl0 a cap => exact .sl0 a cap
  | esl a => exact .esl a
  | nilm => exact .nilm
  | @mp id b base sz h =>
    have hi := hlt _ _ h
    rcases ex.same id hi with e | e
    · exact .mpD _ e (Nat.lt_of_lt_of_le hi ex.len) rfl
    · exact .mp (e.trans h)
  | fn vs hl hr ih => exact .fn vs hl (fun k c hk => ih k c hk)
  | nilf => exact .nilf
  | agg vs hl hr ih => exact .agg vs hl (fun k c hk => ih k c hk)
  | tup vs hl hr ih => exact .tup vs hl (fun k c hk => ih k c hk)
  | junk x => exact .junk x
  | @ptrD id i j x h hl h1 =>
    rcases ex.same id hl with e | e
    · exact .ptrD _ e (Nat.lt_of_lt_of_le hl ex.len) h1
    · exact .ptrD _ (e.trans h) (Nat.lt_of_lt_of_le hl ex.len) h1
  | @hslD id off len x h hl h1 =>
    rcases ex.same id hl with e | e
    · exact .hslD _ e (Nat.lt_of_lt_of_le hl ex.len) h1
    · exact .hslD _ (e.trans h) (Nat.lt_of_lt_of_le hl ex.len) h1
  | @mpD id x h hl h1 =>
    rcases ex.same id hl with e | e
    · exact .mpD _ e (Nat.lt_of_lt_of_le hl ex.len) h1
    · exact .mpD _ (e.trans h) (Nat.lt_of_lt_of_le hl ex.len) h1

/-! ### The heap -/
inductive Ob where
  | row (es : List V) (sz : Nat)
  | map (ents : List (V × V × Nat)) (clock : Nat)
  | siter (l : List UInt8) (pos : Nat)
  | miter (m : Option Nat) (since : Nat) (seen : List Nat) (stepped : Nat)
  | dead
  deriving Inhabited, Repr

def okFr (fr : Nat × Nat) (n : Nat) : Prop := fr.1 ≤ fr.2 ∧ ∀ o, o < n → ¬ (fr.1 ≤ o ∧ o < fr.2)

def ORel (L : Loc) (w : World) (id : Nat) : Ob → Prop
  | .row es sz => ∃ b base c e fr, L.at_ id = some (b, base, sz) ∧ w.heap[b]? = some (.cells c e fr) ∧ okFr fr c.size ∧
      (∀ (i : Nat) (x : V), es[i]? = some x → flat sz x) ∧
      ∀ (i j : Nat) (x y : V), es[i]? = some x → x.cells[j]? = some y → ∃ v, c[base + i * sz + j]? = some v ∧ Rep L w y v
  | .map ents clock => ∃ b base sz mes, L.at_ id = some (b, base, sz) ∧ w.heap[b]? = some (.map mes clock) ∧ mes.size = ents.length ∧
      ∀ (i : Nat) (k v : V) (t : Nat), ents[i]? = some (k, v, t) → ∃ e : MapEntry, mes[i]? = some e ∧ Rep L w k e.key ∧ Rep L w v e.val ∧ e.born = t
  | .siter l pos => ∃ b sz, L.at_ id = some (b, 0, sz) ∧ w.heap[b]? = some (.stringIter ⟨l.toArray⟩ pos)
  | .miter m since seen stepped => ∃ b sz mb, L.at_ id = some (b, 0, sz) ∧ w.heap[b]? = some (.mapIter mb since seen.toArray stepped) ∧
      (match m, mb with
       | none, none => True
       | some i, some r => i < L.len ∧ (L.at_ i = none ∨ ∃ p, L.at_ i = some (r, p))
       | _, _ => False)
  | .dead => L.at_ id = none

structure HRel (L : Loc) (h : List Ob) (w : World) : Prop where
  len : L.len = h.length
  obs : ∀ id ob, h[id]? = some ob → ORel L w id ob
  lt : ∀ id p, L.at_ id = some p → id < L.len
  mem : ∀ id b base sz, L.at_ id = some (b, base, sz) → b < w.heap.size
  inj : ∀ i j b p q, L.at_ i = some (b, p) → L.at_ j = some (b, q) → i = j

theorem HRel.step_rep {L L' : Loc} {h : List Ob} {w w' : World} (H : HRel L h w) {v : V} {x : Value} (r : Rep L w v x) (fr : Fr (Own L) w w') (ex : Ext L w L') : Rep L' w' v x :=
  r.step fr ex H.mem H.lt

/-- An environment: what each temporary holds. -/
def TRel (L : Loc) (w : World) (n : Nat) (t : Nat → V) (tm : Array Value) : Prop := tm.size = n ∧ ∀ i, i < n → Rep L w (t i) (tm.getD i undef)

theorem TRel.step {L L' : Loc} {h : List Ob} {w w' : World} {n : Nat} {t : Nat → V} {tm : Array Value} (r : TRel L w n t tm) (H : HRel L h w) (fr : Fr (Own L) w w') (ex : Ext L w L') : TRel L' w' n t tm :=
  ⟨r.1, fun i hi => H.step_rep (r.2 i hi) fr ex⟩

def upd (t : Nat → V) (d : Nat) (v : V) : Nat → V := fun j => if j = d then v else t j

theorem TRel.upd {L : Loc} {w : World} {n : Nat} {t : Nat → V} {tm : Array Value} (r : TRel L w n t tm) {d : Nat} {v : V} {x : Value} (hv : Rep L w v x) : TRel L w n (upd t d v) (tm.setIfInBounds d x) := by
  refine ⟨by simpa using r.1, fun i hi => ?_⟩
  unfold E.upd
  have hs := r.1
  by_cases hd : i = d
  · subst hd
    rw [if_pos rfl]
    have : (tm.setIfInBounds i x).getD i undef = x := by
      simp [Array.getD, hs, hi]
    rw [this]; exact hv
  · rw [if_neg hd]
    have : (tm.setIfInBounds d x).getD i undef = tm.getD i undef := by
      simp only [Array.getD, Array.size_setIfInBounds]
      split
      · rename_i q
        simp only [Array.getInternal_eq_getElem]
        rw [Array.getElem_setIfInBounds]
        rw [if_neg (fun e => hd e.symm)]
      · rfl
    rw [this]; exact r.2 i hi

/-- The closed values of the program's text. -/
def ofValue : Value → Option V
  | .int k n => some (.int k n)
  | .bool b => some (.bool b)
  | .string s => some (.str s.data.toList)
  | .pointer none => some .nilp
  | .slice none 0 0 => some .nils
  | .map none => some .nilm
  | .nilFunc => some .nilf
  | .tuple vs => if vs.size = 0 then some (.tup []) else none
  | _ => none

theorem ofValue_rep {L : Loc} {w : World} {x : Value} {v : V} (h : ofValue x = some v) : Rep L w v x := by
  unfold ofValue at h
  split at h <;> first | (cases h; done) | skip
  · injection h with h; subst h; exact .int _ _
  · injection h with h; subst h; exact .bool _
  · rename_i s; injection h with h; subst h; exact .str s.data.toList
  · injection h with h; subst h; exact .nilp
  · injection h with h; subst h; exact .nils
  · injection h with h; subst h; exact .nilm
  · injection h with h; subst h; exact .nilf
  · split at h
    · rename_i vs hv
      injection h with h; subst h; exact .tup vs (by simpa using hv) (fun k c hk => by simp at hk)
    · cases h

def mapAll {α β : Type} (f : α → Option β) : List α → Option (List β)
  | [] => some []
  | x :: xs => match f x, mapAll f xs with
    | some y, some ys => some (y :: ys)
    | _, _ => none

theorem mapAll_get {α β : Type} {f : α → Option β} : ∀ {xs : List α} {ys : List β}, mapAll f xs = some ys → ys.length = xs.length ∧ ∀ (i : Nat) y, ys[i]? = some y → ∃ x, xs[i]? = some x ∧ f x = some y
  | [], ys, h => by simp [mapAll] at h; subst h; simp
  | x :: xs, ys, h => by
    simp only [mapAll] at h
    split at h
    · rename_i y ys' h1 h2
      injection h with h; subst h
      obtain ⟨g1, g2⟩ := mapAll_get h2
      refine ⟨by simp [g1], fun i z hz => ?_⟩
      cases i with
      | zero => simp at hz; subst hz; exact ⟨x, by simp, h1⟩
      | succ i => simp at hz; obtain ⟨x', e1, e2⟩ := g2 i z hz; exact ⟨x', by simpa using e1, e2⟩
    · cases h

/-- With the zero values of structs and arrays. -/
def ofZero : Value → Option V
  | .agg vs => (mapAll ofValue vs.toList).map .agg
  | x => ofValue x

theorem ofZero_rep {L : Loc} {w : World} {x : Value} {v : V} (h : ofZero x = some v) : Rep L w v x := by
  unfold ofZero at h
  split at h
  · rename_i vs
    simp only [Option.map_eq_some_iff] at h
    obtain ⟨cs, h1, rfl⟩ := h
    obtain ⟨g1, g2⟩ := mapAll_get h1
    refine .agg vs (by simpa using g1.symm) (fun k c hk => ?_)
    obtain ⟨y, e1, e2⟩ := g2 k c hk
    have hk' : vs[k]? = some y := by simpa using e1
    have : vs.getD k undef = y := by
      rw [Array.getD_eq_getD_getElem?, hk']; rfl
    rw [this]; exact ofValue_rep e2
  · exact ofValue_rep h

end Go.Proofs.Ytdcdmpgigmhhpaa.E
