/- The layer E, part 2: what reading, writing and making memory does to what stands for what. No condition. -/
import Derived.Test.YtdcdmpgigmhhpaaE1
import Derived.Laws.Rows
import Derived.Laws.Append
import Derived.Laws.Cells
namespace Go.Proofs.Ytdcdmpgigmhhpaa.E

theorem addr_add (b o n : Nat) : (⟨b, o, none⟩ : Addr).add n = ⟨b, o + n, none⟩ := by
  unfold Addr.add
  split
  · rename_i h; subst h; rfl
  · rfl

theorem cell?_row {w : World} {b : Nat} {c : Array Value} {e : TypeId} {fr : Nat × Nat} (h : w.heap[b]? = some (.cells c e fr)) (o : Nat) : w.cell? ⟨b, o, none⟩ = c[o]? := by
  simp [World.cell?, h]

theorem bsz_row {w : World} {b : Nat} {c : Array Value} {e : TypeId} {fr : Nat × Nat} (h : w.heap[b]? = some (.cells c e fr)) : bsz w b = c.size := by
  simp [bsz, h]

theorem frozen?_row {w : World} {b : Nat} {c : Array Value} {e : TypeId} {fr : Nat × Nat} (h : w.heap[b]? = some (.cells c e fr)) (ok : okFr fr c.size) (o : Nat) (ho : o < c.size) : w.frozen? ⟨b, o, none⟩ = false := by
  obtain ⟨lo, hi⟩ := fr
  have := ok.2 o ho
  simp [World.frozen?, h]
  simpa using this

/-- A block turned whole. -/
def put (w : World) (b : Nat) (o : Obj) : World := { w with heap := w.heap.setIfInBounds b o }

theorem put_same {w : World} {b : Nat} {o : Obj} (h : b < w.heap.size) : (put w b o).heap[b]? = some o := by
  simp [put, h]
theorem put_other {w : World} {b k : Nat} {o : Obj} (h : k ≠ b) : (put w b o).heap[k]? = w.heap[k]? := by
  simp only [put]
  rw [Array.getElem?_setIfInBounds_ne (fun e => h e.symm)]
theorem put_size {w : World} {b : Nat} {o : Obj} : (put w b o).heap.size = w.heap.size := by simp [put]
theorem put_put {w : World} {b : Nat} {o o' : Obj} : put (put w b o) b o' = put w b o' := by
  simp [put]

theorem setCell_put {w : World} {b o : Nat} {c : Array Value} {e : TypeId} {fr : Nat × Nat} {v : Value} (h : w.heap[b]? = some (.cells c e fr)) :
    w.setCell ⟨b, o, none⟩ v = put w b (.cells (c.setIfInBounds o v) e fr) := by
  have hb := (Array.getElem?_eq_some_iff.1 h).1
  have hv := (Array.getElem?_eq_some_iff.1 h).2
  unfold World.setCell put
  congr 1
  apply Array.ext_getElem?
  intro i
  rw [Array.getElem?_modify, Array.getElem?_setIfInBounds]
  by_cases q : b = i
  · subst q
    simp [hb, hv]
  · simp [q]

def writeAt (c : Array Value) (o : Nat) : List Value → Array Value
  | [] => c
  | v :: vs => writeAt (c.setIfInBounds o v) (o + 1) vs

theorem writeAt_size (vs : List Value) : ∀ (c : Array Value) (o : Nat), (writeAt c o vs).size = c.size := by
  induction vs with
  | nil => intro c o; rfl
  | cons v vs ih => intro c o; simp [writeAt, ih]

theorem writeAt_get (vs : List Value) : ∀ (c : Array Value) (o : Nat), o + vs.length ≤ c.size → ∀ k, (writeAt c o vs)[k]? = if o ≤ k ∧ k < o + vs.length then vs[k - o]? else c[k]? := by
  induction vs with
  | nil => intro c o _ k; simp [writeAt]; intro h1 h2; omega
  | cons v vs ih =>
    intro c o h k
    simp only [List.length_cons] at h ⊢
    rw [writeAt, ih _ _ (by simp; omega)]
    by_cases h1 : o + 1 ≤ k ∧ k < o + 1 + vs.length
    · rw [if_pos h1, if_pos (by omega)]
      rw [show k - o = (k - (o + 1)) + 1 by omega]; rfl
    · rw [if_neg h1, Array.getElem?_setIfInBounds]
      by_cases h2 : o = k
      · subst h2
        rw [if_pos rfl, if_pos (by omega), if_pos (by omega)]
        simp
      · rw [if_neg h2]
        split
        · omega
        · rfl

theorem run_storeCells (P : Program) (b o : Nat) (e : TypeId) (fr : Nat × Nat) (vs : List Value) : ∀ (i : Nat) (c : Array Value) (w : World), w.heap[b]? = some (.cells c e fr) → okFr fr c.size →
    o + i + vs.length ≤ c.size → (∀ v ∈ vs, v.oneCell' = true) → (storeCells ⟨b, o, none⟩ vs i).run P w = .ok () (put w b (.cells (writeAt c (o + i) vs) e fr)) := by
  induction vs with
  | nil =>
    intro i c w h _ _ _
    simp only [storeCells, Sem.run_pure, writeAt]
    have hb := (Array.getElem?_eq_some_iff.1 h).1
    have e : w.heap.setIfInBounds b (.cells c e fr) = w.heap := by
      apply Array.ext_getElem?
      intro k
      rw [Array.getElem?_setIfInBounds]
      split
      · rename_i q; subst q; rw [h]
      · rfl
    unfold put
    rw [e]
  | cons v vs ih =>
    intro i c w h ok hl h1
    simp only [List.length_cons] at hl
    simp only [storeCells, Sem.run_bind, addr_add]
    rw [run_store P w _ v _ (h1 v (by simp))]
    rw [cell?_row h, frozen?_row h ok _ (by omega)]
    have hs : ∃ u, c[o + i]? = some u := ⟨c[o + i], by simp⟩
    obtain ⟨u, hu⟩ := hs
    rw [hu]
    simp only [Bool.false_eq_true, if_false, Result.andThen_ok]
    rw [setCell_put h]
    have hb := (Array.getElem?_eq_some_iff.1 h).1
    have h' := put_same (w := w) (b := b) (o := .cells (c.setIfInBounds (o + i) v) e fr) hb
    have := ih (i + 1) (c.setIfInBounds (o + i) v) _ h' (by simpa using ok) (by simp; omega) (fun x hx => h1 x (by simp [hx]))
    rw [this, put_put]
    rfl

theorem run_loadCells (P : Program) (w : World) (b o n : Nat) (f : Nat → Value) (h : ∀ j, j < n → w.cell? ⟨b, o + j, none⟩ = some (f j)) :
    (loadCells ⟨b, o, none⟩ n).run P w = .ok ((List.range n).map f).toArray w := by
  have := Go.run_loadCells (P := P) (w := w) ⟨b, o, none⟩ n f (fun j hj => by rw [addr_add]; exact h j hj)
  exact this

/-! ### What is kept -/
theorem fr_alloc (B : Nat → Prop) (w : World) (o : Obj) : Fr B w { w with heap := w.heap.push o } := by
  refine ⟨rfl, rfl, rfl, by simp, fun k hk _ => ?_, fun k hk => ?_⟩
  · show (w.heap.push o)[k]? = _
    rw [Array.getElem?_push, if_neg (by omega)]
  · refine bsz_of_heap ?_
    show (w.heap.push o)[k]? = _
    rw [Array.getElem?_push, if_neg (by omega)]

theorem fr_drew (B : Nat → Prop) (w : World) : Fr B w { w with drawn := w.drawn + 1 } := ⟨rfl, rfl, rfl, Nat.le_refl _, fun _ _ _ => rfl, fun _ _ => rfl⟩

theorem fr_put {B : Nat → Prop} {w : World} {b : Nat} {c c' : Array Value} {e e' : TypeId} {fr fr' : Nat × Nat} (hb : B b) (h : w.heap[b]? = some (.cells c e fr)) (hs : c'.size = c.size) : Fr B w (put w b (.cells c' e' fr')) := by
  have hlt := (Array.getElem?_eq_some_iff.1 h).1
  refine ⟨rfl, rfl, rfl, by simp [put], fun k hk hn => put_other (fun q => hn (q ▸ hb)), fun k hk => ?_⟩
  by_cases q : k = b
  · subst q
    rw [bsz_row (put_same hlt), bsz_row h, hs]
  · exact bsz_of_heap (put_other q)

def Loc.push (L : Loc) (p : Nat × Nat × Nat) : Loc := ⟨fun i => if i = L.len then some p else L.at_ i, L.len + 1⟩
/-- One number falls away. -/
def Loc.kill (L : Loc) (id : Nat) : Loc := ⟨fun i => if i = id then none else L.at_ i, L.len⟩

theorem Loc.push_new (L : Loc) (p : Nat × Nat × Nat) : (L.push p).at_ L.len = some p := by simp [Loc.push]
theorem Loc.push_old (L : Loc) (p : Nat × Nat × Nat) {i : Nat} (h : i < L.len) : (L.push p).at_ i = L.at_ i := by simp [Loc.push]; intro q; omega
theorem Loc.kill_same (L : Loc) (id : Nat) : (L.kill id).at_ id = none := by simp [Loc.kill]
theorem Loc.kill_other (L : Loc) {id i : Nat} (h : i ≠ id) : (L.kill id).at_ i = L.at_ i := by simp [Loc.kill, h]

theorem ext_push (L : Loc) (w : World) (b base sz : Nat) (hb : w.heap.size ≤ b) : Ext L w (L.push (b, base, sz)) := by
  refine ⟨by simp [Loc.push], fun id hi => .inr (L.push_old _ hi), fun x ⟨id, p, h⟩ => ?_⟩
  simp only [Loc.push] at h
  split at h
  · injection h with h; injection h with h1 h2; subst h1; exact .inr hb
  · exact .inl ⟨id, p, h⟩

theorem ext_kill (L : Loc) (w : World) (id : Nat) : Ext L w (L.kill id) := by
  refine ⟨Nat.le_refl _, fun i _ => ?_, fun x ⟨i, p, h⟩ => ?_⟩
  · by_cases q : i = id
    · exact .inl (by rw [q]; exact L.kill_same id)
    · exact .inr (L.kill_other q)
  · by_cases q : i = id
    · subst q; rw [L.kill_same] at h; cases h
    · rw [L.kill_other q] at h; exact .inl ⟨i, p, h⟩

/-- An object of the heap whose block has not turned goes on standing for it. -/
theorem ORel.step {L L' : Loc} {h : List Ob} {w w' : World} (H : HRel L h w) (fr : Fr (Own L) w w') (ex : Ext L w L') {id : Nat} {ob : Ob} (r : ORel L w id ob)
    (hat : L'.at_ id = L.at_ id) (hbl : ∀ b base sz, L.at_ id = some (b, base, sz) → w'.heap[b]? = w.heap[b]?) : ORel L' w' id ob := by
  cases ob with
  | row es sz =>
    obtain ⟨b, base, c, e, f, h1, h2, h3, h4, h5⟩ := r
    refine ⟨b, base, c, e, f, hat.trans h1, (hbl _ _ _ h1).trans h2, h3, h4, fun i j x y hx hy => ?_⟩
    obtain ⟨v, g1, g2⟩ := h5 i j x y hx hy
    exact ⟨v, g1, H.step_rep g2 fr ex⟩
  | map ents clock =>
    obtain ⟨b, base, sz, mes, h1, h2, h3, h4⟩ := r
    refine ⟨b, base, sz, mes, hat.trans h1, (hbl _ _ _ h1).trans h2, h3, fun i k v t hx => ?_⟩
    obtain ⟨e, g1, g2, g3, g4⟩ := h4 i k v t hx
    exact ⟨e, g1, H.step_rep g2 fr ex, H.step_rep g3 fr ex, g4⟩
  | siter l pos =>
    obtain ⟨b, sz, h1, h2⟩ := r
    exact ⟨b, sz, hat.trans h1, (hbl _ _ _ h1).trans h2⟩
  | miter m since seen stepped =>
    obtain ⟨b, sz, mb, h1, h2, h3⟩ := r
    refine ⟨b, sz, mb, hat.trans h1, (hbl _ _ _ h1).trans h2, ?_⟩
    cases m with
    | none => cases mb with
      | none => trivial
      | some r => exact h3
    | some i => cases mb with
      | none => exact h3
      | some r =>
        obtain ⟨q1, q2⟩ := h3
        refine ⟨Nat.lt_of_lt_of_le q1 ex.len, ?_⟩
        rcases ex.same i q1 with e | e
        · exact .inl e
        · rcases q2 with q2 | ⟨p, q2⟩
          · exact .inl (e.trans q2)
          · exact .inr ⟨p, e.trans q2⟩
  | dead => exact hat.trans r

/-- A new object. -/
theorem HRel.push {L : Loc} {h : List Ob} {w : World} (H : HRel L h w) (o : Obj) (ob : Ob) (base sz : Nat)
    (hob : ORel (L.push (w.heap.size, base, sz)) { w with heap := w.heap.push o } L.len ob) :
    HRel (L.push (w.heap.size, base, sz)) (h ++ [ob]) { w with heap := w.heap.push o } := by
  have fr := fr_alloc (Own L) w o
  have ex := ext_push L w w.heap.size base sz (Nat.le_refl _)
  have hold : ∀ b, b < w.heap.size → ({ w with heap := w.heap.push o } : World).heap[b]? = w.heap[b]? := fun b hb => by
    show (w.heap.push o)[b]? = _
    rw [Array.getElem?_push, if_neg (by omega)]
  refine ⟨by simp [Loc.push, H.len], fun id x hx => ?_, fun id p hp => ?_, fun id b bs s hp => ?_, fun i j b p q hp hq => ?_⟩
  · by_cases hi : id < h.length
    · rw [List.getElem?_append_left hi] at hx
      refine ORel.step H fr ex (H.obs id x hx) (L.push_old _ (by rw [H.len]; exact hi)) (fun b bs s hb => hold b (H.mem _ _ _ _ hb))
    · rw [List.getElem?_append_right (by omega)] at hx
      have : id = h.length := by
        rcases Nat.lt_or_ge (id - h.length) 1 with q | q
        · omega
        · rw [List.getElem?_eq_none (by simpa using q)] at hx; cases hx
      subst this
      simp at hx
      subst hx
      rw [← H.len]; exact hob
  · simp only [Loc.push] at hp ⊢
    split at hp
    · omega
    · have := H.lt id p hp; omega
  · simp only [Loc.push] at hp
    show b < (w.heap.push o).size
    rw [Array.size_push]
    split at hp
    · injection hp with hp; injection hp with hp _; omega
    · have := H.mem _ _ _ _ hp; omega
  · simp only [Loc.push] at hp hq
    split at hp <;> split at hq
    · omega
    · injection hp with hp; injection hp with hp _; have := H.mem _ _ _ _ hq; omega
    · injection hq with hq; injection hq with hq _; have := H.mem _ _ _ _ hp; omega
    · exact H.inj i j b p q hp hq

/-- An object is written anew in its place. -/
theorem HRel.set {L : Loc} {h : List Ob} {w w' : World} (H : HRel L h w) {id : Nat} {ob : Ob} {b base sz : Nat} (hat : L.at_ id = some (b, base, sz)) (hid : id < h.length)
    (fr : Fr (Own L) w w') (hoth : ∀ k, k < w.heap.size → k ≠ b → w'.heap[k]? = w.heap[k]?) (hob : ORel L w' id ob) : HRel L (h.set id ob) w' := by
  refine ⟨by simp [H.len], fun i x hx => ?_, H.lt, fun i b bs s hp => Nat.lt_of_lt_of_le (H.mem _ _ _ _ hp) fr.size, H.inj⟩
  by_cases q : i = id
  · subst q
    rw [List.getElem?_set_self (by simpa using hid)] at hx
    injection hx with hx; subst hx; exact hob
  · rw [List.getElem?_set_ne (fun e => q e.symm)] at hx
    refine ORel.step H fr (Ext.refl L w) (H.obs i x hx) rfl (fun b' bs s hb => hoth b' (H.mem _ _ _ _ hb) (fun e => q ?_))
    subst e
    exact H.inj i id _ _ _ hb hat

/-- A number falls away, and a new one stands for (part of) its block, or for a new block. -/
theorem HRel.turn {L : Loc} {h : List Ob} {w w' : World} (H : HRel L h w) {id b base sz b' base' sz' : Nat} {ob : Ob} (hat : L.at_ id = some (b, base, sz))
    (fr : Fr (Own L) w w') (hoth : ∀ k, k < w.heap.size → k ≠ b → w'.heap[k]? = w.heap[k]?) (hb' : b' = b ∨ w.heap.size ≤ b') (hlt' : b' < w'.heap.size)
    (hob : ORel ((L.kill id).push (b', base', sz')) w' L.len ob) : HRel ((L.kill id).push (b', base', sz')) (h.set id .dead ++ [ob]) w' ∧ Ext L w ((L.kill id).push (b', base', sz')) := by
  have hid := H.lt _ _ hat
  have ex : Ext L w ((L.kill id).push (b', base', sz')) := by
    refine ⟨by simp [Loc.push, Loc.kill], fun i hi => ?_, fun x ⟨i, p, hp⟩ => ?_⟩
    · rw [Loc.push_old (L.kill id) _ hi]
      by_cases q : i = id
      · exact .inl (by rw [q]; exact L.kill_same id)
      · exact .inr (L.kill_other q)
    · simp only [Loc.push] at hp
      split at hp
      · injection hp with hp; injection hp with h1 h2; subst h1
        rcases hb' with e | e
        · exact .inl (by rw [e]; exact ⟨id, _, hat⟩)
        · exact .inr e
      · by_cases q : i = id
        · subst q; rw [L.kill_same] at hp; cases hp
        · rw [L.kill_other q] at hp; exact .inl ⟨i, p, hp⟩
  refine ⟨⟨by simp [Loc.push, Loc.kill, H.len], fun i x hx => ?_, fun i p hp => ?_, fun i c bs s hp => ?_, fun i j c p q hp hq => ?_⟩, ex⟩
  · by_cases hi : i < h.length
    · rw [List.getElem?_append_left (by simpa using hi)] at hx
      have hi' : i < (L.kill id).len := by show i < L.len; rw [H.len]; exact hi
      by_cases q : i = id
      · subst q
        rw [List.getElem?_set_self (by simpa using hi)] at hx
        injection hx with hx; subst hx
        show _ = none
        rw [Loc.push_old _ _ hi', L.kill_same]
      · rw [List.getElem?_set_ne (fun e => q e.symm)] at hx
        refine ORel.step H fr ex (H.obs i x hx) (by rw [Loc.push_old _ _ hi', L.kill_other q]) (fun c bs s hb => hoth c (H.mem _ _ _ _ hb) (fun e => q ?_))
        subst e
        exact H.inj i id _ _ _ hb hat
    · rw [List.getElem?_append_right (by simpa using hi)] at hx
      simp only [List.length_set] at hx
      have : i = h.length := by
        rcases Nat.lt_or_ge (i - h.length) 1 with q | q
        · omega
        · rw [List.getElem?_eq_none (by simpa using q)] at hx; cases hx
      subst this
      simp at hx
      subst hx
      rw [← H.len]; exact hob
  · simp only [Loc.push] at hp ⊢
    split at hp
    · omega
    · by_cases q : i = id
      · subst q; rw [L.kill_same] at hp; cases hp
      · rw [L.kill_other q] at hp; have := H.lt i p hp; show i < L.len + 1; omega
  · simp only [Loc.push] at hp
    split at hp
    · injection hp with hp; injection hp with hp _; omega
    · by_cases q : i = id
      · subst q; rw [L.kill_same] at hp; cases hp
      · rw [L.kill_other q] at hp; exact Nat.lt_of_lt_of_le (H.mem _ _ _ _ hp) fr.size
  · have key : ∀ i p, i ≠ id → L.at_ i = some (b', p) → False := fun i p hi hp => by
      rcases hb' with e | e
      · subst e; exact hi (H.inj i id _ _ _ hp hat)
      · have := H.mem i _ _ _ hp; omega
    simp only [Loc.push] at hp hq
    split at hp <;> split at hq
    · omega
    · injection hp with hp; injection hp with hp _
      by_cases z : j = id
      · subst z; rw [L.kill_same] at hq; cases hq
      · rw [L.kill_other z] at hq; subst hp; exact (key j _ z hq).elim
    · injection hq with hq; injection hq with hq _
      by_cases z : i = id
      · subst z; rw [L.kill_same] at hp; cases hp
      · rw [L.kill_other z] at hp; subst hq; exact (key i _ z hp).elim
    · by_cases z : i = id
      · subst z; rw [L.kill_same] at hp; cases hp
      · by_cases z' : j = id
        · subst z'; rw [L.kill_same] at hq; cases hq
        · rw [L.kill_other z] at hp; rw [L.kill_other z'] at hq; exact H.inj i j c p q hp hq

end Go.Proofs.Ytdcdmpgigmhhpaa.E
