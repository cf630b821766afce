/- The layer E, part 6: new memory, stores, slices cut. No condition. -/
import Derived.Test.YtdcdmpgigmhhpaaE5
namespace Go.Proofs.Ytdcdmpgigmhhpaa.E
set_option linter.unusedSimpArgs false
set_option linter.unusedVariables false

/-! ### New rows -/
/-- A new block whose cells stand for elements. -/
theorem newRow_good {L : Loc} {h : List Ob} {w : World} (H : HRel L h w) (es : List V) (sz : Nat) (c : Array Value) (ty : TypeId) (fr : Nat × Nat) (hf : okFr fr c.size)
    (hs : ∀ (i : Nat) (e : V), es[i]? = some e → flat sz e)
    (hc : ∀ (i j : Nat) (e y : V), es[i]? = some e → e.cells[j]? = some y → ∃ v, c[i * sz + j]? = some v ∧ Rep L w y v) :
    HRel (L.push (w.heap.size, 0, sz)) (h ++ [.row es sz]) { w with heap := w.heap.push (.cells c ty fr) } ∧ Fr (Own L) w { w with heap := w.heap.push (.cells c ty fr) } ∧ Ext L w (L.push (w.heap.size, 0, sz)) := by
  have fr' := fr_alloc (Own L) w (.cells c ty fr)
  have ex := ext_push L w w.heap.size 0 sz (Nat.le_refl _)
  refine ⟨HRel.push H _ _ 0 sz ?_, fr', ex⟩
  refine ⟨w.heap.size, 0, c, ty, fr, L.push_new _, ?_, hf, hs, fun i j e y hi hj => ?_⟩
  · show (w.heap.push _)[w.heap.size]? = _
    simp
  · obtain ⟨v, g1, g2⟩ := hc i j e y hi hj
    exact ⟨v, by rw [Nat.zero_add]; exact g1, H.step_rep g2 fr' ex⟩

theorem okFr_zero (n : Nat) : okFr (0, 0) n := ⟨Nat.le_refl _, fun o _ h => by omega⟩

/-- What is laid for a variable. -/
def boxOf (arr : Bool) (v : V) : Option (List V × Nat) :=
  if arr then
    match v with
    | .agg cs => if cs.all V.scalar then some (cs, 1) else none
    | _ => none
  else
    match v with
    | .tup _ | .junk => none
    | v => if v.cells.all V.scalar then some ([v], v.cells.length) else none

def evBox (arr : Bool) (h : List Ob) (v : V) : Option (V × List Ob) :=
  (boxOf arr v).map fun p => (.ptr h.length 0 0, h ++ [.row p.1 p.2])

theorem scalar_cells {v : V} (h : v.scalar = true) : v.cells = [v] := by cases v <;> first | rfl | (simp [V.scalar] at h)

theorem box_good {P : Program} {L : Loc} {h h' : List Ob} {w : World} (H : HRel L h w) {arr : Bool} {t : TypeId} {v r : V} {x : Value} (rep : Rep L w v x) (he : evBox arr h v = some (r, h')) :
    Good P L w (Instr.box t x) r h' := by
  unfold evBox at he
  simp only [Option.map_eq_some_iff, Prod.mk.injEq] at he
  obtain ⟨⟨es, sz⟩, hb, rfl, rfl⟩ := he
  have go : (∀ (i : Nat) (e : V), es[i]? = some e → flat sz e) → (∀ (i j : Nat) (e y : V), es[i]? = some e → e.cells[j]? = some y → ∃ u, x.cells[i * sz + j]? = some u ∧ Rep L w y u) →
      Good P L w (Instr.box t x) (.ptr h.length 0 0) (h ++ [.row es sz]) := by
    intro h1 h2
    obtain ⟨g1, g2, g3⟩ := newRow_good H es sz x.cells t (0, 0) (okFr_zero _) h1 h2
    refine ⟨.pointer (some ⟨w.heap.size, 0, none⟩), _, _, rfl, ?_, g1, g2, g3⟩
    have := Rep.ptr (L := L.push (w.heap.size, 0, sz)) (w := { w with heap := w.heap.push (.cells x.cells t) }) (i := 0) (j := 0) (L.push_new (w.heap.size, 0, sz))
    rw [H.len] at this
    simpa using this
  unfold boxOf at hb
  cases arr with
  | true =>
    simp only [if_true] at hb
    split at hb
    · rename_i cs
      split at hb
      · rename_i hall
        injection hb with hb; injection hb with hb1 hb2; subst hb1; subst hb2
        have hsc : ∀ (i : Nat) (e : V), cs[i]? = some e → e.scalar = true := fun i e he => List.all_eq_true.1 hall e (List.mem_of_getElem? he)
        cases rep with
        | agg vs hl hr =>
          refine go (fun i e he => by unfold flat; rw [scalar_cells (hsc i e he)]; exact ⟨rfl, by simp [hsc i e he]⟩) (fun i j e y he hy => ?_)
          rw [scalar_cells (hsc i e he)] at hy
          cases j with
          | zero =>
            simp at hy; subst hy
            have hlt := (List.getElem?_eq_some_iff.1 he).1
            refine ⟨vs.getD i undef, ?_, hr i e he⟩
            show vs[i * 1 + 0]? = _
            simp [Array.getD, hl, hlt]
          | succ j => simp at hy
      · cases hb
    · cases hb
  | false =>
    simp only [Bool.false_eq_true, if_false] at hb
    have hb' : (if v.cells.all V.scalar then some ([v], v.cells.length) else none) = some (es, sz) ∧ (v.scalar = true ∨ ∃ cs, v = .agg cs) := by
      cases v <;> first | exact ⟨hb, .inl rfl⟩ | exact ⟨hb, .inr ⟨_, rfl⟩⟩ | cases hb
    obtain ⟨hb', hv⟩ := hb'
    obtain ⟨hall, rfl, rfl⟩ : v.cells.all V.scalar = true ∧ es = [v] ∧ sz = v.cells.length := by
      split at hb'
      · rename_i q; injection hb' with hb'; injection hb' with q1 q2; exact ⟨q, q1.symm, q2.symm⟩
      · cases hb'
    obtain ⟨c1, c2⟩ := rep.cells hv
    refine go (fun i e he => ?_) (fun i j e y he hy => ?_)
    · cases i with
      | zero => simp at he; subst he; exact ⟨rfl, hall⟩
      | succ i => simp at he
    · cases i with
      | zero =>
        simp at he; subst he
        have hlt := (List.getElem?_eq_some_iff.1 hy).1
        refine ⟨x.cells.getD j undef, ?_, c2 j y hy⟩
        simp [Array.getD, c1, hlt]
      | succ i => simp at he

theorem alloc_good {P : Program} {L : Loc} {h h' : List Ob} {w : World} (H : HRel L h w) {arr : Bool} {t : TypeId} {i : TypeInfo} {z : Value} {v r : V} (hi : P.info? t = some i) (hz : i.zero = some z) (hv : ofZero z = some v)
    (he : evBox arr h v = some (r, h')) : Good P L w (Instr.alloc t true (.tuple #[])) r h' := by
  obtain ⟨x, w', L', h1, rest⟩ := box_good (P := P) H (t := t) (ofZero_rep hv) he
  refine ⟨x, w', L', ?_, rest⟩
  rw [← h1]
  simp [Instr.alloc, zeroValue, typeInfo, hi, hz, Instr.box]

/-! ### Stores -/
def putCells (e : V) (j : Nat) (cs : List V) : V :=
  match e with
  | .agg ds => .agg (ds.take j ++ cs ++ ds.drop (j + cs.length))
  | _ => cs.headD .junk

def wrCells (h : List Ob) (v : V) (cs : List V) : Option (List Ob) :=
  match v with
  | .ptr id i j => match h[id]? with
    | some (.row es sz) =>
      if j + cs.length ≤ sz then (es[i]?).map fun e => h.set id (.row (es.set i (putCells e j cs)) sz)
      else if j = 0 ∧ sz = 1 ∧ i + cs.length ≤ es.length then some (h.set id (.row (es.take i ++ cs ++ es.drop (i + cs.length)) 1)) else none
    | _ => none
  | _ => none

def evStore (h : List Ob) (n : Nat) (a v : V) : Option (List Ob) :=
  match v with
  | .tup _ | .junk => none
  | v => if v.cells.length = n ∧ v.cells.all V.scalar ∧ 0 < n then wrCells h a v.cells else none

theorem toList_getD_rep {L : Loc} {w : World} {cs : List V} {xs : Array Value} (hl : xs.size = cs.length) (hr : ∀ k c, cs[k]? = some c → Rep L w c (xs.getD k undef)) :
    ∀ (k : Nat) (c : V), cs[k]? = some c → ∃ u, xs.toList[k]? = some u ∧ Rep L w c u := by
  intro k c hk
  have hlt := (List.getElem?_eq_some_iff.1 hk).1
  refine ⟨xs.getD k undef, ?_, hr k c hk⟩
  simp [Array.getD, hl, hlt]

theorem putCells_length {e : V} {j : Nat} {cs : List V} (h : j + cs.length ≤ e.cells.length) (hs : cs.all V.scalar = true) (h0 : 0 < cs.length) : (putCells e j cs).cells.length = e.cells.length := by
  unfold putCells
  split
  · rename_i ds
    simp [V.cells] at h ⊢
    omega
  · rename_i hne
    have : e.cells = [e] := by cases e <;> first | rfl | exact absurd rfl (hne _)
    rw [this] at h ⊢
    simp only [List.length_singleton] at h ⊢
    obtain ⟨c, rfl⟩ : ∃ c, cs = [c] := by
      match cs, h, h0 with
      | [c], _, _ => exact ⟨c, rfl⟩
      | [], _, h0 => simp at h0
      | _ :: _ :: _, h, _ => simp at h; omega
    simp only [List.all_cons, List.all_nil, Bool.and_true] at hs
    simp [scalar_cells hs]

theorem putCells_flat {sz : Nat} {e : V} {j : Nat} {cs : List V} (h : j + cs.length ≤ sz) (hs : cs.all V.scalar = true) (h0 : 0 < cs.length) (he : flat sz e) : flat sz (putCells e j cs) := by
  refine ⟨by rw [putCells_length (by rw [he.1]; exact h) hs h0, he.1], ?_⟩
  have ha := he.2
  unfold putCells
  split
  · simp only [V.cells, List.all_append, Bool.and_eq_true] at ha ⊢
    exact ⟨⟨List.all_eq_true.2 (fun x hx => List.all_eq_true.1 ha x (List.mem_of_mem_take hx)), hs⟩, List.all_eq_true.2 (fun x hx => List.all_eq_true.1 ha x (List.mem_of_mem_drop hx))⟩
  · match cs, h0, hs with
    | c :: cs, _, hs =>
      simp only [List.all_cons, Bool.and_eq_true] at hs
      simp [scalar_cells hs.1, hs.1]

theorem putCells_get {e : V} {j : Nat} {cs : List V} (h : j + cs.length ≤ e.cells.length) (hs : cs.all V.scalar = true) (h0 : 0 < cs.length) (k : Nat) (y : V) (hy : (putCells e j cs).cells[k]? = some y) :
    (j ≤ k ∧ k < j + cs.length ∧ cs[k - j]? = some y) ∨ (¬ (j ≤ k ∧ k < j + cs.length) ∧ e.cells[k]? = some y) := by
  unfold putCells at hy
  split at hy
  · rename_i ds
    simp only [V.cells] at h hy ⊢
    by_cases h1 : k < j
    · right
      refine ⟨by omega, ?_⟩
      rw [List.append_assoc, List.getElem?_append_left (by simp <;> omega), List.getElem?_take, if_pos h1] at hy
      exact hy
    · by_cases h2 : k < j + cs.length
      · left
        refine ⟨by omega, h2, ?_⟩
        rw [List.append_assoc, List.getElem?_append_right (by simp <;> omega)] at hy
        simp only [List.length_take] at hy
        rw [List.getElem?_append_left (by omega)] at hy
        rw [show min j ds.length = j by omega] at hy
        exact hy
      · right
        refine ⟨by omega, ?_⟩
        rw [List.getElem?_append_right (by simp <;> omega)] at hy
        simp only [List.length_append, List.length_take] at hy
        rw [List.getElem?_drop, show min j ds.length = j by omega, show j + cs.length + (k - (j + cs.length)) = k by omega] at hy
        exact hy
  · rename_i hne
    have he : e.cells = [e] := by cases e <;> first | rfl | exact absurd rfl (hne _)
    rw [he] at h
    simp only [List.length_singleton] at h
    obtain ⟨c, rfl⟩ : ∃ c, cs = [c] := by
      match cs, h, h0 with
      | [c], _, _ => exact ⟨c, rfl⟩
      | [], _, h0 => simp at h0
      | _ :: _ :: _, h, _ => simp at h; omega
    simp only [List.all_cons, List.all_nil, Bool.and_true] at hs
    simp only [List.length_singleton] at h ⊢
    have hj : j = 0 := by omega
    subst hj
    simp only [List.headD_cons, scalar_cells hs] at hy
    cases k with
    | zero => left; exact ⟨by omega, by omega, by simpa using hy⟩
    | succ k => simp at hy

/-- The run of a store of cells into an owned row. -/
theorem wr_good {P : Program} {L : Loc} {h h' : List Ob} {w : World} (H : HRel L h w) {v : V} {x : Value} {cs : List V} {us : List Value} (rep : Rep L w v x) (hl : us.length = cs.length)
    (hr : ∀ (k : Nat) (c : V), cs[k]? = some c → ∃ u, us[k]? = some u ∧ Rep L w c u) (hs : cs.all V.scalar = true) (h0 : 0 < cs.length) (he : wrCells h v cs = some h') :
    ∃ a w', x = .pointer (some a) ∧ (storeCells a us).run P w = .ok () w' ∧ HRel L h' w' ∧ Fr (Own L) w w' := by
  have hone : ∀ u ∈ us, u.oneCell' = true := by
    intro u hu
    obtain ⟨k, hk⟩ := List.getElem?_of_mem hu
    have hlt := (List.getElem?_eq_some_iff.1 hk).1
    have hc : cs[k]? = some cs[k] := by simp <;> omega
    obtain ⟨u', g1, g2⟩ := hr k _ hc
    rw [hk] at g1; injection g1 with g1; subst g1
    exact g2.one (List.all_eq_true.1 hs _ (List.getElem_mem _))
  unfold wrCells at he
  split at he
  · rename_i id i j
    split at he
    · rename_i es sz hob
      have hid : id < h.length := (List.getElem?_eq_some_iff.1 hob).1
      obtain ⟨b, base, c, e, fr, h1, h2, h3, h4, h5⟩ := H.obs id _ hob
      have hx : x = .pointer (some ⟨b, base + i * sz + j, none⟩) := by
        cases rep with
        | ptr g => rw [h1] at g; injection g with g; injection g with g1 g2; injection g2 with g2 g3; subst g1; subst g2; subst g3; rfl
        | ptrD _ g => rw [h1] at g; cases g
      have hb := (Array.getElem?_eq_some_iff.1 h2).1
      -- whatever is written, if it lies in the block
      have main : ∀ (es' : List V), base + i * sz + j + us.length ≤ c.size → (∀ (k : Nat) (x : V), es'[k]? = some x → flat sz x) →
          (∀ (a k : Nat) (x y : V), es'[a]? = some x → x.cells[k]? = some y →
            (base + i * sz + j ≤ base + a * sz + k ∧ base + a * sz + k < base + i * sz + j + us.length ∧ cs[base + a * sz + k - (base + i * sz + j)]? = some y) ∨
            (¬ (base + i * sz + j ≤ base + a * sz + k ∧ base + a * sz + k < base + i * sz + j + us.length) ∧ ∃ x', es[a]? = some x' ∧ x'.cells[k]? = some y)) →
          ∃ a w', x = .pointer (some a) ∧ (storeCells a us).run P w = .ok () w' ∧ HRel L (h.set id (.row es' sz)) w' ∧ Fr (Own L) w w' := by
        intro es' hfit hlen hget
        have hrun := E.run_storeCells P b (base + i * sz + j) e fr us 0 c w h2 h3 (by simpa using hfit) hone
        have hfr : Fr (Own L) w (E.put w b (.cells (writeAt c (base + i * sz + j + 0) us) e fr)) := fr_put ⟨id, _, h1⟩ h2 (writeAt_size _ _ _)
        refine ⟨_, _, hx, hrun, ?_, hfr⟩
        refine HRel.set H h1 hid hfr (fun k _ hk => put_other hk) ?_
        refine ⟨b, base, _, e, fr, h1, put_same hb, ?_, hlen, fun a k x y hx' hy => ?_⟩
        · rw [writeAt_size]; exact h3
        · rw [writeAt_get _ _ _ (by simpa using hfit)]
          rcases hget a k x y hx' hy with ⟨q1, q2, q3⟩ | ⟨q1, x', q2, q3⟩
          · rw [if_pos ⟨by omega, by omega⟩]
            obtain ⟨u, g1, g2⟩ := hr _ y q3
            exact ⟨u, by rw [show base + i * sz + j + 0 = base + i * sz + j from rfl]; exact g1, H.step_rep g2 hfr (Ext.refl _ _)⟩
          · rw [if_neg (by simpa using q1)]
            obtain ⟨v, g1, g2⟩ := h5 a k x' y q2 q3
            exact ⟨v, g1, H.step_rep g2 hfr (Ext.refl _ _)⟩
      split at he
      · rename_i hj
        simp only [Option.map_eq_some_iff] at he
        obtain ⟨y, hy, rfl⟩ := he
        have hyl := (h4 i y hy).1
        have hi : i < es.length := (List.getElem?_eq_some_iff.1 hy).1
        have hpl := putCells_length (e := y) (j := j) (cs := cs) (by omega) hs h0
        refine main _ ?_ (fun k z hz => ?_) (fun a k z u hz hu => ?_)
        · -- the last cell is there
          have hlast : y.cells[j + cs.length - 1]? = some y.cells[j + cs.length - 1] := by simp <;> omega
          obtain ⟨v, g1, _⟩ := h5 i _ y _ hy hlast
          have := (Array.getElem?_eq_some_iff.1 g1).1
          omega
        · by_cases q : k = i
          · subst q
            rw [List.getElem?_set_self hi] at hz
            injection hz with hz; subst hz; exact putCells_flat hj hs h0 (h4 _ y hy)
          · rw [List.getElem?_set_ne (fun e => q e.symm)] at hz; exact h4 k z hz
        · by_cases q : a = i
          · subst q
            rw [List.getElem?_set_self hi] at hz
            injection hz with hz; subst hz
            rcases putCells_get (e := y) (j := j) (cs := cs) (by omega) hs h0 k u hu with ⟨q1, q2, q3⟩ | ⟨q1, q2⟩
            · left; exact ⟨by omega, by omega, by rw [show base + a * sz + k - (base + a * sz + j) = k - j by omega]; exact q3⟩
            · right; exact ⟨by omega, y, hy, q2⟩
          · rw [List.getElem?_set_ne (fun e => q e.symm)] at hz
            have hzl := (h4 a z hz).1
            have hkl := (List.getElem?_eq_some_iff.1 hu).1
            right
            refine ⟨fun hh => ?_, z, hz, hu⟩
            rcases Nat.lt_or_gt_of_ne q with q | q
            · have : (a + 1) * sz ≤ i * sz := Nat.mul_le_mul_right _ q
              rw [Nat.add_mul] at this; omega
            · have : (i + 1) * sz ≤ a * sz := Nat.mul_le_mul_right _ q
              rw [Nat.add_mul] at this; omega
      · split at he
        · rename_i hh
          obtain ⟨rfl, rfl, hin⟩ := hh
          injection he with he; subst he
          have hsc : ∀ (k : Nat) (z : V), cs[k]? = some z → z.cells = [z] := fun k z hz => scalar_cells (List.all_eq_true.1 hs z (List.mem_of_getElem? hz))
          have parts : ∀ (k : Nat) (z : V), (es.take i ++ cs ++ es.drop (i + cs.length))[k]? = some z → (i ≤ k ∧ k < i + cs.length ∧ cs[k - i]? = some z) ∨ (¬ (i ≤ k ∧ k < i + cs.length) ∧ es[k]? = some z) := by
            intro k z hz
            by_cases c1 : k < i
            · right
              rw [List.append_assoc, List.getElem?_append_left (by simp <;> omega), List.getElem?_take, if_pos c1] at hz
              exact ⟨by omega, hz⟩
            · by_cases c2 : k < i + cs.length
              · left
                rw [List.append_assoc, List.getElem?_append_right (by simp <;> omega)] at hz
                simp only [List.length_take] at hz
                rw [List.getElem?_append_left (by omega), show min i es.length = i by omega] at hz
                exact ⟨by omega, c2, hz⟩
              · right
                rw [List.getElem?_append_right (by simp <;> omega)] at hz
                simp only [List.length_append, List.length_take] at hz
                rw [List.getElem?_drop, show min i es.length = i by omega, show i + cs.length + (k - (i + cs.length)) = k by omega] at hz
                exact ⟨by omega, hz⟩
          refine main _ ?_ (fun k z hz => ?_) (fun a k z u hz hu => ?_)
          · have hy : es[i + cs.length - 1]? = some es[i + cs.length - 1] := by simp <;> omega
            have hl1 := (h4 _ _ hy).1
            have hlast : (es[i + cs.length - 1]).cells[0]? = some (es[i + cs.length - 1]).cells[0] := by simp <;> omega
            obtain ⟨v, g1, _⟩ := h5 _ 0 _ _ hy hlast
            have := (Array.getElem?_eq_some_iff.1 g1).1
            omega
          · rcases parts k z hz with ⟨_, _, q⟩ | ⟨_, q⟩
            · have hz1 := List.all_eq_true.1 hs z (List.mem_of_getElem? q)
              unfold flat; rw [hsc _ z q]; exact ⟨rfl, by simp [hz1]⟩
            · exact h4 k z q
          · rcases parts a z hz with ⟨q1, q2, q⟩ | ⟨q1, q⟩
            · rw [hsc _ z q] at hu
              cases k with
              | zero =>
                simp at hu; subst hu
                left; exact ⟨by omega, by omega, by rw [show base + a * 1 + 0 - (base + i * 1 + 0) = a - i by omega]; exact q⟩
              | succ k => simp at hu
            · right
              have hzl := (h4 a z q).1
              have hkl := (List.getElem?_eq_some_iff.1 hu).1
              exact ⟨by omega, z, q, hu⟩
        · cases he
    · cases he
  · cases he

theorem store_good {P : Program} {L : Loc} {h h' : List Ob} {w : World} (H : HRel L h w) {t : TypeId} {i : TypeInfo} {a v : V} {x y : Value} (hi : P.info? t = some i) (ra : Rep L w a x) (rv : Rep L w v y)
    (he : evStore h i.size a v = some h') : ∃ w', (Instr.storeAt t x y).run P w = .ok () w' ∧ HRel L h' w' ∧ Fr (Own L) w w' := by
  unfold evStore at he
  have main : (v.scalar = true ∨ ∃ cs, v = .agg cs) → (if v.cells.length = i.size ∧ v.cells.all V.scalar ∧ 0 < i.size then wrCells h a v.cells else none) = some h' →
      ∃ w', (Instr.storeAt t x y).run P w = .ok () w' ∧ HRel L h' w' ∧ Fr (Own L) w w' := by
    intro hv he
    split at he
    · rename_i hh
      obtain ⟨c1, c2⟩ := rv.cells hv
      obtain ⟨ad, w', e1, e2, e3, e4⟩ := wr_good (P := P) H ra (by simpa using c1) (toList_getD_rep c1 c2) hh.2.1 (by omega) he
      subst e1
      refine ⟨w', ?_, e3, e4⟩
      simp only [Instr.storeAt, Instr.sureAddr, storeVar, Sem.run_bind, Sem.run_pure, Result.andThen_ok, run_sizeOf w hi]
      rw [if_neg (by simp [c1, hh.1])]
      simp [e2]
    · cases he
  cases v <;> first | (cases he; done) | exact main (.inl rfl) he | exact main (.inr ⟨_, rfl⟩) he

end Go.Proofs.Ytdcdmpgigmhhpaa.E
