/- The layer E, part 25: from what a claim says of its input to the layer's values. No condition. -/
import Derived.Test.YtdcdmpgigmhhpaaE24
import Derived.ChangeOld
import Derived.ChangeSlices
namespace Go.Proofs.Ytdcdmpgigmhhpaa.E
set_option linter.unusedSimpArgs false
set_option linter.unusedVariables false

def L0 : Loc := ⟨fun _ => none, 0⟩

theorem own0 (b : Nat) : ¬ Own L0 b := fun ⟨_, _, h⟩ => by cases h
theorem hrel0 (w : World) : HRel L0 [] w := ⟨rfl, (fun id ob h => by simp at h), (fun id p h => by cases h), (fun id b bs s h => by cases h), (fun i j b p q h => by cases h)⟩

def isAggT (P : Program) (t : TypeId) : Bool := match P.underlying t with
  | some (.struct _) | some (.array _ _) => true
  | _ => false

/-- One value of so many cells. -/
def elemV (P : Program) (e : TypeId) (cs : List V) : V := match isAggT P e, cs with
  | false, [c] => c
  | _, cs => .agg cs

variable {H : Type}
mutual
def dV (P : Program) : DataW H → TypeId → Option (List V)
  | .lit l, t => match P.underlying t, l with
    | some .bool, .bool b => some [.bool b]
    | some (.int k'), .int k n => if k = k' ∧ (Lit.int k n).wf = true then some [.int k n] else none
    | some .string, .string s => if s.length ≤ maxLen then some [.str s] else none
    | _, _ => none
  | .nil, t => match P.underlying t with
    | some (.pointer _) => some [.nilp]
    | some (.slice _) => some [.nils]
    | some (.map _ _) => some [.nilm]
    | _ => none
  | .ptr d, t => match P.underlying t with
    | some (.pointer e) => if 0 < P.cellsOf e then (match dV P d e with | some cs => some [.ref (elemV P e cs) 0] | none => none) else none
    | _ => none
  | .slice elems _, t => match P.underlying t with
    | some (.slice e) => if 0 < P.cellsOf e ∧ elems.length ≤ maxLen then (match dVs P elems e with | some es => some [.sl es] | none => none) else none
    | _ => none
  | .agg parts, t => match P.underlying t with
    | some (.struct fs) => dVf P parts fs.toList 0 (P.cellsOf t)
    | some (.array n e) => if n * P.cellsOf e = P.cellsOf t then dVa P parts e else none
    | _ => none
  | _, _ => none
def dVs (P : Program) : List (DataW H) → TypeId → Option (List V)
  | [], _ => some []
  | d :: ds, e => match dV P d e, dVs P ds e with
    | some cs, some es => some (elemV P e cs :: es)
    | _, _ => none
def dVf (P : Program) : List (DataW H) → List Field → Nat → Nat → Option (List V)
  | [], [], o, tot => if o = tot then some [] else none
  | d :: ds, f :: fs, o, tot => if f.offset = o then (match dV P d f.type, dVf P ds fs (o + P.cellsOf f.type) tot with
      | some a, some b => some (a ++ b)
      | _, _ => none) else none
  | _, _, _, _ => none
def dVa (P : Program) : List (DataW H) → TypeId → Option (List V)
  | [], _ => some []
  | d :: ds, e => match dV P d e, dVa P ds e with
    | some a, some b => some (a ++ b)
    | _, _ => none
end

/-- What is said of cells. -/
structure WRep (w : World) (vs : List V) (cs : List Value) : Prop where
  len : vs.length = cs.length
  sc : ∀ v, v ∈ vs → v.scalar = true
  rep : ∀ (k : Nat) v x, vs[k]? = some v → cs[k]? = some x → Rep L0 w v x

theorem WRep.nil {w : World} : WRep w [] [] := ⟨rfl, fun _ h => by simp at h, fun k v x h => by simp at h⟩
theorem WRep.one {w : World} {v : V} {x : Value} (h : Rep L0 w v x) (s : v.scalar = true) : WRep w [v] [x] :=
  ⟨rfl, fun u hu => by simp at hu; subst hu; exact s, fun k u y h1 h2 => by
    cases k with
    | zero => simp at h1 h2; subst h1; subst h2; exact h
    | succ k => simp at h1⟩
theorem WRep.append {w : World} {vs us : List V} {cs ds : List Value} (h : WRep w vs cs) (g : WRep w us ds) : WRep w (vs ++ us) (cs ++ ds) :=
  ⟨by simp [h.len, g.len], fun v hv => (List.mem_append.1 hv).elim (h.sc v) (g.sc v), fun k v x h1 h2 => by
    rw [List.getElem?_append] at h1 h2
    rw [h.len] at h1
    split at h1
    · rename_i q; rw [if_pos q] at h2; exact h.rep k v x h1 h2
    · rename_i q; rw [if_neg q] at h2; exact g.rep _ v x h1 h2⟩

theorem elemV_cells {P : Program} {e : TypeId} {cs : List V} (sc : ∀ v, v ∈ cs → v.scalar = true) : (elemV P e cs).cells = cs := by
  unfold elemV
  split
  · rename_i c _
    have := sc c (by simp)
    cases c <;> first | rfl | (simp [V.scalar] at this)
  · rfl

theorem row_of {w : World} {a : Addr} {n : Nat} {cs : List Value} (h : w.cells? 0 a n = some cs) (hn : 0 < n) : a.spot = none ∧ a.block < w.heap.size ∧ cs.length = n ∧ ∀ j, j < n → w.cell? ⟨a.block, a.off + j, none⟩ = cs[j]? := by
  obtain ⟨_, hl, hc⟩ := World.cells?_some h
  have hb := World.cells?_block h hn
  have hs : a.spot = none := by
    have h0 := hc 0 hn
    rw [List.getElem?_eq_getElem (by omega)] at h0
    cases hs : a.spot with
    | none => rfl
    | some s =>
      unfold World.cell? at h0
      simp [Addr.add, hs] at h0
      split at h0 <;> simp at h0
  refine ⟨hs, hb, hl, fun j hj => ?_⟩
  have := hc j hj
  rw [← this]
  obtain ⟨b, o, s⟩ := a
  simp only at hs; subst hs
  rw [addr_add]

theorem ref_rep {w : World} {P : Program} {e : TypeId} {a : Addr} {cs : List Value} {vs : List V} (h : w.cells? 0 a (P.cellsOf e) = some cs) (hn : 0 < P.cellsOf e) (c : WRep w vs cs) : Rep L0 w (.ref (elemV P e vs) 0) (.pointer (some a)) := by
  obtain ⟨h1, h2, h3, h4⟩ := row_of h hn
  obtain ⟨b, o, s⟩ := a
  simp only at h1; subst h1
  have hcells := elemV_cells (P := P) (e := e) c.sc
  refine Rep.ref (o := o) (j := 0) (fun k => cs.getD k undef) (own0 b) h2 (fun k v hk => ?_) (fun k v hk => ?_)
  · rw [hcells] at hk
    have hkl := (List.getElem?_eq_some_iff.1 hk).1
    rw [c.len] at hkl
    rw [h4 k (by omega), List.getD_eq_getElem?_getD, List.getElem?_eq_getElem hkl]; rfl
  · rw [hcells] at hk
    have hkl := (List.getElem?_eq_some_iff.1 hk).1
    rw [c.len] at hkl
    refine c.rep k v _ hk ?_
    rw [List.getD_eq_getElem?_getD, List.getElem?_eq_getElem hkl]; rfl

theorem mapAll_mapM {α β : Type} {f : α → Option β} : ∀ {l : List α} {r : List β}, l.mapM f = some r → (l = [] ∧ r = []) ∨ ∃ x xs y ys, l = x :: xs ∧ r = y :: ys ∧ f x = some y ∧ xs.mapM f = some ys
  | [], r, h => by simp at h; exact .inl ⟨rfl, h⟩
  | x :: xs, r, h => by
    rw [List.mapM_cons] at h
    cases hx : f x with
    | none => simp [hx] at h
    | some y =>
      cases hxs : xs.mapM f with
      | none => simp [hx, hxs] at h
      | some ys => simp [hx, hxs] at h; exact .inr ⟨x, xs, y, ys, rfl, h.symm, hx, hxs⟩

section
variable {enc : TypeId × Value → H} {P : Program} {w : World} {sp : Nat → Bool} {held : Bool}

def Here (enc : TypeId × Value → H) (P : Program) (w : World) (sp : Nat → Bool) (held : Bool) (fuel : Nat) : Prop :=
  ∀ (t : TypeId) (cs : List Value) (d : DataW H) (ps : List MemPlace) (vs : List V), DataW.trod enc P w 0 sp held fuel t cs = some (d, ps) → dV P d t = some vs → WRep w vs cs

theorem dVf_le : ∀ (ds : List (DataW H)) (fs : List Field) (o tot : Nat) (us : List V), dVf P ds fs o tot = some us → o ≤ tot ∧ ∀ f, f ∈ fs → f.offset + P.cellsOf f.type ≤ tot
  | [], [], o, tot, us, h => by
    simp only [dVf] at h
    split at h
    · rename_i q; exact ⟨by omega, fun f hf => by simp at hf⟩
    · cases h
  | [], _ :: _, o, tot, us, h => by simp [dVf] at h
  | _ :: _, [], o, tot, us, h => by simp [dVf] at h
  | d :: ds, f :: fs, o, tot, us, h => by
    simp only [dVf] at h
    split at h
    · rename_i ho
      split at h
      · rename_i a b ha hb
        obtain ⟨g1, g2⟩ := dVf_le ds fs _ tot b hb
        refine ⟨by omega, fun g hg => ?_⟩
        rcases List.mem_cons.1 hg with q | q
        · subst q; omega
        · exact g2 g q
      · cases h
    · cases h

theorem fields_rep {fuel : Nat} (ih : Here enc P w sp held fuel) (cs : List Value) : ∀ (fs : List Field) (o : Nat) (xs : List (DataW H × List MemPlace)) (us : List V),
    (fs.mapM fun f => DataW.trod enc P w 0 sp held fuel f.type ((cs.drop f.offset).take (P.cellsOf f.type))) = some xs → dVf P (xs.map (·.1)) fs o cs.length = some us → WRep w us (cs.drop o)
  | [], o, xs, us, h, hv => by
    simp at h; subst h
    simp only [List.map_nil, dVf] at hv
    split at hv
    · rename_i q
      injection hv with hv; subst hv
      rw [q, List.drop_length]
      exact WRep.nil
    · cases hv
  | f :: fs, o, xs, us, h, hv => by
    have hle := (dVf_le _ _ _ _ _ hv).2 f (by simp)
    rcases mapAll_mapM h with ⟨q, _⟩ | ⟨x, xs', y, ys, e1, e2, e3, e4⟩
    · cases q
    · injection e1 with e1 e1'; subst e1; subst e1'; subst e2
      simp only [List.map_cons, dVf] at hv
      split at hv
      · rename_i ho
        split at hv
        · rename_i a b ha hb
          injection hv with hv; subst hv
          have ra := ih _ _ _ _ _ e3 ha
          have rb := fields_rep ih cs fs (o + P.cellsOf f.type) ys b e4 hb
          have : cs.drop o = (cs.drop f.offset).take (P.cellsOf f.type) ++ cs.drop (o + P.cellsOf f.type) := by
            rw [ho, ← List.drop_drop, List.take_append_drop]
          rw [this]
          exact ra.append rb
        · cases hv
      · cases hv

theorem arr_rep {fuel : Nat} (ih : Here enc P w sp held fuel) (cs : List Value) (e : TypeId) : ∀ (n k : Nat) (xs : List (DataW H × List MemPlace)) (us : List V),
    ((List.range' k n).mapM fun i => DataW.trod enc P w 0 sp held fuel e ((cs.drop (i * P.cellsOf e)).take (P.cellsOf e))) = some xs → dVa P (xs.map (·.1)) e = some us →
    (k + n) * P.cellsOf e ≤ cs.length → WRep w us ((cs.drop (k * P.cellsOf e)).take (n * P.cellsOf e))
  | 0, k, xs, us, h, hv, _ => by
    simp at h; subst h
    simp [dVa] at hv; subst hv
    simpa using WRep.nil
  | n + 1, k, xs, us, h, hv, hle => by
    rw [List.range'_succ] at h
    rcases mapAll_mapM h with ⟨q, _⟩ | ⟨x, xs', y, ys, e1, e2, e3, e4⟩
    · cases q
    · injection e1 with e1 e1'; subst e1; subst e1'; subst e2
      simp only [List.map_cons, dVa] at hv
      split at hv
      · rename_i a b ha hb
        injection hv with hv; subst hv
        have ra := ih _ _ _ _ _ e3 ha
        have rb := arr_rep ih cs e n (k + 1) ys b e4 hb (by rw [show k + 1 + n = k + (n + 1) by omega]; exact hle)
        have : (cs.drop (k * P.cellsOf e)).take ((n + 1) * P.cellsOf e) = (cs.drop (k * P.cellsOf e)).take (P.cellsOf e) ++ (cs.drop ((k + 1) * P.cellsOf e)).take (n * P.cellsOf e) := by
          rw [show (n + 1) * P.cellsOf e = P.cellsOf e + n * P.cellsOf e by rw [Nat.add_mul]; omega, List.take_add, List.drop_drop, show k * P.cellsOf e + P.cellsOf e = (k + 1) * P.cellsOf e by rw [Nat.add_mul]; omega]
        rw [this]
        exact ra.append rb
      · cases hv

/-- What is said of a slice's elements. -/
theorem elems_rep {fuel : Nat} (ih : Here enc P w sp held fuel) (a : Addr) (e : TypeId) (hn : 0 < P.cellsOf e) : ∀ (n k : Nat) (xs : List (DataW H × List MemPlace)) (es : List V),
    ((List.range' k n).mapM fun i => (w.cells? 0 (a.add (i * P.cellsOf e)) (P.cellsOf e)).bind (DataW.trod enc P w 0 sp held fuel e)) = some xs → dVs P (xs.map (·.1)) e = some es →
    es.length = n ∧ ∀ (i : Nat) (v : V), es[i]? = some v → ∃ cs us, w.cells? 0 (a.add ((k + i) * P.cellsOf e)) (P.cellsOf e) = some cs ∧ v = elemV P e us ∧ WRep w us cs
  | 0, k, xs, es, h, hv => by
    simp at h; subst h
    simp [dVs] at hv; subst hv
    exact ⟨rfl, fun i v h => by simp at h⟩
  | n + 1, k, xs, es, h, hv => by
    rw [List.range'_succ] at h
    rcases mapAll_mapM h with ⟨q, _⟩ | ⟨x, xs', y, ys, e1, e2, e3, e4⟩
    · cases q
    · injection e1 with e1 e1'; subst e1; subst e1'; subst e2
      simp only [List.map_cons, dVs] at hv
      split at hv
      · rename_i us es' ha hb
        injection hv with hv; subst hv
        obtain ⟨g1, g2⟩ := elems_rep ih a e hn n (k + 1) ys es' e4 hb
        refine ⟨by simp [g1], fun i v hi => ?_⟩
        cases i with
        | zero =>
          simp at hi; subst hi
          simp only [Option.bind_eq_some_iff] at e3
          obtain ⟨cs, q1, q2⟩ := e3
          exact ⟨cs, us, by simpa using q1, rfl, ih _ _ _ _ _ q2 ha⟩
        | succ i =>
          simp at hi
          obtain ⟨cs, us', q1, q2, q3⟩ := g2 i v hi
          exact ⟨cs, us', by rw [show k + (i + 1) = k + 1 + i by omega]; exact q1, q2, q3⟩
      · cases hv

theorem slice_rep {a : Addr} {e : TypeId} {len cap : Nat} {es : List V} (hn : 0 < P.cellsOf e) (hcap : len ≤ cap) (hl : es.length = len)
    (h : ∀ (i : Nat) (v : V), es[i]? = some v → ∃ cs us, w.cells? 0 (a.add ((0 + i) * P.cellsOf e)) (P.cellsOf e) = some cs ∧ v = elemV P e us ∧ WRep w us cs) : Rep L0 w (.sl es) (.slice (some a) len cap) := by
  cases es with
  | nil => simp at hl; subst hl; exact .sl0 a cap
  | cons v0 es0 =>
    obtain ⟨cs0, us0, z1, z2, z3⟩ := h 0 v0 rfl
    have r0 := row_of z1 hn
    obtain ⟨b, o, s⟩ := a
    have hs : s = none := by have := r0.1; simpa [Addr.add] using this
    subst hs
    have hb : b < w.heap.size := by have := r0.2.1; simpa [Addr.add] using this
    subst hl
    have key : ∀ (i : Nat) (v : V), (v0 :: es0)[i]? = some v → ∃ cs us, WRep w us cs ∧ v.cells = us ∧ cs.length = P.cellsOf e ∧ ∀ j, j < P.cellsOf e → w.cell? ⟨b, o + i * P.cellsOf e + j, none⟩ = cs[j]? := by
      intro i v hi
      obtain ⟨cs, us, q1, q2, q3⟩ := h i v hi
      obtain ⟨p1, p2, p3, p4⟩ := row_of q1 hn
      refine ⟨cs, us, q3, by rw [q2]; exact elemV_cells q3.sc, p3, fun j hj => ?_⟩
      have := p4 j hj
      rw [Nat.zero_add, addr_add] at this
      exact this
    refine Rep.sl (sz := P.cellsOf e) (fun i j => (w.cell? ⟨b, o + i * P.cellsOf e + j, none⟩).getD undef) (own0 b) hb hcap (fun i v hi => ?_) (fun i j v c hi hj => ?_) (fun i j v c hi hj => ?_)
    · obtain ⟨cs, us, q1, q2, q3, q4⟩ := key i v hi
      exact ⟨by rw [q2, q1.len, q3], by rw [q2]; exact List.all_eq_true.2 q1.sc⟩
    · obtain ⟨cs, us, q1, q2, q3, q4⟩ := key i v hi
      rw [q2] at hj
      have hjl := (List.getElem?_eq_some_iff.1 hj).1
      rw [q1.len, q3] at hjl
      rw [q4 j hjl, List.getElem?_eq_getElem (by omega)]; rfl
    · obtain ⟨cs, us, q1, q2, q3, q4⟩ := key i v hi
      rw [q2] at hj
      have hjl := (List.getElem?_eq_some_iff.1 hj).1
      rw [q1.len, q3] at hjl
      refine q1.rep j c _ hj ?_
      show cs[j]? = some ((w.cell? ⟨b, o + i * P.cellsOf e + j, none⟩).getD undef)
      rw [q4 j hjl, List.getElem?_eq_getElem (by omega)]; rfl
end

theorem trod_rep {enc : TypeId × Value → H} {P : Program} {w : World} {sp : Nat → Bool} {held : Bool} : ∀ (fuel : Nat) (t : TypeId) (cs : List Value) (d : DataW H) (ps : List MemPlace) (vs : List V),
    DataW.trod enc P w 0 sp held fuel t cs = some (d, ps) → dV P d t = some vs → WRep w vs cs := by
  intro fuel
  induction fuel with
  | zero => intro t cs d ps vs h; cases h
  | succ fuel ih =>
    intro t cs d ps vs h hv
    simp only [DataW.trod] at h
    split at h
    · rename_i hu
      injection h with h; injection h with h1 h2; subst h1
      simp only [dV, hu] at hv
      injection hv with hv; subst hv
      exact .one (.bool _) rfl
    · rename_i k k' n hu
      split at h
      · rename_i hq
        injection h with h; injection h with h1 h2; subst h1
        simp only [dV, hu] at hv
        split at hv
        · injection hv with hv; subst hv
          rw [hq.1]
          exact .one (.int _ _) rfl
        · cases hv
      · cases h
    · rename_i k k' n hu
      split at h
      · injection h with h; injection h with h1 h2; subst h1
        simp only [dV, hu] at hv
        cases hv
      · cases h
    · rename_i s hu
      split at h
      · injection h with h; injection h with h1 h2; subst h1
        simp only [dV, hu] at hv
        split at hv
        · injection hv with hv; subst hv
          exact .one (.str s.data.toList) rfl
        · cases hv
      · cases h
    · rename_i e hu
      injection h with h; injection h with h1 h2; subst h1
      simp only [dV, hu] at hv
      injection hv with hv; subst hv
      exact .one .nilp rfl
    · rename_i e a hu
      simp only [Option.map_eq_some_iff, Option.bind_eq_some_iff] at h
      obtain ⟨x, ⟨cs', h1, h2⟩, h3⟩ := h
      injection h3 with h3 h4; subst h3
      simp only [dV, hu] at hv
      split at hv
      · rename_i hn
        split at hv
        · rename_i us hd
          injection hv with hv; subst hv
          exact .one (ref_rep h1 hn (ih e cs' x.1 x.2 us h2 hd)) rfl
        · cases hv
      · cases hv
    · rename_i e hu
      injection h with h; injection h with h1 h2; subst h1
      simp only [dV, hu] at hv
      injection hv with hv; subst hv
      exact .one .nils rfl
    · rename_i e a len cap hu
      split at h
      · rename_i hc
        simp only [Option.bind_eq_some_iff, Option.map_eq_some_iff] at h
        obtain ⟨elems, h1, rest, h2, h3⟩ := h
        injection h3 with h3 h4; subst h3
        simp only [dV, hu] at hv
        split at hv
        · rename_i hn
          split at hv
          · rename_i es hd
            injection hv with hv; subst hv
            rw [List.range_eq_range'] at h1
            obtain ⟨g1, g2⟩ := elems_rep ih a e hn.1 len 0 elems es h1 hd
            exact .one (slice_rep hn.1 hc.2.1 g1 g2) rfl
          · cases hv
        · cases hv
      · cases h
    · rename_i cs x1 cs1 fs hu
      split at h
      · rename_i hl
        simp only [Option.map_eq_some_iff] at h
        obtain ⟨xs, h1, h2⟩ := h
        injection h2 with h2 h3; subst h2
        simp only [dV, hu] at hv
        rw [← hl] at hv
        simpa using fields_rep ih cs fs.toList 0 xs vs h1 hv
      · cases h
    · rename_i cs x1 cs1 n e hu
      split at h
      · rename_i hl
        simp only [Option.map_eq_some_iff] at h
        obtain ⟨xs, h1, h2⟩ := h
        injection h2 with h2 h3; subst h2
        simp only [dV, hu] at hv
        split at hv
        · rename_i hn
          rw [List.range_eq_range'] at h1
          have := arr_rep ih cs e n 0 xs vs h1 hv (by rw [Nat.zero_add, hn, hl]; exact Nat.le_refl _)
          rw [Nat.zero_mul, List.drop_zero, hn, ← hl, List.take_length] at this
          exact this
        · cases hv
      · cases h
    · rename_i hu
      injection h with h; injection h with h1 h2; subst h1
      simp [dV, hu] at hv
    · rename_i hu
      split at h
      · injection h with h; injection h with h1 h2; subst h1
        simp [dV] at hv
      · simp only [Option.map_eq_some_iff] at h
        obtain ⟨x, h1, h2⟩ := h
        injection h2 with h2 h3; subst h2
        simp [dV] at hv
      · cases h
    · rename_i hu
      injection h with h; injection h with h1 h2; subst h1
      simp only [dV, hu] at hv
      injection hv with hv; subst hv
      exact .one .nilm rfl
    · rename_i hu
      split at h
      · split at h
        · simp only [Option.bind_eq_some_iff] at h
          obtain ⟨x, h1, h2⟩ := h
          split at h2
          · injection h2 with h2; injection h2 with h2 h3; subst h2
            simp [dV] at hv
          · cases h2
        · cases h
      · cases h
    all_goals first
      | (injection h with h; injection h with h1 h2; subst h1; simp only [dV] at hv; split at hv <;> simp_all; done)
      | (split at h <;> first | (cases h; done) | (injection h with h; injection h with h1 h2; subst h1; simp [dV] at hv; done))
      | (cases h; done)
      | trace_state

end Go.Proofs.Ytdcdmpgigmhhpaa.E
