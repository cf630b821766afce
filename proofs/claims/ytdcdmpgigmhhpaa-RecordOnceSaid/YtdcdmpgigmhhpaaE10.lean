/- The layer E, part 10: append whole; copy; make; conversions between bytes and strings. No condition. -/
import Derived.Test.YtdcdmpgigmhhpaaE9
namespace Go.Proofs.Ytdcdmpgigmhhpaa.E
set_option linter.unusedSimpArgs false
set_option linter.unusedVariables false

theorem getElem?_rangeMap (f : Nat → Value) (n k : Nat) (h : k < n) : (((List.range n).map f).toArray : Array Value)[k]? = some (f k) := by simp [h]

/-- What an append is given: the destination's type, its elements', the other's. -/
structure AppT (P : Program) (ts : Array TypeId) (t e t2 : TypeId) (i : TypeInfo) (z : Value) (u2 : TypeDesc) : Prop where
  t0 : ts[0]? = some t
  t1 : ts[1]? = some t2
  u0 : P.underlying t = some (.slice e)
  u1 : P.underlying t2 = some u2
  ni : ∀ k, u2 ≠ .int k
  inf : P.info? e = some i
  zero : i.zero = some z
  bytes : 0 < i.bytes
  cells : z.cells.size = i.size
  pos : 0 < i.size

theorem run_append_fits {P : Program} {w : World} {ts : Array TypeId} {ty t e t2 : TypeId} {i : TypeInfo} {z : Value} {u2 : TypeDesc} (T : AppT P ts t e t2 i z u2)
    {base : Option Addr} {len cap n : Nat} {x : Value} {new : Array Value} (hl : ∀ w', (Builtin.lenOf x).run P w' = .ok n w')
    (hn : ∀ w', w'.heap = w.heap → (Builtin.firstCells i.size n x).run P w' = .ok new w') (hg : len + n ≤ cap) :
    (Builtin.append_ ts ty #[.slice base len cap, x]).run P w =
      ((match base with | some a => storeCells (a.add (len * i.size)) new.toList | none => pure () : Sem Unit).run P w).andThen fun _ w' => .ok (.slice base (len + n) cap) w' := by
  have hu2 := T.u1
  have hni := T.ni
  have hzint : (match u2 with | .int _ => true | _ => false) = false := by cases u2 <;> first | rfl | exact absurd rfl (hni _)
  unfold Builtin.append_
  rw [T.t0, T.t1]
  simp only [List.getElem?_toArray, List.getElem?_cons_zero, List.getElem?_cons_succ, Sem.run_bind, run_underlying T.u0, run_underlying hu2, Result.andThen_ok, Sem.run_pure, run_sizeOf w T.inf, hzint, Bool.false_eq_true, if_false, hl]
  rw [if_pos hg, if_pos (by rfl : (!false) = true)]
  rw [Sem.run_bind, hn w rfl, Result.andThen_ok]
  cases base with
  | none => rfl
  | some a => simp only [Sem.run_bind, Sem.run_pure]

theorem ext_turn (L : Loc) (w : World) {id b base sz b' base' sz' : Nat} (hat : L.at_ id = some (b, base, sz)) (hb' : b' = b ∨ w.heap.size ≤ b') : Ext L w ((L.kill id).push (b', base', sz')) := by
  refine ⟨by simp [Loc.push, Loc.kill], fun q hq => ?_, fun q ⟨q', p, hp⟩ => ?_⟩
  · rw [Loc.push_old (L.kill id) _ hq]
    by_cases z : q = id
    · exact .inl (by rw [z]; exact L.kill_same id)
    · exact .inr (L.kill_other z)
  · simp only [Loc.push] at hp
    split at hp
    · injection hp with hp; injection hp with p1 p2; subst p1
      rcases hb' with e | e
      · exact .inl (by rw [e]; exact ⟨id, _, hat⟩)
      · exact .inr e
    · by_cases z : q' = id
      · subst z; rw [L.kill_same] at hp; cases hp
      · rw [L.kill_other z] at hp; exact .inl ⟨q', p, hp⟩

/-- A new array: its cells. -/
theorem app_grow {P : Program} {L : Loc} {w : World} {ts : Array TypeId} {ty t e t2 : TypeId} {i : TypeInfo} {z : Value} {u2 : TypeDesc} (T : AppT P ts t e t2 i z u2) {y : Value} {es ds : List V} {fn fo : Nat → Value}
    (hlen : ∀ w', (Builtin.lenOf y).run P w' = .ok es.length w') (hfl : ∀ (k : Nat) (e : V), es[k]? = some e → flat i.size e)
    (hnew : ∀ w', w'.heap = w.heap → (Builtin.firstCells i.size es.length y).run P w' = .ok ((List.range (es.length * i.size)).map fn).toArray w')
    (hrn : ∀ (a j : Nat) (e y : V), es[a]? = some e → e.cells[j]? = some y → Rep L w y (fn (a * i.size + j)))
    (base : Option Addr) (cap : Nat) (hd : ∀ (k : Nat) (e : V), ds[k]? = some e → flat i.size e)
    (hro : ∀ (a j : Nat) (e y : V), ds[a]? = some e → e.cells[j]? = some y → Rep L w y (fo (a * i.size + j)))
    (hfo : ∀ w', w'.heap = w.heap → (Builtin.firstCells i.size ds.length (.slice base ds.length cap)).run P w' = .ok ((List.range (ds.length * i.size)).map fo).toArray w')
    (hcap : cap < ds.length + es.length) (hb : (ds.length + es.length) * i.bytes ≤ roomMax) : ∃ newCap c, ds.length + es.length ≤ newCap ∧
      (Builtin.append_ ts ty #[.slice base ds.length cap, y]).run P w = .ok (.slice (some ⟨w.heap.size, 0, none⟩) (ds.length + es.length) newCap) { w with drawn := w.drawn + 1, heap := w.heap.push (.cells c e) } ∧
      c.size = newCap * i.size ∧ (∀ (k : Nat) (e : V), (ds ++ es)[k]? = some e → flat i.size e) ∧ ∀ (a j : Nat) (e y : V), (ds ++ es)[a]? = some e → e.cells[j]? = some y → ∃ v, c[a * i.size + j]? = some v ∧ Rep L w y v := by
  obtain ⟨newCap, h1, h2⟩ := run_append_grow T.t0 T.t1 T.u0 T.u1 T.ni T.inf T.zero T.bytes (ty := ty) (base := base) (len := ds.length) (cap := cap) hlen hfo hnew hcap hb
  refine ⟨newCap, _, h1, h2, ?_, ?_⟩
  · simp only [Array.size_append, List.size_toArray, List.length_map, List.length_range, size_zeroCells, T.cells]
    have : newCap * i.size = (ds.length + es.length) * i.size + (newCap - (ds.length + es.length)) * i.size := by rw [← Nat.add_mul]; congr 1; omega
    rw [this, Nat.add_mul]
  · have := rows_append (L := L) (w := w) (c := ((List.range (ds.length * i.size)).map fo).toArray ++ ((List.range (es.length * i.size)).map fn).toArray ++ Builtin.zeroCells z.cells (newCap - (ds.length + es.length))) hd hfl hro hrn 0 (fun k hk => ?_) (fun k hk => ?_)
    · simp only [Nat.zero_add] at this; exact this
    · rw [Array.append_assoc, Array.getElem?_append_left (by simp only [List.size_toArray, List.length_map, List.length_range]; omega), Nat.zero_add]
      exact getElem?_rangeMap _ _ _ hk
    · rw [Array.append_assoc, Array.getElem?_append_right (by simp only [List.size_toArray, List.length_map, List.length_range]; omega), Array.getElem?_append_left (by simp only [List.size_toArray, List.length_map, List.length_range]; omega)]
      simp only [List.size_toArray, List.length_map, List.length_range, Nat.zero_add]
      rw [show ds.length * i.size + k - ds.length * i.size = k by omega]
      exact getElem?_rangeMap _ _ _ hk

/-- To nothing something is appended. -/
theorem app_fresh {P : Program} {L : Loc} {h : List Ob} {w : World} (H : HRel L h w) {ts : Array TypeId} {ty t e t2 : TypeId} {i : TypeInfo} {z : Value} {u2 : TypeDesc} (T : AppT P ts t e t2 i z u2) {y : Value} {es : List V} {fn : Nat → Value}
    (hlen : ∀ w', (Builtin.lenOf y).run P w' = .ok es.length w') (hfl : ∀ (k : Nat) (e : V), es[k]? = some e → flat i.size e)
    (hnew : ∀ w', w'.heap = w.heap → (Builtin.firstCells i.size es.length y).run P w' = .ok ((List.range (es.length * i.size)).map fn).toArray w')
    (hrn : ∀ (a j : Nat) (e y : V), es[a]? = some e → e.cells[j]? = some y → Rep L w y (fn (a * i.size + j)))
    (base : Option Addr) (hf : ∀ w', (Builtin.firstCells i.size 0 (.slice base 0 0)).run P w' = .ok #[] w') (h0 : es.length ≠ 0) (hb : es.length * i.bytes ≤ roomMax) :
    Good P L w (Builtin.append_ ts ty #[.slice base 0 0, y]) (.hsl h.length 0 es.length) (h ++ [.row es i.size]) := by
  obtain ⟨newCap, c, h1, h2, h3, h4, h5⟩ := app_grow T (ty := ty) (ds := []) (fo := fun _ => undef) hlen hfl hnew hrn base 0 (fun k e hk => by simp at hk) (fun a j e y h => by simp at h) (fun w' _ => by simpa using hf w')
    (by simp only [List.length_nil, Nat.zero_add]; omega) (by simpa only [List.length_nil, Nat.zero_add] using hb)
  simp only [List.length_nil, Nat.zero_add] at h1 h2
  simp only [List.nil_append] at h4 h5
  obtain ⟨g1, g2, g3⟩ := newRow_good H.drew es i.size c e (0, 0) (okFr_zero _) h4 (fun a j e y q1 q2 => by
    obtain ⟨v, k1, k2⟩ := h5 a j e y q1 q2
    exact ⟨v, k1, H.step_rep k2 (fr_drew _ w) (Ext.refl L w)⟩)
  refine ⟨_, _, _, h2, ?_, g1, (fr_drew (Own L) w).trans (Ext.refl L w) g2, (Ext.refl L w).trans g3 (Nat.le_refl _)⟩
  have hbs : bsz { w with drawn := w.drawn + 1, heap := w.heap.push (.cells c e) } w.heap.size = newCap * i.size := by
    rw [bsz_row (c := c) (e := e) (fr := (0, 0)) (by show (w.heap.push _)[w.heap.size]? = _; simp), h3]
  have := Rep.hsl (L := L.push (w.heap.size, 0, i.size)) (w := { w with drawn := w.drawn + 1, heap := w.heap.push (.cells c e) }) (off := 0) (len := es.length) (cap := newCap) (L.push_new (w.heap.size, 0, i.size)) h1
    (by rw [hbs]; simp only [Nat.zero_add]; exact Nat.le_refl _)
  rw [H.len] at this
  simpa only [Nat.zero_mul, Nat.add_zero, Nat.zero_add] using this

/-- The cells of a slice of an owned row. -/
theorem row_cells {L : Loc} {h : List Ob} {w : World} (H : HRel L h w) {id b base sz : Nat} {ds : List V} (hob : h[id]? = some (.row ds sz)) (hat : L.at_ id = some (b, base, sz)) {c : Array Value} {ee : TypeId} {fr : Nat × Nat}
    (hw : w.heap[b]? = some (.cells c ee fr)) {off len : Nat} (hin : off + len ≤ ds.length) (k : Nat) (hk : k < len * sz) :
    ∃ v, c[base + off * sz + k]? = some v := by
  obtain ⟨b0, base0, c0, e0, fr0, h1, h2, h3, h4, h5⟩ := H.obs id _ hob
  rw [hat] at h1; injection h1 with h1; injection h1 with q1 q2; injection q2 with q2 q3; subst q1; subst q2
  rw [hw] at h2; injection h2 with h2; injection h2 with q1 q2 q3; subst q1
  have hsz : 0 < sz := by
    rcases Nat.eq_zero_or_pos sz with q | q
    · subst q; simp at hk
    · exact q
  have hi' : k / sz < len := Nat.div_lt_of_lt_mul (by rw [Nat.mul_comm]; exact hk)
  have hlt : off + k / sz < ds.length := by omega
  have g1 : ds[off + k / sz]? = some ds[off + k / sz] := List.getElem?_eq_getElem hlt
  have hl := (h4 _ _ g1).1
  have hj : k % sz < sz := Nat.mod_lt _ hsz
  have g2 : (ds[off + k / sz]).cells[k % sz]? = some ((ds[off + k / sz]).cells[k % sz]'(by rw [hl]; exact hj)) := List.getElem?_eq_getElem _
  obtain ⟨v, g3, _⟩ := h5 _ _ _ _ g1 g2
  have hdm := Nat.div_add_mod k sz
  have e1 : base + off * sz + k = base + (off + k / sz) * sz + k % sz := by rw [Nat.add_mul, Nat.mul_comm (k / sz) sz]; omega
  exact ⟨v, by rw [e1]; exact g3⟩

/-- In place. -/
theorem app_place {P : Program} {L : Loc} {h : List Ob} {w : World} (H : HRel L h w) {ts : Array TypeId} {ty t e t2 : TypeId} {i : TypeInfo} {z : Value} {u2 : TypeDesc} (T : AppT P ts t e t2 i z u2) {y : Value} {es ds : List V} {fn : Nat → Value}
    (hlen : ∀ w', (Builtin.lenOf y).run P w' = .ok es.length w') (hfl : ∀ (k : Nat) (e : V), es[k]? = some e → flat i.size e)
    (hnew : ∀ w', w'.heap = w.heap → (Builtin.firstCells i.size es.length y).run P w' = .ok ((List.range (es.length * i.size)).map fn).toArray w')
    (hrn : ∀ (a j : Nat) (e y : V), es[a]? = some e → e.cells[j]? = some y → Rep L w y (fn (a * i.size + j)))
    {id off len b base cap : Nat} (hob : h[id]? = some (.row ds i.size)) (hat : L.at_ id = some (b, base, i.size)) (hin : off + len ≤ ds.length) (hcap : len ≤ cap) (hz : base + (off + cap) * i.size ≤ bsz w b) (hroom : len + es.length ≤ cap) :
    Good P L w (Builtin.append_ ts ty #[.slice (some ⟨b, base + off * i.size, none⟩) len cap, y]) (.hsl h.length 0 (len + es.length)) (h.set id .dead ++ [.row ((ds.drop off).take len ++ es) i.size]) := by
  obtain ⟨b0, base0, c, ee, fr, h1, h2, h3, h4, h5⟩ := H.obs id _ hob
  rw [hat] at h1; injection h1 with h1; injection h1 with q1 q2; injection q2 with q2 q3; subst q1; subst q2
  have hbl := (Array.getElem?_eq_some_iff.1 h2).1
  have hlend : ((ds.drop off).take len).length = len := by simp only [List.length_take, List.length_drop]; omega
  have hus : ∀ u ∈ (List.range (es.length * i.size)).map fn, u.oneCell' = true := by
    intro u hu
    simp only [List.mem_map, List.mem_range] at hu
    obtain ⟨k, hk, rfl⟩ := hu
    have hi' : k / i.size < es.length := Nat.div_lt_of_lt_mul (by rw [Nat.mul_comm]; exact hk)
    have g1 : es[k / i.size]? = some es[k / i.size] := List.getElem?_eq_getElem hi'
    have hf := hfl _ _ g1
    have hj : k % i.size < i.size := Nat.mod_lt _ T.pos
    have g2 : (es[k / i.size]).cells[k % i.size]? = some ((es[k / i.size]).cells[k % i.size]'(by rw [hf.1]; exact hj)) := List.getElem?_eq_getElem _
    have := hrn _ _ _ _ g1 g2
    have hdm := Nat.div_add_mod k i.size
    rw [show k / i.size * i.size + k % i.size = k by rw [Nat.mul_comm]; exact hdm] at this
    exact this.one (List.all_eq_true.1 hf.2 _ (List.getElem_mem _))
  have hcs : base + (off + cap) * i.size ≤ c.size := by rw [← bsz_row h2]; exact hz
  have hfit : base + off * i.size + len * i.size + es.length * i.size ≤ c.size := by
    have : (len + es.length) * i.size ≤ cap * i.size := Nat.mul_le_mul_right _ hroom
    rw [Nat.add_mul] at this hcs
    omega
  have hfit' : base + off * i.size + len * i.size + 0 + ((List.range (es.length * i.size)).map fn).length ≤ c.size := by simp only [List.length_map, List.length_range]; omega
  have hrun := E.run_storeCells P b (base + off * i.size + len * i.size) ee fr ((List.range (es.length * i.size)).map fn) 0 c w h2 h3 hfit' hus
  generalize hW : writeAt c (base + off * i.size + len * i.size + 0) ((List.range (es.length * i.size)).map fn) = W at hrun
  have hWs : W.size = c.size := by rw [← hW]; exact writeAt_size _ _ _
  have hfr : Fr (Own L) w (E.put w b (.cells W ee fr)) := fr_put ⟨id, _, hat⟩ h2 hWs
  have hwr : ∀ k, W[k]? = if base + off * i.size + len * i.size ≤ k ∧ k < base + off * i.size + len * i.size + es.length * i.size then some (fn (k - (base + off * i.size + len * i.size))) else c[k]? := by
    intro k
    rw [← hW, writeAt_get _ _ _ hfit']
    simp only [Nat.add_zero, List.length_map, List.length_range]
    split
    · rename_i q
      rw [List.getElem?_map, List.getElem?_range (by omega)]; rfl
    · rfl
  have hdl : ∀ (k : Nat) (e : V), ((ds.drop off).take len)[k]? = some e → ds[off + k]? = some e := by
    intro k e hk
    rw [List.getElem?_take] at hk
    split at hk
    · rw [List.getElem?_drop] at hk; exact hk
    · cases hk
  obtain ⟨k1, k2⟩ := rows_append (L := L) (w := w) (c := W) (sz := i.size) (ds := (ds.drop off).take len) (es := es) (fo := fun k => (c[base + off * i.size + k]?).getD undef) (fn := fn) (fun k e hk => h4 _ e (hdl k e hk)) hfl
    (fun a j e y q1 q2 => by
      obtain ⟨v, g3, g4⟩ := h5 _ _ _ _ (hdl a e q1) q2
      have e1 : base + off * i.size + (a * i.size + j) = base + (off + a) * i.size + j := by rw [Nat.add_mul]; omega
      show Rep L w y ((c[base + off * i.size + (a * i.size + j)]?).getD undef)
      rw [e1, g3]; exact g4) hrn (base + off * i.size)
    (fun k hk => by
      rw [hlend] at hk
      rw [hwr, if_neg (by omega)]
      obtain ⟨v, hv⟩ := row_cells H hob hat h2 hin k hk
      show _ = some ((c[base + off * i.size + k]?).getD undef)
      rw [hv]; rfl)
    (fun k hk => by
      rw [hlend, hwr, if_pos (by omega)]
      congr 2; omega)
  have hex := ext_turn L w (b' := b) (base' := base + off * i.size) (sz' := i.size) hat (.inl rfl)
  obtain ⟨t1, t2'⟩ := HRel.turn H (b' := b) (base' := base + off * i.size) (sz' := i.size) hat hfr (fun k _ hk => put_other hk) (.inl rfl) (by rw [put_size]; exact hbl)
    (ob := .row ((ds.drop off).take len ++ es) i.size) (by
      refine ⟨b, base + off * i.size, W, ee, fr, Loc.push_new (L.kill id) _, put_same hbl, by rw [hWs]; exact h3, k1, fun a j x y q1 q2 => ?_⟩
      obtain ⟨v, g1, g2⟩ := k2 a j x y q1 q2
      exact ⟨v, g1, H.step_rep g2 hfr hex⟩)
  refine ⟨.slice (some ⟨b, base + off * i.size, none⟩) (len + es.length) cap, _, _, ?_, ?_, t1, hfr, hex⟩
  · rw [run_append_fits T hlen hnew hroom]
    simp only [addr_add]
    rw [hrun]; rfl
  · have hbs : bsz (E.put w b (.cells W ee fr)) b = c.size := by rw [bsz_row (put_same hbl), hWs]
    have := Rep.hsl (L := (L.kill id).push (b, base + off * i.size, i.size)) (w := E.put w b (.cells W ee fr)) (off := 0) (len := len + es.length) (cap := cap) (Loc.push_new (L.kill id) (b, base + off * i.size, i.size)) hroom (by
        rw [hbs]; rw [Nat.add_mul] at hcs; simp only [Nat.zero_add]; omega)
    rw [show (L.kill id).len = h.length from H.len] at this
    simpa only [Nat.zero_mul, Nat.add_zero] using this

/-- Into a new array. -/
theorem app_new {P : Program} {L : Loc} {h : List Ob} {w : World} (H : HRel L h w) {ts : Array TypeId} {ty t e t2 : TypeId} {i : TypeInfo} {z : Value} {u2 : TypeDesc} (T : AppT P ts t e t2 i z u2) {y : Value} {es ds : List V} {fn fo : Nat → Value}
    (hlen : ∀ w', (Builtin.lenOf y).run P w' = .ok es.length w') (hfl : ∀ (k : Nat) (e : V), es[k]? = some e → flat i.size e)
    (hnew : ∀ w', w'.heap = w.heap → (Builtin.firstCells i.size es.length y).run P w' = .ok ((List.range (es.length * i.size)).map fn).toArray w')
    (hrn : ∀ (a j : Nat) (e y : V), es[a]? = some e → e.cells[j]? = some y → Rep L w y (fn (a * i.size + j)))
    {id b base len cap : Nat} {ad : Addr} {ds0 : List V} (hob : h[id]? = some (.row ds0 i.size)) (hat : L.at_ id = some (b, base, i.size)) (hdl : ds.length = len)
    (hd : ∀ (k : Nat) (e : V), ds[k]? = some e → flat i.size e)
    (hro : ∀ (a j : Nat) (e y : V), ds[a]? = some e → e.cells[j]? = some y → Rep L w y (fo (a * i.size + j)))
    (hfo : ∀ w', w'.heap = w.heap → (Builtin.firstCells i.size len (.slice (some ad) len cap)).run P w' = .ok ((List.range (len * i.size)).map fo).toArray w')
    (hcap : cap < len + es.length) (hb : (len + es.length) * i.bytes ≤ roomMax) :
    Good P L w (Builtin.append_ ts ty #[.slice (some ad) len cap, y]) (.hsl h.length 0 (len + es.length)) (h.set id .dead ++ [.row (ds ++ es) i.size]) := by
  subst hdl
  obtain ⟨newCap, c', k1, k2, k3, k4, k5⟩ := app_grow T (ty := ty) hlen hfl hnew hrn (some ad) cap hd hro hfo hcap hb
  have hw' : ∀ k, k < w.heap.size → ({ w with drawn := w.drawn + 1, heap := w.heap.push (.cells c' e) } : World).heap[k]? = w.heap[k]? := fun k hk => by
    show (w.heap.push _)[k]? = _
    rw [Array.getElem?_push, if_neg (by omega)]
  have hfr : Fr (Own L) w { w with drawn := w.drawn + 1, heap := w.heap.push (.cells c' e) } :=
    (fr_drew (Own L) w).trans (Ext.refl L w) (fr_alloc (Own L) { w with drawn := w.drawn + 1 } (.cells c' e))
  have hex := ext_turn L w (b' := w.heap.size) (base' := 0) (sz' := i.size) hat (.inr (Nat.le_refl _))
  obtain ⟨t1, t2'⟩ := HRel.turn H (b' := w.heap.size) (base' := 0) (sz' := i.size) hat hfr (fun k hk _ => hw' k hk) (.inr (Nat.le_refl _)) (by show _ < (w.heap.push _).size; simp)
    (ob := .row (ds ++ es) i.size) (by
      refine ⟨w.heap.size, 0, c', e, (0, 0), Loc.push_new (L.kill id) _, by show (w.heap.push _)[w.heap.size]? = _; simp, okFr_zero _, k4, fun a j x y q1 q2 => ?_⟩
      obtain ⟨v, g1, g2⟩ := k5 a j x y q1 q2
      exact ⟨v, by rw [Nat.zero_add]; exact g1, H.step_rep g2 hfr hex⟩)
  refine ⟨_, _, _, k2, ?_, t1, hfr, hex⟩
  have hbs : bsz { w with drawn := w.drawn + 1, heap := w.heap.push (.cells c' e) } w.heap.size = newCap * i.size := by
    rw [bsz_row (c := c') (e := e) (fr := (0, 0)) (by show (w.heap.push _)[w.heap.size]? = _; simp), k3]
  have := Rep.hsl (L := (L.kill id).push (w.heap.size, 0, i.size)) (w := { w with drawn := w.drawn + 1, heap := w.heap.push (.cells c' e) }) (off := 0) (len := ds.length + es.length) (cap := newCap) (Loc.push_new (L.kill id) (w.heap.size, 0, i.size)) k1
    (by rw [hbs]; simp only [Nat.zero_add]; exact Nat.le_refl _)
  rw [show (L.kill id).len = h.length from H.len] at this
  simpa only [Nat.zero_mul, Nat.add_zero, Nat.zero_add] using this

theorem app_good {P : Program} {L : Loc} {h h' : List Ob} {w : World} (H : HRel L h w) {ts : Array TypeId} {ty t e t2 : TypeId} {i : TypeInfo} {z : Value} {u2 : TypeDesc} (T : AppT P ts t e t2 i z u2) {d s r : V} {x y : Value} {es : List V}
    (rd : Rep L w d x) (rs : Rep L w s y) (hc : conts h i.size s = some es) (he : evApp h i.size i.bytes d es = some (r, h')) : Good P L w (Builtin.append_ ts ty #[x, y]) r h' := by
  obtain ⟨hlen, hfl, fn, hfn, hrn⟩ := conts_spec (P := P) H rs hc
  have hnew : ∀ w', w'.heap = w.heap → (Builtin.firstCells i.size es.length y).run P w' = .ok ((List.range (es.length * i.size)).map fn).toArray w' := fun w' hw => hfn _ w' (Nat.le_refl _) hw
  unfold evApp at he
  split at he
  · cases rd
    split at he
    · rename_i h0
      injection he with he; injection he with he1 he2; subst he1; subst he2
      refine .same H (x := .slice none 0 0) ?_ .nils
      rw [run_append_fits T hlen hnew (by omega), h0]; rfl
    · rename_i h0
      split at he
      · rename_i hb
        injection he with he; injection he with he1 he2; subst he1; subst he2
        exact app_fresh H T hlen hfl hnew hrn none (fun w' => by simp [Builtin.firstCells]) h0 hb
      · cases he
  · cases rd with
    | esl a =>
      split at he
      · rename_i h0
        injection he with he; injection he with he1 he2; subst he1; subst he2
        refine .same H (x := .slice (some a) 0 0) ?_ (.esl a)
        rw [run_append_fits T hlen hnew (by omega), h0]
        simp [storeCells]
      · rename_i h0
        split at he
        · rename_i hb
          injection he with he; injection he with he1 he2; subst he1; subst he2
          exact app_fresh H T hlen hfl hnew hrn (some a) (fun w' => by simp [Builtin.firstCells, Go.loadCells, loadCellsFrom]) h0 hb
        · cases he
  · rename_i id off len
    split at he
    · rename_i ds s' hob
      split at he
      · rename_i hh
        obtain ⟨rfl, hin, hb⟩ := hh
        injection he with he; injection he with he1 he2; subst he1; subst he2
        obtain ⟨b, base, c, ee, fr, h1, h2, h3, h4, h5⟩ := H.obs id _ hob
        have hlend : ((ds.drop off).take len).length = len := by simp only [List.length_take, List.length_drop]; omega
        have hcc : conts h i.size (.hsl id off len) = some ((ds.drop off).take len) := by
          simp [conts, hob, hin]
        obtain ⟨hlo, hdl, fo, hfo, hro⟩ := conts_spec (P := P) H (sz := i.size) (v := .hsl id off len) rd hcc
        cases rd with
        | @hsl _ _ _ cap b1 base1 s1 g hcap hz =>
          rw [h1] at g; injection g with g; injection g with q1 q2; injection q2 with q2 q3; subst q1; subst q2; subst q3
          by_cases hroom : len + es.length ≤ cap
          · exact app_place H T hlen hfl hnew hrn hob h1 hin hcap hz hroom
          · exact app_new H T hlen hfl hnew hrn hob h1 hlend hdl hro (fun w' hw => hfo len w' (by rw [hlend]; exact Nat.le_refl _) hw) (by omega) hb
        | hslD _ g => rw [h1] at g; cases g
      · cases he
    · cases he
  · cases he

end Go.Proofs.Ytdcdmpgigmhhpaa.E
