/- The layer E, part 12: bytes and strings, composite values, small things. No condition. -/
import Derived.Test.YtdcdmpgigmhhpaaE11
namespace Go.Proofs.Ytdcdmpgigmhhpaa.E
set_option linter.unusedSimpArgs false
set_option linter.unusedVariables false

/-! ### Bytes and strings -/
theorem Rep.int_inv {L : Loc} {w : World} {k : IntKind} {n : Int} {x : Value} (h : Rep L w (.int k n) x) : x = .int k n := by cases h; rfl

def byteOf : V → Option UInt8
  | .int .u8 n => some (UInt8.ofNat n.toNat)
  | _ => none

def evToStr (h : List Ob) (v : V) : Option V :=
  match v with
  | .str _ => none
  | v => (conts h 1 v).bind fun es => (mapAll byteOf es).map .str

theorem conts_slice {L : Loc} {h : List Ob} {w : World} (H : HRel L h w) {sz : Nat} {v : V} {x : Value} {es : List V} (rep : Rep L w v x) (he : conts h sz v = some es) (hv : ∀ l, v ≠ .str l) : ∃ base cap, x = .slice base es.length cap := by
  unfold conts at he
  split at he
  · injection he with he; subst he; cases rep; exact ⟨_, _, rfl⟩
  · injection he with he; subst he; cases rep; exact ⟨_, _, rfl⟩
  · split at he
    · injection he with he; subst he; cases rep <;> exact ⟨_, _, rfl⟩
    · cases he
  · rename_i id off len
    split at he
    · rename_i es0 s hob
      split at he
      · rename_i hh
        injection he with he; subst he
        obtain ⟨b, base, c, e, fr, h1, _⟩ := H.obs id _ hob
        have hlen : ((es0.drop off).take len).length = len := by simp only [List.length_take, List.length_drop]; omega
        rw [hlen]
        cases rep with
        | hsl g => exact ⟨_, _, rfl⟩
        | hslD _ g => rw [h1] at g; cases g
      · cases he
    · cases he
  · exact absurd rfl (hv _)
  · cases he

theorem toStr_good {P : Program} {L : Loc} {h : List Ob} {w : World} (H : HRel L h w) {src dst e : TypeId} (hs : P.underlying src = some (.slice e)) (he8 : P.underlying e = some (.int .u8)) (hd : P.underlying dst = some .string)
    {v r : V} {x : Value} (rep : Rep L w v x) (he : evToStr h v = some r) : Good P L w (convert src dst x) r h := by
  have main : (∀ l, v ≠ .str l) → ((conts h 1 v).bind fun es => (mapAll byteOf es).map .str) = some r → Good P L w (convert src dst x) r h := by
    intro hv he
    simp only [Option.bind_eq_some_iff, Option.map_eq_some_iff] at he
    obtain ⟨es, hc, l, hm, rfl⟩ := he
    obtain ⟨hlen, hfl, fn, hfn, hrn⟩ := conts_spec (P := P) H rep hc
    obtain ⟨base, cap, rfl⟩ := conts_slice H rep hc hv
    obtain ⟨g1, g2⟩ := mapAll_get hm
    refine .same H (x := .string ⟨l.toArray⟩) ?_ (.str l)
    cases base with
    | none =>
      have h0 : es = [] := by
        generalize hg : es.length = n at rep
        cases rep with
        | nils => exact List.length_eq_zero_iff.1 hg
        | hslD _ q q1 =>
          simp only [conts] at hc
          split at hc
          · rename_i es0 s hob
            obtain ⟨b, base, c, e, fr, h1, _⟩ := H.obs _ _ hob
            rw [q] at h1; cases h1
          · cases hc
        | _ => simp [conts] at hc
      subst h0
      simp [mapAll] at hm
      subst hm
      have := run_convert_bytes_nil w src e hs he8 0 cap dst hd
      simp only [List.length_nil]
      rw [this]; rfl
    | some a =>
      have hl := hfn es.length w (Nat.le_refl _) rfl
      simp only [Builtin.firstCells, Nat.mul_one] at hl
      have hns : ∃ ns : List Int, (List.range es.length).map fn = ns.map (Value.int .u8) ∧ ns.map (fun n => UInt8.ofNat n.toNat) = l := by
        refine ⟨es.map fun e => (match e with | .int _ n => n | _ => 0), ?_, ?_⟩
        · apply List.ext_getElem?
          intro k
          by_cases hk : k < es.length
          · have hek : es[k]? = some es[k] := List.getElem?_eq_getElem hk
            obtain ⟨y, hy⟩ : ∃ y, l[k]? = some y := ⟨l[k], List.getElem?_eq_getElem (by omega)⟩
            obtain ⟨z, q1, q2⟩ := g2 k y hy
            rw [hek] at q1; injection q1 with q1; subst q1
            have : ∃ n, es[k] = .int .u8 n := by
              generalize es[k] = z at q2
              cases z <;> simp [byteOf] at q2
              rename_i kk n
              cases kk <;> simp [byteOf] at q2
              exact ⟨n, rfl⟩
            obtain ⟨n, hn⟩ := this
            have hr := hrn k 0 es[k] es[k] hek (by rw [hn]; rfl)
            rw [hn] at hr
            simp only [Nat.mul_one, Nat.add_zero] at hr
            have hfk : fn k = .int .u8 n := hr.int_inv
            rw [List.getElem?_map, List.getElem?_range hk, List.getElem?_map, List.getElem?_map, hek, hn]
            simp [hfk]
          · rw [List.getElem?_eq_none (by simp; omega), List.getElem?_eq_none (by simp; omega)]
        · apply List.ext_getElem?
          intro k
          by_cases hk : k < es.length
          · have hek : es[k]? = some es[k] := List.getElem?_eq_getElem hk
            obtain ⟨y, hy⟩ : ∃ y, l[k]? = some y := ⟨l[k], List.getElem?_eq_getElem (by omega)⟩
            obtain ⟨z, q1, q2⟩ := g2 k y hy
            rw [hek] at q1; injection q1 with q1; subst q1
            rw [List.getElem?_map, List.getElem?_map, hek, hy]
            generalize es[k] = z at q2
            cases z <;> simp [byteOf] at q2
            rename_i kk n
            cases kk <;> simp [byteOf] at q2
            simp [q2]
          · rw [List.getElem?_eq_none (by simp; omega), List.getElem?_eq_none (by omega)]
      obtain ⟨ns, n1, n2⟩ := hns
      rw [n1] at hl
      rw [run_convert_bytes_string w src dst e _ _ cap hs he8 hd, run_bytesToString w a es.length cap ns hl, foldl_push_bytes, n2]
      simp [ByteArray.empty, ByteArray.emptyWithCapacity]
      rfl
  unfold evToStr at he
  split at he
  · cases he
  · rename_i hne
    exact main (fun l q => hne l q) he

theorem bytesWorld_eq (w : World) (e : TypeId) (s : ByteArray) : Lib.bytesWorld w e s = { w with drawn := w.drawn + 1, heap := w.heap.push (.cells (Lib.bytesCells w e s) e ((Lib.bytesCells w e s).size, (Lib.bytesCells w e s).size + 1)) } := by
  have hh : (Lib.bytesWorld w e s).heap = w.heap.push (.cells (Lib.bytesCells w e s) e ((Lib.bytesCells w e s).size, (Lib.bytesCells w e s).size + 1)) := by
    apply Array.ext_getElem?
    intro k
    rw [Array.getElem?_push]
    rcases Nat.lt_trichotomy k w.heap.size with q | q | q
    · rw [Lib.bytesWorld_at_old w e s k q, if_neg (by omega)]
    · subst q; rw [Lib.bytesWorld_at_new, if_pos rfl]
    · rw [if_neg (by omega), Array.getElem?_eq_none (by rw [Lib.bytesWorld_size]; omega), Array.getElem?_eq_none (by omega)]
  rw [← hh]
  unfold Lib.bytesWorld World.freeze
  rfl

def evToBytes (h : List Ob) (l : List UInt8) : V × List Ob := (.hsl h.length 0 l.length, h ++ [.row (l.map fun b => .int .u8 b.toNat) 1])

theorem toBytes_good {P : Program} {L : Loc} {h : List Ob} {w : World} (H : HRel L h w) {src dst e : TypeId} {u : TypeDesc} (hs : P.underlying src = some u) (hd : P.underlying dst = some (.slice e)) (he8 : P.underlying e = some (.int .u8))
    {l : List UInt8} {x : Value} (rep : Rep L w (.str l) x) : Good P L w (convert src dst x) (evToBytes h l).1 (evToBytes h l).2 := by
  cases rep
  have hsz : (⟨l.toArray⟩ : ByteArray).size = l.length := by simp [ByteArray.size]
  have hrun := Lib.run_convert_string_bytes w src dst e ⟨l.toArray⟩ hs hd he8
  rw [bytesWorld_eq, hsz] at hrun
  generalize hc : Lib.bytesCells w e ⟨l.toArray⟩ = c at hrun
  have hcz : c.size = grownCap w l.length 0 e := by
    rw [← hc]
    have := grownCap_ge w l.length 0 e
    simp [Lib.bytesCells, hsz]; omega
  have hget : ∀ k, k < l.length → c[k]? = some (.int .u8 ((l.getD k 0).toNat : Int)) := by
    intro k hk
    rw [← hc]
    simp only [Lib.bytesCells]
    rw [Array.getElem?_append_left (by simpa using hk)]
    simp [List.getD, hk]
  obtain ⟨g1, g2, g3⟩ := newRow_good H.drew (l.map fun b => .int .u8 b.toNat) 1 c e (c.size, c.size + 1) ⟨by simp, fun o ho hh => by have := hh.1; simp at this; omega⟩ (fun k y hy => by
      simp only [List.getElem?_map, Option.map_eq_some_iff] at hy
      obtain ⟨b, _, rfl⟩ := hy
      exact ⟨rfl, rfl⟩) (fun a j y z hy hz => by
      simp only [List.getElem?_map, Option.map_eq_some_iff] at hy
      obtain ⟨b, hb, rfl⟩ := hy
      have hal := (List.getElem?_eq_some_iff.1 hb).1
      cases j with
      | zero =>
        simp [V.cells] at hz; subst hz
        refine ⟨_, by simpa using hget a hal, ?_⟩
        simp only [List.getD, hb, Option.getD_some]
        exact .int _ _
      | succ j => simp [V.cells] at hz)
  refine ⟨_, _, _, hrun, ?_, g1, (fr_drew (Own L) w).trans (Ext.refl L w) g2, (Ext.refl L w).trans g3 (Nat.le_refl _)⟩
  have hbs : bsz { w with drawn := w.drawn + 1, heap := w.heap.push (.cells c e (c.size, c.size + 1)) } w.heap.size = c.size :=
    bsz_row (c := c) (e := e) (fr := (c.size, c.size + 1)) (by show (w.heap.push _)[w.heap.size]? = _; simp)
  have := Rep.hsl (L := L.push (w.heap.size, 0, 1)) (w := { w with drawn := w.drawn + 1, heap := w.heap.push (.cells c e (c.size, c.size + 1)) }) (off := 0) (len := l.length) (cap := grownCap w l.length 0 e) (L.push_new (w.heap.size, 0, 1)) (grownCap_ge _ _ _ _)
    (by rw [hbs, hcz]; simp)
  rw [H.len] at this
  simpa only [evToBytes, Nat.zero_mul, Nat.add_zero, Nat.zero_add] using this

/-! ### Composite values -/
theorem fold_writeAt (vs : List Value) : ∀ (n : Nat) (cs : Array Value) (off : Nat), (vs.zipIdx n).foldl (fun cs (p : Value × Nat) => cs.setIfInBounds (off + p.2) p.1) cs = writeAt cs (off + n) vs := by
  induction vs with
  | nil => intro n cs off; rfl
  | cons v vs ih =>
    intro n cs off
    simp only [List.zipIdx_cons, List.foldl_cons, writeAt]
    rw [ih, Nat.add_assoc]

def fillV (cs : List V) : List (Nat × Nat × V) → Option (List V)
  | [] => some cs
  | (off, n, v) :: rest =>
    match v with
    | .tup _ | .junk => none
    | v => if v.cells.length = n ∧ off + n ≤ cs.length then fillV (cs.take off ++ v.cells ++ cs.drop (off + n)) rest else none

/-- The parts of a composite value. -/
def PRep (L : Loc) (w : World) (place : Nat → Option (Nat × Nat)) : List (Nat × Nat × V) → List (Nat × Value) → Prop
  | [], [] => True
  | (off, n, v) :: ps, (i, x) :: xs => place i = some (off, n) ∧ Rep L w v x ∧ PRep L w place ps xs
  | _, _ => False

theorem fill_spec {L : Loc} {w : World} {place : Nat → Option (Nat × Nat)} : ∀ (ps : List (Nat × Nat × V)) (xs : List (Nat × Value)) (cs r : List V) (vs : Array Value), PRep L w place ps xs → vs.size = cs.length →
    (∀ k c, cs[k]? = some c → Rep L w c (vs.getD k undef)) → fillV cs ps = some r → ∃ us, Instr.fill place vs xs = some us ∧ us.size = r.length ∧ ∀ k c, r[k]? = some c → Rep L w c (us.getD k undef)
  | [], [], cs, r, vs, _, hl, hr, he => by
    simp [fillV] at he; subst he
    exact ⟨vs, rfl, hl, hr⟩
  | [], _ :: _, _, _, _, h, _, _, _ => h.elim
  | _ :: _, [], _, _, _, h, _, _, _ => h.elim
  | (off, n, v) :: ps, (i, x) :: xs, cs, r, vs, h, hl, hr, he => by
    obtain ⟨h1, h2, h3⟩ := h
    have main : (v.scalar = true ∨ ∃ ds, v = .agg ds) → (if v.cells.length = n ∧ off + n ≤ cs.length then fillV (cs.take off ++ v.cells ++ cs.drop (off + n)) ps else none) = some r →
        ∃ us, Instr.fill place vs ((i, x) :: xs) = some us ∧ us.size = r.length ∧ ∀ k c, r[k]? = some c → Rep L w c (us.getD k undef) := by
      intro hv he
      split at he
      · rename_i hh
        obtain ⟨c1, c2⟩ := h2.cells hv
        have hsz : x.cells.size = n := by omega
        have hfold : (x.cells.zipIdx.foldl (fun cs (p : Value × Nat) => cs.setIfInBounds (off + p.2) p.1) vs) = writeAt vs off x.cells.toList := by
          have := fold_writeAt x.cells.toList 0 vs off
          rw [← Array.foldl_toList, Array.toList_zipIdx]
          exact this
        have hfit : off + x.cells.toList.length ≤ vs.size := by simp only [Array.length_toList]; omega
        have hlt1 : (cs.take off).length = off := by simp only [List.length_take]; omega
        obtain ⟨us, g1, g2, g3⟩ := fill_spec (place := place) ps xs _ r (writeAt vs off x.cells.toList) h3 (by rw [writeAt_size]; simp only [List.length_append, List.length_take, List.length_drop]; omega) (fun k c hk => by
          have hw := writeAt_get x.cells.toList vs off hfit k
          have hgoal : ∀ u, (writeAt vs off x.cells.toList)[k]? = some u → Rep L w c u → Rep L w c ((writeAt vs off x.cells.toList).getD k undef) := by
            intro u hu hr'
            rw [Array.getD_eq_getD_getElem?, hu]; exact hr'
          by_cases q1 : k < off
          · rw [List.append_assoc, List.getElem?_append_left (by omega), List.getElem?_take, if_pos q1] at hk
            rw [if_neg (by omega)] at hw
            have hlt : k < vs.size := by omega
            refine hgoal vs[k] (by rw [hw]; simp [hlt]) ?_
            have := hr k c hk
            rwa [Array.getD_eq_getD_getElem?, show vs[k]? = some vs[k] by simp [hlt]] at this
          · by_cases q2 : k < off + n
            · rw [List.append_assoc, List.getElem?_append_right (by omega), hlt1, List.getElem?_append_left (by omega)] at hk
              rw [if_pos (by simp only [Array.length_toList]; omega)] at hw
              have hlt : k - off < x.cells.size := by omega
              refine hgoal x.cells[k - off] (by rw [hw]; simp [hlt]) ?_
              have := c2 _ c hk
              rwa [Array.getD_eq_getD_getElem?, show x.cells[k - off]? = some x.cells[k - off] by simp [hlt]] at this
            · rw [List.getElem?_append_right (by simp only [List.length_append]; omega)] at hk
              simp only [List.length_append, hlt1, hh.1] at hk
              rw [List.getElem?_drop, show off + n + (k - (off + n)) = k by omega] at hk
              rw [if_neg (by simp only [Array.length_toList]; omega)] at hw
              have hlt : k < vs.size := by rw [hl]; exact (List.getElem?_eq_some_iff.1 hk).1
              refine hgoal vs[k] (by rw [hw]; simp [hlt]) ?_
              have := hr k c hk
              rwa [Array.getD_eq_getD_getElem?, show vs[k]? = some vs[k] by simp [hlt]] at this) he
        refine ⟨us, ?_, g2, g3⟩
        simp only [Instr.fill, h1]
        rw [if_neg (by simp only [Bool.or_eq_true, decide_eq_true_eq]; omega)]
        rw [hfold]; exact g1
      · cases he
    simp only [fillV] at he
    cases v <;> first | (cases he; done) | exact main (.inl rfl) he | exact main (.inr ⟨_, rfl⟩) he

end Go.Proofs.Ytdcdmpgigmhhpaa.E
