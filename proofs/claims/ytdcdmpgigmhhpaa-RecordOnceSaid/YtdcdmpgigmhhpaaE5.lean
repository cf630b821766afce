/- The layer E, part 5: reading memory, addresses, slices and strings cut. No condition. -/
import Derived.Test.YtdcdmpgigmhhpaaE4
namespace Go.Proofs.Ytdcdmpgigmhhpaa.E
set_option linter.unusedSimpArgs false
set_option linter.unusedVariables false

/-! ### Loads -/
def rdCells (h : List Ob) (n : Nat) : V → Option (List V)
  | .ptr id i j => match h[id]? with
    | some (.row es sz) =>
      if j + n ≤ sz then (es[i]?).map fun e => (e.cells.drop j).take n
      else if j = 0 ∧ sz = 1 ∧ i + n ≤ es.length then some (((es.drop i).take n).flatMap V.cells) else none
    | _ => none
  | .ref e j => if j + n ≤ e.cells.length then some ((e.cells.drop j).take n) else none
  | _ => none

theorem getElem?_flatMap_one : ∀ (es : List V) (k : Nat) (c : V), (∀ (i : Nat) (e : V), es[i]? = some e → e.cells.length = 1) → (es.flatMap V.cells)[k]? = some c → ∃ e, es[k]? = some e ∧ e.cells[0]? = some c
  | [], k, c, _, h => by simp at h
  | e :: es, k, c, hs, h => by
    have h1 := hs 0 e (by simp)
    rw [List.flatMap_cons] at h
    cases k with
    | zero =>
      rw [List.getElem?_append_left (by omega)] at h
      exact ⟨e, by simp, h⟩
    | succ k =>
      rw [List.getElem?_append_right (by omega), h1] at h
      obtain ⟨e', g1, g2⟩ := getElem?_flatMap_one es k c (fun i x hx => hs (i + 1) x (by simpa using hx)) (by simpa using h)
      exact ⟨e', by simpa using g1, g2⟩

theorem length_flatMap_one : ∀ (es : List V), (∀ (i : Nat) (e : V), es[i]? = some e → e.cells.length = 1) → (es.flatMap V.cells).length = es.length
  | [], _ => rfl
  | e :: es, hs => by
    rw [List.flatMap_cons, List.length_append, hs 0 e (by simp), length_flatMap_one es (fun i x hx => hs (i + 1) x (by simpa using hx))]
    simp <;> omega

theorem rdCells_spec {L : Loc} {h : List Ob} {w : World} (H : HRel L h w) {n : Nat} {v : V} {x : Value} {cs : List V} (r : Rep L w v x) (he : rdCells h n v = some cs) :
    ∃ b o, x = .pointer (some ⟨b, o, none⟩) ∧ cs.length = n ∧ ∃ f : Nat → Value, (∀ k, k < n → w.cell? ⟨b, o + k, none⟩ = some (f k)) ∧ ∀ k c, cs[k]? = some c → Rep L w c (f k) := by
  unfold rdCells at he
  split at he
  · rename_i id i j
    split at he
    · rename_i es sz hob
      obtain ⟨b, base, c, e, fr, h1, h2, h3, h4, h5⟩ := H.obs id _ hob
      have hx : x = .pointer (some ⟨b, base + i * sz + j, none⟩) := by
        cases r with
        | ptr g => rw [h1] at g; injection g with g; injection g with g1 g2; injection g2 with g2 g3; subst g1; subst g2; subst g3; rfl
        | ptrD _ g => rw [h1] at g; cases g
      split at he
      · rename_i hj
        simp only [Option.map_eq_some_iff] at he
        obtain ⟨y, hy, rfl⟩ := he
        have hlen := (h4 i y hy).1
        have key : ∀ k, k < n → ∃ v, c[base + i * sz + (j + k)]? = some v ∧ ∀ z, y.cells[j + k]? = some z → Rep L w z v := by
          intro k hk
          have hz : y.cells[j + k]? = some y.cells[j + k] := by simp <;> omega
          obtain ⟨v, g1, g2⟩ := h5 i (j + k) y _ hy hz
          exact ⟨v, g1, fun z hz' => by rw [hz] at hz'; injection hz' with hz'; subst hz'; exact g2⟩
        refine ⟨b, _, hx, by simp <;> omega, fun k => (c[base + i * sz + (j + k)]?).getD undef, fun k hk => ?_, fun k z hz => ?_⟩
        · obtain ⟨v, g1, _⟩ := key k hk
          show _ = some ((c[base + i * sz + (j + k)]?).getD undef)
          rw [cell?_row h2, show base + i * sz + j + k = base + i * sz + (j + k) by omega, g1]; rfl
        · rw [List.getElem?_take] at hz
          split at hz
          · rename_i hk
            rw [List.getElem?_drop] at hz
            obtain ⟨v, g1, g2⟩ := key k hk
            show Rep L w z ((c[base + i * sz + (j + k)]?).getD undef)
            rw [g1]; exact g2 z hz
          · cases hz
      · split at he
        · rename_i hh
          obtain ⟨rfl, rfl, hin⟩ := hh
          injection he with he; subst he
          have hone : ∀ (k : Nat) (e : V), ((es.drop i).take n)[k]? = some e → e.cells.length = 1 := by
            intro k y hy
            rw [List.getElem?_take] at hy
            split at hy
            · rw [List.getElem?_drop] at hy; exact (h4 _ y hy).1
            · cases hy
          have key : ∀ k, k < n → ∃ v, c[base + i * 1 + 0 + k]? = some v ∧ ∀ z, ((((es.drop i).take n).flatMap V.cells))[k]? = some z → Rep L w z v := by
            intro k hk
            have hy : es[i + k]? = some es[i + k] := by simp <;> omega
            have h1c := (h4 _ _ hy).1
            have hz : (es[i + k]).cells[0]? = some (es[i + k]).cells[0] := by simp <;> omega
            obtain ⟨v, g1, g2⟩ := h5 (i + k) 0 _ _ hy hz
            refine ⟨v, by rw [← g1]; congr 1; omega, fun z hz' => ?_⟩
            obtain ⟨e', q1, q2⟩ := getElem?_flatMap_one _ k z hone hz'
            rw [List.getElem?_take, if_pos hk, List.getElem?_drop, hy] at q1
            injection q1 with q1; subst q1
            rw [hz] at q2; injection q2 with q2; subst q2; exact g2
          refine ⟨b, _, hx, by rw [length_flatMap_one _ hone]; simp <;> omega, fun k => (c[base + i * 1 + 0 + k]?).getD undef, fun k hk => ?_, fun k z hz => ?_⟩
          · obtain ⟨v, g1, _⟩ := key k hk
            show _ = some ((c[base + i * 1 + 0 + k]?).getD undef)
            rw [cell?_row h2, g1]; rfl
          · have hk : k < n := by
              have := (List.getElem?_eq_some_iff.1 hz).1
              rw [length_flatMap_one _ hone] at this
              simp at this; omega
            obtain ⟨v, g1, g2⟩ := key k hk
            show Rep L w z ((c[base + i * 1 + 0 + k]?).getD undef)
            rw [g1]; exact g2 z hz
        · cases he
    · cases he
  · rename_i e j
    split at he
    · rename_i hj
      injection he with he; subst he
      cases r with
      | @ref _ _ b o f ho hb hc hr =>
        refine ⟨b, o + j, rfl, by simp <;> omega, fun k => f (j + k), fun k hk => ?_, fun k z hz => ?_⟩
        · have hz : e.cells[j + k]? = some e.cells[j + k] := by simp <;> omega
          have := hc _ _ hz
          rw [show o + j + k = o + (j + k) by omega]; exact this
        · rw [List.getElem?_take] at hz
          split at hz
          · rw [List.getElem?_drop] at hz; exact hr _ _ hz
          · cases hz
    · cases he
  · cases he

def evLoad1 (h : List Ob) (v : V) : Option V :=
  match rdCells h 1 v with
  | some [c] => some c
  | _ => none

def evLoadN (h : List Ob) (n : Nat) (v : V) : Option V := (rdCells h n v).map .agg

theorem load1_good {P : Program} {L : Loc} {h : List Ob} {w : World} (H : HRel L h w) {t : TypeId} {v c : V} {x : Value} (hu : (P.underlying t).isSome = true) (hs : isStruct P t = false)
    (r : Rep L w v x) (he : evLoad1 h v = some c) : Good P L w (Instr.loadAt t x) c h := by
  unfold evLoad1 at he
  split at he
  · rename_i c' hc
    injection he with he; subst he
    obtain ⟨b, o, rfl, _, f, h1, h2⟩ := rdCells_spec H r hc
    refine .same H (x := f 0) ?_ (h2 0 _ rfl)
    have := h1 0 (by omega)
    simp only [Nat.add_zero] at this
    simp only [Instr.loadAt, Instr.sureAddr, loadVar, Sem.run_bind, Sem.run_pure, Result.andThen_ok, run_isAgg w hu, hs, Bool.false_eq_true, if_false, run_load, this]
  · cases he

theorem loadN_good {P : Program} {L : Loc} {h : List Ob} {w : World} (H : HRel L h w) {t : TypeId} {i : TypeInfo} {v c : V} {x : Value} (hi : P.info? t = some i) (hu : (P.underlying t).isSome = true) (hs : isStruct P t = true)
    (r : Rep L w v x) (he : evLoadN h i.size v = some c) : Good P L w (Instr.loadAt t x) c h := by
  unfold evLoadN at he
  simp only [Option.map_eq_some_iff] at he
  obtain ⟨cs, hc, rfl⟩ := he
  obtain ⟨b, o, rfl, hl, f, h1, h2⟩ := rdCells_spec H r hc
  refine .same H (x := .agg ((List.range i.size).map f).toArray) ?_ (.agg _ (by simp [hl]) (fun k c hk => ?_))
  · simp only [Instr.loadAt, Instr.sureAddr, loadVar, Sem.run_bind, Sem.run_pure, Result.andThen_ok, run_isAgg w hu, hs, if_true, run_sizeOf w hi, E.run_loadCells P w b o i.size f h1]
  · have hk' : k < i.size := by rw [← hl]; exact (List.getElem?_eq_some_iff.1 hk).1
    have := h2 k c hk
    rw [Array.getD_eq_getD_getElem?]
    simp [hk']; exact this

/-! ### Addresses -/
def evFaddr (off : Nat) : V → Option V
  | .ptr id i j => some (.ptr id i (j + off))
  | .ref e j => some (.ref e (j + off))
  | _ => none

theorem faddr_good {P : Program} {L : Loc} {h : List Ob} {w : World} (H : HRel L h w) {t : TypeId} {fs : Array Field} {k : Nat} {g : Field} {i : TypeInfo} {v c : V} {x : Value} (hal : ∀ id i j, v = .ptr id i j → aliveB h id = true)
    (hu : P.underlying t = some (.struct fs)) (hg : fs[k]? = some g) (hi : P.info? g.type = some i) (hz : i.size ≠ 0) (r : Rep L w v x) (he : evFaddr g.offset v = some c) : Good P L w (Instr.fieldAt t x k) c h := by
  have key : ∀ b o, x = .pointer (some ⟨b, o, none⟩) → (Instr.fieldAt t x k).run P w = .ok (.pointer (some ⟨b, o + g.offset, none⟩)) w := by
    intro b o hx
    subst hx
    simp only [Instr.fieldAt, Sem.run_bind, run_underlying hu, Result.andThen_ok, hg, Instr.sureAddr, Sem.run_pure, fieldPlace, run_sizeOf w hi, if_neg hz, addr_add]
  unfold evFaddr at he
  split at he
  · rename_i id a j
    injection he with he; subst he
    obtain ⟨p, hp⟩ := alive_at H (hal _ _ _ rfl)
    cases r with
    | @ptr _ _ _ b base sz q => exact .same H (key _ _ rfl) (by rw [Nat.add_assoc]; exact .ptr q)
    | ptrD _ q => rw [hp] at q; cases q
  · injection he with he; subst he
    cases r with
    | ref f ho hb hc hr => exact .same H (key _ _ rfl) (by rw [Nat.add_assoc]; exact .ref f ho hb hc hr)
  · cases he

/-- An element's address in an array's variable (n elements of sz cells). -/
def evIaddrA (h : List Ob) (n sz : Nat) (v : V) (i : Int) : Option V :=
  if 0 ≤ i ∧ i < n then
    match v with
    | .ptr id a j => match h[id]? with
      | some (.row _ s) => if s = sz ∧ j = 0 ∧ n ≠ 1 then some (.ptr id (a + i.toNat) 0) else some (.ptr id a (j + i.toNat * sz))
      | _ => none
    | .ref e j => some (.ref e (j + i.toNat * sz))
    | _ => none
  else none

def evIaddrL (h : List Ob) (sz : Nat) (v : V) (i : Int) : Option V :=
  match v with
  | .hsl id off len => if 0 ≤ i ∧ i < len then
      match h[id]? with
      | some (.row _ s) => if s = sz then some (.ptr id (off + i.toNat) 0) else none
      | _ => none
    else none
  | .sl es => if 0 ≤ i then (es[i.toNat]?).bind fun e => if e.cells.length = sz then some (.ref e 0) else none else none
  | _ => none

theorem iaddrA_good {P : Program} {L : Loc} {h : List Ob} {w : World} (H : HRel L h w) {t e : TypeId} {n : Nat} {i : TypeInfo} {v c : V} {x : Value} {k : IntKind} {m : Int}
    (hu : P.underlying t = some (.array n e)) (hi : P.info? e = some i) (r : Rep L w v x) (he : evIaddrA h n i.size v m = some c) : Good P L w (Instr.indexAt t x (.int k m)) c h := by
  unfold evIaddrA at he
  split at he
  · rename_i hm
    have key : ∀ b o, x = .pointer (some ⟨b, o, none⟩) → (Instr.indexAt t x (.int k m)).run P w = .ok (.pointer (some ⟨b, o + m.toNat * i.size, none⟩)) w := by
      intro b o hx
      subst hx
      simp only [Instr.indexAt, asIntOf, Sem.run_bind, Sem.run_pure, Result.andThen_ok, run_underlying hu, Instr.sureAddr, hm, and_self, if_true, run_sizeOf w hi, addr_add]
    split at he
    · rename_i id a j
      split at he
      · rename_i es s hob
        obtain ⟨b, base, cc, ee, fr, h1, h2, h3, h4, h5⟩ := H.obs id _ hob
        have hx : x = .pointer (some ⟨b, base + a * s + j, none⟩) := by
          cases r with
          | ptr g => rw [h1] at g; injection g with g; injection g with g1 g2; injection g2 with g2 g3; subst g1; subst g2; subst g3; rfl
          | ptrD _ g => rw [h1] at g; cases g
        split at he
        · rename_i hh
          obtain ⟨rfl, rfl, _⟩ := hh
          injection he with he; subst he
          refine .same H (key _ _ hx) ?_
          have := Rep.ptr (w := w) (i := a + m.toNat) (j := 0) h1
          rw [Nat.add_mul] at this
          simpa [Nat.add_assoc] using this
        · injection he with he; subst he
          refine .same H (key _ _ hx) ?_
          have := Rep.ptr (w := w) (i := a) (j := j + m.toNat * i.size) h1
          simpa [Nat.add_assoc] using this
      · cases he
    · injection he with he; subst he
      cases r with
      | ref f ho hb hc hr => exact .same H (key _ _ rfl) (by rw [Nat.add_assoc]; exact .ref f ho hb hc hr)
    · cases he
  · cases he

theorem iaddrL_good {P : Program} {L : Loc} {h : List Ob} {w : World} (H : HRel L h w) {t e : TypeId} {i : TypeInfo} {v c : V} {x : Value} {k : IntKind} {m : Int}
    (hu : P.underlying t = some (.slice e)) (hi : P.info? e = some i) (r : Rep L w v x) (he : evIaddrL h i.size v m = some c) : Good P L w (Instr.indexAt t x (.int k m)) c h := by
  have key : ∀ b o len cap, x = .slice (some ⟨b, o, none⟩) len cap → 0 ≤ m → m < len → (Instr.indexAt t x (.int k m)).run P w = .ok (.pointer (some ⟨b, o + m.toNat * i.size, none⟩)) w := by
    intro b o len cap hx h0 h1
    subst hx
    simp only [Instr.indexAt, asIntOf, Sem.run_bind, Sem.run_pure, Result.andThen_ok, run_underlying hu, h0, h1, and_self, if_true, run_sizeOf w hi, addr_add]
  unfold evIaddrL at he
  split at he
  · rename_i id off len
    split at he
    · rename_i hm
      split at he
      · rename_i es s hob
        obtain ⟨b, base, cc, ee, fr, h1, h2, h3, h4, h5⟩ := H.obs id _ hob
        split at he
        · rename_i hh
          subst hh
          injection he with he; subst he
          cases r with
          | hsl g hc hz =>
            rw [h1] at g; injection g with g; injection g with g1 g2; injection g2 with g2 g3; subst g1; subst g2; subst g3
            refine .same H (key _ _ _ _ rfl hm.1 hm.2) ?_
            have := Rep.ptr (w := w) (i := off + m.toNat) (j := 0) h1
            rw [Nat.add_mul] at this
            simpa [Nat.add_assoc] using this
          | hslD _ g => rw [h1] at g; cases g
        · cases he
      · cases he
    · cases he
  · rename_i es
    split at he
    · rename_i h0
      simp only [Option.bind_eq_some_iff] at he
      obtain ⟨e', he', hs⟩ := he
      split at hs
      · rename_i hlen
        injection hs with hs; subst hs
        have hlt := (List.getElem?_eq_some_iff.1 he').1
        cases r with
        | @sl _ sz b o cap f ho hb hcap hs hc hr =>
          have hsz : sz = i.size := by rw [← (hs _ _ he').1, hlen]
          subst hsz
          refine .same H (key _ _ _ _ rfl h0 (by omega)) ?_
          have := Rep.ref (L := L) (w := w) (e := e') (j := 0) (b := b) (o := o + m.toNat * i.size) (fun q => f m.toNat q) ho hb (fun q z hz => hc _ _ _ _ he' hz) (fun q z hz => hr _ _ _ _ he' hz)
          simpa using this
        | sl0 a cap => simp at he'
      · cases hs
    · cases he
  · cases he

/-! ### Fields and elements of values, lengths, tuples -/
def evField1 (off : Nat) : V → Option V
  | .agg cs => cs[off]?
  | _ => none
def evFieldN (off n : Nat) : V → Option V
  | .agg cs => if off + n ≤ cs.length then some (.agg ((cs.drop off).take n)) else none
  | _ => none

theorem field_good {P : Program} {L : Loc} {h : List Ob} {w : World} (H : HRel L h w) {t : TypeId} {fs : Array Field} {k : Nat} {g : Field} {i : TypeInfo} {v c : V} {x : Value}
    (hu : P.underlying t = some (.struct fs)) (hg : fs[k]? = some g) (hi : P.info? g.type = some i) (hs : (P.underlying g.type).isSome = true) (r : Rep L w v x)
    (he : (isStruct P g.type = false ∧ evField1 g.offset v = some c) ∨ (isStruct P g.type = true ∧ evFieldN g.offset i.size v = some c)) : Good P L w (Instr.field t x k) c h := by
  have go : ∀ (cs : List V) (xs : Array Value), v = .agg cs → x = .agg xs → xs.size = cs.length → (∀ k c, cs[k]? = some c → Rep L w c (xs.getD k undef)) → Good P L w (Instr.field t x k) c h := by
    intro cs xs hv hx h1 h2
    subst hv; subst hx
    have hp := run_part (P := P) h1 h2 hi hs g.offset
    rcases he with ⟨hst, he⟩ | ⟨hst, he⟩
    · obtain ⟨y, g1, g2⟩ := hp.2 hst c he
      exact .same H (by simp only [Instr.field, Sem.run_bind, run_underlying hu, Result.andThen_ok, hg, asAgg, Sem.run_pure, g1]) g2
    · simp only [evFieldN] at he
      split at he
      · rename_i hle
        injection he with he; subst he
        obtain ⟨ys, g1, g2, g3⟩ := hp.1 hst hle
        exact .same H (by simp only [Instr.field, Sem.run_bind, run_underlying hu, Result.andThen_ok, hg, asAgg, Sem.run_pure, g1]) (.agg ys g2 g3)
      · cases he
  cases v <;> first | (rcases he with ⟨_, he⟩ | ⟨_, he⟩ <;> simp [evField1, evFieldN] at he; done) | skip
  cases r with
  | agg vs hl hr => exact go _ _ rfl rfl hl hr

def evIdxS (l : List UInt8) (i : Int) : Option V := if 0 ≤ i then (l[i.toNat]?).map fun b => .int .u8 b.toNat else none

theorem idxS_good {P : Program} {L : Loc} {h : List Ob} {w : World} (H : HRel L h w) {t : TypeId} {l : List UInt8} {c : V} {x : Value} {k : IntKind} {m : Int}
    (hu : P.underlying t = some .string) (r : Rep L w (.str l) x) (he : evIdxS l m = some c) : Good P L w (Instr.index t x (.int k m)) c h := by
  unfold evIdxS at he
  split at he
  · rename_i h0
    simp only [Option.map_eq_some_iff] at he
    obtain ⟨b, hb, rfl⟩ := he
    cases r
    have hlt := (List.getElem?_eq_some_iff.1 hb)
    obtain ⟨hlt, hbe⟩ := hlt
    have hs : (⟨l.toArray⟩ : ByteArray)[m.toNat]? = some b := by
      rw [ByteArray.getElem?_lt' _ _ (by simpa [ByteArray.size] using hlt)]
      simp [← hbe, ByteArray.getElem_eq_getElem_data]
    refine .same H (x := .int .u8 b.toNat) ?_ (.int _ _)
    simp only [Instr.index, asIntOf, Sem.run_bind, Sem.run_pure, Result.andThen_ok, run_underlying hu, h0, if_true, hs]
  · cases he

def evExt (i : Nat) : V → Option V
  | .tup vs => vs[i]?
  | _ => none

theorem ext_good {P : Program} {L : Loc} {h : List Ob} {w : World} (H : HRel L h w) {i : Nat} {v c : V} {x : Value} (r : Rep L w v x) (he : evExt i v = some c) : Good P L w (Instr.extract x i) c h := by
  cases v <;> simp only [evExt] at he <;> first | (cases he; done) | skip
  cases r with
  | tup vs hl hr =>
    have hlt := (List.getElem?_eq_some_iff.1 he).1
    have hx : vs[i]? = some (vs.getD i undef) := by simp [Array.getD, hl, hlt]
    exact .same H (by simp only [Instr.extract, hx, Sem.run_pure]) (hr _ _ he)

def evLenL (h : List Ob) : V → Option Nat
  | .nils => some 0
  | .hsl id _ len => if aliveB h id then some len else none
  | .sl es => some es.length
  | .esl => some 0
  | _ => none

theorem lenL_spec {L : Loc} {h : List Ob} {w : World} (H : HRel L h w) {v : V} {x : Value} {n : Nat} (r : Rep L w v x) (he : evLenL h v = some n) : ∃ a cap, x = .slice a n cap := by
  unfold evLenL at he
  split at he
  · injection he with he; subst he; cases r; exact ⟨_, _, rfl⟩
  · split at he
    · rename_i ha
      injection he with he; subst he
      obtain ⟨p, hp⟩ := alive_at H ha
      cases r with
      | hsl _ => exact ⟨_, _, rfl⟩
      | hslD _ q => rw [hp] at q; cases q
    · cases he
  · injection he with he; subst he
    cases r <;> exact ⟨_, _, rfl⟩
  · injection he with he; subst he
    cases r; exact ⟨_, _, rfl⟩
  · cases he

theorem lenL_good {P : Program} {L : Loc} {h : List Ob} {w : World} (H : HRel L h w) {t e ty : TypeId} {ts : Array TypeId} {v : V} {x : Value} {n : Nat} (hu : P.underlying t = some (.slice e)) (ht : ts[0]? = some t) (r : Rep L w v x) (he : evLenL h v = some n) :
    Good P L w (Builtin.len_ ts ty #[x]) (.int .i64 n) h := by
  obtain ⟨a, cap, rfl⟩ := lenL_spec H r he
  refine .same H (x := .int .i64 n) ?_ (.int _ _)
  unfold Builtin.len_
  rw [ht]
  simp [run_underlying hu, goInt]

theorem lenS_good {P : Program} {L : Loc} {h : List Ob} {w : World} (H : HRel L h w) {t ty : TypeId} {ts : Array TypeId} {l : List UInt8} {x : Value} (hu : P.underlying t = some .string) (ht : ts[0]? = some t) (r : Rep L w (.str l) x) :
    Good P L w (Builtin.len_ ts ty #[x]) (.int .i64 l.length) h := by
  cases r
  have hs : (⟨l.toArray⟩ : ByteArray).size = l.length := by simp [ByteArray.size]
  refine .same H (x := .int .i64 l.length) ?_ (.int _ _)
  unfold Builtin.len_
  rw [ht]
  simp only [Sem.run_bind, List.getElem?_toArray, List.getElem?_cons_zero, run_underlying hu, Result.andThen_ok, Sem.run_pure, goInt, hs]

end Go.Proofs.Ytdcdmpgigmhhpaa.E
