/- The layer E, part 37: reasoning about the Lean functions of the code: what a result must be, slices by what they hold, what memory keeps. No condition. -/
import Derived.Test.YtdcdmpgigmhhpaaE36
namespace Go.Proofs.Ytdcdmpgigmhhpaa.E
set_option linter.unusedSimpArgs false
set_option linter.unusedVariables false

/-- It comes to something that is so. -/
def To {R : Type} (o : Option R) (Q : R → Prop) : Prop := ∃ r, o = some r ∧ Q r
/-- A call comes to a value and memory that are so. -/
def To2 (o : Option (V × List Ob)) (Q : V → List Ob → Prop) : Prop := ∃ v h, o = some (v, h) ∧ Q v h
def To3 (o : SubR) (Q : EX → List V → List Ob → Prop) : Prop := ∃ x vs h, o = some (x, vs, h) ∧ Q x vs h

theorem To.some {R : Type} {r : R} {Q : R → Prop} (h : Q r) : To (some r) Q := ⟨r, rfl, h⟩
theorem To2.some {v : V} {h : List Ob} {Q : V → List Ob → Prop} (q : Q v h) : To2 (some (v, h)) Q := ⟨v, h, rfl, q⟩
theorem To3.some {x : EX} {vs : List V} {h : List Ob} {Q : EX → List V → List Ob → Prop} (q : Q x vs h) : To3 (some (x, vs, h)) Q := ⟨x, vs, h, rfl, q⟩
theorem To2.to {o : Option (V × List Ob)} {Q : V → List Ob → Prop} (h : To2 o Q) : To o fun p => Q p.1 p.2 := by
  obtain ⟨v, h1, e, q⟩ := h; exact ⟨_, e, q⟩
theorem To.mono {R : Type} {o : Option R} {Q Q' : R → Prop} (h : To o Q) (g : ∀ r, Q r → Q' r) : To o Q' := by
  obtain ⟨r, e, q⟩ := h; exact ⟨r, e, g r q⟩
theorem To2.mono {o : Option (V × List Ob)} {Q Q' : V → List Ob → Prop} (h : To2 o Q) (g : ∀ v h, Q v h → Q' v h) : To2 o Q' := by
  obtain ⟨v, h1, e, q⟩ := h; exact ⟨v, h1, e, g _ _ q⟩
theorem To3.mono {o : SubR} {Q Q' : EX → List V → List Ob → Prop} (h : To3 o Q) (g : ∀ x vs h, Q x vs h → Q' x vs h) : To3 o Q' := by
  obtain ⟨x, v, h1, e, q⟩ := h; exact ⟨x, v, h1, e, g _ _ _ q⟩
theorem To.bind2 {R : Type} {o : Option (V × List Ob)} {k : V → List Ob → Option R} {Q : V → List Ob → Prop} {T : R → Prop} (a : To2 o Q) (b : ∀ v h, Q v h → To (k v h) T) : To (bind2 o k) T := by
  obtain ⟨v, h, e, q⟩ := a; rw [e]; exact b v h q
theorem To.bind3 {R : Type} {o : SubR} {k : EX → List V → List Ob → Option R} {Q : EX → List V → List Ob → Prop} {T : R → Prop} (a : To3 o Q) (b : ∀ x v h, Q x v h → To (k x v h) T) : To (bind3 o k) T := by
  obtain ⟨x, v, h, e, q⟩ := a; rw [e]; exact b x v h q
theorem To2.bind2 {o : Option (V × List Ob)} {k : V → List Ob → Option (V × List Ob)} {Q T : V → List Ob → Prop} (a : To2 o Q) (b : ∀ v h, Q v h → To2 (k v h) T) : To2 (bind2 o k) T := by
  obtain ⟨v, h, e, q⟩ := a; rw [e]; exact b v h q
theorem To2.bind3 {o : SubR} {k : EX → List V → List Ob → Option (V × List Ob)} {Q : EX → List V → List Ob → Prop} {T : V → List Ob → Prop} (a : To3 o Q) (b : ∀ x v h, Q x v h → To2 (k x v h) T) : To2 (bind3 o k) T := by
  obtain ⟨x, v, h, e, q⟩ := a; rw [e]; exact b x v h q
theorem To3.bind2 {o : Option (V × List Ob)} {k : V → List Ob → SubR} {Q : V → List Ob → Prop} {T : EX → List V → List Ob → Prop} (a : To2 o Q) (b : ∀ v h, Q v h → To3 (k v h) T) : To3 (bind2 o k) T := by
  obtain ⟨v, h, e, q⟩ := a; rw [e]; exact b v h q
theorem To3.bind3 {o : SubR} {k : EX → List V → List Ob → SubR} {Q T : EX → List V → List Ob → Prop} (a : To3 o Q) (b : ∀ x v h, Q x v h → To3 (k x v h) T) : To3 (bind3 o k) T := by
  obtain ⟨x, v, h, e, q⟩ := a; rw [e]; exact b x v h q

@[simp] theorem bind1_some {α R : Type} (v : α) (k : α → Option R) : bind1 (some v) k = k v := rfl
@[simp] theorem bind2_some {R : Type} (v : V) (h : List Ob) (k : V → List Ob → Option R) : bind2 (some (v, h)) k = k v h := rfl
@[simp] theorem bind3_some {R : Type} (x : EX) (v : List V) (h : List Ob) (k : EX → List V → List Ob → Option R) : bind3 (some (x, v, h)) k = k x v h := rfl
@[simp] theorem castInt_int {R : Type} (k : IntKind) (n : Int) (f : Int → Option R) : castInt k (.int k n) f = f n := by simp [castInt, cB]
@[simp] theorem castBool_bool {R : Type} (b : Bool) (f : Bool → Option R) : castBool (.bool b) f = f b := rfl
@[simp] theorem castStr_str {R : Type} (l : List UInt8) (f : List UInt8 → Option R) : castStr (.str l) f = f l := rfl
@[simp] theorem castAgg_agg {R : Type} (l : List V) (f : List V → Option R) : castAgg (.agg l) f = f l := rfl
@[simp] theorem castTup_tup {R : Type} (l : List V) (f : List V → Option R) : castTup (.tup l) f = f l := rfl
@[simp] theorem castCons_cons {R : Type} (v : V) (l : List V) (f : V → List V → Option R) : castCons (v :: l) f = f v l := rfl
@[simp] theorem castNil_nil {R : Type} (r : Option R) : castNil [] r = r := rfl
@[simp] theorem cB_true {R : Type} (x y : Option R) : cB true x y = x := rfl
@[simp] theorem cB_false {R : Type} (x y : Option R) : cB false x y = y := rfl

/-! ### Slices by what they hold -/
def idsOf : V → List Nat
  | .hsl id _ _ => [id]
  | _ => []
/-- The slice 'v' holds 'es', each of so many cells. -/
structure Sl (sz : Nat) (h : List Ob) (v : V) (es : List V) : Prop where
  c : conts h sz v = some es
  ns : ∀ l, v ≠ .str l
/-- It may be appended to. -/
def Ap (v : V) : Prop := v = .nils ∨ v = .esl ∨ ∃ id off len, v = .hsl id off len
/-- Memory, but for these rows, is as it was. -/
structure Kp (h h' : List Ob) (ids : List Nat) : Prop where
  len : h.length ≤ h'.length
  same : ∀ j, j < h.length → j ∉ ids → h'[j]? = h[j]?

theorem Kp.refl (h : List Ob) (ids : List Nat) : Kp h h ids := ⟨Nat.le_refl _, fun _ _ _ => rfl⟩
theorem Kp.mono {h h' : List Ob} {A B : List Nat} (k : Kp h h' A) (s : ∀ j, j ∈ A → j < h.length → j ∈ B) : Kp h h' B := ⟨k.len, fun j hj hn => k.same j hj (fun q => hn (s j q hj))⟩
theorem Kp.trans {h h1 h2 : List Ob} {A B C : List Nat} (k : Kp h h1 A) (l : Kp h1 h2 B) (sa : ∀ j, j ∈ A → j < h.length → j ∈ C) (sb : ∀ j, j ∈ B → j < h.length → j ∈ C) : Kp h h2 C :=
  ⟨Nat.le_trans k.len l.len, fun j hj hn => (l.same j (Nat.lt_of_lt_of_le hj k.len) (fun q => hn (sb j q hj))).trans (k.same j hj (fun q => hn (sa j q hj)))⟩

theorem Sl.lt {sz : Nat} {h : List Ob} {v : V} {es : List V} (s : Sl sz h v es) {id : Nat} (hi : id ∈ idsOf v) : id < h.length := by
  cases v <;> simp only [idsOf, List.not_mem_nil, List.mem_cons, or_false] at hi
  subst hi
  have := s.c
  simp only [conts] at this
  split at this
  · rename_i e
    exact (List.getElem?_eq_some_iff.1 e).1
  · cases this
theorem Sl.keep {sz : Nat} {h h' : List Ob} {v : V} {es : List V} {A : List Nat} (s : Sl sz h v es) (k : Kp h h' A) (d : ∀ id, id ∈ idsOf v → id ∉ A) : Sl sz h' v es := by
  refine ⟨?_, s.ns⟩
  have c := s.c
  cases v <;> first | exact c | skip
  rename_i id off len
  have hl := s.lt (id := id) (by simp [idsOf])
  simp only [conts] at c ⊢
  rw [k.same id hl (d id (by simp [idsOf]))]
  exact c
theorem Sl.len {sz : Nat} {h : List Ob} {v : V} {es : List V} (s : Sl sz h v es) : evLenL h v = some es.length := len_of s.c s.ns
theorem Sl.nils (sz : Nat) (h : List Ob) : Sl sz h .nils [] := ⟨rfl, fun l q => by cases q⟩
theorem Sl.esl (sz : Nat) (h : List Ob) : Sl sz h .esl [] := ⟨rfl, fun l q => by cases q⟩
theorem Sl.sl {sz : Nat} {h : List Ob} {es : List V} (hs : headOk sz es = true) : Sl sz h (.sl es) es := ⟨by simp [conts, hs], fun l q => by cases q⟩
theorem Ap.nils : Ap .nils := .inl rfl
theorem Ap.hsl (id off len : Nat) : Ap (.hsl id off len) := .inr (.inr ⟨id, off, len, rfl⟩)
theorem Ap.ns {v : V} (a : Ap v) : ∀ l, v ≠ .str l := by
  rcases a with rfl | rfl | ⟨a, b, c, rfl⟩ <;> simp

theorem er_lenL {sz : Nat} {h : List Ob} {v : V} {es : List V} (s : Sl sz h v es) : er (.lenL (.c v)) h = some (.int .i64 es.length) := by
  simp [er, ev, evOq, x_lenL, EO.get, s.len]

/-- Reading at a place. -/
theorem Sl.at1 {h : List Ob} {v : V} {es : List V} (s : Sl 1 h v es) {k : Int} {e : V} (hk : 0 ≤ k) (he : es[k.toNat]? = some e) (hc : e.cells = [e]) :
    ∃ a, er (.iaddrL 1 (.c v) (.c (.int .i64 k))) h = some a ∧ er (.load1 (.c a)) h = some e := by
  obtain ⟨a, h1, h2⟩ := read_at s.c s.ns he hc
  have hk2 : ((k.toNat : Nat) : Int) = k := Int.toNat_of_nonneg hk
  rw [hk2] at h1
  exact ⟨a, by simp [er, ev, evOq, x_iaddrL, EO.get, h1], by simp [er, ev, evOq, x_load1, EO.get, h2]⟩

theorem Sl.hslNew {sz : Nat} (h : List Ob) (es : List V) : Sl sz (h ++ [.row es sz]) (.hsl h.length 0 es.length) es :=
  ⟨by simp [conts], fun l q => by cases q⟩

/-- Appending. -/
theorem app_to {sz bytes : Nat} {h : List Ob} {b y : V} {es fs : List V} (sb : Sl sz h b es) (a : Ap b) (hy : conts h sz y = some fs) (hr : (es.length + fs.length) * bytes ≤ roomMax) :
    To2 (ev (.app sz bytes (.c b) (.c y)) h) fun v h' => Sl sz h' v (es ++ fs) ∧ Ap v ∧ Kp h h' (idsOf b) ∧ (∀ j, j ∈ idsOf v → j ∈ idsOf b ∨ h.length ≤ j) := by
  have new : ∀ (h0 : List Ob), h0.length = h.length → (∀ j, j < h.length → j ∉ idsOf b → h0[j]? = h[j]?) → ∀ gs : List V, gs = es ++ fs →
      To2 (some (V.hsl h.length 0 gs.length, h0 ++ [Ob.row gs sz])) fun v h' => Sl sz h' v (es ++ fs) ∧ Ap v ∧ Kp h h' (idsOf b) ∧ (∀ j, j ∈ idsOf v → j ∈ idsOf b ∨ h.length ≤ j) := by
    intro h0 hl hk gs hg
    subst hg
    refine To2.some ⟨?_, Ap.hsl _ _ _, ⟨?_, ?_⟩, ?_⟩
    · have := Sl.hslNew (sz := sz) h0 (es ++ fs)
      rwa [hl] at this
    · simp [hl]
    · intro j hj hn
      rw [List.getElem?_append_left (by omega)]
      exact hk j hj hn
    · intro j hj
      simp only [idsOf, List.mem_cons, List.not_mem_nil, or_false] at hj
      subst hj; exact .inr (Nat.le_refl _)
  have e0 : ev (.app sz bytes (.c b) (.c y)) h = evApp h sz bytes b fs := by
    simp only [ev, evOq, x_app, EO.get, hy, Option.bind_some]
  rw [e0]
  rcases a with rfl | rfl | ⟨id, off, len, rfl⟩
  · have : es = [] := by have := sb.c; simp [conts] at this; exact this
    subst this
    simp only [evApp]
    split
    · rename_i h0
      have : fs = [] := List.eq_nil_of_length_eq_zero h0
      subst this
      exact To2.some ⟨Sl.nils _ _, .inl rfl, Kp.refl _ _, fun j hj => by cases hj⟩
    · rw [if_pos (by simpa using hr)]
      exact new h rfl (fun _ _ _ => rfl) fs rfl
  · have : es = [] := by have := sb.c; simp [conts] at this; exact this
    subst this
    simp only [evApp]
    split
    · rename_i h0
      have : fs = [] := List.eq_nil_of_length_eq_zero h0
      subst this
      exact To2.some ⟨Sl.esl _ _, .inr (.inl rfl), Kp.refl _ _, fun j hj => by cases hj⟩
    · rw [if_pos (by simpa using hr)]
      exact new h rfl (fun _ _ _ => rfl) fs rfl
  · have c := sb.c
    simp only [conts] at c
    split at c
    · rename_i ds s hob
      split at c
      · rename_i hh
        obtain ⟨rfl, hin⟩ := hh
        injection c with c
        have hlen : es.length = len := by rw [← c]; simp only [List.length_take, List.length_drop]; omega
        simp only [evApp, hob]
        rw [if_pos ⟨trivial, hin, by rw [← hlen]; exact hr⟩, c]
        have := new (h.set id .dead) (by simp) (fun j hj hn => by
          rw [List.getElem?_set_ne (by intro q; subst q; exact hn (by simp [idsOf]))]) (es ++ fs) rfl
        rw [show len + fs.length = (es ++ fs).length by simp [hlen]]
        exact this
      · cases c
    · cases c

theorem appZ_to {h : List Ob} {b : V} {es : List V} (sb : Sl 1 h b es) (a : Ap b) {n : Int} (h0 : 0 ≤ n) (hr : es.length + n.toNat ≤ roomMax) :
    To2 (ev (.appZ 1 1 .nilp (.c b) (.c (.int .i64 n))) h) fun v h' => Sl 1 h' v (es ++ List.replicate n.toNat (.int .u8 0)) ∧ Ap v ∧ Kp h h' (idsOf b) ∧ (∀ j, j ∈ idsOf v → j ∈ idsOf b ∨ h.length ≤ j) := by
  have hn : n ≤ 140737488355328 := by unfold roomMax at hr; omega
  have : ev (.appZ 1 1 .nilp (.c b) (.c (.int .i64 n))) h = ev (.app 1 1 (.c b) (.c (.sl (List.replicate n.toNat (.int .u8 0))))) h := by
    have hc : conts h 1 (.sl (List.replicate n.toNat (.int .u8 0))) = some (List.replicate n.toNat (.int .u8 0)) := by
      simp only [conts]
      rw [if_pos]
      unfold headOk
      cases n.toNat <;> rfl
    simp only [ev, evOq, x_appZ, x_app, EO.get, hc, Option.bind_some, evAppZ]
    rw [if_pos ⟨h0, hn⟩]
  rw [this]
  refine app_to sb a ?_ (by simpa using hr)
  simp only [conts]
  rw [if_pos]
  unfold headOk
  cases n.toNat <;> rfl

/-- A slice that is written out. -/
theorem bslice_to {sz len : Nat} {z : V} {ps : List (Nat × V)} {h : List Ob} {es : List V} (h1 : len * sz ≤ 16777216) (h2 : ps.all (fun p => decide (p.1 < len) && plainV sz p.2) = true) (h3 : setAll (List.replicate len z) ps = es) (h4 : es.length = len) :
    To2 (ev (.bslice sz z len (ps.map fun p => (p.1, .c p.2))) h) fun v h' => v = .hsl h.length 0 len ∧ h' = h ++ [.row es sz] ∧ Sl sz h' v es ∧ Ap v ∧ Kp h h' [] ∧ (∀ j, j ∈ idsOf v → h.length ≤ j) := by
  have : ev (.bslice sz z len (ps.map fun p => (p.1, .c p.2))) h = some (.hsl h.length 0 len, h ++ [.row es sz]) := by
    simp only [ev, evOq, x_bslice, List.map_map, evBslice']
    have e : (ps.map ((fun p : Nat × EO => (p.1, EO.get (fun _ => V.junk) p.2)) ∘ fun p : Nat × V => (p.1, EO.c p.2))) = ps := by
      conv => rhs; rw [← List.map_id ps]
      rfl
    rw [e, if_pos ⟨h1, h2⟩, h3]
  rw [this]
  refine To2.some ⟨rfl, rfl, ?_, Ap.hsl _ _ _, ⟨by simp, fun j hj _ => by rw [List.getElem?_append_left hj]⟩, fun j hj => by simp [idsOf] at hj; omega⟩
  rw [← h4]; exact Sl.hslNew h es

/-! ### Bytes -/
def bv (ms : List Int) : List V := ms.map (V.int .u8)
@[simp] theorem bv_length (ms : List Int) : (bv ms).length = ms.length := by simp [bv]
theorem bv_append (a b : List Int) : bv (a ++ b) = bv a ++ bv b := by simp [bv]
theorem bv_get {ms : List Int} {k : Nat} {m : Int} (h : ms[k]? = some m) : (bv ms)[k]? = some (.int .u8 m) := by simp [bv, h]
theorem bv_inj : ∀ {a b : List Int}, bv a = bv b → a = b
  | [], [], _ => rfl
  | [], _ :: _, h => by simp [bv] at h
  | _ :: _, [], h => by simp [bv] at h
  | x :: a, y :: b, h => by
    simp only [bv, List.map_cons, List.cons.injEq, V.int.injEq, true_and] at h
    rw [h.1, bv_inj (a := a) (b := b) h.2]
def by8 (ms : List Int) : List UInt8 := ms.map fun n => UInt8.ofNat n.toNat
theorem bytesOf_bv : ∀ ms : List Int, mapAll byteOf (bv ms) = some (by8 ms)
  | [] => rfl
  | m :: ms => by
    have := bytesOf_bv ms
    simp only [bv] at this
    simp only [bv, List.map_cons, mapAll, this]; rfl
theorem headOk_bv (ms : List Int) : headOk 1 (bv ms) = true := by cases ms <;> rfl
theorem er_toStr {h : List Ob} {v : V} {ms : List Int} (s : Sl 1 h v (bv ms)) : er (.toStr (.c v)) h = some (.str (by8 ms)) := by
  have : evToStr h v = some (.str (by8 ms)) := by
    unfold evToStr
    split
    · rename_i l; exact absurd rfl (s.ns l)
    · rw [s.c]; simp [bytesOf_bv]
  simp [er, ev, evOq, x_toStr, EO.get, this]
theorem er_strish {h : List Ob} {id off len : Nat} {es : List V} (s : Sl 1 h (.hsl id off len) es) : er (.strish (.c (.hsl id off len))) h = some (.hsl id off len) := by
  have hl := s.lt (id := id) (by simp [idsOf])
  have : aliveB h id = true := by
    have c := s.c
    simp only [conts] at c
    unfold aliveB
    split at c
    · rename_i e; rw [e]
    · cases c
  simp [er, ev, evOq, x_strish, EO.get, evStrish, this]
/-- All are bytes. -/
def Byt (ms : List Int) : Prop := ∀ m, m ∈ ms → 0 ≤ m ∧ m ≤ 255
theorem by8_inj : ∀ {a b : List Int}, Byt a → Byt b → by8 a = by8 b → a = b
  | [], [], _, _, _ => rfl
  | [], _ :: _, _, _, h => by simp [by8] at h
  | _ :: _, [], _, _, h => by simp [by8] at h
  | x :: a, y :: b, ha, hb, h => by
    simp only [by8, List.map_cons, List.cons.injEq] at h
    have h1 := congrArg UInt8.toNat h.1
    have hx := ha x (by simp)
    have hy := hb y (by simp)
    simp only [UInt8.toNat_ofNat'] at h1
    have : x = y := by omega
    subst this
    rw [by8_inj (fun m hm => ha m (by simp [hm])) (fun m hm => hb m (by simp [hm])) h.2]

/-! ### Numbers -/
theorem wrap_u8 (n : Int) : IntKind.u8.wrap n = n % 256 := by simp [IntKind.wrap, IntKind.signed, IntKind.bits]
theorem wrap_u16 (n : Int) : IntKind.u16.wrap n = n % 65536 := by simp [IntKind.wrap, IntKind.signed, IntKind.bits]
theorem wrap_u32 (n : Int) : IntKind.u32.wrap n = n % 4294967296 := by simp [IntKind.wrap, IntKind.signed, IntKind.bits]
theorem wrap_u64 (n : Int) : IntKind.u64.wrap n = n % 18446744073709551616 := by simp [IntKind.wrap, IntKind.signed, IntKind.bits]

/-! ### New slices -/
/-- A new slice. -/
abbrev New (h : List Ob) (es : List V) (v : V) (h' : List Ob) : Prop := Sl 1 h' v es ∧ Ap v ∧ Kp h h' [] ∧ (∀ j, j ∈ idsOf v → h.length ≤ j)
abbrev Beh (b : V) (h : List Ob) (es : List V) (v : V) (h' : List Ob) : Prop := Sl 1 h' v es ∧ Ap v ∧ Kp h h' (idsOf b) ∧ (∀ j, j ∈ idsOf v → j ∈ idsOf b ∨ h.length ≤ j)
theorem New.beh {h h1 h2 : List Ob} {a b : V} {es fs : List V} (n : New h es a h1) (q : Beh a h1 fs b h2) : New h fs b h2 := by
  obtain ⟨s1, a1, k1, f1⟩ := n
  obtain ⟨s2, a2, k2, f2⟩ := q
  refine ⟨s2, a2, k1.trans k2 (fun j hj => by cases hj) (fun j hj hlt => by have := f1 j hj; omega), fun j hj => ?_⟩
  rcases f2 j hj with q | q
  · exact f1 j q
  · have := k1.len; omega
theorem New.keep {h h1 h2 : List Ob} {v : V} {es : List V} (n : New h es v h1) (k : Kp h1 h2 []) : New h es v h2 :=
  ⟨n.1.keep k (fun _ _ q => by cases q), n.2.1, n.2.2.1.trans k (fun j hj => by cases hj) (fun j hj => by cases hj), n.2.2.2⟩
theorem New.after {h0 h h' : List Ob} {v : V} {es : List V} (k : Kp h0 h []) (n : New h es v h') : New h0 es v h' :=
  ⟨n.1, n.2.1, k.trans n.2.2.1 (fun j hj => by cases hj) (fun j hj => by cases hj), fun j hj => Nat.le_trans k.len (n.2.2.2 j hj)⟩
theorem Kp.tr {h h1 h2 : List Ob} (k : Kp h h1 []) (l : Kp h1 h2 []) : Kp h h2 [] := k.trans l (fun j hj => by cases hj) (fun j hj => by cases hj)
theorem Sl.kp {sz : Nat} {h h' : List Ob} {v : V} {es : List V} (s : Sl sz h v es) (k : Kp h h' []) : Sl sz h' v es := s.keep k (fun _ _ q => by cases q)


theorem Beh.new {h h' : List Ob} {es : List V} {v : V} (q : Beh .nils h es v h') : New h es v h' :=
  ⟨q.1, q.2.1, q.2.2.1, fun j hj => (q.2.2.2 j hj).elim (fun z => by cases z) id⟩
theorem Sl.plain {h : List Ob} {v : V} {es : List V} (s : Sl 1 h v es) : plainV 1 v = true := by
  cases v <;> first | rfl | (have := s.c; simp [conts] at this)
theorem Sl.cells {h : List Ob} {v : V} {es : List V} (s : Sl 1 h v es) : v.cells = [v] := by
  cases v <;> first | rfl | (have := s.c; simp [conts] at this)
theorem bv_set (ms : List Int) (i : Nat) (m : Int) : (bv ms).set i (.int .u8 m) = bv (ms.set i m) := by simp [bv, List.map_set]
theorem bv_drop (ms : List Int) (i : Nat) : (bv ms).drop i = bv (ms.drop i) := by simp [bv, List.map_drop]
theorem bv_take (ms : List Int) (i : Nat) : (bv ms).take i = bv (ms.take i) := by simp [bv, List.map_take]

/-! ### Parts of slices -/
theorem getC (t : Nat → V) (v : V) : (EO.c v).get t = v := rfl
theorem slc_to {sz : Nat} {h : List Ob} {v : V} {es : List V} (s : Sl sz h v es) (hs : ∀ e, e ∈ es → e.cells.length = sz) {lo hi : Option EO} {a b : Nat} (ha : bndV (lo.map (·.get fun _ => .junk)) 0 = some a) (hb : bndV (hi.map (·.get fun _ => .junk)) es.length = some b) (h1 : a ≤ b) (h2 : b ≤ es.length) :
    ∃ y, er (.slcL sz (.c v) lo hi none) h = some y ∧ Sl sz h y ((es.drop a).take (b - a)) ∧ (∀ j, j ∈ idsOf y → j ∈ idsOf v) := by
  have c := s.c
  have hc : bndV (none : Option V) 0 = some 0 := rfl
  cases v with
  | nils =>
    simp [conts] at c; subst c
    have hb0 : b = 0 := by simpa using h2
    subst hb0
    have ha0 : a = 0 := by omega
    subst ha0
    refine ⟨.nils, ?_, Sl.nils _ _, fun j hj => hj⟩
    simp only [List.length_nil] at hb
    simp only [er, ev, evOq, x_slcL, getC, Option.map_none, evSlcL, ha, hb, hc]
    rfl
  | esl =>
    simp [conts] at c; subst c
    have hb0 : b = 0 := by simpa using h2
    subst hb0
    have ha0 : a = 0 := by omega
    subst ha0
    refine ⟨.esl, ?_, Sl.esl _ _, fun j hj => hj⟩
    simp only [List.length_nil] at hb
    simp only [er, ev, evOq, x_slcL, getC, Option.map_none, evSlcL, ha, hb, hc]
    rfl
  | sl fs =>
    simp only [conts] at c
    split at c
    · rename_i hh
      injection c with c; subst c
      refine ⟨.sl ((fs.drop a).take (b - a)), ?_, ⟨?_, fun l q => by cases q⟩, fun j hj => hj⟩
      · simp only [er, ev, evOq, x_slcL, getC, Option.map_none, evSlcL, ha, hb, hh, if_true]
        rw [if_pos ⟨h1, h2⟩]
        rfl
      · simp only [conts]
        rw [if_pos]
        unfold headOk
        cases hd : (List.take (b - a) (List.drop a fs)).head? with
        | none => simp
        | some e =>
          have : e ∈ fs := List.mem_of_mem_drop (List.mem_of_mem_take (List.mem_of_mem_head? (by rw [hd]; rfl)))
          simp [hs e this]
    · cases c
  | hsl id off len =>
    simp only [conts] at c
    split at c
    · rename_i fs q hob
      split at c
      · rename_i hh
        obtain ⟨rfl, hin⟩ := hh
        injection c with c
        have hlen : es.length = len := by rw [← c]; simp only [List.length_take, List.length_drop]; omega
        rw [hlen] at hb
        have hal : aliveB h id = true := by unfold aliveB; rw [hob]
        by_cases hz : a = b ∧ 0 < a
        · refine ⟨.sl [], ?_, ?_, fun j hj => by cases hj⟩
          · simp only [er, ev, evOq, x_slcL, getC, Option.map_none, evSlcL, ha, hb, hob, hal, if_true]
            rw [if_pos ⟨h1, by omega⟩, if_pos hz]
            rfl
          · have : (es.drop a).take (b - a) = [] := by rw [hz.1]; simp
            rw [this]
            exact Sl.sl (by simp [headOk])
        · refine ⟨.hsl id (off + a) (b - a), ?_, ⟨?_, fun l q => by cases q⟩, fun j hj => hj⟩
          · simp only [er, ev, evOq, x_slcL, getC, Option.map_none, evSlcL, ha, hb, hob, hal, if_true]
            rw [if_pos ⟨h1, by omega⟩, if_neg hz]
            rfl
          · simp only [conts, hob]
            rw [if_pos ⟨trivial, by omega⟩, ← c, List.drop_take, List.take_take, List.drop_drop]
            congr 2
            omega
      · cases c
    · cases c
  | str l => exact absurd rfl (s.ns l)
  | _ => simp [conts] at c
theorem bv_cells {ms : List Int} : ∀ e, e ∈ bv ms → e.cells.length = 1 := by
  intro e h
  simp only [bv, List.mem_map] at h
  obtain ⟨m, _, rfl⟩ := h
  rfl
/-- Bytes of a text. -/
theorem by8_back : ∀ {ms : List Int}, Byt ms → (by8 ms).map (fun b => V.int .u8 b.toNat) = bv ms
  | [], _ => rfl
  | m :: ms, hb => by
    have h := hb m (by simp)
    have := by8_back (ms := ms) fun x hx => hb x (by simp [hx])
    simp only [by8, bv, List.map_cons, List.map_map] at this ⊢
    rw [this]
    simp only [UInt8.toNat_ofNat', List.cons.injEq, V.int.injEq, true_and, and_true]
    omega
theorem by8_append (a b : List Int) : by8 (a ++ b) = by8 a ++ by8 b := by simp [by8]
@[simp] theorem by8_length (a : List Int) : (by8 a).length = a.length := by simp [by8]
theorem toBytes_to {h : List Ob} {ms : List Int} (hb : Byt ms) : To2 (ev (.toBytes (.c (.str (by8 ms)))) h) (New h (bv ms)) := by
  have : ev (.toBytes (.c (.str (by8 ms)))) h = some (.hsl h.length 0 (bv ms).length, h ++ [.row (bv ms) 1]) := by
    have e := by8_back hb
    show some (evToBytes h (by8 ms)) = _
    simp only [evToBytes, e, by8_length, bv_length]
  rw [this]
  exact To2.some ⟨Sl.hslNew h _, Ap.hsl _ _ _, ⟨by simp, fun j hj _ => by rw [List.getElem?_append_left hj]⟩, fun j hj => by simp [idsOf] at hj; omega⟩
theorem er_addS {h : List Ob} {a b : List UInt8} (hl : a.length + b.length < 9223372036854775808) : er (.bin .add (.c (.str a)) (.c (.str b))) h = some (.str (a ++ b)) := by
  simp only [er, ev, evOq, x_bin, getC, evBin, evStr]
  rw [if_pos hl]; rfl
end Go.Proofs.Ytdcdmpgigmhhpaa.E
