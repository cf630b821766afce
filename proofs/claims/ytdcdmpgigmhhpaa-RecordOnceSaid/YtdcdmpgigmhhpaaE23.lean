/- The layer E, part 23 (ahead of part 16): what else is met. No condition. -/
import Derived.Test.YtdcdmpgigmhhpaaE15
namespace Go.Proofs.Ytdcdmpgigmhhpaa.E
set_option linter.unusedSimpArgs false
set_option linter.unusedVariables false

/-! ### cap of a slice that can have none -/
def evCap : V → Option Nat
  | .nils => some 0
  | .esl => some 0
  | _ => none

theorem cap_good {P : Program} {L : Loc} {h : List Ob} {w : World} (H : HRel L h w) {t e ty : TypeId} {ts : Array TypeId} {v : V} {x : Value} {n : Nat} (hu : P.underlying t = some (.slice e)) (ht : ts[0]? = some t) (r : Rep L w v x) (he : evCap v = some n) :
    Good P L w (Builtin.cap_ ts ty #[x]) (.int .i64 n) h := by
  have key : ∀ base, (Builtin.cap_ ts ty #[.slice base 0 0]).run P w = .ok (.int .i64 0) w := by
    intro base
    unfold Builtin.cap_
    rw [ht]
    simp only [List.getElem?_toArray, List.getElem?_cons_zero, Sem.run_bind, run_underlying hu, Result.andThen_ok, Sem.run_pure, goInt]
    rfl
  unfold evCap at he
  split at he <;> first | (cases he; done) | skip
  · injection he with he; subst he; cases r
    exact .same H (key none) (.int _ _)
  · injection he with he; subst he; cases r
    exact .same H (key _) (.int _ _)

/-! ### bytes that are (also) a string's -/
def evStrish (h : List Ob) : V → Option V
  | .hsl id off len => if aliveB h id then some (.hsl id off len) else none
  | _ => none

theorem freeze_put {w : World} {b o : Nat} {c : Array Value} {e : TypeId} {fr : Nat × Nat} (h : w.heap[b]? = some (.cells c e fr)) : ∃ fr', w.freeze ⟨b, o, none⟩ 1 = put w b (.cells c e fr') ∧ (okFr fr c.size → o = c.size → okFr fr' c.size) := by
  obtain ⟨lo, hi⟩ := fr
  have hb := (Array.getElem?_eq_some_iff.1 h).1
  have hbv := (Array.getElem?_eq_some_iff.1 h).2
  refine ⟨if lo == hi then (o, o + 1) else (min lo o, max hi (o + 1)), ?_, ?_⟩
  · unfold World.freeze put
    rw [if_neg (by decide)]
    congr 1
    apply Array.ext_getElem?
    intro k
    rw [Array.getElem?_modify, Array.getElem?_setIfInBounds]
    split
    · rename_i q; subst q
      rw [h]
      simp [hb]
    · rfl
  · rintro ⟨q1, q2⟩ rfl
    simp only at q1 q2
    split
    · exact ⟨by simp, fun o ho => by simp; omega⟩
    · rename_i hne
      have hne' : lo ≠ hi := by simpa using hne
      have hlo : c.size ≤ lo := by
        rcases Nat.lt_or_ge lo c.size with z | z
        · exact absurd ⟨Nat.le_refl _, by omega⟩ (q2 lo z)
        · exact z
      refine ⟨by simp; omega, fun o ho => ?_⟩
      simp only [Nat.min_def, Nat.max_def]
      split <;> split <;> omega

theorem strish_good {P : Program} {L : Loc} {h : List Ob} {w : World} (H : HRel L h w) {src e : TypeId} (hs : P.underlying src = some (.slice e)) (he8 : P.underlying e = some (.int .u8)) {v r : V} {x : Value} (rep : Rep L w v x) (he : evStrish h v = some r) :
    Good P L w (convert src src x) r h := by
  unfold evStrish at he
  split at he
  · rename_i id off len
    split at he
    · rename_i hal
      injection he with he; subst he
      obtain ⟨p, hp⟩ := alive_at H hal
      have hid := H.lt id p hp
      rw [H.len] at hid
      cases hob : h[id]? with
      | none => rw [List.getElem?_eq_none_iff] at hob; omega
      | some ob =>
      cases rep with
      | hslD _ g => rw [hp] at g; cases g
      | @hsl _ _ _ cap b base sz g hc hz =>
        have hbl := H.mem _ _ _ _ g
        have run0 : (convert src src (.slice (some ⟨b, base + off * sz, none⟩) len cap)).run P w = ((markStringish ⟨b, base + off * sz, none⟩).run P w).andThen fun _ w' => .ok (.slice (some ⟨b, base + off * sz, none⟩) len cap) w' := by
          simp only [convert, Sem.run_bind, run_underlying hs, run_underlying he8, Result.andThen_ok, beq_self_eq_true, Sem.run_pure]
        cases hw : w.heap[b]? with
        | none => rw [Array.getElem?_eq_none_iff] at hw; omega
        | some o =>
        have plain : ∀ w', (markStringish ⟨b, base + off * sz, none⟩).run P w = .ok () w' → w' = w → Good P L w (convert src src (.slice (some ⟨b, base + off * sz, none⟩) len cap)) (.hsl id off len) h := by
          rintro w' hm rfl
          exact .same H (by rw [run0, hm]; rfl) (.hsl g hc hz)
        cases o with
        | cells c ee fr =>
          obtain ⟨fr', f1, f2⟩ := freeze_put (o := c.size) hw
          have hm : (markStringish ⟨b, base + off * sz, none⟩).run P w = .ok () (put w b (.cells c ee fr')) := by
            simp only [markStringish, Sem.run_bind, run_shape, Result.andThen_ok, World.shape?, hw]
            simp only [run_freeze, f1]
          have hfr : Fr (Own L) w (put w b (.cells c ee fr')) := fr_put ⟨id, _, g⟩ hw rfl
          have hset : h.set id ob = h := by
            apply List.ext_getElem?
            intro k
            by_cases q : id = k
            · subst q; rw [List.getElem?_set_self hid, hob]
            · rw [List.getElem?_set_ne q]
          have hH : HRel L (h.set id ob) (put w b (.cells c ee fr')) := by
            refine HRel.set H g hid hfr (fun k _ hk => put_other hk) ?_
            have := H.obs id ob hob
            cases ob with
            | row es s =>
              obtain ⟨b1, base1, c1, e1, fr1, h1, h2, h3, h4, h5⟩ := this
              rw [g] at h1; injection h1 with h1; injection h1 with q1 q2; injection q2 with q2 q3; subst q1; subst q2; subst q3
              rw [hw] at h2; injection h2 with h2; injection h2 with q1 q2 q3; subst q1; subst q2; subst q3
              exact ⟨b, base, c, ee, fr', g, put_same hbl, f2 h3 rfl, h4, fun i j x y a1 a2 => let ⟨v, z1, z2⟩ := h5 i j x y a1 a2; ⟨v, z1, H.step_rep z2 hfr (Ext.refl L w)⟩⟩
            | map ents clock =>
              obtain ⟨b1, base1, sz1, mes, h1, h2, _⟩ := this
              rw [g] at h1; injection h1 with h1; injection h1 with q1 q2; subst q1
              rw [hw] at h2; cases h2
            | siter l pos =>
              obtain ⟨b1, sz1, h1, h2⟩ := this
              rw [g] at h1; injection h1 with h1; injection h1 with q1 q2; subst q1
              rw [hw] at h2; cases h2
            | miter m s1 s2 s3 =>
              obtain ⟨b1, sz1, mb, h1, h2, _⟩ := this
              rw [g] at h1; injection h1 with h1; injection h1 with q1 q2; subst q1
              rw [hw] at h2; cases h2
            | dead => rw [show L.at_ id = none from this] at g; cases g
          rw [hset] at hH
          refine ⟨_, _, L, by rw [run0, hm]; rfl, ?_, hH, hfr, Ext.refl _ _⟩
          exact H.step_rep (.hsl g hc hz) hfr (Ext.refl L w)
        | _ => exact plain w (by simp [markStringish, World.shape?, hw]) rfl
    · cases he
  · cases he

/-! ### append of so many zero bytes -/
def zeroStr (n : Nat) : List UInt8 := List.replicate n 0

def evAppZ (h : List Ob) (d : V) (n : Int) : Option (V × List Ob) :=
  if 0 ≤ n ∧ n ≤ 140737488355328 then evApp h 1 1 d (List.replicate n.toNat (.int .u8 0)) else none

theorem run_appZ {P : Program} {w : World} {ts : Array TypeId} {ty t e t2 : TypeId} {i : TypeInfo} {k2 kk : IntKind} (ht : ts[0]? = some t) (ht2 : ts[1]? = some t2) (hu : P.underlying t = some (.slice e)) (hu2 : P.underlying t2 = some (.int k2))
    (hi : P.info? e = some i) (hz : i.zero = some (.int .u8 0)) (hs : i.size = 1) (hb : i.bytes = 1) {base : Option Addr} {len cap n : Nat} (hn : n ≤ 140737488355328) (hbound : len + n ≤ roomMax) :
    (Builtin.append_ ts ty #[.slice base len cap, .int kk n]).run P w = (Builtin.append_ #[t, t] ty #[.slice base len cap, .string ⟨(zeroStr n).toArray⟩]).run P w := by
  have hzint : (match (TypeDesc.int k2) with | .int _ => true | _ => false) = true := rfl
  have hzint2 : (match (TypeDesc.slice e) with | .int _ => true | _ => false) = false := rfl
  have hwrap : IntKind.i64.wrap (n : Int) = n := by rw [IntKind.wrap_i64]; omega
  have hti : ∀ w', (typeInfo e).run P w' = .ok i w' := fun w' => by simp [typeInfo, hi]
  have hzv : ∀ w', (zeroValue e).run P w' = .ok (.int .u8 0) w' := fun w' => by simp [zeroValue, typeInfo, hi, hz]
  have hlz : ∀ w', (Builtin.lenOf (.string ⟨(zeroStr n).toArray⟩)).run P w' = .ok n w' := fun w' => by simp [Builtin.lenOf, zeroStr, ByteArray.size]
  have hfz : ∀ w', (Builtin.firstCells 1 n (.string ⟨(zeroStr n).toArray⟩)).run P w' = .ok (Array.replicate n (.int .u8 0)) w' := fun w' => by
    have : ((⟨(zeroStr n).toArray⟩ : ByteArray).extract 0 n).data.map (fun b => Value.int .u8 b.toNat) = Array.replicate n (.int .u8 0) := by
      have h1 : (⟨(zeroStr n).toArray⟩ : ByteArray).extract 0 n = ⟨(zeroStr n).toArray⟩ := by
        have : (⟨(zeroStr n).toArray⟩ : ByteArray).size = n := by simp [zeroStr, ByteArray.size]
        conv => lhs; arg 3; rw [← this]
        exact ByteArray.extract_zero_size
      rw [h1]
      simp [zeroStr]
    simp only [Builtin.firstCells, Sem.run_pure, this]
  have hzc : Builtin.zeroCells (Value.int .u8 0).cells n = Array.replicate n (.int .u8 0) := by
    apply Array.ext'
    simp [Builtin.zeroCells, Value.cells]
    apply List.ext_getElem?
    intro k
    simp
    rcases Nat.lt_or_ge k n with q | q
    · simp [List.getElem?_range, q, Nat.mod_one]
    · simp [List.getElem?_eq_none, q]
  have hl0 : ¬ (n : Int) < 0 := by omega
  have hl1 : ¬ (n : Int) * (i.bytes : Int) > 2 ^ 48 := by rw [hb]; simp; omega
  unfold Builtin.append_
  rw [ht, ht2]
  simp only [List.getElem?_toArray, List.getElem?_cons_zero, List.getElem?_cons_succ, Sem.run_bind, run_underlying hu, run_underlying hu2, Result.andThen_ok, Sem.run_pure, run_sizeOf w hi, hzint, hzint2, Bool.false_eq_true, if_false, if_true, hlz, asInt, asIntOf, hwrap, hs]
  rw [if_neg hl0]
  simp only [Sem.run_bind, Sem.run_pure, Result.andThen_ok, hti]
  rw [if_neg hl1]
  simp only [Sem.run_bind, Sem.run_pure, Result.andThen_ok, Int.toNat_natCast]
  have hA : ∀ w', (if (!true) = true then Builtin.firstCells 1 n (Value.int kk ↑n) else if n * 1 = 0 then pure #[] else do
        let z ← zeroValue e
        pure (Builtin.zeroCells z.cells n) : Sem (Array Value)).run P w' = .ok (Array.replicate n (.int .u8 0)) w' := by
    intro w'
    rw [if_neg (by decide)]
    split
    · rename_i q
      have : n = 0 := by omega
      subst this; simp
    · simp only [Sem.run_bind, hzv, Result.andThen_ok, Sem.run_pure, hzc]
  have hB : ∀ w', (if (!false) = true then Builtin.firstCells 1 n (Value.string { data := (zeroStr n).toArray }) else if n * 1 = 0 then pure #[] else do
        let z ← zeroValue e
        pure (Builtin.zeroCells z.cells n) : Sem (Array Value)).run P w' = .ok (Array.replicate n (.int .u8 0)) w' := by
    intro w'
    rw [if_pos (by decide)]
    exact hfz w'
  by_cases hc : len + n ≤ cap
  · rw [if_pos hc, if_pos hc, Sem.run_bind, hA, Result.andThen_ok]
    conv => rhs; rw [Sem.run_bind, hB, Result.andThen_ok]
  · have hmax : (IntKind.i64.max : Int) = 9223372036854775807 := by decide
    have hr : roomMax = 140737488355328 := rfl
    have hfit := growslice_fits (need := len + n) (old := cap) (bytes := i.bytes) (by omega) (by rw [hb]; omega)
    rw [if_neg hc, if_neg hc, Sem.run_bind, hti, Result.andThen_ok]
    conv => rhs; rw [Sem.run_bind, hti, Result.andThen_ok]
    try dsimp only
    rw [if_neg (by rw [hmax]; omega)]
    conv => rhs; rw [if_neg (by rw [hmax]; omega)]
    rw [Sem.run_bind, hti, Result.andThen_ok]
    conv => rhs; rw [Sem.run_bind, hti, Result.andThen_ok]
    try dsimp only
    rw [if_neg (by omega)]
    conv => rhs; rw [if_neg (by omega)]
    rw [Sem.run_bind]
    conv => rhs; rw [Sem.run_bind]
    congr 1
    funext c w1
    rw [Sem.run_bind]
    conv => rhs; rw [Sem.run_bind]
    congr 1
    funext i1 w2
    rw [Sem.run_bind]
    conv => rhs; rw [Sem.run_bind]
    congr 1
    funext u w3
    rw [Sem.run_bind]
    conv => rhs; rw [Sem.run_bind]
    congr 1
    funext old w4
    rw [Sem.run_bind, hA, Result.andThen_ok]
    conv => rhs; rw [Sem.run_bind, hB, Result.andThen_ok]

theorem appZ_good {P : Program} {L : Loc} {h h' : List Ob} {w : World} (H : HRel L h w) {ts : Array TypeId} {ty t e t2 : TypeId} {i : TypeInfo} {k2 kk : IntKind} (ht : ts[0]? = some t) (ht2 : ts[1]? = some t2) (hu : P.underlying t = some (.slice e)) (hu2 : P.underlying t2 = some (.int k2))
    (hi : P.info? e = some i) (hz : i.zero = some (.int .u8 0)) (hs : i.size = 1) (hb : i.bytes = 1) {d r : V} {n : Int} {x : Value} (rd : Rep L w d x) (he : evAppZ h d n = some (r, h')) : Good P L w (Builtin.append_ ts ty #[x, .int kk n]) r h' := by
  unfold evAppZ at he
  split at he
  · rename_i hn
    obtain ⟨m, rfl⟩ := Int.eq_ofNat_of_zero_le hn.1
    simp only [Int.toNat_natCast] at he
    have T : AppT P #[t, t] t e t i (.int .u8 0) (.slice e) := ⟨rfl, rfl, hu, hu, (fun _ q => by cases q), hi, hz, (by omega), (by rw [hs]; rfl), (by omega)⟩
    have hc : conts h i.size (.str (zeroStr m)) = some (List.replicate m (.int .u8 0)) := by
      simp [conts, hs, zeroStr]
    have he' : evApp h i.size i.bytes d (List.replicate m (.int .u8 0)) = some (r, h') := by rw [hs, hb]; exact he
    have g := app_good (P := P) (ty := ty) H T rd (.str (zeroStr m)) hc he'
    have hm : m ≤ 140737488355328 := by omega
    have fin : ∀ base len cap, x = .slice base len cap → len + m ≤ roomMax → Good P L w (Builtin.append_ ts ty #[x, .int kk m]) r h' := by
      rintro base len cap rfl hl
      obtain ⟨y, w', L', g1, g2⟩ := g
      exact ⟨y, w', L', by rw [run_appZ ht ht2 hu hu2 hi hz hs hb hm hl]; exact g1, g2⟩
    unfold evApp at he
    split at he
    · cases rd; exact fin _ _ _ rfl (by unfold roomMax; omega)
    · cases rd; exact fin _ _ _ rfl (by unfold roomMax; omega)
    · rename_i id off len
      split at he
      · rename_i ds s hob
        split at he
        · rename_i hh
          obtain ⟨b, base, c, ee, fr, h1, h2, h3, h4, h5⟩ := H.obs id _ hob
          cases rd with
          | @hsl _ _ _ cap b1 base1 s1 g hcap hz =>
            have := hh.2.2
            simp only [List.length_replicate, Nat.mul_one] at this
            exact fin _ _ _ rfl this
          | hslD _ g => rw [h1] at g; cases g
        · cases he
      · cases he
    · cases he
  · cases he

/-! ### A string's characters, one by one -/
def evRangeS (h : List Ob) : V → Option (V × List Ob)
  | .str l => some (.ptr h.length 0 0, h ++ [.siter l 0])
  | _ => none

theorem rangeS_good {P : Program} {L : Loc} {h h' : List Ob} {w : World} (H : HRel L h w) {t : TypeId} (hu : P.underlying t = some .string) {v r : V} {x : Value} (rep : Rep L w v x) (he : evRangeS h v = some (r, h')) : Good P L w (Instr.range t x) r h' := by
  unfold evRangeS at he
  split at he
  · rename_i l
    injection he with he; injection he with he1 he2; subst he1; subst he2
    cases rep
    have fr := fr_alloc (Own L) w (.stringIter ⟨l.toArray⟩ 0)
    have ex := ext_push L w w.heap.size 0 1 (Nat.le_refl _)
    refine ⟨.pointer (some ⟨w.heap.size, 0, none⟩), _, L.push (w.heap.size, 0, 1), ?_, ?_, HRel.push H _ _ 0 1 ⟨w.heap.size, 1, L.push_new _, by show (w.heap.push _)[w.heap.size]? = _; simp⟩, fr, ex⟩
    · simp only [Instr.range, Sem.run_bind, run_underlying hu, Result.andThen_ok, Sem.run_pure, run_newObj]
    · have := Rep.ptr (i := 0) (j := 0) (w := { w with heap := w.heap.push (.stringIter ⟨l.toArray⟩ 0) }) (L.push_new (w.heap.size, 0, 1))
      rw [H.len] at this
      exact this
  · cases he

def evNextS (h : List Ob) : V → Option (V × List Ob)
  | .ptr id 0 0 => match h[id]? with
    | some (.siter l pos) => if pos < l.length then
        some (.tup [.bool true, .int .i64 pos, .int .i32 (Utf8.decode ⟨l.toArray⟩ pos).1], h.set id (.siter l (pos + (Utf8.decode ⟨l.toArray⟩ pos).2)))
      else some (.tup [.bool false], h)
    | _ => none
  | _ => none

theorem run_getObj_s {P : Program} {w : World} {b : Nat} {s : ByteArray} {pos : Nat} (h : w.heap[b]? = some (.stringIter s pos)) : (getObj b).run P w = .ok (.stringIter s pos) w := by
  simp only [getObj, Sem.run, h]

theorem run_setObj_s {P : Program} {w : World} {b : Nat} {s : ByteArray} {pos : Nat} (h : w.heap[b]? = some (.stringIter s pos)) (o : Obj) : (setObj b o).run P w = .ok () (E.put w b o) := by
  simp only [setObj, Sem.run, h]; rfl

theorem nextS_good {P : Program} {L : Loc} {h h' : List Ob} {w : World} (H : HRel L h w) {ty : TypeId} {v r : V} {x : Value} (rep : Rep L w v x) (he : evNextS h v = some (r, h')) : Good P L w (Instr.next x true ty) r h' := by
  unfold evNextS at he
  split at he
  · rename_i id
    split at he
    · rename_i l pos hob
      have hid : id < h.length := (List.getElem?_eq_some_iff.1 hob).1
      obtain ⟨b, sz, h1, h2⟩ := H.obs id _ hob
      have hbl := (Array.getElem?_eq_some_iff.1 h2).1
      cases rep with
      | ptrD _ g => rw [h1] at g; cases g
      | ptr g =>
        rw [h1] at g; injection g with g; injection g with q1 q2; injection q2 with q2 q3; subst q1; subst q2
        have hsize : (⟨l.toArray⟩ : ByteArray).size = l.length := by simp [ByteArray.size]
        split at he
        · rename_i hp
          injection he with he; injection he with he1 he2; subst he1; subst he2
          have hfr : Fr (Own L) w (put w b (.stringIter ⟨l.toArray⟩ (pos + (Utf8.decode ⟨l.toArray⟩ pos).2))) := by
            refine ⟨rfl, rfl, rfl, by rw [put_size]; exact Nat.le_refl _, fun k hk ho => put_other (fun q => ho (q ▸ ⟨id, _, h1⟩)), fun k hk => ?_⟩
            by_cases q : k = b
            · subst q
              unfold bsz
              rw [put_same hbl, h2]
            · exact bsz_of_heap (put_other q)
          refine ⟨.tuple #[.bool true, .int .i64 pos, .int .i32 (Utf8.decode ⟨l.toArray⟩ pos).1], _, L, ?_, ?_, HRel.set H h1 hid hfr (fun k _ hk => put_other hk) ⟨b, sz, h1, put_same hbl⟩, hfr, Ext.refl _ _⟩
          · simp only [Instr.next, Sem.run_bind, run_getObj_s h2, Result.andThen_ok, Sem.run_pure, hsize, hp, if_true, Nat.zero_mul, Nat.add_zero]
            simp only [run_setObj_s h2, Result.andThen_ok, goInt]
          · refine .tup _ rfl (fun k c hk => ?_)
            match k, hk with
            | 0, hk => simp at hk; subst hk; exact .bool _
            | 1, hk => simp at hk; subst hk; exact .int _ _
            | 2, hk => simp at hk; subst hk; exact .int _ _
            | k + 3, hk => simp at hk
        · rename_i hp
          injection he with he; injection he with he1 he2; subst he1; subst he2
          refine .same H (x := .tuple #[.bool false]) ?_ ?_
          · simp only [Instr.next, Sem.run_bind, run_getObj_s h2, Result.andThen_ok, Sem.run_pure, hsize, hp, if_false, Nat.zero_mul, Nat.add_zero]
          · refine .tup _ rfl (fun k c hk => ?_)
            match k, hk with
            | 0, hk => simp at hk; subst hk; exact .bool _
            | k + 1, hk => simp at hk
    · cases he
  · cases he

end Go.Proofs.Ytdcdmpgigmhhpaa.E
