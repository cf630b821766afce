/- The layer E, part 29: bytes handed to what has no body (comparing, finding a byte). No condition. -/
import Derived.Test.YtdcdmpgigmhhpaaE23
import Derived.Lib.Bytealg
namespace Go.Proofs.Ytdcdmpgigmhhpaa.E
set_option linter.unusedSimpArgs false
set_option linter.unusedVariables false

def evBytes (h : List Ob) (v : V) : Option (List UInt8) := match v with
  | .str l => some l
  | v => (conts h 1 v).bind (mapAll byteOf)

theorem add_add (a : Addr) (i : Nat) : (a.add i).add 1 = a.add (i + 1) := by
  obtain ⟨b, o, x⟩ := a
  unfold Addr.add
  by_cases h : i = 0
  · subst h; simp
  · simp only [h, if_false]
    simp
    omega

theorem cellsFrom_ext {P : Program} {w : World} (a : Addr) : ∀ (n i : Nat) (acc r : Array Value) (w' : World), (loadCellsFrom a i n acc).run P w = .ok r w' → ∃ vs : List Value, r = acc ++ vs.toArray ∧ vs.length = n
  | 0, i, acc, r, w', h => by
    simp only [loadCellsFrom, Sem.run_pure] at h
    injection h with h1 h2
    exact ⟨[], by simp [h1], rfl⟩
  | n + 1, i, acc, r, w', h => by
    simp only [loadCellsFrom, Sem.run_bind] at h
    cases hv : (load (a.add i)).run P w with
    | halt x y => rw [hv] at h; simp [Result.andThen] at h
    | ok v w1 =>
      rw [hv] at h
      simp only [Result.andThen_ok] at h
      have hw : w1 = w := by
        rw [run_load] at hv
        split at hv
        · injection hv with _ e; exact e.symm
        · split at hv
          · injection hv with _ e; exact e.symm
          · cases hv
      subst hw
      obtain ⟨vs, h1, h2⟩ := cellsFrom_ext a n (i + 1) _ r w' h
      exact ⟨v :: vs, by rw [h1]; simp, by simp [h2]⟩

theorem loadBytes_of {P : Program} {w : World} (a : Addr) : ∀ (ns : List Int) (i : Nat) (acc : Array Value) (b : ByteArray), (loadCellsFrom a i ns.length acc).run P w = .ok (acc ++ (ns.map (Value.int .u8)).toArray) w →
    (Extern.Bytes.loadBytes (a.add i) ns.length b).run P w = .ok (ns.foldl (fun r n => r.push (UInt8.ofNat n.toNat)) b) w
  | [], i, acc, b, h => by simp [Extern.Bytes.loadBytes]
  | n :: ns, i, acc, b, h => by
    simp only [List.length_cons, loadCellsFrom, Sem.run_bind] at h
    cases hv : (load (a.add i)).run P w with
    | halt x y => rw [hv] at h; simp [Result.andThen] at h
    | ok v w1 =>
      rw [hv] at h
      simp only [Result.andThen_ok] at h
      have hw : w1 = w := by
        rw [run_load] at hv
        split at hv
        · injection hv with _ e; exact e.symm
        · split at hv
          · injection hv with _ e; exact e.symm
          · cases hv
      subst hw
      obtain ⟨vs, h1, h2⟩ := cellsFrom_ext a ns.length (i + 1) _ _ _ h
      have h3 : v :: vs = (n :: ns).map (Value.int .u8) := by
        have := congrArg Array.toList h1
        simp only [Array.toList_append, Array.toList_push, List.append_assoc, List.singleton_append] at this
        exact (List.append_cancel_left this).symm
      simp only [List.map_cons, List.cons.injEq] at h3
      obtain ⟨rfl, h4⟩ := h3
      have ih := loadBytes_of a ns (i + 1) (acc.push (.int .u8 n)) (b.push (UInt8.ofNat n.toNat)) (by rw [h]; simp)
      simp only [List.length_cons, Extern.Bytes.loadBytes, Sem.run_bind, hv, Result.andThen_ok, List.foldl_cons, add_add]
      exact ih

theorem bytesOf_good {P : Program} {L : Loc} {h : List Ob} {w : World} (H : HRel L h w) {v : V} {x : Value} {l : List UInt8} (rep : Rep L w v x) (he : evBytes h v = some l) : (Extern.Bytes.bytesOf x).run P w = .ok ⟨l.toArray⟩ w := by
  have main : (∀ l, v ≠ .str l) → (conts h 1 v).bind (mapAll byteOf) = some l → (Extern.Bytes.bytesOf x).run P w = .ok ⟨l.toArray⟩ w := by
    intro hv he
    simp only [Option.bind_eq_some_iff] at he
    obtain ⟨es, hc, hm⟩ := he
    obtain ⟨hlen, hfl, fn, hfn, hrn⟩ := conts_spec (P := P) H rep hc
    obtain ⟨base, cap, rfl⟩ := conts_slice H rep hc hv
    obtain ⟨g1, g2⟩ := mapAll_get hm
    cases base with
    | none =>
      have h0 : es = [] := by
        generalize hg : es.length = n at rep
        cases rep with
        | nils => exact List.length_eq_zero_iff.1 hg
        | hslD _ q q1 =>
          simp only [conts] at hc
          split at hc
          · rename_i es0 s hob
            obtain ⟨b, base, c, e, fr, h1, _⟩ := H.obs _ _ hob
            rw [q] at h1; cases h1
          · cases hc
        | _ => simp [conts] at hc
      subst h0
      simp [mapAll] at hm
      subst hm
      simp [Extern.Bytes.bytesOf]
      rfl
    | some a =>
      have hl := hfn es.length w (Nat.le_refl _) rfl
      simp only [Builtin.firstCells, Nat.mul_one] at hl
      have hns : ∃ ns : List Int, (List.range es.length).map fn = ns.map (Value.int .u8) ∧ ns.map (fun n => UInt8.ofNat n.toNat) = l := by
        refine ⟨es.map fun e => (match e with | .int _ n => n | _ => 0), ?_, ?_⟩
        · apply List.ext_getElem?
          intro k
          by_cases hk : k < es.length
          · have hek : es[k]? = some es[k] := List.getElem?_eq_getElem hk
            obtain ⟨y, hy⟩ : ∃ y, l[k]? = some y := ⟨l[k], List.getElem?_eq_getElem (by omega)⟩
            obtain ⟨z, q1, q2⟩ := g2 k y hy
            rw [hek] at q1; injection q1 with q1; subst q1
            have : ∃ n, es[k] = .int .u8 n := by
              generalize es[k] = z at q2
              cases z <;> simp [byteOf] at q2
              rename_i kk n
              cases kk <;> simp [byteOf] at q2
              exact ⟨n, rfl⟩
            obtain ⟨n, hn⟩ := this
            have hr := hrn k 0 es[k] es[k] hek (by rw [hn]; rfl)
            rw [hn] at hr
            simp only [Nat.mul_one, Nat.add_zero] at hr
            have hfk : fn k = .int .u8 n := hr.int_inv
            rw [List.getElem?_map, List.getElem?_range hk, List.getElem?_map, List.getElem?_map, hek, hn]
            simp [hfk]
          · rw [List.getElem?_eq_none (by simp; omega), List.getElem?_eq_none (by simp; omega)]
        · apply List.ext_getElem?
          intro k
          by_cases hk : k < es.length
          · have hek : es[k]? = some es[k] := List.getElem?_eq_getElem hk
            obtain ⟨y, hy⟩ : ∃ y, l[k]? = some y := ⟨l[k], List.getElem?_eq_getElem (by omega)⟩
            obtain ⟨z, q1, q2⟩ := g2 k y hy
            rw [hek] at q1; injection q1 with q1; subst q1
            rw [List.getElem?_map, List.getElem?_map, hek, hy]
            generalize es[k] = z at q2
            cases z <;> simp [byteOf] at q2
            rename_i kk n
            cases kk <;> simp [byteOf] at q2
            simp [q2]
          · rw [List.getElem?_eq_none (by simp; omega), List.getElem?_eq_none (by omega)]
      obtain ⟨ns, n1, n2⟩ := hns
      rw [n1] at hl
      have hnl : ns.length = es.length := by
        have := congrArg List.length n1
        simpa using this.symm
      have := loadBytes_of (P := P) (w := w) a ns 0 #[] .empty (by rw [hnl]; simpa [Go.loadCells] using hl)
      rw [hnl] at this
      have a0 : a.add 0 = a := by obtain ⟨b, o, x⟩ := a; simp [Addr.add]
      rw [a0] at this
      simp only [Extern.Bytes.bytesOf]
      rw [this, foldl_push_bytes, n2]
      simp [ByteArray.empty, ByteArray.emptyWithCapacity]
      rfl
  unfold evBytes at he
  split at he
  · injection he with he; subst he; cases rep; simp [Extern.Bytes.bytesOf]
  · rename_i hne
    exact main (fun l q => hne l q) he

theorem cmpB_run {P : Program} {L : Loc} {h : List Ob} {w : World} (H : HRel L h w) {u v : V} {x y : Value} {l m : List UInt8} (ru : Rep L w u x) (rv : Rep L w v y) (hu : evBytes h u = some l) (hv : evBytes h v = some m) :
    (Extern.BytealgCompare.compare #[x, y]).run P w = .ok (.int .i64 (Lib.compareBytes l m)) w := by
  change Sem.run P (do pure (goInt (Extern.BytealgCompare.cmp (← Extern.Bytes.bytesOf x) (← Extern.Bytes.bytesOf y)))) w = _
  simp only [Sem.run_bind, bytesOf_good H ru hu, bytesOf_good H rv hv, Result.andThen_ok, Sem.run_pure]
  rw [Lib.cmp_eq]
  rfl

theorem idxB_run {P : Program} {L : Loc} {h : List Ob} {w : World} (H : HRel L h w) {u : V} {x : Value} {l : List UInt8} {c : Int} (ru : Rep L w u x) (hu : evBytes h u = some l) :
    (Extern.BytealgIndexByte.indexByte #[x, .int .u8 c]).run P w = .ok (.int .i64 (Lib.indexByte l c.toNat.toUInt8)) w := by
  have := Lib.run_indexByteString (P := P) ⟨l.toArray⟩ c w
  change Sem.run P (do
    let b ← Extern.Bytes.bytesOf (.string ⟨l.toArray⟩)
    let c' ← Extern.Bytes.asByte (.int .u8 c)
    match (List.range b.size).find? fun i => b[i]! == c' with
    | some i => pure (goInt i)
    | none => pure (goInt (-1))) w = _ at this
  change Sem.run P (do
    let b ← Extern.Bytes.bytesOf x
    let c' ← Extern.Bytes.asByte (.int .u8 c)
    match (List.range b.size).find? fun i => b[i]! == c' with
    | some i => pure (goInt i)
    | none => pure (goInt (-1))) w = _
  rw [Sem.run_bind] at this ⊢
  rw [bytesOf_good H ru hu]
  simpa [Extern.Bytes.bytesOf] using this

end Go.Proofs.Ytdcdmpgigmhhpaa.E
