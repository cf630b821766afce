/- The layer E, part 15: a literal slice; an operation with its types looked up ahead, and what it comes to. No condition. -/
import Derived.Test.YtdcdmpgigmhhpaaE14
namespace Go.Proofs.Ytdcdmpgigmhhpaa.E
set_option linter.unusedSimpArgs false
set_option linter.unusedVariables false

def plainV (sz : Nat) (v : V) : Bool := v.cells.length == sz && v.cells.all V.scalar && (match v with | .tup _ | .junk => false | _ => true)

theorem plainV_spec {sz : Nat} {v : V} (h : plainV sz v = true) : flat sz v ∧ (v.scalar = true ∨ ∃ cs, v = .agg cs) := by
  simp only [plainV, Bool.and_eq_true, beq_iff_eq] at h
  refine ⟨⟨h.1.1, h.1.2⟩, ?_⟩
  cases v <;> first | exact .inl rfl | exact .inr ⟨_, rfl⟩ | (simp at h)

def evBslice' (h : List Ob) (sz : Nat) (z : V) (len : Nat) (ps : List (Nat × V)) : Option (V × List Ob) :=
  if len * sz ≤ 16777216 ∧ ps.all (fun p => decide (p.1 < len) && plainV sz p.2) then
    some (.hsl h.length 0 len, h ++ [.row (setAll (List.replicate len z) ps) sz]) else none

/-- Parts of a literal slice. -/
def SRep (L : Loc) (w : World) : List (Nat × V) → List (Nat × Value) → Prop
  | [], [] => True
  | (i, v) :: ps, (j, x) :: xs => i = j ∧ Rep L w v x ∧ SRep L w ps xs
  | _, _ => False

/-- Cells that stand for elements. -/
def CRep (L : Loc) (w : World) (sz : Nat) (es : List V) (c : Array Value) : Prop :=
  c.size = es.length * sz ∧ (∀ (k : Nat) (e : V), es[k]? = some e → flat sz e) ∧ ∀ (i j : Nat) (e y : V), es[i]? = some e → e.cells[j]? = some y → ∃ v, c[i * sz + j]? = some v ∧ Rep L w y v

theorem fillS_spec {L : Loc} {w : World} {sz len : Nat} : ∀ (ps : List (Nat × V)) (xs : List (Nat × Value)) (es : List V) (c : Array Value), SRep L w ps xs → es.length = len → ps.all (fun p => decide (p.1 < len) && plainV sz p.2) = true →
    CRep L w sz es c → ∃ c', Instr.fill (fun i => some (i * sz, sz)) c xs = some c' ∧ (setAll es ps).length = len ∧ CRep L w sz (setAll es ps) c'
  | [], [], es, c, _, hl, _, hc => ⟨c, rfl, hl, hc⟩
  | [], _ :: _, _, _, h, _, _, _ => h.elim
  | _ :: _, [], _, _, h, _, _, _ => h.elim
  | (i, v) :: ps, (j, x) :: xs, es, c, h, hl, hp, hc => by
    obtain ⟨rfl, h2, h3⟩ := h
    simp only [List.all_cons, Bool.and_eq_true, decide_eq_true_eq] at hp
    obtain ⟨⟨hi, hpv⟩, hps⟩ := hp
    obtain ⟨hfl, hv⟩ := plainV_spec hpv
    obtain ⟨c1, c2⟩ := h2.cells hv
    have hxs : x.cells.size = sz := by rw [c1, hfl.1]
    have hm : (i + 1) * sz ≤ len * sz := Nat.mul_le_mul_right _ hi
    have hcs := hc.1
    rw [hl] at hcs
    have hfit : i * sz + x.cells.toList.length ≤ c.size := by rw [Nat.add_mul] at hm; simp only [Array.length_toList]; omega
    have hfold : (x.cells.zipIdx.foldl (fun cs (p : Value × Nat) => cs.setIfInBounds (i * sz + p.2) p.1) c) = writeAt c (i * sz) x.cells.toList := by
      have := fold_writeAt x.cells.toList 0 c (i * sz)
      rw [← Array.foldl_toList, Array.toList_zipIdx]
      exact this
    have hc' : CRep L w sz (es.set i v) (writeAt c (i * sz) x.cells.toList) := by
      refine ⟨by rw [writeAt_size]; simpa using hc.1, fun k e hk => ?_, fun a b e y ha hb => ?_⟩
      · by_cases q : k = i
        · subst q; rw [List.getElem?_set_self (by omega)] at hk; injection hk with hk; subst hk; exact hfl
        · rw [List.getElem?_set_ne (fun e => q e.symm)] at hk; exact hc.2.1 k e hk
      · rw [writeAt_get _ _ _ hfit]
        simp only [Array.length_toList, hxs]
        by_cases q : a = i
        · subst q
          rw [List.getElem?_set_self (by omega)] at ha
          injection ha with ha; subst ha
          have hbl := (List.getElem?_eq_some_iff.1 hb).1
          rw [hfl.1] at hbl
          rw [if_pos (by omega), show a * sz + b - a * sz = b by omega]
          refine ⟨x.cells.getD b undef, ?_, c2 b y hb⟩
          simp [Array.getD, hxs, hbl]
        · rw [List.getElem?_set_ne (fun e => q e.symm)] at ha
          have hbl := (List.getElem?_eq_some_iff.1 hb).1
          rw [(hc.2.1 a e ha).1] at hbl
          rw [if_neg ?_]
          · exact hc.2.2 a b e y ha hb
          · intro hh
            rcases Nat.lt_or_gt_of_ne q with q' | q'
            · have : (a + 1) * sz ≤ i * sz := Nat.mul_le_mul_right _ q'
              rw [Nat.add_mul] at this; omega
            · have : (i + 1) * sz ≤ a * sz := Nat.mul_le_mul_right _ q'
              rw [Nat.add_mul] at this; omega
    obtain ⟨c'', g1, g2, g3⟩ := fillS_spec ps xs (es.set i v) _ h3 (by simpa using hl) hps hc'
    refine ⟨c'', ?_, g2, g3⟩
    simp only [Instr.fill]
    rw [if_neg (by simp only [Bool.or_eq_true, decide_eq_true_eq]; simp only [Array.length_toList] at hfit; omega), hfold]
    exact g1

theorem bslice_good {P : Program} {L : Loc} {h h' : List Ob} {w : World} (H : HRel L h w) {t e : TypeId} {i : TypeInfo} {zv : Value} {z r : V} {len : Nat} {ps : List (Nat × V)} {xs : List (Nat × Value)} (hu : P.underlying t = some (.slice e)) (hinf : P.info? e = some i)
    (hz : i.zero = some zv) (hv : ofZero zv = some z) (hpz : plainV i.size z = true) (hpos : 0 < i.size) (hs : SRep L w ps xs) (he : evBslice' h i.size z len ps = some (r, h')) : Good P L w (Instr.buildSlice t len xs.toArray) r h' := by
  unfold evBslice' at he
  split at he
  · rename_i hh
    injection he with he; injection he with he1 he2; subst he1; subst he2
    obtain ⟨hfl, hzs⟩ := plainV_spec hpz
    obtain ⟨c1, c2⟩ := (ofZero_rep (L := L) (w := w) hv).cells hzs
    rw [hfl.1] at c1
    have hzr : ∀ w', (zeroValue e).run P w' = .ok zv w' := fun w' => by simp [zeroValue, typeInfo, hinf, hz]
    let zc : Array Value := if len * i.size = 0 then #[] else zv.cells
    let c0 : Array Value := (Array.range (len * i.size)).map fun q => zc[q % zc.size]!
    have hc0 : CRep L w i.size (List.replicate len z) c0 := by
      refine ⟨by simp [c0], fun k e hk => ?_, fun a j x y hx hy => ?_⟩
      · have := List.mem_of_getElem? hk
        rw [List.mem_replicate] at this
        rw [this.2]; exact hfl
      · have hx' := hx
        have hm := List.mem_of_getElem? hx
        rw [List.mem_replicate] at hm
        obtain ⟨_, rfl⟩ := hm
        have hal := (List.getElem?_eq_some_iff.1 hx').1
        rw [List.length_replicate] at hal
        have hjl := (List.getElem?_eq_some_iff.1 hy).1
        rw [hfl.1] at hjl
        have hm := mul_le_of_lt (a := a) (n := len) (sz := i.size) (j := j) hal hjl
        refine ⟨zv.cells.getD j undef, ?_, c2 j y hy⟩
        have hne : len * i.size ≠ 0 := by omega
        have hzc : zc = zv.cells := if_neg hne
        simp only [c0, hzc, Array.getElem?_map, Array.getElem?_range, hm, if_true, Option.map_some, c1]
        congr 1
        rw [Nat.mul_comm a, Nat.mul_add_mod, Nat.mod_eq_of_lt hjl]
        simp [Array.getD, c1, hjl, getElem!_pos]
    obtain ⟨c', g1, g2, g3⟩ := fillS_spec ps xs (List.replicate len z) c0 hs (by simp) hh.2 hc0
    have hrun : (Instr.buildSlice t len xs.toArray).run P w = .ok (.slice (some ⟨w.heap.size, 0, none⟩) len len) { w with heap := w.heap.push (.cells c' e) } := by
      simp only [Instr.buildSlice, Sem.run_bind, run_underlying hu, Result.andThen_ok, run_sizeOf w hinf]
      rw [if_neg (by omega)]
      have g1' : ∀ zz : Array Value, zz = zc → Instr.fill (fun i_1 => some (i_1 * i.size, i.size)) (Array.map (fun x => zz[x % zz.size]!) (Array.range (len * i.size))) xs = some c' := by
        rintro _ rfl
        exact g1
      by_cases q : len * i.size = 0
      · rw [if_pos q, Sem.run_bind, Sem.run_pure, Result.andThen_ok]
        try dsimp only
        rw [g1' #[] (by simp [zc, q])]
        simp only [newRow, Sem.run_bind, run_newObj, Result.andThen_ok, Sem.run_pure]
      · rw [if_neg q, Sem.run_bind, hzr, Result.andThen_ok]
        rw [Sem.run_bind, Sem.run_pure, Result.andThen_ok]
        try dsimp only
        rw [g1' zv.cells (by simp [zc, q])]
        simp only [newRow, Sem.run_bind, run_newObj, Result.andThen_ok, Sem.run_pure]
    obtain ⟨k1, k2, k3⟩ := newRow_good H (setAll (List.replicate len z) ps) i.size c' e (0, 0) (okFr_zero _) g3.2.1 g3.2.2
    refine ⟨_, _, _, hrun, ?_, k1, k2, k3⟩
    have hbs : bsz { w with heap := w.heap.push (.cells c' e) } w.heap.size = len * i.size := by
      rw [bsz_row (c := c') (e := e) (fr := (0, 0)) (by show (w.heap.push _)[w.heap.size]? = _; simp), g3.1, g2]
    have := Rep.hsl (L := L.push (w.heap.size, 0, i.size)) (w := { w with heap := w.heap.push (.cells c' e) }) (off := 0) (len := len) (cap := len) (L.push_new (w.heap.size, 0, i.size)) (Nat.le_refl _)
      (by rw [hbs]; simp only [Nat.zero_add]; exact Nat.le_refl _)
    rw [H.len] at this
    simpa only [Nat.zero_mul, Nat.add_zero, Nat.zero_add] using this
  · cases he

end Go.Proofs.Ytdcdmpgigmhhpaa.E
