/- The layer E, part 11: copy, make, conversions between bytes and strings, composite values, small things. No condition. -/
import Derived.Test.YtdcdmpgigmhhpaaE10
namespace Go.Proofs.Ytdcdmpgigmhhpaa.E
set_option linter.unusedSimpArgs false
set_option linter.unusedVariables false

/-! ### copy -/
def evCopy (h : List Ob) (sz : Nat) (d : V) (es : List V) : Option (V × List Ob) :=
  match d with
  | .nils => some (.int .i64 0, h)
  | .esl => some (.int .i64 0, h)
  | .hsl id off len => match h[id]? with
    | some (.row ds s) => if s = sz ∧ off + len ≤ ds.length then
        some (.int .i64 (min es.length len : Nat), h.set id (.row (ds.take off ++ es.take (min es.length len) ++ ds.drop (off + min es.length len)) sz)) else none
    | _ => none
  | _ => none

theorem copy_good {P : Program} {L : Loc} {h h' : List Ob} {w : World} (H : HRel L h w) {ts : Array TypeId} {ty t e : TypeId} {i : TypeInfo} (t0 : ts[0]? = some t) (hu : P.underlying t = some (.slice e)) (hinf : P.info? e = some i) (hp : 0 < i.size)
    {d s r : V} {x y : Value} {es : List V} (rd : Rep L w d x) (rs : Rep L w s y) (hc : conts h i.size s = some es) (he : evCopy h i.size d es = some (r, h')) : Good P L w (Builtin.copy_ ts ty #[x, y]) r h' := by
  obtain ⟨hlen, hfl, fn, hfn, hrn⟩ := conts_spec (P := P) H rs hc
  have run : ∀ (base : Option Addr) (len cap : Nat), x = .slice base len cap → (Builtin.copy_ ts ty #[x, y]).run P w =
      ((match base with | some a => storeCells a ((List.range (min es.length len * i.size)).map fn) | none => pure () : Sem Unit).run P w).andThen fun _ w' => .ok (.int .i64 (min es.length len : Nat)) w' := by
    intro base len cap hx
    subst hx
    unfold Builtin.copy_
    rw [t0]
    simp only [List.getElem?_toArray, List.getElem?_cons_zero, List.getElem?_cons_succ, Sem.run_bind, run_underlying hu, Result.andThen_ok, Sem.run_pure, hlen, run_sizeOf w hinf]
    rw [show Nat.min es.length len = min es.length len from rfl, hfn _ w (Nat.min_le_left _ _) rfl]
    simp only [Result.andThen_ok]
    cases base with
    | none => rfl
    | some a => simp only [Sem.run_bind, Sem.run_pure]; rfl
  unfold evCopy at he
  split at he
  · injection he with he; injection he with he1 he2; subst he1; subst he2
    cases rd
    refine .same H (x := .int .i64 ((min es.length 0 : Nat) : Int)) ?_ (by rw [Nat.min_zero]; exact .int _ _)
    rw [run none 0 0 rfl]; rfl
  · injection he with he; injection he with he1 he2; subst he1; subst he2
    cases rd with
    | esl a =>
      refine .same H (x := .int .i64 ((min es.length 0 : Nat) : Int)) ?_ (by rw [Nat.min_zero]; exact .int _ _)
      rw [run (some a) 0 0 rfl]
      simp [storeCells]
  · rename_i id off len
    split at he
    · rename_i ds s' hob
      split at he
      · rename_i hh
        obtain ⟨rfl, hin⟩ := hh
        injection he with he; injection he with he1 he2; subst he1; subst he2
        obtain ⟨b, base, c, ee, fr, h1, h2, h3, h4, h5⟩ := H.obs id _ hob
        have hid : id < h.length := (List.getElem?_eq_some_iff.1 hob).1
        have hbl := (Array.getElem?_eq_some_iff.1 h2).1
        generalize hn : min es.length len = n at *
        have hnl : n ≤ len := by omega
        have hne : n ≤ es.length := by omega
        cases rd with
        | @hsl _ _ _ cap b1 base1 s1 g hcap hz =>
          rw [h1] at g; injection g with g; injection g with q1 q2; injection q2 with q2 q3; subst q1; subst q2; subst q3
          have hus : ∀ u ∈ (List.range (n * i.size)).map fn, u.oneCell' = true := by
            intro u hu
            simp only [List.mem_map, List.mem_range] at hu
            obtain ⟨k, hk, rfl⟩ := hu
            have hi' : k / i.size < es.length := Nat.lt_of_lt_of_le (Nat.div_lt_of_lt_mul (by rw [Nat.mul_comm]; exact hk)) hne
            have g1 : es[k / i.size]? = some es[k / i.size] := List.getElem?_eq_getElem hi'
            have hf := hfl _ _ g1
            have hj : k % i.size < i.size := Nat.mod_lt _ hp
            have g2 : (es[k / i.size]).cells[k % i.size]? = some ((es[k / i.size]).cells[k % i.size]'(by rw [hf.1]; exact hj)) := List.getElem?_eq_getElem _
            have := hrn _ _ _ _ g1 g2
            have hdm := Nat.div_add_mod k i.size
            rw [show k / i.size * i.size + k % i.size = k by rw [Nat.mul_comm]; exact hdm] at this
            exact this.one (List.all_eq_true.1 hf.2 _ (List.getElem_mem _))
          have hfit : base + off * i.size + n * i.size ≤ c.size := by
            rcases Nat.eq_zero_or_pos n with q | q
            · have hz' := hz
              rw [bsz_row h2, Nat.add_mul] at hz'
              rw [q]; omega
            · obtain ⟨v, hv⟩ := row_cells H hob h1 h2 (off := off) (len := n) (by omega) (n * i.size - 1) (by have := Nat.mul_pos q hp; omega)
              have := (Array.getElem?_eq_some_iff.1 hv).1
              have := Nat.mul_pos q hp
              omega
          have hfit' : base + off * i.size + 0 + ((List.range (n * i.size)).map fn).length ≤ c.size := by simp only [List.length_map, List.length_range]; omega
          have hrun := E.run_storeCells P b (base + off * i.size) ee fr ((List.range (n * i.size)).map fn) 0 c w h2 h3 hfit' hus
          generalize hW : writeAt c (base + off * i.size + 0) ((List.range (n * i.size)).map fn) = W at hrun
          have hWs : W.size = c.size := by rw [← hW]; exact writeAt_size _ _ _
          have hfr : Fr (Own L) w (E.put w b (.cells W ee fr)) := fr_put ⟨id, _, h1⟩ h2 hWs
          have hwr : ∀ k, W[k]? = if base + off * i.size ≤ k ∧ k < base + off * i.size + n * i.size then some (fn (k - (base + off * i.size))) else c[k]? := by
            intro k
            rw [← hW, writeAt_get _ _ _ hfit']
            simp only [Nat.add_zero, List.length_map, List.length_range]
            split
            · rename_i q
              rw [List.getElem?_map, List.getElem?_range (by omega)]; rfl
            · rfl
          have hparts : ∀ (k : Nat) (e : V), (ds.take off ++ es.take n ++ ds.drop (off + n))[k]? = some e → (off ≤ k ∧ k < off + n ∧ es[k - off]? = some e) ∨ (¬ (off ≤ k ∧ k < off + n) ∧ ds[k]? = some e) := by
            intro k e hk
            have hl1 : (ds.take off).length = off := by simp only [List.length_take]; omega
            have hl2 : (es.take n).length = n := by simp only [List.length_take]; omega
            by_cases c1 : k < off
            · rw [List.append_assoc, List.getElem?_append_left (by omega), List.getElem?_take, if_pos c1] at hk
              exact .inr ⟨by omega, hk⟩
            · by_cases c2 : k < off + n
              · rw [List.append_assoc, List.getElem?_append_right (by omega), hl1, List.getElem?_append_left (by omega), List.getElem?_take, if_pos (by omega)] at hk
                exact .inl ⟨by omega, c2, hk⟩
              · rw [List.getElem?_append_right (by simp only [List.length_append]; omega)] at hk
                simp only [List.length_append, hl1, hl2] at hk
                rw [List.getElem?_drop, show off + n + (k - (off + n)) = k by omega] at hk
                exact .inr ⟨by omega, hk⟩
          refine ⟨.int .i64 n, E.put w b (.cells W ee fr), L, ?_, .int _ _, ?_, hfr, Ext.refl L w⟩
          · have := run (some ⟨b, base + off * i.size, none⟩) len cap rfl
            rw [hn] at this
            simp only at this
            rw [this, hrun]; rfl
          · refine HRel.set H h1 hid hfr (fun k _ hk => put_other hk) ⟨b, base, W, ee, fr, h1, put_same hbl, by rw [hWs]; exact h3, fun k e hk => ?_, fun a j x y q1 q2 => ?_⟩
            · rcases hparts k e hk with ⟨_, _, q⟩ | ⟨_, q⟩
              · exact hfl _ e q
              · exact h4 _ e q
            · rcases hparts a x q1 with ⟨p1, p2, q⟩ | ⟨p1, q⟩
              · have hjl := (List.getElem?_eq_some_iff.1 q2).1
                rw [(hfl _ x q).1] at hjl
                have hm := mul_le_of_lt (a := a - off) (n := n) (sz := i.size) (j := j) (by omega) hjl
                have e1 : base + a * i.size + j = base + off * i.size + ((a - off) * i.size + j) := by
                  have : a * i.size = off * i.size + (a - off) * i.size := by rw [← Nat.add_mul]; congr 1; omega
                  omega
                refine ⟨fn ((a - off) * i.size + j), ?_, H.step_rep (hrn _ _ _ _ q q2) hfr (Ext.refl L w)⟩
                rw [e1, hwr, if_pos (by omega)]
                congr 2; omega
              · have hjl := (List.getElem?_eq_some_iff.1 q2).1
                rw [(h4 _ x q).1] at hjl
                obtain ⟨v, g1, g2⟩ := h5 _ _ _ _ q q2
                refine ⟨v, ?_, H.step_rep g2 hfr (Ext.refl L w)⟩
                rw [hwr, if_neg ?_]
                · exact g1
                · intro hh
                  rcases Nat.lt_or_ge a off with q' | q'
                  · have : (a + 1) * i.size ≤ off * i.size := Nat.mul_le_mul_right _ q'
                    rw [Nat.add_mul] at this; omega
                  · have : (off + n) * i.size ≤ a * i.size := Nat.mul_le_mul_right _ (by omega)
                    rw [Nat.add_mul] at this; omega
        | hslD _ g => rw [h1] at g; cases g
      · cases he
    · cases he
  · cases he

/-! ### make -/
def evMake (h : List Ob) (z : V) (bytes : Nat) (len cap : Int) : Option (V × List Ob) :=
  if 0 ≤ len ∧ len ≤ cap ∧ bytes * cap ≤ roomMax ∧ cap < 4611686018427387904 ∧ z.cells.all V.scalar then
    some (.hsl h.length 0 len.toNat, h ++ [.row (List.replicate len.toNat z) z.cells.length]) else none

theorem make_good {P : Program} {L : Loc} {h h' : List Ob} {w : World} (H : HRel L h w) {t e : TypeId} {i : TypeInfo} {zv : Value} {z r : V} (hu : P.underlying t = some (.slice e)) (hinf : P.info? e = some i) (hz : i.zero = some zv) (hv : ofZero zv = some z)
    (hsz : z.cells.length = i.size) (hpos : 0 < i.size) {k k' : IntKind} {len cap : Int} (he : evMake h z i.bytes len cap = some (r, h')) : Good P L w (Instr.makeSlice t (.int k len) (.int k' cap)) r h' := by
  unfold evMake at he
  split at he
  · rename_i hh
    obtain ⟨h0, h1, h2, h3, h4⟩ := hh
    injection he with he; injection he with he1 he2; subst he1; subst he2
    have wl : IntKind.i64.wrap len = len := by rw [IntKind.wrap_i64]; omega
    have wc : IntKind.i64.wrap cap = cap := by rw [IntKind.wrap_i64]; omega
    have rz : Rep L w z zv := ofZero_rep hv
    have hzs : z.scalar = true ∨ ∃ cs, z = .agg cs := by
      cases z <;> first | exact .inl rfl | exact .inr ⟨_, rfl⟩ | (simp [V.cells, V.scalar] at h4)
    obtain ⟨c1, c2⟩ := rz.cells hzs
    rw [hsz] at c1
    have hlarge : (decide (cap < 0) || decide ((i.bytes : Int) * cap > 2 ^ 48)) = false := by
      simp only [Bool.or_eq_false_iff, decide_eq_false_iff_not]
      refine ⟨by omega, ?_⟩
      have : (roomMax : Int) = 140737488355328 := rfl
      omega
    have hn : cap.toNat * i.size ≠ 0 ∨ cap.toNat * i.size = 0 := by omega
    let c : Array Value := (Array.range (cap.toNat * i.size)).map fun q => zv.cells[q % zv.cells.size]!
    have hrun : (Instr.makeSlice t (.int k len) (.int k' cap)).run P w = .ok (.slice (some ⟨w.heap.size, 0, none⟩) len.toNat cap.toNat) { w with heap := w.heap.push (.cells c e) } := by
      have hz' : ∀ w', (zeroValue e).run P w' = .ok zv w' := fun w' => by simp [zeroValue, typeInfo, hinf, hz]
      have hti : ∀ w', (typeInfo e).run P w' = .ok i w' := fun w' => by simp [typeInfo, hinf]
      simp only [Instr.makeSlice, asInt, asIntOf, Sem.run_bind, run_underlying hu, Result.andThen_ok, Sem.run_pure, hti, wl, wc]
      rw [hlarge]
      simp only [Bool.false_or]
      rw [show (decide (len < 0) || decide (len > cap)) = false by simp only [Bool.or_eq_false_iff, decide_eq_false_iff_not]; omega]
      simp only [Bool.false_eq_true, if_false, Sem.run_bind, run_askRoom, Result.andThen_ok, run_sizeOf _ hinf]
      by_cases q : cap.toNat * i.size = 0
      · rw [if_pos q]
        simp only [Sem.run_pure, Result.andThen_ok, newRow, Sem.run_bind, run_newObj]
        have : c = #[] := by simp [c, q]
        rw [this]
        have e0 : ∀ f : Nat → Value, Array.map f (Array.range (cap.toNat * i.size)) = #[] := fun f => by rw [q]; simp
        rw [e0]
      · rw [if_neg q]
        simp only [Sem.run_pure, Result.andThen_ok, newRow, Sem.run_bind, run_newObj, hz']
        rfl
    have hcz : ∀ q, q < cap.toNat * i.size → c[q]? = some (zv.cells.getD (q % i.size) undef) := by
      intro q hq
      have hlt : q % i.size < zv.cells.size := by rw [c1]; exact Nat.mod_lt _ hpos
      simp only [c, Array.getElem?_map, Array.getElem?_range, hq, if_true, Option.map_some, c1]
      congr 1
      simp [Array.getD, c1 ▸ hlt, Array.getElem!_eq_getD, getElem!_pos, hlt]
    obtain ⟨g1, g2, g3⟩ := newRow_good H (List.replicate len.toNat z) z.cells.length c e (0, 0) (okFr_zero _) (fun a x hx => by
        have := List.mem_of_getElem? hx
        rw [List.mem_replicate] at this
        rw [this.2]; exact ⟨rfl, h4⟩)
      (fun a j x y hx hy => by
        have hx' := hx
        have hm := List.mem_of_getElem? hx
        rw [List.mem_replicate] at hm
        obtain ⟨_, rfl⟩ := hm
        have hal := (List.getElem?_eq_some_iff.1 hx').1
        rw [List.length_replicate] at hal
        have hjl := (List.getElem?_eq_some_iff.1 hy).1
        rw [hsz] at hjl ⊢
        have hm := mul_le_of_lt (a := a) (n := cap.toNat) (sz := i.size) (j := j) (by omega) hjl
        refine ⟨zv.cells.getD j undef, ?_, c2 j y hy⟩
        rw [hcz _ hm, Nat.mul_comm, Nat.mul_add_mod, Nat.mod_eq_of_lt hjl])
    rw [hsz] at g1 g3 ⊢
    refine ⟨_, _, _, hrun, ?_, g1, g2, g3⟩
    have hbs : bsz { w with heap := w.heap.push (.cells c e) } w.heap.size = cap.toNat * i.size := by
      rw [bsz_row (c := c) (e := e) (fr := (0, 0)) (by show (w.heap.push _)[w.heap.size]? = _; simp)]
      simp [c]
    have := Rep.hsl (L := L.push (w.heap.size, 0, i.size)) (w := { w with heap := w.heap.push (.cells c e) }) (off := 0) (len := len.toNat) (cap := cap.toNat) (L.push_new (w.heap.size, 0, i.size)) (by omega)
      (by rw [hbs]; simp only [Nat.zero_add]; exact Nat.le_refl _)
    rw [H.len] at this
    simpa only [Nat.zero_mul, Nat.add_zero, Nat.zero_add] using this
  · cases he

end Go.Proofs.Ytdcdmpgigmhhpaa.E
