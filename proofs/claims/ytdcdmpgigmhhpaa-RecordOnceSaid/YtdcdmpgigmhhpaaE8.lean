/- The layer E, part 8: slices appended, copied, made; bytes and strings; composite values. No condition. -/
import Derived.Test.YtdcdmpgigmhhpaaE7
import Derived.Laws.BytesArg
namespace Go.Proofs.Ytdcdmpgigmhhpaa.E
set_option linter.unusedSimpArgs false
set_option linter.unusedVariables false

def headOk (sz : Nat) (es : List V) : Bool := (es.head?.map (·.cells.length)).getD sz == sz

theorem headOk_spec {L : Loc} {w : World} {es : List V} {x : Value} {sz : Nat} (rep : Rep L w (.sl es) x) (h : headOk sz es = true) : ∀ (k : Nat) (e : V), es[k]? = some e → flat sz e := by
  cases rep with
  | @sl _ s b o cap f ho hb hcap hs hc hr =>
    intro k e hk
    cases es with
    | nil => simp at hk
    | cons y ys =>
      have h0 := (hs 0 y (by simp)).1
      simp [headOk] at h
      have := hs k e hk
      rw [← h0, h] at this
      exact this
  | sl0 a cap => intro k e hk; simp at hk

/-- A slice's elements (a string's are its bytes). -/
def conts (h : List Ob) (sz : Nat) : V → Option (List V)
  | .nils => some []
  | .esl => some []
  | .sl es => if headOk sz es then some es else none
  | .hsl id off len => match h[id]? with
    | some (.row es s) => if s = sz ∧ off + len ≤ es.length then some ((es.drop off).take len) else none
    | _ => none
  | .str l => if sz = 1 then some (l.map fun b => .int .u8 b.toNat) else none
  | _ => none

theorem mul_le_of_lt {a n sz j : Nat} (h : a < n) (hj : j < sz) : a * sz + j < n * sz := by
  have : (a + 1) * sz ≤ n * sz := Nat.mul_le_mul_right _ h
  rw [Nat.add_mul] at this
  omega

/-- What is read of a slice that is appended or copied. -/
theorem conts_spec {P : Program} {L : Loc} {h : List Ob} {w : World} (H : HRel L h w) {sz : Nat} {v : V} {x : Value} {es : List V} (rep : Rep L w v x) (he : conts h sz v = some es) :
    (∀ w', (Builtin.lenOf x).run P w' = .ok es.length w') ∧ (∀ (k : Nat) (e : V), es[k]? = some e → flat sz e) ∧
    ∃ f : Nat → Value, (∀ n w', n ≤ es.length → w'.heap = w.heap → (Builtin.firstCells sz n x).run P w' = .ok ((List.range (n * sz)).map f).toArray w') ∧
      ∀ (i j : Nat) (e y : V), es[i]? = some e → e.cells[j]? = some y → Rep L w y (f (i * sz + j)) := by
  -- the run over a block
  have runs : ∀ (b o len cap : Nat) (f : Nat → Value), (∀ k, k < len * sz → w.cell? ⟨b, o + k, none⟩ = some (f k)) → ∀ n w', n ≤ len → w'.heap = w.heap → (Builtin.firstCells sz n (.slice (some ⟨b, o, none⟩) len cap)).run P w' = .ok ((List.range (n * sz)).map f).toArray w' := by
    intro b o len cap f hf n w' hn hw
    simp only [Builtin.firstCells]
    refine E.run_loadCells P w' b o (n * sz) f (fun k hk => ?_)
    rw [cell?_of_heap (w := w) (by rw [hw])]
    exact hf k (Nat.lt_of_lt_of_le hk (Nat.mul_le_mul_right _ hn))
  unfold conts at he
  split at he
  · injection he with he; subst he; cases rep
    refine ⟨fun w' => by simp [Builtin.lenOf], fun k e hk => by simp at hk, fun _ => undef, fun n w' hn hw => ?_, fun i j e y h1 => by simp at h1⟩
    obtain rfl : n = 0 := by simpa using hn
    simp [Builtin.firstCells]
  · injection he with he; subst he; cases rep
    refine ⟨fun w' => by simp [Builtin.lenOf], fun k e hk => by simp at hk, fun _ => undef, fun n w' hn hw => ?_, fun i j e y h1 => by simp at h1⟩
    obtain rfl : n = 0 := by simpa using hn
    simp [Builtin.firstCells, Go.loadCells, loadCellsFrom]
  · rename_i es0
    split at he
    · rename_i hh
      obtain rfl : es0 = es := by injection he
      clear he
      have hfl := headOk_spec rep hh
      cases rep with
      | @sl _ s b o cap f ho hb hcap hs hc hr =>
        refine ⟨fun w' => by simp [Builtin.lenOf], hfl, fun k => f (k / sz) (k % sz), ?_, fun i j e y h1 h2 => ?_⟩
        · refine runs b o es0.length cap _ (fun k hk => ?_)
          have hsz : 0 < sz := by
            rcases Nat.eq_zero_or_pos sz with q | q
            · subst q; simp at hk
            · exact q
          have hi : k / sz < es0.length := Nat.div_lt_of_lt_mul (by rw [Nat.mul_comm]; exact hk)
          have h1 : es0[k / sz]? = some es0[k / sz] := by simp [hi]
          have hl := (hfl _ _ h1).1
          have hsz' : s = sz := by rw [← (hs _ _ h1).1, hl]
          have hj : k % sz < sz := Nat.mod_lt _ hsz
          have h2 : (es0[k / sz]).cells[k % sz]? = some (es0[k / sz]).cells[k % sz] := by simp <;> omega
          have := hc _ _ _ _ h1 h2
          rw [hsz'] at this
          have hdm := Nat.div_add_mod k sz
          rw [show o + k = o + k / sz * sz + k % sz by rw [Nat.mul_comm (k / sz) sz]; omega]
          exact this
        · have hjl := (List.getElem?_eq_some_iff.1 h2).1
          rw [(hfl _ _ h1).1] at hjl
          have e1 : (i * sz + j) / sz = i := by rw [Nat.mul_comm, Nat.mul_add_div (by omega), Nat.div_eq_of_lt hjl]; rfl
          have e2 : (i * sz + j) % sz = j := by rw [Nat.mul_comm, Nat.mul_add_mod, Nat.mod_eq_of_lt hjl]
          show Rep L w y (f ((i * sz + j) / sz) ((i * sz + j) % sz))
          rw [e1, e2]
          exact hr _ _ _ _ h1 h2
      | sl0 a cap =>
        refine ⟨fun w' => by simp [Builtin.lenOf], fun k e hk => by simp at hk, fun _ => undef, fun n w' hn hw => ?_, fun i j e y h1 => by simp at h1⟩
        obtain rfl : n = 0 := by simpa using hn
        simp [Builtin.firstCells, Go.loadCells, loadCellsFrom]
    · cases he
  · rename_i id off len
    split at he
    · rename_i es0 s hob
      split at he
      · rename_i hh
        obtain ⟨rfl, hin⟩ := hh
        injection he with he; subst he
        obtain ⟨b, base, c, e, fr, h1, h2, h3, h4, h5⟩ := H.obs id _ hob
        have hget : ∀ (k : Nat) (e : V), ((es0.drop off).take len)[k]? = some e → es0[off + k]? = some e := by
          intro k e hk
          rw [List.getElem?_take] at hk
          split at hk
          · rw [List.getElem?_drop] at hk; exact hk
          · cases hk
        have hlen : ((es0.drop off).take len).length = len := by simp <;> omega
        have hfl : ∀ (k : Nat) (e : V), ((es0.drop off).take len)[k]? = some e → flat s e := fun k e hk => h4 _ e (hget k e hk)
        cases rep with
        | @hsl _ _ _ cap b1 base1 s1 g hcap hz =>
          rw [h1] at g; injection g with g; injection g with q1 q2; injection q2 with q2 q3; subst q1; subst q2; subst q3
          refine ⟨fun w' => by simp [Builtin.lenOf, hlen], hfl, fun k => (c[base + off * s + k]?).getD undef, ?_, fun i j e y h1' h2' => ?_⟩
          · rw [hlen]
            refine runs b _ len cap _ (fun k hk => ?_)
            have hsz : 0 < s := by
              rcases Nat.eq_zero_or_pos s with q | q
              · subst q; simp at hk
              · exact q
            have hi : k / s < len := Nat.div_lt_of_lt_mul (by rw [Nat.mul_comm]; exact hk)
            have g1 : es0[off + k / s]? = some es0[off + k / s] := by simp <;> omega
            have hl := (h4 _ _ g1).1
            have hj : k % s < s := Nat.mod_lt _ hsz
            have g2 : (es0[off + k / s]).cells[k % s]? = some (es0[off + k / s]).cells[k % s] := by simp <;> omega
            obtain ⟨v, g3, _⟩ := h5 _ _ _ _ g1 g2
            have hdm := Nat.div_add_mod k s
            have e1 : base + off * s + k = base + (off + k / s) * s + k % s := by rw [Nat.add_mul, Nat.mul_comm (k / s) s]; omega
            rw [cell?_row h2]
            show _ = some ((c[base + off * s + k]?).getD undef)
            rw [e1, g3]; rfl
          · obtain ⟨v, g3, g4⟩ := h5 _ _ _ _ (hget i e h1') h2'
            have e1 : base + off * s + (i * s + j) = base + (off + i) * s + j := by rw [Nat.add_mul]; omega
            show Rep L w y ((c[base + off * s + (i * s + j)]?).getD undef)
            rw [e1, g3]; exact g4
        | hslD _ g => rw [h1] at g; cases g
      · cases he
    · cases he
  · rename_i l
    split at he
    · rename_i h1
      subst h1
      injection he with he; subst he
      cases rep
      have hs : (⟨l.toArray⟩ : ByteArray).size = l.length := by simp [ByteArray.size]
      refine ⟨fun w' => by simp [Builtin.lenOf, hs], fun k e hk => ?_, fun k => .int .u8 ((l.getD k 0).toNat : Int), fun n w' hn hw => ?_, fun i j e y h1 h2 => ?_⟩
      · simp only [List.getElem?_map, Option.map_eq_some_iff] at hk
        obtain ⟨b, _, rfl⟩ := hk
        exact ⟨rfl, rfl⟩
      · simp only [List.length_map] at hn
        simp only [Builtin.firstCells, Sem.run_pure, Nat.mul_one]
        congr 1
        apply Array.ext'
        apply List.ext_getElem?
        intro k
        have := Lib.extract_data ⟨l.toArray⟩ 0 n
        simp only [List.drop_zero, Nat.sub_zero] at this
        simp only [Array.toList_map, this, List.getElem?_map, List.getElem?_take, List.getElem?_range]
        by_cases hk : k < n
        · rw [if_pos hk]
          have hkl : k < l.length := by omega
          simp [hk, List.getD, hkl]
        · rw [if_neg hk]
          simp [hk]
      · simp only [List.getElem?_map, Option.map_eq_some_iff] at h1
        obtain ⟨b, hb, rfl⟩ := h1
        cases j with
        | zero =>
          simp [V.cells] at h2; subst h2
          simp only [Nat.mul_one, Nat.add_zero, List.getD, hb, Option.getD_some]
          exact .int _ _
        | succ j => simp [V.cells] at h2
    · cases he
  · cases he

end Go.Proofs.Ytdcdmpgigmhhpaa.E
