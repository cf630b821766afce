/- The layer E, part 9: append, copy, make. No condition. -/
import Derived.Test.YtdcdmpgigmhhpaaE8
namespace Go.Proofs.Ytdcdmpgigmhhpaa.E
set_option linter.unusedSimpArgs false
set_option linter.unusedVariables false

theorem HRel.drew {L : Loc} {h : List Ob} {w : World} (H : HRel L h w) : HRel L h { w with drawn := w.drawn + 1 } :=
  ⟨H.len, fun id ob hob => ORel.step H (fr_drew _ w) (Ext.refl L w) (H.obs id ob hob) rfl (fun _ _ _ _ => rfl), H.lt, H.mem, H.inj⟩

def roomMax : Nat := 140737488355328

def evApp (h : List Ob) (sz bytes : Nat) (d : V) (es : List V) : Option (V × List Ob) :=
  match d with
  | .nils => if es.length = 0 then some (.nils, h) else if es.length * bytes ≤ roomMax then some (.hsl h.length 0 es.length, h ++ [.row es sz]) else none
  | .esl => if es.length = 0 then some (.esl, h) else if es.length * bytes ≤ roomMax then some (.hsl h.length 0 es.length, h ++ [.row es sz]) else none
  | .hsl id off len => match h[id]? with
    | some (.row ds s) => if s = sz ∧ off + len ≤ ds.length ∧ (len + es.length) * bytes ≤ roomMax then
        some (.hsl h.length 0 (len + es.length), h.set id .dead ++ [.row ((ds.drop off).take len ++ es) sz]) else none
    | _ => none
  | _ => none

theorem rows_append {L : Loc} {w : World} {sz : Nat} {ds es : List V} {fo fn : Nat → Value} {c : Array Value}
    (hd : ∀ (k : Nat) (e : V), ds[k]? = some e → flat sz e) (he : ∀ (k : Nat) (e : V), es[k]? = some e → flat sz e)
    (ho : ∀ (i j : Nat) (e y : V), ds[i]? = some e → e.cells[j]? = some y → Rep L w y (fo (i * sz + j)))
    (hn : ∀ (i j : Nat) (e y : V), es[i]? = some e → e.cells[j]? = some y → Rep L w y (fn (i * sz + j))) (base : Nat)
    (hc1 : ∀ k, k < ds.length * sz → c[base + k]? = some (fo k)) (hc2 : ∀ k, k < es.length * sz → c[base + ds.length * sz + k]? = some (fn k)) :
    (∀ (k : Nat) (e : V), (ds ++ es)[k]? = some e → flat sz e) ∧
    ∀ (i j : Nat) (e y : V), (ds ++ es)[i]? = some e → e.cells[j]? = some y → ∃ v, c[base + i * sz + j]? = some v ∧ Rep L w y v := by
  refine ⟨fun k e hk => ?_, fun i j e y hi hj => ?_⟩
  · by_cases q : k < ds.length
    · rw [List.getElem?_append_left q] at hk; exact hd k e hk
    · rw [List.getElem?_append_right (by omega)] at hk; exact he _ e hk
  · by_cases q : i < ds.length
    · rw [List.getElem?_append_left q] at hi
      have hjl := (List.getElem?_eq_some_iff.1 hj).1
      rw [(hd i e hi).1] at hjl
      have := mul_le_of_lt (sz := sz) q hjl
      exact ⟨_, by rw [Nat.add_assoc]; exact hc1 _ this, ho i j e y hi hj⟩
    · rw [List.getElem?_append_right (by omega)] at hi
      have hil := (List.getElem?_eq_some_iff.1 hi).1
      have hjl := (List.getElem?_eq_some_iff.1 hj).1
      rw [(he _ e hi).1] at hjl
      have := mul_le_of_lt (sz := sz) hil hjl
      have e1 : base + i * sz + j = base + ds.length * sz + ((i - ds.length) * sz + j) := by
        have : i * sz = ds.length * sz + (i - ds.length) * sz := by rw [← Nat.add_mul]; congr 1; omega
        omega
      exact ⟨_, by rw [e1]; exact hc2 _ this, hn _ j e y hi hj⟩

/-- A slice's run when it must grow. -/
theorem run_append_grow {P : Program} {w : World} {ts : Array TypeId} {ty t e t2 : TypeId} {i : TypeInfo} {z : Value} {u2 : TypeDesc} (ht : ts[0]? = some t) (ht2 : ts[1]? = some t2) (hu : P.underlying t = some (.slice e)) (hu2 : P.underlying t2 = some u2)
    (hni : ∀ k, u2 ≠ .int k) (hi : P.info? e = some i) (hz : i.zero = some z) (b0 : 0 < i.bytes)
    {base : Option Addr} {len cap n : Nat} {x : Value} {old new : Array Value} (hl : ∀ w', (Builtin.lenOf x).run P w' = .ok n w')
    (ho : ∀ w', w'.heap = w.heap → (Builtin.firstCells i.size len (.slice base len cap)).run P w' = .ok old w')
    (hn : ∀ w', w'.heap = w.heap → (Builtin.firstCells i.size n x).run P w' = .ok new w') (hg : cap < len + n) (hb : (len + n) * i.bytes ≤ roomMax) :
    ∃ newCap, len + n ≤ newCap ∧ (Builtin.append_ ts ty #[.slice base len cap, x]).run P w =
      .ok (.slice (some ⟨w.heap.size, 0, none⟩) (len + n) newCap) { w with drawn := w.drawn + 1, heap := w.heap.push (.cells (old ++ new ++ Builtin.zeroCells z.cells (newCap - (len + n))) e) } := by
  refine ⟨grownCap w (len + n) cap e, grownCap_ge w _ _ _, ?_⟩
  have hfit := growslice_fits hg (Nat.le_trans hb (by unfold roomMax; omega))
  have hzint : (match u2 with | .int _ => true | _ => false) = false := by cases u2 <;> first | rfl | exact absurd rfl (hni _)
  have hnoti : ¬ (((len + n : Nat) : Int) > IntKind.i64.max ∧ (False ∨ i.bytes = 0)) := by
    rintro ⟨_, h | h⟩
    · exact h
    · omega
  have hd : ({ w with drawn := w.drawn + 1 } : World).heap = w.heap := rfl
  unfold Builtin.append_
  rw [ht, ht2]
  simp only [List.getElem?_toArray, List.getElem?_cons_zero, List.getElem?_cons_succ, Sem.run_bind, run_underlying hu, run_underlying hu2, Result.andThen_ok, Sem.run_pure, run_sizeOf w hi, hzint, Bool.false_eq_true, if_false, hl]
  rw [if_neg (by omega : ¬ len + n ≤ cap)]
  have hti : ∀ w', (typeInfo e).run P w' = .ok i w' := fun w' => by simp [typeInfo, hi]
  rw [Sem.run_bind, hti, Result.andThen_ok]
  try dsimp only
  rw [if_neg (by rintro ⟨_, f | f⟩ <;> first | exact f | (exact Bool.noConfusion f) | omega)]
  rw [Sem.run_bind, hti, Result.andThen_ok]
  try dsimp only
  rw [if_neg (by omega)]
  rw [Sem.run_bind, run_choose, if_neg (by simp [Question.forced]), Result.andThen_ok]
  try dsimp only
  rw [Sem.run_bind, hti, Result.andThen_ok]
  try dsimp only
  rw [Sem.run_bind, run_askRoom, Result.andThen_ok]
  try dsimp only
  rw [Sem.run_bind, ho _ hd, Result.andThen_ok]
  try dsimp only
  rw [if_pos (by rfl : (!false) = true)]
  rw [Sem.run_bind, hn _ hd, Result.andThen_ok]
  try dsimp only
  rw [Sem.run_bind]
  have hzv : ∀ w', (zeroValue e).run P w' = .ok z w' := fun w' => by simp [zeroValue, typeInfo, hi, hz]
  rw [hzv, Result.andThen_ok]
  rfl

end Go.Proofs.Ytdcdmpgigmhhpaa.E
