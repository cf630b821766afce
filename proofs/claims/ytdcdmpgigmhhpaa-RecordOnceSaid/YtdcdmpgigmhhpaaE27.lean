/- The layer E, part 27: a call that only looks at what cannot be written, and gives what holds no memory, may be made with whatever memory there is. No condition. -/
import Derived.Test.YtdcdmpgigmhhpaaE26
namespace Go.Proofs.Ytdcdmpgigmhhpaa.E
set_option linter.unusedSimpArgs false
set_option linter.unnecessarySimpa false
set_option linter.unusedVariables false

mutual
/-- It names nothing of the heap. -/
def noId : V → Bool
  | .int .. | .bool _ | .str _ | .nilp | .nils | .esl | .nilm | .nilf => true
  | .ref e _ => noId e
  | .sl es => noIds es
  | .fn _ cs => noIds cs
  | .agg cs => noIds cs
  | .tup cs => noIds cs
  | _ => false
def noIds : List V → Bool
  | [] => true
  | v :: vs => noId v && noIds vs
end

mutual
/-- No memory at all. -/
def bare : V → Bool
  | .int .. | .bool _ | .str _ | .nilp | .nils | .esl | .nilm | .nilf => true
  | .agg cs => bares cs
  | .tup cs => bares cs
  | _ => false
def bares : List V → Bool
  | [] => true
  | v :: vs => bare v && bares vs
end

theorem noIds_get : ∀ {vs : List V} {k : Nat} {v : V}, noIds vs = true → vs[k]? = some v → noId v = true
  | [], k, v, _, h => by simp at h
  | u :: us, 0, v, h, hk => by simp [noIds] at h hk; subst hk; exact h.1
  | u :: us, k + 1, v, h, hk => by simp [noIds] at h hk; exact noIds_get h.2 hk

theorem bares_get : ∀ {vs : List V} {k : Nat} {v : V}, bares vs = true → vs[k]? = some v → bare v = true
  | [], k, v, _, h => by simp at h
  | u :: us, 0, v, h, hk => by simp [bares] at h hk; subst hk; exact h.1
  | u :: us, k + 1, v, h, hk => by simp [bares] at h hk; exact bares_get h.2 hk

theorem cells_noId {e : V} (h : noId e = true) {k : Nat} {c : V} (hk : e.cells[k]? = some c) : noId c = true := by
  cases e <;> first
    | (simp only [V.cells] at hk; exact noIds_get (by simpa [noId] using h) hk)
    | (simp only [V.cells] at hk; cases k <;> simp at hk <;> subst hk <;> exact h)

theorem rep_noId {L : Loc} {w : World} {v : V} {x : Value} (r : Rep L w v x) : noId v = true → Rep L0 w v x := by
  induction r with
  | int k n => exact fun _ => .int k n
  | bool b => exact fun _ => .bool b
  | str l => exact fun _ => .str l
  | nilp => exact fun _ => .nilp
  | ref f ho hb hc hr ih => exact fun h => .ref f (own0 _) hb hc (fun k c hk => ih k c hk (cells_noId (by simpa [noId] using h) hk))
  | nils => exact fun _ => .nils
  | sl f ho hb hcap hs hc hr ih => exact fun h => .sl f (own0 _) hb hcap hs hc (fun i j e c h1 h2 => ih i j e c h1 h2 (cells_noId (noIds_get (by simpa [noId] using h) h1) h2))
  | sl0 a cap => exact fun _ => .sl0 a cap
  | esl a => exact fun _ => .esl a
  | nilm => exact fun _ => .nilm
  | fn vs hl hr ih => exact fun h => .fn vs hl (fun k c hk => ih k c hk (noIds_get (by simpa [noId] using h) hk))
  | nilf => exact fun _ => .nilf
  | agg vs hl hr ih => exact fun h => .agg vs hl (fun k c hk => ih k c hk (noIds_get (by simpa [noId] using h) hk))
  | tup vs hl hr ih => exact fun h => .tup vs hl (fun k c hk => ih k c hk (noIds_get (by simpa [noId] using h) hk))
  | _ => exact fun h => by simp [noId] at h

theorem rep_bare {L L' : Loc} {w : World} {v : V} {x : Value} (r : Rep L w v x) : bare v = true → Rep L' w v x := by
  induction r with
  | int k n => exact fun _ => .int k n
  | bool b => exact fun _ => .bool b
  | str l => exact fun _ => .str l
  | nilp => exact fun _ => .nilp
  | nils => exact fun _ => .nils
  | esl a => exact fun _ => .esl a
  | nilm => exact fun _ => .nilm
  | nilf => exact fun _ => .nilf
  | agg vs hl hr ih => exact fun h => .agg vs hl (fun k c hk => ih k c hk (bares_get (by simpa [bare] using h) hk))
  | tup vs hl hr ih => exact fun h => .tup vs hl (fun k c hk => ih k c hk (bares_get (by simpa [bare] using h) hk))
  | _ => exact fun h => by simp [bare] at h

theorem HRel.kept {L : Loc} {h : List Ob} {w w' : World} (H : HRel L h w) (fr : Fr (Own L0) w w') : HRel L h w' := by
  have fr' : Fr (Own L) w w' := fr.mono (fun b hb => (own0 b hb).elim)
  have keep : ∀ b, b < w.heap.size → w'.heap[b]? = w.heap[b]? := fun b hb => fr.block b hb (own0 b)
  exact ⟨H.len, fun id ob ho => ORel.step H fr' (Ext.refl L w) (H.obs id ob ho) rfl (fun b bs s hb => keep b (H.mem _ _ _ _ hb)), H.lt, fun id b bs s hb => Nat.lt_of_lt_of_le (H.mem _ _ _ _ hb) fr.size, H.inj⟩

/-- A call with no memory of its own, made with memory: the memory is as it was. -/
theorem CE.pure {P : Program} {f : FuncId} {args : List V} {R : V → Prop} (c : CE P f args [] fun v _ => R v ∧ bare v = true) (ha : noIds args = true) (h : List Ob) : CE P f args h fun v h' => R v ∧ h' = h := by
  intro L w xs a H
  refine (c L0 w xs ⟨a.1, fun k v hk => rep_noId (a.2 k v hk) (noIds_get ha hk)⟩ (hrel0 w)).mono ?_
  rintro e w' ⟨x, v, h', L', h1, ⟨h2, h3⟩, h4, h5, h6, h7⟩
  exact ⟨x, v, h, L, h1, ⟨h2, rfl⟩, rep_bare h4 h3, H.kept h6, h6.mono (fun b hb => (own0 b hb).elim), Ext.refl L w⟩

end Go.Proofs.Ytdcdmpgigmhhpaa.E
