/- The layer E, part 26: into a claim's walk. No condition. -/
import Derived.Test.YtdcdmpgigmhhpaaE25
import Derived.Below
namespace Go.Proofs.Ytdcdmpgigmhhpaa.E
open Go.RowKit
set_option linter.unusedSimpArgs false
set_option linter.unnecessarySimpa false
set_option linter.unusedVariables false

theorem below_of {w w' : World} (f : Fr (Own L0) w w') : Below w.heap.size w w' := ⟨f.os, f.tape, f.output, f.size, fun k hk => f.block k hk (own0 k)⟩

theorem calls_of_CE {P : Program} {f : FuncId} {args : List V} {xs : Array Value} {w : World} {R : V → List Ob → Prop} (c : CE P f args [] R) (a : ARep L0 w args xs) :
    Calls P f xs w fun e w' => ∃ x v h' L', e = .returned x ∧ R v h' ∧ Rep L' w' v x ∧ HRel L' h' w' ∧ Below w.heap.size w w' :=
  (c L0 w xs a (hrel0 w)).mono fun e w' ⟨x, v, h', L', h1, h2, h3, h4, h5, h6⟩ => ⟨x, v, h', L', h1, h2, h3, h4, below_of h5⟩

/-- One that says yes or no. -/
theorem calls_bool {P : Program} {f : FuncId} {args : List V} {xs : Array Value} {w : World} {b : Bool} (c : CE P f args [] fun v _ => v = .bool b) (a : ARep L0 w args xs) :
    Calls P f xs w fun e w' => e = .returned (.bool b) ∧ Below w.heap.size w w' :=
  (calls_of_CE c a).mono fun e w' ⟨x, v, h', L', h1, h2, h3, h4, h5⟩ => ⟨by subst h2; cases h3; exact h1, h5⟩

theorem ARep.nil {L : Loc} {w : World} : ARep L w [] #[] := ⟨rfl, fun k v h => by simp at h⟩
theorem ARep.cons {L : Loc} {w : World} {u : V} {us : List V} {x : Value} {xs : List Value} (h : Rep L w u x) (g : ARep L w us xs.toArray) : ARep L w (u :: us) (x :: xs).toArray := by
  refine ⟨by have := g.1; simp at this ⊢; exact this, fun k v hk => ?_⟩
  cases k with
  | zero => simp at hk; subst hk; exact h
  | succ k =>
    simp at hk
    have := g.2 k v hk
    simpa [Array.getD_eq_getD_getElem?] using this

theorem agg_rep {w : World} {vs : List V} {xs : Array Value} (h : WRep w vs xs.toList) : Rep L0 w (.agg vs) (.agg xs) :=
  .agg xs (by have := h.len; simpa using this.symm) (fun k c hk => by
    have hl := (List.getElem?_eq_some_iff.1 hk).1
    rw [h.len] at hl
    have : xs[k]? = some xs[k] := Array.getElem?_eq_getElem (by simpa using hl)
    rw [Array.getD_eq_getD_getElem?, this]
    exact h.rep k c _ hk (by simpa using this))

theorem one_rep {w : World} {v : V} {x : Value} (h : WRep w [v] [x]) : Rep L0 w v x := h.rep 0 v x rfl rfl

/-! ### That the input has values here -/
def okT (P : Program) (S : List TypeId) (t : TypeId) : Bool := match P.underlying t with
  | some .bool | some (.int _) | some .string => true
  | some (.pointer e) | some (.slice e) => S.contains e && decide (0 < P.cellsOf e)
  | some (.struct fs) => fs.toList.all (fun f => S.contains f.type) && offs fs.toList 0
  | some (.array n e) => S.contains e && decide (n * P.cellsOf e = P.cellsOf t)
  | _ => false
where
  offs : List Field → Nat → Bool
    | [], o => decide (o = P.cellsOf t)
    | f :: fs, o => decide (f.offset = o) && offs fs (o + P.cellsOf f.type)

variable {H : Type} {enc : TypeId × Value → H} {P : Program} {w : World} {sp : Nat → Bool} {held : Bool}

theorem list_some {fuel : Nat} {S : List TypeId} (ih : ∀ t cs d ps, S.contains t = true → DataW.trod enc P w 0 sp held fuel t cs = some (d, ps) → ∃ vs, dV P d t = some vs) {α : Type} (g : α → Option (List Value)) {e : TypeId} (he : S.contains e = true) :
    ∀ (l : List α) (xs : List (DataW H × List MemPlace)), (l.mapM fun i => (g i).bind (DataW.trod enc P w 0 sp held fuel e)) = some xs → (∃ es, dVs P (xs.map (·.1)) e = some es) ∧ ∃ es, dVa P (xs.map (·.1)) e = some es
  | l, xs, h => by
    induction l generalizing xs with
    | nil => simp at h; subst h; exact ⟨⟨[], rfl⟩, [], rfl⟩
    | cons a l ih2 =>
      rcases mapAll_mapM h with ⟨q, _⟩ | ⟨x, xs', y, ys, e1, e2, e3, e4⟩
      · cases q
      · injection e1 with e1 e1'; subst e1; subst e1'; subst e2
        simp only [Option.bind_eq_some_iff] at e3
        obtain ⟨cs, _, q2⟩ := e3
        obtain ⟨vs, hv⟩ := ih e cs y.1 y.2 he q2
        obtain ⟨⟨es, g1⟩, es', g2⟩ := ih2 ys e4
        simp only [List.map_cons, dVs, dVa, hv, g1, g2]
        exact ⟨⟨_, rfl⟩, _, rfl⟩

theorem fields_some {fuel : Nat} {S : List TypeId} (ih : ∀ t cs d ps, S.contains t = true → DataW.trod enc P w 0 sp held fuel t cs = some (d, ps) → ∃ vs, dV P d t = some vs) (t : TypeId) (cs : List Value) :
    ∀ (fs : List Field) (o : Nat) (xs : List (DataW H × List MemPlace)), (fs.mapM fun f => DataW.trod enc P w 0 sp held fuel f.type ((cs.drop f.offset).take (P.cellsOf f.type))) = some xs →
      (∀ f, f ∈ fs → S.contains f.type = true) → okT.offs P t fs o = true → ∃ us, dVf P (xs.map (·.1)) fs o (P.cellsOf t) = some us
  | [], o, xs, h, _, ho => by
    simp at h; subst h
    simp only [okT.offs, decide_eq_true_eq] at ho
    exact ⟨[], by simp [dVf, ho]⟩
  | f :: fs, o, xs, h, hS, ho => by
    rcases mapAll_mapM h with ⟨q, _⟩ | ⟨x, xs', y, ys, e1, e2, e3, e4⟩
    · cases q
    · injection e1 with e1 e1'; subst e1; subst e1'; subst e2
      simp only [okT.offs, Bool.and_eq_true, decide_eq_true_eq] at ho
      obtain ⟨vs, hv⟩ := ih f.type _ y.1 y.2 (hS f (by simp)) e3
      obtain ⟨us, hu⟩ := fields_some ih t cs fs _ ys e4 (fun g hg => hS g (by simp [hg])) ho.2
      exact ⟨vs ++ us, by simp only [List.map_cons, dVf, ho.1, if_true, hv, hu]⟩

theorem dV_some {S : List TypeId} (hS : S.all (okT P S) = true) : ∀ (fuel : Nat) (t : TypeId) (cs : List Value) (d : DataW H) (ps : List MemPlace), S.contains t = true → DataW.trod enc P w 0 sp held fuel t cs = some (d, ps) → ∃ vs, dV P d t = some vs := by
  intro fuel
  induction fuel with
  | zero => intro t cs d ps _ h; cases h
  | succ fuel ih =>
    intro t cs d ps ht h
    have hok : okT P S t = true := List.all_eq_true.1 hS t (by simpa using ht)
    simp only [DataW.trod] at h
    unfold okT at hok
    split at h
    · rename_i hu
      injection h with h; injection h with h1 h2; subst h1
      simp [dV, hu]
    · rename_i k k' n hu
      split at h
      · rename_i hq
        injection h with h; injection h with h1 h2; subst h1
        simp [dV, hu, hq.2]
      · cases h
    · rename_i k k' n hu
      rw [hu] at hok; simp at hok
    · rename_i s hu
      split at h
      · rename_i hq
        injection h with h; injection h with h1 h2; subst h1
        have : s.data.toList.length ≤ maxLen := hq
        exact ⟨_, by simp only [dV, hu]; rw [if_pos this]⟩
      · cases h
    · rename_i e hu
      injection h with h; injection h with h1 h2; subst h1
      simp [dV, hu]
    · rename_i e a hu
      rw [hu] at hok
      simp only [Bool.and_eq_true, decide_eq_true_eq] at hok
      simp only [Option.map_eq_some_iff, Option.bind_eq_some_iff] at h
      obtain ⟨x, ⟨cs', h1, h2⟩, h3⟩ := h
      injection h3 with h3 h4; subst h3
      obtain ⟨vs, hv⟩ := ih e cs' x.1 x.2 hok.1 h2
      simp [dV, hu, hok.2, hv]
    · rename_i e hu
      injection h with h; injection h with h1 h2; subst h1
      simp [dV, hu]
    · rename_i e a len cap hu
      rw [hu] at hok
      simp only [Bool.and_eq_true, decide_eq_true_eq] at hok
      split at h
      · rename_i hq
        simp only [Option.bind_eq_some_iff, Option.map_eq_some_iff] at h
        obtain ⟨elems, h1, rest, h2, h3⟩ := h
        injection h3 with h3 h4; subst h3
        obtain ⟨⟨es, he⟩, _⟩ := list_some ih (fun i => w.cells? 0 (a.add (i * P.cellsOf e)) (P.cellsOf e)) hok.1 _ _ h1
        have hl : elems.length = len := by
          have : ∀ (l : List Nat) (r : List (DataW H × List MemPlace)), (l.mapM fun i => (w.cells? 0 (a.add (i * P.cellsOf e)) (P.cellsOf e)).bind (DataW.trod enc P w 0 sp held fuel e)) = some r → r.length = l.length := by
            intro l
            induction l with
            | nil => intro r q; simp at q; simp [← q]
            | cons x l ihl =>
              intro r q
              rcases mapAll_mapM q with ⟨q, _⟩ | ⟨x', xs', y, ys, e1, e2, e3, e4⟩
              · cases q
              · injection e1 with e1 e1'; subst e1'; subst e2
                simp [ihl ys e4]
          simpa using this _ _ h1
        have hle : (elems.map (·.1)).length ≤ maxLen := by rw [List.length_map, hl]; omega
        exact ⟨_, by simp only [dV, hu]; rw [if_pos ⟨hok.2, hle⟩, he]⟩
      · cases h
    · rename_i cs x1 cs1 fs hu
      rw [hu] at hok
      simp only [Bool.and_eq_true, List.all_eq_true] at hok
      split at h
      · simp only [Option.map_eq_some_iff] at h
        obtain ⟨xs, h1, h2⟩ := h
        injection h2 with h2 h3; subst h2
        obtain ⟨us, hus⟩ := fields_some ih t cs fs.toList 0 xs h1 hok.1 hok.2
        exact ⟨us, by simp only [dV, hu]; exact hus⟩
      · cases h
    · rename_i cs x1 cs1 n e hu
      rw [hu] at hok
      simp only [Bool.and_eq_true, decide_eq_true_eq] at hok
      split at h
      · simp only [Option.map_eq_some_iff] at h
        obtain ⟨xs, h1, h2⟩ := h
        injection h2 with h2 h3; subst h2
        obtain ⟨_, es, he⟩ := list_some ih (fun i => some ((cs.drop (i * P.cellsOf e)).take (P.cellsOf e))) hok.1 _ xs (by simpa using h1)
        exact ⟨es, by simp only [dV, hu, hok.2, if_true]; exact he⟩
      · cases h
    all_goals first
      | (rename_i hu; rw [hu] at hok; simp at hok; done)
      | (cases h; done)

/-! ### What a value's constructor is -/
theorem dV_bool {d : DataW H} {t : TypeId} {vs : List V} (hu : P.underlying t = some .bool) (h : dV P d t = some vs) : ∃ b, vs = [.bool b] := by
  cases d <;> simp [dV, hu] at h
  rename_i l
  cases l <;> simp at h
  exact ⟨_, h.symm⟩

theorem dV_int {d : DataW H} {t : TypeId} {k : IntKind} {vs : List V} (hu : P.underlying t = some (.int k)) (h : dV P d t = some vs) : ∃ k' n, vs = [.int k' n] := by
  cases d <;> simp [dV, hu] at h
  rename_i l
  cases l <;> simp at h
  exact ⟨_, _, h.2.symm⟩

theorem dV_int' {d : DataW H} {t : TypeId} {k : IntKind} {vs : List V} (hu : P.underlying t = some (.int k)) (h : dV P d t = some vs) : ∃ n, vs = [.int k n] ∧ k.min ≤ n ∧ n ≤ k.max := by
  cases d <;> simp [dV, hu] at h
  rename_i l
  cases l <;> simp at h
  obtain ⟨⟨rfl, h1⟩, h2⟩ := h
  simp only [Lit.wf, Bool.and_eq_true, decide_eq_true_eq] at h1
  exact ⟨_, h2.symm, h1⟩

theorem dV_str {d : DataW H} {t : TypeId} {vs : List V} (hu : P.underlying t = some .string) (h : dV P d t = some vs) : ∃ s, vs = [.str s] := by
  cases d <;> simp [dV, hu] at h
  rename_i l
  cases l <;> simp at h
  exact ⟨_, h.2.symm⟩

theorem dV_str' {d : DataW H} {t : TypeId} {vs : List V} (hu : P.underlying t = some .string) (h : dV P d t = some vs) : ∃ s, vs = [.str s] ∧ s.length ≤ maxLen := by
  cases d <;> simp [dV, hu] at h
  rename_i l
  cases l <;> simp at h
  exact ⟨_, h.2.symm, h.1⟩

theorem dVs_length : ∀ {ds : List (DataW H)} {e : TypeId} {es : List V}, dVs P ds e = some es → es.length = ds.length
  | [], e, es, h => by simp [dVs] at h; subst h; rfl
  | d :: ds, e, es, h => by
    simp only [dVs] at h
    split at h
    · rename_i cs es' h1 h2
      injection h with h; subst h
      simp [dVs_length h2]
    · cases h

theorem dV_slice' {d : DataW H} {t e : TypeId} {vs : List V} (hu : P.underlying t = some (.slice e)) (h : dV P d t = some vs) : vs = [.nils] ∨ ∃ elems sp es, d = .slice elems sp ∧ dVs P elems e = some es ∧ vs = [.sl es] ∧ es.length ≤ maxLen := by
  cases d <;> simp [dV, hu] at h
  · exact .inl h.symm
  · rename_i elems sp
    obtain ⟨h1, h2⟩ := h
    split at h2
    · rename_i es he
      injection h2 with h2
      exact .inr ⟨elems, sp, es, rfl, he, h2.symm, by rw [dVs_length he]; exact h1.2⟩
    · cases h2

/-- Each element of a slice is one of the type's. -/
theorem dVs_get : ∀ {ds : List (DataW H)} {e : TypeId} {es : List V}, dVs P ds e = some es → ∀ (i : Nat) (v : V), es[i]? = some v → ∃ (d : DataW H) (cs : List V), dV P d e = some cs ∧ v = elemV P e cs
  | [], e, es, h, i, v, hi => by simp [dVs] at h; subst h; simp at hi
  | d :: ds, e, es, h, i, v, hi => by
    simp only [dVs] at h
    split at h
    · rename_i cs es' h1 h2
      injection h with h; subst h
      cases i with
      | zero => simp at hi; subst hi; exact ⟨d, cs, h1, rfl⟩
      | succ i => simp at hi; exact dVs_get h2 i v hi
    · cases h

theorem dV_slice {d : DataW H} {t e : TypeId} {vs : List V} (hu : P.underlying t = some (.slice e)) (h : dV P d t = some vs) : vs = [.nils] ∨ ∃ elems sp es, d = .slice elems sp ∧ dVs P elems e = some es ∧ vs = [.sl es] := by
  cases d <;> simp [dV, hu] at h
  · exact .inl h.symm
  · rename_i elems sp
    obtain ⟨h1, h2⟩ := h
    split at h2
    · rename_i es he
      injection h2 with h2
      exact .inr ⟨elems, sp, es, rfl, he, h2.symm⟩
    · cases h2

theorem dV_struct {d : DataW H} {t : TypeId} {fs : Array Field} {vs : List V} (hu : P.underlying t = some (.struct fs)) (h : dV P d t = some vs) : ∃ ps, d = .agg ps ∧ dVf P ps fs.toList 0 (P.cellsOf t) = some vs := by
  cases d <;> simp [dV, hu] at h
  exact ⟨_, rfl, h⟩

theorem dVf_cons {ps : List (DataW H)} {f : Field} {fs : List Field} {o tot : Nat} {vs : List V} (h : dVf P ps (f :: fs) o tot = some vs) : ∃ d ds a b, ps = d :: ds ∧ dV P d f.type = some a ∧ dVf P ds fs (o + P.cellsOf f.type) tot = some b ∧ vs = a ++ b := by
  cases ps with
  | nil => simp [dVf] at h
  | cons d ds =>
    simp only [dVf] at h
    split at h
    · split at h
      · rename_i a b ha hb
        injection h with h
        exact ⟨d, ds, a, b, rfl, ha, hb, h.symm⟩
      · cases h
    · cases h

theorem dVf_nil {ps : List (DataW H)} {o tot : Nat} {vs : List V} (h : dVf P ps [] o tot = some vs) : ps = [] ∧ vs = [] := by
  cases ps with
  | nil =>
    simp only [dVf] at h
    split at h
    · injection h with h; exact ⟨rfl, h.symm⟩
    · cases h
  | cons => simp [dVf] at h

theorem lookup_mem {l : List (Nat × EFn)} {f : Nat} {e : EFn} (h : l.lookup f = some e) : (f, e) ∈ l := by
  induction l with
  | nil => cases h
  | cons p l ih =>
    obtain ⟨g, x⟩ := p
    rw [List.lookup_cons] at h
    split at h
    · rename_i q
      injection h with h; subst h
      have : f = g := by simpa using q
      subst this; simp
    · exact List.mem_cons_of_mem _ (ih h)

def RowOk (P : Program) (p : Nat × EFn) : Prop := ∃ fn, P.funcs[p.1]? = some fn ∧ compF P fn = some p.2 ∧ entersB P p.1 = true

theorem tabOk_of {P : Program} {l : List (Nat × EFn)} (h : ∀ p, p ∈ l → RowOk P p) : TabOk P (fun f => l.lookup f) := fun f e hf => h (f, e) (lookup_mem hf)

theorem rows_nil {P : Program} : ∀ p, p ∈ ([] : List (Nat × EFn)) → RowOk P p := fun p h => by cases h
theorem rows_cons {P : Program} {a : Nat × EFn} {l : List (Nat × EFn)} (h : RowOk P a) (g : ∀ p, p ∈ l → RowOk P p) : ∀ p, p ∈ a :: l → RowOk P p := fun p hp => (List.mem_cons.1 hp).elim (fun q => q ▸ h) (g p)

/-- A call that evaluation brings to an end. -/
theorem ce_of_eval {P : Program} {tab : FuncId → Option EFn} (T : TabOk P tab) {lf k : Nat} {f : FuncId} {args : List V} {h : List Ob} {v : V} (e : (evF tab lf k f args h).map (·.1) = some v) : CE P f args h fun r _ => r = v := by
  simp only [Option.map_eq_some_iff] at e
  obtain ⟨⟨r, h'⟩, e1, e2⟩ := e
  exact (evF_ok T lf k f args h r h' e1).2.mono fun r2 h2 q => q.1.trans e2

end Go.Proofs.Ytdcdmpgigmhhpaa.E
