/- The layer E, part 30: a map's entries, one by one, in whatever order. No condition. -/
import Derived.Test.YtdcdmpgigmhhpaaE29
namespace Go.Proofs.Ytdcdmpgigmhhpaa.E
set_option linter.unusedSimpArgs false
set_option linter.unusedVariables false

def evRangeM (h : List Ob) : V → Option (V × List Ob)
  | .nilm => some (.ptr h.length 0 0, h ++ [.miter none 0 [] 0])
  | .mp id => match h[id]? with
    | some (.map _ clock) => some (.ptr h.length 0 0, h ++ [.miter (some id) clock [] clock])
    | _ => none
  | _ => none

theorem rangeM_good {P : Program} {L : Loc} {h h' : List Ob} {w : World} (H : HRel L h w) {t kT eT : TypeId} (hu : P.underlying t = some (.map kT eT)) {v r : V} {x : Value} (rep : Rep L w v x) (he : evRangeM h v = some (r, h')) : Good P L w (Instr.range t x) r h' := by
  have fin : ∀ (m : Option Nat) (mb : Option Nat) (c : Nat), (match m, mb with | none, none => True | some i, some q => i < L.len ∧ (L.at_ i = none ∨ ∃ p, L.at_ i = some (q, p)) | _, _ => False) →
      ∃ w' L', w' = { w with heap := w.heap.push (.mapIter mb c #[] c) } ∧ Rep L' w' (.ptr h.length 0 0) (.pointer (some ⟨w.heap.size, 0, none⟩)) ∧ HRel L' (h ++ [.miter m c [] c]) w' ∧ Fr (Own L) w w' ∧ Ext L w L' := by
    intro m mb c hm
    have fr := fr_alloc (Own L) w (.mapIter mb c #[] c)
    have ex := ext_push L w w.heap.size 0 1 (Nat.le_refl _)
    refine ⟨_, L.push (w.heap.size, 0, 1), rfl, ?_, HRel.push H _ _ 0 1 ⟨w.heap.size, 1, mb, L.push_new _, (by show (w.heap.push _)[w.heap.size]? = _; simp), ?_⟩, fr, ex⟩
    · have := Rep.ptr (i := 0) (j := 0) (w := { w with heap := w.heap.push (.mapIter mb c #[] c) }) (L.push_new (w.heap.size, 0, 1))
      rw [H.len] at this
      exact this
    · cases m <;> cases mb <;> simp only at hm ⊢
      refine ⟨by simp only [Loc.push]; omega, ?_⟩
      rw [L.push_old _ hm.1]; exact hm.2
  unfold evRangeM at he
  split at he
  · injection he with he; injection he with he1 he2; subst he1; subst he2
    cases rep
    obtain ⟨w', L', rfl, g⟩ := fin none none 0 trivial
    refine ⟨_, _, L', ?_, g⟩
    simp only [Instr.range, Sem.run_bind, run_underlying hu, Result.andThen_ok, Sem.run_pure, run_newObj]
  · rename_i id
    split at he
    · rename_i ents clock hob
      injection he with he; injection he with he1 he2; subst he1; subst he2
      obtain ⟨b, base, sz, mes, h1, h2, h3, h4⟩ := H.obs id _ hob
      cases rep with
      | mp g =>
        rw [h1] at g; injection g with g; injection g with q1 q2; subst q1
        obtain ⟨w', L', rfl, g⟩ := fin (some id) (some b) clock ⟨H.lt _ _ h1, .inr ⟨_, h1⟩⟩
        refine ⟨_, _, L', ?_, g⟩
        simp only [Instr.range, Sem.run_bind, run_underlying hu, Result.andThen_ok, Sem.run_pure, run_getObj_map h2, run_newObj]
      | mpD _ g => rw [h1] at g; cases g
    · cases he
  · cases he

/-- What the next entry may be: each a value, and memory behind it. -/
def evNextM (h : List Ob) : V → Option (List (V × List Ob))
  | .ptr id 0 0 => match h[id]? with
    | some (.miter none _ _ _) => some [(.tup [.bool false], h)]
    | some (.miter (some m) since seen stepped) => match h[m]? with
      | some (.map ents clock) =>
        if (!seen.isEmpty && !ents.isEmpty && ents.all fun e => decide (stepped ≤ e.2.2)) then none else
          let left := ents.filter fun e => !seen.contains e.2.2
          let old := left.filter fun e => decide (e.2.2 < since)
          let new := left.filter fun e => decide (since ≤ e.2.2)
          some ((if old.isEmpty then [(.tup [.bool false], h)] else []) ++ (old ++ new).map fun e => (.tup [.bool true, e.1, e.2.1], h.set id (.miter (some m) since (seen ++ [e.2.2]) clock)))
      | _ => none
    | _ => none
  | _ => none

theorem EntsRep.cons {L : Loc} {w : World} {p : V × V × Nat} {ents : List (V × V × Nat)} {m : MapEntry} {mes : List MapEntry} (hk : Rep L w p.1 m.key) (hv : Rep L w p.2.1 m.val) (hb : m.born = p.2.2) (h : EntsRep L w ents mes) : EntsRep L w (p :: ents) (m :: mes) := by
  refine ⟨by simp [h.1], fun i k v t hi => ?_⟩
  cases i with
  | zero =>
    simp only [List.getElem?_cons_zero, Option.some.injEq] at hi
    subst hi
    exact ⟨m, rfl, hk, hv, hb⟩
  | succ i => exact h.2 i k v t (by simpa using hi)

theorem EntsRep.head {L : Loc} {w : World} {p : V × V × Nat} {ents : List (V × V × Nat)} {m : MapEntry} {mes : List MapEntry} (h : EntsRep L w (p :: ents) (m :: mes)) : Rep L w p.1 m.key ∧ Rep L w p.2.1 m.val ∧ m.born = p.2.2 := by
  obtain ⟨e, h1, h2, h3, h4⟩ := h.2 0 p.1 p.2.1 p.2.2 rfl
  simp only [List.getElem?_cons_zero, Option.some.injEq] at h1
  subst h1
  exact ⟨h2, h3, h4⟩

theorem EntsRep.filter {L : Loc} {w : World} (q : Nat → Bool) : ∀ {ents : List (V × V × Nat)} {mes : List MapEntry}, EntsRep L w ents mes → EntsRep L w (ents.filter fun e => q e.2.2) (mes.filter fun e => q e.born)
  | [], [], h => h
  | [], m :: mes, h => by have := h.1; simp at this
  | p :: ents, [], h => by have := h.1; simp at this
  | p :: ents, m :: mes, h => by
    have ih := EntsRep.filter q h.tail
    obtain ⟨h1, h2, h3⟩ := h.head
    simp only [List.filter_cons, h3]
    split
    · exact .cons h1 h2 h3 ih
    · exact ih

theorem EntsRep.append {L : Loc} {w : World} : ∀ {ents ents' : List (V × V × Nat)} {mes mes' : List MapEntry}, EntsRep L w ents mes → EntsRep L w ents' mes' → EntsRep L w (ents ++ ents') (mes ++ mes')
  | [], _, [], _, _, h' => h'
  | [], _, m :: mes, _, h, _ => by have := h.1; simp at this
  | p :: ents, _, [], _, h, _ => by have := h.1; simp at this
  | p :: ents, _, m :: mes, _, h, h' => .cons h.head.1 h.head.2.1 h.head.2.2 (EntsRep.append h.tail h')

theorem EntsRep.all {L : Loc} {w : World} (q : Nat → Bool) : ∀ {ents : List (V × V × Nat)} {mes : List MapEntry}, EntsRep L w ents mes → (ents.all fun e => q e.2.2) = (mes.all fun e => q e.born)
  | [], [], h => rfl
  | [], m :: mes, h => by have := h.1; simp at this
  | p :: ents, [], h => by have := h.1; simp at this
  | p :: ents, m :: mes, h => by
    simp only [List.all_cons, h.head.2.2, EntsRep.all q h.tail]

theorem run_getObj_i {P : Program} {w : World} {b : Nat} {m : Option Nat} {s : Nat} {seen : Array Nat} {c : Nat} (h : w.heap[b]? = some (.mapIter m s seen c)) : (getObj b).run P w = .ok (.mapIter m s seen c) w := by
  simp only [getObj, Sem.run, h]

theorem run_setObj_i {P : Program} {w : World} {b : Nat} {m : Option Nat} {s : Nat} {seen : Array Nat} {c : Nat} (h : w.heap[b]? = some (.mapIter m s seen c)) (o : Obj) : (setObj b o).run P w = .ok () (E.put w b o) := by
  simp only [setObj, Sem.run, h]; rfl

theorem fr_putIter {B : Nat → Prop} {w : World} {b : Nat} {m m' : Option Nat} {s s' : Nat} {seen seen' : Array Nat} {c c' : Nat} (hb : B b) (h : w.heap[b]? = some (.mapIter m s seen c)) : Fr B w (put w b (.mapIter m' s' seen' c')) := by
  have hbl := (Array.getElem?_eq_some_iff.1 h).1
  refine ⟨rfl, rfl, rfl, by rw [put_size]; exact Nat.le_refl _, fun k hk ho => put_other (fun q => ho (q ▸ hb)), fun k hk => ?_⟩
  by_cases q : k = b
  · subst q
    unfold bsz
    rw [put_same hbl, h]
  · exact bsz_of_heap (put_other q)

/-- One candidate is taken. -/
theorem run_pick {P : Program} {w : World} (n : Nat) (hn : 0 < n) : ∃ j w', (choose (.mapNext n)).run P w = .ok j w' ∧ j < n ∧ (w' = w ∨ w' = { w with drawn := w.drawn + 1 }) := by
  rw [run_choose]
  split
  · rename_i q
    exact ⟨0, w, rfl, hn, .inl rfl⟩
  · exact ⟨_, _, rfl, Nat.mod_lt _ hn, .inr rfl⟩

theorem nextM_good {P : Program} {L : Loc} {h : List Ob} {w : World} (H : HRel L h w) {ty : TypeId} {v : V} {x : Value} {outs : List (V × List Ob)} (rep : Rep L w v x) (he : evNextM h v = some outs) :
    ∃ p, p ∈ outs ∧ Good P L w (Instr.next x false ty) p.1 p.2 := by
  unfold evNextM at he
  split at he
  · rename_i id
    split at he
    · rename_i since seen stepped hob
      injection he with he; subst he
      obtain ⟨b, sz, mb, h1, h2, h3⟩ := H.obs id _ hob
      cases mb <;> simp only at h3
      refine ⟨_, List.mem_singleton.2 rfl, ?_⟩
      cases rep with
      | ptrD _ g => rw [h1] at g; cases g
      | ptr g =>
        rw [h1] at g; injection g with g; injection g with q1 q2; injection q2 with q2 q3; subst q1; subst q2
        refine .same H (x := .tuple #[.bool false]) ?_ ?_
        · simp only [Instr.next, Sem.run_bind, run_getObj_i h2, Result.andThen_ok, Sem.run_pure, Nat.zero_mul, Nat.add_zero]
        · refine .tup _ rfl (fun k c hk => ?_)
          match k, hk with
          | 0, hk => simp at hk; subst hk; exact .bool _
          | k + 1, hk => simp at hk
    · rename_i m since seen stepped hob
      split at he
      · rename_i ents clock hmap
        split at he
        · cases he
        · rename_i hun
          injection he with he
          have hid : id < h.length := (List.getElem?_eq_some_iff.1 hob).1
          obtain ⟨b, sz, mb, h1, h2, h3⟩ := H.obs id _ hob
          obtain ⟨bm, basem, szm, mes, m1, m2, m3, m4⟩ := H.obs m _ hmap
          cases mb with
          | none => simp only at h3
          | some rm =>
          simp only at h3
          obtain ⟨hml, hmr⟩ := h3
          have hrm : rm = bm := by
            rcases hmr with q | ⟨p, q⟩
            · rw [m1] at q; cases q
            · rw [m1] at q; injection q with q; injection q with q _; exact q.symm
          subst hrm
          have hbl := (Array.getElem?_eq_some_iff.1 h2).1
          have E0 : EntsRep L w ents mes.toList := ⟨by simpa using m3, fun i k v t hi => by simpa using m4 i k v t hi⟩
          cases rep with
          | ptrD _ g => rw [h1] at g; cases g
          | ptr g =>
          rw [h1] at g; injection g with g; injection g with q1 q2; injection q2 with q2 q3; subst q1; subst q2; subst q3
          have E1 := E0.filter (fun t => !seen.contains t)
          have E2 := E1.filter (fun t => decide (t < since))
          have E3 := E1.filter (fun t => decide (since ≤ t))
          have E4 := E2.append E3
          have hemp : mes.isEmpty = ents.isEmpty := by
            have := m3
            cases ents with
            | nil => simp at this; simp [this]
            | cons p ps => simp at this ⊢; intro q; simp [q] at this
          have hcond : (!seen.toArray.isEmpty && !mes.isEmpty && mes.all fun e => decide (e.born ≥ stepped)) = false := by
            have := E0.all (fun t => decide (stepped ≤ t))
            rw [hemp]
            have ha : (mes.all fun e => decide (e.born ≥ stepped)) = mes.toList.all fun e => decide (stepped ≤ e.born) := by
              simp
            rw [ha, ← this]
            simpa using hun
          -- the candidates
          let oldM := (mes.filter fun e => !seen.toArray.contains e.born).filter fun e => decide (e.born < since)
          let newM := (mes.filter fun e => !seen.toArray.contains e.born).filter fun e => decide (e.born ≥ since)
          let C : Array (Option MapEntry) := (if oldM.isEmpty then #[none] else #[]) ++ (oldM ++ newM).map some
          have hoM : oldM.toList = (mes.toList.filter fun e => !seen.contains e.born).filter fun e => decide (e.born < since) := by simp [oldM]
          have hnM : newM.toList = (mes.toList.filter fun e => !seen.contains e.born).filter fun e => decide (since ≤ e.born) := by simp [newM]
          have hol : oldM.isEmpty = ((ents.filter fun e => !seen.contains e.2.2).filter fun e => decide (e.2.2 < since)).isEmpty := by
            have := E2.1
            rw [← hoM] at this
            cases hq : ((ents.filter fun e => !seen.contains e.2.2).filter fun e => decide (e.2.2 < since)) with
            | nil => rw [hq] at this; simp at this; simp [this]
            | cons p ps => rw [hq] at this; simp at this ⊢; intro q; simp [q] at this
          have hpos : 0 < C.size := by
            simp only [C, Array.size_append, Array.size_map]
            cases hq : oldM.isEmpty with
            | true => simp; omega
            | false =>
              have : oldM.size ≠ 0 := by simpa [Array.isEmpty] using hq
              omega
          obtain ⟨j, w1, hj1, hj2, hw1⟩ := run_pick (P := P) (w := w) C.size hpos
          have hcj : C[j]? = some C[j] := by simp [hj2]
          have hrun : (Instr.next (.pointer (some ⟨b, 0 + 0 * sz + 0, none⟩)) false ty).run P w = (match C[j]? with
              | some (some e) => do setObj b (.mapIter (some rm) since (seen.toArray.push e.born) clock); pure (.tuple #[.bool true, e.key, e.val])
              | some none => pure (.tuple #[.bool false])
              | none => stuck "Next: no such candidate" : Sem Value).run P w1 := by
            simp only [Instr.next, Sem.run_bind, run_getObj_i h2, run_getObj_map m2, Result.andThen_ok, Sem.run_pure, Nat.zero_mul, Nat.add_zero]
            rw [hcond]
            simp only [Bool.false_eq_true, if_false, Sem.run_bind, Sem.run_pure, Result.andThen_ok]
            rw [hj1]
            simp only [Result.andThen_ok]
            rfl
          have fr1 : Fr (Own L) w w1 := by rcases hw1 with rfl | rfl; exact Fr.refl _ _; exact fr_drew _ _
          have H1 : HRel L h w1 := by rcases hw1 with rfl | rfl; exact H; exact H.drew
          have hheap : w1.heap = w.heap := by rcases hw1 with rfl | rfl <;> rfl
          have hmem : C[j] ∈ C.toList := by simp
          have hCl : C.toList = (if oldM.isEmpty then [none] else []) ++ (oldM.toList ++ newM.toList).map some := by
            simp only [C, Array.toList_append, Array.toList_map]
            congr 1
            split <;> rfl
          rw [hCl, List.mem_append] at hmem
          rcases hmem with hmem | hmem
          · split at hmem
            · rename_i ho
              simp only [List.mem_singleton] at hmem
              refine ⟨(.tup [.bool false], h), ?_, ?_⟩
              · rw [← he, ← hol, ho]; simp
              · refine ⟨.tuple #[.bool false], w1, L, ?_, ?_, H1, fr1, Ext.refl _ _⟩
                · rw [hrun, hcj, hmem]; simp
                · refine .tup _ rfl (fun k c hk => ?_)
                  match k, hk with
                  | 0, hk => simp at hk; subst hk; exact .bool _
                  | k + 1, hk => simp at hk
            · simp at hmem
          · simp only [List.mem_map] at hmem
            obtain ⟨e, hme, hce⟩ := hmem
            rw [hoM, hnM] at hme
            obtain ⟨i, hil, hie⟩ := List.mem_iff_getElem.1 hme
            have hil' := hil
            rw [E4.1] at hil'
            obtain ⟨⟨k0, v0, t0⟩, hp⟩ : ∃ p, (((ents.filter fun e => !seen.contains e.2.2).filter fun e => decide (e.2.2 < since)) ++ ((ents.filter fun e => !seen.contains e.2.2).filter fun e => decide (since ≤ e.2.2)))[i]? = some p := ⟨_, List.getElem?_eq_getElem hil'⟩
            obtain ⟨e', e1, e2, e3, e4⟩ := E4.2 i k0 v0 t0 hp
            rw [List.getElem?_eq_getElem hil, hie] at e1
            injection e1 with e1; subst e1
            refine ⟨(.tup [.bool true, k0, v0], h.set id (.miter (some m) since (seen ++ [t0]) clock)), ?_, ?_⟩
            · rw [← he, List.mem_append]
              exact .inr (List.mem_map.2 ⟨(k0, v0, t0), List.mem_of_getElem? hp, rfl⟩)
            · have h2' : w1.heap[b]? = some (.mapIter (some rm) since seen.toArray stepped) := by rw [hheap]; exact h2
              have hbl' := (Array.getElem?_eq_some_iff.1 h2').1
              have hfr2 : Fr (Own L) w1 (E.put w1 b (.mapIter (some rm) since (seen.toArray.push e.born) clock)) := fr_putIter ⟨id, _, h1⟩ h2'
              refine ⟨.tuple #[.bool true, e.key, e.val], _, L, ?_, ?_, HRel.set H1 h1 hid hfr2 (fun k _ hk => put_other hk) ⟨b, sz, some rm, h1, ?_, hml, hmr⟩, fr1.trans (Ext.refl L w) hfr2, Ext.refl _ _⟩
              · rw [hrun, hcj, ← hce]
                simp only [Sem.run_bind, run_setObj_i h2', Result.andThen_ok, Sem.run_pure]
              · have st : ∀ {v : V} {x : Value}, Rep L w v x → Rep L (E.put w1 b (.mapIter (some rm) since (seen.toArray.push e.born) clock)) v x := fun r => H.step_rep r (fr1.trans (Ext.refl L w) hfr2) (Ext.refl _ _)
                refine .tup _ rfl (fun k c hk => ?_)
                match k, hk with
                | 0, hk => simp at hk; subst hk; exact .bool _
                | 1, hk => simp at hk; subst hk; exact st e2
                | 2, hk => simp at hk; subst hk; exact st e3
                | k + 3, hk => simp at hk
              · rw [put_same hbl', e4]
                simp
      · cases he
    · cases he
  · cases he

/-- The entry that was come to. -/
def evEntry (h : List Ob) : V → Option V
  | .ptr id 0 0 => match h[id]? with
    | some (.miter (some m) _ seen stepped) => match seen.getLast? with
      | some stamp => match h[m]? with
        | some (.map ents clock) => match decide (clock = stepped) with
          | true => match ents.find? fun e => e.2.2 == stamp with
            | some e => some (.tup [e.1, e.2.1])
            | none => none
          | false => none
        | _ => none
      | none => none
    | _ => none
  | _ => none

theorem EntsRep.find {L : Loc} {w : World} (q : Nat → Bool) : ∀ {ents : List (V × V × Nat)} {mes : List MapEntry} {e : V × V × Nat}, EntsRep L w ents mes → ents.find? (fun e => q e.2.2) = some e → ∃ m, mes.find? (fun e => q e.born) = some m ∧ Rep L w e.1 m.key ∧ Rep L w e.2.1 m.val
  | [], _, e, h, hf => by simp at hf
  | p :: ents, [], e, h, hf => by have := h.1; simp at this
  | p :: ents, m :: mes, e, h, hf => by
    obtain ⟨h1, h2, h3⟩ := h.head
    rw [List.find?_cons] at hf ⊢
    rw [h3]
    cases hq : q p.2.2 with
    | true => rw [hq] at hf; simp at hf; subst hf; exact ⟨m, rfl, h1, h2⟩
    | false => rw [hq] at hf; exact EntsRep.find q h.tail hf

theorem entry_good {P : Program} {L : Loc} {h : List Ob} {w : World} (H : HRel L h w) {v r : V} {x : Value} (rep : Rep L w v x) (he : evEntry h v = some r) : Good P L w (Instr.entry x) r h := by
  unfold evEntry at he
  split at he
  · rename_i id
    split at he
    · rename_i m since seen stepped hob
      split at he
      · rename_i stamp hst
        split at he
        · rename_i ents clock hmap
          split at he
          · rename_i hcl
            have hcl := of_decide_eq_true hcl
            split at he
            · rename_i e hfe
              injection he with he; subst he
              obtain ⟨b, sz, mb, h1, h2, h3⟩ := H.obs id _ hob
              obtain ⟨bm, basem, szm, mes, m1, m2, m3, m4⟩ := H.obs m _ hmap
              cases mb with
              | none => simp only at h3
              | some rm =>
              simp only at h3
              obtain ⟨hml, hmr⟩ := h3
              have hrm : rm = bm := by
                rcases hmr with q | ⟨p, q⟩
                · rw [m1] at q; cases q
                · rw [m1] at q; injection q with q; injection q with q _; exact q.symm
              subst hrm
              have E0 : EntsRep L w ents mes.toList := ⟨by simpa using m3, fun i k v t hi => by simpa using m4 i k v t hi⟩
              obtain ⟨me, f1, f2, f3⟩ := E0.find (fun t => t == stamp) hfe
              cases rep with
              | ptrD _ g => rw [h1] at g; cases g
              | ptr g =>
              rw [h1] at g; injection g with g; injection g with q1 q2; injection q2 with q2 q3; subst q1; subst q2; subst q3
              refine .same H (x := .tuple #[me.key, me.val]) ?_ ?_
              · simp only [Instr.entry, Sem.run_bind, run_getObj_i h2, Result.andThen_ok, Sem.run_pure, Nat.zero_mul, Nat.add_zero]
                have hb : seen.toArray.back? = some stamp := by simpa using hst
                rw [hb]
                simp only [Sem.run_bind, run_getObj_map m2, Result.andThen_ok, hcl, bne_self_eq_false, Bool.false_eq_true, if_false, Sem.run_pure]
                have hf : mes.find? (fun e => e.born == stamp) = some me := by simpa using f1
                rw [hf]
                simp
              · refine .tup _ rfl (fun k c hk => ?_)
                match k, hk with
                | 0, hk => simp at hk; subst hk; exact f2
                | 1, hk => simp at hk; subst hk; exact f3
                | k + 2, hk => simp at hk
            · cases he
          · cases he
        · cases he
      · cases he
    · cases he
  · cases he

end Go.Proofs.Ytdcdmpgigmhhpaa.E
