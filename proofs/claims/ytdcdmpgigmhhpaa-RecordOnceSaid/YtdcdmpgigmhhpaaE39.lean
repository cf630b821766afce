/- The layer E, part 39: structs that are pointed to, slices of structs. No condition. -/
import Derived.Test.YtdcdmpgigmhhpaaE38
namespace Go.Proofs.Ytdcdmpgigmhhpaa.E
set_option linter.unusedSimpArgs false
set_option linter.unusedVariables false

/-- A struct lies there. -/
def St (h : List Ob) (id : Nat) (cs : List V) : Prop := h[id]? = some (.row [.agg cs] cs.length)
theorem St.lt {h : List Ob} {id : Nat} {cs : List V} (s : St h id cs) : id < h.length := (List.getElem?_eq_some_iff.1 s).1
theorem St.alive {h : List Ob} {id : Nat} {cs : List V} (s : St h id cs) : aliveB h id = true := by
  unfold St at s
  simp [aliveB, s]
theorem St.keep {h h' : List Ob} {id : Nat} {cs : List V} {A : List Nat} (s : St h id cs) (k : Kp h h' A) (hn : id ∉ A) : St h' id cs := by
  unfold St
  rw [k.same id s.lt hn]; exact s
theorem St.kp {h h' : List Ob} {id : Nat} {cs : List V} (s : St h id cs) (k : Kp h h' []) : St h' id cs := s.keep k (fun q => by cases q)
theorem St.nilck {h : List Ob} {id : Nat} {cs : List V} (s : St h id cs) (i j : Nat) : er (.nilck (.c (.ptr id i j))) h = some (.ptr id i j) := by
  simp [er, ev, evOq, x_nilck, getC, evNilck, s.alive]
theorem St.faddr {h : List Ob} {id : Nat} {cs : List V} (s : St h id cs) (off i j : Nat) : er (.faddr off (.c (.ptr id i j))) h = some (.ptr id i (j + off)) := by
  simp [er, ev, evOq, x_faddr, getC, s.alive]
theorem St.load1 {h : List Ob} {id : Nat} {cs : List V} (s : St h id cs) {j : Nat} {c : V} (hj : cs[j]? = some c) : er (.load1 (.c (.ptr id 0 j))) h = some c := by
  unfold St at s
  have hlt : j < cs.length := (List.getElem?_eq_some_iff.1 hj).1
  have e : (List.drop j cs).take 1 = [c] := by
    rw [List.drop_eq_getElem_cons hlt]
    have := (List.getElem?_eq_some_iff.1 hj).2
    simp [this]
  simp only [er, ev, evOq, x_load1, getC, evLoad1, rdCells, s, List.getElem?_cons_zero, Option.map_some, V.cells]
  rw [if_pos (by omega), e]
  rfl
theorem St.loadN {h : List Ob} {id : Nat} {cs : List V} (s : St h id cs) : evLoadN h cs.length (.ptr id 0 0) = some (.agg cs) := by
  unfold St at s
  simp only [evLoadN, rdCells, s, List.getElem?_cons_zero, Option.map_some, V.cells]
  rw [if_pos (by omega)]
  simp
theorem St.loadN' {h : List Ob} {id n : Nat} {cs : List V} (s : St h id cs) (hn : cs.length = n) : er (.loadN n (.c (.ptr id 0 0))) h = some (.agg cs) := by
  subst hn
  simp [er, ev, evOq, x_loadN, getC, s.loadN]
theorem set_at : ∀ (cs : List V) (j : Nat) (x : V), j < cs.length → cs.take j ++ [x] ++ cs.drop (j + 1) = cs.set j x
  | c :: cs, 0, x, _ => by simp
  | c :: cs, j + 1, x, h => by
    have := set_at cs j x (by simpa using h)
    simpa using this
theorem St.set {h : List Ob} {id : Nat} {cs ds : List V} (s : St h id cs) (hl : ds.length = cs.length) : St (h.set id (.row [.agg ds] cs.length)) id ds := by
  unfold St
  rw [hl]
  exact List.getElem?_set_self s.lt
theorem Kp.set (h : List Ob) (id : Nat) (o : Ob) : Kp h (h.set id o) [id] := ⟨by simp, fun j hj hn => by rw [List.getElem?_set_ne (by intro q; subst q; exact hn (by simp))]⟩
theorem St.store1 {h : List Ob} {id : Nat} {cs : List V} (s : St h id cs) {j : Nat} {x : V} (hj : j < cs.length) (hc : x.cells = [x] ∧ x.scalar = true) :
    To2 (ev (.store 1 (.c (.ptr id 0 j)) (.c x)) h) fun _ h' => St h' id (cs.set j x) ∧ Kp h h' [id] := by
  have e : ev (.store 1 (.c (.ptr id 0 j)) (.c x)) h = some (.tup [], h.set id (.row [.agg (cs.set j x)] cs.length)) := by
    have s' := s
    unfold St at s'
    have ew : wrCells h (.ptr id 0 j) [x] = some (h.set id (.row [.agg (cs.set j x)] cs.length)) := by
      simp only [wrCells, s', List.length_cons, List.length_nil, List.getElem?_cons_zero, Option.map_some, putCells, List.set_cons_zero]
      rw [if_pos (by omega), set_at cs j x hj]
    have es : evStore h 1 (.ptr id 0 j) x = some (h.set id (.row [.agg (cs.set j x)] cs.length)) := by
      unfold evStore
      split
      · simp [V.scalar] at hc
      · simp [V.scalar] at hc
      · rw [hc.1, if_pos (by simp [hc.2]), ew]
    simp only [ev, evOq, x_store, getC, es, Option.map_some]
  rw [e]
  exact To2.some ⟨s.set (by simp), Kp.set _ _ _⟩
theorem St.storeN {h : List Ob} {id : Nat} {cs ds : List V} (s : St h id cs) (hl : ds.length = cs.length) (h0 : 0 < cs.length) (hs : ds.all V.scalar = true) {n : Nat} (hn : cs.length = n) :
    To2 (ev (.store n (.c (.ptr id 0 0)) (.c (.agg ds))) h) fun _ h' => St h' id ds ∧ Kp h h' [id] := by
  subst hn
  have e : ev (.store cs.length (.c (.ptr id 0 0)) (.c (.agg ds))) h = some (.tup [], h.set id (.row [.agg ds] cs.length)) := by
    have s' := s
    unfold St at s'
    have es : evStore h cs.length (.ptr id 0 0) (.agg ds) = some (h.set id (.row [.agg ds] cs.length)) := by
      have q : evStore h cs.length (.ptr id 0 0) (.agg ds) = wrCells h (.ptr id 0 0) ds := if_pos ⟨hl, hs, h0⟩
      rw [q]
      simp only [wrCells, s', List.getElem?_cons_zero, Option.map_some, putCells, List.set_cons_zero]
      rw [if_pos (by omega)]
      simp [hl]
    simp only [ev, evOq, x_store, getC, es, Option.map_some]
  rw [e]
  exact To2.some ⟨s.set hl, Kp.set _ _ _⟩
theorem alloc_to {h : List Ob} {cs : List V} (hs : cs.all V.scalar = true) : To2 (ev (.alloc false (.agg cs)) h) fun v h' => v = .ptr h.length 0 0 ∧ St h' h.length cs ∧ Kp h h' [] := by
  have e : ev (.alloc false (.agg cs)) h = some (.ptr h.length 0 0, h ++ [.row [.agg cs] cs.length]) := by
    simp only [ev, evOq, x_alloc, evBox, boxOf, V.cells, hs, if_true]
    rfl
  rw [e]
  exact To2.some ⟨rfl, by simp [St], by simp, fun j hj _ => by rw [List.getElem?_append_left hj]⟩
theorem box_to {h : List Ob} {cs : List V} (hs : cs.all V.scalar = true) : To2 (ev (.box false (.c (.agg cs))) h) fun v h' => v = .ptr h.length 0 0 ∧ St h' h.length cs ∧ Kp h h' [] := by
  have e : ev (.box false (.c (.agg cs))) h = some (.ptr h.length 0 0, h ++ [.row [.agg cs] cs.length]) := by
    simp only [ev, evOq, x_box, getC, evBox, boxOf, V.cells, hs, if_true]
    rfl
  rw [e]
  exact To2.some ⟨rfl, by simp [St], by simp, fun j hj _ => by rw [List.getElem?_append_left hj]⟩

theorem Sl.sc {h : List Ob} {v : V} {es : List V} (s : Sl 1 h v es) : v.cells = [v] ∧ v.scalar = true := by
  cases v <;> first | exact ⟨rfl, rfl⟩ | (have := s.c; simp [conts] at this)
/-- An element of a slice of structs. -/
theorem Sl.atN {n : Nat} {h : List Ob} {v : V} {es : List V} (s : Sl n h v es) {k : Int} {cs : List V} (hk : 0 ≤ k) (he : es[k.toNat]? = some (.agg cs)) (hc : cs.length = n) (h0 : 0 < n) :
    ∃ a, er (.iaddrL n (.c v) (.c (.int .i64 k))) h = some a ∧ er (.loadN n (.c a)) h = some (.agg cs) := by
  subst hc
  have c := s.c
  cases v with
  | nils => simp [conts] at c; subst c; simp at he
  | esl => simp [conts] at c; subst c; simp at he
  | sl fs =>
    simp only [conts] at c
    split at c
    · injection c with c; subst c
      refine ⟨.ref (.agg cs) 0, ?_, ?_⟩
      · simp [er, ev, evOq, x_iaddrL, getC, evIaddrL, hk, he, V.cells]
      · simp [er, ev, evOq, x_loadN, getC, evLoadN, rdCells, V.cells]
    · cases c
  | hsl id off len =>
    simp only [conts] at c
    split at c
    · rename_i fs q hob
      split at c
      · rename_i hh
        obtain ⟨rfl, hin⟩ := hh
        injection c with c
        rw [← c, List.getElem?_take] at he
        split at he
        · rename_i hlt
          rw [List.getElem?_drop] at he
          refine ⟨.ptr id (off + k.toNat) 0, ?_, ?_⟩
          · simp only [er, ev, evOq, x_iaddrL, getC, evIaddrL, hob]
            rw [if_pos ⟨hk, by omega⟩]
            simp
          · simp only [er, ev, evOq, x_loadN, getC, evLoadN, rdCells, hob]
            rw [if_pos (by omega), he]
            simp [V.cells]
        · cases he
      · cases c
    · cases c
  | str l => exact absurd rfl (s.ns l)
  | _ => simp [conts] at c
end Go.Proofs.Ytdcdmpgigmhhpaa.E
