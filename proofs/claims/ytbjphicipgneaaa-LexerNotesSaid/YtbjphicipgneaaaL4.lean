/- The layer E, its parts in one file: values and memory, operations, code, and what it comes to. No condition. -/
import Derived.Test.YtbjphicipgneaaaL3
/- The layer E, part 40: maps from ints to true; copies into slices. No condition. -/
namespace Go.Proofs.Ytbjphicipgneaaa.E
set_option linter.unusedSimpArgs false
set_option linter.unusedVariables false

/-- The map 'v' has just these keys, each with true. -/
def Mp (h : List Ob) (v : V) (ks : List Int) : Prop := (v = .nilm ∧ ks = []) ∨ ∃ id ents clock, v = .mp id ∧ h[id]? = some (.map ents clock) ∧ ents.map (fun e => (e.1, e.2.1)) = ks.map fun k => (V.int .i64 k, V.bool true)
def idsM : V → List Nat
  | .mp id => [id]
  | _ => []
theorem Mp.lt {h : List Ob} {v : V} {ks : List Int} (s : Mp h v ks) {j : Nat} (hj : j ∈ idsM v) : j < h.length := by
  rcases s with ⟨rfl, -⟩ | ⟨id, ents, clock, rfl, q, -⟩
  · cases hj
  · simp [idsM] at hj; subst hj
    exact (List.getElem?_eq_some_iff.1 q).1
theorem Mp.keep {h h' : List Ob} {v : V} {ks : List Int} {A : List Nat} (s : Mp h v ks) (k : Kp h h' A) (hn : ∀ j, j ∈ idsM v → j ∉ A) : Mp h' v ks := by
  have lt := fun j => Mp.lt s (j := j)
  rcases s with ⟨rfl, rfl⟩ | ⟨id, ents, clock, rfl, q, r⟩
  · exact .inl ⟨rfl, rfl⟩
  · refine .inr ⟨id, ents, clock, rfl, ?_, r⟩
    rw [k.same id (lt id (by simp [idsM])) (hn id (by simp [idsM]))]; exact q
theorem Mp.kp {h h' : List Ob} {v : V} {ks : List Int} (s : Mp h v ks) (k : Kp h h' []) : Mp h' v ks := s.keep k (fun j hj q => by cases q)
theorem Mp.sc {h : List Ob} {v : V} {ks : List Int} (s : Mp h v ks) : v.cells = [v] ∧ v.scalar = true := by
  rcases s with ⟨rfl, -⟩ | ⟨id, ents, clock, rfl, q, -⟩ <;> exact ⟨rfl, rfl⟩
theorem Mp.len {h : List Ob} {v : V} {ks : List Int} (s : Mp h v ks) : er (.lenM (.c v)) h = some (.int .i64 ks.length) := by
  rcases s with ⟨rfl, rfl⟩ | ⟨id, ents, clock, rfl, q, r⟩
  · rfl
  · have := congrArg List.length r
    simp only [List.length_map] at this
    simp [er, ev, evOq, x_lenM, EO.get, evLenM, q, this]
theorem findV_ints (k : Int) : ∀ (ents : List (V × V × Nat)) (ks : List Int) (i : Nat), ents.map (fun e => (e.1, e.2.1)) = ks.map (fun k => (V.int .i64 k, V.bool true)) →
    (k ∈ ks ∧ ∃ j, findV .i (.int .i64 k) ents i = some (some (i + j, .bool true)) ∧ ks[j]? = some k) ∨ (k ∉ ks ∧ findV .i (.int .i64 k) ents i = some none)
  | [], [], i, _ => .inr ⟨by simp, rfl⟩
  | [], _ :: _, i, h => by cases h
  | _ :: _, [], i, h => by cases h
  | (a, b, c) :: ents, x :: ks, i, h => by
    simp only [List.map_cons, List.cons.injEq, Prod.mk.injEq] at h
    obtain ⟨⟨rfl, rfl⟩, h⟩ := h
    by_cases q : k = x
    · subst q
      exact .inl ⟨by simp, 0, by simp [findV, eqAt], rfl⟩
    · have hq : (k == x) = false := by simp [q]
      have := findV_ints k ents ks (i + 1) h
      simp only [findV, eqAt, if_true, hq]
      rcases this with ⟨m, j, e1, e2⟩ | ⟨m, e1⟩
      · exact .inl ⟨List.mem_cons_of_mem _ m, j + 1, by rw [e1]; congr 3; omega, e2⟩
      · exact .inr ⟨by simp [q, m], e1⟩
/-- A key more, if it isn't there. -/
def addKey (ks : List Int) (k : Int) : List Int := if k ∈ ks then ks else ks ++ [k]
theorem mapupd_to {h : List Ob} {v : V} {ks : List Int} {k : Int} (s : Mp h v ks) (hn : v ≠ .nilm) : To2 (ev (.mapupd .i (.c v) (.c (.int .i64 k)) (.c (.bool true))) h) fun _ h' => Mp h' v (addKey ks k) ∧ Kp h h' (idsM v) := by
  rcases s with ⟨rfl, -⟩ | ⟨id, ents, clock, rfl, q, r⟩
  · exact absurd rfl hn
  · have hid := (List.getElem?_eq_some_iff.1 q).1
    rcases findV_ints k ents ks 0 r with ⟨m, j, e1, e2⟩ | ⟨m, e1⟩
    · have e : ev (.mapupd .i (.c (.mp id)) (.c (.int .i64 k)) (.c (.bool true))) h = some (.tup [], h.set id (.map (ents.set (0 + j) (.int .i64 k, .bool true, ((ents[0 + j]?).map (·.2.2)).getD 0)) clock)) := by
        simp only [ev, evOq, x_mapupd, EO.get, evMapUpd, q, e1, Option.map_some]
      rw [e]
      refine To2.some ⟨.inr ⟨id, _, clock, rfl, List.getElem?_set_self hid, ?_⟩, by simpa [idsM] using Kp.set h id _⟩
      rw [List.map_set, r]
      unfold addKey
      rw [if_pos m]
      apply List.ext_getElem?
      intro i
      rw [List.getElem?_set]
      split
      · rename_i hi
        subst hi
        simp only [Nat.zero_add, List.length_map]
        have := (List.getElem?_eq_some_iff.1 e2).1
        rw [if_pos this]
        simp [e2]
      · rfl
    · have e : ev (.mapupd .i (.c (.mp id)) (.c (.int .i64 k)) (.c (.bool true))) h = some (.tup [], h.set id (.map (ents ++ [(.int .i64 k, .bool true, clock)]) (clock + 1))) := by
        simp only [ev, evOq, x_mapupd, EO.get, evMapUpd, q, e1, Option.map_some]
      rw [e]
      refine To2.some ⟨.inr ⟨id, _, _, rfl, List.getElem?_set_self hid, ?_⟩, by simpa [idsM] using Kp.set h id _⟩
      unfold addKey
      rw [if_neg m]
      simp [r]
theorem mkmap_to (h : List Ob) : To2 (ev .mkmap h) fun v h' => v = .mp h.length ∧ Mp h' v [] ∧ Kp h h' [] := by
  have e : ev .mkmap h = some (.mp h.length, h ++ [.map [] 0]) := rfl
  rw [e]
  exact To2.some ⟨rfl, .inr ⟨_, [], 0, rfl, by simp, rfl⟩, by simp, fun j hj _ => by rw [List.getElem?_append_left hj]⟩
theorem lookup_to {h : List Ob} {v : V} {ks : List Int} {k : Int} (s : Mp h v ks) : er (.lookup .i (.bool false) false (.c v) (.c (.int .i64 k))) h = some (.bool (decide (k ∈ ks))) := by
  rcases s with ⟨rfl, rfl⟩ | ⟨id, ents, clock, rfl, q, r⟩
  · simp [er, ev, evOq, x_lookup, EO.get, evLookup, findV, okV]
  · rcases findV_ints k ents ks 0 r with ⟨m, j, e1, e2⟩ | ⟨m, e1⟩
    · simp [er, ev, evOq, x_lookup, EO.get, evLookup, q, e1, okV, m]
    · simp [er, ev, evOq, x_lookup, EO.get, evLookup, q, e1, okV, m]
/-- Copied into a slice (all of it fits). -/
theorem copy_to {h : List Ob} {sz : Nat} {d y : V} {es fs : List V} (s : Sl sz h d es) (a : Ap d) (hy : conts h sz y = some fs) (hl : fs.length ≤ es.length) :
    To2 (ev (.copy sz (.c d) (.c y)) h) fun _ h' => Sl sz h' d (fs ++ es.drop fs.length) ∧ Kp h h' (idsOf d) := by
  have e0 : ev (.copy sz (.c d) (.c y)) h = evCopy h sz d fs := by
    simp only [ev, evOq, x_copy, EO.get, hy, Option.bind_some]
  rw [e0]
  have c := s.c
  rcases a with rfl | rfl | ⟨id, off, len, rfl⟩
  · simp [conts] at c; subst c
    have : fs = [] := List.eq_nil_of_length_eq_zero (by simpa using hl)
    subst this
    exact To2.some ⟨s, Kp.refl _ _⟩
  · simp [conts] at c; subst c
    have : fs = [] := List.eq_nil_of_length_eq_zero (by simpa using hl)
    subst this
    exact To2.some ⟨s, Kp.refl _ _⟩
  · simp only [conts] at c
    split at c
    · rename_i ds q hob
      split at c
      · rename_i hh
        obtain ⟨rfl, hin⟩ := hh
        injection c with c
        have hlen : es.length = len := by rw [← c]; simp only [List.length_take, List.length_drop]; omega
        have hid := (List.getElem?_eq_some_iff.1 hob).1
        have hm : min fs.length len = fs.length := by omega
        simp only [evCopy, hob]
        rw [if_pos ⟨trivial, hin⟩, hm]
        refine To2.some ⟨⟨?_, fun l q => by cases q⟩, by simpa [idsOf] using Kp.set h id _⟩
        simp only [conts, List.getElem?_set_self hid]
        rw [if_pos ⟨trivial, by simp only [List.length_append, List.length_take, List.length_drop]; omega⟩]
        congr 1
        rw [← c]
        apply List.ext_getElem?
        intro j
        simp only [List.getElem?_take, List.getElem?_drop, List.getElem?_append, List.length_append, List.length_take, List.length_drop]
        by_cases hj : j < len
        · rw [if_pos hj]
          by_cases hj2 : j < fs.length
          · rw [if_pos (by omega), if_neg (by omega), if_pos hj2, if_pos (by omega)]
            congr 1; omega
          · rw [if_neg (by omega), if_neg hj2, if_pos (by omega)]
            congr 1; omega
        · rw [if_neg hj]
          by_cases hj2 : j < fs.length
          · omega
          · rw [if_neg hj2, if_neg (by omega)]
      · cases c
    · cases c
end Go.Proofs.Ytbjphicipgneaaa.E

/- The layer E, part 41: copies into a part of a slice; fields of a slice's structs; arrays in a struct. No condition. -/
namespace Go.Proofs.Ytbjphicipgneaaa.E
set_option linter.unusedSimpArgs false
set_option linter.unusedVariables false

theorem copyIn {h : List Ob} {v y : V} {es fs : List V} {at_ : Nat} (s : Sl 1 h v es) (a : Ap v) (hy : conts h 1 y = some fs) (h0 : 0 < fs.length) (hl : at_ + fs.length ≤ es.length) :
    ∃ z, er (.slcL 1 (.c v) (some (.c (.int .i64 (at_ : Int)))) none none) h = some z ∧ To2 (ev (.copy 1 (.c z) (.c y)) h) fun r h' => r = .int .i64 fs.length ∧ Sl 1 h' v (es.take at_ ++ fs ++ es.drop (at_ + fs.length)) ∧ Kp h h' (idsOf v) := by
  have c := s.c
  rcases a with rfl | rfl | ⟨id, off, len, rfl⟩
  · simp [conts] at c; subst c; simp only [List.length_nil] at hl; omega
  · simp [conts] at c; subst c; simp only [List.length_nil] at hl; omega
  · simp only [conts] at c
    split at c
    · rename_i ds q hob
      split at c
      · rename_i hh
        obtain ⟨rfl, hin⟩ := hh
        injection c with c
        have hlen : es.length = len := by rw [← c]; simp only [List.length_take, List.length_drop]; omega
        have hid := (List.getElem?_eq_some_iff.1 hob).1
        have al : aliveB h id = true := by simp [aliveB, hob]
        have hb : bndV (some (V.int .i64 (at_ : Int))) 0 = some at_ := by simp only [bndV]; rw [if_pos (by omega), Int.toNat_natCast]
        have hb2 : bndV (none : Option V) len = some len := rfl
        refine ⟨.hsl id (off + at_) (len - at_), ?_, ?_⟩
        · simp only [er, ev, evOq, x_slcL, EO.get, Option.map_some, Option.map_none, evSlcL, al, if_true, hb, hb2]
          rw [if_pos (by omega), if_neg (by omega), hob]
          simp
        · have hm : min fs.length (len - at_) = fs.length := by omega
          have e0 : ev (.copy 1 (.c (.hsl id (off + at_) (len - at_))) (.c y)) h = evCopy h 1 (.hsl id (off + at_) (len - at_)) fs := by
            simp only [ev, evOq, x_copy, EO.get, hy, Option.bind_some]
          rw [e0]
          simp only [evCopy, hob]
          rw [if_pos ⟨trivial, by omega⟩, hm]
          refine To2.some ⟨rfl, ⟨?_, fun l q => by cases q⟩, by simpa [idsOf] using Kp.set h id _⟩
          simp only [conts, List.getElem?_set_self hid]
          rw [if_pos ⟨trivial, by simp only [List.length_append, List.length_take, List.length_drop]; omega⟩]
          congr 1
          rw [← c]
          apply List.ext_getElem?
          intro j
          simp only [List.getElem?_take, List.getElem?_drop, List.getElem?_append, List.length_append, List.length_take, List.length_drop]
          by_cases hj : j < len
          · rw [if_pos hj]
            by_cases h1 : j < at_
            · rw [if_pos (by omega), if_pos (by omega), if_pos (by omega), if_pos (by omega), if_pos (by omega), if_pos (by omega), if_pos (by omega)]
            · by_cases h2 : j < at_ + fs.length
              · rw [if_pos (by omega), if_neg (by omega), if_pos (by omega), if_pos (by omega), if_neg (by omega)]
                congr 1; omega
              · rw [if_neg (by omega), if_neg (by omega), if_pos (by omega)]
                congr 1; omega
          · rw [if_neg hj]
            rw [if_neg (by omega)]
            split
            · omega
            · rfl
      · cases c
    · cases c

/-- An element of a slice of structs: its fields. -/
theorem Sl.atF {n : Nat} {h : List Ob} {v : V} {es : List V} (s : Sl n h v es) {k : Int} {cs : List V} (hk : 0 ≤ k) (he : es[k.toNat]? = some (.agg cs)) (hc : cs.length = n) (h0 : 0 < n) (hs : cs.all V.scalar = true) :
    ∃ a, er (.iaddrL n (.c v) (.c (.int .i64 k))) h = some a ∧ ∀ (o : Nat) (x : V), cs[o]? = some x → ∃ b, er (.faddr o (.c a)) h = some b ∧ er (.load1 (.c b)) h = some x := by
  subst hc
  have c := s.c
  have one : ∀ (o : Nat) (x : V), cs[o]? = some x → o + 1 ≤ cs.length ∧ (List.drop o cs).take 1 = [x] := by
    intro o x ho
    have hlt := (List.getElem?_eq_some_iff.1 ho).1
    refine ⟨by omega, ?_⟩
    rw [List.drop_eq_getElem_cons hlt]
    have := (List.getElem?_eq_some_iff.1 ho).2
    simp [this]
  cases v with
  | nils => simp [conts] at c; subst c; simp at he
  | esl => simp [conts] at c; subst c; simp at he
  | sl fs =>
    simp only [conts] at c
    split at c
    · injection c with c; subst c
      refine ⟨.ref (.agg cs) 0, ?_, fun o x ho => ⟨.ref (.agg cs) o, ?_, ?_⟩⟩
      · simp [er, ev, evOq, x_iaddrL, getC, evIaddrL, hk, he, V.cells]
      · simp [er, ev, evOq, x_faddr, getC]
      · obtain ⟨o1, o2⟩ := one o x ho
        have e : rdCells h 1 (.ref (.agg cs) o) = some [x] := by
          have q : rdCells h 1 (.ref (.agg cs) o) = if o + 1 ≤ cs.length then some ((cs.drop o).take 1) else none := rfl
          rw [q, if_pos o1, o2]
        simp only [er, ev, evOq, x_load1, getC, evLoad1, e]
        rfl
    · cases c
  | hsl id off len =>
    simp only [conts] at c
    split at c
    · rename_i fs q hob
      split at c
      · rename_i hh
        obtain ⟨rfl, hin⟩ := hh
        injection c with c
        rw [← c, List.getElem?_take] at he
        split at he
        · rename_i hlt
          rw [List.getElem?_drop] at he
          refine ⟨.ptr id (off + k.toNat) 0, ?_, fun o x ho => ⟨.ptr id (off + k.toNat) o, ?_, ?_⟩⟩
          · simp only [er, ev, evOq, x_iaddrL, getC, evIaddrL, hob]
            rw [if_pos ⟨hk, by omega⟩]
            simp
          · simp [er, ev, evOq, x_faddr, getC, aliveB, hob]
          · obtain ⟨o1, o2⟩ := one o x ho
            simp only [er, ev, evOq, x_load1, getC, evLoad1, rdCells, hob, he, Option.map_some, V.cells]
            rw [if_pos o1, o2]
            rfl
        · cases he
      · cases c
    · cases c
  | str l => exact absurd rfl (s.ns l)
  | _ => simp [conts] at c
/-- An array that is a part of a struct. -/
theorem St.iaddrA {h : List Ob} {id : Nat} {cs : List V} (s : St h id cs) {n sz : Nat} {k : Nat} (hk : k < n) (hz : cs.length ≠ sz) (j : Nat) : er (.iaddrA n sz (.c (.ptr id 0 j)) (.c (.int .i64 (k : Int)))) h = some (.ptr id 0 (j + k * sz)) := by
  unfold St at s
  simp only [er, ev, evOq, x_iaddrA, getC, evIaddrA, s]
  rw [if_pos ⟨by omega, by omega⟩, if_neg (fun q => hz q.1)]
  simp
end Go.Proofs.Ytbjphicipgneaaa.E

/- The layer E, part 42: an element of a slice put anew; a variable that was captured. No condition. -/
namespace Go.Proofs.Ytbjphicipgneaaa.E
set_option linter.unusedSimpArgs false
set_option linter.unusedVariables false

/-- An element put anew. -/
theorem Sl.storeAt {h : List Ob} {v : V} {es : List V} (s : Sl 1 h v es) (a : Ap v) {k : Int} {x e : V} (hk : 0 ≤ k) (he : es[k.toNat]? = some e) (hne : ∀ ds, e ≠ .agg ds) (hc : x.cells = [x] ∧ x.scalar = true) :
    ∃ p, er (.iaddrL 1 (.c v) (.c (.int .i64 k))) h = some p ∧ To2 (ev (.store 1 (.c p) (.c x)) h) fun _ h' => Sl 1 h' v (es.set k.toNat x) ∧ Kp h h' (idsOf v) := by
  have hlt := (List.getElem?_eq_some_iff.1 he).1
  rcases a with rfl | rfl | ⟨id, off, len, rfl⟩
  · have c := s.c; simp [conts] at c; subst c; simp at hlt
  · have c := s.c; simp [conts] at c; subst c; simp at hlt
  · have c := s.c
    simp only [conts] at c
    split at c
    · rename_i ds q hob
      split at c
      · rename_i hh
        obtain ⟨rfl, hin⟩ := hh
        injection c with c
        have hlen : es.length = len := by rw [← c]; simp only [List.length_take, List.length_drop]; omega
        have hid := (List.getElem?_eq_some_iff.1 hob).1
        refine ⟨.ptr id (off + k.toNat) 0, ?_, ?_⟩
        · simp only [er, ev, evOq, x_iaddrL, EO.get, evIaddrL, hob]
          rw [if_pos (by omega)]
          simp
        · have hds : ds[off + k.toNat]? = some e := by
            rw [← c, List.getElem?_take, List.getElem?_drop] at he
            rw [if_pos (by omega)] at he
            exact he
          have hp : putCells e 0 [x] = x := by
            unfold putCells
            split
            · exact absurd rfl (hne _)
            · rfl
          have ew : wrCells h (.ptr id (off + k.toNat) 0) [x] = some (h.set id (.row (ds.set (off + k.toNat) x) 1)) := by
            simp only [wrCells, hob, List.length_cons, List.length_nil]
            rw [if_pos (by omega), hds, Option.map_some, hp]
          have es' : evStore h 1 (.ptr id (off + k.toNat) 0) x = some (h.set id (.row (ds.set (off + k.toNat) x) 1)) := by
            unfold evStore
            split
            · simp [V.scalar] at hc
            · simp [V.scalar] at hc
            · rw [hc.1, if_pos (by simp [hc.2]), ew]
          have e0 : ev (.store 1 (.c (.ptr id (off + k.toNat) 0)) (.c x)) h = some (.tup [], h.set id (.row (ds.set (off + k.toNat) x) 1)) := by
            simp only [ev, evOq, x_store, getC, es', Option.map_some]
          rw [e0]
          refine To2.some ⟨⟨?_, fun l q => by cases q⟩, by simpa [idsOf] using Kp.set h id _⟩
          simp only [conts, List.getElem?_set_self hid, List.length_set]
          rw [if_pos ⟨trivial, hin⟩]
          congr 1
          rw [← c]
          apply List.ext_getElem?
          intro j
          simp only [List.getElem?_take, List.getElem?_drop, List.getElem?_set, List.length_take, List.length_drop]
          by_cases hj : j < len
          · rw [if_pos hj]
            by_cases h1 : k.toNat = j
            · rw [if_pos (by omega), if_pos (by omega), if_pos h1, if_pos (by omega)]
            · rw [if_neg (by omega), if_neg h1, if_pos hj]
          · rw [if_neg hj]
            rw [if_neg (by omega)]
            rw [if_neg hj]
      · cases c
    · cases c

/-- A variable of its own. -/
def Sc (h : List Ob) (id : Nat) (v : V) : Prop := h[id]? = some (.row [v] 1)
theorem Sc.lt {h : List Ob} {id : Nat} {v : V} (s : Sc h id v) : id < h.length := (List.getElem?_eq_some_iff.1 s).1
theorem Sc.keep {h h' : List Ob} {id : Nat} {v : V} {A : List Nat} (s : Sc h id v) (k : Kp h h' A) (hn : id ∉ A) : Sc h' id v := by
  show h'[id]? = _
  rw [k.same id s.lt hn]; exact s
theorem Sc.kp {h h' : List Ob} {id : Nat} {v : V} (s : Sc h id v) (k : Kp h h' []) : Sc h' id v := s.keep k (fun q => by cases q)
theorem Sc.load1 {h : List Ob} {id : Nat} {v : V} (s : Sc h id v) (hc : v.cells = [v]) : er (.load1 (.c (.ptr id 0 0))) h = some v := by
  unfold Sc at s
  simp only [er, ev, evOq, x_load1, getC, evLoad1, rdCells, s, List.getElem?_cons_zero, Option.map_some, hc]
  rw [if_pos (by omega)]
  rfl
theorem Sc.store1 {h : List Ob} {id : Nat} {v x : V} (s : Sc h id v) (hne : ∀ ds, v ≠ .agg ds) (hc : x.cells = [x] ∧ x.scalar = true) : To2 (ev (.store 1 (.c (.ptr id 0 0)) (.c x)) h) fun _ h' => Sc h' id x ∧ Kp h h' [id] := by
  have hp : putCells v 0 [x] = x := by
    unfold putCells
    split
    · exact absurd rfl (hne _)
    · rfl
  have hlt := s.lt
  have s' := s
  unfold Sc at s'
  have ew : wrCells h (.ptr id 0 0) [x] = some (h.set id (.row [x] 1)) := by
    simp only [wrCells, s', List.length_cons, List.length_nil]
    rw [if_pos (by omega)]
    simp only [List.getElem?_cons_zero, Option.map_some, hp, List.set_cons_zero]
  have es' : evStore h 1 (.ptr id 0 0) x = some (h.set id (.row [x] 1)) := by
    unfold evStore
    split
    · simp [V.scalar] at hc
    · simp [V.scalar] at hc
    · rw [hc.1, if_pos (by simp [hc.2]), ew]
  have e0 : ev (.store 1 (.c (.ptr id 0 0)) (.c x)) h = some (.tup [], h.set id (.row [x] 1)) := by
    simp only [ev, evOq, x_store, getC, es', Option.map_some]
  rw [e0]
  exact To2.some ⟨by unfold Sc; exact List.getElem?_set_self hlt, Kp.set _ _ _⟩
theorem boxOf_sc {v : V} (hs : v.scalar = true) : boxOf false v = some ([v], 1) := by
  cases v <;> first | rfl | (simp [V.scalar] at hs)
theorem scbox_to {h : List Ob} {v : V} (hs : v.scalar = true) : To2 (ev (.box false (.c v)) h) fun p h' => p = .ptr h.length 0 0 ∧ Sc h' h.length v ∧ Kp h h' [] := by
  have e : ev (.box false (.c v)) h = some (.ptr h.length 0 0, h ++ [.row [v] 1]) := by
    simp only [ev, evOq, x_box, getC, evBox, boxOf_sc hs, Option.map_some]
  rw [e]
  exact To2.some ⟨rfl, by simp [Sc], by simp, fun j hj _ => by rw [List.getElem?_append_left hj]⟩
theorem scalloc_to {h : List Ob} {v : V} (hs : v.scalar = true) : To2 (ev (.alloc false v) h) fun p h' => p = .ptr h.length 0 0 ∧ Sc h' h.length v ∧ Kp h h' [] := by
  have e : ev (.alloc false v) h = some (.ptr h.length 0 0, h ++ [.row [v] 1]) := by
    simp only [ev, evOq, x_alloc, evBox, boxOf_sc hs, Option.map_some]
  rw [e]
  exact To2.some ⟨rfl, by simp [Sc], by simp, fun j hj _ => by rw [List.getElem?_append_left hj]⟩
end Go.Proofs.Ytbjphicipgneaaa.E

/- The layer E, part 43: strings: their bytes, parts, characters one by one. No condition. -/
namespace Go.Proofs.Ytbjphicipgneaaa.E
set_option linter.unusedSimpArgs false
set_option linter.unusedVariables false

/-- The character at the beginning of bytes, and how many it has. -/
def dc (t : List UInt8) : Nat × Nat := Utf8.decode ⟨t.toArray⟩ 0
def byteAt (t : List UInt8) (k : Nat) : Nat := (t[k]?.getD 0).toNat
theorem get_byteAt (t : List UInt8) (k : Nat) : ((⟨t.toArray⟩ : ByteArray).get! k).toNat = byteAt t k := by
  unfold byteAt
  show ((t.toArray)[k]!).toNat = _
  rw [getElem!_def]
  by_cases h : k < t.length
  · simp [h]
  · simp [h]; rfl
theorem dec_eq (t : List UInt8) (i : Nat) : Utf8.decode ⟨t.toArray⟩ i =
    (let at' (k : Nat) : Nat := byteAt t (i + k)
     let cont (k : Nat) : Bool := i + k < t.length && at' k / 64 == 2
     let b0 := at' 0
     if b0 < 0x80 then (b0, 1)
     else if b0 / 32 == 6 && cont 1 then
       let c := (b0 % 32) * 64 + at' 1 % 64
       if c ≥ 0x80 then (c, 2) else (Utf8.runeError, 1)
     else if b0 / 16 == 14 && cont 1 && cont 2 then
       let c := (b0 % 16) * 4096 + (at' 1 % 64) * 64 + at' 2 % 64
       if c ≥ 0x800 && Utf8.valid c then (c, 3) else (Utf8.runeError, 1)
     else if b0 / 8 == 30 && cont 1 && cont 2 && cont 3 then
       let c := (b0 % 8) * 262144 + (at' 1 % 64) * 4096 + (at' 2 % 64) * 64 + at' 3 % 64
       if c ≥ 0x10000 && Utf8.valid c then (c, 4) else (Utf8.runeError, 1)
     else (Utf8.runeError, 1)) := by
  unfold Utf8.decode
  simp only [get_byteAt]
  rfl
theorem byteAt_drop (t : List UInt8) (i k : Nat) : byteAt (t.drop i) k = byteAt t (i + k) := by
  unfold byteAt; rw [List.getElem?_drop]
theorem dec_drop (t : List UInt8) (i : Nat) : Utf8.decode ⟨t.toArray⟩ i = dc (t.drop i) := by
  unfold dc
  have c : ∀ k, decide (0 + k < (t.drop i).length) = decide (i + k < t.length) := fun k => by
    rw [List.length_drop]; exact decide_eq_decide.2 (by omega)
  rw [dec_eq, dec_eq]
  simp only [byteAt_drop, Nat.zero_add, Nat.add_zero] at c ⊢
  simp only [c]
theorem dc_width (t : List UInt8) (h : t ≠ []) : 1 ≤ (dc t).2 ∧ (dc t).2 ≤ t.length := by
  have hl : 0 < t.length := List.length_pos_iff.2 h
  unfold dc
  rw [dec_eq]
  simp only [Nat.zero_add]
  split
  · exact ⟨Nat.le_refl _, hl⟩
  · split
    · rename_i q
      simp only [Bool.and_eq_true, decide_eq_true_eq] at q
      split
      · exact ⟨by simp only; omega, by simp only; omega⟩
      · exact ⟨Nat.le_refl _, hl⟩
    · split
      · rename_i q
        simp only [Bool.and_eq_true, decide_eq_true_eq] at q
        split
        · exact ⟨by simp only; omega, by simp only; omega⟩
        · exact ⟨Nat.le_refl _, hl⟩
      · split
        · rename_i q
          simp only [Bool.and_eq_true, decide_eq_true_eq] at q
          split
          · exact ⟨by simp only; omega, by simp only; omega⟩
          · exact ⟨Nat.le_refl _, hl⟩
        · exact ⟨Nat.le_refl _, hl⟩
theorem dc_ascii {b : UInt8} {t : List UInt8} (h : b.toNat < 128) : dc (b :: t) = (b.toNat, 1) := by
  unfold dc
  rw [dec_eq]
  simp only [Nat.zero_add, byteAt, List.getElem?_cons_zero, Option.getD_some]
  rw [if_pos h]

/-- How far a string has been gone along. -/
def Si (h : List Ob) (id : Nat) (s : List UInt8) (pos : Nat) : Prop := h[id]? = some (.siter s pos)
theorem Si.lt {h : List Ob} {id : Nat} {s : List UInt8} {pos : Nat} (q : Si h id s pos) : id < h.length := (List.getElem?_eq_some_iff.1 q).1
theorem Si.keep {h h' : List Ob} {id : Nat} {s : List UInt8} {pos : Nat} {A : List Nat} (q : Si h id s pos) (k : Kp h h' A) (hn : id ∉ A) : Si h' id s pos := by
  show h'[id]? = _
  rw [k.same id q.lt hn]; exact q
theorem rangeS_to (h : List Ob) (s : List UInt8) : To2 (ev (.rangeS (.c (.str s))) h) fun v h' => v = .ptr h.length 0 0 ∧ Si h' h.length s 0 ∧ Kp h h' [] := by
  have e : ev (.rangeS (.c (.str s))) h = some (.ptr h.length 0 0, h ++ [.siter s 0]) := rfl
  rw [e]
  exact To2.some ⟨rfl, by simp [Si], by simp, fun j hj _ => by rw [List.getElem?_append_left hj]⟩
theorem nextS_to {h : List Ob} {id : Nat} {s : List UInt8} {pos : Nat} (q : Si h id s pos) (hp : pos < s.length) : To2 (ev (.nextS (.c (.ptr id 0 0))) h) fun v h' => v = .tup [.bool true, .int .i64 (pos : Int), .int .i32 ((dc (s.drop pos)).1 : Int)] ∧ Si h' id s (pos + (dc (s.drop pos)).2) ∧ Kp h h' [id] := by
  have hid := q.lt
  unfold Si at q
  have e : ev (.nextS (.c (.ptr id 0 0))) h = some (.tup [.bool true, .int .i64 (pos : Int), .int .i32 ((dc (s.drop pos)).1 : Int)], h.set id (.siter s (pos + (dc (s.drop pos)).2))) := by
    simp only [ev, evOq, x_nextS, getC, evNextS, q, if_pos hp, dec_drop]
  rw [e]
  exact To2.some ⟨rfl, List.getElem?_set_self hid, Kp.set _ _ _⟩
theorem nextS_end {h : List Ob} {id : Nat} {s : List UInt8} {pos : Nat} (q : Si h id s pos) (hp : s.length ≤ pos) : ev (.nextS (.c (.ptr id 0 0))) h = some (.tup [.bool false], h) := by
  unfold Si at q
  simp only [ev, evOq, x_nextS, getC, evNextS, q]
  rw [if_neg (by omega)]
theorem er_ext {h : List Ob} {k : Nat} {vs : List V} {v : V} (hv : vs[k]? = some v) : er (.ext k (.c (.tup vs))) h = some v := by
  simp [er, ev, evOq, x_ext, getC, evExt, hv]
theorem er_idxS {h : List Ob} {s : List UInt8} {k : Nat} {b : UInt8} (hb : s[k]? = some b) : er (.idxS (.c (.str s)) (.c (.int .i64 (k : Int)))) h = some (.int .u8 b.toNat) := by
  simp [er, ev, evOq, x_idxS, getC, evIdxS, hb]
theorem er_slcS {h : List Ob} {s : List UInt8} {a b : Nat} (h1 : a ≤ b) (h2 : b ≤ s.length) : er (.slcS (.c (.str s)) (some (.c (.int .i64 (a : Int)))) (some (.c (.int .i64 (b : Int))))) h = some (.str ((s.drop a).take (b - a))) := by
  have e : ∀ n : Nat, ∀ d, bndV (some (V.int .i64 (n : Int))) d = some n := fun n d => by simp only [bndV]; rw [if_pos (by omega), Int.toNat_natCast]
  simp only [er, ev, evOq, x_slcS, getC, evSlcS, Option.map_some, e]
  rw [if_pos ⟨h1, h2⟩]
  rfl
theorem er_slcS_from {h : List Ob} {s : List UInt8} {a : Nat} (h1 : a ≤ s.length) : er (.slcS (.c (.str s)) (some (.c (.int .i64 (a : Int)))) none) h = some (.str (s.drop a)) := by
  have e : ∀ n : Nat, ∀ d, bndV (some (V.int .i64 (n : Int))) d = some n := fun n d => by simp only [bndV]; rw [if_pos (by omega), Int.toNat_natCast]
  have e2 : ∀ d, bndV none d = some d := fun d => rfl
  simp only [er, ev, evOq, x_slcS, getC, evSlcS, Option.map_some, Option.map_none, e, e2]
  rw [if_pos ⟨h1, Nat.le_refl _⟩, List.take_of_length_le (by simp)]
  rfl
theorem er_slcS_to {h : List Ob} {s : List UInt8} {b : Nat} (h2 : b ≤ s.length) : er (.slcS (.c (.str s)) none (some (.c (.int .i64 (b : Int))))) h = some (.str (s.take b)) := by
  have e : ∀ n : Nat, ∀ d, bndV (some (V.int .i64 (n : Int))) d = some n := fun n d => by simp only [bndV]; rw [if_pos (by omega), Int.toNat_natCast]
  have e2 : ∀ d, bndV none d = some d := fun d => rfl
  simp only [er, ev, evOq, x_slcS, getC, evSlcS, Option.map_some, Option.map_none, e, e2]
  rw [if_pos ⟨Nat.zero_le _, h2⟩]
  simp
end Go.Proofs.Ytbjphicipgneaaa.E

/- The layer E, part 44: how much a claim's data weigh. No condition. -/
namespace Go.Proofs.Ytbjphicipgneaaa.E
set_option linter.unusedSimpArgs false
set_option linter.unusedVariables false
variable {H : Type}
theorem wt_param {P : Program} {ts : List TypeId} {ds : List (DataW H)} (hsz : (DataW.weightsEach P ts ds).all (· ≤ reachBytes) = true) {j : Nat} {t : TypeId} {d : DataW H} (ht : ts[j]? = some t) (hd : ds[j]? = some d) : ∀ n ∈ d.weights P t, n ≤ reachBytes := fun n hn => by
  have := List.all_eq_true.1 hsz n (DataW.weights_mem_each ht hd n hn)
  simpa using this
theorem str_sized {P : Program} {t : TypeId} {d : DataW H} {s : List UInt8} (hu : P.underlying t = some .string) (h : dV P d t = some [.str s]) (hw : ∀ n ∈ d.weights P t, n ≤ reachBytes) : s.length ≤ 140737488351232 := by
  cases d <;> simp [dV, hu] at h
  rename_i l
  cases l <;> simp at h
  rename_i b
  obtain ⟨-, rfl⟩ := h
  have := hw b.length (by simp [DataW.weights])
  have hr : reachBytes = 140737488351232 := by decide
  omega
theorem dV_i32 {P : Program} {d : DataW H} {t : TypeId} {vs : List V} (hu : P.underlying t = some (.int .i32)) (h : dV P d t = some vs) : ∃ n, vs = [.int .i32 n] ∧ -2147483648 ≤ n ∧ n < 2147483648 := by
  obtain ⟨n, rfl, l1, l2⟩ := dV_int' hu h
  refine ⟨n, rfl, ?_⟩
  exact ⟨l1, Int.lt_of_le_of_lt l2 (by decide)⟩
end Go.Proofs.Ytbjphicipgneaaa.E
