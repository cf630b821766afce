/- Nodes: the reader. No condition. -/
import Derived.Test.YtdcdmpgigmhhpaaNdS
import Derived.Test.YtdcdmpgigmhhpaaRcP
namespace Go.Proofs.Ytdcdmpgigmhhpaa.Nd
open Go Go.Proofs.Ytdcdmpgigmhhpaa.E
open Go.Proofs.Ytdcdmpgigmhhpaa.Va Go.Proofs.Ytdcdmpgigmhhpaa.Rc
set_option maxRecDepth 100000
set_option linter.unusedVariables false
set_option linter.unusedSimpArgs false

def Rd (h0 h : List Ob) (id : Nat) (ms : List Int) (bad : Bool) : Prop := h0.length ≤ id ∧ ∃ v, St h id [v, .bool bad] ∧ Sl 1 h v (bv ms) ∧ ∀ j, j ∈ idsOf v → j < h0.length
theorem Rd.keep {h0 h h' : List Ob} {id : Nat} {ms : List Int} {bad : Bool} {A : List Nat} (r : Rd h0 h id ms bad) (k : Kp h h' A) (hn : id ∉ A) (ha : ∀ j, j ∈ A → h0.length ≤ j) : Rd h0 h' id ms bad := by
  obtain ⟨l, v, st, s, i⟩ := r
  exact ⟨l, v, st.keep k hn, s.keep k (fun j hj q => by have := i j hj; have := ha j q; omega), i⟩
theorem Rd.kp {h0 h h' : List Ob} {id : Nat} {ms : List Int} {bad : Bool} (r : Rd h0 h id ms bad) (k : Kp h h' []) : Rd h0 h' id ms bad := r.keep k (fun q => by cases q) (fun j hj => by cases hj)
theorem Rd.lt {h0 h : List Ob} {id : Nat} {ms : List Int} {bad : Bool} (r : Rd h0 h id ms bad) : id < h.length := by
  obtain ⟨_, v, st, _⟩ := r; exact st.lt

theorem takeF_form : ∀ (ms : List Int) (i : Nat) (n : Int), (takeF ms i n).2.2 = 0 ∨ takeF ms i n = (0, 0, 2)
  | [], i, n => .inr rfl
  | m :: ms, i, n => by
    rw [takeF_cons]
    split
    · exact .inr rfl
    · split
      · exact .inl rfl
      · exact takeF_form ms _ _

/-- A number is read. -/
theorem num69 {lf : Nat} {h0 h : List Ob} {id : Nat} {ms : List Int} {bad : Bool} (r : Rd h0 h id ms bad) (hb : Byt ms) (hl : ms.length ≤ 9223372036854775807) (hf : ms.length < lf) {bound : Int} (b0 : 0 ≤ bound) (b1 : bound ≤ 9223372036854775807) :
    To2 (F69 lf (.ptr id 0 0) bound h) fun v h' => Kp h h' [id] ∧ ((bad = false ∧ ∃ n c, numP bound ms = some (n, c) ∧ v = .int .i64 n ∧ Rd h0 h' id c false) ∨ ((bad = true ∨ numP bound ms = none) ∧ v = .int .i64 0 ∧ Rd h0 h' id ms true)) := by
  obtain ⟨lid, v, st, sh, iv⟩ := r
  have nk := st.nilck 0 0
  have f0 := st.faddr 0 0 0
  have f1 := st.faddr 1 0 0
  have l0 : er (.load1 (.c (.ptr id 0 0))) h = some v := st.load1 rfl
  have l1 : er (.load1 (.c (.ptr id 0 1))) h = some (.bool bad) := st.load1 rfl
  simp only [Nat.zero_add] at f0 f1
  obtain ⟨n0, n1⟩ := takeF_range ms 0 0 hb (by decide) (by decide)
  have ew : IntKind.u64.wrap bound = bound := by rw [wrap_u64]; omega
  simp only [F69, nk, f0, l0, bind1_some]
  rw [take15 sh hb hl hf]
  simp only [bind2_some, tk, castTup_tup, castCons_cons, castInt_int, castNil_nil]
  have hS : ∃ q : Bool, S69_0 lf (.ptr id 0 0) bound (takeF ms 0 0).1 (takeF ms 0 0).2.2 h = some (.normal, [.bool q], h) ∧ (q = true ↔ (bad = true ∨ (takeF ms 0 0).2.2 ≠ 0 ∨ (takeF ms 0 0).1 > bound)) := by
    simp only [S69_0, nk, f1, l1, bind1_some, castBool_bool, ew]
    cases bad with
    | true => exact ⟨true, rfl, by simp⟩
    | false =>
      simp only [cB_false]
      by_cases c : (takeF ms 0 0).2.2 = 0
      · have d : ((takeF ms 0 0).2.2 != 0) = false := by simp [c]
        simp only [d, cB_false]
        exact ⟨_, rfl, by simp [c]⟩
      · have d : ((takeF ms 0 0).2.2 != 0) = true := by simp [c]
        simp only [d, cB_true]
        exact ⟨true, rfl, by simp [c]⟩
  obtain ⟨q, eS, hq⟩ := hS
  simp only [eS, bind3_some, decide_true, cB_true, castCons_cons, castBool_bool, castNil_nil]
  cases q with
  | true =>
    have hq := hq.1 rfl
    simp only [cB_true, nk, f1, bind1_some]
    refine To2.bind2 (st.store1 (j := 1) (x := .bool true) (by simp) ⟨rfl, rfl⟩) ?_
    rintro u h1 ⟨st1, k1⟩
    refine To2.some ⟨k1, .inr ⟨?_, rfl, lid, v, st1, sh.keep k1 (fun j hj z => by have := iv j hj; simp at z; omega), iv⟩⟩
    rcases hq with q | q
    · exact .inl q
    · refine .inr ?_
      unfold numP; rw [if_neg (by omega)]
  | false =>
    have hn : ¬ (bad = true ∨ (takeF ms 0 0).2.2 ≠ 0 ∨ (takeF ms 0 0).1 > bound) := fun z => by have := hq.2 z; cases this
    have e0 : (takeF ms 0 0).2.2 = 0 := by
      by_cases c : (takeF ms 0 0).2.2 = 0
      · exact c
      · exact absurd (.inr (.inl c)) hn
    have e1 : (takeF ms 0 0).1 ≤ bound := by
      by_cases c : (takeF ms 0 0).1 > bound
      · exact absurd (.inr (.inr c)) hn
      · omega
    have e2 : bad = false := by
      cases bad with
      | true => exact absurd (.inl rfl) hn
      | false => rfl
    subst e2
    have he := takeF_e ms 0 0 e0
    simp only [cB_false, nk, f0, l0, bind1_some]
    obtain ⟨y, ey, sy, iy⟩ := slc_to (lo := some (.c (.int .i64 (takeF ms 0 0).2.1))) (hi := none) (a := (takeF ms 0 0).2.1.toNat) (b := ms.length) sh bv_cells (by simp only [Option.map_some, getC, bndV]; rw [if_pos (by omega)]) (by simp [bndV]) (by omega) (by simp)
    rw [bv_drop] at sy
    have hy : (bv (ms.drop (takeF ms 0 0).2.1.toNat)).take (ms.length - (takeF ms 0 0).2.1.toNat) = bv (ms.drop (takeF ms 0 0).2.1.toNat) := List.take_of_length_le (by simp)
    rw [hy] at sy
    simp only [ey, bind1_some, nk, f0]
    refine To2.bind2 (st.store1 (j := 0) (x := y) (by simp) sy.sc) ?_
    rintro u h1 ⟨st1, k1⟩
    have ewn : IntKind.i64.wrap (takeF ms 0 0).1 = (takeF ms 0 0).1 := wrap_i64 (by omega) (by omega)
    refine To2.some ⟨k1, .inl ⟨trivial, (takeF ms 0 0).1, ms.drop (takeF ms 0 0).2.1.toNat, ?_, by rw [ewn], lid, y, st1, sy.keep k1 (fun j hj z => by have := iv j (iy j hj); simp at z; omega), fun j hj => iv j (iy j hj)⟩⟩
    unfold numP; rw [if_pos ⟨e0, e1⟩]

theorem clone78 {lf : Nat} {h : List Ob} {v : V} {ms : List Int} (s : Sl 1 h v (bv ms)) (hl : ms.length ≤ 140737488355328) : To2 (F78 lf v h) (New h (bv ms)) := by
  have hr : roomMax = 140737488355328 := rfl
  have e : ∃ b : Bool, er (.eq false .slice (.c v) (.c V.nils)) h = some (.bool b) ∧ (b = true → ms = []) := by
    have c := s.c
    cases v with
    | nils => exact ⟨true, rfl, fun _ => by simp only [conts] at c; injection c with c; have := congrArg List.length c; simp only [List.length_nil, bv_length] at this; exact List.eq_nil_of_length_eq_zero this.symm⟩
    | esl => exact ⟨false, rfl, fun q => by cases q⟩
    | sl es => exact ⟨false, rfl, fun q => by cases q⟩
    | hsl id off len =>
      have hlt := s.lt (id := id) (by simp [idsOf])
      have ha : aliveB h id = true := by
        simp only [conts] at c
        unfold aliveB
        split at c
        · rename_i e; rw [e]
        · cases c
      refine ⟨false, ?_, fun q => by cases q⟩
      simp [er, ev, evOq, x_eq, getC, evEq, isNil, ha]
    | str l => exact absurd rfl (s.ns l)
    | _ => simp [conts] at c
  obtain ⟨b, e, hb⟩ := e
  simp only [F78, e, bind1_some, castBool_bool]
  cases b with
  | true =>
    simp only [cB_true]
    rw [hb rfl]
    exact To2.some (NewNil h (Kp.refl _ _))
  | false =>
    simp only [cB_false]
    refine To2.bind2 (bslice_to (ps := []) (es := bv []) (by decide) rfl rfl rfl) ?_
    rintro x h1 ⟨-, -, sx, ax, k1, f1⟩
    refine To2.bind2 (app_to sx ax (s.kp k1).c (by simp; omega)) ?_
    intro y h2 q
    have n : New h _ y h2 := New.beh ⟨sx, ax, k1, f1⟩ q
    have e2 : bv [] ++ bv ms = bv ms := by simp [bv]
    rw [e2] at n
    exact To2.some n

/-- A piece is read. -/
theorem piece70 {lf : Nat} {h0 h : List Ob} {id : Nat} {ms : List Int} {bad : Bool} (r : Rd h0 h id ms bad) (hb : Byt ms) (hl : ms.length ≤ 140737488355328) (hf : ms.length < lf) :
    To2 (F70 lf (.ptr id 0 0) h) fun v h' => Kp h h' [id] ∧ (∀ j, j ∈ idsOf v → h.length ≤ j) ∧ ((bad = false ∧ ∃ p c, pieceP ms = some (p, c) ∧ Sl 1 h' v (bv p) ∧ Rd h0 h' id c false) ∨ ((bad = true ∨ pieceP ms = none) ∧ v = .nils ∧ ∃ ms', Byt ms' ∧ ms'.length ≤ ms.length ∧ Rd h0 h' id ms' true)) := by
  have r' := r
  obtain ⟨lid, v, st, sh, iv⟩ := r'
  have nk := st.nilck 0 0
  have f0 := st.faddr 0 0 0
  have l0 : er (.load1 (.c (.ptr id 0 0))) h = some v := st.load1 rfl
  simp only [Nat.zero_add] at f0
  simp only [F70, nk, f0, l0, er_lenL sh, bv_length, bind1_some, castInt_int]
  refine To2.bind2 (num69 r hb (by omega) hf (by omega) (by omega)) ?_
  have two : ∀ {a b : List Ob}, Kp h a [id] → Kp a b [id] → Kp h b [id] := fun x y => x.trans y (fun j hj _ => hj) (fun j hj _ => hj)
  rintro u h1 ⟨k1, ⟨hbad, n, c, hn, rfl, rc⟩ | ⟨hbad, rfl, rb⟩⟩
  · subst hbad
    obtain ⟨g1, g2, g3, g4, g5, g6, g7⟩ := numP_back hb hn
    have hc : c.length ≤ ms.length := by rw [g7]; simp
    have hbc : Byt c := by rw [g7]; exact Byt.drop hb _
    have rc' := rc
    obtain ⟨_, v1, st1, s1, i1⟩ := rc'
    have nk1 := st1.nilck 0 0
    have e0 := st1.faddr 0 0 0
    have e1 := st1.faddr 1 0 0
    have p0 : er (.load1 (.c (.ptr id 0 0))) h1 = some v1 := st1.load1 rfl
    have p1 : er (.load1 (.c (.ptr id 0 1))) h1 = some (.bool false) := st1.load1 rfl
    simp only [Nat.zero_add] at e0 e1
    have hS : S70_0 lf (.ptr id 0 0) n h1 = some (.normal, [.bool (decide (n > (c.length : Int)))], h1) := by
      simp only [S70_0, nk1, e0, e1, p0, p1, er_lenL s1, bv_length, bind1_some, castBool_bool, castInt_int, cB_false]
    simp only [castInt_int, hS, bind3_some, decide_true, cB_true, castCons_cons, castBool_bool, castNil_nil]
    by_cases q : n > (c.length : Int)
    · simp only [decide_eq_true q, cB_true, nk1, e1, bind1_some]
      refine To2.bind2 (st1.store1 (j := 1) (x := .bool true) (by simp) ⟨rfl, rfl⟩) ?_
      rintro u h2 ⟨st2, k2⟩
      refine To2.some ⟨two k1 k2, (fun j hj => by cases hj), .inr ⟨.inr ?_, rfl, c, hbc, hc, lid, v1, st2, s1.keep k2 (fun j hj z => by have := i1 j hj; simp at z; omega), i1⟩⟩
      unfold pieceP; rw [hn]; simp only; rw [if_pos q]
    · obtain ⟨y, ey, sy, iy⟩ := slc_to (lo := none) (hi := some (.c (.int .i64 n))) (a := 0) (b := n.toNat) s1 bv_cells rfl (by simp only [Option.map_some, getC, bndV]; rw [if_pos g2]) (by omega) (by rw [bv_length]; omega)
      rw [List.drop_zero, Nat.sub_zero, bv_take] at sy
      simp only [decide_eq_false q, cB_false, nk1, e0, p0, bind1_some, ey]
      refine To2.bind2 (clone78 sy (by simp; omega)) ?_
      intro w h2 nw
      have st2 := st1.kp nw.2.2.1
      have s2 := s1.kp nw.2.2.1
      have nk2 := st2.nilck 0 0
      have e0' := st2.faddr 0 0 0
      have p0' : er (.load1 (.c (.ptr id 0 0))) h2 = some v1 := st2.load1 rfl
      simp only [Nat.zero_add] at e0'
      obtain ⟨y2, ey2, sy2, iy2⟩ := slc_to (lo := some (.c (.int .i64 n))) (hi := none) (a := n.toNat) (b := c.length) s2 bv_cells (by simp only [Option.map_some, getC, bndV]; rw [if_pos g2]) (by simp [bndV]) (by omega) (by simp)
      rw [bv_drop] at sy2
      have hy : (bv (c.drop n.toNat)).take (c.length - n.toNat) = bv (c.drop n.toNat) := List.take_of_length_le (by simp)
      rw [hy] at sy2
      simp only [nk2, e0', p0', bind1_some, ey2]
      refine To2.bind2 (st2.store1 (j := 0) (x := y2) (by simp) sy2.sc) ?_
      rintro u h3 ⟨st3, k3⟩
      have hfr : ∀ j, j ∈ idsOf w → h1.length ≤ j := nw.2.2.2
      refine To2.some ⟨two k1 (nw.2.2.1.trans k3 (fun j hj => by cases hj) (fun j hj _ => hj)), (fun j hj => Nat.le_trans k1.len (hfr j hj)), .inl ⟨trivial, c.take n.toNat, c.drop n.toNat, ?_, nw.1.keep k3 (fun j hj z => by have := hfr j hj; have := rc.lt; simp at z; omega), lid, y2, st3, sy2.keep k3 (fun j hj z => by have := i1 j (iy2 j hj); simp at z; omega), fun j hj => i1 j (iy2 j hj)⟩⟩
      unfold pieceP; rw [hn]; simp only; rw [if_neg q]
  · have rb' := rb
    obtain ⟨_, v1, st1, s1, i1⟩ := rb'
    have nk1 := st1.nilck 0 0
    have e1 := st1.faddr 1 0 0
    have p1 : er (.load1 (.c (.ptr id 0 1))) h1 = some (.bool true) := st1.load1 rfl
    simp only [Nat.zero_add] at e1
    have hS : S70_0 lf (.ptr id 0 0) 0 h1 = some (.normal, [.bool true], h1) := by
      simp only [S70_0, nk1, e1, p1, bind1_some, castBool_bool, cB_true]
    simp only [castInt_int, hS, bind3_some, decide_true, cB_true, castCons_cons, castBool_bool, castNil_nil, nk1, e1, bind1_some]
    refine To2.bind2 (st1.store1 (j := 1) (x := .bool true) (by simp) ⟨rfl, rfl⟩) ?_
    rintro u h2 ⟨st2, k2⟩
    refine To2.some ⟨two k1 k2, (fun j hj => by cases hj), .inr ⟨?_, rfl, ms, hb, Nat.le_refl _, lid, v1, st2, s1.keep k2 (fun j hj z => by have := i1 j hj; simp at z; omega), i1⟩⟩
    rcases hbad with z | z
    · exact .inl z
    · refine .inr ?_
      unfold pieceP; rw [z]
end Go.Proofs.Ytdcdmpgigmhhpaa.Nd
