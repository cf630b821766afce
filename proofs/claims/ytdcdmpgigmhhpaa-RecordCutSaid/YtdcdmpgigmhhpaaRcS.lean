/- Rows in bytes: what reading comes to. No condition. -/
import Derived.Test.YtdcdmpgigmhhpaaRcR
namespace Go.Proofs.Ytdcdmpgigmhhpaa.Rc
open Go Go.Proofs.Ytdcdmpgigmhhpaa.E
open Go.Proofs.Ytdcdmpgigmhhpaa.Va
set_option maxRecDepth 100000
set_option linter.unusedVariables false
set_option linter.unusedSimpArgs false

/-- A reader: what is left, and whether it is bad. Its bytes are none of the memory's own that turn. -/
def Rd (h0 h : List Ob) (id : Nat) (ms : List Int) (bad : Bool) : Prop := h0.length ≤ id ∧ ∃ v, St h id [v, .bool bad] ∧ Sl 1 h v (bv ms) ∧ ∀ j, j ∈ idsOf v → j < h0.length
theorem Rd.keep {h0 h h' : List Ob} {id : Nat} {ms : List Int} {bad : Bool} {A : List Nat} (r : Rd h0 h id ms bad) (k : Kp h h' A) (hn : id ∉ A) (ha : ∀ j, j ∈ A → h0.length ≤ j) : Rd h0 h' id ms bad := by
  obtain ⟨l, v, st, s, i⟩ := r
  exact ⟨l, v, st.keep k hn, s.keep k (fun j hj q => by have := i j hj; have := ha j q; omega), i⟩

/-- The same memory but for the reader, and what came anew. -/
abbrev Kr (h0 h : List Ob) : Prop := Kp h0 h []

theorem skip82 {lf : Nat} {h0 h : List Ob} {id : Nat} {ms : List Int} {bad : Bool} (r : Rd h0 h id ms bad) (hb : ms.length ≤ 9223372036854775807) {n e : Int} (h0n : 0 ≤ n) (kr : Kr h0 h) :
    To2 (F82 lf (.ptr id 0 0) n e h) fun _ h' => (if e = 0 ∧ n ≤ ms.length then Rd h0 h' id (ms.drop n.toNat) bad else Rd h0 h' id [] true) ∧ Kp h h' [id] ∧ Kr h0 h' := by
  obtain ⟨lid, v, st, sh, iv⟩ := r
  have hi : ∀ j, j ∈ ([id] : List Nat) → j < h0.length → j ∈ ([] : List Nat) := fun j hj hlt => by simp at hj; omega
  have nk := st.nilck 0 0
  have f0 := st.faddr 0 0 0
  have f1 := st.faddr 1 0 0
  have l0 : er (.load1 (.c (.ptr id 0 0))) h = some v := st.load1 rfl
  simp only [Nat.zero_add] at f0 f1
  have hS : S82_0 lf (.ptr id 0 0) n e h = some (.normal, [.bool (!(decide (e = 0 ∧ n ≤ ms.length)))], h) := by
    unfold S82_0
    by_cases c : e = 0
    · subst c
      have : decide (n > (ms.length : Int)) = !decide (n ≤ (ms.length : Int)) := by
        by_cases q : n ≤ ms.length
        · rw [decide_eq_true q, decide_eq_false (by omega)]; rfl
        · rw [decide_eq_false q, decide_eq_true (by omega)]; rfl
      simp only [show ((0 : Int) != 0) = false from rfl, cB_false, nk, f0, l0, er_lenL sh, bv_length, bind1_some, castInt_int, this, true_and]
    · have : (e != 0) = true := by simp [c]
      simp [this, c]
  simp only [F82, hS, bind3_some, decide_true, cB_true, castCons_cons, castBool_bool, castNil_nil]
  by_cases c : e = 0 ∧ n ≤ ms.length
  · have d : decide (e = 0 ∧ n ≤ ms.length) = true := decide_eq_true c
    simp only [d, Bool.not_true, cB_false, nk, f0, l0, bind1_some, if_pos c]
    obtain ⟨y, ey, sy, iy⟩ := slc_to (lo := some (.c (.int .i64 n))) (hi := none) (a := n.toNat) (b := ms.length) sh bv_cells (by simp only [Option.map_some, getC, bndV]; rw [if_pos h0n]) (by simp [bndV]) (by omega) (by simp)
    rw [bv_drop] at sy
    have hy : (bv (ms.drop n.toNat)).take (ms.length - n.toNat) = bv (ms.drop n.toNat) := List.take_of_length_le (by simp)
    rw [hy] at sy
    simp only [ey, bind1_some, nk, f0]
    refine To2.bind2 (st.store1 (j := 0) (x := y) (by simp) sy.sc) ?_
    rintro u h1 ⟨st1, k1⟩
    exact To2.some ⟨⟨lid, y, st1, sy.keep k1 (fun j hj q => by have := iv j (iy j hj); simp at q; omega), fun j hj => iv j (iy j hj)⟩, k1, kr.trans k1 (fun j hj => by cases hj) hi⟩
  · have d : decide (e = 0 ∧ n ≤ ms.length) = false := decide_eq_false c
    simp only [d, Bool.not_false, cB_true, nk, f1, bind1_some, if_neg c]
    refine To2.bind2 (st.store1 (j := 1) (x := .bool true) (by simp) ⟨rfl, rfl⟩) ?_
    rintro u h1 ⟨st1, k1⟩
    have nk1 := st1.nilck 0 0
    have g0 := st1.faddr 0 0 0
    simp only [Nat.zero_add] at g0
    simp only [nk1, g0, bind1_some]
    refine To2.bind2 (st1.store1 (j := 0) (x := .nils) (by simp) ⟨rfl, rfl⟩) ?_
    rintro u h2 ⟨st2, k2⟩
    have kk : Kp h h2 [id] := k1.trans k2 (fun j hj _ => hj) (fun j hj _ => hj)
    exact To2.some ⟨⟨lid, .nils, st2, Sl.nils 1 h2, fun j hj => by cases hj⟩, kk, kr.trans kk (fun j hj => by cases hj) hi⟩

theorem takeF_form : ∀ (ms : List Int) (i : Nat) (n : Int), (takeF ms i n).2.2 = 0 ∨ takeF ms i n = (0, 0, 2)
  | [], i, n => .inr rfl
  | m :: ms, i, n => by
    rw [takeF_cons]
    split
    · exact .inr rfl
    · split
      · exact .inl rfl
      · exact takeF_form ms _ _
theorem takeF_k (ms : List Int) : 0 ≤ (takeF ms 0 0).2.1 := by
  rcases takeF_form ms 0 0 with h | h
  · have := takeF_e ms 0 0 h; omega
  · rw [h]; decide

theorem num62 {lf : Nat} {h0 h : List Ob} {id : Nat} {ms : List Int} {bad : Bool} (r : Rd h0 h id ms bad) (hb : Byt ms) (hl : ms.length ≤ 9223372036854775807) (hf : ms.length < lf) (kr : Kr h0 h) :
    To2 (F62 lf (.ptr id 0 0) h) fun v h' => v = .int .u64 (takeF ms 0 0).1 ∧ (if (takeF ms 0 0).2.2 = 0 then Rd h0 h' id (ms.drop (takeF ms 0 0).2.1.toNat) bad else Rd h0 h' id [] true) ∧ Kp h h' [id] ∧ Kr h0 h' := by
  have r' := r
  obtain ⟨lid, v, st, sh, iv⟩ := r'
  have nk := st.nilck 0 0
  have f0 := st.faddr 0 0 0
  have l0 : er (.load1 (.c (.ptr id 0 0))) h = some v := st.load1 rfl
  simp only [Nat.zero_add] at f0
  simp only [F62, nk, f0, l0, bind1_some]
  rw [take15 sh hb hl hf]
  simp only [bind2_some, tk, castTup_tup, castCons_cons, castInt_int, castNil_nil]
  refine To2.bind2 (skip82 r hl (takeF_k ms) kr) ?_
  rintro u h1 ⟨q, k1, kr1⟩
  refine To2.some ⟨rfl, ?_, k1, kr1⟩
  by_cases c : (takeF ms 0 0).2.2 = 0
  · have := takeF_e ms 0 0 c
    rw [if_pos c]
    rw [if_pos ⟨c, by omega⟩] at q
    exact q
  · rw [if_neg c]
    rw [if_neg (fun z => c z.1)] at q
    exact q

def ValQ (h0 h' : List Ob) (id : Nat) (r : R) (o : Option (R × List Int)) : Prop := match o with
  | some (r', c) => r = r' ∧ Rd h0 h' id c false
  | none => ∃ ms', Rd h0 h' id ms' true

theorem tail63 {lf : Nat} {h0 h : List Ob} {id id2 : Nat} {b : List Int} {m : Int} (r : Rd h0 h id b false) (hb : Byt b) (hl : b.length ≤ 9223372036854775807) (hf : b.length < lf) (kr : Kr h0 h) (st2 : St h id2 (rC ⟨m, 0, []⟩)) (hne : id ≠ id2) (h2 : h0.length ≤ id2) :
    To3 (S63_0 lf (.ptr id 0 0) (.ptr id2 0 0) h) fun x vs h' => ∃ r', (x = .normal ∨ x = .ret) ∧ vs = [] ∧ St h' id2 (rC r') ∧ ValQ h0 h' id r' (valP (m :: b)) ∧ Kr h0 h' ∧ Kp h h' [id, id2] := by
  have tr : ∀ {a b c : List Ob}, Kp a b [id, id2] → Kp b c [id, id2] → Kp a c [id, id2] := fun x y => x.trans y (fun j hj _ => hj) (fun j hj _ => hj)
  have up1 : ∀ {a b : List Ob}, Kp a b [id] → Kp a b [id, id2] := fun x => x.mono (fun j hj _ => by simp at hj; simp [hj])
  have up2 : ∀ {a b : List Ob}, Kp a b [id2] → Kp a b [id, id2] := fun x => x.mono (fun j hj _ => by simp at hj; simp [hj])
  have r' := r
  obtain ⟨lid, v, st, sh, iv⟩ := r'
  have nn : id2 ∉ [id] := by simp; exact fun e => hne e.symm
  have nn2 : id ∉ [id2] := by simp; exact hne
  have hiA : ∀ j, j ∈ ([id] : List Nat) → h0.length ≤ j := fun j hj => by simp at hj; omega
  have hiB : ∀ j, j ∈ ([id2] : List Nat) → h0.length ≤ j := fun j hj => by simp at hj; omega
  have krA : ∀ {h h' : List Ob}, Kr h0 h → Kp h h' [id] → Kr h0 h' := fun a b => a.trans b (fun j hj => by cases hj) (fun j hj hlt => by have := hiA j hj; omega)
  have krB : ∀ {h h' : List Ob}, Kr h0 h → Kp h h' [id2] → Kr h0 h' := fun a b => a.trans b (fun j hj => by cases hj) (fun j hj hlt => by have := hiB j hj; omega)
  have nk := st.nilck 0 0
  have f0 := st.faddr 0 0 0
  have f1 := st.faddr 1 0 0
  have l0 : er (.load1 (.c (.ptr id 0 0))) h = some v := st.load1 rfl
  have g0 := st2.faddr 0 0 0
  have m0 : er (.load1 (.c (.ptr id2 0 0))) h = some (.int .i64 m) := st2.load1 rfl
  simp only [Nat.zero_add] at f0 f1 g0
  simp only [S63_0, g0, m0, bind1_some, castInt_int]
  by_cases c0 : m = 0
  · subst c0
    simp only [beq_self_eq_true, cB_true]
    refine To3.some ⟨_, .inl rfl, rfl, st2, ?_, kr, Kp.refl _ _⟩
    simp only [valP, if_true, ValQ]
    exact ⟨trivial, r⟩
  · have d0 : (m == 0) = false := by simp [c0]
    simp only [d0, cB_false]
    by_cases c1 : m = 1
    · subst c1
      simp only [beq_self_eq_true, cB_true, nk, f0, l0, bind1_some]
      rw [take17 sh hb hl hf]
      simp only [bind2_some, castTup_tup, castCons_cons, castInt_int, castNil_nil]
      refine To3.bind2 (skip82 r hl (takeF_k b) kr) ?_
      rintro u h1 ⟨q, k1, kr1⟩
      have st3 := st2.keep k1 nn
      have g1 := st3.faddr 1 0 0
      simp only [Nat.zero_add] at g1
      simp only [g1, bind1_some]
      refine To3.bind2 (st3.store1 (j := 1) (x := .int .i64 (zag (takeF b 0 0).1)) (by simp [rC]) ⟨rfl, rfl⟩) ?_
      rintro u h2 ⟨st4, k2⟩
      refine To3.some ⟨⟨1, zag (takeF b 0 0).1, []⟩, .inl rfl, rfl, st4, ?_, krB kr1 k2, tr (up1 k1) (up2 k2)⟩
      simp only [valP]
      rw [if_neg (by decide), if_pos trivial]
      by_cases c : (takeF b 0 0).2.2 = 0
      · have := takeF_e b 0 0 c
        rw [if_pos ⟨c, by omega⟩] at q
        rw [if_pos c]
        exact ⟨rfl, q.keep k2 nn2 hiB⟩
      · rw [if_neg (fun z => c z.1)] at q
        rw [if_neg c]
        exact ⟨_, q.keep k2 nn2 hiB⟩
    · have d1 : (m == 1) = false := by simp [c1]
      simp only [d1, cB_false]
      by_cases c2 : m = 2
      · subst c2
        simp only [beq_self_eq_true, cB_true]
        refine To3.bind2 (num62 r hb hl hf kr) ?_
        rintro u h1 ⟨rfl, q, k1, kr1⟩
        have st3 := st2.keep k1 nn
        obtain ⟨n0, n1⟩ := takeF_range b 0 0 hb (by decide) (by decide)
        -- what is left
        obtain ⟨c, bd, rc, hc, hbd⟩ : ∃ c bd, Rd h0 h1 id c bd ∧ c.length ≤ b.length ∧ (((takeF b 0 0).2.2 = 0 ∧ c = b.drop (takeF b 0 0).2.1.toNat ∧ bd = false) ∨ ((takeF b 0 0).2.2 ≠ 0 ∧ c = [] ∧ bd = true ∧ (takeF b 0 0).1 = 0)) := by
          by_cases c : (takeF b 0 0).2.2 = 0
          · rw [if_pos c] at q
            exact ⟨_, _, q, by simp, .inl ⟨c, rfl, rfl⟩⟩
          · rw [if_neg c] at q
            refine ⟨_, _, q, by simp, .inr ⟨c, rfl, rfl, ?_⟩⟩
            rcases takeF_form b 0 0 with z | z
            · exact absurd z c
            · rw [z]
        have rc' := rc
        obtain ⟨_, v1, st1, s1, i1⟩ := rc'
        have nk1 := st1.nilck 0 0
        have e0 := st1.faddr 0 0 0
        have e1 := st1.faddr 1 0 0
        have p0 : er (.load1 (.c (.ptr id 0 0))) h1 = some v1 := st1.load1 rfl
        simp only [Nat.zero_add] at e0 e1
        have ew : IntKind.u64.wrap (if (100 : Int) < (c.length : Int) then 100 else (c.length : Int)) = min (c.length : Int) 100 := by rw [wrap_u64]; split <;> omega
        simp only [castInt_int, nk1, e0, p0, bind1_some, er_lenL s1, bv_length, ew]
        have hval : valP (2 :: b) = if (takeF b 0 0).2.2 = 0 then (if (takeF b 0 0).1 > min ((b.drop (takeF b 0 0).2.1.toNat).length : Int) 100 then none else some (⟨2, 0, by8 ((b.drop (takeF b 0 0).2.1.toNat).take (takeF b 0 0).1.toNat)⟩, (b.drop (takeF b 0 0).2.1.toNat).drop (takeF b 0 0).1.toNat)) else none := by
          simp only [valP]
          rw [if_neg (by decide), if_neg (by decide), if_pos trivial]
          have : ((min (b.drop (takeF b 0 0).2.1.toNat).length 100 : Nat) : Int) = min ((b.drop (takeF b 0 0).2.1.toNat).length : Int) 100 := by omega
          rw [← this]
        by_cases cc : (takeF b 0 0).1 > min (c.length : Int) 100
        · simp only [decide_eq_true cc, cB_true, e1, bind1_some]
          refine To3.bind2 (st1.store1 (j := 1) (x := .bool true) (by simp) ⟨rfl, rfl⟩) ?_
          rintro u h2 ⟨st5, k2⟩
          have st6 := st3.keep k2 nn
          have lN := st6.loadN' (n := 3) rfl
          simp only [lN, bind1_some, castAgg_agg, rC, castCons_cons, castInt_int, castStr_str, castNil_nil]
          refine To3.bind2 (st6.storeN (ds := rC ⟨2, 0, []⟩) rfl (by decide) rfl rfl) ?_
          rintro u h3 ⟨st7, k3⟩
          refine To3.some ⟨⟨2, 0, []⟩, .inr rfl, rfl, st7, ?_, krB (krA kr1 k2) k3, tr (tr (up1 k1) (up1 k2)) (up2 k3)⟩
          have rb : Rd h0 h3 id c true := Rd.keep (⟨rc.1, v1, st5, s1.keep k2 (fun j hj z => by have := i1 j hj; simp at z; omega), i1⟩ : Rd h0 h2 id c true) k3 nn2 hiB
          rw [hval]
          rcases hbd with ⟨t1, t2, t3⟩ | ⟨t1, t2, t3, t4⟩
          · rw [if_pos t1, ← t2, if_pos cc]
            exact ⟨_, rb⟩
          · rw [if_neg t1]
            exact ⟨_, rb⟩
        · have nle : (takeF b 0 0).1 ≤ c.length ∧ (takeF b 0 0).1 ≤ 100 := by omega
          simp only [decide_eq_false cc, cB_false, nk1, e0, p0, bind1_some]
          obtain ⟨y, ey, sy, iy⟩ := slc_to (lo := none) (hi := some (.c (.int .u64 (takeF b 0 0).1))) (a := 0) (b := (takeF b 0 0).1.toNat) s1 bv_cells rfl (by simp only [Option.map_some, getC, bndV]; rw [if_pos n0]) (by omega) (by rw [bv_length]; omega)
          rw [List.drop_zero, Nat.sub_zero, bv_take] at sy
          simp only [ey, bind1_some, er_toStr sy, castStr_str]
          have g2 := st3.faddr 2 0 0
          simp only [Nat.zero_add] at g2
          simp only [g2, bind1_some]
          refine To3.bind2 (st3.store1 (j := 2) (x := .str (by8 (c.take (takeF b 0 0).1.toNat))) (by simp [rC]) ⟨rfl, rfl⟩) ?_
          rintro u h2 ⟨st5, k2⟩
          have rc2 := rc.keep k2 nn2 hiB
          have kr2 := krB kr1 k2
          have ewn : IntKind.i64.wrap (takeF b 0 0).1 = (takeF b 0 0).1 := wrap_i64 (by omega) (by omega)
          simp only [ewn]
          refine To3.bind2 (skip82 rc2 (by omega) n0 kr2) ?_
          rintro u h3 ⟨q3, k3, kr3⟩
          rw [if_pos ⟨rfl, nle.1⟩] at q3
          refine To3.some ⟨⟨2, 0, by8 (c.take (takeF b 0 0).1.toNat)⟩, .inl rfl, rfl, st5.keep k3 nn, ?_, kr3, tr (tr (up1 k1) (up2 k2)) (up1 k3)⟩
          rw [hval]
          rcases hbd with ⟨t1, t2, t3⟩ | ⟨t1, t2, t3, t4⟩
          · subst t3
            rw [if_pos t1, ← t2, if_neg cc]
            exact ⟨rfl, q3⟩
          · subst t3
            rw [if_neg t1]
            exact ⟨_, q3⟩
      · have d2 : (m == 2) = false := by simp [c2]
        simp only [d2, cB_false, nk, f1, bind1_some]
        refine To3.bind2 (st.store1 (j := 1) (x := .bool true) (by simp) ⟨rfl, rfl⟩) ?_
        rintro u h1 ⟨st1, k1⟩
        refine To3.some ⟨_, .inl rfl, rfl, st2.keep k1 nn, ?_, krA kr k1, up1 k1⟩
        simp only [valP, c0, c1, c2, if_false, ValQ]
        exact ⟨b, lid, v, st1, sh.keep k1 (fun j hj z => by have := iv j hj; simp at z; omega), iv⟩

theorem val63 {lf : Nat} {h0 h : List Ob} {id : Nat} {ms : List Int} (r : Rd h0 h id ms false) (hb : Byt ms) (hl : ms.length ≤ 9223372036854775807) (hf : ms.length < lf) (kr : Kr h0 h) :
    To2 (F63 lf (.ptr id 0 0) h) fun u h' => ∃ r', u = .agg (rC r') ∧ ValQ h0 h' id r' (valP ms) ∧ Kr h0 h' ∧ Kp h h' [id] := by
  simp only [F63]
  refine To2.bind2 (alloc_to rfl) ?_
  rintro p h1 ⟨rfl, stv, k1⟩
  have hidlt : id < h.length := by obtain ⟨_, v, st, _⟩ := r; exact st.lt
  have r1 : Rd h0 h1 id ms false := r.keep k1 (fun q => by cases q) (fun j hj => by cases hj)
  have kr1 : Kr h0 h1 := kr.tr k1
  have hne : id ≠ h.length := by omega
  have hle : h0.length ≤ h.length := kr.len
  have nn : h.length ∉ [id] := by simp; omega
  have hiA : ∀ j, j ∈ ([id] : List Nat) → h0.length ≤ j := fun j hj => by simp at hj; have := r.1; omega
  have hiB : ∀ j, j ∈ ([h.length] : List Nat) → h0.length ≤ j := fun j hj => by simp at hj; omega
  have krA : ∀ {h h' : List Ob}, Kr h0 h → Kp h h' [id] → Kr h0 h' := fun a b => a.trans b (fun j hj => by cases hj) (fun j hj hlt => by have := hiA j hj; omega)
  have krB : ∀ {g g' : List Ob}, Kr h0 g → Kp g g' [h.length] → Kr h0 g' := fun a b => a.trans b (fun j hj => by cases hj) (fun j hj hlt => by have := hiB j hj; omega)
  have up1 : ∀ {a b : List Ob}, Kp a b [id] → Kp a b [id, h.length] := fun x => x.mono (fun j hj _ => by simp at hj; simp [hj])
  have up2 : ∀ {a b : List Ob}, Kp a b [h.length] → Kp a b [id, h.length] := fun x => x.mono (fun j hj _ => by simp at hj; simp [hj])
  have tr : ∀ {a b c : List Ob}, Kp a b [id, h.length] → Kp b c [id, h.length] → Kp a c [id, h.length] := fun x y => x.trans y (fun j hj _ => hj) (fun j hj _ => hj)
  have fin : ∀ j, j ∈ [id, h.length] → j < h.length → j ∈ [id] := fun j hj hlt => by simp at hj ⊢; omega
  have tr0 : ∀ {a c : List Ob}, Kp h a [] → Kp a c [id, h.length] → Kp h c [id] := fun x y => x.trans y (fun j hj => by cases hj) fin
  have r1' := r1
  obtain ⟨lid, v, st, sh, iv⟩ := r1'
  have nk := st.nilck 0 0
  have f0 := st.faddr 0 0 0
  have f1 := st.faddr 1 0 0
  have l0 : er (.load1 (.c (.ptr id 0 0))) h1 = some v := st.load1 rfl
  simp only [Nat.zero_add] at f0 f1
  simp only [nk, f0, l0, bind1_some, er_lenL sh, bv_length, castInt_int]
  cases ms with
  | nil =>
    simp only [List.length_nil, Int.natCast_zero, show ((0 : Int) == 0) = true from rfl, cB_true, f1, bind1_some]
    refine To2.bind2 (st.store1 (j := 1) (x := .bool true) (by simp) ⟨rfl, rfl⟩) ?_
    rintro u h2 ⟨st5, k2⟩
    have st6 := stv.keep k2 nn
    have lN := st6.loadN' (n := 3) rfl
    simp only [lN, bind1_some, castAgg_agg, castCons_cons, castInt_int, castStr_str, castNil_nil]
    refine To2.bind2 (st6.storeN (ds := rC ⟨0, 0, []⟩) rfl (by decide) rfl rfl) ?_
    rintro u h3 ⟨st7, k3⟩
    have lv : evLoadN h3 3 (.ptr h.length 0 0) = some (.agg (rC ⟨0, 0, []⟩)) := st7.loadN
    simp only [lv, bind1_some]
    refine To2.some ⟨⟨0, 0, []⟩, rfl, ?_, krB (krA kr1 k2) k3, tr0 k1 (tr (up1 k2) (up2 k3))⟩
    simp only [valP, ValQ]
    exact ⟨[], Rd.keep (⟨lid, v, st5, sh.keep k2 (fun j hj z => by have := iv j hj; simp at z; omega), iv⟩ : Rd h0 h2 id [] true) k3 (by simp; omega) hiB⟩
  | cons m b =>
    have hm := hb m (by simp)
    have cz : (((m :: b).length : Int) == 0) = false := by simp; omega
    obtain ⟨a, a1, a2⟩ := sh.at1 (k := 0) (e := .int .u8 m) (by omega) rfl rfl
    have g0 := stv.faddr 0 0 0
    simp only [Nat.zero_add] at g0
    have ew : IntKind.i64.wrap m = m := wrap_i64 (by omega) (by omega)
    simp only [cz, cB_false, a1, a2, bind1_some, castInt_int, g0, ew]
    refine To2.bind2 (stv.store1 (j := 0) (x := .int .i64 m) (by simp) ⟨rfl, rfl⟩) ?_
    rintro u h2 ⟨st5, k2⟩
    have r2 := r1.keep k2 (by simp; omega) hiB
    have kr2 := krB kr1 k2
    refine To2.bind2 (skip82 (n := 1) (e := 0) r2 hl (by decide) kr2) ?_
    rintro u h3 ⟨q3, k3, kr3⟩
    rw [if_pos ⟨rfl, by simp; omega⟩] at q3
    have q3 : Rd h0 h3 id b false := q3
    have st6 : St h3 h.length (rC ⟨m, 0, []⟩) := St.keep st5 k3 nn
    refine To2.bind3 (tail63 q3 (fun x hx => hb x (by simp [hx])) (by simp at hl; omega) (by simp at hf; omega) kr3 st6 hne hle) ?_
    rintro x vs h4 ⟨r', hx, rfl, st7, vq, kr4, k4⟩
    have lv : evLoadN h4 3 (.ptr h.length 0 0) = some (.agg (rC r')) := st7.loadN
    rcases hx with rfl | rfl
    · have lN := st7.loadN' (n := 3) rfl
      simp only [decide_true, cB_true, castNil_nil, lN, bind1_some, castAgg_agg, rC, castCons_cons, castInt_int, castStr_str]
      refine To2.bind2 (st7.storeN (ds := rC r') rfl (by simp [rC]) rfl rfl) ?_
      rintro u h5 ⟨st8, k5⟩
      have lv5 : evLoadN h5 3 (.ptr h.length 0 0) = some (.agg (rC r')) := st8.loadN
      simp only [lv5, bind1_some]
      refine To2.some ⟨r', rfl, ?_, krB kr4 k5, tr0 k1 (tr (tr (tr (up2 k2) (up1 k3)) k4) (up2 k5))⟩
      cases hvp : valP (m :: b) with
      | none =>
        rw [hvp] at vq
        obtain ⟨ms', z⟩ := vq
        exact ⟨ms', z.keep k5 (by simp; omega) hiB⟩
      | some p =>
        rw [hvp] at vq
        exact ⟨vq.1, vq.2.keep k5 (by simp; omega) hiB⟩
    · simp only [show decide (EX.ret = EX.normal) = false from rfl, decide_true, cB_true, cB_false, castNil_nil, lv, bind1_some]
      exact To2.some ⟨r', rfl, vq, kr4, tr0 k1 (tr (tr (up2 k2) (up1 k3)) k4)⟩

theorem S39 {lf : Nat} {h0 h : List Ob} {id : Nat} {ms : List Int} {bad : Bool} (r : Rd h0 h id ms bad) (n : Nat) : S39_0 lf (.ptr id 0 0) n h = some (if 0 < n ∧ bad = false then (.normal, [], h) else (.exit 0, [], h)) := by
  obtain ⟨lid, v, st, sh, iv⟩ := r
  have nk := st.nilck 0 0
  have f1 := st.faddr 1 0 0
  have l1 : er (.load1 (.c (.ptr id 0 1))) h = some (.bool bad) := st.load1 rfl
  simp only [Nat.zero_add] at f1
  unfold S39_0
  by_cases c : 0 < n
  · have d : decide ((n : Int) > 0) = true := decide_eq_true (by omega)
    simp only [d, cB_true, nk, f1, l1, bind1_some, castBool_bool]
    cases bad <;> simp [c]
  · have d : decide ((n : Int) > 0) = false := decide_eq_false (by omega)
    simp [d, c]

def DecQ (h0 h' : List Ob) (id : Nat) (acc : List R) (w : V) (o : Option (List R × List Int)) : Prop := match o with
  | none => ∃ ms', Rd h0 h' id ms' true
  | some (rs, c) => Rd h0 h' id c false ∧ Sl 3 h' w (rows (acc ++ rs)) ∧ Ap w ∧ (∀ j, j ∈ idsOf w → h0.length ≤ j)

theorem valP_len {b c : List Int} {r : R} (h : valP b = some (r, c)) : c.length < b.length := by
  cases b with
  | nil => cases h
  | cons k b =>
    simp only [valP] at h
    split at h
    · injection h with h; injection h with h1 h2; subst h2; simp
    · split at h
      · split at h
        · injection h with h; injection h with h1 h2; subst h2; simp; omega
        · cases h
      · split at h
        · split at h
          · split at h
            · cases h
            · injection h with h; injection h with h1 h2; subst h2; simp; omega
          · cases h
        · cases h

theorem valP_byt {b c : List Int} {r : R} (hb : Byt b) (h : valP b = some (r, c)) : Byt c := by
  have := (valP_back hb h).1
  intro x hx
  exact hb x (by rw [this]; simp [hx])

theorem dec39L (lf : Nat) {h0 : List Ob} {id : Nat} : ∀ (L f n : Nat) (h : List Ob) (ms : List Int) (acc : List R) (rv : V), ms.length ≤ L → L + 2 ≤ f → n < 18446744073709551616 → Rd h0 h id ms false → Byt ms → ms.length ≤ 9223372036854775807 → ms.length < lf → Kr h0 h →
    Sl 3 h rv (rows acc) → Ap rv → (∀ j, j ∈ idsOf rv → h0.length ≤ j ∧ j ≠ id) → (acc.length + n ≤ 1000000000000 ∨ acc.length + ms.length ≤ 1000000000000) →
    To3 (L39_1 lf f (.ptr id 0 0) rv n h) fun x vs h' => ∃ w, x = .exit 0 ∧ vs = [w] ∧ Kr h0 h' ∧ DecQ h0 h' id acc w (decN n ms) := by
  intro L
  induction L with
  | zero =>
    intro f n h ms acc rv hL hf hn r hb hl hlf kr s a hi hbig
    obtain ⟨f, rfl⟩ : ∃ g, f = g + 2 := ⟨f - 2, by omega⟩
    have : ms = [] := List.eq_nil_of_length_eq_zero (by omega)
    subst this
    cases n with
    | zero =>
      simp only [L39_1, B39_1, S39 r 0, show ¬ (0 < 0 ∧ false = false) from fun q => absurd q.1 (by decide), if_false, bind3_some, show decide (EX.exit 0 = EX.normal) = false from rfl, decide_true, cB_true, cB_false, castNil_nil]
      exact To3.some ⟨rv, rfl, rfl, kr, r, by simpa using s, a, fun j hj => (hi j hj).1⟩
    | succ n =>
      have hw : IntKind.u64.wrap (((n + 1 : Nat) : Int) - 1) = (n : Int) := by rw [wrap_u64]; omega
      rw [L39_1, B39_1, S39 r (n + 1)]
      simp only [show (0 < n + 1 ∧ false = false) from ⟨by omega, rfl⟩, if_true, bind3_some, decide_true, cB_true, castNil_nil, and_self, hw]
      refine To3.bind2 (val63 r hb hl hlf kr) ?_
      rintro u h1 ⟨r', rfl, vq, kr1, k1⟩
      simp only [castAgg_agg, rC, castCons_cons, castInt_int, castStr_str, castNil_nil]
      refine To3.bind2 (bslice_to (ps := [(0, rV r')]) (es := [rV r']) (by decide) rfl rfl rfl) ?_
      rintro x h2 ⟨-, -, sx, -, k2, -⟩
      have s2 : Sl 3 h2 rv (rows acc) := (s.keep k1 (fun j hj q => by have := hi j hj; simp at q; omega)).kp k2
      refine To3.bind2 (app_to s2 a sx.c (by simp [roomMax]; omega)) ?_
      rintro w h3 ⟨s3, a3, k3, f3⟩
      have vq : ∃ ms', Rd h0 h1 id ms' true := vq
      obtain ⟨ms', rb⟩ := vq
      have rb2 := (rb.keep k2 (fun q => by cases q) (fun j hj => by cases hj)).keep k3 (fun q => (hi _ q).2 rfl) (fun j hj => (hi j hj).1)
      have kr3 : Kr h0 h3 := (kr1.tr k2).trans k3 (fun j hj => by cases hj) (fun j hj hlt => by have := hi j hj; omega)
      rw [L39_1, B39_1, S39 rb2 n]
      simp only [show ¬ (0 < n ∧ true = false) from fun q => by simp at q, if_false, bind3_some, show decide (EX.exit 0 = EX.normal) = false from rfl, decide_true, cB_true, cB_false, castNil_nil]
      refine To3.some ⟨w, rfl, rfl, kr3, ?_⟩
      simp only [decN, valP, DecQ]
      exact ⟨ms', rb2⟩
  | succ L ih =>
    intro f n h ms acc rv hL hf hn r hb hl hlf kr s a hi hbig
    obtain ⟨f, rfl⟩ : ∃ g, f = g + 2 := ⟨f - 2, by omega⟩
    cases n with
    | zero =>
      simp only [L39_1, B39_1, S39 r 0, show ¬ (0 < 0 ∧ false = false) from fun q => absurd q.1 (by decide), if_false, bind3_some, show decide (EX.exit 0 = EX.normal) = false from rfl, decide_true, cB_true, cB_false, castNil_nil]
      exact To3.some ⟨rv, rfl, rfl, kr, r, by simpa using s, a, fun j hj => (hi j hj).1⟩
    | succ n =>
      have hw : IntKind.u64.wrap (((n + 1 : Nat) : Int) - 1) = (n : Int) := by rw [wrap_u64]; omega
      rw [L39_1, B39_1, S39 r (n + 1)]
      simp only [show (0 < n + 1 ∧ false = false) from ⟨by omega, rfl⟩, if_true, bind3_some, decide_true, cB_true, castNil_nil, and_self, hw]
      refine To3.bind2 (val63 r hb hl hlf kr) ?_
      rintro u h1 ⟨r', rfl, vq, kr1, k1⟩
      simp only [castAgg_agg, rC, castCons_cons, castInt_int, castStr_str, castNil_nil]
      refine To3.bind2 (bslice_to (ps := [(0, rV r')]) (es := [rV r']) (by decide) rfl rfl rfl) ?_
      rintro x h2 ⟨-, -, sx, -, k2, -⟩
      have s2 : Sl 3 h2 rv (rows acc) := (s.keep k1 (fun j hj q => by have := hi j hj; simp at q; omega)).kp k2
      have hacc : acc.length + 1 ≤ 1000000000001 := by omega
      refine To3.bind2 (app_to s2 a sx.c (by simp [roomMax]; omega)) ?_
      rintro w h3 ⟨s3, a3, k3, f3⟩
      have kr3 : Kr h0 h3 := (kr1.tr k2).trans k3 (fun j hj => by cases hj) (fun j hj hlt => by have := hi j hj; omega)
      have hidlt : id < h.length := by obtain ⟨_, v, st, _⟩ := r; exact st.lt
      cases hvp : valP ms with
      | none =>
        rw [hvp] at vq
        have vq : ∃ ms', Rd h0 h1 id ms' true := vq
        obtain ⟨ms', rb⟩ := vq
        have rb2 := (rb.keep k2 (fun q => by cases q) (fun j hj => by cases hj)).keep k3 (fun q => (hi _ q).2 rfl) (fun j hj => (hi j hj).1)
        rw [L39_1, B39_1, S39 rb2 n]
        simp only [show ¬ (0 < n ∧ true = false) from fun q => by simp at q, if_false, bind3_some, show decide (EX.exit 0 = EX.normal) = false from rfl, decide_true, cB_true, cB_false, castNil_nil]
        refine To3.some ⟨w, rfl, rfl, kr3, ?_⟩
        simp only [decN, hvp, DecQ]
        exact ⟨ms', rb2⟩
      | some p =>
        obtain ⟨r2, c⟩ := p
        rw [hvp] at vq
        have vq : r' = r2 ∧ Rd h0 h1 id c false := vq
        obtain ⟨rfl, rc⟩ := vq
        have rc2 := (rc.keep k2 (fun q => by cases q) (fun j hj => by cases hj)).keep k3 (fun q => (hi _ q).2 rfl) (fun j hj => (hi j hj).1)
        have hc := valP_len hvp
        have e3 : rows acc ++ [rV r'] = rows (acc ++ [r']) := by simp [rows]
        rw [e3] at s3
        have := ih (f + 1) n h3 c (acc ++ [r']) w (by omega) (by omega) (by omega) rc2 (valP_byt hb hvp) (by omega) (by omega) kr3 s3 a3 (fun j hj => by
          rcases f3 j hj with z | z
          · exact hi j z
          · have := k1.len; have := k2.len; have := kr.len; omega) (by simp; omega)
        refine this.mono ?_
        rintro x vs h4 ⟨w4, rfl, rfl, kr4, dq⟩
        refine ⟨w4, rfl, rfl, kr4, ?_⟩
        simp only [decN, hvp]
        cases hd : decN n c with
        | none => rw [hd] at dq; exact dq
        | some p =>
          obtain ⟨rs, d⟩ := p
          rw [hd] at dq
          simp only [DecQ] at dq ⊢
          simpa using dq

/-- What reading bytes comes to. -/
def decR (ms : List Int) : List R × Int := match decP ms with
  | some (row, []) => if ms.length ≤ 140 then (row, 0) else ([], 2)
  | _ => ([], 2)
theorem er_reader {h : List Ob} {b : V} {es : List V} (s : Sl 1 h b es) : er (.build [.nils, .bool false] [(0, (1, .c b))]) h = some (.agg [b, .bool false]) := by
  cases b <;> first | rfl | (have := s.c; simp [conts] at this)
theorem dec39 {lf : Nat} {h : List Ob} {b : V} {ms : List Int} (s : Sl 1 h b (bv ms)) (hb : Byt ms) (hl : ms.length ≤ 9223372036854775807) (hf : ms.length + 2 < lf) (hbig : (takeF ms 0 0).1 ≤ 1000000000000 ∨ ms.length ≤ 1000000000000) :
    To2 (F39 lf b h) fun v h' => ∃ w, v = .tup [w, .int .i64 (decR ms).2] ∧ Sl 3 h' w (rows (decR ms).1) ∧ Kr h h' ∧ (∀ j, j ∈ idsOf w → h.length ≤ j) := by
  simp only [F39, er_reader s, bind1_some, castAgg_agg, castCons_cons, castBool_bool, castNil_nil]
  refine To2.bind2 (box_to (cs := [b, .bool false]) (by simp [s.sc.2]; rfl)) ?_
  rintro p h1 ⟨rfl, st, k1⟩
  have r : Rd h h1 h.length ms false := ⟨Nat.le_refl _, b, st, s.kp k1, fun j hj => s.lt hj⟩
  refine To2.bind2 (num62 r hb hl (by omega) k1) ?_
  rintro u h2 ⟨rfl, q, k2, kr2⟩
  obtain ⟨n0, n1⟩ := takeF_range ms 0 0 hb (by decide) (by decide)
  simp only [castInt_int]
  have hn : (((takeF ms 0 0).1.toNat : Nat) : Int) = (takeF ms 0 0).1 := Int.toNat_of_nonneg n0
  -- the end
  have fin : ∀ (w : V) (h3 : List Ob), Kr h h3 → (∃ (c : List Int) (bad : Bool), Rd h h3 h.length c bad ∧ ((bad = true ∧ decP ms = none) ∨ (bad = false ∧ ∃ row, decP ms = some (row, c) ∧ Sl 3 h3 w (rows row) ∧ (∀ j, j ∈ idsOf w → h.length ≤ j)))) →
      To2 (bind1 (er (.nilck (.c (.ptr h.length 0 0))) h3) fun x29 =>
bind1 (er (.faddr 1 (.c x29)) h3) fun x30 =>
bind1 (er (.load1 (.c x30)) h3) fun v2 =>
castBool v2 fun x31 =>
cB x31 (
some ((.tup [V.nils, (.int .i64 (2))]), h3)) (
bind1 (er (.nilck (.c (.ptr h.length 0 0))) h3) fun x34 =>
bind1 (er (.faddr 0 (.c x34)) h3) fun x35 =>
bind1 (er (.load1 (.c x35)) h3) fun x36 =>
bind1 (er (.lenL (.c x36)) h3) fun v3 =>
castInt .i64 v3 fun x37 =>
cB (decide (x37 > (0))) (
some ((.tup [V.nils, (.int .i64 (2))]), h3)) (
bind1 (er (.lenL (.c b)) h3) fun v4 =>
castInt .i64 v4 fun x42 =>
cB (decide (x42 > (140))) (
some ((.tup [V.nils, (.int .i64 (2))]), h3)) (
some ((.tup [w, (.int .i64 (0))]), h3))))) fun v h' => ∃ w, v = .tup [w, .int .i64 (decR ms).2] ∧ Sl 3 h' w (rows (decR ms).1) ∧ Kr h h' ∧ (∀ j, j ∈ idsOf w → h.length ≤ j) := by
    rintro w h3 kr3 ⟨c, bad, ⟨lid, v, st3, sh3, iv⟩, hq⟩
    have nk := st3.nilck 0 0
    have f0 := st3.faddr 0 0 0
    have f1 := st3.faddr 1 0 0
    have l0 : er (.load1 (.c (.ptr h.length 0 0))) h3 = some v := st3.load1 rfl
    have l1 : er (.load1 (.c (.ptr h.length 0 1))) h3 = some (.bool bad) := st3.load1 rfl
    simp only [Nat.zero_add] at f0 f1
    simp only [nk, f0, f1, l0, l1, bind1_some, castBool_bool]
    have nil : ∀ {e : Int} {rw_ : List R}, decR ms = ([], 2) → To2 (some (V.tup [V.nils, .int .i64 2], h3)) fun v h' => ∃ w, v = .tup [w, .int .i64 (decR ms).2] ∧ Sl 3 h' w (rows (decR ms).1) ∧ Kr h h' ∧ (∀ j, j ∈ idsOf w → h.length ≤ j) := by
      intro _ _ e
      rw [e]
      exact To2.some ⟨.nils, rfl, Sl.nils _ _, kr3, fun j hj => by cases hj⟩
    rcases hq with ⟨rfl, e⟩ | ⟨rfl, row, e, sw, iw⟩
    · simp only [cB_true]
      exact nil (e := 0) (rw_ := []) (by simp [decR, e])
    · simp only [cB_false, er_lenL sh3, bv_length, bind1_some, castInt_int]
      cases c with
      | cons x c =>
        have d : decide ((((x :: c).length : Nat) : Int) > 0) = true := decide_eq_true (by simp only [List.length_cons]; omega)
        simp only [d, cB_true]
        exact nil (e := 0) (rw_ := []) (by simp [decR, e])
      | nil =>
        have sb3 := s.kp kr3
        have d : decide (((([] : List Int).length : Nat) : Int) > 0) = false := rfl
        simp only [d, cB_false, er_lenL sb3, bv_length, bind1_some, castInt_int]
        by_cases cl : ms.length ≤ 140
        · have d2 : decide ((ms.length : Int) > 140) = false := decide_eq_false (by omega)
          simp only [d2, cB_false]
          have e2 : decR ms = (row, 0) := by simp [decR, e, cl]
          rw [e2]
          exact To2.some ⟨w, rfl, sw, kr3, iw⟩
        · have d2 : decide ((ms.length : Int) > 140) = true := decide_eq_true (by omega)
          simp only [d2, cB_true]
          exact nil (e := 0) (rw_ := []) (by simp [decR, e, cl])
  by_cases c : (takeF ms 0 0).2.2 = 0
  · rw [if_pos c] at q
    have he := takeF_e ms 0 0 c
    have := dec39L lf (ms.drop (takeF ms 0 0).2.1.toNat).length lf (takeF ms 0 0).1.toNat h2 _ [] .nils (Nat.le_refl _) (by simp; omega) (by omega) q (Byt.drop hb _) (by simp; omega) (by simp; omega) kr2 (Sl.nils 3 h2) Ap.nils (fun j hj => by cases hj) (by simp; omega)
    rw [hn] at this
    refine To2.bind3 this ?_
    rintro x vs h3 ⟨w, rfl, rfl, kr3, dq⟩
    simp only [decide_true, cB_true, castCons_cons, castNil_nil]
    refine fin w h3 kr3 ?_
    have hP : decP ms = decN (takeF ms 0 0).1.toNat (ms.drop (takeF ms 0 0).2.1.toNat) := by unfold decP; rw [if_pos c]
    rw [hP]
    cases hd : decN (takeF ms 0 0).1.toNat (ms.drop (takeF ms 0 0).2.1.toNat) with
    | none =>
      rw [hd] at dq
      obtain ⟨ms', rb⟩ := (show ∃ ms', Rd h h3 h.length ms' true from dq)
      exact ⟨ms', true, rb, .inl ⟨rfl, rfl⟩⟩
    | some p =>
      obtain ⟨rs, d⟩ := p
      rw [hd] at dq
      simp only [DecQ, List.nil_append] at dq
      exact ⟨d, false, dq.1, .inr ⟨rfl, rs, rfl, dq.2.1, dq.2.2.2⟩⟩
  · rw [if_neg c] at q
    have hz : (takeF ms 0 0).1 = 0 := by
      rcases takeF_form ms 0 0 with z | z
      · exact absurd z c
      · rw [z]
    obtain ⟨g, rfl⟩ : ∃ g, lf = g + 1 := ⟨lf - 1, by omega⟩
    have e : L39_1 (g + 1) (g + 1) (.ptr h.length 0 0) .nils (takeF ms 0 0).1 h2 = some (.exit 0, [.nils], h2) := by
      have := S39 (lf := g + 1) q 0
      rw [hz, L39_1, B39_1]
      rw [show ((0 : Int)) = ((0 : Nat) : Int) from rfl, this]
      rfl
    rw [e]
    simp only [bind3_some, decide_true, cB_true, castCons_cons, castNil_nil]
    refine fin .nils h2 kr2 ⟨[], true, q, .inl ⟨rfl, ?_⟩⟩
    unfold decP; rw [if_neg c]
end Go.Proofs.Ytdcdmpgigmhhpaa.Rc
