/- Numbers in bytes: both ways of writing. No condition. -/
import Derived.Test.YtdcdmpgigmhhpaaVaP
namespace Go.Proofs.Ytdcdmpgigmhhpaa.Va
open Go Go.Proofs.Ytdcdmpgigmhhpaa.E
set_option maxRecDepth 100000
set_option linter.unusedVariables false
set_option linter.unusedSimpArgs false

/-! ### The array's road -/
theorem app26L (lf : Nat) (id : Nat) : ∀ (a f n : Nat) (h : List Ob) (es : List Int) (suf : List Int), n < 128 ^ a → a < f → a ≤ 9 → es.length = 10 → h[id]? = some (.row (bv es) 1) → es.drop a = suf →
    To3 (L26_0 lf f n (.ptr id 0 0) a h) fun x vs h' => ∃ (a' : Nat) (es' : List Int), x = .exit 0 ∧ vs = [.int .i64 a'] ∧ a' ≤ 9 ∧ h'[id]? = some (.row (bv es') 1) ∧ es'.length = 10 ∧ es'.drop a' = hiF a n ++ suf ∧ Kp h h' [id] := by
  intro a
  induction a with
  | zero =>
    intro f n h es suf hn hf ha hl hh hd
    obtain ⟨f, rfl⟩ : ∃ g, f = g + 1 := ⟨f - 1, by omega⟩
    have : n = 0 := by simpa using hn
    subst this
    simp only [L26_0, B26_0, show decide (((0 : Nat) : Int) > 0) = false from rfl, cB_false]
    exact To3.some ⟨0, es, rfl, rfl, by omega, hh, hl, by simpa [hiF] using hd, Kp.refl _ _⟩
  | succ a ih =>
    intro f n h es suf hn hf ha hl hh hd
    obtain ⟨f, rfl⟩ : ∃ g, f = g + 1 := ⟨f - 1, by omega⟩
    by_cases c : n = 0
    · subst c
      simp only [L26_0, B26_0, show decide (((0 : Nat) : Int) > 0) = false from rfl, cB_false]
      exact To3.some ⟨a + 1, es, rfl, rfl, ha, hh, hl, by simpa [hiF] using hd, Kp.refl _ _⟩
    · have hd1 : decide ((n : Int) > 0) = true := decide_eq_true (by omega)
      have hw : IntKind.i64.wrap (((a + 1 : Nat) : Int) - 1) = (a : Int) := by rw [wrap_i64 (by omega) (by omega)]; omega
      have hi : er (.iaddrA 10 1 (.c (.ptr id 0 0)) (.c (.int .i64 (a : Int)))) h = some (.ptr id a 0) := by
        simp only [er, ev, evOq, x_iaddrA, EO.get, evIaddrA, hh]
        rw [if_pos ⟨by omega, by omega⟩]
        simp
      have hb : bits .or .u8 (IntKind.u8.wrap (n : Int)) 128 = ((n % 128 + 128 : Nat) : Int) := by
        rw [wrap_u8, u8_or_128 _ (by omega) (by omega)]; omega
      have hget : (bv es)[a]? = some (.int .u8 es[a]) := bv_get (List.getElem?_eq_getElem (by omega))
      have hs : ev (.store 1 (.c (.ptr id a 0)) (.c (.int .u8 ((n % 128 + 128 : Nat) : Int)))) h = some (.tup [], h.set id (.row (bv (es.set a ((n % 128 + 128 : Nat) : Int))) 1)) := by
        rw [← bv_set]
        simp only [ev, evOq, x_store, EO.get, evStore, wrCells, hh, V.cells]
        simp only [hget, Option.map_some, putCells]
        rfl
      simp only [L26_0, B26_0, hd1, cB_true, hw, hi, bind1_some, hb, hs, bind2_some, fdiv7]
      have hidl : id < h.length := (List.getElem?_eq_some_iff.1 hh).1
      have hk : Kp h (h.set id (.row (bv (es.set a ((n % 128 + 128 : Nat) : Int))) 1)) [id] :=
        ⟨by simp, fun j hj hn => by rw [List.getElem?_set_ne (by intro q; subst q; exact hn (by simp))]⟩
      have := ih f (n / 128) _ (es.set a ((n % 128 + 128 : Nat) : Int)) ((((n % 128 + 128 : Nat) : Int)) :: suf) (by rw [Nat.pow_succ] at hn; omega) (by omega) (by omega) (by simp [hl])
        (List.getElem?_set_self hidl) (by
          rw [List.drop_eq_getElem_cons (by simp [hl]; omega)]
          simp only [List.getElem_set_self, List.cons.injEq, true_and]
          rw [List.drop_set_of_lt (by omega)]
          exact hd)
      refine this.mono ?_
      rintro x vs h2 ⟨a', es', rfl, rfl, q1, q2, q3, q4, q5⟩
      refine ⟨a', es', rfl, rfl, q1, q2, q3, ?_, hk.trans q5 (fun j hj _ => hj) (fun j hj _ => hj)⟩
      rw [q4]
      simp only [hiF, if_neg c, List.append_assoc, List.cons_append, List.nil_append]

/-- Two slices in a row. -/
theorem cat54 {lf : Nat} (hf : 10 < lf) {h : List Ob} {w b c : V} {bs cs : List Int} (sw : Sl 1 h w [b, c]) (sb : Sl 1 h b (bv bs)) (sc : Sl 1 h c (bv cs)) (hcs : 0 < cs.length) (hl : bs.length + cs.length ≤ roomMax) :
    To2 (F54 lf w h) (New h (bv (bs ++ cs))) := by
  obtain ⟨g, rfl⟩ : ∃ g, lf = g + 3 := ⟨lf - 3, by omega⟩
  have pb := sb.cells
  have pc := sc.cells
  obtain ⟨a0, i0, l0⟩ := sw.at1 (k := 0) (e := b) (by omega) rfl pb
  obtain ⟨a1, i1, l1⟩ := sw.at1 (k := 1) (e := c) (by omega) rfl pc
  have hr : roomMax = 140737488355328 := rfl
  have e1 : IntKind.i64.wrap (0 + (bs.length : Int)) = (bs.length : Int) := by rw [wrap_i64 (by omega) (by omega)]; omega
  have e2 : IntKind.i64.wrap ((bs.length : Int) + (cs.length : Int)) = ((bs.length + cs.length : Nat) : Int) := by rw [wrap_i64 (by omega) (by omega)]; omega
  have w1 : IntKind.i64.wrap (0 + 1) = 1 := by decide
  have w2 : IntKind.i64.wrap (1 + 1) = 2 := by decide
  have c1 : decide ((bs.length : Int) < 0) = false := decide_eq_false (by omega)
  have c2 : decide (((bs.length + cs.length : Nat) : Int) < 0) = false := decide_eq_false (by omega)
  have lp : L54_0 (g + 3) (g + 3) 0 w 2 0 h = some (.exit 0, [.int .i64 ((bs.length + cs.length : Nat) : Int)], h) := by
    simp only [L54_0, B54_0, i0, l0, i1, l1, bind1_some, er_lenL sb, er_lenL sc, castInt_int, bv_length, e1, e2, w1, w2, c1, c2, cB_false, show decide ((0 : Int) < 2) = true from rfl, show decide ((1 : Int) < 2) = true from rfl, show decide ((2 : Int) < 2) = false from rfl, cB_true]
  have hlw : er (.lenL (.c w)) h = some (.int .i64 2) := by rw [er_lenL sw]; rfl
  have n0 : IntKind.i64.wrap ((0 : Int) - 0) = 0 := by decide
  have n1 : IntKind.i64.wrap (((bs.length + cs.length : Nat) : Int) - 0) = ((bs.length + cs.length : Nat) : Int) := by rw [wrap_i64 (by omega) (by omega)]; omega
  have d1 : decide (((bs.length + cs.length : Nat) : Int) > 0) = true := decide_eq_true (by omega)
  have cap : er (.capL (.c V.nils)) h = some (.int .i64 0) := rfl
  have len0 : ∀ h, er (.lenL (.c V.nils)) h = some (.int .i64 0) := fun h => rfl
  have sl0 : er (.slcL 1 (.c V.nils) none (some (.c (.int .i64 0))) none) h = some .nils := rfl
  have grow : To2 (F75 (g + 3) V.nils ((bs.length + cs.length : Nat) : Int) h) (New h (bv [])) := by
    simp only [F75, S75_0, c2, cB_false, bind3_some, decide_true, cB_true, castNil_nil, cap, len0, bind1_some, castInt_int, n0, n1, d1, sl0]
    refine To2.bind2 (appZ_to (Sl.nils 1 h) Ap.nils (by omega) (by simp; omega)) ?_
    rintro x h1 ⟨s1, ap1, k1, f1⟩
    have hx : ∃ id off len, x = .hsl id off len := by
      rcases ap1 with rfl | rfl | q
      · exfalso; have := s1.c; simp [conts] at this; omega
      · exfalso; have := s1.c; simp [conts] at this; omega
      · exact q
    obtain ⟨id, off, len, rfl⟩ := hx
    have q : er (.slcL 1 (.c (.hsl id off len)) none (some (.c (.int .i64 0))) none) h1 = some (.hsl id off 0) ∧ Sl 1 h1 (.hsl id off 0) (bv []) := by
      have cc := s1.c
      simp only [conts] at cc
      split at cc
      · rename_i es s hob
        split at cc
        · rename_i hh
          obtain ⟨rfl, hin⟩ := hh
          refine ⟨?_, ⟨?_, fun l q => by cases q⟩⟩
          · simp [er, ev, evOq, x_slcL, EO.get, hob, evSlcL, aliveB, bndV]
          · simp [conts, hob, bv]; omega
        · cases cc
      · cases cc
    simp only [len0, bind1_some, castInt_int, q.1]
    refine To2.some ⟨q.2, Ap.hsl _ _ _, k1, fun j hj => ?_⟩
    rcases f1 j hj with z | z
    · cases z
    · exact z
  simp only [F54, hlw, bind1_some, castInt_int, lp, bind3_some, decide_true, cB_true, castCons_cons, castNil_nil]
  refine To2.bind2 grow ?_
  intro x h1 nx
  have sw1 := Sl.kp sw nx.2.2.1
  have sb1 := Sl.kp sb nx.2.2.1
  have hlw1 : er (.lenL (.c w)) h1 = some (.int .i64 2) := by rw [er_lenL sw1]; rfl
  obtain ⟨a2, i2, l2⟩ := sw1.at1 (k := 0) (e := b) (by omega) rfl pb
  simp only [hlw1, bind1_some, castInt_int]
  refine To2.bind3 (Q := fun x vs h' => ∃ v, x = .exit 2 ∧ vs = [v] ∧ New h (bv (bs ++ cs)) v h') ?_ ?_
  · simp only [L54_1, B54_1, i2, l2, bind1_some, w1, w2, show decide ((0 : Int) < 2) = true from rfl, show decide ((1 : Int) < 2) = true from rfl, show decide ((2 : Int) < 2) = false from rfl, cB_true, cB_false]
    refine To3.bind2 (app_to nx.1 nx.2.1 sb1.c (by simp; omega)) ?_
    intro y h2 qy
    have ny := New.beh nx qy
    have sw2 : Sl 1 h2 w [b, c] := sw.kp ny.2.2.1
    have sc2 : Sl 1 h2 c (bv cs) := sc.kp ny.2.2.1
    obtain ⟨a3, i3, l3⟩ := sw2.at1 (k := 1) (e := c) (by omega) rfl pc
    simp only [i3, l3, bind1_some]
    refine To3.bind2 (app_to ny.1 ny.2.1 sc2.c (by simp; omega)) ?_
    intro z h3 qz
    have nz := New.beh ny qz
    refine To3.some ⟨z, rfl, rfl, ?_⟩
    simpa only [bv_append, show bv [] = [] from rfl, List.nil_append] using nz
  · rintro x vs h2 ⟨v, rfl, rfl, q⟩
    simp only [decide_true, cB_true, castCons_cons, castNil_nil]
    exact To2.some q

theorem app26 {lf : Nat} (hf : 20 < lf) {h : List Ob} {b : V} {bs : List Int} (sb : Sl 1 h b (bv bs)) {n : Nat} (hn : n < 18446744073709551616) (hl : bs.length + 10 ≤ roomMax) : To2 (F26 lf b n h) (New h (bv (bs ++ numB n))) := by
  have ha : ev (.alloc true (.agg [(.int .u8 0), (.int .u8 0), (.int .u8 0), (.int .u8 0), (.int .u8 0), (.int .u8 0), (.int .u8 0), (.int .u8 0), (.int .u8 0), (.int .u8 0)])) h = some (.ptr h.length 0 0, h ++ [.row (bv (List.replicate 10 0)) 1]) := rfl
  have h1 : (h ++ [Ob.row (bv (List.replicate 10 0)) 1])[h.length]? = some (.row (bv (List.replicate 10 0)) 1) := by simp
  have hi : er (.iaddrA 10 1 (.c (.ptr h.length 0 0)) (.c (.int .i64 9))) (h ++ [.row (bv (List.replicate 10 0)) 1]) = some (.ptr h.length 9 0) := by
    simp only [er, ev, evOq, x_iaddrA, EO.get, evIaddrA, h1]
    rfl
  have hb : IntKind.u8.wrap (bits .and .u64 (n : Int) 127) = ((n % 128 : Nat) : Int) := by rw [u64_and_127 _ (by omega) (by omega), wrap_u8]; omega
  have hs : ev (.store 1 (.c (.ptr h.length 9 0)) (.c (.int .u8 ((n % 128 : Nat) : Int)))) (h ++ [.row (bv (List.replicate 10 0)) 1]) = some (.tup [], (h ++ [Ob.row (bv (List.replicate 10 0)) 1]).set h.length (.row (bv ((List.replicate 10 0).set 9 ((n % 128 : Nat) : Int))) 1)) := by
    simp only [ev, evOq, x_store, EO.get, evStore, wrCells, h1, V.cells]
    simp [V.scalar]
    rfl
  simp only [F26, ha, bind2_some, hi, bind1_some, hb, hs, fdiv7]
  have hset : ((h ++ [Ob.row (bv (List.replicate 10 0)) 1]).set h.length (.row (bv ((List.replicate 10 0).set 9 ((n % 128 : Nat) : Int))) 1)) = h ++ [.row (bv ((List.replicate 10 0).set 9 ((n % 128 : Nat) : Int))) 1] := by simp
  rw [hset]
  have k0 : Kp h (h ++ [.row (bv ((List.replicate 10 0).set 9 ((n % 128 : Nat) : Int))) 1]) [] := ⟨by simp, fun j hj _ => by rw [List.getElem?_append_left hj]⟩
  refine To2.bind3 (app26L lf h.length 9 lf (n / 128) _ ((List.replicate 10 0).set 9 ((n % 128 : Nat) : Int)) [((n % 128 : Nat) : Int)] (by omega) (by omega) (by decide) rfl (by simp) rfl) ?_
  rintro x vs h2 ⟨a, es, rfl, rfl, q1, q2, q3, q4, q5⟩
  have q4 : es.drop a = numB n := q4
  have k2 : Kp h h2 [] := k0.trans q5 (fun j hj => by cases hj) (fun j hj hlt => by simp at hj; omega)
  have hlt : h.length < h2.length := (List.getElem?_eq_some_iff.1 q2).1
  have hsl : er (.slcA 10 1 (.c (.ptr h.length 0 0)) (some (.c (.int .i64 a))) none) h2 = some (.hsl h.length a (10 - a)) := by
    simp only [er, ev, evOq, x_slcA, EO.get, Option.map_some, Option.map_none, evSlcA, q2, bndV]
    rw [if_pos (by omega)]
    simp only [Int.toNat_natCast]
    rw [if_pos ⟨trivial, trivial, by simp [q3], by decide, by omega, by omega⟩, if_neg (by omega)]
    simp
  have st : Sl 1 h2 (.hsl h.length a (10 - a)) (bv (numB n)) := by
    refine ⟨?_, fun l q => by cases q⟩
    simp only [conts, q2]
    rw [if_pos ⟨trivial, by simp [q3]; omega⟩, bv_drop, q4, List.take_of_length_le (by rw [bv_length, ← q4]; simp [q3])]
  simp only [decide_true, cB_true, castCons_cons, castInt_int, castNil_nil, hsl, bind1_some]
  have sb2 := Sl.kp sb k2
  refine To2.bind2 (bslice_to (ps := [(0, b), (1, .hsl h.length a (10 - a))]) (es := [b, .hsl h.length a (10 - a)]) (by decide) (by simp [sb.plain]; rfl) rfl rfl) ?_
  rintro w h3 ⟨-, -, sw, -, kw, -⟩
  have hp := numB_pos n
  have hq := numB_len n
  refine To2.bind2 (cat54 (by omega) sw (sb2.kp kw) (st.kp kw) hp (by omega)) ?_
  intro v h4 q
  exact To2.some (New.after (Kp.tr k2 kw) q)
end Go.Proofs.Ytdcdmpgigmhhpaa.Va
