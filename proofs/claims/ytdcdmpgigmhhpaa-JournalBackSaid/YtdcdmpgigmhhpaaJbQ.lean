/- A journal read back: a head is read. No condition. -/
import Derived.Test.YtdcdmpgigmhhpaaJbP
import Derived.Test.YtdcdmpgigmhhpaaL4
namespace Go.Proofs.Ytdcdmpgigmhhpaa.Jb
open Go Go.Proofs.Ytdcdmpgigmhhpaa.E
open Go.Proofs.Ytdcdmpgigmhhpaa.Jw
set_option maxRecDepth 100000
set_option linter.unusedVariables false
set_option linter.unusedSimpArgs false

/-- A part is the same in later memory. -/
theorem slc_kp {sz : Nat} {h h' : List Ob} {v : V} {es : List V} (s : Sl sz h v es) (k : Kp h h' []) {lo hi mx : Option EO} {y : V} (e : er (.slcL sz (.c v) lo hi mx) h = some y) : er (.slcL sz (.c v) lo hi mx) h' = some y := by
  have fm : ∀ (X : Option V) (g : List Ob), Option.map Prod.fst (Option.map (fun v => (v, g)) X) = X := fun X g => by cases X <;> rfl
  cases v with
  | hsl id off len =>
    have c := s.c
    simp only [conts] at c
    split at c
    · rename_i ds q hob
      have hob' := k.same id (s.lt (id := id) (by simp [idsOf])) (by simp)
      rw [hob] at hob'
      simp only [er, ev, evOq, x_slcL, getC, hob, hob', evSlcL, aliveB, if_true] at e ⊢
      split at e
      · rename_i hq
        rw [if_pos hq]
        rw [fm] at e ⊢
        exact e
      · cases e
    · cases c
  | str l => exact absurd rfl (s.ns l)
  | nils => exact (by simp only [er, ev, evOq, x_slcL, getC, fm] at e ⊢; exact e)
  | esl => exact (by simp only [er, ev, evOq, x_slcL, getC, fm] at e ⊢; exact e)
  | sl es =>
    simp only [er, ev, evOq, x_slcL, getC] at e ⊢
    split at e
    · rename_i hq
      rw [if_pos hq]
      rw [fm] at e ⊢
      exact e
    · cases e
  | _ => have c := s.c; simp [conts] at c
abbrev zF : List V := [.int .u64 0, .int .i64 0, .nils, .nils]
theorem zF_build (h : List Ob) : er (.build [(.int .u64 0), (.int .i64 0), .nils, .nils] []) h = some (.agg zF) := rfl
theorem w16 : IntKind.i64.wrap ((8 : Int) + 8) = 16 := by decide
theorem w20 : IntKind.i64.wrap ((16 : Int) + 4) = 20 := by decide
theorem w24 : IntKind.i64.wrap ((16 : Int) + 8) = 24 := by decide

/-- No head, or a head's beginning. -/
theorem first76 {lf : Nat} {h : List Ob} {b : V} {ms : List Int} {id : Nat} {cs : List V} (s : Sl 1 h b (bv ms)) (st : St h id cs) (h4 : cs.length = 4) (hl : 64 ≤ ms.length) :
    To3 (S76_0 lf b (.ptr id 0 0) h) fun x vs h' => if by8 (ms.take 8) = by8 magic then x = .normal ∧ vs = [] ∧ Kp h h' [] else x = .ret ∧ vs = [.int .i64 (-1)] ∧ St h' id zF ∧ Kp h h' [id] := by
  have hd : decide ((ms.length : Int) < 64) = false := decide_eq_false (by omega)
  simp only [S76_0, er_lenL s, bv_length, bind1_some, castInt_int, hd, cB_false]
  refine To3.bind2 (magic_to h) ?_
  rintro x1 h1 ⟨n1, hs⟩
  have hm : magic.length = 8 := rfl
  have hm2 : decide (8 ≤ ms.length) = true := decide_eq_true (by omega)
  simp only [hs, bind1_some, pre88 (s.kp n1.2.2.1) n1.1, bind2_some, castBool_bool, hm, hm2, Bool.true_and]
  by_cases q : by8 (ms.take 8) = by8 magic
  · simp only [if_pos q]
    have : (by8 (ms.take 8) == by8 magic) = true := by rw [q]; exact beq_self_eq_true _
    simp only [this, Bool.not_true, cB_false]
    exact To3.some ⟨rfl, rfl, n1.2.2.1⟩
  · simp only [if_neg q]
    have : (by8 (ms.take 8) == by8 magic) = false := by simpa using q
    simp only [this, Bool.not_false, cB_true, zF_build, bind1_some, castAgg_agg, castCons_cons, castInt_int, castNil_nil]
    refine To3.bind2 ((st.kp n1.2.2.1).storeN (ds := zF) (by rw [h4]; rfl) (by omega) rfl h4) ?_
    rintro u h2 ⟨st2, k2⟩
    exact To3.some ⟨rfl, rfl, st2, n1.2.2.1.trans k2 (fun j hj => by cases hj) (fun j hj _ => hj)⟩

theorem head76_no {lf : Nat} {h : List Ob} {b : V} {ms : List Int} (s : Sl 1 h b (bv ms)) (hl : 64 ≤ ms.length) (hn : by8 (ms.take 8) ≠ by8 magic) : To2 (F76 lf b h) fun v h' => v = .tup [.agg zF, .int .i64 (-1)] ∧ Kp h h' [] := by
  simp only [F76]
  refine To2.bind2 (alloc_to (cs := zF) rfl) ?_
  rintro x2 h1 ⟨rfl, st, k1⟩
  refine To2.bind3 (first76 (s.kp k1) st rfl hl) ?_
  intro x vs h2 q
  rw [if_neg hn] at q
  obtain ⟨rfl, rfl, st2, k2⟩ := q
  simp only [decide_true, cB_true, castCons_cons, castInt_int, castNil_nil, st2.loadN, show evLoadN h2 4 (.ptr h.length 0 0) = some (.agg zF) from st2.loadN, bind1_some]
  exact To2.some ⟨rfl, k1.trans k2 (fun j hj => by cases hj) (fun j hj hlt => by simp at hj; omega)⟩

theorem head_parts (salt p r : Int) (rest : List Int) : ((headB salt p r ++ rest).drop 8).take 8 = putB salt 8 ∧ ((headB salt p r ++ rest).drop 16).take 4 = putB p 4 ∧ ((headB salt p r ++ rest).drop 20).take 4 = putB r 4 ∧ (headB salt p r ++ rest).take 8 = magic := by
  simp only [headB, headC, List.append_assoc]
  refine ⟨?_, ?_, ?_, ?_⟩
  · rw [List.drop_left' (by rfl), List.take_left' (by simp)]
  · rw [← List.append_assoc, List.drop_left' (by simp [magic]), List.take_left' (by simp)]
  · rw [← List.append_assoc, ← List.append_assoc, List.drop_left' (by simp [magic]), List.take_left' (by simp)]
  · rw [List.take_left' (by rfl)]

theorem head76_yes {lf : Nat} (hf : 1000 < lf) {h : List Ob} {b : V} {salt p r : Int} {rest : List Int} (s : Sl 1 h b (bv (headB salt p r ++ rest))) (h0 : 0 ≤ salt) (h1 : salt < 18446744073709551616) (p0 : 0 ≤ p) (p1 : p ≤ 10000) (r0 : 0 ≤ r) (r1 : r ≤ 10000) :
    To2 (F76 lf b h) fun v h' => v = .tup [.agg [.int .u64 salt, .int .i64 p, .nils, .nils], .int .i64 r] ∧ Kp h h' [] := by
  obtain ⟨g1, g2, g3, g4⟩ := head_parts salt p r rest
  have hlen : (headB salt p r ++ rest).length = 64 + rest.length := by simp
  have b8 : Byt (putB salt 8) := putB_byt _ _
  have b4 : Byt (putB p 4) := putB_byt _ _
  have b5 : Byt (putB r 4) := putB_byt _ _
  simp only [F76, w16, w20, w24]
  refine To2.bind2 (alloc_to (cs := zF) rfl) ?_
  rintro x2 h1' ⟨rfl, st, k1⟩
  refine To2.bind3 (first76 (s.kp k1) st rfl (by omega)) ?_
  intro x vs h2 q
  rw [if_pos (by rw [g4])] at q
  obtain ⟨rfl, rfl, k2⟩ := q
  have s2 := (s.kp k1).kp k2
  obtain ⟨x24, e24, s24, -⟩ := sub_to s2 (a := 8) (b := 16) (k := 8) (n := 8) rfl rfl (by omega)
  obtain ⟨x32, e32, s32, -⟩ := sub_to s2 (a := 16) (b := 20) (k := 16) (n := 4) rfl rfl (by omega)
  rw [g1] at s24
  rw [g2] at s32
  have v24 : ∀ {hh : List Ob}, Kp h2 hh [] → F77 lf x24 hh = some (.int .u64 salt, hh) := fun k => by
    have := get77 (lf := lf) (s24.kp k) b8 (by simp) (by simp; omega)
    rwa [get8 h0 h1] at this
  have v32 : ∀ {hh : List Ob}, Kp h2 hh [] → F77 lf x32 hh = some (.int .u64 p, hh) := fun k => by
    have := get77 (lf := lf) (s32.kp k) b4 (by simp) (by simp; omega)
    rwa [get4 p0 (by omega)] at this
  have wp : IntKind.i64.wrap p = p := wrap_i64 (by omega) (by omega)
  have wr : IntKind.i64.wrap r = r := wrap_i64 (by omega) (by omega)
  obtain ⟨fv, h3, ef, rfl, st3, k3⟩ := alloc_to (h := h2) (cs := zF) rfl
  have kk : Kp h2 h2 [] := Kp.refl _ _
  have e24' : er (.slcL 1 (.c b) (some (.c (.int .i64 8))) (some (.c (.int .i64 16))) none) h3 = some x24 := by
    exact slc_kp s2 k3 e24
  have e32' : er (.slcL 1 (.c b) (some (.c (.int .i64 16))) (some (.c (.int .i64 20))) none) h3 = some x32 := slc_kp s2 k3 e32
  have eb : ∀ hh : List Ob, er (.build [(.int .u64 0), (.int .i64 0), .nils, .nils] [(0, (1, (.c (.int .u64 salt)))), (1, (1, (.c (.int .i64 p))))]) hh = some (.agg [.int .u64 salt, .int .i64 p, .nils, .nils]) := fun _ => rfl
  obtain ⟨u, h4, es, st4, k4⟩ := st3.storeN (ds := [.int .u64 salt, .int .i64 p, .nils, .nils]) rfl (by decide) rfl (n := 4) rfl
  have dn : decide (EX.normal = EX.ret) = false := rfl
  simp only [dn, cB_false, decide_true, cB_true, castNil_nil, e24, e32, bind1_some, v24 kk, v32 kk, bind2_some, castInt_int, reP_pos, wp, eb, castAgg_agg, castCons_cons, ef, e24', e32', v24 k3, v32 k3, es]
  have k24 : Kp h2 h4 [] := k3.trans k4 (fun j hj => by cases hj) (fun j hj hlt => by simp at hj; omega)
  have s4 := s2.kp k24
  obtain ⟨x43, e43, s43, -⟩ := sub_to s4 (a := 20) (b := 24) (k := 20) (n := 4) rfl rfl (by omega)
  rw [g3] at s43
  have v43 : F77 lf x43 h4 = some (.int .u64 r, h4) := by
    have := get77 (lf := lf) s43 b5 (by simp) (by simp; omega)
    rwa [get4 r0 (by omega)] at this
  simp only [e43, bind1_some, v43, bind2_some, castInt_int, wr, st4.faddr, st4.load1 (j := 0 + 0) (c := .int .u64 salt) rfl, st4.load1 (j := 0 + 1) (c := .int .i64 p) rfl]
  refine To2.bind2 (head20 hf h0) ?_
  intro v5 h5 q5
  unfold HeadQ at q5
  rw [if_neg (by omega)] at q5
  obtain ⟨y, rfl, n5⟩ := q5
  have k5 := n5.2.2.1
  have hq : decide ((headB salt p r).length ≤ (headB salt p r ++ rest).length) = true := decide_eq_true (by simp)
  have hq2 : (by8 ((headB salt p r ++ rest).take (headB salt p r).length) == by8 (headB salt p r)) = true := by rw [List.take_left' rfl]; exact beq_self_eq_true _
  have hb0 : ((0 : Int) != 0) = false := by decide
  simp only [castTup_tup, castCons_cons, castInt_int, castNil_nil, hb0, cB_false, pre88 (s4.kp k5) n5.1, bind2_some, castBool_bool, hq, hq2, Bool.and_self, Bool.not_true, (st4.kp k5).loadN' (n := 4) rfl, bind1_some, castAgg_agg]
  have sx : St h5 h.length zF := ((st.kp k2).kp k24).kp k5
  refine To2.bind2 (sx.storeN (ds := [.int .u64 salt, .int .i64 p, .nils, .nils]) rfl (by decide) rfl (n := 4) rfl) ?_
  rintro u6 h6 ⟨st6, k6⟩
  simp only [show evLoadN h6 4 (.ptr h.length 0 0) = some (.agg [.int .u64 salt, .int .i64 p, .nils, .nils]) from st6.loadN, bind1_some]
  exact To2.some ⟨rfl, (((k1.tr k2).tr k24).tr k5).trans k6 (fun j hj => by cases hj) (fun j hj hlt => by simp at hj; omega)⟩
end Go.Proofs.Ytdcdmpgigmhhpaa.Jb
