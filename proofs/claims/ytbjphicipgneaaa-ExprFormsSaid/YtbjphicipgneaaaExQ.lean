/- Expressions: the document's function that says whether two are alike. No condition. -/
import Derived.Test.YtbjphicipgneaaaExP
namespace Go.Proofs.Ytbjphicipgneaaa.Ex
open Go Go.Proofs.Ytbjphicipgneaaa.E
open Go.Proofs.Ytbjphicipgneaaa.Ln
set_option maxRecDepth 100000
set_option linter.unusedVariables false
set_option linter.unusedSimpArgs false

abbrev Same49 (lf k : Nat) (I J : Nat → Prop) (x y : X) : Prop := ∀ (n m : Nd) (pv qv : V) (ps qs : List X) (h : List Ob), x = .mk n ps → y = .mk m qs → Ex I h (.agg (aC n pv)) x → Ex J h (.agg (aC m qv)) y →
  To2 (F49 lf (R49 lf k) n.k n.op n.vk n.vn n.vs n.tb n.cl pv m.k m.op m.vk m.vn m.vs m.tb m.cl qv h) fun v h' => v = .bool (eqB (k + 1) x y) ∧ Kp h h' []
theorem loop49 (lf k : Nat) {I J : Nat → Prop} {h0 : List Ob} {ia ib : Nat} {n m : Nd} {pv qv : V} {es fs : List V} {ps qs : List X} (sa : St h0 ia (aC n pv)) (sb : St h0 ib (aC m qv)) (s : Sl 8 h0 pv es) (hl : es.length = ps.length) (hp : ∀ (i : Nat) (e : V) (p : X), es[i]? = some e → ps[i]? = some p → Ex I h0 e p)
    (s' : Sl 8 h0 qv fs) (hl' : fs.length = qs.length) (hp' : ∀ (i : Nat) (e : V) (p : X), fs[i]? = some e → qs[i]? = some p → Ex J h0 e p) (hq : qs.length = ps.length) (hw : ps.length ≤ 4611686018427387904) (IH : ∀ p, p ∈ ps → ∀ q, Same49 lf k I J p q) :
    ∀ (r i f : Nat) (h : List Ob), ps.length = i + r → r < f → Kp h0 h [] → To3 (L49_1 lf (R49 lf (k + 1)) f (.ptr ia 0 0) (.ptr ib 0 0) ps.length i h) fun x vs h' => Kp h0 h' [] ∧ if allB (k + 1) ps qs i = true then x = .exit 0 ∧ vs = [] else x = .ret ∧ vs = [.bool false] := by
  intro r
  induction r with
  | zero =>
    intro i f h hm hf kp
    obtain ⟨f, rfl⟩ : ∃ g, f = g + 1 := ⟨f - 1, by omega⟩
    have hd : decide ((i : Int) < (ps.length : Int)) = false := decide_eq_false (by omega)
    simp only [L49_1, B49_1, hd, cB_false]
    refine To3.some ⟨kp, ?_⟩
    rw [if_pos (allB_end (by omega))]
    exact ⟨rfl, rfl⟩
  | succ r ih =>
    intro i f h hm hf kp
    obtain ⟨f, rfl⟩ : ∃ g, f = g + 1 := ⟨f - 1, by omega⟩
    have hlt : i < ps.length := by omega
    have hlt' : i < qs.length := by omega
    have hd : decide ((i : Int) < (ps.length : Int)) = true := decide_eq_true (by omega)
    have w1 : IntKind.i64.wrap ((i : Int) + 1) = ((i + 1 : Nat) : Int) := by rw [wrap_i64 (by omega) (by omega)]; omega
    obtain ⟨a, n1, pv1, ps1, e1, a1, a2, x1, c1⟩ := Ex.at (s.kp kp) hl (fun i e p g1 g2 => (hp i e p g1 g2).kp kp) hlt
    obtain ⟨b, m1, qv1, qs1, e2, b1, b2, y1, c2⟩ := Ex.at (s'.kp kp) hl' (fun i e p g1 g2 => (hp' i e p g1 g2).kp kp) hlt'
    have fa := (sa.kp kp).faddr 7 0 0
    have fb := (sb.kp kp).faddr 7 0 0
    have la : er (.load1 (.c (.ptr ia 0 7))) h = some pv := (sa.kp kp).load1 rfl
    have lb : er (.load1 (.c (.ptr ib 0 7))) h = some qv := (sb.kp kp).load1 rfl
    have erc : ∀ h5, R49 lf (k + 1) 49 [.agg (aC n1 pv1), .agg (aC m1 qv1)] h5 = F49 lf (R49 lf k) n1.k n1.op n1.vk n1.vn n1.vs n1.tb n1.cl pv1 m1.k m1.op m1.vk m1.vn m1.vs m1.tb m1.cl qv1 h5 := fun h5 => rfl
    simp only [Nat.zero_add] at fa fb
    simp only [L49_1, B49_1, hd, cB_true, fa, fb, la, lb, a1, a2, b1, b2, bind1_some, castAgg_agg, castCons_cons, castInt_int, castStr_str, castNil_nil, w1, erc]
    refine To3.bind2 (IH ps[i] (List.getElem_mem hlt) qs[i] n1 m1 pv1 qv1 ps1 qs1 h e1 e2 (e1 ▸ x1) (e2 ▸ y1)) ?_
    rintro v h5 ⟨rfl, k5⟩
    have kp5 := kp.tr k5
    rw [castBool_bool]
    cases hE : eqB (k + 1) ps[i] qs[i] with
    | false =>
      simp only [Bool.not_false, cB_true]
      refine To3.some ⟨kp5, ?_⟩
      rw [allB_step hlt hlt', hE, Bool.false_and, if_neg (by decide)]
      exact ⟨rfl, rfl⟩
    | true =>
      simp only [Bool.not_true, cB_false]
      rw [allB_step hlt hlt', hE, Bool.true_and]
      exact ih (i + 1) f h5 (by omega) (by omega) kp5
theorem same49_step (lf k w : Nat) (hw : w < lf) (hw2 : w ≤ 4611686018427387904) {I J : Nat → Prop} {x y : X} (hx : Fz w (k + 1) x) (IH : ∀ j, k = j + 1 → ∀ n ps, x = .mk n ps → ∀ p, p ∈ ps → ∀ q, Same49 lf j I J p q) : Same49 lf k I J x y := by
  intro n m pv qv ps qs h e1 e2 ex ey
  subst e1; subst e2
  obtain ⟨es, s, hi, hl, hp⟩ := ex.inv
  obtain ⟨fs, s', hi', hl', hp'⟩ := ey.inv
  have hpw : ps.length ≤ w := hx.1
  rw [eqB_mk, nd_eq]
  simp only [F49]
  refine To2.bind2 (box_to (cs := aC n pv) (aC_sc s)) ?_
  rintro v h1 ⟨rfl, st1, k1⟩
  refine To2.bind2 (box_to (cs := aC m qv) (aC_sc s')) ?_
  rintro v h2 ⟨rfl, st2, k2⟩
  have st1 := st1.kp k2
  have kk := k1.tr k2
  have fa := fun o => st1.faddr o 0 0
  have fb := fun o => st2.faddr o 0 0
  have a0 : er (.load1 (.c (.ptr h.length 0 0))) h2 = some (.int .i64 n.k) := st1.load1 rfl
  have a1 : er (.load1 (.c (.ptr h.length 0 1))) h2 = some (.str n.op) := st1.load1 rfl
  have a2 : er (.loadN 3 (.c (.ptr h.length 0 2))) h2 = some (.agg [.int .i64 n.vk, .int .i64 n.vn, .str n.vs]) := loadP st1 (by simp) (by decide)
  have a5 : er (.load1 (.c (.ptr h.length 0 5))) h2 = some (.str n.tb) := st1.load1 rfl
  have a6 : er (.load1 (.c (.ptr h.length 0 6))) h2 = some (.str n.cl) := st1.load1 rfl
  have a7 : er (.load1 (.c (.ptr h.length 0 7))) h2 = some pv := st1.load1 rfl
  have b0 : er (.load1 (.c (.ptr h1.length 0 0))) h2 = some (.int .i64 m.k) := st2.load1 rfl
  have b1 : er (.load1 (.c (.ptr h1.length 0 1))) h2 = some (.str m.op) := st2.load1 rfl
  have b2 : er (.loadN 3 (.c (.ptr h1.length 0 2))) h2 = some (.agg [.int .i64 m.vk, .int .i64 m.vn, .str m.vs]) := loadP st2 (by simp) (by decide)
  have b5 : er (.load1 (.c (.ptr h1.length 0 5))) h2 = some (.str m.tb) := st2.load1 rfl
  have b6 : er (.load1 (.c (.ptr h1.length 0 6))) h2 = some (.str m.cl) := st2.load1 rfl
  have b7 : er (.load1 (.c (.ptr h1.length 0 7))) h2 = some qv := st2.load1 rfl
  simp only [Nat.zero_add] at fa fb
  have la := er_lenL (s.kp kk)
  have lb := er_lenL (s'.kp kk)
  rw [hl] at la
  rw [hl'] at lb
  have hS : S49_0 lf (R49 lf k) (.ptr h.length 0 0) (.ptr h1.length 0 0) h2 = some (.normal, [.bool (!(n.k == m.k && (n.op == m.op && ((n.vk == m.vk && (n.vn == m.vn && n.vs == m.vs)) && (n.tb == m.tb && (n.cl == m.cl && decide (ps.length = qs.length))))))) ], h2) := by
    have hne : ((ps.length : Int) != (qs.length : Int)) = !(decide (ps.length = qs.length)) := by
      by_cases q : ps.length = qs.length
      · simp [q]
      · have : (ps.length : Int) ≠ (qs.length : Int) := by omega
        simp [q, this]
    simp only [S49_0, fa, fb, a0, a1, a2, a5, a6, a7, b0, b1, b2, b5, b6, b7, la, lb, bind1_some, castAgg_agg, castCons_cons, castInt_int, castStr_str, castNil_nil, neV3, castBool_bool, hne]
    have hk : (n.k != m.k) = !(n.k == m.k) := rfl
    rw [hk]
    cases (n.k == m.k) <;> cases (n.op == m.op) <;> cases (n.vk == m.vk && (n.vn == m.vn && n.vs == m.vs)) <;> cases (n.tb == m.tb) <;> cases (n.cl == m.cl) <;> rfl
  rw [hS, bind3_some]
  simp only [decide_true, cB_true, castCons_cons, castBool_bool, castNil_nil]
  have hall : (n.k == m.k && (n.op == m.op && ((n.vk == m.vk && (n.vn == m.vn && n.vs == m.vs)) && (n.tb == m.tb && n.cl == m.cl))) && (decide (ps.length = qs.length) && allB k ps qs 0)) =
      ((n.k == m.k && (n.op == m.op && ((n.vk == m.vk && (n.vn == m.vn && n.vs == m.vs)) && (n.tb == m.tb && (n.cl == m.cl && decide (ps.length = qs.length)))))) && allB k ps qs 0) := by
    simp only [Bool.and_assoc]
  rw [hall]
  cases hc : (n.k == m.k && (n.op == m.op && ((n.vk == m.vk && (n.vn == m.vn && n.vs == m.vs)) && (n.tb == m.tb && (n.cl == m.cl && decide (ps.length = qs.length)))))) with
  | false =>
    simp only [Bool.not_false, cB_true, Bool.false_and]
    exact To2.some ⟨rfl, kk⟩
  | true =>
    have hlen : qs.length = ps.length := by
      simp only [Bool.and_eq_true, decide_eq_true_eq] at hc
      exact hc.2.2.2.2.2.symm
    simp only [Bool.not_true, cB_false, Bool.true_and, fa, a7, la, bind1_some, castInt_int]
    have hL : To3 (L49_1 lf (R49 lf k) lf (.ptr h.length 0 0) (.ptr h1.length 0 0) ps.length (0 : Int) h2) fun x vs h' => Kp h2 h' [] ∧ if allB k ps qs 0 = true then x = .exit 0 ∧ vs = [] else x = .ret ∧ vs = [.bool false] := by
      cases k with
      | zero =>
        have hps : ps = [] := by
          cases ps with
          | nil => rfl
          | cons p t => exact absurd (hx.2 p (by simp)) (by simp [Fz])
        subst hps
        obtain ⟨g, rfl⟩ : ∃ g, lf = g + 1 := ⟨lf - 1, by omega⟩
        exact ⟨.exit 0, [], h2, rfl, Kp.refl _ _, rfl, rfl⟩
      | succ j => exact loop49 lf j st1 st2 (s.kp kk) hl (fun i e p g1 g2 => (hp i e p g1 g2).kp kk) (s'.kp kk) hl' (fun i e p g1 g2 => (hp' i e p g1 g2).kp kk) hlen (by omega) (fun p hpp q => IH j rfl n ps rfl p hpp q) ps.length 0 lf h2 (by omega) (by omega) (Kp.refl _ _)
    refine To2.bind3 hL ?_
    rintro x vs h3 ⟨k3, r⟩
    cases hB : allB k ps qs 0 with
    | true =>
      rw [hB, if_pos rfl] at r
      obtain ⟨rfl, rfl⟩ := r
      simp only [decide_true, cB_true, castNil_nil]
      exact To2.some ⟨rfl, kk.tr k3⟩
    | false =>
      rw [hB, if_neg (by decide)] at r
      obtain ⟨rfl, rfl⟩ := r
      simp only [show decide (EX.ret = EX.exit 0) = false from rfl, cB_false, decide_true, cB_true, castCons_cons, castBool_bool, castNil_nil]
      exact To2.some ⟨rfl, kk.tr k3⟩
theorem same49 (lf w : Nat) (hw : w < lf) (hw2 : w ≤ 4611686018427387904) {I J : Nat → Prop} : ∀ (k : Nat) (x y : X), Fz w (k + 1) x → Same49 lf k I J x y := by
  intro k
  induction k with
  | zero => intro x y hx; exact same49_step lf 0 w hw hw2 hx (fun j hj => by omega)
  | succ k ih =>
    intro x y hx
    refine same49_step lf (k + 1) w hw hw2 hx (fun j hj n ps e p hp q => ?_)
    obtain rfl : k = j := by omega
    subst e
    exact ih p q (hx.2 p hp)
end Go.Proofs.Ytbjphicipgneaaa.Ex
