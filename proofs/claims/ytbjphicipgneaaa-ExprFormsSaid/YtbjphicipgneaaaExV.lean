/- Expressions: the law's body. No condition. -/
import Derived.Test.YtbjphicipgneaaaExU
namespace Go.Proofs.Ytbjphicipgneaaa.Ex
open Go Go.Proofs.Ytbjphicipgneaaa.E
open Go.Proofs.Ytbjphicipgneaaa.Ln
open Go.Proofs.Ytbjphicipgneaaa.Aw
set_option maxRecDepth 100000
set_option linter.unusedVariables false
set_option linter.unusedSimpArgs false
theorem To3.mono' {o : SubR} {Q R : EX → List V → List Ob → Prop} (a : To3 o Q) (b : ∀ x vs h, Q x vs h → R x vs h) : To3 o R := by
  obtain ⟨x, vs, h, e, q⟩ := a
  exact ⟨x, vs, h, e, b _ _ _ q⟩
theorem tail9 {lf w wz d : Nat} (hf : 1000 < lf) (hw : w < lf) (hw3 : w ≤ 4611686018427387904) (hz : wz < lf) (hz2 : wz ≤ 1000000000000000) {n m : Nd} {pv qv pv' qv' : V} {ps qs : List X} {h : List Ob} {ia ib ix iy : Nat} {I1 I2 I3 I4 : Nat → Prop}
    (zx : Fz w (lf + 1) (.mk n ps)) (dx : Wz wz d (.mk n ps)) (sa : St h ia (aC n pv)) (sb : St h ib (aC m qv)) (sx : St h ix (aC n pv')) (sy : St h iy (aC m qv'))
    (ea : Ex I1 h (.agg (aC n pv)) (.mk n ps)) (eb : Ex I2 h (.agg (aC m qv)) (.mk m qs)) (ex : Ex I3 h (.agg (aC n pv')) (.mk n ps)) (ey : Ex I4 h (.agg (aC m qv')) (.mk m qs)) :
    To3 (S9_0 lf (.ptr ia 0 0) (.ptr ib 0 0) (.ptr ix 0 0) (.ptr iy 0 0) h) fun x vs h' => x = .ret ∧ vs = [.bool true] := by
  have la : er (.loadN 8 (.c (.ptr ia 0 0))) h = some (.agg (aC n pv)) := sa.loadN' rfl
  have lx : er (.loadN 8 (.c (.ptr ix 0 0))) h = some (.agg (aC n pv')) := sx.loadN' rfl
  simp only [S9_0, la, lx, bind1_some, castAgg_agg, castCons_cons, castInt_int, castStr_str, castNil_nil]
  refine To3.bind2 (formed46 hf hz hz2 dx ex) ?_
  rintro v h1 ⟨rfl, k1⟩
  have la1 : er (.loadN 8 (.c (.ptr ia 0 0))) h1 = some (.agg (aC n pv)) := (sa.kp k1).loadN' rfl
  rw [castBool_bool, reP_pos _ la1]
  refine To3.bind2 (formed47 hf hz hz2 dx (ea.kp k1)) ?_
  rintro v h2 ⟨rfl, k2⟩
  have k12 := k1.tr k2
  have la2 : er (.loadN 8 (.c (.ptr ia 0 0))) h2 = some (.agg (aC n pv)) := (sa.kp k12).loadN' rfl
  have lb2 : er (.loadN 8 (.c (.ptr ib 0 0))) h2 = some (.agg (aC m qv)) := (sb.kp k12).loadN' rfl
  have lx2 : er (.loadN 8 (.c (.ptr ix 0 0))) h2 = some (.agg (aC n pv')) := (sx.kp k12).loadN' rfl
  have ly2 : er (.loadN 8 (.c (.ptr iy 0 0))) h2 = some (.agg (aC m qv')) := (sy.kp k12).loadN' rfl
  simp only [castBool_bool, beq_self_eq_true, cB_true, la2, lb2, lx2, ly2, bind1_some, castAgg_agg, castCons_cons, castInt_int, castStr_str, castNil_nil]
  refine To3.bind2 (same48 lf w hw hw3 lf _ _ zx n m pv' qv' ps qs h2 rfl rfl (ex.kp k12) (ey.kp k12)) ?_
  rintro v h3 ⟨rfl, k3⟩
  have k13 := k12.tr k3
  have la3 : er (.loadN 8 (.c (.ptr ia 0 0))) h3 = some (.agg (aC n pv)) := (sa.kp k13).loadN' rfl
  have lb3 : er (.loadN 8 (.c (.ptr ib 0 0))) h3 = some (.agg (aC m qv)) := (sb.kp k13).loadN' rfl
  rw [castBool_bool, reP_pos _ lb3, reP_pos _ la3]
  refine To3.bind2 (same49 lf w hw hw3 lf _ _ zx n m pv qv ps qs h3 rfl rfl (ea.kp k13) (eb.kp k13)) ?_
  rintro v h4 ⟨rfl, k4⟩
  have k14 := k13.tr k4
  have lx4 : er (.loadN 8 (.c (.ptr ix 0 0))) h4 = some (.agg (aC n pv')) := (sx.kp k14).loadN' rfl
  simp only [castBool_bool, beq_self_eq_true, cB_true, lx4, bind1_some, castAgg_agg, castCons_cons, castInt_int, castStr_str, castNil_nil]
  refine To3.bind2 (same48 lf w hw hw3 lf _ _ zx n n pv' pv' ps ps h4 rfl rfl (ex.kp k14) (ex.kp k14)) ?_
  rintro v h5 ⟨rfl, k5⟩
  rw [castBool_bool, eqB_self _ _ zx.dp]
  exact To3.some ⟨rfl, rfl⟩
theorem head9 {lf w : Nat} (hw : w < lf) (hw2 : w ≤ 4611686018427387904) {k : Nat} (hk : k ≤ lf) {n m : Nd} {pv qv : V} {ps qs : List X} {h : List Ob} {ia ib : Nat} {I1 I2 : Nat → Prop}
    (zx : Fz w k (.mk n ps)) (zy : Fz w k (.mk m qs)) (sa : St h ia (aC n pv)) (sb : St h ib (aC m qv))
    (ea : Ex I1 h (.agg (aC n pv)) (.mk n ps)) (eb : Ex I2 h (.agg (aC m qv)) (.mk m qs)) :
    To3 (S9_1 lf (.ptr ia 0 0) (.ptr ib 0 0) h) fun x vs h' => Kp h h' [] ∧ (x = .ret ∧ vs = [.bool true] ∨ x = .normal ∧ vs = []) := by
  have la : er (.loadN 8 (.c (.ptr ia 0 0))) h = some (.agg (aC n pv)) := sa.loadN' rfl
  simp only [S9_1, F43, bind2_some, castBool_bool, Bool.not_true, cB_false, la, bind1_some, castAgg_agg, castCons_cons, castInt_int, castStr_str, castNil_nil]
  refine To3.bind2 (small44 hw hw2 hk zx ea) ?_
  rintro v h1 ⟨⟨b, rfl⟩, k1⟩
  rw [castBool_bool]
  cases b with
  | false => rw [Bool.not_false, cB_true]; exact To3.some ⟨k1, .inl ⟨rfl, rfl⟩⟩
  | true =>
    have lb1 : er (.loadN 8 (.c (.ptr ib 0 0))) h1 = some (.agg (aC m qv)) := (sb.kp k1).loadN' rfl
    simp only [Bool.not_true, cB_false, lb1, bind1_some, castAgg_agg, castCons_cons, castInt_int, castStr_str, castNil_nil]
    refine To3.bind2 (small44 hw hw2 hk zy (eb.kp k1)) ?_
    rintro v h2 ⟨⟨b, rfl⟩, k2⟩
    rw [castBool_bool]
    cases b with
    | false => rw [Bool.not_false, cB_true]; exact To3.some ⟨k1.tr k2, .inl ⟨rfl, rfl⟩⟩
    | true => rw [Bool.not_true, cB_false]; exact To3.some ⟨k1.tr k2, .inr ⟨rfl, rfl⟩⟩
theorem alt9_0 {lf w wz d : Nat} (hf : 1000 < lf) (hw : w < lf) (hw2 : w * 112 ≤ 140737488355328) (hz : wz < lf) (hz2 : wz ≤ 1000000000000000) {n m : Nd} {pv qv : V} {ps qs : List X} {h : List Ob} {ia ib : Nat} {I1 I2 : Nat → Prop}
    (zx : Fz w (lf + 1) (.mk n ps)) (zy : Fz w (lf + 1) (.mk m qs)) (dx : Wz wz d (.mk n ps)) (sa : St h ia (aC n pv)) (sb : St h ib (aC m qv))
    (ea : Ex I1 h (.agg (aC n pv)) (.mk n ps)) (eb : Ex I2 h (.agg (aC m qv)) (.mk m qs)) : ToP (A9_0 lf (fun v _ => v = .bool true) (.ptr ia 0 0) (.ptr ib 0 0) h) := by
  have la : er (.loadN 8 (.c (.ptr ia 0 0))) h = some (.agg (aC n pv)) := sa.loadN' rfl
  have lb : er (.loadN 8 (.c (.ptr ib 0 0))) h = some (.agg (aC m qv)) := sb.loadN' rfl
  simp only [A9_0, la, lb, bind1_some, castAgg_agg, castCons_cons, castInt_int, castStr_str, castNil_nil]
  refine ToP.bind2 (th_all lf w hw (by omega) lf _ zx n pv ps h rfl (ea.kp (Kp.refl h []))) ?_
  rintro v h1 ⟨⟨qa, rfl, eaa⟩, k1⟩
  rw [castAgg_agg, castCons_cons, castInt_int, castCons_cons, castStr_str, castCons_cons, castInt_int, castCons_cons, castInt_int, castCons_cons, castStr_str, castCons_cons, castStr_str, castCons_cons, castStr_str, castCons_cons, castNil_nil]
  rw [reP_pos _ (show er (.loadN 8 (.c (.ptr ib 0 0))) h1 = some (.agg (aC m qv)) from (sb.kp k1).loadN' rfl)]
  refine ToP.bind2 (th_all lf w hw (by omega) lf _ zy m qv qs h1 rfl (eb.kp k1)) ?_
  rintro v h2 ⟨⟨qb, rfl, ebb⟩, k2⟩
  rw [castAgg_agg, castCons_cons, castInt_int, castCons_cons, castStr_str, castCons_cons, castInt_int, castCons_cons, castInt_int, castCons_cons, castStr_str, castCons_cons, castStr_str, castCons_cons, castStr_str, castCons_cons, castNil_nil]
  refine ToP.bind2 (alloc_to (cs := zC) rfl) ?_
  rintro v h3 ⟨rfl, stX, k3⟩
  refine ToP.bind2 (alloc_to (cs := zC) rfl) ?_
  rintro v h4 ⟨rfl, stY, k4⟩
  refine ToP.bind2 ((stX.kp k4).storeN (ds := aC n qa) rfl (by simp) (by obtain ⟨_, s, _⟩ := eaa.inv; exact aC_sc s) rfl) ?_
  rintro u g1 ⟨sx, j1⟩
  have ki := (((k1.tr k2).tr k3).tr k4)
  have lx : h.length ≤ h2.length := (k1.tr k2).len
  have ly : h.length ≤ h3.length := ((k1.tr k2).tr k3).len
  have ltX := stX.lt
  have ltY := stY.lt
  have lXY : h2.length ≠ h3.length := by
    have := (Kp.refl h3 []).len
    omega
  refine ToP.bind2 (((stY.kp (Kp.refl h4 [])).keep j1 (by intro z; simp at z; omega)).storeN (ds := aC m qb) rfl (by simp) (by obtain ⟨_, s, _⟩ := ebb.inv; exact aC_sc s) rfl) ?_
  rintro u g2 ⟨sy, j2⟩
  have sx2 := sx.keep j2 (by intro z; simp at z; omega)
  have kg1 : Kp h g1 [] := ki.trans j1 (fun j hj => by cases hj) (fun j hj hl => by simp at hj; omega)
  have kg : Kp h g2 [] := kg1.trans j2 (fun j hj => by cases hj) (fun j hj hl => by simp at hj; omega)
  have n1 := k1.len
  have n2 := k2.len
  have n3 := k3.len
  have n4 := k4.len
  have ea1 := (eaa.mono (J := fun j => h.length ≤ j ∧ j < h1.length) (fun j p q => ⟨q, p⟩)).kp ((k2.tr k3).tr k4)
  have eb1 := (ebb.mono (J := fun j => h1.length ≤ j ∧ j < h2.length) (fun j p q => ⟨q, p⟩)).kp (k3.tr k4)
  have ea2 := (ea1.keep j1 (by intro z hz; simp at hz; omega)).keep j2 (by intro z hz; simp at hz; omega)
  have eb2 := (eb1.keep j1 (by intro z hz; simp at hz; omega)).keep j2 (by intro z hz; simp at hz; omega)
  refine ToP.bind3 (tail9 hf hw (by omega) hz hz2 zx dx (sa.kp kg) (sb.kp kg) sx2 sy (ea.kp kg) (eb.kp kg) ea2 eb2) ?_
  rintro x vs g3 ⟨rfl, rfl⟩
  simp only [decide_true, cB_true, castCons_cons, castBool_bool, castNil_nil]
  exact ToP.some True.intro
theorem alt9_1 {lf w wz d : Nat} (hf : 1000 < lf) (hw : w < lf) (hw2 : w * 112 ≤ 140737488355328) (hz : wz < lf) (hz2 : wz ≤ 1000000000000000) {n m : Nd} {pv qv : V} {ps qs : List X} {h : List Ob} {ia ib : Nat} {I1 I2 : Nat → Prop}
    (zx : Fz w (lf + 1) (.mk n ps)) (zy : Fz w (lf + 1) (.mk m qs)) (dx : Wz wz d (.mk n ps)) (sa : St h ia (aC n pv)) (sb : St h ib (aC m qv))
    (ea : Ex I1 h (.agg (aC n pv)) (.mk n ps)) (eb : Ex I2 h (.agg (aC m qv)) (.mk m qs)) : ToP (A9_1 lf (fun v _ => v = .bool true) (.ptr ia 0 0) (.ptr ib 0 0) h) := by
  have la : er (.loadN 8 (.c (.ptr ia 0 0))) h = some (.agg (aC n pv)) := sa.loadN' rfl
  have lb : er (.loadN 8 (.c (.ptr ib 0 0))) h = some (.agg (aC m qv)) := sb.loadN' rfl
  simp only [A9_1, la, lb, bind1_some, castAgg_agg, castCons_cons, castInt_int, castStr_str, castNil_nil]
  refine ToP.bind2 (th_all lf w hw (by omega) lf _ zx n pv ps h rfl (ea.kp (Kp.refl h []))) ?_
  rintro v h1 ⟨⟨qa, rfl, eaa⟩, k1⟩
  rw [castAgg_agg, castCons_cons, castInt_int, castCons_cons, castStr_str, castCons_cons, castInt_int, castCons_cons, castInt_int, castCons_cons, castStr_str, castCons_cons, castStr_str, castCons_cons, castStr_str, castCons_cons, castNil_nil]
  rw [reP_pos _ (show er (.loadN 8 (.c (.ptr ib 0 0))) h1 = some (.agg (aC m qv)) from (sb.kp k1).loadN' rfl)]
  refine ToP.bind2 (th_all lf w hw (by omega) lf _ zy m qv qs h1 rfl (eb.kp k1)) ?_
  rintro v h2 ⟨⟨qb, rfl, ebb⟩, k2⟩
  rw [castAgg_agg, castCons_cons, castInt_int, castCons_cons, castStr_str, castCons_cons, castInt_int, castCons_cons, castInt_int, castCons_cons, castStr_str, castCons_cons, castStr_str, castCons_cons, castStr_str, castCons_cons, castNil_nil]
  refine ToP.bind2 (alloc_to (cs := zC) rfl) ?_
  rintro v h3 ⟨rfl, stY, k3⟩
  refine ToP.bind2 (alloc_to (cs := zC) rfl) ?_
  rintro v h4 ⟨rfl, stX, k4⟩
  refine ToP.bind2 ((stX.kp (Kp.refl h4 [])).storeN (ds := aC n qa) rfl (by simp) (by obtain ⟨_, s, _⟩ := eaa.inv; exact aC_sc s) rfl) ?_
  rintro u g1 ⟨sx, j1⟩
  have ki := (((k1.tr k2).tr k3).tr k4)
  have lx : h.length ≤ h3.length := ((k1.tr k2).tr k3).len
  have ly : h.length ≤ h2.length := (k1.tr k2).len
  have ltX := stX.lt
  have ltY := stY.lt
  have lXY : h3.length ≠ h2.length := by
    have := (Kp.refl h3 []).len
    omega
  refine ToP.bind2 (((stY.kp k4).keep j1 (by intro z; simp at z; omega)).storeN (ds := aC m qb) rfl (by simp) (by obtain ⟨_, s, _⟩ := ebb.inv; exact aC_sc s) rfl) ?_
  rintro u g2 ⟨sy, j2⟩
  have sx2 := sx.keep j2 (by intro z; simp at z; omega)
  have kg1 : Kp h g1 [] := ki.trans j1 (fun j hj => by cases hj) (fun j hj hl => by simp at hj; omega)
  have kg : Kp h g2 [] := kg1.trans j2 (fun j hj => by cases hj) (fun j hj hl => by simp at hj; omega)
  have n1 := k1.len
  have n2 := k2.len
  have n3 := k3.len
  have n4 := k4.len
  have ea1 := (eaa.mono (J := fun j => h.length ≤ j ∧ j < h1.length) (fun j p q => ⟨q, p⟩)).kp ((k2.tr k3).tr k4)
  have eb1 := (ebb.mono (J := fun j => h1.length ≤ j ∧ j < h2.length) (fun j p q => ⟨q, p⟩)).kp (k3.tr k4)
  have ea2 := (ea1.keep j1 (by intro z hz; simp at hz; omega)).keep j2 (by intro z hz; simp at hz; omega)
  have eb2 := (eb1.keep j1 (by intro z hz; simp at hz; omega)).keep j2 (by intro z hz; simp at hz; omega)
  refine ToP.bind3 (tail9 hf hw (by omega) hz hz2 zx dx (sa.kp kg) (sb.kp kg) sx2 sy (ea.kp kg) (eb.kp kg) ea2 eb2) ?_
  rintro x vs g3 ⟨rfl, rfl⟩
  simp only [decide_true, cB_true, castCons_cons, castBool_bool, castNil_nil]
  exact ToP.some True.intro
theorem alt9_2 {lf w wz d : Nat} (hf : 1000 < lf) (hw : w < lf) (hw2 : w * 112 ≤ 140737488355328) (hz : wz < lf) (hz2 : wz ≤ 1000000000000000) {n m : Nd} {pv qv : V} {ps qs : List X} {h : List Ob} {ia ib : Nat} {I1 I2 : Nat → Prop}
    (zx : Fz w (lf + 1) (.mk n ps)) (zy : Fz w (lf + 1) (.mk m qs)) (dx : Wz wz d (.mk n ps)) (sa : St h ia (aC n pv)) (sb : St h ib (aC m qv))
    (ea : Ex I1 h (.agg (aC n pv)) (.mk n ps)) (eb : Ex I2 h (.agg (aC m qv)) (.mk m qs)) : ToP (A9_2 lf (fun v _ => v = .bool true) (.ptr ia 0 0) (.ptr ib 0 0) h) := by
  have la : er (.loadN 8 (.c (.ptr ia 0 0))) h = some (.agg (aC n pv)) := sa.loadN' rfl
  have lb : er (.loadN 8 (.c (.ptr ib 0 0))) h = some (.agg (aC m qv)) := sb.loadN' rfl
  simp only [A9_2, la, lb, bind1_some, castAgg_agg, castCons_cons, castInt_int, castStr_str, castNil_nil]
  refine ToP.bind2 (th_all lf w hw (by omega) lf _ zx n pv ps h rfl (ea.kp (Kp.refl h []))) ?_
  rintro v h1 ⟨⟨qa, rfl, eaa⟩, k1⟩
  rw [castAgg_agg, castCons_cons, castInt_int, castCons_cons, castStr_str, castCons_cons, castInt_int, castCons_cons, castInt_int, castCons_cons, castStr_str, castCons_cons, castStr_str, castCons_cons, castStr_str, castCons_cons, castNil_nil]
  rw [reP_pos _ (show er (.loadN 8 (.c (.ptr ib 0 0))) h1 = some (.agg (aC m qv)) from (sb.kp k1).loadN' rfl)]
  refine ToP.bind2 (alloc_to (cs := zC) rfl) ?_
  rintro v h2 ⟨rfl, stX, k2⟩
  rw [reP_pos _ (show er (.loadN 8 (.c (.ptr ib 0 0))) h2 = some (.agg (aC m qv)) from (sb.kp (k1.tr k2)).loadN' rfl)]
  refine ToP.bind2 (th_all lf w hw (by omega) lf _ zy m qv qs h2 rfl (eb.kp (k1.tr k2))) ?_
  rintro v h3 ⟨⟨qb, rfl, ebb⟩, k3⟩
  rw [castAgg_agg, castCons_cons, castInt_int, castCons_cons, castStr_str, castCons_cons, castInt_int, castCons_cons, castInt_int, castCons_cons, castStr_str, castCons_cons, castStr_str, castCons_cons, castStr_str, castCons_cons, castNil_nil]
  refine ToP.bind2 (alloc_to (cs := zC) rfl) ?_
  rintro v h4 ⟨rfl, stY, k4⟩
  refine ToP.bind2 ((stX.kp (k3.tr k4)).storeN (ds := aC n qa) rfl (by simp) (by obtain ⟨_, s, _⟩ := eaa.inv; exact aC_sc s) rfl) ?_
  rintro u g1 ⟨sx, j1⟩
  have ki := (((k1.tr k2).tr k3).tr k4)
  have lx : h.length ≤ h1.length := k1.len
  have ly : h.length ≤ h3.length := ((k1.tr k2).tr k3).len
  have ltX := stX.lt
  have ltY := stY.lt
  have lXY : h1.length ≠ h3.length := by
    have := k3.len
    omega
  refine ToP.bind2 (((stY.kp (Kp.refl h4 [])).keep j1 (by intro z; simp at z; omega)).storeN (ds := aC m qb) rfl (by simp) (by obtain ⟨_, s, _⟩ := ebb.inv; exact aC_sc s) rfl) ?_
  rintro u g2 ⟨sy, j2⟩
  have sx2 := sx.keep j2 (by intro z; simp at z; omega)
  have kg1 : Kp h g1 [] := ki.trans j1 (fun j hj => by cases hj) (fun j hj hl => by simp at hj; omega)
  have kg : Kp h g2 [] := kg1.trans j2 (fun j hj => by cases hj) (fun j hj hl => by simp at hj; omega)
  have n1 := k1.len
  have n2 := k2.len
  have n3 := k3.len
  have n4 := k4.len
  have ea1 := (eaa.mono (J := fun j => h.length ≤ j ∧ j < h1.length) (fun j p q => ⟨q, p⟩)).kp ((k2.tr k3).tr k4)
  have eb1 := (ebb.mono (J := fun j => h2.length ≤ j ∧ j < h3.length) (fun j p q => ⟨q, p⟩)).kp k4
  have ea2 := (ea1.keep j1 (by intro z hz; simp at hz; omega)).keep j2 (by intro z hz; simp at hz; omega)
  have eb2 := (eb1.keep j1 (by intro z hz; simp at hz; omega)).keep j2 (by intro z hz; simp at hz; omega)
  refine ToP.bind3 (tail9 hf hw (by omega) hz hz2 zx dx (sa.kp kg) (sb.kp kg) sx2 sy (ea.kp kg) (eb.kp kg) ea2 eb2) ?_
  rintro x vs g3 ⟨rfl, rfl⟩
  simp only [decide_true, cB_true, castCons_cons, castBool_bool, castNil_nil]
  exact ToP.some True.intro
theorem alt9_3 {lf w wz d : Nat} (hf : 1000 < lf) (hw : w < lf) (hw2 : w * 112 ≤ 140737488355328) (hz : wz < lf) (hz2 : wz ≤ 1000000000000000) {n m : Nd} {pv qv : V} {ps qs : List X} {h : List Ob} {ia ib : Nat} {I1 I2 : Nat → Prop}
    (zx : Fz w (lf + 1) (.mk n ps)) (zy : Fz w (lf + 1) (.mk m qs)) (dx : Wz wz d (.mk n ps)) (sa : St h ia (aC n pv)) (sb : St h ib (aC m qv))
    (ea : Ex I1 h (.agg (aC n pv)) (.mk n ps)) (eb : Ex I2 h (.agg (aC m qv)) (.mk m qs)) : ToP (A9_3 lf (fun v _ => v = .bool true) (.ptr ia 0 0) (.ptr ib 0 0) h) := by
  have la : er (.loadN 8 (.c (.ptr ia 0 0))) h = some (.agg (aC n pv)) := sa.loadN' rfl
  have lb : er (.loadN 8 (.c (.ptr ib 0 0))) h = some (.agg (aC m qv)) := sb.loadN' rfl
  simp only [A9_3, la, lb, bind1_some, castAgg_agg, castCons_cons, castInt_int, castStr_str, castNil_nil]
  refine ToP.bind2 (th_all lf w hw (by omega) lf _ zx n pv ps h rfl (ea.kp (Kp.refl h []))) ?_
  rintro v h1 ⟨⟨qa, rfl, eaa⟩, k1⟩
  rw [castAgg_agg, castCons_cons, castInt_int, castCons_cons, castStr_str, castCons_cons, castInt_int, castCons_cons, castInt_int, castCons_cons, castStr_str, castCons_cons, castStr_str, castCons_cons, castStr_str, castCons_cons, castNil_nil]
  rw [reP_pos _ (show er (.loadN 8 (.c (.ptr ib 0 0))) h1 = some (.agg (aC m qv)) from (sb.kp k1).loadN' rfl)]
  refine ToP.bind2 (alloc_to (cs := zC) rfl) ?_
  rintro v h2 ⟨rfl, stX, k2⟩
  rw [reP_pos _ (show er (.loadN 8 (.c (.ptr ib 0 0))) h2 = some (.agg (aC m qv)) from (sb.kp (k1.tr k2)).loadN' rfl)]
  refine ToP.bind2 (alloc_to (cs := zC) rfl) ?_
  rintro v h3 ⟨rfl, stY, k3⟩
  rw [reP_pos _ (show er (.loadN 8 (.c (.ptr ib 0 0))) h3 = some (.agg (aC m qv)) from (sb.kp ((k1.tr k2).tr k3)).loadN' rfl)]
  refine ToP.bind2 (th_all lf w hw (by omega) lf _ zy m qv qs h3 rfl (eb.kp ((k1.tr k2).tr k3))) ?_
  rintro v h4 ⟨⟨qb, rfl, ebb⟩, k4⟩
  rw [castAgg_agg, castCons_cons, castInt_int, castCons_cons, castStr_str, castCons_cons, castInt_int, castCons_cons, castInt_int, castCons_cons, castStr_str, castCons_cons, castStr_str, castCons_cons, castStr_str, castCons_cons, castNil_nil]
  refine ToP.bind2 ((stX.kp (k3.tr k4)).storeN (ds := aC n qa) rfl (by simp) (by obtain ⟨_, s, _⟩ := eaa.inv; exact aC_sc s) rfl) ?_
  rintro u g1 ⟨sx, j1⟩
  have ki := (((k1.tr k2).tr k3).tr k4)
  have lx : h.length ≤ h1.length := k1.len
  have ly : h.length ≤ h2.length := (k1.tr k2).len
  have ltX := stX.lt
  have ltY := stY.lt
  have lXY : h1.length ≠ h2.length := by
    have := (Kp.refl h2 []).len
    omega
  refine ToP.bind2 (((stY.kp k4).keep j1 (by intro z; simp at z; omega)).storeN (ds := aC m qb) rfl (by simp) (by obtain ⟨_, s, _⟩ := ebb.inv; exact aC_sc s) rfl) ?_
  rintro u g2 ⟨sy, j2⟩
  have sx2 := sx.keep j2 (by intro z; simp at z; omega)
  have kg1 : Kp h g1 [] := ki.trans j1 (fun j hj => by cases hj) (fun j hj hl => by simp at hj; omega)
  have kg : Kp h g2 [] := kg1.trans j2 (fun j hj => by cases hj) (fun j hj hl => by simp at hj; omega)
  have n1 := k1.len
  have n2 := k2.len
  have n3 := k3.len
  have n4 := k4.len
  have ea1 := (eaa.mono (J := fun j => h.length ≤ j ∧ j < h1.length) (fun j p q => ⟨q, p⟩)).kp ((k2.tr k3).tr k4)
  have eb1 := (ebb.mono (J := fun j => h3.length ≤ j ∧ j < h4.length) (fun j p q => ⟨q, p⟩)).kp (Kp.refl h4 [])
  have ea2 := (ea1.keep j1 (by intro z hz; simp at hz; omega)).keep j2 (by intro z hz; simp at hz; omega)
  have eb2 := (eb1.keep j1 (by intro z hz; simp at hz; omega)).keep j2 (by intro z hz; simp at hz; omega)
  refine ToP.bind3 (tail9 hf hw (by omega) hz hz2 zx dx (sa.kp kg) (sb.kp kg) sx2 sy (ea.kp kg) (eb.kp kg) ea2 eb2) ?_
  rintro x vs g3 ⟨rfl, rfl⟩
  simp only [decide_true, cB_true, castCons_cons, castBool_bool, castNil_nil]
  exact ToP.some True.intro
theorem alt9_4 {lf w wz d : Nat} (hf : 1000 < lf) (hw : w < lf) (hw2 : w * 112 ≤ 140737488355328) (hz : wz < lf) (hz2 : wz ≤ 1000000000000000) {n m : Nd} {pv qv : V} {ps qs : List X} {h : List Ob} {ia ib : Nat} {I1 I2 : Nat → Prop}
    (zx : Fz w (lf + 1) (.mk n ps)) (zy : Fz w (lf + 1) (.mk m qs)) (dx : Wz wz d (.mk n ps)) (sa : St h ia (aC n pv)) (sb : St h ib (aC m qv))
    (ea : Ex I1 h (.agg (aC n pv)) (.mk n ps)) (eb : Ex I2 h (.agg (aC m qv)) (.mk m qs)) : ToP (A9_4 lf (fun v _ => v = .bool true) (.ptr ia 0 0) (.ptr ib 0 0) h) := by
  have la : er (.loadN 8 (.c (.ptr ia 0 0))) h = some (.agg (aC n pv)) := sa.loadN' rfl
  have lb : er (.loadN 8 (.c (.ptr ib 0 0))) h = some (.agg (aC m qv)) := sb.loadN' rfl
  simp only [A9_4, la, lb, bind1_some, castAgg_agg, castCons_cons, castInt_int, castStr_str, castNil_nil]
  refine ToP.bind2 (th_all lf w hw (by omega) lf _ zx n pv ps h rfl (ea.kp (Kp.refl h []))) ?_
  rintro v h1 ⟨⟨qa, rfl, eaa⟩, k1⟩
  rw [castAgg_agg, castCons_cons, castInt_int, castCons_cons, castStr_str, castCons_cons, castInt_int, castCons_cons, castInt_int, castCons_cons, castStr_str, castCons_cons, castStr_str, castCons_cons, castStr_str, castCons_cons, castNil_nil]
  rw [reP_pos _ (show er (.loadN 8 (.c (.ptr ib 0 0))) h1 = some (.agg (aC m qv)) from (sb.kp k1).loadN' rfl)]
  refine ToP.bind2 (alloc_to (cs := zC) rfl) ?_
  rintro v h2 ⟨rfl, stY, k2⟩
  rw [reP_pos _ (show er (.loadN 8 (.c (.ptr ib 0 0))) h2 = some (.agg (aC m qv)) from (sb.kp (k1.tr k2)).loadN' rfl)]
  refine ToP.bind2 (th_all lf w hw (by omega) lf _ zy m qv qs h2 rfl (eb.kp (k1.tr k2))) ?_
  rintro v h3 ⟨⟨qb, rfl, ebb⟩, k3⟩
  rw [castAgg_agg, castCons_cons, castInt_int, castCons_cons, castStr_str, castCons_cons, castInt_int, castCons_cons, castInt_int, castCons_cons, castStr_str, castCons_cons, castStr_str, castCons_cons, castStr_str, castCons_cons, castNil_nil]
  refine ToP.bind2 (alloc_to (cs := zC) rfl) ?_
  rintro v h4 ⟨rfl, stX, k4⟩
  refine ToP.bind2 ((stX.kp (Kp.refl h4 [])).storeN (ds := aC n qa) rfl (by simp) (by obtain ⟨_, s, _⟩ := eaa.inv; exact aC_sc s) rfl) ?_
  rintro u g1 ⟨sx, j1⟩
  have ki := (((k1.tr k2).tr k3).tr k4)
  have lx : h.length ≤ h3.length := ((k1.tr k2).tr k3).len
  have ly : h.length ≤ h1.length := k1.len
  have ltX := stX.lt
  have ltY := stY.lt
  have lXY : h3.length ≠ h1.length := by
    have := k3.len
    omega
  refine ToP.bind2 (((stY.kp (k3.tr k4)).keep j1 (by intro z; simp at z; omega)).storeN (ds := aC m qb) rfl (by simp) (by obtain ⟨_, s, _⟩ := ebb.inv; exact aC_sc s) rfl) ?_
  rintro u g2 ⟨sy, j2⟩
  have sx2 := sx.keep j2 (by intro z; simp at z; omega)
  have kg1 : Kp h g1 [] := ki.trans j1 (fun j hj => by cases hj) (fun j hj hl => by simp at hj; omega)
  have kg : Kp h g2 [] := kg1.trans j2 (fun j hj => by cases hj) (fun j hj hl => by simp at hj; omega)
  have n1 := k1.len
  have n2 := k2.len
  have n3 := k3.len
  have n4 := k4.len
  have ea1 := (eaa.mono (J := fun j => h.length ≤ j ∧ j < h1.length) (fun j p q => ⟨q, p⟩)).kp ((k2.tr k3).tr k4)
  have eb1 := (ebb.mono (J := fun j => h2.length ≤ j ∧ j < h3.length) (fun j p q => ⟨q, p⟩)).kp k4
  have ea2 := (ea1.keep j1 (by intro z hz; simp at hz; omega)).keep j2 (by intro z hz; simp at hz; omega)
  have eb2 := (eb1.keep j1 (by intro z hz; simp at hz; omega)).keep j2 (by intro z hz; simp at hz; omega)
  refine ToP.bind3 (tail9 hf hw (by omega) hz hz2 zx dx (sa.kp kg) (sb.kp kg) sx2 sy (ea.kp kg) (eb.kp kg) ea2 eb2) ?_
  rintro x vs g3 ⟨rfl, rfl⟩
  simp only [decide_true, cB_true, castCons_cons, castBool_bool, castNil_nil]
  exact ToP.some True.intro
theorem alt9_5 {lf w wz d : Nat} (hf : 1000 < lf) (hw : w < lf) (hw2 : w * 112 ≤ 140737488355328) (hz : wz < lf) (hz2 : wz ≤ 1000000000000000) {n m : Nd} {pv qv : V} {ps qs : List X} {h : List Ob} {ia ib : Nat} {I1 I2 : Nat → Prop}
    (zx : Fz w (lf + 1) (.mk n ps)) (zy : Fz w (lf + 1) (.mk m qs)) (dx : Wz wz d (.mk n ps)) (sa : St h ia (aC n pv)) (sb : St h ib (aC m qv))
    (ea : Ex I1 h (.agg (aC n pv)) (.mk n ps)) (eb : Ex I2 h (.agg (aC m qv)) (.mk m qs)) : ToP (A9_5 lf (fun v _ => v = .bool true) (.ptr ia 0 0) (.ptr ib 0 0) h) := by
  have la : er (.loadN 8 (.c (.ptr ia 0 0))) h = some (.agg (aC n pv)) := sa.loadN' rfl
  have lb : er (.loadN 8 (.c (.ptr ib 0 0))) h = some (.agg (aC m qv)) := sb.loadN' rfl
  simp only [A9_5, la, lb, bind1_some, castAgg_agg, castCons_cons, castInt_int, castStr_str, castNil_nil]
  refine ToP.bind2 (th_all lf w hw (by omega) lf _ zx n pv ps h rfl (ea.kp (Kp.refl h []))) ?_
  rintro v h1 ⟨⟨qa, rfl, eaa⟩, k1⟩
  rw [castAgg_agg, castCons_cons, castInt_int, castCons_cons, castStr_str, castCons_cons, castInt_int, castCons_cons, castInt_int, castCons_cons, castStr_str, castCons_cons, castStr_str, castCons_cons, castStr_str, castCons_cons, castNil_nil]
  rw [reP_pos _ (show er (.loadN 8 (.c (.ptr ib 0 0))) h1 = some (.agg (aC m qv)) from (sb.kp k1).loadN' rfl)]
  refine ToP.bind2 (alloc_to (cs := zC) rfl) ?_
  rintro v h2 ⟨rfl, stY, k2⟩
  rw [reP_pos _ (show er (.loadN 8 (.c (.ptr ib 0 0))) h2 = some (.agg (aC m qv)) from (sb.kp (k1.tr k2)).loadN' rfl)]
  refine ToP.bind2 (alloc_to (cs := zC) rfl) ?_
  rintro v h3 ⟨rfl, stX, k3⟩
  rw [reP_pos _ (show er (.loadN 8 (.c (.ptr ib 0 0))) h3 = some (.agg (aC m qv)) from (sb.kp ((k1.tr k2).tr k3)).loadN' rfl)]
  refine ToP.bind2 (th_all lf w hw (by omega) lf _ zy m qv qs h3 rfl (eb.kp ((k1.tr k2).tr k3))) ?_
  rintro v h4 ⟨⟨qb, rfl, ebb⟩, k4⟩
  rw [castAgg_agg, castCons_cons, castInt_int, castCons_cons, castStr_str, castCons_cons, castInt_int, castCons_cons, castInt_int, castCons_cons, castStr_str, castCons_cons, castStr_str, castCons_cons, castStr_str, castCons_cons, castNil_nil]
  refine ToP.bind2 ((stX.kp k4).storeN (ds := aC n qa) rfl (by simp) (by obtain ⟨_, s, _⟩ := eaa.inv; exact aC_sc s) rfl) ?_
  rintro u g1 ⟨sx, j1⟩
  have ki := (((k1.tr k2).tr k3).tr k4)
  have lx : h.length ≤ h2.length := (k1.tr k2).len
  have ly : h.length ≤ h1.length := k1.len
  have ltX := stX.lt
  have ltY := stY.lt
  have lXY : h2.length ≠ h1.length := by
    have := (Kp.refl h2 []).len
    omega
  refine ToP.bind2 (((stY.kp (k3.tr k4)).keep j1 (by intro z; simp at z; omega)).storeN (ds := aC m qb) rfl (by simp) (by obtain ⟨_, s, _⟩ := ebb.inv; exact aC_sc s) rfl) ?_
  rintro u g2 ⟨sy, j2⟩
  have sx2 := sx.keep j2 (by intro z; simp at z; omega)
  have kg1 : Kp h g1 [] := ki.trans j1 (fun j hj => by cases hj) (fun j hj hl => by simp at hj; omega)
  have kg : Kp h g2 [] := kg1.trans j2 (fun j hj => by cases hj) (fun j hj hl => by simp at hj; omega)
  have n1 := k1.len
  have n2 := k2.len
  have n3 := k3.len
  have n4 := k4.len
  have ea1 := (eaa.mono (J := fun j => h.length ≤ j ∧ j < h1.length) (fun j p q => ⟨q, p⟩)).kp ((k2.tr k3).tr k4)
  have eb1 := (ebb.mono (J := fun j => h3.length ≤ j ∧ j < h4.length) (fun j p q => ⟨q, p⟩)).kp (Kp.refl h4 [])
  have ea2 := (ea1.keep j1 (by intro z hz; simp at hz; omega)).keep j2 (by intro z hz; simp at hz; omega)
  have eb2 := (eb1.keep j1 (by intro z hz; simp at hz; omega)).keep j2 (by intro z hz; simp at hz; omega)
  refine ToP.bind3 (tail9 hf hw (by omega) hz hz2 zx dx (sa.kp kg) (sb.kp kg) sx2 sy (ea.kp kg) (eb.kp kg) ea2 eb2) ?_
  rintro x vs g3 ⟨rfl, rfl⟩
  simp only [decide_true, cB_true, castCons_cons, castBool_bool, castNil_nil]
  exact ToP.some True.intro
theorem alt9_6 {lf w wz d : Nat} (hf : 1000 < lf) (hw : w < lf) (hw2 : w * 112 ≤ 140737488355328) (hz : wz < lf) (hz2 : wz ≤ 1000000000000000) {n m : Nd} {pv qv : V} {ps qs : List X} {h : List Ob} {ia ib : Nat} {I1 I2 : Nat → Prop}
    (zx : Fz w (lf + 1) (.mk n ps)) (zy : Fz w (lf + 1) (.mk m qs)) (dx : Wz wz d (.mk n ps)) (sa : St h ia (aC n pv)) (sb : St h ib (aC m qv))
    (ea : Ex I1 h (.agg (aC n pv)) (.mk n ps)) (eb : Ex I2 h (.agg (aC m qv)) (.mk m qs)) : ToP (A9_6 lf (fun v _ => v = .bool true) (.ptr ia 0 0) (.ptr ib 0 0) h) := by
  have la : er (.loadN 8 (.c (.ptr ia 0 0))) h = some (.agg (aC n pv)) := sa.loadN' rfl
  have lb : er (.loadN 8 (.c (.ptr ib 0 0))) h = some (.agg (aC m qv)) := sb.loadN' rfl
  simp only [A9_6, la, lb, bind1_some, castAgg_agg, castCons_cons, castInt_int, castStr_str, castNil_nil]
  refine ToP.bind2 (alloc_to (cs := zC) rfl) ?_
  rintro v h1 ⟨rfl, stX, k1⟩
  rw [reP_pos _ (show er (.loadN 8 (.c (.ptr ib 0 0))) h1 = some (.agg (aC m qv)) from (sb.kp k1).loadN' rfl)]
  rw [reP_pos _ (show er (.loadN 8 (.c (.ptr ia 0 0))) h1 = some (.agg (aC n pv)) from (sa.kp k1).loadN' rfl)]
  refine ToP.bind2 (th_all lf w hw (by omega) lf _ zx n pv ps h1 rfl (ea.kp k1)) ?_
  rintro v h2 ⟨⟨qa, rfl, eaa⟩, k2⟩
  rw [castAgg_agg, castCons_cons, castInt_int, castCons_cons, castStr_str, castCons_cons, castInt_int, castCons_cons, castInt_int, castCons_cons, castStr_str, castCons_cons, castStr_str, castCons_cons, castStr_str, castCons_cons, castNil_nil]
  rw [reP_pos _ (show er (.loadN 8 (.c (.ptr ib 0 0))) h2 = some (.agg (aC m qv)) from (sb.kp (k1.tr k2)).loadN' rfl)]
  refine ToP.bind2 (th_all lf w hw (by omega) lf _ zy m qv qs h2 rfl (eb.kp (k1.tr k2))) ?_
  rintro v h3 ⟨⟨qb, rfl, ebb⟩, k3⟩
  rw [castAgg_agg, castCons_cons, castInt_int, castCons_cons, castStr_str, castCons_cons, castInt_int, castCons_cons, castInt_int, castCons_cons, castStr_str, castCons_cons, castStr_str, castCons_cons, castStr_str, castCons_cons, castNil_nil]
  refine ToP.bind2 (alloc_to (cs := zC) rfl) ?_
  rintro v h4 ⟨rfl, stY, k4⟩
  refine ToP.bind2 ((stX.kp ((k2.tr k3).tr k4)).storeN (ds := aC n qa) rfl (by simp) (by obtain ⟨_, s, _⟩ := eaa.inv; exact aC_sc s) rfl) ?_
  rintro u g1 ⟨sx, j1⟩
  have ki := (((k1.tr k2).tr k3).tr k4)
  have lx : h.length ≤ h.length := (Kp.refl h []).len
  have ly : h.length ≤ h3.length := ((k1.tr k2).tr k3).len
  have ltX := stX.lt
  have ltY := stY.lt
  have lXY : h.length ≠ h3.length := by
    have := (k2.tr k3).len
    omega
  refine ToP.bind2 (((stY.kp (Kp.refl h4 [])).keep j1 (by intro z; simp at z; omega)).storeN (ds := aC m qb) rfl (by simp) (by obtain ⟨_, s, _⟩ := ebb.inv; exact aC_sc s) rfl) ?_
  rintro u g2 ⟨sy, j2⟩
  have sx2 := sx.keep j2 (by intro z; simp at z; omega)
  have kg1 : Kp h g1 [] := ki.trans j1 (fun j hj => by cases hj) (fun j hj hl => by simp at hj; omega)
  have kg : Kp h g2 [] := kg1.trans j2 (fun j hj => by cases hj) (fun j hj hl => by simp at hj; omega)
  have n1 := k1.len
  have n2 := k2.len
  have n3 := k3.len
  have n4 := k4.len
  have ea1 := (eaa.mono (J := fun j => h1.length ≤ j ∧ j < h2.length) (fun j p q => ⟨q, p⟩)).kp (k3.tr k4)
  have eb1 := (ebb.mono (J := fun j => h2.length ≤ j ∧ j < h3.length) (fun j p q => ⟨q, p⟩)).kp k4
  have ea2 := (ea1.keep j1 (by intro z hz; simp at hz; omega)).keep j2 (by intro z hz; simp at hz; omega)
  have eb2 := (eb1.keep j1 (by intro z hz; simp at hz; omega)).keep j2 (by intro z hz; simp at hz; omega)
  refine ToP.bind3 (tail9 hf hw (by omega) hz hz2 zx dx (sa.kp kg) (sb.kp kg) sx2 sy (ea.kp kg) (eb.kp kg) ea2 eb2) ?_
  rintro x vs g3 ⟨rfl, rfl⟩
  simp only [decide_true, cB_true, castCons_cons, castBool_bool, castNil_nil]
  exact ToP.some True.intro
theorem alt9_7 {lf w wz d : Nat} (hf : 1000 < lf) (hw : w < lf) (hw2 : w * 112 ≤ 140737488355328) (hz : wz < lf) (hz2 : wz ≤ 1000000000000000) {n m : Nd} {pv qv : V} {ps qs : List X} {h : List Ob} {ia ib : Nat} {I1 I2 : Nat → Prop}
    (zx : Fz w (lf + 1) (.mk n ps)) (zy : Fz w (lf + 1) (.mk m qs)) (dx : Wz wz d (.mk n ps)) (sa : St h ia (aC n pv)) (sb : St h ib (aC m qv))
    (ea : Ex I1 h (.agg (aC n pv)) (.mk n ps)) (eb : Ex I2 h (.agg (aC m qv)) (.mk m qs)) : ToP (A9_7 lf (fun v _ => v = .bool true) (.ptr ia 0 0) (.ptr ib 0 0) h) := by
  have la : er (.loadN 8 (.c (.ptr ia 0 0))) h = some (.agg (aC n pv)) := sa.loadN' rfl
  have lb : er (.loadN 8 (.c (.ptr ib 0 0))) h = some (.agg (aC m qv)) := sb.loadN' rfl
  simp only [A9_7, la, lb, bind1_some, castAgg_agg, castCons_cons, castInt_int, castStr_str, castNil_nil]
  refine ToP.bind2 (alloc_to (cs := zC) rfl) ?_
  rintro v h1 ⟨rfl, stX, k1⟩
  rw [reP_pos _ (show er (.loadN 8 (.c (.ptr ib 0 0))) h1 = some (.agg (aC m qv)) from (sb.kp k1).loadN' rfl)]
  rw [reP_pos _ (show er (.loadN 8 (.c (.ptr ia 0 0))) h1 = some (.agg (aC n pv)) from (sa.kp k1).loadN' rfl)]
  refine ToP.bind2 (th_all lf w hw (by omega) lf _ zx n pv ps h1 rfl (ea.kp k1)) ?_
  rintro v h2 ⟨⟨qa, rfl, eaa⟩, k2⟩
  rw [castAgg_agg, castCons_cons, castInt_int, castCons_cons, castStr_str, castCons_cons, castInt_int, castCons_cons, castInt_int, castCons_cons, castStr_str, castCons_cons, castStr_str, castCons_cons, castStr_str, castCons_cons, castNil_nil]
  rw [reP_pos _ (show er (.loadN 8 (.c (.ptr ib 0 0))) h2 = some (.agg (aC m qv)) from (sb.kp (k1.tr k2)).loadN' rfl)]
  refine ToP.bind2 (alloc_to (cs := zC) rfl) ?_
  rintro v h3 ⟨rfl, stY, k3⟩
  rw [reP_pos _ (show er (.loadN 8 (.c (.ptr ib 0 0))) h3 = some (.agg (aC m qv)) from (sb.kp ((k1.tr k2).tr k3)).loadN' rfl)]
  refine ToP.bind2 (th_all lf w hw (by omega) lf _ zy m qv qs h3 rfl (eb.kp ((k1.tr k2).tr k3))) ?_
  rintro v h4 ⟨⟨qb, rfl, ebb⟩, k4⟩
  rw [castAgg_agg, castCons_cons, castInt_int, castCons_cons, castStr_str, castCons_cons, castInt_int, castCons_cons, castInt_int, castCons_cons, castStr_str, castCons_cons, castStr_str, castCons_cons, castStr_str, castCons_cons, castNil_nil]
  refine ToP.bind2 ((stX.kp ((k2.tr k3).tr k4)).storeN (ds := aC n qa) rfl (by simp) (by obtain ⟨_, s, _⟩ := eaa.inv; exact aC_sc s) rfl) ?_
  rintro u g1 ⟨sx, j1⟩
  have ki := (((k1.tr k2).tr k3).tr k4)
  have lx : h.length ≤ h.length := (Kp.refl h []).len
  have ly : h.length ≤ h2.length := (k1.tr k2).len
  have ltX := stX.lt
  have ltY := stY.lt
  have lXY : h.length ≠ h2.length := by
    have := k2.len
    omega
  refine ToP.bind2 (((stY.kp k4).keep j1 (by intro z; simp at z; omega)).storeN (ds := aC m qb) rfl (by simp) (by obtain ⟨_, s, _⟩ := ebb.inv; exact aC_sc s) rfl) ?_
  rintro u g2 ⟨sy, j2⟩
  have sx2 := sx.keep j2 (by intro z; simp at z; omega)
  have kg1 : Kp h g1 [] := ki.trans j1 (fun j hj => by cases hj) (fun j hj hl => by simp at hj; omega)
  have kg : Kp h g2 [] := kg1.trans j2 (fun j hj => by cases hj) (fun j hj hl => by simp at hj; omega)
  have n1 := k1.len
  have n2 := k2.len
  have n3 := k3.len
  have n4 := k4.len
  have ea1 := (eaa.mono (J := fun j => h1.length ≤ j ∧ j < h2.length) (fun j p q => ⟨q, p⟩)).kp (k3.tr k4)
  have eb1 := (ebb.mono (J := fun j => h3.length ≤ j ∧ j < h4.length) (fun j p q => ⟨q, p⟩)).kp (Kp.refl h4 [])
  have ea2 := (ea1.keep j1 (by intro z hz; simp at hz; omega)).keep j2 (by intro z hz; simp at hz; omega)
  have eb2 := (eb1.keep j1 (by intro z hz; simp at hz; omega)).keep j2 (by intro z hz; simp at hz; omega)
  refine ToP.bind3 (tail9 hf hw (by omega) hz hz2 zx dx (sa.kp kg) (sb.kp kg) sx2 sy (ea.kp kg) (eb.kp kg) ea2 eb2) ?_
  rintro x vs g3 ⟨rfl, rfl⟩
  simp only [decide_true, cB_true, castCons_cons, castBool_bool, castNil_nil]
  exact ToP.some True.intro
theorem alt9_8 {lf w wz d : Nat} (hf : 1000 < lf) (hw : w < lf) (hw2 : w * 112 ≤ 140737488355328) (hz : wz < lf) (hz2 : wz ≤ 1000000000000000) {n m : Nd} {pv qv : V} {ps qs : List X} {h : List Ob} {ia ib : Nat} {I1 I2 : Nat → Prop}
    (zx : Fz w (lf + 1) (.mk n ps)) (zy : Fz w (lf + 1) (.mk m qs)) (dx : Wz wz d (.mk n ps)) (sa : St h ia (aC n pv)) (sb : St h ib (aC m qv))
    (ea : Ex I1 h (.agg (aC n pv)) (.mk n ps)) (eb : Ex I2 h (.agg (aC m qv)) (.mk m qs)) : ToP (A9_8 lf (fun v _ => v = .bool true) (.ptr ia 0 0) (.ptr ib 0 0) h) := by
  have la : er (.loadN 8 (.c (.ptr ia 0 0))) h = some (.agg (aC n pv)) := sa.loadN' rfl
  have lb : er (.loadN 8 (.c (.ptr ib 0 0))) h = some (.agg (aC m qv)) := sb.loadN' rfl
  simp only [A9_8, la, lb, bind1_some, castAgg_agg, castCons_cons, castInt_int, castStr_str, castNil_nil]
  refine ToP.bind2 (alloc_to (cs := zC) rfl) ?_
  rintro v h1 ⟨rfl, stX, k1⟩
  rw [reP_pos _ (show er (.loadN 8 (.c (.ptr ib 0 0))) h1 = some (.agg (aC m qv)) from (sb.kp k1).loadN' rfl)]
  rw [reP_pos _ (show er (.loadN 8 (.c (.ptr ia 0 0))) h1 = some (.agg (aC n pv)) from (sa.kp k1).loadN' rfl)]
  refine ToP.bind2 (alloc_to (cs := zC) rfl) ?_
  rintro v h2 ⟨rfl, stY, k2⟩
  rw [reP_pos _ (show er (.loadN 8 (.c (.ptr ib 0 0))) h2 = some (.agg (aC m qv)) from (sb.kp (k1.tr k2)).loadN' rfl)]
  rw [reP_pos _ (show er (.loadN 8 (.c (.ptr ia 0 0))) h2 = some (.agg (aC n pv)) from (sa.kp (k1.tr k2)).loadN' rfl)]
  refine ToP.bind2 (th_all lf w hw (by omega) lf _ zx n pv ps h2 rfl (ea.kp (k1.tr k2))) ?_
  rintro v h3 ⟨⟨qa, rfl, eaa⟩, k3⟩
  rw [castAgg_agg, castCons_cons, castInt_int, castCons_cons, castStr_str, castCons_cons, castInt_int, castCons_cons, castInt_int, castCons_cons, castStr_str, castCons_cons, castStr_str, castCons_cons, castStr_str, castCons_cons, castNil_nil]
  rw [reP_pos _ (show er (.loadN 8 (.c (.ptr ib 0 0))) h3 = some (.agg (aC m qv)) from (sb.kp ((k1.tr k2).tr k3)).loadN' rfl)]
  refine ToP.bind2 (th_all lf w hw (by omega) lf _ zy m qv qs h3 rfl (eb.kp ((k1.tr k2).tr k3))) ?_
  rintro v h4 ⟨⟨qb, rfl, ebb⟩, k4⟩
  rw [castAgg_agg, castCons_cons, castInt_int, castCons_cons, castStr_str, castCons_cons, castInt_int, castCons_cons, castInt_int, castCons_cons, castStr_str, castCons_cons, castStr_str, castCons_cons, castStr_str, castCons_cons, castNil_nil]
  refine ToP.bind2 ((stX.kp ((k2.tr k3).tr k4)).storeN (ds := aC n qa) rfl (by simp) (by obtain ⟨_, s, _⟩ := eaa.inv; exact aC_sc s) rfl) ?_
  rintro u g1 ⟨sx, j1⟩
  have ki := (((k1.tr k2).tr k3).tr k4)
  have lx : h.length ≤ h.length := (Kp.refl h []).len
  have ly : h.length ≤ h1.length := k1.len
  have ltX := stX.lt
  have ltY := stY.lt
  have lXY : h.length ≠ h1.length := by
    have := (Kp.refl h1 []).len
    omega
  refine ToP.bind2 (((stY.kp (k3.tr k4)).keep j1 (by intro z; simp at z; omega)).storeN (ds := aC m qb) rfl (by simp) (by obtain ⟨_, s, _⟩ := ebb.inv; exact aC_sc s) rfl) ?_
  rintro u g2 ⟨sy, j2⟩
  have sx2 := sx.keep j2 (by intro z; simp at z; omega)
  have kg1 : Kp h g1 [] := ki.trans j1 (fun j hj => by cases hj) (fun j hj hl => by simp at hj; omega)
  have kg : Kp h g2 [] := kg1.trans j2 (fun j hj => by cases hj) (fun j hj hl => by simp at hj; omega)
  have n1 := k1.len
  have n2 := k2.len
  have n3 := k3.len
  have n4 := k4.len
  have ea1 := (eaa.mono (J := fun j => h2.length ≤ j ∧ j < h3.length) (fun j p q => ⟨q, p⟩)).kp k4
  have eb1 := (ebb.mono (J := fun j => h3.length ≤ j ∧ j < h4.length) (fun j p q => ⟨q, p⟩)).kp (Kp.refl h4 [])
  have ea2 := (ea1.keep j1 (by intro z hz; simp at hz; omega)).keep j2 (by intro z hz; simp at hz; omega)
  have eb2 := (eb1.keep j1 (by intro z hz; simp at hz; omega)).keep j2 (by intro z hz; simp at hz; omega)
  refine ToP.bind3 (tail9 hf hw (by omega) hz hz2 zx dx (sa.kp kg) (sb.kp kg) sx2 sy (ea.kp kg) (eb.kp kg) ea2 eb2) ?_
  rintro x vs g3 ⟨rfl, rfl⟩
  simp only [decide_true, cB_true, castCons_cons, castBool_bool, castNil_nil]
  exact ToP.some True.intro
theorem alt9_9 {lf w wz d : Nat} (hf : 1000 < lf) (hw : w < lf) (hw2 : w * 112 ≤ 140737488355328) (hz : wz < lf) (hz2 : wz ≤ 1000000000000000) {n m : Nd} {pv qv : V} {ps qs : List X} {h : List Ob} {ia ib : Nat} {I1 I2 : Nat → Prop}
    (zx : Fz w (lf + 1) (.mk n ps)) (zy : Fz w (lf + 1) (.mk m qs)) (dx : Wz wz d (.mk n ps)) (sa : St h ia (aC n pv)) (sb : St h ib (aC m qv))
    (ea : Ex I1 h (.agg (aC n pv)) (.mk n ps)) (eb : Ex I2 h (.agg (aC m qv)) (.mk m qs)) : ToP (A9_9 lf (fun v _ => v = .bool true) (.ptr ia 0 0) (.ptr ib 0 0) h) := by
  have la : er (.loadN 8 (.c (.ptr ia 0 0))) h = some (.agg (aC n pv)) := sa.loadN' rfl
  have lb : er (.loadN 8 (.c (.ptr ib 0 0))) h = some (.agg (aC m qv)) := sb.loadN' rfl
  simp only [A9_9, la, lb, bind1_some, castAgg_agg, castCons_cons, castInt_int, castStr_str, castNil_nil]
  refine ToP.bind2 (alloc_to (cs := zC) rfl) ?_
  rintro v h1 ⟨rfl, stY, k1⟩
  rw [reP_pos _ (show er (.loadN 8 (.c (.ptr ib 0 0))) h1 = some (.agg (aC m qv)) from (sb.kp k1).loadN' rfl)]
  rw [reP_pos _ (show er (.loadN 8 (.c (.ptr ia 0 0))) h1 = some (.agg (aC n pv)) from (sa.kp k1).loadN' rfl)]
  refine ToP.bind2 (th_all lf w hw (by omega) lf _ zx n pv ps h1 rfl (ea.kp k1)) ?_
  rintro v h2 ⟨⟨qa, rfl, eaa⟩, k2⟩
  rw [castAgg_agg, castCons_cons, castInt_int, castCons_cons, castStr_str, castCons_cons, castInt_int, castCons_cons, castInt_int, castCons_cons, castStr_str, castCons_cons, castStr_str, castCons_cons, castStr_str, castCons_cons, castNil_nil]
  rw [reP_pos _ (show er (.loadN 8 (.c (.ptr ib 0 0))) h2 = some (.agg (aC m qv)) from (sb.kp (k1.tr k2)).loadN' rfl)]
  refine ToP.bind2 (th_all lf w hw (by omega) lf _ zy m qv qs h2 rfl (eb.kp (k1.tr k2))) ?_
  rintro v h3 ⟨⟨qb, rfl, ebb⟩, k3⟩
  rw [castAgg_agg, castCons_cons, castInt_int, castCons_cons, castStr_str, castCons_cons, castInt_int, castCons_cons, castInt_int, castCons_cons, castStr_str, castCons_cons, castStr_str, castCons_cons, castStr_str, castCons_cons, castNil_nil]
  refine ToP.bind2 (alloc_to (cs := zC) rfl) ?_
  rintro v h4 ⟨rfl, stX, k4⟩
  refine ToP.bind2 ((stX.kp (Kp.refl h4 [])).storeN (ds := aC n qa) rfl (by simp) (by obtain ⟨_, s, _⟩ := eaa.inv; exact aC_sc s) rfl) ?_
  rintro u g1 ⟨sx, j1⟩
  have ki := (((k1.tr k2).tr k3).tr k4)
  have lx : h.length ≤ h3.length := ((k1.tr k2).tr k3).len
  have ly : h.length ≤ h.length := (Kp.refl h []).len
  have ltX := stX.lt
  have ltY := stY.lt
  have lXY : h3.length ≠ h.length := by
    have := (k2.tr k3).len
    omega
  refine ToP.bind2 (((stY.kp ((k2.tr k3).tr k4)).keep j1 (by intro z; simp at z; omega)).storeN (ds := aC m qb) rfl (by simp) (by obtain ⟨_, s, _⟩ := ebb.inv; exact aC_sc s) rfl) ?_
  rintro u g2 ⟨sy, j2⟩
  have sx2 := sx.keep j2 (by intro z; simp at z; omega)
  have kg1 : Kp h g1 [] := ki.trans j1 (fun j hj => by cases hj) (fun j hj hl => by simp at hj; omega)
  have kg : Kp h g2 [] := kg1.trans j2 (fun j hj => by cases hj) (fun j hj hl => by simp at hj; omega)
  have n1 := k1.len
  have n2 := k2.len
  have n3 := k3.len
  have n4 := k4.len
  have ea1 := (eaa.mono (J := fun j => h1.length ≤ j ∧ j < h2.length) (fun j p q => ⟨q, p⟩)).kp (k3.tr k4)
  have eb1 := (ebb.mono (J := fun j => h2.length ≤ j ∧ j < h3.length) (fun j p q => ⟨q, p⟩)).kp k4
  have ea2 := (ea1.keep j1 (by intro z hz; simp at hz; omega)).keep j2 (by intro z hz; simp at hz; omega)
  have eb2 := (eb1.keep j1 (by intro z hz; simp at hz; omega)).keep j2 (by intro z hz; simp at hz; omega)
  refine ToP.bind3 (tail9 hf hw (by omega) hz hz2 zx dx (sa.kp kg) (sb.kp kg) sx2 sy (ea.kp kg) (eb.kp kg) ea2 eb2) ?_
  rintro x vs g3 ⟨rfl, rfl⟩
  simp only [decide_true, cB_true, castCons_cons, castBool_bool, castNil_nil]
  exact ToP.some True.intro
theorem alt9_10 {lf w wz d : Nat} (hf : 1000 < lf) (hw : w < lf) (hw2 : w * 112 ≤ 140737488355328) (hz : wz < lf) (hz2 : wz ≤ 1000000000000000) {n m : Nd} {pv qv : V} {ps qs : List X} {h : List Ob} {ia ib : Nat} {I1 I2 : Nat → Prop}
    (zx : Fz w (lf + 1) (.mk n ps)) (zy : Fz w (lf + 1) (.mk m qs)) (dx : Wz wz d (.mk n ps)) (sa : St h ia (aC n pv)) (sb : St h ib (aC m qv))
    (ea : Ex I1 h (.agg (aC n pv)) (.mk n ps)) (eb : Ex I2 h (.agg (aC m qv)) (.mk m qs)) : ToP (A9_10 lf (fun v _ => v = .bool true) (.ptr ia 0 0) (.ptr ib 0 0) h) := by
  have la : er (.loadN 8 (.c (.ptr ia 0 0))) h = some (.agg (aC n pv)) := sa.loadN' rfl
  have lb : er (.loadN 8 (.c (.ptr ib 0 0))) h = some (.agg (aC m qv)) := sb.loadN' rfl
  simp only [A9_10, la, lb, bind1_some, castAgg_agg, castCons_cons, castInt_int, castStr_str, castNil_nil]
  refine ToP.bind2 (alloc_to (cs := zC) rfl) ?_
  rintro v h1 ⟨rfl, stY, k1⟩
  rw [reP_pos _ (show er (.loadN 8 (.c (.ptr ib 0 0))) h1 = some (.agg (aC m qv)) from (sb.kp k1).loadN' rfl)]
  rw [reP_pos _ (show er (.loadN 8 (.c (.ptr ia 0 0))) h1 = some (.agg (aC n pv)) from (sa.kp k1).loadN' rfl)]
  refine ToP.bind2 (th_all lf w hw (by omega) lf _ zx n pv ps h1 rfl (ea.kp k1)) ?_
  rintro v h2 ⟨⟨qa, rfl, eaa⟩, k2⟩
  rw [castAgg_agg, castCons_cons, castInt_int, castCons_cons, castStr_str, castCons_cons, castInt_int, castCons_cons, castInt_int, castCons_cons, castStr_str, castCons_cons, castStr_str, castCons_cons, castStr_str, castCons_cons, castNil_nil]
  rw [reP_pos _ (show er (.loadN 8 (.c (.ptr ib 0 0))) h2 = some (.agg (aC m qv)) from (sb.kp (k1.tr k2)).loadN' rfl)]
  refine ToP.bind2 (alloc_to (cs := zC) rfl) ?_
  rintro v h3 ⟨rfl, stX, k3⟩
  rw [reP_pos _ (show er (.loadN 8 (.c (.ptr ib 0 0))) h3 = some (.agg (aC m qv)) from (sb.kp ((k1.tr k2).tr k3)).loadN' rfl)]
  refine ToP.bind2 (th_all lf w hw (by omega) lf _ zy m qv qs h3 rfl (eb.kp ((k1.tr k2).tr k3))) ?_
  rintro v h4 ⟨⟨qb, rfl, ebb⟩, k4⟩
  rw [castAgg_agg, castCons_cons, castInt_int, castCons_cons, castStr_str, castCons_cons, castInt_int, castCons_cons, castInt_int, castCons_cons, castStr_str, castCons_cons, castStr_str, castCons_cons, castStr_str, castCons_cons, castNil_nil]
  refine ToP.bind2 ((stX.kp k4).storeN (ds := aC n qa) rfl (by simp) (by obtain ⟨_, s, _⟩ := eaa.inv; exact aC_sc s) rfl) ?_
  rintro u g1 ⟨sx, j1⟩
  have ki := (((k1.tr k2).tr k3).tr k4)
  have lx : h.length ≤ h2.length := (k1.tr k2).len
  have ly : h.length ≤ h.length := (Kp.refl h []).len
  have ltX := stX.lt
  have ltY := stY.lt
  have lXY : h2.length ≠ h.length := by
    have := k2.len
    omega
  refine ToP.bind2 (((stY.kp ((k2.tr k3).tr k4)).keep j1 (by intro z; simp at z; omega)).storeN (ds := aC m qb) rfl (by simp) (by obtain ⟨_, s, _⟩ := ebb.inv; exact aC_sc s) rfl) ?_
  rintro u g2 ⟨sy, j2⟩
  have sx2 := sx.keep j2 (by intro z; simp at z; omega)
  have kg1 : Kp h g1 [] := ki.trans j1 (fun j hj => by cases hj) (fun j hj hl => by simp at hj; omega)
  have kg : Kp h g2 [] := kg1.trans j2 (fun j hj => by cases hj) (fun j hj hl => by simp at hj; omega)
  have n1 := k1.len
  have n2 := k2.len
  have n3 := k3.len
  have n4 := k4.len
  have ea1 := (eaa.mono (J := fun j => h1.length ≤ j ∧ j < h2.length) (fun j p q => ⟨q, p⟩)).kp (k3.tr k4)
  have eb1 := (ebb.mono (J := fun j => h3.length ≤ j ∧ j < h4.length) (fun j p q => ⟨q, p⟩)).kp (Kp.refl h4 [])
  have ea2 := (ea1.keep j1 (by intro z hz; simp at hz; omega)).keep j2 (by intro z hz; simp at hz; omega)
  have eb2 := (eb1.keep j1 (by intro z hz; simp at hz; omega)).keep j2 (by intro z hz; simp at hz; omega)
  refine ToP.bind3 (tail9 hf hw (by omega) hz hz2 zx dx (sa.kp kg) (sb.kp kg) sx2 sy (ea.kp kg) (eb.kp kg) ea2 eb2) ?_
  rintro x vs g3 ⟨rfl, rfl⟩
  simp only [decide_true, cB_true, castCons_cons, castBool_bool, castNil_nil]
  exact ToP.some True.intro
theorem alt9_11 {lf w wz d : Nat} (hf : 1000 < lf) (hw : w < lf) (hw2 : w * 112 ≤ 140737488355328) (hz : wz < lf) (hz2 : wz ≤ 1000000000000000) {n m : Nd} {pv qv : V} {ps qs : List X} {h : List Ob} {ia ib : Nat} {I1 I2 : Nat → Prop}
    (zx : Fz w (lf + 1) (.mk n ps)) (zy : Fz w (lf + 1) (.mk m qs)) (dx : Wz wz d (.mk n ps)) (sa : St h ia (aC n pv)) (sb : St h ib (aC m qv))
    (ea : Ex I1 h (.agg (aC n pv)) (.mk n ps)) (eb : Ex I2 h (.agg (aC m qv)) (.mk m qs)) : ToP (A9_11 lf (fun v _ => v = .bool true) (.ptr ia 0 0) (.ptr ib 0 0) h) := by
  have la : er (.loadN 8 (.c (.ptr ia 0 0))) h = some (.agg (aC n pv)) := sa.loadN' rfl
  have lb : er (.loadN 8 (.c (.ptr ib 0 0))) h = some (.agg (aC m qv)) := sb.loadN' rfl
  simp only [A9_11, la, lb, bind1_some, castAgg_agg, castCons_cons, castInt_int, castStr_str, castNil_nil]
  refine ToP.bind2 (alloc_to (cs := zC) rfl) ?_
  rintro v h1 ⟨rfl, stY, k1⟩
  rw [reP_pos _ (show er (.loadN 8 (.c (.ptr ib 0 0))) h1 = some (.agg (aC m qv)) from (sb.kp k1).loadN' rfl)]
  rw [reP_pos _ (show er (.loadN 8 (.c (.ptr ia 0 0))) h1 = some (.agg (aC n pv)) from (sa.kp k1).loadN' rfl)]
  refine ToP.bind2 (alloc_to (cs := zC) rfl) ?_
  rintro v h2 ⟨rfl, stX, k2⟩
  rw [reP_pos _ (show er (.loadN 8 (.c (.ptr ib 0 0))) h2 = some (.agg (aC m qv)) from (sb.kp (k1.tr k2)).loadN' rfl)]
  rw [reP_pos _ (show er (.loadN 8 (.c (.ptr ia 0 0))) h2 = some (.agg (aC n pv)) from (sa.kp (k1.tr k2)).loadN' rfl)]
  refine ToP.bind2 (th_all lf w hw (by omega) lf _ zx n pv ps h2 rfl (ea.kp (k1.tr k2))) ?_
  rintro v h3 ⟨⟨qa, rfl, eaa⟩, k3⟩
  rw [castAgg_agg, castCons_cons, castInt_int, castCons_cons, castStr_str, castCons_cons, castInt_int, castCons_cons, castInt_int, castCons_cons, castStr_str, castCons_cons, castStr_str, castCons_cons, castStr_str, castCons_cons, castNil_nil]
  rw [reP_pos _ (show er (.loadN 8 (.c (.ptr ib 0 0))) h3 = some (.agg (aC m qv)) from (sb.kp ((k1.tr k2).tr k3)).loadN' rfl)]
  refine ToP.bind2 (th_all lf w hw (by omega) lf _ zy m qv qs h3 rfl (eb.kp ((k1.tr k2).tr k3))) ?_
  rintro v h4 ⟨⟨qb, rfl, ebb⟩, k4⟩
  rw [castAgg_agg, castCons_cons, castInt_int, castCons_cons, castStr_str, castCons_cons, castInt_int, castCons_cons, castInt_int, castCons_cons, castStr_str, castCons_cons, castStr_str, castCons_cons, castStr_str, castCons_cons, castNil_nil]
  refine ToP.bind2 ((stX.kp (k3.tr k4)).storeN (ds := aC n qa) rfl (by simp) (by obtain ⟨_, s, _⟩ := eaa.inv; exact aC_sc s) rfl) ?_
  rintro u g1 ⟨sx, j1⟩
  have ki := (((k1.tr k2).tr k3).tr k4)
  have lx : h.length ≤ h1.length := k1.len
  have ly : h.length ≤ h.length := (Kp.refl h []).len
  have ltX := stX.lt
  have ltY := stY.lt
  have lXY : h1.length ≠ h.length := by
    have := (Kp.refl h1 []).len
    omega
  refine ToP.bind2 (((stY.kp ((k2.tr k3).tr k4)).keep j1 (by intro z; simp at z; omega)).storeN (ds := aC m qb) rfl (by simp) (by obtain ⟨_, s, _⟩ := ebb.inv; exact aC_sc s) rfl) ?_
  rintro u g2 ⟨sy, j2⟩
  have sx2 := sx.keep j2 (by intro z; simp at z; omega)
  have kg1 : Kp h g1 [] := ki.trans j1 (fun j hj => by cases hj) (fun j hj hl => by simp at hj; omega)
  have kg : Kp h g2 [] := kg1.trans j2 (fun j hj => by cases hj) (fun j hj hl => by simp at hj; omega)
  have n1 := k1.len
  have n2 := k2.len
  have n3 := k3.len
  have n4 := k4.len
  have ea1 := (eaa.mono (J := fun j => h2.length ≤ j ∧ j < h3.length) (fun j p q => ⟨q, p⟩)).kp k4
  have eb1 := (ebb.mono (J := fun j => h3.length ≤ j ∧ j < h4.length) (fun j p q => ⟨q, p⟩)).kp (Kp.refl h4 [])
  have ea2 := (ea1.keep j1 (by intro z hz; simp at hz; omega)).keep j2 (by intro z hz; simp at hz; omega)
  have eb2 := (eb1.keep j1 (by intro z hz; simp at hz; omega)).keep j2 (by intro z hz; simp at hz; omega)
  refine ToP.bind3 (tail9 hf hw (by omega) hz hz2 zx dx (sa.kp kg) (sb.kp kg) sx2 sy (ea.kp kg) (eb.kp kg) ea2 eb2) ?_
  rintro x vs g3 ⟨rfl, rfl⟩
  simp only [decide_true, cB_true, castCons_cons, castBool_bool, castNil_nil]
  exact ToP.some True.intro
theorem law9 {lf w wz d : Nat} (hf : 1000 < lf) (hw : w < lf) (hw2 : w * 112 ≤ 140737488355328) (hz : wz < lf) (hz2 : wz ≤ 1000000000000000) {n m : Nd} {pv qv : V} {ps qs : List X} {h0 : List Ob} {I1 I2 : Nat → Prop}
    (zx : Fz w lf (.mk n ps)) (zy : Fz w lf (.mk m qs)) (dx : Wz wz d (.mk n ps)) (ea0 : Ex I1 h0 (.agg (aC n pv)) (.mk n ps)) (eb0 : Ex I2 h0 (.agg (aC m qv)) (.mk m qs)) :
    ToP (F9 lf (fun v _ => v = .bool true) n.k n.op n.vk n.vn n.vs n.tb n.cl pv m.k m.op m.vk m.vn m.vs m.tb m.cl qv h0) := by
  unfold F9
  refine ToP.bind2 (box_to (cs := aC n pv) (by obtain ⟨_, s, _⟩ := ea0.inv; exact aC_sc s)) ?_
  rintro v h1 ⟨rfl, sa1, k1⟩
  refine ToP.bind2 (box_to (cs := aC m qv) (by obtain ⟨_, s, _⟩ := eb0.inv; exact aC_sc s)) ?_
  rintro v h2 ⟨rfl, sb2, k2⟩
  refine ToP.bind3 (head9 hw (by omega) (Nat.le_refl _) zx zy (sa1.kp k2) sb2 (ea0.kp (k1.tr k2)) (eb0.kp (k1.tr k2))) ?_
  rintro x vs h ⟨k3, q⟩
  have sa := sa1.kp (k2.tr k3)
  have sb := sb2.kp k3
  have ea := ea0.kp ((k1.tr k2).tr k3)
  have eb := eb0.kp ((k1.tr k2).tr k3)
  clear sa1 sb2 k1 k2 k3
  have zx := zx.mono (Nat.le_succ _)
  have zy := zy.mono (Nat.le_succ _)
  generalize h0.length = ia at sa ⊢
  generalize h1.length = ib at sb ⊢
  rcases q with ⟨rfl, rfl⟩ | ⟨rfl, rfl⟩
  · refine (congrArg ToP (show _ = some (V.bool true = V.bool true) from rfl)).mpr (ToP.some rfl)
  refine (congrArg ToP ((cB_false _ _ : cB (decide (EX.normal = EX.ret)) _ _ = _).trans ((cB_true _ _ : cB (decide (EX.normal = EX.normal)) _ _ = _).trans (castNil_nil _)))).mpr ?_
  have la : er (.loadN 8 (.c (.ptr ia 0 0))) h = some (.agg (aC n pv)) := sa.loadN' rfl
  have lb : er (.loadN 8 (.c (.ptr ib 0 0))) h = some (.agg (aC m qv)) := sb.loadN' rfl
  refine ToP.and (alt9_0 hf hw hw2 hz hz2 zx zy dx sa sb ea eb) ?_
  refine ToP.and (alt9_1 hf hw hw2 hz hz2 zx zy dx sa sb ea eb) ?_
  refine ToP.and (alt9_2 hf hw hw2 hz hz2 zx zy dx sa sb ea eb) ?_
  refine ToP.and (alt9_3 hf hw hw2 hz hz2 zx zy dx sa sb ea eb) ?_
  refine ToP.and (alt9_4 hf hw hw2 hz hz2 zx zy dx sa sb ea eb) ?_
  refine ToP.and (alt9_5 hf hw hw2 hz hz2 zx zy dx sa sb ea eb) ?_
  refine ToP.and (alt9_6 hf hw hw2 hz hz2 zx zy dx sa sb ea eb) ?_
  refine ToP.and (alt9_7 hf hw hw2 hz hz2 zx zy dx sa sb ea eb) ?_
  refine ToP.and (alt9_8 hf hw hw2 hz hz2 zx zy dx sa sb ea eb) ?_
  refine ToP.and (alt9_9 hf hw hw2 hz hz2 zx zy dx sa sb ea eb) ?_
  refine ToP.and (alt9_10 hf hw hw2 hz hz2 zx zy dx sa sb ea eb) ?_
  refine ToP.and (alt9_11 hf hw hw2 hz hz2 zx zy dx sa sb ea eb) ?_
  exact ToP.some True.intro
end Go.Proofs.Ytbjphicipgneaaa.Ex
