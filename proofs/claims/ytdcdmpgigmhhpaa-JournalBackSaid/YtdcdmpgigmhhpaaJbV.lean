/- A journal read back: the law says yes to every input. No condition. -/
import Derived.Test.YtdcdmpgigmhhpaaJbU
namespace Go.Proofs.Ytdcdmpgigmhhpaa.Jb
open Go Go.Proofs.Ytdcdmpgigmhhpaa.E
open Go.Proofs.Ytdcdmpgigmhhpaa.Jw
set_option maxRecDepth 100000
set_option linter.unusedVariables false
set_option linter.unusedSimpArgs false

/-- What is over: both halves. -/
theorem over1 {X Y R Z ms : List Int} {t : Int} (hX : X.length = 64) (hZ : Z.length = 64) (hz : ∀ j, j < 64 → Z[j]? = some t) (h : ∀ j, ms[j]? = if 0 ≤ j ∧ j < 0 + 64 then some t else (X ++ (Y ++ R))[j]?) : ms = Z ++ (Y ++ R) := by
  refine List.ext_getElem? fun j => ?_
  rw [h j]
  by_cases q : j < 64
  · rw [if_pos (by omega), List.getElem?_append_left (l₁ := Z) (by omega), hz j q]
  · rw [if_neg (by omega), List.getElem?_append_right (l₁ := X) (by omega), List.getElem?_append_right (l₁ := Z) (by omega), hX, hZ]
theorem over2 {X Y R Z ms : List Int} {t : Int} (hX : X.length = 64) (hY : Y.length = 64) (hZ : Z.length = 64) (hz : ∀ j, j < 64 → Z[j]? = some t) (h : ∀ j, ms[j]? = if 64 ≤ j ∧ j < 64 + 64 then some t else (X ++ (Y ++ R))[j]?) : ms = X ++ (Z ++ R) := by
  refine List.ext_getElem? fun j => ?_
  rw [h j]
  by_cases q : j < 64
  · rw [if_neg (by omega), List.getElem?_append_left (l₁ := X) (by omega), List.getElem?_append_left (l₁ := X) (by omega)]
  · by_cases r : j < 128
    · rw [if_pos (by omega), List.getElem?_append_right (l₁ := X) (by omega), List.getElem?_append_left (l₁ := Z) (by omega), hz _ (by omega)]
    · rw [if_neg (by omega), List.getElem?_append_right (l₁ := X) (by omega), List.getElem?_append_right (l₁ := Y) (by omega), List.getElem?_append_right (l₁ := X) (by omega), List.getElem?_append_right (l₁ := Z) (by omega), hX, hY, hZ]
theorem rep_at (t : Int) : ∀ j, j < 64 → (List.replicate 64 t)[j]? = some t := fun j hj => by rw [List.getElem?_replicate, if_pos hj]
theorem rep_len (t : Int) : (List.replicate 64 t).length = 64 := List.length_replicate
theorem told_hd {t : Int} : HdI (List.replicate 64 t) 0 0 (-1) := by
  obtain ⟨a, b⟩ := told_no (t := t) rfl
  exact .inr ⟨a, b, rfl, rfl, rfl⟩

theorem law7 {lf : Nat} (hf : 1000 < lf) {h : List Ob} {list behind : V} {l : List Pt} {bs : List Int} {salt pages told other : Int} {second : Bool} (h0 : 0 ≤ salt) (h1 : salt < 18446744073709551616) (p0 : 0 ≤ pages) (p1 : pages < 256) (t0 : 0 ≤ told) (t1 : told < 256) (o0 : 0 ≤ other) (o1 : other < 256)
    (L : Ls list l) (hl : l.length ≤ 9223372036854775807) (sb : Sl 1 h behind (bv bs)) (hb : bs.length ≤ 9223372036854775807) :
    To2 (F7 lf salt pages list told other second behind h) fun v _ => v = .bool true := by
  have dn : decide (EX.normal = EX.ret) = false := rfl
  have dr : decide (EX.ret = EX.normal) = false := rfl
  have aw : To3 (S7_6 lf behind h) fun x vs h' => Kp h h' [] ∧ ((x = .ret ∧ vs = [.bool true]) ∨ (x = .normal ∧ vs = [] ∧ bs.length ≤ 1000)) := by
    simp only [S7_6]
    refine To3.bind2 (awake19 hf) ?_
    rintro v g ⟨rfl, k⟩
    simp only [castBool_bool, Bool.not_true, cB_false, er_lenL (sb.kp k), bv_length, bind1_some, castInt_int]
    by_cases q : bs.length ≤ 1000
    · have : decide ((bs.length : Int) > 1000) = false := decide_eq_false (by omega)
      simp only [this, cB_false]
      exact To3.some ⟨k, .inr ⟨rfl, rfl, q⟩⟩
    · have : decide ((bs.length : Int) > 1000) = true := decide_eq_true (by omega)
      simp only [this, cB_true]
      refine To3.bind2 (awake19 hf) ?_
      rintro v g2 ⟨rfl, k2⟩
      simp only [castBool_bool]
      exact To3.some ⟨k.tr k2, .inl ⟨rfl, rfl⟩⟩
  simp only [F7]
  refine To2.bind3 aw ?_
  rintro x vs ha ⟨ka, ⟨rfl, rfl⟩ | ⟨rfl, rfl, hb1⟩⟩
  · simp only [decide_true, cB_true, castCons_cons, castBool_bool, castNil_nil]
    exact To2.some rfl
  obtain ⟨n, hn, hnl, hnn⟩ : ∃ n : Nat, n ≤ 12 ∧ n ≤ l.length ∧ (if (12 : Int) < (l.length : Int) then 12 else (l.length : Int)) = (n : Int) := by
    by_cases q : 12 < l.length
    · exact ⟨12, by omega, by omega, by rw [if_pos (by omega)]; rfl⟩
    · exact ⟨l.length, by omega, by omega, by rw [if_neg (by omega)]⟩
  have w1 : IntKind.i64.wrap told = told := wrap_i64 (by omega) (by omega)
  have w2 : IntKind.i64.wrap ((n : Int) + 1) = (n : Int) + 1 := wrap_i64 (by omega) (by omega)
  have w3 : IntKind.i64.wrap other = other := wrap_i64 (by omega) (by omega)
  have w4 : IntKind.i64.wrap pages = pages := wrap_i64 (by omega) (by omega)
  obtain ⟨more, hmore, hmn⟩ : ∃ m : Nat, told % ((n : Int) + 1) = (m : Int) ∧ m ≤ n := by
    have a := Int.emod_nonneg told (b := (n : Int) + 1) (by omega)
    have b := Int.emod_lt_of_pos told (b := (n : Int) + 1) (by omega)
    exact ⟨(told % ((n : Int) + 1)).toNat, by omega, by omega⟩
  simp only [dn, cB_false, decide_true, cB_true, castNil_nil, L.len, bind1_some, castInt_int, hnn, w1, w2, w3, w4, er_rem t0 (show (0 : Int) < (n : Int) + 1 by omega), hmore]
  have ls : ∃ less : Nat, (less < more ∨ (less = 0 ∧ more = 0)) ∧ S7_5 lf other more 0 ha = some (.normal, [.int .i64 (less : Int)], ha) := by
    by_cases q : 0 < more
    · have hd : decide ((more : Int) > 0) = true := decide_eq_true (by omega)
      have a := Int.emod_nonneg other (b := (more : Int)) (by omega)
      have b := Int.emod_lt_of_pos other (b := (more : Int)) (by omega)
      refine ⟨(other % (more : Int)).toNat, .inl (by omega), ?_⟩
      simp only [S7_5, hd, cB_true, w3, er_rem o0 (show (0 : Int) < (more : Int) by omega), bind1_some, castInt_int]
      rw [Int.toNat_of_nonneg a]
    · have hd : decide ((more : Int) > 0) = false := decide_eq_false (by omega)
      refine ⟨0, .inr ⟨rfl, by omega⟩, ?_⟩
      simp only [S7_5, hd, cB_false]
      rfl
  obtain ⟨less, hless, els⟩ := ls
  simp only [els, bind3_some, decide_true, cB_true, castCons_cons, castInt_int, castNil_nil]
  refine To2.bind2 (head20 hf h0) ?_
  intro v2 h2 q2
  unfold HeadQ at q2
  rw [if_neg (by omega)] at q2
  obtain ⟨hh, rfl, n2⟩ := q2
  simp only [castTup_tup, castCons_cons, castInt_int, castNil_nil]
  refine To2.bind2 (head20 hf h0) ?_
  intro v3 h3 q3
  unfold HeadQ at q3
  rw [if_neg (by omega)] at q3
  obtain ⟨gg, rfl, n3⟩ := q3
  have s2 := n2.1.kp n3.2.2.1
  have s3 := n3.1
  have kb := (ka.tr n2.2.2.1).tr n3.2.2.1
  have b0 : ((0 : Int) != 0) = false := by decide
  have b64 : ((64 : Int) != 64) = false := by decide
  have lM : ((headB salt pages more).length : Int) = 64 := by simp
  have lL : ((headB salt pages less).length : Int) = 64 := by simp
  obtain ⟨a1, g1, a2, g2, a3, g3, e1, e2, e3, wa, k3, i3⟩ := two_to s2 s3 (by simp) (by simp)
  simp only [castTup_tup, castCons_cons, castInt_int, castNil_nil, S7_4, b0, cB_false, er_lenL s2, er_lenL s3, bv_length, lM, lL, b64, bind1_some, bind3_some, dn, decide_true, cB_true, e1, e2, e3, bind2_some]
  have kc := kb.tr k3
  -- the two heads in their order
  obtain ⟨X, Y, m1, m2, hXY⟩ : ∃ X Y : List Int, ∃ m1 m2 : Nat, X = headB salt pages m1 ∧ Y = headB salt pages m2 ∧ (if second = true then m1 = less ∧ m2 = more else m1 = more ∧ m2 = less) := by
    cases second
    · exact ⟨_, _, more, less, rfl, rfl, rfl, rfl⟩
    · exact ⟨_, _, less, more, rfl, rfl, rfl, rfl⟩
  obtain ⟨rfl, rfl, hsec⟩ := hXY
  have heads : To3 (S7_3 lf second hh gg a3 g3) fun x vs h' => ∃ b, x = .normal ∧ vs = [b] ∧ Kp g3 h' [] ∧ Wh 1 h' b (bv (headB salt pages m1 ++ headB salt pages m2)) ∧ (∀ j, j ∈ idsOf b → h3.length ≤ j) := by
    unfold S7_3
    cases second
    · simp only [Bool.false_eq_true, if_false] at hsec
      obtain ⟨rfl, rfl⟩ := hsec
      simp only [cB_false]
      exact To3.some ⟨a3, rfl, rfl, Kp.refl _ _, wa, i3⟩
    · simp only [if_true] at hsec
      obtain ⟨rfl, rfl⟩ := hsec
      obtain ⟨c1, d1, c2, d2, c3, d3, f1, f2, f3, wc, k5, i5⟩ := two_to (s3.kp k3) (s2.kp k3) (by simp) (by simp)
      simp only [cB_true, f1, f2, f3, bind2_some]
      exact To3.some ⟨c3, rfl, rfl, k5, wc, fun j hj => by have := i5 j hj; have := k3.len; omega⟩
  refine To2.bind3 heads ?_
  rintro x vs h8 ⟨b, rfl, rfl, k8, wb, ib⟩
  have kd := kc.tr k8
  have l38 : h3.length ≤ h8.length := (k3.tr k8).len
  simp only [decide_true, cB_true, castCons_cons, castNil_nil]
  have wb0 : Wh 1 h8 b (bv ((headB salt pages m1 ++ headB salt pages m2) ++ recsF salt l 0)) := by simpa [recsF] using wb
  refine To2.bind3 (recsL lf hf (H0 := h3) h0 L hn hnl (by simp) n 0 lf h8 b (by omega) (by omega) (k3.tr k8) wb0 ib) ?_
  rintro x vs h9 ⟨c, rfl, rfl, k9, wc, ic⟩
  have ke := kb.tr k9
  simp only [decide_true, cB_true, castCons_cons, castNil_nil]
  have lr := recsF_len salt l n
  refine To2.bind2 (appWh_to (bytes := 1) wc (contsW_of (sb.kp ke).c) (by simp [roomMax, lr]; omega) (beqs_bv _)) ?_
  rintro y h10 ⟨wy, was, k10, iy⟩
  have kf : Kp h3 h10 [] := k9.trans k10 (fun j hj => by cases hj) (fun j hj hlt => by have := ic j hj; omega)
  have hM : HdI (headB salt pages m1) salt pages m1 := .inl ⟨rfl, h0, h1, by omega, by omega, by omega, by
    cases second <;> simp at hsec <;> omega⟩
  have hL : HdI (headB salt pages m2) salt pages m2 := .inl ⟨rfl, h0, h1, by omega, by omega, by omega, by
    cases second <;> simp at hsec <;> omega⟩
  have pk : pickH (salt, pages, (m1 : Int)) (salt, pages, (m2 : Int)) = (salt, pages, (more : Int)) := by
    unfold pickH
    cases second <;> simp at hsec <;> obtain ⟨rfl, rfl⟩ := hsec
    · rw [if_neg (by simp; omega)]
    · rcases hless with q | ⟨q, r⟩
      · rw [if_pos (by simp; omega)]
      · rw [if_neg (by simp; omega), q, r]
  have sy : Sl 1 h10 y (bv (headB salt pages m1 ++ (headB salt pages m2 ++ (recsF salt l n ++ bs)))) := by
    have := wy.sl
    rwa [← bv_append, List.append_assoc, List.append_assoc] at this
  refine To2.bind2 (readX hf hM hL sy h0 h1 L pk hn hmn hnl (by omega)) ?_
  rintro v h11 ⟨rfl, k11⟩
  have was11 := was.kp k11
  simp only [castBool_bool, Bool.not_true, cB_false]
  obtain ⟨at_, hat, eat⟩ : ∃ at_ : Nat, (at_ = if second = true then 64 else 0) ∧ S7_2 lf second 0 h11 = some (.normal, [.int .i64 (at_ : Int)], h11) := by
    cases second
    · exact ⟨0, rfl, rfl⟩
    · exact ⟨64, rfl, rfl⟩
  obtain ⟨z0, h13, ez, rz⟩ := bslice_to (h := h11) (sz := 1) (z := .int .u8 0) (ps := []) (es := []) (len := 0) (by decide) rfl rfl rfl
  obtain ⟨hz, hz2, -, -, k13, -⟩ := rz
  have wz : Wh 1 h13 z0 [] := ⟨h11.length, hz, by rw [hz2, List.getElem?_append_right (by simp)]; simp⟩
  simp only [List.map_nil] at ez
  simp only [eat, bind3_some, decide_true, cB_true, castCons_cons, castInt_int, castNil_nil, ez, bind2_some]
  refine To2.bind2 (appWh_to (bytes := 1) wz (was11.kp k13).c (by simp [roomMax, lr]; omega) rfl) ?_
  rintro d h14 ⟨wd, -, k14, idd⟩
  rw [List.nil_append] at wd
  have l13 := k13.len
  have fd : ∀ j, j ∈ idsOf d → h13.length ≤ j := fun j hj => by rw [idd] at hj; simp at hj; omega
  have kg : Kp h11 h14 [] := k13.trans k14 (fun j hj => by cases hj) (fun j hj hlt => by rw [hz] at hj; simp [idsOf] at hj; omega)
  have hat2 : at_ ≤ 64 := by cases second <;> simp at hat <;> omega
  refine To2.bind3 (overL lf (H0 := h11) (B := headB salt pages m1 ++ headB salt pages m2 ++ recsF salt l n) (at_ := at_) (by simp; omega) hat2 64 0 lf h14 _ (by omega) (by omega) kg wd.sl wd.ap (fun j hj => by have := fd j hj; omega) (fun j => by rw [if_neg (by omega)])) ?_
  rintro x vs h15 ⟨rfl, rfl, k15, ms, sd, hms⟩
  simp only [decide_true, cB_true, castNil_nil]
  have kh := ke
  have k1115 : Kp h h15 [] := ((ke.trans k10 (C := []) (fun j hj => by cases hj) (fun j hj hlt => by have := ic j hj; have := kb.len; omega)).tr k11).tr k15
  have lB : (headB salt pages m1 ++ headB salt pages m2 ++ recsF salt l n).length = 128 + n * 576 := by simp only [List.length_append, headB_len, lr]
  have lms : ms.length ≤ 7040 := by
    refine Nat.le_of_not_lt fun q => ?_
    have := hms 7040
    rw [if_neg (by omega), List.getElem?_eq_none (l := headB salt pages m1 ++ headB salt pages m2 ++ recsF salt l n) (by omega), List.getElem?_eq_getElem q] at this
    cases this
  refine To2.bind2 (app_to (bytes := 1) sd wd.ap (sb.kp k1115).c (by simp [roomMax]; omega)) ?_
  rintro y2 h16 ⟨sy2, -, k16, -⟩
  rw [← bv_append] at sy2
  have fin : To2 (F31 lf y2 salt pages list less h16) fun v h' => v = .bool true ∧ Kp h16 h' [] := by
    rw [List.append_assoc] at hms
    cases second
    · simp at hsec hat
      obtain ⟨rfl, rfl⟩ := hsec
      subst hat
      have e := over1 (headB_len _ _ _) (rep_len told) (rep_at told) hms
      rw [e, List.append_assoc, List.append_assoc] at sy2
      exact readX hf told_hd hL sy2 h0 h1 L (by unfold pickH; rw [if_pos (by first | (simp; done) | (simp; omega))]) hn (by omega) hnl (by omega)
    · simp at hsec hat
      obtain ⟨rfl, rfl⟩ := hsec
      subst hat
      have e := over2 (headB_len _ _ _) (headB_len _ _ _) (rep_len told) (rep_at told) hms
      rw [e, List.append_assoc, List.append_assoc] at sy2
      exact readX hf hM told_hd sy2 h0 h1 L (by unfold pickH; rw [if_neg (by first | (simp; done) | (simp; omega))]) hn (by omega) hnl (by omega)
  refine To2.bind2 fin ?_
  rintro v h17 ⟨rfl, k17⟩
  simp only [castBool_bool, cB_true]
  exact To2.some rfl
end Go.Proofs.Ytdcdmpgigmhhpaa.Jb
