/- NodeEncodes: the law's answer for every input. No condition. -/
import Derived.Test.YtdcdmpgigmhhpaaNes
import Derived.Test.YtdcdmpgigmhhpaaNdX
namespace Go.Proofs.Ytdcdmpgigmhhpaa.Ne
open Go Go.Proofs.Ytdcdmpgigmhhpaa.E
open Go.Proofs.Ytdcdmpgigmhhpaa.Va Go.Proofs.Ytdcdmpgigmhhpaa.Nd
set_option maxRecDepth 100000
set_option linter.unusedVariables false
set_option linter.unusedSimpArgs false

def fewN (n : N) : Prop := n.keys.length ≤ 300 ∧ n.vals.length ≤ 300 ∧ n.kids.length ≤ 300 ∧ (∀ k, k ∈ n.keys → k.length ≤ 1000) ∧ ∀ k, k ∈ n.vals → k.length ≤ 1000
theorem start {lf : Nat} (hf : 2000000 < lf) {h : List Ob} {K W D : V} {n : N} {id : Nat} (st : St h id (nC n K W D)) (s : NR h K W D n) :
    To3 (S12_1 lf (.ptr id 0 0) h) fun x vs h' => Kp h h' [] ∧ ((x = .ret ∧ vs = [.bool true]) ∨ (x = .normal ∧ vs = [] ∧ fewN n)) := by
  simp only [S12_1]
  refine To3.bind2 (awake32 hf) ?_
  rintro u h1 ⟨rfl, k1⟩
  have lN := (st.kp k1).loadN' (n := 4) rfl
  simp only [castBool_bool, Bool.not_true, cB_false, lN, nC, bind1_some, castAgg_agg, castCons_cons, castNil_nil]
  refine To3.bind2 (few33 (by omega) (s.kp k1)) ?_
  rintro u h2 ⟨k2, ⟨rfl, q⟩ | rfl⟩
  · simp only [castBool_bool, Bool.not_true, cB_false]
    exact To3.some ⟨k1.tr k2, .inr ⟨rfl, rfl, q⟩⟩
  · simp only [castBool_bool, Bool.not_false, cB_true]
    refine To3.bind2 (awake32 hf) ?_
    rintro u h3 ⟨rfl, k3⟩
    simp only [castBool_bool]
    exact To3.some ⟨(k1.tr k2).tr k3, .inl ⟨rfl, rfl⟩⟩
theorem small_of {n : N} (q : fewN n) : small n :=
  ⟨by have := q.1; omega, by have := q.2.1; omega, by have := q.2.2.1; omega, fun k hk => by have := q.2.2.2.1 k hk; omega, fun k hk => by have := q.2.2.2.2 k hk; omega⟩
theorem mid {lf : Nat} (hf : 2000000 < lf) {h : List Ob} {K W D b c : V} {n : N} {i j : Nat} (st : St h i (nC n K W D)) (st2 : St h j (nC n K W D)) (s : NR h K W D n) (sm : small n) (sb : Sl 1 h b (bv (encN n).1)) (sc : Sl 1 h c (bv (encN n).1)) (e : Int) :
    To3 (S12_0 lf (.ptr i 0 0) (.ptr j 0 0) b e c e h) fun x vs h' => Kp h h' [] ∧ x = .normal ∧ vs = [] := by
  have l1 := st.loadN' (n := 4) rfl
  have l2 := st2.loadN' (n := 4) rfl
  simp only [S12_0, l1, l2, nC, bind1_some, castAgg_agg, castCons_cons, castBool_bool, castNil_nil]
  refine To3.bind2 (form43 s sm hf) ?_
  rintro u h1 ⟨q1, k1⟩
  have p1 := (st.kp k1).loadN' (n := 4) rfl
  have rest : ∀ x : Bool, (x = true ∧ formP n) ∨ (x = false ∧ ¬ formP n) → To3 (reP (er (.loadN 4 (.c (.ptr i 0 0))) h1 = some (.agg [.bool n.leaf, K, W, D])) (bind2 (F44 lf n.leaf K W D h1) fun v3 h_1 =>
castBool v3 fun x34 =>
cB (!(x == x34)) (
some (.ret, [(.bool false)], h_1)) (
bind1 (er (.loadN 4 (.c (.ptr j 0 0))) h_1) fun v4 =>
castAgg v4 fun l10 =>
castCons l10 fun c3 l11 =>
castBool c3 fun x37_0 =>
castCons l11 fun x37_1 l12 =>
castCons l12 fun x37_2 l13 =>
castCons l13 fun x37_3 l14 =>
castNil l14 (
bind1 (er (.loadN 4 (.c (.ptr i 0 0))) h_1) fun v5 =>
castAgg v5 fun l15 =>
castCons l15 fun c4 l16 =>
castBool c4 fun x39_0 =>
castCons l16 fun x39_1 l17 =>
castCons l17 fun x39_2 l18 =>
castCons l18 fun x39_3 l19 =>
castNil l19 (
bind2 (F45 lf x37_0 x37_1 x37_2 x37_3 h_1) fun v6 h_2 =>
castInt .i64 v6 fun x38 =>
reP (er (.loadN 4 (.c (.ptr i 0 0))) h_2 = some (.agg [(.bool x39_0), x39_1, x39_2, x39_3])) (
bind2 (F46 lf x39_0 x39_1 x39_2 x39_3 h_2) fun v7 h_3 =>
castInt .i64 v7 fun x40 =>
cB (x38 != x40) (
some (.ret, [(.bool false)], h_3)) (
bind1 (er (.toStr (.c b)) h_3) fun v8 =>
castStr v8 fun x45 =>
bind1 (er (.toStr (.c c)) h_3) fun v9 =>
castStr v9 fun x47 =>
cB (!(x45 == x47)) (
some (.ret, [(.bool false)], h_3)) (
cB (e != e) (
some (.ret, [(.bool false)], h_3)) (
some (.normal, [], h_3)))))))))) fun x vs h' => Kp h h' [] ∧ x = .normal ∧ vs = [] := by
    intro x hx
    rw [reP_pos _ p1]
    refine To3.bind2 (form44 (s.kp k1) sm hf) ?_
    rintro u h2 ⟨q2, k2⟩
    have k12 := k1.tr k2
    have l1 := (st.kp k12).loadN' (n := 4) rfl
    have l2 := (st2.kp k12).loadN' (n := 4) rfl
    have go : To3 (bind1 (er (.loadN 4 (.c (.ptr j 0 0))) h2) fun v4 =>
castAgg v4 fun l10 =>
castCons l10 fun c3 l11 =>
castBool c3 fun x37_0 =>
castCons l11 fun x37_1 l12 =>
castCons l12 fun x37_2 l13 =>
castCons l13 fun x37_3 l14 =>
castNil l14 (
bind1 (er (.loadN 4 (.c (.ptr i 0 0))) h2) fun v5 =>
castAgg v5 fun l15 =>
castCons l15 fun c4 l16 =>
castBool c4 fun x39_0 =>
castCons l16 fun x39_1 l17 =>
castCons l17 fun x39_2 l18 =>
castCons l18 fun x39_3 l19 =>
castNil l19 (
bind2 (F45 lf x37_0 x37_1 x37_2 x37_3 h2) fun v6 h_2 =>
castInt .i64 v6 fun x38 =>
reP (er (.loadN 4 (.c (.ptr i 0 0))) h_2 = some (.agg [(.bool x39_0), x39_1, x39_2, x39_3])) (
bind2 (F46 lf x39_0 x39_1 x39_2 x39_3 h_2) fun v7 h_3 =>
castInt .i64 v7 fun x40 =>
cB (x38 != x40) (
some (.ret, [(.bool false)], h_3)) (
bind1 (er (.toStr (.c b)) h_3) fun v8 =>
castStr v8 fun x45 =>
bind1 (er (.toStr (.c c)) h_3) fun v9 =>
castStr v9 fun x47 =>
cB (!(x45 == x47)) (
some (.ret, [(.bool false)], h_3)) (
cB (e != e) (
some (.ret, [(.bool false)], h_3)) (
some (.normal, [], h_3)))))))) fun x vs h' => Kp h h' [] ∧ x = .normal ∧ vs = [] := by
      simp only [l1, l2, nC, bind1_some, castAgg_agg, castCons_cons, castBool_bool, castNil_nil]
      refine To3.bind2 (size45 hf (s.kp k12) sm) ?_
      rintro u h3 ⟨rfl, k3⟩
      have k13 := k12.tr k3
      have l3 := (st.kp k13).loadN' (n := 4) rfl
      simp only [castInt_int]
      rw [reP_pos _ l3]
      refine To3.bind2 (size46 hf (s.kp k13) sm) ?_
      rintro u h4 ⟨rfl, k4⟩
      have k14 := k13.tr k4
      simp only [castInt_int, bne_self_eq_false, cB_false, er_toStr (sb.kp k14), er_toStr (sc.kp k14), bind1_some, castStr_str, beq_self_eq_true, Bool.not_true]
      exact To3.some ⟨k14, rfl, rfl⟩
    rcases hx with ⟨rfl, f⟩ | ⟨rfl, f⟩ <;> rcases q2 with ⟨rfl, g⟩ | ⟨rfl, g⟩
    · simp only [castBool_bool, beq_self_eq_true, Bool.not_true, cB_false]; exact go
    · exact absurd f g
    · exact absurd g f
    · simp only [castBool_bool, beq_self_eq_true, Bool.not_true, cB_false]; exact go
  rcases q1 with ⟨rfl, f⟩ | ⟨rfl, f⟩
  · simp only [castBool_bool]; exact rest true (.inl ⟨rfl, f⟩)
  · simp only [castBool_bool]; exact rest false (.inr ⟨rfl, f⟩)

theorem law12 {lf : Nat} (hf : 2000000 < lf) {h : List Ob} {K W D : V} {n : N} {zs : Int} (s : NR h K W D n) (hk : ∀ k, k ∈ n.keys → Byt k) (hv : ∀ k, k ∈ n.vals → Byt k) (hz : 0 ≤ zs ∧ zs < 256) : To2 (F12 lf n.leaf K W D zs h) fun v _ => v = .bool true := by
  have hr : roomMax = 140737488355328 := rfl
  simp only [F12]
  refine To2.bind2 s.box ?_
  rintro p h1 ⟨rfl, st, k1⟩
  refine To2.bind3 (start hf st (s.kp k1)) ?_
  rintro x vs h2 ⟨k2, ⟨rfl, rfl⟩ | ⟨rfl, rfl, q⟩⟩
  · simp only [decide_true, cB_true, castCons_cons, castBool_bool, castNil_nil]
    exact To2.some rfl
  · have sm := small_of q
    have st := st.kp k2
    have s := s.kp (k1.tr k2)
    have lN := st.loadN' (n := 4) rfl
    simp only [show decide (EX.normal = EX.ret) = false from rfl, decide_true, cB_true, cB_false, castNil_nil, lN, nC, bind1_some, castAgg_agg, castCons_cons, castBool_bool]
    refine To2.bind2 (alloc_to rfl) ?_
    rintro p h3 ⟨rfl, stx, k3⟩
    refine To2.bind2 (stx.storeN (ds := nC n K W D) rfl (by decide) (by simp [s.kc.2, s.wc.2, s.dc.2]; rfl) rfl) ?_
    rintro u h4 ⟨stx, k4⟩
    have k34 : Kp h2 h4 [] := k3.trans k4 (fun j hj => by cases hj) (fun j hj hlt => by simp at hj; omega)
    have st := st.kp k34
    have s := s.kp k34
    have lX := stx.loadN' (n := 4) rfl
    simp only [lX, nC, bind1_some, castAgg_agg, castCons_cons, castBool_bool, castNil_nil]
    refine To2.bind2 (enc41 hf s sm) ?_
    rintro u h5 ⟨b, rfl, nb⟩
    have k5 := nb.2.2.1
    have st := st.kp k5
    have stx := stx.kp k5
    have s := s.kp k5
    have lN := st.loadN' (n := 4) rfl
    simp only [castTup_tup, castCons_cons, castInt_int, castNil_nil, lN, nC, bind1_some, castAgg_agg, castBool_bool]
    refine To2.bind2 (enc42 hf s sm) ?_
    rintro u h6 ⟨c, rfl, nc⟩
    have k6 := nc.2.2.1
    have st := st.kp k6
    have stx := stx.kp k6
    have s := s.kp k6
    have sb := nb.1.kp k6
    simp only [castTup_tup, castCons_cons, castInt_int, castNil_nil]
    refine To2.bind3 (mid hf st stx s sm sb nc.1 _) ?_
    rintro x vs h7 ⟨k7, rfl, rfl⟩
    have st := st.kp k7
    have s := s.kp k7
    have sb := sb.kp k7
    simp only [show decide (EX.normal = EX.ret) = false from rfl, decide_true, cB_true, cB_false, castNil_nil]
    refine To2.bind2 (bslice_to (len := 0) (ps := []) (es := []) (by decide) rfl rfl rfl) ?_
    rintro x0 h8 ⟨-, -, sx, ax, k8, fx⟩
    have hl := encN_len n
    refine To2.bind2 (app_to sx ax (sb.kp k8).c (by simp [hr]; omega)) ?_
    rintro x1 h9 ⟨sx1, ax1, k9, fx1⟩
    have n9 : New h7 (bv (encN n).1) x1 h9 := by
      have := New.beh (h := h7) (b := x1) ⟨sx, ax, k8, fx⟩ ⟨sx1, ax1, k9, fx1⟩
      simpa using this
    have hw : IntKind.i64.wrap zs = zs := wrap_i64 (by omega) (by omega)
    rw [hw]
    refine To2.bind2 (appZ_to n9.1 n9.2.1 hz.1 (by simp [hr]; omega)) ?_
    rintro x2 h10 ⟨sx2, ax2, k10, fx2⟩
    have n10 := New.beh n9 ⟨sx2, ax2, k10, fx2⟩
    have ez : bv (encN n).1 ++ List.replicate zs.toNat (.int .u8 0) = bv ((encN n).1 ++ List.replicate zs.toNat 0) := by simp [bv]
    rw [ez] at n10
    have hbz : Byt ((encN n).1 ++ List.replicate zs.toNat 0) := Byt.app (encN_byt hk hv) (fun m hm => by rw [List.mem_replicate] at hm; omega)
    refine To2.bind2 (dec47 hf n10.1 hbz (by simp; omega)) ?_
    rintro u h11 ⟨k11, hd⟩
    have k711 := n10.2.2.1.tr k11
    have st := st.kp k711
    have s := s.kp k711
    have fin : ∀ {n' : N} {K' W' D' : V} {cd : Int}, NR h11 K' W' D' n' → (cd = 0 → (encN n).2 = 0 → n' = n) → (cd ≠ 0 → (encN n).2 ≠ 0) → To2 (bind2 (ev (.alloc false (.agg [(.bool false), .nils, .nils, .nils])) h11) fun y h_11 =>
bind2 (ev (.store 4 (.c y) (.c (.agg [(.bool n'.leaf), K', W', D']))) h_11) fun u1 h_12 =>
cB ((encN n).2 != (0)) (
some ((.bool true), h_12)) (
cB (cd == (0)) (
bind1 (er (.loadN 4 (.c y)) h_12) fun v6 =>
castAgg v6 fun l29 =>
castCons l29 fun c8 l30 =>
castBool c8 fun x71_0 =>
castCons l30 fun x71_1 l31 =>
castCons l31 fun x71_2 l32 =>
castCons l32 fun x71_3 l33 =>
castNil l33 (
bind1 (er (.loadN 4 (.c (.ptr h.length 0 0))) h_12) fun v7 =>
castAgg v7 fun l34 =>
castCons l34 fun c9 l35 =>
castBool c9 fun x72_0 =>
castCons l35 fun x72_1 l36 =>
castCons l36 fun x72_2 l37 =>
castCons l37 fun x72_3 l38 =>
castNil l38 (
bind2 (F48 lf x71_0 x71_1 x71_2 x71_3 x72_0 x72_1 x72_2 x72_3 h_12) fun v8 h_13 =>
castBool v8 fun x73 =>
some ((.bool x73), h_13)))) (
some ((.bool false), h_12)))) fun v _ => v = V.bool true := by
      intro n' K' W' D' cd s' h0 h1
      refine To2.bind2 (alloc_to rfl) ?_
      rintro p h12 ⟨rfl, sty, k12⟩
      refine To2.bind2 (sty.storeN (ds := nC n' K' W' D') rfl (by decide) (by simp [s'.kc.2, s'.wc.2, s'.dc.2]; rfl) rfl) ?_
      rintro u h13 ⟨sty, k13⟩
      have kk : Kp h11 h13 [] := k12.trans k13 (fun j hj => by cases hj) (fun j hj hlt => by simp at hj; omega)
      by_cases c : (encN n).2 = 0
      · have hc : ((encN n).2 != 0) = false := by simp [c]
        by_cases d : cd = 0
        · obtain rfl := h0 d c
          have hd : (cd == 0) = true := by simp [d]
          have l1 := sty.loadN' (n := 4) rfl
          have l2 := (st.kp kk).loadN' (n := 4) rfl
          simp only [hc, hd, cB_true, cB_false, l1, l2, nC, bind1_some, castAgg_agg, castCons_cons, castBool_bool, castNil_nil]
          refine To2.bind2 (same48 hf (s'.kp kk) (s.kp kk) sm) ?_
          rintro u h14 ⟨rfl, -⟩
          simp only [castBool_bool]
          exact To2.some rfl
        · exact absurd c (h1 d)
      · have hc : ((encN n).2 != 0) = true := by simp [c]
        simp only [hc, cB_true]
        exact To2.some rfl
    rcases hd with ⟨hd, rfl⟩ | ⟨n', K', W', D', hd, rfl, s'⟩
    · simp only [castTup_tup, castCons_cons, castAgg_agg, castBool_bool, castNil_nil, castInt_int]
      refine fin (n' := ⟨false, [], [], []⟩) (K' := .nils) (W' := .nils) (D' := .nils) ⟨⟨[], Sl.nils _ _, rfl, fun i hi => by simp at hi⟩, ⟨[], Sl.nils _ _, rfl, fun i hi => by simp at hi⟩, Sl.nils _ _, ⟨rfl, rfl⟩, ⟨rfl, rfl⟩, ⟨rfl, rfl⟩⟩ (fun z => by cases z) (fun _ c => ?_)
      obtain ⟨g1, g2, g3⟩ := encN_ok c
      rw [g3, decN_of g1 g2 (by have := q.1; omega) (fun x hx => by rw [List.mem_replicate] at hx; exact hx.2)] at hd
      cases hd
    · simp only [castTup_tup, castCons_cons, castAgg_agg, castBool_bool, castNil_nil, castInt_int, nC]
      refine fin s' (fun _ c => ?_) (fun z => absurd rfl z)
      obtain ⟨g1, g2, g3⟩ := encN_ok c
      rw [g3, decN_of g1 g2 (by have := q.1; omega) (fun x hx => by rw [List.mem_replicate] at hx; exact hx.2)] at hd
      injection hd with hd; exact hd.symm

theorem shape {H : Type} {d0 d1 : DataW H} {u0 u1 : List V} (h0 : dV Try.prog d0 54 = some u0) (h1 : dV Try.prog d1 5 = some u1) :
    ∃ y1, u1 = [y1] ∧ CE Try.prog 12 [.agg u0, y1] [] fun v _ => v = .bool true := by
  obtain ⟨n, K, W, D, rfl, s, hk, hv⟩ := dV_node Try.underlying54 rfl Try.underlying4 Try.underlying51 Try.underlying51 Try.underlying52 Try.underlying22 Try.underlying5 Try.underlying3 h0
  obtain ⟨b, rfl, lb⟩ := dV_u8 Try.underlying5 h1
  obtain ⟨v, h', e, q⟩ := law12 (lf := 2000001) (h := []) (by omega) (s []) hk hv lb
  exact ⟨_, rfl, (F12_ok _ _ _ _ _ _ _ _ _ e).2.mono fun v2 h2 z => by rw [z.1]; exact q⟩
end Go.Proofs.Ytdcdmpgigmhhpaa.Ne
