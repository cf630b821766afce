/- Nodes: decoded; alike. No condition. -/
import Derived.Test.YtdcdmpgigmhhpaaNdV
namespace Go.Proofs.Ytdcdmpgigmhhpaa.Nd
open Go Go.Proofs.Ytdcdmpgigmhhpaa.E
open Go.Proofs.Ytdcdmpgigmhhpaa.Va Go.Proofs.Ytdcdmpgigmhhpaa.Rc
set_option maxRecDepth 100000
set_option linter.unusedVariables false
set_option linter.unusedSimpArgs false

open Classical in
noncomputable def decN (ms : List Int) : Option N := match nodeP ms with
  | some (n, r) => if formP n ∧ (spell n).length ≤ 508 ∧ ∀ x, x ∈ r → x = 0 then some n else none
  | none => none
theorem mem_flat {α : Type} (f : α → List Int) : ∀ (l : List α) (x : α), x ∈ l → (f x).length ≤ (l.flatMap f).length
  | y :: l, x, h => by
    simp only [List.flatMap_cons, List.length_append]
    rcases List.mem_cons.1 h with rfl | h
    · omega
    · have := mem_flat f l x h; omega
theorem nodeP_small {ms r : List Int} {n : N} (hb : Byt ms) (hl : ms.length ≤ 100000) (h : nodeP ms = some (n, r)) : small n ∧ Byt r ∧ r.length ≤ ms.length := by
  have e := nodeP_back hb h
  have hr : Byt r := fun x hx => hb x (by rw [e]; exact List.mem_append_right _ hx)
  have hlr : (spell n).length + r.length = ms.length := by rw [e]; simp
  refine ⟨?_, hr, by omega⟩
  cases ms with
  | nil => cases h
  | cons t c =>
    simp only [List.length_cons] at hl
    simp only [nodeP] at h
    split at h
    · split at h
      · cases h
      · split at h
        · cases h
        · rename_i cs e hcs
          injection h with h; injection h with h1 h2; subst h1
          simp only [spell, if_true, zip_maps, List.length_cons, List.length_append] at hlr
          have h1 := flat_le cellL cellL_pos cs
          refine ⟨by simp; omega, by simp; omega, by simp, fun k hk => ?_, fun k hk => ?_⟩
          · simp only [List.mem_map] at hk
            obtain ⟨x, hx, rfl⟩ := hk
            have := mem_flat cellL cs x hx
            simp only [cellL, pc, List.length_append] at this; omega
          · simp only [List.mem_map] at hk
            obtain ⟨x, hx, rfl⟩ := hk
            have := mem_flat cellL cs x hx
            simp only [cellL, pc, List.length_append] at this; omega
    · split at h
      · split at h
        · cases h
        · split at h
          · cases h
          · split at h
            · cases h
            · rename_i cs e hcs
              injection h with h; injection h with h1 h2; subst h1
              simp only [spell, Bool.false_eq_true, if_false, List.tail_cons, zip_maps, List.length_cons, List.length_append] at hlr
              have h1 := flat_le cellI cellI_pos cs
              refine ⟨by simp; omega, by simp, by simp; omega, fun k hk => ?_, fun k hk => by cases hk⟩
              simp only [List.mem_map] at hk
              obtain ⟨x, hx, rfl⟩ := hk
              have := mem_flat cellI cs x hx
              simp only [cellI, pc, List.length_append] at this; omega
      · cases h

theorem zero87L (lf : Nat) {h : List Ob} {D : V} {ks : List Int} (s : Sl 1 h D (bv ks)) (hl : ks.length ≤ 1000000) : ∀ (m k f : Nat), ks.length = k + m → m < f →
    To3 (L87_0 lf (cv47 lf) f D (.fn 72 []) ks.length k h) fun x vs h' => h' = h ∧ ((x = .exit 0 ∧ vs = [] ∧ ∀ y, y ∈ ks.drop k → y = 0) ∨ (∃ j : Nat, x = .ret ∧ vs = [.int .i64 j] ∧ ¬ ∀ y, y ∈ ks.drop k → y = 0)) := by
  intro m
  induction m with
  | zero =>
    intro k f hk hf
    obtain ⟨f, rfl⟩ : ∃ g, f = g + 1 := ⟨f - 1, by omega⟩
    have e : ks.drop k = [] := List.drop_of_length_le (by omega)
    have hd : decide ((k : Int) < (ks.length : Int)) = false := decide_eq_false (by omega)
    simp only [L87_0, B87_0, hd, cB_false, e]
    exact To3.some ⟨rfl, .inl ⟨rfl, rfl, fun y hy => by cases hy⟩⟩
  | succ m ih =>
    intro k f hk hf
    obtain ⟨f, rfl⟩ : ∃ g, f = g + 1 := ⟨f - 1, by omega⟩
    have hlt : k < ks.length := by omega
    have hd : decide ((k : Int) < (ks.length : Int)) = true := decide_eq_true (by omega)
    obtain ⟨a, a1, a2⟩ := s.at1 (k := (k : Int)) (e := .int .u8 ks[k]) (by omega) (bv_get (by simp [hlt])) rfl
    have hw : IntKind.i64.wrap ((k : Int) + 1) = ((k + 1 : Nat) : Int) := by rw [wrap_i64 (by omega) (by omega)]; simp
    have ecv : ∀ x h, cv47 lf (.fn 72 []) [.int .u8 x] h = F72 lf x h := by
      intro x h
      simp [cv47, cvC, W72, w72]
    simp only [L87_0, B87_0, hd, cB_true, a1, a2, bind1_some, castInt_int, ecv, F72, bind2_some, castBool_bool]
    rw [List.drop_eq_getElem_cons hlt]
    by_cases c : ks[k] = 0
    · have d : (ks[k] != 0) = false := by simp [c]
      simp only [d, cB_false, hw]
      refine (ih (k + 1) f (by omega) (by omega)).mono ?_
      rintro x vs h' ⟨rfl, ⟨rfl, rfl, q⟩ | ⟨j, rfl, rfl, q⟩⟩
      · refine ⟨rfl, .inl ⟨rfl, rfl, fun y hy => ?_⟩⟩
        rcases List.mem_cons.1 hy with rfl | hy
        · exact c
        · exact q y hy
      · exact ⟨rfl, .inr ⟨j, rfl, rfl, fun q2 => q fun y hy => q2 y (List.mem_cons_of_mem _ hy)⟩⟩
    · have d : (ks[k] != 0) = true := by simp [c]
      simp only [d, cB_true]
      exact To3.some ⟨rfl, .inr ⟨k, rfl, rfl, fun q => c (q _ (List.mem_cons_self ..))⟩⟩
theorem con71 {lf : Nat} {h : List Ob} {D : V} {ks : List Int} (s : Sl 1 h D (bv ks)) (hl : ks.length ≤ 1000000) (hf : ks.length < lf) : To2 (F71 lf (cv47 lf) D (.fn 72 []) h) fun v h' => h' = h ∧ ((v = .bool false ∧ ∀ y, y ∈ ks → y = 0) ∨ (v = .bool true ∧ ¬ ∀ y, y ∈ ks → y = 0)) := by
  have := zero87L lf s hl ks.length 0 lf (by omega) hf
  have z : ((0 : Nat) : Int) = 0 := rfl
  rw [z, List.drop_zero] at this
  simp only [F71, F87, er_lenL s, bv_length, bind1_some, castInt_int]
  refine To2.bind2 (Q := fun v h' => h' = h ∧ ∃ j : Int, v = .int .i64 j ∧ ((j < 0 ∧ ∀ y, y ∈ ks → y = 0) ∨ (0 ≤ j ∧ ¬ ∀ y, y ∈ ks → y = 0))) (To2.bind3 this ?_) ?_
  · rintro x vs h' ⟨rfl, ⟨rfl, rfl, q⟩ | ⟨j, rfl, rfl, q⟩⟩
    · simp only [decide_true, cB_true, castNil_nil]
      exact To2.some ⟨rfl, -1, rfl, .inl ⟨by decide, q⟩⟩
    · simp only [show decide (EX.ret = EX.exit 0) = false from rfl, decide_true, cB_true, cB_false, castCons_cons, castInt_int, castNil_nil]
      exact To2.some ⟨rfl, j, rfl, .inr ⟨by omega, q⟩⟩
  · rintro v h' ⟨rfl, j, rfl, ⟨q1, q2⟩ | ⟨q1, q2⟩⟩
    · have d : decide (j ≥ 0) = false := decide_eq_false (by omega)
      simp only [castInt_int, d]
      exact To2.some ⟨rfl, .inl ⟨rfl, q2⟩⟩
    · have d : decide (j ≥ 0) = true := decide_eq_true (by omega)
      simp only [castInt_int, d]
      exact To2.some ⟨rfl, .inr ⟨rfl, q2⟩⟩

/-- What is asked of a node that was read. -/
theorem ask47 {lf : Nat} (hf : 2000000 < lf) {h0 h : List Ob} {id idn : Nat} {n0 : N} {ms : List Int} (hb : Byt ms) (hl : ms.length ≤ 100000) (q : LQ h0 h id idn n0 (nodeP ms)) :
    To3 (S47_3 lf (.ptr id 0 0) (.ptr idn 0 0) h) fun x vs h' => x = .normal ∧ Kp h0 h' [] ∧ Kp h h' [] ∧ ((vs = [.bool true] ∧ decN ms = none) ∨ (∃ n K W D, vs = [.bool false] ∧ decN ms = some n ∧ St h' idn (nC n K W D) ∧ NR h' K W D n)) := by
  obtain ⟨n, K, W, D, rest, bad, r, b, kr, ho⟩ := q
  have r' := r
  obtain ⟨lid, v, st, sh, iv⟩ := r'
  have nk := st.nilck 0 0
  have f1 := st.faddr 1 0 0
  have l1 : er (.load1 (.c (.ptr id 0 1))) h = some (.bool bad) := st.load1 rfl
  simp only [Nat.zero_add] at f1
  simp only [S47_3, nk, f1, l1, bind1_some, castBool_bool]
  cases ho2 : nodeP ms with
  | none =>
    rw [ho2] at ho
    simp only at ho
    subst ho
    simp only [cB_true]
    exact To3.some ⟨rfl, kr, Kp.refl _ _, .inl ⟨rfl, by simp [decN, ho2]⟩⟩
  | some p =>
    obtain ⟨m, e⟩ := p
    rw [ho2] at ho
    obtain ⟨rfl, rfl, rfl⟩ := (show bad = false ∧ rest = e ∧ n = m from ho)
    obtain ⟨sm, hbr, hlr⟩ := nodeP_small hb hl ho2
    have s := b.nr
    have lN := b.st.loadN' (n := 4) rfl
    simp only [cB_false, lN, bind1_some, castAgg_agg, castCons_cons, castBool_bool, castNil_nil]
    refine To3.bind2 (form43 s sm hf) ?_
    rintro u h1 ⟨⟨rfl, fm⟩ | ⟨rfl, fm⟩, k1⟩
    · have st1 := b.st.kp k1
      have s1 := s.kp k1
      have lN1 := st1.loadN' (n := 4) rfl
      simp only [castBool_bool, Bool.not_true, cB_false, lN1, bind1_some, castAgg_agg, castCons_cons, castNil_nil]
      refine To3.bind2 (size45 hf s1 sm) ?_
      rintro u h2 ⟨rfl, k2⟩
      have hsz : sizeN n = (spell n).length := by unfold sizeN; rw [if_pos fm]
      simp only [castInt_int, hsz]
      by_cases c : (spell n).length > 508
      · have d : decide (((spell n).length : Int) > 508) = true := decide_eq_true (by omega)
        simp only [d, cB_true]
        refine To3.some ⟨rfl, (kr.tr k1).tr k2, k1.tr k2, .inl ⟨rfl, ?_⟩⟩
        unfold decN; rw [ho2]; simp only; rw [if_neg (fun z => by omega)]
      · have d : decide (((spell n).length : Int) > 508) = false := decide_eq_false (by omega)
        have r2 := r.kp (k1.tr k2)
        obtain ⟨_, v2, st2, sh2, iv2⟩ := r2
        have nk2 := st2.nilck 0 0
        have f0 := st2.faddr 0 0 0
        have l0 : er (.load1 (.c (.ptr id 0 0))) h2 = some v2 := st2.load1 rfl
        simp only [Nat.zero_add] at f0
        simp only [d, cB_false, nk2, f0, l0, bind1_some]
        refine To3.bind2 (con71 sh2 (by omega) (by omega)) ?_
        rintro u h3 ⟨hh, ⟨rfl, g⟩ | ⟨rfl, g⟩⟩ <;> subst hh
        · simp only [castBool_bool]
          refine To3.some ⟨rfl, (kr.tr k1).tr k2, k1.tr k2, .inr ⟨n, K, W, D, rfl, ?_, b.st.kp (k1.tr k2), s.kp (k1.tr k2)⟩⟩
          unfold decN; rw [ho2]; simp only; rw [if_pos ⟨fm, by omega, g⟩]
        · simp only [castBool_bool]
          refine To3.some ⟨rfl, (kr.tr k1).tr k2, k1.tr k2, .inl ⟨rfl, ?_⟩⟩
          unfold decN; rw [ho2]; simp only; rw [if_neg (fun z => g z.2.2)]
    · simp only [castBool_bool, Bool.not_false, cB_true]
      refine To3.some ⟨rfl, kr.tr k1, k1, .inl ⟨rfl, ?_⟩⟩
      unfold decN; rw [ho2]; simp only; rw [if_neg (fun z => fm z.1)]

theorem st_off {h : List Ob} {x : Nat} {cs : List V} {v : V} {es : List V} (st : St h x cs) (hl : cs.length ≠ 1) (s : Sl 1 h v es) : x ∉ idsOf v := by
  have c := s.c
  cases v <;> simp [idsOf]
  rename_i id off len
  rintro rfl
  simp only [conts] at c
  have st' : h[x]? = some (.row [.agg cs] cs.length) := st
  rw [st'] at c
  simp only at c
  rw [if_neg (fun z => hl z.1)] at c
  cases c
theorem sl_offKeep {h h' : List Ob} {x : Nat} {cs : List V} {v : V} {es : List V} (s : Sl 1 h v es) (st : St h x cs) (hl : cs.length ≠ 1) (k : Kp h h' [x]) : Sl 1 h' v es :=
  s.keep k (fun j hj q => by simp at q; subst q; exact st_off st hl s hj)
theorem SS.offKeep {h h' : List Ob} {x : Nat} {cs : List V} {v : V} {ks : List (List Int)} (s : SS h v ks) (st : St h x cs) (hl : cs.length ≠ 1) (k : Kp h h' [x]) : SS h' v ks := by
  obtain ⟨es, s1, s2, s3⟩ := s
  refine ⟨es, sl_offKeep s1 st hl k, s2, fun i hi => ?_⟩
  obtain ⟨e, e1, e2⟩ := s3 i hi
  exact ⟨e, e1, sl_offKeep e2 st hl k⟩
theorem NR.offKeep {h h' : List Ob} {x : Nat} {cs : List V} {K W D : V} {n : N} (s : NR h K W D n) (st : St h x cs) (hl : cs.length ≠ 1) (k : Kp h h' [x]) : NR h' K W D n :=
  ⟨s.k.offKeep st hl k, s.w.offKeep st hl k, sl_offKeep s.d st hl k, s.kc, s.wc, s.dc⟩

/-- A leaf asks for no first child. -/
theorem kid47L {lf : Nat} {h0 h : List Ob} {id idn : Nat} {n : N} {K W D : V} (b : NB h0 h id idn n K W D) (hleaf : n.leaf = true) : S47_4 lf (.ptr id 0 0) (.ptr idn 0 0) h = some (.normal, [], h) := by
  have q0 := b.st.faddr 0 0 0
  have q1 : er (.load1 (.c (.ptr idn 0 0))) h = some (.bool n.leaf) := b.st.load1 rfl
  simp only [Nat.zero_add] at q0
  simp only [S47_4, q0, q1, hleaf, bind1_some, castBool_bool, Bool.not_true, cB_false]
theorem kid47I {lf : Nat} {h0 h : List Ob} {id idn : Nat} {ms : List Int} {bad : Bool} {n : N} {K W D : V} (r : Rd h0 h id ms bad) (b : NB h0 h id idn n K W D) (kr : Kp h0 h []) (hb : Byt ms) (hl : ms.length ≤ 1000000) (hf : 1000000 < lf) (hleaf : n.leaf = false) (hk : n.kids.length ≤ 1000000) :
    To3 (S47_4 lf (.ptr id 0 0) (.ptr idn 0 0) h) fun x vs h' => x = .normal ∧ vs = [] ∧ ∃ k D' c bad', NB h0 h' id idn ⟨false, n.keys, n.vals, n.kids ++ [k]⟩ K W D' ∧ Kp h0 h' [] ∧ Rd h0 h' id c bad' ∧ Byt c ∧ c.length ≤ ms.length ∧
      ((bad' = false ∧ bad = false ∧ numP 10000 ms = some (k, c)) ∨ (bad' = true ∧ (bad = true ∨ numP 10000 ms = none))) := by
  have q0 := b.st.faddr 0 0 0
  have q1 : er (.load1 (.c (.ptr idn 0 0))) h = some (.bool n.leaf) := b.st.load1 rfl
  have q2 := b.st.faddr 3 0 0
  have q3 : er (.load1 (.c (.ptr idn 0 3))) h = some D := b.st.load1 rfl
  simp only [Nat.zero_add] at q0 q2
  simp only [S47_4, q0, q1, hleaf, bind1_some, castBool_bool, Bool.not_false, cB_true, q2, q3]
  refine To3.bind2 (num69 r hb (by omega) (by omega) (bound := 10000) (by decide) (by decide)) ?_
  rintro v5 h5 ⟨k5, hx5⟩
  have b5 := b.rd k5
  have kr5 := b.kr kr k5 (fun j hj => by simp at hj; simp [hj])
  obtain ⟨k2v, c2, bad2, rfl, r5, hb5, hl5, hy5⟩ : ∃ k2v c2 bad2, v5 = .int .i64 k2v ∧ Rd h0 h5 id c2 bad2 ∧ Byt c2 ∧ c2.length ≤ ms.length ∧ ((bad2 = false ∧ bad = false ∧ numP 10000 ms = some (k2v, c2)) ∨ (bad2 = true ∧ (bad = true ∨ numP 10000 ms = none))) := by
    rcases hx5 with ⟨z1, k2v, c2, z2, z3, z4⟩ | ⟨z1, z2, z3⟩
    · obtain ⟨g1, _, _, _, _, _, g7⟩ := numP_back hb z2
      exact ⟨k2v, c2, false, z3, z4, by rw [g7]; exact Byt.drop hb _, by rw [g7]; simp, .inl ⟨rfl, z1, z2⟩⟩
    · exact ⟨0, ms, true, z2, z3, hb, Nat.le_refl _, .inr ⟨rfl, z1⟩⟩
  have q2' := b5.st.faddr 3 0 0
  have q3' : er (.load1 (.c (.ptr idn 0 3))) h5 = some D := b5.st.load1 rfl
  simp only [Nat.zero_add] at q2'
  simp only [castInt_int]
  rw [reP_pos _ q3', reP_pos _ q2']
  refine To3.bind2 (growD b5 (by omega)) ?_
  rintro x6 h6 ⟨st6, k6, g6⟩
  have y2 := st6.faddr 3 0 0
  have y3 : er (.load1 (.c (.ptr idn 0 3))) h6 = some D := st6.load1 rfl
  simp only [Nat.zero_add] at y2
  rw [reP_pos _ y3, reP_pos _ y2]
  refine To3.bind2 g6 ?_
  rintro D' h7 ⟨st7, k7, g7⟩
  have w2 := st7.faddr 3 0 0
  simp only [Nat.zero_add] at w2
  simp only [w2, bind1_some]
  refine To3.bind2 g7 ?_
  rintro u h8 ⟨b8, k8⟩
  have r8 := b5.rdKeep r5 k8 (fun j hj => .inr (.inr hj))
  have kr8 := b5.kr kr5 k8 (fun j hj => by simp only [List.mem_cons, List.mem_append] at hj ⊢; rcases hj with z | z; exact .inr (.inl z); exact .inr (.inr (.inr (.inr z))))
  rw [hleaf] at b8
  exact To3.some ⟨rfl, rfl, k2v, D', c2, bad2, b8, kr8, r8, hb5, hl5, hy5⟩

theorem er_zeroN (h : List Ob) : er (.build [.bool false, .nils, .nils, .nils] []) h = some (.agg [.bool false, .nils, .nils, .nils]) := rfl
def DecNd (h0 h' : List Ob) (ms : List Int) (v : V) : Prop := Kp h0 h' [] ∧ ((decN ms = none ∧ v = .tup [.agg [.bool false, .nils, .nils, .nils], .int .i64 2]) ∨ ∃ n K W D, decN ms = some n ∧ v = .tup [.agg (nC n K W D), .int .i64 0] ∧ NR h' K W D n)

theorem dec47 {lf : Nat} (hf : 2000000 < lf) {hh : List Ob} {b : V} {ms : List Int} (s : Sl 1 hh b (bv ms)) (hb : Byt ms) (hl : ms.length ≤ 100000) : To2 (F47 lf b hh) fun v h' => DecNd hh h' ms v := by
  simp only [F47]
  refine To2.bind2 (alloc_to rfl) ?_
  rintro p h0 ⟨rfl, stx, kx⟩
  have s0 := s.kp kx
  have z : ((0 : Nat) : Int) = 0 := rfl
  -- the bad end
  have badEnd : ∀ {h1 : List Ob}, Kp h0 h1 [] → decN ms = none → To2 (bind2 (ev (.store 4 (.c (.ptr hh.length 0 0)) (.c (.agg [.bool false, .nils, .nils, .nils]))) h1) fun u h_2 => bind1 (evLoadN h_2 4 (.ptr hh.length 0 0)) fun r => some (V.tup [r, .int .i64 2], h_2)) fun v h' => DecNd hh h' ms v := by
    intro h1 k hd
    refine To2.bind2 ((stx.kp k).storeN (ds := [.bool false, .nils, .nils, .nils]) rfl (by decide) rfl rfl) ?_
    rintro u h2 ⟨st2, k2⟩
    have lv : evLoadN h2 4 (.ptr hh.length 0 0) = some (.agg [.bool false, .nils, .nils, .nils]) := st2.loadN
    simp only [lv, bind1_some]
    exact To2.some ⟨(kx.tr k).trans k2 (fun j hj => by cases hj) (fun j hj hlt => by simp at hj; omega), .inl ⟨hd, rfl⟩⟩
  have bad0 : ∀ x : Bool, x = true → decN ms = none → To2 (cB x (bind1 (er (.build [.bool false, .nils, .nils, .nils] []) h0) fun v => castAgg v fun l1 => castCons l1 fun c1 l2 => castBool c1 fun x22_0 => castCons l2 fun x22_1 l3 => castCons l3 fun x22_2 l4 => castCons l4 fun x22_3 l5 => castNil l5 (
      bind2 (ev (.store 4 (.c (.ptr hh.length 0 0)) (.c (.agg [(.bool x22_0), x22_1, x22_2, x22_3]))) h0) fun u h_2 => bind1 (evLoadN h_2 4 (.ptr hh.length 0 0)) fun r => some ((V.tup [r, (.int .i64 (2))]), h_2))) none) fun v h' => DecNd hh h' ms v := by
    intro x hx hd
    subst hx
    simp only [cB_true, er_zeroN, bind1_some, castAgg_agg, castCons_cons, castBool_bool, castNil_nil]
    exact badEnd (Kp.refl _ _) hd
  cases ms with
  | nil =>
    have hS : S47_0 lf b h0 = some (.normal, [.bool true], h0) := by
      simp only [S47_0, er_lenL s0, bv_length, bind1_some, castInt_int]
      rfl
    simp only [hS, bind3_some, decide_true, cB_true, castCons_cons, castBool_bool, castNil_nil, er_zeroN, bind1_some, castAgg_agg]
    exact badEnd (Kp.refl _ _) (by simp [decN, nodeP])
  | cons t c =>
    have ht := hb t (by simp)
    have hbc : Byt c := fun x hx => hb x (by simp [hx])
    obtain ⟨a, a1, a2⟩ := s0.at1 (k := 0) (e := .int .u8 t) (by omega) rfl rfl
    have c0 : (((t :: c).length : Int) == 0) = false := beq_eq_false_iff_ne.2 (by simp only [List.length_cons]; omega)
    by_cases htag : t = 1 ∨ t = 2
    · have hS : S47_0 lf b h0 = some (.normal, [.bool false], h0) := by
        simp only [S47_0, er_lenL s0, bv_length, bind1_some, castInt_int, c0, cB_false, a1, a2]
        rcases htag with rfl | rfl <;> rfl
      obtain ⟨y, ey, sy, iy⟩ := slc_to (lo := some (.c (.int .i64 1))) (hi := none) (a := 1) (b := (t :: c).length) s0 bv_cells rfl (by simp [bndV]) (by simp) (by simp)
      have sy : Sl 1 h0 y (bv c) := by
        have : ((bv (t :: c)).drop 1).take ((t :: c).length - 1) = bv c := by
          have e : (bv (t :: c)).drop 1 = bv c := rfl
          rw [e]; exact List.take_of_length_le (by simp)
        rwa [this] at sy
      have eb : er (.build [.nils, .bool false] [(0, (1, .c y))]) h0 = some (.agg [y, .bool false]) := by
        have := sy.sc
        cases y <;> first | rfl | (have := sy.c; simp [conts] at this)
      simp only [hS, bind3_some, decide_true, cB_true, cB_false, castCons_cons, castBool_bool, castNil_nil, ey, bind1_some, eb, castAgg_agg]
      refine To2.bind2 (box_to (cs := [y, .bool false]) (by simp [sy.sc.2]; rfl)) ?_
      rintro p h1 ⟨rfl, st1, k1⟩
      have r1 : Rd h0 h1 h0.length c false := ⟨Nat.le_refl _, y, st1, sy.kp k1, fun j hj => s0.lt (iy j hj)⟩
      obtain ⟨a', a1', a2'⟩ := (s0.kp k1).at1 (k := 0) (e := .int .u8 t) (by omega) rfl rfl
      have eb2 : er (.build [.bool false, .nils, .nils, .nils] [(0, (1, .c (.bool (t == 1))))]) h1 = some (.agg [.bool (t == 1), .nils, .nils, .nils]) := rfl
      simp only [a1', a2', bind1_some, castInt_int, eb2, castAgg_agg, castCons_cons, castBool_bool, castNil_nil]
      refine To2.bind2 (alloc_to rfl) ?_
      rintro p h2 ⟨rfl, st2, k2⟩
      refine To2.bind2 (st2.storeN (ds := [.bool (t == 1), .nils, .nils, .nils]) rfl (by decide) rfl rfl) ?_
      rintro u h3 ⟨st3, k3⟩
      have hne : h0.length ≠ h1.length := by have := st1.lt; omega
      have k23 : Kp h1 h3 [] := k2.trans k3 (fun j hj => by cases hj) (fun j hj hlt => by simp at hj; omega)
      have r3 := r1.kp k23
      have kr3 : Kp h0 h3 [] := k1.tr k23
      have b3 : NB h0 h3 h0.length h1.length ⟨t == 1, [], [], []⟩ .nils .nils .nils :=
        ⟨st3, ⟨[], Sl.nils _ _, rfl, fun i hi => by simp at hi⟩, ⟨[], Sl.nils _ _, rfl, fun i hi => by simp at hi⟩, Sl.nils _ _, Ap.nils, Ap.nils, Ap.nils, hne, (fun j hj => by cases hj), (fun j hj => by cases hj), (fun j hj => by cases hj),
         ⟨Nat.le_refl _, k1.len, (fun j hj => by cases hj), (fun j hj => by cases hj), fun j hj => by cases hj⟩, r3.lt⟩
      have s3 := s0.kp kr3
      simp only [er_lenL s3, bv_length, bind1_some, castInt_int]
      simp only [List.length_cons] at hl
      refine To2.bind2 (num69 r3 hbc (by omega) (by omega) (bound := ((t :: c).length : Int)) (by omega) (by simp only [List.length_cons]; omega)) ?_
      rintro v4 h4 ⟨k4, hx4⟩
      have b4 := b3.rd k4
      have kr4 := b3.kr kr3 k4 (fun j hj => by simp at hj; simp [hj])
      have q0 := b4.st.faddr 0 0 0
      have q1 : er (.load1 (.c (.ptr h1.length 0 0))) h4 = some (.bool (t == 1)) := b4.st.load1 rfl
      have q3 := b4.st.faddr 3 0 0
      have q4 : er (.load1 (.c (.ptr h1.length 0 3))) h4 = some .nils := b4.st.load1 rfl
      simp only [Nat.zero_add] at q0 q3
      -- the loop and what is behind it
      have rest : ∀ {cells : Int} {h5 : List Ob}, To3 (S47_4 lf (.ptr h0.length 0 0) (.ptr h1.length 0 0) h4) (fun x vs h5 => x = .normal ∧ vs = [] ∧ To3 (L47_2 lf lf (.ptr h0.length 0 0) (.ptr h1.length 0 0) cells h5) fun x vs h' => x = .exit 0 ∧ vs = [] ∧ LQ h0 h' h0.length h1.length ⟨t == 1, [], [], []⟩ (nodeP (t :: c))) →
          To2 (bind3 (S47_4 lf (.ptr h0.length 0 0) (.ptr h1.length 0 0) h4) fun ex1 vs1 h_6 =>
cB (decide (ex1 = .normal)) (
castNil vs1 (
bind3 (L47_2 lf lf (.ptr h0.length 0 0) (.ptr h1.length 0 0) cells h_6) fun ex2 vs2 h_7 =>
cB (decide (ex2 = (.exit 0))) (
castNil vs2 (
bind3 (S47_3 lf (.ptr h0.length 0 0) (.ptr h1.length 0 0) h_7) fun ex3 vs3 h_8 =>
cB (decide (ex3 = .normal)) (
castCons vs3 fun c3 l9 =>
castBool c3 fun x100 =>
castNil l9 (
cB x100 (
bind1 (er (.build [(.bool false), .nils, .nils, .nils] []) h_8) fun v5 =>
castAgg v5 fun l10 =>
castCons l10 fun c4 l11 =>
castBool c4 fun x101_0 =>
castCons l11 fun x101_1 l12 =>
castCons l12 fun x101_2 l13 =>
castCons l13 fun x101_3 l14 =>
castNil l14 (
bind2 (ev (.store 4 (.c (.ptr hh.length 0 0)) (.c (.agg [(.bool x101_0), x101_1, x101_2, x101_3]))) h_8) fun u1 h_9 =>
bind1 (evLoadN h_9 4 (.ptr hh.length 0 0)) fun r =>
some ((V.tup [r, (.int .i64 (2))]), h_9))) (
bind1 (er (.loadN 4 (.c (.ptr h1.length 0 0))) h_8) fun v5 =>
castAgg v5 fun l10 =>
castCons l10 fun c4 l11 =>
castBool c4 fun x102_0 =>
castCons l11 fun x102_1 l12 =>
castCons l12 fun x102_2 l13 =>
castCons l13 fun x102_3 l14 =>
castNil l14 (
bind2 (ev (.store 4 (.c (.ptr hh.length 0 0)) (.c (.agg [(.bool x102_0), x102_1, x102_2, x102_3]))) h_8) fun u1 h_9 =>
bind1 (evLoadN h_9 4 (.ptr hh.length 0 0)) fun r =>
some ((V.tup [r, (.int .i64 (0))]), h_9))))) (
none))) (
none))) (
none)) fun v h' => DecNd hh h' (t :: c) v := by
        intro cells _ hS4
        refine To2.bind3 hS4 ?_
        rintro x vs h5 ⟨rfl, rfl, hL⟩
        simp only [decide_true, cB_true, castNil_nil]
        refine To2.bind3 hL ?_
        rintro x vs h6 ⟨rfl, rfl, lq⟩
        simp only [decide_true, cB_true, castNil_nil]
        refine To2.bind3 (ask47 hf hb (by simp only [List.length_cons]; omega) lq) ?_
        rintro x vs h7 ⟨rfl, kr7, k67, ⟨rfl, hd⟩ | ⟨n, K, W, D, rfl, hd, st7, s7⟩⟩
        · simp only [decide_true, cB_true, castCons_cons, castBool_bool, castNil_nil, er_zeroN, bind1_some, castAgg_agg]
          exact badEnd kr7 hd
        · have lN := st7.loadN' (n := 4) rfl
          simp only [decide_true, cB_true, cB_false, castCons_cons, castBool_bool, castNil_nil, lN, nC, bind1_some, castAgg_agg]
          have stx7 := stx.kp kr7
          refine To2.bind2 (stx7.storeN (ds := nC n K W D) rfl (by decide) (by simp [s7.kc.2, s7.wc.2, s7.dc.2]; rfl) rfl) ?_
          rintro u h8 ⟨st8, k8⟩
          have lv : evLoadN h8 4 (.ptr hh.length 0 0) = some (.agg (nC n K W D)) := st8.loadN
          simp only [lv, bind1_some]
          exact To2.some ⟨(kx.tr kr7).trans k8 (fun j hj => by cases hj) (fun j hj hlt => by simp at hj; omega), .inr ⟨n, K, W, D, hd, rfl, s7.offKeep stx7 (by simp) k8⟩⟩
      obtain ⟨cells, c4, bad4, rfl, r4, hb4, hl4, hc4, hy4⟩ : ∃ cells c4 bad4, v4 = .int .i64 cells ∧ Rd h0 h4 h0.length c4 bad4 ∧ Byt c4 ∧ c4.length ≤ c.length ∧ (0 ≤ cells ∧ cells ≤ ((t :: c).length : Int)) ∧ ((bad4 = false ∧ numP ((t :: c).length : Int) c = some (cells, c4)) ∨ (bad4 = true ∧ numP ((t :: c).length : Int) c = none)) := by
        rcases hx4 with ⟨z1, k2v, c2, z2, z3, z4⟩ | ⟨z1, z2, z3⟩
        · obtain ⟨g1, g2, g3, _, _, _, g7⟩ := numP_back hbc z2
          exact ⟨k2v, c2, false, z3, z4, by rw [g7]; exact Byt.drop hbc _, by rw [g7]; simp, ⟨g2, g3⟩, .inl ⟨rfl, z2⟩⟩
        · exact ⟨0, c, true, z2, z3, hbc, Nat.le_refl _, ⟨Int.le_refl _, by simp only [List.length_cons]; omega⟩, .inr ⟨rfl, z1.resolve_left (by decide)⟩⟩
      obtain ⟨m, rfl⟩ := Int.eq_ofNat_of_zero_le hc4.1
      simp only [List.length_cons] at hc4
      simp only [castInt_int]
      refine rest (h5 := h4) ?_
      rcases htag with rfl | rfl
      · rw [kid47L b4 rfl]
        refine To3.some ⟨rfl, rfl, ?_⟩
        rcases hy4 with ⟨rfl, hn⟩ | ⟨rfl, hn⟩
        · refine (leaf47 lf (by omega) c4.length lf m h4 c4 _ _ _ _ (Nat.le_refl _) (by omega) (by omega) r4 b4 kr4 hb4 (by omega) rfl ⟨by simp; omega, by simp; omega, by simp; omega⟩).mono ?_
          rintro x vs h' ⟨rfl, rfl, q⟩
          refine ⟨rfl, rfl, ?_⟩
          have e : nodeP (1 :: c) = (cellsP oneL m c4).map fun q => (⟨true, [] ++ q.1.map (·.1), [] ++ q.1.map (·.2), []⟩, q.2) := by
            simp only [nodeP, if_true]
            rw [hn]
            simp only [Int.toNat_natCast]
            cases cellsP oneL m c4 with
            | none => rfl
            | some o => obtain ⟨cs, e⟩ := o; rfl
          rw [e]; exact q
        · obtain ⟨f, hf'⟩ : ∃ f, lf = f + 1 := ⟨lf - 1, by omega⟩
          have := stop47 (lf := lf) (f := f) (c := m) r4 b4 kr4 (.inl rfl)
          rw [← hf'] at this
          refine this.mono ?_
          rintro x vs h' ⟨rfl, rfl, q⟩
          refine ⟨rfl, rfl, ?_⟩
          have e : nodeP (1 :: c) = none := by
            simp only [nodeP, if_true]
            rw [hn]
          rw [e]; simpa using q
      · refine (kid47I r4 b4 kr4 hb4 (by omega) (by omega) rfl (by simp)).mono ?_
        rintro x vs h5 ⟨rfl, rfl, k0, D', c5, bad5, b5, kr5, r5, hb5, hl5, hy5⟩
        refine ⟨rfl, rfl, ?_⟩
        cases bad5 with
        | false =>
          have h5' : bad4 = false ∧ numP 10000 c4 = some (k0, c5) := by
            rcases hy5 with ⟨_, y1, y2⟩ | ⟨y1, _⟩
            · exact ⟨y1, y2⟩
            · cases y1
          have h4' : numP (((2 : Int) :: c).length : Int) c = some ((m : Int), c4) := by
            rcases hy4 with ⟨_, z2⟩ | ⟨z1, z2⟩
            · exact z2
            · rw [h5'.1] at z1; cases z1
          refine (inner47 lf (by omega) c5.length lf m h5 c5 _ _ _ _ (Nat.le_refl _) (by omega) (by omega) r5 b5 kr5 hb5 (by omega) rfl ⟨by simp; omega, by simp; omega, by simp; omega⟩).mono ?_
          rintro x vs h' ⟨rfl, rfl, q⟩
          refine ⟨rfl, rfl, ?_⟩
          have e : nodeP (2 :: c) = (cellsP oneI m c5).map fun q => (⟨false, [] ++ q.1.map (·.1), [], ([] ++ [k0]) ++ q.1.map (·.2)⟩, q.2) := by
            simp only [nodeP, if_true]
            rw [if_neg (by decide), h4']
            simp only [Int.toNat_natCast]
            rw [h5'.2]
            simp only
            cases cellsP oneI m c5 with
            | none => rfl
            | some o => obtain ⟨cs, e⟩ := o; rfl
          rw [e]; exact q
        | true =>
          obtain ⟨f, hf'⟩ : ∃ f, lf = f + 1 := ⟨lf - 1, by omega⟩
          have := stop47 (lf := lf) (f := f) (c := m) r5 b5 kr5 (.inl rfl)
          rw [← hf'] at this
          refine this.mono ?_
          rintro x vs h' ⟨rfl, rfl, n', K', W', D2, ms', bad', p1, p2, p3, p4⟩
          refine ⟨rfl, rfl, ?_⟩
          have e : nodeP (2 :: c) = none := by
            simp only [nodeP, if_true]
            rw [if_neg (by decide)]
            rcases hy4 with ⟨z1, z2⟩ | ⟨_, z2⟩
            · rw [z2]; simp only
              rcases hy5 with ⟨y1, _⟩ | ⟨_, y1⟩
              · cases y1
              · rcases y1 with y1 | y1
                · rw [z1] at y1; cases y1
                · rw [y1]
            · rw [z2]
          rw [e]
          exact ⟨n', K', W', D2, ms', bad', p1, p2, p3, by simpa using p4⟩
    · have hS : S47_0 lf b h0 = some (.normal, [.bool true], h0) := by
        have d1 : (t != 1) = true := by simp; exact fun z => htag (.inl z)
        have d2 : (t != 2) = true := by simp; exact fun z => htag (.inr z)
        simp only [S47_0, er_lenL s0, bv_length, bind1_some, castInt_int, c0, cB_false, a1, a2, d1, d2, cB_true]
      simp only [hS, bind3_some, decide_true, cB_true, castCons_cons, castBool_bool, castNil_nil, er_zeroN, bind1_some, castAgg_agg]
      refine badEnd (Kp.refl _ _) ?_
      have e : nodeP (t :: c) = none := by
        simp only [nodeP]
        rw [if_neg (fun z => htag (.inl z)), if_neg (fun z => htag (.inr z))]
      simp [decN, e]
end Go.Proofs.Ytdcdmpgigmhhpaa.Nd
