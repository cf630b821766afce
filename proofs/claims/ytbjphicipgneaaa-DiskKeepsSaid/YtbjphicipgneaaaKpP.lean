/- Disks: sync; what a crash does with a file. No condition. -/
import Derived.Test.YtbjphicipgneaaaKps
import Derived.Test.YtbjphicipgneaaaDkX
import Derived.Test.YtbjphicipgneaaaL4
namespace Go.Proofs.Ytbjphicipgneaaa.Kp
open Go Go.Proofs.Ytbjphicipgneaaa.E
open Go.Proofs.Ytbjphicipgneaaa.Dk
set_option maxRecDepth 100000
set_option linter.unusedVariables false
set_option linter.unusedSimpArgs false

theorem settle53 {lf : Nat} {h : List Ob} {id j : Nat} {cs : List V} {v : V} {A : List Int} (st : St h id cs) (hv : cs[j]? = some v) (hj : j + 2 < cs.length) (s : Sl 1 h v (bv A)) (hl : A.length ≤ 1000000) :
    To2 (F53 lf (.ptr id 0 j) h) fun u h' => ∃ y, St h' id ((cs.set (j + 1) y).set (j + 2) .nilm) ∧ Sl 1 h' y (bv A) ∧ Ap y ∧ Kp h h' [id] ∧ ∀ i, i ∈ idsOf y → h.length ≤ i := by
  have nk := st.nilck 0 j
  have fa := st.faddr 0 0 j
  have l := st.load1 hv
  simp only [Nat.add_zero] at fa
  simp only [F53, nk, fa, l, bind1_some]
  refine To2.bind2 (clone52 s (by simp; omega)) ?_
  rintro y h1 ⟨sy, ay, ky, fy⟩
  have st1 := st.kp ky
  have nk1 := st1.nilck 0 j
  have fa1 := st1.faddr 1 0 j
  simp only [nk1, fa1, bind1_some]
  refine To2.bind2 (st1.store1 (j := j + 1) (x := y) (by omega) sy.sc) ?_
  rintro _ h2 ⟨st2, k2⟩
  have nk2 := st2.nilck 0 j
  have fa2 := st2.faddr 2 0 j
  simp only [nk2, fa2, bind1_some]
  refine To2.bind2 (st2.store1 (j := j + 2) (x := V.nilm) (by simp; omega) ⟨rfl, rfl⟩) ?_
  rintro _ h3 ⟨st3, k3⟩
  have hid : ∀ i, i ∈ idsOf y → i ∉ [id] := by
    intro i hi
    have := fy i hi; have := st.lt
    simp; omega
  exact To2.some ⟨y, st3, (sy.keep k2 hid).keep k3 hid, ay, (ky.trans k2 (fun j hj => by cases hj) (fun j hj _ => hj)).trans k3 (fun j hj _ => hj) (fun j hj _ => hj), fy⟩

theorem nod3 {P A K T R A' Y : List Nat} {n : Nat} (h : (P ++ (A ++ (K ++ (T ++ R)))).Nodup) (hl : ∀ j, j ∈ P ++ (A ++ (K ++ (T ++ R))) → j < n) (ha : A'.Nodup) (hy : Y.Nodup) (fa : ∀ j, j ∈ A' → j ∈ A ∨ j ∈ K ∨ n ≤ j) (fy : ∀ j, j ∈ Y → n ≤ j) (dis : ∀ j, j ∈ A' → j ∉ Y) : (P ++ (A' ++ (Y ++ R))).Nodup := by
  simp only [List.nodup_append, List.mem_append] at h hl ⊢
  obtain ⟨h1, ⟨h2, ⟨h3, ⟨h4, h5, h6⟩, h7⟩, h8⟩, h9⟩ := h
  refine ⟨h1, ⟨ha, ⟨hy, h5, fun a hA b hB q => ?_⟩, fun a hA b hB q => ?_⟩, fun a hA b hB q => ?_⟩
  · subst q
    have := fy a hA; have := hl a (by simp [hB]); omega
  · subst q
    rcases hB with hB | hB
    · exact dis a hA hB
    · rcases fa a hA with z | z | z
      · exact h8 a z a (.inr (.inr hB)) rfl
      · exact h7 a z a (.inr hB) rfl
      · have := hl a (by simp [hB]); omega
  · subst q
    rcases hB with hB | hB | hB
    · rcases fa a hB with z | z | z
      · exact h9 a hA a (.inl z) rfl
      · exact h9 a hA a (.inr (.inl z)) rfl
      · have := hl a (by simp [hA]); omega
    · have := fy a hB; have := hl a (by simp [hA]); omega
    · exact h9 a hA a (.inr (.inr (.inr hB))) rfl

theorem Dk.redo0 {h h' : List Ob} {id : Nat} {w : DV} {c : DC} (d : Dk h id w c) {v y : V} {x : List Int} (st : St h' id (dC { w with v0 := v, k0 := y, t0 := .nilm } c)) (k : Kp h h' (id :: (idsOf w.v0 ++ idsOf w.k0))) (sv : Sl 1 h' v (bv x)) (av : Ap v) (sy : Sl 1 h' y (bv x)) (ay : Ap y)
    (fv : ∀ j, j ∈ idsOf v → j ∈ idsOf w.v0 ∨ j ∈ idsOf w.k0 ∨ h.length ≤ j) (fy : ∀ j, j ∈ idsOf y → h.length ≤ j) (dis : ∀ j, j ∈ idsOf v → j ∉ idsOf y) :
    Dk h' id { w with v0 := v, k0 := y, t0 := .nilm } { c with a := x, ka := x, ta := [] } ∧ ∀ j, j ∈ foot id { w with v0 := v, k0 := y, t0 := .nilm } → j ∈ foot id w ∨ h.length ≤ j := by
  have nd : ([id] ++ (idsOf w.v0 ++ (idsOf w.k0 ++ (idsM w.t0 ++ (idsOf w.v1 ++ (idsOf w.k1 ++ idsM w.t1)))))).Nodup := d.nd
  have n3 := nod3 nd (fun j hj => d.off j hj) (idsOf_nodup v) (idsOf_nodup y) fv fy dis
  have nd2 := nd
  simp only [List.nodup_append, List.mem_append, List.mem_cons, List.not_mem_nil, or_false] at nd2
  obtain ⟨h1, ⟨h2, ⟨h3, ⟨h4, h5, h6⟩, h7⟩, h8⟩, h9⟩ := nd2
  have out : ∀ j, j ∈ idsOf w.v1 ∨ j ∈ idsOf w.k1 ∨ j ∈ idsM w.t1 → j ∉ id :: (idsOf w.v0 ++ idsOf w.k0) := by
    intro j hj z
    simp only [List.mem_cons, List.mem_append] at z
    rcases z with z | z | z
    · exact h9 id rfl j (.inr (.inr (.inr (by simpa using hj)))) z.symm
    · exact h8 j z j (.inr (.inr (by simpa using hj))) rfl
    · exact h7 j z j (.inr (by simpa using hj)) rfl
  refine ⟨⟨st, sv, av, sy, ay, .inl ⟨rfl, rfl⟩, d.s1.keep k (fun j hj => out j (.inl hj)), d.a1, d.q1.keep k (fun j hj => out j (.inr (.inl hj))), d.b1, d.m1.keep k (fun j hj => out j (.inr (.inr hj))), n3⟩, fun j hj => ?_⟩
  simp only [foot, idsM, List.nil_append, List.mem_cons, List.mem_append] at hj ⊢
  rcases hj with z | z | z | z | z | z
  · exact .inl (.inl z)
  · rcases fv j z with z | z | z
    · simp [z]
    · simp [z]
    · exact .inr z
  · exact .inr (fy j z)
  · simp [z]
  · simp [z]
  · simp [z]
theorem Dk.redo1 {h h' : List Ob} {id : Nat} {w : DV} {c : DC} (d : Dk h id w c) {v y : V} {x : List Int} (st : St h' id (dC { w with v1 := v, k1 := y, t1 := .nilm } c)) (k : Kp h h' (id :: (idsOf w.v1 ++ idsOf w.k1))) (sv : Sl 1 h' v (bv x)) (av : Ap v) (sy : Sl 1 h' y (bv x)) (ay : Ap y)
    (fv : ∀ j, j ∈ idsOf v → j ∈ idsOf w.v1 ∨ j ∈ idsOf w.k1 ∨ h.length ≤ j) (fy : ∀ j, j ∈ idsOf y → h.length ≤ j) (dis : ∀ j, j ∈ idsOf v → j ∉ idsOf y) :
    Dk h' id { w with v1 := v, k1 := y, t1 := .nilm } { c with b := x, kb := x, tb := [] } ∧ ∀ j, j ∈ foot id { w with v1 := v, k1 := y, t1 := .nilm } → j ∈ foot id w ∨ h.length ≤ j := by
  have e0 : foot id w = (id :: (idsOf w.v0 ++ (idsOf w.k0 ++ idsM w.t0))) ++ (idsOf w.v1 ++ (idsOf w.k1 ++ (idsM w.t1 ++ []))) := by simp [foot]
  have nd := d.nd
  rw [e0] at nd
  have n3 := nod3 nd (fun j hj => d.off j (by rw [e0]; exact hj)) (idsOf_nodup v) (idsOf_nodup y) fv fy dis
  have nd2 := nd
  simp only [List.nodup_append, List.nodup_cons, List.mem_append, List.mem_cons, List.not_mem_nil, or_false] at nd2
  obtain ⟨h1, ⟨h2, ⟨h3, ⟨h4, h5, h6⟩, h7⟩, h8⟩, h9⟩ := nd2
  have out : ∀ j, j ∈ idsOf w.v0 ∨ j ∈ idsOf w.k0 ∨ j ∈ idsM w.t0 → j ∉ id :: (idsOf w.v1 ++ idsOf w.k1) := by
    intro j hj z
    simp only [List.mem_cons, List.mem_append] at z
    rcases z with z | z | z
    · subst z; exact h1.1 hj
    · exact h9 j (.inr hj) j (.inl z) rfl
    · exact h9 j (.inr hj) j (.inr (.inl z)) rfl
  refine ⟨⟨st, d.s0.keep k (fun j hj => out j (.inl hj)), d.a0, d.q0.keep k (fun j hj => out j (.inr (.inl hj))), d.b0, d.m0.keep k (fun j hj => out j (.inr (.inr hj))), sv, av, sy, ay, .inl ⟨rfl, rfl⟩, ?_⟩, fun j hj => ?_⟩
  · have e1 : foot id { w with v1 := v, k1 := y, t1 := .nilm } = (id :: (idsOf w.v0 ++ (idsOf w.k0 ++ idsM w.t0))) ++ (idsOf v ++ (idsOf y ++ [])) := by simp [foot, idsM]
    rw [e1]; exact n3
  · simp only [foot, idsM, List.append_nil, List.mem_cons, List.mem_append] at hj ⊢
    rcases hj with z | z | z | z | z | z
    · exact .inl (.inl z)
    · simp [z]
    · simp [z]
    · simp [z]
    · rcases fv j z with z | z | z
      · simp [z]
      · simp [z]
      · exact .inr z
    · exact .inr (fy j z)

theorem sync18_0 {lf : Nat} {h : List Ob} {id : Nat} {w : DV} {c : DC} (d : Dk h id w c) (hl : c.a.length ≤ 1000000) : To2 (F18 lf (.ptr id 0 0) 0 h) fun v h' => v = .int .i64 0 ∧ ∃ w', Dk h' id w' { c with ka := c.a, ta := [] } ∧ Kp h h' (foot id w) ∧ ∀ j, j ∈ foot id w' → j ∈ foot id w ∨ h.length ≤ j := by
  simp only [F18, find50_0 d, bind2_some, castTup_tup, castCons_cons, castInt_int, castNil_nil, bne_self_eq_false, cB_false, change51 d, beq_self_eq_true, cB_true]
  refine To2.bind2 (settle53 d.st (j := 0) rfl (by simp) d.s0 hl) ?_
  rintro u h1 ⟨y, st, sy, ay, k, fy⟩
  obtain ⟨d1, f1⟩ := Dk.redo0 (v := w.v0) (y := y) (x := c.a) d st (k.mono (fun j hj _ => by simp at hj; simp [hj])) (d.s0.keep k (fun j hj z => d.id_out (j := j) (by simp only [hj, true_or, or_true]) (by simpa using z))) d.a0 sy ay (fun j hj => .inl hj) fy (fun j hj z => by
    have := d.s0.lt hj; have := fy j z; omega)
  exact To2.some ⟨rfl, _, d1, k.mono (fun j hj _ => by simp at hj; simp [hj, foot]), f1⟩
theorem sync18_1 {lf : Nat} {h : List Ob} {id : Nat} {w : DV} {c : DC} (d : Dk h id w c) (hl : c.b.length ≤ 1000000) : To2 (F18 lf (.ptr id 0 0) 1 h) fun v h' => v = .int .i64 0 ∧ ∃ w', Dk h' id w' { c with kb := c.b, tb := [] } ∧ Kp h h' (foot id w) ∧ ∀ j, j ∈ foot id w' → j ∈ foot id w ∨ h.length ≤ j := by
  simp only [F18, find50_1 d, bind2_some, castTup_tup, castCons_cons, castInt_int, castNil_nil, bne_self_eq_false, cB_false, change51 d, beq_self_eq_true, cB_true]
  refine To2.bind2 (settle53 d.st (j := 3) rfl (by simp) d.s1 hl) ?_
  rintro u h1 ⟨y, st, sy, ay, k, fy⟩
  obtain ⟨d1, f1⟩ := Dk.redo1 (v := w.v1) (y := y) (x := c.b) d st (k.mono (fun j hj _ => by simp at hj; simp [hj])) (d.s1.keep k (fun j hj z => d.id_out (j := j) (by simp only [hj, true_or, or_true]) (by simpa using z))) d.a1 sy ay (fun j hj => .inl hj) fy (fun j hj z => by
    have := d.s1.lt hj; have := fy j z; omega)
  exact To2.some ⟨rfl, _, d1, k.mono (fun j hj _ => by simp at hj; simp [hj, foot]), f1⟩

/-! ### A crash -/
theorem skipL (lf : Nat) {cv : CallVS} {h : List Ob} {id j : Nat} {cs : List V} {v t ch out : V} {A ks : List Int} {turn : Int} (st : St h id cs) (hv : cs[j]? = some v) (ht : cs[j + 2]? = some t) (sv : Sl 1 h v (bv A)) (mt : Mp h t ks) (hA : A.length ≤ 1000000) :
    ∀ (m n : Nat) (s : Int), 0 ≤ s → s + m ≤ 1000000 → (∀ i : Nat, i < m → (s + i) * 64 < A.length ∧ (s + i) ∉ ks) → L54_2 lf cv (m + n) (.ptr id 0 j) ch turn out s h = L54_2 lf cv n (.ptr id 0 j) ch turn out (s + m) h := by
  intro m
  induction m with
  | zero => intro n s h0 h1 hs; simp
  | succ m ih =>
    intro n s h0 h1 hs
    have nk := st.nilck 0 j
    have fa := st.faddr 0 0 j
    have fa2 := st.faddr 2 0 j
    have l := st.load1 hv
    have l2 := st.load1 ht
    simp only [Nat.add_zero] at fa
    obtain ⟨g1, g2⟩ := hs 0 (by omega)
    simp only [Int.natCast_zero, Int.add_zero] at g1 g2
    have w1 : IntKind.i64.wrap (s * 64) = s * 64 := wrap_i64 (by omega) (by omega)
    have w3 : IntKind.i64.wrap (s + 1) = s + 1 := wrap_i64 (by omega) (by omega)
    have hd : decide (s * 64 < (A.length : Int)) = true := decide_eq_true g1
    have hk : decide (s ∈ ks) = false := decide_eq_false g2
    rw [show m + 1 + n = (m + n) + 1 by omega]
    simp only [L54_2, B54_2, nk, fa, fa2, l, l2, bind1_some, er_lenL sv, bv_length, castInt_int, w1, w3, hd, cB_true, lookup_to mt, castBool_bool, hk, Bool.not_false]
    rw [ih n (s + 1) (by omega) (by omega) (fun i hi => by
      have := hs (i + 1) (by omega)
      rw [show s + 1 + (i : Int) = s + ((i + 1 : Nat) : Int) by omega]; exact this)]
    congr 1; omega
theorem endL (lf : Nat) {cv : CallVS} {h : List Ob} {id j : Nat} {cs : List V} {v ch out : V} {A : List Int} {turn : Int} (st : St h id cs) (hv : cs[j]? = some v) (sv : Sl 1 h v (bv A)) {n : Nat} {s : Int} (h0 : 0 ≤ s) (h1 : s ≤ 1000000) (hs : (A.length : Int) ≤ s * 64) : L54_2 lf cv (n + 1) (.ptr id 0 j) ch turn out s h = some (.exit 0, [.int .i64 turn, out], h) := by
  have nk := st.nilck 0 j
  have fa := st.faddr 0 0 j
  have l := st.load1 hv
  simp only [Nat.add_zero] at fa
  have w1 : IntKind.i64.wrap (s * 64) = s * 64 := wrap_i64 (by omega) (by omega)
  have hd : decide (s * 64 < (A.length : Int)) = false := decide_eq_false (by omega)
  simp only [L54_2, B54_2, nk, fa, l, bind1_some, er_lenL sv, bv_length, castInt_int, w1, hd, cB_false]

theorem fillL (lf : Nat) {cv : CallVS} {k : Int} {y : V} (ay : Ap y) : ∀ (m i f : Nat) (h : List Ob) (es : List Int), es.length = i + m → es.length ≤ 1000000 → m < f → Sl 1 h y (bv es) →
    To3 (L54_0 lf cv f k y es.length i h) fun x vs h' => x = .exit 2 ∧ vs = [] ∧ ∃ es', es'.length = es.length ∧ Sl 1 h' y (bv es') ∧ Kp h h' (idsOf y) := by
  intro m
  induction m with
  | zero =>
    intro i f h es he hm hf s
    obtain ⟨f, rfl⟩ : ∃ g, f = g + 1 := ⟨f - 1, by omega⟩
    have hd : decide ((i : Int) < (es.length : Int)) = false := decide_eq_false (by omega)
    simp only [L54_0, B54_0, hd, cB_false]
    exact To3.some ⟨rfl, rfl, es, rfl, s, Kp.refl _ _⟩
  | succ m ih =>
    intro i f h es he hm hf s
    obtain ⟨f, rfl⟩ : ∃ g, f = g + 1 := ⟨f - 1, by omega⟩
    have hd : decide ((i : Int) < (es.length : Int)) = true := decide_eq_true (by omega)
    have w1 : IntKind.i64.wrap ((i : Int) + 1) = ((i + 1 : Nat) : Int) := by rw [wrap_i64 (by omega) (by omega)]; omega
    have hlt : i < es.length := by omega
    obtain ⟨p, ep, tp⟩ := s.storeAt ay (k := (i : Int)) (x := .int .u8 (IntKind.u8.wrap k)) (e := .int .u8 es[i]) (by omega) (by rw [Int.toNat_natCast]; exact bv_get (List.getElem?_eq_getElem hlt)) (fun ds q => by cases q) ⟨rfl, rfl⟩
    simp only [L54_0, B54_0, hd, cB_true, ep, bind1_some, w1]
    refine To3.bind2 tp ?_
    rintro u h1 ⟨s1, k1⟩
    rw [Int.toNat_natCast, bv_set] at s1
    have hle : (es.set i (IntKind.u8.wrap k)).length = es.length := by simp
    have := ih (i + 1) f h1 _ (by rw [hle]; omega) (by rw [hle]; omega) (by omega) s1
    rw [hle] at this
    refine this.mono ?_
    rintro x vs h2 ⟨rfl, rfl, es', e1, s2, k2⟩
    exact ⟨rfl, rfl, es', e1, s2, k1.trans k2 (fun j hj _ => hj) (fun j hj _ => hj)⟩
theorem sect54 {lf : Nat} {cv : CallVS} {k : Int} {h : List Ob} {y : V} {es : List Int} (ay : Ap y) (s : Sl 1 h y (bv es)) (hm : es.length ≤ 1000000) (hf : es.length < lf) :
    To3 (S54_1 lf cv k y h) fun x vs h' => x = .normal ∧ vs = [] ∧ ∃ es', es'.length = es.length ∧ Sl 1 h' y (bv es') ∧ Kp h h' (idsOf y) := by
  by_cases q : k = 1
  · subst q
    simp only [S54_1, bne_self_eq_false, cB_false]
    exact To3.some ⟨rfl, rfl, es, rfl, s, Kp.refl _ _⟩
  · have e : (k != 1) = true := by simp [q]
    simp only [S54_1, e, cB_true, er_lenL s, bv_length, bind1_some, castInt_int]
    have := fillL lf (cv := cv) (k := k) ay es.length 0 lf h es (by omega) hm hf s
    have z : ((0 : Nat) : Int) = 0 := rfl
    rw [z] at this
    refine To3.bind3 this ?_
    rintro x vs h1 ⟨rfl, rfl, r⟩
    simp only [decide_true, cB_true, castNil_nil]
    exact To3.some ⟨rfl, rfl, r⟩
end Go.Proofs.Ytbjphicipgneaaa.Kp
