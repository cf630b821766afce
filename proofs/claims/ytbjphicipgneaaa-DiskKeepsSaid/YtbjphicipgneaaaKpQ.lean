/- Disks: a crash. No condition. -/
import Derived.Test.YtbjphicipgneaaaKpP
import Derived.Test.YtbjphicipgneaaaDkY
namespace Go.Proofs.Ytbjphicipgneaaa.Kp
open Go Go.Proofs.Ytbjphicipgneaaa.E
open Go.Proofs.Ytbjphicipgneaaa.Dk
set_option maxRecDepth 100000
set_option linter.unusedVariables false
set_option linter.unusedSimpArgs false

theorem stepL (lf : Nat) (cv : CallVS) (n : Nat) : L54_2 lf cv (n + 1) = B54_2 lf cv (L54_2 lf cv n) := rfl

theorem loop54 {lf : Nat} (hf : 3000000 < lf) {cv : CallVS} {h : List Ob} {id j : Nat} {cs : List V} {v k t ch : V} {A K ks : List Int} (st : St h id cs) (hv : cs[j]? = some v) (hk : cs[j + 1]? = some k) (ht : cs[j + 2]? = some t)
    (sv : Sl 1 h v (bv A)) (sk : Sl 1 h k (bv K)) (ak : Ap k) (mt : Mp h t ks) (hA : A.length ≤ 100001) (hK : K.length ≤ 100000) (hid : id ∉ idsOf k) (hvk : ∀ i, i ∈ idsOf v → i ∉ idsOf k)
    (ca : ks = [] ∨ (A.length = K.length + 1 ∧ ks = [((K.length / 64 : Nat) : Int)] ∧ ∃ kk, cv ch [.int .i64 0] h = some (.int .i64 kk, h))) :
    To3 (L54_2 lf cv lf (.ptr id 0 j) ch 0 k 0 h) fun x vs h' => x = .exit 0 ∧ ∃ turn out O, vs = [.int .i64 turn, out] ∧ Sl 1 h' out (bv O) ∧ Ap out ∧ Kp h h' (idsOf k) ∧ (∀ i, i ∈ idsOf out → i ∈ idsOf k ∨ h.length ≤ i) ∧ (ks = [] → O = K) ∧ K.length ≤ O.length ∧ O.length ≤ K.length + 1 ∧ O.take (K.length / 64 * 64) = K.take (K.length / 64 * 64) := by
  rcases ca with rfl | ⟨eA, rfl, kk, ecv⟩
  · obtain ⟨g, hg⟩ : ∃ g, lf = (A.length + 63) / 64 + (g + 1) := ⟨lf - (A.length + 63) / 64 - 1, by omega⟩
    have e := skipL lf (cv := cv) (ch := ch) (out := k) (turn := 0) st hv ht sv mt (by omega) ((A.length + 63) / 64) (g + 1) 0 (by omega) (by omega) (fun i hi => ⟨by omega, by simp⟩)
    rw [← hg] at e
    rw [e, endL lf st hv sv (by omega) (by omega) (by omega)]
    exact To3.some ⟨rfl, 0, k, K, rfl, sk, ak, Kp.refl _ _, fun i hi => .inl hi, fun _ => rfl, Nat.le_refl _, by omega, rfl⟩
  · generalize hs0 : K.length / 64 = s0 at *
    obtain ⟨g, hg⟩ : ∃ g, lf = s0 + (g + 2) := ⟨lf - s0 - 2, by omega⟩
    have e := skipL lf (cv := cv) (ch := ch) (out := k) (turn := 0) st hv ht sv mt (by omega) s0 (g + 2) 0 (by omega) (by omega) (fun i hi => ⟨by omega, by simp; omega⟩)
    rw [← hg] at e
    rw [e, show g + 2 = (g + 1) + 1 from rfl, stepL, Int.zero_add]
    have nk := st.nilck 0 j
    have fa := st.faddr 0 0 j
    have fa2 := st.faddr 2 0 j
    have l := st.load1 hv
    have l2 := st.load1 ht
    simp only [Nat.add_zero] at fa
    have w1 : IntKind.i64.wrap ((s0 : Int) * 64) = ((s0 * 64 : Nat) : Int) := by rw [wrap_i64 (by omega) (by omega)]; omega
    have w3 : IntKind.i64.wrap ((s0 : Int) + 1) = s0 + 1 := wrap_i64 (by omega) (by omega)
    have w4 : IntKind.i64.wrap (((s0 * 64 : Nat) : Int) + 64) = ((s0 * 64 + 64 : Nat) : Int) := by rw [wrap_i64 (by omega) (by omega)]; omega
    have w5 : IntKind.i64.wrap (0 + 1) = 1 := by decide
    have hd : decide (((s0 * 64 : Nat) : Int) < (A.length : Int)) = true := decide_eq_true (by omega)
    have hkm : decide ((s0 : Int) ∈ [(s0 : Int)]) = true := decide_eq_true (by simp)
    simp only [B54_2, nk, fa, fa2, l, l2, bind1_some, er_lenL sv, bv_length, castInt_int, w1, w3, hd, cB_true, lookup_to mt, castBool_bool, hkm, Bool.not_true, cB_false, ecv, bind2_some, w5]
    by_cases q : kk = 0
    · subst q
      simp only [beq_self_eq_true, cB_true]
      rw [endL lf st hv sv (by omega) (by omega) (by omega)]
      exact To3.some ⟨rfl, 1, k, K, rfl, sk, ak, Kp.refl _ _, fun i hi => .inl hi, fun _ => rfl, Nat.le_refl _, by omega, rfl⟩
    · have eq0 : (kk == 0) = false := by simp [q]
      have hmin : (if (A.length : Int) < ((s0 * 64 + 64 : Nat) : Int) then (A.length : Int) else ((s0 * 64 + 64 : Nat) : Int)) = ((A.length : Nat) : Int) := by split <;> omega
      obtain ⟨y0, ey0, sy0, iy0⟩ := slc_to (lo := some (.c (.int .i64 ((s0 * 64 : Nat) : Int)))) (hi := some (.c (.int .i64 ((A.length : Nat) : Int)))) (a := s0 * 64) (b := A.length) sv bv_cells (by simp only [Option.map_some, getC, bndV]; rw [if_pos (by omega), Int.toNat_natCast]) (by simp only [Option.map_some, getC, bndV]; rw [if_pos (by omega), Int.toNat_natCast]) (by omega) (by rw [bv_length]; omega)
      have e4 : ((bv A).drop (s0 * 64)).take (A.length - s0 * 64) = bv (A.drop (s0 * 64)) := by
        rw [List.take_of_length_le (by simp)]; simp [bv, List.map_drop]
      rw [e4] at sy0
      simp only [eq0, cB_false, w4, hmin, ey0, bind1_some]
      refine To3.bind2 (clone52 sy0 (by simp; omega)) ?_
      rintro y1 h1 ⟨sy1, ay1, ky1, fy1⟩
      refine To3.bind3 (sect54 (cv := cv) (k := kk) ay1 sy1 (by simp; omega) (by simp; omega)) ?_
      rintro x vs h2 ⟨rfl, rfl, es, hes, sy2, ky2⟩
      have hel : es.length = A.length - s0 * 64 := by rw [hes]; simp
      have ky12 : Kp h h2 [] := ky1.trans ky2 (fun j hj => by cases hj) (fun j hj hlt => by have := fy1 j hj; omega)
      have sk2 := sk.kp ky12
      have w6 : IntKind.i64.wrap (((s0 * 64 : Nat) : Int) + (es.length : Int)) = ((A.length : Nat) : Int) := by rw [wrap_i64 (by omega) (by omega)]; omega
      have w7 : IntKind.i64.wrap (((A.length : Nat) : Int) - (K.length : Int)) = 1 := by rw [wrap_i64 (by omega) (by omega)]; omega
      have hg1 : (if (1 : Int) > 0 then (1 : Int) else 0) = 1 := rfl
      simp only [decide_true, cB_true, castNil_nil, er_lenL sy2, er_lenL sk2, bv_length, bind1_some, castInt_int, w6, w7, hg1]
      have hrm : roomMax = 140737488355328 := rfl
      refine To3.bind2 (appZ_to (n := 1) sk2 ak (by omega) (by rw [bv_length, hrm]; simp; omega)) ?_
      rintro x h3 ⟨sx, ax, kx, fx⟩
      have ex : bv K ++ List.replicate (1 : Int).toNat (V.int .u8 0) = bv (K ++ [0]) := by simp [bv]
      rw [ex] at sx
      have hlk : ∀ i, i ∈ idsOf k → i < h.length := fun i hi => sk.lt hi
      have sy3 := sy2.keep kx (fun i hi z => by have := fy1 i hi; have := hlk i z; omega)
      obtain ⟨z, ez, tz⟩ := copyIn (at_ := s0 * 64) sx ax sy3.c (by simp; omega) (by simp; omega)
      simp only [ez, bind1_some]
      refine To3.bind2 tz ?_
      rintro r h4 ⟨rfl, sx4, kx4⟩
      have k14 : Kp h h4 (idsOf k) := (ky12.trans kx (fun j hj => by cases hj) (fun j hj _ => hj)).trans kx4 (fun j hj _ => hj) (fun j hj hlt => (fx j hj).elim (fun z => z) (fun z => by have := ky12.len; omega))
      have st4 := st.keep k14 hid
      have sv4 := sv.keep k14 hvk
      simp only [castInt_int]
      rw [endL lf st4 hv sv4 (by omega) (by omega) (by omega)]
      refine To3.some ⟨rfl, 1, x, (K ++ [0]).take (s0 * 64) ++ es ++ (K ++ [0]).drop (s0 * 64 + es.length), rfl, ?_, ax, k14, fun i hi => (fx i hi).elim .inl (fun z => .inr (by have := ky12.len; omega)), (fun q => by cases q), ?_, ?_, ?_⟩
      · have e5 : (bv (K ++ [0])).take (s0 * 64) ++ bv es ++ (bv (K ++ [0])).drop (s0 * 64 + (bv es).length) = bv ((K ++ [0]).take (s0 * 64) ++ es ++ (K ++ [0]).drop (s0 * 64 + es.length)) := by
          rw [bv_length, bv_take, bv_drop, bv_append, bv_append]
        rw [← e5]; exact sx4
      · simp only [List.length_append, List.length_take, List.length_drop, List.length_cons, List.length_nil]; omega
      · simp only [List.length_append, List.length_take, List.length_drop, List.length_cons, List.length_nil]; omega
      · rw [List.append_assoc, List.take_append_of_le_length (by simp only [List.length_take, List.length_append, List.length_cons, List.length_nil]; omega), List.take_take, Nat.min_self, List.take_append_of_le_length (by omega)]

theorem crash54 {lf : Nat} (hf : 3000000 < lf) {cv : CallVS} {h : List Ob} {id j : Nat} {cs : List V} {v k t ch : V} {A K ks : List Int} (st : St h id cs) (hv : cs[j]? = some v) (hk : cs[j + 1]? = some k) (ht : cs[j + 2]? = some t)
    (sv : Sl 1 h v (bv A)) (sk : Sl 1 h k (bv K)) (ak : Ap k) (mt : Mp h t ks) (hA : A.length ≤ 100001) (hK : K.length ≤ 100000) (hid : id ∉ idsOf k) (hvk : ∀ i, i ∈ idsOf v → i ∉ idsOf k)
    (ca : ks = [] ∨ (A.length = K.length + 1 ∧ ks = [((K.length / 64 : Nat) : Int)] ∧ ∃ kk, cv ch [.int .i64 0] h = some (.int .i64 kk, h))) :
    To2 (F54 lf cv (.ptr id 0 j) ch h) fun u h' => ∃ turn out y O, u = .int .i64 turn ∧ St h' id (((cs.set j out).set (j + 1) y).set (j + 2) .nilm) ∧ Sl 1 h' out (bv O) ∧ Ap out ∧ Sl 1 h' y (bv O) ∧ Ap y ∧ Kp h h' (id :: idsOf k) ∧ (∀ i, i ∈ idsOf out → i ∈ idsOf k ∨ h.length ≤ i) ∧ (∀ i, i ∈ idsOf y → h.length ≤ i) ∧ (∀ i, i ∈ idsOf out → i ∉ idsOf y) ∧
      (ks = [] → O = K) ∧ K.length ≤ O.length ∧ O.length ≤ K.length + 1 ∧ O.take (K.length / 64 * 64) = K.take (K.length / 64 * 64) := by
  have hj : j + 2 < cs.length := (List.getElem?_eq_some_iff.1 ht).1
  have nk := st.nilck 0 j
  have fa := st.faddr 1 0 j
  have l := st.load1 hk
  simp only [F54, nk, fa, l, bind1_some]
  refine To2.bind3 (loop54 hf st hv hk ht sv sk ak mt hA hK hid hvk ca) ?_
  rintro x vs h1 ⟨rfl, turn, out, O, rfl, so, ao, k1, fo, o1, o2, o3, o4⟩
  have st1 := st.keep k1 hid
  have nk1 := st1.nilck 0 j
  have fa1 := st1.faddr 0 0 j
  simp only [Nat.add_zero] at fa1
  simp only [decide_true, cB_true, castCons_cons, castInt_int, castNil_nil, nk1, fa1, bind1_some]
  refine To2.bind2 (st1.store1 (j := j) (x := out) (by omega) so.sc) ?_
  rintro u h2 ⟨st2, k2⟩
  have hio : ∀ i, i ∈ idsOf out → i ≠ id := fun i hi => (fo i hi).elim (fun z q => hid (q ▸ z)) (fun z => by have := st.lt; omega)
  have so2 := so.keep k2 (fun i hi z => hio i hi (by simpa using z))
  refine To2.bind2 (settle53 st2 (j := j) (v := out) (by rw [List.getElem?_set_self (by omega)]) (by simp; omega) so2 (by omega)) ?_
  rintro u h3 ⟨y, st3, sy, ay, k3, fy⟩
  have k12 : Kp h h2 (id :: idsOf k) := k1.trans k2 (fun j hj _ => List.mem_cons_of_mem _ hj) (fun j hj _ => by simp at hj; simp [hj])
  have hlen := k12.len
  refine To2.some ⟨turn, out, y, O, rfl, st3, so2.keep k3 (fun i hi z => hio i hi (by simpa using z)), ao, sy, ay, k12.trans k3 (fun j hj _ => hj) (fun j hj _ => by simp at hj; simp [hj]), fo, fun i hi => by have := fy i hi; omega, fun i hi z => ?_, o1, o2, o3, o4⟩
  have := so2.lt hi
  have := fy i z
  omega

theorem choose55 {lf : Nat} {h : List Ob} {kid tid : Nat} {keep : V} {kes : List Int} (sk : Sc h kid keep) (ik : Sl 1 h keep (iv kes)) (stn : Sc h tid (.int .i64 0)) : ∃ kk, F55 lf 0 (.ptr kid 0 0) (.ptr tid 0 0) h = some (.int .i64 kk, h) := by
  have l1 := sk.load1 ik.sc.1
  have l2 := stn.load1 rfl
  simp only [F55, l1, l2, er_lenL ik, iv_len, bind1_some, castInt_int]
  cases kes with
  | nil => exact ⟨0, rfl⟩
  | cons x xs =>
    have e0 : (((x :: xs).length : Int) == 0) = false := by
      have : ((x :: xs).length : Int) ≠ 0 := by simp only [List.length_cons]; omega
      simp only [beq_eq_false_iff_ne]; exact this
    have w0 : IntKind.i64.wrap (0 + 0) = 0 := by decide
    have er1 : er (.bin .rem (.c (.int .i64 0)) (.c (.int .i64 ((x :: xs).length : Int)))) h = some (.int .i64 0) := by
      simp only [er, ev, evOq, x_bin, getC, evBin, if_true, evInt]
      rw [if_neg (by simp only [List.length_cons]; omega), Int.zero_tmod]
      rfl
    obtain ⟨a, a1, a2⟩ := ik.at1 (k := 0) (e := .int .i64 x) (by omega) rfl rfl
    simp only [e0, cB_false, w0, er1, bind1_some, castInt_int, a1, a2]
    exact ⟨x, rfl⟩
theorem cv55 {lf : Nat} {h : List Ob} (a b : V) : cv19 lf (.fn 55 [a, b]) [.int .i64 0] h = F55 lf 0 a b h := rfl

theorem crash19 {lf : Nat} (hf : 3000000 < lf) {h : List Ob} {id : Nat} {w : DV} {c : DC} {keep : V} {kes : List Int} (d : Dk h id w c) (ik : ∀ h, Sl 1 h keep (iv kes)) (hA : c.a.length = c.ka.length + 1) (hK : c.ka.length ≤ 100000) (ht : c.ta = [((c.ka.length / 64 : Nat) : Int)]) (hB : c.b.length ≤ 100000) (hKB : c.kb.length ≤ 100000) (htb : c.tb = []) :
    To2 (F19 lf (.ptr id 0 0) keep h) fun u h' => ∃ w' O, Dk h' id w' { c with a := O, ka := O, ta := [], b := c.kb, kb := c.kb, tb := [] } ∧ Kp h h' (foot id w) ∧ (∀ j, j ∈ foot id w' → j ∈ foot id w ∨ h.length ≤ j) ∧ c.ka.length ≤ O.length ∧ O.length ≤ c.ka.length + 1 ∧ O.take (c.ka.length / 64 * 64) = c.ka.take (c.ka.length / 64 * 64) := by
  simp only [F19]
  refine To2.bind2 (scbox_to (ik h).sc.2) ?_
  rintro p h1 ⟨rfl, b1, k1⟩
  have d1 := d.kp k1
  simp only [ptr_nil d1.st, bind1_some, castBool_bool, cB_false]
  refine To2.bind2 (scalloc_to (v := .int .i64 0) rfl) ?_
  rintro p h2 ⟨rfl, t2, k2⟩
  refine To2.bind2 (t2.store1 (x := .int .i64 0) (fun ds q => by cases q) ⟨rfl, rfl⟩) ?_
  rintro u h3 ⟨t3, k3⟩
  have hl0 : h.length < h1.length := b1.lt
  have k13 : Kp h1 h3 [] := k2.trans k3 (fun j hj => by cases hj) (fun j hj hlt => by simp at hj; omega)
  have b3 := b1.kp k13
  have d3 := d1.kp k13
  have hlt3 : h1.length < h3.length := t3.lt
  have hfoot : ∀ j, j ∈ foot id w → j < h.length := fun j hj => d.lt hj
  obtain ⟨g, rfl⟩ : ∃ g, lf = g + 3 := ⟨lf - 3, by omega⟩
  generalize hlf : g + 3 = lf at *
  have eL : L19_0 lf lf = B19_0 lf (B19_0 lf (B19_0 lf (L19_0 lf g))) := by
    rw [show L19_0 lf lf = L19_0 lf (g + 3) by rw [hlf]]; rfl
  rw [eL]
  have nk := d3.st.nilck 0 0
  have fa := d3.st.faddr 0 0 0
  have i0 := d3.st.iaddrA (n := 2) (sz := 3) (k := 0) (by decide) (by simp) 0
  have z0 : ((0 : Nat) : Int) = 0 := rfl
  simp only [Nat.zero_add, Nat.zero_mul, z0] at fa i0
  have hd0 : decide ((0 : Int) < 2) = true := rfl
  have l3 := t3.load1 rfl
  refine To2.bind3 (Q := fun x vs h' => x = .exit 0 ∧ vs = [] ∧ ∃ w' O, Dk h' id w' { c with a := O, ka := O, ta := [], b := c.kb, kb := c.kb, tb := [] } ∧ Kp h h' (foot id w) ∧ (∀ j, j ∈ foot id w' → j ∈ foot id w ∨ h.length ≤ j) ∧ c.ka.length ≤ O.length ∧ O.length ≤ c.ka.length + 1 ∧ O.take (c.ka.length / 64 * 64) = c.ka.take (c.ka.length / 64 * 64)) ?_ ?_
  · unfold B19_0
    simp only [hd0, cB_true, l3, bind1_some, castInt_int, nk, fa, i0]
    refine To3.bind2 (crash54 hf (cv := cv19 lf) (ch := .fn 55 [.ptr h.length 0 0, .ptr h1.length 0 0]) (j := 0) d3.st rfl rfl rfl d3.s0 d3.q0 d3.b0 d3.m0 (by omega) hK (fun z => d3.id_out (j := id) (by simp only [z, true_or, or_true]) rfl) (fun i hi z => ?_) (.inr ⟨hA, ht, ?_⟩)) ?_
    · have nd := d.nd
      simp only [foot, List.nodup_cons, List.nodup_append, List.mem_append] at nd
      exact nd.2.2.2 i hi i (.inl z) rfl
    · obtain ⟨kk, e⟩ := choose55 (lf := lf) b3 (ik h3) t3
      exact ⟨kk, by rw [cv55]; exact e⟩
    · rintro u h4 ⟨turn, out, y, O, rfl, st4, so, ao, sy, ay, k4, fo, fy, dis, -, o2, o3, o4⟩
      obtain ⟨d4, f4⟩ := Dk.redo0 (v := out) (y := y) (x := O) d3 st4 (k4.mono (fun j hj _ => by simp only [List.mem_cons, List.mem_append] at hj ⊢; rcases hj with z | z <;> simp [z])) so ao sy ay (fun j hj => (fo j hj).elim (fun z => .inr (.inl z)) (fun z => .inr (.inr z))) fy dis
      have hkf : ∀ j, j ∈ id :: idsOf w.k0 → j ∈ foot id w := fun j hj => by
        simp only [foot, List.mem_cons, List.mem_append] at hj ⊢
        rcases hj with z | z <;> simp [z]
      have t4 := t3.keep k4 (fun z => by have := hfoot _ (hkf _ z); omega)
      have l4 := t4.load1 rfl
      simp only [castInt_int]
      rw [reP_pos _ l4]
      refine To3.bind2 (t4.store1 (x := .int .i64 (IntKind.i64.wrap (0 + turn))) (fun ds q => by cases q) ⟨rfl, rfl⟩) ?_
      rintro u h5 ⟨t5, k5⟩
      have hnt : ∀ (w' : DV), (∀ j, j ∈ foot id w' → j ∈ foot id w ∨ h3.length ≤ j) → ∀ j, j ∈ foot id w' → j ∉ [h1.length] := fun w' f j hj z => by
        simp at z
        rcases f j hj with q | q
        · have := hfoot _ q; omega
        · omega
      have d5 := d4.keep k5 (hnt _ f4)
      have nk5 := d5.st.nilck 0 0
      have fa5 := d5.st.faddr 0 0 0
      have i1 := d5.st.iaddrA (n := 2) (sz := 3) (k := 1) (by decide) (by simp) 0
      have z1 : ((1 : Nat) : Int) = 1 := rfl
      simp only [Nat.zero_add, Nat.one_mul, z1] at fa5 i1
      have l5 := t5.load1 rfl
      have hd1 : decide ((1 : Int) < 2) = true := rfl
      have w01 : IntKind.i64.wrap (0 + 1) = 1 := by decide
      simp only [w01, hd1, cB_true, l5, bind1_some, castInt_int, nk5, fa5, i1]
      refine To3.bind2 (crash54 hf (cv := cv19 lf) (ch := .fn 55 [.ptr h.length 0 0, .ptr h1.length 0 0]) (j := 3) d5.st rfl rfl rfl d5.s1 d5.q1 d5.b1 d5.m1 (by simp only; omega) (by simp only; omega) (fun z => d5.id_out (j := id) (by simp only [z, true_or, or_true]) rfl) (fun i hi z => ?_) (.inl htb)) ?_
      · have nd := d.nd
        simp only [foot, List.nodup_cons, List.nodup_append, List.mem_append] at nd
        exact nd.2.2.1.2.1.2.1.2.2 i hi i (.inl z) rfl
      · rintro u h6 ⟨turn2, out2, y2, O2, rfl, st6, so6, ao6, sy6, ay6, k6, fo6, fy6, dis6, e6, -, -, -⟩
        obtain rfl := e6 htb
        obtain ⟨d6, f6⟩ := Dk.redo1 (v := out2) (y := y2) (x := c.kb) d5 st6 (k6.mono (fun j hj _ => by simp only [List.mem_cons, List.mem_append] at hj ⊢; rcases hj with z | z <;> simp [z])) so6 ao6 sy6 ay6 (fun j hj => (fo6 j hj).elim (fun z => .inr (.inl z)) (fun z => .inr (.inr z))) fy6 dis6
        have hkf2 : ∀ j, j ∈ id :: idsOf w.k1 → j ∈ foot id w := fun j hj => by
          simp only [foot, List.mem_cons, List.mem_append] at hj ⊢
          rcases hj with z | z <;> simp [z]
        have t6 := t5.keep k6 (fun z => by have := hfoot _ (hkf2 _ z); omega)
        have l6 := t6.load1 rfl
        simp only [castInt_int]
        rw [reP_pos _ l6]
        refine To3.bind2 (t6.store1 (x := .int .i64 (IntKind.i64.wrap (IntKind.i64.wrap (0 + turn) + turn2))) (fun ds q => by cases q) ⟨rfl, rfl⟩) ?_
        rintro u h7 ⟨t7, k7⟩
        have l34 := k4.len
        have l45 := k5.len
        have l56 := k6.len
        have f6' : ∀ j, j ∈ foot id _ → j ∈ foot id w ∨ h3.length ≤ j := fun j hj => (f6 j hj).elim (fun z => f4 j z) (fun z => .inr (by omega))
        have d7 := d6.keep k7 (hnt _ f6')
        have w12 : IntKind.i64.wrap (1 + 1) = 2 := by decide
        have hd2 : decide ((2 : Int) < 2) = false := rfl
        simp only [w12, hd2, cB_false]
        have kk1 : Kp h h3 [] := k1.tr k13
        have kk2 : Kp h h4 (foot id w) := kk1.trans k4 (fun j hj => by cases hj) (fun j hj _ => hkf j hj)
        have kk3 : Kp h h5 (foot id w) := kk2.trans k5 (fun j hj _ => hj) (fun j hj hlt => by simp at hj; omega)
        have kk4 : Kp h h6 (foot id w) := kk3.trans k6 (fun j hj _ => hj) (fun j hj _ => hkf2 j hj)
        have kk5 : Kp h h7 (foot id w) := kk4.trans k7 (fun j hj _ => hj) (fun j hj hlt => by simp at hj; omega)
        have := kk1.len
        exact To3.some ⟨rfl, rfl, _, O, d7, kk5, fun j hj => (f6' j hj).elim .inl (fun z => .inr (by omega)), o2, o3, o4⟩
  · rintro x vs h4 ⟨rfl, rfl, w', O, d4, k4, f4, o⟩
    have nk4 := d4.st.nilck 0 0
    have fa8 := d4.st.faddr 8 0 0
    simp only [Nat.zero_add] at fa8
    simp only [decide_true, cB_true, castNil_nil, nk4, fa8, bind1_some]
    refine To2.bind2 (d4.st.store1 (j := 8) (x := .bool false) (by simp) ⟨rfl, rfl⟩) ?_
    rintro u h5 ⟨st5, k5⟩
    have nk5 := St.nilck st5 0 0
    have fa7 := St.faddr st5 7 0 0
    simp only [Nat.zero_add] at fa7
    simp only [nk5, fa7, bind1_some]
    refine To2.bind2 (St.store1 st5 (j := 7) (x := .int .i64 (-1)) (by simp) ⟨rfl, rfl⟩) ?_
    rintro u h6 ⟨st6, k6⟩
    have k46 : Kp h4 h6 [id] := k5.trans k6 (fun j hj _ => hj) (fun j hj _ => hj)
    have kp : ∀ j, (j = id ∨ True) → True := fun _ _ => trivial
    refine To2.some ⟨w', O, ?_, k4.trans k46 (fun j hj _ => hj) (fun j hj _ => by simp at hj; simp [hj, foot]), f4, o⟩
    have st6' : St h6 id (dC w' { c with a := O, ka := O, ta := [], b := c.kb, kb := c.kb, tb := [] }) := st6
    have ne : ∀ {j : Nat}, (j ∈ idsOf w'.v0 ∨ j ∈ idsOf w'.k0 ∨ j ∈ idsM w'.t0 ∨ j ∈ idsOf w'.v1 ∨ j ∈ idsOf w'.k1 ∨ j ∈ idsM w'.t1) → j ∉ [id] := fun hj z => d4.id_out hj (by simpa using z)
    exact ⟨st6', d4.s0.keep k46 (fun j hj => ne (.inl hj)), d4.a0, d4.q0.keep k46 (fun j hj => ne (.inr (.inl hj))), d4.b0, d4.m0.keep k46 (fun j hj => ne (.inr (.inr (.inl hj)))), d4.s1.keep k46 (fun j hj => ne (.inr (.inr (.inr (.inl hj))))), d4.a1,
      d4.q1.keep k46 (fun j hj => ne (.inr (.inr (.inr (.inr (.inl hj)))))), d4.b1, d4.m1.keep k46 (fun j hj => ne (.inr (.inr (.inr (.inr (.inr hj)))))), d4.nd⟩
end Go.Proofs.Ytbjphicipgneaaa.Kp
