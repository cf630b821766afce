/- A journal read back: its records. No condition. -/
import Derived.Test.YtdcdmpgigmhhpaaJbR
namespace Go.Proofs.Ytdcdmpgigmhhpaa.Jb
open Go Go.Proofs.Ytdcdmpgigmhhpaa.E
open Go.Proofs.Ytdcdmpgigmhhpaa.Jw
set_option maxRecDepth 100000
set_option linter.unusedVariables false
set_option linter.unusedSimpArgs false

theorem rec_parts {salt n : Int} {ds : List Int} (hd : ds.length = 512) : (recB salt n ds).take 4 = putB n 4 ∧ ((recB salt n ds).drop 4).take 512 = ds := by
  simp only [recB, List.append_assoc]
  refine ⟨List.take_left' (by simp), ?_⟩
  rw [List.drop_left' (by simp), List.take_left' hd]
/-- What was read so far. -/
structure Fd (H0 h : List Ob) (f : Nat) (salt p : Int) (nm : Nat → Int) (pg : Nat → List Int) (i : Nat) (nv dv : V) : Prop where
  k : Kp H0 h []
  f0 : H0.length ≤ f
  st : St h f [.int .u64 salt, .int .i64 p, nv, dv]
  sn : Sl 1 h nv ((List.range i).map fun j => .int .i64 (nm j))
  an : Ap nv
  jn : ∀ j, j ∈ idsOf nv → H0.length ≤ j ∧ j ≠ f
  sd : ∃ es, Sl 1 h dv es ∧ es.length = i ∧ ∀ j, j < i → ∃ e, es[j]? = some e ∧ Sl 1 h e (bv (pg j)) ∧ ∀ q, q ∈ idsOf e → H0.length ≤ q ∧ q ≠ f ∧ q ∉ idsOf nv ∧ q ∉ idsOf dv
  ad : Ap dv
  jd : ∀ j, j ∈ idsOf dv → H0.length ≤ j ∧ j ≠ f ∧ j ∉ idsOf nv
theorem ap_plain {v : V} {h : List Ob} {es : List V} (s : Sl 1 h v es) : v.cells = [v] ∧ v.scalar = true := s.sc

theorem recL (lf : Nat) (hf : 1000 < lf) {H0 : List Ob} {b : V} {ms : List Int} {f x2 : Nat} {salt p : Int} {nm : Nat → Int} {pg : Nat → List Int} {many : Nat} (sb : Sl 1 H0 b (bv ms)) (h0 : 0 ≤ salt) (h1 : salt < 18446744073709551616)
    (hm : many ≤ 12) (hl : 128 + many * 576 ≤ ms.length) (hn : ∀ i, i < many → 0 ≤ nm i ∧ nm i ≤ 10000 ∧ (pg i).length = 512 ∧ (ms.drop (128 + i * 576)).take 576 = recB salt (nm i) (pg i)) :
    ∀ (m i g : Nat) (h : List Ob) (nv dv : V), many = i + m → m < g → Fd H0 h f salt p nm pg i nv dv →
    To3 (L55_1 lf g b (.ptr x2 0 0) (.ptr f 0 0) many i h) fun x vs h' => x = .exit 0 ∧ vs = [] ∧ (∀ q, q < h.length → q ≠ f → q ∉ idsOf nv → q ∉ idsOf dv → h'[q]? = h[q]?) ∧ ∃ nv' dv', Fd H0 h' f salt p nm pg many nv' dv' := by
  intro m
  induction m with
  | zero =>
    intro i g h nv dv hk hg F
    obtain ⟨g, rfl⟩ : ∃ g', g = g' + 1 := ⟨g - 1, by omega⟩
    have hd : decide ((i : Int) < (many : Int)) = false := decide_eq_false (by omega)
    simp only [L55_1, B55_1, hd, cB_false]
    have : i = many := by omega
    subst this
    exact To3.some ⟨rfl, rfl, fun _ _ _ _ _ => rfl, nv, dv, F⟩
  | succ m ih =>
    intro i g h nv dv hk hg F
    obtain ⟨g, rfl⟩ : ∃ g', g = g' + 1 := ⟨g - 1, by omega⟩
    have hi : i < many := by omega
    have hd : decide ((i : Int) < (many : Int)) = true := decide_eq_true (by omega)
    obtain ⟨n0, n1, dl, hr⟩ := hn i hi
    have w1 : IntKind.i64.wrap ((i : Int) * 576) = (i : Int) * 576 := wrap_i64 (by omega) (by omega)
    have w2 : IntKind.i64.wrap ((128 : Int) + (i : Int) * 576) = 128 + (i : Int) * 576 := wrap_i64 (by omega) (by omega)
    have w3 : IntKind.i64.wrap ((128 : Int) + (i : Int) * 576 + 576) = 128 + (i : Int) * 576 + 576 := wrap_i64 (by omega) (by omega)
    have w4 : IntKind.i64.wrap ((i : Int) + 1) = ((i + 1 : Nat) : Int) := by rw [wrap_i64 (by omega) (by omega)]; simp
    have w5 : IntKind.i64.wrap (nm i) = nm i := wrap_i64 (by omega) (by omega)
    have s0 := sb.kp F.k
    obtain ⟨x56, e56, s56, j56⟩ := sub_to s0 (a := 128 + (i : Int) * 576) (b := 128 + (i : Int) * 576 + 576) (k := 128 + i * 576) (n := 576) (by omega) (by omega) (by omega)
    rw [hr] at s56
    have rl := recB_len (s := salt) (n := nm i) dl
    obtain ⟨x58, e58, s58, -⟩ := upto_to s56 (b := 4) (n := 4) rfl (by omega)
    obtain ⟨x62, e62, s62, j62⟩ := sub_to s56 (a := 4) (b := 516) (k := 4) (n := 512) rfl rfl (by omega)
    obtain ⟨g1, g2⟩ := rec_parts (salt := salt) (n := nm i) dl
    rw [g1] at s58
    rw [g2] at s62
    have v58 : F77 lf x58 h = some (.int .u64 (nm i), h) := by
      have := get77 (lf := lf) s58 (putB_byt _ _) (by simp) (by simp; omega)
      rwa [get4 n0 (by omega)] at this
    have hbid : ∀ q, q ∈ idsOf b → q < H0.length := fun q hq => sb.lt hq
    have h62id : ∀ q, q ∈ idsOf x62 → q < H0.length := fun q hq => hbid q (j56 q (j62 q hq))
    simp only [L55_1, B55_1, hd, cB_true, w1, w2, w3, w4, w5, e56, e58, e62, bind1_some, v58, bind2_some, castInt_int, reP_pos, F.st.faddr, F.st.load1 (j := 0 + 0) (c := .int .u64 salt) rfl]
    refine To3.bind2 (rec22 hf h0 s62) ?_
    intro v1 h1' q1
    unfold RecQ at q1
    rw [if_neg (by omega)] at q1
    obtain ⟨y, rfl, ny⟩ := q1
    have k1 := ny.2.2.1
    have hb0 : ((0 : Int) != 0) = false := by decide
    have dn : decide (EX.normal = EX.ret) = false := rfl
    have hq : (by8 (recB salt (nm i) (pg i)) == by8 (recB salt (nm i) (pg i))) = true := beq_self_eq_true _
    have st1 := F.st.kp k1
    obtain ⟨x83, h3, e83, r83⟩ := bslice_to (h := h1') (sz := 1) (z := .int .i64 0) (ps := [(0, .int .i64 (nm i))]) (es := [.int .i64 (nm i)]) (len := 1) (by decide) rfl rfl rfl
    obtain ⟨-, -, s83, a83, k83, f83⟩ := r83
    have st3 := st1.kp k83
    have k13 := k1.tr k83
    have sn3 := F.sn.kp k13
    obtain ⟨nv', h4, e84, s84, a84, k84, f84⟩ := app_to (bytes := 8) sn3 F.an s83.c (by simp [roomMax]; omega)
    have fnn : f ∉ idsOf nv := fun z => (F.jn f z).2 rfl
    have st4 := st3.keep k84 fnn
    have lt1 := k13.len
    have lt3 := k84.len
    -- what is kept but for nv
    have k14 : Kp h h4 (idsOf nv) := k13.trans k84 (fun j hj => by cases hj) (fun j hj _ => hj)
    have b62 : ∀ q, q ∈ idsOf x62 → q ∉ idsOf nv := fun q hq z => by have := h62id q hq; have := (F.jn q z).1; omega
    have s62' := s62.keep k14 b62
    obtain ⟨x88, h5, e88, s88, a88, k88, f88⟩ := clone78 (lf := lf) s62' (by omega)
    have st5 := st4.kp k88
    obtain ⟨x89, h6, e89, r89⟩ := bslice_to (h := h5) (sz := 1) (z := .nils) (ps := [(0, x88)]) (es := [x88]) (len := 1) (by decide) (by simp [s88.plain]) rfl rfl
    obtain ⟨-, -, s89, a89, k89, f89⟩ := r89
    have st6 := st5.kp k89
    obtain ⟨es, sd, el, ee⟩ := F.sd
    have dnn : ∀ j, j ∈ idsOf dv → j ∉ idsOf nv := fun j hj => (F.jd j hj).2.2
    have k46 := k88.tr k89
    have sd6 := (sd.keep k14 dnn).kp k46
    obtain ⟨dv', h7, e90, s90, a90, k90, f90⟩ := app_to (bytes := 24) sd6 F.ad s89.c (by simp [roomMax]; omega)
    have fdn : f ∉ idsOf dv := fun z => (F.jd f z).2.1 rfl
    have st7 := st6.keep k90 fdn
    obtain ⟨u8, h8, e91, st8, k91⟩ := st7.store1 (j := 0 + 2) (x := nv') (by simp) s84.sc
    obtain ⟨u9, h9, e92, st9, k92⟩ := st8.store1 (j := 0 + 3) (x := dv') (by simp) s90.sc
    simp only [castTup_tup, castCons_cons, castInt_int, castNil_nil, S55_0, hb0, cB_false, eq57 ny.1 (s56.kp k1), bind2_some, castBool_bool, hq, Bool.not_true, bind3_some, dn, decide_true, cB_true, st1.faddr, bind1_some,
      st1.load1 (j := 0 + 2) (c := nv) rfl, st1.load1 (j := 0 + 3) (c := dv) rfl]
    simp only [List.map_cons, List.map_nil] at e83 e89
    simp only [e83, bind2_some, st3.faddr, st3.load1 (j := 0 + 2) (c := nv) rfl, st3.load1 (j := 0 + 3) (c := dv) rfl, reP_pos, e84, st4.faddr, st4.load1 (j := 0 + 3) (c := dv) rfl, bind1_some, e88, st5.faddr, st5.load1 (j := 0 + 3) (c := dv) rfl,
      e89, st6.faddr, st6.load1 (j := 0 + 3) (c := dv) rfl, e90, st7.faddr, e91, st8.faddr, e92]
    have lt4 := k46.len
    have lt5 := k90.len
    have h13 : h.length ≤ h3.length := k13.len
    have h34 : h3.length ≤ h4.length := k84.len
    have h45 : h4.length ≤ h5.length := k88.len
    have h56 : h5.length ≤ h6.length := k89.len
    have h67 : h6.length ≤ h7.length := k90.len
    have H0h : H0.length ≤ h.length := F.k.len
    have k79 : Kp h7 h9 [f] := k91.trans k92 (fun j hj _ => hj) (fun j hj _ => hj)
    have k9 : Kp h h9 (f :: (idsOf nv ++ idsOf dv)) := by
      refine (k14.trans k46 (C := idsOf nv) (fun j hj _ => hj) (fun j hj => by cases hj)).trans ((k90.trans k79 (C := f :: idsOf dv) (fun j hj _ => by simp [hj]) (fun j hj _ => by simp at hj; simp [hj]))) ?_ ?_
      · intro j hj _; simp [hj]
      · intro j hj _; simp at hj; rcases hj with q | q <;> simp [q]
    have nfr : ∀ j, j ∈ idsOf nv' → j ∈ idsOf nv ∨ h3.length ≤ j := f84
    have dfr : ∀ j, j ∈ idsOf dv' → j ∈ idsOf dv ∨ h6.length ≤ j := f90
    have flt : f < h.length := F.st.lt
    have nlt : ∀ j, j ∈ idsOf nv → j < h.length := fun j hj => F.sn.lt hj
    have dlt : ∀ j, j ∈ idsOf dv → j < h.length := fun j hj => sd.lt hj
    have nlt' : ∀ j, j ∈ idsOf nv' → j < h4.length := fun j hj => s84.lt hj
    have dlt' : ∀ j, j ∈ idsOf dv' → j < h7.length := fun j hj => s90.lt hj
    have elt : ∀ j, j ∈ idsOf x88 → h4.length ≤ j ∧ j < h5.length := fun j hj => ⟨f88 j hj, s88.lt hj⟩
    have nvf : ∀ j, j ∈ idsOf nv' → H0.length ≤ j ∧ j ≠ f := fun j hj => by
      rcases nfr j hj with q | q
      · exact F.jn j q
      · omega
    have key := ih (i + 1) g h9 nv' dv' (by omega) (by omega) ?_
    · refine key.mono ?_
      rintro x vs h' ⟨rfl, rfl, hk', nv2, dv2, F2⟩
      refine ⟨rfl, rfl, ?_, nv2, dv2, F2⟩
      intro q ql qf qn qd
      have : h9[q]? = h[q]? := k9.same q ql (by simp [qf, qn, qd])
      rw [← this]
      refine hk' q (by have := k9.len; omega) qf (fun z => ?_) (fun z => ?_)
      · rcases nfr q z with w | w
        · exact qn w
        · omega
      · rcases dfr q z with w | w
        · exact qd w
        · omega
    · refine ⟨F.k.trans k9 (fun j hj => by cases hj) ?_, F.f0, st9, ?_, a84, nvf, ?_, a90, ?_⟩
      · intro j hj hlt
        simp only [List.mem_cons, List.mem_append] at hj
        rcases hj with rfl | hj | hj
        · have := F.f0; omega
        · have := (F.jn j hj).1; omega
        · have := (F.jd j hj).1; omega
      · have sx : Sl 1 h9 nv' ((List.range i).map (fun j => V.int .i64 (nm j)) ++ [.int .i64 (nm i)]) := by
          refine ((s84.kp k46).keep k90 (fun j hj z => ?_)).keep k79 (fun j hj z => by simp at z; exact (nvf j hj).2 z)
          rcases nfr j hj with q | q
          · exact dnn j z q
          · have := dlt j z; omega
        rw [List.range_succ, List.map_append]
        exact sx
      · refine ⟨es ++ [x88], s90.keep k79 (fun j hj z => ?_), by simp [el], ?_⟩
        · simp at z
          subst z
          rcases dfr j hj with q | q
          · exact fdn q
          · omega
        · intro j hj
          by_cases hji : j < i
          · obtain ⟨e, e1, e2, e3⟩ := ee j hji
            have elt' : ∀ q, q ∈ idsOf e → q < h.length := fun q hq => e2.lt hq
            refine ⟨e, by rw [List.getElem?_append_left (by omega)]; exact e1, e2.keep k9 (fun q hq z => ?_), fun q hq => ?_⟩
            · obtain ⟨z0, z1, z2, z3⟩ := e3 q hq
              simp [z1, z2, z3] at z
            · obtain ⟨z0, z1, z2, z3⟩ := e3 q hq
              have := elt' q hq
              refine ⟨z0, z1, fun z => ?_, fun z => ?_⟩
              · rcases nfr q z with w | w
                · exact z2 w
                · omega
              · rcases dfr q z with w | w
                · exact z3 w
                · omega
          · have : j = i := by omega
            subst this
            refine ⟨x88, by rw [List.getElem?_append_right (by omega)]; simp [el], ((s88.kp k89).keep k90 (fun q hq z => ?_)).keep k79 (fun q hq z => ?_), fun q hq => ?_⟩
            · have := elt q hq; have := dlt q z; omega
            · simp at z; have := elt q hq; omega
            · have w0 := elt q hq
              refine ⟨by omega, by omega, fun z => ?_, fun z => ?_⟩
              · have := nlt' q z; omega
              · rcases dfr q z with w | w
                · have := dlt q w; omega
                · omega
      · intro j hj
        rcases dfr j hj with q | q
        · obtain ⟨z0, z1, z2⟩ := F.jd j q
          refine ⟨z0, z1, fun z => ?_⟩
          rcases nfr j z with w | w
          · exact z2 w
          · have := dlt j q; omega
        · refine ⟨by omega, by omega, fun z => ?_⟩
          have := nlt' j z; omega
end Go.Proofs.Ytdcdmpgigmhhpaa.Jb
