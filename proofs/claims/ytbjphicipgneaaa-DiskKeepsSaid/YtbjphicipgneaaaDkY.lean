/- Disks: a script among a claim's data; the law for every input, as it stands in memory. No condition. -/
import Derived.Test.YtbjphicipgneaaaDkX
import Derived.Test.YtbjphicipgneaaaL3
namespace Go.Proofs.Ytbjphicipgneaaa.Dk
open Go Go.Proofs.Ytbjphicipgneaaa.E
set_option maxRecDepth 100000
set_option linter.unusedVariables false
set_option linter.unusedSimpArgs false
variable {H : Type}

theorem weights_all_mem {P : Program} {e : TypeId} : ∀ {ds : List (DataW H)} {d : DataW H}, d ∈ ds → ∀ n ∈ d.weights P e, n ∈ DataW.weightsAll P e ds
  | x :: ds, d, hd, n, hn => by
    simp only [DataW.weightsAll, List.mem_append]
    rcases List.mem_cons.1 hd with rfl | hd
    · exact .inl hn
    · exact .inr (weights_all_mem hd n hn)
theorem weights_slice_mem {P : Program} {t e : TypeId} (hu : P.underlying t = some (.slice e)) {ds sp : List (DataW H)} {d : DataW H} (hd : d ∈ ds) {n : Nat} (hn : n ∈ d.weights P e) : n ∈ (DataW.slice ds sp).weights P t := by
  simp only [DataW.weights, hu, List.mem_cons, List.mem_append]
  exact .inr (.inl (weights_all_mem hd n hn))
theorem weights_struct_mem {P : Program} {t : TypeId} {fs : Array Field} (hu : P.underlying t = some (.struct fs)) {ps : List (DataW H)} {j : Nat} {t' : TypeId} {d : DataW H} (ht : (fs.toList.map (·.type))[j]? = some t') (hd : ps[j]? = some d) {n : Nat} (hn : n ∈ d.weights P t') : n ∈ (DataW.agg ps).weights P t := by
  simp only [DataW.weights, hu]
  exact DataW.weights_mem_each ht hd n hn

def iv (ms : List Int) : List V := ms.map fun m => .int .i64 m
theorem headOk_iv (ms : List Int) : headOk 1 (iv ms) = true := by cases ms <;> rfl
theorem iv_len (ms : List Int) : (iv ms).length = ms.length := by simp [iv]
theorem elems_ints {P : Program} {e : TypeId} (he : P.underlying e = some (.int .i64)) : ∀ {ds : List (DataW H)} {es : List V}, dVs P ds e = some es → ∃ ms, es = iv ms ∧ ∀ m ∈ ms, -9223372036854775808 ≤ m ∧ m < 9223372036854775808
  | [], es, h => by simp [dVs] at h; subst h; exact ⟨[], rfl, fun m hm => by cases hm⟩
  | d :: ds, es, h => by
    simp only [dVs] at h
    split at h
    · rename_i cs es' h1 h2
      injection h with h; subst h
      obtain ⟨ms, rfl, hb⟩ := elems_ints he h2
      obtain ⟨n, rfl, l1⟩ := dV_i64 he h1
      have hag : isAggT P e = false := by simp [isAggT, he]
      refine ⟨n :: ms, by simp [elemV, hag, iv], fun m hm => ?_⟩
      rcases List.mem_cons.1 hm with rfl | hm
      · exact l1
      · exact hb m hm
    · cases h
theorem dV_ints {P : Program} {d : DataW H} {t e : TypeId} {vs : List V} (hu : P.underlying t = some (.slice e)) (he : P.underlying e = some (.int .i64)) (h : dV P d t = some vs) :
    ∃ v ms, vs = [v] ∧ (∀ h, Sl 1 h v (iv ms)) ∧ (∀ m ∈ ms, -9223372036854775808 ≤ m ∧ m < 9223372036854775808) ∧ ms.length ≤ 9223372036854775807 := by
  rcases dV_slice' hu h with rfl | ⟨elems, sp, es, rfl, h1, rfl, h2⟩
  · exact ⟨_, [], rfl, fun h => Sl.nils 1 h, fun m hm => by simp at hm, by simp⟩
  · obtain ⟨ms, rfl, hb⟩ := elems_ints he h1
    refine ⟨_, ms, rfl, fun h => Sl.sl (headOk_iv ms), hb, ?_⟩
    rw [iv_len] at h2
    refine Nat.le_trans h2 ?_
    decide
theorem dV_u16 {P : Program} {d : DataW H} {t : TypeId} {vs : List V} (hu : P.underlying t = some (.int .u16)) (h : dV P d t = some vs) : ∃ n, vs = [.int .u16 n] ∧ 0 ≤ n ∧ n < 65536 := by
  obtain ⟨n, rfl, l1, l2⟩ := dV_int' hu h
  refine ⟨n, rfl, ?_⟩
  exact ⟨l1, Int.lt_of_le_of_lt l2 (by decide)⟩
/-- Bytes of which it is told how many they weigh. -/
theorem bytes_weighed {P : Program} {t e : TypeId} {d : DataW H} (hu : P.underlying t = some (.slice e)) (hb : P.bytesOf e = 1) {v : V} {ms : List Int} (h : dV P d t = some [v]) (s : ∀ h, Sl 1 h v (bv ms)) (hw : ∀ n ∈ d.weights P t, n ≤ reachBytes) : ms.length ≤ 140737488351232 := by
  rcases dV_slice' hu h with q | ⟨elems, sp, es, rfl, h1, q, h2⟩
  · injection q with q; subst q
    have := (s []).c
    simp only [conts] at this
    injection this with this
    have := congrArg List.length this
    simp at this
    omega
  · injection q with q; subst q
    have c := (s []).c
    simp only [conts] at c
    split at c
    · injection c with c
      have := hw ((elems.length + sp.length) * P.bytesOf e) (by simp [DataW.weights, hu])
      rw [hb] at this
      have hl := dVs_length h1
      have := congrArg List.length c
      rw [bv_length] at this
      have hr : reachBytes = 140737488351232 := by decide
      omega
    · cases c

theorem dV_ops {P : Program} {d : DataW H} {t e ti tb tk e8 ek : TypeId} {fs : Array Field} {vs : List V} (hu : P.underlying t = some (.slice e)) (he : P.underlying e = some (.struct fs)) (hfs : fs.toList.map (·.type) = [ti, ti, ti, ti, tb, tk])
    (hi : P.underlying ti = some (.int .i64)) (hb : P.underlying tb = some (.slice e8)) (h8 : P.underlying e8 = some (.int .u8)) (h1 : P.bytesOf e8 = 1) (hk : P.underlying tk = some (.slice ek)) (hek : P.underlying ek = some (.int .i64)) (hw : ∀ n ∈ d.weights P t, n ≤ reachBytes) (h : dV P d t = some vs) :
    ∃ v ops, vs = [v] ∧ (∀ h, Sl 6 h v (rowsO ops)) ∧ (∀ o, o ∈ ops → okO o) ∧ ops.length ≤ 9223372036854775807 := by
  have one : ∀ {d : DataW H} {cs : List V}, (∀ n ∈ d.weights P e, n ≤ reachBytes) → dV P d e = some cs → ∃ o, elemV P e cs = .agg (cO o) ∧ okO o := by
    intro d cs hw hd
    obtain ⟨ps, rfl, q0⟩ := dV_struct he hd
    have hfs0 := hfs
    match hl : fs.toList, hfs with
    | [f0, f1, f2, f3, f4, f5], hfs =>
      simp only [List.map_cons, List.map_nil, List.cons.injEq, and_true] at hfs
      obtain ⟨e0, e1, e2, e3, e4, e5⟩ := hfs
      rw [hl] at q0
      obtain ⟨d0, ps0, a0, b0, rfl, g0, q1, rfl⟩ := dVf_cons q0
      obtain ⟨d1, ps1, a1, b1, rfl, g1, q2, rfl⟩ := dVf_cons q1
      obtain ⟨d2, ps2, a2, b2, rfl, g2, q3, rfl⟩ := dVf_cons q2
      obtain ⟨d3, ps3, a3, b3, rfl, g3, q4, rfl⟩ := dVf_cons q3
      obtain ⟨d4, ps4, a4, b4, rfl, g4, q5, rfl⟩ := dVf_cons q4
      obtain ⟨d5, ps5, a5, b5, rfl, g5, q6, rfl⟩ := dVf_cons q5
      obtain ⟨rfl, rfl⟩ := dVf_nil q6
      rw [e0] at g0; rw [e1] at g1; rw [e2] at g2; rw [e3] at g3; rw [e4] at g4; rw [e5] at g5
      obtain ⟨k, rfl, _⟩ := dV_i64 hi g0
      obtain ⟨f, rfl, _⟩ := dV_i64 hi g1
      obtain ⟨a, rfl, _⟩ := dV_i64 hi g2
      obtain ⟨n, rfl, _⟩ := dV_i64 hi g3
      obtain ⟨b, bs, rfl, sb, -, -, -, -⟩ := dV_bytes hb h8 g4
      obtain ⟨kv, ks, rfl, sk, -, -⟩ := dV_ints hk hek g5
      have lb := bytes_weighed hb h1 g4 sb (fun m hm => hw m (weights_struct_mem he (j := 4) (by rw [hfs0]; rfl) rfl hm))
      refine ⟨⟨k, f, a, n, bs, b, kv, iv ks⟩, ?_, sb, sk, by simp only; omega⟩
      have : isAggT P e = true := by simp [isAggT, he]
      simp [elemV, this, cO]
    | [], hfs => simp at hfs
    | [_], hfs => simp at hfs
    | [_, _], hfs => simp at hfs
    | [_, _, _], hfs => simp at hfs
    | [_, _, _, _], hfs => simp at hfs
    | [_, _, _, _, _], hfs => simp at hfs
    | _ :: _ :: _ :: _ :: _ :: _ :: _ :: _, hfs => simp at hfs
  have all : ∀ {ds : List (DataW H)} {es : List V}, (∀ d ∈ ds, ∀ n ∈ d.weights P e, n ≤ reachBytes) → dVs P ds e = some es → ∃ ops, es = rowsO ops ∧ ∀ o, o ∈ ops → okO o := by
    intro ds
    induction ds with
    | nil => intro es hw h; simp [dVs] at h; subst h; exact ⟨[], rfl, fun r hr => by cases hr⟩
    | cons d ds ih =>
      intro es hw h
      simp only [dVs] at h
      split at h
      · rename_i cs es' q1 q2
        injection h with h; subst h
        obtain ⟨row, rfl, hr⟩ := ih (fun d hd => hw d (List.mem_cons_of_mem _ hd)) q2
        obtain ⟨r, e1, hr1⟩ := one (hw d List.mem_cons_self) q1
        refine ⟨r :: row, by simp [rowsO, e1], fun x hx => ?_⟩
        rcases List.mem_cons.1 hx with rfl | hx
        · exact hr1
        · exact hr x hx
      · cases h
  rcases dV_slice' hu h with rfl | ⟨elems, sp, es, rfl, g1, rfl, g2⟩
  · exact ⟨_, [], rfl, fun h => Sl.nils 6 h, (fun r hr => by cases hr), by simp⟩
  · obtain ⟨row, rfl, hr⟩ := all (fun d hd n hn => hw n (weights_slice_mem hu hd hn)) g1
    refine ⟨_, row, rfl, fun h => Sl.sl ?_, hr, ?_⟩
    · cases row <;> rfl
    · rw [show (rowsO row).length = row.length by simp [rowsO]] at g2
      refine Nat.le_trans g2 (by decide)

theorem weights_param {P : Program} {ts : List TypeId} {ds : List (DataW H)} (hsz : (DataW.weightsEach P ts ds).all (· ≤ reachBytes) = true) {j : Nat} {t : TypeId} {d : DataW H} (ht : ts[j]? = some t) (hd : ds[j]? = some d) : ∀ n ∈ d.weights P t, n ≤ reachBytes := fun n hn => by
  have := List.all_eq_true.1 hsz n (DataW.weights_mem_each ht hd n hn)
  simpa using this

theorem shape {d0 d1 d2 d3 : DataW H} {u0 u1 u2 u3 : List V} (hsz : (DataW.weightsEach Try.prog [22, 23, 24, 25] [d0, d1, d2, d3]).all (· ≤ reachBytes) = true) (h0 : dV Try.prog d0 22 = some u0) (h1 : dV Try.prog d1 23 = some u1) (h2 : dV Try.prog d2 24 = some u2) (h3 : dV Try.prog d3 25 = some u3) :
    ∃ y0 y1 y2 y3, u0 = [y0] ∧ u1 = [y1] ∧ u2 = [y2] ∧ u3 = [y3] ∧ CE Try.prog 3 [y0, y1, y2, y3] [] fun v _ => v = .bool true := by
  obtain ⟨v, ops, rfl, sv, ov, lv⟩ := dV_ops Try.underlying22 Try.underlying32 rfl Try.underlying3 Try.underlying24 Try.underlying5 (by kernel_rfl) Try.underlying30 Try.underlying3 (weights_param hsz (j := 0) rfl rfl) h0
  obtain ⟨n, rfl, l1⟩ := dV_u16 Try.underlying23 h1
  obtain ⟨b, bs, rfl, sb, ib, hb, lb, -⟩ := dV_bytes Try.underlying24 Try.underlying5 h2
  obtain ⟨c, rfl, l2⟩ := dV_u64 Try.underlying25 h3
  obtain ⟨u, h', e, q⟩ := law3 (lf := 3000001 + ops.length) (h := []) (by omega) sv ov sb (by omega) l1 l2
  exact ⟨_, _, _, _, rfl, rfl, rfl, rfl, (F3_ok _ _ _ _ _ _ _ _ e).2.mono fun v2 h2 z => by rw [z.1]; exact q⟩
end Go.Proofs.Ytbjphicipgneaaa.Dk
