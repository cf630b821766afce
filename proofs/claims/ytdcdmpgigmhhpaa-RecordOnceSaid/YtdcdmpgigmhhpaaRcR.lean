/- Rows in bytes: both ways of writing come to the same. No condition. -/
import Derived.Test.YtdcdmpgigmhhpaaRcQ
namespace Go.Proofs.Ytdcdmpgigmhhpaa.Rc
open Go Go.Proofs.Ytdcdmpgigmhhpaa.E
open Go.Proofs.Ytdcdmpgigmhhpaa.Va
set_option maxRecDepth 100000
set_option linter.unusedVariables false
set_option linter.unusedSimpArgs false

theorem conts_str (h : List Ob) (s : List UInt8) : conts h 1 (.str s) = some (bv (sB s)) := by
  simp [conts, bv, sB]
theorem New.to_beh {h h' : List Ob} {b v : V} {es : List V} (n : New h es v h') : Beh b h es v h' :=
  ⟨n.1, n.2.1, n.2.2.1.mono (fun j hj _ => by cases hj), fun j hj => .inr (n.2.2.2 j hj)⟩
theorem fine_len {r : R} (h : fine r = true) (hk : r.k = 2) : r.s.length ≤ 100 := by
  simp only [fine, hk, Bool.or_eq_true, Bool.and_eq_true, beq_iff_eq, decide_eq_true_eq] at h
  rcases h with (⟨⟨q, _⟩, _⟩ | ⟨q, _⟩) | ⟨_, q⟩
  · cases q
  · cases q
  · exact q
theorem encT_len {r : R} (h : fine r = true) : (encT r).length ≤ 110 := by
  unfold encT
  split
  · have := numB_len (zig r.n); omega
  · split
    · rename_i hk
      have := fine_len h hk
      have := numB_len r.s.length
      simp; omega
    · simp

theorem ref_ids {b : V} {bs : List Int} {h : List Ob} {id : Nat} (hn : ∀ j, j ∈ idsOf b → id ≠ j) : id ∉ idsOf b := fun q => hn id q rfl

theorem tail37 {lf : Nat} (hf : 20 < lf) {h : List Ob} {b : V} {bs : List Int} (sb : Sl 1 h b (bv bs)) (ab : Ap b) {id : Nat} {r : R} (st : St h id (rC r)) (fr : fine r = true) (ir : inR r) (hl : bs.length ≤ 1000) :
    To3 (S37_0 lf b (.ptr id 0 0) h) fun x vs h' => ∃ v, x = .normal ∧ vs = [v] ∧ Beh b h (bv (bs ++ encT r)) v h' := by
  have hr : roomMax = 140737488355328 := rfl
  have f0 := st.faddr 0 0 0
  have f1 := st.faddr 1 0 0
  have f2 := st.faddr 2 0 0
  have l0 : er (.load1 (.c (.ptr id 0 0))) h = some (.int .i64 r.k) := st.load1 rfl
  have l1 : er (.load1 (.c (.ptr id 0 1))) h = some (.int .i64 r.n) := st.load1 rfl
  have l2 : er (.load1 (.c (.ptr id 0 2))) h = some (.str r.s) := st.load1 rfl
  simp only [Nat.zero_add] at f0 f1 f2
  simp only [S37_0, f0, bind1_some, l0, castInt_int]
  by_cases c1 : r.k = 1
  · have d1 : (r.k == 1) = true := by simp [c1]
    simp only [d1, cB_true, f1, l1, bind1_some, castInt_int]
    refine To3.bind2 (sig29 hf sb ir.1 ir.2 (by omega)) ?_
    intro v h1 q
    have e : encT r = numB (zig r.n) := by simp [encT, c1]
    exact To3.some ⟨v, rfl, rfl, by rw [e]; exact New.to_beh q⟩
  · have d1 : (r.k == 1) = false := by simp [c1]
    simp only [d1, cB_false]
    by_cases c2 : r.k = 2
    · have d2 : (r.k == 2) = true := by simp [c2]
      have hs := fine_len fr c2
      have ew : IntKind.u64.wrap (r.s.length : Int) = ((r.s.length : Nat) : Int) := by rw [wrap_u64]; omega
      simp only [d2, cB_true, f2, l2, bind1_some, castStr_str, ew]
      refine To3.bind2 (app26 hf sb (n := r.s.length) (by omega) (by omega)) ?_
      intro v h1 q
      have st1 := st.kp q.2.2.1
      have l2' : er (.load1 (.c (.ptr id 0 2))) h1 = some (.str r.s) := st1.load1 rfl
      have f2' := st1.faddr 2 0 0
      simp only [Nat.zero_add] at f2'
      rw [reP_pos _ l2', reP_pos _ f2']
      have hnl := numB_len r.s.length
      refine To3.bind2 (app_to q.1 q.2.1 (conts_str h1 r.s) (by simp; omega)) ?_
      intro w h2 q2
      have nw := New.beh q q2
      have e : encT r = numB r.s.length ++ sB r.s := by simp [encT, c1, c2]
      refine To3.some ⟨w, rfl, rfl, ?_⟩
      rw [e, ← List.append_assoc, bv_append]
      exact New.to_beh nw
    · have d2 : (r.k == 2) = false := by simp [c2]
      simp only [d2, cB_false]
      have e : encT r = [] := by simp [encT, c1, c2]
      exact To3.some ⟨b, rfl, rfl, by rw [e, List.append_nil]; exact ⟨sb, ab, Kp.refl _ _, fun j hj => .inl hj⟩⟩

theorem enc37L (lf : Nat) (hf0 : 20 < lf) {h0 : List Ob} {v : V} {row : List R} (s : Sl 3 h0 v (rows row)) (hl : row.length ≤ 1000000) (ha : row.all fine = true) (hi : ∀ r, r ∈ row → inR r) : ∀ (m k f : Nat) (h : List Ob) (b : V) (bs : List Int), row.length = k + m → m < f → New h0 (bv bs) b h → bs.length ≤ 140 →
    To3 (L37_1 lf f b v row.length k h) fun x vs h' => (∃ c w, encL (row.drop k) bs = some c ∧ x = .exit 0 ∧ vs = [w] ∧ New h0 (bv c) w h') ∨ (encL (row.drop k) bs = none ∧ x = .ret ∧ vs = [.nils, .int .i64 14] ∧ Kp h0 h' []) := by
  intro m
  induction m with
  | zero =>
    intro k f h b bs hk hf nb hb
    obtain ⟨f, rfl⟩ : ∃ g, f = g + 1 := ⟨f - 1, by omega⟩
    have e : row.drop k = [] := List.drop_of_length_le (by omega)
    have hd : decide ((k : Int) < (row.length : Int)) = false := decide_eq_false (by omega)
    simp only [L37_1, B37_1, hd, cB_false, e]
    exact To3.some (.inl ⟨bs, b, rfl, rfl, rfl, nb⟩)
  | succ m ih =>
    intro k f h b bs hk hf nb hb
    obtain ⟨f, rfl⟩ : ∃ g, f = g + 1 := ⟨f - 1, by omega⟩
    have hr : roomMax = 140737488355328 := rfl
    have hlt : k < row.length := by omega
    have hd : decide ((k : Int) < (row.length : Int)) = true := decide_eq_true (by omega)
    obtain ⟨a, a1, a2⟩ := rowAt (s.kp nb.2.2.1) hlt
    have hw : IntKind.i64.wrap ((k : Int) + 1) = ((k + 1 : Nat) : Int) := by rw [wrap_i64 (by omega) (by omega)]; simp
    have hfr : fine row[k] = true := List.all_eq_true.1 ha _ (List.getElem_mem hlt)
    have hir := hi row[k] (List.getElem_mem hlt)
    simp only [L37_1, B37_1, hd, cB_true, a1, a2, bind1_some, castAgg_agg, rC, castCons_cons, castInt_int, castStr_str, castNil_nil]
    refine To3.bind2 (alloc_to rfl) ?_
    rintro p h1 ⟨rfl, st, k1⟩
    refine To3.bind2 (st.storeN (ds := rC row[k]) rfl (by decide) rfl rfl) ?_
    rintro u h2 ⟨st2, k2⟩
    have k12 : Kp h h2 [] := k1.trans k2 (fun j hj => by cases hj) (fun j hj hlt => by simp at hj; omega)
    have nb2 := New.keep nb k12
    have f0 := st2.faddr 0 0 0
    have l0 : er (.load1 (.c (.ptr h.length 0 0))) h2 = some (.int .i64 row[k].k) := st2.load1 rfl
    simp only [Nat.zero_add] at f0
    simp only [f0, bind1_some, l0, castInt_int, wrap_u8]
    refine To3.bind2 (bslice_to (ps := [(0, .int .u8 (row[k].k % 256))]) (es := bv [row[k].k % 256]) (by decide) rfl rfl rfl) ?_
    rintro x h3 ⟨-, -, sx, -, k3, -⟩
    have nb3 := New.keep nb2 k3
    have st3 := st2.kp k3
    refine To3.bind2 (app_to nb3.1 nb3.2.1 sx.c (by simp; omega)) ?_
    intro b4 h4 q4
    have nb4 := New.beh nb3 q4
    have hid : h.length ∉ idsOf b := fun q => by have := nb.1.lt q; omega
    have st4 : St h4 h.length (rC row[k]) := st3.keep q4.2.2.1 hid
    rw [← bv_append] at nb4
    refine To3.bind3 (tail37 hf0 nb4.1 nb4.2.1 st4 hfr hir (by simp; omega)) ?_
    rintro x vs h5 ⟨b5, rfl, rfl, q5⟩
    have nb5 := New.beh nb4 q5
    have e5 : bs ++ [row[k].k % 256] ++ encT row[k] = bs ++ encV row[k] := by simp [encV]
    rw [e5] at nb5
    simp only [decide_true, cB_true, castCons_cons, castNil_nil, er_lenL nb5.1, bv_length, bind1_some, castInt_int]
    rw [List.drop_eq_getElem_cons hlt]
    by_cases c : (bs ++ encV row[k]).length > 140
    · have d : decide (((bs ++ encV row[k]).length : Int) > 140) = true := decide_eq_true (by omega)
      simp only [d, cB_true]
      refine To3.some (.inr ⟨?_, rfl, rfl, nb5.2.2.1⟩)
      simp only [encL]; rw [if_pos c]
    · have d : decide (((bs ++ encV row[k]).length : Int) > 140) = false := decide_eq_false (by omega)
      simp only [d, cB_false, hw]
      have := ih (k + 1) f h5 b5 _ (by omega) (by omega) nb5 (by omega)
      simp only [encL]; rw [if_neg c]
      exact this

def EncQ (h : List Ob) (row : List R) (v : V) (h' : List Ob) : Prop := ∃ x, v = .tup [x, .int .i64 (encR row).2] ∧ New h (bv (encR row).1) x h'
theorem New.nils (h : List Ob) {h' : List Ob} (k : Kp h h' []) : New h (bv []) .nils h' := ⟨Sl.nils _ _, Ap.nils, k, fun j hj => by cases hj⟩

theorem enc37 {lf : Nat} {h : List Ob} {v : V} {row : List R} (s : Sl 3 h v (rows row)) (hl : row.length ≤ 1000000) (hf : 20 + row.length < lf) (hi : ∀ r, r ∈ row → inR r) : To2 (F37 lf v h) (EncQ h row) := by
  have hr : roomMax = 140737488355328 := rfl
  simp only [F37]
  refine To2.bind2 (con58 s hl (by omega)) ?_
  rintro u h1 ⟨rfl, k1⟩
  simp only [castBool_bool]
  by_cases c : row.all fine = true
  · simp only [c, Bool.not_true, cB_false]
    have s1 := s.kp k1
    have ew : IntKind.u64.wrap ((rows row).length : Int) = ((row.length : Nat) : Int) := by rw [wrap_u64, rows_len]; omega
    simp only [er_lenL s1, bind1_some, castInt_int, ew]
    refine To2.bind2 (app26 (bs := []) (by omega) (Sl.nils 1 h1) (n := row.length) (by omega) (by simp; omega)) ?_
    intro b h2 nb
    have nb1 := New.after k1 nb
    rw [List.nil_append] at nb1
    have s2 := s.kp nb1.2.2.1
    simp only [er_lenL s2, rows_len, bind1_some, castInt_int]
    have := enc37L lf (by omega) s hl c hi row.length 0 lf h2 b (numB row.length) (by omega) (by omega) nb1 (by have := numB_len row.length; omega)
    have z : ((0 : Nat) : Int) = 0 := rfl
    rw [z] at this
    refine To2.bind3 this ?_
    rintro x vs h3 (⟨d, w, e, rfl, rfl, q⟩ | ⟨e, rfl, rfl, q⟩)
    · simp only [decide_true, cB_true, castCons_cons, castNil_nil]
      rw [List.drop_zero] at e
      refine To2.some ⟨w, ?_, ?_⟩
      · simp [encR, c, e]
      · simpa [encR, c, e] using q
    · simp only [show decide (EX.ret = EX.exit 0) = false from rfl, decide_true, cB_true, cB_false, castCons_cons, castInt_int, castNil_nil]
      rw [List.drop_zero] at e
      refine To2.some ⟨.nils, ?_, ?_⟩
      · simp [encR, c, e]
      · simpa [encR, c, e] using New.nils h q
  · have c : row.all fine = false := by simpa using c
    simp only [c, Bool.not_false, cB_true]
    refine To2.some ⟨.nils, ?_, ?_⟩
    · simp [encR, c]
    · simpa [encR, c] using New.nils h k1

theorem tail38 {lf : Nat} (hf : 20 < lf) {h : List Ob} {b : V} {bs : List Int} (sb : Sl 1 h b (bv bs)) (ab : Ap b) {id : Nat} {r : R} (st : St h id (rC r)) (fr : fine r = true) (ir : inR r) (hl : bs.length ≤ 1000) (hid : id ∉ idsOf b) :
    To3 (S38_0 lf b (.ptr id 0 0) h) fun x vs h' => ∃ v, x = .normal ∧ vs = [v] ∧ Beh b h (bv (bs ++ encT r)) v h' := by
  have hr : roomMax = 140737488355328 := rfl
  have f0 := st.faddr 0 0 0
  have f1 := st.faddr 1 0 0
  have f2 := st.faddr 2 0 0
  have l0 : er (.load1 (.c (.ptr id 0 0))) h = some (.int .i64 r.k) := st.load1 rfl
  have l1 : er (.load1 (.c (.ptr id 0 1))) h = some (.int .i64 r.n) := st.load1 rfl
  have l2 : er (.load1 (.c (.ptr id 0 2))) h = some (.str r.s) := st.load1 rfl
  simp only [Nat.zero_add] at f0 f1 f2
  simp only [S38_0, f0, bind1_some, l0, castInt_int]
  by_cases c1 : r.k = 1
  · have d1 : (r.k == 1) = true := by simp [c1]
    simp only [d1, cB_true, f1, l1, bind1_some, castInt_int]
    refine To3.bind2 (sig28 hf ir.1 ir.2) ?_
    intro v h1 q
    have sb1 := sb.kp q.2.2.1
    have hnl := numB_len (zig r.n)
    refine To3.bind2 (app_to sb1 ab q.1.c (by simp; omega)) ?_
    rintro w h2 ⟨s2, a2, k2, f2⟩
    have e : encT r = numB (zig r.n) := by simp [encT, c1]
    refine To3.some ⟨w, rfl, rfl, ?_⟩
    rw [e, bv_append]
    exact ⟨s2, a2, q.2.2.1.trans k2 (fun j hj => by cases hj) (fun j hj _ => hj), fun j hj => (f2 j hj).imp (fun z => z) (fun z => by have := q.2.2.1.len; omega)⟩
  · have d1 : (r.k == 1) = false := by simp [c1]
    simp only [d1, cB_false]
    by_cases c2 : r.k = 2
    · have d2 : (r.k == 2) = true := by simp [c2]
      have hs := fine_len fr c2
      have ew : IntKind.u64.wrap (r.s.length : Int) = ((r.s.length : Nat) : Int) := by rw [wrap_u64]; omega
      simp only [d2, cB_true, f2, l2, bind1_some, castStr_str, ew]
      refine To3.bind2 (num27 hf (n := r.s.length) (by omega)) ?_
      intro v h1 q
      have sb1 := sb.kp q.2.2.1
      have hnl := numB_len r.s.length
      refine To3.bind2 (app_to sb1 ab q.1.c (by simp; omega)) ?_
      rintro w h2 ⟨s2, a2, k2, f2⟩
      have st2 : St h2 id (rC r) := (st.kp q.2.2.1).keep k2 hid
      have l2' : er (.load1 (.c (.ptr id 0 2))) h2 = some (.str r.s) := st2.load1 rfl
      have f2' := st2.faddr 2 0 0
      simp only [Nat.zero_add] at f2'
      simp only [f2', l2', bind1_some, castStr_str]
      refine To3.bind2 (app_to s2 a2 (conts_str h2 r.s) (by simp; omega)) ?_
      rintro w3 h3 ⟨s3, a3, k3, f3⟩
      have e : encT r = numB r.s.length ++ sB r.s := by simp [encT, c1, c2]
      refine To3.some ⟨w3, rfl, rfl, ?_⟩
      rw [e, ← List.append_assoc, bv_append, bv_append]
      have kk : Kp h h2 (idsOf b) := q.2.2.1.trans k2 (fun j hj => by cases hj) (fun j hj _ => hj)
      refine ⟨s3, a3, kk.trans k3 (fun j hj _ => hj) (fun j hj hlt => ?_), fun j hj => ?_⟩
      · rcases f2 j hj with z | z
        · exact z
        · have := q.2.2.1.len; omega
      · rcases f3 j hj with z | z
        · rcases f2 j z with z | z
          · exact .inl z
          · exact .inr (by have := q.2.2.1.len; omega)
        · exact .inr (by have := kk.len; omega)
    · have d2 : (r.k == 2) = false := by simp [c2]
      simp only [d2, cB_false]
      have e : encT r = [] := by simp [encT, c1, c2]
      exact To3.some ⟨b, rfl, rfl, by rw [e, List.append_nil]; exact ⟨sb, ab, Kp.refl _ _, fun j hj => .inl hj⟩⟩

theorem enc38L (lf : Nat) (hf0 : 20 < lf) {h0 : List Ob} {v : V} {row : List R} (s : Sl 3 h0 v (rows row)) (hl : row.length ≤ 1000000) (ha : row.all fine = true) (hi : ∀ r, r ∈ row → inR r) : ∀ (m k f : Nat) (h : List Ob) (b : V) (bs : List Int), row.length = k + m → m < f → New h0 (bv bs) b h → bs.length ≤ 140 →
    To3 (L38_1 lf f v b row.length k h) fun x vs h' => (∃ c w, encL (row.drop k) bs = some c ∧ x = .exit 0 ∧ vs = [w] ∧ New h0 (bv c) w h') ∨ (encL (row.drop k) bs = none ∧ x = .ret ∧ vs = [.nils, .int .i64 14] ∧ Kp h0 h' []) := by
  intro m
  induction m with
  | zero =>
    intro k f h b bs hk hf nb hb
    obtain ⟨f, rfl⟩ : ∃ g, f = g + 1 := ⟨f - 1, by omega⟩
    have e : row.drop k = [] := List.drop_of_length_le (by omega)
    have hd : decide ((k : Int) < (row.length : Int)) = false := decide_eq_false (by omega)
    simp only [L38_1, B38_1, hd, cB_false, e]
    exact To3.some (.inl ⟨bs, b, rfl, rfl, rfl, nb⟩)
  | succ m ih =>
    intro k f h b bs hk hf nb hb
    obtain ⟨f, rfl⟩ : ∃ g, f = g + 1 := ⟨f - 1, by omega⟩
    have hr : roomMax = 140737488355328 := rfl
    have hlt : k < row.length := by omega
    have hd : decide ((k : Int) < (row.length : Int)) = true := decide_eq_true (by omega)
    obtain ⟨a, a1, a2⟩ := rowAt (s.kp nb.2.2.1) hlt
    have hw : IntKind.i64.wrap ((k : Int) + 1) = ((k + 1 : Nat) : Int) := by rw [wrap_i64 (by omega) (by omega)]; simp
    have hfr : fine row[k] = true := List.all_eq_true.1 ha _ (List.getElem_mem hlt)
    have hir := hi row[k] (List.getElem_mem hlt)
    simp only [L38_1, B38_1, hd, cB_true, a1, a2, bind1_some, castAgg_agg, rC, castCons_cons, castInt_int, castStr_str, castNil_nil]
    refine To3.bind2 (alloc_to rfl) ?_
    rintro p h1 ⟨rfl, st, k1⟩
    refine To3.bind2 (st.storeN (ds := rC row[k]) rfl (by decide) rfl rfl) ?_
    rintro u h2 ⟨st2, k2⟩
    have k12 : Kp h h2 [] := k1.trans k2 (fun j hj => by cases hj) (fun j hj hlt => by simp at hj; omega)
    have nb2 := New.keep nb k12
    have f0 := st2.faddr 0 0 0
    have l0 : er (.load1 (.c (.ptr h.length 0 0))) h2 = some (.int .i64 row[k].k) := st2.load1 rfl
    simp only [Nat.zero_add] at f0
    simp only [f0, bind1_some, l0, castInt_int, wrap_u8]
    refine To3.bind2 (bslice_to (ps := [(0, .int .u8 (row[k].k % 256))]) (es := bv [row[k].k % 256]) (by decide) rfl rfl rfl) ?_
    rintro x h3 ⟨-, -, sx, -, k3, -⟩
    have nb3 := New.keep nb2 k3
    have st3 := st2.kp k3
    refine To3.bind2 (app_to nb3.1 nb3.2.1 sx.c (by simp; omega)) ?_
    intro b4 h4 q4
    have nb4 := New.beh nb3 q4
    have hid : h.length ∉ idsOf b := fun q => by have := nb.1.lt q; omega
    have st4 : St h4 h.length (rC row[k]) := st3.keep q4.2.2.1 hid
    have hid4 : h.length ∉ idsOf b4 := fun q => by
      rcases q4.2.2.2 _ q with z | z
      · exact hid z
      · have := st3.lt; omega
    rw [← bv_append] at nb4
    refine To3.bind3 (tail38 hf0 nb4.1 nb4.2.1 st4 hfr hir (by simp; omega) hid4) ?_
    rintro x vs h5 ⟨b5, rfl, rfl, q5⟩
    have nb5 := New.beh nb4 q5
    have e5 : bs ++ [row[k].k % 256] ++ encT row[k] = bs ++ encV row[k] := by simp [encV]
    rw [e5] at nb5
    simp only [decide_true, cB_true, castCons_cons, castNil_nil, er_lenL nb5.1, bv_length, bind1_some, castInt_int]
    rw [List.drop_eq_getElem_cons hlt]
    by_cases c : (bs ++ encV row[k]).length > 140
    · have d : decide (((bs ++ encV row[k]).length : Int) > 140) = true := decide_eq_true (by omega)
      simp only [d, cB_true]
      refine To3.some (.inr ⟨?_, rfl, rfl, nb5.2.2.1⟩)
      simp only [encL]; rw [if_pos c]
    · have d : decide (((bs ++ encV row[k]).length : Int) > 140) = false := decide_eq_false (by omega)
      simp only [d, cB_false, hw]
      have := ih (k + 1) f h5 b5 _ (by omega) (by omega) nb5 (by omega)
      simp only [encL]; rw [if_neg c]
      exact this

theorem enc38 {lf : Nat} {h : List Ob} {v : V} {row : List R} (s : Sl 3 h v (rows row)) (hl : row.length ≤ 1000000) (hf : 20 + row.length < lf) (hi : ∀ r, r ∈ row → inR r) : To2 (F38 lf v h) (EncQ h row) := by
  simp only [F38]
  refine To2.bind2 (row61 s hl (by omega)) ?_
  rintro u h1 ⟨rfl, k1⟩
  simp only [castBool_bool]
  by_cases c : row.all fine = true
  · simp only [c, Bool.not_true, cB_false]
    have s1 := s.kp k1
    have ew : IntKind.u64.wrap ((rows row).length : Int) = ((row.length : Nat) : Int) := by rw [wrap_u64, rows_len]; omega
    simp only [er_lenL s1, bind1_some, castInt_int, ew]
    refine To2.bind2 (num27 (by omega) (n := row.length) (by omega)) ?_
    intro b h2 nb
    have nb1 := New.after k1 nb
    have s2 := s.kp nb1.2.2.1
    simp only [er_lenL s2, rows_len, bind1_some, castInt_int]
    have hn := numB_len row.length
    have := enc38L lf (by omega) s hl c hi row.length 0 lf h2 b (numB row.length) (by omega) (by omega) nb1 (by omega)
    have z : ((0 : Nat) : Int) = 0 := rfl
    rw [z] at this
    refine To2.bind3 this ?_
    rintro x vs h3 (⟨d, w, e, rfl, rfl, q⟩ | ⟨e, rfl, rfl, q⟩)
    · rw [List.drop_zero] at e
      have hd := (encL_some _ _ _ e).2 (by omega)
      have dd : decide ((d.length : Int) > 140) = false := decide_eq_false (by omega)
      simp only [decide_true, cB_true, castCons_cons, castNil_nil, er_lenL q.1, bv_length, bind1_some, castInt_int, dd, cB_false]
      refine To2.some ⟨w, ?_, ?_⟩
      · simp [encR, c, e]
      · simpa [encR, c, e] using q
    · simp only [show decide (EX.ret = EX.exit 0) = false from rfl, decide_true, cB_true, cB_false, castCons_cons, castInt_int, castNil_nil]
      rw [List.drop_zero] at e
      refine To2.some ⟨.nils, ?_, ?_⟩
      · simp [encR, c, e]
      · simpa [encR, c, e] using New.nils h q
  · have c : row.all fine = false := by simpa using c
    simp only [c, Bool.not_false, cB_true]
    refine To2.some ⟨.nils, ?_, ?_⟩
    · simp [encR, c]
    · simpa [encR, c] using New.nils h k1
end Go.Proofs.Ytdcdmpgigmhhpaa.Rc
