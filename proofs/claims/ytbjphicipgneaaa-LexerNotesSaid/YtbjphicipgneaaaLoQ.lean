/- LexerNotes: the law's answer for every input. No condition. -/
import Derived.Test.YtbjphicipgneaaaLos
import Derived.Test.YtbjphicipgneaaaLoP
import Derived.Test.YtbjphicipgneaaaL4
namespace Go.Proofs.Ytbjphicipgneaaa.Lo
open Go Go.Proofs.Ytbjphicipgneaaa.E
open Go.Proofs.Ytbjphicipgneaaa.Ln
set_option maxRecDepth 100000
set_option linter.unusedVariables false
set_option linter.unusedSimpArgs false

theorem eqW (w : Wd) (h : List Ob) : er (.eq true (.struct 3 [(0, .i), (1, .s), (2, .i)]) (.c (.agg (cW w))) (.c (.agg (cW w)))) h = some (.bool false) := by
  simp [er, ev, evOq, x_eq, getC, evEq, eqAt, eqLeaves, V.cells]
theorem rowW_get {ws : List Wd} {k : Nat} (hk : k < ws.length) : (rowsW ws)[k]? = some (.agg (cW ws[k])) := by simp [rowsW, hk]
theorem sameL (lf : Nat) {a b : V} {ws : List Wd} {h : List Ob} (sa : Sl 3 h a (rowsW ws)) (sb : Sl 3 h b (rowsW ws)) (hw : ws.length ≤ 1000000) : ∀ (m k f : Nat), ws.length = k + m → m < f → L22_0 lf f a b ws.length k h = some (.exit 0, [], h) := by
  intro m
  induction m with
  | zero =>
    intro k f hm hf
    obtain ⟨f, rfl⟩ : ∃ g, f = g + 1 := ⟨f - 1, by omega⟩
    have hd : decide ((k : Int) < (ws.length : Int)) = false := decide_eq_false (by omega)
    simp only [L22_0, B22_0, hd, cB_false]
  | succ m ih =>
    intro k f hm hf
    obtain ⟨f, rfl⟩ : ∃ g, f = g + 1 := ⟨f - 1, by omega⟩
    have hlt : k < ws.length := by omega
    have hd : decide ((k : Int) < (ws.length : Int)) = true := decide_eq_true (by omega)
    have w1 : IntKind.i64.wrap ((k : Int) + 1) = ((k + 1 : Nat) : Int) := by rw [wrap_i64 (by omega) (by omega)]; omega
    obtain ⟨p, p1, p2⟩ := sa.atN (k := (k : Int)) (cs := cW ws[k]) (by omega) (by rw [Int.toNat_natCast]; exact rowW_get hlt) rfl (by decide)
    obtain ⟨q, q1, q2⟩ := sb.atN (k := (k : Int)) (cs := cW ws[k]) (by omega) (by rw [Int.toNat_natCast]; exact rowW_get hlt) rfl (by decide)
    simp only [L22_0, B22_0, hd, cB_true, p1, p2, q1, q2, bind1_some, castAgg_agg, castCons_cons, castInt_int, castStr_str, castNil_nil, eqW, castBool_bool, cB_false, w1]
    exact ih (k + 1) f (by omega) (by omega)
theorem same22 {lf : Nat} {a b : V} {ws : List Wd} {h : List Ob} (sa : Sl 3 h a (rowsW ws)) (sb : Sl 3 h b (rowsW ws)) (hw : ws.length ≤ 1000000) (hf : ws.length < lf) : F22 lf a b h = some (.bool true, h) := by
  have := sameL lf sa sb hw ws.length 0 lf (by omega) hf
  have z : ((0 : Nat) : Int) = 0 := rfl
  rw [z] at this
  simp only [F22, er_lenL sa, er_lenL sb, rowsW_len, bind1_some, castInt_int, bne_self_eq_false, cB_false, this, bind3_some, decide_true, cB_true, castNil_nil]

abbrev New3 (h : List Ob) (es : List V) (v : V) (h' : List Ob) : Prop := Sl 3 h' v es ∧ Ap v ∧ Kp h h' [] ∧ (∀ j, j ∈ idsOf v → h.length ≤ j)
theorem oursL (lf : Nat) {h0 : List Ob} {l : V} {ws : List Wd} (sl : Sl 3 h0 l (rowsW ws)) (hw : ws.length ≤ 600) : ∀ (m k f : Nat) (h : List Ob) (out : V), ws.length = k + m → m < f → New3 h0 (rowsW (ws.take k)) out h → To3 (L23_0 lf f l out ws.length k h) fun x vs h' => x = .exit 0 ∧ ∃ v, vs = [v] ∧ New3 h0 (rowsW ws) v h' := by
  intro m
  induction m with
  | zero =>
    intro k f h out hm hf n
    obtain ⟨f, rfl⟩ : ∃ g, f = g + 1 := ⟨f - 1, by omega⟩
    have hd : decide ((k : Int) < (ws.length : Int)) = false := decide_eq_false (by omega)
    rw [List.take_of_length_le (by omega)] at n
    simp only [L23_0, B23_0, hd, cB_false]
    exact To3.some ⟨rfl, out, rfl, n⟩
  | succ m ih =>
    intro k f h out hm hf n
    obtain ⟨f, rfl⟩ : ∃ g, f = g + 1 := ⟨f - 1, by omega⟩
    have hlt : k < ws.length := by omega
    have hd : decide ((k : Int) < (ws.length : Int)) = true := decide_eq_true (by omega)
    have w1 : IntKind.i64.wrap ((k : Int) + 1) = ((k + 1 : Nat) : Int) := by rw [wrap_i64 (by omega) (by omega)]; omega
    obtain ⟨p, p1, p2⟩ := (sl.kp n.2.2.1).atN (k := (k : Int)) (cs := cW ws[k]) (by omega) (by rw [Int.toNat_natCast]; exact rowW_get hlt) rfl (by decide)
    simp only [L23_0, B23_0, hd, cB_true, p1, p2, bind1_some, castAgg_agg, castCons_cons, castInt_int, castStr_str, castNil_nil, w1]
    refine To3.bind2 (bslice_to (ps := [(0, .agg (cW ws[k]))]) (es := rowsW [ws[k]]) (by decide) rfl rfl rfl) ?_
    rintro x h1 ⟨-, -, sx, -, k1, -⟩
    have hr : roomMax = 140737488355328 := rfl
    refine To3.bind2 (app_to (bytes := 32) (n.1.kp k1) n.2.1 sx.c (by rw [rowsW_len, rowsW_len, hr]; simp; omega)) ?_
    rintro y h2 ⟨sy, ay, k2, fy⟩
    have e : rowsW (ws.take k) ++ rowsW [ws[k]] = rowsW (ws.take (k + 1)) := by
      rw [List.take_succ_eq_append_getElem hlt]; simp only [rowsW, List.map_append, List.map_cons, List.map_nil]
    rw [e] at sy
    have k01 := n.2.2.1.tr k1
    refine ih (k + 1) f h2 y (by omega) (by omega) ⟨sy, ay, k01.trans k2 (fun j hj => by cases hj) (fun j hj hl => by have := n.2.2.2 j hj; omega), fun j hj => (fy j hj).elim (n.2.2.2 j) (fun z => by have := k01.len; omega)⟩
theorem ours23 {lf : Nat} {l : V} {ws : List Wd} {h : List Ob} (sl : Sl 3 h l (rowsW ws)) (hw : ws.length ≤ 600) (hf : ws.length < lf) : To2 (F23 lf l h) (New3 h (rowsW ws)) := by
  have hL := oursL lf sl hw ws.length 0 lf h .nils (by omega) hf ⟨Sl.nils _ _, Ap.nils, Kp.refl _ _, fun j hj => by cases hj⟩
  have z : ((0 : Nat) : Int) = 0 := rfl
  rw [z] at hL
  simp only [F23, er_lenL sl, rowsW_len, bind1_some, castInt_int]
  refine To2.bind3 hL ?_
  rintro x vs h1 ⟨rfl, v, rfl, n⟩
  simp only [decide_true, cB_true, castCons_cons, castNil_nil]
  exact To2.some n

theorem noteL (lf : Nat) {s : List UInt8} {h : List Ob} (hs : s.length ≤ 4611686018427387904) : ∀ (m i f : Nat), s.length = i + m → m < f → L5_0 lf f s s.length i h = if 10 ∈ s.drop i then some (.ret, [.bool true], h) else some (.exit 0, [], h) := by
  intro m
  induction m with
  | zero =>
    intro i f hm hf
    obtain ⟨f, rfl⟩ : ∃ g, f = g + 1 := ⟨f - 1, by omega⟩
    have hd : decide ((i : Int) < (s.length : Int)) = false := decide_eq_false (by omega)
    have hn : s.drop i = [] := List.drop_of_length_le (by omega)
    simp only [L5_0, B5_0, hd, cB_false, hn, List.not_mem_nil, if_false]
  | succ m ih =>
    intro i f hm hf
    obtain ⟨f, rfl⟩ : ∃ g, f = g + 1 := ⟨f - 1, by omega⟩
    have hlt : i < s.length := by omega
    have hd : decide ((i : Int) < (s.length : Int)) = true := decide_eq_true (by omega)
    have w2 : IntKind.i64.wrap ((i : Int) + 1) = ((i + 1 : Nat) : Int) := by rw [wrap_i64 (by omega) (by omega)]; omega
    have ih' := ih (i + 1) f (by omega) (by omega)
    have eb : er (.idxS (.c (.str s)) (.c (.int .i64 (i : Int)))) h = some (.int .u8 (s[i].toNat)) := er_idxS (List.getElem?_eq_getElem hlt)
    simp only [L5_0, B5_0, hd, cB_true, eb, bind1_some, castInt_int, w2, ih']
    rw [List.drop_eq_getElem_cons hlt]
    by_cases c : s[i] = 10
    · have e1 : (((s[i].toNat : Nat) : Int) == 10) = true := by rw [c]; rfl
      rw [e1, cB_true, if_pos (by simp [c])]
    · have e1 : (((s[i].toNat : Nat) : Int) == 10) = false := by
        have : ((s[i].toNat : Nat) : Int) ≠ 10 := fun z => c (UInt8.toNat_inj.1 (by show s[i].toNat = 10; omega))
        simpa using this
      rw [e1, cB_false]
      have : (10 ∈ s[i] :: s.drop (i + 1)) ↔ 10 ∈ s.drop (i + 1) := by
        simp only [List.mem_cons]
        exact ⟨fun z => z.elim (fun y => absurd y.symm c) id, .inr⟩
      simp only [this]

theorem scan_len : ∀ (m : Nat) (t : List UInt8) (sk : Nat) (nt : Bool) (ws : List Wd) (e : Int) (y : List Wd) (e' : Int), ws.length ≤ 600 → scan m t sk nt ws e = (some y, e') → y.length ≤ 600 := by
  have fin : ∀ {ws : List Wd} {e : Int} {y : List Wd} {e' : Int}, ws.length ≤ 600 → finP ws e = (some y, e') → y.length ≤ 600 := by
    intro ws e y e' hl h
    unfold finP at h
    split at h
    · injection h with h1 h2
      injection h1 with h1
      rw [← h1]; exact hl
    · cases h
  intro m
  induction m with
  | zero => intro t sk nt ws e y e' hl h; exact fin hl h
  | succ m ih =>
    intro t sk nt ws e y e' hl h
    rw [scan] at h
    split at h
    · exact fin hl h
    · split at h
      · cases h
      · exact ih _ _ _ _ _ _ _ (stepP_len t sk nt ws hl) h
theorem wordsP_len {s : List UInt8} {y : List Wd} {e : Int} (h : wordsP s = (some y, e)) : y.length ≤ 600 := by
  unfold wordsP at h
  split at h
  · cases h
  · exact scan_len _ _ _ _ _ _ _ _ (by simp) h
theorem start5 {lf : Nat} (hf : 5000 < lf) {a note b : List UInt8} {h : List Ob} (ha : a.length ≤ 1000000000000000) (hn : note.length ≤ 1000000000000000) (hb : b.length ≤ 1000000000000000) :
    To3 (S5_2 lf a note b h) fun x vs h' => (x = .ret ∧ vs = [.bool true]) ∨ (x = .normal ∧ vs = [] ∧ a.length + note.length + b.length ≤ 3000) := by
  simp only [S5_2]
  refine To3.bind2 (awake20 (by omega)) ?_
  rintro u h1 ⟨rfl, k1⟩
  have w1 : IntKind.i64.wrap ((a.length : Int) + (note.length : Int)) = ((a.length : Int) + (note.length : Int)) := wrap_i64 (by omega) (by omega)
  have w2 : IntKind.i64.wrap ((a.length : Int) + (note.length : Int) + (b.length : Int)) = ((a.length : Int) + (note.length : Int) + (b.length : Int)) := wrap_i64 (by omega) (by omega)
  simp only [castBool_bool, Bool.not_true, cB_false, w1, w2]
  by_cases q : ((a.length : Int) + (note.length : Int) + (b.length : Int)) > 3000
  · rw [decide_eq_true q, cB_true]
    refine To3.bind2 (awake20 (by omega)) ?_
    rintro u h2 ⟨rfl, k2⟩
    simp only [castBool_bool]
    exact To3.some (.inl ⟨rfl, rfl⟩)
  · rw [decide_eq_false q, cB_false]
    exact To3.some (.inr ⟨rfl, rfl, by omega⟩)

theorem law5 {lf : Nat} (hf : 5000 < lf) {a note b : List UInt8} (hfn : note.length < lf) {h : List Ob} (ha : a.length ≤ 1000000000000000) (hn : note.length ≤ 1000000000000000) (hb : b.length ≤ 1000000000000000) : To2 (F5 lf a note b h) fun v _ => v = .bool true := by
  simp only [F5]
  refine To2.bind3 (start5 hf ha hn hb) ?_
  rintro x vs h1 (⟨rfl, rfl⟩ | ⟨rfl, rfl, hl⟩)
  · simp only [decide_true, cB_true, castCons_cons, castBool_bool, castNil_nil]
    exact To2.some rfl
  · have eN := noteL lf (h := h1) (s := note) (by omega) note.length 0 lf (by omega) hfn
    have z : ((0 : Nat) : Int) = 0 := rfl
    rw [z, List.drop_zero] at eN
    simp only [show decide (EX.normal = EX.ret) = false from rfl, cB_false, decide_true, cB_true, castNil_nil]
    rw [eN]
    by_cases c : 10 ∈ note
    · rw [if_pos c, bind3_some]
      simp only [show decide (EX.ret = EX.exit 0) = false from rfl, cB_false, decide_true, cB_true, castCons_cons, castBool_bool, castNil_nil]
      exact To2.some rfl
    · rw [if_neg c, bind3_some]
      simp only [decide_true, cB_true, castNil_nil]
      refine To2.bind2 (words21 (by omega)) ?_
      rintro v h2 ⟨k2, r⟩
      have endr : ∀ {x y : V} {e f : Int} {h3 : List Ob} {K : Option (V × List Ob)}, (e ≠ 0 ∨ f ≠ 0) → S5_1 lf x e y f h3 = some (.ret, [.bool true], h3) := by
        intro x y e f h3 K hz
        unfold S5_1
        by_cases z : e = 0
        · have z2 : f ≠ 0 := hz.resolve_left (fun q => q z)
          have e1 : (e != 0) = false := by simp [z]
          have e2 : (f != 0) = true := by simpa using z2
          rw [e1, cB_false, e2, cB_true]
        · have e1 : (e != 0) = true := by simpa using z
          rw [e1, cB_true]
      cases ea : wordsP a with
      | mk oa e1 =>
        cases oa with
        | none =>
          rw [ea] at r
          obtain ⟨rfl, hz⟩ := r
          simp only [castTup_tup, castCons_cons, castInt_int, castNil_nil]
          refine To2.bind2 (words21 (by omega)) ?_
          rintro v h3 ⟨k3, r⟩
          obtain ⟨y, f, rfl⟩ : ∃ y f, v = .tup [y, .int .i64 f] := by
            cases eb : wordsP b with
            | mk ob e2 =>
              cases ob with
              | none => rw [eb] at r; exact ⟨_, _, r.1⟩
              | some ws => rw [eb] at r; obtain ⟨wv, q, _⟩ := r; exact ⟨_, _, q⟩
          simp only [castTup_tup, castCons_cons, castInt_int, castNil_nil]
          rw [endr (K := none) (.inl hz), bind3_some]
          simp only [decide_true, cB_true, castCons_cons, castBool_bool, castNil_nil]
          exact To2.some rfl
        | some x =>
          rw [ea] at r
          obtain ⟨xv, rfl, sx, ax, fx⟩ := r
          simp only [castTup_tup, castCons_cons, castInt_int, castNil_nil]
          refine To2.bind2 (words21 (by omega)) ?_
          rintro v h3 ⟨k3, r⟩
          cases eb : wordsP b with
          | mk ob e2 =>
            cases ob with
            | none =>
              rw [eb] at r
              obtain ⟨rfl, hz⟩ := r
              simp only [castTup_tup, castCons_cons, castInt_int, castNil_nil]
              rw [endr (K := none) (.inr hz), bind3_some]
              simp only [decide_true, cB_true, castCons_cons, castBool_bool, castNil_nil]
              exact To2.some rfl
            | some y =>
              rw [eb] at r
              obtain ⟨yv, rfl, sy, ay, fy⟩ := r
              have sx3 := sx.kp k3
              have hxl := wordsP_len ea
              have hyl := wordsP_len eb
              have w1 : IntKind.i64.wrap ((x.length : Int) + (y.length : Int)) = (x.length : Int) + y.length := wrap_i64 (by omega) (by omega)
              have eS : S5_1 lf xv 0 yv 0 h3 = if x.length + y.length ≤ 600 then some (.normal, [], h3) else some (.ret, [.bool true], h3) := by
                simp only [S5_1, bne_self_eq_false, cB_false, er_lenL sx3, er_lenL sy, rowsW_len, bind1_some, castInt_int, w1]
                by_cases q : x.length + y.length ≤ 600
                · rw [decide_eq_false (by omega), cB_false, if_pos q]
                · rw [decide_eq_true (by omega), cB_true, if_neg q]
              simp only [castTup_tup, castCons_cons, castInt_int, castNil_nil]
              rw [eS]
              by_cases q : x.length + y.length ≤ 600
              · rw [if_pos q, bind3_some]
                have n1 : er (.bin .add (.c (.str a)) (.c (.str [10, 45, 45]))) h3 = some (.str (a ++ [10, 45, 45])) := er_addS (by simp; omega)
                have n2 : er (.bin .add (.c (.str (a ++ [10, 45, 45]))) (.c (.str note))) h3 = some (.str (a ++ [10, 45, 45] ++ note)) := er_addS (by simp; omega)
                have n3 : er (.bin .add (.c (.str (a ++ [10, 45, 45] ++ note))) (.c (.str [10, 9, 32]))) h3 = some (.str (a ++ [10, 45, 45] ++ note ++ [10, 9, 32])) := er_addS (by simp; omega)
                have n4 : er (.bin .add (.c (.str (a ++ [10, 45, 45] ++ note ++ [10, 9, 32]))) (.c (.str b))) h3 = some (.str (a ++ [10, 45, 45] ++ note ++ [10, 9, 32] ++ b)) := er_addS (by simp; omega)
                simp only [show decide (EX.normal = EX.ret) = false from rfl, cB_false, decide_true, cB_true, castNil_nil, n1, n2, n3, n4, bind1_some, castStr_str]
                refine To2.bind2 (words21 (by omega)) ?_
                rintro v h4 ⟨k4, r⟩
                rw [notes hl c ea eb q] at r
                obtain ⟨zv, rfl, sz, az, fz⟩ := r
                simp only [castTup_tup, castCons_cons, castInt_int, castNil_nil, beq_self_eq_true, cB_true]
                refine To2.bind2 (ours23 (sx3.kp k4) hxl (by omega)) ?_
                rintro u h5 ⟨su, au, k5, fu⟩
                refine To2.bind2 (ours23 ((sy.kp k4).kp k5) hyl (by omega)) ?_
                rintro w h6 ⟨sw, aw, k6, fw⟩
                have hr : roomMax = 140737488355328 := rfl
                refine To2.bind2 (app_to (bytes := 32) (su.kp k6) au sw.c (by rw [rowsW_len, rowsW_len, hr]; omega)) ?_
                rintro o h7 ⟨so, ao, k7, fo⟩
                have erow : rowsW x ++ rowsW y = rowsW (x ++ y) := by simp [rowsW]
                rw [erow] at so
                have sz7 := ((sz.kp k5).kp k6).keep k7 (fun j hj hu => by
                  have h1' := fu j hu
                  have h2' := sz.lt hj
                  omega)
                rw [same22 sz7 so (by simp; omega) (by simp; omega), bind2_some, castBool_bool]
                exact To2.some rfl
              · rw [if_neg q, bind3_some]
                simp only [decide_true, cB_true, castCons_cons, castBool_bool, castNil_nil]
                exact To2.some rfl

theorem shape {H : Type} {d0 d1 d2 : DataW H} {u0 u1 u2 : List V} (hsz : (DataW.weightsEach Try.prog [9, 9, 9] [d0, d1, d2]).all (· ≤ reachBytes) = true) (h0 : dV Try.prog d0 9 = some u0) (h1 : dV Try.prog d1 9 = some u1) (h2 : dV Try.prog d2 9 = some u2) :
    ∃ y0 y1 y2, u0 = [y0] ∧ u1 = [y1] ∧ u2 = [y2] ∧ CE Try.prog 5 [y0, y1, y2] [] fun v _ => v = .bool true := by
  obtain ⟨a, rfl⟩ := dV_str Try.underlying9 h0
  obtain ⟨n, rfl⟩ := dV_str Try.underlying9 h1
  obtain ⟨b, rfl⟩ := dV_str Try.underlying9 h2
  have ha := str_sized Try.underlying9 h0 (wt_param hsz (j := 0) rfl rfl)
  have hn := str_sized Try.underlying9 h1 (wt_param hsz (j := 1) rfl rfl)
  have hb := str_sized Try.underlying9 h2 (wt_param hsz (j := 2) rfl rfl)
  obtain ⟨u, h', e, q⟩ := law5 (lf := 5001 + n.length) (a := a) (note := n) (b := b) (h := []) (by omega) (by omega) (by omega) (by omega) (by omega)
  exact ⟨_, _, _, rfl, rfl, rfl, (F5_ok _ _ _ _ _ _ _ e).2.mono fun v2 h2 z => by rw [z.1]; exact q⟩
end Go.Proofs.Ytbjphicipgneaaa.Lo
