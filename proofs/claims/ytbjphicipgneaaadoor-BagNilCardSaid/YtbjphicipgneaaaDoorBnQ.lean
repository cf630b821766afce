/- BagNil: a row's key; the awake call; the law's answer for every input. No condition. -/
import Derived.Test.YtbjphicipgneaaaDoorBnP
namespace Go.Proofs.YtbjphicipgneaaaDoor.Bn
open Go Go.Proofs.YtbjphicipgneaaaDoor.E
set_option maxRecDepth 100000
set_option linter.unusedVariables false
set_option linter.unusedSimpArgs false

theorem putB {h0 h : List Ob} {ms : List Int} {bV : V} {K : V → List Ob → SubR} {Q : EX → List V → List Ob → Prop} (n : New h0 (bv ms) bV h) (m : Int) (hl : ms.length ≤ 100000) (hK : ∀ v h', New h0 (bv (ms ++ [m])) v h' → Kp h h' (idsOf bV) → (∀ j, j ∈ idsOf v → j ∈ idsOf bV ∨ h.length ≤ j) → To3 (K v h') Q) :
    To3 (bind2 (ev (.bslice 1 (.int .u8 0) 1 [(0, (.c (.int .u8 m)))]) h) fun x32 h_ => bind2 (ev (.app 1 1 (.c bV) (.c x32)) h_) K) Q := by
  refine To3.bind2 (bslice_to (ps := [(0, .int .u8 m)]) (es := bv [m]) (by decide) rfl rfl rfl) ?_
  rintro x h1 ⟨-, -, sx, -, k1, -⟩
  have hr : roomMax = 140737488355328 := rfl
  have n1 := n.keep k1
  refine To3.bind2 (app_to (bytes := 1) n1.1 n1.2.1 sx.c (by rw [bv_length, bv_length, hr]; simp; omega)) ?_
  rintro v h2 ⟨s2, a2, k2, f2⟩
  have n2 : New h0 (bv ms ++ bv [m]) v h2 := n1.beh ⟨s2, a2, k2, f2⟩
  rw [← bv_append] at n2
  have := k1.len
  exact hK v h2 n2 (k1.trans k2 (fun j hj => by cases hj) (fun j hj _ => hj)) (fun j hj => (f2 j hj).elim .inl (fun z => .inr (by omega)))

theorem shiftL (lf : Nat) {h0 : List Ob} {id : Nat} {r : R} : ∀ (j f : Nat) (h : List Ob) (bV : V) (ms : List Int), j < f → j ≤ 8 → ms.length + j ≤ 90000 → New h0 (bv ms) bV h → St h id (rC r) → id ∉ idsOf bV →
    To3 (L16_0 lf f bV (.ptr id 0 0) ((j : Int) * 8 - 8) h) fun x vs h' => x = .exit 3 ∧ ∃ b' ms', vs = [b'] ∧ ms'.length = ms.length + j ∧ New h0 (bv ms') b' h' := by
  intro j
  induction j with
  | zero =>
    intro f h bV ms hf hj hm n st hid
    obtain ⟨f, rfl⟩ : ∃ g, f = g + 1 := ⟨f - 1, by omega⟩
    have hd : decide (((0 : Nat) : Int) * 8 - 8 ≥ 0) = false := by decide
    simp only [L16_0, B16_0, hd, cB_false]
    exact To3.some ⟨rfl, bV, ms, rfl, rfl, n⟩
  | succ j ih =>
    intro f h bV ms hf hj hm n st hid
    obtain ⟨f, rfl⟩ : ∃ g, f = g + 1 := ⟨f - 1, by omega⟩
    have e1 : (((j + 1 : Nat) : Int) * 8 - 8) = ((8 * j : Nat) : Int) := by omega
    have hd : decide (((8 * j : Nat) : Int) ≥ 0) = true := decide_eq_true (by omega)
    have f1 := st.faddr 1 0 0
    have l1 : er (.load1 (.c (.ptr id 0 1))) h = some (.int .i64 r.n) := st.load1 rfl
    simp only [Nat.zero_add] at f1
    have w1 : IntKind.i64.wrap (((8 * j : Nat) : Int) - 8) = (j : Int) * 8 - 8 := by rw [wrap_i64 (by omega) (by omega)]; omega
    rw [e1]
    simp only [L16_0, B16_0, hd, cB_true, f1, l1, bind1_some, castInt_int, er_shr64 (h := h) _ (show 8 * j < 64 by omega), w1]
    refine putB n _ (by omega) ?_
    intro v h1 n1 k1 f1'
    refine (ih f h1 v _ (by omega) (by omega) (by simp; omega) n1 (st.keep k1 hid) (fun z => (f1' id z).elim hid (fun y => by have := st.lt; omega))).mono ?_
    rintro x vs h2 ⟨rfl, b', ms', rfl, q, n2⟩
    exact ⟨rfl, b', ms', rfl, by rw [q]; simp; omega, n2⟩

theorem keyL (lf : Nat) (hlf : 300 < lf) {h0 : List Ob} {row : V} {rs : List R} (s : Sl 3 h0 row (rows rs)) (hl : rs.length ≤ 50) : ∀ (m k f : Nat) (h : List Ob) (bV : V) (ms : List Int), rs.length = k + m → m < f → ms.length ≤ 300 * k → New h0 (bv ms) bV h →
    To3 (L16_1 lf f bV row rs.length k h) fun x vs h' => Kp h0 h' [] ∧ ((x = .exit 0 ∧ ∃ b' ms', vs = [b'] ∧ New h0 (bv ms') b' h') ∨ (x = .ret ∧ vs = [.nils, .int .i64 1] ∧ ∃ r, r ∈ rs ∧ fP r = false)) := by
  intro m
  induction m with
  | zero =>
    intro k f h bV ms hk hf hm n
    obtain ⟨f, rfl⟩ : ∃ g, f = g + 1 := ⟨f - 1, by omega⟩
    have hd : decide ((k : Int) < (rs.length : Int)) = false := decide_eq_false (by omega)
    simp only [L16_1, B16_1, hd, cB_false]
    exact To3.some ⟨n.2.2.1, .inl ⟨rfl, bV, ms, rfl, n⟩⟩
  | succ m ih =>
    intro k f h bV ms hk hf hm n
    obtain ⟨f, rfl⟩ : ∃ g, f = g + 1 := ⟨f - 1, by omega⟩
    have hlt : k < rs.length := by omega
    have hd : decide ((k : Int) < (rs.length : Int)) = true := decide_eq_true (by omega)
    have w1 : IntKind.i64.wrap ((k : Int) + 1) = ((k + 1 : Nat) : Int) := by rw [wrap_i64 (by omega) (by omega)]; omega
    obtain ⟨a, a1, a2⟩ := (s.kp n.2.2.1).atN (k := (k : Int)) (cs := rC rs[k]) (by omega) (by simp [rows, hlt]) rfl (by decide)
    simp only [L16_1, B16_1, hd, cB_true, a1, a2, bind1_some, castAgg_agg, castCons_cons, castInt_int, castStr_str, castNil_nil, w1]
    refine To3.bind2 (alloc_to (cs := [.int .i64 0, .int .i64 0, .str []]) rfl) ?_
    rintro p h1 ⟨rfl, st1, k1⟩
    refine To3.bind2 (st1.storeN (ds := rC rs[k]) rfl (by simp) rfl rfl) ?_
    rintro u h2 ⟨st2, k2⟩
    have k12 : Kp h h2 [] := k1.trans k2 (fun j hj => by cases hj) (fun j hj hl => by simp at hj; omega)
    have ll : er (.loadN 3 (.c (.ptr h.length 0 0))) h2 = some (.agg (rC rs[k])) := st2.loadN' rfl
    simp only [ll, bind1_some, castAgg_agg, castCons_cons, castInt_int, castStr_str, castNil_nil]
    refine To3.bind2 (formed25 rs[k]) ?_
    rintro u h3 ⟨rfl, k3⟩
    have k13 := k12.tr k3
    have n3 := n.keep k13
    rw [castBool_bool]
    cases hfP : fP rs[k] with
    | false =>
      simp only [Bool.not_false, cB_true]
      exact To3.some ⟨n3.2.2.1, .inr ⟨rfl, rfl, _, List.getElem_mem hlt, hfP⟩⟩
    | true =>
      have st3 := st2.kp k3
      have f0 := st3.faddr 0 0 0
      have l0 : er (.load1 (.c (.ptr h.length 0 0))) h3 = some (.int .i64 rs[k].k) := st3.load1 rfl
      simp only [Nat.zero_add] at f0
      have hidb : h.length ∉ idsOf bV := fun z => by have := n.1.lt z; omega
      simp only [Bool.not_true, cB_false, f0, l0, bind1_some, castInt_int]
      by_cases c0 : rs[k].k = 0
      · have e : (rs[k].k == 0) = true := by simp [c0]
        rw [e, cB_true]
        refine putB n3 _ (by omega) ?_
        intro v h4 n4 k4 f4
        exact ih (k + 1) f h4 v _ (by omega) (by omega) (by simp; omega) n4
      · have e : (rs[k].k == 0) = false := by simp [c0]
        rw [e, cB_false]
        by_cases c1 : rs[k].k = 1
        · have e : (rs[k].k == 1) = true := by simp [c1]
          rw [e, cB_true]
          refine putB n3 _ (by omega) ?_
          intro v h4 n4 k4 f4
          have hS := shiftL lf 8 lf h4 v _ (by omega) (by omega) (by simp; omega) n4 (st3.keep k4 hidb) (fun z => (f4 _ z).elim hidb (fun y => by have := st3.lt; omega))
          rw [show (((8 : Nat) : Int) * 8 - 8) = 56 from rfl] at hS
          refine To3.bind3 hS ?_
          rintro x vs h5 ⟨rfl, b', ms', rfl, q, n5⟩
          simp only [decide_true, cB_true, castCons_cons, castNil_nil]
          exact ih (k + 1) f h5 b' ms' (by omega) (by omega) (by simp at q; omega) n5
        · have e : (rs[k].k == 1) = false := by simp [c1]
          rw [e, cB_false]
          have hs100 : rs[k].s.length ≤ 100 := by
            unfold fP at hfP
            rw [if_neg c0, if_neg c1] at hfP
            by_cases c2 : rs[k].k = 2
            · rw [if_pos c2, Bool.and_eq_true] at hfP
              simpa using hfP.2
            · rw [if_neg c2] at hfP; cases hfP
          refine putB n3 _ (by omega) ?_
          intro v h4 n4 k4 f4
          have st4 := st3.keep k4 hidb
          have f2 := st4.faddr 2 0 0
          have l2 : er (.load1 (.c (.ptr h.length 0 2))) h4 = some (.str rs[k].s) := st4.load1 rfl
          simp only [Nat.zero_add] at f2
          rw [f2, bind1_some, l2, bind1_some, castStr_str]
          refine To3.bind2 (toBytes_any rs[k].s) ?_
          rintro t h5 ⟨s5, a5, k5, -⟩
          refine To3.bind2 (bslice_to (ps := [(0, .int .u8 0)]) (es := bv [0]) (by decide) rfl rfl rfl) ?_
          rintro o h6 ⟨-, -, s6, -, k6, -⟩
          refine To3.bind2 (bslice_to (ps := [(0, .int .u8 0), (1, .int .u8 255)]) (es := bv [0, 255]) (by decide) rfl rfl rfl) ?_
          rintro nv h7 ⟨-, -, s7, -, k7, -⟩
          refine To3.bind2 (repl26 (by omega) (by rw [bys_len]; exact hs100) ((s5.kp k6).kp k7) (s6.kp k7) s7) ?_
          rintro y h8 ⟨k8, os, ho, s8⟩
          have n8 := n4.keep (((k5.tr k6).tr k7).tr k8)
          have hr : roomMax = 140737488355328 := rfl
          refine To3.bind2 (app_to (bytes := 1) n8.1 n8.2.1 s8.c (by rw [bv_length, bv_length, hr]; simp; omega)) ?_
          rintro w h9 ⟨s9, a9, k9, f9⟩
          have n9 : New h0 (bv (ms ++ [32]) ++ bv os) w h9 := n8.beh ⟨s9, a9, k9, f9⟩
          rw [← bv_append] at n9
          refine To3.bind2 (bslice_to (ps := [(0, .int .u8 0), (1, .int .u8 0)]) (es := bv [0, 0]) (by decide) rfl rfl rfl) ?_
          rintro z h10 ⟨-, -, s10, -, k10, -⟩
          have n10 := n9.keep k10
          refine To3.bind2 (app_to (bytes := 1) n10.1 n10.2.1 s10.c (by rw [bv_length, bv_length, hr]; simp; omega)) ?_
          rintro q h11 ⟨s11, a11, k11, f11⟩
          have n11 : New h0 (bv (ms ++ [32] ++ os) ++ bv [0, 0]) q h11 := n10.beh ⟨s11, a11, k11, f11⟩
          rw [← bv_append] at n11
          exact ih (k + 1) f h11 q _ (by omega) (by omega) (by simp; omega) n11

theorem key16 {lf : Nat} (hlf : 300 < lf) {h : List Ob} {row : V} {rs : List R} (s : Sl 3 h row (rows rs)) (hl : rs.length ≤ 50) :
    To2 (F16 lf row h) fun v h' => Kp h h' [] ∧ ((∃ b ms, v = .tup [b, .int .i64 0] ∧ New h (bv ms) b h') ∨ (v = .tup [.nils, .int .i64 1] ∧ ∃ r, r ∈ rs ∧ fP r = false)) := by
  have hL := keyL lf hlf s hl rs.length 0 lf h .nils [] (by omega) (by omega) (by simp) ⟨Sl.nils _ _, Ap.nils, Kp.refl _ _, fun j hj => by cases hj⟩
  have z : ((0 : Nat) : Int) = 0 := rfl
  rw [z] at hL
  simp only [F16, er_lenL s, rows_len, bind1_some, castInt_int]
  refine To2.bind3 hL ?_
  rintro x vs h1 ⟨k1, ⟨rfl, b, ms, rfl, n⟩ | ⟨rfl, rfl, q⟩⟩
  · simp only [decide_true, cB_true, castCons_cons, castNil_nil]
    exact To2.some ⟨k1, .inl ⟨b, ms, rfl, n⟩⟩
  · simp only [show decide (EX.ret = EX.exit 0) = false from rfl, cB_false, decide_true, cB_true, castCons_cons, castInt_int, castNil_nil]
    exact To2.some ⟨k1, .inr ⟨rfl, q⟩⟩

/-! ### Bags -/
theorem new11 {lf : Nat} {h : List Ob} : To2 (F11 lf h) fun v h' => v = .ptr h.length 0 0 ∧ St h' h.length [.nilm] ∧ Kp h h' [] := by
  have eb : er (.build [.nilm] []) h = some (.agg [.nilm]) := rfl
  simp only [F11, eb, bind1_some, castAgg_agg, castCons_cons, castNil_nil]
  refine To2.bind2 (box_to (cs := [.nilm]) rfl) ?_
  rintro v h1 ⟨rfl, st, k⟩
  exact To2.some ⟨rfl, st, k⟩
theorem ptr_nil {h : List Ob} {id : Nat} {cs : List V} (s : St h id cs) (i j : Nat) : er (.eq false .ptr (.c (.ptr id i j)) (.c V.nilp)) h = some (.bool false) := by
  simp [er, ev, evOq, x_eq, getC, evEq, isNil, s.alive]
theorem ptr_nen {h : List Ob} {id : Nat} {cs : List V} (s : St h id cs) (i j : Nat) : er (.eq true .ptr (.c (.ptr id i j)) (.c V.nilp)) h = some (.bool true) := by
  simp [er, ev, evOq, x_eq, getC, evEq, isNil, s.alive]
theorem nil_nil (h : List Ob) : er (.eq false .ptr (.c V.nilp) (.c V.nilp)) h = some (.bool true) := rfl

/-- A map with nothing. -/
def Em (h : List Ob) (id : Nat) : Prop := h[id]? = some (.map [] 0)
theorem Em.lt {h : List Ob} {id : Nat} (q : Em h id) : id < h.length := (List.getElem?_eq_some_iff.1 q).1
theorem Em.keep {h h' : List Ob} {id : Nat} {A : List Nat} (q : Em h id) (k : Kp h h' A) (hn : id ∉ A) : Em h' id := by
  show h'[id]? = _
  rw [k.same id q.lt hn]; exact q
theorem mkEm (h : List Ob) : To2 (ev .mkmap h) fun v h' => v = .mp h.length ∧ Em h' h.length ∧ Kp h h' [] := by
  have e : ev .mkmap h = some (.mp h.length, h ++ [.map [] 0]) := rfl
  rw [e]
  exact To2.some ⟨rfl, by simp [Em], by simp, fun j hj _ => by rw [List.getElem?_append_left hj]⟩
theorem put18 {lf : Nat} {h : List Ob} {id : Nat} {key : List UInt8} {rid : Nat} {r : R} (st : St h id [.nilm]) (s : Sl 3 h (.hsl rid 0 1) (rows [r])) :
    To2 (F18 lf (.ptr id 0 0) key (.hsl rid 0 1) 2 h) fun v h' => v = .tup [] ∧ ∃ mid e, St h' id [.mp mid] ∧ h'[mid]? = some (.map [e] 1) ∧ Kp h h' [id] := by
  have nk := st.nilck 0 0
  have fa := st.faddr 0 0 0
  have l : er (.load1 (.c (.ptr id 0 0))) h = some .nilm := st.load1 rfl
  have em : er (.eq false .map (.c V.nilm) (.c V.nilm)) h = some (.bool true) := rfl
  simp only [Nat.zero_add] at fa
  simp only [F18, S18_0, show ((2 : Int) == 0) = false from rfl, cB_false, nk, fa, l, bind1_some, em, castBool_bool, cB_true]
  refine To2.bind3 (Q := fun x vs h' => x = .normal ∧ vs = [] ∧ ∃ mid, St h' id [.mp mid] ∧ Em h' mid ∧ h.length ≤ mid ∧ Kp h h' [id]) ?_ ?_
  · refine To3.bind2 (mkEm h) ?_
    rintro v h1 ⟨rfl, e1, k1⟩
    have st1 := st.kp k1
    have nk1 := st1.nilck 0 0
    have fa1 := st1.faddr 0 0 0
    simp only [Nat.zero_add] at fa1
    simp only [nk1, fa1, bind1_some]
    refine To3.bind2 (st1.store1 (j := 0) (x := .mp h.length) (by simp) ⟨rfl, rfl⟩) ?_
    rintro u h2 ⟨st2, k2⟩
    have hlt := st.lt
    exact To3.some ⟨rfl, rfl, h.length, st2, e1.keep k2 (by simp; omega), Nat.le_refl _, k1.trans k2 (fun j hj => by cases hj) (fun j hj _ => hj)⟩
  · rintro x vs h2 ⟨rfl, rfl, mid, st2, e2, hm, k2⟩
    have nk2 := st2.nilck 0 0
    have fa2 := st2.faddr 0 0 0
    have l2 : er (.load1 (.c (.ptr id 0 0))) h2 = some (.mp mid) := st2.load1 rfl
    simp only [Nat.zero_add] at fa2
    have hrid : rid ≠ id := by
      intro q
      subst q
      have c := s.c
      have st' := st
      unfold St at st'
      simp [conts, st'] at c
    have s2 : Sl 3 h2 (.hsl rid 0 1) (rows [r]) := s.keep k2 (fun j hj z => by simp [idsOf] at hj z; exact hrid (hj ▸ z))
    have al : aliveB h2 rid = true := by
      have c := s2.c
      simp only [conts] at c
      split at c
      · rename_i ds q hob
        simp [aliveB, hob]
      · cases c
    have es : er (.eq false .slice (.c (.hsl rid 0 1)) (.c V.nils)) h2 = some (.bool false) := by simp [er, ev, evOq, x_eq, getC, evEq, isNil, al]
    have hr : roomMax = 140737488355328 := rfl
    simp only [decide_true, cB_true, castNil_nil, nk2, fa2, l2, bind1_some]
    refine To2.bind2 (Q := fun v h' => Kp h2 h' [] ∧ v.cells = [v] ∧ v.scalar = true) ?_ ?_
    · simp only [F15, es, bind1_some, castBool_bool, cB_false]
      refine To2.bind2 (bslice_to (len := 0) (ps := []) (es := []) (by decide) rfl rfl rfl) ?_
      rintro x h3 ⟨-, -, sx, ax, k3, fx⟩
      refine To2.bind2 (app_to (bytes := 32) sx ax (s2.kp k3).c (by simp [hr, rows])) ?_
      rintro y h4 ⟨sy, ay, k4, fy⟩
      refine To2.some ⟨k3.trans k4 (fun j hj => by cases hj) (fun j hj hlt => by have := fx j hj; omega), ?_⟩
      rcases ay with rfl | rfl | ⟨a, b, c, rfl⟩ <;> exact ⟨rfl, rfl⟩
    · rintro y h3 ⟨k3, cy, sy⟩
      have st3 := st2.kp k3
      have nk3 := st3.nilck 0 0
      have fa3 := st3.faddr 0 0 0
      have l3 : er (.load1 (.c (.ptr id 0 0))) h3 = some (.mp mid) := st3.load1 rfl
      simp only [Nat.zero_add] at fa3
      rw [reP_pos _ l3, reP_pos _ fa3, reP_pos _ nk3]
      have eb : er (.build [.nils, (.int .i64 0)] [(0, (1, (.c y))), (1, (1, (.c (.int .i64 2))))]) h3 = some (.agg [y, .int .i64 2]) := by
        cases y <;> first | rfl | (simp [V.scalar] at sy)
      simp only [eb, bind1_some, castAgg_agg, castCons_cons, castInt_int, castNil_nil]
      have e3 := e2.keep k3 (by simp)
      have eu : ev (.mapupd .s (.c (.mp mid)) (.c (.str key)) (.c (.agg [y, .int .i64 2]))) h3 = some (.tup [], h3.set mid (.map [(.str key, .agg [y, .int .i64 2], 0)] 1)) := by
        unfold Em at e3
        simp only [ev, evOq, x_mapupd, EO.get, evMapUpd, e3, findV, Option.map_some]
        rfl
      rw [eu, bind2_some]
      have hmid := e3.lt
      have hlt := st.lt
      refine To2.some ⟨rfl, mid, _, st3.keep (Kp.set h3 mid _) (by simp; omega), List.getElem?_set_self hmid, ?_⟩
      exact (k2.trans k3 (fun j hj _ => hj) (fun j hj => by cases hj)).trans (Kp.set h3 mid _) (fun j hj _ => hj) (fun j hj hlt => by simp at hj; omega)

theorem awake4 {lf : Nat} (hlf : 300 < lf) {h : List Ob} : To2 (F4 lf h) fun v h' => v = .bool true ∧ Kp h h' [] := by
  simp only [F4]
  refine To2.bind2 new11 ?_
  rintro p h1 ⟨rfl, st1, k1⟩
  have eb : er (.build [(.int .i64 0), (.int .i64 0), (.str [])] [(0, (1, (.c (.int .i64 (1))))), (1, (1, (.c (.int .i64 (1)))))]) h1 = some (.agg (rC ⟨1, 1, []⟩)) := rfl
  simp only [ptr_nen st1, bind1_some, castBool_bool, cB_true, eb, castAgg_agg, castCons_cons, castInt_int, castStr_str, castNil_nil]
  refine To2.bind2 (bslice_to (ps := [(0, .agg (rC ⟨1, 1, []⟩))]) (es := rows [⟨1, 1, []⟩]) (by decide) rfl rfl rfl) ?_
  rintro x h2 ⟨rfl, -, sx, -, k2, -⟩
  have st2 := st1.kp k2
  refine To2.bind2 (Q := fun v h' => v = .int .i64 0 ∧ ∃ mid e, St h' h.length [.mp mid] ∧ h'[mid]? = some (.map [e] 1) ∧ Kp h h' []) ?_ ?_
  · simp only [F6, ptr_nil st2, bind1_some, castBool_bool, cB_false]
    refine To2.bind2 (key16 hlf sx (by simp)) ?_
    rintro v h3 ⟨k3, ⟨b, ms, rfl, n3⟩ | ⟨-, r, hr, hf⟩⟩
    · have st3 := st2.kp k3
      have nk3 := st3.nilck 0 0
      have fa3 := st3.faddr 0 0 0
      have l3 : er (.load1 (.c (.ptr h.length 0 0))) h3 = some .nilm := st3.load1 rfl
      have elk : ∀ key, er (.lookup .s (.agg [.nils, (.int .i64 0)]) false (.c .nilm) (.c (.str key))) h3 = some (.agg [.nils, .int .i64 0]) := fun key => rfl
      have eF : F17 lf 0 2 h3 = some (.tup [.int .i64 2, .bool true], h3) := rfl
      simp only [Nat.zero_add] at fa3
      simp only [castTup_tup, castCons_cons, castInt_int, castNil_nil, bne_self_eq_false, cB_false, nk3, fa3, l3, bind1_some, er_toStr n3.1, castStr_str, elk, castAgg_agg, eF, bind2_some, castBool_bool, Bool.not_true]
      refine To2.bind2 (put18 st3 (sx.kp k3)) ?_
      rintro u h4 ⟨rfl, mid, e, st4, e4, k4⟩
      have hlt := k1.len
      exact To2.some ⟨rfl, mid, e, st4, e4, ((k1.tr k2).tr k3).trans k4 (fun j hj => by cases hj) (fun j hj hl => by simp at hj; omega)⟩
    · simp only [List.mem_cons, List.not_mem_nil, or_false] at hr
      subst hr
      exact absurd hf (by decide)
  · rintro v h3 ⟨rfl, mid, e, st3, e3, k3⟩
    have nk3 := st3.nilck 0 0
    have fa3 := st3.faddr 0 0 0
    have l3 : er (.load1 (.c (.ptr h.length 0 0))) h3 = some (.mp mid) := st3.load1 rfl
    have el : er (.lenM (.c (.mp mid))) h3 = some (.int .i64 1) := by
      simp [er, ev, evOq, x_lenM, EO.get, evLenM, e3]
    simp only [Nat.zero_add] at fa3
    simp only [castInt_int, beq_self_eq_true, cB_true, F8, ptr_nil st3, bind1_some, castBool_bool, cB_false, nk3, fa3, l3, el, bind2_some]
    exact To2.some ⟨rfl, k3⟩

theorem count7 {lf : Nat} (hlf : 300 < lf) {h : List Ob} {row : V} {rs : List R} (s : Sl 3 h row (rows rs)) (hl : rs.length ≤ 50) : To2 (F7 lf .nilp row h) fun v h' => v = .int .i64 0 ∧ Kp h h' [] := by
  simp only [F7]
  refine To2.bind2 (key16 hlf s hl) ?_
  rintro v h1 ⟨k1, r⟩
  obtain ⟨b, e, rfl⟩ : ∃ b e, v = .tup [b, .int .i64 e] := by
    rcases r with ⟨b, ms, rfl, -⟩ | ⟨rfl, -⟩
    · exact ⟨_, _, rfl⟩
    · exact ⟨_, _, rfl⟩
  have hS : S7_0 lf .nilp e h1 = some (.ret, [.int .i64 0], h1) := by
    simp only [S7_0, nil_nil, bind1_some, castBool_bool, cB_true]
  simp only [castTup_tup, castCons_cons, castInt_int, castNil_nil, hS, bind3_some, decide_true, cB_true]
  exact To2.some ⟨rfl, k1⟩
theorem entries9 {lf : Nat} (hlf : 300 < lf) {h : List Ob} {id : Nat} (st : St h id [.nilm]) : To2 (F9 lf (.ptr id 0 0) h) fun v h' => v = .nils ∧ Kp h h' [] := by
  have nk := st.nilck 0 0
  have fa := st.faddr 0 0 0
  have l : er (.load1 (.c (.ptr id 0 0))) h = some .nilm := st.load1 rfl
  simp only [Nat.zero_add] at fa
  have er1 : ev (.rangeM (.c .nilm)) h = some (.ptr h.length 0 0, h ++ [.miter none 0 [] 0]) := rfl
  have en : evNextM (h ++ [.miter none 0 [] 0]) (.ptr h.length 0 0) = some [(.tup [.bool false], h ++ [.miter none 0 [] 0])] := by
    simp [evNextM]
  have ex : er (.ext 0 (.c (.tup [.bool false]))) (h ++ [.miter none 0 [] 0]) = some (.bool false) := er_ext rfl
  obtain ⟨g, rfl⟩ : ∃ g, lf = g + 1 := ⟨lf - 1, by omega⟩
  generalize hlf' : g + 1 = lf
  have eL : L9_0 lf lf .nils (.ptr h.length 0 0) (h ++ [.miter none 0 [] 0]) = some (.exit 0, [.nils], h ++ [.miter none 0 [] 0]) := by
    rw [show L9_0 lf lf = L9_0 lf (g + 1) by rw [hlf']]
    simp only [L9_0, B9_0, en, one2, ex, bind1_some, castBool_bool, cB_false]
  have e27 : ∀ cv limit h', F27 lf cv .nils 0 0 limit (.fn 20 []) h' = some (.tup [], h') := by
    intro cv limit h'
    have e32 : F32 lf cv .nils 0 0 (.fn 20 []) h' = some (.tup [], h') := by
      have : L32_2 lf cv lf .nils 0 0 (.fn 20 []) 1 h' = some (.exit 0, [], h') := by
        rw [show L32_2 lf cv lf = L32_2 lf cv (g + 1) by rw [hlf']]
        rfl
      have w : IntKind.i64.wrap (0 + 1) = 1 := by decide
      simp only [F32, w, this, bind3_some, decide_true, cB_true, castNil_nil]
    have : L27_5 lf cv lf .nils 0 0 limit (.fn 20 []) true true h' = some (.ret, [], h') := by
      rw [show L27_5 lf cv lf = L27_5 lf cv (g + 1) by rw [hlf']]
      have w : decide (IntKind.i64.wrap (0 - 0) ≤ 12) = true := by decide
      simp only [L27_5, B27_5, w, cB_true, e32, bind2_some]
    simp only [F27, this, bind3_some, decide_true, cB_true, castNil_nil]
  have e28 : ∀ h', F28 lf 0 h' = some (.int .i64 0, h') := fun h' => rfl
  have el : er (.lenL (.c .nils)) (h ++ [.miter none 0 [] 0]) = some (.int .i64 0) := rfl
  have w0 : IntKind.u64.wrap 0 = 0 := by decide
  have e19 : F19 lf (cv9 lf) .nils (.fn 20 []) (h ++ [.miter none 0 [] 0]) = some (.tup [], h ++ [.miter none 0 [] 0]) := by
    simp only [F19, el, bind1_some, castInt_int, w0, e28, bind2_some, e27]
  simp only [F9, ptr_nil st, bind1_some, castBool_bool, cB_false, nk, fa, l, er1, bind2_some, eL, bind3_some, decide_true, cB_true, castCons_cons, castNil_nil, e19]
  exact To2.some ⟨rfl, by simp, fun j hj _ => by rw [List.getElem?_append_left hj]⟩
theorem entriesNil {lf : Nat} {h : List Ob} : F9 lf .nilp h = some (.nils, h) := by
  simp only [F9, nil_nil, bind1_some, castBool_bool, cB_true]
theorem same22 {lf : Nat} (hlf : 300 < lf) {cv : CallVS} {h : List Ob} {f : V} : F22 lf cv .nils .nils f h = some (.bool true, h) := by
  obtain ⟨g, rfl⟩ : ∃ g, lf = g + 1 := ⟨lf - 1, by omega⟩
  rfl
theorem joinNil {lf : Nat} {h : List Ob} {c : V} : F10 lf .nilp c 1 h = some (.int .i64 1, h) := by
  have : S10_4 lf .nilp c 1 h = some (.ret, [.int .i64 1], h) := by
    simp only [S10_4, nil_nil, bind1_some, castBool_bool, cB_true]
  simp only [F10, this, bind3_some, decide_true, cB_true, castCons_cons, castInt_int, castNil_nil]
theorem joinNil2 {lf : Nat} {h : List Ob} {id : Nat} {cs : List V} (st : St h id cs) : F10 lf (.ptr id 0 0) .nilp 1 h = some (.int .i64 1, h) := by
  have : S10_4 lf (.ptr id 0 0) .nilp 1 h = some (.ret, [.int .i64 1], h) := by
    simp only [S10_4, ptr_nil st, nil_nil, bind1_some, castBool_bool, cB_false, cB_true]
  simp only [F10, this, bind3_some, decide_true, cB_true, castCons_cons, castInt_int, castNil_nil]

theorem law3 {lf : Nat} (hlf : 300 < lf) {h : List Ob} {row : V} {rs : List R} {n : Int} (s : ∀ h, Sl 3 h row (rows rs)) (hlr : rs.length ≤ 9223372036854775807) : To2 (F3 lf row n h) fun v _ => v = .bool true := by
  simp only [F3]
  refine To2.bind3 (Q := fun x vs h' => (x = .ret ∧ vs = [.bool true]) ∨ (x = .normal ∧ vs = [] ∧ rs.length ≤ 50)) ?_ ?_
  · simp only [S3_0]
    refine To3.bind2 (awake4 hlf) ?_
    rintro u h1 ⟨rfl, -⟩
    simp only [castBool_bool, Bool.not_true, cB_false, er_lenL (s h1), rows_len, bind1_some, castInt_int]
    by_cases q : (rs.length : Int) > 50
    · rw [decide_eq_true q, cB_true]
      refine To3.bind2 (awake4 hlf) ?_
      rintro u h2 ⟨rfl, -⟩
      simp only [castBool_bool]
      exact To3.some (.inl ⟨rfl, rfl⟩)
    · rw [decide_eq_false q, cB_false]
      exact To3.some (.inr ⟨rfl, rfl, by omega⟩)
  · rintro x vs h1 (⟨rfl, rfl⟩ | ⟨rfl, rfl, hl⟩)
    · simp only [decide_true, cB_true, castCons_cons, castBool_bool, castNil_nil]
      exact To2.some rfl
    · have e5 : F5 lf .nilp h1 = some (.tup [.nils, .int .i64 1], h1) := by
        simp only [F5, nil_nil, bind1_some, castBool_bool, cB_true]
      have e6 : F6 lf .nilp row n h1 = some (.int .i64 1, h1) := by
        simp only [F6, nil_nil, bind1_some, castBool_bool, cB_true]
      simp only [show decide (EX.normal = EX.ret) = false from rfl, cB_false, decide_true, cB_true, castNil_nil, e5, bind2_some, castTup_tup, castCons_cons, castInt_int, e6, beq_self_eq_true]
      refine To2.bind2 (count7 hlf (s h1) hl) ?_
      rintro v h2 ⟨rfl, -⟩
      have e8 : F8 lf .nilp h2 = some (.int .i64 0, h2) := by
        simp only [F8, nil_nil, bind1_some, castBool_bool, cB_true]
      have el : er (.lenL (.c .nils)) h2 = some (.int .i64 0) := rfl
      simp only [castInt_int, beq_self_eq_true, cB_true, e8, bind2_some, entriesNil, el, bind1_some]
      refine To2.bind2 new11 ?_
      rintro p h3 ⟨rfl, st3, -⟩
      simp only [joinNil, bind2_some, castInt_int, beq_self_eq_true, cB_true]
      refine To2.bind2 new11 ?_
      rintro p h4 ⟨rfl, st4, -⟩
      simp only [joinNil2 st4, bind2_some, castInt_int, beq_self_eq_true, cB_true]
      refine To2.bind2 new11 ?_
      rintro p h5 ⟨rfl, st5, -⟩
      refine To2.bind2 (Q := fun v _ => v = .bool true) ?_ ?_
      · simp only [F12, entriesNil, bind2_some]
        refine To2.bind2 (entries9 hlf st5) ?_
        rintro v h6 ⟨rfl, -⟩
        simp only [same22 hlf, bind2_some, castBool_bool]
        exact To2.some rfl
      · rintro v h6 rfl
        simp only [castBool_bool, cB_true]
        refine To2.bind2 new11 ?_
        rintro p h7 ⟨rfl, st7, -⟩
        refine To2.bind2 (Q := fun v _ => v = .bool true) ?_ ?_
        · simp only [F12]
          refine To2.bind2 (entries9 hlf st7) ?_
          rintro v h8 ⟨rfl, -⟩
          simp only [entriesNil, same22 hlf, bind2_some, castBool_bool]
          exact To2.some rfl
        · rintro v h8 rfl
          simp only [castBool_bool]
          exact To2.some rfl
end Go.Proofs.YtbjphicipgneaaaDoor.Bn
