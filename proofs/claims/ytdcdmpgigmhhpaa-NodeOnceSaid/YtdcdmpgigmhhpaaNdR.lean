/- Nodes: both ways of writing come to the same. No condition. -/
import Derived.Test.YtdcdmpgigmhhpaaNdQ
namespace Go.Proofs.Ytdcdmpgigmhhpaa.Nd
open Go Go.Proofs.Ytdcdmpgigmhhpaa.E
open Go.Proofs.Ytdcdmpgigmhhpaa.Va Go.Proofs.Ytdcdmpgigmhhpaa.Rc
set_option maxRecDepth 100000
set_option linter.unusedVariables false
set_option linter.unusedSimpArgs false

theorem pc_len (p : List Int) : (pc p).length ≤ p.length + 10 := by
  have := numB_len p.length
  simp only [pc, List.length_append]; omega
theorem piece84 {lf : Nat} (hf : 20 < lf) {h : List Ob} {b p : V} {bs ps : List Int} (sb : Sl 1 h b (bv bs)) (sp : Sl 1 h p (bv ps)) (h1 : ps.length ≤ 10000000) (h2 : bs.length ≤ 100000000000000) : To2 (F84 lf b p h) (New h (bv (bs ++ pc ps))) := by
  have hr : roomMax = 140737488355328 := rfl
  have ew : IntKind.u64.wrap (ps.length : Int) = ((ps.length : Nat) : Int) := by rw [wrap_u64]; omega
  simp only [F84, er_lenL sp, bv_length, bind1_some, castInt_int, ew]
  refine To2.bind2 (app26 hf sb (n := ps.length) (by omega) (by omega)) ?_
  intro x h3 n1
  have hn := numB_len ps.length
  refine To2.bind2 (app_to n1.1 n1.2.1 (sp.kp n1.2.2.1).c (by simp; omega)) ?_
  intro y h4 q
  have n2 := New.beh n1 q
  rw [← bv_append] at n2
  refine To2.some ?_
  simpa [pc] using n2
theorem piece85 {lf : Nat} (hf : 20 < lf) {h : List Ob} {p : V} {ps : List Int} (sp : Sl 1 h p (bv ps)) (h1 : ps.length ≤ 10000000) : To2 (F85 lf p h) (New h (bv (pc ps))) := by
  have hr : roomMax = 140737488355328 := rfl
  have ew : IntKind.u64.wrap (ps.length : Int) = ((ps.length : Nat) : Int) := by rw [wrap_u64]; omega
  simp only [F85, er_lenL sp, bv_length, bind1_some, castInt_int, ew]
  refine To2.bind2 (num27 hf (n := ps.length) (by omega)) ?_
  intro x h3 n1
  have hn := numB_len ps.length
  refine To2.bind2 (app_to n1.1 n1.2.1 (sp.kp n1.2.2.1).c (by simp; omega)) ?_
  intro y h4 q
  have n2 := New.beh n1 q
  rw [← bv_append] at n2
  exact To2.some n2

/-- Read again. -/
theorem iaddr_kp {sz : Nat} {h h' : List Ob} {v : V} {es : List V} (s : Sl sz h v es) (k : Kp h h' []) (n : Int) : er (.iaddrL sz (.c v) (.c (.int .i64 n))) h' = er (.iaddrL sz (.c v) (.c (.int .i64 n))) h := by
  cases v with
  | hsl i o l =>
    have hsame := k.same i (s.lt (by simp [idsOf])) (by simp)
    simp only [er, ev, evOq, x_iaddrL, getC, evIaddrL, hsame]
    split
    · cases h[i]? with
      | none => rfl
      | some o => cases o <;> first | rfl | (simp only; split <;> rfl)
    · rfl
  | sl fs =>
    simp only [er, ev, evOq, x_iaddrL, getC, evIaddrL, Option.map_map]
    rfl
  | _ => rfl
theorem again1 {h h' : List Ob} {v : V} {es : List V} (s : Sl 1 h v es) (k : Kp h h' []) {n : Nat} {a x e : V} (he : es[n]? = some e) (hc : e.cells = [e]) (a1 : er (.iaddrL 1 (.c v) (.c (.int .i64 (n : Int)))) h = some a) (a2 : er (.load1 (.c a)) h = some x) :
    er (.iaddrL 1 (.c v) (.c (.int .i64 (n : Int)))) h' = some a ∧ er (.load1 (.c a)) h' = some x := by
  obtain ⟨c, y1, y2⟩ := s.at1 (k := (n : Int)) (e := e) (by omega) he hc
  rw [a1] at y1; injection y1 with y1; subst y1
  rw [a2] at y2; injection y2 with y2; subst y2
  obtain ⟨c', z1, z2⟩ := (s.kp k).at1 (k := (n : Int)) (e := x) (by omega) he hc
  have e1 := iaddr_kp s k (n : Int)
  rw [e1, a1] at z1; injection z1 with z1; subst z1
  exact ⟨by rw [e1, a1], z2⟩
theorem SS.again {h h' : List Ob} {v : V} {ks : List (List Int)} (s : SS h v ks) (k : Kp h h' []) {n : Nat} (hn : n < ks.length) {a x : V} (a1 : er (.iaddrL 1 (.c v) (.c (.int .i64 (n : Int)))) h = some a) (a2 : er (.load1 (.c a)) h = some x) :
    er (.iaddrL 1 (.c v) (.c (.int .i64 (n : Int)))) h' = some a ∧ er (.load1 (.c a)) h' = some x := by
  obtain ⟨es, w1, w2, w3⟩ := s
  obtain ⟨ee, q1, q2⟩ := w3 n hn
  exact again1 w1 k q1 q2.cells a1 a2
theorem zip_drop {α β : Type} {a : List α} {b : List β} {k : Nat} (h1 : k < a.length) (h2 : k < b.length) : (a.zip b).drop k = (a[k], b[k]) :: (a.zip b).drop (k + 1) := by
  rw [List.drop_eq_getElem_cons (by simp; omega)]
  simp
theorem getD_eq {ks : List (List Int)} {k : Nat} (h : k < ks.length) : ks.getD k [] = ks[k] := by
  simp [List.getD_eq_getElem?_getD, List.getElem?_eq_getElem h]

theorem leaf65L (lf : Nat) (hf0 : 20 < lf) {h0 : List Ob} {K W D : V} {id : Nat} {n : N} (st : St h0 id (nC n K W D)) (s : NR h0 K W D n) (sm : small n) (he : n.vals.length = n.keys.length) : ∀ (m k f : Nat) (h : List Ob) (b : V) (bs : List Int), n.keys.length = k + m → m < f → New h0 (bv bs) b h → bs.length + m * 3000000 ≤ 10000000000000 →
    To3 (L65_0 lf f (.ptr id 0 0) b K n.keys.length k h) fun x vs h' => ∃ w, x = .exit 0 ∧ vs = [w] ∧ New h0 (bv (bs ++ ((n.keys.zip n.vals).drop k).flatMap cellL)) w h' := by
  intro m
  induction m with
  | zero =>
    intro k f h b bs hk hf nb hb
    obtain ⟨f, rfl⟩ : ∃ g, f = g + 1 := ⟨f - 1, by omega⟩
    have e : (n.keys.zip n.vals).drop k = [] := List.drop_of_length_le (by simp; omega)
    have hd : decide ((k : Int) < (n.keys.length : Int)) = false := decide_eq_false (by omega)
    simp only [L65_0, B65_0, hd, cB_false, e]
    exact To3.some ⟨b, rfl, rfl, by simpa using nb⟩
  | succ m ih =>
    intro k f h b bs hk hf nb hb
    obtain ⟨f, rfl⟩ : ∃ g, f = g + 1 := ⟨f - 1, by omega⟩
    have hlt : k < n.keys.length := by omega
    have hlt2 : k < n.vals.length := by omega
    have hb1 := sm.1
    have hd : decide ((k : Int) < (n.keys.length : Int)) = true := decide_eq_true (by omega)
    have kb := nb.2.2.1
    have st1 := st.kp kb
    have s1 := s.kp kb
    obtain ⟨a, e, a1, a2, se⟩ := s1.k.at_ (k := (k : Int)) rfl hlt
    obtain ⟨c, e', c1, c2, se'⟩ := s1.w.at_ (k := (k : Int)) rfl hlt2
    have f2 := st1.faddr 2 0 0
    have l2 : er (.load1 (.c (.ptr id 0 2))) h = some W := st1.load1 rfl
    simp only [Nat.zero_add] at f2
    have hw : IntKind.i64.wrap ((k : Int) + 1) = ((k + 1 : Nat) : Int) := by rw [wrap_i64 (by omega) (by omega)]; simp
    have g1 := sm.2.2.2.1 _ (getD_mem hlt)
    have g2 := sm.2.2.2.2 _ (getD_mem hlt2)
    simp only [L65_0, B65_0, hd, cB_true, a1, a2, f2, l2, c1, c2, bind1_some]
    refine To3.bind2 (piece84 hf0 nb.1 se (by omega) (by omega)) ?_
    intro x h3 n3
    have st3 := st1.kp n3.2.2.1
    have f2' := st3.faddr 2 0 0
    have l2' : er (.load1 (.c (.ptr id 0 2))) h3 = some W := st3.load1 rfl
    simp only [Nat.zero_add] at f2'
    -- what was read is there still
    have cc := SS.again s1.w n3.2.2.1 hlt2 c1 c2
    rw [reP_pos _ cc.2, reP_pos _ cc.1, reP_pos _ l2', reP_pos _ f2']
    have lp := pc_len (n.keys.getD k [])
    have nx := New.after kb n3
    refine To3.bind2 (piece84 hf0 n3.1 (se'.kp n3.2.2.1) (by omega) (by simp only [List.length_append]; omega)) ?_
    intro y h4 n4
    have ny : New h0 _ y h4 := New.after nx.2.2.1 n4
    simp only [hw]
    have lq := pc_len (n.vals.getD k [])
    have := ih (k + 1) f h4 y _ (by omega) (by omega) ny (by simp only [List.length_append]; omega)
    refine this.mono ?_
    rintro x vs h5 ⟨w, rfl, rfl, nw⟩
    refine ⟨w, rfl, rfl, ?_⟩
    rw [zip_drop hlt hlt2]
    simp only [List.flatMap_cons, cellL, getD_eq hlt, getD_eq hlt2] at nw ⊢
    simpa only [List.append_assoc] using nw

theorem inner65L (lf : Nat) (hf0 : 20 < lf) {h0 : List Ob} {K W D : V} {id : Nat} {n : N} (st : St h0 id (nC n K W D)) (s : NR h0 K W D n) (sm : small n) (he : n.kids.length = n.keys.length + 1) (hk0 : ∀ k, k ∈ n.kids → 1 ≤ k ∧ k < 10000) : ∀ (m k f : Nat) (h : List Ob) (b : V) (bs : List Int), n.keys.length = k + m → m < f → New h0 (bv bs) b h → bs.length + m * 3000000 ≤ 10000000000000 →
    To3 (L65_1 lf f (.ptr id 0 0) b K n.keys.length k h) fun x vs h' => ∃ w, x = .exit 2 ∧ vs = [w] ∧ New h0 (bv (bs ++ ((n.keys.zip n.kids.tail).drop k).flatMap cellI)) w h' := by
  have hr : roomMax = 140737488355328 := rfl
  intro m
  induction m with
  | zero =>
    intro k f h b bs hk hf nb hb
    obtain ⟨f, rfl⟩ : ∃ g, f = g + 1 := ⟨f - 1, by omega⟩
    have e : (n.keys.zip n.kids.tail).drop k = [] := List.drop_of_length_le (by simp; omega)
    have hd : decide ((k : Int) < (n.keys.length : Int)) = false := decide_eq_false (by omega)
    simp only [L65_1, B65_1, hd, cB_false, e]
    exact To3.some ⟨b, rfl, rfl, by simpa using nb⟩
  | succ m ih =>
    intro k f h b bs hk hf nb hb
    obtain ⟨f, rfl⟩ : ∃ g, f = g + 1 := ⟨f - 1, by omega⟩
    have hlt : k < n.keys.length := by omega
    have hlt2 : k + 1 < n.kids.length := by omega
    have hlt3 : k < n.kids.tail.length := by simp; omega
    have hb1 := sm.1
    have hd : decide ((k : Int) < (n.keys.length : Int)) = true := decide_eq_true (by omega)
    have kb := nb.2.2.1
    have st1 := st.kp kb
    have s1 := s.kp kb
    obtain ⟨a, e, a1, a2, se⟩ := s1.k.at_ (k := (k : Int)) rfl hlt
    obtain ⟨c, c1, c2⟩ := kid_at s1.d hlt2
    have f3 := st1.faddr 3 0 0
    have l3 : er (.load1 (.c (.ptr id 0 3))) h = some D := st1.load1 rfl
    simp only [Nat.zero_add] at f3
    have hw : IntKind.i64.wrap ((k : Int) + 1) = ((k + 1 : Nat) : Int) := by rw [wrap_i64 (by omega) (by omega)]; simp
    have g1 := sm.2.2.2.1 _ (getD_mem hlt)
    have gd : n.kids.getD (k + 1) 0 = n.kids[k + 1] := by simp [List.getD_eq_getElem?_getD, List.getElem?_eq_getElem hlt2]
    have gk := hk0 _ (List.getElem_mem hlt2)
    simp only [L65_1, B65_1, hd, cB_true, a1, a2, f3, l3, hw, c1, c2, bind1_some, castInt_int]
    refine To3.bind2 (piece84 hf0 nb.1 se (by omega) (by omega)) ?_
    intro x h3 n3
    have st3 := st1.kp n3.2.2.1
    have f3' := st3.faddr 3 0 0
    have l3' : er (.load1 (.c (.ptr id 0 3))) h3 = some D := st3.load1 rfl
    simp only [Nat.zero_add] at f3'
    have cc := again1 s1.d n3.2.2.1 (iv_get hlt2) rfl c1 c2
    rw [reP_pos _ cc.2, reP_pos _ cc.1, reP_pos _ l3', reP_pos _ f3']
    have lp := pc_len (n.keys.getD k [])
    have nx := New.after kb n3
    have ek : IntKind.u64.wrap (n.kids.getD (k + 1) 0) = ((n.kids[k + 1].toNat : Nat) : Int) := by rw [gd, wrap_u64]; omega
    have lq := numB_len n.kids[k + 1].toNat
    rw [ek]
    refine To3.bind2 (app26 hf0 n3.1 (n := n.kids[k + 1].toNat) (by omega) (by simp only [List.length_append]; omega)) ?_
    intro y h4 n4
    have ny : New h0 _ y h4 := New.after nx.2.2.1 n4
    have := ih (k + 1) f h4 y _ (by omega) (by omega) ny (by simp only [List.length_append]; omega)
    refine this.mono ?_
    rintro x vs h5 ⟨w, rfl, rfl, nw⟩
    refine ⟨w, rfl, rfl, ?_⟩
    rw [zip_drop hlt hlt3]
    simp only [List.flatMap_cons, cellI, getD_eq hlt, List.getElem_tail] at nw ⊢
    simpa only [List.append_assoc] using nw

theorem spell_leaf {n : N} (h : n.leaf = true) : spell n = [1] ++ numB n.keys.length ++ (n.keys.zip n.vals).flatMap cellL := by simp [spell, h]
theorem spell_inner {n : N} (h : n.leaf = false) : spell n = [2] ++ numB n.keys.length ++ numB (n.kids.headD 0).toNat ++ (n.keys.zip n.kids.tail).flatMap cellI := by simp [spell, h]
theorem form_leaf {n : N} (f : formP n) (h : n.leaf = true) : n.kids = [] ∧ n.vals.length = n.keys.length := by
  have := f.2
  rw [if_pos h] at this
  exact ⟨this.1, this.2.1⟩
theorem form_inner {n : N} (f : formP n) (h : n.leaf = false) : 0 < n.keys.length ∧ n.kids.length = n.keys.length + 1 ∧ ∀ k, k ∈ n.kids → 1 ≤ k ∧ k < 10000 := by
  have := f.2
  rw [h] at this
  simp only [Bool.false_eq_true, if_false] at this
  exact ⟨this.1, this.2.2.1, this.2.2.2⟩

theorem headD0 : ∀ (l : List Int) (h : 0 < l.length), l.headD 0 = l[0]
  | x :: xs, _ => rfl
theorem spell65 {lf : Nat} (hf : 2000000 < lf) {h : List Ob} {K W D : V} {n : N} (s : NR h K W D n) (sm : small n) (fm : formP n) : To2 (F65 lf n.leaf K W D h) (New h (bv (spell n))) := by
  have hr : roomMax = 140737488355328 := rfl
  have hb1 := sm.1
  simp only [F65]
  refine To2.bind2 s.box ?_
  rintro p h1 ⟨rfl, st, k1⟩
  have s1 := s.kp k1
  have f0 := st.faddr 0 0 0
  have l0 : er (.load1 (.c (.ptr h.length 0 0))) h1 = some (.bool n.leaf) := st.load1 rfl
  simp only [Nat.zero_add] at f0
  have ew : IntKind.u64.wrap (n.keys.length : Int) = ((n.keys.length : Nat) : Int) := by rw [wrap_u64]; omega
  have hn := numB_len n.keys.length
  have z : ((0 : Nat) : Int) = 0 := rfl
  simp only [f0, l0, bind1_some, castBool_bool]
  cases hleaf : n.leaf with
  | true =>
    obtain ⟨q1, q2⟩ := form_leaf fm hleaf
    simp only [cB_true]
    refine To2.bind2 (bslice_to (ps := [(0, .int .u8 1)]) (es := bv [1]) (by decide) rfl rfl rfl) ?_
    rintro x h2 ⟨-, -, sx, ax, k2, fx⟩
    have st2 := st.kp k2
    have s2 := s1.kp k2
    have f1 := st2.faddr 1 0 0
    have l1 : er (.load1 (.c (.ptr h.length 0 1))) h2 = some K := st2.load1 rfl
    simp only [Nat.zero_add] at f1
    simp only [f1, l1, s2.k.len, bind1_some, castInt_int, ew]
    refine To2.bind2 (app26 (by omega) sx (n := n.keys.length) (by omega) (by simp; omega)) ?_
    intro b h3 nb
    have nb2 : New h2 _ b h3 := nb
    have st3 := st2.kp nb.2.2.1
    have s3 := s2.kp nb.2.2.1
    have f1' := st3.faddr 1 0 0
    have l1' : er (.load1 (.c (.ptr h.length 0 1))) h3 = some K := st3.load1 rfl
    simp only [Nat.zero_add] at f1'
    simp only [f1', l1', s3.k.len, bind1_some, castInt_int]
    have := leaf65L lf (by omega) st2 s2 sm q2 n.keys.length 0 lf h3 b _ (by omega) (by omega) nb2 (by simp; omega)
    rw [z] at this
    refine To2.bind3 this ?_
    rintro x vs h4 ⟨w, rfl, rfl, nw⟩
    simp only [decide_true, cB_true, castCons_cons, castNil_nil]
    rw [List.drop_zero, ← spell_leaf hleaf] at nw
    exact To2.some (New.after (k1.tr k2) nw)
  | false =>
    obtain ⟨q1, q2, q3⟩ := form_inner fm hleaf
    simp only [cB_false]
    refine To2.bind2 (bslice_to (ps := [(0, .int .u8 2)]) (es := bv [2]) (by decide) rfl rfl rfl) ?_
    rintro x h2 ⟨-, -, sx, ax, k2, fx⟩
    have st2 := st.kp k2
    have s2 := s1.kp k2
    have f1 := st2.faddr 1 0 0
    have l1 : er (.load1 (.c (.ptr h.length 0 1))) h2 = some K := st2.load1 rfl
    simp only [Nat.zero_add] at f1
    simp only [f1, l1, s2.k.len, bind1_some, castInt_int, ew]
    refine To2.bind2 (app26 (by omega) sx (n := n.keys.length) (by omega) (by simp; omega)) ?_
    intro b h3 nb
    have st3 := st2.kp nb.2.2.1
    have s3 := s2.kp nb.2.2.1
    have f3 := st3.faddr 3 0 0
    have l3 : er (.load1 (.c (.ptr h.length 0 3))) h3 = some D := st3.load1 rfl
    simp only [Nat.zero_add] at f3
    have hlt : 0 < n.kids.length := by omega
    obtain ⟨c, c1, c2⟩ := kid_at s3.d hlt
    rw [z] at c1
    have gd : n.kids.getD 0 0 = n.kids[0] := by simp [List.getD_eq_getElem?_getD, List.getElem?_eq_getElem hlt]
    have gh : n.kids.headD 0 = n.kids[0] := headD0 _ hlt
    have gk := q3 _ (List.getElem_mem hlt)
    have ek : IntKind.u64.wrap (n.kids.getD 0 0) = ((n.kids[0].toNat : Nat) : Int) := by rw [gd, wrap_u64]; omega
    have lq := numB_len n.kids[0].toNat
    simp only [f3, l3, c1, c2, bind1_some, castInt_int, ek]
    refine To2.bind2 (app26 (by omega) nb.1 (n := n.kids[0].toNat) (by omega) (by simp; omega)) ?_
    intro b2 h4 nb2
    have nb3 : New h2 _ b2 h4 := New.after nb.2.2.1 nb2
    have st4 := st2.kp nb3.2.2.1
    have s4 := s2.kp nb3.2.2.1
    have f1' := st4.faddr 1 0 0
    have l1' : er (.load1 (.c (.ptr h.length 0 1))) h4 = some K := st4.load1 rfl
    simp only [Nat.zero_add] at f1'
    simp only [f1', l1', s4.k.len, bind1_some, castInt_int]
    have := inner65L lf (by omega) st2 s2 sm q2 q3 n.keys.length 0 lf h4 b2 _ (by omega) (by omega) nb3 (by simp; omega)
    rw [z] at this
    refine To2.bind3 this ?_
    rintro x vs h5 ⟨w, rfl, rfl, nw⟩
    simp only [decide_true, cB_true, castCons_cons, castNil_nil]
    rw [List.drop_zero, ← gh, ← spell_inner hleaf] at nw
    exact To2.some (New.after (k1.tr k2) nw)

theorem leaf66L (lf : Nat) (hf0 : 20 < lf) {h0 : List Ob} {K W D : V} {id : Nat} {n : N} (st : St h0 id (nC n K W D)) (s : NR h0 K W D n) (sm : small n) (hleaf : n.leaf = true) (he : n.vals.length = n.keys.length) : ∀ (m k f : Nat) (h : List Ob) (b : V) (bs : List Int), n.keys.length = k + m → m < f → New h0 (bv bs) b h → bs.length + m * 3000000 ≤ 10000000000000 →
    To3 (L66_0 lf f (.ptr id 0 0) b n.keys.length k h) fun x vs h' => ∃ w, x = .exit 0 ∧ vs = [w] ∧ New h0 (bv (bs ++ ((n.keys.zip n.vals).drop k).flatMap cellL)) w h' := by
  have hr : roomMax = 140737488355328 := rfl
  intro m
  induction m with
  | zero =>
    intro k f h b bs hk hf nb hb
    obtain ⟨f, rfl⟩ : ∃ g, f = g + 1 := ⟨f - 1, by omega⟩
    have e : (n.keys.zip n.vals).drop k = [] := List.drop_of_length_le (by simp; omega)
    have hd : decide ((k : Int) < (n.keys.length : Int)) = false := decide_eq_false (by omega)
    simp only [L66_0, B66_0, hd, cB_false, e]
    exact To3.some ⟨b, rfl, rfl, by simpa using nb⟩
  | succ m ih =>
    intro k f h b bs hk hf nb hb
    obtain ⟨f, rfl⟩ : ∃ g, f = g + 1 := ⟨f - 1, by omega⟩
    have hlt : k < n.keys.length := by omega
    have hlt2 : k < n.vals.length := by omega
    have hb1 := sm.1
    have hd : decide ((k : Int) < (n.keys.length : Int)) = true := decide_eq_true (by omega)
    have st1 := st.kp nb.2.2.1
    have s1 := s.kp nb.2.2.1
    obtain ⟨a, e, a1, a2, se⟩ := s1.k.at_ (k := (k : Int)) rfl hlt
    have f1 := st1.faddr 1 0 0
    have l1 : er (.load1 (.c (.ptr id 0 1))) h = some K := st1.load1 rfl
    simp only [Nat.zero_add] at f1
    have hw : IntKind.i64.wrap ((k : Int) + 1) = ((k + 1 : Nat) : Int) := by rw [wrap_i64 (by omega) (by omega)]; simp
    have g1 := sm.2.2.2.1 _ (getD_mem hlt)
    have g2 := sm.2.2.2.2 _ (getD_mem hlt2)
    have lp := pc_len (n.keys.getD k [])
    have lq := pc_len (n.vals.getD k [])
    simp only [L66_0, B66_0, hd, cB_true, f1, l1, a1, a2, bind1_some]
    refine To3.bind2 (piece85 hf0 se (by omega)) ?_
    intro x h3 n3
    have nb3 := New.keep nb n3.2.2.1
    refine To3.bind2 (app_to nb3.1 nb3.2.1 n3.1.c (by simp only [bv_length, List.length_append]; omega)) ?_
    intro y h4 q4
    have nb4 := New.beh nb3 q4
    rw [← bv_append] at nb4
    have st4 := st.kp nb4.2.2.1
    have s4 := s.kp nb4.2.2.1
    have f0 := st4.faddr 0 0 0
    have l0 : er (.load1 (.c (.ptr id 0 0))) h4 = some (.bool n.leaf) := st4.load1 rfl
    have f2 := st4.faddr 2 0 0
    have l2 : er (.load1 (.c (.ptr id 0 2))) h4 = some W := st4.load1 rfl
    simp only [Nat.zero_add] at f0 f2
    obtain ⟨c, e', c1, c2, se'⟩ := s4.w.at_ (k := (k : Int)) rfl hlt2
    simp only [f0, l0, hleaf, bind1_some, castBool_bool, cB_true, f2, l2, c1, c2]
    refine To3.bind2 (piece85 hf0 se' (by omega)) ?_
    intro z h5 n5
    have nb5 := New.keep nb4 n5.2.2.1
    refine To3.bind2 (app_to nb5.1 nb5.2.1 n5.1.c (by simp only [bv_length, List.length_append]; omega)) ?_
    intro w h6 q6
    have nb6 := New.beh nb5 q6
    rw [← bv_append] at nb6
    simp only [hw]
    refine (ih (k + 1) f h6 w _ (by omega) (by omega) nb6 (by simp only [List.length_append]; omega)).mono ?_
    rintro x vs h7 ⟨w, rfl, rfl, nw⟩
    refine ⟨w, rfl, rfl, ?_⟩
    rw [zip_drop hlt hlt2]
    simp only [List.flatMap_cons, cellL, getD_eq hlt, getD_eq hlt2] at nw ⊢
    simpa only [List.append_assoc] using nw
theorem inner66L (lf : Nat) (hf0 : 20 < lf) {h0 : List Ob} {K W D : V} {id : Nat} {n : N} (st : St h0 id (nC n K W D)) (s : NR h0 K W D n) (sm : small n) (hleaf : n.leaf = false) (he : n.kids.length = n.keys.length + 1) (hk0 : ∀ k, k ∈ n.kids → 1 ≤ k ∧ k < 10000) : ∀ (m k f : Nat) (h : List Ob) (b : V) (bs : List Int), n.keys.length = k + m → m < f → New h0 (bv bs) b h → bs.length + m * 3000000 ≤ 10000000000000 →
    To3 (L66_0 lf f (.ptr id 0 0) b n.keys.length k h) fun x vs h' => ∃ w, x = .exit 0 ∧ vs = [w] ∧ New h0 (bv (bs ++ ((n.keys.zip n.kids.tail).drop k).flatMap cellI)) w h' := by
  have hr : roomMax = 140737488355328 := rfl
  intro m
  induction m with
  | zero =>
    intro k f h b bs hk hf nb hb
    obtain ⟨f, rfl⟩ : ∃ g, f = g + 1 := ⟨f - 1, by omega⟩
    have e : (n.keys.zip n.kids.tail).drop k = [] := List.drop_of_length_le (by simp; omega)
    have hd : decide ((k : Int) < (n.keys.length : Int)) = false := decide_eq_false (by omega)
    simp only [L66_0, B66_0, hd, cB_false, e]
    exact To3.some ⟨b, rfl, rfl, by simpa using nb⟩
  | succ m ih =>
    intro k f h b bs hk hf nb hb
    obtain ⟨f, rfl⟩ : ∃ g, f = g + 1 := ⟨f - 1, by omega⟩
    have hlt : k < n.keys.length := by omega
    have hlt2 : k + 1 < n.kids.length := by omega
    have hlt3 : k < n.kids.tail.length := by simp; omega
    have hb1 := sm.1
    have hd : decide ((k : Int) < (n.keys.length : Int)) = true := decide_eq_true (by omega)
    have st1 := st.kp nb.2.2.1
    have s1 := s.kp nb.2.2.1
    obtain ⟨a, e, a1, a2, se⟩ := s1.k.at_ (k := (k : Int)) rfl hlt
    have f1 := st1.faddr 1 0 0
    have l1 : er (.load1 (.c (.ptr id 0 1))) h = some K := st1.load1 rfl
    simp only [Nat.zero_add] at f1
    have hw : IntKind.i64.wrap ((k : Int) + 1) = ((k + 1 : Nat) : Int) := by rw [wrap_i64 (by omega) (by omega)]; simp
    have g1 := sm.2.2.2.1 _ (getD_mem hlt)
    have lp := pc_len (n.keys.getD k [])
    simp only [L66_0, B66_0, hd, cB_true, f1, l1, a1, a2, bind1_some]
    refine To3.bind2 (piece85 hf0 se (by omega)) ?_
    intro x h3 n3
    have nb3 := New.keep nb n3.2.2.1
    refine To3.bind2 (app_to nb3.1 nb3.2.1 n3.1.c (by simp only [bv_length, List.length_append]; omega)) ?_
    intro y h4 q4
    have nb4 := New.beh nb3 q4
    rw [← bv_append] at nb4
    have st4 := st.kp nb4.2.2.1
    have s4 := s.kp nb4.2.2.1
    have f0 := st4.faddr 0 0 0
    have l0 : er (.load1 (.c (.ptr id 0 0))) h4 = some (.bool n.leaf) := st4.load1 rfl
    have f3 := st4.faddr 3 0 0
    have l3 : er (.load1 (.c (.ptr id 0 3))) h4 = some D := st4.load1 rfl
    simp only [Nat.zero_add] at f0 f3
    obtain ⟨c, c1, c2⟩ := kid_at s4.d hlt2
    have gd : n.kids.getD (k + 1) 0 = n.kids[k + 1] := by simp [List.getD_eq_getElem?_getD, List.getElem?_eq_getElem hlt2]
    have gk := hk0 _ (List.getElem_mem hlt2)
    have ek : IntKind.u64.wrap (n.kids.getD (k + 1) 0) = ((n.kids[k + 1].toNat : Nat) : Int) := by rw [gd, wrap_u64]; omega
    have lq := numB_len n.kids[k + 1].toNat
    simp only [f0, l0, hleaf, bind1_some, castBool_bool, cB_false, f3, l3, hw, c1, c2, castInt_int, ek]
    refine To3.bind2 (num27 hf0 (n := n.kids[k + 1].toNat) (by omega)) ?_
    intro z h5 n5
    have nb5 := New.keep nb4 n5.2.2.1
    refine To3.bind2 (app_to nb5.1 nb5.2.1 n5.1.c (by simp only [bv_length, List.length_append]; omega)) ?_
    intro w h6 q6
    have nb6 := New.beh nb5 q6
    rw [← bv_append] at nb6
    refine (ih (k + 1) f h6 w _ (by omega) (by omega) nb6 (by simp only [List.length_append]; omega)).mono ?_
    rintro x vs h7 ⟨w, rfl, rfl, nw⟩
    refine ⟨w, rfl, rfl, ?_⟩
    rw [zip_drop hlt hlt3]
    simp only [List.flatMap_cons, cellI, getD_eq hlt, List.getElem_tail] at nw ⊢
    simpa only [List.append_assoc] using nw

theorem spell66 {lf : Nat} (hf : 2000000 < lf) {h : List Ob} {K W D : V} {n : N} (s : NR h K W D n) (sm : small n) (fm : formP n) : To2 (F66 lf n.leaf K W D h) (New h (bv (spell n))) := by
  have hr : roomMax = 140737488355328 := rfl
  have hb1 := sm.1
  simp only [F66]
  refine To2.bind2 s.box ?_
  rintro p h1 ⟨rfl, st, k1⟩
  have s1 := s.kp k1
  have f0 := st.faddr 0 0 0
  have l0 : er (.load1 (.c (.ptr h.length 0 0))) h1 = some (.bool n.leaf) := st.load1 rfl
  simp only [Nat.zero_add] at f0
  have ew : IntKind.u64.wrap (n.keys.length : Int) = ((n.keys.length : Nat) : Int) := by rw [wrap_u64]; omega
  have hn := numB_len n.keys.length
  have z : ((0 : Nat) : Int) = 0 := rfl
  have hS : S66_2 lf (.ptr h.length 0 0) 2 h1 = some (.normal, [.int .u8 (if n.leaf = true then 1 else 2)], h1) := by
    simp only [S66_2, f0, l0, bind1_some, castBool_bool]
    cases n.leaf <;> rfl
  simp only [hS, bind3_some, decide_true, cB_true, castCons_cons, castInt_int, castNil_nil]
  refine To2.bind2 (bslice_to (ps := [(0, .int .u8 (if n.leaf = true then 1 else 2))]) (es := bv [if n.leaf = true then 1 else 2]) (by decide) rfl rfl rfl) ?_
  rintro x h2 ⟨-, -, sx, ax, k2, fx⟩
  have nx : New h1 _ x h2 := ⟨sx, ax, k2, fx⟩
  have st2 := st.kp k2
  have s2 := s1.kp k2
  have f1 := st2.faddr 1 0 0
  have l1 : er (.load1 (.c (.ptr h.length 0 1))) h2 = some K := st2.load1 rfl
  simp only [Nat.zero_add] at f1
  simp only [f1, l1, s2.k.len, bind1_some, castInt_int, ew]
  refine To2.bind2 (num27 (by omega) (n := n.keys.length) (by omega)) ?_
  intro y h3 ny
  have nx3 := New.keep nx ny.2.2.1
  refine To2.bind2 (app_to nx3.1 nx3.2.1 ny.1.c (by simp; omega)) ?_
  intro b h4 q4
  have nb := New.beh nx3 q4
  rw [← bv_append] at nb
  have st4 := st.kp nb.2.2.1
  have s4 := s1.kp nb.2.2.1
  have f0' := st4.faddr 0 0 0
  have l0' : er (.load1 (.c (.ptr h.length 0 0))) h4 = some (.bool n.leaf) := st4.load1 rfl
  simp only [Nat.zero_add] at f0'
  cases hleaf : n.leaf with
  | true =>
    obtain ⟨q1, q2⟩ := form_leaf fm hleaf
    rw [hleaf] at nb l0'
    simp only [if_true] at nb
    have hS1 : S66_1 lf (.ptr h.length 0 0) b h4 = some (.normal, [b], h4) := by
      simp only [S66_1, f0', l0', bind1_some, castBool_bool]
      rfl
    simp only [hS1, bind3_some, decide_true, cB_true, castCons_cons, castNil_nil]
    have f1' := st4.faddr 1 0 0
    have l1' : er (.load1 (.c (.ptr h.length 0 1))) h4 = some K := st4.load1 rfl
    simp only [Nat.zero_add] at f1'
    simp only [f1', l1', s4.k.len, bind1_some, castInt_int]
    have := leaf66L lf (by omega) st s1 sm hleaf q2 n.keys.length 0 lf h4 b _ (by omega) (by omega) nb (by simp; omega)
    rw [z] at this
    refine To2.bind3 this ?_
    rintro x vs h5 ⟨w, rfl, rfl, nw⟩
    simp only [decide_true, cB_true, castCons_cons, castNil_nil]
    rw [List.drop_zero, ← spell_leaf hleaf] at nw
    exact To2.some (New.after k1 nw)
  | false =>
    obtain ⟨q1, q2, q3⟩ := form_inner fm hleaf
    rw [hleaf] at nb l0'
    simp only [Bool.false_eq_true, if_false] at nb
    have f3 := st4.faddr 3 0 0
    have l3 : er (.load1 (.c (.ptr h.length 0 3))) h4 = some D := st4.load1 rfl
    simp only [Nat.zero_add] at f3
    have hlt : 0 < n.kids.length := by omega
    obtain ⟨c, c1, c2⟩ := kid_at s4.d hlt
    rw [z] at c1
    have gd : n.kids.getD 0 0 = n.kids[0] := by simp [List.getD_eq_getElem?_getD, List.getElem?_eq_getElem hlt]
    have gh : n.kids.headD 0 = n.kids[0] := headD0 _ hlt
    have gk := q3 _ (List.getElem_mem hlt)
    have ek : IntKind.u64.wrap (n.kids.getD 0 0) = ((n.kids[0].toNat : Nat) : Int) := by rw [gd, wrap_u64]; omega
    have lq := numB_len n.kids[0].toNat
    have hS1 : To3 (S66_1 lf (.ptr h.length 0 0) b h4) fun x vs h' => ∃ w, x = .normal ∧ vs = [w] ∧ New h1 (bv (([2] : List Int) ++ numB n.keys.length ++ numB n.kids[0].toNat)) w h' := by
      simp only [S66_1, f0', l0', bind1_some, castBool_bool, Bool.not_false, cB_true, f3, l3, c1, c2, castInt_int, ek]
      refine To3.bind2 (num27 (by omega) (n := n.kids[0].toNat) (by omega)) ?_
      intro u h5 nu
      have nb5 := New.keep nb nu.2.2.1
      refine To3.bind2 (app_to nb5.1 nb5.2.1 nu.1.c (by simp; omega)) ?_
      intro w h6 q6
      have nw := New.beh nb5 q6
      rw [← bv_append] at nw
      exact To3.some ⟨w, rfl, rfl, nw⟩
    refine To2.bind3 hS1 ?_
    rintro x vs h5 ⟨b2, rfl, rfl, nb2⟩
    simp only [decide_true, cB_true, castCons_cons, castNil_nil]
    have st5 := st.kp nb2.2.2.1
    have s5 := s1.kp nb2.2.2.1
    have f1' := st5.faddr 1 0 0
    have l1' : er (.load1 (.c (.ptr h.length 0 1))) h5 = some K := st5.load1 rfl
    simp only [Nat.zero_add] at f1'
    simp only [f1', l1', s5.k.len, bind1_some, castInt_int]
    have := inner66L lf (by omega) st s1 sm hleaf q2 q3 n.keys.length 0 lf h5 b2 _ (by omega) (by omega) nb2 (by simp; omega)
    rw [z] at this
    refine To2.bind3 this ?_
    rintro x vs h6 ⟨w, rfl, rfl, nw⟩
    simp only [decide_true, cB_true, castCons_cons, castNil_nil]
    rw [List.drop_zero, ← gh, ← spell_inner hleaf] at nw
    exact To2.some (New.after k1 nw)
end Go.Proofs.Ytdcdmpgigmhhpaa.Nd
