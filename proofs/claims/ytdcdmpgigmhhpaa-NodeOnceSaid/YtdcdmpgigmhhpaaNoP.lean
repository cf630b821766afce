/- NodeOnce: the law's answer for every input. No condition. -/
import Derived.Test.YtdcdmpgigmhhpaaNos
import Derived.Test.YtdcdmpgigmhhpaaNdX
namespace Go.Proofs.Ytdcdmpgigmhhpaa.No
open Go Go.Proofs.Ytdcdmpgigmhhpaa.E
open Go.Proofs.Ytdcdmpgigmhhpaa.Va Go.Proofs.Ytdcdmpgigmhhpaa.Nd
set_option maxRecDepth 100000
set_option linter.unusedVariables false
set_option linter.unusedSimpArgs false

def fewN (n : N) : Prop := n.keys.length ≤ 300 ∧ n.vals.length ≤ 300 ∧ n.kids.length ≤ 300 ∧ (∀ k, k ∈ n.keys → k.length ≤ 1000) ∧ ∀ k, k ∈ n.vals → k.length ≤ 1000
theorem start {lf : Nat} (hf : 2000000 < lf) {h : List Ob} {K W D : V} {n : N} {id : Nat} (st : St h id (nC n K W D)) (s : NR h K W D n) :
    To3 (S13_3 lf (.ptr id 0 0) h) fun x vs h' => Kp h h' [] ∧ ((x = .ret ∧ vs = [.bool true]) ∨ (x = .normal ∧ vs = [] ∧ fewN n)) := by
  simp only [S13_3]
  refine To3.bind2 (awake32 hf) ?_
  rintro u h1 ⟨rfl, k1⟩
  have lN := (st.kp k1).loadN' (n := 4) rfl
  simp only [castBool_bool, Bool.not_true, cB_false, lN, nC, bind1_some, castAgg_agg, castCons_cons, castNil_nil]
  refine To3.bind2 (few33 (by omega) (s.kp k1)) ?_
  rintro u h2 ⟨k2, ⟨rfl, q⟩ | rfl⟩
  · simp only [castBool_bool, Bool.not_true, cB_false]
    exact To3.some ⟨k1.tr k2, .inr ⟨rfl, rfl, q⟩⟩
  · simp only [castBool_bool, Bool.not_false, cB_true]
    refine To3.bind2 (awake32 hf) ?_
    rintro u h3 ⟨rfl, k3⟩
    simp only [castBool_bool]
    exact To3.some ⟨(k1.tr k2).tr k3, .inl ⟨rfl, rfl⟩⟩
theorem small_of {n : N} (q : fewN n) : small n :=
  ⟨by have := q.1; omega, by have := q.2.1; omega, by have := q.2.2.1; omega, fun k hk => by have := q.2.2.2.1 k hk; omega, fun k hk => by have := q.2.2.2.2 k hk; omega⟩
theorem iaddr_kind {h : List Ob} {v : V} (k : IntKind) (n : Int) : er (.iaddrL 1 (.c v) (.c (.int k n))) h = er (.iaddrL 1 (.c v) (.c (.int .i64 n))) h := rfl
/-- Writing at a place. -/
theorem put1 {h : List Ob} {v : V} {ms : List Int} (s : Sl 1 h v (bv ms)) (a : Ap v) {i : Nat} (hi : i < ms.length) (m : Int) : ∃ p, er (.iaddrL 1 (.c v) (.c (.int .i64 (i : Int)))) h = some p ∧ er (.load1 (.c p)) h = some (.int .u8 ms[i]) ∧
    To2 (ev (.store 1 (.c p) (.c (.int .u8 m))) h) fun _ h' => Sl 1 h' v (bv (ms.set i m)) ∧ Kp h h' (idsOf v) := by
  obtain ⟨p, p1, p2⟩ := s.at1 (k := (i : Int)) (e := .int .u8 ms[i]) (by omega) (bv_get (by simp [hi])) rfl
  refine ⟨p, p1, p2, ?_⟩
  have c := s.c
  rcases a with rfl | rfl | ⟨id, off, len, rfl⟩
  · simp [conts] at c; have := congrArg List.length c; simp only [List.length_nil, bv_length] at this; omega
  · simp [conts] at c; have := congrArg List.length c; simp only [List.length_nil, bv_length] at this; omega
  · simp only [conts] at c
    split at c
    · rename_i es q hob
      split at c
      · rename_i hh
        obtain ⟨rfl, hin⟩ := hh
        injection c with c
        have hlen : ms.length = len := by have := congrArg List.length c; simp at this; omega
        have hp : p = .ptr id (off + i) 0 := by
          simp only [er, ev, evOq, x_iaddrL, getC, evIaddrL, hob] at p1
          rw [if_pos ⟨by omega, by omega⟩] at p1
          simp at p1
          exact p1.symm
        subst hp
        have he : es[off + i]? = some (.int .u8 ms[i]) := by
          have := bv_get (ms := ms) (k := i) (m := ms[i]) (by simp [hi])
          rw [← c, List.getElem?_take, if_pos (by omega), List.getElem?_drop] at this
          exact this
        have e : ev (.store 1 (.c (.ptr id (off + i) 0)) (.c (.int .u8 m))) h = some (.tup [], h.set id (.row (es.set (off + i) (.int .u8 m)) 1)) := by
          simp only [ev, evOq, x_store, getC, evStore, wrCells, hob, V.cells]
          simp only [he, Option.map_some, putCells]
          rfl
        rw [e]
        have hidl : id < h.length := (List.getElem?_eq_some_iff.1 hob).1
        refine To2.some ⟨⟨?_, fun l q => by cases q⟩, ⟨by simp, fun j hj hn => by rw [List.getElem?_set_ne (by intro q; subst q; exact hn (by simp [idsOf]))]⟩⟩
        simp only [conts, List.getElem?_set_self hidl]
        rw [if_pos ⟨trivial, by simpa using hin⟩]
        congr 1
        rw [← bv_set, ← c]
        apply List.ext_getElem?
        intro j
        simp only [List.getElem?_take, List.getElem?_drop, List.getElem?_set, List.length_take, List.length_drop]
        by_cases hj : j < len
        · simp only [if_pos hj]
          by_cases hji : i = j
          · subst hji
            rw [if_pos rfl, if_pos rfl, if_pos (by omega), if_pos (by omega)]
          · rw [if_neg (by omega), if_neg hji]
        · simp only [if_neg hj]
          by_cases hji : i = j
          · omega
          · rw [if_neg hji]
      · cases c
    · cases c


theorem spell_pos (n : N) : 0 < (spell n).length := by
  unfold spell
  split <;> simp
theorem s13 {lf : Nat} {h : List Ob} {b : V} {n : N} (sb : Sl 1 h b (bv (encN n).1)) : S13_2 lf b (encN n).2 h = some (if (encN n).2 = 0 then (.normal, [], h) else (.ret, [.bool true], h)) := by
  unfold S13_2
  by_cases c : (encN n).2 = 0
  · obtain ⟨g1, g2, g3⟩ := encN_ok c
    rw [if_pos c]
    have hb : (((encN n).2) != 0) = false := by simp [c]
    have hl : (((encN n).1.length : Int) == 0) = false := by rw [g3]; have := spell_pos n; exact beq_eq_false_iff_ne.2 (by omega)
    simp only [hb, cB_false, er_lenL sb, bv_length, bind1_some, castInt_int, hl]
  · rw [if_neg c]
    have hb : (((encN n).2) != 0) = true := by simp [c]
    simp only [hb, cB_true]
theorem zerosL (lf : Nat) {h : List Ob} {b : V} {ms : List Int} (s : Sl 1 h b (bv ms)) (hl : ms.length ≤ 1000000) : ∀ (m k f : Nat), ms.length = k + m → m < f → (∀ x, x ∈ ms.drop k → x = 0) → L13_0 lf f b k h = some (.exit 0, [], h) := by
  intro m
  induction m with
  | zero =>
    intro k f hk hf hz
    obtain ⟨f, rfl⟩ : ∃ g, f = g + 1 := ⟨f - 1, by omega⟩
    have hd : decide ((k : Int) < (ms.length : Int)) = false := decide_eq_false (by omega)
    simp only [L13_0, B13_0, er_lenL s, bv_length, bind1_some, castInt_int, hd, cB_false]
  | succ m ih =>
    intro k f hk hf hz
    obtain ⟨f, rfl⟩ : ∃ g, f = g + 1 := ⟨f - 1, by omega⟩
    have hlt : k < ms.length := by omega
    have hd : decide ((k : Int) < (ms.length : Int)) = true := decide_eq_true (by omega)
    obtain ⟨a, a1, a2⟩ := s.at1 (k := (k : Int)) (e := .int .u8 ms[k]) (by omega) (bv_get (by simp [hlt])) rfl
    have hw : IntKind.i64.wrap ((k : Int) + 1) = ((k + 1 : Nat) : Int) := by rw [wrap_i64 (by omega) (by omega)]; simp
    rw [List.drop_eq_getElem_cons hlt] at hz
    have h0 : (ms[k] != 0) = false := by simp [hz _ (List.mem_cons_self ..)]
    simp only [L13_0, B13_0, er_lenL s, bv_length, bind1_some, castInt_int, hd, cB_true, a1, a2, h0, cB_false, hw]
    exact ih (k + 1) f (by omega) (by omega) (fun x hx => hz x (List.mem_cons_of_mem _ hx))

theorem law13 {lf : Nat} (hf : 2000000 < lf) {h : List Ob} {K W D : V} {n : N} {at_ by_ : Int} (ha : 0 ≤ at_ ∧ at_ < 18446744073709551616) (s : NR h K W D n) (hk : ∀ k, k ∈ n.keys → Byt k) (hv : ∀ k, k ∈ n.vals → Byt k) : To2 (F13 lf n.leaf K W D at_ by_ h) fun v _ => v = .bool true := by
  simp only [F13]
  refine To2.bind2 s.box ?_
  rintro p h1 ⟨rfl, st, k1⟩
  refine To2.bind3 (start hf st (s.kp k1)) ?_
  rintro x vs h2 ⟨k2, ⟨rfl, rfl⟩ | ⟨rfl, rfl, q⟩⟩
  · simp only [decide_true, cB_true, castCons_cons, castBool_bool, castNil_nil]
    exact To2.some rfl
  · have sm := small_of q
    have st := st.kp k2
    have s := s.kp (k1.tr k2)
    have lN := st.loadN' (n := 4) rfl
    simp only [show decide (EX.normal = EX.ret) = false from rfl, decide_true, cB_true, cB_false, castNil_nil, lN, nC, bind1_some, castAgg_agg, castCons_cons, castBool_bool]
    refine To2.bind2 (enc41 hf s sm) ?_
    rintro u h3 ⟨b, rfl, nb⟩
    simp only [castTup_tup, castCons_cons, castInt_int, castNil_nil, s13 nb.1]
    by_cases c : (encN n).2 = 0
    · obtain ⟨g1, g2, g3⟩ := encN_ok c
      have lb := spell_pos n
      have nb : New h2 (bv (spell n)) b h3 := by rw [g3] at nb; exact nb
      have ew : IntKind.u64.wrap ((spell n).length : Int) = ((spell n).length : Int) := by rw [wrap_u64]; omega
      have hne : ((spell n).length : Int) ≠ 0 := by omega
      have er1 : er (.bin .rem (.c (.int .u64 at_)) (.c (.int .u64 ((spell n).length : Int)))) h3 = some (.int .u64 ((at_.toNat % (spell n).length : Nat) : Int)) := by
        simp only [er, ev, evOq, x_bin, getC, evBin, if_true, evInt]
        rw [if_neg hne, Int.tmod_eq_emod_of_nonneg ha.1]
        have : at_ % ((spell n).length : Int) = ((at_.toNat % (spell n).length : Nat) : Int) := by
          rw [Int.natCast_emod, Int.toNat_of_nonneg ha.1]
        rw [this]; rfl
      have hlt : at_.toNat % (spell n).length < (spell n).length := Nat.mod_lt _ (by omega)
      generalize at_.toNat % (spell n).length = i at er1 hlt
      have hby := spell_byt hk hv
      obtain ⟨p, p1, p2, p3⟩ := put1 nb.1 nb.2.1 hlt (bits .xor .u8 (spell n)[i] by_)
      simp only [if_pos c, bind3_some, show decide (EX.normal = EX.ret) = false from rfl, decide_true, cB_true, cB_false, castNil_nil, er_lenL nb.1, bv_length, bind1_some, castInt_int, ew, er1, iaddr_kind .u64, p1, p2]
      refine To2.bind2 p3 ?_
      rintro u h4 ⟨sb, k4⟩
      have hx0 := bits_lo_u8 .xor (spell n)[i] by_
      have hx1 := bits_hi_u8 .xor (spell n)[i] by_
      generalize hm : (spell n).set i (bits .xor .u8 (spell n)[i] by_) = ms at sb
      have hbm : Byt ms := by
        intro x hx
        rw [← hm] at hx
        rcases List.mem_or_eq_of_mem_set hx with q | q
        · exact hby x q
        · subst q; exact ⟨hx0, hx1⟩
      have hlm : ms.length ≤ 508 := by rw [← hm]; simp; omega
      refine To2.bind2 (dec47 hf sb hbm (by omega)) ?_
      rintro u h5 ⟨k5, ⟨hd, rfl⟩ | ⟨n', K', W', D', hd, rfl, s'⟩⟩
      · simp only [castTup_tup, castCons_cons, castAgg_agg, castBool_bool, castNil_nil, castInt_int]
        refine To2.bind2 (alloc_to rfl) ?_
        rintro p h6 ⟨rfl, stx, k6⟩
        refine To2.bind2 (stx.storeN (ds := [.bool false, .nils, .nils, .nils]) rfl (by decide) rfl rfl) ?_
        rintro u h7 ⟨stx, k7⟩
        simp only [show ((2 : Int) != 0) = true from rfl, show ((2 : Int) == 2) = true from rfl, cB_true]
        exact To2.some rfl
      · simp only [castTup_tup, castCons_cons, castAgg_agg, castBool_bool, castNil_nil, castInt_int, nC]
        refine To2.bind2 (alloc_to rfl) ?_
        rintro p h6 ⟨rfl, stx, k6⟩
        refine To2.bind2 (stx.storeN (ds := nC n' K' W' D') rfl (by decide) (by simp [s'.kc.2, s'.wc.2, s'.dc.2]; rfl) rfl) ?_
        rintro u h7 ⟨stx, k7⟩
        have k57 : Kp h5 h7 [] := k6.trans k7 (fun j hj => by cases hj) (fun j hj hlt => by simp at hj; omega)
        obtain ⟨r, e1, e2, e3, e4, e5⟩ := decN_back' hbm hd
        obtain ⟨sm', -, -⟩ := nodeP_small hbm (by omega) e2
        have lX := stx.loadN' (n := 4) rfl
        have s' := s'.kp k57
        simp only [bne_self_eq_false, cB_false, lX, nC, bind1_some, castAgg_agg, castCons_cons, castBool_bool, castNil_nil]
        refine To2.bind2 (enc41 hf s' sm') ?_
        rintro u h8 ⟨y, rfl, ny⟩
        have hE : encN n' = (spell n', 0) := by unfold encN; rw [if_pos e3, if_neg (by omega)]
        have sb8 := ((sb.kp k5).kp k57).kp ny.2.2.1
        rw [hE] at ny
        simp only [hE, castTup_tup, castCons_cons, castInt_int, castNil_nil]
        have lms : ms.length = (spell n').length + r.length := by rw [e1]; simp
        obtain ⟨z, ez, sz, iz⟩ := slc_to (lo := none) (hi := some (.c (.int .i64 ((spell n').length : Int)))) (a := 0) (b := (spell n').length) sb8 bv_cells rfl (by simp only [Option.map_some, getC, bndV]; rw [if_pos (by omega), Int.toNat_natCast]) (by omega) (by rw [bv_length]; omega)
        have sz : Sl 1 h8 z (bv (spell n')) := by
          have : ((bv ms).drop 0).take ((spell n').length - 0) = bv (spell n') := by
            rw [e1]; simp [bv, ← List.map_take]
          rwa [this] at sz
        have hS : S13_1 lf b y 0 h8 = some (.normal, [], h8) := by
          have d : decide (((spell n').length : Int) > (ms.length : Int)) = false := decide_eq_false (by omega)
          simp only [S13_1, bne_self_eq_false, cB_false, er_lenL ny.1, er_lenL sb8, bv_length, bind1_some, castInt_int, d, er_toStr ny.1, castStr_str, ez, er_toStr sz, beq_self_eq_true, Bool.not_true]
        have hL := zerosL lf sb8 (by omega) r.length (spell n').length lf (by omega) (by omega) (fun x hx => e5 x (by rw [e1] at hx; simpa using hx))
        simp only [hS, bind3_some, show decide (EX.normal = EX.ret) = false from rfl, decide_true, cB_true, cB_false, castNil_nil, er_lenL ny.1, bv_length, bind1_some, castInt_int, hL]
        exact To2.some rfl
    · simp only [if_neg c, bind3_some, decide_true, cB_true, castCons_cons, castBool_bool, castNil_nil]
      exact To2.some rfl

theorem shape {H : Type} {d0 d1 d2 : DataW H} {u0 u1 u2 : List V} (h0 : dV Try.prog d0 54 = some u0) (h1 : dV Try.prog d1 37 = some u1) (h2 : dV Try.prog d2 5 = some u2) :
    ∃ y1 y2, u1 = [y1] ∧ u2 = [y2] ∧ CE Try.prog 13 [.agg u0, y1, y2] [] fun v _ => v = .bool true := by
  obtain ⟨n, K, W, D, rfl, s, hk, hv⟩ := dV_node Try.underlying54 rfl Try.underlying4 Try.underlying51 Try.underlying51 Try.underlying52 Try.underlying22 Try.underlying5 Try.underlying3 h0
  obtain ⟨a, rfl, la⟩ := dV_u64 Try.underlying37 h1
  obtain ⟨b, rfl, lb⟩ := dV_u8 Try.underlying5 h2
  obtain ⟨v, h', e, q⟩ := law13 (lf := 2000001) (h := []) (by_ := b) (by omega) la (s []) hk hv
  exact ⟨_, _, rfl, rfl, (F13_ok _ _ _ _ _ _ _ _ _ _ e).2.mono fun v2 h2 z => by rw [z.1]; exact q⟩
end Go.Proofs.Ytdcdmpgigmhhpaa.No
