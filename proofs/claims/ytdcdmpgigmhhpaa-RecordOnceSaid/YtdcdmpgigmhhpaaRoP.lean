/- RecordOnce: the law's answer for every input. No condition. -/
import Derived.Test.YtdcdmpgigmhhpaaRos
import Derived.Test.YtdcdmpgigmhhpaaRcT
namespace Go.Proofs.Ytdcdmpgigmhhpaa.Ro
open Go Go.Proofs.Ytdcdmpgigmhhpaa.E
open Go.Proofs.Ytdcdmpgigmhhpaa.Va Go.Proofs.Ytdcdmpgigmhhpaa.Rc
set_option maxRecDepth 100000
set_option linter.unusedVariables false
set_option linter.unusedSimpArgs false

theorem start {lf : Nat} (hf : 1000 < lf) {h : List Ob} {v : V} {row : List R} (s : Sl 3 h v (rows row)) :
    To3 (S10_1 lf v h) fun x vs h' => Kp h h' [] ∧ ((x = .ret ∧ vs = [.bool true] ∧ row.length > 1000) ∨ (x = .normal ∧ vs = [] ∧ row.length ≤ 1000)) := by
  simp only [S10_1]
  refine To3.bind2 (awake36 hf) ?_
  rintro u h1 ⟨rfl, k1⟩
  simp only [castBool_bool, Bool.not_true, cB_false, er_lenL (s.kp k1), rows_len, bind1_some, castInt_int]
  by_cases c : row.length > 1000
  · have d : decide ((row.length : Int) > 1000) = true := decide_eq_true (by omega)
    simp only [d, cB_true]
    refine To3.bind2 (awake36 hf) ?_
    rintro u h2 ⟨rfl, k2⟩
    simp only [castBool_bool]
    exact To3.some ⟨k1.tr k2, .inl ⟨rfl, rfl, c⟩⟩
  · have d : decide ((row.length : Int) > 1000) = false := decide_eq_false (by omega)
    simp only [d, cB_false]
    exact To3.some ⟨k1, .inr ⟨rfl, rfl, by omega⟩⟩


theorem s10 {lf : Nat} {h : List Ob} {b : V} {row : List R} (sb : Sl 1 h b (bv (encR row).1)) : S10_0 lf b (encR row).2 h = some (if (encR row).2 = 0 then (.normal, [], h) else (.ret, [.bool true], h)) := by
  unfold S10_0
  by_cases c : (encR row).2 = 0
  · obtain ⟨g1, g2, g3⟩ := encR_ok c
    rw [if_pos c]
    have hb : (((encR row).2) != 0) = false := by simp [c]
    have hl : (((encR row).1.length : Int) == 0) = false := by rw [g2]; have := encB_len row; exact beq_eq_false_iff_ne.2 (by omega)
    simp only [hb, cB_false, er_lenL sb, bv_length, bind1_some, castInt_int, hl]
  · rw [if_neg c]
    have hb : (((encR row).2) != 0) = true := by simp [c]
    simp only [hb, cB_true]
theorem iaddr_kind {h : List Ob} {v : V} (k : IntKind) (n : Int) : er (.iaddrL 1 (.c v) (.c (.int k n))) h = er (.iaddrL 1 (.c v) (.c (.int .i64 n))) h := rfl
/-- Writing at a place. -/
theorem put1 {h : List Ob} {v : V} {ms : List Int} (s : Sl 1 h v (bv ms)) (a : Ap v) {i : Nat} (hi : i < ms.length) (m : Int) : ∃ p, er (.iaddrL 1 (.c v) (.c (.int .i64 (i : Int)))) h = some p ∧ er (.load1 (.c p)) h = some (.int .u8 ms[i]) ∧
    To2 (ev (.store 1 (.c p) (.c (.int .u8 m))) h) fun _ h' => Sl 1 h' v (bv (ms.set i m)) ∧ Kp h h' (idsOf v) := by
  obtain ⟨p, p1, p2⟩ := s.at1 (k := (i : Int)) (e := .int .u8 ms[i]) (by omega) (bv_get (by simp [hi])) rfl
  refine ⟨p, p1, p2, ?_⟩
  have c := s.c
  rcases a with rfl | rfl | ⟨id, off, len, rfl⟩
  · simp [conts] at c; have := congrArg List.length c; simp only [List.length_nil, bv_length] at this; omega
  · simp [conts] at c; have := congrArg List.length c; simp only [List.length_nil, bv_length] at this; omega
  · simp only [conts] at c
    split at c
    · rename_i es q hob
      split at c
      · rename_i hh
        obtain ⟨rfl, hin⟩ := hh
        injection c with c
        have hlen : ms.length = len := by have := congrArg List.length c; simp at this; omega
        have hp : p = .ptr id (off + i) 0 := by
          simp only [er, ev, evOq, x_iaddrL, getC, evIaddrL, hob] at p1
          rw [if_pos ⟨by omega, by omega⟩] at p1
          simp at p1
          exact p1.symm
        subst hp
        have he : es[off + i]? = some (.int .u8 ms[i]) := by
          have := bv_get (ms := ms) (k := i) (m := ms[i]) (by simp [hi])
          rw [← c, List.getElem?_take, if_pos (by omega), List.getElem?_drop] at this
          exact this
        have e : ev (.store 1 (.c (.ptr id (off + i) 0)) (.c (.int .u8 m))) h = some (.tup [], h.set id (.row (es.set (off + i) (.int .u8 m)) 1)) := by
          simp only [ev, evOq, x_store, getC, evStore, wrCells, hob, V.cells]
          simp only [he, Option.map_some, putCells]
          rfl
        rw [e]
        have hidl : id < h.length := (List.getElem?_eq_some_iff.1 hob).1
        refine To2.some ⟨⟨?_, fun l q => by cases q⟩, ⟨by simp, fun j hj hn => by rw [List.getElem?_set_ne (by intro q; subst q; exact hn (by simp [idsOf]))]⟩⟩
        simp only [conts, List.getElem?_set_self hidl]
        rw [if_pos ⟨trivial, by simpa using hin⟩]
        congr 1
        rw [← bv_set, ← c]
        apply List.ext_getElem?
        intro j
        simp only [List.getElem?_take, List.getElem?_drop, List.getElem?_set, List.length_take, List.length_drop]
        by_cases hj : j < len
        · simp only [if_pos hj]
          by_cases hji : i = j
          · subst hji
            rw [if_pos rfl, if_pos rfl, if_pos (by omega), if_pos (by omega)]
          · rw [if_neg (by omega), if_neg hji]
        · simp only [if_neg hj]
          by_cases hji : i = j
          · omega
          · rw [if_neg hji]
      · cases c
    · cases c

theorem law10 {lf : Nat} (hf : 3000 < lf) {h : List Ob} {v : V} {row : List R} {at_ by_ : Int} (ha : 0 ≤ at_ ∧ at_ < 18446744073709551616) (s : Sl 3 h v (rows row)) (hi : ∀ r, r ∈ row → inR r) : To2 (F10 lf v at_ by_ h) fun u _ => u = .bool true := by
  simp only [F10]
  refine To2.bind3 (start (by omega) s) ?_
  rintro x vs h1 ⟨k1, ⟨rfl, rfl, -⟩ | ⟨rfl, rfl, hl⟩⟩
  · simp only [decide_true, cB_true, castCons_cons, castBool_bool, castNil_nil]
    exact To2.some rfl
  · simp only [show decide (EX.normal = EX.ret) = false from rfl, decide_true, cB_true, cB_false, castNil_nil]
    refine To2.bind2 (enc37 (s.kp k1) (by omega) (by omega) hi) ?_
    rintro u h2 ⟨b, rfl, nb⟩
    simp only [castTup_tup, castCons_cons, castInt_int, castNil_nil, s10 nb.1]
    by_cases c : (encR row).2 = 0
    · obtain ⟨g1, g2, g3⟩ := encR_ok c
      have lb := encB_len row
      rw [g2] at nb
      have ew : IntKind.u64.wrap ((encB row).length : Int) = ((encB row).length : Int) := by rw [wrap_u64]; omega
      have hne : ((encB row).length : Int) ≠ 0 := by omega
      have er1 : er (.bin .rem (.c (.int .u64 at_)) (.c (.int .u64 ((encB row).length : Int)))) h2 = some (.int .u64 ((at_.toNat % (encB row).length : Nat) : Int)) := by
        simp only [er, ev, evOq, x_bin, getC, evBin, if_true, evInt]
        rw [if_neg hne, Int.tmod_eq_emod_of_nonneg ha.1]
        have : at_ % ((encB row).length : Int) = ((at_.toNat % (encB row).length : Nat) : Int) := by
          rw [Int.natCast_emod, Int.toNat_of_nonneg ha.1]
        rw [this]; rfl
      have hlt : at_.toNat % (encB row).length < (encB row).length := Nat.mod_lt _ (by omega)
      generalize at_.toNat % (encB row).length = i at er1 hlt
      have hby := encB_byt g1
      obtain ⟨p, p1, p2, p3⟩ := put1 nb.1 nb.2.1 hlt (bits .xor .u8 (encB row)[i] by_)
      simp only [if_pos c, bind3_some, show decide (EX.normal = EX.ret) = false from rfl, decide_true, cB_true, cB_false, castNil_nil, er_lenL nb.1, bv_length, bind1_some, castInt_int, ew, er1, iaddr_kind .u64, p1, p2]
      refine To2.bind2 p3 ?_
      rintro u h3 ⟨sb, k3⟩
      have hx0 := bits_lo_u8 .xor (encB row)[i] by_
      have hx1 := bits_hi_u8 .xor (encB row)[i] by_
      generalize hm : (encB row).set i (bits .xor .u8 (encB row)[i] by_) = ms at sb
      have hbm : Byt ms := by
        intro x hx
        rw [← hm] at hx
        rcases List.mem_or_eq_of_mem_set hx with q | q
        · exact hby x q
        · subst q; exact ⟨hx0, hx1⟩
      have hlm : ms.length ≤ 140 := by rw [← hm]; simp; omega
      refine To2.bind2 (dec39 sb hbm (by omega) (by omega) (.inr (by omega))) ?_
      rintro u h4 ⟨w, rfl, sw, k4, -⟩
      simp only [castTup_tup, castCons_cons, castInt_int, castNil_nil]
      by_cases ok : ∃ row', decP ms = some (row', [])
      · obtain ⟨row', hd⟩ := ok
        obtain ⟨e1, e2, e3⟩ := decP_back hbm hd
        rw [List.append_nil] at e1
        have hR : decR ms = (row', 0) := by simp [decR, hd, hlm]
        rw [hR] at sw
        have sw : Sl 3 h4 w (rows row') := sw
        have lr := encB_len row'
        rw [← e1] at lr
        simp only [hR, bne_self_eq_false, cB_false]
        refine To2.bind2 (enc37 sw (by omega) (by omega) e3) ?_
        rintro u h5 ⟨y, rfl, ny⟩
        have hE : encR row' = (ms, 0) := by rw [encR_of e2 (by rw [← e1]; exact hlm), ← e1]
        rw [hE] at ny
        have sb5 := (sb.kp k4).kp ny.2.2.1
        simp only [hE, castTup_tup, castCons_cons, castInt_int, castNil_nil, beq_self_eq_true, cB_true, er_toStr ny.1, er_toStr sb5, bind1_some, castStr_str]
        exact To2.some rfl
      · have hR : decR ms = ([], 2) := by
          unfold decR
          split
          · rename_i row' q; exact absurd ⟨row', q⟩ ok
          · rfl
        simp only [hR, show ((2 : Int) != 0) = true from rfl, cB_true]
        exact To2.some rfl
    · simp only [if_neg c, bind3_some, decide_true, cB_true, castCons_cons, castBool_bool, castNil_nil]
      exact To2.some rfl

theorem shape {H : Type} {d0 d1 d2 : DataW H} {u0 u1 u2 : List V} (h0 : dV Try.prog d0 61 = some u0) (h1 : dV Try.prog d1 37 = some u1) (h2 : dV Try.prog d2 5 = some u2) :
    ∃ y0 y1 y2, u0 = [y0] ∧ u1 = [y1] ∧ u2 = [y2] ∧ CE Try.prog 10 [y0, y1, y2] [] fun v _ => v = .bool true := by
  obtain ⟨y, row, rfl, s, -, hi, hl⟩ := dV_rows Try.underlying61 Try.underlying91 rfl Try.underlying3 Try.underlying2 Try.underlying9 h0
  obtain ⟨a, rfl, la⟩ := dV_u64 Try.underlying37 h1
  obtain ⟨b, rfl, lb⟩ := dV_u8 Try.underlying5 h2
  obtain ⟨v, h', e, q⟩ := law10 (lf := 3001) (h := []) (by_ := b) (by omega) la (s []) hi
  exact ⟨_, _, _, rfl, rfl, rfl, (F10_ok _ _ _ _ _ _ _ e).2.mono fun v2 h2 z => by rw [z.1]; exact q⟩
end Go.Proofs.Ytdcdmpgigmhhpaa.Ro
