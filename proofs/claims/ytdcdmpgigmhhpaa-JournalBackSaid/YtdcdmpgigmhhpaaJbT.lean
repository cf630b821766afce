/- A journal read back: all of it, and just so many records. No condition. -/
import Derived.Test.YtdcdmpgigmhhpaaJbS
namespace Go.Proofs.Ytdcdmpgigmhhpaa.Jb
open Go Go.Proofs.Ytdcdmpgigmhhpaa.E
open Go.Proofs.Ytdcdmpgigmhhpaa.Jw
set_option maxRecDepth 100000
set_option linter.unusedVariables false
set_option linter.unusedSimpArgs false

abbrev HdQ (hh : List Ob) (s p m : Int) (v : V) (h' : List Ob) : Prop := v = .tup [.agg [.int .u64 s, .int .i64 p, .nils, .nils], .int .i64 m] ∧ Kp hh h' []
def pickH (a b : Int × Int × Int) : Int × Int × Int := if a.2.2 < b.2.2 then b else a
theorem second55 {lf : Nat} {h : List Ob} {b : V} {ms : List Int} {f : Nat} {s1 p1 m1 s2 p2 m2 : Int} (s : Sl 1 h b (bv ms)) (hl : 128 ≤ ms.length) (st : St h f [.int .u64 s1, .int .i64 p1, .nils, .nils])
    (hB : ∀ y, Sl 1 h y (bv (ms.drop 64)) → To2 (F76 lf y h) (HdQ h s2 p2 m2)) :
    To3 (S55_3 lf b (.ptr f 0 0) m1 h) fun x vs h' => x = .normal ∧ vs = [.int .i64 (pickH (s1, p1, m1) (s2, p2, m2)).2.2] ∧ Kp h h' [f] ∧ St h' f [.int .u64 (pickH (s1, p1, m1) (s2, p2, m2)).1, .int .i64 (pickH (s1, p1, m1) (s2, p2, m2)).2.1, .nils, .nils] := by
  have hd : decide ((ms.length : Int) ≥ 128) = true := decide_eq_true (by omega)
  obtain ⟨x25, e25, s25, -⟩ := from_to s (a := 64) (k := 64) rfl (by omega)
  simp only [S55_3, er_lenL s, bv_length, bind1_some, castInt_int, hd, cB_true, e25]
  refine To3.bind2 (hB x25 s25) ?_
  rintro v h1 ⟨rfl, k1⟩
  simp only [castTup_tup, castCons_cons, castAgg_agg, castInt_int, castNil_nil]
  refine To3.bind2 (alloc_to (cs := zF) rfl) ?_
  rintro g h2 ⟨rfl, sg, k2⟩
  refine To3.bind2 (sg.storeN (ds := [.int .u64 s2, .int .i64 p2, .nils, .nils]) rfl (by decide) rfl (n := 4) rfl) ?_
  rintro u h3 ⟨sg3, k3⟩
  have flt := st.lt
  have l1 := k1.len
  have k13 : Kp h h3 [] := (k1.tr k2).trans k3 (fun j hj => by cases hj) (fun j hj hlt => by simp at hj; omega)
  have st3 := st.kp k13
  unfold pickH
  by_cases q : m1 < m2
  · have hq : decide (m2 > m1) = true := decide_eq_true q
    simp only [hq, cB_true, sg3.loadN' (n := 4) rfl, bind1_some, castAgg_agg, castCons_cons, castInt_int, castNil_nil, if_pos q]
    refine To3.bind2 (st3.storeN (ds := [.int .u64 s2, .int .i64 p2, .nils, .nils]) rfl (by simp) rfl (n := 4) rfl) ?_
    rintro u h4 ⟨st4, k4⟩
    exact To3.some ⟨rfl, rfl, k13.trans k4 (fun j hj => by cases hj) (fun j hj _ => hj), st4⟩
  · have hq : decide (m2 > m1) = false := decide_eq_false q
    simp only [hq, cB_false, if_neg q]
    exact To3.some ⟨rfl, rfl, k13.mono (fun j hj => by cases hj), st3⟩

/-- All that is read. -/
structure Rq (h0 : List Ob) (salt p : Int) (nm : Nat → Int) (pg : Nat → List Int) (many : Nat) (v : V) (h' : List Ob) : Prop where
  k : Kp h0 h' []
  ex : ∃ nv dv es, v = .tup [.agg [.int .u64 salt, .int .i64 p, nv, dv], .bool true] ∧ Sl 1 h' nv ((List.range many).map fun j => .int .i64 (nm j)) ∧ Sl 1 h' dv es ∧ es.length = many ∧ ∀ j, j < many → ∃ e, es[j]? = some e ∧ Sl 1 h' e (bv (pg j))

theorem read55 {lf : Nat} (hf : 1000 < lf) {h : List Ob} {b : V} {ms : List Int} {s1 p1 m1 s2 p2 m2 salt p : Int} {nm : Nat → Int} {pg : Nat → List Int} {many : Nat} (s : Sl 1 h b (bv ms)) (h0 : 0 ≤ salt) (h1 : salt < 18446744073709551616)
    (hA : ∀ hh, Kp h hh [] → To2 (F76 lf b hh) (HdQ hh s1 p1 m1)) (hB : ∀ hh y, Kp h hh [] → Sl 1 hh y (bv (ms.drop 64)) → To2 (F76 lf y hh) (HdQ hh s2 p2 m2))
    (hs : pickH (s1, p1, m1) (s2, p2, m2) = (salt, p, (many : Int))) (hm : many ≤ 12) (hl : 128 + many * 576 ≤ ms.length) (hl2 : ms.length ≤ 1000000000)
    (hn : ∀ i, i < many → 0 ≤ nm i ∧ nm i ≤ 10000 ∧ (pg i).length = 512 ∧ (ms.drop (128 + i * 576)).take 576 = recB salt (nm i) (pg i)) :
    To2 (F55 lf b h) (Rq h salt p nm pg many) := by
  simp only [F55]
  refine To2.bind2 (alloc_to (cs := zF) rfl) ?_
  rintro x2 h1' ⟨rfl, st, k1⟩
  refine To2.bind2 (hA h1' k1) ?_
  rintro v h2 ⟨rfl, k2⟩
  simp only [castTup_tup, castCons_cons, castAgg_agg, castInt_int, castNil_nil]
  refine To2.bind2 (alloc_to (cs := zF) rfl) ?_
  rintro f h3 ⟨rfl, sf, k3⟩
  refine To2.bind2 (sf.storeN (ds := [.int .u64 s1, .int .i64 p1, .nils, .nils]) rfl (by decide) rfl (n := 4) rfl) ?_
  rintro u h4 ⟨sf4, k4⟩
  have l1 := k1.len
  have l2 := k2.len
  have k12 := k1.tr k2
  have k23 := k12.tr k3
  have k04 : Kp h h4 [] := k23.trans k4 (fun j hj => by cases hj) (fun j hj hlt => by simp at hj; omega)
  have xlt : h.length < h1'.length := st.lt
  refine To2.bind3 (second55 (m1 := m1) (s2 := s2) (p2 := p2) (m2 := m2) (s.kp k04) (by omega) sf4 (fun y sy => hB h4 y k04 sy)) ?_
  rintro x vs h5 ⟨rfl, rfl, k5, sf5⟩
  rw [hs] at sf5
  have hb0 : decide ((many : Int) < 0) = false := decide_eq_false (by omega)
  have k05 : Kp h h5 [] := k04.trans k5 (fun j hj => by cases hj) (fun j hj hlt => by simp at hj; omega)
  have s5 := s.kp k05
  have wl : IntKind.i64.wrap ((ms.length : Int) - 128) = (ms.length : Int) - 128 := wrap_i64 (by omega) (by omega)
  have td : Int.tdiv ((ms.length : Int) - 128) 576 = ((ms.length : Int) - 128) / 576 := Int.tdiv_eq_ediv_of_nonneg (by omega)
  have wd : IntKind.i64.wrap (((ms.length : Int) - 128) / 576) = ((ms.length : Int) - 128) / 576 := wrap_i64 (by omega) (by omega)
  have hb1 : decide (((ms.length : Int) - 128) / 576 < (many : Int)) = false := decide_eq_false (by omega)
  have dn : decide (EX.normal = EX.ret) = false := rfl
  simp only [decide_true, cB_true, castCons_cons, hs, castInt_int, castNil_nil, S55_2, hb0, cB_false, er_lenL s5, bv_length, bind1_some, wl, td, wd, hb1, bind3_some, dn]
  have k45 : Kp h1' h5 [] := ((k2.tr k3).trans k4 (C := []) (fun j hj => by cases hj) (fun j hj hlt => by simp at hj; omega)).trans k5 (fun j hj => by cases hj) (fun j hj hlt => by simp at hj; omega)
  have st5 : St h5 h.length zF := st.kp k45
  have F0 : Fd h1' h5 h2.length salt p nm pg 0 .nils .nils :=
    ⟨k45, l2, sf5, Sl.nils _ _, Ap.nils, (fun j hj => nomatch hj), ⟨[], Sl.nils _ _, rfl, (fun j hj => absurd hj (Nat.not_lt_zero _))⟩, Ap.nils, (fun j hj => nomatch hj)⟩
  refine To2.bind3 (recL lf hf (x2 := h.length) (s.kp k1) h0 h1 hm hl hn many 0 lf h5 .nils .nils (by omega) (by omega) F0) ?_
  rintro x vs h6 ⟨rfl, rfl, hk, nv, dv, F⟩
  have k56 : h6[h.length]? = h5[h.length]? := hk h.length (by have := st5.lt; omega) (by omega) (by simp [idsOf]) (by simp [idsOf])
  have st6 : St h6 h.length zF := by unfold St at st5 ⊢; rw [k56]; exact st5
  obtain ⟨es, sd, el, ee⟩ := F.sd
  simp only [decide_true, cB_true, castNil_nil, F.st.loadN' (n := 4) rfl, bind1_some, castAgg_agg, castCons_cons, castInt_int]
  refine To2.bind2 (st6.storeN (ds := [.int .u64 salt, .int .i64 p, nv, dv]) rfl (by decide) (by simp [F.sn.sc.2, sd.sc.2]; exact ⟨rfl, rfl⟩) (n := 4) rfl) ?_
  rintro u h7 ⟨st7, k7⟩
  have k67 : Kp h h7 [] := (k1.tr F.k).trans k7 (fun j hj => by cases hj) (fun j hj hlt => by simp at hj; omega)
  simp only [show evLoadN h7 4 (.ptr h.length 0 0) = some (.agg [.int .u64 salt, .int .i64 p, nv, dv]) from st7.loadN, bind1_some]
  have nn : ∀ j, j ∈ idsOf nv → j ∉ [h.length] := fun j hj z => by have := (F.jn j hj).1; simp at z; omega
  have nd : ∀ j, j ∈ idsOf dv → j ∉ [h.length] := fun j hj z => by have := (F.jd j hj).1; simp at z; omega
  refine To2.some ⟨k67, nv, dv, es, rfl, F.sn.keep k7 nn, sd.keep k7 nd, el, fun j hj => ?_⟩
  obtain ⟨e, e1, e2, e3⟩ := ee j hj
  exact ⟨e, e1, e2.keep k7 (fun q hq z => by have := (e3 q hq).1; simp at z; omega)⟩

/-- Read again. -/
theorem iaddr_kp {sz : Nat} {h h' : List Ob} {v : V} {es : List V} (s : Sl sz h v es) (k : Kp h h' []) (n : Int) : er (.iaddrL sz (.c v) (.c (.int .i64 n))) h' = er (.iaddrL sz (.c v) (.c (.int .i64 n))) h := by
  cases v with
  | hsl i o l =>
    have hsame := k.same i (s.lt (by simp [idsOf])) (by simp)
    simp only [er, ev, evOq, x_iaddrL, getC, evIaddrL, hsame]
    split
    · cases h[i]? with
      | none => rfl
      | some o => cases o <;> first | rfl | (simp only; split <;> rfl)
    · rfl
  | sl fs =>
    simp only [er, ev, evOq, x_iaddrL, getC, evIaddrL, Option.map_map]
    rfl
  | _ => rfl
theorem again1 {h h' : List Ob} {v : V} {es : List V} (s : Sl 1 h v es) (k : Kp h h' []) {n : Nat} {a x e : V} (he : es[n]? = some e) (hc : e.cells = [e]) (a1 : er (.iaddrL 1 (.c v) (.c (.int .i64 (n : Int)))) h = some a) (a2 : er (.load1 (.c a)) h = some x) :
    er (.iaddrL 1 (.c v) (.c (.int .i64 (n : Int)))) h' = some a ∧ er (.load1 (.c a)) h' = some x := by
  obtain ⟨c, y1, y2⟩ := s.at1 (k := (n : Int)) (e := e) (by omega) he hc
  rw [a1] at y1; injection y1 with y1; subst y1
  rw [a2] at y2; injection y2 with y2; subst y2
  obtain ⟨c', z1, z2⟩ := (s.kp k).at1 (k := (n : Int)) (e := x) (by omega) he hc
  have e1 := iaddr_kp s k (n : Int)
  rw [e1, a1] at z1; injection z1 with z1; subst z1
  exact ⟨by rw [e1, a1], z2⟩

/-! ### A list of parts -/
structure Pt where
  s : Int
  n : Int
  c : Int
  b : Int
abbrev cP (x : Pt) : List V := [.int .i64 x.s, .int .i64 x.n, .int .i64 x.c, .int .u8 x.b]
structure Ls (list : V) (l : List Pt) : Prop where
  len : ∀ hh, er (.lenL (.c list)) hh = some (.int .i64 l.length)
  at_ : ∀ (i : Nat) (x : Pt) (hh : List Ob), l[i]? = some x → er (.iaddrL 4 (.c list) (.c (.int .i64 (i : Int)))) hh = some (.ref (.agg (cP x)) 0)
theorem ref_faddr (v : V) (o : Nat) (hh : List Ob) : er (.faddr o (.c (.ref v 0))) hh = some (.ref v o) := by simp [er, ev, evOq, x_faddr, getC]
theorem ref_n (x : Pt) (hh : List Ob) : er (.load1 (.c (.ref (.agg (cP x)) 1))) hh = some (.int .i64 x.n) := by
  have q : rdCells hh 1 (.ref (.agg (cP x)) 1) = some [.int .i64 x.n] := rfl
  simp only [er, ev, evOq, x_load1, getC, evLoad1, q]; rfl
theorem ref_b (x : Pt) (hh : List Ob) : er (.load1 (.c (.ref (.agg (cP x)) 3))) hh = some (.int .u8 x.b) := by
  have q : rdCells hh 1 (.ref (.agg (cP x)) 3) = some [.int .u8 x.b] := rfl
  simp only [er, ev, evOq, x_load1, getC, evLoad1, q]; rfl
def nmP (n : Int) : Int := n % 65536 % 100
theorem nm_eq (n : Int) : IntKind.i64.wrap (Int.tmod (IntKind.u16.wrap n) 100) = nmP n := by
  rw [wrap_u16, Int.tmod_eq_emod_of_nonneg (by omega), wrap_i64 (by omega) (by omega)]; rfl
theorem nmP_range (n : Int) : 0 ≤ nmP n ∧ nmP n < 100 := by unfold nmP; omega
def zPt : Pt := ⟨0, 0, 0, 0⟩
def nmL (l : List Pt) (i : Nat) : Int := nmP (l.getD i zPt).n
def pgL (l : List Pt) (i : Nat) : List Int := List.replicate 512 (l.getD i zPt).b

theorem readL (lf : Nat) (hf : 1000 < lf) {H0 : List Ob} {f : Nat} {salt p : Int} {list nv dv : V} {l : List Pt} {es : List V} {many : Nat} (hm : many ≤ 12) (hml : many ≤ l.length) (L : Ls list l)
    (st : St H0 f [.int .u64 salt, .int .i64 p, nv, dv]) (sn : Sl 1 H0 nv ((List.range many).map fun j => .int .i64 (nmL l j))) (sd : Sl 1 H0 dv es) (el : es.length = many) (ee : ∀ j, j < many → ∃ e, es[j]? = some e ∧ Sl 1 H0 e (bv (pgL l j))) :
    ∀ (m i g : Nat) (h : List Ob), many = i + m → m < g → Kp H0 h [] → To3 (L31_0 lf g list (.ptr f 0 0) many i h) fun x vs h' => x = .exit 0 ∧ vs = [] ∧ Kp H0 h' [] := by
  intro m
  induction m with
  | zero =>
    intro i g h hk hg k
    obtain ⟨g, rfl⟩ : ∃ g', g = g' + 1 := ⟨g - 1, by omega⟩
    have hd : decide ((i : Int) < (many : Int)) = false := decide_eq_false (by omega)
    simp only [L31_0, B31_0, hd, cB_false]
    exact To3.some ⟨rfl, rfl, k⟩
  | succ m ih =>
    intro i g h hk hg k
    obtain ⟨g, rfl⟩ : ∃ g', g = g' + 1 := ⟨g - 1, by omega⟩
    have hi : i < many := by omega
    have hd : decide ((i : Int) < (many : Int)) = true := decide_eq_true (by omega)
    have w4 : IntKind.i64.wrap ((i : Int) + 1) = ((i + 1 : Nat) : Int) := by rw [wrap_i64 (by omega) (by omega)]; simp
    obtain ⟨e, e1, e2⟩ := ee i hi
    have hx : l[i]? = some (l[i]'(by omega)) := List.getElem?_eq_getElem (by omega)
    have hg0 : l.getD i zPt = l[i]'(by omega) := by rw [List.getD_eq_getElem?_getD, hx]; rfl
    obtain ⟨a, a1, a2⟩ := (sn.kp k).at1 (k := (i : Int)) (e := .int .i64 (nmL l i)) (by omega) (by simp [hi]) rfl
    obtain ⟨c, c1, c2⟩ := (sd.kp k).at1 (k := (i : Int)) (e := e) (by omega) (by simpa using e1) e2.cells
    have sth := st.kp k
    have hb0 : (nmL l i != nmL l i) = false := by simp
    have hnm : nmP (l[i]'(by omega)).n = nmL l i := by unfold nmL; rw [hg0]
    simp only [L31_0, B31_0, hd, cB_true, sth.faddr, sth.load1 (j := 0 + 2) (c := nv) rfl, sth.load1 (j := 0 + 3) (c := dv) rfl, bind1_some, a1, a2, castInt_int, L.at_ i _ h hx, ref_faddr, ref_n, nm_eq, hnm, hb0, cB_false, c1, c2, er_toStr (e2.kp k), castStr_str, ref_b]
    refine To3.bind2 (page30 hf) ?_
    rintro y h2 ny
    have k2 := ny.2.2.1
    obtain ⟨d1, d2⟩ := again1 (sd.kp k) k2 (n := i) e1 e2.cells c1 c2
    have st2 := sth.kp k2
    have hpg : List.replicate 512 (l[i]'(by omega)).b = pgL l i := by unfold pgL; rw [hg0]
    have hq : (by8 (pgL l i) == by8 (pgL l i)) = true := beq_self_eq_true _
    have ny1 := ny.1
    rw [hpg] at ny1
    simp only [er_toStr ((e2.kp k).kp k2), reP_pos, d1, d2, st2.faddr, st2.load1 (j := 0 + 3) (c := dv) rfl, er_toStr ny1, bind1_some, castStr_str, hq, Bool.not_true, cB_false, w4]
    exact ih (i + 1) g h2 (by omega) (by omega) (k.tr k2)

theorem read31 {lf : Nat} (hf : 1000 < lf) {h : List Ob} {b list : V} {ms : List Int} {l : List Pt} {s1 p1 m1 s2 p2 m2 salt p : Int} {many : Nat} (s : Sl 1 h b (bv ms)) (h0 : 0 ≤ salt) (h1 : salt < 18446744073709551616) (L : Ls list l)
    (hA : ∀ hh, Kp h hh [] → To2 (F76 lf b hh) (HdQ hh s1 p1 m1)) (hB : ∀ hh y, Kp h hh [] → Sl 1 hh y (bv (ms.drop 64)) → To2 (F76 lf y hh) (HdQ hh s2 p2 m2))
    (hs : pickH (s1, p1, m1) (s2, p2, m2) = (salt, p, (many : Int))) (hm : many ≤ 12) (hml : many ≤ l.length) (hl : 128 + many * 576 ≤ ms.length) (hl2 : ms.length ≤ 1000000000)
    (hn : ∀ i, i < many → (ms.drop (128 + i * 576)).take 576 = recB salt (nmL l i) (pgL l i)) :
    To2 (F31 lf b salt p list many h) fun v h' => v = .bool true ∧ Kp h h' [] := by
  simp only [F31]
  refine To2.bind2 (read55 hf s h0 h1 hA hB hs hm hl hl2 (nm := nmL l) (pg := pgL l) (fun i hi => ⟨(nmP_range _).1, by have := (nmP_range (l.getD i zPt).n).2; unfold nmL; omega, by simp [pgL], hn i hi⟩)) ?_
  intro v h2 q
  have k2 := q.k
  obtain ⟨nv, dv, es, rfl, sn, sd, el, ee⟩ := q.ex
  simp only [castTup_tup, castCons_cons, castAgg_agg, castInt_int, castBool_bool, castNil_nil]
  refine To2.bind2 (alloc_to (cs := zF) rfl) ?_
  rintro f h3 ⟨rfl, sf, k3⟩
  refine To2.bind2 (sf.storeN (ds := [.int .u64 salt, .int .i64 p, nv, dv]) rfl (by decide) (by simp [sn.sc.2, sd.sc.2]; exact ⟨rfl, rfl⟩) (n := 4) rfl) ?_
  rintro u h4 ⟨sf4, k4⟩
  have k24 : Kp h2 h4 [] := k3.trans k4 (fun j hj => by cases hj) (fun j hj hlt => by simp at hj; omega)
  have sn4 := sn.kp k24
  have sd4 := sd.kp k24
  have b1 : (salt != salt) = false := by simp
  have b2 : (p != p) = false := by simp
  have b3 : ((many : Int) != (many : Int)) = false := by simp
  have dn : decide (EX.normal = EX.ret) = false := rfl
  have ln : ((List.map (fun j => V.int .i64 (nmL l j)) (List.range many)).length : Int) = many := by simp
  have ld : (es.length : Int) = many := by omega
  simp only [S31_1, Bool.not_true, cB_false, sf4.faddr, sf4.load1 (j := 0 + 0) (c := .int .u64 salt) rfl, sf4.load1 (j := 0 + 1) (c := .int .i64 p) rfl, sf4.load1 (j := 0 + 2) (c := nv) rfl, sf4.load1 (j := 0 + 3) (c := dv) rfl, bind1_some, castInt_int, b1, b2, er_lenL sn4, er_lenL sd4, ln, ld, b3, bind3_some, dn, decide_true, cB_true, castNil_nil]
  refine To2.bind3 (readL lf hf hm hml L sf4 sn4 sd4 el (fun j hj => by obtain ⟨e, e1, e2⟩ := ee j hj; exact ⟨e, e1, e2.kp k24⟩) many 0 lf h4 (by omega) (by omega) (Kp.refl _ _)) ?_
  rintro x vs h5 ⟨rfl, rfl, k5⟩
  simp only [decide_true, cB_true, castNil_nil]
  exact To2.some ⟨rfl, (k2.tr k24).tr k5⟩
end Go.Proofs.Ytdcdmpgigmhhpaa.Jb
