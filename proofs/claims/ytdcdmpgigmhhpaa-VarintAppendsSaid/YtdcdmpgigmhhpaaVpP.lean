/- VarintAppends: the law's answer for every input. No condition. -/
import Derived.Test.YtdcdmpgigmhhpaaVps
import Derived.Test.YtdcdmpgigmhhpaaVaR
import Derived.Test.YtdcdmpgigmhhpaaE38
import Derived.SizedLaws
namespace Go.Proofs.Ytdcdmpgigmhhpaa.Vp
open Go Go.Proofs.Ytdcdmpgigmhhpaa.E
open Go.Proofs.Ytdcdmpgigmhhpaa.Va
set_option maxRecDepth 100000
set_option linter.unusedVariables false
set_option linter.unusedSimpArgs false

theorem awake14 {lf : Nat} (hf : 20 < lf) {h : List Ob} : To2 (F14 lf h) fun v h' => v = .bool true ∧ Kp h h' [] := by
  simp only [F14]
  refine To2.bind2 (bslice_to (ps := [(0, .int .u8 5)]) (es := bv [5]) (by decide) rfl rfl rfl) ?_
  rintro x h1 ⟨-, -, sx, -, kx, -⟩
  rw [take15 sx (by intro m hm; simp at hm; omega) (by simp) (by simp; omega)]
  have : takeF [5] 0 0 = (5, 1, 0) := by decide
  simp only [bind2_some, this, tk, castTup_tup, castCons_cons, castInt_int, castNil_nil]
  exact To2.some ⟨rfl, kx⟩
theorem Byt.append {a b : List Int} (ha : Byt a) (hb : Byt b) : Byt (a ++ b) := fun m hm => (List.mem_append.1 hm).elim (ha m) (hb m)

theorem law6 {lf : Nat} {h : List Ob} {b d : V} {bs ds : List Int} {n s : Int} (hf : 20 + ds.length < lf) (sb : Sl 1 h b (bv bs)) (ib : idsOf b = []) (hbs : Byt bs) (lb : bs.length ≤ 140737488351232)
    (hn : 0 ≤ n ∧ n < 18446744073709551616) (hs : -9223372036854775808 ≤ s ∧ s < 9223372036854775808) (sd : Sl 1 h d (bv ds)) (id : idsOf d = []) (hds : Byt ds) (ld : ds.length ≤ 140737488351232) :
    To2 (F6 lf b n s d h) fun v _ => v = .bool true := by
  obtain ⟨n, rfl⟩ := Int.eq_ofNat_of_zero_le hn.1
  have hr : roomMax = 140737488355328 := rfl
  have hz := zig_lt hs.1 hs.2
  have l1 := numB_len n
  have l2 := numB_len (zig s)
  have q1 := numB_byt n
  have q2 := numB_byt (zig s)
  have nn : n < 18446744073709551616 := by omega
  simp only [F6]
  refine To2.bind2 (awake14 (by omega)) ?_
  rintro v h1 ⟨rfl, k1⟩
  simp only [castBool_bool, Bool.not_true, cB_false]
  refine To2.bind2 (num27 (by omega) nn) ?_
  intro x h2 nx
  simp only [er_toStr nx.1, bind1_some, castStr_str]
  refine To2.bind2 (sig28 (by omega) hs.1 hs.2) ?_
  intro y h3 ny
  have sx3 := nx.1.kp ny.2.2.1
  rw [reP_pos _ (er_toStr sx3)]
  simp only [er_toStr ny.1, bind1_some, castStr_str]
  have k13 : Kp h h3 [] := (k1.tr nx.2.2.1).tr ny.2.2.1
  refine To2.bind2 (toBytes_to q1) ?_
  intro z h4 nz
  have sd4 : Sl 1 h4 d (bv ds) := sd.kp (k13.tr nz.2.2.1)
  refine To2.bind2 (app_to nz.1 nz.2.1 sd4.c (by simp; omega)) ?_
  intro w h5 qw
  have nw := New.beh nz qw
  rw [← bv_append] at nw
  rw [take15 nw.1 (Byt.append q1 hds) (by simp; omega) (by simp; omega), takeF_num n nn]
  simp only [bind2_some, tk, castTup_tup, castCons_cons, castInt_int, castNil_nil]
  refine To2.bind2 (toBytes_to q2) ?_
  intro z2 h6 nz2
  have k16 : Kp h h6 [] := (k13.tr nw.2.2.1).tr nz2.2.2.1
  have sd6 : Sl 1 h6 d (bv ds) := sd.kp k16
  refine To2.bind2 (app_to nz2.1 nz2.2.1 sd6.c (by simp; omega)) ?_
  intro w2 h7 qw2
  have nw2 := New.beh nz2 qw2
  rw [← bv_append] at nw2
  rw [take17 nw2.1 (Byt.append q2 hds) (by simp; omega) (by simp; omega), takeF_num (zig s) hz, zag_zig]
  have k17 : Kp h h7 [] := ((k13.tr nw.2.2.1)).tr nw2.2.2.1
  have sb7 := sb.kp k17
  simp only [bind2_some, castTup_tup, castCons_cons, castInt_int, castNil_nil, er_toStr sb7, bind1_some, castStr_str]
  rw [er_addS (by simp; omega)]
  simp only [bind1_some, castStr_str]
  refine To2.bind2 (app26 (by omega) sb7 nn (by omega)) ?_
  intro u h8 nu
  have sb8 := sb7.kp nu.2.2.1
  rw [reP_pos _ (er_toStr sb8)]
  have e1 : (by8 (bs ++ numB n) == by8 bs ++ by8 (numB n)) = true := by rw [by8_append]; simp
  simp only [er_toStr nu.1, bind1_some, castStr_str, e1, cB_true, er_toStr sb8]
  rw [er_addS (by simp; omega)]
  simp only [bind1_some, castStr_str]
  refine To2.bind2 (sig29 (by omega) sb8 hs.1 hs.2 (by omega)) ?_
  intro u2 h9 nu2
  have sb9 := sb8.kp nu2.2.2.1
  rw [reP_pos _ (er_toStr sb9)]
  have e2 : (by8 (bs ++ numB (zig s)) == by8 bs ++ by8 (numB (zig s))) = true := by rw [by8_append]; simp
  simp only [er_toStr nu2.1, bind1_some, castStr_str, e2, cB_true, by8_length, beq_self_eq_true]
  exact To2.some rfl

theorem shape {H : Type} {d0 d1 d2 d3 : DataW H} {u0 u1 u2 u3 : List V} (hsz : (DataW.weightsEach Try.prog [22, 24, 2, 22] [d0, d1, d2, d3]).all (· ≤ reachBytes) = true) (h0 : dV Try.prog d0 22 = some u0) (h1 : dV Try.prog d1 24 = some u1) (h2 : dV Try.prog d2 2 = some u2) (h3 : dV Try.prog d3 22 = some u3) :
    ∃ y0 y1 y2 y3, u0 = [y0] ∧ u1 = [y1] ∧ u2 = [y2] ∧ u3 = [y3] ∧ CE Try.prog 6 [y0, y1, y2, y3] [] fun v _ => v = .bool true := by
  obtain ⟨b, bs, rfl, sb, ib, hb, lb, -⟩ := dV_bytes Try.underlying22 Try.underlying5 h0
  obtain ⟨n, rfl, l1⟩ := dV_u64 Try.underlying24 h1
  obtain ⟨s, rfl, l2⟩ := dV_i64 Try.underlying2 h2
  obtain ⟨d, ds, rfl, sd, id, hd, ld, -⟩ := dV_bytes Try.underlying22 Try.underlying5 h3
  have lb' := bytes_sized hsz (j := 0) rfl rfl Try.underlying22 (by kernel_rfl) h0 sb
  have ld' := bytes_sized hsz (j := 3) rfl rfl Try.underlying22 (by kernel_rfl) h3 sd
  obtain ⟨v, h', e, q⟩ := law6 (lf := 21 + ds.length) (h := []) (by omega) (sb []) ib hb lb' l1 l2 (sd []) id hd ld'
  exact ⟨_, _, _, _, rfl, rfl, rfl, rfl, (F6_ok _ _ _ _ _ _ _ _ e).2.mono fun v2 h2 z => by rw [z.1]; exact q⟩
end Go.Proofs.Ytdcdmpgigmhhpaa.Vp
