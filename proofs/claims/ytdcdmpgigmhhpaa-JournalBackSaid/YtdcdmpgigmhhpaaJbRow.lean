/- JournalBack, the row: for every input the law returns true and the input reads behind the call as it read before. No condition beyond the statement's own. -/
import Derived.Test.YtdcdmpgigmhhpaaRows
import Derived.Test.YtdcdmpgigmhhpaaJbW
import Derived.WalkKit
import Derived.ProofKit
import Derived.OpenShut
import Derived.ShutString
import Derived.ChangeOld
import Derived.Below
import Derived.SizedLaws
namespace Go.Proofs.Ytdcdmpgigmhhpaa.journalBack
open Go.ChangeShapes Go.WideShapes Go.ChangeAt Go.RowKit
open Go.Proofs.Ytdcdmpgigmhhpaa.E
open Go.ChangeMaps (open_string)
set_option linter.unusedVariables false
theorem own : ownKnob Try.prog.godebug = none := by kernel_rfl
theorem laidOut : laidOutB Try.prog = true := by kernel_rfl
set_option maxRecDepth 100000 in
theorem lifted (os : Os) (started : os.Started) (H : Type) (enc : TypeId × Value → H) :
    ReturnsInHanded {} Try.checked os 7 .any (Rows.journalBackSpec.pre6 enc Try.prog Try.f7 Rows.journalBackRow.domain false) (Rows.journalBackSpec.post enc Try.prog Try.f7 false true false false) := by
  refine returnsInHanded_of_change_sized (C := Try.checked) own started (by kernel_rfl) Try.func7
    (ChangeSpec.witness6 (enc := enc) (C := Try.checked) false ⟨#[], #[.int .u64 0, .int .u8 0, .slice none 0 0, .int .u8 0, .int .u8 0, .bool false, .slice none 0 0], []⟩ 8 (by kernel_rfl) (by kernel_rfl) (by kernel_rfl) (by kernel_rfl)) ?_
  intro W base args ds gs before hval0 hW hcnd hsz0 _
  have hval : ∀ (j : Nat) t v, Try.f7.params[j]? = some t → args[j]? = some v → Value.okWide Try.prog W .any base t v := hval0
  have hW' := hW
  obtain ⟨p, q, hA0, hV, rfl, hfz, hnd⟩ := hW
  have hA : DataW.TrodAll enc Try.prog W 0 (fun _ => true) true Try.f7.params.toList args.toList ds p := hA0
  rw [Try.params7] at hA hval
  obtain ⟨v0, vs0, d0, ds0, p0, q0, hargs, rfl, rfl, h0, r0⟩ := trodAll_cons hA
  obtain ⟨v1, vs1, d1, ds1, p1, q1, rfl, rfl, rfl, h1, r1⟩ := trodAll_cons r0
  obtain ⟨v2, vs2, d2, ds2, p2, q2, rfl, rfl, rfl, h2, r2⟩ := trodAll_cons r1
  obtain ⟨v3, vs3, d3, ds3, p3, q3, rfl, rfl, rfl, h3, r3⟩ := trodAll_cons r2
  obtain ⟨v4, vs4, d4, ds4, p4, q4, rfl, rfl, rfl, h4, r4⟩ := trodAll_cons r3
  obtain ⟨v5, vs5, d5, ds5, p5, q5, rfl, rfl, rfl, h5, r5⟩ := trodAll_cons r4
  obtain ⟨v6, vs6, d6, ds6, p6, q6, rfl, rfl, rfl, h6, r6⟩ := trodAll_cons r5
  obtain ⟨rfl, rfl, rfl⟩ := trodAll_nil r6
  obtain rfl : args = #[v0, v1, v2, v3, v4, v5, v6] := by cases args; simp_all
  obtain ⟨rfl, rfl⟩ := trodVars_none hV
  have k0 := h0
  have k1 := h1
  have k2 := h2
  have k3 := h3
  have k4 := h4
  have k5 := h5
  have k6 := h6
  have lt0 : ∀ x ∈ p0, x.block < W.heap.size := by obtain ⟨m, hm⟩ := k0; exact DataW.trod_lt m _ _ _ hm
  have lt1 : ∀ x ∈ p1, x.block < W.heap.size := by obtain ⟨m, hm⟩ := k1; exact DataW.trod_lt m _ _ _ hm
  have lt2 : ∀ x ∈ p2, x.block < W.heap.size := by obtain ⟨m, hm⟩ := k2; exact DataW.trod_lt m _ _ _ hm
  have lt3 : ∀ x ∈ p3, x.block < W.heap.size := by obtain ⟨m, hm⟩ := k3; exact DataW.trod_lt m _ _ _ hm
  have lt4 : ∀ x ∈ p4, x.block < W.heap.size := by obtain ⟨m, hm⟩ := k4; exact DataW.trod_lt m _ _ _ hm
  have lt5 : ∀ x ∈ p5, x.block < W.heap.size := by obtain ⟨m, hm⟩ := k5; exact DataW.trod_lt m _ _ _ hm
  have lt6 : ∀ x ∈ p6, x.block < W.heap.size := by obtain ⟨m, hm⟩ := k6; exact DataW.trod_lt m _ _ _ hm
  obtain ⟨n0, hv0, _⟩ := open_int Try.underlying24 (hval 0 24 v0 rfl rfl) h0
  subst hv0
  obtain ⟨n1, hv1, _⟩ := open_int Try.underlying5 (hval 1 5 v1 rfl rfl) h1
  subst hv1
  have o2 := hval 2 44 v2 rfl rfl
  have ct2 : v2.cells = #[v2] := by
    cases v2 <;> first | rfl | (unfold Value.okWide at o2; rw [Try.underlying44] at o2; exact o2.elim)
  obtain ⟨n3, hv3, _⟩ := open_int Try.underlying5 (hval 3 5 v3 rfl rfl) h3
  subst hv3
  obtain ⟨n4, hv4, _⟩ := open_int Try.underlying5 (hval 4 5 v4 rfl rfl) h4
  subst hv4
  obtain ⟨c5, hv5, _⟩ := open_bool Try.underlying4 (hval 5 4 v5 rfl rfl) h5
  subst hv5
  have o6 := hval 6 22 v6 rfl rfl
  have ct6 : v6.cells = #[v6] := by
    cases v6 <;> first | rfl | (unfold Value.okWide at o6; rw [Try.underlying22] at o6; exact o6.elim)
  obtain ⟨m0, hm0⟩ := h0
  obtain ⟨m1, hm1⟩ := h1
  obtain ⟨m2, hm2⟩ := h2
  obtain ⟨m3, hm3⟩ := h3
  obtain ⟨m4, hm4⟩ := h4
  obtain ⟨m5, hm5⟩ := h5
  obtain ⟨m6, hm6⟩ := h6
  obtain ⟨u0, hu0⟩ := dV_some (P := Try.prog) (S := [24]) (by kernel_rfl) m0 24 _ d0 p0 rfl hm0
  obtain ⟨u1, hu1⟩ := dV_some (P := Try.prog) (S := [5]) (by kernel_rfl) m1 5 _ d1 p1 rfl hm1
  obtain ⟨u2, hu2⟩ := dV_some (P := Try.prog) (S := [44,47,3,5]) (by kernel_rfl) m2 44 _ d2 p2 rfl hm2
  obtain ⟨u3, hu3⟩ := dV_some (P := Try.prog) (S := [5]) (by kernel_rfl) m3 5 _ d3 p3 rfl hm3
  obtain ⟨u4, hu4⟩ := dV_some (P := Try.prog) (S := [5]) (by kernel_rfl) m4 5 _ d4 p4 rfl hm4
  obtain ⟨u5, hu5⟩ := dV_some (P := Try.prog) (S := [4]) (by kernel_rfl) m5 4 _ d5 p5 rfl hm5
  obtain ⟨u6, hu6⟩ := dV_some (P := Try.prog) (S := [22,5]) (by kernel_rfl) m6 22 _ d6 p6 rfl hm6
  obtain ⟨y0, y1, y2, y3, y4, y5, y6, rfl, rfl, rfl, rfl, rfl, rfl, rfl, hce⟩ := Go.Proofs.Ytdcdmpgigmhhpaa.Jb.shape hu0 hu1 hu2 hu3 hu4 hu5 hu6
  refine (calls_bool hce (ARep.cons (one_rep (trod_rep m0 24 _ d0 p0 _ hm0 hu0)) (ARep.cons (one_rep (trod_rep m1 5 _ d1 p1 _ hm1 hu1)) (ARep.cons (one_rep (trod_rep m2 44 _ d2 p2 _ (by rw [ct2] at hm2; exact hm2) hu2)) (ARep.cons (one_rep (trod_rep m3 5 _ d3 p3 _ hm3 hu3)) (ARep.cons (one_rep (trod_rep m4 5 _ d4 p4 _ hm4 hu4)) (ARep.cons (one_rep (trod_rep m5 4 _ d5 p5 _ hm5 hu5)) (ARep.cons (one_rep (trod_rep m6 22 _ d6 p6 _ (by rw [ct6] at hm6; exact hm6) hu6)) ARep.nil)))))))).mono fun e W' ⟨he, bel⟩ => ?_
  subst he
  exact ⟨_, rfl, _, _, _, [], _, [], hW', trodAll_mk1 (shut_bool Try.underlying4 _), (trodAll_cons_mk (Below.trod laidOut (by kernel_rfl) (of_decide_eq_true (by kernel_rfl)) k0 bel lt0) (trodAll_cons_mk (Below.trod laidOut (by kernel_rfl) (of_decide_eq_true (by kernel_rfl)) k1 bel lt1) (trodAll_cons_mk (Below.trod laidOut (by kernel_rfl) (of_decide_eq_true (by kernel_rfl)) k2 bel lt2) (trodAll_cons_mk (Below.trod laidOut (by kernel_rfl) (of_decide_eq_true (by kernel_rfl)) k3 bel lt3) (trodAll_cons_mk (Below.trod laidOut (by kernel_rfl) (of_decide_eq_true (by kernel_rfl)) k4 bel lt4) (trodAll_cons_mk (Below.trod laidOut (by kernel_rfl) (of_decide_eq_true (by kernel_rfl)) k5 bel lt5) (trodAll_cons_mk (Below.trod laidOut (by kernel_rfl) (of_decide_eq_true (by kernel_rfl)) k6 bel lt6) trodAll_mk0))))))), rfl, bel.frame _, fun h => by cases h⟩
theorem over : Rows.journalBackRow.holds Try.pinned (OpenSpec.ofChange Rows.journalBackSpec) :=
  OpenClaim.holds_of_wide 7 Try.f7 rfl rfl rfl rfl rfl rfl rfl ⟨rfl, rfl, rfl, rfl, rfl⟩ rfl rfl rfl rfl rfl (by kernel_rfl) Try.func7 (by kernel_rfl)
    (of_decide_eq_true (by kernel_rfl)) (by unfold Func.isWrapper; first | (rw [if_pos (by decide +kernel)]; kernel_rfl) | (rw [if_neg (by decide +kernel)]; exact ⟨rfl, rfl⟩))
    (fun os started H enc _ => lifted os started H enc)
theorem proved : Rows.JournalBackSaid := over
#print axioms proved
end Go.Proofs.Ytdcdmpgigmhhpaa.journalBack
namespace Go.Proofs.Ytdcdmpgigmhhpaa
/-- The row, under a short name, for the claim. -/
theorem journalBack_holds : Rows.JournalBackSaid := journalBack.proved
end Go.Proofs.Ytdcdmpgigmhhpaa
