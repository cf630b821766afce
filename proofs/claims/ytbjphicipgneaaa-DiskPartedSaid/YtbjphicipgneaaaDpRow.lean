/- DiskParted, the row: for every input the law returns true and the input reads behind the call as it read before. No condition beyond the statement's own. -/
import Derived.Test.YtbjphicipgneaaaRows
import Derived.Test.YtbjphicipgneaaaDkY
import Derived.WalkKit
import Derived.ProofKit
import Derived.OpenShut
import Derived.ShutString
import Derived.ChangeOld
import Derived.Below
import Derived.SizedLaws
namespace Go.Proofs.Ytbjphicipgneaaa.diskParted
open Go.ChangeShapes Go.WideShapes Go.ChangeAt Go.RowKit
open Go.Proofs.Ytbjphicipgneaaa.E
open Go.ChangeMaps (open_string)
set_option linter.unusedVariables false
theorem own : ownKnob Try.prog.godebug = none := by kernel_rfl
theorem laidOut : laidOutB Try.prog = true := by kernel_rfl
set_option maxRecDepth 100000 in
theorem lifted (os : Os) (started : os.Started) (H : Type) (enc : TypeId × Value → H) :
    ReturnsInHanded {} Try.checked os 3 .any (Rows.diskPartedSpec.pre6 enc Try.prog Try.f3 Rows.diskPartedRow.domain false) (Rows.diskPartedSpec.post enc Try.prog Try.f3 false true false false) := by
  refine returnsInHanded_of_change_sized (C := Try.checked) own started (by kernel_rfl) Try.func3
    (ChangeSpec.witness6 (enc := enc) (C := Try.checked) false ⟨#[], #[.slice none 0 0, .int .u16 0, .slice none 0 0, .int .u64 0], []⟩ 8 (by kernel_rfl) (by kernel_rfl) (by kernel_rfl) (by kernel_rfl)) ?_
  intro W base args ds gs before hval0 hW hcnd hsz0 _
  have hval : ∀ (j : Nat) t v, Try.f3.params[j]? = some t → args[j]? = some v → Value.okWide Try.prog W .any base t v := hval0
  have hW' := hW
  obtain ⟨p, q, hA0, hV, rfl, hfz, hnd⟩ := hW
  have hA : DataW.TrodAll enc Try.prog W 0 (fun _ => true) true Try.f3.params.toList args.toList ds p := hA0
  rw [Try.params3] at hA hval
  obtain ⟨v0, vs0, d0, ds0, p0, q0, hargs, rfl, rfl, h0, r0⟩ := trodAll_cons hA
  obtain ⟨v1, vs1, d1, ds1, p1, q1, rfl, rfl, rfl, h1, r1⟩ := trodAll_cons r0
  obtain ⟨v2, vs2, d2, ds2, p2, q2, rfl, rfl, rfl, h2, r2⟩ := trodAll_cons r1
  obtain ⟨v3, vs3, d3, ds3, p3, q3, rfl, rfl, rfl, h3, r3⟩ := trodAll_cons r2
  obtain ⟨rfl, rfl, rfl⟩ := trodAll_nil r3
  obtain rfl : args = #[v0, v1, v2, v3] := by cases args; simp_all
  obtain ⟨rfl, rfl⟩ := trodVars_none hV
  have k0 := h0
  have k1 := h1
  have k2 := h2
  have k3 := h3
  have lt0 : ∀ x ∈ p0, x.block < W.heap.size := by obtain ⟨m, hm⟩ := k0; exact DataW.trod_lt m _ _ _ hm
  have lt1 : ∀ x ∈ p1, x.block < W.heap.size := by obtain ⟨m, hm⟩ := k1; exact DataW.trod_lt m _ _ _ hm
  have lt2 : ∀ x ∈ p2, x.block < W.heap.size := by obtain ⟨m, hm⟩ := k2; exact DataW.trod_lt m _ _ _ hm
  have lt3 : ∀ x ∈ p3, x.block < W.heap.size := by obtain ⟨m, hm⟩ := k3; exact DataW.trod_lt m _ _ _ hm
  have o0 := hval 0 22 v0 rfl rfl
  have ct0 : v0.cells = #[v0] := by
    cases v0 <;> first | rfl | (unfold Value.okWide at o0; rw [Try.underlying22] at o0; exact o0.elim)
  obtain ⟨n1, hv1, _⟩ := open_int Try.underlying23 (hval 1 23 v1 rfl rfl) h1
  subst hv1
  have o2 := hval 2 24 v2 rfl rfl
  have ct2 : v2.cells = #[v2] := by
    cases v2 <;> first | rfl | (unfold Value.okWide at o2; rw [Try.underlying24] at o2; exact o2.elim)
  obtain ⟨n3, hv3, _⟩ := open_int Try.underlying25 (hval 3 25 v3 rfl rfl) h3
  subst hv3
  obtain ⟨m0, hm0⟩ := h0
  obtain ⟨m1, hm1⟩ := h1
  obtain ⟨m2, hm2⟩ := h2
  obtain ⟨m3, hm3⟩ := h3
  obtain ⟨u0, hu0⟩ := dV_some (P := Try.prog) (S := [22,32,3,24,5,30]) (by kernel_rfl) m0 22 _ d0 p0 rfl hm0
  obtain ⟨u1, hu1⟩ := dV_some (P := Try.prog) (S := [23]) (by kernel_rfl) m1 23 _ d1 p1 rfl hm1
  obtain ⟨u2, hu2⟩ := dV_some (P := Try.prog) (S := [24,5]) (by kernel_rfl) m2 24 _ d2 p2 rfl hm2
  obtain ⟨u3, hu3⟩ := dV_some (P := Try.prog) (S := [25]) (by kernel_rfl) m3 25 _ d3 p3 rfl hm3
  have hsz1 : (DataW.weightsEach Try.prog [22, 23, 24, 25] [d0, d1, d2, d3]).all (· ≤ reachBytes) = true := by have q := hsz0; rw [Try.params3] at q; exact q
  obtain ⟨y0, y1, y2, y3, rfl, rfl, rfl, rfl, hce⟩ := Go.Proofs.Ytbjphicipgneaaa.Dk.shape hsz1 hu0 hu1 hu2 hu3
  refine (calls_bool hce (ARep.cons (one_rep (trod_rep m0 22 _ d0 p0 _ (by rw [ct0] at hm0; exact hm0) hu0)) (ARep.cons (one_rep (trod_rep m1 23 _ d1 p1 _ hm1 hu1)) (ARep.cons (one_rep (trod_rep m2 24 _ d2 p2 _ (by rw [ct2] at hm2; exact hm2) hu2)) (ARep.cons (one_rep (trod_rep m3 25 _ d3 p3 _ hm3 hu3)) ARep.nil))))).mono fun e W' ⟨he, bel⟩ => ?_
  subst he
  exact ⟨_, rfl, _, _, _, [], _, [], hW', trodAll_mk1 (shut_bool Try.underlying4 _), (trodAll_cons_mk (Below.trod laidOut (by kernel_rfl) (of_decide_eq_true (by kernel_rfl)) k0 bel lt0) (trodAll_cons_mk (Below.trod laidOut (by kernel_rfl) (of_decide_eq_true (by kernel_rfl)) k1 bel lt1) (trodAll_cons_mk (Below.trod laidOut (by kernel_rfl) (of_decide_eq_true (by kernel_rfl)) k2 bel lt2) (trodAll_cons_mk (Below.trod laidOut (by kernel_rfl) (of_decide_eq_true (by kernel_rfl)) k3 bel lt3) trodAll_mk0)))), rfl, bel.frame _, fun h => by cases h⟩
theorem over : Rows.diskPartedRow.holds Try.pinned (OpenSpec.ofChange Rows.diskPartedSpec) :=
  OpenClaim.holds_of_wide 3 Try.f3 rfl rfl rfl rfl rfl rfl rfl ⟨rfl, rfl, rfl, rfl, rfl⟩ rfl rfl rfl rfl rfl (by kernel_rfl) Try.func3 (by kernel_rfl)
    (of_decide_eq_true (by kernel_rfl)) (by unfold Func.isWrapper; first | (rw [if_pos (by decide +kernel)]; kernel_rfl) | (rw [if_neg (by decide +kernel)]; exact ⟨rfl, rfl⟩))
    (fun os started H enc _ => lifted os started H enc)
theorem proved : Rows.DiskPartedSaid := over
#print axioms proved
end Go.Proofs.Ytbjphicipgneaaa.diskParted
namespace Go.Proofs.Ytbjphicipgneaaa
/-- The row, under a short name, for the claim. -/
theorem diskParted_holds : Rows.DiskPartedSaid := diskParted.proved
end Go.Proofs.Ytbjphicipgneaaa
