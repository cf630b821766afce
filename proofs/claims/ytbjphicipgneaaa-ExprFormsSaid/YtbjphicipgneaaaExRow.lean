/- ExprForms, the row: for every input the law returns true and the input reads behind the call as it read before. No condition beyond the statement's own. -/
import Derived.Test.YtbjphicipgneaaaRows
import Derived.Test.YtbjphicipgneaaaExW
import Derived.WalkKit
import Derived.ProofKit
import Derived.OpenShut
import Derived.ShutString
import Derived.ChangeOld
import Derived.Below
import Derived.SizedLaws
namespace Go.Proofs.Ytbjphicipgneaaa.exprForms
open Go.ChangeShapes Go.WideShapes Go.ChangeAt Go.RowKit
open Go.Proofs.Ytbjphicipgneaaa.E
open Go.ChangeMaps (open_string)
set_option linter.unusedVariables false
theorem own : ownKnob Try.prog.godebug = none := by kernel_rfl
theorem laidOut : laidOutB Try.prog = true := by kernel_rfl
set_option maxRecDepth 100000 in
theorem lifted (os : Os) (started : os.Started) (H : Type) (enc : TypeId × Value → H) :
    ReturnsInHanded {} Try.checked os 9 .any (Rows.exprFormsSpec.pre6 enc Try.prog Try.f9 Rows.exprFormsRow.domain false) (Rows.exprFormsSpec.post enc Try.prog Try.f9 false true false false) := by
  refine returnsInHanded_of_change_sized (C := Try.checked) own started (by kernel_rfl) Try.func9
    (ChangeSpec.witness6 (enc := enc) (C := Try.checked) false ⟨#[], #[.agg #[.int .i64 0, .string ⟨#[]⟩, .int .i64 0, .int .i64 0, .string ⟨#[]⟩, .string ⟨#[]⟩, .string ⟨#[]⟩, .slice none 0 0], .agg #[.int .i64 0, .string ⟨#[]⟩, .int .i64 0, .int .i64 0, .string ⟨#[]⟩, .string ⟨#[]⟩, .string ⟨#[]⟩, .slice none 0 0]], []⟩ 8 (by kernel_rfl) (by kernel_rfl) (by kernel_rfl) (by kernel_rfl)) ?_
  intro W base args ds gs before hval0 hW hcnd hsz0 _
  have hval : ∀ (j : Nat) t v, Try.f9.params[j]? = some t → args[j]? = some v → Value.okWide Try.prog W .any base t v := hval0
  have hW' := hW
  obtain ⟨p, q, hA0, hV, rfl, hfz, hnd⟩ := hW
  have hA : DataW.TrodAll enc Try.prog W 0 (fun _ => true) true Try.f9.params.toList args.toList ds p := hA0
  rw [Try.params9] at hA hval
  obtain ⟨v0, vs0, d0, ds0, p0, q0, hargs, rfl, rfl, h0, r0⟩ := trodAll_cons hA
  obtain ⟨v1, vs1, d1, ds1, p1, q1, rfl, rfl, rfl, h1, r1⟩ := trodAll_cons r0
  obtain ⟨rfl, rfl, rfl⟩ := trodAll_nil r1
  obtain rfl : args = #[v0, v1] := by cases args; simp_all
  obtain ⟨rfl, rfl⟩ := trodVars_none hV
  have k0 := h0
  have k1 := h1
  have lt0 : ∀ x ∈ p0, x.block < W.heap.size := by obtain ⟨m, hm⟩ := k0; exact DataW.trod_lt m _ _ _ hm
  have lt1 : ∀ x ∈ p1, x.block < W.heap.size := by obtain ⟨m, hm⟩ := k1; exact DataW.trod_lt m _ _ _ hm
  have o0 := hval 0 78 v0 rfl rfl
  unfold Value.okWide at o0
  rw [Try.underlying78] at o0
  obtain ⟨xs0, rfl, _, _⟩ := o0
  have o1 := hval 1 78 v1 rfl rfl
  unfold Value.okWide at o1
  rw [Try.underlying78] at o1
  obtain ⟨xs1, rfl, _, _⟩ := o1
  obtain ⟨m0, hm0⟩ := h0
  obtain ⟨m1, hm1⟩ := h1
  obtain ⟨u0, hu0⟩ := dV_some (P := Try.prog) (S := [78,3,2,9,75,76]) (by kernel_rfl) m0 78 _ d0 p0 rfl hm0
  obtain ⟨u1, hu1⟩ := dV_some (P := Try.prog) (S := [78,3,2,9,75,76]) (by kernel_rfl) m1 78 _ d1 p1 rfl hm1
  have hsz1 : (DataW.weightsEach Try.prog [78, 78] [d0, d1]).all (· ≤ reachBytes) = true := by have q := hsz0; rw [Try.params9] at q; exact q
  have hce := Go.Proofs.Ytbjphicipgneaaa.Ex.shape hsz1 hu0 hu1
  refine (calls_bool hce (ARep.cons (agg_rep (trod_rep m0 78 _ d0 p0 u0 hm0 hu0)) (ARep.cons (agg_rep (trod_rep m1 78 _ d1 p1 u1 hm1 hu1)) ARep.nil))).mono fun e W' ⟨he, bel⟩ => ?_
  subst he
  exact ⟨_, rfl, _, _, _, [], _, [], hW', trodAll_mk1 (shut_bool Try.underlying4 _), (trodAll_cons_mk (Below.trod laidOut (by kernel_rfl) (of_decide_eq_true (by kernel_rfl)) k0 bel lt0) (trodAll_cons_mk (Below.trod laidOut (by kernel_rfl) (of_decide_eq_true (by kernel_rfl)) k1 bel lt1) trodAll_mk0)), rfl, bel.frame _, fun h => by cases h⟩
theorem over : Rows.exprFormsRow.holds Try.pinned (OpenSpec.ofChange Rows.exprFormsSpec) :=
  OpenClaim.holds_of_wide 9 Try.f9 rfl rfl rfl rfl rfl rfl rfl ⟨rfl, rfl, rfl, rfl, rfl⟩ rfl rfl rfl rfl rfl (by kernel_rfl) Try.func9 (by kernel_rfl)
    (of_decide_eq_true (by kernel_rfl)) (by unfold Func.isWrapper; first | (rw [if_pos (by decide +kernel)]; kernel_rfl) | (rw [if_neg (by decide +kernel)]; exact ⟨rfl, rfl⟩))
    (fun os started H enc _ => lifted os started H enc)
theorem proved : Rows.ExprFormsSaid := over
#print axioms proved
end Go.Proofs.Ytbjphicipgneaaa.exprForms
namespace Go.Proofs.Ytbjphicipgneaaa
/-- The row, under a short name, for the claim. -/
theorem exprForms_holds : Rows.ExprFormsSaid := exprForms.proved
end Go.Proofs.Ytbjphicipgneaaa
