/- RecordEncodes, the row: for every input the law returns true and the input reads behind the call as it read before. No condition beyond the statement's own. -/
import Derived.Test.YtdcdmpgigmhhpaaRows
import Derived.Test.YtdcdmpgigmhhpaaReP
import Derived.WalkKit
import Derived.ProofKit
import Derived.OpenShut
import Derived.ShutString
import Derived.ChangeOld
import Derived.Below
import Derived.SizedLaws
namespace Go.Proofs.Ytdcdmpgigmhhpaa.recordEncodes
open Go.ChangeShapes Go.WideShapes Go.ChangeAt Go.RowKit
open Go.Proofs.Ytdcdmpgigmhhpaa.E
open Go.ChangeMaps (open_string)
set_option linter.unusedVariables false
theorem own : ownKnob Try.prog.godebug = none := by kernel_rfl
theorem laidOut : laidOutB Try.prog = true := by kernel_rfl
set_option maxRecDepth 100000 in
theorem lifted (os : Os) (started : os.Started) (H : Type) (enc : TypeId × Value → H) :
    ReturnsInHanded {} Try.checked os 9 .any (Rows.recordEncodesSpec.pre6 enc Try.prog Try.f9 Rows.recordEncodesRow.domain false) (Rows.recordEncodesSpec.post enc Try.prog Try.f9 false true false false) := by
  refine returnsInHanded_of_change_sized (C := Try.checked) own started (by kernel_rfl) Try.func9
    (ChangeSpec.witness6 (enc := enc) (C := Try.checked) false ⟨#[], #[.slice none 0 0], []⟩ 8 (by kernel_rfl) (by kernel_rfl) (by kernel_rfl) (by kernel_rfl)) ?_
  intro W base args ds gs before hval0 hW hcnd hsz0 _
  have hval : ∀ (j : Nat) t v, Try.f9.params[j]? = some t → args[j]? = some v → Value.okWide Try.prog W .any base t v := hval0
  have hW' := hW
  obtain ⟨p, q, hA0, hV, rfl, hfz, hnd⟩ := hW
  have hA : DataW.TrodAll enc Try.prog W 0 (fun _ => true) true Try.f9.params.toList args.toList ds p := hA0
  rw [Try.params9] at hA hval
  obtain ⟨v0, vs0, d0, ds0, p0, q0, hargs, rfl, rfl, h0, r0⟩ := trodAll_cons hA
  obtain ⟨rfl, rfl, rfl⟩ := trodAll_nil r0
  obtain rfl : args = #[v0] := by cases args; simp_all
  obtain ⟨rfl, rfl⟩ := trodVars_none hV
  have k0 := h0
  have lt0 : ∀ x ∈ p0, x.block < W.heap.size := by obtain ⟨m, hm⟩ := k0; exact DataW.trod_lt m _ _ _ hm
  have o0 := hval 0 61 v0 rfl rfl
  have ct0 : v0.cells = #[v0] := by
    cases v0 <;> first | rfl | (unfold Value.okWide at o0; rw [Try.underlying61] at o0; exact o0.elim)
  obtain ⟨m0, hm0⟩ := h0
  obtain ⟨u0, hu0⟩ := dV_some (P := Try.prog) (S := [61,91,3,2,9]) (by kernel_rfl) m0 61 _ d0 p0 rfl hm0
  obtain ⟨y0, rfl, hce⟩ := Go.Proofs.Ytdcdmpgigmhhpaa.Re.shape hu0
  refine (calls_bool hce (ARep.cons (one_rep (trod_rep m0 61 _ d0 p0 _ (by rw [ct0] at hm0; exact hm0) hu0)) ARep.nil)).mono fun e W' ⟨he, bel⟩ => ?_
  subst he
  exact ⟨_, rfl, _, _, _, [], _, [], hW', trodAll_mk1 (shut_bool Try.underlying4 _), (trodAll_cons_mk (Below.trod laidOut (by kernel_rfl) (of_decide_eq_true (by kernel_rfl)) k0 bel lt0) trodAll_mk0), rfl, bel.frame _, fun h => by cases h⟩
theorem over : Rows.recordEncodesRow.holds Try.pinned (OpenSpec.ofChange Rows.recordEncodesSpec) :=
  OpenClaim.holds_of_wide 9 Try.f9 rfl rfl rfl rfl rfl rfl rfl ⟨rfl, rfl, rfl, rfl, rfl⟩ rfl rfl rfl rfl rfl (by kernel_rfl) Try.func9 (by kernel_rfl)
    (of_decide_eq_true (by kernel_rfl)) (by unfold Func.isWrapper; first | (rw [if_pos (by decide +kernel)]; kernel_rfl) | (rw [if_neg (by decide +kernel)]; exact ⟨rfl, rfl⟩))
    (fun os started H enc _ => lifted os started H enc)
theorem proved : Rows.RecordEncodesSaid := over
#print axioms proved
end Go.Proofs.Ytdcdmpgigmhhpaa.recordEncodes
namespace Go.Proofs.Ytdcdmpgigmhhpaa
/-- The row, under a short name, for the claim. -/
theorem recordEncodes_holds : Rows.RecordEncodesSaid := recordEncodes.proved
end Go.Proofs.Ytdcdmpgigmhhpaa
