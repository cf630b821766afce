/- CatalogNil, the row: for every input the law returns true and the input reads behind the call as it read before. No condition beyond the statement's own. -/
import Derived.Test.YtbjphicipgneaaaRows
import Derived.Test.YtbjphicipgneaaaCn5
import Derived.WalkKit
import Derived.ProofKit
import Derived.OpenShut
import Derived.ShutString
import Derived.ChangeOld
import Derived.Below
import Derived.SizedLaws
namespace Go.Proofs.Ytbjphicipgneaaa.catalogNil
open Go.ChangeShapes Go.WideShapes Go.ChangeAt Go.RowKit
open Go.Proofs.Ytbjphicipgneaaa.E
open Go.ChangeMaps (open_string)
set_option linter.unusedVariables false
theorem own : ownKnob Try.prog.godebug = none := by kernel_rfl
theorem laidOut : laidOutB Try.prog = true := by kernel_rfl
set_option maxRecDepth 100000 in
theorem lifted (os : Os) (started : os.Started) (H : Type) (enc : TypeId × Value → H) :
    ReturnsInHanded {} Try.checked os 8 .any (Rows.catalogNilSpec.pre6 enc Try.prog Try.f8 Rows.catalogNilRow.domain false) (Rows.catalogNilSpec.post enc Try.prog Try.f8 false true false false) := by
  refine returnsInHanded_of_change_sized (C := Try.checked) own started (by kernel_rfl) Try.func8
    (ChangeSpec.witness6 (enc := enc) (C := Try.checked) false ⟨#[], #[.agg #[.int .i64 0, .string ⟨#[]⟩, .string ⟨#[]⟩, .slice none 0 0, .slice none 0 0, .bool false, .string ⟨#[]⟩, .slice none 0 0, .int .i64 0], .int .i64 0, .string ⟨#[]⟩], []⟩ 8 (by kernel_rfl) (by kernel_rfl) (by kernel_rfl) (by kernel_rfl)) ?_
  intro W base args ds gs before hval0 hW hcnd hsz0 _
  have hval : ∀ (j : Nat) t v, Try.f8.params[j]? = some t → args[j]? = some v → Value.okWide Try.prog W .any base t v := hval0
  have hW' := hW
  obtain ⟨p, q, hA0, hV, rfl, hfz, hnd⟩ := hW
  have hA : DataW.TrodAll enc Try.prog W 0 (fun _ => true) true Try.f8.params.toList args.toList ds p := hA0
  rw [Try.params8] at hA hval
  obtain ⟨v0, vs0, d0, ds0, p0, q0, hargs, rfl, rfl, h0, r0⟩ := trodAll_cons hA
  obtain ⟨v1, vs1, d1, ds1, p1, q1, rfl, rfl, rfl, h1, r1⟩ := trodAll_cons r0
  obtain ⟨v2, vs2, d2, ds2, p2, q2, rfl, rfl, rfl, h2, r2⟩ := trodAll_cons r1
  obtain ⟨rfl, rfl, rfl⟩ := trodAll_nil r2
  obtain rfl : args = #[v0, v1, v2] := by cases args; simp_all
  obtain ⟨rfl, rfl⟩ := trodVars_none hV
  have k0 := h0
  have k1 := h1
  have k2 := h2
  have lt0 : ∀ x ∈ p0, x.block < W.heap.size := by obtain ⟨m, hm⟩ := k0; exact DataW.trod_lt m _ _ _ hm
  have lt1 : ∀ x ∈ p1, x.block < W.heap.size := by obtain ⟨m, hm⟩ := k1; exact DataW.trod_lt m _ _ _ hm
  have lt2 : ∀ x ∈ p2, x.block < W.heap.size := by obtain ⟨m, hm⟩ := k2; exact DataW.trod_lt m _ _ _ hm
  have o0 := hval 0 59 v0 rfl rfl
  unfold Value.okWide at o0
  rw [Try.underlying59] at o0
  obtain ⟨xs, rfl, _, _⟩ := o0
  obtain ⟨n1, hv1, _⟩ := open_int Try.underlying3 (hval 1 3 v1 rfl rfl) h1
  obtain ⟨s2, hv2, _⟩ := open_string Try.underlying9 (hval 2 9 v2 rfl rfl) h2
  subst hv1
  subst hv2
  obtain ⟨m0, hm0⟩ := h0
  obtain ⟨m1, hm1⟩ := h1
  obtain ⟨m2, hm2⟩ := h2
  obtain ⟨u0, hu0⟩ := dV_some (P := Try.prog) (S := [59, 3, 9, 56, 30, 57, 4, 109]) (by kernel_rfl) m0 59 _ d0 p0 rfl hm0
  obtain ⟨u1, hu1⟩ := dV_some (P := Try.prog) (S := [3, 9]) (by kernel_rfl) m1 3 _ d1 p1 rfl hm1
  obtain ⟨u2, hu2⟩ := dV_some (P := Try.prog) (S := [3, 9]) (by kernel_rfl) m2 9 _ d2 p2 rfl hm2
  obtain ⟨y1, y2, rfl, rfl, hce⟩ := Go.Proofs.Ytbjphicipgneaaa.Cn.shape hu0 hu1 hu2
  refine (calls_bool hce (ARep.cons (agg_rep (trod_rep m0 59 _ d0 p0 u0 hm0 hu0)) (ARep.cons (one_rep (trod_rep m1 3 _ d1 p1 _ hm1 hu1)) (ARep.cons (one_rep (trod_rep m2 9 _ d2 p2 _ hm2 hu2)) ARep.nil)))).mono fun e W' ⟨he, bel⟩ => ?_
  subst he
  exact ⟨_, rfl, _, _, _, [], _, [], hW', trodAll_mk1 (shut_bool Try.underlying4 _), (trodAll_cons_mk (Below.trod laidOut (by kernel_rfl) (of_decide_eq_true (by kernel_rfl)) k0 bel lt0) (trodAll_cons_mk (Below.trod laidOut (by kernel_rfl) (of_decide_eq_true (by kernel_rfl)) k1 bel lt1) (trodAll_cons_mk (Below.trod laidOut (by kernel_rfl) (of_decide_eq_true (by kernel_rfl)) k2 bel lt2) trodAll_mk0))), rfl, bel.frame _, fun h => by cases h⟩
theorem over : Rows.catalogNilRow.holds Try.pinned (OpenSpec.ofChange Rows.catalogNilSpec) :=
  OpenClaim.holds_of_wide 8 Try.f8 rfl rfl rfl rfl rfl rfl rfl ⟨rfl, rfl, rfl, rfl, rfl⟩ rfl rfl rfl rfl rfl (by kernel_rfl) Try.func8 (by kernel_rfl)
    (of_decide_eq_true (by kernel_rfl)) (by unfold Func.isWrapper; first | (rw [if_pos (by decide +kernel)]; kernel_rfl) | (rw [if_neg (by decide +kernel)]; exact ⟨rfl, rfl⟩))
    (fun os started H enc _ => lifted os started H enc)
theorem proved : Rows.CatalogNilSaid := over
#print axioms proved
end Go.Proofs.Ytbjphicipgneaaa.catalogNil
namespace Go.Proofs.Ytbjphicipgneaaa
/-- The row, under a short name, for the claim. -/
theorem catalogNil_holds : Rows.CatalogNilSaid := catalogNil.proved
end Go.Proofs.Ytbjphicipgneaaa
