/- ParseBlanks, the row: for every input the law returns true and the input reads behind the call as it read before. No condition beyond the statement's own. -/
import Derived.Test.YtjpjeilfmjdhcaaRows
import Derived.Test.YtjpjeilfmjdhcaaPsV
import Derived.WalkKit
import Derived.ProofKit
import Derived.OpenShut
import Derived.ShutString
import Derived.ChangeOld
import Derived.Below
import Derived.SizedLaws
namespace Go.Proofs.Ytjpjeilfmjdhcaa.parseBlanks
open Go.ChangeShapes Go.WideShapes Go.ChangeAt Go.RowKit
open Go.Proofs.Ytjpjeilfmjdhcaa.E
open Go.ChangeMaps (open_string)
set_option linter.unusedVariables false
theorem own:ownKnob Try.prog.godebug = none := by kernel_rfl
theorem laidOut:laidOutB Try.prog = true := by kernel_rfl
set_option maxRecDepth 100000 in
theorem lifted (os:Os) (started:os.Started) (H:Type) (enc:TypeId × Value → H) :
    ReturnsInHanded {} Try.checked os 3 .any (Rows.parseBlanksSpec.pre6 enc Try.prog Try.f3 Rows.parseBlanksRow.domain false) (Rows.parseBlanksSpec.post enc Try.prog Try.f3 false true false false) := by
  refine returnsInHanded_of_change_sized (C := Try.checked) own started (by kernel_rfl) Try.func3
    (ChangeSpec.witness6 (enc := enc) (C := Try.checked) false ⟨#[],#[.string ⟨#[]⟩,.string ⟨#[]⟩],[]⟩ 8 (by kernel_rfl) (by kernel_rfl) (by kernel_rfl) (by kernel_rfl)) ?_
  intro W base args ds gs before hval0 hW hcnd hsz0 _
  have hval:∀ (j:Nat) t v,Try.f3.params[j]? = some t → args[j]? = some v → Value.okWide Try.prog W .any base t v := hval0
  have hW' := hW
  obtain ⟨p,q,hA0,hV,rfl,hfz,hnd⟩ := hW
  have hA:DataW.TrodAll enc Try.prog W 0 (fun _ => true) true Try.f3.params.toList args.toList ds p := hA0
  rw [Try.params3] at hA hval
  obtain ⟨v0,vs0,d0,ds0,p0,q0,hargs,rfl,rfl,h0,r0⟩ := trodAll_cons hA
  obtain ⟨v1,vs1,d1,ds1,p1,q1,rfl,rfl,rfl,h1,r1⟩ := trodAll_cons r0
  obtain ⟨rfl,rfl,rfl⟩ := trodAll_nil r1
  obtain rfl:args = #[v0,v1] := by cases args; simp_all
  obtain ⟨rfl,rfl⟩ := trodVars_none hV
  have k0 := h0
  have k1 := h1
  have lt0:∀ x ∈ p0,x.block < W.heap.size := by obtain ⟨m,hm⟩ := k0; exact DataW.trod_lt m _ _ _ hm
  have lt1:∀ x ∈ p1,x.block < W.heap.size := by obtain ⟨m,hm⟩ := k1; exact DataW.trod_lt m _ _ _ hm
  obtain ⟨s0,hv0,_⟩ := open_string Try.underlying9 (hval 0 9 v0 rfl rfl) h0
  subst hv0
  obtain ⟨s1,hv1,_⟩ := open_string Try.underlying9 (hval 1 9 v1 rfl rfl) h1
  subst hv1
  obtain ⟨m0,hm0⟩ := h0
  obtain ⟨m1,hm1⟩ := h1
  obtain ⟨u0,hu0⟩ := dV_some (P := Try.prog) (S := [9]) (by kernel_rfl) m0 9 _ d0 p0 rfl hm0
  obtain ⟨u1,hu1⟩ := dV_some (P := Try.prog) (S := [9]) (by kernel_rfl) m1 9 _ d1 p1 rfl hm1
  have hsz1:(DataW.weightsEach Try.prog [9,9] [d0,d1]).all (· ≤ reachBytes) = true := by have q := hsz0; rw [Try.params3] at q; exact q
  obtain ⟨y0,y1,rfl,rfl,hce⟩ := Go.Proofs.Ytjpjeilfmjdhcaa.Ps.shape hsz1 hu0 hu1
  refine (calls_bool hce (ARep.cons (one_rep (trod_rep m0 9 _ d0 p0 _ hm0 hu0)) (ARep.cons (one_rep (trod_rep m1 9 _ d1 p1 _ hm1 hu1)) ARep.nil))).mono fun e W' ⟨he,bel⟩ => ?_
  subst he
  exact ⟨_,rfl,_,_,_,[],_,[],hW',trodAll_mk1 (shut_bool Try.underlying4 _),(trodAll_cons_mk (Below.trod laidOut (by kernel_rfl) (of_decide_eq_true (by kernel_rfl)) k0 bel lt0) (trodAll_cons_mk (Below.trod laidOut (by kernel_rfl) (of_decide_eq_true (by kernel_rfl)) k1 bel lt1) trodAll_mk0)),rfl,bel.frame _,fun h => by cases h⟩
theorem over:Rows.parseBlanksRow.holds Try.pinned (OpenSpec.ofChange Rows.parseBlanksSpec) :=
  OpenClaim.holds_of_wide 3 Try.f3 rfl rfl rfl rfl rfl rfl rfl ⟨rfl,rfl,rfl,rfl,rfl⟩ rfl rfl rfl rfl rfl (by kernel_rfl) Try.func3 (by kernel_rfl)
    (of_decide_eq_true (by kernel_rfl)) (by unfold Func.isWrapper; first | (rw [if_pos (by decide +kernel)]; kernel_rfl) | (rw [if_neg (by decide +kernel)]; exact ⟨rfl,rfl⟩))
    (fun os started H enc _ => lifted os started H enc)
theorem proved:Rows.ParseBlanksSaid := over
#print axioms proved
end Go.Proofs.Ytjpjeilfmjdhcaa.parseBlanks
namespace Go.Proofs.Ytjpjeilfmjdhcaa
/-- The row, under a short name, for the claim. -/
theorem parseBlanks_holds:Rows.ParseBlanksSaid := parseBlanks.proved
end Go.Proofs.Ytjpjeilfmjdhcaa
