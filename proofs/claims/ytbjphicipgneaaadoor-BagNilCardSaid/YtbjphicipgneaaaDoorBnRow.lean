/- BagNil, the row: for every input the law returns true and the input reads behind the call as it read before. No condition beyond the statement's own. -/
import Derived.Test.YtbjphicipgneaaaDoorRows
import Derived.Test.YtbjphicipgneaaaDoorBnR
import Derived.Test.YtbjphicipgneaaaDoorCards
import Derived.Test.YtbjphicipgneaaaDoorTie
import Derived.SevenTiedAt
import Derived.WalkKit
import Derived.ProofKit
import Derived.OpenShut
import Derived.ShutString
import Derived.ChangeOld
import Derived.Below
import Derived.SizedLaws
import Derived.Deep.DeepHandedRow
import Derived.Deep.DeepWitnessRowRef
import Derived.Lib.LaidIn
import Derived.Lib.LaidU8
import Derived.LaidLaws
import Derived.ChangeVars
import GoSem.PinnedTables
namespace Go.Proofs.YtbjphicipgneaaaDoor.bagNil
open Go.ChangeShapes Go.WideShapes Go.ChangeAt Go.RowKit
open Go.Proofs.YtbjphicipgneaaaDoor.E
open Go.ChangeMaps (open_string)
set_option linter.unusedVariables false
theorem own : ownKnob Tryd.prog.godebug = none := by kernel_rfl
theorem laidOut : laidOutB Tryd.prog = true := by kernel_rfl

/-- A world that meets the condition: the settled one, the two tables laid. -/
noncomputable def laidWorld (os : Os) : World :=
  let w0 := World.holding Tryd.prog os ⟨#[], #[], []⟩
  let put (h : Array Obj) (g : Nat) (cs : Array Value) : Array Obj := h.modify g fun
    | .cells _ t frozen => .cells cs t frozen
    | o => o
  let h1 := put w0.heap 1 (Pinned.utf8FirstZ.map fun z => Value.int .u8 (z : Nat)).toArray
  let h2 := put h1 2 ((List.range 16).flatMap fun i => [Value.int .u8 (Lib.accLo i), Value.int .u8 (Lib.accHi i)]).toArray
  { w0 with heap := h2 }
theorem laidWorld_met (os : Os) (args : Array Value) : laidMet Tryd.prog Rows.bagNilRow.laid ((laidWorld os).forCall (fun _ _ => 0) ⟨#[], args, []⟩).memory :=
  (LaidIn.of_run [2, 1] 8 (by kernel_rfl) (by kernel_rfl) (by kernel_rfl) (by kernel_rfl) : LaidIn Tryd.prog ((laidWorld os).forCall (fun _ _ => 0) ⟨#[], args, []⟩).memory Rows.bagNilRow.laid [2, 1]).met
set_option maxRecDepth 100000 in
theorem lifted (os : Os) (started : os.Started) (H : Type) (enc : TypeId × Value → H) :
    ReturnsInHanded {} Tryd.checked os 3 .any (fun w args => (Rows.bagNilSpec.pre enc Tryd.prog Tryd.f3 Rows.bagNilRow.domain false w args ∧ laidMet Tryd.prog Rows.bagNilRow.laid w) ∧ sizedMet enc Tryd.prog Tryd.f3 (OpenSpec.ofChange Rows.bagNilSpec) false w args) (Rows.bagNilSpec.post enc Tryd.prog Tryd.f3 false true false false) := by
  refine returnsInHanded_of_change_and (C := Tryd.checked) (X := fun w _ => laidMet Tryd.prog Rows.bagNilRow.laid w) (fun _ _ _ hh h => h.of_heap hh) own started (by kernel_rfl) Tryd.func3
    (ChangeSpec.witness_at (enc := enc) (C := Tryd.checked) (os := os) (X := fun w _ => laidMet Tryd.prog Rows.bagNilRow.laid w) false (laidWorld os) #[.slice none 0 0, .int .i64 0] 8 rfl (by kernel_rfl) (by kernel_rfl) (by kernel_rfl) (by kernel_rfl) (by kernel_rfl) (laidWorld_met os _)) ?_
  intro W base args ds gs before hval0 hW _ _ hL _
  have hval : ∀ (j : Nat) t v, Tryd.f3.params[j]? = some t → args[j]? = some v → Value.okWide Tryd.prog W .any base t v := hval0
  have hW' := hW
  obtain ⟨p, q, hA0, hV, rfl, hfz, hnd⟩ := hW
  have hA : DataW.TrodAll enc Tryd.prog W 0 (fun _ => true) true Tryd.f3.params.toList args.toList ds p := hA0
  rw [Tryd.params3] at hA hval
  obtain ⟨v0, vs0, d0, ds0, p0, q0, hargs, rfl, rfl, h0, r0⟩ := trodAll_cons hA
  obtain ⟨v1, vs1, d1, ds1, p1, q1, rfl, rfl, rfl, h1, r1⟩ := trodAll_cons r0
  obtain ⟨rfl, rfl, rfl⟩ := trodAll_nil r1
  obtain rfl : args = #[v0, v1] := by cases args; simp_all
  obtain ⟨rfl, rfl⟩ := trodVars_none hV
  have k0 := h0
  have k1 := h1
  have lt0 : ∀ x ∈ p0, x.block < W.heap.size := by obtain ⟨m, hm⟩ := k0; exact DataW.trod_lt m _ _ _ hm
  have lt1 : ∀ x ∈ p1, x.block < W.heap.size := by obtain ⟨m, hm⟩ := k1; exact DataW.trod_lt m _ _ _ hm
  have o0 := hval 0 22 v0 rfl rfl
  have ct0 : v0.cells = #[v0] := by
    unfold Value.okWide at o0
    cases v0 <;> first | rfl | (rw [Tryd.underlying22] at o0; exact o0.elim)
  obtain ⟨n1, hv1, _⟩ := open_int Tryd.underlying2 (hval 1 2 v1 rfl rfl) h1
  subst hv1
  obtain ⟨m0, hm0⟩ := h0
  obtain ⟨m1, hm1⟩ := h1
  obtain ⟨u0, hu0⟩ := dV_some (P := Tryd.prog) (S := [22,39,3,2,9]) (by kernel_rfl) m0 22 _ d0 p0 rfl hm0
  obtain ⟨u1, hu1⟩ := dV_some (P := Tryd.prog) (S := [2]) (by kernel_rfl) m1 2 _ d1 p1 rfl hm1
  obtain ⟨y0, y1, rfl, rfl, hce⟩ := Go.Proofs.YtbjphicipgneaaaDoor.Bn.shape hu0 hu1
  refine (calls_bool hce (ARep.cons (one_rep (trod_rep m0 22 _ d0 p0 _ (by rw [ct0] at hm0; exact hm0) hu0)) (ARep.cons (one_rep (trod_rep m1 2 _ d1 p1 _ hm1 hu1)) ARep.nil))).mono fun e W' ⟨he, bel⟩ => ?_
  subst he
  exact ⟨_, rfl, _, _, _, [], _, [], hW', trodAll_mk1 (shut_bool Tryd.underlying4 _), (trodAll_cons_mk (Below.trod laidOut (by kernel_rfl) (of_decide_eq_true (by kernel_rfl)) k0 bel lt0) (trodAll_cons_mk (Below.trod laidOut (by kernel_rfl) (of_decide_eq_true (by kernel_rfl)) k1 bel lt1) trodAll_mk0)), rfl, bel.frame _, fun h => by cases h⟩
theorem over : Rows.bagNilRow.holds Tryd.pinned (OpenSpec.ofChange Rows.bagNilSpec) :=
  OpenClaim.holds_of_wide 3 Tryd.f3 rfl rfl rfl rfl rfl rfl rfl ⟨rfl, rfl, rfl, rfl, rfl⟩ rfl rfl rfl rfl rfl (by kernel_rfl) Tryd.func3 (by kernel_rfl)
    (of_decide_eq_true (by kernel_rfl)) (by unfold Func.isWrapper; first | (rw [if_pos (by decide +kernel)]; kernel_rfl) | (rw [if_neg (by decide +kernel)]; exact ⟨rfl, rfl⟩))
    (fun os started H enc _ => lifted os started H enc)
theorem proved : Rows.BagNilSaid := over
#print axioms proved
end Go.Proofs.YtbjphicipgneaaaDoor.bagNil
namespace Go.Proofs.YtbjphicipgneaaaDoor
/-- The tied card. -/
theorem bagNil_card : Rows.BagNilCardSaid :=
  Claim7.holds_tied_plain_at .later [] [.data, .pinned] true (true, "8bda91dd19b763e9553ce7a57b01d5c5dd248dd5b2cccb652cfc380aedfec0c2") false
    bagNil.proved (fun _ h => by cases h) (by kernel_rfl) (fun _ h => by cases h) bagNil_row_tie rfl ⟨rfl, rfl⟩ (by kernel_rfl) rfl
    (fun f fn hf hfn => by
      obtain rfl : f = 3 := Option.some.inj ((show Tryd.prog.funcNamed "wainscot/wainscotlaw14.BagNil" = some 3 by kernel_rfl).symm.trans hf) |>.symm
      obtain rfl : fn = Tryd.f3 := (Option.some.inj (Tryd.func3.symm.trans hfn)).symm
      exact ⟨by kernel_rfl, fun j t ht => by
        rw [Tryd.params3] at ht
        rcases j with _ | _ | j
        · obtain rfl : t = 22 := by simpa using ht.symm
          exact (show Tryd.prog.wantsStandIn 22 = false by kernel_rfl)
        · obtain rfl : t = 2 := by simpa using ht.symm
          exact (show Tryd.prog.wantsStandIn 2 = false by kernel_rfl)
        · simp at ht⟩)
    (by kernel_rfl)
#print axioms bagNil_card
end Go.Proofs.YtbjphicipgneaaaDoor
