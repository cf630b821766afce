/- ExprBack, the row: for every input the law returns true and the input reads behind the call as it read before. No condition beyond the statement's own. -/
import Derived.Test.YtjpjeilfmjdhcaaDoorRows
import Derived.Test.YtjpjeilfmjdhcaaDoorEbZ
import Derived.Test.YtjpjeilfmjdhcaaDoorCards
import Derived.Test.YtjpjeilfmjdhcaaDoorTie
import Derived.SevenTiedAt
import Derived.WalkKit
import Derived.ProofKit
import Derived.OpenShut
import Derived.ShutString
import Derived.ChangeOld
import Derived.Below
import Derived.SizedLaws
import Derived.HandedShaped
import Derived.LaidSub
import Derived.Deep.DeepHandedRow
import Derived.Deep.DeepWitnessRowRef
import Derived.Lib.LaidIn
import Derived.Lib.LaidU8
import Derived.Lib.LaidTab
import Derived.LaidLaws
import Derived.ChangeVars
import Derived.Shelf.Vars
import GoSem.PinnedTables
namespace Go.Proofs.YtjpjeilfmjdhcaaDoor.exprBack
open Go.ChangeShapes Go.WideShapes Go.ChangeAt Go.RowKit
open Go.Proofs.YtjpjeilfmjdhcaaDoor.E
open Go.ChangeMaps (open_string)
set_option linter.unusedVariables false
theorem own:ownKnob Tryd.prog.godebug = none := by kernel_rfl
theorem laidOut:laidOutB Tryd.prog = true := by kernel_rfl
/-- The cells of a listed variable. -/
def flatD (d:DataW Unit):List Value := match d with
  | .agg ds => ds.flatMap fun e => match e with
    | .lit (.int k n) => [.int k n]
    | .agg es => es.filterMap fun x => match x with
      | .lit (.int k n) => some (.int k n)
      | _ => none
    | _ => []
  | _ => []
/-- A world that meets the condition: the settled one, the five tables laid. -/
noncomputable def laidWorld (os:Os):World :=
  let w0 := World.holding Tryd.prog os ⟨#[],#[],[]⟩
  let put (h:Array Obj) (g:Nat) (cs:Array Value):Array Obj := h.modify g fun
    | .cells _ t frozen => .cells cs t frozen
    | o => o
  let h1 := put w0.heap 2 (flatD Rows.laid_math_bits_deBruijn32tab).toArray
  let h2 := put h1 3 (flatD Rows.laid_math_bits_deBruijn64tab).toArray
  let h3 := put h2 0 (flatD Rows.laid_internal_strconv_uint64pow10).toArray
  let h4 := put h3 5 ((List.range 16).flatMap fun i => [Value.int .u8 (Lib.accLo i),Value.int .u8 (Lib.accHi i)]).toArray
  let h5 := put h4 4 (Pinned.utf8FirstZ.map fun z => Value.int .u8 (z:Nat)).toArray
  { w0 with heap := h5 }
theorem laidWorld_met (os:Os) (args:Array Value):laidMet Tryd.prog Rows.exprBackRow.laid ((laidWorld os).forCall (fun _ _ => 0) ⟨#[],args,[]⟩).memory :=
  (LaidIn.of_run [2,3,0,5,4] 8 (by kernel_rfl) (by kernel_rfl) (by kernel_rfl) (by kernel_rfl):LaidIn Tryd.prog ((laidWorld os).forCall (fun _ _ => 0) ⟨#[],args,[]⟩).memory Rows.exprBackRow.laid [2,3,0,5,4]).met
/-- The kit's wrap for a row with listed variables, which hands on the world's shape too. -/
theorem handed {H:Type} {enc:TypeId × Value → H} {a:Assume} {C:Checked} {os:Os} {f:FuncId} {fn:Func} {s:ChangeSpec} {conds:List PathCond} {apart fresh handsOn again:Bool} {X:World → Array Value → Prop}
    (hX:∀ (w w':World) (args:Array Value),w.heap = w'.heap → X w args → X w' args)
    (own:ownKnob C.prog.godebug = none) (started:os.Started) (noInit:C.prog.inits.idxOf? f = none) (hfn:C.prog.funcs[f]? = some fn)
    (witness:∃ (w:World) (tape:Tape) (i:Input),w.os = os ∧ (w.forCall tape i).Shaped C.prog ∧ i.vars = [] ∧ Input.okWide C.prog (w.forCall tape i) .any w.heap.size f i ∧
      ((s.pre enc C.prog fn conds apart (w.forCall tape i).memory i.args ∧ X (w.forCall tape i).memory i.args) ∧ sizedMet enc C.prog fn (OpenSpec.ofChange s) apart (w.forCall tape i).memory i.args) ∧ a.holds C.prog (lone (Frame.enter C.prog f i.args .normal) [] (w.forCall tape i)))
    (contract:∀ (W:World) (base:Nat) (args:Array Value) (ds gs:List (DataW H)) (before:List MemPlace),
      (∀ (j:Nat) t v,fn.params[j]? = some t → args[j]? = some v → Value.okWide C.prog W .any base t v) →
      DataW.Whole enc C.prog fn.params.toList s.vars apart W args.toList ds gs before →
      (DataW.weightsEach C.prog (fn.params.toList ++ s.plain.varTypes C.prog) (ds ++ gs)).all (· ≤ reachBytes) = true → X W args → W.ShapedOpen C.prog →
      Calls C.prog f args W fun e W' => ∃ v,e = .returned v ∧ s.post enc C.prog fn apart fresh handsOn again W args v W') :
    ReturnsInHanded a C os f .any (fun w args => (s.pre enc C.prog fn conds apart w args ∧ X w args) ∧ sizedMet enc C.prog fn (OpenSpec.ofChange s) apart w args) (s.post enc C.prog fn apart fresh handsOn again) := by
  refine returnsInHanded_of_calls own started noInit witness ?_
  intro w tape i _ hsh _ hok hpre hholds
  obtain ⟨_,_,_,fn',hfn',_,_,_,_,hval⟩ := hok
  have e:fn' = fn := Option.some.inj (hfn'.symm.trans hfn)
  subst e
  obtain ⟨⟨⟨ds,gs,before,hw,hc⟩,hx⟩,hz⟩ := hpre
  have hw' := DataW.Whole.of_heap (w' := w.forCall tape i) (by rfl) hw
  refine (contract (w.forCall tape i) w.heap.size i.args ds gs before hval hw' (hz.weights hw) (hX _ _ _ (by rfl) hx) hsh).mono fun e W' ⟨v,he,hp⟩ => ?_
  subst he
  exact ChangeSpec.post_blind hp
theorem pow_tab {W : World} (h : laidMet Tryd.prog Rows.exprBackRow.laid W) : Lib.TabIs Tryd.prog W "internal/strconv.uint64pow10" .u64 Lib.pow10Tab := by
  have h2 := laidMet.filter (fun x => x.1 == "internal/strconv.uint64pow10") h
  have e : (Rows.exprBackRow.laid.filter fun x => x.1 == "internal/strconv.uint64pow10") = [("internal/strconv.uint64pow10", Lib.tabData .u64 Lib.pow10Tab)] := by kernel_rfl
  rw [e] at h2
  exact Lib.tabIs_of_head (g := 0) (t := 96) (e := 77) (n := 20) (by kernel_rfl) (by kernel_rfl) Tryd.underlying96 Tryd.underlying77 (by kernel_rfl) (by kernel_rfl) h2
/-- What the two variables hold. -/
theorem pins_of {W:World} (h:laidMet Tryd.prog Rows.exprBackRow.laid W) (hsh:W.ShapedOpen Tryd.prog):∃ e1 e2 m,PinsOk W [(0,.u64,Lib.pow10Tab,e1),(1,.i64,[m],e2)] := by
  obtain ⟨cs,hc,-,-⟩ := hsh.1 0 (Array.replicate 20 (.int .u64 0)) 96 (of_decide_eq_true (by kernel_rfl)) (by kernel_rfl)
  obtain ⟨ds,hd,hs,-⟩ := hsh.1 1 #[.int .i64 0] 3 (of_decide_eq_true (by kernel_rfl)) (by kernel_rfl)
  obtain ⟨m,hm⟩ := Go.Proofs.cell_of_shapedOpen_int hsh (g := 1) (t := 3) (zero := #[.int .i64 0]) (k := .i64) (of_decide_eq_true (by kernel_rfl)) (by kernel_rfl) rfl (by kernel_rfl) (by kernel_rfl) Tryd.underlying3
  have ht := pow_tab h
  unfold Lib.TabIs World.var? at ht
  rw [show Tryd.prog.globalNamed "internal/strconv.uint64pow10" = some 0 by kernel_rfl] at ht
  simp only [Option.bind_some,hc,Option.some.injEq] at ht
  simp only [World.cell?,hd] at hm
  have hds:ds = #[.int .i64 m] := by
    obtain ⟨l⟩ := ds
    match l,hs with
    | [x],_ =>
      simp at hm
      rw [hm]
  refine ⟨96,3,m,by simp,fun p hp => ?_⟩
  simp only [List.mem_cons,List.not_mem_nil,or_false] at hp
  rcases hp with rfl | rfl
  · show W.heap[0]? = _
    rw [hc,ht]
  · show W.heap[1]? = _
    rw [hd,hds]
    rfl
set_option maxRecDepth 100000 in
theorem lifted (os:Os) (started:os.Started) (H:Type) (enc:TypeId × Value → H) :
    ReturnsInHanded {} Tryd.checked os 3 .any (fun w args => (Rows.exprBackSpec.pre enc Tryd.prog Tryd.f3 Rows.exprBackRow.domain false w args ∧ laidMet Tryd.prog Rows.exprBackRow.laid w) ∧ sizedMet enc Tryd.prog Tryd.f3 (OpenSpec.ofChange Rows.exprBackSpec) false w args) (Rows.exprBackSpec.post enc Tryd.prog Tryd.f3 false true false false) := by
  refine handed (C := Tryd.checked) (X := fun w _ => laidMet Tryd.prog Rows.exprBackRow.laid w) (fun _ _ _ hh h => h.of_heap hh) own started (by kernel_rfl) Tryd.func3
    (ChangeSpec.witness_at (enc := enc) (C := Tryd.checked) (os := os) (X := fun w _ => laidMet Tryd.prog Rows.exprBackRow.laid w) false (laidWorld os) #[.agg #[.int .i64 0,.string ⟨#[]⟩,.int .i64 0,.int .i64 0,.string ⟨#[]⟩,.string ⟨#[]⟩,.string ⟨#[]⟩,.slice none 0 0]] 8 rfl (by kernel_rfl) (by kernel_rfl) (by kernel_rfl) (by kernel_rfl) (by kernel_rfl) (laidWorld_met os _)) ?_
  intro W base args ds gs before hval0 hW hsz0 hL hsh
  have hval:∀ (j:Nat) t v,Tryd.f3.params[j]? = some t → args[j]? = some v → Value.okWide Tryd.prog W .any base t v := hval0
  have hW' := hW
  obtain ⟨p,q,hA0,hV,rfl,hfz,hnd⟩ := hW
  have hA:DataW.TrodAll enc Tryd.prog W 0 (fun _ => true) true Tryd.f3.params.toList args.toList ds p := hA0
  rw [Tryd.params3] at hA hval
  obtain ⟨v0,vs0,d0,ds0,p0,q0,hargs,rfl,rfl,h0,r0⟩ := trodAll_cons hA
  obtain ⟨rfl,rfl,rfl⟩ := trodAll_nil r0
  obtain rfl:args = #[v0] := by cases args; simp_all
  obtain ⟨rfl,rfl⟩ := trodVars_none hV
  have k0 := h0
  have lt0:∀ x ∈ p0,x.block < W.heap.size := by obtain ⟨m,hm⟩ := k0; exact DataW.trod_lt m _ _ _ hm
  have o0 := hval 0 26 v0 rfl rfl
  unfold Value.okWide at o0
  rw [Tryd.underlying26] at o0
  obtain ⟨xs0,rfl,_,_⟩ := o0
  obtain ⟨m0,hm0⟩ := h0
  obtain ⟨u0,hu0⟩ := dV_some (P := Tryd.prog) (S := [26,3,2,9,23,24]) (by kernel_rfl) m0 26 _ d0 p0 rfl hm0
  have hsz1:(DataW.weightsEach Tryd.prog [26] [d0]).all (· ≤ reachBytes) = true := by have q := hsz0; rw [Tryd.params3] at q; exact q
  obtain ⟨e1,e2,m,hpins⟩ := pins_of hL hsh
  have hce := Go.Proofs.YtjpjeilfmjdhcaaDoor.Eb.shape (e1 := e1) (e2 := e2) (m := m) hsz1 hu0
  have hst := Go.Proofs.YtjpjeilfmjdhcaaDoor.Eb.shape_str hsz1 hu0
  have hre := rep_str (pins_nostr hpins) (agg_rep (trod_rep m0 26 _ d0 p0 u0 hm0 hu0)) hst
  refine (calls_boolP hpins hce (ARep.cons hre ARep.nil)).mono fun e W' ⟨he,bel⟩ => ?_
  subst he
  exact ⟨_,rfl,_,_,_,[],_,[],hW',trodAll_mk1 (shut_bool Tryd.underlying4 _),(trodAll_cons_mk (Below.trod laidOut (by kernel_rfl) (of_decide_eq_true (by kernel_rfl)) k0 bel lt0) trodAll_mk0),rfl,bel.frame _,fun h => by cases h⟩
theorem over:Rows.exprBackRow.holds Tryd.pinned (OpenSpec.ofChange Rows.exprBackSpec) :=
  OpenClaim.holds_of_wide 3 Tryd.f3 rfl rfl rfl rfl rfl rfl rfl ⟨rfl,rfl,rfl,rfl,rfl⟩ rfl rfl rfl rfl rfl (by kernel_rfl) Tryd.func3 (by kernel_rfl)
    (of_decide_eq_true (by kernel_rfl)) (by unfold Func.isWrapper; first | (rw [if_pos (by decide +kernel)]; kernel_rfl) | (rw [if_neg (by decide +kernel)]; exact ⟨rfl,rfl⟩))
    (fun os started H enc _ => lifted os started H enc)
theorem proved:Rows.ExprBackSaid := over
#print axioms proved
end Go.Proofs.YtjpjeilfmjdhcaaDoor.exprBack
namespace Go.Proofs.YtjpjeilfmjdhcaaDoor
/-- The tied card. -/
theorem exprBack_card:Rows.ExprBackCardSaid :=
  Claim7.holds_tied_plain_at .later [] [.data, .data, .data, .data, .pinned] true (true, "6243aa100a8d6ffcd64199fcbcd3df7fc1746712baec96ccffd1141ceb43efbd") false
    exprBack.proved (fun _ h => by cases h) (by kernel_rfl) (fun _ h => by cases h) exprBack_row_tie rfl ⟨rfl,rfl⟩ (by kernel_rfl) rfl
    (fun f fn hf hfn => by
      obtain rfl : f = 3 := Option.some.inj ((show Tryd.prog.funcNamed "wainscot/wainscotlaw06.ExprBack" = some 3 by kernel_rfl).symm.trans hf) |>.symm
      obtain rfl:fn = Tryd.f3 := (Option.some.inj (Tryd.func3.symm.trans hfn)).symm
      exact ⟨by kernel_rfl,fun j t ht => by
        rw [Tryd.params3] at ht
        rcases j with _ | j
        · obtain rfl:t = 26 := by simpa using ht.symm
          exact (show Tryd.prog.wantsStandIn 26 = false by kernel_rfl)
        · simp at ht⟩)
    (by kernel_rfl)
#print axioms exprBack_card
end Go.Proofs.YtjpjeilfmjdhcaaDoor
