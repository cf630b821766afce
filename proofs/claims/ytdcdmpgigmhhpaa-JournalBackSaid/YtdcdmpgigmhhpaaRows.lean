/-
  No cell of these rows narrows 'for every input' (looked for: loops, veiled, ifaces, maps, wideKeys, modest, calm, conditions, laid).
  DERIVED. THE GIVEN ROWS OF THIS SEAT. 11 by the template 'for every input the law returns true; each argument reads behind the call as it read before'; 0 by the template 'total and deterministic' (their statements: YtdcdmpgigmhhpaaTotals.lean).
  GIVEN WITH THE SEED: the statements are not yours to turn. If you find one false, say at which input.
  Laid BY PROGRAM, IN A SANDBOX (cutbox-rows.mjs): the forced cells as the released guide's own fill.sh prints them over the translation 45bd4b7580ad3e27… (all of the seat's roots in one cut). By AI agents, Wed Nov 11 2026. No macro, syntax, notation, axiom, sorry.
-/
import Derived.Test.YtdcdmpgigmhhpaaChecked
import GoSem.Claim
import GoSem.ClaimJoined
import GoSem.ClaimMapViews
import Derived.JoinedTies
import Derived.KernelRfl
namespace Go.Proofs.Ytdcdmpgigmhhpaa
/- THE CELL 'sum', in the pinned program and in every row, IS THE sha256 OF THE DUMP (.gsa) THAT YtdcdmpgigmhhpaaProg.lean LOADS. Nothing in Lean hashes anything: it is a label: what it is worth is what the hold of that sum in a sandbox is worth. -/
noncomputable def Try.pinned : Pinned := { name := "ytdcdmpgigmhhpaa", sum := "45bd4b7580ad3e275ad07f9e46be52e7eaa72b37d49570172bdf63424315ee12", checked := Try.checked }
namespace Rows
def none {H : Type} : Left H := { results := [], args := [] }

/-- 'wainscotlaw02.VarintTakes': WHATEVER THE INPUT: true; the input reads as it did. -/
def varintTakesSpec : ChangeSpec := { name := "varintTakes", fn := fun _ => fun
  | [d] => { results := [.lit (.bool true)], args := [d] }
  | _ => none }
def varintTakesRow : OpenClaim := { program := "ytdcdmpgigmhhpaa", sum := "45bd4b7580ad3e275ad07f9e46be52e7eaa72b37d49570172bdf63424315ee12", func := "wainscot/wainscotlaw02.VarintTakes", spec := "varintTakes", apart := false }
def VarintTakesSaid : Prop := varintTakesRow.holds Try.pinned (OpenSpec.ofChange varintTakesSpec)

/-- ITS FALSE NEIGHBOUR: 'it returns false'. Refute it at one input. -/
def varintTakesWrong : ChangeSpec := { name := "varintTakes", fn := fun _ => fun
  | [d] => { results := [.lit (.bool false)], args := [d] }
  | _ => none }
def VarintTakesWrongFalsely : Prop := varintTakesRow.holds Try.pinned (OpenSpec.ofChange varintTakesWrong)

/-- 'wainscotlaw10.JournalWrites': WHATEVER THE INPUT: true; the input reads as it did. -/
def journalWritesSpec : ChangeSpec := { name := "journalWrites", fn := fun _ => fun
  | [d1, d2, d3, d4, d5, d6] => { results := [.lit (.bool true)], args := [d1, d2, d3, d4, d5, d6] }
  | _ => none }
def journalWritesRow : OpenClaim := { program := "ytdcdmpgigmhhpaa", sum := "45bd4b7580ad3e275ad07f9e46be52e7eaa72b37d49570172bdf63424315ee12", func := "wainscot/wainscotlaw10.JournalWrites", spec := "journalWrites", apart := false }
def JournalWritesSaid : Prop := journalWritesRow.holds Try.pinned (OpenSpec.ofChange journalWritesSpec)

/-- ITS FALSE NEIGHBOUR: 'it returns false'. Refute it at one input. -/
def journalWritesWrong : ChangeSpec := { name := "journalWrites", fn := fun _ => fun
  | [d1, d2, d3, d4, d5, d6] => { results := [.lit (.bool false)], args := [d1, d2, d3, d4, d5, d6] }
  | _ => none }
def JournalWritesWrongFalsely : Prop := journalWritesRow.holds Try.pinned (OpenSpec.ofChange journalWritesWrong)

/-- 'wainscotlaw02.VarintRises': WHATEVER THE INPUT: true; the input reads as it did. -/
def varintRisesSpec : ChangeSpec := { name := "varintRises", fn := fun _ => fun
  | [d1, d2, d3] => { results := [.lit (.bool true)], args := [d1, d2, d3] }
  | _ => none }
def varintRisesRow : OpenClaim := { program := "ytdcdmpgigmhhpaa", sum := "45bd4b7580ad3e275ad07f9e46be52e7eaa72b37d49570172bdf63424315ee12", func := "wainscot/wainscotlaw02.VarintRises", spec := "varintRises", apart := false }
def VarintRisesSaid : Prop := varintRisesRow.holds Try.pinned (OpenSpec.ofChange varintRisesSpec)

/-- ITS FALSE NEIGHBOUR: 'it returns false'. Refute it at one input. -/
def varintRisesWrong : ChangeSpec := { name := "varintRises", fn := fun _ => fun
  | [d1, d2, d3] => { results := [.lit (.bool false)], args := [d1, d2, d3] }
  | _ => none }
def VarintRisesWrongFalsely : Prop := varintRisesRow.holds Try.pinned (OpenSpec.ofChange varintRisesWrong)

/-- 'wainscotlaw02.VarintAppends': WHATEVER THE INPUT: true; the input reads as it did. -/
def varintAppendsSpec : ChangeSpec := { name := "varintAppends", fn := fun _ => fun
  | [d1, d2, d3, d4] => { results := [.lit (.bool true)], args := [d1, d2, d3, d4] }
  | _ => none }
def varintAppendsRow : OpenClaim := { program := "ytdcdmpgigmhhpaa", sum := "45bd4b7580ad3e275ad07f9e46be52e7eaa72b37d49570172bdf63424315ee12", func := "wainscot/wainscotlaw02.VarintAppends", spec := "varintAppends", apart := false }
def VarintAppendsSaid : Prop := varintAppendsRow.holds Try.pinned (OpenSpec.ofChange varintAppendsSpec)

/-- ITS FALSE NEIGHBOUR: 'it returns false'. Refute it at one input. -/
def varintAppendsWrong : ChangeSpec := { name := "varintAppends", fn := fun _ => fun
  | [d1, d2, d3, d4] => { results := [.lit (.bool false)], args := [d1, d2, d3, d4] }
  | _ => none }
def VarintAppendsWrongFalsely : Prop := varintAppendsRow.holds Try.pinned (OpenSpec.ofChange varintAppendsWrong)

/-- 'wainscotlaw10.JournalBack': WHATEVER THE INPUT: true; the input reads as it did. -/
def journalBackSpec : ChangeSpec := { name := "journalBack", fn := fun _ => fun
  | [d1, d2, d3, d4, d5, d6, d7] => { results := [.lit (.bool true)], args := [d1, d2, d3, d4, d5, d6, d7] }
  | _ => none }
def journalBackRow : OpenClaim := { program := "ytdcdmpgigmhhpaa", sum := "45bd4b7580ad3e275ad07f9e46be52e7eaa72b37d49570172bdf63424315ee12", func := "wainscot/wainscotlaw10.JournalBack", spec := "journalBack", apart := false }
def JournalBackSaid : Prop := journalBackRow.holds Try.pinned (OpenSpec.ofChange journalBackSpec)

/-- ITS FALSE NEIGHBOUR: 'it returns false'. Refute it at one input. -/
def journalBackWrong : ChangeSpec := { name := "journalBack", fn := fun _ => fun
  | [d1, d2, d3, d4, d5, d6, d7] => { results := [.lit (.bool false)], args := [d1, d2, d3, d4, d5, d6, d7] }
  | _ => none }
def JournalBackWrongFalsely : Prop := journalBackRow.holds Try.pinned (OpenSpec.ofChange journalBackWrong)

/-- 'wainscotlaw12.NodeFinds': WHATEVER THE INPUT: true; the input reads as it did. -/
def nodeFindsSpec : ChangeSpec := { name := "nodeFinds", fn := fun _ => fun
  | [d1, d2] => { results := [.lit (.bool true)], args := [d1, d2] }
  | _ => none }
def nodeFindsRow : OpenClaim := { program := "ytdcdmpgigmhhpaa", sum := "45bd4b7580ad3e275ad07f9e46be52e7eaa72b37d49570172bdf63424315ee12", func := "wainscot/wainscotlaw12.NodeFinds", spec := "nodeFinds", inPlace := ["internal/bytealg.Compare"], unfollowed := true, recurses := true, apart := false }
def NodeFindsSaid : Prop := nodeFindsRow.holds Try.pinned (OpenSpec.ofChange nodeFindsSpec)

/-- ITS FALSE NEIGHBOUR: 'it returns false'. Refute it at one input. -/
def nodeFindsWrong : ChangeSpec := { name := "nodeFinds", fn := fun _ => fun
  | [d1, d2] => { results := [.lit (.bool false)], args := [d1, d2] }
  | _ => none }
def NodeFindsWrongFalsely : Prop := nodeFindsRow.holds Try.pinned (OpenSpec.ofChange nodeFindsWrong)

/-- 'wainscotlaw03.RecordEncodes': WHATEVER THE INPUT: true; the input reads as it did. -/
def recordEncodesSpec : ChangeSpec := { name := "recordEncodes", fn := fun _ => fun
  | [d] => { results := [.lit (.bool true)], args := [d] }
  | _ => none }
def recordEncodesRow : OpenClaim := { program := "ytdcdmpgigmhhpaa", sum := "45bd4b7580ad3e275ad07f9e46be52e7eaa72b37d49570172bdf63424315ee12", func := "wainscot/wainscotlaw03.RecordEncodes", spec := "recordEncodes", unfollowed := true, recurses := true, apart := false }
def RecordEncodesSaid : Prop := recordEncodesRow.holds Try.pinned (OpenSpec.ofChange recordEncodesSpec)

/-- ITS FALSE NEIGHBOUR: 'it returns false'. Refute it at one input. -/
def recordEncodesWrong : ChangeSpec := { name := "recordEncodes", fn := fun _ => fun
  | [d] => { results := [.lit (.bool false)], args := [d] }
  | _ => none }
def RecordEncodesWrongFalsely : Prop := recordEncodesRow.holds Try.pinned (OpenSpec.ofChange recordEncodesWrong)

/-- 'wainscotlaw03.RecordOnce': WHATEVER THE INPUT: true; the input reads as it did. -/
def recordOnceSpec : ChangeSpec := { name := "recordOnce", fn := fun _ => fun
  | [d1, d2, d3] => { results := [.lit (.bool true)], args := [d1, d2, d3] }
  | _ => none }
def recordOnceRow : OpenClaim := { program := "ytdcdmpgigmhhpaa", sum := "45bd4b7580ad3e275ad07f9e46be52e7eaa72b37d49570172bdf63424315ee12", func := "wainscot/wainscotlaw03.RecordOnce", spec := "recordOnce", unfollowed := true, recurses := true, apart := false }
def RecordOnceSaid : Prop := recordOnceRow.holds Try.pinned (OpenSpec.ofChange recordOnceSpec)

/-- ITS FALSE NEIGHBOUR: 'it returns false'. Refute it at one input. -/
def recordOnceWrong : ChangeSpec := { name := "recordOnce", fn := fun _ => fun
  | [d1, d2, d3] => { results := [.lit (.bool false)], args := [d1, d2, d3] }
  | _ => none }
def RecordOnceWrongFalsely : Prop := recordOnceRow.holds Try.pinned (OpenSpec.ofChange recordOnceWrong)

/-- 'wainscotlaw03.RecordCut': WHATEVER THE INPUT: true; the input reads as it did. -/
def recordCutSpec : ChangeSpec := { name := "recordCut", fn := fun _ => fun
  | [d1, d2, d3] => { results := [.lit (.bool true)], args := [d1, d2, d3] }
  | _ => none }
def recordCutRow : OpenClaim := { program := "ytdcdmpgigmhhpaa", sum := "45bd4b7580ad3e275ad07f9e46be52e7eaa72b37d49570172bdf63424315ee12", func := "wainscot/wainscotlaw03.RecordCut", spec := "recordCut", unfollowed := true, recurses := true, apart := false }
def RecordCutSaid : Prop := recordCutRow.holds Try.pinned (OpenSpec.ofChange recordCutSpec)

/-- ITS FALSE NEIGHBOUR: 'it returns false'. Refute it at one input. -/
def recordCutWrong : ChangeSpec := { name := "recordCut", fn := fun _ => fun
  | [d1, d2, d3] => { results := [.lit (.bool false)], args := [d1, d2, d3] }
  | _ => none }
def RecordCutWrongFalsely : Prop := recordCutRow.holds Try.pinned (OpenSpec.ofChange recordCutWrong)

/-- 'wainscotlaw12.NodeEncodes': WHATEVER THE INPUT: true; the input reads as it did. -/
def nodeEncodesSpec : ChangeSpec := { name := "nodeEncodes", fn := fun _ => fun
  | [d1, d2] => { results := [.lit (.bool true)], args := [d1, d2] }
  | _ => none }
def nodeEncodesRow : OpenClaim := { program := "ytdcdmpgigmhhpaa", sum := "45bd4b7580ad3e275ad07f9e46be52e7eaa72b37d49570172bdf63424315ee12", func := "wainscot/wainscotlaw12.NodeEncodes", spec := "nodeEncodes", inPlace := ["internal/bytealg.Compare"], unfollowed := true, recurses := true, apart := false }
def NodeEncodesSaid : Prop := nodeEncodesRow.holds Try.pinned (OpenSpec.ofChange nodeEncodesSpec)

/-- ITS FALSE NEIGHBOUR: 'it returns false'. Refute it at one input. -/
def nodeEncodesWrong : ChangeSpec := { name := "nodeEncodes", fn := fun _ => fun
  | [d1, d2] => { results := [.lit (.bool false)], args := [d1, d2] }
  | _ => none }
def NodeEncodesWrongFalsely : Prop := nodeEncodesRow.holds Try.pinned (OpenSpec.ofChange nodeEncodesWrong)

/-- 'wainscotlaw12.NodeOnce': WHATEVER THE INPUT: true; the input reads as it did. -/
def nodeOnceSpec : ChangeSpec := { name := "nodeOnce", fn := fun _ => fun
  | [d1, d2, d3] => { results := [.lit (.bool true)], args := [d1, d2, d3] }
  | _ => none }
def nodeOnceRow : OpenClaim := { program := "ytdcdmpgigmhhpaa", sum := "45bd4b7580ad3e275ad07f9e46be52e7eaa72b37d49570172bdf63424315ee12", func := "wainscot/wainscotlaw12.NodeOnce", spec := "nodeOnce", inPlace := ["internal/bytealg.Compare"], unfollowed := true, recurses := true, apart := false }
def NodeOnceSaid : Prop := nodeOnceRow.holds Try.pinned (OpenSpec.ofChange nodeOnceSpec)

/-- ITS FALSE NEIGHBOUR: 'it returns false'. Refute it at one input. -/
def nodeOnceWrong : ChangeSpec := { name := "nodeOnce", fn := fun _ => fun
  | [d1, d2, d3] => { results := [.lit (.bool false)], args := [d1, d2, d3] }
  | _ => none }
def NodeOnceWrongFalsely : Prop := nodeOnceRow.holds Try.pinned (OpenSpec.ofChange nodeOnceWrong)

/- THE SECOND FORM. 'bulk': how many values and letters a reading holds, each counted each time it is reached (what is shared counts as often as it is met; a slice's spare places count too). A statement '..UptoSaid' is the law's where the arguments, and the package variables that the reading takes, are together of bulk at most 1048576: NARROWER than '..Said'. Prove '..Said' where nothing that the law and all that it calls make is longer than what came in: it says more and counts as full. Else prove '..UptoSaid'. A law counts once. -/
mutual
def uptoBulk {H : Type} : DataW H → Nat
  | .lit (.string bytes) => bytes.length + 1
  | .lit _ => 1
  | .nil => 1
  | .ptr d => uptoBulk d + 1
  | .slice elems spare => uptoBulkAll elems + uptoBulkAll spare + 1
  | .agg parts => uptoBulkAll parts + 1
  | .iface _ d => uptoBulk d + 1
  | .map entries => uptoBulkEntries entries + 1
  | .held _ => 1
def uptoBulkAll {H : Type} : List (DataW H) → Nat
  | [] => 0
  | d :: r => uptoBulk d + uptoBulkAll r
def uptoBulkEntries {H : Type} : List (Lit × DataW H) → Nat
  | [] => 0
  | x :: r => uptoBulkEntry x + uptoBulkEntries r
def uptoBulkEntry {H : Type} : Lit × DataW H → Nat
  | (.string bytes, d) => bytes.length + uptoBulk d + 1
  | (_, d) => uptoBulk d + 1
 end
def uptoSmall : (H : Type) → List (DataW H) → Bool := fun _ ds => decide (uptoBulkAll ds ≤ 1048576)
def OpenSpec.upto (s : _root_.Go.ChangeSpec) : _root_.Go.OpenSpec := { _root_.Go.OpenSpec.ofChange s with cond := some uptoSmall }

/-- 'wainscotlaw02.VarintTakes', WHERE WHAT IT READS IS OF BULK AT MOST 1048576: true; the input reads as it did. -/
def varintTakesUptoRow : OpenClaim := { program := "ytdcdmpgigmhhpaa", sum := "45bd4b7580ad3e275ad07f9e46be52e7eaa72b37d49570172bdf63424315ee12", func := "wainscot/wainscotlaw02.VarintTakes", spec := "varintTakes", apart := false, narrowed := true }
def VarintTakesUptoSaid : Prop := varintTakesUptoRow.holds Try.pinned (OpenSpec.upto varintTakesSpec)

/-- 'wainscotlaw10.JournalWrites', WHERE WHAT IT READS IS OF BULK AT MOST 1048576: true; the input reads as it did. -/
def journalWritesUptoRow : OpenClaim := { program := "ytdcdmpgigmhhpaa", sum := "45bd4b7580ad3e275ad07f9e46be52e7eaa72b37d49570172bdf63424315ee12", func := "wainscot/wainscotlaw10.JournalWrites", spec := "journalWrites", apart := false, narrowed := true }
def JournalWritesUptoSaid : Prop := journalWritesUptoRow.holds Try.pinned (OpenSpec.upto journalWritesSpec)

/-- 'wainscotlaw02.VarintRises', WHERE WHAT IT READS IS OF BULK AT MOST 1048576: true; the input reads as it did. -/
def varintRisesUptoRow : OpenClaim := { program := "ytdcdmpgigmhhpaa", sum := "45bd4b7580ad3e275ad07f9e46be52e7eaa72b37d49570172bdf63424315ee12", func := "wainscot/wainscotlaw02.VarintRises", spec := "varintRises", apart := false, narrowed := true }
def VarintRisesUptoSaid : Prop := varintRisesUptoRow.holds Try.pinned (OpenSpec.upto varintRisesSpec)

/-- 'wainscotlaw02.VarintAppends', WHERE WHAT IT READS IS OF BULK AT MOST 1048576: true; the input reads as it did. -/
def varintAppendsUptoRow : OpenClaim := { program := "ytdcdmpgigmhhpaa", sum := "45bd4b7580ad3e275ad07f9e46be52e7eaa72b37d49570172bdf63424315ee12", func := "wainscot/wainscotlaw02.VarintAppends", spec := "varintAppends", apart := false, narrowed := true }
def VarintAppendsUptoSaid : Prop := varintAppendsUptoRow.holds Try.pinned (OpenSpec.upto varintAppendsSpec)

/-- 'wainscotlaw10.JournalBack', WHERE WHAT IT READS IS OF BULK AT MOST 1048576: true; the input reads as it did. -/
def journalBackUptoRow : OpenClaim := { program := "ytdcdmpgigmhhpaa", sum := "45bd4b7580ad3e275ad07f9e46be52e7eaa72b37d49570172bdf63424315ee12", func := "wainscot/wainscotlaw10.JournalBack", spec := "journalBack", apart := false, narrowed := true }
def JournalBackUptoSaid : Prop := journalBackUptoRow.holds Try.pinned (OpenSpec.upto journalBackSpec)

/-- 'wainscotlaw12.NodeFinds', WHERE WHAT IT READS IS OF BULK AT MOST 1048576: true; the input reads as it did. -/
def nodeFindsUptoRow : OpenClaim := { program := "ytdcdmpgigmhhpaa", sum := "45bd4b7580ad3e275ad07f9e46be52e7eaa72b37d49570172bdf63424315ee12", func := "wainscot/wainscotlaw12.NodeFinds", spec := "nodeFinds", inPlace := ["internal/bytealg.Compare"], unfollowed := true, recurses := true, apart := false, narrowed := true }
def NodeFindsUptoSaid : Prop := nodeFindsUptoRow.holds Try.pinned (OpenSpec.upto nodeFindsSpec)

/-- 'wainscotlaw03.RecordEncodes', WHERE WHAT IT READS IS OF BULK AT MOST 1048576: true; the input reads as it did. -/
def recordEncodesUptoRow : OpenClaim := { program := "ytdcdmpgigmhhpaa", sum := "45bd4b7580ad3e275ad07f9e46be52e7eaa72b37d49570172bdf63424315ee12", func := "wainscot/wainscotlaw03.RecordEncodes", spec := "recordEncodes", unfollowed := true, recurses := true, apart := false, narrowed := true }
def RecordEncodesUptoSaid : Prop := recordEncodesUptoRow.holds Try.pinned (OpenSpec.upto recordEncodesSpec)

/-- 'wainscotlaw03.RecordOnce', WHERE WHAT IT READS IS OF BULK AT MOST 1048576: true; the input reads as it did. -/
def recordOnceUptoRow : OpenClaim := { program := "ytdcdmpgigmhhpaa", sum := "45bd4b7580ad3e275ad07f9e46be52e7eaa72b37d49570172bdf63424315ee12", func := "wainscot/wainscotlaw03.RecordOnce", spec := "recordOnce", unfollowed := true, recurses := true, apart := false, narrowed := true }
def RecordOnceUptoSaid : Prop := recordOnceUptoRow.holds Try.pinned (OpenSpec.upto recordOnceSpec)

/-- 'wainscotlaw03.RecordCut', WHERE WHAT IT READS IS OF BULK AT MOST 1048576: true; the input reads as it did. -/
def recordCutUptoRow : OpenClaim := { program := "ytdcdmpgigmhhpaa", sum := "45bd4b7580ad3e275ad07f9e46be52e7eaa72b37d49570172bdf63424315ee12", func := "wainscot/wainscotlaw03.RecordCut", spec := "recordCut", unfollowed := true, recurses := true, apart := false, narrowed := true }
def RecordCutUptoSaid : Prop := recordCutUptoRow.holds Try.pinned (OpenSpec.upto recordCutSpec)

/-- 'wainscotlaw12.NodeEncodes', WHERE WHAT IT READS IS OF BULK AT MOST 1048576: true; the input reads as it did. -/
def nodeEncodesUptoRow : OpenClaim := { program := "ytdcdmpgigmhhpaa", sum := "45bd4b7580ad3e275ad07f9e46be52e7eaa72b37d49570172bdf63424315ee12", func := "wainscot/wainscotlaw12.NodeEncodes", spec := "nodeEncodes", inPlace := ["internal/bytealg.Compare"], unfollowed := true, recurses := true, apart := false, narrowed := true }
def NodeEncodesUptoSaid : Prop := nodeEncodesUptoRow.holds Try.pinned (OpenSpec.upto nodeEncodesSpec)

/-- 'wainscotlaw12.NodeOnce', WHERE WHAT IT READS IS OF BULK AT MOST 1048576: true; the input reads as it did. -/
def nodeOnceUptoRow : OpenClaim := { program := "ytdcdmpgigmhhpaa", sum := "45bd4b7580ad3e275ad07f9e46be52e7eaa72b37d49570172bdf63424315ee12", func := "wainscot/wainscotlaw12.NodeOnce", spec := "nodeOnce", inPlace := ["internal/bytealg.Compare"], unfollowed := true, recurses := true, apart := false, narrowed := true }
def NodeOnceUptoSaid : Prop := nodeOnceUptoRow.holds Try.pinned (OpenSpec.upto nodeOnceSpec)

end Rows
end Go.Proofs.Ytdcdmpgigmhhpaa
