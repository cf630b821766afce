/-
  NARROWER THAN 'FOR EVERY INPUT', by the rows' own cells (each row's printed sentence says how): ExprForms: loops.
  DERIVED. THE GIVEN ROWS OF THIS SEAT. 7 by the template 'for every input the law returns true; each argument reads behind the call as it read before'; 0 by the template 'total and deterministic' (their statements: YtbjphicipgneaaaTotals.lean).
  GIVEN WITH THE SEED: the statements are not yours to turn. If you find one false, say at which input.
  Laid BY PROGRAM, IN A SANDBOX (cutbox-rows.mjs): the forced cells as the released guide's own fill.sh prints them over the translation 3ac348f1bca3618e… (all of the seat's roots in one cut). By AI agents, Wed Nov 11 2026. No macro, syntax, notation, axiom, sorry.
-/
import Derived.Test.YtbjphicipgneaaaChecked
import GoSem.Claim
import GoSem.ClaimJoined
import GoSem.ClaimMapViews
import Derived.JoinedTies
import Derived.KernelRfl
namespace Go.Proofs.Ytbjphicipgneaaa
/- THE CELL 'sum', in the pinned program and in every row, IS THE sha256 OF THE DUMP (.gsa) THAT YtbjphicipgneaaaProg.lean LOADS. Nothing in Lean hashes anything: it is a label: what it is worth is what the hold of that sum in a sandbox is worth. -/
noncomputable def Try.pinned : Pinned := { name := "ytbjphicipgneaaa", sum := "3ac348f1bca3618e765df664250b12ce6ba062424ebacf0479512d0c4a6c1b36", checked := Try.checked }
namespace Rows
def none {H : Type} : Left H := { results := [], args := [] }

/-- 'wainscotlaw09.DiskParted': WHATEVER THE INPUT: true; the input reads as it did. -/
def diskPartedSpec : ChangeSpec := { name := "diskParted", fn := fun _ => fun
  | [d1, d2, d3, d4] => { results := [.lit (.bool true)], args := [d1, d2, d3, d4] }
  | _ => none }
def diskPartedRow : OpenClaim := { program := "ytbjphicipgneaaa", sum := "3ac348f1bca3618e765df664250b12ce6ba062424ebacf0479512d0c4a6c1b36", func := "wainscot/wainscotlaw09.DiskParted", spec := "diskParted", apart := false }
def DiskPartedSaid : Prop := diskPartedRow.holds Try.pinned (OpenSpec.ofChange diskPartedSpec)

/-- ITS FALSE NEIGHBOUR: 'it returns false'. Refute it at one input. -/
def diskPartedWrong : ChangeSpec := { name := "diskParted", fn := fun _ => fun
  | [d1, d2, d3, d4] => { results := [.lit (.bool false)], args := [d1, d2, d3, d4] }
  | _ => none }
def DiskPartedWrongFalsely : Prop := diskPartedRow.holds Try.pinned (OpenSpec.ofChange diskPartedWrong)

/-- 'wainscotlaw09.DiskKeeps': WHATEVER THE INPUT: true; the input reads as it did. -/
def diskKeepsSpec : ChangeSpec := { name := "diskKeeps", fn := fun _ => fun
  | [d1, d2] => { results := [.lit (.bool true)], args := [d1, d2] }
  | _ => none }
def diskKeepsRow : OpenClaim := { program := "ytbjphicipgneaaa", sum := "3ac348f1bca3618e765df664250b12ce6ba062424ebacf0479512d0c4a6c1b36", func := "wainscot/wainscotlaw09.DiskKeeps", spec := "diskKeeps", unfollowed := true, recurses := true, apart := false }
def DiskKeepsSaid : Prop := diskKeepsRow.holds Try.pinned (OpenSpec.ofChange diskKeepsSpec)

/-- ITS FALSE NEIGHBOUR: 'it returns false'. Refute it at one input. -/
def diskKeepsWrong : ChangeSpec := { name := "diskKeeps", fn := fun _ => fun
  | [d1, d2] => { results := [.lit (.bool false)], args := [d1, d2] }
  | _ => none }
def DiskKeepsWrongFalsely : Prop := diskKeepsRow.holds Try.pinned (OpenSpec.ofChange diskKeepsWrong)

/-- 'wainscotlaw05.LexerNotes': WHATEVER THE INPUT: true; the input reads as it did. -/
def lexerNotesSpec : ChangeSpec := { name := "lexerNotes", fn := fun _ => fun
  | [d1, d2, d3] => { results := [.lit (.bool true)], args := [d1, d2, d3] }
  | _ => none }
def lexerNotesRow : OpenClaim := { program := "ytbjphicipgneaaa", sum := "3ac348f1bca3618e765df664250b12ce6ba062424ebacf0479512d0c4a6c1b36", func := "wainscot/wainscotlaw05.LexerNotes", spec := "lexerNotes", inPlace := ["internal/bytealg.IndexByteString"], unfollowed := true, recurses := true, apart := false }
def LexerNotesSaid : Prop := lexerNotesRow.holds Try.pinned (OpenSpec.ofChange lexerNotesSpec)

/-- ITS FALSE NEIGHBOUR: 'it returns false'. Refute it at one input. -/
def lexerNotesWrong : ChangeSpec := { name := "lexerNotes", fn := fun _ => fun
  | [d1, d2, d3] => { results := [.lit (.bool false)], args := [d1, d2, d3] }
  | _ => none }
def LexerNotesWrongFalsely : Prop := lexerNotesRow.holds Try.pinned (OpenSpec.ofChange lexerNotesWrong)

/-- 'wainscotlaw05.LexerNames': WHATEVER THE INPUT: true; the input reads as it did. -/
def lexerNamesSpec : ChangeSpec := { name := "lexerNames", fn := fun _ => fun
  | [d1, d2] => { results := [.lit (.bool true)], args := [d1, d2] }
  | _ => none }
def lexerNamesRow : OpenClaim := { program := "ytbjphicipgneaaa", sum := "3ac348f1bca3618e765df664250b12ce6ba062424ebacf0479512d0c4a6c1b36", func := "wainscot/wainscotlaw05.LexerNames", spec := "lexerNames", inPlace := ["internal/bytealg.IndexByteString"], unfollowed := true, recurses := true, apart := false }
def LexerNamesSaid : Prop := lexerNamesRow.holds Try.pinned (OpenSpec.ofChange lexerNamesSpec)

/-- ITS FALSE NEIGHBOUR: 'it returns false'. Refute it at one input. -/
def lexerNamesWrong : ChangeSpec := { name := "lexerNames", fn := fun _ => fun
  | [d1, d2] => { results := [.lit (.bool false)], args := [d1, d2] }
  | _ => none }
def LexerNamesWrongFalsely : Prop := lexerNamesRow.holds Try.pinned (OpenSpec.ofChange lexerNamesWrong)

/-- 'wainscotlaw09.DiskNil': WHATEVER THE INPUT: true; the input reads as it did. -/
def diskNilSpec : ChangeSpec := { name := "diskNil", fn := fun _ => fun
  | [d] => { results := [.lit (.bool true)], args := [d] }
  | _ => none }
def diskNilRow : OpenClaim := { program := "ytbjphicipgneaaa", sum := "3ac348f1bca3618e765df664250b12ce6ba062424ebacf0479512d0c4a6c1b36", func := "wainscot/wainscotlaw09.DiskNil", spec := "diskNil", unfollowed := true, recurses := true, apart := false }
def DiskNilSaid : Prop := diskNilRow.holds Try.pinned (OpenSpec.ofChange diskNilSpec)

/-- ITS FALSE NEIGHBOUR: 'it returns false'. Refute it at one input. -/
def diskNilWrong : ChangeSpec := { name := "diskNil", fn := fun _ => fun
  | [d] => { results := [.lit (.bool false)], args := [d] }
  | _ => none }
def DiskNilWrongFalsely : Prop := diskNilRow.holds Try.pinned (OpenSpec.ofChange diskNilWrong)

/-- 'wainscotlaw20.CatalogNil': WHATEVER THE INPUT: true; the input reads as it did. -/
def catalogNilSpec : ChangeSpec := { name := "catalogNil", fn := fun _ => fun
  | [d1, d2, d3] => { results := [.lit (.bool true)], args := [d1, d2, d3] }
  | _ => none }
def catalogNilRow : OpenClaim := { program := "ytbjphicipgneaaa", sum := "3ac348f1bca3618e765df664250b12ce6ba062424ebacf0479512d0c4a6c1b36", func := "wainscot/wainscotlaw20.CatalogNil", spec := "catalogNil", unfollowed := true, recurses := true, apart := false }
def CatalogNilSaid : Prop := catalogNilRow.holds Try.pinned (OpenSpec.ofChange catalogNilSpec)

/-- ITS FALSE NEIGHBOUR: 'it returns false'. Refute it at one input. -/
def catalogNilWrong : ChangeSpec := { name := "catalogNil", fn := fun _ => fun
  | [d1, d2, d3] => { results := [.lit (.bool false)], args := [d1, d2, d3] }
  | _ => none }
def CatalogNilWrongFalsely : Prop := catalogNilRow.holds Try.pinned (OpenSpec.ofChange catalogNilWrong)

/-- 'wainscotlaw06.ExprForms': WHATEVER THE INPUT: true; the input reads as it did. -/
def exprFormsSpec : ChangeSpec := { name := "exprForms", fn := fun _ => fun
  | [d1, d2] => { results := [.lit (.bool true)], args := [d1, d2] }
  | _ => none }
def exprFormsRow : OpenClaim := { program := "ytbjphicipgneaaa", sum := "3ac348f1bca3618e765df664250b12ce6ba062424ebacf0479512d0c4a6c1b36", func := "wainscot/wainscotlaw06.ExprForms", spec := "exprForms", inPlace := ["internal/bytealg.IndexByteString"], unfollowed := true, recurses := true, loops := true, apart := false }
def ExprFormsSaid : Prop := exprFormsRow.holds Try.pinned (OpenSpec.ofChange exprFormsSpec)

/-- ITS FALSE NEIGHBOUR: 'it returns false'. Refute it at one input. -/
def exprFormsWrong : ChangeSpec := { name := "exprForms", fn := fun _ => fun
  | [d1, d2] => { results := [.lit (.bool false)], args := [d1, d2] }
  | _ => none }
def ExprFormsWrongFalsely : Prop := exprFormsRow.holds Try.pinned (OpenSpec.ofChange exprFormsWrong)

/- THE SECOND FORM. 'bulk': how many values and letters a reading holds, each counted each time it is reached (what is shared counts as often as it is met; a slice's spare places count too). A statement '..UptoSaid' is the law's where the arguments, and the package variables that the reading takes, are together of bulk at most 1048576: NARROWER than '..Said'. Prove '..Said' where nothing that the law and all that it calls make is longer than what came in: it says more and counts as full. Else prove '..UptoSaid'. A law counts once. -/
mutual
def uptoBulk {H : Type} : DataW H → Nat
  | .lit (.string bytes) => bytes.length + 1
  | .lit _ => 1
  | .nil => 1
  | .ptr d => uptoBulk d + 1
  | .slice elems spare => uptoBulkAll elems + uptoBulkAll spare + 1
  | .agg parts => uptoBulkAll parts + 1
  | .iface _ d => uptoBulk d + 1
  | .map entries => uptoBulkEntries entries + 1
  | .held _ => 1
def uptoBulkAll {H : Type} : List (DataW H) → Nat
  | [] => 0
  | d :: r => uptoBulk d + uptoBulkAll r
def uptoBulkEntries {H : Type} : List (Lit × DataW H) → Nat
  | [] => 0
  | x :: r => uptoBulkEntry x + uptoBulkEntries r
def uptoBulkEntry {H : Type} : Lit × DataW H → Nat
  | (.string bytes, d) => bytes.length + uptoBulk d + 1
  | (_, d) => uptoBulk d + 1
 end
def uptoSmall : (H : Type) → List (DataW H) → Bool := fun _ ds => decide (uptoBulkAll ds ≤ 1048576)
def OpenSpec.upto (s : _root_.Go.ChangeSpec) : _root_.Go.OpenSpec := { _root_.Go.OpenSpec.ofChange s with cond := some uptoSmall }

/-- 'wainscotlaw09.DiskParted', WHERE WHAT IT READS IS OF BULK AT MOST 1048576: true; the input reads as it did. -/
def diskPartedUptoRow : OpenClaim := { program := "ytbjphicipgneaaa", sum := "3ac348f1bca3618e765df664250b12ce6ba062424ebacf0479512d0c4a6c1b36", func := "wainscot/wainscotlaw09.DiskParted", spec := "diskParted", apart := false, narrowed := true }
def DiskPartedUptoSaid : Prop := diskPartedUptoRow.holds Try.pinned (OpenSpec.upto diskPartedSpec)

/-- 'wainscotlaw09.DiskKeeps', WHERE WHAT IT READS IS OF BULK AT MOST 1048576: true; the input reads as it did. -/
def diskKeepsUptoRow : OpenClaim := { program := "ytbjphicipgneaaa", sum := "3ac348f1bca3618e765df664250b12ce6ba062424ebacf0479512d0c4a6c1b36", func := "wainscot/wainscotlaw09.DiskKeeps", spec := "diskKeeps", unfollowed := true, recurses := true, apart := false, narrowed := true }
def DiskKeepsUptoSaid : Prop := diskKeepsUptoRow.holds Try.pinned (OpenSpec.upto diskKeepsSpec)

/-- 'wainscotlaw05.LexerNotes', WHERE WHAT IT READS IS OF BULK AT MOST 1048576: true; the input reads as it did. -/
def lexerNotesUptoRow : OpenClaim := { program := "ytbjphicipgneaaa", sum := "3ac348f1bca3618e765df664250b12ce6ba062424ebacf0479512d0c4a6c1b36", func := "wainscot/wainscotlaw05.LexerNotes", spec := "lexerNotes", inPlace := ["internal/bytealg.IndexByteString"], unfollowed := true, recurses := true, apart := false, narrowed := true }
def LexerNotesUptoSaid : Prop := lexerNotesUptoRow.holds Try.pinned (OpenSpec.upto lexerNotesSpec)

/-- 'wainscotlaw05.LexerNames', WHERE WHAT IT READS IS OF BULK AT MOST 1048576: true; the input reads as it did. -/
def lexerNamesUptoRow : OpenClaim := { program := "ytbjphicipgneaaa", sum := "3ac348f1bca3618e765df664250b12ce6ba062424ebacf0479512d0c4a6c1b36", func := "wainscot/wainscotlaw05.LexerNames", spec := "lexerNames", inPlace := ["internal/bytealg.IndexByteString"], unfollowed := true, recurses := true, apart := false, narrowed := true }
def LexerNamesUptoSaid : Prop := lexerNamesUptoRow.holds Try.pinned (OpenSpec.upto lexerNamesSpec)

/-- 'wainscotlaw09.DiskNil', WHERE WHAT IT READS IS OF BULK AT MOST 1048576: true; the input reads as it did. -/
def diskNilUptoRow : OpenClaim := { program := "ytbjphicipgneaaa", sum := "3ac348f1bca3618e765df664250b12ce6ba062424ebacf0479512d0c4a6c1b36", func := "wainscot/wainscotlaw09.DiskNil", spec := "diskNil", unfollowed := true, recurses := true, apart := false, narrowed := true }
def DiskNilUptoSaid : Prop := diskNilUptoRow.holds Try.pinned (OpenSpec.upto diskNilSpec)

/-- 'wainscotlaw20.CatalogNil', WHERE WHAT IT READS IS OF BULK AT MOST 1048576: true; the input reads as it did. -/
def catalogNilUptoRow : OpenClaim := { program := "ytbjphicipgneaaa", sum := "3ac348f1bca3618e765df664250b12ce6ba062424ebacf0479512d0c4a6c1b36", func := "wainscot/wainscotlaw20.CatalogNil", spec := "catalogNil", unfollowed := true, recurses := true, apart := false, narrowed := true }
def CatalogNilUptoSaid : Prop := catalogNilUptoRow.holds Try.pinned (OpenSpec.upto catalogNilSpec)

/-- 'wainscotlaw06.ExprForms', WHERE WHAT IT READS IS OF BULK AT MOST 1048576: true; the input reads as it did. -/
def exprFormsUptoRow : OpenClaim := { program := "ytbjphicipgneaaa", sum := "3ac348f1bca3618e765df664250b12ce6ba062424ebacf0479512d0c4a6c1b36", func := "wainscot/wainscotlaw06.ExprForms", spec := "exprForms", inPlace := ["internal/bytealg.IndexByteString"], unfollowed := true, recurses := true, loops := true, apart := false, narrowed := true }
def ExprFormsUptoSaid : Prop := exprFormsUptoRow.holds Try.pinned (OpenSpec.upto exprFormsSpec)

end Rows
end Go.Proofs.Ytbjphicipgneaaa
