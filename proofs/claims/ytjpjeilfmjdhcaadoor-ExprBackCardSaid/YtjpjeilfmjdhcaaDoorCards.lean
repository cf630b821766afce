/-
  DERIVED. GIVEN WITH THE SEED: THE CARDS: each row of YtjpjeilfmjdhcaaDoorRows.lean that lists a variable, with what it lists TIED to the program's text (the seventh form; the later family's looks); each row that meets fmt, with fmt's text TOLD by the authors' own Lean function (tested against real Go, not proved from fmt's source: count such statements apart). THE CARD IS WHAT COUNTS. Prove the row's statement (the work); the ties are given (YtjpjeilfmjdhcaaDoorTie.lean); close each card by the builder's one call (the guide's Derived/Test/ToyasCard.lean, 'card_holds'). Laid BY PROGRAM, IN A SANDBOX (cutbox-door.mjs). By AI agents, Wed Nov 11 2026. No macro, syntax, notation, axiom, sorry.
-/
import Derived.Test.YtjpjeilfmjdhcaaDoorRows
import GoSem.ClaimSeven
namespace Go.Proofs.YtjpjeilfmjdhcaaDoor
namespace Rows

/-- THE TIED CARD OF 'wainscotlaw06.ExprBack'. -/
def exprBackCard : Claim7 := { stood := { row := exprBackRow, standIns := [], harness := (true, "6243aa100a8d6ffcd64199fcbcd3df7fc1746712baec96ccffd1141ceb43efbd"), looks := false }, kinds := [], alts := [], laidByText := true, laidKinds := [.data, .data, .data, .data, .pinned], laidTests := true, laidLooks := .later }
def ExprBackCardSaid : Prop := Claim7.holds Tryd.pinned (.plain (OpenSpec.ofChange exprBackSpec)) exprBackCard

/-- THE SECOND FORM's CARD OF 'wainscotlaw06.ExprBack'. -/
def exprBackUptoCard : Claim7 := { stood := { row := exprBackUptoRow, standIns := [], harness := (true, "6243aa100a8d6ffcd64199fcbcd3df7fc1746712baec96ccffd1141ceb43efbd"), looks := false }, kinds := [], alts := [], laidByText := true, laidKinds := [.data, .data, .data, .data, .pinned], laidTests := true, laidLooks := .later }
def ExprBackUptoCardSaid : Prop := Claim7.holds Tryd.pinned (.plain (OpenSpec.upto exprBackSpec)) exprBackUptoCard
end Rows
end Go.Proofs.YtjpjeilfmjdhcaaDoor
