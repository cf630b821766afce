/-
  DERIVED. GIVEN WITH THE SEED: THE CARDS: each row of YtbjphicipgneaaaDoorRows.lean that lists a variable, with what it lists TIED to the program's text (the seventh form; the later family's looks); each row that meets fmt, with fmt's text TOLD by the authors' own Lean function (tested against real Go, not proved from fmt's source: count such statements apart). THE CARD IS WHAT COUNTS. Prove the row's statement (the work); the ties are given (YtbjphicipgneaaaDoorTie.lean); close each card by the builder's one call (the guide's Derived/Test/ToyasCard.lean, 'card_holds'). Laid BY PROGRAM, IN A SANDBOX (cutbox-door.mjs). By AI agents, Wed Nov 11 2026. No macro, syntax, notation, axiom, sorry.
-/
import Derived.Test.YtbjphicipgneaaaDoorRows
import GoSem.ClaimSeven
namespace Go.Proofs.YtbjphicipgneaaaDoor
namespace Rows

/-- THE TIED CARD OF 'wainscotlaw14.BagNil'. -/
def bagNilCard : Claim7 := { stood := { row := bagNilRow, standIns := [], harness := (true, "8bda91dd19b763e9553ce7a57b01d5c5dd248dd5b2cccb652cfc380aedfec0c2"), looks := false }, kinds := [], alts := [], laidByText := true, laidKinds := [.data, .pinned], laidTests := true, laidLooks := .later }
def BagNilCardSaid : Prop := Claim7.holds Tryd.pinned (.plain (OpenSpec.ofChange bagNilSpec)) bagNilCard

/-- THE SECOND FORM's CARD OF 'wainscotlaw14.BagNil'. -/
def bagNilUptoCard : Claim7 := { stood := { row := bagNilUptoRow, standIns := [], harness := (true, "8bda91dd19b763e9553ce7a57b01d5c5dd248dd5b2cccb652cfc380aedfec0c2"), looks := false }, kinds := [], alts := [], laidByText := true, laidKinds := [.data, .pinned], laidTests := true, laidLooks := .later }
def BagNilUptoCardSaid : Prop := Claim7.holds Tryd.pinned (.plain (OpenSpec.upto bagNilSpec)) bagNilUptoCard
end Rows
end Go.Proofs.YtbjphicipgneaaaDoor
