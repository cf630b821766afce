/-
  DERIVED. GIVEN WITH THE SEED: THE CARDS: each row of YtlfjgopjjiihaaaGreatDoorRows.lean that lists a variable, with what it lists TIED to the program's text (the seventh form; the later family's looks); each row that meets fmt, with fmt's text TOLD by the authors' own Lean function (tested against real Go, not proved from fmt's source: count such statements apart). THE CARD IS WHAT COUNTS. Prove the row's statement (the work); the ties are given (YtlfjgopjjiihaaaGreatDoorTie.lean); close each card by the builder's one call (the guide's Derived/Test/ToyasCard.lean, 'card_holds'). Laid BY PROGRAM, IN A SANDBOX (cutbox-door.mjs). By AI agents, Wed Nov 11 2026. No macro, syntax, notation, axiom, sorry.
-/
import Derived.Test.YtlfjgopjjiihaaaGreatDoorRows
import GoSem.ClaimSeven
namespace Go.Proofs.YtlfjgopjjiihaaaGreatDoor
namespace Rows

/-- THE TIED CARD OF 'wainscotlaw19.DeltaNil'. -/
def deltaNilCard : Claim7 := { stood := { row := deltaNilRow, standIns := [], harness := (true, "41a2bfa47a229812951152660463df790846f9be7b77cb1dc187aa21b18e3321"), looks := false }, kinds := [], alts := [], laidByText := true, laidKinds := [.data, .pinned], laidTests := true, laidLooks := .later }
def DeltaNilCardSaid : Prop := Claim7.holds Tryz.pinned (.plain (OpenSpec.ofChange deltaNilSpec)) deltaNilCard

/-- THE SECOND FORM's CARD OF 'wainscotlaw19.DeltaNil'. -/
def deltaNilUptoCard : Claim7 := { stood := { row := deltaNilUptoRow, standIns := [], harness := (true, "41a2bfa47a229812951152660463df790846f9be7b77cb1dc187aa21b18e3321"), looks := false }, kinds := [], alts := [], laidByText := true, laidKinds := [.data, .pinned], laidTests := true, laidLooks := .later }
def DeltaNilUptoCardSaid : Prop := Claim7.holds Tryz.pinned (.plain (OpenSpec.upto deltaNilSpec)) deltaNilUptoCard
end Rows
end Go.Proofs.YtlfjgopjjiihaaaGreatDoor
