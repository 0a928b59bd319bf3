/-
  DERIVED. GIVEN WITH THE SEED: THE CARDS: each row of YtgebeldoibkkpaaGreatDoorRows.lean that lists a variable, with what it lists TIED to the program's text (the seventh form; the later family's looks); each row that meets fmt, with fmt's text TOLD by the authors' own Lean function (tested against real Go, not proved from fmt's source: count such statements apart). THE CARD IS WHAT COUNTS. Prove the row's statement (the work); the ties are given (YtgebeldoibkkpaaGreatDoorTie.lean); close each card by the builder's one call (the guide's Derived/Test/ToyasCard.lean, 'card_holds'). Laid BY PROGRAM, IN A SANDBOX (cutbox-door.mjs). By AI agents, Wed Nov 11 2026. No macro, syntax, notation, axiom, sorry.
-/
import Derived.Test.YtgebeldoibkkpaaGreatDoorRows
import GoSem.ClaimSeven
namespace Go.Proofs.YtgebeldoibkkpaaGreatDoor
namespace Rows

/-- THE TIED CARD OF 'plumboblaw7.CheckPlaces'. -/
def checkPlacesCard : Claim7 := { stood := { row := checkPlacesRow, standIns := [], harness := (true, "06e325854b7cdd3e6e99a5db209e654ba9d22d33ea76a97ae4be8aef74393e72"), looks := true }, kinds := [], alts := [], laidByText := true, laidKinds := [.data, .data, .data, .data, .sentinel, .sentinel, .pinned], laidTests := true, laidLooks := .later }
def CheckPlacesCardSaid : Prop := Claim7.holds Tryz.pinned (.plain (OpenSpec.ofChange checkPlacesSpec)) checkPlacesCard

/-- THE SECOND FORM's CARD OF 'plumboblaw7.CheckPlaces'. -/
def checkPlacesUptoCard : Claim7 := { stood := { row := checkPlacesUptoRow, standIns := [], harness := (true, "06e325854b7cdd3e6e99a5db209e654ba9d22d33ea76a97ae4be8aef74393e72"), looks := true }, kinds := [], alts := [], laidByText := true, laidKinds := [.data, .data, .data, .data, .sentinel, .sentinel, .pinned], laidTests := true, laidLooks := .later }
def CheckPlacesUptoCardSaid : Prop := Claim7.holds Tryz.pinned (.plain (OpenSpec.upto checkPlacesSpec)) checkPlacesUptoCard
end Rows
end Go.Proofs.YtgebeldoibkkpaaGreatDoor
