/-
  DERIVED. GIVEN WITH THE SEED: THE CARDS: each row of YtdanfdimpcldiaaGreatDoorRows.lean that lists a variable, with what it lists TIED to the program's text (the seventh form; the later family's looks); each row that meets fmt, with fmt's text TOLD by the authors' own Lean function (tested against real Go, not proved from fmt's source: count such statements apart). THE CARD IS WHAT COUNTS. Prove the row's statement (the work); the ties are given (YtdanfdimpcldiaaGreatDoorTie.lean); close each card by the builder's one call (the guide's Derived/Test/ToyasCard.lean, 'card_holds'). Laid BY PROGRAM, IN A SANDBOX (cutbox-door.mjs). By AI agents, Wed Nov 11 2026. No macro, syntax, notation, axiom, sorry.
-/
import Derived.Test.YtdanfdimpcldiaaGreatDoorRows
import GoSem.ClaimSeven
namespace Go.Proofs.YtdanfdimpcldiaaGreatDoor
namespace Rows

/-- THE TIED CARD OF 'plumboblaw8.ClightKnown'. -/
def clightKnownCard : Claim7 := { stood := { row := clightKnownRow, standIns := [], harness := (true, "e60a5b7852295be82ef10752e7aae7b8ee353729090402b8c7649d6458f2698a"), looks := true }, kinds := [], alts := [], laidByText := true, laidKinds := [.data, .data, .data, .data, .sentinel, .sentinel, .pinned], laidTests := true, laidLooks := .later }
def ClightKnownCardSaid : Prop := Claim7.holds Tryz.pinned (.plain (OpenSpec.ofChange clightKnownSpec)) clightKnownCard

/-- THE SECOND FORM's CARD OF 'plumboblaw8.ClightKnown'. -/
def clightKnownUptoCard : Claim7 := { stood := { row := clightKnownUptoRow, standIns := [], harness := (true, "e60a5b7852295be82ef10752e7aae7b8ee353729090402b8c7649d6458f2698a"), looks := true }, kinds := [], alts := [], laidByText := true, laidKinds := [.data, .data, .data, .data, .sentinel, .sentinel, .pinned], laidTests := true, laidLooks := .later }
def ClightKnownUptoCardSaid : Prop := Claim7.holds Tryz.pinned (.plain (OpenSpec.upto clightKnownSpec)) clightKnownUptoCard
end Rows
end Go.Proofs.YtdanfdimpcldiaaGreatDoor
