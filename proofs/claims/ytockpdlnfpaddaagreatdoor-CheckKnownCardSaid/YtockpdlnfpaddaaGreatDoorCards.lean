/-
  DERIVED. GIVEN WITH THE SEED: THE CARDS: each row of YtockpdlnfpaddaaGreatDoorRows.lean that lists a variable, with what it lists TIED to the program's text (the seventh form; the later family's looks); each row that meets fmt, with fmt's text TOLD by the authors' own Lean function (tested against real Go, not proved from fmt's source: count such statements apart). THE CARD IS WHAT COUNTS. Prove the row's statement (the work); the ties are given (YtockpdlnfpaddaaGreatDoorTie.lean); close each card by the builder's one call (the guide's Derived/Test/ToyasCard.lean, 'card_holds'). Laid BY PROGRAM, IN A SANDBOX (cutbox-door.mjs). By AI agents, Wed Nov 11 2026. No macro, syntax, notation, axiom, sorry.
-/
import Derived.Test.YtockpdlnfpaddaaGreatDoorRows
import GoSem.ClaimSeven
namespace Go.Proofs.YtockpdlnfpaddaaGreatDoor
namespace Rows

/-- THE TIED CARD OF 'plumboblaw7.CheckKnown'. -/
def checkKnownCard : Claim7 := { stood := { row := checkKnownRow, standIns := [], harness := (true, "6f6ab63e18e851a9c002b5c6d640c262360dab3d975b0e1ac15b383a14e9f2e5"), looks := true }, kinds := [], alts := [], laidByText := true, laidKinds := [.data, .data, .data, .data, .sentinel, .sentinel, .pinned], laidTests := true, laidLooks := .later }
def CheckKnownCardSaid : Prop := Claim7.holds Tryz.pinned (.plain (OpenSpec.ofChange checkKnownSpec)) checkKnownCard

/-- THE SECOND FORM's CARD OF 'plumboblaw7.CheckKnown'. -/
def checkKnownUptoCard : Claim7 := { stood := { row := checkKnownUptoRow, standIns := [], harness := (true, "6f6ab63e18e851a9c002b5c6d640c262360dab3d975b0e1ac15b383a14e9f2e5"), looks := true }, kinds := [], alts := [], laidByText := true, laidKinds := [.data, .data, .data, .data, .sentinel, .sentinel, .pinned], laidTests := true, laidLooks := .later }
def CheckKnownUptoCardSaid : Prop := Claim7.holds Tryz.pinned (.plain (OpenSpec.upto checkKnownSpec)) checkKnownUptoCard
end Rows
end Go.Proofs.YtockpdlnfpaddaaGreatDoor
