/-
  DERIVED. GIVEN WITH THE SEED: THE CARDS: each row of YtaekaifihehgdaaGreatDoorRows.lean that lists a variable, with what it lists TIED to the program's text (the seventh form; the later family's looks); each row that meets fmt, with fmt's text TOLD by the authors' own Lean function (tested against real Go, not proved from fmt's source: count such statements apart). THE CARD IS WHAT COUNTS. Prove the row's statement (the work); the ties are given (YtaekaifihehgdaaGreatDoorTie.lean); close each card by the builder's one call (the guide's Derived/Test/ToyasCard.lean, 'card_holds'). Laid BY PROGRAM, IN A SANDBOX (cutbox-door.mjs). By AI agents, Wed Nov 11 2026. No macro, syntax, notation, axiom, sorry.
-/
import Derived.Test.YtaekaifihehgdaaGreatDoorRows
import GoSem.ClaimSeven
namespace Go.Proofs.YtaekaifihehgdaaGreatDoor
namespace Rows

/-- THE TIED CARD OF 'plumboblaw7.CheckTurns'. -/
def checkTurnsCard : Claim7 := { stood := { row := checkTurnsRow, standIns := [], harness := (true, "bd3391b638a9f44f6a8205d8c3cbf04ec75fafd569636364e1ec9f348aec923e"), looks := true }, kinds := [], alts := [], laidByText := true, laidKinds := [.data, .data, .data, .data, .sentinel, .sentinel, .pinned], laidTests := true, laidLooks := .later }
def CheckTurnsCardSaid : Prop := Claim7.holds Tryz.pinned (.plain (OpenSpec.ofChange checkTurnsSpec)) checkTurnsCard

/-- THE SECOND FORM's CARD OF 'plumboblaw7.CheckTurns'. -/
def checkTurnsUptoCard : Claim7 := { stood := { row := checkTurnsUptoRow, standIns := [], harness := (true, "bd3391b638a9f44f6a8205d8c3cbf04ec75fafd569636364e1ec9f348aec923e"), looks := true }, kinds := [], alts := [], laidByText := true, laidKinds := [.data, .data, .data, .data, .sentinel, .sentinel, .pinned], laidTests := true, laidLooks := .later }
def CheckTurnsUptoCardSaid : Prop := Claim7.holds Tryz.pinned (.plain (OpenSpec.upto checkTurnsSpec)) checkTurnsUptoCard
end Rows
end Go.Proofs.YtaekaifihehgdaaGreatDoor
