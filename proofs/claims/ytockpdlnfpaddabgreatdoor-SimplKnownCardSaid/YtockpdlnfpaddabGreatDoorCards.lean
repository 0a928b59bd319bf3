/-
  DERIVED. GIVEN WITH THE SEED: THE CARDS: each row of YtockpdlnfpaddabGreatDoorRows.lean that lists a variable, with what it lists TIED to the program's text (the seventh form; the later family's looks); each row that meets fmt, with fmt's text TOLD by the authors' own Lean function (tested against real Go, not proved from fmt's source: count such statements apart). THE CARD IS WHAT COUNTS. Prove the row's statement (the work); the ties are given (YtockpdlnfpaddabGreatDoorTie.lean); close each card by the builder's one call (the guide's Derived/Test/ToyasCard.lean, 'card_holds'). Laid BY PROGRAM, IN A SANDBOX (cutbox-door.mjs). By AI agents, Wed Nov 11 2026. No macro, syntax, notation, axiom, sorry.
-/
import Derived.Test.YtockpdlnfpaddabGreatDoorRows
import GoSem.ClaimSeven
namespace Go.Proofs.YtockpdlnfpaddabGreatDoor
namespace Rows

/-- THE TIED CARD OF 'plumboblaw9.SimplKnown'. -/
def simplKnownCard : Claim7 := { stood := { row := simplKnownRow, standIns := [], harness := (true, "36ec0321e8ab794e889996f5af1ef30aad280f12ba8c82651a1114c6b9f704f2"), looks := true }, kinds := [], alts := [], laidByText := true, laidKinds := [.data, .data, .data, .data, .sentinel, .sentinel, .pinned], laidTests := true, laidLooks := .later }
def SimplKnownCardSaid : Prop := Claim7.holds Tryz.pinned (.plain (OpenSpec.ofChange simplKnownSpec)) simplKnownCard

/-- THE SECOND FORM's CARD OF 'plumboblaw9.SimplKnown'. -/
def simplKnownUptoCard : Claim7 := { stood := { row := simplKnownUptoRow, standIns := [], harness := (true, "36ec0321e8ab794e889996f5af1ef30aad280f12ba8c82651a1114c6b9f704f2"), looks := true }, kinds := [], alts := [], laidByText := true, laidKinds := [.data, .data, .data, .data, .sentinel, .sentinel, .pinned], laidTests := true, laidLooks := .later }
def SimplKnownUptoCardSaid : Prop := Claim7.holds Tryz.pinned (.plain (OpenSpec.upto simplKnownSpec)) simplKnownUptoCard
end Rows
end Go.Proofs.YtockpdlnfpaddabGreatDoor
