/-
  DERIVED. GIVEN WITH THE SEED: THE CARDS: each row of YtkkhpibnbaepiaaDoorRows.lean that lists a variable, with what it lists TIED to the program's text (the seventh form; the later family's looks); each row that meets fmt, with fmt's text TOLD by the authors' own Lean function (tested against real Go, not proved from fmt's source: count such statements apart). THE CARD IS WHAT COUNTS. Prove the row's statement (the work); the ties are given (YtkkhpibnbaepiaaDoorTie.lean); close each card by the builder's one call (the guide's Derived/Test/ToyasCard.lean, 'card_holds'). Laid BY PROGRAM, IN A SANDBOX (cutbox-door.mjs). By AI agents, Wed Nov 11 2026. No macro, syntax, notation, axiom, sorry.
-/
import Derived.Test.YtkkhpibnbaepiaaDoorRows
import GoSem.ClaimSeven
namespace Go.Proofs.YtkkhpibnbaepiaaDoor
namespace Rows

/-- THE TIED CARD OF 'plumboblaw6.TypesKnown'. -/
def typesKnownCard : Claim7 := { stood := { row := typesKnownRow, standIns := [], harness := (true, "cc1eee3445fef972d17f467a2815113fe5146364fbe2f51dd74463879f474204"), looks := true }, kinds := [], alts := [], laidByText := true, laidKinds := [.data, .data, .data, .data, .sentinel, .sentinel, .pinned], laidTests := true, laidLooks := .later }
def TypesKnownCardSaid : Prop := Claim7.holds Tryd.pinned (.plain (OpenSpec.ofChange typesKnownSpec)) typesKnownCard

/-- THE TIED CARD OF 'plumboblaw6.TypesJoins'. -/
def typesJoinsCard : Claim7 := { stood := { row := typesJoinsRow, standIns := [], harness := (true, "cc1eee3445fef972d17f467a2815113fe5146364fbe2f51dd74463879f474204"), looks := true }, kinds := [], alts := [], laidByText := true, laidKinds := [.data, .data, .data, .data, .sentinel, .sentinel, .pinned], laidTests := true, laidLooks := .later }
def TypesJoinsCardSaid : Prop := Claim7.holds Tryd.pinned (.plain (OpenSpec.ofChange typesJoinsSpec)) typesJoinsCard

/-- THE TIED CARD OF 'plumboblaw6.TypesPlaces'. -/
def typesPlacesCard : Claim7 := { stood := { row := typesPlacesRow, standIns := [], harness := (true, "cc1eee3445fef972d17f467a2815113fe5146364fbe2f51dd74463879f474204"), looks := true }, kinds := [], alts := [], laidByText := true, laidKinds := [.data, .data, .data, .data, .sentinel, .sentinel, .pinned], laidTests := true, laidLooks := .later }
def TypesPlacesCardSaid : Prop := Claim7.holds Tryd.pinned (.plain (OpenSpec.ofChange typesPlacesSpec)) typesPlacesCard

/-- THE SECOND FORM's CARD OF 'plumboblaw6.TypesKnown'. -/
def typesKnownUptoCard : Claim7 := { stood := { row := typesKnownUptoRow, standIns := [], harness := (true, "cc1eee3445fef972d17f467a2815113fe5146364fbe2f51dd74463879f474204"), looks := true }, kinds := [], alts := [], laidByText := true, laidKinds := [.data, .data, .data, .data, .sentinel, .sentinel, .pinned], laidTests := true, laidLooks := .later }
def TypesKnownUptoCardSaid : Prop := Claim7.holds Tryd.pinned (.plain (OpenSpec.upto typesKnownSpec)) typesKnownUptoCard

/-- THE SECOND FORM's CARD OF 'plumboblaw6.TypesJoins'. -/
def typesJoinsUptoCard : Claim7 := { stood := { row := typesJoinsUptoRow, standIns := [], harness := (true, "cc1eee3445fef972d17f467a2815113fe5146364fbe2f51dd74463879f474204"), looks := true }, kinds := [], alts := [], laidByText := true, laidKinds := [.data, .data, .data, .data, .sentinel, .sentinel, .pinned], laidTests := true, laidLooks := .later }
def TypesJoinsUptoCardSaid : Prop := Claim7.holds Tryd.pinned (.plain (OpenSpec.upto typesJoinsSpec)) typesJoinsUptoCard

/-- THE SECOND FORM's CARD OF 'plumboblaw6.TypesPlaces'. -/
def typesPlacesUptoCard : Claim7 := { stood := { row := typesPlacesUptoRow, standIns := [], harness := (true, "cc1eee3445fef972d17f467a2815113fe5146364fbe2f51dd74463879f474204"), looks := true }, kinds := [], alts := [], laidByText := true, laidKinds := [.data, .data, .data, .data, .sentinel, .sentinel, .pinned], laidTests := true, laidLooks := .later }
def TypesPlacesUptoCardSaid : Prop := Claim7.holds Tryd.pinned (.plain (OpenSpec.upto typesPlacesSpec)) typesPlacesUptoCard
end Rows
end Go.Proofs.YtkkhpibnbaepiaaDoor
