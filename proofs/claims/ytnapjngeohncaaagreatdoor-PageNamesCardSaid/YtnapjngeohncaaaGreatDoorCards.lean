/-
  DERIVED. GIVEN WITH THE SEED: THE CARDS: each row of YtnapjngeohncaaaGreatDoorRows.lean that lists a variable, with what it lists TIED to the program's text (the seventh form; the later family's looks); each row that meets fmt, with fmt's text TOLD by the authors' own Lean function (tested against real Go, not proved from fmt's source: count such statements apart). THE CARD IS WHAT COUNTS. Prove the row's statement (the work); the ties are given (YtnapjngeohncaaaGreatDoorTie.lean); close each card by the builder's one call (the guide's Derived/Test/ToyasCard.lean, 'card_holds'). Laid BY PROGRAM, IN A SANDBOX (cutbox-door.mjs). By AI agents, Wed Nov 11 2026. No macro, syntax, notation, axiom, sorry.
-/
import Derived.Test.YtnapjngeohncaaaGreatDoorRows
import GoSem.ClaimSeven
namespace Go.Proofs.YtnapjngeohncaaaGreatDoor
namespace Rows

/-- THE TIED CARD OF 'galleylaw23.PageNames'. -/
def pageNamesCard : Claim7 := { stood := { row := pageNamesRow, standIns := [], harness := (true, "6d2694816fd73f6e93b0a0a5eabc9253abf96975d1ecc7738514b40e36e728f1"), looks := true }, kinds := [], alts := [], laidByText := true, laidKinds := [.data, .pinned, .data, .handle, .sentinel, .sentinel, .data, .data, .data], laidTests := true, laidLooks := .later }
def PageNamesCardSaid : Prop := Claim7.holds Tryz.pinned (.plain (OpenSpec.ofChange pageNamesSpec)) pageNamesCard

/-- THE SECOND FORM's CARD OF 'galleylaw23.PageNames'. -/
def pageNamesUptoCard : Claim7 := { stood := { row := pageNamesUptoRow, standIns := [], harness := (true, "6d2694816fd73f6e93b0a0a5eabc9253abf96975d1ecc7738514b40e36e728f1"), looks := true }, kinds := [], alts := [], laidByText := true, laidKinds := [.data, .pinned, .data, .handle, .sentinel, .sentinel, .data, .data, .data], laidTests := true, laidLooks := .later }
def PageNamesUptoCardSaid : Prop := Claim7.holds Tryz.pinned (.plain (OpenSpec.upto pageNamesSpec)) pageNamesUptoCard
end Rows
end Go.Proofs.YtnapjngeohncaaaGreatDoor
