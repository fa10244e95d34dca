/-
  DERIVED. GIVEN WITH THE SEED: THE CARDS: each row of YtfdendmplblfjaaGreatDoorRows.lean that lists a variable, with what it lists TIED to the program's text (the seventh form; the later family's looks); each row that meets fmt, with fmt's text TOLD by the authors' own Lean function (tested against real Go, not proved from fmt's source: count such statements apart). THE CARD IS WHAT COUNTS. Prove the row's statement (the work); the ties are given (YtfdendmplblfjaaGreatDoorTie.lean); close each card by the builder's one call (the guide's Derived/Test/ToyasCard.lean, 'card_holds'). Laid BY PROGRAM, IN A SANDBOX (cutbox-door.mjs). By AI agents, Wed Nov 11 2026. No macro, syntax, notation, axiom, sorry.
-/
import Derived.Test.YtfdendmplblfjaaGreatDoorRows
import GoSem.ClaimSeven
namespace Go.Proofs.YtfdendmplblfjaaGreatDoor
namespace Rows

/-- THE TIED CARD OF 'galleylaw22.PastNames'. -/
def pastNamesCard : Claim7 := { stood := { row := pastNamesRow, standIns := [], harness := (true, "57a655bc9c46b8023692742973d183dbc163765df44ec258b425cffb656acfec"), looks := true }, kinds := [], alts := [], laidByText := true, laidKinds := [.data, .data], laidTests := true, laidLooks := .later }
def PastNamesCardSaid : Prop := Claim7.holds Tryz.pinned (.plain (OpenSpec.ofChange pastNamesSpec)) pastNamesCard

/-- THE SECOND FORM's CARD OF 'galleylaw22.PastNames'. -/
def pastNamesUptoCard : Claim7 := { stood := { row := pastNamesUptoRow, standIns := [], harness := (true, "57a655bc9c46b8023692742973d183dbc163765df44ec258b425cffb656acfec"), looks := true }, kinds := [], alts := [], laidByText := true, laidKinds := [.data, .data], laidTests := true, laidLooks := .later }
def PastNamesUptoCardSaid : Prop := Claim7.holds Tryz.pinned (.plain (OpenSpec.upto pastNamesSpec)) pastNamesUptoCard
end Rows
end Go.Proofs.YtfdendmplblfjaaGreatDoor
