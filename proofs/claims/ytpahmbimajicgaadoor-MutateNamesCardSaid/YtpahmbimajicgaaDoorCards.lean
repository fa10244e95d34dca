/-
  DERIVED. GIVEN WITH THE SEED: THE CARDS: each row of YtpahmbimajicgaaDoorRows.lean that lists a variable, with what it lists TIED to the program's text (the seventh form; the later family's looks); each row that meets fmt, with fmt's text TOLD by the authors' own Lean function (tested against real Go, not proved from fmt's source: count such statements apart). THE CARD IS WHAT COUNTS. Prove the row's statement (the work); the ties are given (YtpahmbimajicgaaDoorTie.lean); close each card by the builder's one call (the guide's Derived/Test/ToyasCard.lean, 'card_holds'). Laid BY PROGRAM, IN A SANDBOX (cutbox-door.mjs). By AI agents, Wed Nov 11 2026. No macro, syntax, notation, axiom, sorry.
-/
import Derived.Test.YtpahmbimajicgaaDoorRows
import GoSem.ClaimSeven
namespace Go.Proofs.YtpahmbimajicgaaDoor
namespace Rows

/-- THE TIED CARD OF 'galleylaw09.MutateNames'. -/
def mutateNamesCard : Claim7 := { stood := { row := mutateNamesRow, standIns := [], harness := (true, "b56bac0e34f9aef188974594ede5ec031a6c87ce1d718fcbb62814d45efbd7e0"), looks := true }, kinds := [], alts := [], laidByText := true, laidKinds := [.data], laidTests := true, laidLooks := .later }
def MutateNamesCardSaid : Prop := Claim7.holds Tryd.pinned (.plain (OpenSpec.ofChange mutateNamesSpec)) mutateNamesCard

/-- THE SECOND FORM's CARD OF 'galleylaw09.MutateNames'. -/
def mutateNamesUptoCard : Claim7 := { stood := { row := mutateNamesUptoRow, standIns := [], harness := (true, "b56bac0e34f9aef188974594ede5ec031a6c87ce1d718fcbb62814d45efbd7e0"), looks := true }, kinds := [], alts := [], laidByText := true, laidKinds := [.data], laidTests := true, laidLooks := .later }
def MutateNamesUptoCardSaid : Prop := Claim7.holds Tryd.pinned (.plain (OpenSpec.upto mutateNamesSpec)) mutateNamesUptoCard
end Rows
end Go.Proofs.YtpahmbimajicgaaDoor
