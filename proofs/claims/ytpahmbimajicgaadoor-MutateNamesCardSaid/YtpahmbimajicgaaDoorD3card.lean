/- MutateNames: the tied card: the row's statement, its listed variables tied to the program's text. -/
import Derived.Test.YtpahmbimajicgaaDoorD3p
import Derived.Test.YtpahmbimajicgaaDoorCards
import Derived.Test.YtpahmbimajicgaaDoorTie
import Derived.SevenTiedAt
namespace Go.Proofs.YtpahmbimajicgaaDoor
open Go
theorem mutateNames_card : Rows.MutateNamesCardSaid :=
  Claim7.holds_tied_plain_at .later [] [.data] true (true, "b56bac0e34f9aef188974594ede5ec031a6c87ce1d718fcbb62814d45efbd7e0") true
    law_holds (fun _ h => by cases h) (by kernel_rfl) (fun _ h => by cases h) mutateNames_row_tie rfl ⟨rfl, rfl⟩ (by kernel_rfl) rfl
    (fun f fn hf hfn => by
      obtain rfl : f = 3 := Option.some.inj ((show Tryd.prog.funcNamed "galley/galleylaw09.MutateNames" = some 3 by kernel_rfl).symm.trans hf) |>.symm
      obtain rfl : fn = Tryd.f3 := (Option.some.inj (Tryd.func3.symm.trans hfn)).symm
      exact ⟨by kernel_rfl, fun j t ht => by
        rw [Tryd.params3] at ht
        simp at ht⟩)
    (by kernel_rfl)
#print axioms mutateNames_card
end Go.Proofs.YtpahmbimajicgaaDoor
