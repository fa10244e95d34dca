/- WalkNames: the tied card: the row's statement, its listed variables tied to the program's text. -/
import Derived.Test.YtpahmbimajicgaaGreatDoorZp
import Derived.Test.YtpahmbimajicgaaGreatDoorCards
import Derived.Test.YtpahmbimajicgaaGreatDoorTie
import Derived.SevenTiedAt
namespace Go.Proofs.YtpahmbimajicgaaGreatDoor
open Go
theorem walkNames_card : Rows.WalkNamesCardSaid :=
  Claim7.holds_tied_plain_at .later [] [.data] true (true, "e8b5a0c1f4a3aee2533ea865205f28856ad8cc204e9c9f473cdfc0a91b099ad0") true
    law_holds (fun _ h => by cases h) (by kernel_rfl) (fun _ h => by cases h) walkNames_row_tie rfl ⟨rfl, rfl⟩ (by kernel_rfl) rfl
    (fun f fn hf hfn => by
      obtain rfl : f = 3 := Option.some.inj ((show Tryz.prog.funcNamed "galley/galleylaw12.WalkNames" = some 3 by kernel_rfl).symm.trans hf) |>.symm
      obtain rfl : fn = Tryz.f3 := (Option.some.inj (Tryz.func3.symm.trans hfn)).symm
      exact ⟨by kernel_rfl, fun j t ht => by
        rw [Tryz.params3] at ht
        simp at ht⟩)
    (by kernel_rfl)
#print axioms walkNames_card
end Go.Proofs.YtpahmbimajicgaaGreatDoor
