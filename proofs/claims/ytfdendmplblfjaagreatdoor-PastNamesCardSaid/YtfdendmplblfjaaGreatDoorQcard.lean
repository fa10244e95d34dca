/- PastNames: the tied card: the row's statement, its listed variables tied to the program's text. -/
import Derived.Test.YtfdendmplblfjaaGreatDoorQp
import Derived.Test.YtfdendmplblfjaaGreatDoorCards
import Derived.Test.YtfdendmplblfjaaGreatDoorTie
import Derived.SevenTiedAt
namespace Go.Proofs.YtfdendmplblfjaaGreatDoor
open Go
theorem pastNames_card : Rows.PastNamesCardSaid :=
  Claim7.holds_tied_plain_at .later [] [.data, .data] true (true, "57a655bc9c46b8023692742973d183dbc163765df44ec258b425cffb656acfec") true
    law_holds (fun _ h => by cases h) (by kernel_rfl) (fun _ h => by cases h) pastNames_row_tie rfl ⟨rfl, rfl⟩ (by kernel_rfl) rfl
    (fun f fn hf hfn => by
      obtain rfl : f = 3 := Option.some.inj ((show Tryz.prog.funcNamed "galley/galleylaw22.PastNames" = some 3 by kernel_rfl).symm.trans hf) |>.symm
      obtain rfl : fn = Tryz.f3 := (Option.some.inj (Tryz.func3.symm.trans hfn)).symm
      exact ⟨by kernel_rfl, fun j t ht => by
        rw [Tryz.params3] at ht
        have h3 : t = 3 := by
          rcases j with _ | j
          · simpa using ht.symm
          · simp at ht
        subst h3
        exact (show Tryz.prog.wantsStandIn 3 = false by kernel_rfl)⟩)
    (by kernel_rfl)
#print axioms pastNames_card
end Go.Proofs.YtfdendmplblfjaaGreatDoor
