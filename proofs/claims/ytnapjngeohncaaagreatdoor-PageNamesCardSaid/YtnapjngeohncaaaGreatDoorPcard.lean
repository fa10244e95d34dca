/- PageNames: the tied card: the row's statement, its listed variables tied to the program's text. -/
import Derived.Test.YtnapjngeohncaaaGreatDoorPp
import Derived.Test.YtnapjngeohncaaaGreatDoorPj
import Derived.Test.YtnapjngeohncaaaGreatDoorPt
import Derived.Test.YtnapjngeohncaaaGreatDoorCards
import Derived.SevenTiedAt
namespace Go.Proofs.YtnapjngeohncaaaGreatDoor
open Go
theorem law_holds : Rows.PageNamesSaid :=
  OpenClaim.holds_of_wide 3 Tryz.f3 rfl rfl rfl rfl rfl rfl rfl ⟨rfl, rfl, rfl, rfl, rfl⟩ rfl rfl rfl rfl rfl named0 Tryz.func3 joined0
    (of_decide_eq_true (by kernel_rfl)) (by unfold Func.isWrapper; rw [if_neg (of_decide_eq_false (by kernel_rfl))]; exact ⟨rfl, rfl⟩)
    (fun os started H enc _ => law_lifted os started H enc)
theorem wf0 : Rows.pageNamesRow.wfByText (OpenSpec.ofChange Rows.pageNamesSpec) = true := by kernel_rfl
theorem main0 : Tryz.pinned.checked.prog.mainIs = some (true, "6d2694816fd73f6e93b0a0a5eabc9253abf96975d1ecc7738514b40e36e728f1".toList) := by kernel_rfl
theorem looks0 : true = Tryz.pinned.checked.prog.looks [] := by kernel_rfl
theorem noGo : Tryz.pinned.checked.prog.funcs.toList.any Func.goes = false := by kernel_rfl
theorem goes_none {P : Program} (h : P.funcs.toList.any Func.goes = false) (f : FuncId) : P.goes f = false := by
  have h0 : ∀ fn ∈ P.funcs, Func.goes fn = false := fun fn hf => by
    have := List.any_eq_false.1 h fn (Array.mem_toList_iff.2 hf)
    simpa using this
  have h1 : ∀ g : FuncId, (P.funcs[g]?).any Func.goes = false := fun g => by
    cases hg : P.funcs[g]? with
    | none => rfl
    | some fn => exact h0 fn (Array.mem_of_getElem? hg)
  unfold Program.goes
  have h2 : P.funcs.any Func.goes = false := by rw [← Array.any_toList]; exact h
  rw [h2, Bool.and_false, Bool.or_false]
  exact List.any_eq_false.2 fun g _ => by rw [h1 g]; simp
theorem fnamed0 : Tryz.pinned.checked.prog.funcNamed "galley/galleylaw23.PageNames" = some 3 := by kernel_rfl
theorem goesBy_none {P : Program} {c : OpenClaim} (h : ∀ f, P.goes f = false) (hs : c.start = .entering) : c.goesBy P = false := by
  unfold OpenClaim.goesBy Program.goesAt Program.goesFrom
  rw [hs]
  cases P.funcNamed c.func with
  | none => rfl
  | some f =>
    show (P.goes f || false) = false
    rw [h f]
    rfl
theorem by0 : false = Rows.pageNamesRow.goesBy Tryz.pinned.checked.prog := (goesBy_none (goes_none noGo) rfl).symm
theorem pageNames_card : Rows.PageNamesCardSaid :=
  Claim7.holds_tied_plain_at .later [] [.data, .pinned, .data, .handle, .sentinel, .sentinel, .data, .data, .data] true (true, "6d2694816fd73f6e93b0a0a5eabc9253abf96975d1ecc7738514b40e36e728f1") true
    law_holds (fun _ h => by cases h) wf0 (fun _ h => by cases h) row_tie rfl ⟨rfl, rfl⟩ main0 rfl
    (fun f fn hf hfn => by
      obtain rfl : f = 3 := Option.some.inj (fnamed0.symm.trans hf) |>.symm
      obtain rfl : fn = Tryz.f3 := (Option.some.inj (Tryz.func3.symm.trans hfn)).symm
      exact ⟨looks0, fun j t ht => by
        rw [Tryz.params3] at ht
        simp at ht⟩)
    by0
#print axioms pageNames_card
end Go.Proofs.YtnapjngeohncaaaGreatDoor
