/-
  NARROWER THAN 'FOR EVERY INPUT', by the rows' own cells (each row's printed sentence says how): WalkNames: laid · MutateSound: laid · MutatePlays: laid · WalkWhole: laid · WalkBack: laid · WalkPlays: laid.
  DERIVED. THE GIVEN ROWS OF THIS SEAT. 6 by the template 'for every input the law returns true; each argument reads behind the call as it read before'; 0 by the template 'total and deterministic' (their statements: YtpahmbimajicgaaGreatDoorTotals.lean).
  GIVEN WITH THE SEED: the statements are not yours to turn. If you find one false, say at which input.
  Laid BY PROGRAM, IN A SANDBOX (cutbox-rows.mjs): the forced cells as the released guide's own fill.sh prints them over the translation f0b097d98caffecd… (all of the seat's roots in one cut). By AI agents, Wed Nov 11 2026. No macro, syntax, notation, axiom, sorry.
-/
import Derived.Test.YtpahmbimajicgaaGreatDoorChecked
import GoSem.Claim
import GoSem.ClaimJoined
import GoSem.ClaimMapViews
import Derived.JoinedTies
import Derived.KernelRfl
namespace Go.Proofs.YtpahmbimajicgaaGreatDoor
/- THE CELL 'sum', in the pinned program and in every row, IS THE sha256 OF THE DUMP (.gsa) THAT YtpahmbimajicgaaGreatDoorProg.lean LOADS. Nothing in Lean hashes anything: it is a label: what it is worth is what the hold of that sum in a sandbox is worth. -/
noncomputable def Tryz.pinned : Pinned := { name := "ytpahmbimajicgaagreatdoor", sum := "f0b097d98caffecd8134e7bb5e871c82e091c1fb2aef133965ddbb393d3279ff", checked := Tryz.checked }
namespace Rows
def none {H : Type} : Left H := { results := [], args := [] }

/- WHAT THE LISTED PACKAGE-LEVEL VARIABLES READ AS WHEN THE CALL BEGINS. Each datum BY PROGRAM (the guide's laid-datum.mjs) off the statement by which the dump's own 'gosem.cut.vars' lays the variable. In a bare row this is a premise. The card (YtpahmbimajicgaaGreatDoorCards.lean) ties it to the program's text. -/
def laid_galley_trail_none {H : Type} : DataW H := .agg [.lit (.int .u32 0), .lit (.int .u32 0)]
def laid_galley_galleyref09_none {H : Type} : DataW H := .agg [.lit (.int .u32 0), .lit (.int .u32 0)]
def laid_galley_galleyref12_none {H : Type} : DataW H := .agg [.lit (.int .u32 0), .lit (.int .u32 0)]

/-- 'galleylaw12.WalkNames': WHATEVER THE INPUT: true; the input reads as it did. -/
def walkNamesSpec : ChangeSpec := { name := "walkNames", fn := fun _ => fun
  | [] => { results := [.lit (.bool true)], args := [] }
  | _ => none }
def walkNamesRow : OpenClaim := { program := "ytpahmbimajicgaagreatdoor", sum := "f0b097d98caffecd8134e7bb5e871c82e091c1fb2aef133965ddbb393d3279ff", func := "galley/galleylaw12.WalkNames", spec := "walkNames", unfollowed := true, recurses := true, named := ["galley/trail.none"], plainKeys := false, apart := false, laid := [("galley/trail.none", laid_galley_trail_none)] }
def WalkNamesSaid : Prop := walkNamesRow.holds Tryz.pinned (OpenSpec.ofChange walkNamesSpec)

/-- ITS FALSE NEIGHBOUR: 'it returns false'. Refute it at one input. -/
def walkNamesWrong : ChangeSpec := { name := "walkNames", fn := fun _ => fun
  | [] => { results := [.lit (.bool false)], args := [] }
  | _ => none }
def WalkNamesWrongFalsely : Prop := walkNamesRow.holds Tryz.pinned (OpenSpec.ofChange walkNamesWrong)

/-- 'galleylaw09.MutateSound': WHATEVER THE INPUT: true; the input reads as it did. -/
def mutateSoundSpec : ChangeSpec := { name := "mutateSound", fn := fun _ => fun
  | [d1, d2, d3] => { results := [.lit (.bool true)], args := [d1, d2, d3] }
  | _ => none }
def mutateSoundRow : OpenClaim := { program := "ytpahmbimajicgaagreatdoor", sum := "f0b097d98caffecd8134e7bb5e871c82e091c1fb2aef133965ddbb393d3279ff", func := "galley/galleylaw09.MutateSound", spec := "mutateSound", unfollowed := true, recurses := true, named := ["galley/trail.none"], plainKeys := false, apart := false, laid := [("galley/trail.none", laid_galley_trail_none)] }
def MutateSoundSaid : Prop := mutateSoundRow.holds Tryz.pinned (OpenSpec.ofChange mutateSoundSpec)

/-- ITS FALSE NEIGHBOUR: 'it returns false'. Refute it at one input. -/
def mutateSoundWrong : ChangeSpec := { name := "mutateSound", fn := fun _ => fun
  | [d1, d2, d3] => { results := [.lit (.bool false)], args := [d1, d2, d3] }
  | _ => none }
def MutateSoundWrongFalsely : Prop := mutateSoundRow.holds Tryz.pinned (OpenSpec.ofChange mutateSoundWrong)

/-- 'galleylaw09.MutatePlays': WHATEVER THE INPUT: true; the input reads as it did. -/
def mutatePlaysSpec : ChangeSpec := { name := "mutatePlays", fn := fun _ => fun
  | [d1, d2, d3] => { results := [.lit (.bool true)], args := [d1, d2, d3] }
  | _ => none }
def mutatePlaysRow : OpenClaim := { program := "ytpahmbimajicgaagreatdoor", sum := "f0b097d98caffecd8134e7bb5e871c82e091c1fb2aef133965ddbb393d3279ff", func := "galley/galleylaw09.MutatePlays", spec := "mutatePlays", unfollowed := true, recurses := true, named := ["galley/trail.none", "galley/galleyref09.none"], plainKeys := false, apart := false, laid := [("galley/galleyref09.none", laid_galley_galleyref09_none), ("galley/trail.none", laid_galley_trail_none)] }
def MutatePlaysSaid : Prop := mutatePlaysRow.holds Tryz.pinned (OpenSpec.ofChange mutatePlaysSpec)

/-- ITS FALSE NEIGHBOUR: 'it returns false'. Refute it at one input. -/
def mutatePlaysWrong : ChangeSpec := { name := "mutatePlays", fn := fun _ => fun
  | [d1, d2, d3] => { results := [.lit (.bool false)], args := [d1, d2, d3] }
  | _ => none }
def MutatePlaysWrongFalsely : Prop := mutatePlaysRow.holds Tryz.pinned (OpenSpec.ofChange mutatePlaysWrong)

/-- 'galleylaw12.WalkWhole': WHATEVER THE INPUT: true; the input reads as it did. -/
def walkWholeSpec : ChangeSpec := { name := "walkWhole", fn := fun _ => fun
  | [d1, d2] => { results := [.lit (.bool true)], args := [d1, d2] }
  | _ => none }
def walkWholeRow : OpenClaim := { program := "ytpahmbimajicgaagreatdoor", sum := "f0b097d98caffecd8134e7bb5e871c82e091c1fb2aef133965ddbb393d3279ff", func := "galley/galleylaw12.WalkWhole", spec := "walkWhole", unfollowed := true, recurses := true, named := ["galley/trail.none", "galley/galleyref09.none"], plainKeys := false, apart := false, laid := [("galley/galleyref09.none", laid_galley_galleyref09_none), ("galley/trail.none", laid_galley_trail_none)] }
def WalkWholeSaid : Prop := walkWholeRow.holds Tryz.pinned (OpenSpec.ofChange walkWholeSpec)

/-- ITS FALSE NEIGHBOUR: 'it returns false'. Refute it at one input. -/
def walkWholeWrong : ChangeSpec := { name := "walkWhole", fn := fun _ => fun
  | [d1, d2] => { results := [.lit (.bool false)], args := [d1, d2] }
  | _ => none }
def WalkWholeWrongFalsely : Prop := walkWholeRow.holds Tryz.pinned (OpenSpec.ofChange walkWholeWrong)

/-- 'galleylaw12.WalkBack': WHATEVER THE INPUT: true; the input reads as it did. -/
def walkBackSpec : ChangeSpec := { name := "walkBack", fn := fun _ => fun
  | [d1, d2] => { results := [.lit (.bool true)], args := [d1, d2] }
  | _ => none }
def walkBackRow : OpenClaim := { program := "ytpahmbimajicgaagreatdoor", sum := "f0b097d98caffecd8134e7bb5e871c82e091c1fb2aef133965ddbb393d3279ff", func := "galley/galleylaw12.WalkBack", spec := "walkBack", unfollowed := true, recurses := true, named := ["galley/trail.none", "galley/galleyref09.none"], plainKeys := false, apart := false, laid := [("galley/galleyref09.none", laid_galley_galleyref09_none), ("galley/trail.none", laid_galley_trail_none)] }
def WalkBackSaid : Prop := walkBackRow.holds Tryz.pinned (OpenSpec.ofChange walkBackSpec)

/-- ITS FALSE NEIGHBOUR: 'it returns false'. Refute it at one input. -/
def walkBackWrong : ChangeSpec := { name := "walkBack", fn := fun _ => fun
  | [d1, d2] => { results := [.lit (.bool false)], args := [d1, d2] }
  | _ => none }
def WalkBackWrongFalsely : Prop := walkBackRow.holds Tryz.pinned (OpenSpec.ofChange walkBackWrong)

/-- 'galleylaw12.WalkPlays': WHATEVER THE INPUT: true; the input reads as it did. -/
def walkPlaysSpec : ChangeSpec := { name := "walkPlays", fn := fun _ => fun
  | [d1, d2, d3] => { results := [.lit (.bool true)], args := [d1, d2, d3] }
  | _ => none }
def walkPlaysRow : OpenClaim := { program := "ytpahmbimajicgaagreatdoor", sum := "f0b097d98caffecd8134e7bb5e871c82e091c1fb2aef133965ddbb393d3279ff", func := "galley/galleylaw12.WalkPlays", spec := "walkPlays", unfollowed := true, recurses := true, named := ["galley/trail.none", "galley/galleyref12.none", "galley/galleyref09.none"], plainKeys := false, apart := false, laid := [("galley/galleyref09.none", laid_galley_galleyref09_none), ("galley/galleyref12.none", laid_galley_galleyref12_none), ("galley/trail.none", laid_galley_trail_none)] }
def WalkPlaysSaid : Prop := walkPlaysRow.holds Tryz.pinned (OpenSpec.ofChange walkPlaysSpec)

/-- ITS FALSE NEIGHBOUR: 'it returns false'. Refute it at one input. -/
def walkPlaysWrong : ChangeSpec := { name := "walkPlays", fn := fun _ => fun
  | [d1, d2, d3] => { results := [.lit (.bool false)], args := [d1, d2, d3] }
  | _ => none }
def WalkPlaysWrongFalsely : Prop := walkPlaysRow.holds Tryz.pinned (OpenSpec.ofChange walkPlaysWrong)

/- THE SECOND FORM. 'bulk': how many values and letters a reading holds, each counted each time it is reached (what is shared counts as often as it is met; a slice's spare places count too). A statement '..UptoSaid' is the law's where the arguments, and the package variables that the reading takes, are together of bulk at most 1048576: NARROWER than '..Said'. Prove '..Said' where nothing that the law and all that it calls make is longer than what came in: it says more and counts as full. Else prove '..UptoSaid'. A law counts once. -/
mutual
def uptoBulk {H : Type} : DataW H → Nat
  | .lit (.string bytes) => bytes.length + 1
  | .lit _ => 1
  | .nil => 1
  | .ptr d => uptoBulk d + 1
  | .slice elems spare => uptoBulkAll elems + uptoBulkAll spare + 1
  | .agg parts => uptoBulkAll parts + 1
  | .iface _ d => uptoBulk d + 1
  | .map entries => uptoBulkEntries entries + 1
  | .held _ => 1
def uptoBulkAll {H : Type} : List (DataW H) → Nat
  | [] => 0
  | d :: r => uptoBulk d + uptoBulkAll r
def uptoBulkEntries {H : Type} : List (Lit × DataW H) → Nat
  | [] => 0
  | x :: r => uptoBulkEntry x + uptoBulkEntries r
def uptoBulkEntry {H : Type} : Lit × DataW H → Nat
  | (.string bytes, d) => bytes.length + uptoBulk d + 1
  | (_, d) => uptoBulk d + 1
 end
def uptoSmall : (H : Type) → List (DataW H) → Bool := fun _ ds => decide (uptoBulkAll ds ≤ 1048576)
def OpenSpec.upto (s : _root_.Go.ChangeSpec) : _root_.Go.OpenSpec := { _root_.Go.OpenSpec.ofChange s with cond := some uptoSmall }

/-- 'galleylaw12.WalkNames', WHERE WHAT IT READS IS OF BULK AT MOST 1048576: true; the input reads as it did. -/
def walkNamesUptoRow : OpenClaim := { program := "ytpahmbimajicgaagreatdoor", sum := "f0b097d98caffecd8134e7bb5e871c82e091c1fb2aef133965ddbb393d3279ff", func := "galley/galleylaw12.WalkNames", spec := "walkNames", unfollowed := true, recurses := true, named := ["galley/trail.none"], plainKeys := false, apart := false, laid := [("galley/trail.none", laid_galley_trail_none)], narrowed := true }
def WalkNamesUptoSaid : Prop := walkNamesUptoRow.holds Tryz.pinned (OpenSpec.upto walkNamesSpec)

/-- 'galleylaw09.MutateSound', WHERE WHAT IT READS IS OF BULK AT MOST 1048576: true; the input reads as it did. -/
def mutateSoundUptoRow : OpenClaim := { program := "ytpahmbimajicgaagreatdoor", sum := "f0b097d98caffecd8134e7bb5e871c82e091c1fb2aef133965ddbb393d3279ff", func := "galley/galleylaw09.MutateSound", spec := "mutateSound", unfollowed := true, recurses := true, named := ["galley/trail.none"], plainKeys := false, apart := false, laid := [("galley/trail.none", laid_galley_trail_none)], narrowed := true }
def MutateSoundUptoSaid : Prop := mutateSoundUptoRow.holds Tryz.pinned (OpenSpec.upto mutateSoundSpec)

/-- 'galleylaw09.MutatePlays', WHERE WHAT IT READS IS OF BULK AT MOST 1048576: true; the input reads as it did. -/
def mutatePlaysUptoRow : OpenClaim := { program := "ytpahmbimajicgaagreatdoor", sum := "f0b097d98caffecd8134e7bb5e871c82e091c1fb2aef133965ddbb393d3279ff", func := "galley/galleylaw09.MutatePlays", spec := "mutatePlays", unfollowed := true, recurses := true, named := ["galley/trail.none", "galley/galleyref09.none"], plainKeys := false, apart := false, laid := [("galley/galleyref09.none", laid_galley_galleyref09_none), ("galley/trail.none", laid_galley_trail_none)], narrowed := true }
def MutatePlaysUptoSaid : Prop := mutatePlaysUptoRow.holds Tryz.pinned (OpenSpec.upto mutatePlaysSpec)

/-- 'galleylaw12.WalkWhole', WHERE WHAT IT READS IS OF BULK AT MOST 1048576: true; the input reads as it did. -/
def walkWholeUptoRow : OpenClaim := { program := "ytpahmbimajicgaagreatdoor", sum := "f0b097d98caffecd8134e7bb5e871c82e091c1fb2aef133965ddbb393d3279ff", func := "galley/galleylaw12.WalkWhole", spec := "walkWhole", unfollowed := true, recurses := true, named := ["galley/trail.none", "galley/galleyref09.none"], plainKeys := false, apart := false, laid := [("galley/galleyref09.none", laid_galley_galleyref09_none), ("galley/trail.none", laid_galley_trail_none)], narrowed := true }
def WalkWholeUptoSaid : Prop := walkWholeUptoRow.holds Tryz.pinned (OpenSpec.upto walkWholeSpec)

/-- 'galleylaw12.WalkBack', WHERE WHAT IT READS IS OF BULK AT MOST 1048576: true; the input reads as it did. -/
def walkBackUptoRow : OpenClaim := { program := "ytpahmbimajicgaagreatdoor", sum := "f0b097d98caffecd8134e7bb5e871c82e091c1fb2aef133965ddbb393d3279ff", func := "galley/galleylaw12.WalkBack", spec := "walkBack", unfollowed := true, recurses := true, named := ["galley/trail.none", "galley/galleyref09.none"], plainKeys := false, apart := false, laid := [("galley/galleyref09.none", laid_galley_galleyref09_none), ("galley/trail.none", laid_galley_trail_none)], narrowed := true }
def WalkBackUptoSaid : Prop := walkBackUptoRow.holds Tryz.pinned (OpenSpec.upto walkBackSpec)

/-- 'galleylaw12.WalkPlays', WHERE WHAT IT READS IS OF BULK AT MOST 1048576: true; the input reads as it did. -/
def walkPlaysUptoRow : OpenClaim := { program := "ytpahmbimajicgaagreatdoor", sum := "f0b097d98caffecd8134e7bb5e871c82e091c1fb2aef133965ddbb393d3279ff", func := "galley/galleylaw12.WalkPlays", spec := "walkPlays", unfollowed := true, recurses := true, named := ["galley/trail.none", "galley/galleyref12.none", "galley/galleyref09.none"], plainKeys := false, apart := false, laid := [("galley/galleyref09.none", laid_galley_galleyref09_none), ("galley/galleyref12.none", laid_galley_galleyref12_none), ("galley/trail.none", laid_galley_trail_none)], narrowed := true }
def WalkPlaysUptoSaid : Prop := walkPlaysUptoRow.holds Tryz.pinned (OpenSpec.upto walkPlaysSpec)

end Rows
end Go.Proofs.YtpahmbimajicgaaGreatDoor
