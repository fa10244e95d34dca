/- PageNames: what the row says of itself, each fact by the kernel for itself: together they take more memory than a process has. -/
import Derived.Test.YtnapjngeohncaaaGreatDoorRows
import Derived.JoinedOf
import Derived.KernelRfl
set_option linter.unusedVariables false
namespace Go.Proofs.YtnapjngeohncaaaGreatDoor
open Go
set_option maxRecDepth 1000000
def J0 (P : Program) (f : FuncId) (fn : Func) (s : ChangeSpec) (c : OpenClaim) : Bool := c.wf (OpenSpec.ofChange s)
def J1 (P : Program) (f : FuncId) (fn : Func) (s : ChangeSpec) (c : OpenClaim) : Bool := laidOutB P
def J2 (P : Program) (f : FuncId) (fn : Func) (s : ChangeSpec) (c : OpenClaim) : Bool := mapsRowed P
def J3 (P : Program) (f : FuncId) (fn : Func) (s : ChangeSpec) (c : OpenClaim) : Bool := fn.params.all (P.readableRec ·)
def J4 (P : Program) (f : FuncId) (fn : Func) (s : ChangeSpec) (c : OpenClaim) : Bool := namedTie P c.named s.vars
def J5 (P : Program) (f : FuncId) (fn : Func) (s : ChangeSpec) (c : OpenClaim) : Bool := (c.stops == [])
def J6 (P : Program) (f : FuncId) (fn : Func) (s : ChangeSpec) (c : OpenClaim) : Bool := (P.stops == [])
def J7 (P : Program) (f : FuncId) (fn : Func) (s : ChangeSpec) (c : OpenClaim) : Bool := (c.knobs == [])
def J8 (P : Program) (f : FuncId) (fn : Func) (s : ChangeSpec) (c : OpenClaim) : Bool := (P.stopKnobs == [])
def J9 (P : Program) (f : FuncId) (fn : Func) (s : ChangeSpec) (c : OpenClaim) : Bool := (c.inPlace == P.inPlace f)
def J10 (P : Program) (f : FuncId) (fn : Func) (s : ChangeSpec) (c : OpenClaim) : Bool := (c.unfollowed == P.unfollowed f)
def J11 (P : Program) (f : FuncId) (fn : Func) (s : ChangeSpec) (c : OpenClaim) : Bool := (c.recurses == P.recurses f)
def J12 (P : Program) (f : FuncId) (fn : Func) (s : ChangeSpec) (c : OpenClaim) : Bool := (c.named == P.varsNamed f)
def J13 (P : Program) (f : FuncId) (fn : Func) (s : ChangeSpec) (c : OpenClaim) : Bool := (c.maps == (fn.params.toList ++ s.plain.varTypes P).any (P.mapsRec ·))
def J14 (P : Program) (f : FuncId) (fn : Func) (s : ChangeSpec) (c : OpenClaim) : Bool := (c.ifaces == (fn.params.toList ++ s.plain.varTypes P).any (P.ifacesRec ·))
def J15 (P : Program) (f : FuncId) (fn : Func) (s : ChangeSpec) (c : OpenClaim) : Bool := (c.mapsOut == P.mapsAmong fn.resultTypes.toList)
def J16 (P : Program) (f : FuncId) (fn : Func) (s : ChangeSpec) (c : OpenClaim) : Bool := (c.loops == (fn.params.toList ++ s.plain.varTypes P).any (P.loopsFrom ·))
def J17 (P : Program) (f : FuncId) (fn : Func) (s : ChangeSpec) (c : OpenClaim) : Bool := (c.wideKeys == (fn.params.toList ++ s.plain.varTypes P ++ fn.resultTypes.toList).any (P.wideKeysFrom ·))
def J18 (P : Program) (f : FuncId) (fn : Func) (s : ChangeSpec) (c : OpenClaim) : Bool := s.vars.all (P.varReadable ·)
def J19 (P : Program) (f : FuncId) (fn : Func) (s : ChangeSpec) (c : OpenClaim) : Bool := fn.resultTypes.all (fun t => P.readableRec t && decide (t < P.types.size))
def J20 (P : Program) (f : FuncId) (fn : Func) (s : ChangeSpec) (c : OpenClaim) : Bool := (c.ifacesOut == fn.resultTypes.toList.any (P.ifacesRec ·))
def J21 (P : Program) (f : FuncId) (fn : Func) (s : ChangeSpec) (c : OpenClaim) : Bool := (c.loopsOut == fn.resultTypes.toList.any (P.loopsFrom ·))
def J22 (P : Program) (f : FuncId) (fn : Func) (s : ChangeSpec) (c : OpenClaim) : Bool := (c.plainKeys == P.plainKeys)
def J23 (P : Program) (f : FuncId) (fn : Func) (s : ChangeSpec) (c : OpenClaim) : Bool := c.shortTexts.isNone
def J24 (P : Program) (f : FuncId) (fn : Func) (s : ChangeSpec) (c : OpenClaim) : Bool := P.stopsHeard
def J25 (P : Program) (f : FuncId) (fn : Func) (s : ChangeSpec) (c : OpenClaim) : Bool := P.mayEnter
def J26 (P : Program) (f : FuncId) (fn : Func) (s : ChangeSpec) (c : OpenClaim) : Bool := (c.lifted == P.liftsFinal)
def J27 (P : Program) (f : FuncId) (fn : Func) (s : ChangeSpec) (c : OpenClaim) : Bool := (P.make == some c.make)
def J28 (P : Program) (f : FuncId) (fn : Func) (s : ChangeSpec) (c : OpenClaim) : Bool := (c.kinds == (if c.domain.isEmpty then [] else fn.params.toList.map fun t => match P.underlying t with | some (.int k) => some k | _ => none))
def J29 (P : Program) (f : FuncId) (fn : Func) (s : ChangeSpec) (c : OpenClaim) : Bool := (c.pinned == c.pinnedBy)
def J30 (P : Program) (f : FuncId) (fn : Func) (s : ChangeSpec) (c : OpenClaim) : Bool := (c.veiled == (fn.params.toList ++ s.plain.varTypes P ++ fn.resultTypes.toList).any (P.veiledRec ·))
def J31 (P : Program) (f : FuncId) (fn : Func) (s : ChangeSpec) (c : OpenClaim) : Bool := c.veiledFits P fn.params.toList (fn.params.toList ++ s.plain.varTypes P ++ fn.resultTypes.toList)
theorem joined_eq (P : Program) (f : FuncId) (fn : Func) (s : ChangeSpec) (c : OpenClaim) : joinedFacts P f fn s c = (J0 P f fn s c && J1 P f fn s c && J2 P f fn s c && J3 P f fn s c && J4 P f fn s c && J5 P f fn s c && J6 P f fn s c && J7 P f fn s c && J8 P f fn s c && J9 P f fn s c && J10 P f fn s c && J11 P f fn s c && J12 P f fn s c && J13 P f fn s c && J14 P f fn s c && J15 P f fn s c && J16 P f fn s c && J17 P f fn s c && J18 P f fn s c && J19 P f fn s c && J20 P f fn s c && J21 P f fn s c && J22 P f fn s c && J23 P f fn s c && J24 P f fn s c && J25 P f fn s c && J26 P f fn s c && J27 P f fn s c && J28 P f fn s c && J29 P f fn s c && J30 P f fn s c && J31 P f fn s c) := rfl
theorem j0 : J0 Tryz.pinned.checked.prog 3 Tryz.f3 Rows.pageNamesSpec Rows.pageNamesRow = true := by kernel_rfl
theorem j1 : J1 Tryz.pinned.checked.prog 3 Tryz.f3 Rows.pageNamesSpec Rows.pageNamesRow = true := by kernel_rfl
theorem j2 : J2 Tryz.pinned.checked.prog 3 Tryz.f3 Rows.pageNamesSpec Rows.pageNamesRow = true := by kernel_rfl
theorem j3 : J3 Tryz.pinned.checked.prog 3 Tryz.f3 Rows.pageNamesSpec Rows.pageNamesRow = true := by kernel_rfl
theorem j4 : J4 Tryz.pinned.checked.prog 3 Tryz.f3 Rows.pageNamesSpec Rows.pageNamesRow = true := by kernel_rfl
theorem j5 : J5 Tryz.pinned.checked.prog 3 Tryz.f3 Rows.pageNamesSpec Rows.pageNamesRow = true := by kernel_rfl
theorem j6 : J6 Tryz.pinned.checked.prog 3 Tryz.f3 Rows.pageNamesSpec Rows.pageNamesRow = true := by kernel_rfl
theorem j7 : J7 Tryz.pinned.checked.prog 3 Tryz.f3 Rows.pageNamesSpec Rows.pageNamesRow = true := by kernel_rfl
theorem j8 : J8 Tryz.pinned.checked.prog 3 Tryz.f3 Rows.pageNamesSpec Rows.pageNamesRow = true := by kernel_rfl
theorem j9 : J9 Tryz.pinned.checked.prog 3 Tryz.f3 Rows.pageNamesSpec Rows.pageNamesRow = true := by kernel_rfl
theorem j10 : J10 Tryz.pinned.checked.prog 3 Tryz.f3 Rows.pageNamesSpec Rows.pageNamesRow = true := by kernel_rfl
theorem j11 : J11 Tryz.pinned.checked.prog 3 Tryz.f3 Rows.pageNamesSpec Rows.pageNamesRow = true := by kernel_rfl
theorem j12 : J12 Tryz.pinned.checked.prog 3 Tryz.f3 Rows.pageNamesSpec Rows.pageNamesRow = true := by kernel_rfl
theorem j13 : J13 Tryz.pinned.checked.prog 3 Tryz.f3 Rows.pageNamesSpec Rows.pageNamesRow = true := by kernel_rfl
theorem j14 : J14 Tryz.pinned.checked.prog 3 Tryz.f3 Rows.pageNamesSpec Rows.pageNamesRow = true := by kernel_rfl
theorem j15 : J15 Tryz.pinned.checked.prog 3 Tryz.f3 Rows.pageNamesSpec Rows.pageNamesRow = true := by kernel_rfl
theorem j16 : J16 Tryz.pinned.checked.prog 3 Tryz.f3 Rows.pageNamesSpec Rows.pageNamesRow = true := by kernel_rfl
theorem j17 : J17 Tryz.pinned.checked.prog 3 Tryz.f3 Rows.pageNamesSpec Rows.pageNamesRow = true := by kernel_rfl
theorem j18 : J18 Tryz.pinned.checked.prog 3 Tryz.f3 Rows.pageNamesSpec Rows.pageNamesRow = true := by kernel_rfl
theorem j19 : J19 Tryz.pinned.checked.prog 3 Tryz.f3 Rows.pageNamesSpec Rows.pageNamesRow = true := by kernel_rfl
theorem j20 : J20 Tryz.pinned.checked.prog 3 Tryz.f3 Rows.pageNamesSpec Rows.pageNamesRow = true := by kernel_rfl
theorem j21 : J21 Tryz.pinned.checked.prog 3 Tryz.f3 Rows.pageNamesSpec Rows.pageNamesRow = true := by kernel_rfl
theorem j22 : J22 Tryz.pinned.checked.prog 3 Tryz.f3 Rows.pageNamesSpec Rows.pageNamesRow = true := by kernel_rfl
theorem j23 : J23 Tryz.pinned.checked.prog 3 Tryz.f3 Rows.pageNamesSpec Rows.pageNamesRow = true := by kernel_rfl
theorem j24 : J24 Tryz.pinned.checked.prog 3 Tryz.f3 Rows.pageNamesSpec Rows.pageNamesRow = true := by kernel_rfl
theorem j25 : J25 Tryz.pinned.checked.prog 3 Tryz.f3 Rows.pageNamesSpec Rows.pageNamesRow = true := by kernel_rfl
theorem j26 : J26 Tryz.pinned.checked.prog 3 Tryz.f3 Rows.pageNamesSpec Rows.pageNamesRow = true := by kernel_rfl
theorem j27 : J27 Tryz.pinned.checked.prog 3 Tryz.f3 Rows.pageNamesSpec Rows.pageNamesRow = true := by kernel_rfl
theorem j28 : J28 Tryz.pinned.checked.prog 3 Tryz.f3 Rows.pageNamesSpec Rows.pageNamesRow = true := by kernel_rfl
theorem j29 : J29 Tryz.pinned.checked.prog 3 Tryz.f3 Rows.pageNamesSpec Rows.pageNamesRow = true := by kernel_rfl
theorem j30 : J30 Tryz.pinned.checked.prog 3 Tryz.f3 Rows.pageNamesSpec Rows.pageNamesRow = true := by kernel_rfl
theorem j31 : J31 Tryz.pinned.checked.prog 3 Tryz.f3 Rows.pageNamesSpec Rows.pageNamesRow = true := by kernel_rfl
theorem joined0 : joinedFacts Tryz.pinned.checked.prog 3 Tryz.f3 Rows.pageNamesSpec Rows.pageNamesRow = true := by
  rw [joined_eq, j0, j1, j2, j3, j4, j5, j6, j7, j8, j9, j10, j11, j12, j13, j14, j15, j16, j17, j18, j19, j20, j21, j22, j23, j24, j25, j26, j27, j28, j29, j30, j31]
  rfl
theorem named0 : Tryz.pinned.checked.prog.funcNamed Rows.pageNamesRow.func = some 3 := by kernel_rfl
end Go.Proofs.YtnapjngeohncaaaGreatDoor
