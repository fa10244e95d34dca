/- PageNames: whatever the order of operations and the capacities that are drawn, its return is true and each cell of memory ahead of it stays as it was: the row's statement, by the evaluator's run in the kernel and its soundness. -/
import Derived.Test.YtnapjngeohncaaaGreatDoorXag
import Derived.Test.YtnapjngeohncaaaGreatDoorRows
import Derived.ProofKit
import Derived.LaidLaws
import Derived.LaidMore
import Derived.Lay
import Derived.Handed
import Derived.RowKit
import Derived.JoinedOf
import Derived.KernelRfl
set_option linter.unusedVariables false
namespace Go.Proofs.YtnapjngeohncaaaGreatDoor
open Go Go.ChangeShapes Go.WideShapes Go.RowKit Go.Xe
theorem own : ownKnob Tryz.prog.godebug = none := by kernel_rfl
theorem cell_two {l : List Value} {a b : Value} {n : Nat} (hl : l.length = n) (hn : n = 2) (h0 : (l.drop 0).take 1 = [a]) (h1 : (l.drop 1).take 1 = [b]) : l = [a, b] := by
  subst hn
  match l, hl with
  | [p, q], _ =>
    simp at h0 h1
    rw [h0, h1]
theorem cells_of {W : World} {t : TypeId} {cs : Array Value} {fuel : Nat} {p : List MemPlace} (ht : t = 29) (hd : DataW.trod (fun _ => ()) Tryz.prog W 0 (fun _ => true) false fuel t cs.toList = some (.agg [.lit (.int .u32 0), .lit (.int .u32 0)], p)) : cs = #[.int .u32 0, .int .u32 0] := by
  subst ht
  obtain ⟨y0, y1, n, hx, hlen, h0, h1⟩ := trod_struct2 Tryz.underlying29 hd
  have hcU : Tryz.prog.cellsOf 27 = 1 := by kernel_rfl
  have hcT : Tryz.prog.cellsOf 29 = 2 := by kernel_rfl
  simp only [hcU] at h0 h1
  obtain ⟨n0, e0, x0, _⟩ := DataW.trod_int Tryz.underlying27 h0
  obtain ⟨n1, e1, x1, _⟩ := DataW.trod_int Tryz.underlying27 h1
  subst x0
  subst x1
  simp at hx
  obtain ⟨⟨rfl, rfl⟩, _⟩ := hx
  have := cell_two hlen hcT e0 e1
  obtain ⟨l⟩ := cs
  simp only at this
  rw [this]
theorem heapG {W : World} {g : Nat} {t : TypeId} {cs : Array Value} {fuel : Nat} {p : List MemPlace} (hs : W.ShapedOpen Tryz.prog) (hg : Tryz.prog.globalNamed "galley/trail.none" = some g) (ht : (Tryz.prog.globals[g]?).map (·.type) = some t)
    (hvar : W.var? Tryz.prog "galley/trail.none" = some cs) (hd : DataW.trod (fun _ => ()) Tryz.prog W 0 (fun _ => true) false fuel t cs.toList = some (Rows.laid_galley_trail_none, p)) : W.heap[1]? = some (.cells #[.int .u32 0, .int .u32 0] 29 (0, 0)) := by
  obtain ⟨cs', hh, _, _⟩ := hs.1 1 #[.int .u32 0, .int .u32 0] 29 (of_decide_eq_true (by kernel_rfl)) (by kernel_rfl)
  have hg0 : Tryz.prog.globalNamed "galley/trail.none" = some 1 := by kernel_rfl
  obtain rfl := Option.some.inj (hg0.symm.trans hg)
  have ht0 : (Tryz.prog.globals[1]?).map (·.type) = some 29 := by kernel_rfl
  have e := Option.some.inj (ht.symm.trans ht0)
  unfold World.var? at hvar
  rw [hg0] at hvar
  simp only [Option.bind_some, hh, Option.some.injEq] at hvar
  rw [hh, hvar, cells_of e hd]
set_option maxRecDepth 1000000
/-- the row's list without its handles, and the handles -/
noncomputable def plain : List (String × DataW Unit) := Rows.pageNamesRow.laid.filter fun x => x.2.handleName?.isNone
noncomputable def held : List (String × DataW Unit) := Rows.pageNamesRow.laid.filter fun x => x.2.handleName?.isSome
theorem held_eq : held = [("errors.errorType", Rows.laid_errors_errorType)] := by kernel_rfl
theorem plain_eq : plain = ("galley/trail.none", Rows.laid_galley_trail_none) :: plain.tail := by kernel_rfl
theorem metH_iff (w : World) : laidMetH Tryz.prog Rows.pageNamesRow.laid w ↔ laidMet Tryz.prog plain w ∧ handlesMet Tryz.prog held w := by
  have h : held = held := rfl
  unfold laidMetH
  change (match held with
    | [] => laidMet Tryz.prog Rows.pageNamesRow.laid w
    | h :: hs => laidMet Tryz.prog plain w ∧ handlesMet Tryz.prog (h :: hs) w) ↔ _
  rw [held_eq]
theorem heap_of_laid {W : World} (hs : W.ShapedOpen Tryz.prog) (hl : laidMetH Tryz.prog Rows.pageNamesRow.laid W) : W.heap[1]? = some (.cells #[.int .u32 0, .int .u32 0] 29 (0, 0)) := by
  have h := ((metH_iff W).1 hl).1
  rw [plain_eq] at h
  obtain ⟨ps, ⟨g0, t0, c0, f0, p0, q0, hg0, ht0, hv0, hd0, _, _⟩, _⟩ := h
  exact heapG hs hg0 ht0 hv0 hd0
/-- the witness's start: the handle by hand, all else by the function -/
noncomputable def hU : TypeId := ((Tryz.prog.cutTypes.find? (·.1 == "internal/reflectlite.rtype")).map (·.2)).getD 0
noncomputable def hTy : TypeId := ((List.range Tryz.prog.types.size).find? fun t => Tryz.prog.rowNamed t [101, 114, 114, 111, 114]).getD 0
noncomputable def world0 (os : Os) : World := { World.holding Tryz.prog os ⟨#[], #[], []⟩ with heap := (World.holding Tryz.prog os ⟨#[], #[], []⟩).heap.setIfInBounds 0 (.cells #[.iface hU (.agg #[typeHandle Tryz.prog hTy])] 291 (0, 0)) }
noncomputable def theWorld (os : Os) : World := (world0 os).layVars Tryz.prog plain
theorem laidMet_over {P : Program} {w0 : World} {laid : List (String × DataW Unit)} {w' : World} (hh : (w0.layVars P laid).heap = w'.heap) (hf : w0.layFits P laid [] = true) (hi : w0.layIfaces P laid (w0.layVars P laid) = true) : laidMet P laid w' := by
  have e1 : (laid.filter fun x => (laid.map (·.1)).contains x.1) = laid := List.filter_eq_self.2 fun x hx => List.contains_iff_mem.2 (List.mem_map.2 ⟨x, hx, rfl⟩)
  have e2 : (laid.filter fun x => !(laid.map (·.1)).contains x.1) = [] := List.filter_eq_nil_iff.2 fun x hx => by rw [List.contains_iff_mem.2 (List.mem_map.2 ⟨x, hx, rfl⟩)]; simp
  have h : laidMet P laid (w0.layVars P laid) := laidMet_layVars (w0 := w0) (laid.map (·.1)) [] (by rw [e1]) (by rw [e1]; exact hf) (by rw [e1]; exact hi) (by rw [e2]; exact LaidIn.none)
  exact h.of_heap hh
theorem laid_met (os : Os) (args : Array Value) : laidMetH Tryz.prog Rows.pageNamesRow.laid ((theWorld os).forCall (fun _ _ => 0) ⟨#[], args, []⟩).memory := by
  refine (metH_iff _).2 ⟨laidMet_over (w0 := world0 os) (by simp [World.memory, World.forCall, Input.heap, theWorld]) (by kernel_rfl) (by kernel_rfl), ?_⟩
  rw [held_eq]
  intro x hx
  obtain rfl := List.mem_singleton.1 hx
  show ∃ name u ty, DataW.handleName? Rows.laid_errors_errorType = some name ∧ (Tryz.prog.cutTypes.find? (·.1 == "internal/reflectlite.rtype")).map (·.2) = some u ∧ ty < Tryz.prog.types.size ∧ Tryz.prog.rowNamed ty name = true ∧
      ((theWorld os).forCall (fun _ _ => 0) ⟨#[], args, []⟩).memory.var? Tryz.prog "errors.errorType" = some #[.iface u (.agg #[typeHandle Tryz.prog ty])]
  exact ⟨[101, 114, 114, 111, 114], hU, hTy, by kernel_rfl, by kernel_rfl, of_decide_eq_true (by kernel_rfl), by kernel_rfl, by kernel_rfl⟩
def rows0 : List (Nat × List AV × TypeId) := [(1, [.v (.int .u32 0), .v (.int .u32 0)], 29)]
noncomputable def E0 : Env := Env.of Tryz.prog [1] [29] (0) (0) [(138, 0), (188, 5), (219, 6), (248, 1), (249, 7), (250, 2), (251, 3), (253, 4), (254, 8), (342, 9)]
theorem ex0 : ∀ p ∈ ([(138, 0), (188, 5), (219, 6), (248, 1), (249, 7), (250, 2), (251, 3), (253, 4), (254, 8), (342, 9)] : List (Nat × Nat)), ExOK Tryz.prog p := by
  intro p hp
  simp only [List.mem_cons, List.mem_nil_iff, or_false] at hp
  rcases hp with rfl | rfl | rfl | rfl | rfl | rfl | rfl | rfl | rfl | rfl
  · exact ⟨Tryz.f138, Tryz.func138, by kernel_rfl, by kernel_rfl, by kernel_rfl, by kernel_rfl⟩
  · exact ⟨Tryz.f188, Tryz.func188, by kernel_rfl, by kernel_rfl, by kernel_rfl, by kernel_rfl⟩
  · exact ⟨Tryz.f219, Tryz.func219, by kernel_rfl, by kernel_rfl, by kernel_rfl, by kernel_rfl⟩
  · exact ⟨Tryz.f248, Tryz.func248, by kernel_rfl, by kernel_rfl, by kernel_rfl, by kernel_rfl⟩
  · exact ⟨Tryz.f249, Tryz.func249, by kernel_rfl, by kernel_rfl, by kernel_rfl, by kernel_rfl⟩
  · exact ⟨Tryz.f250, Tryz.func250, by kernel_rfl, by kernel_rfl, by kernel_rfl, by kernel_rfl⟩
  · exact ⟨Tryz.f251, Tryz.func251, by kernel_rfl, by kernel_rfl, by kernel_rfl, by kernel_rfl⟩
  · exact ⟨Tryz.f253, Tryz.func253, by kernel_rfl, by kernel_rfl, by kernel_rfl, by kernel_rfl⟩
  · exact ⟨Tryz.f254, Tryz.func254, by kernel_rfl, by kernel_rfl, by kernel_rfl, by kernel_rfl⟩
  · exact ⟨Tryz.f342, Tryz.func342, by kernel_rfl, by kernel_rfl, by kernel_rfl, by kernel_rfl⟩
theorem e0 : EnvOK E0 Tryz.prog := envOK_of (by kernel_rfl) (by kernel_rfl) (by kernel_rfl) ex0
theorem ng0 : E0.ng = rows0.length := by kernel_rfl
theorem gl0 : E0.gl = rows0.map (·.1) := by kernel_rfl
theorem nd0 : E0.gl.Nodup := by rw [gl0]; decide
theorem size0 : E0.size 29 = some 2 := by kernel_rfl
theorem und0 : E0.und 29 ≠ some (.int .u8) := by
  intro h
  have q : (match E0.und 29 with | some (.int .u8) => true | _ => false) = false := by kernel_rfl
  rw [h] at q
  cases q
theorem rowsOK : ∀ g, g < E0.ng → ∃ cs e, (rowsHp rows0).get g = some (.row cs e) ∧ E0.und e ≠ some (.int .u8) := by
  intro g hg
  rw [ng0] at hg
  match g, hg with
  | 0, _ => exact ⟨_, _, rfl, und0⟩
  | g + 1, h => simp [rows0] at h
theorem goesQ0 : finOK E0.ng (rowsHp rows0) (evQ E0 1000000 (.call false 3 [] .run (rowsHp rows0))) = true := by kernel_rfl
theorem goes0 : finOK E0.ng (rowsHp rows0) (ev E0 1000000 (.call false 3 [] .run (rowsHp rows0))) = true := by rw [← evQ_eq]; exact goesQ0
theorem calls0 {W : World} (hh : W.heap[1]? = some (.cells #[.int .u32 0, .int .u32 0] 29 (0, 0))) :
    Calls Tryz.prog 3 #[] W fun e w' => e = .returned (.bool true) ∧ w'.os = W.os ∧ w'.output = W.output ∧ ∀ i, i < W.heap.size → w'.heap[i]? = W.heap[i]? := by
  have S := start_rel (E := E0) (rows := rows0) (w := W) (m := 0) ng0 gl0 nd0 ⟨Int.le_refl _, Int.le_refl _⟩ (by
    intro k g cs e h
    match k, h with
    | 0, h =>
      simp [rows0] at h
      obtain ⟨rfl, rfl, rfl⟩ := h
      exact ⟨⟨rfl, rfl, trivial⟩, by rw [hh]; rfl, 2, size0⟩
    | k + 1, h => simp [rows0] at h)
  exact run_ok (E := E0) (P := Tryz.prog) (n := 1000000) (f := 3) (args := []) (H0 := rowsHp rows0) (w := W) (μ := ⟨fun b => ⟨E0.glAt b, 0, 0⟩, 0⟩) e0 goes0 S.1 ng0.symm rowsOK trivial
theorem metH_of_heap {w w' : World} (hh : w.heap = w'.heap) (h : laidMetH Tryz.prog Rows.pageNamesRow.laid w) : laidMetH Tryz.prog Rows.pageNamesRow.laid w' := by
  obtain ⟨h1, h2⟩ := (metH_iff w).1 h
  refine (metH_iff w').2 ⟨h1.of_heap hh, ?_⟩
  rw [held_eq] at h2 ⊢
  intro x hx
  have h3 := h2 x hx
  obtain rfl := List.mem_singleton.1 hx
  obtain ⟨name, u, ty, a1, a2, a3, a4, a5⟩ := h3
  refine ⟨name, u, ty, a1, a2, a3, a4, ?_⟩
  unfold World.var? at a5 ⊢
  rw [← hh]
  exact a5
theorem notInit : Tryz.checked.prog.inits.idxOf? 3 = none := by kernel_rfl
theorem zip (os : Os) : ((theWorld os).forCall (fun _ _ => 0) ⟨#[], #[], []⟩).variablesZipB Tryz.checked.prog = true := by kernel_rfl
theorem rest (os : Os) : (((theWorld os).forCall (fun _ _ => 0) ⟨#[], #[], []⟩).heap.toList.drop Tryz.checked.prog.globals.size).take ((begin Tryz.checked.prog (fun _ _ => 0) default).world.heap.size - Tryz.checked.prog.globals.size) =
      (begin Tryz.checked.prog (fun _ _ => 0) default).world.heap.toList.drop Tryz.checked.prog.globals.size := by kernel_rfl
theorem okw (os : Os) : Input.okWideB Tryz.checked.prog ((theWorld os).forCall (fun _ _ => 0) ⟨#[], #[], []⟩) 3 ⟨#[], #[], []⟩ = true := by kernel_rfl
theorem preb (os : Os) {H : Type} (enc : TypeId × Value → H) : Rows.pageNamesSpec.preB enc Tryz.checked.prog Tryz.f3 [] false ((theWorld os).forCall (fun _ _ => 0) ⟨#[], #[], []⟩).memory #[] 8 = true := by kernel_rfl
theorem szb (os : Os) {H : Type} (enc : TypeId × Value → H) : Rows.pageNamesSpec.sizedB enc Tryz.checked.prog Tryz.f3 false ((theWorld os).forCall (fun _ _ => 0) ⟨#[], #[], []⟩).memory #[] 8 = true := by kernel_rfl
theorem law_lifted (os : Os) (started : os.Started) (H : Type) (enc : TypeId × Value → H) :
    ReturnsInHanded {} Tryz.checked os 3 .any (fun w args => (Rows.pageNamesSpec.pre enc Tryz.prog Tryz.f3 [] false w args ∧ laidMetH Tryz.prog Rows.pageNamesRow.laid w) ∧ sizedMet enc Tryz.prog Tryz.f3 (OpenSpec.ofChange Rows.pageNamesSpec) false w args)
      (Rows.pageNamesSpec.post enc Tryz.prog Tryz.f3 false true false false) := by
  refine returns_shaped (C := Tryz.checked) (X := fun w _ => laidMetH Tryz.prog Rows.pageNamesRow.laid w) (fun _ _ _ hh h => metH_of_heap hh h) own started notInit Tryz.func3
    (ChangeSpec.witness_shaped (enc := enc) (C := Tryz.checked) (os := os) (X := fun w _ => laidMetH Tryz.prog Rows.pageNamesRow.laid w) false (theWorld os) #[] 8 (World.layVars_os _ _ _)
      (World.shaped_of_ZipB (zip os) (rest os)) (okw os) (preb os enc) (szb os enc) (laid_met os _)) ?_
  intro W base args ds gs before hsh hval0 hW hL
  have hval : ∀ (j : Nat) t v, Tryz.f3.params[j]? = some t → args[j]? = some v → Value.okWide Tryz.prog W .any base t v := hval0
  have hW' := hW
  obtain ⟨p, q, hA0, hV, rfl, hfz, hnd⟩ := hW
  have hA : DataW.TrodAll enc Tryz.prog W 0 (fun _ => true) true Tryz.f3.params.toList args.toList ds p := hA0
  rw [Tryz.params3] at hA
  obtain ⟨rfl, rfl, rfl⟩ := trodAll_none hA
  obtain ⟨rfl, rfl⟩ := trodVars_none hV
  have k := heap_of_laid hsh hL
  have C := calls0 k
  refine C.mono fun e W' ⟨he, h1, h2, h3⟩ => ?_
  subst he
  exact ⟨_, rfl, _, _, _, [], [], [], hW', trodAll_mk1 (shut_bool Tryz.underlying4 true), trodAll_mk0, rfl, keptBut_same _ h1 h2 h3, fun h => by cases h⟩
end Go.Proofs.YtnapjngeohncaaaGreatDoor
