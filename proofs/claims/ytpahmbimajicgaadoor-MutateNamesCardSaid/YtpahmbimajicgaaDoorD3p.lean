/- MutateNames: whatever the order of operations that is drawn, its return is true and each cell of memory ahead of it stays as it was: the row's statement, by the evaluator's run in the kernel and its soundness. -/
import Derived.Test.YtpahmbimajicgaaDoorXag
import Derived.Test.YtpahmbimajicgaaDoorRows
import Derived.ProofKit
import Derived.LaidLaws
import Derived.Handed
import Derived.RowKit
import Derived.JoinedOf
import Derived.KernelRfl
set_option linter.unusedVariables false
namespace Go.Proofs.YtpahmbimajicgaaDoor
open Go Go.ChangeShapes Go.WideShapes Go.RowKit Go.Xe
theorem own : ownKnob Tryd.prog.godebug = none := by kernel_rfl
theorem cell_two {l : List Value} {a b : Value} {n : Nat} (hl : l.length = n) (hn : n = 2) (h0 : (l.drop 0).take 1 = [a]) (h1 : (l.drop 1).take 1 = [b]) : l = [a, b] := by
  subst hn
  match l, hl with
  | [p, q], _ =>
    simp at h0 h1
    rw [h0, h1]
theorem cells_of {W : World} {t : TypeId} {cs : Array Value} {fuel : Nat} {p : List MemPlace} (ht : t = 35) (hd : DataW.trod (fun _ => ()) Tryd.prog W 0 (fun _ => true) false fuel t cs.toList = some (.agg [.lit (.int .u32 0), .lit (.int .u32 0)], p)) : cs = #[.int .u32 0, .int .u32 0] := by
  subst ht
  obtain ⟨y0, y1, n, hx, hlen, h0, h1⟩ := trod_struct2 Tryd.underlying35 hd
  have hcU : Tryd.prog.cellsOf 33 = 1 := by kernel_rfl
  have hcT : Tryd.prog.cellsOf 35 = 2 := by kernel_rfl
  simp only [hcU] at h0 h1
  obtain ⟨n0, e0, x0, _⟩ := DataW.trod_int Tryd.underlying33 h0
  obtain ⟨n1, e1, x1, _⟩ := DataW.trod_int Tryd.underlying33 h1
  subst x0
  subst x1
  simp at hx
  obtain ⟨⟨rfl, rfl⟩, _⟩ := hx
  have := cell_two hlen hcT e0 e1
  obtain ⟨l⟩ := cs
  simp only at this
  rw [this]
theorem heap0 {W : World} {g : Nat} {t : TypeId} {cs : Array Value} {fuel : Nat} {p : List MemPlace} (hs : W.ShapedOpen Tryd.prog) (hg : Tryd.prog.globalNamed "galley/trail.none" = some g) (ht : (Tryd.prog.globals[g]?).map (·.type) = some t)
    (hvar : W.var? Tryd.prog "galley/trail.none" = some cs) (hd : DataW.trod (fun _ => ()) Tryd.prog W 0 (fun _ => true) false fuel t cs.toList = some (Rows.laid_galley_trail_none, p)) : W.heap[0]? = some (.cells #[.int .u32 0, .int .u32 0] 35 (0, 0)) := by
  obtain ⟨cs', hh, _, _⟩ := hs.1 0 #[.int .u32 0, .int .u32 0] 35 (of_decide_eq_true (by kernel_rfl)) (by kernel_rfl)
  have hg0 : Tryd.prog.globalNamed "galley/trail.none" = some 0 := by kernel_rfl
  obtain rfl := Option.some.inj (hg0.symm.trans hg)
  have ht0 : (Tryd.prog.globals[0]?).map (·.type) = some 35 := by kernel_rfl
  have e := Option.some.inj (ht.symm.trans ht0)
  unfold World.var? at hvar
  rw [hg0] at hvar
  simp only [Option.bind_some, hh, Option.some.injEq] at hvar
  rw [hh, hvar, cells_of e hd]
theorem heap_of_laid {W : World} (hs : W.ShapedOpen Tryd.prog) (hl : laidMet Tryd.prog Rows.mutateNamesRow.laid W) : W.heap[0]? = some (.cells #[.int .u32 0, .int .u32 0] 35 (0, 0)) := by
  obtain ⟨ps, ⟨g0, t0, c0, f0, p0, q0, hg0, ht0, hv0, hd0, _, _⟩, _⟩ := hl
  exact heap0 hs hg0 ht0 hv0 hd0
set_option maxRecDepth 1000000
noncomputable def theWorld (os : Os) : World := World.holding Tryd.prog os ⟨#[], #[], []⟩
theorem laid_met (os : Os) (args : Array Value) : laidMet Tryd.prog Rows.mutateNamesRow.laid ((theWorld os).forCall (fun _ _ => 0) ⟨#[], args, []⟩).memory :=
  laidMet_of_run (ps := [.cell 0 0, .cell 0 1]) 8 (by kernel_rfl) (by kernel_rfl) (by kernel_rfl)
def rows0 : List (Nat × List AV × TypeId) := [(0, [.v (.int .u32 0), .v (.int .u32 0)], 35)]
noncomputable def E0 : Env := Env.of Tryd.prog [0] [35] (0) (0)
theorem e0 : EnvOK E0 Tryd.prog := envOK_of (by kernel_rfl) (by kernel_rfl) (by kernel_rfl)
theorem ng0 : E0.ng = rows0.length := by kernel_rfl
theorem gl0 : E0.gl = rows0.map (·.1) := by kernel_rfl
theorem nd0 : E0.gl.Nodup := by rw [gl0]; decide
theorem size0 : E0.size 35 = some 2 := by kernel_rfl
theorem goesQ0 : finOK E0.ng (rowsHp rows0) (evQ E0 1000000 (.call false 3 [] .run (rowsHp rows0))) = true := by kernel_rfl
theorem goes0 : finOK E0.ng (rowsHp rows0) (ev E0 1000000 (.call false 3 [] .run (rowsHp rows0))) = true := by rw [← evQ_eq]; exact goesQ0
theorem calls0 {W : World} (m : Int) (h0 : (0 : Int) ≤ m) (h1 : m ≤ (0 : Int)) (hh0 : W.heap[0]? = some (.cells #[.int .u32 0, .int .u32 0] 35 (0, 0))) :
    Calls Tryd.prog 3 #[] W fun e w' => e = .returned (.bool true) ∧ w'.os = W.os ∧ w'.output = W.output ∧ ∀ i, i < W.heap.size → w'.heap[i]? = W.heap[i]? := by
  have S := start_rel (E := E0) (rows := rows0) (w := W) (m := m) ng0 gl0 nd0 ⟨h0, h1⟩ (by
    intro k g cs e h
    match k, h with
    | 0, h =>
      simp [rows0] at h
      obtain ⟨rfl, rfl, rfl⟩ := h
      exact ⟨⟨rfl, rfl, trivial⟩, by rw [hh0]; rfl, 2, size0⟩
    | k + 1, h => simp [rows0] at h)
  exact run_ok (E := E0) (P := Tryd.prog) (n := 1000000) (f := 3) (args := []) (H0 := rowsHp rows0) (w := W) (μ := ⟨fun b => ⟨E0.glAt b, 0, 0⟩, m⟩) e0 goes0 S.1 ng0.symm S.2 trivial
theorem law_lifted (os : Os) (started : os.Started) (H : Type) (enc : TypeId × Value → H) :
    ReturnsInHanded {} Tryd.checked os 3 .any (fun w args => (Rows.mutateNamesSpec.pre enc Tryd.prog Tryd.f3 [] false w args ∧ laidMet Tryd.prog Rows.mutateNamesRow.laid w) ∧ sizedMet enc Tryd.prog Tryd.f3 (OpenSpec.ofChange Rows.mutateNamesSpec) false w args)
      (Rows.mutateNamesSpec.post enc Tryd.prog Tryd.f3 false true false false) := by
  refine returns_shaped (C := Tryd.checked) (X := fun w _ => laidMet Tryd.prog Rows.mutateNamesRow.laid w) (fun _ _ _ hh h => h.of_heap hh) own started (by kernel_rfl) Tryd.func3
    (ChangeSpec.witness_at (enc := enc) (C := Tryd.checked) (os := os) (X := fun w _ => laidMet Tryd.prog Rows.mutateNamesRow.laid w) false (theWorld os) #[] 8 rfl (by kernel_rfl) (by kernel_rfl) (by kernel_rfl) (by kernel_rfl) (by kernel_rfl) (laid_met os _)) ?_
  intro W base args ds gs before hsh hval0 hW hL
  have hval : ∀ (j : Nat) t v, Tryd.f3.params[j]? = some t → args[j]? = some v → Value.okWide Tryd.prog W .any base t v := hval0
  have hW' := hW
  obtain ⟨p, q, hA0, hV, rfl, hfz, hnd⟩ := hW
  have hA : DataW.TrodAll enc Tryd.prog W 0 (fun _ => true) true Tryd.f3.params.toList args.toList ds p := hA0
  rw [Tryd.params3] at hA
  obtain ⟨rfl, rfl, rfl⟩ := trodAll_none hA
  obtain ⟨rfl, rfl⟩ := trodVars_none hV
  have k0 := heap_of_laid hsh hL
  have C := calls0 0 (Int.le_refl _) (Int.le_refl _) k0
  refine C.mono fun e W' ⟨he, h1, h2, h3⟩ => ?_
  subst he
  exact ⟨_, rfl, _, _, _, [], [], [], hW', trodAll_mk1 (shut_bool Tryd.underlying4 true), trodAll_mk0, rfl, keptBut_same _ h1 h2 h3, fun h => by cases h⟩
theorem law_holds : Rows.MutateNamesSaid :=
  OpenClaim.holds_of_wide 3 Tryd.f3 rfl rfl rfl rfl rfl rfl rfl ⟨rfl, rfl, rfl, rfl, rfl⟩ rfl rfl rfl rfl rfl (by kernel_rfl) Tryd.func3 (by kernel_rfl)
    (of_decide_eq_true (by kernel_rfl)) (by unfold Func.isWrapper; rw [if_neg (of_decide_eq_false (by kernel_rfl))]; exact ⟨rfl, rfl⟩)
    (fun os started H enc _ => law_lifted os started H enc)
end Go.Proofs.YtpahmbimajicgaaDoor
