/- PastNames: whatever the order of operations that is drawn, its return is true and each cell of memory ahead of it stays as it was: the row's statement, by the evaluator's run in the kernel and its soundness. -/
import Derived.Test.YtfdendmplblfjaaGreatDoorXag
import Derived.Test.YtfdendmplblfjaaGreatDoorRows
import Derived.ProofKit
import Derived.LaidLaws
import Derived.Handed
import Derived.RowKit
import Derived.JoinedOf
import Derived.KernelRfl
set_option linter.unusedVariables false
namespace Go.Proofs.YtfdendmplblfjaaGreatDoor
open Go Go.ChangeShapes Go.WideShapes Go.RowKit Go.Xe
theorem own : ownKnob Tryz.prog.godebug = none := by kernel_rfl
theorem cell_two {l : List Value} {a b : Value} {n : Nat} (hl : l.length = n) (hn : n = 2) (h0 : (l.drop 0).take 1 = [a]) (h1 : (l.drop 1).take 1 = [b]) : l = [a, b] := by
  subst hn
  match l, hl with
  | [p, q], _ =>
    simp at h0 h1
    rw [h0, h1]
theorem cells_of {W : World} {t : TypeId} {cs : Array Value} {fuel : Nat} {p : List MemPlace} (ht : t = 41) (hd : DataW.trod (fun _ => ()) Tryz.prog W 0 (fun _ => true) false fuel t cs.toList = some (.agg [.lit (.int .u32 0), .lit (.int .u32 0)], p)) : cs = #[.int .u32 0, .int .u32 0] := by
  subst ht
  obtain ⟨y0, y1, n, hx, hlen, h0, h1⟩ := trod_struct2 Tryz.underlying41 hd
  have hcU : Tryz.prog.cellsOf 39 = 1 := by kernel_rfl
  have hcT : Tryz.prog.cellsOf 41 = 2 := by kernel_rfl
  simp only [hcU] at h0 h1
  obtain ⟨n0, e0, x0, _⟩ := DataW.trod_int Tryz.underlying39 h0
  obtain ⟨n1, e1, x1, _⟩ := DataW.trod_int Tryz.underlying39 h1
  subst x0
  subst x1
  simp at hx
  obtain ⟨⟨rfl, rfl⟩, _⟩ := hx
  have := cell_two hlen hcT e0 e1
  obtain ⟨l⟩ := cs
  simp only at this
  rw [this]
theorem heap0 {W : World} {g : Nat} {t : TypeId} {cs : Array Value} {fuel : Nat} {p : List MemPlace} (hs : W.ShapedOpen Tryz.prog) (hg : Tryz.prog.globalNamed "galley/galleyref09.none" = some g) (ht : (Tryz.prog.globals[g]?).map (·.type) = some t)
    (hvar : W.var? Tryz.prog "galley/galleyref09.none" = some cs) (hd : DataW.trod (fun _ => ()) Tryz.prog W 0 (fun _ => true) false fuel t cs.toList = some (Rows.laid_galley_galleyref09_none, p)) : W.heap[0]? = some (.cells #[.int .u32 0, .int .u32 0] 41 (0, 0)) := by
  obtain ⟨cs', hh, _, _⟩ := hs.1 0 #[.int .u32 0, .int .u32 0] 41 (of_decide_eq_true (by kernel_rfl)) (by kernel_rfl)
  have hg0 : Tryz.prog.globalNamed "galley/galleyref09.none" = some 0 := by kernel_rfl
  obtain rfl := Option.some.inj (hg0.symm.trans hg)
  have ht0 : (Tryz.prog.globals[0]?).map (·.type) = some 41 := by kernel_rfl
  have e := Option.some.inj (ht.symm.trans ht0)
  unfold World.var? at hvar
  rw [hg0] at hvar
  simp only [Option.bind_some, hh, Option.some.injEq] at hvar
  rw [hh, hvar, cells_of e hd]
theorem heap1 {W : World} {g : Nat} {t : TypeId} {cs : Array Value} {fuel : Nat} {p : List MemPlace} (hs : W.ShapedOpen Tryz.prog) (hg : Tryz.prog.globalNamed "galley/trail.none" = some g) (ht : (Tryz.prog.globals[g]?).map (·.type) = some t)
    (hvar : W.var? Tryz.prog "galley/trail.none" = some cs) (hd : DataW.trod (fun _ => ()) Tryz.prog W 0 (fun _ => true) false fuel t cs.toList = some (Rows.laid_galley_trail_none, p)) : W.heap[1]? = some (.cells #[.int .u32 0, .int .u32 0] 41 (0, 0)) := by
  obtain ⟨cs', hh, _, _⟩ := hs.1 1 #[.int .u32 0, .int .u32 0] 41 (of_decide_eq_true (by kernel_rfl)) (by kernel_rfl)
  have hg0 : Tryz.prog.globalNamed "galley/trail.none" = some 1 := by kernel_rfl
  obtain rfl := Option.some.inj (hg0.symm.trans hg)
  have ht0 : (Tryz.prog.globals[1]?).map (·.type) = some 41 := by kernel_rfl
  have e := Option.some.inj (ht.symm.trans ht0)
  unfold World.var? at hvar
  rw [hg0] at hvar
  simp only [Option.bind_some, hh, Option.some.injEq] at hvar
  rw [hh, hvar, cells_of e hd]
theorem heap_of_laid {W : World} (hs : W.ShapedOpen Tryz.prog) (hl : laidMet Tryz.prog Rows.pastNamesRow.laid W) : W.heap[0]? = some (.cells #[.int .u32 0, .int .u32 0] 41 (0, 0)) ∧ W.heap[1]? = some (.cells #[.int .u32 0, .int .u32 0] 41 (0, 0)) := by
  obtain ⟨ps, ⟨g0, t0, c0, f0, p0, q0, hg0, ht0, hv0, hd0, ⟨g1, t1, c1, f1, p1, q1, hg1, ht1, hv1, hd1, _, _⟩, _⟩, _⟩ := hl
  exact ⟨heap0 hs hg0 ht0 hv0 hd0, heap1 hs hg1 ht1 hv1 hd1⟩
set_option maxRecDepth 1000000
noncomputable def theWorld (os : Os) : World := World.holding Tryz.prog os ⟨#[], #[], []⟩
theorem laid_met (os : Os) (args : Array Value) : laidMet Tryz.prog Rows.pastNamesRow.laid ((theWorld os).forCall (fun _ _ => 0) ⟨#[], args, []⟩).memory :=
  laidMet_of_run (ps := [.cell 0 0, .cell 0 1, .cell 1 0, .cell 1 1]) 8 (by kernel_rfl) (by kernel_rfl) (by kernel_rfl)
def rows0 : List (Nat × List AV × TypeId) := [(0, [.v (.int .u32 0), .v (.int .u32 0)], 41), (1, [.v (.int .u32 0), .v (.int .u32 0)], 41)]
noncomputable def E0 : Env := Env.of Tryz.prog [0, 1] [41] (-9223372036854775808) (0)
theorem e0 : EnvOK E0 Tryz.prog := envOK_of (by kernel_rfl) (by kernel_rfl) (by kernel_rfl)
theorem ng0 : E0.ng = rows0.length := by kernel_rfl
theorem gl0 : E0.gl = rows0.map (·.1) := by kernel_rfl
theorem nd0 : E0.gl.Nodup := by rw [gl0]; decide
theorem size0 : E0.size 41 = some 2 := by kernel_rfl
theorem goesQ0 : finOK E0.ng (rowsHp rows0) (evQ E0 1000000 (.call false 3 [.sym] .run (rowsHp rows0))) = true := by kernel_rfl
theorem goes0 : finOK E0.ng (rowsHp rows0) (ev E0 1000000 (.call false 3 [.sym] .run (rowsHp rows0))) = true := by rw [← evQ_eq]; exact goesQ0
theorem calls0 {W : World} (m : Int) (h0 : (-9223372036854775808 : Int) ≤ m) (h1 : m ≤ (0 : Int)) (hh0 : W.heap[0]? = some (.cells #[.int .u32 0, .int .u32 0] 41 (0, 0))) (hh1 : W.heap[1]? = some (.cells #[.int .u32 0, .int .u32 0] 41 (0, 0))) :
    Calls Tryz.prog 3 #[.int .i64 m] W fun e w' => e = .returned (.bool true) ∧ w'.os = W.os ∧ w'.output = W.output ∧ ∀ i, i < W.heap.size → w'.heap[i]? = W.heap[i]? := by
  have S := start_rel (E := E0) (rows := rows0) (w := W) (m := m) ng0 gl0 nd0 ⟨h0, h1⟩ (by
    intro k g cs e h
    match k, h with
    | 0, h =>
      simp [rows0] at h
      obtain ⟨rfl, rfl, rfl⟩ := h
      exact ⟨⟨rfl, rfl, trivial⟩, by rw [hh0]; rfl, 2, size0⟩
    | 1, h =>
      simp [rows0] at h
      obtain ⟨rfl, rfl, rfl⟩ := h
      exact ⟨⟨rfl, rfl, trivial⟩, by rw [hh1]; rfl, 2, size0⟩
    | k + 2, h => simp [rows0] at h)
  exact run_ok (E := E0) (P := Tryz.prog) (n := 1000000) (f := 3) (args := [.sym]) (H0 := rowsHp rows0) (w := W) (μ := ⟨fun b => ⟨E0.glAt b, 0, 0⟩, m⟩) e0 goes0 S.1 ng0.symm S.2 ⟨trivial, trivial⟩
noncomputable def E1 : Env := Env.of Tryz.prog [0, 1] [41] (1) (1000)
theorem e1 : EnvOK E1 Tryz.prog := envOK_of (by kernel_rfl) (by kernel_rfl) (by kernel_rfl)
theorem ng1 : E1.ng = rows0.length := by kernel_rfl
theorem gl1 : E1.gl = rows0.map (·.1) := by kernel_rfl
theorem nd1 : E1.gl.Nodup := by rw [gl1]; decide
theorem size1 : E1.size 41 = some 2 := by kernel_rfl
theorem goesQ1 : finOK E1.ng (rowsHp rows0) (evQ E1 1000000 (.call false 3 [.sym] .run (rowsHp rows0))) = true := by kernel_rfl
theorem goes1 : finOK E1.ng (rowsHp rows0) (ev E1 1000000 (.call false 3 [.sym] .run (rowsHp rows0))) = true := by rw [← evQ_eq]; exact goesQ1
theorem calls1 {W : World} (m : Int) (h0 : (1 : Int) ≤ m) (h1 : m ≤ (1000 : Int)) (hh0 : W.heap[0]? = some (.cells #[.int .u32 0, .int .u32 0] 41 (0, 0))) (hh1 : W.heap[1]? = some (.cells #[.int .u32 0, .int .u32 0] 41 (0, 0))) :
    Calls Tryz.prog 3 #[.int .i64 m] W fun e w' => e = .returned (.bool true) ∧ w'.os = W.os ∧ w'.output = W.output ∧ ∀ i, i < W.heap.size → w'.heap[i]? = W.heap[i]? := by
  have S := start_rel (E := E1) (rows := rows0) (w := W) (m := m) ng1 gl1 nd1 ⟨h0, h1⟩ (by
    intro k g cs e h
    match k, h with
    | 0, h =>
      simp [rows0] at h
      obtain ⟨rfl, rfl, rfl⟩ := h
      exact ⟨⟨rfl, rfl, trivial⟩, by rw [hh0]; rfl, 2, size1⟩
    | 1, h =>
      simp [rows0] at h
      obtain ⟨rfl, rfl, rfl⟩ := h
      exact ⟨⟨rfl, rfl, trivial⟩, by rw [hh1]; rfl, 2, size1⟩
    | k + 2, h => simp [rows0] at h)
  exact run_ok (E := E1) (P := Tryz.prog) (n := 1000000) (f := 3) (args := [.sym]) (H0 := rowsHp rows0) (w := W) (μ := ⟨fun b => ⟨E1.glAt b, 0, 0⟩, m⟩) e1 goes1 S.1 ng1.symm S.2 ⟨trivial, trivial⟩
noncomputable def E2 : Env := Env.of Tryz.prog [0, 1] [41] (1001) (9223372036854775807)
theorem e2 : EnvOK E2 Tryz.prog := envOK_of (by kernel_rfl) (by kernel_rfl) (by kernel_rfl)
theorem ng2 : E2.ng = rows0.length := by kernel_rfl
theorem gl2 : E2.gl = rows0.map (·.1) := by kernel_rfl
theorem nd2 : E2.gl.Nodup := by rw [gl2]; decide
theorem size2 : E2.size 41 = some 2 := by kernel_rfl
theorem goesQ2 : finOK E2.ng (rowsHp rows0) (evQ E2 1000000 (.call false 3 [.sym] .run (rowsHp rows0))) = true := by kernel_rfl
theorem goes2 : finOK E2.ng (rowsHp rows0) (ev E2 1000000 (.call false 3 [.sym] .run (rowsHp rows0))) = true := by rw [← evQ_eq]; exact goesQ2
theorem calls2 {W : World} (m : Int) (h0 : (1001 : Int) ≤ m) (h1 : m ≤ (9223372036854775807 : Int)) (hh0 : W.heap[0]? = some (.cells #[.int .u32 0, .int .u32 0] 41 (0, 0))) (hh1 : W.heap[1]? = some (.cells #[.int .u32 0, .int .u32 0] 41 (0, 0))) :
    Calls Tryz.prog 3 #[.int .i64 m] W fun e w' => e = .returned (.bool true) ∧ w'.os = W.os ∧ w'.output = W.output ∧ ∀ i, i < W.heap.size → w'.heap[i]? = W.heap[i]? := by
  have S := start_rel (E := E2) (rows := rows0) (w := W) (m := m) ng2 gl2 nd2 ⟨h0, h1⟩ (by
    intro k g cs e h
    match k, h with
    | 0, h =>
      simp [rows0] at h
      obtain ⟨rfl, rfl, rfl⟩ := h
      exact ⟨⟨rfl, rfl, trivial⟩, by rw [hh0]; rfl, 2, size2⟩
    | 1, h =>
      simp [rows0] at h
      obtain ⟨rfl, rfl, rfl⟩ := h
      exact ⟨⟨rfl, rfl, trivial⟩, by rw [hh1]; rfl, 2, size2⟩
    | k + 2, h => simp [rows0] at h)
  exact run_ok (E := E2) (P := Tryz.prog) (n := 1000000) (f := 3) (args := [.sym]) (H0 := rowsHp rows0) (w := W) (μ := ⟨fun b => ⟨E2.glAt b, 0, 0⟩, m⟩) e2 goes2 S.1 ng2.symm S.2 ⟨trivial, trivial⟩
theorem law_lifted (os : Os) (started : os.Started) (H : Type) (enc : TypeId × Value → H) :
    ReturnsInHanded {} Tryz.checked os 3 .any (fun w args => (Rows.pastNamesSpec.pre enc Tryz.prog Tryz.f3 [] false w args ∧ laidMet Tryz.prog Rows.pastNamesRow.laid w) ∧ sizedMet enc Tryz.prog Tryz.f3 (OpenSpec.ofChange Rows.pastNamesSpec) false w args)
      (Rows.pastNamesSpec.post enc Tryz.prog Tryz.f3 false true false false) := by
  refine returns_shaped (C := Tryz.checked) (X := fun w _ => laidMet Tryz.prog Rows.pastNamesRow.laid w) (fun _ _ _ hh h => h.of_heap hh) own started (by kernel_rfl) Tryz.func3
    (ChangeSpec.witness_at (enc := enc) (C := Tryz.checked) (os := os) (X := fun w _ => laidMet Tryz.prog Rows.pastNamesRow.laid w) false (theWorld os) #[.int .i64 0] 8 rfl (by kernel_rfl) (by kernel_rfl) (by kernel_rfl) (by kernel_rfl) (by kernel_rfl) (laid_met os _)) ?_
  intro W base args ds gs before hsh hval0 hW hL
  have hval : ∀ (j : Nat) t v, Tryz.f3.params[j]? = some t → args[j]? = some v → Value.okWide Tryz.prog W .any base t v := hval0
  have hW' := hW
  obtain ⟨p, q, hA0, hV, rfl, hfz, hnd⟩ := hW
  have hA : DataW.TrodAll enc Tryz.prog W 0 (fun _ => true) true Tryz.f3.params.toList args.toList ds p := hA0
  rw [Tryz.params3] at hA hval
  obtain ⟨v0, d0, rfl, rfl, h0⟩ := trodAll_one hA
  obtain ⟨m, rfl, rfl, rfl, hwn⟩ := open_int Tryz.underlying3 (hval 0 3 v0 rfl rfl) h0
  obtain ⟨rfl, rfl⟩ := trodVars_none hV
  obtain ⟨k0, k1⟩ := heap_of_laid hsh hL
  have hlow : (-9223372036854775808 : Int) ≤ m ∧ m ≤ 9223372036854775807 := by
    have e1 : IntKind.i64.min = -9223372036854775808 := rfl
    have e2 : IntKind.i64.max = 9223372036854775807 := rfl
    simp [Lit.wf] at hwn
    omega
  have C : Calls Tryz.prog 3 #[.int .i64 m] W fun e w' => e = .returned (.bool true) ∧ w'.os = W.os ∧ w'.output = W.output ∧ ∀ i, i < W.heap.size → w'.heap[i]? = W.heap[i]? := by
    by_cases hc0 : m ≤ (0 : Int)
    · exact calls0 m (by omega) hc0 k0 k1
    by_cases hc1 : m ≤ (1000 : Int)
    · exact calls1 m (by omega) hc1 k0 k1
    exact calls2 m (by omega) (by omega) k0 k1
  refine C.mono fun e W' ⟨he, h1, h2, h3⟩ => ?_
  subst he
  exact ⟨_, rfl, _, _, _, [], [], [], hW', trodAll_mk1 (shut_bool Tryz.underlying4 true), trodAll_mk1 (shut_int Tryz.underlying3 hwn), rfl, keptBut_same _ h1 h2 h3, fun h => by cases h⟩
theorem law_holds : Rows.PastNamesSaid :=
  OpenClaim.holds_of_wide 3 Tryz.f3 rfl rfl rfl rfl rfl rfl rfl ⟨rfl, rfl, rfl, rfl, rfl⟩ rfl rfl rfl rfl rfl (by kernel_rfl) Tryz.func3 (by kernel_rfl)
    (of_decide_eq_true (by kernel_rfl)) (by unfold Func.isWrapper; rw [if_neg (of_decide_eq_false (by kernel_rfl))]; exact ⟨rfl, rfl⟩)
    (fun os started H enc _ => law_lifted os started H enc)
end Go.Proofs.YtfdendmplblfjaaGreatDoor
