import Derived.Test.YtnapjngeohncaaaGreatDoorXc
import Derived.Laws.Tables
set_option linter.unusedSimpArgs false
set_option linter.unusedVariables false
namespace Go.Xe
section ops
variable {E : Env} {P : Program} {μ : Mu} {d : Nat → Prop} {tm : Tr AV} {ρ : Operand → Value}

theorem part_ok (EO : EnvOK E P) {t : TypeId} {cs : List AV} {off : Nat} {v : AV} (h : aPart E t cs off = some v) (hs : supL d cs) (w : World) :
    (part t (renL μ cs).toArray off).run P w = .ok (ren μ v) w ∧ sup d v := by
  unfold aPart at h
  split at h
  · rename_i n ha hn
    split at h
    · rename_i hle
      obtain rfl := Option.some.inj h
      have hle' : off + n ≤ cs.length := Nat.le_of_ble_eq_true hle
      refine ⟨?_, by simp only [sup]; exact supL_take (supL_drop hs)⟩
      simp only [part, Sem.run_bind, run_agg EO ha, Result.andThen_ok, if_true, run_size EO hn, Sem.run_pure, ren]
      congr 2
      rw [renL_take, renL_drop]
      simp [List.extract_eq_take_drop]
    · cases h
  · rename_i ha hn
    refine ⟨?_, supL_get hs h⟩
    simp [part, run_agg EO ha, renL_get, h]
  · cases h

theorem foldl_set (off : Nat) : ∀ (vs : List Value) (k : Nat) (a : Array Value), off + k + vs.length ≤ a.size →
    ((vs.zipIdx k).foldl (fun cs (p : Value × Nat) => cs.setIfInBounds (off + p.2) p.1) a) = (a.toList.take (off + k) ++ vs ++ a.toList.drop (off + k + vs.length)).toArray
  | [], k, a, h => by simp
  | v :: vs, k, a, h => by
    simp only [List.length_cons] at h
    rw [List.zipIdx_cons, List.foldl_cons, foldl_set off vs (k + 1) _ (by simp; omega)]
    apply Array.ext'
    simp only [Array.toList_setIfInBounds]
    have h1 : off + k < a.toList.length := by simp; omega
    apply List.ext_getElem?
    intro i
    simp only [List.append_assoc, List.getElem?_append, List.length_take, List.getElem?_take, List.getElem?_drop, List.getElem?_set, List.length_set, List.length_cons]
    have e1 : min (off + (k + 1)) a.toList.length = off + k + 1 := by omega
    have e2 : min (off + k) a.toList.length = off + k := by omega
    rw [e1, e2]
    by_cases c1 : i < off + k
    · have : ¬ off + k = i := by omega
      simp [c1, this, show i < off + k + 1 by omega, show i < off + (k + 1) by omega]
    · by_cases c2 : i = off + k
      · subst c2
        simp [show off + k < off + (k + 1) by omega]
        simpa using h1
      · have c3 : ¬ i < off + k + 1 := by omega
        rw [if_neg c3, if_neg c1]
        obtain ⟨m, hm⟩ : ∃ m, i - (off + k) = m + 1 := ⟨i - (off + k) - 1, by omega⟩
        have hm' : i - (off + k + 1) = m := by omega
        rw [hm, hm']
        by_cases c4 : m < vs.length
        · simp [c4]
        · have : ¬ m + 1 < vs.length + 1 := by omega
          rw [if_neg c4, if_neg this]
          have e5 : off + (k + 1) + vs.length + (m - vs.length) = i := by omega
          have e6 : off + k + (vs.length + 1) + (m + 1 - (vs.length + 1)) = i := by omega
          rw [e5, e6]
          have : ¬ off + k = i := by omega
          simp [this]

theorem fill_step {cells : List AV} {v : AV} {off : Nat} (hv : sup d v) (hle : off + v.cells.length ≤ cells.length) :
    ((ren μ v).cells.zipIdx.foldl (fun cs (p : Value × Nat) => cs.setIfInBounds (off + p.2) p.1) (renL μ cells).toArray) = (renL μ (cells.take off ++ v.cells ++ cells.drop (off + v.cells.length))).toArray := by
  have k := foldl_set off (renL μ v.cells) 0 (renL μ cells).toArray (by simp [renL_length]; omega)
  rw [← Array.foldl_toList, Array.toList_zipIdx, ren_cells μ hv, k]
  simp [renL_append, renL_take, renL_drop, renL_length]

theorem fillPlace_ok {places : List (Nat × Nat)} : ∀ {l : List (Nat × AV)} {cells out : List AV}, fillPlace places cells l = some out → supL d cells → (∀ p ∈ l, sup d p.2) →
    Instr.fill (places.toArray[·]?) (renL μ cells).toArray (l.map (renPart μ)) = some (renL μ out).toArray ∧ supL d out
  | [], cells, out, h, hc, _ => by
    simp only [fillPlace, Option.some.injEq] at h
    subst h
    exact ⟨rfl, hc⟩
  | (i, v) :: rest, cells, out, h, hc, hl => by
    unfold fillPlace at h
    split at h
    · cases h
    · rename_i off size hp
      split at h
      · rename_i hb
        simp only [Bool.and_eq_true] at hb
        have e1 : v.cells.length = size := Nat.eq_of_beq_eq_true hb.1
        have e2 : off + size ≤ cells.length := Nat.le_of_ble_eq_true hb.2
        have hv : sup d v := hl (i, v) (List.mem_cons_self ..)
        subst e1
        have hsz : (ren μ v).cells.size = v.cells.length := by rw [← Array.length_toList, ren_cells μ hv, renL_length]
        have hvc : supL d v.cells := by
          cases v <;> simp_all [AV.cells, sup, supL]
        have k := fillPlace_ok (places := places) h (supL_append.2 ⟨supL_append.2 ⟨supL_take hc, hvc⟩, supL_drop hc⟩) (fun p hp => hl p (List.mem_cons_of_mem _ hp))
        refine ⟨?_, k.2⟩
        have hp' : places.toArray[i]? = some (off, v.cells.length) := by simpa using hp
        rw [List.map_cons, show renPart μ (i, v) = (i, ren μ v) from rfl]
        simp only [Instr.fill, hp']
        rw [if_neg (by simp [hsz, renL_length]; omega)]
        rw [fill_step hv e2]
        exact k.1
      · cases h
theorem fillEach_ok {size : Nat} : ∀ {l : List (Nat × AV)} {cells out : List AV}, fillEach size cells l = some out → supL d cells → (∀ p ∈ l, sup d p.2) →
    Instr.fill (fun i => some (i * size, size)) (renL μ cells).toArray (l.map (renPart μ)) = some (renL μ out).toArray ∧ supL d out
  | [], cells, out, h, hc, _ => by
    simp only [fillEach, Option.some.injEq] at h
    subst h
    exact ⟨rfl, hc⟩
  | (i, v) :: rest, cells, out, h, hc, hl => by
    unfold fillEach at h
    split at h
    · rename_i hb
      simp only [Bool.and_eq_true] at hb
      have e1 : v.cells.length = size := Nat.eq_of_beq_eq_true hb.1
      have e2 : i * size + size ≤ cells.length := Nat.le_of_ble_eq_true hb.2
      have hv : sup d v := hl (i, v) (List.mem_cons_self ..)
      subst e1
      have hsz : (ren μ v).cells.size = v.cells.length := by rw [← Array.length_toList, ren_cells μ hv, renL_length]
      have hvc : supL d v.cells := by
        cases v <;> simp_all [AV.cells, sup, supL]
      have k := fillEach_ok (size := v.cells.length) h (supL_append.2 ⟨supL_append.2 ⟨supL_take hc, hvc⟩, supL_drop hc⟩) (fun p hp => hl p (List.mem_cons_of_mem _ hp))
      refine ⟨?_, k.2⟩
      rw [List.map_cons, show renPart μ (i, v) = (i, ren μ v) from rfl]
      simp only [Instr.fill]
      rw [if_neg (by simp [hsz, renL_length]; omega)]
      rw [fill_step hv e2]
      exact k.1
    · cases h
theorem sup_cells {a : AV} (h : sup d a) : supL d a.cells := by
  cases a <;> simp_all [AV.cells, sup, supL]
theorem fieldPlaces_ok (EO : EnvOK E P) : ∀ {fs : List Field} {ps : List (Nat × Nat)}, fieldPlaces E fs = some ps → fs.mapM (fun f => (P.info? f.type).map fun i => (f.offset, i.size)) = some ps
  | [], ps, h => by simp only [fieldPlaces, Option.some.injEq] at h; subst h; rfl
  | f :: fs, ps, h => by
    unfold fieldPlaces at h
    split at h
    · rename_i n l h1 h2
      obtain rfl := Option.some.inj h
      have k := fieldPlaces_ok EO h2
      unfold Env.size at h1
      split at h1
      · rename_i i hi
        obtain rfl := Option.some.inj h1
        simp [List.mapM_cons, EO.tt _ _ hi, k]
      · cases h1
    · cases h
theorem zero_info (EO : EnvOK E P) {t : TypeId} {z : AV} (h : E.zero t = some z) : ∃ i x, P.info? t = some i ∧ i.zero = some x ∧ (∀ μ, ren μ z = x) ∧ ∀ d, sup d z := by
  unfold Env.zero at h
  split at h
  · rename_i i hi
    split at h
    · rename_i x hx
      have k := ofV_ok h
      exact ⟨i, x, EO.tt _ _ hi, hx, k.1, k.2⟩
    · cases h
  · cases h
theorem size_info (EO : EnvOK E P) {t n : Nat} (h : E.size t = some n) : ∃ i, P.info? t = some i ∧ i.size = n := by
  unfold Env.size at h
  split at h
  · rename_i i hi
    exact ⟨i, EO.tt _ _ hi, Option.some.inj h⟩
  · cases h
theorem cells_toArray {a : AV} {x : Value} (h : ren μ a = x) (hs : sup d a) : x.cells = (renL μ a.cells).toArray := by
  subst h
  rw [← ren_cells μ hs]
theorem build_ok (EO : EnvOK E P) {t : TypeId} {l : List (Nat × AV)} {v : AV} {parts : Array (Nat × Value)} (hp : parts.toList = l.map (renPart μ)) (hl : ∀ p ∈ l, sup d p.2)
    (h : aBuild E t l = some v) (w : World) : (Instr.build t parts).run P w = .ok (ren μ v) w ∧ sup d v := by
  unfold aBuild at h
  split at h
  · rename_i z fs hz hu
    obtain ⟨i, x, hi, hx, hr, hs⟩ := zero_info EO hz
    split at h
    · rename_i places hpl
      obtain ⟨cs, hf, rfl⟩ := Option.map_eq_some_iff.1 h
      have k := fillPlace_ok (μ := μ) (d := d) hf (sup_cells (hs d)) hl
      refine ⟨?_, by simpa only [sup] using k.2⟩
      simp only [ren]
      refine run_build w t parts _ ?_
      simp only [Program.built, hi, und_ok EO hu, hx, fieldPlaces_ok EO hpl, hp]
      rw [cells_toArray (hr μ) (hs d)]
      exact k.1
    · cases h
  · rename_i z n e hz hu
    obtain ⟨i, x, hi, hx, hr, hs⟩ := zero_info EO hz
    split at h
    · rename_i sz hsz
      obtain ⟨ie, hie, rfl⟩ := size_info EO hsz
      obtain ⟨cs, hf, rfl⟩ := Option.map_eq_some_iff.1 h
      have k := fillEach_ok (μ := μ) (d := d) hf (sup_cells (hs d)) hl
      refine ⟨?_, by simpa only [sup] using k.2⟩
      simp only [ren]
      refine run_build w t parts _ ?_
      simp only [Program.built, hi, und_ok EO hu, hx, hie, hp]
      rw [cells_toArray (hr μ) (hs d)]
      exact k.1
    · cases h
  · cases h
end ops
end Go.Xe
