import Derived.Test.YtnapjngeohncaaaGreatDoorXi
set_option linter.unusedSimpArgs false
set_option linter.unusedVariables false
namespace Go.Xe
section allocs
variable {E : Env} {P : Program} {μ : Mu} {d : Nat → Prop} {H : Hp} {w : World} {tm : Tr AV} {ρ : Operand → Value}

theorem rep_length (z : List AV) : ∀ n, (rep z n).length = n * z.length
  | 0 => by simp [rep]
  | n + 1 => by simp [rep, rep_length z n, Nat.succ_mul, Nat.add_comm]
theorem rep_sup {z : List AV} (h : supL d z) : ∀ n, supL d (rep z n)
  | 0 => trivial
  | n + 1 => supL_append.2 ⟨h, rep_sup h n⟩
theorem rep_ren {Z : Array Value} : ∀ (n : Nat) (z : List AV), renL μ z = Z.toList → (Array.range (n * Z.size)).map (fun i => Z[i % Z.size]!) = (renL μ (rep z n)).toArray := by
  intro n z hz
  apply Array.ext'
  rw [Array.toList_map, Array.toList_range]
  simp only [List.toList_toArray]
  apply List.ext_getElem?
  intro i
  have hzl : z.length = Z.size := by rw [← renL_length μ, hz]; simp
  induction n generalizing i with
  | zero => simp [rep, renL]
  | succ n ih =>
    rw [rep, renL_append, hz]
    by_cases h : i < Z.size
    · rw [List.getElem?_append_left (by simpa using h)]
      have h1 : i < (n + 1) * Z.size := Nat.lt_of_lt_of_le h (Nat.le_mul_of_pos_left _ (by omega))
      simp only [List.getElem?_map, List.getElem?_range h1, Option.map_some, Nat.mod_eq_of_lt h, Array.getElem?_toList]
      simp [h]
    · rw [List.getElem?_append_right (by simpa using Nat.le_of_not_lt h)]
      have := ih (i - Z.size)
      simp only [Array.length_toList]
      rw [← this]
      simp only [List.getElem?_map]
      have hs : (n + 1) * Z.size = n * Z.size + Z.size := Nat.succ_mul ..
      by_cases h2 : i < (n + 1) * Z.size
      · have h3 : i - Z.size < n * Z.size := by omega
        rw [List.getElem?_range h2, List.getElem?_range h3]
        simp only [Option.map_some]
        rw [show i % Z.size = (i - Z.size) % Z.size from Nat.mod_eq_sub_mod (by omega)]
      · have h3 : ¬ i - Z.size < n * Z.size := by omega
        rw [List.getElem?_eq_none (by simpa using h2), List.getElem?_eq_none (by simpa using h3)]

theorem zero_size {t : TypeId} {z : AV} (h : E.zero t = some z) : ∃ n, E.size t = some n := by
  unfold Env.zero at h
  split at h
  · rename_i i hi
    exact ⟨i.size, by simp [Env.size, hi]⟩
  · cases h

theorem wrap_small {n : Nat} (h : n ≤ 2 ^ 40) : IntKind.i64.wrap (n : Int) = n := by
  have h1 : (n : Int) % (2 ^ 64 : Int) = n := by omega
  have h2 : (n : Int) < 2 ^ 63 := by omega
  have e : IntKind.i64.wrap (n : Int) = if (n : Int) % (2 ^ 64 : Int) ≥ 2 ^ 63 then (n : Int) % (2 ^ 64 : Int) - 2 ^ 64 else (n : Int) % (2 ^ 64 : Int) := by
    unfold IntKind.wrap
    simp only [IntKind.bits, IntKind.signed]
    simp
  rw [e, h1, if_neg (by omega)]
theorem row_new {cs : List AV} {e : TypeId} {sz k : Nat} (h : E.size e = some sz) : ObjR E μ ⟨k, 0, 0⟩ (.row cs e) (.cells (renL μ cs).toArray e) :=
  ⟨[], [], (0, 0), by simp, rfl, sz, h, by simp, ⟨0, by simp⟩, .inl rfl⟩

theorem frozen_push (w : World) (o : Obj) (h : ∀ c e z, o = .cells c e z → z = (0, 0)) (a : Addr) : (w.alloc o).frozen? a = w.frozen? a := by
  have hh : (w.alloc o).heap = w.heap.push o := rfl
  unfold World.frozen?
  rw [hh, Array.getElem?_push]
  by_cases e : a.block = w.heap.size
  · rw [if_pos e, e]
    have : w.heap[w.heap.size]? = none := by simp
    rw [this]
    cases o <;> try rfl
    rename_i c t z
    have := h c t z rfl
    subst this
    simp
  · rw [if_neg e]
theorem alloc_sound (EO : EnvOK E P) (hρ : OpR E μ d tm ρ) (R : Rel E μ d H w) {o : Oper} {ob : AObj} {f : Nat → AV} (h : aAlloc E tm o H = some (ob, f)) :
    ∃ V O, (execOp ρ o).run P w = .ok (.value V) (w.alloc O) ∧ ObjR E μ ⟨w.heap.size, 0, 0⟩ ob O ∧ supO d ob ∧ ob.live = true ∧ (∀ a, (w.alloc O).frozen? a = w.frozen? a) ∧
      ∀ (ν : Mu) b, ν.at_ b = ⟨w.heap.size, 0, 0⟩ → ren ν (f b) = V ∧ ∀ d' : Nat → Prop, d' b → sup d' (f b) := by
  obtain ⟨dst, op, ty, pos, after, guard⟩ := o
  have fz : ∀ (c : Array Value) e a, (w.alloc (.cells c e)).frozen? a = w.frozen? a := fun c e a => frozen_push w _ (fun c' e' z h => by cases h; rfl) a
  have fo : ∀ o : Obj, (∀ c e z, o ≠ .cells c e z) → ∀ a, (w.alloc o).frozen? a = w.frozen? a := fun o h a => frozen_push w o (fun c e z k => absurd k (h c e z)) a
  unfold aAlloc at h
  dsimp only at h
  split at h
  · rename_i t
    split at h
    · rename_i z hz
      simp only [Option.some.injEq, Prod.mk.injEq] at h
      obtain ⟨rfl, rfl⟩ := h
      obtain ⟨n, hn⟩ := zero_size hz
      have kz := zero_ok EO hz
      refine ⟨.pointer (some ⟨w.heap.size, 0, none⟩), .cells (renL μ z.cells).toArray t, ?_, row_new hn, sup_cells (kz.2 d), rfl, fz _ _, fun ν b hb => ⟨?_, fun d' hd => by simpa only [sup] using hd⟩⟩
      rotate_left
      · simp [ren, hb]
      · simp only [execOp, Sem.run_bind, Instr.alloc, kz.1 μ, Result.andThen_ok, newVar, newRow, newObj, Sem.run, Sem.run_pure, ← ren_cells μ (kz.2 d)]
        rfl
    · cases h
  · rename_i t x
    split at h
    · rename_i a n ha hn
      simp only [Option.some.injEq, Prod.mk.injEq] at h
      obtain ⟨rfl, rfl⟩ := h
      have ka := hρ _ _ ha
      refine ⟨.pointer (some ⟨w.heap.size, 0, none⟩), .cells (renL μ a.cells).toArray t, ?_, row_new hn, sup_cells ka.2, rfl, fz _ _, fun ν b hb => ⟨?_, fun d' hd => by simpa only [sup] using hd⟩⟩
      rotate_left
      · simp [ren, hb]
      · simp only [execOp, Sem.run_bind, Instr.box, ka.1, Result.andThen_ok, newVar, newRow, newObj, Sem.run, Sem.run_pure, ← ren_cells μ ka.2]
        rfl
    · cases h
  · rename_i t len parts
    split at h
    · rename_i e l hu hl
      split at h
      · rename_i sz z hsz hz
        split at h
        · rename_i cs hb hf
          simp only [Option.some.injEq, Prod.mk.injEq] at h
          obtain ⟨rfl, rfl⟩ := h
          simp only [Bool.and_eq_true] at hb
          have hb1 := Nat.le_of_ble_eq_true hb.1
          have hb2 := Nat.eq_of_beq_eq_true hb.2
          have kz := zero_ok EO hz
          have kp := partsL_ok hρ hl
          have kf := fillEach_ok (μ := μ) (d := d) hf (rep_sup (sup_cells (kz.2 d)) len) kp.2
          refine ⟨.slice (some ⟨w.heap.size, 0, none⟩) len len, .cells (renL μ cs).toArray e, ?_, row_new hsz, kf.2, rfl, fz _ _, fun ν b hb => ⟨?_, fun d' hd => by simpa only [sup] using hd⟩⟩
          rotate_left
          · simp [ren, hb]
          · have hZ : renL μ z.cells = (ren μ z).cells.toList := (ren_cells μ (kz.2 d)).symm
            have hZs : (ren μ z).cells.size = sz := by rw [← Array.length_toList, ← hZ, renL_length, hb2]
            have hr := rep_ren (μ := μ) len z.cells hZ
            rw [hZs] at hr
            have hfill : Instr.fill (fun i => some (i * sz, sz)) ((Array.range (len * sz)).map fun i => (if len * sz = 0 then (#[] : Array Value) else (ren μ z).cells)[i % (if len * sz = 0 then (#[] : Array Value) else (ren μ z).cells).size]!) (parts.map fun (i, x) => (i, ρ x)).toList = some (renL μ cs).toArray := by
              rw [Array.toList_map, kp.1]
              by_cases h0 : len * sz = 0
              · rw [if_pos h0, h0]
                have : renL μ (rep z.cells len) = [] := by
                  apply List.eq_nil_of_length_eq_zero
                  rw [renL_length, rep_length, hb2, h0]
                have k1 := kf.1
                rw [this] at k1
                rw [show Array.range 0 = #[] from rfl]
                simpa using k1
              · rw [if_neg h0, hZs, hr]
                exact kf.1
            have hfin : (do
                let a ← newRow e (renL μ cs).toArray
                pure (Value.slice (some a) len len) : Sem Value).run P w = .ok (.slice (some ⟨w.heap.size, 0, none⟩) len len) (w.alloc (.cells (renL μ cs).toArray e)) := by
              simp only [newRow, newObj, Sem.run_bind, Sem.run, Result.andThen_ok, Sem.run_pure]
              rfl
            unfold execOp Instr.buildSlice
            simp only [Sem.run_bind, run_und EO hu, run_size EO hsz, Result.andThen_ok]
            rw [if_neg (by omega)]
            simp only [Sem.run_bind, Sem.run_pure, Result.andThen_ok]
            by_cases h0 : len * sz = 0
            · simp only [h0, if_true] at hfill ⊢
              simp only [Sem.run_bind, Sem.run_pure, Result.andThen_ok, hfill]
              simp only [Sem.run_bind, Sem.run_pure] at hfin
              rw [hfin]
              rfl
            · simp only [h0, if_false] at hfill ⊢
              simp only [Sem.run_bind, Sem.run_pure, kz.1 μ, Result.andThen_ok, hfill]
              simp only [Sem.run_bind, Sem.run_pure] at hfin
              rw [hfin]
              rfl
        · cases h
      · cases h
    · cases h
  · rename_i t n c
    split at h
    · rename_i e k n' k' c' hu hn hc
      split at h
      · rename_i z i hz hi
        split at h
        · rename_i hb
          simp only [Option.some.injEq, Prod.mk.injEq] at h
          obtain ⟨rfl, rfl⟩ := h
          simp only [Bool.and_eq_true] at hb
          have hb1 := Nat.le_of_ble_eq_true hb.1.1.1
          have hb2 := Nat.le_of_ble_eq_true hb.1.1.2
          have hb3 := Nat.le_of_ble_eq_true hb.1.2
          have hb4 := Nat.eq_of_beq_eq_true hb.2
          have kn := hρ _ _ hn
          have kc := hρ _ _ hc
          have kz := zero_ok EO hz
          have hsz : E.size e = some i.size := by simp [Env.size, hi]
          refine ⟨.slice (some ⟨w.heap.size, 0, none⟩) n' c', .cells (renL μ (rep z.cells c')).toArray e, ?_, row_new hsz, rep_sup (sup_cells (kz.2 d)) _, rfl, fz _ _, fun ν b hb => ⟨?_, fun d' hd => by simpa only [sup] using hd⟩⟩
          rotate_left
          · simp [ren, hb]
          · have hZ : renL μ z.cells = (ren μ z).cells.toList := (ren_cells μ (kz.2 d)).symm
            have hZs : (ren μ z).cells.size = i.size := by rw [← Array.length_toList, ← hZ, renL_length, hb4]
            have hr := rep_ren (μ := μ) c' z.cells hZ
            rw [hZs] at hr
            have wn : IntKind.i64.wrap (n' : Int) = n' := wrap_small (Nat.le_trans hb1 hb3)
            have wc : IntKind.i64.wrap (c' : Int) = c' := wrap_small hb3
            have hfin : ∀ cs : Array Value, cs = (renL μ (rep z.cells c')).toArray → (do
                let a ← newRow e cs
                pure (Value.slice (some a) n' c') : Sem Value).run P w = .ok (.slice (some ⟨w.heap.size, 0, none⟩) n' c') (w.alloc (.cells (renL μ (rep z.cells c')).toArray e)) := by
              intro cs hcs
              subst hcs
              simp only [newRow, newObj, Sem.run_bind, Sem.run, Result.andThen_ok, Sem.run_pure]
              rfl
            have hmul : (i.bytes : Int) * (c' : Int) ≤ 2 ^ 40 := by
              have : ((i.bytes * c' : Nat) : Int) ≤ ((2 ^ 40 : Nat) : Int) := Int.ofNat_le.2 hb2
              simpa using this
            have t1 : ¬ ((decide ((c' : Int) < 0) || decide ((i.bytes : Int) * (c' : Int) > 2 ^ 48) || decide ((n' : Int) < 0) || decide ((n' : Int) > (c' : Int))) = true) := by
              simp
              omega
            have hask : ∀ k, (askRoom k).run P w = .ok () w := fun k => by
              unfold askRoom
              split <;> simp [mark, Sem.run]
            unfold execOp Instr.makeSlice
            simp only [Sem.run_bind, run_und EO hu, run_info EO hi, kn.1, kc.1, ren, asInt, asIntOf, Result.andThen_ok, Sem.run_pure, Int.ofNat_eq_natCast, wn, wc]
            rw [if_neg t1]
            simp only [Sem.run_bind, Sem.run_pure, Result.andThen_ok, hask, run_size EO hsz, Int.toNat_natCast]
            by_cases h0 : c' * i.size = 0
            · simp only [h0, if_true]
              have e1 : (renL μ (rep z.cells c')).toArray = (#[] : Array Value) := by
                have : renL μ (rep z.cells c') = [] := by
                  apply List.eq_nil_of_length_eq_zero
                  rw [renL_length, rep_length, hb4, h0]
                rw [this]
              have hf := hfin ((Array.range 0).map fun x => (#[] : Array Value)[x % (#[] : Array Value).size]!) (by rw [e1, show Array.range 0 = #[] from rfl]; simp)
              simp only [Sem.run_bind, Sem.run_pure] at hf
              simp only [Sem.run_bind, Sem.run_pure, Result.andThen_ok]
              rw [hf]
              rfl
            · simp only [h0, if_false]
              have hf := hfin ((Array.range (c' * i.size)).map fun x => (ren μ z).cells[x % (ren μ z).cells.size]!) (by rw [hZs]; exact hr)
              simp only [Sem.run_bind, Sem.run_pure] at hf
              simp only [Sem.run_bind, Sem.run_pure, Result.andThen_ok, kz.1 μ]
              rw [hf]
              rfl
        · cases h
      · cases h
    · cases h
  · rename_i t r
    split at h
    · simp only [Option.some.injEq, Prod.mk.injEq] at h
      obtain ⟨rfl, rfl⟩ := h
      refine ⟨.map (some w.heap.size), .map #[] 0, ?_, rfl, fun _ h => (by cases h), rfl, fo _ (fun _ _ _ e => by cases e), fun ν b hb => ⟨by simp [ren, hb], fun d' hd => by simpa only [sup] using hd⟩⟩
      simp [execOp, Instr.makeMap, newObj, Sem.run]
    · cases h
  · rename_i t x
    split at h
    · rename_i s hu hx
      simp only [Option.some.injEq, Prod.mk.injEq] at h
      obtain ⟨rfl, rfl⟩ := h
      have kx := hρ _ _ hx
      refine ⟨.pointer (some ⟨w.heap.size, 0, none⟩), .stringIter s 0, ?_, ⟨rfl, rfl⟩, trivial, rfl, fo _ (fun _ _ _ e => by cases e), fun ν b hb => ⟨by simp [ren, hb], fun d' hd => by simpa only [sup] using hd⟩⟩
      simp [execOp, Instr.range, run_und EO hu, kx.1, ren, newObj, Sem.run]
    · rename_i k e hu hx
      simp only [Option.some.injEq, Prod.mk.injEq] at h
      obtain ⟨rfl, rfl⟩ := h
      have kx := hρ _ _ hx
      refine ⟨.pointer (some ⟨w.heap.size, 0, none⟩), .mapIter none 0 #[] 0, ?_, ⟨rfl, rfl⟩, fun _ h => (by cases h), rfl, fo _ (fun _ _ _ e => by cases e), fun ν b hb => ⟨by simp [ren, hb], fun d' hd => by simpa only [sup] using hd⟩⟩
      simp [execOp, Instr.range, run_und EO hu, kx.1, ren, newObj, Sem.run]
    · rename_i k e m hu hx
      split at h
      · rename_i es clock hm
        simp only [Option.some.injEq, Prod.mk.injEq] at h
        obtain ⟨rfl, rfl⟩ := h
        have kx := hρ _ _ hx
        have hdm : d m := by simpa only [sup] using kx.2
        have km := map_ok R hdm hm
        refine ⟨.pointer (some ⟨w.heap.size, 0, none⟩), .mapIter (some (μ.at_ m).blk) clock #[] clock, ?_, ⟨rfl, rfl⟩, fun b h => (by cases h; exact hdm), rfl, fo _ (fun _ _ _ e => by cases e), fun ν b hb => ⟨by simp [ren, hb], fun d' hd => by simpa only [sup] using hd⟩⟩
        simp [execOp, Instr.range, run_und EO hu, kx.1, ren, MapKept.run_getObj_map km.1, newObj, Sem.run]
      · cases h
    · cases h
  · cases h
end allocs
end Go.Xe
