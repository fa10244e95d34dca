import Derived.Test.YtnapjngeohncaaaGreatDoorXl
set_option linter.unusedSimpArgs false
set_option linter.unusedVariables false
namespace Go.Xe
section app
variable {E : Env} {P : Program} {μ : Mu} {d : Nat → Prop} {H : Hp} {w : World} {tm : Tr AV} {ρ : Operand → Value}

theorem rel_drawn {n : Nat} (R : Rel E μ d H w) : Rel E μ d H { w with drawn := n } := (drawn_ok R n).1

/-- the source of an append: how many, and its cells, in whatever world has this memory -/
theorem appSrc_ok (EO : EnvOK E P) (R : Rel E μ d H w) {sz : Nat} {i : TypeInfo} {e : TypeId} {xd : TypeDesc} {z x : AV} {n : Nat} {new : List AV} (hx : sup d x)
    (hi : E.tt.get e = some i) (hsz : E.size e = some sz) (hz : E.zero e = some z) (hzl : z.cells.length = sz)
    (h : appSrc H sz i.bytes z (isIntD xd) x = some (n, new)) :
    supL d new ∧ (∀ w0 : World, (∃ k, w0 = { w with drawn := k }) →
      (if isIntD xd then (do
        let l := IntKind.i64.wrap (← asInt (ren μ x))
        if l < 0 then runtimePanic (.error "makeslice: len out of range")
        if l * (← typeInfo e).bytes > 2 ^ 48 then
          let made ← choose (.extern "append.ofMake.carriedOut" 2)
          runtimePanic (.error (if made == 1 then "makeslice: len out of range" else "growslice: len out of range"))
        pure l.toNat) else Builtin.lenOf (ren μ x)).run P w0 = .ok n w0 ∧
      (if !isIntD xd then Builtin.firstCells sz n (ren μ x)
        else if n * sz = 0 then pure #[]
        else do pure (Builtin.zeroCells (← zeroValue e).cells n)).run P w0 = .ok (renL μ new).toArray w0) := by
  have hzero : ∀ n, Builtin.zeroCells (ren μ z).cells n = (renL μ (rep z.cells n)).toArray := by
    intro n
    have kz := zero_ok EO hz
    have hZ : renL μ z.cells = (ren μ z).cells.toList := (ren_cells μ (kz.2 d)).symm
    exact rep_ren (μ := μ) n z.cells hZ
  unfold appSrc at h
  split at h
  · rename_i k m hxd
    split at h
    · rename_i hb
      simp only [Option.some.injEq, Prod.mk.injEq] at h
      obtain ⟨rfl, rfl⟩ := h
      simp only [Bool.and_eq_true] at hb
      have b1 := Nat.le_of_ble_eq_true hb.1
      have b2 := Nat.le_of_ble_eq_true hb.2
      have kz := zero_ok EO hz
      refine ⟨rep_sup (sup_cells (kz.2 d)) _, fun w0 _ => ?_⟩
      have wn : IntKind.i64.wrap (m : Int) = m := wrap_small (by omega)
      have hmul : (m : Int) * (i.bytes : Int) ≤ 2 ^ 40 := by
        have : ((m * i.bytes : Nat) : Int) ≤ ((2 ^ 40 : Nat) : Int) := Int.ofNat_le.2 b2
        simpa using this
      rw [hxd]
      refine ⟨?_, ?_⟩
      · simp only [if_true, Sem.run_bind, ren, asInt, asIntOf, Sem.run_pure, Result.andThen_ok, Int.ofNat_eq_natCast, wn]
        rw [if_neg (by omega)]
        simp only [Sem.run_bind, run_info EO hi, Result.andThen_ok]
        rw [if_neg (by omega)]
        simp
      · simp only [Bool.not_true, Bool.false_eq_true, if_false]
        by_cases h0 : m * sz = 0
        · rw [if_pos h0]
          have : renL μ (rep z.cells m) = [] := by
            apply List.eq_nil_of_length_eq_zero
            rw [renL_length, rep_length, hzl, h0]
          rw [this]; rfl
        · rw [if_neg h0]
          simp [kz.1 μ, hzero]
    · cases h
  · rename_i c hxd
    simp only [Option.some.injEq, Prod.mk.injEq] at h
    obtain ⟨rfl, rfl⟩ := h
    rw [hxd]
    exact ⟨trivial, fun w0 _ => ⟨by simp [Builtin.lenOf, ren], by simp [Builtin.firstCells, ren, renL]⟩⟩
  · rename_i b off m c q hxd
    obtain ⟨cs, hr, he⟩ := Option.map_eq_some_iff.1 h
    simp only [Prod.mk.injEq] at he
    obtain ⟨rfl, rfl⟩ := he
    have hb : d b := by simpa only [sup] using hx
    rw [hxd]
    refine ⟨(rowAt_ok (P := P) R hb hr).2.1, fun w0 hw => ?_⟩
    obtain ⟨k, rfl⟩ := hw
    have q := rowAt_ok (P := P) (rel_drawn (n := k) R) hb hr
    exact ⟨by simp [Builtin.lenOf, ren], by simp [Builtin.firstCells, ren, q.1]⟩
  · rename_i s hxd
    split at h
    · rename_i hs1
      have hs1 := Nat.eq_of_beq_eq_true hs1
      subst hs1
      simp only [Option.some.injEq, Prod.mk.injEq] at h
      obtain ⟨rfl, rfl⟩ := h
      rw [hxd]
      refine ⟨?_, fun w0 _ => ⟨by simp [Builtin.lenOf, ren], ?_⟩⟩
      · rw [supL_iff]
        intro a ha
        obtain ⟨b, _, rfl⟩ := List.mem_map.1 ha
        simp [sup, isSc]
      · simp only [Bool.not_false, if_true, Builtin.firstCells, ren, Sem.run_pure]
        congr 1
        apply Array.ext'
        rw [renL_map]
        simp only [Array.toList_map, List.map_map, List.toList_toArray]
        have : s.extract 0 s.size = s := by simp
        rw [this]
        apply List.map_congr_left
        intro a _
        simp [ren]
    · cases h
  · cases h

theorem growBy_le (n : Nat) : ∀ (r c : Nat), c ≤ 2 * n + 1000 → Builtin.growBy n r c ≤ 2 * n + 1000
  | 0, c, h => h
  | r + 1, c, h => by
    unfold Builtin.growBy
    split
    · exact h
    · exact growBy_le n r _ (by omega)
theorem next_le {need old : Nat} (h : old < need) : Builtin.nextslicecap need old ≤ 2 * need + 1000 := by
  unfold Builtin.nextslicecap
  split
  · omega
  · split
    · omega
    · exact growBy_le _ _ _ (by omega)
theorem hask (P : Program) (k : Nat) (w : World) : (askRoom k).run P w = .ok () w := by
  unfold askRoom
  split <;> simp [mark, Sem.run]

/-- the append that makes a new row: the world behind it -/
theorem grow_ok (EO : EnvOK E P) (R : Rel E μ d H w) (lt : Lt d H) {e : TypeId} {sz need sCap : Nat} {z : AV} (hsz : E.size e = some sz) (hz : E.zero e = some z) (hzl : z.cells.length = sz)
    {cs : List AV} (hcs : supL d cs) (hn : need ≤ 2 ^ 40) (bytes : Nat) :
    ∃ newCap : Nat, need ≤ newCap ∧ ∀ (old new : Array Value), old ++ new = (renL μ cs).toArray →
      Rel E (μ.put H.nx ⟨w.heap.size, 0, newCap - need⟩) (fun b => d b ∨ b = H.nx) (H.push (.row cs e)) ({ w with drawn := w.drawn + 1 }.alloc (.cells (old ++ new ++ Builtin.zeroCells (ren μ z).cells (newCap - need)) e)) ∧
      Ext μ d H w (μ.put H.nx ⟨w.heap.size, 0, newCap - need⟩) (fun b => d b ∨ b = H.nx) (H.push (.row cs e)) ({ w with drawn := w.drawn + 1 }.alloc (.cells (old ++ new ++ Builtin.zeroCells (ren μ z).cells (newCap - need)) e)) ∧
      Lt (fun b => d b ∨ b = H.nx) (H.push (.row cs e)) ∧
      (choose (.appendCap need sCap e)).run P w = .ok newCap { w with drawn := w.drawn + 1 } := by
  refine ⟨need + w.tape w.drawn (.appendCap need sCap e) % (2 ^ 63 - need), by omega, fun old new hon => ?_⟩
  have kd := drawn_ok R (w.drawn + 1)
  have hlen : (Builtin.zeroCells (ren μ z).cells (need + w.tape w.drawn (.appendCap need sCap e) % (2 ^ 63 - need) - need)).size = sz * (need + w.tape w.drawn (.appendCap need sCap e) % (2 ^ 63 - need) - need) := by
    have kz := zero_ok EO hz
    have hZs : (ren μ z).cells.size = sz := by rw [← Array.length_toList, ren_cells μ (kz.2 d), renL_length, hzl]
    simp [Builtin.zeroCells, hZs, Nat.mul_comm]
  have kp := push_ok (p := ⟨w.heap.size, 0, need + w.tape w.drawn (.appendCap need sCap e) % (2 ^ 63 - need) - need⟩) (ob := .row cs e)
    (O := .cells (old ++ new ++ Builtin.zeroCells (ren μ z).cells (need + w.tape w.drawn (.appendCap need sCap e) % (2 ^ 63 - need) - need)) e) kd.1 lt rfl
    ⟨[], (Builtin.zeroCells (ren μ z).cells (need + w.tape w.drawn (.appendCap need sCap e) % (2 ^ 63 - need) - need)).toList, (0, 0), by rw [hon]; simp, rfl, sz, hsz, by simpa using hlen, ⟨0, by simp⟩, .inl rfl⟩ hcs
    (frozen_push _ _ (fun c e z h => by cases h; rfl))
  refine ⟨kp.1, kd.2.trans kp.2.1 kd.1.inn, kp.2.2, ?_⟩
  simp [choose, Sem.run, Question.forced, Question.cut]
end app
end Go.Xe
