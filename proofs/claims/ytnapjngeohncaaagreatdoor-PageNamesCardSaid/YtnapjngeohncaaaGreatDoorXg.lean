import Derived.Test.YtnapjngeohncaaaGreatDoorXf
set_option linter.unusedSimpArgs false
set_option linter.unusedVariables false
namespace Go.Xe
section ops
variable {E : Env} {P : Program} {μ : Mu} {d : Nat → Prop} {tm : Tr AV} {ρ : Operand → Value}

theorem symCmp_ok {op : BinOp} {c : Int} {r : Bool} (h : symCmp E op c = some r) (hs : E.lo ≤ μ.n ∧ μ.n ≤ E.hi) : Op.intCmp op μ.n c = pure (.bool r) ∧ (op = .lss ∨ op = .leq ∨ op = .gtr ∨ op = .geq) := by
  obtain ⟨s1, s2⟩ := hs
  unfold symCmp at h
  split at h
  all_goals first
    | (cases h; done)
    | (split at h
       · rename_i e1
         obtain rfl := Option.some.inj h
         have e1 := of_decide_eq_true e1
         refine ⟨?_, by simp⟩
         simp only [Op.intCmp]
         congr 2
         simp
         omega
       · rename_i e1 _
         obtain rfl := Option.some.inj h
         have e2 := of_decide_eq_true e1
         refine ⟨?_, by simp⟩
         simp only [Op.intCmp]
         congr 2
         simp
         omega
       · cases h)

theorem pure_sound (EO : EnvOK E P) (hρ : OpR E μ d tm ρ) (hsym : E.lo ≤ μ.n ∧ μ.n ≤ E.hi) {o : Oper} {v : AV} (h : aPure E tm o = some v) (w : World) :
    (execOp ρ o).run P w = .ok (.value (ren μ v)) w ∧ sup d v := by
  obtain ⟨dst, op, ty, pos, after, guard⟩ := o
  unfold aPure at h
  dsimp only at h
  split at h
  · rename_i x
    have k := hρ _ _ h
    exact ⟨by simp [execOp, k.1], k.2⟩
  · rename_i x
    have k := hρ _ _ h
    exact ⟨by simp [execOp, k.1], k.2⟩
  · rename_i c a b
    split at h
    · rename_i hc
      have k := hρ _ _ h
      have kc := hρ _ _ hc
      exact ⟨by simp [execOp, k.1, kc.1, ren, asBool], k.2⟩
    · rename_i hc
      have k := hρ _ _ h
      have kc := hρ _ _ hc
      exact ⟨by simp [execOp, k.1, kc.1, ren, asBool], k.2⟩
    · cases h
  · rename_i t parts
    split at h
    · rename_i l hl
      have k := partsL_ok hρ hl
      have kb := build_ok EO (μ := μ) (d := d) (parts := parts.map fun (i, x) => (i, ρ x)) (by rw [← k.1]; simp) k.2 h w
      exact ⟨by simp [execOp, kb.1], kb.2⟩
    · cases h
  · rename_i x
    split at h
    all_goals first
      | (cases h; done)
      | (rename_i hx
         obtain rfl := Option.some.inj h
         have k := hρ _ _ hx
         refine ⟨?_, k.2⟩
         simp [execOp, k.1, ren])
  · rename_i op t x y t'
    split at h
    · rename_i a b ha hb
      obtain ⟨u, hu, rfl⟩ := Option.map_eq_some_iff.1 h
      have ka := hρ _ _ ha
      have kb := hρ _ _ hb
      have q := binSc_ok hu t w (P := P)
      refine ⟨?_, by simpa only [sup] using q.2.1⟩
      simp [execOp, ka.1, kb.1, ren, eqGuard_sc op t x y a b w q.2.2, q.1]
    · rename_i c ha hb
      obtain ⟨u, hu, rfl⟩ := Option.map_eq_some_iff.1 h
      have ka := hρ _ _ ha
      have kb := hρ _ _ hb
      have q := symCmp_ok (μ := μ) hu hsym
      refine ⟨?_, by simp [sup, isSc]⟩
      have g := eqGuard_sc (P := P) op t x y (.int .i64 μ.n) (.int .i64 c) w (by simp)
      simp only [execOp, Sem.run_bind, ka.1, kb.1, ren, g, Result.andThen_ok]
      rcases q.2 with rfl | rfl | rfl | rfl <;> simp [binOp, q.1]
    · cases h
  · rename_i op t x
    split at h
    · rename_i a ha
      obtain ⟨u, hu, rfl⟩ := Option.map_eq_some_iff.1 h
      have ka := hρ _ _ ha
      have q := pureRun_ok hu
      refine ⟨by simp [execOp, ka.1, ren, q, Sem.run], ?_⟩
      simp only [sup]
      unfold Op.unary at q
      split at q
      · exact isSc_arith q
      · exact isSc_bits q
      all_goals first | (cases q; rfl) | (simp [stuck, unsupported] at q)
    · cases h
  · rename_i src dst x
    split at h
    · rename_i a ha
      have ka := hρ _ _ ha
      have q := convert_ok EO (μ := μ) (d := d) h w
      exact ⟨by simp [execOp, ka.1, q.1], q.2⟩
    · cases h
  · rename_i t x
    split at h
    · cases h
    · rename_i a td hn ha hu
      obtain rfl := Option.some.inj h
      have ka := hρ _ _ ha
      refine ⟨?_, by simpa only [sup] using ka.2⟩
      simp only [execOp, Sem.run_bind, Instr.makeInterface, run_und EO hu, Result.andThen_ok, ka.1, ren]
      cases td <;> first | rfl | (exact (hn _ rfl).elim)
    · cases h
  · rename_i fn first captured
    split at h
    · rename_i f
      split at h
      · rename_i a b ha hb
        obtain rfl := Option.some.inj h
        have ka := opvA_ok hρ ha
        have kb := opvA_ok hρ hb
        exact ⟨by simp [execOp, Instr.makeFunc, ka.1, kb.1, ren], by simp only [sup]; exact ⟨ka.2, kb.2⟩⟩
      · cases h
    · cases h
  · rename_i t x lo hi mx
    split at h
    · rename_i a l hh m ha hl hhh hm
      have ka := hρ _ _ ha
      have q := slice_ok EO hρ (t := t) ka.1 ka.2 hl hhh hm h w
      exact ⟨by simp only [execOp, Sem.run_bind, q.1, Result.andThen_ok, Sem.run_pure], q.2⟩
    · cases h
  · rename_i s x f
    split at h
    · rename_i b off fs ha hu
      split at h
      · rename_i fd hf
        split at h
        · rename_i n hn
          obtain rfl := Option.some.inj h
          have ka := hρ _ _ ha
          refine ⟨?_, by simpa only [sup] using ka.2⟩
          simp only [execOp, Sem.run_bind, Instr.fieldAt, run_und EO hu, Result.andThen_ok, hf, ka.1, ren, Instr.sureAddr, Sem.run_pure, fieldPlace, run_size EO hn]
          rw [if_neg (by omega)]
          simp [addr_add, Nat.add_right_comm]
        · cases h
      · cases h
    · cases h
  · rename_i t x f
    split at h
    · rename_i cs fs ha hu
      split at h
      · rename_i fd hf
        have ka := hρ _ _ ha
        have q := part_ok EO (μ := μ) (d := d) h (by simpa only [sup] using ka.2) w
        exact ⟨by simp [execOp, Instr.field, run_und EO hu, hf, ka.1, ren, asAgg, q.1], q.2⟩
      · cases h
    · cases h
  · rename_i t x ix
    split at h
    · rename_i b off k i len elem ha hi hu
      split at h
      · rename_i sz hsz hlt
        obtain rfl := Option.some.inj h
        have ka := hρ _ _ ha
        have ki := hρ _ _ hi
        have hlt' : i < len := Nat.le_of_ble_eq_true hlt
        refine ⟨?_, by simpa only [sup] using ka.2⟩
        simp [execOp, Instr.indexAt, ki.1, ka.1, ren, asIntOf, run_und EO hu, Instr.sureAddr, run_size EO hsz, hlt', addr_add, Nat.add_right_comm]
      · cases h
    · rename_i b off len cap q k i elem ha hi hu
      split at h
      · rename_i sz hsz hlt
        obtain rfl := Option.some.inj h
        have ka := hρ _ _ ha
        have ki := hρ _ _ hi
        have hlt' : i < len := Nat.le_of_ble_eq_true hlt
        refine ⟨?_, by simpa only [sup] using ka.2⟩
        simp [execOp, Instr.indexAt, ki.1, ka.1, ren, asIntOf, run_und EO hu, Instr.sureAddr, run_size EO hsz, hlt', addr_add, Nat.add_right_comm]
      · cases h
    · cases h
  · rename_i t x ix
    split at h
    · rename_i cs k i len elem ha hi hu
      split at h
      · rename_i sz hsz hlt
        have ka := hρ _ _ ha
        have ki := hρ _ _ hi
        have hlt' : i < len := Nat.le_of_ble_eq_true hlt
        have q := part_ok EO (μ := μ) (d := d) h (by simpa only [sup] using ka.2) w
        exact ⟨by simp [execOp, Instr.index, ki.1, ka.1, ren, asIntOf, run_und EO hu, run_size EO hsz, hlt', q.1], q.2⟩
      · cases h
    · rename_i s k i ha hi hu
      split at h
      · rename_i b hb
        obtain rfl := Option.some.inj h
        have ka := hρ _ _ ha
        have ki := hρ _ _ hi
        refine ⟨?_, by simp [sup, isSc]⟩
        have hb' : s[i]? = some b := by
          have e : s.data[i]? = some b := by simpa using hb
          have hlt : i < s.data.size := by
            rcases Nat.lt_or_ge i s.data.size with h | h
            · exact h
            · simp [Array.getElem?_eq_none h] at e
          have hlt' : i < s.size := hlt
          rw [getElem?_pos s i hlt']
          rw [getElem?_pos s.data i hlt] at e
          exact e
        simp [execOp, Instr.index, ki.1, ka.1, ren, asIntOf, run_und EO hu, hb']
      · cases h
    · cases h
  · rename_i x xT asserted ok
    split at h
    · rename_i a ha
      have ka := hρ _ _ ha
      have q := typeAssert_ok EO (μ := μ) (xT := xT) ka.2 h w
      exact ⟨by simp [execOp, ka.1, q.1], q.2⟩
    · cases h
  · rename_i t ix
    split at h
    · rename_i vs ha
      have ka := hρ _ _ ha
      refine ⟨?_, supL_get (by simpa only [sup] using ka.2) h⟩
      simp [execOp, Instr.extract, ka.1, ren, renL_get, h]
    · cases h
  · rename_i c
    split at h
    · rename_i b hb
      split at h
      · rename_i args hargs
        have ka := opvA_ok hρ hargs
        have q := builtinPure_ok EO (μ := μ) (t := ty) (cs := c.args.map fun | .const _ => true | _ => false) ka.2 h w
        refine ⟨?_, q.2⟩
        simp only [execOp, resolve, hb, Sem.run_bind, Sem.run_pure, Result.andThen_ok, invoke, ka.1]
        exact q.1
      · cases h
    · cases h
  · cases h
end ops
end Go.Xe
