import Derived.Test.YtnapjngeohncaaaGreatDoorXb
set_option linter.unusedSimpArgs false
set_option linter.unusedVariables false
namespace Go.Xe
section ops
variable {E : Env} {P : Program} {μ : Mu} {d : Nat → Prop} {tm : Tr AV} {ρ : Operand → Value}

theorem eqGuard_sc (op : BinOp) (t : TypeId) (x y : Operand) (a b : Value) (w : World) (h : (∀ cs, a ≠ .agg cs) ∧ a ≠ .nilIface) : (eqGuard op t x y a b).run P w = .ok () w := by
  cases a with
  | nilIface => exact absurd rfl h.2
  | agg cs => exact absurd rfl (h.1 cs)
  | _ => cases op <;> simp [eqGuard]

theorem isSc_res {k : FloatKind} {q : Question} {r : Option Nat} {v : Value}
    (h : (match r with | some r => (Pure.pure (.float k r) : Sem Value) | none => do pure (.float k (← choose q))) = .pure v) : isSc v = true := by
  cases r with
  | some r => cases h; rfl
  | none => simp [choose, bind, Sem.bind] at h
theorem isSc_fa {op : BinOp} {k : FloatKind} {a b : Nat} {v : Value} (h : Op.floatArith op k a b = .pure v) : isSc v = true := by
  unfold Op.floatArith at h
  cases op
  case add => exact isSc_res (r := k.format.add a b) h
  case sub => exact isSc_res (r := k.format.sub a b) h
  case mul => exact isSc_res (r := k.format.mul a b) h
  case quo => exact isSc_res (r := k.format.div a b) h
  all_goals (simp [stuck, bind, Sem.bind] at h)
theorem isSc_fc {op : BinOp} {k : FloatKind} {a b : Nat} {v : Value} (h : Op.floatCmp op k a b = .pure v) : isSc v = true := by
  unfold Op.floatCmp at h
  dsimp only at h
  split at h <;> first | (cases h; rfl) | (simp [stuck] at h)

theorem binSc_ok {op : BinOp} {a b v : Value} (h : aBinSc op a b = some v) (t : TypeId) (w : World) : (binOp op t a b).run P w = .ok v w ∧ isSc v = true ∧ (∀ cs, a ≠ .agg cs) ∧ a ≠ .nilIface := by
  unfold aBinSc at h
  split at h
  · have k := pureRun_ok h; refine ⟨by simp [binOp, k, Sem.run], isSc_shift k, by simp, by simp⟩
  · have k := pureRun_ok h; refine ⟨by simp [binOp, k, Sem.run], isSc_shift k, by simp, by simp⟩
  · rename_i k a k' b hn1 hn2
    split at h
    · rename_i hk
      obtain rfl := of_decide_eq_true hk
      split at h
      all_goals first
        | (have q := pureRun_ok h; exact ⟨by simp [binOp, q, Sem.run], isSc_arith q, by simp, by simp⟩)
        | (have q := pureRun_ok h; exact ⟨by simp [binOp, q, Sem.run], isSc_div q, by simp, by simp⟩)
        | (have q := pureRun_ok h; exact ⟨by simp [binOp, q, Sem.run], isSc_bits q, by simp, by simp⟩)
        | skip
      rename_i h1 h2 h3 h4 h5 h6 h7 h8 h9
      have q := pureRun_ok h
      refine ⟨?_, isSc_cmp q, by simp, by simp⟩
      cases op <;> simp_all [binOp, Sem.run, Op.intCmp, stuck]
    · cases h
  · rename_i k a k' b
    split at h
    · rename_i hk
      obtain rfl := of_decide_eq_true hk
      split at h
      all_goals (have q := pureRun_ok h)
      · exact ⟨by simp [binOp, q, Sem.run], isSc_fa q, by simp, by simp⟩
      · exact ⟨by simp [binOp, q, Sem.run], isSc_fa q, by simp, by simp⟩
      · exact ⟨by simp [binOp, q, Sem.run], isSc_fa q, by simp, by simp⟩
      · exact ⟨by simp [binOp, q, Sem.run], isSc_fa q, by simp, by simp⟩
      · rename_i h1 h2 h3 h4
        refine ⟨?_, isSc_fc q, by simp, by simp⟩
        cases op <;> simp_all [binOp, Sem.run]
    · cases h
  · obtain rfl := Option.some.inj h
    refine ⟨?_, rfl, by simp, by simp⟩
    simp [binOp, Op.stringOp, bytesEq_toList]
  · obtain rfl := Option.some.inj h
    refine ⟨?_, rfl, by simp, by simp⟩
    simp [binOp, Op.stringOp, bytesEq_toList]
  · have q := pureRun_ok h
    rename_i x y _ _ _ _
    refine ⟨?_, isSc_str q, by simp, by simp⟩
    cases op <;> simp_all [binOp, Sem.run]
  · cases h
end ops
end Go.Xe
