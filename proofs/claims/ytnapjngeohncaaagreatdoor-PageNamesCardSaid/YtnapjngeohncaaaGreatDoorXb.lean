import Derived.Test.YtnapjngeohncaaaGreatDoorXa
import Derived.Laws.Sem
import Derived.Laws.Strings
import Derived.Laws.StructEq
set_option linter.unusedSimpArgs false
set_option linter.unusedVariables false
namespace Go.Xe

structure EnvOK (E : Env) (P : Program) : Prop where
  tt : ∀ t i, E.tt.get t = some i → P.info? t = some i
  ft : ∀ f fn, E.ft.get f = some fn → P.funcs[f]? = some fn
  name : ∀ f fn, E.ft.get f = some fn → (fn.name == "runtime.NumGoroutine") = false
  eq : ∀ t u, E.eq.get t = some u → P.stoodInHeld t = false ∧ P.eqGuardType P.depth t = false
  mixed : P.follows .mixedOrders = true
  ex : ∀ f k, findEx f E.ex = some k → ∃ fn, P.funcs[f]? = some fn ∧ (fn.name == "runtime.NumGoroutine") = false ∧ fn.body.isNone = true ∧ Extern.findNext fn = none ∧ Extern.find fn = some (extSem k)

section
variable {E : Env} {P : Program} (EO : EnvOK E P)
include EO
theorem und_ok {t : TypeId} {d : TypeDesc} (h : E.und t = some d) : P.underlying t = some d := by
  unfold Env.und at h
  split at h
  · rename_i i hi
    have h1 := EO.tt _ _ hi
    split at h
    · rename_i n u hd
      split at h
      · rename_i j hj
        have h2 := EO.tt _ _ hj
        obtain rfl := Option.some.inj h
        obtain ⟨desc, str, size, bytes, hp, al, fal, zero, cmp, ms⟩ := i
        simp only at hd
        subst hd
        simp [Program.underlying, h1, h2]
      · cases h
    · rename_i hd
      obtain rfl := Option.some.inj h
      obtain ⟨desc, str, size, bytes, hp, al, fal, zero, cmp, ms⟩ := i
      simp only [Program.underlying, h1]
      cases desc with
      | named n u => exact absurd rfl (hd n u)
      | _ => rfl
  · cases h
theorem run_und {t : TypeId} {d : TypeDesc} (h : E.und t = some d) (w : World) : (underlying t).run P w = .ok d w := by
  have := und_ok EO h
  simp [underlying, program, Sem.run, this]
theorem run_info {t : TypeId} {i : TypeInfo} (h : E.tt.get t = some i) (w : World) : (typeInfo t).run P w = .ok i w := by
  have := EO.tt _ _ h
  simp [typeInfo, program, Sem.run, this]
theorem run_size {t n : Nat} (h : E.size t = some n) (w : World) : (sizeOf t).run P w = .ok n w := by
  unfold Env.size at h
  split at h
  · rename_i i hi
    obtain rfl := Option.some.inj h
    simp [sizeOf, run_info EO hi]
  · cases h
theorem run_agg {t : TypeId} {b : Bool} (h : E.agg t = some b) (w : World) : (isAgg t).run P w = .ok b w := by
  unfold Env.agg at h
  split at h
  · rename_i hd; obtain rfl := Option.some.inj h; simp [isAgg, run_und EO hd]
  · rename_i hd; obtain rfl := Option.some.inj h; simp [isAgg, run_und EO hd]
  · rename_i d h1 h2 hd
    obtain rfl := Option.some.inj h
    simp only [isAgg, Sem.run_bind, run_und EO hd, Result.andThen_ok]
    cases d <;> first | rfl | exact (h1 _ rfl).elim | exact (h2 _ _ rfl).elim
  · cases h
end

theorem isSc_sc {x : Value} {a : AV} (h : sc x = some a) : (∀ μ, ren μ a = x) ∧ ∀ d, sup d a := by
  unfold sc at h
  split at h
  any_goals (obtain rfl := Option.some.inj h; exact ⟨fun μ => by simp [ren], fun d => by simp [sup, isSc]⟩)
  · split at h
    · rename_i h1 h2
      obtain rfl := Option.some.inj h
      refine ⟨fun μ => ?_, fun d => by simp [sup, supL]⟩
      rename_i f first captured _ _
      cases first; cases captured
      simp_all [ren, renL]
    · cases h
  · cases h
theorem scL_ok : ∀ {l : List Value} {as : List AV}, scL l = some as → (∀ μ, renL μ as = l) ∧ ∀ d, supL d as
  | [], as, h => by simp only [scL, Option.some.injEq] at h; subst h; exact ⟨fun _ => rfl, fun _ => trivial⟩
  | x :: xs, as, h => by
    unfold scL at h
    split at h
    · rename_i a as' h1 h2
      obtain rfl := Option.some.inj h
      have k1 := isSc_sc h1
      have k2 := scL_ok h2
      exact ⟨fun μ => by simp [renL, k1.1, k2.1], fun d => ⟨k1.2 d, k2.2 d⟩⟩
    · cases h
theorem ofV_ok {x : Value} {a : AV} (h : ofV x = some a) : (∀ μ, ren μ a = x) ∧ ∀ d, sup d a := by
  unfold ofV at h
  split at h
  · obtain ⟨l, h1, rfl⟩ := Option.map_eq_some_iff.1 h
    have k := scL_ok h1
    exact ⟨fun μ => by simp [ren, k.1], fun d => by simpa [sup] using k.2 d⟩
  · obtain ⟨l, h1, rfl⟩ := Option.map_eq_some_iff.1 h
    have k := scL_ok h1
    exact ⟨fun μ => by simp [ren, k.1], fun d => by simpa [sup] using k.2 d⟩
  · obtain ⟨l, h1, rfl⟩ := Option.map_eq_some_iff.1 h
    have k := scL_ok h1
    exact ⟨fun μ => by simp [ren, k.1], fun d => by simpa [sup] using k.2 d⟩
  · obtain ⟨l, h1, rfl⟩ := Option.map_eq_some_iff.1 h
    have k := isSc_sc h1
    exact ⟨fun μ => by simp [ren, k.1], fun d => by simpa [sup] using k.2 d⟩
  · exact isSc_sc h

theorem zero_ok {E : Env} {P : Program} (EO : EnvOK E P) {t : TypeId} {a : AV} (h : E.zero t = some a) : (∀ μ w, (zeroValue t).run P w = .ok (ren μ a) w) ∧ ∀ d, sup d a := by
  unfold Env.zero at h
  split at h
  · rename_i i hi
    split at h
    · rename_i z hz
      have k := ofV_ok h
      exact ⟨fun μ w => by simp [zeroValue, run_info EO hi, hz, k.1], k.2⟩
    · cases h
  · cases h

/-- operands: what the table says is what the frame holds -/
def OpR (E : Env) (μ : Mu) (d : Nat → Prop) (tm : Tr AV) (ρ : Operand → Value) : Prop := ∀ x v, opv E tm x = some v → ρ x = ren μ v ∧ sup d v

section ops
variable {E : Env} {P : Program} {μ : Mu} {d : Nat → Prop} {tm : Tr AV} {ρ : Operand → Value}

theorem opvL_ok (hρ : OpR E μ d tm ρ) : ∀ {l : List Operand} {as : List AV}, opvL E tm l = some as → l.map ρ = renL μ as ∧ supL d as
  | [], as, h => by simp only [opvL, Option.some.injEq] at h; subst h; exact ⟨rfl, trivial⟩
  | x :: xs, as, h => by
    unfold opvL at h
    split at h
    · rename_i a as' h1 h2
      obtain rfl := Option.some.inj h
      have k1 := hρ _ _ h1
      have k2 := opvL_ok hρ h2
      exact ⟨by simp [renL, k1.1, k2.1], k1.2, k2.2⟩
    · cases h
theorem opvA_ok (hρ : OpR E μ d tm ρ) {l : Array Operand} {as : List AV} (h : opvL E tm l.toList = some as) : l.map ρ = (renL μ as).toArray ∧ supL d as := by
  have k := opvL_ok hρ h
  exact ⟨by rw [← k.1, ← Array.toList_map], k.2⟩
def renPart (μ : Mu) (p : Nat × AV) : Nat × Value := (p.1, ren μ p.2)
theorem partsL_ok (hρ : OpR E μ d tm ρ) : ∀ {l : List (Nat × Operand)} {as : List (Nat × AV)}, partsL E tm l = some as →
    l.map (fun (i, x) => (i, ρ x)) = as.map (renPart μ) ∧ ∀ p ∈ as, sup d p.2
  | [], as, h => by simp only [partsL, Option.some.injEq] at h; subst h; exact ⟨rfl, fun _ h => by cases h⟩
  | (i, x) :: xs, as, h => by
    unfold partsL at h
    split at h
    · rename_i a as' h1 h2
      obtain rfl := Option.some.inj h
      have k1 := hρ _ _ h1
      have k2 := partsL_ok hρ h2
      exact ⟨by simp [renPart, k1.1, k2.1], fun p hp => (List.mem_cons.1 hp).elim (fun e => e ▸ k1.2) (k2.2 p)⟩
    · cases h

theorem pureRun_ok {α : Type} {s : Sem α} {a : α} (h : Sem.pureRun s = some a) : s = .pure a := by
  unfold Sem.pureRun at h
  split at h
  · obtain rfl := Option.some.inj h; rfl
  · cases h

theorem bytesEq_iff : ∀ (a b : List UInt8), bytesEq a b = decide (a = b)
  | [], [] => by simp [bytesEq]
  | [], _ :: _ => by simp [bytesEq]
  | _ :: _, [] => by simp [bytesEq]
  | a :: x, b :: y => by
    unfold bytesEq
    cases h : Nat.beq a.toNat b.toNat with
    | true =>
      have e : a = b := UInt8.toNat_inj.1 (Nat.eq_of_beq_eq_true h)
      subst e
      simp [bytesEq_iff x y]
    | false =>
      have e : a ≠ b := fun e => Nat.ne_of_beq_eq_false h (by rw [e])
      simp [e]
theorem bytesEq_toList (a b : ByteArray) : bytesEq a.data.toList b.data.toList = (a.toList == b.toList) := by
  rw [bytesEq_iff, ByteArray.toList_eq, ByteArray.toList_eq]
  rw [Bool.eq_iff_iff]; simp
theorem bytesEq_beq (a b : ByteArray) : bytesEq a.data.toList b.data.toList = (a == b) := by
  rw [bytesEq_toList, beq_toListBytes]
end ops

theorem isSc_arith {op : BinOp} {k : IntKind} {a b : Int} {v : Value} (h : Op.intArith op k a b = .pure v) : isSc v = true := by
  unfold Op.intArith at h
  split at h <;> first | (cases h; rfl) | (simp [stuck] at h)
theorem isSc_div {op : BinOp} {k : IntKind} {a b : Int} {v : Value} (h : Op.intDiv op k a b = .pure v) : isSc v = true := by
  unfold Op.intDiv at h
  split at h
  · simp only [runtimePanic, program] at h
    cases h
  · split at h <;> first | (cases h; rfl) | (simp [stuck] at h)
theorem isSc_bits {op : BinOp} {k : IntKind} {a b : Int} {v : Value} (h : Op.intBits op k a b = .pure v) : isSc v = true := by
  unfold Op.intBits at h
  dsimp only at h
  split at h <;> first | (cases h; rfl) | (simp [stuck] at h)
theorem isSc_cmp {op : BinOp} {a b : Int} {v : Value} (h : Op.intCmp op a b = .pure v) : isSc v = true := by
  unfold Op.intCmp at h
  split at h <;> first | (cases h; rfl) | (simp [stuck] at h)
theorem isSc_shift {op : BinOp} {k j : IntKind} {a b : Int} {v : Value} (h : Op.shift op k a j b = .pure v) : isSc v = true := by
  unfold Op.shift at h
  split at h
  · simp only [runtimePanic, program] at h
    cases h
  · dsimp only at h
    split at h <;> first | (cases h; rfl) | (simp [stuck] at h)
theorem isSc_str {op : BinOp} {a b : ByteArray} {v : Value} (h : Op.stringOp op a b = .pure v) : isSc v = true := by
  unfold Op.stringOp at h
  dsimp only at h
  split at h
  · split at h
    · simp [unsupported] at h
    · cases h; rfl
  all_goals first | (cases h; rfl) | (simp [stuck] at h)
end Go.Xe
