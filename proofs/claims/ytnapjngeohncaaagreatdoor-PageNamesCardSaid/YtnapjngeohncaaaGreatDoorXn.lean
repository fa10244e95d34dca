import Derived.Test.YtnapjngeohncaaaGreatDoorXm
set_option linter.unusedSimpArgs false
set_option linter.unusedVariables false
namespace Go.Xe
section app
variable {E : Env} {P : Program} {μ : Mu} {d : Nat → Prop} {H : Hp} {w : World} {tm : Tr AV} {ρ : Operand → Value}

/-- what append does behind the count of what is appended -/
def appTail (e : TypeId) (base : Option Addr) (sLen sCap n : Nat) (s x : Value) (zeros : Bool) (size : Nat) (appended : Sem (Array Value)) : Sem Value := do
  let need := sLen + n
  if need ≤ sCap then
    let new ← appended
    if let some a := base then storeCells (a.add (sLen * size)) new.toList
    pure (.slice base need sCap)
  else
    if (need : Int) > IntKind.i64.max ∧ (zeros ∨ (← typeInfo e).bytes = 0) then runtimePanic (.error "growslice: len out of range")
    if Builtin.nextslicecap need sCap * (← typeInfo e).bytes > 2 ^ 48 then (if zeros then runtimePanic (.error "growslice: len out of range") else do
      if !(← Builtin.mayShare size sLen n base x) then mark .noRoom
      unsupported (.resourceLimit "append: a slice or a string whose bytes no memory bears"))
    let newCap ← choose (.appendCap need sCap e)
    askRoom (newCap * (← typeInfo e).bytes)
    let old ← Builtin.firstCells size sLen s
    let new ← appended
    let rest := Builtin.zeroCells (← zeroValue e).cells (newCap - need)
    pure (.slice (some (← newRow e (old ++ new ++ rest))) need newCap)

theorem append_tail (EO : EnvOK E P) (R : Rel E μ d H w) {sT xT e : TypeId} {xd : TypeDesc} {sz : Nat} {i : TypeInfo} {z x : AV} {n : Nat} {new : List AV} {argTypes : Array TypeId} {ty : TypeId}
    (h0 : argTypes[0]? = some sT) (h1 : argTypes[1]? = some xT) (hs : E.und sT = some (.slice e)) (hxd : E.und xT = some xd) (hx : sup d x)
    (hi : E.tt.get e = some i) (hsz : E.size e = some sz) (hz : E.zero e = some z) (hzl : z.cells.length = sz)
    (h : appSrc H sz i.bytes z (isIntD xd) x = some (n, new)) (base : Option Addr) (sLen sCap : Nat) :
    (Builtin.append_ argTypes ty #[.slice base sLen sCap, ren μ x]).run P w =
      (appTail e base sLen sCap n (.slice base sLen sCap) (ren μ x) (isIntD xd) sz
        (if !isIntD xd then Builtin.firstCells sz n (ren μ x) else if n * sz = 0 then pure #[] else do pure (Builtin.zeroCells (← zeroValue e).cells n))).run P w := by
  have ks := (appSrc_ok EO R hx hi hsz hz hzl h).2 w ⟨w.drawn, rfl⟩
  have k1 := ks.1
  have e0 : ∀ a b : Value, (#[a, b] : Array Value)[0]? = some a := fun _ _ => rfl
  have e1 : ∀ a b : Value, (#[a, b] : Array Value)[1]? = some b := fun _ _ => rfl
  unfold Builtin.append_
  simp only [h0, h1, e0, e1]
  simp only [Sem.run_bind, run_und EO hs, Result.andThen_ok, run_size EO hsz, run_und EO hxd, Sem.run_pure]
  change Sem.run P (if isIntD xd = true then _ else _) w = _
  by_cases hz1 : isIntD xd = true
  · rw [hz1] at h
    unfold appSrc at h
    split at h
    · rename_i k m _
      split at h
      · rename_i hb
        simp only [Option.some.injEq, Prod.mk.injEq] at h
        obtain ⟨rfl, rfl⟩ := h
        simp only [Bool.and_eq_true] at hb
        have b1 := Nat.le_of_ble_eq_true hb.1
        have b2 := Nat.le_of_ble_eq_true hb.2
        have wn : IntKind.i64.wrap (m : Int) = m := wrap_small (by omega)
        have hmul : (m : Int) * (i.bytes : Int) ≤ 2 ^ 40 := by
          have : ((m * i.bytes : Nat) : Int) ≤ ((2 ^ 40 : Nat) : Int) := Int.ofNat_le.2 b2
          simpa using this
        rw [if_pos hz1]
        simp only [ren, asInt, asIntOf, Sem.run_bind, Sem.run_pure, Result.andThen_ok, Int.ofNat_eq_natCast, wn]
        rw [if_neg (by omega)]
        simp only [Sem.run_bind, run_info EO hi, Result.andThen_ok]
        rw [if_neg (by omega)]
        simp only [Sem.run_bind, Sem.run_pure, Result.andThen_ok, Int.toNat_natCast]
        rfl
      · cases h
    all_goals first | (cases h; done) | contradiction | (rename_i hx; exact absurd hx (by simp [isIntD]))
  · rw [if_neg hz1] at k1
    rw [if_neg hz1]
    simp only [Sem.run_bind]
    rw [k1]
    rfl
end app
end Go.Xe
