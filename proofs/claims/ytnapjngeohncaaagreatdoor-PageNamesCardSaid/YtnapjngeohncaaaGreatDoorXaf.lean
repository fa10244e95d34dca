import Derived.Test.YtnapjngeohncaaaGreatDoorXae
set_option linter.unusedSimpArgs false
set_option linter.unusedVariables false
namespace Go.Xe
def Env.of (P : Program) (gl : List Nat) (eqs : List TypeId) (lo hi : Int) (ex : List (Nat × Nat) := []) : Env :=
  { ft := Tr.ofList P.funcs.toList, tt := Tr.ofList P.types.toList, eq := eqs.foldl (fun t k => t.set k ()) .e, ng := gl.length, gl, lo, hi, ex }
/-- a function without a body, of a kind -/
def ExOK (P : Program) (p : Nat × Nat) : Prop := ∃ fn, P.funcs[p.1]? = some fn ∧ (fn.name == "runtime.NumGoroutine") = false ∧ fn.body.isNone = true ∧ Extern.findNext fn = none ∧ Extern.find fn = some (extSem p.2)
theorem findEx_mem {f k : Nat} : ∀ {l : List (Nat × Nat)}, findEx f l = some k → (f, k) ∈ l
  | [], h => by cases h
  | p :: ps, h => by
    unfold findEx at h
    split at h
    · rename_i hb
      have e := Nat.eq_of_beq_eq_true hb
      obtain rfl := Option.some.inj h
      subst e
      exact List.mem_cons_self ..
    · exact List.mem_cons_of_mem _ (findEx_mem h)
def rowsHp (rows : List (Nat × List AV × TypeId)) : Hp := ⟨Tr.ofList (rows.map fun r => .row r.2.1 r.2.2), rows.length⟩
theorem foldl_get : ∀ (l : List TypeId) (t : Tr Unit) (k : Nat) (u : Unit), (l.foldl (fun t k => t.set k ()) t).get k = some u → k ∈ l ∨ t.get k = some u
  | [], t, k, u, h => .inr h
  | a :: as, t, k, u, h => by
    rcases foldl_get as (t.set a ()) k u h with h1 | h1
    · exact .inl (List.mem_cons_of_mem _ h1)
    · rw [Tr.get_set] at h1
      split at h1
      · rename_i e; exact .inl (e ▸ List.mem_cons_self ..)
      · exact .inr h1
theorem envOK_of {P : Program} {gl : List Nat} {eqs : List TypeId} {lo hi : Int} {ex : List (Nat × Nat)} (h1 : P.funcs.toList.all (fun fn => !(fn.name == "runtime.NumGoroutine")) = true)
    (h2 : eqs.all (fun t => !P.stoodInHeld t && !P.eqGuardType P.depth t) = true) (h3 : P.follows .mixedOrders = true) (h4 : ∀ p ∈ ex, ExOK P p) : EnvOK (Env.of P gl eqs lo hi ex) P := by
  refine ⟨fun t i h => ?_, fun f fn h => ?_, fun f fn h => ?_, fun t u h => ?_, h3, fun f k h => h4 (f, k) (findEx_mem h)⟩
  · have h' : P.types.toList[t]? = some i := by rw [← Tr.get_ofList]; exact h
    have h2 : P.types[t]? = some i := by simpa using h'
    have hlt : t < P.types.size := (Array.getElem?_eq_some_iff.1 h2).1
    show Tables.info? P.toTables t = some i
    unfold Tables.info?
    rw [if_pos hlt]
    exact h2
  · have h' : P.funcs.toList[f]? = some fn := by rw [← Tr.get_ofList]; exact h
    simpa using h'
  · have h' : P.funcs.toList[f]? = some fn := by rw [← Tr.get_ofList]; exact h
    have := List.all_eq_true.1 h1 fn (List.mem_of_getElem? h')
    simpa using this
  · rcases foldl_get eqs .e t u h with h' | h'
    · have := List.all_eq_true.1 h2 t h'
      simpa using this
    · cases h'

/-- a law over the laid variables, each of the kind that the memory's start gives it -/
theorem returns_shaped {H : Type} {enc : TypeId × Value → H} {C : Checked} {os : Os} {f : FuncId} {fn : Func} {s : ChangeSpec} {conds : List PathCond} {apart fresh handsOn again : Bool} {X : World → Array Value → Prop}
    (hX : ∀ (w w' : World) (args : Array Value), w.heap = w'.heap → X w args → X w' args)
    (own : ownKnob C.prog.godebug = none) (started : os.Started) (noInit : C.prog.inits.idxOf? f = none) (hfn : C.prog.funcs[f]? = some fn)
    (witness : ∃ (w : World) (tape : Tape) (i : Input), w.os = os ∧ (w.forCall tape i).Shaped C.prog ∧ i.vars = [] ∧ Input.okWide C.prog (w.forCall tape i) .any w.heap.size f i ∧
      ((s.pre enc C.prog fn conds apart (w.forCall tape i).memory i.args ∧ X (w.forCall tape i).memory i.args) ∧ sizedMet enc C.prog fn (OpenSpec.ofChange s) apart (w.forCall tape i).memory i.args) ∧ ({} : Assume).holds C.prog (lone (Frame.enter C.prog f i.args .normal) [] (w.forCall tape i)))
    (contract : ∀ (W : World) (base : Nat) (args : Array Value) (ds gs : List (DataW H)) (before : List MemPlace), W.ShapedOpen C.prog →
      (∀ (j : Nat) t v, fn.params[j]? = some t → args[j]? = some v → Value.okWide C.prog W .any base t v) →
      DataW.Whole enc C.prog fn.params.toList s.vars apart W args.toList ds gs before → X W args →
      Calls C.prog f args W fun e W' => ∃ v, e = .returned v ∧ s.post enc C.prog fn apart fresh handsOn again W args v W') :
    ReturnsInHanded {} C os f .any (fun w args => (s.pre enc C.prog fn conds apart w args ∧ X w args) ∧ sizedMet enc C.prog fn (OpenSpec.ofChange s) apart w args) (s.post enc C.prog fn apart fresh handsOn again) := by
  refine returnsInHanded_of_calls own started noInit witness ?_
  intro w tape i _ hsh _ hok hpre hholds
  obtain ⟨_, _, _, fn', hfn', _, _, _, _, hval⟩ := hok
  have e : fn' = fn := Option.some.inj (hfn'.symm.trans hfn)
  subst e
  obtain ⟨⟨⟨ds, gs, before, hw, hc⟩, hx⟩, hz⟩ := hpre
  have hw' := DataW.Whole.of_heap (w' := w.forCall tape i) (by rfl) hw
  refine (contract (w.forCall tape i) w.heap.size i.args ds gs before hsh hval hw' (hX _ _ _ (by rfl) hx)).mono fun e W' ⟨v, he, hp⟩ => ?_
  subst he
  exact ChangeSpec.post_blind hp
end Go.Xe
