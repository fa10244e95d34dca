import Derived.Test.YtnapjngeohncaaaGreatDoorXnm
import Derived.Orders
set_option linter.unusedSimpArgs false
set_option linter.unusedVariables false
namespace Go.Xe
/-- a frame at work -/
def bat (b : Frame) (tm : Array Value) (df : List Deferred) (todo : List Item) : Frame := { b with tmps := tm, defers := df, todo := todo, mode := .run }

section steps
variable {P : Program} {b : Frame} {tm : Array Value} {df : List Deferred} {k : List Item} {cs : List Frame} {w : World}

theorem s_skip : step P (lone (bat b tm df (.code .skip :: k)) cs w) = .next (lone (bat b tm df k) cs w) :=
  step_lone_go (by simp [stepG, stepG.exec, bat])
theorem s_label {l : Nat} : step P (lone (bat b tm df (.code (.label l) :: k)) cs w) = .next (lone (bat b tm df k) cs w) :=
  step_lone_go (by simp [stepG, stepG.exec, bat])
theorem s_inBlock {id : Nat} : step P (lone (bat b tm df (.inBlock id :: k)) cs w) = .next (lone (bat b tm df k) cs w) :=
  step_lone_go (by simp [stepG, stepG.exec, bat])
theorem s_inScope {c : Code} : step P (lone (bat b tm df (.inScope c :: k)) cs w) = .next (lone (bat b tm df k) cs w) :=
  step_lone_go (by simp [stepG, stepG.exec, bat])
theorem s_seq {x y : Code} : step P (lone (bat b tm df (.code (.seq x y) :: k)) cs w) = .next (lone (bat b tm df (.code x :: .code y :: k)) cs w) :=
  step_lone_go (by simp [stepG, stepG.exec, bat])
theorem s_cond {c : Operand} {x y : Code} {t : Bool} (h : (bat b tm df (.code (.cond c x y) :: k)).eval c = .bool t) :
    step P (lone (bat b tm df (.code (.cond c x y) :: k)) cs w) = .next (lone (bat b tm df (.code (if t then x else y) :: k)) cs w) :=
  step_lone_go (by
    simp only [bat] at h
    simp [stepG, stepG.exec, bat, h])
theorem s_block {id : Nat} {c : Code} : step P (lone (bat b tm df (.code (.block id c) :: k)) cs w) = .next (lone (bat b tm df (.code c :: .inBlock id :: k)) cs w) :=
  step_lone_go (by simp [stepG, stepG.exec, bat])
theorem s_loop {c : Code} : step P (lone (bat b tm df (.code (.loop c) :: k)) cs w) = .next (lone (bat b tm df (.code c :: .inLoop c :: k)) cs w) :=
  step_lone_go (by simp [stepG, stepG.exec, bat])
theorem s_inLoop {c : Code} : step P (lone (bat b tm df (.inLoop c :: k)) cs w) = .next (lone (bat b tm df (.code c :: .inLoop c :: k)) cs w) :=
  step_lone_go (by simp [stepG, stepG.exec, bat])
theorem s_scope {c : Code} : step P (lone (bat b tm df (.code (.scope c) :: k)) cs w) = .next (lone (bat b tm df (.code c :: .inScope c :: k)) cs w) :=
  step_lone_go (by simp [stepG, stepG.exec, bat])
theorem s_exit {id : Nat} {k' : List Item} (h : exitTo id k = some k') : step P (lone (bat b tm df (.code (.exit id) :: k)) cs w) = .next (lone (bat b tm df k') cs w) :=
  step_lone_go (by simp [stepG, stepG.exec, bat, h])
theorem s_goto {l : Nat} {k' : List Item} (h : gotoIn l k = some k') : step P (lone (bat b tm df (.code (.goto l) :: k)) cs w) = .next (lone (bat b tm df k') cs w) :=
  step_lone_go (by simp [stepG, stepG.exec, bat, h])
theorem s_ret (hr : b.roundOf = none) : step P (lone (bat b tm df (.code .ret :: k)) cs w) = .next (lone { bat b tm df (.code .ret :: k) with mode := .returning } cs w) :=
  step_lone_go (by simp [stepG, stepG.exec, bat, hr])
theorem s_end (hr : b.roundOf = none) : step P (lone (bat b tm df []) cs w) = .next (lone { bat b tm df [] with mode := .returning } cs w) :=
  step_lone_go (by simp [stepG, stepG.exec, bat, hr])
theorem s_region {id : Nat} {ops : Array Oper} : step P (lone (bat b tm df (.code (.region id ops false) :: k)) cs w) = .next (lone (bat b tm df (.inRegion ops (List.range ops.size) :: k)) cs w) :=
  step_lone_go (by simp [stepG, stepG.exec, bat])
theorem s_region_draw {id : Nat} {ops : Array Oper} : step P (lone (bat b tm df (.code (.region id ops true) :: k)) cs w) =
    .next (lone (bat b tm df (.inRegion ops (Region.schedule (P.follows .mixedOrders) ops (w.tape w.drawn (.order b.fn id))) :: k)) cs { w with drawn := w.drawn + 1 }) :=
  step_lone_go (by simp [stepG, stepG.exec, bat, choose, Sem.run, Question.forced, Question.cut])
theorem s_region_end {ops : Array Oper} : step P (lone (bat b tm df (.inRegion ops [] :: k)) cs w) = .next (lone (bat b tm df k) cs w) :=
  step_lone_go (by simp [stepG, stepG.exec, bat])

def putA (tm : Array Value) (dst : Option Tmp) (v : Value) : Array Value :=
  match dst with
  | some d => tm.setIfInBounds d v
  | none => tm
theorem finish_bat (ops : Array Oper) (i : Nat) (rest : List Nat) (v : Value) :
    (bat b tm df (.inRegion ops (i :: rest) :: k)).finish v = bat b (putA tm ((ops[i]?).bind (·.dst)) v) df (.inRegion ops rest :: k) := by
  cases h : (ops[i]?).bind (·.dst) <;> simp [Frame.finish, bat, putA, h]
theorem s_op_skip {ops : Array Oper} {i : Nat} {rest : List Nat} (h : ((ops[i]?).map (Region.wanted · (yielded ops tm))).getD false = false) :
    step P (lone (bat b tm df (.inRegion ops (i :: rest) :: k)) cs w) = .next (lone (bat b (putA tm ((ops[i]?).bind (·.dst)) undef) df (.inRegion ops rest :: k)) cs w) := by
  rw [← finish_bat]
  exact step_lone_go (by
    have h' := h
    simp only [bat] at *
    simp [stepG, stepG.exec, h'])
theorem sG_op {ops : Array Oper} {i : Nat} {rest : List Nat} {o : Oper} (ho : ops[i]? = some o) (hw : Region.wanted o (yielded ops tm) = true) (hr : b.roundOf = none ∨ ∀ c, o.op ≠ .defer c) :
    stepG P true { frame := bat b tm df (.inRegion ops (i :: rest) :: k), callers := cs, status := .running, dying := none } w =
      stepG.apply P true (bat b tm df (.inRegion ops (i :: rest) :: k)) cs none (execOp (bat b tm df (.inRegion ops (i :: rest) :: k)).eval o) w := by
  simp only [bat]
  simp only [stepG, stepG.exec, ho, Option.map_some, Option.getD_some, hw, if_true, stepG.oper, Frame.oper?]
  rcases hr with hr | hr
  · rw [hr]
  · split
    · rename_i l c h1 h2; exact absurd h2 (hr c)
    · rfl
variable {ops : Array Oper} {i : Nat} {rest : List Nat} {o : Oper} {w' : World}
theorem s_value (ho : ops[i]? = some o) (hw : Region.wanted o (yielded ops tm) = true) (hr : b.roundOf = none ∨ ∀ c, o.op ≠ .defer c) {v : Value}
    (h : (execOp (bat b tm df (.inRegion ops (i :: rest) :: k)).eval o).run P w = .ok (.value v) w') :
    step P (lone (bat b tm df (.inRegion ops (i :: rest) :: k)) cs w) = .next (lone (bat b (putA tm o.dst v) df (.inRegion ops rest :: k)) cs w') := by
  have e : (bat b tm df (.inRegion ops (i :: rest) :: k)).finish v = bat b (putA tm o.dst v) df (.inRegion ops rest :: k) := by rw [finish_bat, ho]; rfl
  rw [← e]
  exact step_lone_go (by rw [sG_op ho hw hr]; simp [stepG.apply, h])
theorem s_skipped (ho : ops[i]? = some o) (hw : Region.wanted o (yielded ops tm) = true) (hr : b.roundOf = none ∨ ∀ c, o.op ≠ .defer c)
    (h : (execOp (bat b tm df (.inRegion ops (i :: rest) :: k)).eval o).run P w = .ok .skip w') :
    step P (lone (bat b tm df (.inRegion ops (i :: rest) :: k)) cs w) = .next (lone (bat b (putA tm o.dst undef) df (.inRegion ops rest :: k)) cs w') := by
  have e : (bat b tm df (.inRegion ops (i :: rest) :: k)).finish undef = bat b (putA tm o.dst undef) df (.inRegion ops rest :: k) := by rw [finish_bat, ho]; rfl
  rw [← e]
  exact step_lone_go (by rw [sG_op ho hw hr]; simp [stepG.apply, h])
theorem s_defer (ho : ops[i]? = some o) (hw : Region.wanted o (yielded ops tm) = true) (hr : b.roundOf = none ∨ ∀ c, o.op ≠ .defer c) {x : Deferred}
    (h : (execOp (bat b tm df (.inRegion ops (i :: rest) :: k)).eval o).run P w = .ok (.defer x) w') :
    step P (lone (bat b tm df (.inRegion ops (i :: rest) :: k)) cs w) = .next (lone (bat b (putA tm o.dst undef) (x :: df) (.inRegion ops rest :: k)) cs w') := by
  have e : (bat b tm (x :: df) (.inRegion ops (i :: rest) :: k)).finish undef = bat b (putA tm o.dst undef) (x :: df) (.inRegion ops rest :: k) := by rw [finish_bat, ho]; rfl
  rw [← e]
  exact step_lone_go (by rw [sG_op ho hw hr]; simp [stepG.apply, h]; rfl)
theorem s_panic (ho : ops[i]? = some o) (hw : Region.wanted o (yielded ops tm) = true) (hr : b.roundOf = none ∨ ∀ c, o.op ≠ .defer c) {v : Value}
    (h : (execOp (bat b tm df (.inRegion ops (i :: rest) :: k)).eval o).run P w = .halt (.panic v) w') :
    step P (lone (bat b tm df (.inRegion ops (i :: rest) :: k)) cs w) = .next (lone { bat b tm df (.inRegion ops (i :: rest) :: k) with mode := .panicking [{ v, recovered := false }] } cs w') :=
  step_lone_go (by rw [sG_op ho hw hr]; simp [stepG.apply, h]; rfl)
theorem s_enter (ho : ops[i]? = some o) (hw : Region.wanted o (yielded ops tm) = true) (hr : b.roundOf = none ∨ ∀ c, o.op ≠ .defer c) {f : FuncId} {args : Array Value}
    (h : (execOp (bat b tm df (.inRegion ops (i :: rest) :: k)).eval o).run P w = .ok (.enter f args) w') :
    step P (lone (bat b tm df (.inRegion ops (i :: rest) :: k)) cs w) = .next (lone (Frame.enter P f args .normal) (bat b tm df (.inRegion ops (i :: rest) :: k) :: cs) w') :=
  step_lone_go (by rw [sG_op ho hw hr]; simp [stepG.apply, h]; rfl)
theorem s_round (ho : ops[i]? = some o) (hw : Region.wanted o (yielded ops tm) = true) (hr : b.roundOf = none ∨ ∀ c, o.op ≠ .defer c) {l f : Nat} {ts : Array Value} {as bd : Code}
    (h : (execOp (bat b tm df (.inRegion ops (i :: rest) :: k)).eval o).run P w = .ok (.round l f ts as bd) w') :
    step P (lone (bat b tm df (.inRegion ops (i :: rest) :: k)) cs w) = .next (lone (Frame.round l f ts as bd .normal) (bat b tm df (.inRegion ops (i :: rest) :: k) :: cs) w') :=
  step_lone_go (by rw [sG_op ho hw hr]; simp [stepG.apply, h])
theorem s_recover (ho : ops[i]? = some o) (hw : Region.wanted o (yielded ops tm) = true) (hr : b.roundOf = none) 
    (h : (execOp (bat b tm df (.inRegion ops (i :: rest) :: k)).eval o).run P w = .ok .recover w') :
    step P (lone (bat b tm df (.inRegion ops (i :: rest) :: k)) cs w) =
      .next (match tryRecover (bat b tm df (.inRegion ops (i :: rest) :: k)) cs with
        | some (v, cs') => lone (bat b (putA tm o.dst v) df (.inRegion ops rest :: k)) cs' w'
        | none => lone (bat b (putA tm o.dst .nilIface) df (.inRegion ops rest :: k)) cs w') := by
  have e : ∀ v, (bat b tm df (.inRegion ops (i :: rest) :: k)).finish v = bat b (putA tm o.dst v) df (.inRegion ops rest :: k) := fun v => by rw [finish_bat, ho]; rfl
  cases ht : tryRecover (bat b tm df (.inRegion ops (i :: rest) :: k)) cs with
  | none =>
    simp only
    rw [← e]
    exact step_lone_go (by
      rw [sG_op ho hw (.inl hr)]
      have hr' : (bat b tm df (.inRegion ops (i :: rest) :: k)).roundOf = none := hr
      simp only [stepG.apply, if_true, Sem.runT_eq, h, GStep.bare_after, hr', ht]
      rfl)
  | some p =>
    obtain ⟨v, cs'⟩ := p
    simp only
    rw [← e]
    exact step_lone_go (by
      rw [sG_op ho hw (.inl hr)]
      have hr' : (bat b tm df (.inRegion ops (i :: rest) :: k)).roundOf = none := hr
      simp only [stepG.apply, if_true, Sem.runT_eq, h, GStep.bare_after, hr', ht]
      rfl)
end steps
end Go.Xe
