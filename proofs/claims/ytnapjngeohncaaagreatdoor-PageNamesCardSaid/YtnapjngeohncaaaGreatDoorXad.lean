import Derived.Test.YtnapjngeohncaaaGreatDoorXac
set_option linter.unusedSimpArgs false
set_option linter.unusedVariables false
namespace Go.Xe
section frames
variable {E : Env} {P : Program} {μ : Mu} {d : Nat → Prop} {H : Hp} {w : World}
theorem newObj_run (o : Obj) : (newObj o).run P w = .ok w.heap.size (w.alloc o) := by
  rfl
/-- the loop's record, and what is deferred in it -/
def Entered (E : Env) (P : Program) (μ : Mu) (d : Nat → Prop) (H : Hp) (w : World) (b : Frame) (tm : Array Value) (params : Array Tmp) (assign body : Code) (df0 df : List ADef) (h : Hp) (lp : ALoop) : Prop :=
  ∃ μ1 d1 w1 mark, (Instr.enterLoop b.fn tm params assign body b.roundOf).run P w = .ok ((μ1.at_ h.nx).blk, mark) w1 ∧ Rel E μ1 d1 (h.push (.loop lp)) w1 ∧ Ext μ d H w μ1 d1 (h.push (.loop lp)) w1 ∧ Lt d1 (h.push (.loop lp)) ∧
    d1 h.nx ∧ mark ++ df0.map (renD μ) = df.map (renD μ1) ∧ ∀ y ∈ df, supD d1 y
theorem entered_none (R : Rel E μ d H w) (lt : Lt d H) {b : Frame} (hr : b.roundOf = none) {tm : Array Value} {tab : Tr AV} {sz : Nat} (ht : TmR μ tab sz tm) (hs : TmS d tab) {params : Array Tmp} {assign body : Code} {df0 : List ADef} (hd : ∀ y ∈ df0, supD d y) :
    Entered E P μ d H w b tm params assign body df0 (⟨.collected H.nx, []⟩ :: df0) (H.push (.defs (some []))) { state := .ready, pending := none, fn := b.fn, tm := tab, sz := sz, params := params.toList, assign, body, defers := H.nx } := by
  have a := push_ok R lt (p := ⟨w.heap.size, 0, 0⟩) rfl (ob := .defs (some [])) (O := .deferred (some [])) rfl (fun l hl x hx => by cases hl; cases hx) (frozen_push w _ (fun c e z h => by cases h))
  have ag := a.2.1.agr
  have c := push_ok a.1 a.2.2 (p := ⟨(w.alloc (.deferred (some []))).heap.size, 0, 0⟩) rfl
    (ob := .loop { state := .ready, pending := none, fn := b.fn, tm := tab, sz := sz, params := params.toList, assign, body, defers := H.nx })
    (O := .loop { state := .ready, pending := none, fn := b.fn, tmps := tm, params, assign, body, defers := w.heap.size })
    ⟨tm, TmR_agree ag hs ht, by simp [Mu.put_self]⟩ ⟨TmS_mono a.2.1.dom hs, .inr rfl⟩ (frozen_push _ _ (fun c e z h => by cases h))
  have X := a.2.1.trans c.2.1 a.1.inn
  refine ⟨_, _, _, [{ target := .collected w.heap.size, args := #[] }], ?_, c.1, X, c.2.2, .inr rfl, ?_, ?_⟩
  · rw [hr, Mu.put_self]
    simp only [Instr.enterLoop, Sem.run_bind, newObj_run, Result.andThen_ok, Sem.run_pure]
  · rw [List.map_cons, renDs_agree X.agr hd]
    congr 1
    have : ((μ.put H.nx ⟨w.heap.size, 0, 0⟩).put (H.push (.defs (some []))).nx ⟨(w.alloc (.deferred (some []))).heap.size, 0, 0⟩).at_ H.nx = ⟨w.heap.size, 0, 0⟩ := by
      rw [Mu.put_ne _ _ (by simp [Hp.push]), Mu.put_self]
    simp only [renD, renT, this, renL]
    rfl
  · intro y hy
    rcases List.mem_cons.1 hy with rfl | hy
    · exact ⟨.inl (.inr rfl), trivial⟩
    · exact supD_mono X.dom (hd y hy)
theorem entered_some (R : Rel E μ d H w) (lt : Lt d H) {b : Frame} {lr : Nat} {r : ALoop} (hr : b.roundOf = some (μ.at_ lr).blk) (hl : d lr) (hg : H.get lr = some (.loop r)) {tm : Array Value} {tab : Tr AV} {sz : Nat} (ht : TmR μ tab sz tm) (hs : TmS d tab)
    {params : Array Tmp} {assign body : Code} {df0 : List ADef} (hd : ∀ y ∈ df0, supD d y) :
    Entered E P μ d H w b tm params assign body df0 df0 H { state := .ready, pending := none, fn := b.fn, tm := tab, sz := sz, params := params.toList, assign, body, defers := r.defers } := by
  obtain ⟨arr, h3, h1, h4, hs1, hs2⟩ := getLoop_ok (P := P) R hl hg
  have c := push_ok R lt (p := ⟨w.heap.size, 0, 0⟩) rfl
    (ob := .loop { state := .ready, pending := none, fn := b.fn, tm := tab, sz := sz, params := params.toList, assign, body, defers := r.defers })
    (O := .loop { state := .ready, pending := none, fn := b.fn, tmps := tm, params, assign, body, defers := (μ.at_ r.defers).blk })
    ⟨tm, ht, by simp⟩ ⟨hs, hs2⟩ (frozen_push _ _ (fun c e z h => by cases h))
  refine ⟨_, _, _, [], ?_, c.1, c.2.1, c.2.2, .inr rfl, ?_, fun y hy => supD_mono c.2.1.dom (hd y hy)⟩
  · rw [hr, Mu.put_self]
    simp only [Instr.enterLoop, Sem.run_bind, h4, newObj_run, Result.andThen_ok, Sem.run_pure]
  · rw [renDs_agree c.2.1.agr hd]
    rfl
theorem rangeFunc_ok (EO : EnvOK E P) {ih : Job → Option (List Res)} (ihS : ∀ j rs, ih j = some rs → OKJ E P j rs) {x : Ctx} {f : Operand} {params : Array Tmp} {assign body : Code} {s : St} {rs : List Res}
    (h : evBody E ih (.code x (.rangeFunc f params assign body) s) = some rs) : CodeOK E P x s rs (fun k => .code (.rangeFunc f params assign body) :: k) := by
  intro μ d w b cs tm k R lt ss hx htm hcs
  simp only [evBody] at h
  split at h
  · cases h
  · rename_i fv hfv
    split at h
    · cases h
    · rename_i dfs df h0 hpre
      have hent : Entered E P μ d s.hp w b tm params assign body s.df df h0 { state := .ready, pending := none, fn := x.fn, tm := s.tm, sz := s.sz, params := params.toList, assign, body, defers := dfs } := by
        have hrn := hx.rnd
        rw [← hx.fn]
        split at hpre
        · rename_i lr hlr
          rw [hlr] at hrn
          simp only at hrn
          split at hpre
          · rename_i r hg
            simp only [Option.some.injEq, Prod.mk.injEq] at hpre
            obtain ⟨rfl, rfl, rfl⟩ := hpre
            exact entered_some R lt hrn.1 hrn.2.1 hg htm ss.tm ss.df
          · cases hpre
        · rename_i hlr
          rw [hlr] at hrn
          simp only at hrn
          simp only [Option.some.injEq, Prod.mk.injEq] at hpre
          obtain ⟨rfl, rfl, rfl⟩ := hpre
          exact entered_none R lt hrn htm ss.tm ss.df
      obtain ⟨μ1, d1, w1, mark, e1, R1, X1, lt1, hl1, hdf, sdf⟩ := hent
      split at h
      · cases h
      · rename_i dd hdd
        split at h
        · rename_i g args hgo
          obtain ⟨l0, hi, hall⟩ := andThen_some h
          have kf := opR_bat R (b := b) (df := mark ++ s.df.map (renD μ)) (todo := .inRangeFunc (μ1.at_ h0.nx).blk :: k) htm ss.tm f fv hfv
          have kt := tgtOf_ok (P := P) (μ := μ1) (d := d1) hdd (sup_mono X1.dom _ kf.2) (show supL d1 [.yield h0.nx] from ⟨hl1, trivial⟩) w1
          obtain ⟨N, k1, k2⟩ := goes_ok (μ := μ1) (w := w1) EO hgo kt.2
          obtain ⟨rfl, k3⟩ := k2
          have hst0 := s_rangeFunc (P := P) (b := b) (tm := tm) (df := s.df.map (renD μ)) (k := k) (cs := csAt x.dfd cs (renM μ s.pm)) (f := f) (w2 := w1) (g := g) (args := (renL μ1 args).toArray) e1 (by
            simp only [resolve, Sem.run_bind]
            rw [kf.1, ← ren_agree X1.agr _ kf.2]
            have ea : Array.map (bat b tm (mark ++ s.df.map (renD μ)) (.inRangeFunc (μ1.at_ h0.nx).blk :: k)).eval #[.const (.func (.yield (μ1.at_ h0.nx).blk) #[] #[])] = (renL μ1 [.yield h0.nx]).toArray := by
              simp [Frame.eval, renL, ren]
            rw [ea, kt.1, Result.andThen_ok]
            exact k1)
          rw [hdf] at hst0
          obtain ⟨e, pm, h', hm, μ2, d2, w2, fr, q1, q2, q3, q4, q5, q6, q7, q8, q9⟩ := ihS _ _ hi μ1 d1 w1 (bat b tm (df.map (renD μ1)) (.inRangeFunc (μ1.at_ h0.nx).blk :: k) :: csAt x.dfd cs (renM μ s.pm)) R1 lt1 k3 trivial (fun h => by cases h)
          obtain ⟨l', p1, p2⟩ := allR_mem hall _ hm
          have X := X1.trans q2 R1.inn
          have hst : Steps P (lone (bat b tm (s.df.map (renD μ)) (.code (.rangeFunc f params assign body) :: k)) (csAt x.dfd cs (renM μ s.pm)) w) (lone fr (bat b tm (df.map (renD μ1)) (.inRangeFunc (μ1.at_ h0.nx).blk :: k) :: csAt x.dfd cs (renM μ s.pm)) w2) := .head hst0 q6
          cases e with
          | panic ch =>
            simp only [Option.some.injEq] at p1
            subst p1
            refine ⟨_, _, p2 _ (List.mem_singleton.2 rfl), μ2, d2, w2, tm, q1, X, q3, ⟨TmS_mono X.dom ss.tm, fun y hy => supD_mono q2.dom (sdf y hy), supM_mono X.dom ss.pm⟩, q4, fun t _ => (TmR_agree X.agr ss.tm htm).2 t, .inRangeFunc (μ1.at_ h0.nx).blk :: k, ?_⟩
            refine hst.trans (.one ?_)
            rw [step_leave_panicked (chain := renPs μ2 ch) ⟨q7.1, q7.2.1, q7.2.2⟩]
            rw [← renDs_agree q2.agr sdf, ← csAt_agree X.agr ss.pm]
            rfl
          | ret v =>
            simp only at p1
            split at p1
            · rename_i r hg
              have hl2 := q2.dom _ hl1
              obtain ⟨arr, u1, w3, u2, _, _, u5, u6⟩ := setLoop_ok (P := P) q1 hl2 hg (st := .exhausted) (pd := r.pending)
              have hat : (μ2.at_ h0.nx).blk = (μ1.at_ h0.nx).blk := by rw [q2.agr.1 _ hl1]
              have X3 := X.trans u6 q1.inn
              have hst2 : Steps P (lone (bat b tm (s.df.map (renD μ)) (.code (.rangeFunc f params assign body) :: k)) (csAt x.dfd cs (renM μ s.pm)) w) (lone (bat b tm (df.map (renD μ2)) (.endRangeFunc (μ1.at_ h0.nx).blk :: k)) (csAt x.dfd cs (renM μ2 s.pm)) w2) := by
                refine hst.trans (.one ?_)
                rw [step_leave_returned (leaving_of_fini q7 q8), finish_range, renDs_agree q2.agr sdf, csAt_agree X.agr ss.pm]
              have hend : r.state ≠ .busy → (Instr.endLoop (μ1.at_ h0.nx).blk).run P w2 = .ok r.pending w3 := by
                intro hb
                have hb' : (r.state == LoopState.busy) = false := by cases hq : r.state <;> first | rfl | exact absurd hq hb
                rw [← hat]
                simp only [Instr.endLoop, Sem.run_bind, u1, Result.andThen_ok, hb', Bool.false_eq_true, if_false, Sem.run_pure, u2]
              have hss : StS d2 { s with df := df, hp := h'.set h0.nx .dead } := ⟨TmS_mono X.dom ss.tm, fun y hy => supD_mono q2.dom (sdf y hy), supM_mono X.dom ss.pm⟩
              split at p1
              · cases p1
              · rename_i hb
                have hst3 := hst2.trans (.one (s_endRangeFunc (hend (fun q => hb q))))
                split at p1
                · rename_i hp
                  obtain rfl := Option.some.inj p1
                  rw [hp] at hst3
                  exact ⟨.normal, _, p2 _ (List.mem_singleton.2 rfl), μ2, d2, w3, tm, u5, X3, lt_same q3 rfl, hss, trivial, TmR_agree X.agr ss.tm htm, hst3⟩
                · rename_i j hp
                  rw [hp] at hst3
                  obtain ⟨e', s', y1, y2⟩ := (ihS _ _ p1).1 μ2 d2 w3 b cs tm k u5 (lt_same q3 rfl) hss (hx.mono X.agr X.dom) (TmR_agree X.agr ss.tm htm) hcs
                  exact ⟨e', s', p2 _ y1, Post.after X3 u5.inn hst3 y2⟩
            · cases p1
        · cases h
theorem sound (EO : EnvOK E P) : ∀ (n : Nat) (j : Job) (rs : List Res), ev E n j = some rs → OKJ E P j rs := by
  intro n
  induction n with
  | zero => intro j rs h; cases h
  | succ n ihS =>
    intro j rs h
    simp only [ev] at h
    cases j with
    | call dfd f args pm H => exact call_ok EO ihS h
    | round l args H => exact round_ok EO ihS h
    | leave x rl mode s => exact leave_ok EO ihS h
    | scope x body cur s => exact scopeJob_ok ihS h
    | code x c s =>
      cases c with
      | rangeFunc f params assign body => exact ⟨rangeFunc_ok EO ihS h, fun c' e => by cases e⟩
      | skip =>
        simp only [evBody, Option.some.injEq] at h
        subst h
        exact ⟨here_ok (by simp) fun _ _ _ _ _ _ _ => .one s_skip, fun c' e => by cases e⟩
      | label lb =>
        simp only [evBody, Option.some.injEq] at h
        subst h
        exact ⟨here_ok (by simp) fun _ _ _ _ _ _ _ => .one s_label, fun c' e => by cases e⟩
      | seq a c => exact ⟨seq_ok ihS h, fun c' e => by cases e⟩
      | block id c => exact ⟨block_ok ihS h, fun c' e => by cases e⟩
      | loop c =>
        have k := loop_body ihS h
        exact ⟨k.after fun _ _ _ _ _ _ => .one s_loop, fun c' e => by cases e; exact k.after fun _ _ _ _ _ _ => .one s_inLoop⟩
      | scope c =>
        simp only [evBody] at h
        exact ⟨CodeOK.after (t2 := fun k => .code c :: .inScope c :: k) (ihS _ _ h) fun _ _ _ _ _ _ => .one s_scope, fun c' e => by cases e⟩
      | exit id =>
        simp only [evBody, Option.some.injEq] at h
        subst h
        exact ⟨here_ok (by simp) fun _ k _ _ _ _ _ => ⟨k, rfl, .refl _ _⟩, fun c' e => by cases e⟩
      | goto id =>
        simp only [evBody, Option.some.injEq] at h
        subst h
        exact ⟨here_ok (by simp) fun _ k _ _ _ _ _ => ⟨k, rfl, .refl _ _⟩, fun c' e => by cases e⟩
      | ret =>
        simp only [evBody, Option.some.injEq] at h
        subst h
        exact ⟨here_ok (by simp) fun _ k _ _ _ _ _ => ⟨k, .refl _ _⟩, fun c' e => by cases e⟩
      | refuse why => cases h
      | cond c a b =>
        refine ⟨?_, fun c' e => by cases e⟩
        simp only [evBody] at h
        intro μ d w fr cs tm k R lt ss hx htm hcs
        split at h
        · rename_i hc
          have kc := opR_bat R (b := fr) (df := s.df.map (renD μ)) (todo := .code (.cond c a b) :: k) htm ss.tm c _ hc
          obtain ⟨e, s', q1, q2⟩ := (ihS _ _ h).1 μ d w fr cs tm k R lt ss hx htm hcs
          exact ⟨e, s', q1, Post.after (.refl _ _ _ _) R.inn (.one (s_cond (t := true) (by rw [kc.1]; rfl))) q2⟩
        · rename_i hc
          have kc := opR_bat R (b := fr) (df := s.df.map (renD μ)) (todo := .code (.cond c a b) :: k) htm ss.tm c _ hc
          obtain ⟨e, s', q1, q2⟩ := (ihS _ _ h).1 μ d w fr cs tm k R lt ss hx htm hcs
          exact ⟨e, s', q1, Post.after (.refl _ _ _ _) R.inn (.one (s_cond (t := false) (by rw [kc.1]; rfl))) q2⟩
        · cases h
      | region id ops draw =>
        refine ⟨?_, fun c' e => by cases e⟩
        simp only [evBody] at h
        split at h
        · have k := runOps_ok EO ihS (x := x) (all := ops) ops.toList 0 s rs rfl h
          refine k.after fun _ _ _ _ _ _ => .one ?_
          rw [s_region, List.range_eq_range']
          simp
        · unfold oneR at h
          split at h
          · rename_i r hr
            obtain rfl := Option.some.inj h
            exact drawW_ok EO ihS hr
          · cases h
end frames
end Go.Xe
