import Derived.Test.YtnapjngeohncaaaGreatDoorXab
set_option linter.unusedSimpArgs false
set_option linter.unusedVariables false
namespace Go.Xe
section steps
variable {P : Program} {b : Frame} {tm : Array Value} {df : List Deferred} {k : List Item} {cs : List Frame} {w w1 w2 : World}
theorem s_beginRound {l : Nat} (hr : b.roundOf = some l) (h : (Instr.beginRound l).run P w = .ok () w1) : step P (lone (bat b tm df (.beginRound :: k)) cs w) = .next (lone (bat b tm df k) cs w1) :=
  step_lone_go (by simp [stepG, stepG.exec, stepG.apply, bat, hr, h, Frame.finish])
theorem s_roundEnd {c : Frame} {l : Nat} {v : Value} {jump : Option Code} {todo : List Item} (hr : b.roundOf = some l) (hk : b.kind = .normal) (h : (Instr.endRound l jump).run P w = .ok v w1)
    (ht : (jump = none ∧ todo = []) ∨ (∃ k, jump = some .ret ∧ todo = .code .ret :: k) ∨ (∃ i k, jump = some (.exit i) ∧ todo = .code (.exit i) :: k ∧ exitTo i k = none) ∨ (∃ i k, jump = some (.goto i) ∧ todo = .code (.goto i) :: k ∧ gotoIn i k = none)) :
    step P (lone (bat b tm df todo) (c :: cs) w) = .next (lone (c.finish v) cs w1) := by
  rcases ht with ⟨rfl, rfl⟩ | ⟨k, rfl, rfl⟩ | ⟨i, k, rfl, rfl, he⟩ | ⟨i, k, rfl, rfl, he⟩
  · exact step_lone_go (by simp [stepG, stepG.exec, doReturn, bat, hr, hk, h])
  · exact step_lone_go (by simp [stepG, stepG.exec, doReturn, bat, hr, hk, h])
  · exact step_lone_go (by simp [stepG, stepG.exec, doReturn, bat, hr, hk, h, he])
  · exact step_lone_go (by simp [stepG, stepG.exec, doReturn, bat, hr, hk, h, he])
theorem s_rangeFunc {f : Operand} {params : Array Tmp} {assign body : Code} {l : Nat} {mark : List Deferred} {g : FuncId} {args : Array Value}
    (h1 : (Instr.enterLoop b.fn tm params assign body b.roundOf).run P w = .ok (l, mark) w1)
    (h2 : (do let d ← resolve (bat b tm (mark ++ df) (.inRangeFunc l :: k)).eval { callee := .value f, args := #[.const (.func (.yield l) #[] #[])], argTypes := #[] } 0; invoke d.target d.args : Sem Next).run P w1 = .ok (.enter g args) w2) :
    step P (lone (bat b tm df (.code (.rangeFunc f params assign body) :: k)) cs w) = .next (lone (Frame.enter P g args .normal) (bat b tm (mark ++ df) (.inRangeFunc l :: k) :: cs) w2) :=
  step_lone_go (by
    have h2' := h2
    simp only [bat] at h1 h2'
    simp only [stepG, stepG.exec, bat, Sem.runT_eq, h1, GStep.bare_after, stepG.apply, if_true, h2', GStep.bare_go])
theorem s_endRangeFunc {l : Nat} {jump : Option Code} (h : (Instr.endLoop l).run P w = .ok jump w1) :
    step P (lone (bat b tm df (.endRangeFunc l :: k)) cs w) = .next (lone (bat b tm df ((jump.map Item.code).toList ++ k)) cs w1) :=
  step_lone_go (by simp [stepG, stepG.exec, bat, h])
theorem finish_range {l : Nat} {v : Value} : (bat b tm df (.inRangeFunc l :: k)).finish v = bat b tm df (.endRangeFunc l :: k) := rfl
end steps
section frames
variable {E : Env} {P : Program} {μ : Mu} {d : Nat → Prop} {H : Hp} {w : World}
theorem setParams_ok {sz : Nat} : ∀ {ps : List Tmp} {as : List AV} {tab tab' : Tr AV} {arr : Array Value}, setParams ps as sz tab = some tab' → TmR μ tab sz arr → TmS d tab → supL d as →
    ps.length = as.length ∧ TmR μ tab' sz ((ps.zip (renL μ as)).foldl (fun tmps (x : Tmp × Value) => tmps.setIfInBounds x.1 x.2) arr) ∧ TmS d tab'
  | [], [], tab, tab', arr, h, ht, hs, ha => by
    obtain rfl := Option.some.inj h
    exact ⟨rfl, by simpa [renL] using ht, hs⟩
  | [], _ :: _, _, _, _, h, _, _, _ => by simp [setParams] at h
  | _ :: _, [], _, _, _, h, _, _, _ => by simp [setParams] at h
  | p :: ps, a :: as, tab, tab', arr, h, ht, hs, ha => by
    simp only [setParams] at h
    split at h
    · rename_i hlt
      have hlt' : p < sz := by simpa [Nat.blt_eq] using hlt
      have hset : ∀ t, tget (tab.set p a) t = if t = p then a else tget tab t := by
        intro t
        simp only [tget, Tr.get_set]
        by_cases e : t = p <;> simp [e]
      have h1 : TmR μ (tab.set p a) sz (arr.setIfInBounds p (ren μ a)) := by
        refine ⟨by simp [ht.1], fun t => ?_⟩
        have := putA_get arr (some p) (ren μ a) t
        simp only [putA] at this
        rw [this, hset, ht.1]
        by_cases e : t = p
        · subst e; simp [hlt']
        · have : ¬ (some p = some t ∧ t < sz) := fun q => e (Option.some.inj q.1).symm
          rw [if_neg this, if_neg e]
          exact ht.2 t
      have h2 : TmS d (tab.set p a) := by
        intro t
        rw [hset]
        split
        · exact ha.1
        · exact hs t
      obtain ⟨q1, q2, q3⟩ := setParams_ok h h1 h2 ha.2
      exact ⟨by simp [q1], by simpa [renL] using q2, q3⟩
    · cases h
theorem getLoop_ok (R : Rel E μ d H w) {l : Nat} {r : ALoop} (hl : d l) (hg : H.get l = some (.loop r)) : ∃ arr, TmR μ r.tm r.sz arr ∧
    w.heap[(μ.at_ l).blk]? = some (.loop { state := r.state, pending := r.pending, fn := r.fn, tmps := arr, params := r.params.toArray, assign := r.assign, body := r.body, defers := (μ.at_ r.defers).blk }) ∧
    (Instr.getLoop (μ.at_ l).blk).run P w = .ok { state := r.state, pending := r.pending, fn := r.fn, tmps := arr, params := r.params.toArray, assign := r.assign, body := r.body, defers := (μ.at_ r.defers).blk } w ∧
    TmS d r.tm ∧ d r.defers := by
  obtain ⟨o', h1, h2⟩ := R.ob l _ hl hg
  have hs := R.sp l _ hl hg
  simp only [ObjR] at h2
  simp only [supO] at hs
  obtain ⟨arr, h3, rfl⟩ := h2
  exact ⟨arr, h3, h1, by simp [Instr.getLoop, getObj, Sem.run, h1], hs.1, hs.2⟩
theorem setLoop_ok (R : Rel E μ d H w) {l : Nat} {r : ALoop} (hl : d l) (hg : H.get l = some (.loop r)) {st : LoopState} {pd : Option Code} :
    ∃ arr, (Instr.getLoop (μ.at_ l).blk).run P w = .ok { state := r.state, pending := r.pending, fn := r.fn, tmps := arr, params := r.params.toArray, assign := r.assign, body := r.body, defers := (μ.at_ r.defers).blk } w ∧
      ∃ w', (setObj (μ.at_ l).blk (.loop { state := st, pending := pd, fn := r.fn, tmps := arr, params := r.params.toArray, assign := r.assign, body := r.body, defers := (μ.at_ r.defers).blk })).run P w = .ok () w' ∧
      Rel E μ d (H.set l (.loop { r with state := st, pending := pd })) w' ∧ Ext μ d H w μ d (H.set l (.loop { r with state := st, pending := pd })) w' ∧
      Rel E μ d (H.set l .dead) w' ∧ Ext μ d H w μ d (H.set l .dead) w' := by
  obtain ⟨arr, h3, h1, h4, hs1, hs2⟩ := getLoop_ok (P := P) R hl hg
  have s1 := set_ok R hl hg rfl (ob' := .loop { r with state := st, pending := pd })
    (O' := .loop { state := st, pending := pd, fn := r.fn, tmps := arr, params := r.params.toArray, assign := r.assign, body := r.body, defers := (μ.at_ r.defers).blk }) ⟨arr, h3, rfl⟩ ⟨hs1, hs2⟩
    (fun c t fz hh => by rw [h1] at hh; cases hh) (fun c t fz hh => by cases hh)
  have s2 := set_ok R hl hg rfl (ob' := .dead)
    (O' := .loop { state := st, pending := pd, fn := r.fn, tmps := arr, params := r.params.toArray, assign := r.assign, body := r.body, defers := (μ.at_ r.defers).blk }) trivial trivial
    (fun c t fz hh => by rw [h1] at hh; cases hh) (fun c t fz hh => by cases hh)
  exact ⟨arr, h4, _, by simp [setObj, Sem.run, h1], s1.1, s1.2, s2.1, s2.2⟩

theorem round_ok (EO : EnvOK E P) {ih : Job → Option (List Res)} (ihS : ∀ j rs, ih j = some rs → OKJ E P j rs) {l : Nat} {args : List AV} {H : Hp} {rs : List Res}
    (h : evBody E ih (.round l args H) = some rs) : OKJ E P (.round l args H) rs := by
  intro μ d w c cs R lt hl hargs
  simp only [evBody] at h
  split at h
  · rename_i r hg
    split at h
    · cases h
    · cases h
    · rename_i tab fn htab hfn
      obtain ⟨arr, ha1, ha2, ha3, ha4, ha5⟩ := getLoop_ok (P := P) R hl hg
      obtain ⟨hlen, hT, hS⟩ := setParams_ok htab ha1 ha4 hargs
      obtain ⟨l1, hl1, hall⟩ := andThen_some h
      have hyield : (Instr.yield (μ.at_ l).blk (renL μ args).toArray).run P w = .ok (.round (μ.at_ l).blk r.fn ((r.params.zip (renL μ args)).foldl (fun tmps (x : Tmp × Value) => tmps.setIfInBounds x.1 x.2) arr) r.assign r.body) w := by
        have hsz : ¬ (renL μ args).toArray.size ≠ r.params.toArray.size := by simp [renL_length, hlen]
        unfold Instr.yield
        rw [Sem.run_bind, ha3, Result.andThen_ok]
        simp only [hsz, if_false]
        simp
      let b : Frame := { fn := r.fn, tmps := #[], todo := [], defers := [], mode := .run, kind := .normal, roundOf := some (μ.at_ l).blk }
      have hround : Frame.round (μ.at_ l).blk r.fn ((r.params.zip (renL μ args)).foldl (fun tmps (x : Tmp × Value) => tmps.setIfInBounds x.1 x.2) arr) r.assign r.body .normal =
          bat b ((r.params.zip (renL μ args)).foldl (fun tmps (x : Tmp × Value) => tmps.setIfInBounds x.1 x.2) arr) [] [.code r.assign, .beginRound, .code r.body] := rfl
      have hctx : ∀ ν : Mu, ∀ e : Nat → Prop, (ν.at_ l).blk = (μ.at_ l).blk → e l → CtxR { fn := r.fn, dfd := false, rnd := some l, res := [] } ν e b :=
        fun ν e h1 h2 => ⟨rfl, rfl, by show some _ = some _ ∧ _; rw [h1]; exact ⟨rfl, h2, rfl⟩⟩
      obtain ⟨e1, s1, m1, μ1, d1, w1, tm1, p1, p2, p3, p4, p5, p6, p7⟩ := (ihS _ _ hl1).1 μ d w b (c :: cs) _ [.beginRound, .code r.body] R lt ⟨hS, (fun _ h => by cases h), trivial⟩ (hctx μ d rfl hl) hT (fun h => by cases h)
      obtain ⟨l', q1, q2⟩ := allR_mem hall _ m1
      cases e1 with
      | normal =>
        simp only at q1
        split at q1
        · rename_i r' hg'
          split at q1
          · rename_i hst
            obtain ⟨l2, hl2, hall2⟩ := andThen_some q1
            have hl' := p2.dom l hl
            obtain ⟨arr', g1, w2, g2, g3, g4, _⟩ := setLoop_ok (P := P) p1 hl' hg' (st := .busy) (pd := r'.pending)
            have hbeg : (Instr.beginRound (μ1.at_ l).blk).run P w1 = .ok () w2 := by
              simp only [Instr.beginRound, Sem.run_bind, g1, Result.andThen_ok, g2, hst, Sem.run_pure]
            have hat : (μ1.at_ l).blk = (μ.at_ l).blk := by rw [p2.agr.1 l hl]
            obtain ⟨e2, s2, m2, μ3, d3, w3, tm3, r1, r2, r3, r4, r5, r6, r7⟩ := (ihS _ _ hl2).1 μ1 d1 w2 b (c :: cs) tm1 [] g3 (lt_same p3 rfl) ⟨p4.tm, p4.df, p4.pm⟩ (hctx μ1 d1 hat hl') p6 (fun h => by cases h)
            obtain ⟨l3, t1, t2⟩ := allR_mem hall2 _ m2
            have X := (p2.trans g4 p1.inn).trans r2 g3.inn
            have st0 : Steps P (lone (Frame.round (μ.at_ l).blk r.fn ((r.params.zip (renL μ args)).foldl (fun tmps (x : Tmp × Value) => tmps.setIfInBounds x.1 x.2) arr) r.assign r.body .normal) (c :: cs) w)
                (lone (bat b tm1 (s1.df.map (renD μ1)) [.code r.body]) (c :: cs) w2) := by
              rw [hround]
              exact Steps.trans p7 (.one (s_beginRound (by rw [hat]) hbeg))
            have hl3 := r2.dom l hl'
            have hat3 : (μ3.at_ l).blk = (μ.at_ l).blk := by rw [X.agr.1 l hl]
            have fin : ∀ (jump : Option Code) (todo : List Item), oneR ((aEndRound l jump s2.hp).map fun (e, h) => .fin e .run h) = some l3 →
                ((jump = none ∧ todo = []) ∨ (∃ k, jump = some .ret ∧ todo = .code .ret :: k) ∨ (∃ i k, jump = some (.exit i) ∧ todo = .code (.exit i) :: k ∧ exitTo i k = none) ∨ (∃ i k, jump = some (.goto i) ∧ todo = .code (.goto i) :: k ∧ gotoIn i k = none)) →
                Steps P (lone (bat b tm1 (s1.df.map (renD μ1)) [.code r.body]) (c :: cs) w2) (lone (bat b tm3 (s2.df.map (renD μ3)) todo) (c :: cs) w3) →
                ∃ e pm h, Res.fin e pm h ∈ rs ∧ ∃ f ts as bd, (Instr.yield (μ.at_ l).blk (renL μ args).toArray).run P w = .ok (.round (μ.at_ l).blk f ts as bd) w ∧
                  ∃ μ' d' w', Rel E μ' d' h w' ∧ Ext μ d H w μ' d' h w' ∧ Lt d' h ∧ supEnd d' e ∧
                    Steps P (lone (Frame.round (μ.at_ l).blk f ts as bd .normal) (c :: cs) w) (endAt c cs μ' w' e) := by
              intro jump todo hj ht hst
              unfold oneR at hj
              split at hj
              · rename_i q hq
                obtain rfl := Option.some.inj hj
                obtain ⟨⟨e, h4⟩, he, rfl⟩ := Option.map_eq_some_iff.1 hq
                unfold aEndRound at he
                split at he
                · rename_i r4 hg4
                  simp only [Option.some.injEq, Prod.mk.injEq] at he
                  obtain ⟨rfl, rfl⟩ := he
                  obtain ⟨arr4, k1, w4, k2, k3, k4, _⟩ := setLoop_ok (P := P) r1 hl3 hg4 (st := if jump.isNone then .ready else .done) (pd := jump)
                  refine ⟨_, _, _, q2 _ (t2 _ (List.mem_singleton.2 rfl)), r.fn, _, r.assign, r.body, hyield, μ3, d3, w4, k3, X.trans k4 r1.inn, lt_same r3 rfl, by simp [supEnd, sup, isSc], ?_⟩
                  refine st0.trans (hst.trans (.one ?_))
                  have hend : (Instr.endRound (μ.at_ l).blk jump).run P w3 = .ok (.bool jump.isNone) w4 := by
                    rw [← hat3]
                    simp only [Instr.endRound, Sem.run_bind, k1, Result.andThen_ok, k2, Sem.run_pure]
                  exact s_roundEnd (b := b) rfl rfl hend ht
                · cases he
              · cases hj
            cases e2 with
            | normal => exact fin none [] t1 (.inl ⟨rfl, rfl⟩) r7
            | exit i =>
              obtain ⟨k', u1, u2⟩ := r7
              exact fin (some (.exit i)) _ t1 (.inr (.inr (.inl ⟨i, k', rfl, rfl, u1⟩))) u2
            | goto i =>
              obtain ⟨k', u1, u2⟩ := r7
              exact fin (some (.goto i)) _ t1 (.inr (.inr (.inr ⟨i, k', rfl, rfl, u1⟩))) u2
            | ret =>
              obtain ⟨k', u2⟩ := r7
              exact fin (some .ret) _ t1 (.inr (.inl ⟨k', rfl, rfl⟩)) u2
            | panic ch =>
              simp only [endR] at t1
              split at t1
              · rename_i hdf
                obtain rfl := Option.some.inj t1
                obtain ⟨todo, u2⟩ := r7
                refine ⟨_, _, _, q2 _ (t2 _ (List.mem_singleton.2 rfl)), r.fn, _, r.assign, r.body, hyield, μ3, d3, w3, r1, X, r3, r5, ?_⟩
                refine st0.trans (Steps.trans u2 (.one ?_))
                rw [hdf]
                exact step_leave_panicked (chain := renPs μ3 ch) ⟨rfl, rfl, fn, EO.ft _ _ hfn⟩
              · cases t1
          · cases q1
        · cases q1
      | _ => cases q1
  · cases h
end frames
end Go.Xe
