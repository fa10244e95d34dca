import Derived.Test.YtnapjngeohncaaaGreatDoorXr
set_option linter.unusedSimpArgs false
set_option linter.unusedVariables false
namespace Go.Xe
section
variable {E : Env} {P : Program} {μ : Mu} {d : Nat → Prop} {H : Hp} {w : World}

theorem findG_ok {g : Nat} : ∀ {l : List Nat} {i k : Nat}, findG g l i = some k → i ≤ k ∧ l.getD (k - i) 0 = g
  | [], _, _, h => by cases h
  | x :: xs, i, k, h => by
    unfold findG at h
    split at h
    · rename_i hb
      obtain rfl := Option.some.inj h
      exact ⟨Nat.le_refl _, by simp [Nat.eq_of_beq_eq_true hb]⟩
    · obtain ⟨h1, h2⟩ := findG_ok h
      refine ⟨by omega, ?_⟩
      obtain ⟨m, hm⟩ : ∃ m, k - i = m + 1 := ⟨k - i - 1, by omega⟩
      have e : k - (i + 1) = m := by omega
      rw [hm]
      rw [e] at h2
      simpa using h2
theorem opR_any (R : Rel E μ d H w) {tab : Tr AV} {ρ : Operand → Value} (ht : ∀ t, ρ (.tmp t) = ren μ (tget tab t) ∧ sup d (tget tab t))
    (hc : ∀ v, ρ (.const v) = v) (hg : ∀ g, ρ (.global g) = .pointer (some ⟨g, 0, none⟩)) (hf : ∀ f, ρ (.func f) = .func (.func f) #[] #[]) : OpR E μ d tab ρ := by
  intro x v h
  cases x with
  | tmp t =>
    simp only [opv, Option.some.injEq] at h
    subst h
    exact ht t
  | const c =>
    have k := ofV_ok h
    exact ⟨by rw [hc, k.1], k.2 d⟩
  | global g =>
    simp only [opv] at h
    split at h
    · rename_i j hj
      split at h
      · rename_i hlt
        obtain rfl := Option.some.inj h
        have k := R.glob j (by simpa [Nat.blt_eq] using hlt)
        have e := (findG_ok hj).2
        rw [Nat.sub_zero] at e
        exact ⟨by rw [hg]; simp only [ren, k.2, Env.glAt, e, Nat.add_zero, Nat.zero_add], by simpa [sup] using k.1⟩
      · cases h
    · cases h
  | func f =>
    simp only [opv, Option.some.injEq] at h
    subst h
    exact ⟨by rw [hf]; simp [ren, renL], by simp [sup, supL]⟩
theorem opR_bat (R : Rel E μ d H w) {tab : Tr AV} {sz : Nat} {b : Frame} {tm : Array Value} {df : List Deferred} {todo : List Item} (ht : TmR μ tab sz tm) (hs : TmS d tab) :
    OpR E μ d tab (bat b tm df todo).eval :=
  opR_any R (fun t => ⟨ht.2 t, hs t⟩) (fun _ => rfl) (fun _ => rfl) (fun _ => rfl)

theorem put_df (s : St) (dst : Option Tmp) (v : AV) : (s.put dst v).df = s.df := by
  unfold St.put; cases dst with
  | none => rfl
  | some c => simp only; cases Nat.blt c s.sz <;> rfl
theorem put_pm (s : St) (dst : Option Tmp) (v : AV) : (s.put dst v).pm = s.pm := by
  unfold St.put; cases dst with
  | none => rfl
  | some c => simp only; cases Nat.blt c s.sz <;> rfl
theorem put_hp (s : St) (dst : Option Tmp) (v : AV) : (s.put dst v).hp = s.hp := by
  unfold St.put; cases dst with
  | none => rfl
  | some c => simp only; cases Nat.blt c s.sz <;> rfl
theorem put_sz (s : St) (dst : Option Tmp) (v : AV) : (s.put dst v).sz = s.sz := by
  unfold St.put; cases dst with
  | none => rfl
  | some c => simp only; cases Nat.blt c s.sz <;> rfl
theorem put_get (s : St) (dst : Option Tmp) (v : AV) (t : Tmp) : tget (s.put dst v).tm t = if dst = some t ∧ t < s.sz then v else tget s.tm t := by
  unfold St.put
  cases dst with
  | none => simp
  | some c =>
    simp only
    cases h : Nat.blt c s.sz with
    | true =>
      simp only [tget, Tr.get_set]
      have h' : c < s.sz := by simpa [Nat.blt_eq] using h
      by_cases e : t = c
      · subst e; simp [h']
      · have : ¬ c = t := fun q => e q.symm
        simp [e, this]
    | false =>
      have h' : ¬ c < s.sz := fun q => by rw [show Nat.blt c s.sz = true by simpa [Nat.blt_eq] using q] at h; cases h
      by_cases e : c = t
      · subst e; simp [h', tget]
      · simp [e]
theorem putA_size (tm : Array Value) (dst : Option Tmp) (v : Value) : (putA tm dst v).size = tm.size := by
  cases dst <;> simp [putA]
theorem putA_get (tm : Array Value) (dst : Option Tmp) (v : Value) (t : Tmp) : (putA tm dst v).getD t undef = if dst = some t ∧ t < tm.size then v else tm.getD t undef := by
  cases dst with
  | none => simp [putA]
  | some c =>
    simp only [putA]
    by_cases e : c = t
    · subst e
      by_cases h : c < tm.size
      · simp [h, Array.getD]
      · simp [h, Array.getD]
    · have h2 : (tm.setIfInBounds c v)[t]? = tm[t]? := Array.getElem?_setIfInBounds_ne e
      simp [e, h2]
theorem TmR_put {s : St} {tm : Array Value} (h : TmR μ s.tm s.sz tm) (dst : Option Tmp) (v : AV) : TmR μ (s.put dst v).tm (s.put dst v).sz (putA tm dst (ren μ v)) := by
  refine ⟨by rw [putA_size, put_sz, h.1], fun t => ?_⟩
  rw [putA_get, put_get, h.1]
  split
  · rfl
  · exact h.2 t
theorem TmS_put {s : St} (h : TmS d s.tm) (dst : Option Tmp) {v : AV} (hv : sup d v) : TmS d (s.put dst v).tm := by
  intro t
  rw [put_get]
  split
  · exact hv
  · exact h t
theorem ren_undef (μ : Mu) : ren μ .undef = undef := by simp [AV.undef, ren, renL, undef]
theorem sup_undef (d : Nat → Prop) : sup d .undef := by simp [AV.undef, sup, supL]

theorem yielded_ok {all : Array Oper} {tab : Tr AV} {tm : Array Value} {o : Oper} (h : ∀ g wnt p c, o.guard = some (g, wnt) → all[g]? = some p → p.dst = some c → tm.getD c undef = ren μ (tget tab c)) :
    Region.wanted o (yielded all tm) = wanted all.toList tab o := by
  unfold Region.wanted wanted
  cases hg : o.guard with
  | none => rfl
  | some gw =>
    obtain ⟨g, wnt⟩ := gw
    simp only
    have hl : all.toList[g]? = all[g]? := by simp
    rw [hl]
    cases hp : all[g]? with
    | none => simp [yielded, hp]
    | some p =>
      simp only
      cases hc : p.dst with
      | none => simp [yielded, hp, hc]
      | some c =>
        simp only
        have k := h g wnt p c hg hp hc
        have e : yielded all tm g = match ren μ (tget tab c) with | .bool b => some b | _ => none := by
          rw [← k]
          simp only [yielded, hp, hc, Option.bind_some]
          rw [Array.getD_eq_getD_getElem?]
          cases hq : tm[c]? with
          | none => simp [undef]
          | some q => simp only [Option.getD_some]; cases q <;> rfl
        rw [e]
        cases hv : tget tab c with
        | v x =>
          simp only [ren]
          cases x <;> simp
        | _ => simp [ren]
theorem Post.after {x : Ctx} {b : Frame} {k : List Item} {cs : List Frame} {m m1 : Machine} {μ1 : Mu} {d1 : Nat → Prop} {H1 : Hp} {w1 : World} {e : AExit} {s : St}
    (X : Ext μ d H w μ1 d1 H1 w1) (inn : ∀ b, d1 b → (μ1.at_ b).blk < w1.heap.size) (st : Steps P m m1) (p : Post E P x b k cs m1 μ1 d1 H1 w1 e s) : Post E P x b k cs m μ d H w e s := by
  obtain ⟨μ', d', w', tm, h1, h2, h3, h4, h5, h6, h7⟩ := p
  refine ⟨μ', d', w', tm, h1, X.trans h2 inn, h3, h4, h5, h6, ?_⟩
  cases e with
  | normal => exact st.trans h7
  | exit id => obtain ⟨k', q1, q2⟩ := h7; exact ⟨k', q1, st.trans q2⟩
  | goto id => obtain ⟨k', q1, q2⟩ := h7; exact ⟨k', q1, st.trans q2⟩
  | ret => obtain ⟨k', q2⟩ := h7; exact ⟨k', st.trans q2⟩
  | panic ch => obtain ⟨k', q2⟩ := h7; exact ⟨k', st.trans q2⟩
theorem Post.here {x : Ctx} {b : Frame} {k : List Item} {cs : List Frame} {m : Machine} {e : AExit} {s : St} {tm : Array Value}
    (R : Rel E μ d s.hp w) (lt : Lt d s.hp) (ss : StS d s) (se : supX d e) (ht : TmX x μ e s tm) (ha : Arr P m b k e (csAt x.dfd cs (renM μ s.pm)) tm (s.df.map (renD μ)) μ w) :
    Post E P x b k cs m μ d s.hp w e s :=
  ⟨μ, d, w, tm, R, .refl _ _ _ _, lt, ss, se, ht, ha⟩
theorem StS.put {s : St} (h : StS d s) (dst : Option Tmp) {v : AV} (hv : sup d v) : StS d (s.put dst v) :=
  ⟨TmS_put h.tm dst hv, by rw [put_df]; exact h.df, by rw [put_pm]; exact h.pm⟩

theorem runOps_ok (EO : EnvOK E P) {ih : Job → Option (List Res)} (ihS : ∀ j rs, ih j = some rs → OKJ E P j rs) {x : Ctx} {all : Array Oper} :
    ∀ (os : List Oper) (i : Nat) (s : St) (rs : List Res), all.toList.drop i = os → runOps E ih x all.toList os s = some rs →
      CodeOK E P x s rs (fun k => .inRegion all (List.range' i os.length) :: k) := by
  intro os
  induction os with
  | nil =>
    intro i s rs hd h μ d w b cs tm k R lt ss hx ht hcs
    simp only [runOps, Option.some.injEq] at h
    subst h
    exact ⟨.normal, s, List.mem_singleton.2 rfl, .here R lt ss trivial ht (.one s_region_end)⟩
  | cons o os ih' =>
    intro i s rs hd h μ d w b cs tm k R lt ss hx ht hcs
    have ho : all[i]? = some o := by
      have := List.getElem?_drop (xs := all.toList) (i := i) (j := 0)
      rw [hd] at this
      simpa using this.symm
    have hd' : all.toList.drop (i + 1) = os := by
      rw [← List.drop_drop, hd]; rfl
    have hw : Region.wanted o (yielded all tm) = wanted all.toList s.tm o := yielded_ok fun g wnt p c _ _ _ => ht.2 c
    simp only [runOps] at h
    simp only [List.length_cons, List.range'_succ]
    split at h
    · rename_i hwt
      obtain ⟨l, hl, hall⟩ := andThen_some h
      obtain ⟨c, r, hm, hf⟩ := fire_ok EO ihS hl (b := b) (tm := tm) (k := k) (ops := all) (i := i) (rest := List.range' (i + 1) os.length)
        (opR_bat R (b := b) (df := s.df.map (renD μ)) (todo := .inRegion all (i :: List.range' (i + 1) os.length) :: k) ht ss.tm) rfl R lt ss.df ss.pm hx hcs ho (by rw [hw]; exact hwt)
      obtain ⟨l', h1, h2⟩ := allR_mem hall _ hm
      cases r with
      | val v df pm hp =>
        simp only at h1
        obtain ⟨μ', d', w', R', X, lt', sv, sdf, spm, st⟩ := hf
        have ss' : StS d' (s.fired o.dst v df pm hp) := StS.put (s := { s with df := df, pm := pm, hp := hp }) ⟨TmS_mono X.dom ss.tm, sdf, spm⟩ _ sv
        have R1 : Rel E μ' d' (s.fired o.dst v df pm hp).hp w' := by rw [St.fired, put_hp]; exact R'
        have lt1 : Lt d' (s.fired o.dst v df pm hp).hp := by rw [St.fired, put_hp]; exact lt'
        obtain ⟨e, s', q1, q2⟩ := ih' (i + 1) _ _ hd' h1 μ' d' w' b cs (putA tm o.dst (ren μ' v)) k R1 lt1 ss' (hx.mono X.agr X.dom)
          (TmR_put (s := { s with df := df, pm := pm, hp := hp }) (TmR_agree X.agr ss.tm ht) _ _) hcs
        refine ⟨e, s', h2 _ q1, Post.after (H1 := (s.fired o.dst v df pm hp).hp) (by rw [St.fired, put_hp]; exact X) R'.inn st ?_⟩
        have e1 : (s.fired o.dst v df pm hp).df = df := by rw [St.fired, put_df]
        have e2 : (s.fired o.dst v df pm hp).pm = pm := by rw [St.fired, put_pm]
        rw [e1, e2] at q2
        exact q2
      | fell ch pm hp =>
        simp only [Option.some.injEq] at h1
        subst h1
        obtain ⟨μ', d', w', R', X, lt', sch, spm, st⟩ := hf
        refine ⟨.panic ch, _, h2 _ (List.mem_singleton.2 rfl), μ', d', w', tm, R', X, lt', ⟨TmS_mono X.dom ss.tm, fun y hy => supD_mono X.dom (ss.df y hy), spm⟩, sch, ?_, .inRegion all (i :: List.range' (i + 1) os.length) :: k, ?_⟩
        · intro t _
          exact (TmR_agree X.agr ss.tm ht).2 t
        · rw [renDs_agree X.agr ss.df]
          exact st
    · rename_i hwf
      have hst := s_op_skip (P := P) (b := b) (tm := tm) (df := s.df.map (renD μ)) (k := k) (cs := csAt x.dfd cs (renM μ s.pm)) (w := w) (ops := all) (i := i) (rest := List.range' (i + 1) os.length)
        (by simp [ho, hw, hwf])
      obtain ⟨e, s', q1, q2⟩ := ih' (i + 1) _ _ hd' h μ d w b cs (putA tm o.dst (ren μ .undef)) k (by rw [put_hp]; exact R) (by rw [put_hp]; exact lt) (ss.put _ (sup_undef _)) hx (TmR_put ht _ _) hcs
      rw [put_hp, put_df, put_pm] at q2
      refine ⟨e, s', q1, Post.after (.refl _ _ _ _) R.inn (.one ?_) q2⟩
      rw [hst, ho, ren_undef]
      rfl
end
end Go.Xe
