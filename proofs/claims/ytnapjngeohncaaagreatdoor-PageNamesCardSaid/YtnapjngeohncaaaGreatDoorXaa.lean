import Derived.Test.YtnapjngeohncaaaGreatDoorXz
import Derived.Defers
set_option linter.unusedSimpArgs false
set_option linter.unusedVariables false
namespace Go.Xe
theorem tmOf_get (t : Nat) : ∀ (l : List AV) (i : Nat) (tab : Tr AV), (tmOf l i tab).get t = if i ≤ t ∧ t < i + l.length then l[t - i]? else tab.get t
  | [], i, tab => by
    have : ¬ (i ≤ t ∧ t < i + ([] : List AV).length) := by simp
    rw [if_neg this]; rfl
  | a :: as, i, tab => by
    rw [tmOf, tmOf_get t as, Tr.get_set]
    by_cases h1 : i + 1 ≤ t ∧ t < i + 1 + as.length
    · have h2 : i ≤ t ∧ t < i + (a :: as).length := by simp; omega
      rw [if_pos h1, if_pos h2]
      obtain ⟨m, hm⟩ : ∃ m, t - i = m + 1 := ⟨t - i - 1, by omega⟩
      have : t - (i + 1) = m := by omega
      simp [this, hm]
    · rw [if_neg h1]
      by_cases h3 : t = i
      · subst h3; simp
      · have h2 : ¬ (i ≤ t ∧ t < i + (a :: as).length) := by simp; omega
        rw [if_neg h3, if_neg h2]
section frames
variable {E : Env} {P : Program} {μ : Mu} {d : Nat → Prop} {H : Hp} {w : World}
theorem enter_tm (args : List AV) (n : Nat) (hs : supL d args) : TmR μ (tmOf args 0 .e) (Nat.max args.length n) ((renL μ args).toArray ++ Array.replicate (n - (renL μ args).toArray.size) undef) ∧ TmS d (tmOf args 0 .e) := by
  have hg : ∀ t : Nat, tget (tmOf args 0 .e) t = (args[t]?).getD .undef := by
    intro t
    unfold tget
    rw [tmOf_get]
    by_cases h : t < args.length
    · have : 0 ≤ t ∧ t < 0 + args.length := by omega
      rw [if_pos this]
      simp [h]
    · have : ¬ (0 ≤ t ∧ t < 0 + args.length) := by omega
      rw [if_neg this]
      have h2 : args[t]? = none := List.getElem?_eq_none (by omega)
      rw [h2]
      simp [Tr.get]
  refine ⟨⟨?_, fun (t : Nat) => ?_⟩, fun (t : Nat) => ?_⟩
  · simp only [Array.size_append, List.size_toArray, Array.size_replicate, renL_length]
    show args.length + (n - args.length) = max args.length n
    omega
  · rw [hg]
    by_cases h : t < args.length
    · have h1 : ((renL μ args).toArray ++ Array.replicate (n - (renL μ args).toArray.size) undef)[t]? = (args[t]?).map (ren μ) := by
        rw [Array.getElem?_append_left (by simpa [renL_length] using h)]
        simp [renL_get]
      rw [Array.getD_eq_getD_getElem?, h1]
      simp [h]
    · have h2 : args[t]? = none := List.getElem?_eq_none (by omega)
      rw [h2]
      simp only [Option.getD_none, ren_undef]
      rw [Array.getD_eq_getD_getElem?, Array.getElem?_append_right (by simpa [renL_length] using h), Array.getElem?_replicate]
      split <;> rfl
  · rw [hg]
    by_cases h : t < args.length
    · have : args[t]? = some args[t] := List.getElem?_eq_getElem h
      rw [this]
      exact supL_get hs this
    · have h2 : args[t]? = none := List.getElem?_eq_none (by omega)
      rw [h2]
      exact sup_undef d
def resG (tm : Array Value) : ResultVar → Sem Value
  | .tmp t => pure (tm.getD t undef)
  | .cell a t => do loadVar t (← asAddr (tm.getD a undef))
theorem resG_tmp (tm : Array Value) (t : Tmp) : (resG tm (.tmp t)).run P w = .ok (tm.getD t undef) w := rfl
theorem resG_cell {tm : Array Value} {a : Tmp} {t : TypeId} {p : Addr} (h : tm.getD a undef = .pointer (some p)) : (resG tm (.cell a t)).run P w = (loadVar t p).run P w := by
  show (do loadVar t (← asAddr (tm.getD a undef)) : Sem Value).run P w = _
  rw [h]
  rfl
theorem aResults_ok (EO : EnvOK E P) (R : Rel E μ d H w) {tab : Tr AV} {tm : Array Value} (hs : TmS d tab) : ∀ {rl : List ResultVar} {l : List AV}, aResults E tab H rl = some l → (∀ t ∈ resTmps rl, tm.getD t undef = ren μ (tget tab t)) →
    (rl.mapM (resG tm)).run P w = .ok (renL μ l) w ∧ supL d l
  | [], l, h, ht => by
    simp only [aResults, Option.some.injEq] at h
    subst h
    simp [renL, supL]
  | .tmp t :: rs, l, h, ht => by
    simp only [aResults] at h
    obtain ⟨l', h1, rfl⟩ := Option.map_eq_some_iff.1 h
    have k := aResults_ok EO R hs h1 (fun t' h' => ht t' (List.mem_cons_of_mem _ h'))
    refine ⟨?_, ⟨hs t, k.2⟩⟩
    rw [List.mapM_cons, Sem.run_bind, resG_tmp, Result.andThen_ok, Sem.run_bind, k.1, Result.andThen_ok, Sem.run_pure, renL, ht t (List.mem_cons_self ..)]
  | .cell a t :: rs, l, h, ht => by
    simp only [aResults] at h
    split at h
    · rename_i b off hb
      split at h
      · rename_i v l' hv h1
        obtain rfl := Option.some.inj h
        have k := aResults_ok EO R hs h1 (fun t' h' => ht t' (List.mem_cons_of_mem _ h'))
        have hsb := hs a
        rw [hb] at hsb
        simp only [sup] at hsb
        have kl := load_ok EO R hsb hv
        refine ⟨?_, ⟨kl.2, k.2⟩⟩
        have e := ht a (List.mem_cons_self ..)
        rw [hb] at e
        simp only [ren] at e
        rw [List.mapM_cons, Sem.run_bind, resG_cell e, kl.1, Result.andThen_ok, Sem.run_bind, k.1, Result.andThen_ok, Sem.run_pure, renL]
      · cases h
    · cases h
theorem results_eq (fn : Func) (tm : Array Value) : results fn tm = (do
    let vs ← fn.results.mapM (resG tm)
    pure (if h : vs.size = 1 then vs[0] else .tuple vs)) := by
  unfold results
  congr 1
theorem results_ok (EO : EnvOK E P) (R : Rel E μ d H w) {tab : Tr AV} {tm : Array Value} (hs : TmS d tab) {fn : Func} {l : List AV} (h : aResults E tab H fn.results.toList = some l)
    (ht : ∀ t ∈ resTmps fn.results.toList, tm.getD t undef = ren μ (tget tab t)) : (results fn tm).run P w = .ok (ren μ (oneOf l)) w ∧ sup d (oneOf l) := by
  have k := aResults_ok EO R hs h ht
  refine ⟨?_, ?_⟩
  · rw [results_eq, Array.mapM_eq_mapM_toList]
    simp only [map_eq_pure_bind, bind_assoc, pure_bind, Sem.run_bind]
    rw [k.1]
    simp only [Result.andThen_ok, Sem.run_pure]
    congr 1
    match l with
    | [] => simp [renL, oneOf, ren]
    | [a] => simp [renL, oneOf]
    | a :: b :: l => simp [renL, oneOf, ren]
  · match l, k.2 with
    | [], _ => simp [oneOf, sup, supL]
    | [a], h => simpa [oneOf, supL] using h
    | a :: b :: l, h => simpa [oneOf, sup] using h
theorem settleA_ok (μ : Mu) (m : AMode) : settle (renM μ m) = renM μ (settleA m) := by
  cases m with
  | panicking l =>
    cases l with
    | nil => rfl
    | cons p ps =>
      obtain ⟨v, r⟩ := p
      cases r with
      | false => rfl
      | true =>
        have h : ∀ ps : List APan, List.dropWhile (fun q => !q.goexit) (renPs μ ps) = [] := by
          intro ps
          induction ps with
          | nil => rfl
          | cons q qs ih => simpa [renPs, renP, List.dropWhile] using ih
        simp only [renM, settleA, settle, renPs, List.map_cons, renP]
        have := h ps
        simp only [renPs] at this
        rw [this]
  | _ => rfl
theorem raisedA_ok (μ : Mu) (m : AMode) (ch : List APan) : raised (renM μ m) (renPs μ ch) = renM μ (raisedA m ch) := by
  cases m <;> simp [renM, raised, raisedA, renPs]
theorem settleA_sup {m : AMode} (h : supM d m) : supM d (settleA m) := by
  unfold settleA
  split
  · trivial
  · exact h
theorem raisedA_sup {m : AMode} {ch : List APan} (h : supM d m) (hc : supPs d ch) : supM d (raisedA m ch) := by
  unfold raisedA
  split
  · intro p hp
    rcases List.mem_append.1 hp with hp | hp
    · exact hc p hp
    · exact h p hp
  · exact hc
theorem going_of_fini {fr : Frame} {v : AV} (h : Fini P fr w μ (.ret v)) : fr.going P w (.returned (ren μ v)) := ⟨h.1, h.2.1, h.2.2⟩
theorem going_of_fini' {fr : Frame} {ch : List APan} (h : Fini P fr w μ (.panic ch)) : fr.going P w (.panicked (renPs μ ch)) := ⟨h.1, h.2.1, h.2.2⟩
theorem s_collected {fr : Frame} {cs : List Frame} {block : Nat} {as : Array Value} {ds l : List Deferred} {w' : World} (hm : fr.mode ≠ .run) (hd : fr.defers = ⟨.collected block, as⟩ :: ds)
    (h : (Instr.takeDeferred block).run P w = .ok l w') : step P (lone fr cs w) = .next (lone { fr with defers := l ++ ds } cs w') := by
  refine step_lone_go ?_
  cases hmode : fr.mode with
  | run => exact absurd hmode hm
  | _ => simp [stepG, unwind, hmode, hd, h]
theorem EndOK.after {rs : List Res} {μ1 : Mu} {d1 : Nat → Prop} {H1 : Hp} {w1 : World} {m m1 : Machine} {dfd : Bool} {cs : List Frame} {f : FuncId}
    (X : Ext μ d H w μ1 d1 H1 w1) (inn : ∀ b, d1 b → (μ1.at_ b).blk < w1.heap.size) (st : Steps P m m1) (h : EndOK E P rs μ1 d1 H1 w1 m1 dfd cs f) : EndOK E P rs μ d H w m dfd cs f := by
  obtain ⟨e, pm, h', q0, μ', d', w', fr, q1, q2, q3, q4, q5, q6, q7⟩ := h
  exact ⟨e, pm, h', q0, μ', d', w', fr, q1, X.trans q2 inn, q3, q4, q5, st.trans q6, q7⟩
theorem EndOK.sub {rs rs' : List Res} {m : Machine} {dfd : Bool} {cs : List Frame} {f : FuncId} (hs : ∀ r ∈ rs, r ∈ rs') (h : EndOK E P rs μ d H w m dfd cs f) : EndOK E P rs' μ d H w m dfd cs f := by
  obtain ⟨e, pm, h', q0, q⟩ := h
  exact ⟨e, pm, h', hs _ q0, q⟩

theorem leave_ok (EO : EnvOK E P) {ih : Job → Option (List Res)} (ihS : ∀ j rs, ih j = some rs → OKJ E P j rs) {x : Ctx} {rl : List ResultVar} {mode : AMode} {s : St} {rs : List Res}
    (h : evBody E ih (.leave x rl mode s) = some rs) : OKJ E P (.leave x rl mode s) rs := by
  intro μ d w b cs tm todo fn R lt ss sm hfn hkind hround hP hrl htm hcs
  simp only [evBody] at h
  split at h
  · cases h
  · rename_i hrun
    have hm : ∀ ν, renM ν mode ≠ .run := by
      intro ν
      cases mode <;> simp [isRun, renM] at hrun ⊢
    cases hdf : s.df with
    | nil =>
      rw [hdf] at h
      simp only at h
      split at h
      · -- returning
        unfold oneR at h
        split at h
        · rename_i r hr
          obtain rfl := Option.some.inj h
          obtain ⟨l, hl, rfl⟩ := Option.map_eq_some_iff.1 hr
          subst hrl
          have k := results_ok EO R ss.tm hl htm
          exact ⟨_, _, _, List.mem_singleton.2 rfl, μ, d, w, _, R, .refl _ _ _ _, lt, k.2, ss.pm, .refl _ _, ⟨rfl, rfl, fn, by rw [← hP]; exact congrArg _ hfn, k.1⟩, hkind, hfn⟩
        · cases h
      · -- panicking
        obtain rfl := Option.some.inj h
        exact ⟨_, _, _, List.mem_singleton.2 rfl, μ, d, w, _, R, .refl _ _ _ _, lt, sm, ss.pm, .refl _ _, ⟨rfl, rfl, fn, by rw [← hP]; exact congrArg _ hfn⟩, hkind, hfn⟩
      · cases h
    | cons y ds =>
      rw [hdf] at h
      simp only at h
      have hy : supD d y := ss.df y (hdf ▸ List.mem_cons_self ..)
      have hds : ∀ z ∈ ds, supD d z := fun z hz => ss.df z (hdf ▸ List.mem_cons_of_mem _ hz)
      split at h
      · -- collected
        rename_i r htg
        split at h
        · rename_i l hg
          have hdr : d r := by
            have := hy.1
            rw [htg] at this
            exact this
          obtain ⟨o', h1, h2⟩ := R.ob r _ hdr hg
          have hsl := R.sp r _ hdr hg
          simp only [ObjR, Option.map_some] at h2
          simp only [supO] at hsl
          subst h2
          have st := set_ok R hdr hg rfl (ob' := .defs none) (O' := .deferred none) rfl (by simp [supO]) (fun c t fz hh => by rw [h1] at hh; cases hh) (fun c t fz hh => by cases hh)
          have htake : (Instr.takeDeferred (μ.at_ r).blk).run P w = .ok (l.map (renD μ)) { w with heap := w.heap.setIfInBounds (μ.at_ r).blk (.deferred none) } := by
            simp [Instr.takeDeferred, getObj, setObj, Sem.run, h1]
          have ihh := ihS _ _ h μ d _ b cs tm todo fn st.1 (lt_same lt rfl) ⟨ss.tm, fun z hz => by
            rcases List.mem_append.1 hz with hz | hz
            · exact hsl l rfl z hz
            · exact hds z hz, ss.pm⟩ sm hfn hkind hround hP hrl htm hcs
          refine EndOK.after st.2 st.1.inn (.one ?_) ihh
          obtain ⟨tg, as⟩ := y
          simp only at htg
          subst htg
          rw [s_collected (block := (μ.at_ r).blk) (as := (renL μ as).toArray) (ds := ds.map (renD μ)) (hm μ) (by rfl) htake]
          simp only [List.map_append]
          rfl
        · cases h
      · -- a call
        rename_i hnc
        split at h
        · rename_i f args hgo
          obtain ⟨l, hl, hall⟩ := andThen_some h
          have kg := goes_ok (μ := μ) (w := w) EO hgo hy
          obtain ⟨N, k1, k2⟩ := kg
          obtain ⟨rfl, k3⟩ := k2
          have htar : ∃ fv cap, (renD μ y).target = .fn fv cap := by
            unfold goes at hgo
            split at hgo
            · rename_i f' cap' ht; exact ⟨_, _, by simp only [renD, ht, renT]; rfl⟩
            · rename_i l' ht; cases hgo
            · cases hgo
          obtain ⟨fv, cap, htar⟩ := htar
          obtain ⟨e, pm, h', hm', μ1, d1, w1, fr, q1, q2, q3, q4, q5, q6, q7, q8, q9⟩ := ihS _ _ hl μ d w ({ bat b tm (ds.map (renD μ)) todo with mode := renM μ mode } :: csAt x.dfd cs (renM μ s.pm)) R lt k3 sm (fun _ => by simp)
          obtain ⟨l', p1, p2⟩ := allR_mem hall _ hm'
          have hst : Steps P (lone { bat b tm ((y :: ds).map (renD μ)) todo with mode := renM μ mode } (csAt x.dfd cs (renM μ s.pm)) w)
              (lone fr ({ bat b tm (ds.map (renD μ)) todo with mode := renM μ1 pm } :: csAt x.dfd cs (renM μ s.pm)) w1) :=
            .head (step_defer (fr := { bat b tm ((y :: ds).map (renD μ)) todo with mode := renM μ mode }) (d := renD μ y) (ds := ds.map (renD μ)) (hm μ) rfl htar k1) q6
          have hss : StS d1 { s with df := ds, hp := h' } := ⟨TmS_mono q2.dom ss.tm, fun z hz => supD_mono q2.dom (hds z hz), supM_mono q2.dom ss.pm⟩
          have htm1 : ∀ t ∈ resTmps rl, tm.getD t undef = ren μ1 (tget s.tm t) := fun t ht => by rw [htm t ht, ren_agree q2.agr _ (ss.tm t)]
          cases e with
          | ret v =>
            simp only at p1
            have ihh := ihS _ _ p1 μ1 d1 w1 b cs tm todo fn q1 q3 hss (settleA_sup q5) hfn hkind hround hP hrl htm1 hcs
            refine EndOK.after q2 q1.inn (hst.trans (.one ?_)) (ihh.sub p2)
            rw [step_going_returned q8 (going_of_fini q7)]
            rw [← settleA_ok, ← renDs_agree q2.agr hds, csAt_agree q2.agr ss.pm]
          | panic ch =>
            simp only at p1
            have ihh := ihS _ _ p1 μ1 d1 w1 b cs tm todo fn q1 q3 hss (raisedA_sup q5 q4) hfn hkind hround hP hrl htm1 hcs
            refine EndOK.after q2 q1.inn (hst.trans (.one ?_)) (ihh.sub p2)
            rw [step_going_panicked (going_of_fini' q7)]
            rw [← raisedA_ok, ← renDs_agree q2.agr hds, csAt_agree q2.agr ss.pm]
        · cases h
end frames
end Go.Xe
