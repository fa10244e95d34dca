import Derived.Test.YtnapjngeohncaaaGreatDoorXx
set_option linter.unusedSimpArgs false
set_option linter.unusedVariables false
namespace Go.Xe
theorem pure_nodefer {E : Env} {tm : Tr AV} {o : Oper} {v : AV} (h : aPure E tm o = some v) : ∀ c, o.op ≠ .defer c := by
  intro c hc
  simp [aPure, hc] at h
theorem read_nodefer {E : Env} {tm : Tr AV} {o : Oper} {v : AV} {h : Hp} (h : aRead E tm o h = some v) : ∀ c, o.op ≠ .defer c := by
  intro c hc
  simp [aRead, hc] at h
theorem alloc_nodefer {E : Env} {tm : Tr AV} {o : Oper} {v : AObj × (Nat → AV)} (h : aAllocF E tm o = some v) : ∀ c, o.op ≠ .defer c := by
  intro c hc
  simp [aAllocF, aAlloc, hc] at h
def unl (a : Array Bool) : Nat → Nat
  | 0 => 0
  | n + 1 => (if a.getD n true then 0 else 1) + unl a n
theorem unl_le (a : Array Bool) : ∀ n, unl a n ≤ n
  | 0 => Nat.le_refl _
  | n + 1 => by have := unl_le a n; unfold unl; split <;> omega
theorem unl_zero {a : Array Bool} : ∀ {n : Nat}, unl a n = 0 → ∀ i, i < n → a.getD i true = true
  | 0, _, i, hi => by omega
  | n + 1, h, i, hi => by
    unfold unl at h
    by_cases e : i = n
    · subst e
      by_cases q : a.getD i true = true
      · exact q
      · rw [if_neg q] at h; omega
    · exact unl_zero (n := n) (by omega) i (by omega)
theorem unl_set {a : Array Bool} {i : Nat} (hs : i < a.size) (hf : a.getD i true = false) : ∀ n, unl (a.setIfInBounds i true) n + (if i < n then 1 else 0) = unl a n
  | 0 => by simp [unl]
  | n + 1 => by
    have ih := unl_set hs hf n
    unfold unl
    by_cases e : i = n
    · subst e
      have h1 : (a.setIfInBounds i true).getD i true = true := by simp [Array.getD, hs]
      rw [h1, hf]
      simp at ih ⊢
      omega
    · have h1 : (a.setIfInBounds i true).getD n true = a.getD n true := getD_set_ne true e
      rw [h1]
      by_cases q : i < n
      · have q2 : i < n + 1 := by omega
        rw [if_pos q] at ih
        rw [if_pos q2]
        omega
      · have q2 : ¬ i < n + 1 := by omega
        rw [if_neg q] at ih
        rw [if_neg q2]
        omega
theorem getD_both {a : Array Bool} {i : Nat} (h : i < a.size) (p q : Bool) : a.getD i p = a.getD i q := by
  simp [Array.getD, h]
def Lof (a : Array Bool) : Nat → Prop := fun i => a.getD i false = true
theorem Lof_set {a : Array Bool} {i : Nat} (h : i < a.size) : Lof (a.setIfInBounds i true) = fun j => Lof a j ∨ j = i := by
  funext j
  apply propext
  unfold Lof
  by_cases e : j = i
  · subst e
    simp [Array.getD, h]
  · rw [getD_set_ne false (fun q => e q.symm)]
    simp [e]

section inv
variable {E : Env} {P : Program} {ih : Job → Option (List Res)} {x : Ctx} {all : Array Oper} {ms : List Nat} {tm0 : Tr AV} {W : Walk} {S : Nat → St} {kd : Nat → Knd}
  {μ0 : Mu} {d0 : Nat → Prop} {w0 : World} {L : Nat → Prop} {l : Nat} {μ : Mu} {d : Nat → Prop} {V : Hp} {w : World} {tm : Array Value}

theorem Inv.step (EO : EnvOK E P) (ihS : ∀ j rs, ih j = some rs → OKJ E P j rs) (D : Dr E ih x all ms tm0 W S kd) (I : Inv E all ms W S kd μ0 d0 w0 L l μ d V w tm) {i : Nat} {o : Oper} {m : Nat}
    (ho : all[i]? = some o) (hm : ms[i]? = some m) (hi : ¬ L i) (hr : ∀ j, bit m j = true → L j) {b : Frame} {cs : List Frame} {k : List Item} {rest : List Nat} (hx : CtxR x μ0 d0 b) (hcs : x.dfd = true → cs ≠ [])
    (ht0 : TmS d0 tm0) (hS0 : (S 0).tm = tm0) (hdst : W.fall ≠ none → ∀ d ∈ dsts all.toList, d ∉ x.res) :
    (∃ e s', W.last = .out e s' ∧ Post E P x b k cs (lone (bat b tm ((S l).df.map (renD μ)) (.inRegion all (i :: rest) :: k)) (csAt x.dfd cs (renM μ (S l).pm)) w) μ0 d0 (S 0).hp w0 e s') ∨
    ∃ l' μ' d' V' w' tm', Inv E all ms W S kd μ0 d0 w0 (fun j => L j ∨ j = i) l' μ' d' V' w' tm' ∧
      Steps P (lone (bat b tm ((S l).df.map (renD μ)) (.inRegion all (i :: rest) :: k)) (csAt x.dfd cs (renM μ (S l).pm)) w)
        (lone (bat b tm' ((S l').df.map (renD μ')) (.inRegion all rest :: k)) (csAt x.dfd cs (renM μ' (S l').pm)) w') := by
  have hil : i < all.size := (Array.getElem?_eq_some_iff.1 ho).1
  have f := D.fact i o m ho hm
  have hwt := I.wanted D ho hm hi hr
  cases hk : kd i with
  | skip =>
    rw [hk] at f
    obtain ⟨hw, hS⟩ := f
    refine .inr ⟨l, μ, d, V, w, putA tm o.dst (ren μ .undef), I.value D ho hm hi hr (by rw [hk]; simp) (sup_undef d) hS, .one ?_⟩
    rw [s_op_skip (by simp [ho, hwt, hw]), ho, ren_undef]
    rfl
  | pure v =>
    rw [hk] at f
    obtain ⟨hw, hS, rt, hrt, hv⟩ := f
    obtain ⟨hev, hs1, hs2⟩ := I.oper D ho hm hi hr hrt b ((S l).df.map (renD μ)) (.inRegion all (i :: rest) :: k)
    have q := pure_sound EO (opR_rho I.rel hs1 b tm ((S l).df.map (renD μ)) (.inRegion all (i :: rest) :: k)) I.rel.sym hv w
    exact .inr ⟨l, μ, d, V, w, putA tm o.dst (ren μ v), I.value D ho hm hi hr (by rw [hk]; simp) q.2 hS, .one (s_value ho (by rw [hwt]; exact hw) (.inr (pure_nodefer hv)) (by rw [hev]; exact q.1))⟩
  | read rt v =>
    rw [hk] at f
    obtain ⟨hw, hS, hrt, hv⟩ := f
    obtain ⟨hev, hs1, hs2⟩ := I.oper D ho hm hi hr hrt b ((S l).df.map (renD μ)) (.inRegion all (i :: rest) :: k)
    have hst := D.steady _ hv
    have hlev : (l, (S l).hp) ∈ (0, (S 0).hp) :: W.levs := by
      rcases I.lev with rfl | h
      · exact List.mem_cons_self ..
      · exact List.mem_cons_of_mem _ h
    have h1 := List.all_eq_true.1 hst _ hlev
    rw [Bool.or_eq_true] at h1
    have h2 : readsAs E rt o v (S l).hp = true := by
      refine h1.resolve_left fun q => ?_
      obtain ⟨e, he, hc⟩ := List.any_eq_true.1 q
      rw [Bool.or_eq_true, Bool.and_eq_true, Bool.and_eq_true] at hc
      rcases hc with ⟨c1, c2⟩ | ⟨c1, c2⟩
      · have hL := (I.levL e he).1 (by simpa [Nat.blt_eq] using c1)
        exact hi (I.down _ _ _ hL (D.ok.effm e he) c2)
      · have := (I.levL e he).2 (hr _ c2)
        have := Nat.le_of_ble_eq_true c1
        simp only at this
        omega
    unfold readsAs at h2
    split at h2
    · rename_i v' hlow hrd
      obtain rfl := sameAV_ok h2
      obtain ⟨RB, _⟩ := I.ahead D I.ln (Nat.le_refl l) (fun k a b => by omega)
      have hsB : ∀ t, sup (fun c => d c ∧ c < (S l).hp.nx) (tget rt t) := by
        intro t
        by_cases q : Operand.tmp t ∈ o.op.operands
        · exact low_and _ (hs1 t) (lowOps_ok hlow (Array.mem_toList_iff.2 q))
        · rw [(restr_ok hrt).2.2 t q]; exact sup_undef _
      have q := read_sound EO (opR_rho RB hsB b tm ((S l).df.map (renD μ)) (.inRegion all (i :: rest) :: k)) RB hrd
      exact .inr ⟨l, μ, d, V, w, putA tm o.dst (ren μ v), I.value D ho hm hi hr (by rw [hk]; simp) (sup_mono (fun _ h => h.1) _ q.2) hS,
        .one (s_value ho (by rw [hwt]; exact hw) (.inr (read_nodefer hrd)) (by rw [hev]; exact q.1))⟩
    · cases h2
  | alloc ob g =>
    rw [hk] at f
    obtain ⟨hw, hS, rt, hrt, hv⟩ := f
    obtain ⟨O, h1, ag, V', I'⟩ := I.alloc EO D ho hm hi hr hk b ((S l).df.map (renD μ)) (.inRegion all (i :: rest) :: k)
    refine .inr ⟨l, _, _, V', _, _, I', ?_⟩
    rw [renDs_agree ag (fun y hy => supD_mono (fun _ h => h.1) (I.df y hy)), renM_agree ag (supM_mono (fun _ h => h.1) I.pm)]
    exact .one (s_value ho (by rw [hwt]; exact hw) (.inr (alloc_nodefer hv)) h1)
  | eff =>
    obtain ⟨μ', d', V', w', v, I', st⟩ := I.eff EO ihS D ho hm hi hr hk hx hcs
    exact .inr ⟨i + 1, μ', d', V', w', _, I', st⟩
  | gone =>
    rw [hk] at f
    obtain ⟨_, f, hf, hb⟩ := f
    exact absurd (hr f hb) (I.nofall f hf)
  | fell =>
    have hfl := f
    rw [hk] at hfl
    exact .inl (I.fell EO ihS D ho hm hi hr hk hx hcs ht0 hS0 (hdst (by rw [hfl.2.2.1]; simp)))
theorem Inv.done (D : Dr E ih x all ms tm0 W S kd) (I : Inv E all ms W S kd μ0 d0 w0 L l μ d V w tm) (hL : ∀ i, i < all.size → L i) {b : Frame} {cs : List Frame} {k : List Item} :
    ∃ e s', W.last = .out e s' ∧ Post E P x b k cs (lone (bat b tm ((S l).df.map (renD μ)) (.inRegion all [] :: k)) (csAt x.dfd cs (renM μ (S l).pm)) w) μ0 d0 (S 0).hp w0 e s' := by
  have hfall : W.fall = none := by
    cases h : W.fall with
    | none => rfl
    | some f => exact absurd (hL f (D.ok.fall f h).2.1) (I.nofall f h)
  have hne : ∀ k, l ≤ k → k < all.size → kd k ≠ .eff := by
    intro k a c he
    obtain ⟨mk, _, hmk⟩ := D.eff_mem c he
    have := (I.levL _ hmk).2 (hL k c)
    simp only at this
    omega
  obtain ⟨RF, hlow, hdf, hpm, hnxt⟩ := I.ahead D (Nat.le_refl _) I.ln hne
  have hlt : ∀ b, d b → b < (S all.size).hp.nx := by
    intro b hb
    rcases Nat.lt_or_ge b (S l).hp.nx with q | q
    · exact Nat.lt_of_lt_of_le q (D.nx I.ln (Nat.le_refl _))
    · obtain ⟨j, ob, g, h1, h2, h3, h4, h5⟩ := I.pend b hb q
      have := (D.made (I.dn j h1) h3).1
      have := D.nx (i := j + 1) (j := all.size) (I.dn j h1) (Nat.le_refl _)
      omega
  have hd : ∀ b, d b → d b ∧ b < (S all.size).hp.nx := fun b hb => ⟨hb, hlt b hb⟩
  have key : ∀ t, tm.getD t undef = ren μ (tget (S all.size).tm t) ∧ sup d (tget (S all.size).tm t) := by
    intro t
    obtain ⟨q, q0, q1, q2, q3, q4⟩ := I.tms t
    have : tget (S all.size).tm t = tget (S q).tm t := D.tab q0 (Nat.le_refl _) fun k p a c hp hpt => by
      have := q3 k p (hL k c) hp hpt
      omega
    rw [this]
    exact ⟨q1, q2⟩
  refine ⟨_, _, D.ok.last hfall, μ, _, w, tm, RF, I.ext.cut (fun c hc _ => hlow c (by have := D.nx (Nat.zero_le l) I.ln; omega)) (D.nx (Nat.zero_le _) (Nat.le_refl _)) I.lt0, fun _ h => h.2,
    ⟨fun t => sup_mono hd _ (key t).2, ?_, ?_⟩, trivial, ⟨by rw [I.tsz, D.sz (Nat.le_refl _)], fun t => (key t).1⟩, ?_⟩
  · rw [hdf]; exact fun y hy => supD_mono (fun c hc => hd c hc.1) (I.df y hy)
  · rw [hpm]; exact supM_mono (fun c hc => hd c hc.1) I.pm
  · rw [hdf, hpm]
    exact .one s_region_end
theorem drawn_run (EO : EnvOK E P) (ihS : ∀ j rs, ih j = some rs → OKJ E P j rs) (D : Dr E ih x all ms tm0 W S kd) {b : Frame} {cs : List Frame} {k : List Item} (hx : CtxR x μ0 d0 b) (hcs : x.dfd = true → cs ≠ [])
    (ht0 : TmS d0 tm0) (hS0 : (S 0).tm = tm0) (hdst : W.fall ≠ none → ∀ d ∈ dsts all.toList, d ∉ x.res) :
    ∀ (fuel t : Nat) (a : Array Bool) (l : Nat) (μ : Mu) (d : Nat → Prop) (V : Hp) (w : World) (tm : Array Value), a.size = all.size → unl a all.size ≤ fuel → Inv E all ms W S kd μ0 d0 w0 (Lof a) l μ d V w tm →
      ∃ e s', W.last = .out e s' ∧ Post E P x b k cs (lone (bat b tm ((S l).df.map (renD μ)) (.inRegion all (Region.linearise.go .any all fuel t a []) :: k)) (csAt x.dfd cs (renM μ (S l).pm)) w) μ0 d0 (S 0).hp w0 e s' := by
  intro fuel
  induction fuel with
  | zero =>
    intro t a l μ d V w tm hs hu I
    simp only [Region.linearise.go, List.reverse_nil]
    refine I.done D fun i hi => ?_
    show a.getD i false = true
    rw [getD_both (by omega) false true]
    exact unl_zero (Nat.le_zero.1 hu) i hi
  | succ fuel ih' =>
    intro t a l μ d V w tm hs hu I
    simp only [Region.linearise.go]
    change ∃ e s', W.last = .out e s' ∧ Post E P x b k cs (lone (bat b tm ((S l).df.map (renD μ)) (.inRegion all (match (Region.ready .any all a)[t % (Region.ready .any all a).length]? with
      | some i => Region.linearise.go .any all fuel (t / (Region.ready .any all a).length) (a.setIfInBounds i true) [i]
      | none => [].reverse) :: k)) (csAt x.dfd cs (renM μ (S l).pm)) w) μ0 d0 (S 0).hp w0 e s'
    cases hi : (Region.ready .any all a)[t % (Region.ready .any all a).length]? with
    | none =>
      have hnil : Region.ready .any all a = [] := by
        cases hr : Region.ready .any all a with
        | nil => rfl
        | cons y ys =>
          rw [hr] at hi
          have hlt : t % (y :: ys).length < (y :: ys).length := Nat.mod_lt _ (by simp)
          simp at hi
          simp at hlt
          omega
      simp only [List.reverse_nil]
      refine I.done D fun i => ?_
      induction i using Nat.strongRecOn with
      | ind i ihi =>
        intro hil
        show a.getD i false = true
        cases hq : a.getD i true with
        | true => rw [getD_both (by omega) false true]; exact hq
        | false =>
          have : i ∈ Region.ready .any all a := by
            rw [mem_ready]
            refine ⟨hq, all[i], Array.getElem?_eq_getElem hil, fun e he hb => ?_⟩
            have hlt := D.plan.back i all[i] (by simp [hil]) e he hb
            exact ihi e.on hlt (by omega)
          rw [hnil] at this
          cases this
    | some i =>
      simp only []
      rw [linearise_go_acc, List.reverse_singleton, List.singleton_append]
      have hmem := List.mem_of_getElem? hi
      rw [mem_ready] at hmem
      obtain ⟨hq, o, ho, hafter⟩ := hmem
      have hil : i < all.size := (Array.getElem?_eq_some_iff.1 ho).1
      have hml : i < ms.length := by rw [D.plan.len]; simpa using hil
      have hnL : ¬ Lof a i := by
        show ¬ a.getD i false = true
        rw [getD_both (by omega) false true, hq]
        simp
      have hr : ∀ j, bit ms[i] j = true → Lof a j := by
        intro j hj
        obtain ⟨e, he, hb, h⟩ := D.plan.pre i o ms[i] j (by simpa using ho) (List.getElem?_eq_getElem hml) hj
        have hon := hafter e he hb
        rcases h with rfl | ⟨y, hy, hyj⟩
        · exact hon
        · exact I.down _ _ _ hon hy hyj
      rcases I.step EO ihS D ho (List.getElem?_eq_getElem hml) hnL hr hx hcs ht0 hS0 hdst (rest := Region.linearise.go .any all fuel (t / (Region.ready .any all a).length) (a.setIfInBounds i true) []) with h | ⟨l', μ', d', V', w', tm', I', st⟩
      · exact h
      · rw [← Lof_set (by omega)] at I'
        have hus := unl_set (a := a) (i := i) (by omega) hq all.size
        rw [if_pos hil] at hus
        obtain ⟨e, s', h1, h2⟩ := ih' (t / (Region.ready .any all a).length) (a.setIfInBounds i true) l' μ' d' V' w' tm' (by simpa using hs) (by omega) I'
        refine ⟨e, s', h1, ?_⟩
        obtain ⟨μ2, d2, w2, tm2, p1, p2, p3, p4, p5, p6, p7⟩ := h2
        refine ⟨μ2, d2, w2, tm2, p1, p2, p3, p4, p5, p6, ?_⟩
        cases e with
        | normal => exact st.trans p7
        | exit id => obtain ⟨k', q1, q2⟩ := p7; exact ⟨k', q1, st.trans q2⟩
        | goto id => obtain ⟨k', q1, q2⟩ := p7; exact ⟨k', q1, st.trans q2⟩
        | ret => obtain ⟨k', q2⟩ := p7; exact ⟨k', st.trans q2⟩
        | panic ch => obtain ⟨k', q2⟩ := p7; exact ⟨k', st.trans q2⟩
end inv
end Go.Xe
