import Derived.Test.YtnapjngeohncaaaGreatDoorXy
set_option linter.unusedSimpArgs false
set_option linter.unusedVariables false
namespace Go.Xe
theorem inTurn_ok : ∀ {l : List (Nat × Nat)}, inTurn l = true → l.Pairwise (fun a b => a.1 < b.1) → ∀ e ∈ l, ∀ e' ∈ l, e.1 < e'.1 → bit e'.2 e.1 = true
  | [], _, _, e, he => by cases he
  | (a, b) :: r, h, hp, e, he => by
    intro e' he' hlt
    unfold inTurn at h
    rw [Bool.and_eq_true] at h
    rw [List.pairwise_cons] at hp
    rcases List.mem_cons.1 he with rfl | he <;> rcases List.mem_cons.1 he' with rfl | he'
    · omega
    · exact List.all_eq_true.1 h.1 e' he'
    · have := hp.1 e he; simp only at this; simp only at hlt; omega
    · exact inTurn_ok h.2 hp.2 e he e' he' hlt
section code
variable {E : Env} {P : Program}
theorem glob_le {μ : Mu} {d : Nat → Prop} {H : Hp} {w : World} (R : Rel E μ d H w) (lt : Lt d H) : E.ng ≤ H.nx := by
  rcases Nat.eq_zero_or_pos E.ng with h | h
  · omega
  · have := lt _ (R.glob (E.ng - 1) (by omega)).1
    omega
theorem Lof_none {n i : Nat} : ¬ Lof (Array.replicate n false) i := by
  unfold Lof
  by_cases h : i < n <;> simp [Array.getD, h]
theorem drawW_ok (EO : EnvOK E P) {ih : Job → Option (List Res)} (ihS : ∀ j rs, ih j = some rs → OKJ E P j rs) {x : Ctx} {id : Nat} {all : Array Oper} {s : St} {r : Res} (h : drawW E ih x all.toList s = some r) :
    CodeOK E P x s [r] (fun k => .code (.region id all true) :: k) := by
  unfold drawW at h
  split at h
  · rename_i hc
    rw [Bool.and_eq_true] at hc
    split at h
    · rename_i W hW
      split at h
      · rename_i hck
        simp only [Bool.and_eq_true] at hck
        obtain ⟨⟨ht, hst⟩, hd⟩ := hck
        obtain rfl := Option.some.inj h
        intro μ d w b cs tm k R lt ss hx htm hcs
        obtain ⟨S, kd, hS0, T, ok⟩ := walkW_ok (E := E) (ih := ih) (x := x) (all := all.toList) (ms := befsOf all.toList []) (tm0 := s.tm) all.toList (befsOf all.toList []) 0 s.hp s W rfl rfl (Nat.zero_le _) hW
        have D : Dr E ih x all (befsOf all.toList []) s.tm W S kd := by
          refine ⟨plan_ok hc.1, fun i o m ho hm => T.fact i o m (Nat.zero_le _) (by simpa using ho) hm, by simpa using ok, fun e he e' he' => inTurn_ok ht ok.asc e he e' he', fun r hr => ?_, fun i o t ho hdt => ?_⟩
          · rw [hS0]; exact List.all_eq_true.1 hst r hr
          · have hm : o ∈ all.toList := by
              have : all.toList[i]? = some o := by simpa using ho
              exact List.mem_of_getElem? this
            have := List.all_eq_true.1 hc.2 t (dsts_mem hdt hm)
            rw [hS0]
            simpa [Nat.blt_eq] using this
        have dr := drawn_ok R (w.drawn + 1)
        have I : Inv E all (befsOf all.toList []) W S kd μ d { w with drawn := w.drawn + 1 } (Lof (Array.replicate all.size false)) 0 μ d s.hp { w with drawn := w.drawn + 1 } tm := by
          refine ⟨dr.1, fun i hi => absurd hi Lof_none, fun i m j hi => absurd hi Lof_none, fun f _ => Lof_none, Nat.zero_le _, .inl rfl, fun e he => ⟨fun h => absurd h (Nat.not_lt_zero _), fun h => absurd h Lof_none⟩, fun b _ => by rw [hS0],
            by rw [hS0]; exact R.nxt, by rw [hS0]; exact Nat.le_refl _, ?_, ?_, ?_, ?_, by rw [hS0]; exact .refl _ _ _ _, ?_, by rw [hS0]; exact htm.1, ?_, ?_, by rw [hS0]; exact glob_le R lt, by rw [hS0]; exact lt⟩
          · intro b hb hn; rw [hS0] at hn; have := lt b hb; omega
          · intro c hb hn; rw [hS0] at hn; have := lt c hb; omega
          · intro b o hb hg
            rw [hS0]
            exact supO_mono (fun c hc => by have := lt c hc; omega) (R.sp b o hb hg)
          · intro i ob g hi _ _
            refine ⟨fun q => ?_, fun q => absurd q (Nat.not_lt_zero _)⟩
            have h1 := lt _ q
            have h2 := D.nx (Nat.zero_le i) (Nat.le_of_lt hi)
            rw [hS0] at h2
            omega
          · intro t
            exact ⟨0, Nat.zero_le _, by rw [hS0]; exact htm.2 t, by rw [hS0]; exact ss.tm t, fun i o hi => absurd hi Lof_none, .inl rfl⟩
          · rw [hS0]; exact fun y hy => supD_mono (fun c hc => ⟨hc, lt c hc⟩) (ss.df y hy)
          · rw [hS0]; exact supM_mono (fun c hc => ⟨hc, lt c hc⟩) ss.pm
        have hdst : W.fall ≠ none → ∀ d ∈ dsts all.toList, d ∉ x.res := by
          intro hf
          cases hq : W.fall with
          | none => exact absurd hq hf
          | some f =>
            rw [hq] at hd
            intro t ht hr
            have := List.all_eq_true.1 hd t ht
            rw [memN_iff.2 hr] at this
            cases this
        obtain ⟨e, s', h1, h2⟩ := drawn_run EO ihS D hx hcs ss.tm (by rw [hS0]) hdst (b := b) (cs := cs) (k := k) all.size (w.tape w.drawn (.order b.fn id)) (Array.replicate all.size false) 0 μ d s.hp { w with drawn := w.drawn + 1 } tm
          (by simp) (unl_le _ _) I
        rw [hS0] at h2
        refine ⟨e, s', by rw [h1]; exact List.mem_singleton.2 rfl, Post.after dr.2 dr.1.inn (.one ?_) h2⟩
        rw [s_region_draw]
        simp only [Region.schedule, EO.mixed, Bool.true_or, if_true]
        rfl
      · cases h
    · cases h
  · cases h
theorem Post.skip {x : Ctx} {b : Frame} {k k' : List Item} {cs : List Frame} {m : Machine} {μ : Mu} {d : Nat → Prop} {H : Hp} {w : World} {e : AExit} {s : St} (p : Post E P x b k' cs m μ d H w e s)
    (hn : e ≠ .normal) (he : ∀ id, e = .exit id → exitTo id k' = exitTo id k) (hg : ∀ l, e = .goto l → gotoIn l k' = gotoIn l k) : Post E P x b k cs m μ d H w e s := by
  obtain ⟨μ', d', w', tm, h1, h2, h3, h4, h5, h6, h7⟩ := p
  refine ⟨μ', d', w', tm, h1, h2, h3, h4, h5, h6, ?_⟩
  cases e with
  | normal => exact absurd rfl hn
  | exit id => obtain ⟨k2, q1, q2⟩ := h7; exact ⟨k2, q1.trans (he id rfl), q2⟩
  | goto l => obtain ⟨k2, q1, q2⟩ := h7; exact ⟨k2, q1.trans (hg l rfl), q2⟩
  | ret => exact h7
  | panic ch => exact h7
/-- behind one part comes the next -/
theorem Post.bind {x : Ctx} {b : Frame} {k k' : List Item} {cs : List Frame} {m : Machine} {μ : Mu} {d : Nat → Prop} {H : Hp} {w : World} {s : St} {rs : List Res} {todo : List Item → List Item}
    (p : Post E P x b k' cs m μ d H w .normal s) (hx : CtxR x μ d b) (hcs : x.dfd = true → cs ≠ []) (hk : ∀ tm df cs' w', Steps P (lone (bat b tm df k') cs' w') (lone (bat b tm df (todo k)) cs' w')) (h : CodeOK E P x s rs todo) :
    ∃ e s', .out e s' ∈ rs ∧ Post E P x b k cs m μ d H w e s' := by
  obtain ⟨μ', d', w', tm, h1, h2, h3, h4, h5, h6, h7⟩ := p
  obtain ⟨e, s', q1, q2⟩ := h μ' d' w' b cs tm k h1 h3 h4 (hx.mono h2.agr h2.dom) h6 hcs
  exact ⟨e, s', q1, Post.after h2 h1.inn (h7.trans (hk _ _ _ _)) q2⟩
/-- ... or it ends there -/
theorem Post.stop {x : Ctx} {b : Frame} {k k' : List Item} {cs : List Frame} {m : Machine} {μ : Mu} {d : Nat → Prop} {H : Hp} {w : World} {s : St}
    (p : Post E P x b k' cs m μ d H w .normal s) (hk : ∀ tm df cs' w', Steps P (lone (bat b tm df k') cs' w') (lone (bat b tm df k) cs' w')) : Post E P x b k cs m μ d H w .normal s := by
  obtain ⟨μ', d', w', tm, h1, h2, h3, h4, h5, h6, h7⟩ := p
  exact ⟨μ', d', w', tm, h1, h2, h3, h4, h5, h6, Steps.trans h7 (hk _ _ _ _)⟩

theorem seq_ok {ih : Job → Option (List Res)} (ihS : ∀ j rs, ih j = some rs → OKJ E P j rs) {x : Ctx} {a c : Code} {s : St} {rs : List Res}
    (h : andThen (ih (.code x a s)) (fun r => match r with
      | .out .normal s => ih (.code x c s)
      | r => some [r]) = some rs) : CodeOK E P x s rs (fun k => .code (.seq a c) :: k) := by
  intro μ d w b cs tm k R lt ss hx htm hcs
  obtain ⟨l, hl, hall⟩ := andThen_some h
  obtain ⟨e, s1, h1, h2⟩ := (ihS _ _ hl).1 μ d w b cs tm (.code c :: k) R lt ss hx htm hcs
  obtain ⟨l', q1, q2⟩ := allR_mem hall _ h1
  have h2' := Post.after (.refl μ d s.hp w) R.inn (.one s_seq) h2
  cases e with
  | normal =>
    obtain ⟨e', s', p1, p2⟩ := Post.bind h2' hx hcs (fun _ _ _ _ => .refl _ _) (ihS _ _ q1).1
    exact ⟨e', s', q2 _ p1, p2⟩
  | _ =>
    obtain rfl := Option.some.inj q1
    exact ⟨_, _, q2 _ (List.mem_singleton.2 rfl), h2'.skip (by simp) (fun _ _ => rfl) (fun _ _ => rfl)⟩
theorem block_ok {ih : Job → Option (List Res)} (ihS : ∀ j rs, ih j = some rs → OKJ E P j rs) {x : Ctx} {id : Nat} {c : Code} {s : St} {rs : List Res}
    (h : andThen (ih (.code x c s)) (fun r => match r with
      | .out (.exit i) s => match Nat.beq i id with
        | true => some [.out .normal s]
        | false => some [.out (.exit i) s]
      | r => some [r]) = some rs) : CodeOK E P x s rs (fun k => .code (.block id c) :: k) := by
  intro μ d w b cs tm k R lt ss hx htm hcs
  obtain ⟨l, hl, hall⟩ := andThen_some h
  obtain ⟨e, s1, h1, h2⟩ := (ihS _ _ hl).1 μ d w b cs tm (.inBlock id :: k) R lt ss hx htm hcs
  obtain ⟨l', q1, q2⟩ := allR_mem hall _ h1
  have h2' := Post.after (.refl μ d s.hp w) R.inn (.one s_block) h2
  cases e with
  | normal =>
    obtain rfl := Option.some.inj q1
    exact ⟨_, _, q2 _ (List.mem_singleton.2 rfl), h2'.stop fun _ _ _ _ => .one s_inBlock⟩
  | exit i =>
    simp only at q1
    split at q1
    · rename_i hb
      obtain rfl := Nat.eq_of_beq_eq_true hb
      obtain rfl := Option.some.inj q1
      refine ⟨.normal, s1, q2 _ (List.mem_singleton.2 rfl), ?_⟩
      obtain ⟨μ', d', w', tm', h1, h2, h3, h4, h5, h6, k', p1, p2⟩ := h2'
      refine ⟨μ', d', w', tm', h1, h2, h3, h4, trivial, h6, p2.trans (.one (s_exit ?_))⟩
      rw [p1]
      simp [exitTo]
    · rename_i hb
      obtain rfl := Option.some.inj q1
      refine ⟨_, _, q2 _ (List.mem_singleton.2 rfl), h2'.skip (by simp) (fun j e => ?_) (fun _ _ => rfl)⟩
      cases e
      have : ¬ id = i := fun q => Nat.ne_of_beq_eq_false hb q.symm
      simp [exitTo, this]
  | _ =>
    obtain rfl := Option.some.inj q1
    exact ⟨_, _, q2 _ (List.mem_singleton.2 rfl), h2'.skip (by simp) (fun _ e => by cases e) (fun _ _ => rfl)⟩
theorem loop_body {ih : Job → Option (List Res)} (ihS : ∀ j rs, ih j = some rs → OKJ E P j rs) {x : Ctx} {c : Code} {s : St} {rs : List Res}
    (h : andThen (ih (.code x c s)) (fun r => match r with
      | .out .normal s => ih (.code x (.loop c) s)
      | r => some [r]) = some rs) : CodeOK E P x s rs (fun k => .code c :: .inLoop c :: k) := by
  intro μ d w b cs tm k R lt ss hx htm hcs
  obtain ⟨l, hl, hall⟩ := andThen_some h
  obtain ⟨e, s1, h1, h2⟩ := (ihS _ _ hl).1 μ d w b cs tm (.inLoop c :: k) R lt ss hx htm hcs
  obtain ⟨l', q1, q2⟩ := allR_mem hall _ h1
  cases e with
  | normal =>
    obtain ⟨e', s', p1, p2⟩ := Post.bind h2 hx hcs (fun _ _ _ _ => .refl _ _) ((ihS _ _ q1).2 c rfl)
    exact ⟨e', s', q2 _ p1, p2⟩
  | _ =>
    obtain rfl := Option.some.inj q1
    exact ⟨_, _, q2 _ (List.mem_singleton.2 rfl), h2.skip (by simp) (fun _ _ => rfl) (fun _ _ => rfl)⟩
theorem CodeOK.after {x : Ctx} {s : St} {rs : List Res} {t1 t2 : List Item → List Item} (h : CodeOK E P x s rs t2) (hk : ∀ b tm df k cs w, Steps P (lone (bat b tm df (t1 k)) cs w) (lone (bat b tm df (t2 k)) cs w)) : CodeOK E P x s rs t1 := by
  intro μ d w b cs tm k R lt ss hx htm hcs
  obtain ⟨e, s', h1, h2⟩ := h μ d w b cs tm k R lt ss hx htm hcs
  exact ⟨e, s', h1, Post.after (.refl μ d s.hp w) R.inn (hk _ _ _ _ _ _) h2⟩
theorem scopeJob_ok {ih : Job → Option (List Res)} (ihS : ∀ j rs, ih j = some rs → OKJ E P j rs) {x : Ctx} {body cur : Code} {s : St} {rs : List Res}
    (h : andThen (ih (.code x cur s)) (fun r => match r with
      | .out (.goto l) s => match findLabel body l with
        | some rest => ih (.scope x body rest s)
        | none => some [.out (.goto l) s]
      | r => some [r]) = some rs) : CodeOK E P x s rs (fun k => .code cur :: .inScope body :: k) := by
  intro μ d w b cs tm k R lt ss hx htm hcs
  obtain ⟨l, hl, hall⟩ := andThen_some h
  obtain ⟨e, s1, h1, h2⟩ := (ihS _ _ hl).1 μ d w b cs tm (.inScope body :: k) R lt ss hx htm hcs
  obtain ⟨l', q1, q2⟩ := allR_mem hall _ h1
  cases e with
  | normal =>
    obtain rfl := Option.some.inj q1
    exact ⟨_, _, q2 _ (List.mem_singleton.2 rfl), h2.stop fun _ _ _ _ => .one s_inScope⟩
  | goto lb =>
    simp only at q1
    split at q1
    · rename_i rest hf
      obtain ⟨μ', d', w', tm', p1, p2, p3, p4, p5, p6, k', p7, p8⟩ := h2
      obtain ⟨e', s', r1, r2⟩ := ihS _ _ q1 μ' d' w' b cs tm' k p1 p3 p4 (hx.mono p2.agr p2.dom) p6 hcs
      refine ⟨e', s', q2 _ r1, Post.after p2 p1.inn (p8.trans (.one (s_goto ?_))) r2⟩
      rw [p7]
      simp [gotoIn, hf]
    · rename_i hf
      obtain rfl := Option.some.inj q1
      refine ⟨_, _, q2 _ (List.mem_singleton.2 rfl), h2.skip (by simp) (fun _ e => by cases e) (fun l e => ?_)⟩
      cases e
      simp [gotoIn, hf]
  | _ =>
    obtain rfl := Option.some.inj q1
    exact ⟨_, _, q2 _ (List.mem_singleton.2 rfl), h2.skip (by simp) (fun _ _ => rfl) (fun _ e => by cases e)⟩
theorem here_ok {x : Ctx} {s : St} {e : AExit} {todo : List Item → List Item} (hn : ∀ ch, e ≠ .panic ch)
    (ha : ∀ b k cs tm df μ w, Arr P (lone (bat b tm df (todo k)) cs w) b k e cs tm df μ w) : CodeOK E P x s [.out e s] todo := by
  intro μ d w b cs tm k R lt ss hx htm hcs
  refine ⟨e, s, List.mem_singleton.2 rfl, .here R lt ss ?_ ?_ (ha _ _ _ _ _ _ _)⟩
  · cases e with
    | panic ch => exact absurd rfl (hn ch)
    | _ => trivial
  · cases e with
    | panic ch => exact absurd rfl (hn ch)
    | _ => exact htm
end code
end Go.Xe
