import Derived.Test.YtnapjngeohncaaaGreatDoorXaa
set_option linter.unusedSimpArgs false
set_option linter.unusedVariables false
namespace Go.Xe
/-! ### two ways meet -/
theorem bytesEq_eq {a b : ByteArray} (h : bytesEq a.data.toList b.data.toList = true) : a = b := by
  rw [bytesEq_iff] at h
  have h' := of_decide_eq_true h
  cases a
  cases b
  simp only at h'
  congr 1
  exact Array.toList_inj.1 h'
theorem sameEnts_ok : ∀ {a b : List AEnt}, sameEnts a b = true → a = b
  | [], [], _ => rfl
  | [], _ :: _, h => by simp [sameEnts] at h
  | _ :: _, [], h => by simp [sameEnts] at h
  | a :: as, b :: bs, h => by
    simp only [sameEnts, Bool.and_eq_true] at h
    obtain ⟨⟨⟨h1, h2⟩, h3⟩, h4⟩ := h
    obtain ⟨k, v, n⟩ := a
    obtain ⟨k', v', n'⟩ := b
    have e1 := sameAV_ok h1
    have e2 := sameAV_ok h2
    have e3 := Nat.eq_of_beq_eq_true h3
    simp only at e1 e2 e3
    rw [sameEnts_ok h4, e1, e2, e3]
theorem sameNats_ok : ∀ {a b : List Nat}, sameNats a b = true → a = b
  | [], [], _ => rfl
  | [], _ :: _, h => by simp [sameNats] at h
  | _ :: _, [], h => by simp [sameNats] at h
  | a :: as, b :: bs, h => by
    simp only [sameNats, Bool.and_eq_true] at h
    rw [sameNats_ok h.2, Nat.eq_of_beq_eq_true h.1]
theorem sameDefs_ok : ∀ {a b : List ADef}, sameDefs a b = true → a = b
  | [], [], _ => rfl
  | [], _ :: _, h => by simp [sameDefs] at h
  | _ :: _, [], h => by simp [sameDefs] at h
  | a :: as, b :: bs, h => by
    simp only [sameDefs, Bool.and_eq_true] at h
    obtain ⟨⟨h1, h2⟩, h3⟩ := h
    obtain ⟨t, l⟩ := a
    obtain ⟨t', l'⟩ := b
    have e2 := sameAVs_ok h2
    simp only at e2 h1
    rw [sameDefs_ok h3, e2]
    have : t = t' := by
      cases t <;> cases t' <;> simp only [Bool.and_eq_true, Bool.false_eq_true] at h1
      · rw [Nat.eq_of_beq_eq_true h1.1, sameAVs_ok h1.2]
      · rw [Nat.eq_of_beq_eq_true h1]
      · rw [Nat.eq_of_beq_eq_true h1]
    rw [this]
theorem sameObj_ok {a b : AObj} (h : sameObj a b = true) : a = b := by
  unfold sameObj at h
  split at h
  · rw [Bool.and_eq_true] at h
    rw [Nat.eq_of_beq_eq_true h.1, sameAVs_ok h.2]
  · rw [Bool.and_eq_true] at h
    rw [Nat.eq_of_beq_eq_true h.1, sameEnts_ok h.2]
  · rw [Bool.and_eq_true] at h
    rw [Nat.eq_of_beq_eq_true h.1, bytesEq_eq h.2]
  · simp only [Bool.and_eq_true] at h
    rw [Nat.eq_of_beq_eq_true h.1.1, sameNats_ok h.1.2, Nat.eq_of_beq_eq_true h.2]
  · simp only [Bool.and_eq_true] at h
    rw [Nat.eq_of_beq_eq_true h.1.1.1, Nat.eq_of_beq_eq_true h.1.1.2, sameNats_ok h.1.2, Nat.eq_of_beq_eq_true h.2]
  · rfl
  · rw [sameDefs_ok h]
  · rfl
  · cases h
theorem meetHp_ok {n0 : Nat} {a b g : Hp} : ∀ {k : Nat} {acc : Hp}, meetHp n0 a b k acc = some g → g.nx = acc.nx ∧ ∀ j,
    (j < k → (∃ y, a.get j = some y ∧ b.get j = some y ∧ g.get j = some y) ∨ (n0 ≤ j ∧ g.get j = some .dead) ∨ (a.get j = none ∧ b.get j = none ∧ g.get j = acc.get j)) ∧ (k ≤ j → g.get j = acc.get j)
  | 0, acc, h => by
    obtain rfl := Option.some.inj h
    exact ⟨rfl, fun j => ⟨fun h => by omega, fun _ => rfl⟩⟩
  | k + 1, acc, h => by
    unfold meetHp at h
    have key : ∀ acc' : Hp, acc'.nx = acc.nx → (∀ j, j ≠ k → acc'.get j = acc.get j) → meetHp n0 a b k acc' = some g →
        ((∃ y, a.get k = some y ∧ b.get k = some y ∧ acc'.get k = some y) ∨ (n0 ≤ k ∧ acc'.get k = some .dead) ∨ (a.get k = none ∧ b.get k = none ∧ acc'.get k = acc.get k)) →
        g.nx = acc.nx ∧ ∀ j, (j < k + 1 → (∃ y, a.get j = some y ∧ b.get j = some y ∧ g.get j = some y) ∨ (n0 ≤ j ∧ g.get j = some .dead) ∨ (a.get j = none ∧ b.get j = none ∧ g.get j = acc.get j)) ∧ (k + 1 ≤ j → g.get j = acc.get j) := by
      intro acc' hn ho hh hk
      obtain ⟨q1, q2⟩ := meetHp_ok hh
      refine ⟨q1.trans hn, fun j => ⟨fun hj => ?_, fun hj => ?_⟩⟩
      · by_cases e : j = k
        · subst e
          rw [(q2 j).2 (Nat.le_refl _)]
          exact hk
        · rcases (q2 j).1 (by omega) with h1 | h1 | h1
          · exact .inl h1
          · exact .inr (.inl h1)
          · exact .inr (.inr ⟨h1.1, h1.2.1, by rw [h1.2.2, ho j e]⟩)
      · rw [(q2 j).2 (by omega), ho j (by omega)]
    have gs : ∀ o j, j ≠ k → (acc.set k o).get j = acc.get j := fun o j hj => by rw [Hp.get_set, if_neg hj]
    have gk : ∀ o, (acc.set k o).get k = some o := fun o => by rw [Hp.get_set, if_pos rfl]
    split at h
    · rename_i x y hx hy
      split at h
      · rename_i hs
        obtain rfl := sameObj_ok hs
        exact key (acc.set k x) rfl (gs x) h (.inl ⟨x, hx, hy, gk x⟩)
      · split at h
        · rename_i hle
          exact key (acc.set k .dead) rfl (gs _) h (.inr (.inl ⟨Nat.le_of_ble_eq_true hle, gk _⟩))
        · cases h
    · rename_i hx hy
      exact key acc rfl (fun _ _ => rfl) h (.inr (.inr ⟨hx, hy, rfl⟩))
    · cases h
/-- what is known of 'r' is known of 'q', but for blocks given up -/
def Weaker (n0 : Nat) (r q : Res) : Prop := ∀ e pm h, r = .fin e pm h → ∃ g, q = .fin e pm g ∧ g.nx = h.nx ∧ ∀ j, (g.get j = h.get j ∨ (n0 ≤ j ∧ g.get j = some .dead ∧ j < h.nx) ∨ (h.nx ≤ j ∧ g.get j = none))
theorem Weaker.refl (n0 : Nat) (r : Res) : Weaker n0 r r := fun e pm h hr => ⟨h, hr, rfl, fun j => .inl rfl⟩
theorem Weaker.trans {n0 : Nat} {r q p : Res} (h : Weaker n0 r q) (k : Weaker n0 q p) : Weaker n0 r p := by
  intro e pm h1 hr
  obtain ⟨g, q1, q2, q3⟩ := h e pm h1 hr
  obtain ⟨g', p1, p2, p3⟩ := k e pm g q1
  refine ⟨g', p1, p2.trans q2, fun j => ?_⟩
  rcases p3 j with h2 | h2 | h2
  · rw [h2]; exact q3 j
  · exact .inr (.inl ⟨h2.1, h2.2.1, by omega⟩)
  · exact .inr (.inr ⟨by omega, h2.2⟩)
theorem samePans_ok : ∀ {a b : List APan}, samePans a b = true → a = b
  | [], [], _ => rfl
  | [], _ :: _, h => by simp [samePans] at h
  | _ :: _, [], h => by simp [samePans] at h
  | a :: as, b :: bs, h => by
    simp only [samePans, Bool.and_eq_true, beq_iff_eq] at h
    obtain ⟨v, r⟩ := a
    obtain ⟨v', r'⟩ := b
    simp only at h
    rw [samePans_ok h.2, sameAV_ok h.1.1, h.1.2]
theorem sameMode_ok {a b : AMode} (h : sameMode a b = true) : a = b := by
  cases a <;> cases b <;> simp only [sameMode, Bool.false_eq_true] at h
  · rfl
  · rfl
  · rw [samePans_ok h]
theorem sameEnd_ok {a b : AEnd} (h : sameEnd a b = true) : a = b := by
  cases a <;> cases b <;> simp only [sameEnd, Bool.false_eq_true] at h
  · rw [sameAV_ok h]
  · rw [samePans_ok h]
theorem meet1_ok {n0 : Nat} {r q p : Res} (h : meet1 n0 r q = some p) : Weaker n0 r p ∧ Weaker n0 q p := by
  unfold meet1 at h
  split at h
  · rename_i e pm hh e' pm' hh'
    split at h
    · rename_i hc
      simp only [Bool.and_eq_true] at hc
      obtain rfl := sameEnd_ok hc.1.1
      obtain rfl := sameMode_ok hc.1.2
      have hnx := Nat.eq_of_beq_eq_true hc.2
      obtain ⟨g, hg, rfl⟩ := Option.map_eq_some_iff.1 h
      obtain ⟨q1, q2⟩ := meetHp_ok hg
      have gn : ∀ j, (⟨.e, hh.nx⟩ : Hp).get j = none := fun _ => rfl
      refine ⟨fun e1 pm1 h1 hr => ?_, fun e1 pm1 h1 hr => ?_⟩
      · cases hr
        refine ⟨g, rfl, q1, fun j => ?_⟩
        rcases Nat.lt_or_ge j hh.nx with hj | hj
        · rcases (q2 j).1 hj with ⟨y, h1, h2, h3⟩ | h3 | h3
          · exact .inl (by rw [h3, h1])
          · exact .inr (.inl ⟨h3.1, h3.2, hj⟩)
          · exact .inl (by rw [h3.2.2, h3.1]; rfl)
        · exact .inr (.inr ⟨hj, by rw [(q2 j).2 hj]; rfl⟩)
      · cases hr
        refine ⟨g, rfl, q1.trans hnx, fun j => ?_⟩
        rcases Nat.lt_or_ge j hh.nx with hj | hj
        · rcases (q2 j).1 hj with ⟨y, h1, h2, h3⟩ | h3 | h3
          · exact .inl (by rw [h3, h2])
          · exact .inr (.inl ⟨h3.1, h3.2, by omega⟩)
          · exact .inl (by rw [h3.2.2, h3.2.1]; rfl)
        · exact .inr (.inr ⟨by omega, by rw [(q2 j).2 hj]; rfl⟩)
    · cases h
  · cases h
theorem meetAll_ok {n0 : Nat} : ∀ {qs : List Res} {r : Res} {rs : List Res}, meetAll n0 r qs = some rs → ∀ q ∈ r :: qs, ∃ p ∈ rs, Weaker n0 q p
  | [], r, rs, h, q, hq => by
    obtain rfl := Option.some.inj h
    obtain rfl := List.mem_singleton.1 hq
    exact ⟨q, List.mem_singleton.2 rfl, .refl _ _⟩
  | p :: qs, r, rs, h, q, hq => by
    unfold meetAll at h
    split at h
    · rename_i r' hr'
      obtain ⟨h1, h2⟩ := meet1_ok hr'
      have ih := meetAll_ok h
      rcases List.mem_cons.1 hq with rfl | hq
      · obtain ⟨p', q1, q2⟩ := ih r' (List.mem_cons_self ..)
        exact ⟨p', q1, h1.trans q2⟩
      · rcases List.mem_cons.1 hq with rfl | hq
        · obtain ⟨p', q1, q2⟩ := ih r' (List.mem_cons_self ..)
          exact ⟨p', q1, h2.trans q2⟩
        · exact ih q (List.mem_cons_of_mem _ hq)
    · cases h
theorem meetR_ok {n0 : Nat} {x : Option (List Res)} {rs : List Res} (h : meetR n0 x = some rs) : ∃ l, x = some l ∧ ∀ q ∈ l, ∃ p ∈ rs, Weaker n0 q p := by
  unfold meetR at h
  split at h
  · rename_i r q qs
    exact ⟨_, rfl, meetAll_ok h⟩
  · exact ⟨rs, h, fun q hq => ⟨q, hq, .refl _ _⟩⟩
section frames
variable {E : Env} {P : Program} {μ : Mu} {d : Nat → Prop} {H : Hp} {w : World}
theorem EndOK.weaken {l rs : List Res} (hw : ∀ q ∈ l, ∃ p ∈ rs, Weaker H.nx q p) {m : Machine} {dfd : Bool} {cs : List Frame} {f : FuncId} (h : EndOK E P l μ d H w m dfd cs f) : EndOK E P rs μ d H w m dfd cs f := by
  obtain ⟨e, pm, h', q0, μ', d', w', fr, q1, q2, q3, q4, q5, q6, q7⟩ := h
  obtain ⟨p, hp, hwk⟩ := hw _ q0
  obtain ⟨g, rfl, g1, g2⟩ := hwk _ _ _ rfl
  have g3 : ∀ j o, g.get j = some o → h'.get j = some o ∨ o = .dead := by
    intro j o hj
    rcases g2 j with h2 | h2 | h2
    · exact .inl (by rw [← h2]; exact hj)
    · rw [h2.2.1] at hj; exact .inr (Option.some.inj hj).symm
    · rw [h2.2] at hj; cases hj
  refine ⟨e, pm, g, hp, μ', d', w', fr, ⟨?_, ?_, ?_, q1.inn, ?_, q1.glob, q1.sym⟩, ⟨q2.dom, q2.agr, by rw [g1]; exact q2.nx, by rw [g1]; exact q2.fresh, q2.size, q2.keep, q2.new, ?_, q2.rows, q2.os, q2.out, q2.tape⟩, fun b hb => by rw [g1]; exact q3 b hb, q4, q5, q6, q7⟩
  · intro b o hb hg
    rcases g3 b o hg with h1 | rfl
    · exact q1.ob b o hb h1
    · exact ⟨_, Array.getElem?_eq_getElem (q1.inn b hb), trivial⟩
  · intro b o hb hg
    rcases g3 b o hg with h1 | rfl
    · exact q1.sp b o hb h1
    · trivial
  · intro b c ob oc hb hc h1 h2 lb lc
    rcases g3 b ob h1 with h1 | rfl
    · rcases g3 c oc h2 with h2 | rfl
      · exact q1.inj b c ob oc hb hc h1 h2 lb lc
      · cases lc
    · cases lb
  · intro b hb
    rcases g2 b with h2 | h2 | h2
    · rw [h2]; exact q1.nxt b (by omega)
    · omega
    · exact h2.2
  · intro b hb hnb
    rcases g2 b with h2 | h2 | h2
    · rw [h2]; exact q2.abs b hb hnb
    · omega
    · have := q2.nx; omega
theorem call_ok (EO : EnvOK E P) {ih : Job → Option (List Res)} (ihS : ∀ j rs, ih j = some rs → OKJ E P j rs) {dfd : Bool} {f : FuncId} {args : List AV} {pm : AMode} {H : Hp} {rs : List Res}
    (h : evBody E ih (.call dfd f args pm H) = some rs) : OKJ E P (.call dfd f args pm H) rs := by
  intro μ d w cs R lt hargs hpm hcs
  simp only [evBody] at h
  split at h
  · cases h
  · rename_i fn hfn
    split at h
    · cases h
    · rename_i c hc
      obtain ⟨l, hl, hw⟩ := meetR_ok h
      refine EndOK.weaken hw ?_
      obtain ⟨l1, hl1, hall⟩ := andThen_some hl
      have hP := EO.ft _ _ hfn
      have tt := enter_tm (μ := μ) (d := d) args fn.ntmps hargs
      have hent : Frame.enter P f (renL μ args).toArray (kd dfd) = bat { fn := f, tmps := #[], todo := [], defers := [], mode := .run, kind := kd dfd } ((renL μ args).toArray ++ Array.replicate (fn.ntmps - (renL μ args).toArray.size) undef) [] [.code c] := by
        simp [Frame.enter, bat, hP, hc]
      obtain ⟨e, s1, h1, μ1, d1, w1, tm1, p1, p2, p3, p4, p5, p6, p7⟩ := (ihS _ _ hl1).1 μ d w { fn := f, tmps := #[], todo := [], defers := [], mode := .run, kind := kd dfd } cs ((renL μ args).toArray ++ Array.replicate (fn.ntmps - (renL μ args).toArray.size) undef) []
        R lt ⟨tt.2, (fun _ h => by cases h), hpm⟩ ⟨rfl, rfl, rfl⟩ tt.1 hcs
      rw [hent]
      obtain ⟨l', q1, q2⟩ := allR_mem hall _ h1
      have fin : ∀ mode todo, OKJ E P (.leave { fn := f, dfd, rnd := none, res := resTmps fn.results.toList } fn.results.toList mode s1) l' → supM d1 mode → (∀ t ∈ resTmps fn.results.toList, tm1.getD t undef = ren μ1 (tget s1.tm t)) →
          Steps P (lone (bat { fn := f, tmps := #[], todo := [], defers := [], mode := .run, kind := kd dfd } ((renL μ args).toArray ++ Array.replicate (fn.ntmps - (renL μ args).toArray.size) undef) [] [.code c]) (csAt dfd cs (renM μ pm)) w)
            (lone { bat { fn := f, tmps := #[], todo := [], defers := [], mode := .run, kind := kd dfd } tm1 (s1.df.map (renD μ1)) todo with mode := renM μ1 mode } (csAt dfd cs (renM μ1 s1.pm)) w1) →
          EndOK E P l μ d H w (lone (bat { fn := f, tmps := #[], todo := [], defers := [], mode := .run, kind := kd dfd } ((renL μ args).toArray ++ Array.replicate (fn.ntmps - (renL μ args).toArray.size) undef) [] [.code c]) (csAt dfd cs (renM μ pm)) w) dfd cs f := by
        intro mode todo hj hsm ht hst
        have := hj μ1 d1 w1 { fn := f, tmps := #[], todo := [], defers := [], mode := .run, kind := kd dfd } cs tm1 todo fn p1 p3 p4 hsm rfl rfl rfl hP rfl ht hcs
        exact EndOK.after p2 p1.inn hst (this.sub q2)
      cases e with
      | normal => exact fin .returning [] (ihS _ _ q1) trivial (fun t _ => p6.2 t) (Steps.trans p7 (.one (s_end rfl)))
      | ret =>
        obtain ⟨k', p7⟩ := p7
        exact fin .returning (.code .ret :: k') (ihS _ _ q1) trivial (fun t _ => p6.2 t) (Steps.trans p7 (.one (s_ret rfl)))
      | panic ch =>
        obtain ⟨k', p7⟩ := p7
        exact fin (.panicking ch) k' (ihS _ _ q1) p5 p6 p7
      | exit i => cases q1
      | goto l => cases q1
end frames
end Go.Xe
