import Derived.Test.YtnapjngeohncaaaGreatDoorXu
set_option linter.unusedSimpArgs false
set_option linter.unusedVariables false
namespace Go.Xe
section one
variable {E : Env} {ih : Job → Option (List Res)} {x : Ctx} {all : List Oper} {tm0 : Tr AV} {W : Walk} {s s1 : St} {i : Nat} {o : Oper} {m : Nat} {k : Knd}
structure OneStep (s s1 : St) (o : Oper) (k : Knd) : Prop where
  sz : s1.sz = s.sz
  nx : s.hp.nx ≤ s1.hp.nx
  tab : ∀ t, o.dst ≠ some t → tget s1.tm t = tget s.tm t
  low : k ≠ .eff → ∀ b, b < s.hp.nx → s1.hp.get b = s.hp.get b
  df : k ≠ .eff → s1.df = s.df
  pm : k ≠ .eff → s1.pm = s.pm
  nxt : k ≠ .eff → (∀ b, s.hp.nx ≤ b → s.hp.get b = none) → ∀ b, s1.hp.nx ≤ b → s1.hp.get b = none
theorem oneStep_put {v : AV} (h : s1 = s.put o.dst v) : OneStep s s1 o k := by
  subst h
  refine ⟨put_sz _ _ _, by rw [put_hp]; exact Nat.le_refl _, fun t ht => by rw [put_get, if_neg (fun q => ht q.1)], fun _ b _ => by rw [put_hp], fun _ => put_df _ _ _, fun _ => put_pm _ _ _, fun _ hn b hb => ?_⟩
  rw [put_hp] at hb ⊢
  exact hn b hb
theorem Fact.one (h : Fact E ih x all tm0 W s s1 i o m k) : OneStep s s1 o k := by
  cases k with
  | skip => exact oneStep_put h.2
  | pure v => exact oneStep_put h.2.1
  | read rt v => exact oneStep_put h.2.1
  | alloc ob g =>
    obtain ⟨_, h, _⟩ := h
    subst h
    refine ⟨by rw [put_sz], by rw [put_hp]; exact Nat.le_succ _, fun t ht => by rw [put_get, if_neg (fun q => ht q.1)], fun _ b hb => ?_, fun _ => by rw [put_df], fun _ => by rw [put_pm], fun _ hn b hb => ?_⟩
    · rw [put_hp]
      show (s.hp.push ob).get b = _
      rw [Hp.get_push, if_neg (by omega)]
    · rw [put_hp] at hb ⊢
      have hb' : s.hp.nx + 1 ≤ b := hb
      show (s.hp.push ob).get b = none
      rw [Hp.get_push, if_neg (by omega)]
      exact hn b (by omega)
  | eff =>
    obtain ⟨_, rt, c, v, df, pm, hp, _, _, _, _, hle, h⟩ := h
    subst h
    refine ⟨by rw [St.fired, put_sz], by rw [St.fired, put_hp]; exact hle, fun t ht => by rw [St.fired, put_get, if_neg (fun q => ht q.1)], fun h => absurd rfl h, fun h => absurd rfl h, fun h => absurd rfl h, fun h => absurd rfl h⟩
  | gone => obtain ⟨rfl, _⟩ := h; exact ⟨rfl, Nat.le_refl _, fun _ _ => rfl, fun _ _ _ => rfl, fun _ => rfl, fun _ => rfl, fun _ h => h⟩
  | fell => obtain ⟨_, rfl, _⟩ := h; exact ⟨rfl, Nat.le_refl _, fun _ _ => rfl, fun _ _ _ => rfl, fun _ => rfl, fun _ => rfl, fun _ h => h⟩
end one
/-- a drawn region, walked in the text's order -/
structure Dr (E : Env) (ih : Job → Option (List Res)) (x : Ctx) (all : Array Oper) (ms : List Nat) (tm0 : Tr AV) (W : Walk) (S : Nat → St) (kd : Nat → Knd) : Prop where
  plan : Plan all.toList ms
  fact : ∀ (i : Nat) (o : Oper) (m : Nat), all[i]? = some o → ms[i]? = some m → Fact E ih x all.toList tm0 W (S i) (S (i + 1)) i o m (kd i)
  ok : WalkOK ms all.size 0 S kd W
  turn : ∀ e ∈ W.effs, ∀ e' ∈ W.effs, e.1 < e'.1 → bit e'.2 e.1 = true
  steady : ∀ r ∈ W.reads, steady E W.effs ((0, (S 0).hp) :: W.levs) r = true
  dst : ∀ (i : Nat) (o : Oper) t, all[i]? = some o → o.dst = some t → t < (S 0).sz
section dr
variable {E : Env} {ih : Job → Option (List Res)} {x : Ctx} {all : Array Oper} {ms : List Nat} {tm0 : Tr AV} {W : Walk} {S : Nat → St} {kd : Nat → Knd}
theorem Dr.at_ (D : Dr E ih x all ms tm0 W S kd) {i : Nat} (h : i < all.size) : ∃ o m, all[i]? = some o ∧ ms[i]? = some m ∧ Fact E ih x all.toList tm0 W (S i) (S (i + 1)) i o m (kd i) := by
  have h2 : i < ms.length := by rw [D.plan.len]; simpa using h
  exact ⟨all[i], ms[i], Array.getElem?_eq_getElem h, List.getElem?_eq_getElem h2, D.fact _ _ _ (Array.getElem?_eq_getElem h) (List.getElem?_eq_getElem h2)⟩
theorem Dr.nx (D : Dr E ih x all ms tm0 W S kd) {i : Nat} : ∀ {j : Nat}, i ≤ j → j ≤ all.size → (S i).hp.nx ≤ (S j).hp.nx := by
  intro j
  induction j with
  | zero => intro h _; obtain rfl : i = 0 := by omega
            exact Nat.le_refl _
  | succ j ihj =>
    intro h1 h2
    by_cases e : i = j + 1
    · subst e; exact Nat.le_refl _
    · obtain ⟨o, m, _, _, f⟩ := D.at_ (i := j) (by omega)
      exact Nat.le_trans (ihj (by omega) (by omega)) f.one.nx
theorem Dr.sz (D : Dr E ih x all ms tm0 W S kd) : ∀ {j : Nat}, j ≤ all.size → (S j).sz = (S 0).sz := by
  intro j
  induction j with
  | zero => intro _; rfl
  | succ j ihj =>
    intro h2
    obtain ⟨o, m, _, _, f⟩ := D.at_ (i := j) (by omega)
    rw [f.one.sz]; exact ihj (by omega)
theorem Dr.tab (D : Dr E ih x all ms tm0 W S kd) {i : Nat} {t : Tmp} : ∀ {j : Nat}, i ≤ j → j ≤ all.size → (∀ k o, i ≤ k → k < j → all[k]? = some o → o.dst ≠ some t) → tget (S j).tm t = tget (S i).tm t := by
  intro j
  induction j with
  | zero => intro h _ _; obtain rfl : i = 0 := by omega
            rfl
  | succ j ihj =>
    intro h1 h2 hw
    by_cases e : i = j + 1
    · subst e; rfl
    · obtain ⟨o, m, ho, _, f⟩ := D.at_ (i := j) (by omega)
      rw [f.one.tab t (hw j o (by omega) (by omega) ho)]
      exact ihj (by omega) (by omega) fun k o' a b c => hw k o' a (by omega) c
theorem Dr.seg (D : Dr E ih x all ms tm0 W S kd) {i : Nat} : ∀ {j : Nat}, i ≤ j → j ≤ all.size → (∀ k, i ≤ k → k < j → kd k ≠ .eff) →
    (∀ b, b < (S i).hp.nx → (S j).hp.get b = (S i).hp.get b) ∧ (S j).df = (S i).df ∧ (S j).pm = (S i).pm ∧
      ((∀ b, (S i).hp.nx ≤ b → (S i).hp.get b = none) → ∀ b, (S j).hp.nx ≤ b → (S j).hp.get b = none) := by
  intro j
  induction j with
  | zero => intro h _ _; obtain rfl : i = 0 := by omega
            exact ⟨fun _ _ => rfl, rfl, rfl, fun h => h⟩
  | succ j ihj =>
    intro h1 h2 hk
    by_cases e : i = j + 1
    · subst e; exact ⟨fun _ _ => rfl, rfl, rfl, fun h => h⟩
    · obtain ⟨o, m, ho, _, f⟩ := D.at_ (i := j) (by omega)
      have ne := hk j (by omega) (by omega)
      obtain ⟨q1, q2, q3, q4⟩ := ihj (by omega) (by omega) fun k a b => hk k a (by omega)
      refine ⟨fun b hb => ?_, (f.one.df ne).trans q2, (f.one.pm ne).trans q3, fun h => f.one.nxt ne (q4 h)⟩
      rw [f.one.low ne b (Nat.lt_of_lt_of_le hb (D.nx (by omega) (by omega))), q1 b hb]
theorem Dr.made (D : Dr E ih x all ms tm0 W S kd) {i : Nat} {ob : AObj} {g : Nat → AV} (hi : i < all.size) (hk : kd i = .alloc ob g) : (S (i + 1)).hp.nx = (S i).hp.nx + 1 ∧ (S (i + 1)).hp.get (S i).hp.nx = some ob := by
  obtain ⟨o, m, ho, _, f⟩ := D.at_ hi
  rw [hk] at f
  obtain ⟨_, f, _⟩ := f
  rw [f, put_hp]
  exact ⟨rfl, by show ((S i).hp.push ob).get _ = _; rw [Hp.get_push, if_pos rfl]⟩
theorem Dr.made_at (D : Dr E ih x all ms tm0 W S kd) {i j : Nat} {ob : AObj} {g : Nat → AV} (hk : kd i = .alloc ob g) (hij : i < j) (hj : j ≤ all.size) (hn : ∀ k, i < k → k < j → kd k ≠ .eff) :
    (S j).hp.get (S i).hp.nx = some ob := by
  obtain ⟨h1, h2⟩ := D.made (by omega) hk
  rw [(D.seg (i := i + 1) (by omega) hj fun k a b => hn k (by omega) b).1 _ (by omega)]
  exact h2
theorem Dr.ids (D : Dr E ih x all ms tm0 W S kd) {i j : Nat} {ob ob' : AObj} {g g' : Nat → AV} (hi : kd i = .alloc ob g) (hj : kd j = .alloc ob' g') (hil : i < all.size) (hjl : j < all.size) (he : (S i).hp.nx = (S j).hp.nx) : i = j := by
  rcases Nat.lt_trichotomy i j with h | h | h
  · have := (D.made hil hi).1
    have := D.nx (i := i + 1) (j := j) (by omega) (by omega)
    omega
  · exact h
  · have := (D.made hjl hj).1
    have := D.nx (i := j + 1) (j := i) (by omega) (by omega)
    omega
end dr
end Go.Xe
