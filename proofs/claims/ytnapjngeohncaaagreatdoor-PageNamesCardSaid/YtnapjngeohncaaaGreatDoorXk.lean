import Derived.Test.YtnapjngeohncaaaGreatDoorXj
set_option linter.unusedSimpArgs false
set_option linter.unusedVariables false
namespace Go.Xe
def Mu.put (μ : Mu) (b : Nat) (p : Pl) : Mu := ⟨fun c => if c = b then p else μ.at_ c, μ.n⟩
theorem Mu.put_self (μ : Mu) (b : Nat) (p : Pl) : (μ.put b p).at_ b = p := by simp [Mu.put]
theorem Mu.put_ne (μ : Mu) {b c : Nat} (p : Pl) (h : c ≠ b) : (μ.put b p).at_ c = μ.at_ c := by simp [Mu.put, h]
theorem Mu.agree_put {d : Nat → Prop} (μ : Mu) {b : Nat} (p : Pl) (h : ¬ d b) : Agree d μ (μ.put b p) :=
  ⟨fun c hc => Mu.put_ne μ p (fun e => h (e ▸ hc)), rfl⟩
def Lt (d : Nat → Prop) (H : Hp) : Prop := ∀ b, d b → b < H.nx

section mem
variable {E : Env} {P : Program} {μ : Mu} {d : Nat → Prop} {H : Hp} {w : World}

theorem alloc_get (w : World) (O : Obj) (r : Nat) : (w.alloc O).heap[r]? = if r = w.heap.size then some O else w.heap[r]? := by
  have hh : (w.alloc O).heap = w.heap.push O := rfl
  rw [hh, Array.getElem?_push]
theorem alloc_size (w : World) (O : Obj) : (w.alloc O).heap.size = w.heap.size + 1 := by
  have hh : (w.alloc O).heap = w.heap.push O := rfl
  rw [hh, Array.size_push]

theorem push_ok0 (R : Rel E μ d H w) (lt : Lt d H) {p : Pl} (hp : p.blk = w.heap.size) {ob : AObj} {O : Obj} (hO : ObjR E μ p ob O) (hs : supO d ob) :
    Rel E (μ.put H.nx p) (fun b => d b ∨ b = H.nx) (H.push ob) (w.alloc O) ∧
    Ext μ d H w (μ.put H.nx p) (fun b => d b ∨ b = H.nx) (H.push ob) (w.alloc O) ∧ Lt (fun b => d b ∨ b = H.nx) (H.push ob) := by
  have hnd : ¬ d H.nx := fun h => Nat.lt_irrefl _ (lt _ h)
  have ag : Agree d μ (μ.put H.nx p) := Mu.agree_put μ _ hnd
  have hne : ∀ b, d b → b ≠ H.nx := fun b hb e => hnd (e ▸ hb)
  refine ⟨⟨?_, ?_, ?_, ?_, ?_, ?_, R.sym⟩, ⟨fun b h => .inl h, ag, by simp [Hp.push], ?_, by rw [alloc_size]; omega, ?_, ?_, ?_, ?_, rfl, rfl, rfl⟩, ?_⟩
  · intro b o hb hg
    rw [Hp.get_push] at hg
    rcases hb with hb | rfl
    · rw [if_neg (hne b hb)] at hg
      obtain ⟨o', h1, h2⟩ := R.ob b o hb hg
      have hlt := R.inn b hb
      refine ⟨o', ?_, ?_⟩
      · rw [ag.1 b hb, alloc_get, if_neg (by omega)]; exact h1
      · rw [ag.1 b hb]; exact ObjR_agree ag (R.sp b o hb hg) h2
    · rw [if_pos rfl] at hg
      obtain rfl := Option.some.inj hg
      refine ⟨O, ?_, ?_⟩
      · rw [Mu.put_self, alloc_get, if_pos hp]
      · rw [Mu.put_self]; exact ObjR_agree ag hs hO
  · intro b o hb hg
    rw [Hp.get_push] at hg
    rcases hb with hb | rfl
    · rw [if_neg (hne b hb)] at hg
      exact supO_mono (fun c hc => .inl hc) (R.sp b o hb hg)
    · rw [if_pos rfl] at hg
      obtain rfl := Option.some.inj hg
      exact supO_mono (fun c hc => .inl hc) hs
  · intro b c ob' oc hb hc hgb hgc lb lc e
    rw [Hp.get_push] at hgb hgc
    rcases hb with hb | rfl <;> rcases hc with hc | rfl
    · rw [if_neg (hne b hb)] at hgb
      rw [if_neg (hne c hc)] at hgc
      rw [ag.1 b hb, ag.1 c hc] at e
      exact R.inj b c _ _ hb hc hgb hgc lb lc e
    · rw [ag.1 b hb, Mu.put_self] at e
      have := R.inn b hb
      omega
    · rw [ag.1 c hc, Mu.put_self] at e
      have := R.inn c hc
      omega
    · rfl
  · intro b hb
    rw [alloc_size]
    rcases hb with hb | rfl
    · rw [ag.1 b hb]; have := R.inn b hb; omega
    · rw [Mu.put_self, hp]; exact Nat.lt_succ_self _
  · intro b hb
    rw [Hp.nx_push] at hb
    rw [Hp.get_push, if_neg (by omega)]
    exact R.nxt b (by omega)
  · intro g hg
    have := R.glob g hg
    exact ⟨.inl this.1, by rw [ag.1 g this.1]; exact this.2⟩
  · intro b hb
    rcases hb with hb | rfl
    · exact .inl hb
    · exact .inr ⟨Nat.le_refl _, by simp [Hp.push]⟩
  · intro r hr hn
    rw [alloc_get, if_neg (by omega)]
  · intro b hb hnb
    rcases hb with hb | rfl
    · exact absurd hb hnb
    · rw [Mu.put_self, hp]; exact .inl (Nat.le_refl _)
  · intro b hb hnb
    rw [Hp.get_push, if_neg (by omega)]
  · intro r c t fz hr
    have : r < w.heap.size := (Array.getElem?_eq_some_iff.1 hr).1
    exact ⟨c, fz, by rw [alloc_get, if_neg (by omega)]; exact hr, rfl⟩
  · intro b hb
    rw [Hp.nx_push]
    rcases hb with hb | rfl
    · have := lt b hb; omega
    · omega

theorem push_ok (R : Rel E μ d H w) (lt : Lt d H) {p : Pl} (hp : p.blk = w.heap.size) {ob : AObj} {O : Obj} (hO : ObjR E μ p ob O) (hs : supO d ob)
    (_hf : ∀ a, (w.alloc O).frozen? a = w.frozen? a) :
    Rel E (μ.put H.nx p) (fun b => d b ∨ b = H.nx) (H.push ob) (w.alloc O) ∧
    Ext μ d H w (μ.put H.nx p) (fun b => d b ∨ b = H.nx) (H.push ob) (w.alloc O) ∧ Lt (fun b => d b ∨ b = H.nx) (H.push ob) := push_ok0 R lt hp hO hs
theorem set_ok (R : Rel E μ d H w) {b : Nat} {ob ob' : AObj} {O' : Obj} (hb : d b) (hg : H.get b = some ob) (hl : ob.live = true)
    (hO : ObjR E μ (μ.at_ b) ob' O') (hs : supO d ob')
    (hold : ∀ c t fz, w.heap[(μ.at_ b).blk]? = some (.cells c t fz) → ∃ c', O' = .cells c' t fz ∧ c'.size = c.size)
    (hnew : ∀ c t fz, O' = .cells c t fz → ∃ c', w.heap[(μ.at_ b).blk]? = some (.cells c' t fz)) :
    Rel E μ d (H.set b ob') { w with heap := w.heap.setIfInBounds (μ.at_ b).blk O' } ∧
    Ext μ d H w μ d (H.set b ob') { w with heap := w.heap.setIfInBounds (μ.at_ b).blk O' } := by
  have hin := R.inn b hb
  have hget : ∀ r, (w.heap.setIfInBounds (μ.at_ b).blk O')[r]? = if r = (μ.at_ b).blk then some O' else w.heap[r]? := by
    intro r
    rw [Array.getElem?_setIfInBounds]
    by_cases e : r = (μ.at_ b).blk
    · subst e; simp [hin]
    · rw [if_neg (fun h => e h.symm), if_neg e]
  have hbn : b < H.nx := by
    rcases Nat.lt_or_ge b H.nx with h | h
    · exact h
    · rw [R.nxt b h] at hg; cases hg
  refine ⟨⟨?_, ?_, ?_, ?_, ?_, R.glob, R.sym⟩, ⟨fun _ h => h, .refl _ _, Nat.le_refl _, fun _ h => .inl h, by simp, ?_, fun c h k => absurd h k, ?_, ?_, rfl, rfl, rfl⟩⟩
  · intro c o hc hgc
    rw [Hp.get_set] at hgc
    by_cases e : c = b
    · subst e
      rw [if_pos rfl] at hgc
      obtain rfl := Option.some.inj hgc
      exact ⟨O', by simp [hget], hO⟩
    · rw [if_neg e] at hgc
      by_cases hlc : o.live = true
      · obtain ⟨o', h1, h2⟩ := R.ob c o hc hgc
        have : (μ.at_ c).blk ≠ (μ.at_ b).blk := fun e' => e (R.inj c b _ _ hc hb hgc hg hlc hl e')
        exact ⟨o', by simp only [hget]; rw [if_neg this]; exact h1, h2⟩
      · cases o <;> simp [AObj.live] at hlc
        obtain ⟨o', h1, _⟩ := R.ob c _ hc hgc
        simp only [hget]
        split
        · exact ⟨O', rfl, trivial⟩
        · exact ⟨o', h1, trivial⟩
  · intro c o hc hgc
    rw [Hp.get_set] at hgc
    by_cases e : c = b
    · rw [if_pos e] at hgc
      obtain rfl := Option.some.inj hgc
      exact hs
    · rw [if_neg e] at hgc
      exact R.sp c o hc hgc
  · intro x y ox oy hx hy hgx hgy lx ly e
    rw [Hp.get_set] at hgx hgy
    by_cases ex : x = b <;> by_cases ey : y = b
    · rw [ex, ey]
    · subst ex
      rw [if_neg ey] at hgy
      exact R.inj x y _ _ hx hy hg hgy hl ly e
    · subst ey
      rw [if_neg ex] at hgx
      exact R.inj x y _ _ hx hy hgx hg lx hl e
    · rw [if_neg ex] at hgx
      rw [if_neg ey] at hgy
      exact R.inj x y _ _ hx hy hgx hgy lx ly e
  · intro c hc
    simp only [Array.size_setIfInBounds]
    exact R.inn c hc
  · intro c hc
    rw [Hp.get_set, if_neg (by intro e; rw [Hp.nx_set] at hc; omega)]
    exact R.nxt c hc
  · intro r hr hn
    simp only [hget]
    rw [if_neg (fun e => hn b hb e.symm)]
  · intro c hc hnc
    rw [Hp.get_set, if_neg (fun (e : c = b) => hnc (by rw [e]; exact hb))]
  · intro r c t fz hr
    simp only [hget]
    by_cases e : r = (μ.at_ b).blk
    · subst e
      obtain ⟨c', h1, h2⟩ := hold c t fz hr
      exact ⟨c', fz, by rw [if_pos rfl, h1], h2⟩
    · exact ⟨c, fz, by rw [if_neg e]; exact hr, rfl⟩

/-- a block is given up -/
theorem kill_ok (R : Rel E μ d H w) {b : Nat} (hb : d b) {ob : AObj} (hg : H.get b = some ob) : Rel E μ d (H.set b .dead) w ∧ Ext μ d H w μ d (H.set b .dead) w := by
  have hbn : b < H.nx := by
    rcases Nat.lt_or_ge b H.nx with h | h
    · exact h
    · rw [R.nxt b h] at hg; cases hg
  refine ⟨⟨?_, ?_, ?_, R.inn, ?_, R.glob, R.sym⟩, ⟨fun _ h => h, .refl _ _, Nat.le_refl _, fun _ h => .inl h, Nat.le_refl _, fun _ _ _ => rfl, fun c h k => absurd h k, ?_, fun _ c _ fz h => ⟨c, fz, h, rfl⟩, rfl, rfl, rfl⟩⟩
  · intro c o hc hgc
    rw [Hp.get_set] at hgc
    by_cases e : c = b
    · rw [if_pos e] at hgc
      obtain rfl := Option.some.inj hgc
      subst e
      obtain ⟨o', h1, _⟩ := R.ob c _ hc hg
      exact ⟨o', h1, trivial⟩
    · rw [if_neg e] at hgc
      exact R.ob c o hc hgc
  · intro c o hc hgc
    rw [Hp.get_set] at hgc
    by_cases e : c = b
    · rw [if_pos e] at hgc
      obtain rfl := Option.some.inj hgc
      trivial
    · rw [if_neg e] at hgc
      exact R.sp c o hc hgc
  · intro x y ox oy hx hy hgx hgy lx ly e
    rw [Hp.get_set] at hgx hgy
    by_cases ex : x = b
    · rw [if_pos ex] at hgx
      obtain rfl := Option.some.inj hgx
      cases lx
    · by_cases ey : y = b
      · rw [if_pos ey] at hgy
        obtain rfl := Option.some.inj hgy
        cases ly
      · rw [if_neg ex] at hgx
        rw [if_neg ey] at hgy
        exact R.inj x y _ _ hx hy hgx hgy lx ly e
  · intro c hc
    rw [Hp.nx_set] at hc
    rw [Hp.get_set, if_neg (by omega)]
    exact R.nxt c hc
  · intro c hc hnc
    rw [Hp.get_set, if_neg (fun (e : c = b) => hnc (by rw [e]; exact hb))]

theorem drawn_ok (R : Rel E μ d H w) (n : Nat) : Rel E μ d H { w with drawn := n } ∧ Ext μ d H w μ d H { w with drawn := n } :=
  ⟨⟨R.ob, R.sp, R.inj, R.inn, R.nxt, R.glob, R.sym⟩, ⟨fun _ h => h, .refl _ _, Nat.le_refl _, fun _ h => .inl h, Nat.le_refl _, fun _ _ _ => rfl, fun c h k => absurd h k, fun _ _ _ => rfl, fun _ c _ fz h => ⟨c, fz, h, rfl⟩, rfl, rfl, rfl⟩⟩

/-- a block that no live one stands for is marked -/
theorem touch_ok (R : Rel E μ d H w) {r : Nat} {c0 : Nat} (h0 : d c0) (h0r : (μ.at_ c0).blk = r) (hfree : ∀ c o, d c → H.get c = some o → o.live = true → (μ.at_ c).blk ≠ r)
    {c : Array Value} {t : TypeId} {fz fz' : Nat × Nat} (hold : w.heap[r]? = some (.cells c t fz)) :
    Rel E μ d H { w with heap := w.heap.setIfInBounds r (.cells c t fz') } ∧ Ext μ d H w μ d H { w with heap := w.heap.setIfInBounds r (.cells c t fz') } := by
  have hin : r < w.heap.size := (Array.getElem?_eq_some_iff.1 hold).1
  have hget : ∀ q, (w.heap.setIfInBounds r (.cells c t fz'))[q]? = if q = r then some (.cells c t fz') else w.heap[q]? := by
    intro q
    rw [Array.getElem?_setIfInBounds]
    by_cases e : q = r
    · subst e; simp [hin]
    · rw [if_neg (fun h => e h.symm), if_neg e]
  refine ⟨⟨?_, R.sp, R.inj, fun b hb => by simpa using R.inn b hb, R.nxt, R.glob, R.sym⟩, ⟨fun _ h => h, .refl _ _, Nat.le_refl _, fun _ h => .inl h, by simp, ?_, fun c h k => absurd h k, fun _ _ _ => rfl, ?_, rfl, rfl, rfl⟩⟩
  · intro b o hb hg
    simp only [hget]
    by_cases hl : o.live = true
    · rw [if_neg (hfree b o hb hg hl)]
      exact R.ob b o hb hg
    · have hd : o = .dead := by cases o <;> first | rfl | exact absurd rfl hl
      subst hd
      obtain ⟨o', h1, _⟩ := R.ob b _ hb hg
      by_cases e : (μ.at_ b).blk = r
      · rw [if_pos e]; exact ⟨_, rfl, trivial⟩
      · rw [if_neg e]; exact ⟨o', h1, trivial⟩
  · intro q hq hn
    simp only [hget]
    rw [if_neg (fun e => hn c0 h0 (h0r.trans e.symm))]
  · intro q c1 t1 fz1 hq
    simp only [hget]
    by_cases e : q = r
    · subst e
      rw [hold] at hq
      cases hq
      exact ⟨c, fz', by rw [if_pos rfl], rfl⟩
    · exact ⟨c1, fz1, by rw [if_neg e]; exact hq, rfl⟩
theorem freeze_eq {g off n : Nat} {c : Array Value} {t : TypeId} {fz : Nat × Nat} (h : w.heap[g]? = some (.cells c t fz)) :
    ∃ fz', w.freeze ⟨g, off, none⟩ n = { w with heap := w.heap.setIfInBounds g (.cells c t fz') } := by
  have hlt : g < w.heap.size := (Array.getElem?_eq_some_iff.1 h).1
  have hv : w.heap[g] = .cells c t fz := (Array.getElem?_eq_some_iff.1 h).2
  unfold World.freeze
  by_cases hn : n = 0
  · refine ⟨fz, ?_⟩
    rw [if_pos hn]
    have : w.heap.setIfInBounds g (.cells c t fz) = w.heap := by
      apply Array.ext_getElem?
      intro i
      rw [Array.getElem?_setIfInBounds]
      by_cases e : g = i
      · subst e; simp [hlt, hv]
      · simp [e]
    rw [this]
  · obtain ⟨lo, hi⟩ := fz
    refine ⟨if lo == hi then (off, off + n) else (min lo off, max hi (off + n)), ?_⟩
    rw [if_neg hn]
    congr 1
    apply Array.ext_getElem?
    intro i
    rw [Array.getElem?_modify, Array.getElem?_setIfInBounds]
    by_cases e : g = i
    · subst e; simp [h, hlt, hv]
    · simp [e]
theorem setRow_eq {g : Nat} {old cs : Array Value} {t : TypeId} {fz : Nat × Nat} (h : w.heap[g]? = some (.cells old t fz)) : w.setRow g cs = { w with heap := w.heap.setIfInBounds g (.cells cs t fz) } := by
  have hlt : g < w.heap.size := (Array.getElem?_eq_some_iff.1 h).1
  have hv : w.heap[g] = .cells old t fz := (Array.getElem?_eq_some_iff.1 h).2
  unfold World.setRow
  congr 1
  apply Array.ext_getElem?
  intro i
  rw [Array.getElem?_modify, Array.getElem?_setIfInBounds]
  by_cases e : g = i
  · subst e; simp [h, hlt, hv]
  · simp [e]
end mem
end Go.Xe
