import Derived.Test.YtnapjngeohncaaaGreatDoorXn
set_option linter.unusedSimpArgs false
set_option linter.unusedVariables false
namespace Go.Xe
section app
variable {E : Env} {P : Program} {μ : Mu} {d : Nat → Prop} {H : Hp} {w : World} {tm : Tr AV} {ρ : Operand → Value}

theorem tail_grow (EO : EnvOK E P) {e : TypeId} {i : TypeInfo} {z : AV} (hi : E.tt.get e = some i) (hz : E.zero e = some z) {base : Option Addr} {sLen sCap n : Nat} {s x : Value} {zb : Bool} {sz : Nat}
    {app : Sem (Array Value)} {old new : Array Value} {newCap : Nat} (hgt : sCap < sLen + n) (hsm : smallCap (sLen + n) i.bytes = true)
    (hold : (Builtin.firstCells sz sLen s).run P { w with drawn := w.drawn + 1 } = .ok old { w with drawn := w.drawn + 1 }) (hnew : app.run P { w with drawn := w.drawn + 1 } = .ok new { w with drawn := w.drawn + 1 })
    (hch : (choose (.appendCap (sLen + n) sCap e)).run P w = .ok newCap { w with drawn := w.drawn + 1 }) (hb0 : i.bytes = 0 → False ∨ True) :
    (appTail e base sLen sCap n s x zb sz app).run P w =
      .ok (.slice (some ⟨w.heap.size, 0, none⟩) (sLen + n) newCap) ({ w with drawn := w.drawn + 1 }.alloc (.cells (old ++ new ++ Builtin.zeroCells (ren μ z).cells (newCap - (sLen + n))) e)) := by
  simp only [smallCap, Bool.and_eq_true] at hsm
  have s1 := Nat.le_of_ble_eq_true hsm.1
  have s2 := Nat.le_of_ble_eq_true hsm.2
  have kz := zero_ok EO hz
  have e1 : ¬ ((((sLen + n : Nat) : Int) > IntKind.i64.max) ∧ (zb = true ∨ i.bytes = 0)) := by
    intro h
    have h1 := h.1
    have : IntKind.i64.max = 9223372036854775807 := by decide
    rw [this] at h1
    omega
  have e2 : ¬ (Builtin.nextslicecap (sLen + n) sCap * i.bytes > 2 ^ 48) := by
    have h1 := next_le hgt
    have h2 : Builtin.nextslicecap (sLen + n) sCap * i.bytes ≤ (2 * (sLen + n) + 1000) * i.bytes := Nat.mul_le_mul_right _ h1
    omega
  unfold appTail
  simp only
  rw [if_neg (by omega)]
  simp only [Sem.run_bind, run_info EO hi, Result.andThen_ok]
  rw [if_neg e1]
  simp only [Sem.run_bind, run_info EO hi, Result.andThen_ok]
  rw [if_neg e2]
  simp only [Sem.run_bind, run_info EO hi, Result.andThen_ok, hch, hask, hold, hnew, kz.1 μ, newRow, newObj, Sem.run, Sem.run_pure]
  rfl

theorem tail_fits {e : TypeId} {base : Option Addr} {sLen sCap n : Nat} {s x : Value} {zb : Bool} {sz : Nat} {app : Sem (Array Value)} {new : Array Value} (hle : sLen + n ≤ sCap)
    (hnew : app.run P w = .ok new w) {w' : World} (hst : ∀ a, base = some a → (storeCells (a.add (sLen * sz)) new.toList).run P w = .ok () w') (hnone : base = none → w' = w) :
    (appTail e base sLen sCap n s x zb sz app).run P w = .ok (.slice base (sLen + n) sCap) w' := by
  unfold appTail
  simp only
  rw [if_pos hle]
  simp only [Sem.run_bind, hnew, Result.andThen_ok]
  cases base with
  | none => simp [hnone rfl]
  | some a => simp [hst a rfl]

theorem reuse_ok (R : Rel E μ d H w) (lt : Lt d H) {p : Pl} {r : Nat} (hp : p.blk = r) {c0 : Nat} (h0 : d c0) (h0r : (μ.at_ c0).blk = r)
    (hfree : ∀ c o, d c → H.get c = some o → o.live = true → (μ.at_ c).blk ≠ r) {ob : AObj} {c c' : Array Value} {t : TypeId} {fz : Nat × Nat} (hold : w.heap[r]? = some (.cells c t fz)) (hsz : c'.size = c.size)
    (hO : ObjR E μ p ob (.cells c' t fz)) (hs : supO d ob) :
    Rel E (μ.put H.nx p) (fun b => d b ∨ b = H.nx) (H.push ob) { w with heap := w.heap.setIfInBounds r (.cells c' t fz) } ∧
    Ext μ d H w (μ.put H.nx p) (fun b => d b ∨ b = H.nx) (H.push ob) { w with heap := w.heap.setIfInBounds r (.cells c' t fz) } ∧ Lt (fun b => d b ∨ b = H.nx) (H.push ob) := by
  have hnd : ¬ d H.nx := fun h => Nat.lt_irrefl _ (lt _ h)
  have ag : Agree d μ (μ.put H.nx p) := Mu.agree_put μ _ hnd
  have hne : ∀ b, d b → b ≠ H.nx := fun b hb e => hnd (e ▸ hb)
  have hin : r < w.heap.size := (Array.getElem?_eq_some_iff.1 hold).1
  have hget : ∀ q, (w.heap.setIfInBounds r (.cells c' t fz))[q]? = if q = r then some (.cells c' t fz) else w.heap[q]? := by
    intro q
    rw [Array.getElem?_setIfInBounds]
    by_cases e : q = r
    · subst e; simp [hin]
    · rw [if_neg (fun h => e h.symm), if_neg e]
  refine ⟨⟨?_, ?_, ?_, ?_, ?_, ?_, R.sym⟩, ⟨fun b h => .inl h, ag, by simp [Hp.push], ?_, by simp, ?_, ?_, ?_, ?_, rfl, rfl, rfl⟩, ?_⟩
  · intro b o hb hg
    rw [Hp.get_push] at hg
    rcases hb with hb | rfl
    · rw [if_neg (hne b hb)] at hg
      obtain ⟨o', h1, h2⟩ := R.ob b o hb hg
      rw [ag.1 b hb]
      by_cases hl : o.live = true
      · refine ⟨o', ?_, ObjR_agree ag (R.sp b o hb hg) h2⟩
        simp only [hget]
        rw [if_neg (hfree b o hb hg hl)]; exact h1
      · cases o <;> simp [AObj.live] at hl
        simp only [hget]
        split
        · exact ⟨_, rfl, trivial⟩
        · exact ⟨o', h1, trivial⟩
    · rw [if_pos rfl] at hg
      obtain rfl := Option.some.inj hg
      refine ⟨.cells c' t fz, ?_, ?_⟩
      · rw [Mu.put_self]; simp only [hget]; rw [if_pos hp]
      · rw [Mu.put_self]; exact ObjR_agree ag hs hO
  · intro b o hb hg
    rw [Hp.get_push] at hg
    rcases hb with hb | rfl
    · rw [if_neg (hne b hb)] at hg
      exact supO_mono (fun c hc => .inl hc) (R.sp b o hb hg)
    · rw [if_pos rfl] at hg
      obtain rfl := Option.some.inj hg
      exact supO_mono (fun c hc => .inl hc) hs
  · intro x y ox oy hx hy hgx hgy lx ly e
    rw [Hp.get_push] at hgx hgy
    rcases hx with hx | rfl <;> rcases hy with hy | rfl
    · rw [if_neg (hne x hx)] at hgx
      rw [if_neg (hne y hy)] at hgy
      rw [ag.1 x hx, ag.1 y hy] at e
      exact R.inj x y _ _ hx hy hgx hgy lx ly e
    · rw [if_neg (hne x hx)] at hgx
      rw [ag.1 x hx, Mu.put_self, hp] at e
      exact absurd e (hfree x _ hx hgx lx)
    · rw [if_neg (hne y hy)] at hgy
      rw [ag.1 y hy, Mu.put_self, hp] at e
      exact absurd e.symm (hfree y _ hy hgy ly)
    · rfl
  · intro b hb
    simp only [Array.size_setIfInBounds]
    rcases hb with hb | rfl
    · rw [ag.1 b hb]; exact R.inn b hb
    · rw [Mu.put_self, hp]; exact hin
  · intro b hb
    rw [Hp.nx_push] at hb
    rw [Hp.get_push, if_neg (by omega)]
    exact R.nxt b (by omega)
  · intro g hg
    have := R.glob g hg
    exact ⟨.inl this.1, by rw [ag.1 g this.1]; exact this.2⟩
  · intro b hb
    rcases hb with hb | rfl
    · exact .inl hb
    · exact .inr ⟨Nat.le_refl _, by simp [Hp.push]⟩
  · intro q hq hn
    simp only [hget]
    rw [if_neg (fun e => hn c0 h0 (h0r.trans e.symm))]
  · intro b hb hnb
    rcases hb with hb | rfl
    · exact absurd hb hnb
    · rw [Mu.put_self, hp]; exact .inr ⟨c0, h0, h0r⟩
  · intro b hb hnb
    rw [Hp.get_push, if_neg (by omega)]
  · intro q c1 t1 fz1 hq
    simp only [hget]
    by_cases e : q = r
    · subst e
      rw [hold] at hq
      cases hq
      exact ⟨c', fz, by rw [if_pos rfl], hsz⟩
    · exact ⟨c1, fz1, by rw [if_neg e]; exact hq, rfl⟩
  · intro b hb
    rw [Hp.nx_push]
    rcases hb with hb | rfl
    · have := lt b hb; omega
    · omega

theorem append_ok (EO : EnvOK E P) (R : Rel E μ d H w) (lt : Lt d H) {argTypes : Array TypeId} {ty : TypeId} {s x v : AV} {H' : Hp} (hs : sup d s) (hx : sup d x) (h : aAppend E argTypes s x H = some (v, H')) :
    ∃ μ' d' w', Rel E μ' d' H' w' ∧ Ext μ d H w μ' d' H' w' ∧ Lt d' H' ∧ (Builtin.append_ argTypes ty #[ren μ s, ren μ x]).run P w = .ok (ren μ' v) w' ∧ sup d' v := by
  unfold aAppend at h
  split at h
  · rename_i sT xT h0 h1
    split at h
    · rename_i e xd hu hxd
      split at h
      · rename_i sz i z hsz hi hz
        split at h
        · rename_i n new hsrc
          split at h
          · rename_i hck
            simp only [Bool.and_eq_true] at hck
            have hone := hck.1.1
            have hzl := Nat.eq_of_beq_eq_true hck.1.2
            have hnl := Nat.eq_of_beq_eq_true hck.2
            have ks := appSrc_ok EO R hx hi hsz hz hzl hsrc
            have kz := zero_ok EO hz
            split at h
            · -- onto nil
              have q := append_tail (ty := ty) EO R h0 h1 hu hxd hx hi hsz hz hzl hsrc none 0 0
              split at h
              · simp only [Option.some.injEq, Prod.mk.injEq] at h
                obtain ⟨rfl, rfl⟩ := h
                refine ⟨μ, d, w, R, .refl _ _ _ _, lt, ?_, hs⟩
                simp only [ren]
                rw [q]
                exact tail_fits (base := none) (w' := w) (Nat.le_refl _) ((ks.2 w ⟨w.drawn, rfl⟩).2) (fun a h => by cases h) (fun _ => rfl)
              · rename_i hn0
                split at h
                · rename_i hsm
                  simp only [Option.some.injEq, Prod.mk.injEq] at h
                  obtain ⟨rfl, rfl⟩ := h
                  have hnpos : 0 < 0 + n := by
                    rcases Nat.eq_zero_or_pos n with h | h
                    · exact absurd h (by simpa using hn0)
                    · omega
                  have hs2 : n ≤ 2 ^ 40 := by
                    simp only [smallCap, Bool.and_eq_true] at hsm
                    exact Nat.le_of_ble_eq_true hsm.2
                  obtain ⟨newCap, hle, hg⟩ := grow_ok (P := P) (need := n) (sCap := 0) EO R lt hsz hz hzl ks.1 hs2 i.bytes
                  obtain ⟨g1, g2, g3, g4⟩ := hg #[] (renL μ new).toArray (by simp)
                  refine ⟨_, _, _, g1, g2, g3, ?_, .inr rfl⟩
                  simp only [ren]
                  rw [q]
                  have t := tail_grow (P := P) (μ := μ) (w := w) (old := #[]) (new := (renL μ new).toArray) (newCap := newCap) (sz := sz) (base := none) (sLen := 0) (s := .slice none 0 0) (x := ren μ x) (zb := isIntD xd) EO hi hz hnpos (by simpa using hsm) (by simp [Builtin.firstCells])
                    ((ks.2 _ ⟨_, rfl⟩).2) (by simpa using g4) (fun _ => .inr trivial)
                  simp only [Nat.zero_add] at t
                  rw [t]
                  simp only [Mu.put_self, if_true]
                  congr 3
                  omega
                · cases h
            · -- onto a row
              rename_i b off len cap opn
              have hb : d b := by simpa only [sup] using hs
              split at h
              · rename_i cs e' hg
                split at h
                · rename_i hfit hee
                  have hee := Nat.eq_of_beq_eq_true hee
                  subst hee
                  have hcap : off + cap * sz ≤ cs.length := by
                    simp only [Bool.or_eq_true, Bool.and_eq_true] at hfit
                    rcases hfit with h | h
                    · have := Nat.eq_of_beq_eq_true h; omega
                    · exact Nat.le_of_ble_eq_true h.2
                  have q := append_tail (ty := ty) EO R h0 h1 hu hxd hx hi hsz hz hzl hsrc (some ⟨(μ.at_ b).blk, off + (μ.at_ b).sh, none⟩) len (if opn then cap + (μ.at_ b).sl else cap)
                  split at h
                  · rename_i hle
                    have hle := Nat.le_of_ble_eq_true hle
                    simp only [Option.some.injEq, Prod.mk.injEq] at h
                    obtain ⟨rfl, rfl⟩ := h
                    have hmul : (len + n) * sz ≤ cap * sz := Nat.mul_le_mul_right _ hle
                    have hsplit : (len + n) * sz = len * sz + n * sz := Nat.add_mul ..
                    obtain ⟨w', k1, k2, k3⟩ := row_write (P := P) (off := off + len * sz) (vs := new) R hb hg (by omega) hone ks.1
                    have e5 : off + len * sz + new.length = off + (len + n) * sz := by omega
                    rw [e5] at k2 k3
                    refine ⟨μ, d, w', k2, k3, lt_same lt rfl, ?_, by simpa only [sup] using hb⟩
                    simp only [ren]
                    rw [q]
                    refine tail_fits (by split <;> omega) ((ks.2 w ⟨w.drawn, rfl⟩).2) (fun a ha => ?_) (fun h => by cases h)
                    obtain rfl := Option.some.inj ha
                    rw [addr_add, show off + (μ.at_ b).sh + len * sz = off + len * sz + (μ.at_ b).sh by omega]
                    simpa using k1
                  · rename_i hle
                    have hle : ¬ len + n ≤ cap := fun h => by rw [Nat.ble_eq_true_of_le h] at hle; cases hle
                    have hold : len ≤ cap → ∀ k, (Builtin.firstCells sz len (.slice (some ⟨(μ.at_ b).blk, off + (μ.at_ b).sh, none⟩) len (if opn then cap + (μ.at_ b).sl else cap))).run P { w with drawn := k } =
                        .ok (renL μ ((cs.drop off).take (len * sz))).toArray { w with drawn := k } := by
                      intro hlc k
                      have hmul : len * sz ≤ cap * sz := Nat.mul_le_mul_right _ hlc
                      have hr : rowAt H b off (len * sz) = some ((cs.drop off).take (len * sz)) := by
                        unfold rowAt
                        rw [hg]
                        simp only
                        rw [Nat.ble_eq_true_of_le (show off + len * sz ≤ cs.length by omega)]
                      simp only [Builtin.firstCells]
                      exact (rowAt_ok (P := P) (rel_drawn (n := k) R) hb hr).1
                    have hcs := R.sp b _ hb hg
                    have hrow : supL d ((cs.drop off).take (len * sz) ++ new) := supL_append.2 ⟨supL_take (supL_drop hcs), ks.1⟩
                    split at h
                    · rename_i hsm
                      simp only [Bool.and_eq_true] at hsm
                      have hlc := Nat.le_of_ble_eq_true hsm.2
                      simp only [Option.some.injEq, Prod.mk.injEq] at h
                      obtain ⟨rfl, rfl⟩ := h
                      have hs2 : len + n ≤ 2 ^ 40 := by
                        have := hsm.1
                        simp only [smallCap, Bool.and_eq_true] at this
                        exact Nat.le_of_ble_eq_true this.2
                      obtain ⟨newCap, hle2, hgr⟩ := grow_ok (P := P) (need := len + n) (sCap := cap) EO R lt hsz hz hzl hrow hs2 i.bytes
                      obtain ⟨g1, g2, g3, g4⟩ := hgr (renL μ ((cs.drop off).take (len * sz))).toArray (renL μ new).toArray (by simp [renL_append])
                      refine ⟨_, _, _, g1, g2, g3, ?_, .inr rfl⟩
                      simp only [ren]
                      rw [q]
                      have t := tail_grow (P := P) (μ := μ) (w := w) (sz := sz) (base := some ⟨(μ.at_ b).blk, off + (μ.at_ b).sh, none⟩) (x := ren μ x) (zb := isIntD xd) EO hi hz (by omega) hsm.1 (hold hlc (w.drawn + 1))
                        ((ks.2 _ ⟨_, rfl⟩).2) g4 (fun _ => .inr trivial)
                      simp only [Bool.false_eq_true, if_false] at t ⊢
                      rw [t]
                      simp only [Mu.put_self, if_true]
                      congr 3
                      omega
                    · rename_i hsm
                      simp only [Bool.and_eq_true] at hsm
                      have hlc := Nat.le_of_ble_eq_true hsm.2
                      obtain ⟨hmult, h⟩ : off % sz = 0 ∧ some (AV.slice H.nx 0 (len + n) (len + n) true, (H.set b .dead).push (.row ((cs.drop off).take (len * sz) ++ new) e)) = some (v, H') := by
                        split at h
                        · rename_i q; exact ⟨Nat.eq_of_beq_eq_true q, h⟩
                        · cases h
                      simp only [Option.some.injEq, Prod.mk.injEq] at h
                      obtain ⟨rfl, rfl⟩ := h
                      have hs2 : len + n ≤ 2 ^ 40 := by
                        have := hsm.1
                        simp only [smallCap, Bool.and_eq_true] at this
                        exact Nat.le_of_ble_eq_true this.2
                      have kk := kill_ok R hb hg
                      have ltk : Lt d (H.set b .dead) := lt_same lt rfl
                      have hcap2 : off + cap * sz = cs.length := by
                        simp only [Bool.or_eq_true, Bool.and_eq_true] at hfit
                        rcases hfit with h | h
                        · exact Nat.eq_of_beq_eq_true h
                        · exact absurd h.1 (by simp)
                      simp only [if_true] at q hold ⊢
                      by_cases hfits : len + n ≤ cap + (μ.at_ b).sl
                      · obtain ⟨pre, post, fz, r1, r2, ⟨sz', r3, r4, ⟨k0, r6⟩, r7⟩, r5⟩ := row_ok R hb hg
                        obtain rfl : sz' = sz := Option.some.inj (r3.symm.trans hsz)
                        have hmul1 : len * sz' ≤ cap * sz' := Nat.mul_le_mul_right _ hlc
                        have hmul2 : (len + n) * sz' ≤ (cap + (μ.at_ b).sl) * sz' := Nat.mul_le_mul_right _ hfits
                        have hsp1 : (len + n) * sz' = len * sz' + n * sz' := Nat.add_mul ..
                        have hsp2 : (cap + (μ.at_ b).sl) * sz' = cap * sz' + sz' * (μ.at_ b).sl := by rw [Nat.add_mul, Nat.mul_comm (μ.at_ b).sl]
                        have htot : (pre ++ renL μ cs ++ post).length = (μ.at_ b).sh + cs.length + sz' * (μ.at_ b).sl := by simp [renL_length, r2, r4]; omega
                        have hwarm : Warm fz (pre ++ renL μ cs ++ post).toArray.size := by
                          rcases r7 with h | h
                          · exact .inl h
                          · exact .inr (by simp only [List.size_toArray, List.length_append, renL_length]; omega)
                        have st := storeCells_fz (P := P) (μ.at_ b).blk (off + len * sz' + (μ.at_ b).sh) e fz (renL μ new) 0 _ w r1 hwarm (by rw [List.size_toArray, htot, renL_length]; omega) (ones_ren hone ks.1)
                        rw [setRow_eq r1] at st
                        simp only [List.toList_toArray, Nat.add_zero, renL_length] at st
                        have hshape : (pre ++ renL μ cs ++ post).take (off + len * sz' + (μ.at_ b).sh) ++ renL μ new ++ (pre ++ renL μ cs ++ post).drop (off + len * sz' + (μ.at_ b).sh + new.length) =
                            (pre ++ renL μ cs ++ post).take ((μ.at_ b).sh + off) ++ renL μ ((cs.drop off).take (len * sz') ++ new) ++ (pre ++ renL μ cs ++ post).drop (off + len * sz' + (μ.at_ b).sh + new.length) := by
                          rw [renL_append, ← List.append_assoc]
                          congr 2
                          rw [show off + len * sz' + (μ.at_ b).sh = ((μ.at_ b).sh + off) + len * sz' by omega, List.take_add]
                          congr 1
                          rw [List.append_assoc, ← r2, List.drop_length_add_append, List.drop_append_of_le_length (by rw [renL_length]; omega), List.take_append_of_le_length (by rw [List.length_drop, renL_length]; omega), renL_take, renL_drop]
                        rw [hshape] at st
                        have ru := reuse_ok (p := ⟨(μ.at_ b).blk, (μ.at_ b).sh + off, cap + (μ.at_ b).sl - (len + n)⟩) (ob := .row ((cs.drop off).take (len * sz') ++ new) e)
                          (c' := ((pre ++ renL μ cs ++ post).take ((μ.at_ b).sh + off) ++ renL μ ((cs.drop off).take (len * sz') ++ new) ++ (pre ++ renL μ cs ++ post).drop (off + len * sz' + (μ.at_ b).sh + new.length)).toArray)
                          kk.1 ltk rfl hb rfl (fun c o hc hgc hl e' => by
                            rw [Hp.get_set] at hgc
                            by_cases ec : c = b
                            · rw [if_pos ec] at hgc
                              obtain rfl := Option.some.inj hgc
                              cases hl
                            · rw [if_neg ec] at hgc
                              exact ec (R.inj c b _ _ hc hb hgc hg hl rfl e'))
                          r1 (by rw [← hshape]; simp only [List.size_toArray, List.length_append, List.length_take, List.length_drop, renL_length]; simp only [List.length_append, renL_length] at htot; omega)
                          ⟨_, _, fz, rfl, by rw [List.length_take, htot]; simp only; omega, sz', hsz, by
                            rw [List.length_drop, htot, Nat.mul_sub, Nat.mul_add, Nat.mul_add, Nat.mul_comm sz' cap, Nat.mul_comm sz' len, Nat.mul_comm sz' n]; omega, ⟨off / sz' + k0, by
                            rw [List.length_take, htot, Nat.mul_add, ← r6, r2]
                            have hdm := Nat.div_add_mod off sz'
                            rw [hmult] at hdm
                            omega⟩, r7.imp id fun h => ⟨h.1, by
                              obtain ⟨_, h7⟩ := h
                              rw [List.length_take, List.length_drop, htot]
                              simp only [List.length_append, List.length_take, List.length_drop]
                              omega⟩⟩ hrow
                        refine ⟨_, _, _, ru.1, kk.2.trans ru.2.1 R.inn, ru.2.2, ?_, .inr rfl⟩
                        simp only [ren, if_true]
                        rw [q]
                        have tf := tail_fits (P := P) (e := e) (base := some ⟨(μ.at_ b).blk, off + (μ.at_ b).sh, none⟩) (s := .slice (some ⟨(μ.at_ b).blk, off + (μ.at_ b).sh, none⟩) len (cap + (μ.at_ b).sl)) (x := ren μ x) (zb := isIntD xd) (sz := sz') hfits ((ks.2 w ⟨w.drawn, rfl⟩).2) (fun a ha => by
                          obtain rfl := Option.some.inj ha
                          rw [addr_add, show off + (μ.at_ b).sh + len * sz' = off + len * sz' + (μ.at_ b).sh by omega]
                          exact st) (fun h => by cases h)
                        rw [tf]
                        have hnx : (H.set b .dead).nx = H.nx := rfl
                        rw [hnx, Mu.put_self]
                        simp only
                        congr 2
                        · simp only [Option.some.injEq, Addr.mk.injEq, true_and, and_true]; omega
                        · omega
                      · obtain ⟨newCap, hle2, hgr⟩ := grow_ok (P := P) (need := len + n) (sCap := cap + (μ.at_ b).sl) EO kk.1 ltk hsz hz hzl hrow hs2 i.bytes
                        obtain ⟨g1, g2, g3, g4⟩ := hgr (renL μ ((cs.drop off).take (len * sz))).toArray (renL μ new).toArray (by simp [renL_append])
                        refine ⟨_, _, _, g1, kk.2.trans g2 R.inn, g3, ?_, .inr rfl⟩
                        simp only [ren, if_true]
                        rw [q]
                        have t := tail_grow (P := P) (μ := μ) (w := w) (sz := sz) (base := some ⟨(μ.at_ b).blk, off + (μ.at_ b).sh, none⟩) (x := ren μ x) (zb := isIntD xd) EO hi hz (by omega) hsm.1 (hold hlc (w.drawn + 1))
                          ((ks.2 _ ⟨_, rfl⟩).2) g4 (fun _ => .inr trivial)
                        rw [t]
                        have hnx : (H.set b .dead).nx = H.nx := rfl
                        rw [hnx, Mu.put_self]
                        simp only
                        congr 3
                        omega
                    · cases h
                · cases h
              · cases h
            · cases h
          · cases h
        · cases h
      · cases h
    · cases h
  · cases h
end app
end Go.Xe
