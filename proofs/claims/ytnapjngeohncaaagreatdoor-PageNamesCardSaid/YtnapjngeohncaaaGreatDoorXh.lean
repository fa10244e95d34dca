import Derived.Test.YtnapjngeohncaaaGreatDoorXg
import Derived.LaidEql
import Derived.Laws.Cells
import Derived.Laws.CopyRow
import Derived.MapKept
set_option linter.unusedSimpArgs false
set_option linter.unusedVariables false
namespace Go.Xe
section reads
variable {E : Env} {P : Program} {μ : Mu} {d : Nat → Prop} {H : Hp} {w : World}

/-- a row in the real memory -/
theorem row_ok (R : Rel E μ d H w) {b : Nat} {cs : List AV} {e : TypeId} (hb : d b) (h : H.get b = some (.row cs e)) :
    ∃ (pre post : List Value) (fz : Nat × Nat), w.heap[(μ.at_ b).blk]? = some (.cells (pre ++ renL μ cs ++ post).toArray e fz) ∧ pre.length = (μ.at_ b).sh ∧ (∃ sz, E.size e = some sz ∧ post.length = sz * (μ.at_ b).sl ∧ (∃ k, pre.length = sz * k) ∧ (fz = (0, 0) ∨ (E.und e = some (.int .u8) ∧ pre.length + cs.length + post.length ≤ fz.1))) ∧ supL d cs := by
  obtain ⟨o', h1, pre, post, fz, rfl, h2, h3⟩ := R.ob b _ hb h
  exact ⟨pre, post, fz, h1, h2, h3, R.sp b _ hb h⟩
theorem cell_ok (R : Rel E μ d H w) {b : Nat} {cs : List AV} {e : TypeId} (hb : d b) (h : H.get b = some (.row cs e)) {i : Nat} {v : AV} (hv : cs[i]? = some v) :
    w.cell? ⟨(μ.at_ b).blk, i + (μ.at_ b).sh, none⟩ = some (ren μ v) ∧ sup d v := by
  obtain ⟨pre, post, fz, h1, h2, _, h4⟩ := row_ok R hb h
  have hlt : i < cs.length := (List.getElem?_eq_some_iff.1 hv).1
  refine ⟨?_, supL_get h4 hv⟩
  simp only [World.cell?, h1, Option.isSome_none, Bool.false_eq_true, if_false, List.getElem?_toArray]
  rw [List.append_assoc, List.getElem?_append_right (by omega), List.getElem?_append_left (by rw [renL_length]; omega), renL_get]
  rw [show i + (μ.at_ b).sh - pre.length = i by omega, hv]; rfl
theorem rowAt_ok (R : Rel E μ d H w) {b off n : Nat} {vs : List AV} (hb : d b) (h : rowAt H b off n = some vs) :
    (loadCells ⟨(μ.at_ b).blk, off + (μ.at_ b).sh, none⟩ n).run P w = .ok (renL μ vs).toArray w ∧ supL d vs ∧ vs.length = n := by
  unfold rowAt at h
  split at h
  · rename_i cs e hr
    split at h
    · rename_i hle
      obtain rfl := Option.some.inj h
      have hle' : off + n ≤ cs.length := Nat.le_of_ble_eq_true hle
      have hlen : ((cs.drop off).take n).length = n := by simp; omega
      have h4 := (R.sp b _ hb hr : supL d cs)
      refine ⟨?_, supL_take (supL_drop h4), hlen⟩
      have k := run_loadCells_list (P := P) w ⟨(μ.at_ b).blk, off + (μ.at_ b).sh, none⟩ (renL μ ((cs.drop off).take n)) (fun j v hj => by
        rw [addr_add]
        rw [renL_get] at hj
        obtain ⟨u, hu, rfl⟩ := Option.map_eq_some_iff.1 hj
        have hj' : cs[off + j]? = some u := by
          rw [List.getElem?_take] at hu
          split at hu
          · rwa [List.getElem?_drop] at hu
          · cases hu
        have := (cell_ok R hb hr hj').1
        rw [show off + (μ.at_ b).sh + j = off + j + (μ.at_ b).sh by omega]
        exact this)
      rw [renL_length, hlen] at k
      exact k
    · cases h
  · cases h
theorem load_ok (EO : EnvOK E P) (R : Rel E μ d H w) {t : TypeId} {b off : Nat} {v : AV} (hb : d b) (h : aLoad E H t b off = some v) :
    (loadVar t ⟨(μ.at_ b).blk, off + (μ.at_ b).sh, none⟩).run P w = .ok (ren μ v) w ∧ sup d v := by
  unfold aLoad at h
  split at h
  · rename_i n ha hn
    obtain ⟨vs, hvs, rfl⟩ := Option.map_eq_some_iff.1 h
    have k := rowAt_ok (P := P) R hb hvs
    exact ⟨by simp [loadVar, run_agg EO ha, run_size EO hn, k.1, ren], by simpa only [sup] using k.2.1⟩
  · rename_i n ha hn
    split at h
    · rename_i cs e hr
      have k := cell_ok R hb hr h
      exact ⟨by simp [loadVar, run_agg EO ha, k.1], k.2⟩
    · cases h
  · cases h

mutual
theorem sameAV_ok : ∀ {a b : AV}, sameAV a b = true → a = b
  | .v a, b, h => by
    cases b <;> simp only [sameAV] at h <;> first | (cases h; done) | skip
    rename_i b
    cases a with
    | pointer p =>
      cases p with
      | none =>
        cases b with
        | pointer q => cases q <;> simp_all [sameV]
        | _ => simp_all [sameV]
      | some p => cases b <;> simp_all [sameV]
    | slice p n c =>
      cases p with
      | none =>
        cases b with
        | slice q n' c' =>
          cases q with
          | none =>
            simp only [sameV, Bool.and_eq_true] at h
            rw [Nat.eq_of_beq_eq_true h.1, Nat.eq_of_beq_eq_true h.2]
          | some q => simp_all [sameV]
        | _ => simp_all [sameV]
      | some p => cases b <;> simp_all [sameV]
    | map p =>
      cases p with
      | none =>
        cases b with
        | map q => cases q <;> simp_all [sameV]
        | _ => simp_all [sameV]
      | some p => cases b <;> simp_all [sameV]
    | string s =>
      cases b <;> simp_all [sameV]
      rename_i t
      rw [bytesEq_iff] at h
      have h := of_decide_eq_true h
      cases s; cases t
      simp only [ByteArray.mk.injEq]
      exact Array.toList_inj.1 h
    | float k n =>
      cases b <;> simp_all [sameV]
    | _ => cases b <;> simp_all [sameV]
  | .sym, b, h => by cases b <;> simp_all [sameAV]
  | .ptr x o, b, h => by
    cases b <;> simp only [sameAV] at h <;> first | (cases h; done) | skip
    simp only [Bool.and_eq_true] at h
    rw [Nat.eq_of_beq_eq_true h.1, Nat.eq_of_beq_eq_true h.2]
  | .slice x o n c q, b, h => by
    cases b <;> simp only [sameAV] at h <;> first | (cases h; done) | skip
    simp only [Bool.and_eq_true, beq_iff_eq] at h
    rw [Nat.eq_of_beq_eq_true h.1.1.1.1, Nat.eq_of_beq_eq_true h.1.1.1.2, Nat.eq_of_beq_eq_true h.1.1.2, Nat.eq_of_beq_eq_true h.1.2, h.2]
  | .map x, b, h => by
    cases b <;> simp only [sameAV] at h <;> first | (cases h; done) | skip
    rw [Nat.eq_of_beq_eq_true h]
  | .yield x, b, h => by
    cases b <;> simp only [sameAV] at h <;> first | (cases h; done) | skip
    rw [Nat.eq_of_beq_eq_true h]
  | .func f x y, b, h => by
    cases b <;> simp only [sameAV] at h <;> first | (cases h; done) | skip
    simp only [Bool.and_eq_true] at h
    rw [Nat.eq_of_beq_eq_true h.1.1, sameAVs_ok h.1.2, sameAVs_ok h.2]
  | .iface t x, b, h => by
    cases b <;> simp only [sameAV] at h <;> first | (cases h; done) | skip
    simp only [Bool.and_eq_true] at h
    rw [Nat.eq_of_beq_eq_true h.1, sameAV_ok h.2]
  | .agg x, b, h => by
    cases b <;> simp only [sameAV] at h <;> first | (cases h; done) | skip
    rw [sameAVs_ok h]
  | .tuple x, b, h => by
    cases b <;> simp only [sameAV] at h <;> first | (cases h; done) | skip
    rw [sameAVs_ok h]
theorem sameAVs_ok : ∀ {a b : List AV}, sameAVs a b = true → a = b
  | [], b, h => by cases b <;> simp_all [sameAVs]
  | x :: xs, b, h => by
    cases b with
    | nil => simp [sameAVs] at h
    | cons y ys =>
      simp only [sameAVs, Bool.and_eq_true] at h
      rw [sameAV_ok h.1, sameAVs_ok h.2]
end

theorem isRow_ok {b : Nat} (h : isRow E H b = true) : ∃ cs e, H.get b = some (.row cs e) ∧ E.und e ≠ some (.int .u8) := by
  unfold isRow at h
  split at h
  · rename_i cs e hr
    refine ⟨cs, e, hr, fun hn => ?_⟩
    rw [hn] at h
    cases h
  · cases h

set_option maxHeartbeats 4000000 in
theorem eq_both (EO : EnvOK E P) (R : Rel E μ d H w) : ∀ n,
    (∀ t x y r, aEq E H n t x y = some r → sup d x → sup d y → ∀ D, n ≤ D → (Op.equalIn D t (ren μ x) (ren μ y)).run P w = .ok r w) ∧
    (∀ fs xs ys r, aEqF E H n fs xs ys = some r → supL d xs → supL d ys → ∀ D, n ≤ D → (Op.eqFields D (renL μ xs).toArray (renL μ ys).toArray fs).run P w = .ok r w) := by
  intro n
  induction n with
  | zero => exact ⟨fun t x y r h => by simp [aEq] at h, fun fs xs ys r h => by simp [aEqF] at h⟩
  | succ n ih =>
    refine ⟨fun t x y r h hx hy D hD => ?_, fun fs xs ys r h hx hy D hD => ?_⟩
    · obtain ⟨D, rfl⟩ : ∃ m, D = m + 1 := ⟨D - 1, by omega⟩
      have hD' : n ≤ D := by omega
      unfold aEq at h
      split at h
      · rename_i a b hu
        obtain rfl := Option.some.inj h
        simp [Op.equalIn, run_und EO hu, ren]
      · rename_i k' k a k2 b hu
        split at h
        · rename_i hk
          obtain rfl := of_decide_eq_true hk
          obtain rfl := Option.some.inj h
          simp [Op.equalIn, run_und EO hu, ren]
          rw [Bool.eq_iff_iff]; simp
        · cases h
      · rename_i k' k a k2 b hu
        split at h
        · rename_i hk
          obtain rfl := of_decide_eq_true hk
          obtain rfl := Option.some.inj h
          simp [Op.equalIn, run_und EO hu, ren]
        · cases h
      · rename_i a b hu
        obtain rfl := Option.some.inj h
        simp [Op.equalIn, run_und EO hu, ren, bytesEq_beq]
      · rename_i e hu
        obtain rfl := Option.some.inj h
        simp [Op.equalIn, run_und EO hu, ren]
      · rename_i e b off hu
        obtain rfl := Option.some.inj h
        simp [Op.equalIn, run_und EO hu, ren]
      · rename_i e b off hu
        obtain rfl := Option.some.inj h
        simp [Op.equalIn, run_und EO hu, ren]
      · rename_i e b off b' off' hu
        split at h
        · rename_i m hm
          split at h
          · rename_i hrow
            obtain rfl := Option.some.inj h
            simp only [Bool.and_eq_true] at hrow
            obtain ⟨cs, ty, hr, hn⟩ := isRow_ok hrow.1
            obtain ⟨cs', ty', hr', hn'⟩ := isRow_ok hrow.2
            simp only [sup] at hx hy
            obtain ⟨pre, post, fz, h1, h2, ⟨_, _, _, _, h3⟩, _⟩ := row_ok R hx hr
            obtain ⟨pre', post', fz', h1', h2', ⟨_, _, _, _, h3'⟩, _⟩ := row_ok R hy hr'
            obtain rfl : fz = (0, 0) := h3.resolve_right fun q => hn q.1
            obtain rfl : fz' = (0, 0) := h3'.resolve_right fun q => hn' q.1
            simp only [Op.equalIn, Sem.run_bind, run_und EO hu, Result.andThen_ok, ren, run_size EO hm]
            simp only [ne_eq, Nat.add_eq_zero_iff, Nat.succ_ne_self, and_false, not_false_eq_true, if_true]
            by_cases e1 : b = b'
            · subst e1
              by_cases e2 : off = off'
              · subst e2
                simp [run_sameAddr_same]
              · rw [beq_false e2]
                simp only [Nat.beq_refl, Bool.and_false, Nat.add_eq_zero_iff]
                rw [if_pos (by simp), run_sameAddr_other w (by simp [e2]) h1 h1]
            · rw [beq_false e1]
              have e3 : (μ.at_ b).blk ≠ (μ.at_ b').blk := fun e => e1 (R.inj b b' _ _ hx hy hr hr' rfl rfl e)
              rw [if_pos (by simp), run_sameAddr_other w (by simp [e3]) h1 h1']
              simp
          · cases h
        · cases h
      · rename_i e hu
        obtain rfl := Option.some.inj h
        simp [Op.equalIn, run_und EO hu, ren]
      · rename_i e tx vx hu
        obtain rfl := Option.some.inj h
        simp [Op.equalIn, run_und EO hu, ren]
      · rename_i e tx vx hu
        obtain rfl := Option.some.inj h
        simp [Op.equalIn, run_und EO hu, ren]
      · rename_i ms tx vx ty vy hu
        split at h
        · rename_i e1
          have e1 := Nat.ne_of_beq_eq_false e1
          obtain rfl := Option.some.inj h
          simp [Op.equalIn, run_und EO hu, ren, e1]
        · rename_i e1
          have e1 := Nat.eq_of_beq_eq_true e1
          subst e1
          split at h
          · rename_i i hi
            split at h
            · rename_i hc
              have k := ih.1 _ _ _ _ h (by simpa only [sup] using hx) (by simpa only [sup] using hy) D hD'
              simp [Op.equalIn, run_und EO hu, ren, run_info EO hi, hc, k]
            · cases h
          · cases h
      · rename_i fs xs ys hu
        split at h
        · rename_i u he
          have k := ih.2 _ _ _ _ h (by simpa only [sup] using hx) (by simpa only [sup] using hy) D hD'
          have hf : P.underlying t = some (.struct (P.fieldsOf t)) := by
            have := und_ok EO hu
            simp [Program.fieldsOf, this]
          have hf' : P.fieldsOf t = fs := by
            have := und_ok EO hu
            simp [Program.fieldsOf, this]
          simp only [ren]
          rw [run_equalIn_struct w D t _ _ hf (EO.eq _ _ he).1, hf']
          exact k
        · cases h
      all_goals first
        | (cases h; done)
        | (rename_i hu
           obtain rfl := Option.some.inj h
           simp [Op.equalIn, run_und EO hu, ren]
           done)
    · cases fs with
      | nil =>
        simp only [aEqF] at h
        obtain rfl := Option.some.inj h
        simp [Op.eqFields]
      | cons f fs =>
        simp only [aEqF] at h
        split at h
        · rename_i hn
          have hn := of_decide_eq_true hn
          simp only [Op.eqFields]
          rw [if_neg (by simp [hn])]
          exact ih.2 _ _ _ _ h hx hy D (by omega)
        · rename_i hn
          have hn := of_decide_eq_false hn
          split at h
          · rename_i a b ha hb
            have ka := part_ok EO (μ := μ) (d := d) ha hx w
            have kb := part_ok EO (μ := μ) (d := d) hb hy w
            simp only [Op.eqFields]
            rw [if_pos (by simpa using hn)]
            simp only [Sem.run_bind, ka.1, kb.1, Result.andThen_ok]
            split at h
            · rename_i he
              rw [ih.1 _ _ _ _ he ka.2 kb.2 D (by omega)]
              simp only [Result.andThen_ok]
              simpa using ih.2 _ _ _ _ h hx hy D (by omega)
            · rename_i he
              obtain rfl := Option.some.inj h
              rw [ih.1 _ _ _ _ he ka.2 kb.2 D (by omega)]
              simp
            · cases h
          · cases h
end reads
end Go.Xe
