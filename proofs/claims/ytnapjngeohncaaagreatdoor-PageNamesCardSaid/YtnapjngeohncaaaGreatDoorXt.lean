import Derived.Test.YtnapjngeohncaaaGreatDoorXs
set_option linter.unusedSimpArgs false
set_option linter.unusedVariables false
namespace Go.Xe
/-! ### masks -/
theorem bit_tb (m i : Nat) : bit m i = m.testBit i := by
  unfold bit
  rw [Nat.testBit_eq_decide_div_mod_eq, show Nat.shiftRight m i = m >>> i from rfl, Nat.shiftRight_eq_div_pow]
  by_cases h : m / 2 ^ i % 2 = 1
  · simp [h]
  · rw [beq_false h]; simp [h]
theorem bit_lor (a b i : Nat) : bit (Nat.lor a b) i = (bit a i || bit b i) := by
  simp only [bit_tb]
  exact Nat.testBit_or a b i
theorem bit_one (n i : Nat) : bit (Nat.shiftLeft 1 n) i = true → i = n := by
  rw [bit_tb, show Nat.shiftLeft 1 n = 1 <<< n from rfl, Nat.shiftLeft_eq, Nat.one_mul, Nat.testBit_two_pow]
  intro h
  exact (of_decide_eq_true h).symm
theorem bit_zero (i : Nat) : bit 0 i = false := by rw [bit_tb]; simp
theorem maskOf_bit (befs : List Nat) : ∀ (es : List Edge) (m0 j : Nat), bit (maskOf befs es m0) j = true →
    bit m0 j = true ∨ ∃ e ∈ es, Region.binds .any e = true ∧ (j = e.on ∨ ∃ y, befs[e.on]? = some y ∧ bit y j = true)
  | [], m0, j, h => .inl h
  | e :: es, m0, j, h => by
    unfold maskOf at h
    split at h
    · rename_i hb
      rcases maskOf_bit befs es _ j h with h1 | ⟨e', h1, h2⟩
      · rw [bit_lor, bit_lor, Bool.or_eq_true, Bool.or_eq_true] at h1
        rcases h1 with (h1 | h1) | h1
        · exact .inl h1
        · exact .inr ⟨e, List.mem_cons_self .., hb, .inl (bit_one _ _ h1)⟩
        · refine .inr ⟨e, List.mem_cons_self .., hb, .inr ?_⟩
          cases hy : befs[e.on]? with
          | none => rw [hy] at h1; simp [bit_zero] at h1
          | some y => rw [hy] at h1; exact ⟨y, rfl, h1⟩
      · exact .inr ⟨e', List.mem_cons_of_mem _ h1, h2⟩
    · rcases maskOf_bit befs es _ j h with h1 | ⟨e', h1, h2⟩
      · exact .inl h1
      · exact .inr ⟨e', List.mem_cons_of_mem _ h1, h2⟩
theorem befsOf_app : ∀ (os : List Oper) (acc : List Nat), ∃ R, befsOf os acc = acc ++ R ∧ R.length = os.length
  | [], acc => ⟨[], by simp [befsOf], rfl⟩
  | o :: os, acc => by
    obtain ⟨R, h1, h2⟩ := befsOf_app os (acc ++ [maskOf acc o.after.toList 0])
    exact ⟨maskOf acc o.after.toList 0 :: R, by rw [befsOf, h1]; simp, by simp [h2]⟩
theorem befsOf_get : ∀ (os : List Oper) (acc : List Nat) (k : Nat) (o : Oper), os[k]? = some o →
    (befsOf os acc)[acc.length + k]? = some (maskOf ((befsOf os acc).take (acc.length + k)) o.after.toList 0)
  | [], acc, k, o, h => by simp at h
  | p :: os, acc, 0, o, h => by
    obtain rfl : p = o := by simpa using h
    obtain ⟨R, h1, h2⟩ := befsOf_app os (acc ++ [maskOf acc p.after.toList 0])
    rw [befsOf, h1]
    simp
  | p :: os, acc, k + 1, o, h => by
    have := befsOf_get os (acc ++ [maskOf acc p.after.toList 0]) k o (by simpa using h)
    rw [befsOf]
    have e : acc.length + (k + 1) = (acc ++ [maskOf acc p.after.toList 0]).length + k := by simp; omega
    rw [e]
    exact this
theorem memN_iff {n : Nat} : ∀ {l : List Nat}, memN n l = true ↔ n ∈ l
  | [] => by simp [memN]
  | x :: xs => by
    unfold memN
    cases h : Nat.beq n x with
    | true => simp [Nat.eq_of_beq_eq_true h]
    | false => simp [Nat.ne_of_beq_eq_false h, memN_iff (l := xs)]
theorem clash_read {all : List Oper} {p o : Oper} {t : Tmp} (h : p.dst = some t) (k : t ∈ opNames all o) : clash all p o = true := by
  unfold clash
  rw [h]
  simp [memN_iff.2 k]
theorem clash_write {all : List Oper} {p o : Oper} {t : Tmp} (h : o.dst = some t) (k : t ∈ opNames all p) : clash all p o = true := by
  unfold clash
  rw [h]
  simp [memN_iff.2 k]
theorem clash_both {all : List Oper} {p o : Oper} {t : Tmp} (h : p.dst = some t) (k : o.dst = some t) : clash all p o = true := by
  unfold clash
  rw [h, k]
  simp
theorem apartFrom_ok {all : List Oper} {o : Oper} {m : Nat} : ∀ {ps : List Oper} {i : Nat}, apartFrom all o m ps i = true → ∀ k p, ps[k]? = some p → clash all p o = true → bit m (i + k) = true
  | [], i, h, k, p, hk, hc => by simp at hk
  | q :: ps, i, h, k, p, hk, hc => by
    unfold apartFrom at h
    rw [Bool.and_eq_true] at h
    cases k with
    | zero =>
      obtain rfl : q = p := by simpa using hk
      simpa [hc] using h.1
    | succ k =>
      have := apartFrom_ok h.2 k p (by simpa using hk) hc
      rwa [show i + 1 + k = i + (k + 1) by omega] at this
theorem apartAll_ok {all : List Oper} : ∀ {os : List Oper} {ms : List Nat} {j : Nat}, apartAll all os ms j = true → ∀ k o, os[k]? = some o →
    ∃ m, ms[k]? = some m ∧ apartFrom all o m (all.take (j + k)) 0 = true
  | [], ms, j, h, k, o, hk => by simp at hk
  | p :: os, [], j, h, k, o, hk => by simp [apartAll] at h
  | p :: os, m :: ms, j, h, k, o, hk => by
    unfold apartAll at h
    simp only [Bool.and_eq_true] at h
    cases k with
    | zero =>
      obtain rfl : p = o := by simpa using hk
      exact ⟨m, rfl, h.1⟩
    | succ k =>
      obtain ⟨m', h1, h2⟩ := apartAll_ok h.2 k o (by simpa using hk)
      exact ⟨m', by simpa using h1, by rwa [show j + 1 + k = j + (k + 1) by omega] at h2⟩
theorem backAll_ok : ∀ {os : List Oper} {j : Nat}, backAll os j = true → ∀ k o, os[k]? = some o → ∀ e ∈ o.after, Region.binds .any e = true → e.on < j + k
  | [], j, h, k, o, hk => by simp at hk
  | p :: os, j, h, k, o, hk => by
    unfold backAll at h
    rw [Bool.and_eq_true] at h
    cases k with
    | zero =>
      obtain rfl : p = o := by simpa using hk
      intro e he hb
      have := List.all_eq_true.1 h.1 e (by simpa using he)
      simpa [hb, Nat.blt_eq] using this
    | succ k =>
      intro e he hb
      have := backAll_ok h.2 k o (by simpa using hk) e he hb
      omega
theorem dsts_mem {o : Oper} {t : Tmp} (ht : o.dst = some t) : ∀ {all : List Oper}, o ∈ all → t ∈ dsts all
  | p :: ps, h => by
    unfold dsts
    rcases List.mem_cons.1 h with rfl | h
    · rw [ht]; exact List.mem_cons_self ..
    · have := dsts_mem ht h
      split
      · exact List.mem_cons_of_mem _ this
      · exact this
/-- what the masks say -/
structure Plan (all : List Oper) (ms : List Nat) : Prop where
  len : ms.length = all.length
  pre : ∀ (i : Nat) (o : Oper) (m j : Nat), all[i]? = some o → ms[i]? = some m → bit m j = true → ∃ e ∈ o.after, Region.binds .any e = true ∧ (j = e.on ∨ ∃ y, ms[e.on]? = some y ∧ bit y j = true)
  back : ∀ (i : Nat) (o : Oper), all[i]? = some o → ∀ e ∈ o.after, Region.binds .any e = true → e.on < i
  apart : ∀ (i j : Nat) (o p : Oper) (m : Nat), j < i → all[i]? = some o → all[j]? = some p → ms[i]? = some m → clash all p o = true → bit m j = true
theorem plan_ok {all : List Oper} (h : drawable all = true) : Plan all (befsOf all []) := by
  unfold drawable at h
  rw [Bool.and_eq_true] at h
  obtain ⟨R, h1, h2⟩ := befsOf_app all []
  refine ⟨by rw [h1]; simpa using h2, ?_, fun i o ho e he hb => by simpa using backAll_ok h.1 i o ho e he hb, ?_⟩
  · intro i o m j ho hm hb
    have k := befsOf_get all [] i o ho
    simp only [List.length_nil, Nat.zero_add] at k
    rw [hm] at k
    obtain rfl := Option.some.inj k
    rcases maskOf_bit _ _ _ _ hb with q | ⟨e, q1, q2, q3⟩
    · rw [bit_zero] at q; cases q
    · refine ⟨e, by simpa using q1, q2, ?_⟩
      rcases q3 with q3 | ⟨y, q3, q4⟩
      · exact .inl q3
      · refine .inr ⟨y, ?_, q4⟩
        rw [List.getElem?_take] at q3
        split at q3
        · exact q3
        · cases q3
  · intro i j o p m hji ho hp hm hc
    obtain ⟨m', k1, k2⟩ := apartAll_ok h.2 i o ho
    rw [hm] at k1
    obtain rfl := Option.some.inj k1
    have := apartFrom_ok k2 j p (by rw [Nat.zero_add, List.getElem?_take, if_pos hji]; exact hp) hc
    simpa using this

/-! ### the trace -/
inductive Knd where
  | skip | pure (v : AV) | read (tm : Tr AV) (v : AV) | alloc (ob : AObj) (g : Nat → AV) | eff | gone | fell
def Fact (E : Env) (ih : Job → Option (List Res)) (x : Ctx) (all : List Oper) (tm0 : Tr AV) (W : Walk) (s s1 : St) (i : Nat) (o : Oper) (m : Nat) : Knd → Prop
  | .skip => wanted all s.tm o = false ∧ s1 = s.put o.dst .undef
  | .pure v => wanted all s.tm o = true ∧ s1 = s.put o.dst v ∧ ∃ rt, restr s.hp.nx s.tm o = some rt ∧ aPure E rt o = some v
  | .read rt v => wanted all s.tm o = true ∧ s1 = s.put o.dst v ∧ restr s.hp.nx s.tm o = some rt ∧ ⟨i, m, o, rt, v⟩ ∈ W.reads
  | .alloc ob g => wanted all s.tm o = true ∧ s1 = { s with hp := s.hp.push ob }.put o.dst (g s.hp.nx) ∧ ∃ rt, restr s.hp.nx s.tm o = some rt ∧ aAllocF E rt o = some (ob, g)
  | .eff => wanted all s.tm o = true ∧ ∃ rt c v df pm h, restr s.hp.nx s.tm o = some rt ∧ fireOp E ih x o { s with tm := rt } = some [(c, .val v df pm h)] ∧
      (i, m) ∈ W.effs ∧ (i + 1, h) ∈ W.levs ∧ s.hp.nx ≤ h.nx ∧ s1 = s.fired o.dst v df pm h
  | .gone => s1 = s ∧ ∃ f, W.fall = some f ∧ bit m f = true
  | .fell => wanted all s.tm o = true ∧ s1 = s ∧ W.fall = some i ∧ ∃ rt c ch pm h, restr s.hp.nx s.tm o = some rt ∧ fireOp E ih x o { s with tm := rt } = some [(c, .fell ch pm h)] ∧
      (i, m) ∈ W.effs ∧ W.last = .out (.panic ch) { s with tm := tm0, pm := pm, hp := h }
structure Walk.le (W W' : Walk) : Prop where
  reads : ∀ r ∈ W.reads, r ∈ W'.reads
  effs : ∀ r ∈ W.effs, r ∈ W'.effs
  levs : ∀ r ∈ W.levs, r ∈ W'.levs
  fall : W'.fall = W.fall
  last : W'.last = W.last
theorem Fact.mono {E : Env} {ih : Job → Option (List Res)} {x : Ctx} {all : List Oper} {tm0 : Tr AV} {W W' : Walk} (l : W.le W') {s s1 : St} {i : Nat} {o : Oper} {m : Nat} {k : Knd}
    (h : Fact E ih x all tm0 W s s1 i o m k) : Fact E ih x all tm0 W' s s1 i o m k := by
  cases k with
  | skip => exact h
  | pure v => exact h
  | read rt v => exact ⟨h.1, h.2.1, h.2.2.1, l.reads _ h.2.2.2⟩
  | alloc ob g => exact h
  | eff =>
    obtain ⟨h1, rt, c, v, df, pm, hp, h2, h3, h4, h5, h6⟩ := h
    exact ⟨h1, rt, c, v, df, pm, hp, h2, h3, l.effs _ h4, l.levs _ h5, h6⟩
  | gone => obtain ⟨h1, f, h2, h3⟩ := h; exact ⟨h1, f, l.fall.trans h2, h3⟩
  | fell =>
    obtain ⟨h1, h2, h3, rt, c, ch, pm, hp, h4, h5, h6, h7⟩ := h
    exact ⟨h1, h2, l.fall.trans h3, rt, c, ch, pm, hp, h4, h5, l.effs _ h6, l.last.trans h7⟩
/-- the walk from 'j' on, seen as states -/
structure Trace (E : Env) (ih : Job → Option (List Res)) (x : Ctx) (all : List Oper) (ms : List Nat) (tm0 : Tr AV) (W : Walk) (S : Nat → St) (kd : Nat → Knd) (j : Nat) : Prop where
  fact : ∀ (i : Nat) (o : Oper) (m : Nat), j ≤ i → all[i]? = some o → ms[i]? = some m → Fact E ih x all tm0 W (S i) (S (i + 1)) i o m (kd i)
/-- the step from j to j + 1, and what comes behind -/
theorem Trace.cons {E : Env} {ih : Job → Option (List Res)} {x : Ctx} {all : List Oper} {ms : List Nat} {tm0 : Tr AV} {W W' : Walk} {S : Nat → St} {kd : Nat → Knd} {j : Nat} {s : St} {o : Oper} {m : Nat}
    (T : Trace E ih x all ms tm0 W S kd (j + 1)) (l : W.le W') (ho : all[j]? = some o) (hm : ms[j]? = some m) {K : Knd} (f : Fact E ih x all tm0 W' s (S (j + 1)) j o m K) :
    Trace E ih x all ms tm0 W' (fun k => if k = j then s else S k) (fun k => if k = j then K else kd k) j := by
  refine ⟨fun i o' m' hji ho' hm' => ?_⟩
  by_cases e : i = j
  · subst e
    rw [ho] at ho'
    rw [hm] at hm'
    obtain rfl := Option.some.inj ho'
    obtain rfl := Option.some.inj hm'
    simp only [if_true, if_neg (Nat.succ_ne_self i)]
    exact f
  · have : i + 1 ≠ j := by omega
    simp only [if_neg e, if_neg this]
    exact (T.fact i o' m' (by omega) ho' hm').mono l

section walk
variable {E : Env} {ih : Job → Option (List Res)} {x : Ctx} {all : List Oper} {ms : List Nat} {tm0 : Tr AV}
theorem drop_cons {α : Type} {l : List α} {j : Nat} {a : α} {as : List α} (h : l.drop j = a :: as) : l[j]? = some a ∧ l.drop (j + 1) = as := by
  have := List.getElem?_drop (xs := l) (i := j) (j := 0)
  rw [h] at this
  exact ⟨by simpa using this.symm, by rw [← List.drop_drop, h]; rfl⟩
theorem drop_nil {α : Type} {l : List α} {j i : Nat} (h : l.drop j = []) (hij : j ≤ i) : l[i]? = none :=
  List.getElem?_eq_none (Nat.le_trans (List.drop_eq_nil_iff.1 h) hij)
/-- which reads a walk may name -/
def RdsOK (kd : Nat → Knd) (ms : List Nat) (n j : Nat) (l : List Rd) : Prop := ∀ r ∈ l, j ≤ r.i ∧ r.i < n ∧ ms[r.i]? = some r.m

theorem restW_ok {f : Nat} {B : Hp} : ∀ (os : List Oper) (ms' : List Nat) (j : Nat) (s : St) (rds : List Rd), all.drop j = os → ms.drop j = ms' →
    restW E all f B os ms' j s = some rds → ∀ W : Walk, (∀ r ∈ rds, r ∈ W.reads) → W.fall = some f → ∃ S kd, S j = s ∧ Trace E ih x all ms tm0 W S kd j ∧ (∀ i, j ≤ i → kd i ≠ .eff ∧ kd i ≠ .fell) := by
  intro os
  induction os with
  | nil =>
    intro ms' j s rds ha hm h W hW hf
    refine ⟨fun _ => s, fun _ => .skip, rfl, ⟨fun i o m hji ho _ => ?_⟩, fun i _ => ⟨by simp, by simp⟩⟩
    rw [drop_nil ha hji] at ho
    cases ho
  | cons o os ih' =>
    intro ms' j s rds ha hm h W hW hf
    cases ms' with
    | nil => simp [restW] at h
    | cons m ms' =>
      obtain ⟨ho, ha'⟩ := drop_cons ha
      obtain ⟨hm0, hm'⟩ := drop_cons hm
      have fin : ∀ (s1 : St) (rds' : List Rd) (K : Knd), restW E all f B os ms' (j + 1) s1 = some rds' → (∀ r ∈ rds', r ∈ W.reads) → Fact E ih x all tm0 W s s1 j o m K → K ≠ .eff → K ≠ .fell →
          ∃ S kd, S j = s ∧ Trace E ih x all ms tm0 W S kd j ∧ (∀ i, j ≤ i → kd i ≠ .eff ∧ kd i ≠ .fell) := by
        intro s1 rds' K h1 h2 h3 h4 h5
        obtain ⟨S, kd, q1, q2, q3⟩ := ih' ms' (j + 1) s1 rds' ha' hm' h1 W h2 hf
        subst q1
        refine ⟨_, _, by simp, q2.cons ⟨fun _ h => h, fun _ h => h, fun _ h => h, rfl, rfl⟩ ho hm0 h3, fun i hi => ?_⟩
        by_cases e : i = j
        · simp only [if_pos e]; exact ⟨h4, h5⟩
        · simp only [if_neg e]; exact q3 i (by omega)
      unfold restW at h
      split at h
      · rename_i hb
        exact fin s rds .gone h hW ⟨rfl, f, hf, hb⟩ (by simp) (by simp)
      · split at h
        · rename_i hw
          exact fin _ rds .skip h hW ⟨hw, rfl⟩ (by simp) (by simp)
        · rename_i hw
          split at h
          · cases h
          · rename_i rt hrt
            split at h
            · rename_i v hv
              exact fin _ rds (.pure v) h hW ⟨hw, rfl, rt, hrt, hv⟩ (by simp) (by simp)
            · split at h
              · rename_i v hv
                obtain ⟨rds', h1, rfl⟩ := Option.map_eq_some_iff.1 h
                exact fin _ rds' (.read rt v) h1 (fun r hr => hW r (List.mem_cons_of_mem _ hr)) ⟨hw, rfl, hrt, hW _ (List.mem_cons_self ..)⟩ (by simp) (by simp)
              · split at h
                · rename_i ob g hv
                  exact fin _ rds (.alloc ob g) h hW ⟨hw, rfl, rt, hrt, hv⟩ (by simp) (by simp)
                · cases h

structure WalkOK (ms : List Nat) (n j : Nat) (S : Nat → St) (kd : Nat → Knd) (W : Walk) : Prop where
  effs : ∀ e ∈ W.effs, j ≤ e.1
  effk : ∀ e ∈ W.effs, kd e.1 = .eff ∨ kd e.1 = .fell
  effm : ∀ e ∈ W.effs, ms[e.1]? = some e.2
  asc : W.effs.Pairwise (fun a b => a.1 < b.1)
  levs : ∀ l ∈ W.levs, l.2 = (S l.1).hp ∧ j < l.1
  kds : ∀ i, j ≤ i → kd i = .fell → W.fall = some i
  fall : ∀ f, W.fall = some f → j ≤ f ∧ f < n ∧ kd f = .fell
  last : W.fall = none → W.last = .out .normal (S n)
theorem walkW_ok : ∀ (os : List Oper) (ms' : List Nat) (j : Nat) (B : Hp) (s : St) (W : Walk), all.drop j = os → ms.drop j = ms' → j ≤ all.length →
    walkW E ih x all tm0 os ms' j B s = some W → ∃ S kd, S j = s ∧ Trace E ih x all ms tm0 W S kd j ∧ WalkOK ms all.length j S kd W := by
  intro os
  induction os with
  | nil =>
    intro ms' j B s W ha hm hj h
    have hn : j = all.length := Nat.le_antisymm hj (List.drop_eq_nil_iff.1 ha)
    simp only [walkW, Option.some.injEq] at h
    subst h
    refine ⟨fun _ => s, fun _ => .skip, rfl, ⟨fun i o m hji ho _ => ?_⟩, ⟨by simp, by simp, by simp, by simp, by simp, (fun i _ h => by cases h), (fun f h => by cases h), (fun _ => rfl)⟩⟩
    rw [drop_nil ha hji] at ho
    cases ho
  | cons o os ih' =>
    intro ms' j B s W ha hm hj h
    cases ms' with
    | nil => simp [walkW] at h
    | cons m ms' =>
      obtain ⟨ho, ha'⟩ := drop_cons ha
      obtain ⟨hm0, hm'⟩ := drop_cons hm
      have hjl : j < all.length := (List.getElem?_eq_some_iff.1 ho).1
      have fin : ∀ (s1 : St) (B' : Hp) (W' : Walk) (K : Knd), walkW E ih x all tm0 os ms' (j + 1) B' s1 = some W' → W'.le W → W.fall = W'.fall → W.last = W'.last →
          (W.effs = W'.effs ∨ (W.effs = (j, m) :: W'.effs ∧ K = .eff)) → (W.levs = W'.levs ∨ W.levs = (j + 1, s1.hp) :: W'.levs) → Fact E ih x all tm0 W s s1 j o m K → K ≠ .fell →
          ∃ S kd, S j = s ∧ Trace E ih x all ms tm0 W S kd j ∧ WalkOK ms all.length j S kd W := by
        intro s1 B' W' K h1 h2 h3 h4 h5 h6 h7 h8
        obtain ⟨S, kd, q1, q2, q3⟩ := ih' ms' (j + 1) B' s1 W' ha' hm' hjl h1
        subst q1
        refine ⟨_, _, by simp, q2.cons h2 ho hm0 h7, ?_, ?_, ?_, ?_, ?_, ?_, ?_, ?_⟩
        · intro e he
          rcases h5 with h5 | ⟨h5, _⟩ <;> rw [h5] at he
          · exact Nat.le_of_succ_le (q3.effs e he)
          · rcases List.mem_cons.1 he with rfl | he
            · exact Nat.le_refl _
            · exact Nat.le_of_succ_le (q3.effs e he)
        · intro e he
          have old : ∀ e ∈ W'.effs, (if e.1 = j then K else kd e.1) = .eff ∨ (if e.1 = j then K else kd e.1) = .fell := by
            intro e he
            have := q3.effs e he
            have hne : e.1 ≠ j := by omega
            simp only [if_neg hne]
            exact q3.effk e he
          rcases h5 with h5 | ⟨h5, hK⟩ <;> rw [h5] at he
          · exact old e he
          · rcases List.mem_cons.1 he with rfl | he
            · simp only [if_true]; exact .inl hK
            · exact old e he
        · intro e he
          rcases h5 with h5 | ⟨h5, _⟩ <;> rw [h5] at he
          · exact q3.effm e he
          · rcases List.mem_cons.1 he with rfl | he
            · exact hm0
            · exact q3.effm e he
        · rcases h5 with h5 | ⟨h5, _⟩ <;> rw [h5]
          · exact q3.asc
          · exact List.pairwise_cons.2 ⟨fun e he => q3.effs e he, q3.asc⟩
        · intro l hl
          have : l.2 = (S l.1).hp ∧ j < l.1 := by
            rcases h6 with h6 | h6 <;> rw [h6] at hl
            · have := q3.levs l hl; exact ⟨this.1, by omega⟩
            · rcases List.mem_cons.1 hl with rfl | hl
              · exact ⟨rfl, Nat.lt_succ_self _⟩
              · have := q3.levs l hl; exact ⟨this.1, by omega⟩
          have hne : l.1 ≠ j := by omega
          simp only [if_neg hne]
          exact this
        · intro i hi hk
          by_cases e : i = j
          · simp only [if_pos e] at hk; exact absurd hk h8
          · simp only [if_neg e] at hk; rw [h3]; exact q3.kds i (by omega) hk
        · intro f hf
          rw [h3] at hf
          obtain ⟨a1, a2, a3⟩ := q3.fall f hf
          have hne : f ≠ j := by omega
          simp only [if_neg hne]
          exact ⟨by omega, a2, a3⟩
        · intro hf
          rw [h4, q3.last (h3 ▸ hf)]
          have hne : all.length ≠ j := by omega
          simp only [if_neg hne]
      unfold walkW at h
      split at h
      · rename_i hw
        exact fin _ _ W .skip h ⟨fun _ h => h, fun _ h => h, fun _ h => h, rfl, rfl⟩ rfl rfl (.inl rfl) (.inl rfl) ⟨hw, rfl⟩ (by simp)
      · rename_i hw
        split at h
        · cases h
        · rename_i rt hrt
          split at h
          · rename_i v hv
            exact fin _ _ W (.pure v) h ⟨fun _ h => h, fun _ h => h, fun _ h => h, rfl, rfl⟩ rfl rfl (.inl rfl) (.inl rfl) ⟨hw, rfl, rt, hrt, hv⟩ (by simp)
          · split at h
            · rename_i v hv
              obtain ⟨W', h1, rfl⟩ := Option.map_eq_some_iff.1 h
              exact fin _ _ W' (.read rt v) h1 ⟨fun r hr => List.mem_cons_of_mem _ hr, fun _ h => h, fun _ h => h, rfl, rfl⟩ rfl rfl (.inl rfl) (.inl rfl)
                ⟨hw, rfl, hrt, List.mem_cons_self ..⟩ (by simp)
            · split at h
              · rename_i ob g hv
                exact fin _ _ W (.alloc ob g) h ⟨fun _ h => h, fun _ h => h, fun _ h => h, rfl, rfl⟩ rfl rfl (.inl rfl) (.inl rfl) ⟨hw, rfl, rt, hrt, hv⟩ (by simp)
              · split at h
                · rename_i c v df pm hp hv
                  split at h
                  · rename_i hle
                    obtain ⟨W', h1, rfl⟩ := Option.map_eq_some_iff.1 h
                    have ehp : (s.fired o.dst v df pm hp).hp = hp := by rw [St.fired, put_hp]
                    exact fin _ _ W' .eff h1 ⟨fun _ h => h, fun r hr => List.mem_cons_of_mem _ hr, fun r hr => List.mem_cons_of_mem _ hr, rfl, rfl⟩ rfl rfl (.inr ⟨rfl, rfl⟩) (.inr (by rw [ehp]; rfl))
                      ⟨hw, rt, c, v, df, pm, hp, hrt, hv, List.mem_cons_self .., List.mem_cons_self .., Nat.le_of_ble_eq_true hle, rfl⟩ (by simp)
                  · cases h
                · rename_i c ch pm hp hv
                  obtain ⟨rds, h1, rfl⟩ := Option.map_eq_some_iff.1 h
                  obtain ⟨S, kd, q1, q2, q3⟩ := restW_ok (E := E) (ih := ih) (x := x) (tm0 := tm0) os ms' (j + 1) s rds ha' hm' h1 ⟨rds, [(j, m)], [], some j, .out (.panic ch) { s with tm := tm0, pm := pm, hp := hp }⟩ (fun r hr => hr) rfl
                  subst q1
                  refine ⟨_, _, by simp, q2.cons (K := .fell) ⟨fun _ h => h, fun _ h => h, fun _ h => h, rfl, rfl⟩ ho hm0 ⟨hw, rfl, rfl, rt, c, ch, pm, hp, hrt, hv, List.mem_singleton.2 rfl, rfl⟩, ?_, ?_, ?_, ?_, ?_, ?_, ?_, ?_⟩
                  · intro e he; obtain rfl := List.mem_singleton.1 he; exact Nat.le_refl _
                  · intro e he; obtain rfl := List.mem_singleton.1 he; simp
                  · intro e he; obtain rfl := List.mem_singleton.1 he; exact hm0
                  · simp
                  · intro l hl; cases hl
                  · intro i hi hk
                    by_cases e : i = j
                    · rw [e]
                    · simp only [if_neg e] at hk; exact absurd hk (q3 i (by omega)).2
                  · intro f hf
                    obtain rfl := Option.some.inj hf
                    exact ⟨Nat.le_refl _, hjl, by simp⟩
                  · intro hf; cases hf
                · cases h
end walk
end Go.Xe
