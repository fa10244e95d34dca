import Derived.Test.YtnapjngeohncaaaGreatDoorXv
set_option linter.unusedSimpArgs false
set_option linter.unusedVariables false
namespace Go.Xe
/-- where a drawn region stands: 'L' is done; 'l' is the number behind the last effect -/
structure Inv (E : Env) (all : Array Oper) (ms : List Nat) (W : Walk) (S : Nat → St) (kd : Nat → Knd) (μ0 : Mu) (d0 : Nat → Prop) (w0 : World)
    (L : Nat → Prop) (l : Nat) (μ : Mu) (d : Nat → Prop) (V : Hp) (w : World) (tm : Array Value) : Prop where
  rel : Rel E μ d V w
  dn : ∀ i, L i → i < all.size
  down : ∀ (i m j : Nat), L i → ms[i]? = some m → bit m j = true → L j
  nofall : ∀ f, W.fall = some f → ¬ L f
  ln : l ≤ all.size
  lev : l = 0 ∨ (l, (S l).hp) ∈ W.levs
  levL : ∀ e ∈ W.effs, (e.1 < l ↔ L e.1)
  low : ∀ b, b < (S l).hp.nx → V.get b = (S l).hp.get b
  bnx : ∀ b, (S l).hp.nx ≤ b → (S l).hp.get b = none
  vnx : (S l).hp.nx ≤ V.nx
  pend : ∀ b, d b → (S l).hp.nx ≤ b → ∃ i ob g, L i ∧ l ≤ i ∧ kd i = .alloc ob g ∧ b = (S i).hp.nx ∧ V.get b = some ob
  far : ∀ c, d c → (S l).hp.nx ≤ c → ∀ b, d b → b ≠ c → (μ.at_ b).blk ≠ (μ.at_ c).blk
  wf : ∀ b o, d b → V.get b = some o → supO (fun c => c < max (S l).hp.nx b) o
  out : ∀ i ob g, i < all.size → ¬ L i → kd i = .alloc ob g → ¬ d (S i).hp.nx ∧ (i < l → (S l).hp.get (S i).hp.nx = some ob)
  ext : Ext μ0 d0 (S 0).hp w0 μ d V w
  tms : ∀ t, ∃ m, m ≤ all.size ∧ tm.getD t undef = ren μ (tget (S m).tm t) ∧ sup d (tget (S m).tm t) ∧ (∀ i o, L i → all[i]? = some o → o.dst = some t → i < m) ∧
    (m = 0 ∨ ∃ o, L (m - 1) ∧ all[m - 1]? = some o ∧ o.dst = some t)
  tsz : tm.size = (S 0).sz
  df : ∀ y ∈ (S l).df, supD (fun c => d c ∧ c < (S l).hp.nx) y
  pm : supM (fun c => d c ∧ c < (S l).hp.nx) (S l).pm
  ng : E.ng ≤ (S 0).hp.nx
  lt0 : Lt d0 (S 0).hp

section inv
variable {E : Env} {P : Program} {ih : Job → Option (List Res)} {x : Ctx} {all : Array Oper} {ms : List Nat} {tm0 : Tr AV} {W : Walk} {S : Nat → St} {kd : Nat → Knd}
  {μ0 : Mu} {d0 : Nat → Prop} {w0 : World} {L : Nat → Prop} {l : Nat} {μ : Mu} {d : Nat → Prop} {V : Hp} {w : World} {tm : Array Value}

theorem Dr.eff_mem (D : Dr E ih x all ms tm0 W S kd) {i : Nat} (hi : i < all.size) (hk : kd i = .eff) : ∃ m, ms[i]? = some m ∧ (i, m) ∈ W.effs := by
  obtain ⟨o, m, _, hm, f⟩ := D.at_ hi
  rw [hk] at f
  obtain ⟨_, _, _, _, _, _, _, _, _, h, _⟩ := f
  exact ⟨m, hm, h⟩

/-- what an operation that may come next reads -/
theorem Inv.reads (I : Inv E all ms W S kd μ0 d0 w0 L l μ d V w tm) (D : Dr E ih x all ms tm0 W S kd) {i : Nat} {o : Oper} {m : Nat} (ho : all[i]? = some o) (hm : ms[i]? = some m) (hi : ¬ L i)
    (hr : ∀ j, bit m j = true → L j) {t : Tmp} (ht : t ∈ opNames all.toList o) : tm.getD t undef = ren μ (tget (S i).tm t) ∧ sup d (tget (S i).tm t) := by
  obtain ⟨v, hv, h1, h2, h3, h4⟩ := I.tms t
  have hil : i < all.size := (Array.getElem?_eq_some_iff.1 ho).1
  have key : tget (S i).tm t = tget (S v).tm t := by
    rcases Nat.lt_or_ge i v with h | h
    · -- a later writer is done: impossible
      rcases h4 with h4 | ⟨p, q1, q2, q3⟩
      · omega
      · have hne : v - 1 ≠ i := fun e => hi (e ▸ q1)
        have hlt : i < v - 1 := by omega
        have hv1 : v - 1 < ms.length := by rw [D.plan.len]; have := I.dn _ q1; simpa using this
        have hb := D.plan.apart (v - 1) i p o _ hlt (by simpa using q2) (by simpa using ho) (List.getElem?_eq_getElem hv1) (clash_write q3 ht)
        exact absurd (I.down _ _ _ q1 (List.getElem?_eq_getElem hv1) hb) hi
    · refine D.tab h (by omega) fun k p hvk hki hp hd => ?_
      have hb := D.plan.apart i k o p m hki (by simpa using ho) (by simpa using hp) hm (clash_read hd ht)
      have := h3 k p (hr k hb) hp hd
      omega
  rw [key]
  exact ⟨h1, h2⟩
theorem names_op {o : Oper} {t : Tmp} (h : Operand.tmp t ∈ o.op.operands) : t ∈ opNames all.toList o := by
  unfold opNames
  refine List.mem_append_left _ (List.mem_filterMap.2 ⟨.tmp t, Array.mem_toList_iff.2 h, rfl⟩)
theorem names_guard {o p : Oper} {g : Nat} {wnt : Bool} {c : Tmp} (hg : o.guard = some (g, wnt)) (hp : all[g]? = some p) (hc : p.dst = some c) : c ∈ opNames all.toList o := by
  unfold opNames
  refine List.mem_append_right _ ?_
  have : all.toList[g]? = some p := by simpa using hp
  simp only [hg, this, hc, Option.toList]
  exact List.mem_singleton.2 rfl
theorem Inv.wanted (I : Inv E all ms W S kd μ0 d0 w0 L l μ d V w tm) (D : Dr E ih x all ms tm0 W S kd) {i : Nat} {o : Oper} {m : Nat} (ho : all[i]? = some o) (hm : ms[i]? = some m) (hi : ¬ L i)
    (hr : ∀ j, bit m j = true → L j) : Region.wanted o (yielded all tm) = wanted all.toList (S i).tm o :=
  yielded_ok fun g wnt p c hg hp hc => (I.reads D ho hm hi hr (names_guard hg hp hc)).1
/-- what the operation sees of its operands -/
def rho (fr : Frame) (μ : Mu) (rt : Tr AV) : Operand → Value
  | .tmp t => ren μ (tget rt t)
  | y => fr.eval y
theorem Inv.oper (I : Inv E all ms W S kd μ0 d0 w0 L l μ d V w tm) (D : Dr E ih x all ms tm0 W S kd) {i : Nat} {o : Oper} {m : Nat} (ho : all[i]? = some o) (hm : ms[i]? = some m) (hi : ¬ L i)
    (hr : ∀ j, bit m j = true → L j) {rt : Tr AV} (hrt : restr (S i).hp.nx (S i).tm o = some rt) (b : Frame) (df : List Deferred) (todo : List Item) :
    execOp (bat b tm df todo).eval o = execOp (rho (bat b tm df todo) μ rt) o ∧ (∀ t, sup d (tget rt t)) ∧ (∀ t, sup (fun c => d c ∧ c < (S i).hp.nx) (tget rt t)) := by
  obtain ⟨hs, h1, h2⟩ := restr_ok hrt
  have hsup : ∀ t, sup d (tget rt t) := by
    intro t
    by_cases h : Operand.tmp t ∈ o.op.operands
    · rw [(h1 t h).1]; exact (I.reads D ho hm hi hr (names_op h)).2
    · rw [h2 t h]; exact sup_undef d
  refine ⟨execOp_congr o hs fun y hy => ?_, hsup, fun t => ?_⟩
  · cases y with
    | tmp t =>
      show tm.getD t undef = ren μ (tget rt t)
      rw [(h1 t hy).1]
      exact (I.reads D ho hm hi hr (names_op hy)).1
    | _ => rfl
  · by_cases h : Operand.tmp t ∈ o.op.operands
    · exact low_and _ (hsup t) (h1 t h).2
    · rw [h2 t h]; exact sup_undef _
theorem opR_rho {H : Hp} {e : Nat → Prop} (R : Rel E μ e H w) {rt : Tr AV} (h : ∀ t, sup e (tget rt t)) (b : Frame) (tm : Array Value) (df : List Deferred) (todo : List Item) :
    OpR E μ e rt (rho (bat b tm df todo) μ rt) :=
  opR_any R (fun t => ⟨rfl, h t⟩) (fun _ => rfl) (fun _ => rfl) (fun _ => rfl)

/-- the table behind one more operation -/
theorem tms_step (D : Dr E ih x all ms tm0 W S kd) (I : Inv E all ms W S kd μ0 d0 w0 L l μ d V w tm) {i : Nat} {o : Oper} {m : Nat} (ho : all[i]? = some o) (hm : ms[i]? = some m) (hi : ¬ L i)
    {ν : Mu} {e : Nat → Prop} (ag : Agree d μ ν) (hd : ∀ b, d b → e b) {v : AV} (hv : sup e v) (hS : ∀ t, o.dst = some t → t < (S 0).sz → tget (S (i + 1)).tm t = v) :
    ∀ t, ∃ m, m ≤ all.size ∧ (putA tm o.dst (ren ν v)).getD t undef = ren ν (tget (S m).tm t) ∧ sup e (tget (S m).tm t) ∧
      (∀ j p, (L j ∨ j = i) → all[j]? = some p → p.dst = some t → j < m) ∧ (m = 0 ∨ ∃ p, (L (m - 1) ∨ m - 1 = i) ∧ all[m - 1]? = some p ∧ p.dst = some t) := by
  intro t
  have hil : i < all.size := (Array.getElem?_eq_some_iff.1 ho).1
  by_cases hdt : o.dst = some t
  · have htz := D.dst i o t ho hdt
    have hg := hS t hdt htz
    refine ⟨i + 1, hil, ?_, by rw [hg]; exact hv, ?_, .inr ⟨o, .inr rfl, ho, hdt⟩⟩
    · rw [putA_get, I.tsz, if_pos ⟨hdt, htz⟩, hg]
    · intro j p hj hp hpt
      rcases hj with hj | rfl
      · rcases Nat.lt_or_ge i j with h | h
        · have hjm : j < ms.length := by rw [D.plan.len]; have := I.dn _ hj; simpa using this
          have hb := D.plan.apart j i p o _ h (by simpa using hp) (by simpa using ho) (List.getElem?_eq_getElem hjm) (clash_both hdt hpt)
          exact absurd (I.down _ _ _ hj (List.getElem?_eq_getElem hjm) hb) hi
        · omega
      · omega
  · obtain ⟨q, h0, h1, h2, h3, h4⟩ := I.tms t
    refine ⟨q, h0, ?_, sup_mono hd _ h2, ?_, ?_⟩
    · rw [putA_get, if_neg (fun h => hdt h.1), h1, ren_agree ag _ h2]
    · intro j p hj hp hpt
      rcases hj with hj | rfl
      · exact h3 j p hj hp hpt
      · rw [ho] at hp
        obtain rfl := Option.some.inj hp
        exact absurd hpt hdt
    · rcases h4 with h4 | ⟨p, q1, q2, q3⟩
      · exact .inl h4
      · exact .inr ⟨p, .inl q1, q2, q3⟩
theorem Inv.next_fields (D : Dr E ih x all ms tm0 W S kd) (I : Inv E all ms W S kd μ0 d0 w0 L l μ d V w tm) {i : Nat} {m : Nat} (hil : i < all.size) (hm : ms[i]? = some m) 
    (hr : ∀ j, bit m j = true → L j) (hf : W.fall ≠ some i) : (∀ j, (L j ∨ j = i) → j < all.size) ∧ (∀ (j q k : Nat), (L j ∨ j = i) → ms[j]? = some q → bit q k = true → L k ∨ k = i) ∧
      ∀ f, W.fall = some f → ¬ (L f ∨ f = i) := by
  refine ⟨fun j hj => ?_, fun j q k hj hq hb => ?_, fun f h hj => ?_⟩
  · rcases hj with hj | rfl
    · exact I.dn j hj
    · exact hil
  · rcases hj with hj | rfl
    · exact .inl (I.down j q k hj hq hb)
    · rw [hm] at hq
      obtain rfl := Option.some.inj hq
      exact .inl (hr k hb)
  · rcases hj with hj | rfl
    · exact I.nofall f h hj
    · exact hf h
/-- an operation that leaves the memory as it is -/
theorem Inv.value (D : Dr E ih x all ms tm0 W S kd) (I : Inv E all ms W S kd μ0 d0 w0 L l μ d V w tm) {i : Nat} {o : Oper} {m : Nat} (ho : all[i]? = some o) (hm : ms[i]? = some m) (hi : ¬ L i)
    (hr : ∀ j, bit m j = true → L j) (hk : kd i ≠ .eff ∧ kd i ≠ .fell ∧ ∀ ob g, kd i ≠ .alloc ob g) {v : AV} (hv : sup d v) (hS : S (i + 1) = (S i).put o.dst v) :
    Inv E all ms W S kd μ0 d0 w0 (fun j => L j ∨ j = i) l μ d V w (putA tm o.dst (ren μ v)) := by
  have hil : i < all.size := (Array.getElem?_eq_some_iff.1 ho).1
  have hf : W.fall ≠ some i := fun h => hk.2.1 (D.ok.fall i h).2.2
  obtain ⟨n1, n2, n3⟩ := I.next_fields D hil hm hr hf
  refine ⟨I.rel, n1, n2, n3, I.ln, I.lev, ?_, I.low, I.bnx, I.vnx, ?_, I.far, I.wf, ?_, I.ext, ?_, by rw [putA_size]; exact I.tsz, I.df, I.pm, I.ng, I.lt0⟩
  · intro e he
    rw [I.levL e he]
    refine ⟨.inl, fun h => h.resolve_right fun q => ?_⟩
    obtain ⟨e1, e2⟩ := e
    exact (D.ok.effk _ he).elim (fun h => hk.1 (q ▸ h)) (fun h => hk.2.1 (q ▸ h))
  · intro b hb hn
    obtain ⟨j, ob, g, q1, q2⟩ := I.pend b hb hn
    exact ⟨j, ob, g, .inl q1, q2⟩
  · intro j ob g hj hnl hkj
    exact I.out j ob g hj (fun h => hnl (.inl h)) hkj
  · refine tms_step D I ho hm hi (.refl _ _) (fun _ h => h) hv fun t ht hz => ?_
    rw [hS, put_get, if_pos ⟨ht, by rw [D.sz (by omega)]; exact hz⟩]

theorem Inv.alloc (EO : EnvOK E P) (D : Dr E ih x all ms tm0 W S kd) (I : Inv E all ms W S kd μ0 d0 w0 L l μ d V w tm) {i : Nat} {o : Oper} {m : Nat} (ho : all[i]? = some o) (hm : ms[i]? = some m) (hi : ¬ L i)
    (hr : ∀ j, bit m j = true → L j) {ob : AObj} {g : Nat → AV} (hk : kd i = .alloc ob g) (b : Frame) (df : List Deferred) (todo : List Item) :
    ∃ O, (execOp (bat b tm df todo).eval o).run P w = .ok (.value (ren (μ.put (S i).hp.nx ⟨w.heap.size, 0, 0⟩) (g (S i).hp.nx))) (w.alloc O) ∧ Agree d μ (μ.put (S i).hp.nx ⟨w.heap.size, 0, 0⟩) ∧
      ∃ V', Inv E all ms W S kd μ0 d0 w0 (fun j => L j ∨ j = i) l (μ.put (S i).hp.nx ⟨w.heap.size, 0, 0⟩) (fun c => d c ∨ c = (S i).hp.nx) V' (w.alloc O)
        (putA tm o.dst (ren (μ.put (S i).hp.nx ⟨w.heap.size, 0, 0⟩) (g (S i).hp.nx))) := by
  have hil : i < all.size := (Array.getElem?_eq_some_iff.1 ho).1
  have f := D.fact i o m ho hm
  rw [hk] at f
  obtain ⟨_, hS, rt, hrt, ha⟩ := f
  obtain ⟨hev, hs1, hs2⟩ := I.oper D ho hm hi hr hrt b df todo
  have hng : E.ng ≤ (S i).hp.nx := Nat.le_trans I.ng (D.nx (Nat.zero_le _) (by omega))
  have R0 := I.rel.bare hng
  obtain ⟨V0, O, k1, k2, k3, k4, k5, k6⟩ := alloc_sound EO (opR_rho R0 hs2 b tm df todo) R0 (allocF_ok ha)
  obtain ⟨hnd, hlow⟩ := I.out i ob g hil hi hk
  have kf := k6 (μ.put (S i).hp.nx ⟨w.heap.size, 0, 0⟩) (S i).hp.nx (Mu.put_self _ _ _)
  have made := D.made hil hk
  have ag := Mu.agree_put μ (⟨w.heap.size, 0, 0⟩ : Pl) hnd
  have hgt : ∀ c, (⟨(V.set (S i).hp.nx ob).tr, max V.nx ((S i).hp.nx + 1)⟩ : Hp).get c = if c = (S i).hp.nx then some ob else V.get c := fun c => Hp.get_set _ _ _ _
  have hne : ∀ c, d c → c ≠ (S i).hp.nx := fun c hc e => hnd (e ▸ hc)
  have hf : W.fall ≠ some i := fun h => by
    have := (D.ok.fall i h).2.2
    rw [hk] at this
    cases this
  obtain ⟨n1, n2, n3⟩ := I.next_fields D hil hm hr hf
  refine ⟨O, by rw [hev, kf.1]; exact k1, ag, ⟨(V.set (S i).hp.nx ob).tr, max V.nx ((S i).hp.nx + 1)⟩, ?_, n1, n2, n3, I.ln, I.lev, ?_, ?_, I.bnx, ?_, ?_, ?_, ?_, ?_, ?_, ?_, by rw [putA_size]; exact I.tsz, ?_, ?_, I.ng, I.lt0⟩
  · exact put_rel I.rel hnd rfl k2 (supO_mono (fun _ h => h.1) k3) hgt (Nat.le_max_left _ _) (Nat.lt_of_lt_of_le (Nat.lt_succ_self _) (Nat.le_max_right _ _))
  · intro e he
    rw [I.levL e he]
    refine ⟨.inl, fun h => h.resolve_right fun q => ?_⟩
    rcases D.ok.effk _ he with h | h <;> rw [q, hk] at h <;> cases h
  · intro c hc
    rw [hgt]
    split
    · rename_i e
      subst e
      rcases Nat.lt_or_ge i l with h | h
      · exact (hlow h).symm
      · have := D.nx h (by omega); omega
    · exact I.low c hc
  · exact Nat.le_trans I.vnx (Nat.le_max_left _ _)
  · intro c hc hn
    rcases hc with hc | rfl
    · obtain ⟨j, ob', g', q1, q2, q3, q4, q5⟩ := I.pend c hc hn
      exact ⟨j, ob', g', .inl q1, q2, q3, q4, by rw [hgt, if_neg (hne c hc)]; exact q5⟩
    · refine ⟨i, ob, g, .inr rfl, ?_, hk, rfl, by rw [hgt, if_pos rfl]⟩
      rcases Nat.lt_or_ge i l with h | h
      · have := D.nx (i := i + 1) (j := l) h I.ln; omega
      · exact h
  · intro c hc hn c' hc' hcc
    rcases hc with hc | rfl <;> rcases hc' with hc' | rfl
    · rw [ag.1 c hc, ag.1 c' hc']; exact I.far c hc hn c' hc' hcc
    · rw [ag.1 c hc, Mu.put_self]
      have := I.rel.inn c hc
      show w.heap.size ≠ _
      omega
    · rw [ag.1 c' hc', Mu.put_self]
      have := I.rel.inn c' hc'
      show _ ≠ w.heap.size
      omega
    · exact absurd rfl hcc
  · intro c o' hc hg
    rw [hgt] at hg
    rcases hc with hc | rfl
    · rw [if_neg (hne c hc)] at hg
      exact I.wf c o' hc hg
    · rw [if_pos rfl] at hg
      obtain rfl := Option.some.inj hg
      exact supO_mono (fun c hc => by have := hc.2; omega) k3
  · intro j ob' g' hj hnl hkj
    obtain ⟨q1, q2⟩ := I.out j ob' g' hj (fun h => hnl (.inl h)) hkj
    refine ⟨fun h => ?_, q2⟩
    rcases h with h | h
    · exact q1 h
    · exact hnl (.inr (D.ids hkj hk hj hil h))
  · exact put_ext I.ext hnd rfl (D.nx (Nat.zero_le _) (by omega)) (Nat.lt_of_lt_of_le (Nat.lt_succ_self _) (Nat.le_max_right _ _)) (Nat.le_max_left _ _) (fun c hc => by rw [hgt, if_neg hc]) k5
  · refine tms_step D I ho hm hi ag (fun _ h => .inl h) (kf.2 _ (.inr rfl)) fun t ht hz => ?_
    have hz' : t < ({ S i with hp := (S i).hp.push ob } : St).sz := by show t < (S i).sz; rw [D.sz (by omega)]; exact hz
    rw [hS, put_get, if_pos ⟨ht, hz'⟩]
  · exact fun y hy => supD_mono (fun c hc => ⟨.inl hc.1, hc.2⟩) (I.df y hy)
  · exact supM_mono (fun c hc => ⟨.inl hc.1, hc.2⟩) I.pm
end inv
end Go.Xe
