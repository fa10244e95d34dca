import Derived.Test.YtnapjngeohncaaaGreatDoorXw
set_option linter.unusedSimpArgs false
set_option linter.unusedVariables false
namespace Go.Xe
section inv
variable {E : Env} {P : Program} {ih : Job → Option (List Res)} {x : Ctx} {all : Array Oper} {ms : List Nat} {tm0 : Tr AV} {W : Walk} {S : Nat → St} {kd : Nat → Knd}
  {μ0 : Mu} {d0 : Nat → Prop} {w0 : World} {L : Nat → Prop} {l : Nat} {μ : Mu} {d : Nat → Prop} {V : Hp} {w : World} {tm : Array Value}

/-- ahead of an effect: the memory that the text's walk had there -/
theorem Inv.ahead (D : Dr E ih x all ms tm0 W S kd) (I : Inv E all ms W S kd μ0 d0 w0 L l μ d V w tm) {i : Nat} (hil : i ≤ all.size) (hli : l ≤ i)
    (hne : ∀ k, l ≤ k → k < i → kd k ≠ .eff) : Rel E μ (fun b => d b ∧ b < (S i).hp.nx) (S i).hp w ∧
      (∀ b, b < (S l).hp.nx → (S i).hp.get b = V.get b) ∧ (S i).df = (S l).df ∧ (S i).pm = (S l).pm ∧ ∀ b, (S i).hp.nx ≤ b → (S i).hp.get b = none := by
  obtain ⟨q1, q2, q3, q4⟩ := D.seg hli hil hne
  have hnx := D.nx hli hil
  have q5 := q4 I.bnx
  have q6 : ∀ b, b < (S l).hp.nx → (S i).hp.get b = V.get b := fun b hb => by rw [q1 b hb, I.low b hb]
  refine ⟨I.rel.cut ?_ q5 (Nat.le_trans I.ng (D.nx (Nat.zero_le _) hil)) ?_, q6, q2, q3, q5⟩
  · intro b hb hbn
    rcases Nat.lt_or_ge b (S l).hp.nx with h | h
    · exact q6 b h
    · obtain ⟨j, ob, g, h1, h2, h3, h4, h5⟩ := I.pend b hb h
      have hji : j < i := by
        rcases Nat.lt_or_ge j i with h | h
        · exact h
        · have := D.nx h (Nat.le_of_lt (I.dn j h1)); omega
      rw [h5, h4]
      exact D.made_at h3 hji hil fun k a c => hne k (by omega) c
  · intro b o hb hbn hv
    exact supO_mono (fun c hc => by omega) (I.wf b o hb hv)

theorem Inv.quiet (D : Dr E ih x all ms tm0 W S kd) (I : Inv E all ms W S kd μ0 d0 w0 L l μ d V w tm) {i m : Nat} (hil : i < all.size) (hme : (i, m) ∈ W.effs) (hi : ¬ L i) (hr : ∀ j, bit m j = true → L j) :
    l ≤ i ∧ ∀ k, l ≤ k → k < i → kd k ≠ .eff := by
  refine ⟨?_, fun k hk hki he => ?_⟩
  · rcases Nat.lt_or_ge i l with h | h
    · exact absurd ((I.levL _ hme).1 h) hi
    · exact h
  · obtain ⟨mk, _, hmk⟩ := D.eff_mem (by omega) he
    have := D.turn _ hmk _ hme hki
    have := (I.levL _ hmk).2 (hr k this)
    simp only at this
    omega

theorem Inv.eff (EO : EnvOK E P) (ihS : ∀ j rs, ih j = some rs → OKJ E P j rs) (D : Dr E ih x all ms tm0 W S kd) (I : Inv E all ms W S kd μ0 d0 w0 L l μ d V w tm) {i : Nat} {o : Oper} {m : Nat}
    (ho : all[i]? = some o) (hm : ms[i]? = some m) (hi : ¬ L i) (hr : ∀ j, bit m j = true → L j) (hk : kd i = .eff) {b : Frame} {cs : List Frame} {k : List Item} {rest : List Nat} (hx : CtxR x μ0 d0 b) (hcs : x.dfd = true → cs ≠ []) :
    ∃ μ' d' V' w' v, Inv E all ms W S kd μ0 d0 w0 (fun j => L j ∨ j = i) (i + 1) μ' d' V' w' (putA tm o.dst v) ∧
      Steps P (lone (bat b tm ((S l).df.map (renD μ)) (.inRegion all (i :: rest) :: k)) (csAt x.dfd cs (renM μ (S l).pm)) w)
        (lone (bat b (putA tm o.dst v) ((S (i + 1)).df.map (renD μ')) (.inRegion all rest :: k)) (csAt x.dfd cs (renM μ' (S (i + 1)).pm)) w') := by
  have hil : i < all.size := (Array.getElem?_eq_some_iff.1 ho).1
  have f := D.fact i o m ho hm
  rw [hk] at f
  obtain ⟨hw, rt, c, v, df, pm, h, hrt, hfire, hme, hlv, hle, hS⟩ := f
  obtain ⟨hli, hne⟩ := I.quiet D hil hme hi hr
  obtain ⟨RF, hlow, hdf, hpm, hnxt⟩ := I.ahead D (Nat.le_of_lt hil) hli hne
  have hnx := D.nx hli (Nat.le_of_lt hil)
  have h0i := D.nx (Nat.zero_le i) (Nat.le_of_lt hil)
  obtain ⟨hev, hs1, hs2⟩ := I.oper D ho hm hi hr hrt b ((S i).df.map (renD μ)) (.inRegion all (i :: rest) :: k)
  have sdf : ∀ y ∈ (S i).df, supD (fun c => d c ∧ c < (S i).hp.nx) y := fun y hy => by rw [hdf] at hy; exact supD_mono (fun c hc => ⟨hc.1, by omega⟩) (I.df y hy)
  have spm : supM (fun c => d c ∧ c < (S i).hp.nx) (S i).pm := by rw [hpm]; exact supM_mono (fun c hc => ⟨hc.1, by omega⟩) I.pm
  have hxF : CtxR x μ (fun c => d c ∧ c < (S i).hp.nx) b := hx.mono I.ext.agr fun c hc => ⟨I.ext.dom c hc, by have := I.lt0 c hc; omega⟩
  obtain ⟨c', r, hmem, F⟩ := fire_ok EO ihS hfire (μ := μ) (ρ := rho (bat b tm ((S i).df.map (renD μ)) (.inRegion all (i :: rest) :: k)) μ rt) (b := b) (cs := cs) (tm := tm) (k := k) (ops := all) (i := i) (rest := rest)
    (opR_rho RF hs2 _ _ _ _) hev RF (fun c hc => hc.2) sdf spm hxF hcs ho (by rw [I.wanted D ho hm hi hr]; exact hw)
  simp only [List.mem_singleton, Prod.mk.injEq] at hmem
  obtain ⟨rfl, rfl⟩ := hmem
  obtain ⟨μ', d', w', R', X, lt', sv, sdf', spm', st⟩ := F
  have hge : ∀ c, d c → (S i).hp.nx ≤ c → h.nx ≤ c := by
    intro c hc hn
    obtain ⟨j, ob, g, h1, h2, h3, h4, h5⟩ := I.pend c hc (by omega)
    have hjl := I.dn j h1
    have hnn : (S (i + 1)).hp = h := by rw [hS, St.fired, put_hp]
    rcases Nat.lt_trichotomy j i with q | q | q
    · have := (D.made hjl h3).1
      have := D.nx (i := j + 1) (j := i) q (by omega)
      omega
    · exact absurd (q ▸ h1) hi
    · have := D.nx (i := i + 1) (j := j) q (by omega)
      rw [hnn] at this
      omega
  have hnn : (S (i + 1)).hp = h := by rw [hS, St.fired, put_hp]
  have hap : ∀ c, d c → (S i).hp.nx ≤ c → ∀ b, d b → b ≠ c → (μ.at_ b).blk ≠ (μ.at_ c).blk := fun c hc hn => I.far c hc (by omega)
  have ag := join_agree X hge
  have ag' := join_agree' X lt'
  have hmx := mix_get R'.nxt I.rel.nxt
  have hf : W.fall ≠ some i := fun q => by
    have := (D.ok.fall i q).2.2
    rw [hk] at this
    cases this
  obtain ⟨n1, n2, n3⟩ := I.next_fields D hil hm hr hf
  have two : ∀ b, d' b ∨ d b → (d' b ∧ b < h.nx) ∨ (d b ∧ (S i).hp.nx ≤ b ∧ h.nx ≤ b) := by
    intro b hb
    rcases hb with hb | hb
    · exact .inl ⟨hb, lt' b hb⟩
    · by_cases q : b < (S i).hp.nx
      · have := X.dom b ⟨hb, q⟩; exact .inl ⟨this, lt' b this⟩
      · exact .inr ⟨hb, by omega, hge b hb (by omega)⟩
  refine ⟨μ.join μ' h.nx, fun b => d' b ∨ d b, mix h V, w', ren (μ.join μ' h.nx) v, ?_, ?_⟩
  · refine ⟨join_rel I.rel R' lt' X hge hap, n1, n2, n3, hil, .inr (by rw [hnn]; exact hlv), ?_, ?_, ?_, ?_, ?_, ?_, ?_, ?_, ?_, ?_, by rw [putA_size]; exact I.tsz, ?_, ?_, I.ng, I.lt0⟩
    · intro e he
      constructor
      · intro q
        by_cases e1 : e.1 = i
        · exact .inr e1
        · exact .inl (hr _ (D.turn _ he _ hme (by show e.1 < i; omega)))
      · rintro (q | q)
        · have := (I.levL e he).2 q; omega
        · omega
    · intro c hc
      rw [hnn] at hc ⊢
      rw [hmx, if_pos hc]
    · rw [hnn]; exact R'.nxt
    · rw [hnn]; exact Nat.le_max_left _ _
    · intro c hc hn
      rw [hnn] at hn
      rcases two c hc with ⟨_, q⟩ | ⟨q1, q2, q3⟩
      · omega
      · obtain ⟨j, ob, g, h1, h2, h3, h4, h5⟩ := I.pend c q1 (by omega)
        refine ⟨j, ob, g, .inl h1, ?_, h3, h4, by rw [hmx, if_neg (by omega)]; exact h5⟩
        rcases Nat.lt_or_ge j (i + 1) with q | q
        · have := (D.made (I.dn j h1) h3).1
          have := D.nx (i := j + 1) (j := i + 1) (by omega) hil
          rw [hnn] at this
          omega
        · exact q
    · intro c hc hn b hb hbc
      rw [hnn] at hn
      rcases two c hc with ⟨_, q⟩ | ⟨q1, q2, q3⟩
      · omega
      · rw [ag.1 c q1]
        rcases two b hb with ⟨p1, p2⟩ | ⟨p1, p2, p3⟩
        · rw [ag'.1 b p1]
          intro e
          by_cases hd : d b ∧ b < (S i).hp.nx
          · rw [X.agr.1 b hd] at e
            exact hap c q1 q2 b hd.1 hbc e
          · rcases X.new b p1 hd with h1 | ⟨c', hc', h1⟩
            · have := I.rel.inn c q1; omega
            · exact hap c q1 q2 c' hc'.1 (by have := hc'.2; omega) (h1.trans e)
        · rw [ag.1 b p1]
          exact hap c q1 q2 b p1 hbc
    · intro c o' hc hg
      rw [hmx] at hg
      rw [hnn]
      rcases two c hc with ⟨q, q2⟩ | ⟨q1, q2, q3⟩
      · rw [if_pos q2] at hg
        exact supO_mono (fun c hc => by have := lt' c hc; omega) (R'.sp c o' q hg)
      · rw [if_neg (by omega)] at hg
        exact supO_mono (fun c hc => by omega) (I.wf c o' q1 hg)
    · intro j ob g hj hnl hkj
      obtain ⟨q1, q2⟩ := I.out j ob g hj (fun h => hnl (.inl h)) hkj
      have hji : j ≠ i := fun e => hnl (.inr e)
      have hmade := (D.made hj hkj).1
      refine ⟨fun hd => ?_, fun hji' => ?_⟩
      · rcases hd with hd | hd
        · rcases X.fresh _ hd with h1 | h1
          · exact q1 h1.1
          · have h1' : (S i).hp.nx ≤ (S j).hp.nx ∧ (S j).hp.nx < h.nx := h1
            rcases Nat.lt_or_ge j i with p | p
            · have := D.nx (i := j + 1) (j := i) p (by omega); omega
            · have := D.nx (i := i + 1) (j := j) (by omega) (by omega); rw [hnn] at this; omega
        · exact q1 hd
      · have p : j < i := by omega
        have hlt : (S j).hp.nx < (S i).hp.nx := by have := D.nx (i := j + 1) (j := i) p (by omega); omega
        rw [hnn, X.abs _ hlt (fun q => q1 q.1)]
        rcases Nat.lt_or_ge j l with q | q
        · have e := (D.seg hli (Nat.le_of_lt hil) hne).1 (S j).hp.nx (by have := D.nx (i := j + 1) (j := l) q I.ln; omega)
          rw [e]
          exact q2 q
        · exact D.made_at hkj p (Nat.le_of_lt hil) fun k a c => hne k (by omega) c
    · exact join_ext I.ext I.rel R' I.lt0 lt' (fun c hc _ => hlow c (by have := D.nx (Nat.zero_le l) I.ln; omega)) h0i X hge
    · refine tms_step D I ho hm hi ag (fun _ h => .inr h) (sup_mono (fun _ h => .inl h) _ sv) fun t ht hz => ?_
      have hz' : t < ({ S i with df := df, pm := pm, hp := h } : St).sz := by show t < (S i).sz; rw [D.sz (by omega)]; exact hz
      rw [hS, St.fired, put_get, if_pos ⟨ht, hz'⟩]
    · rw [hS, St.fired, put_df, put_hp]
      exact fun y hy => supD_mono (fun c hc => ⟨.inl hc, lt' c hc⟩) (sdf' y hy)
    · rw [hS, St.fired, put_pm, put_hp]
      exact supM_mono (fun c hc => ⟨.inl hc, lt' c hc⟩) spm'
  · rw [hS, St.fired, put_df, put_pm, ren_agree ag' _ sv, renDs_agree ag' sdf', renM_agree ag' spm', ← hdf, ← hpm]
    exact st
theorem Inv.fell (EO : EnvOK E P) (ihS : ∀ j rs, ih j = some rs → OKJ E P j rs) (D : Dr E ih x all ms tm0 W S kd) (I : Inv E all ms W S kd μ0 d0 w0 L l μ d V w tm) {i : Nat} {o : Oper} {m : Nat}
    (ho : all[i]? = some o) (hm : ms[i]? = some m) (hi : ¬ L i) (hr : ∀ j, bit m j = true → L j) (hk : kd i = .fell) {b : Frame} {cs : List Frame} {k : List Item} {rest : List Nat} (hx : CtxR x μ0 d0 b) (hcs : x.dfd = true → cs ≠ [])
    (ht0 : TmS d0 tm0) (hS0 : (S 0).tm = tm0) (hdst : ∀ d ∈ dsts all.toList, d ∉ x.res) :
    ∃ e s', W.last = .out e s' ∧ Post E P x b k cs (lone (bat b tm ((S l).df.map (renD μ)) (.inRegion all (i :: rest) :: k)) (csAt x.dfd cs (renM μ (S l).pm)) w) μ0 d0 (S 0).hp w0 e s' := by
  have hil : i < all.size := (Array.getElem?_eq_some_iff.1 ho).1
  have f := D.fact i o m ho hm
  rw [hk] at f
  obtain ⟨hw, hS, hfall, rt, c, ch, pm, h, hrt, hfire, hme, hlast⟩ := f
  obtain ⟨hli, hne⟩ := I.quiet D hil hme hi hr
  obtain ⟨RF, hlow, hdf, hpm, hnxt⟩ := I.ahead D (Nat.le_of_lt hil) hli hne
  have hnx := D.nx hli (Nat.le_of_lt hil)
  have h0i := D.nx (Nat.zero_le i) (Nat.le_of_lt hil)
  obtain ⟨hev, hs1, hs2⟩ := I.oper D ho hm hi hr hrt b ((S i).df.map (renD μ)) (.inRegion all (i :: rest) :: k)
  have sdf : ∀ y ∈ (S i).df, supD (fun c => d c ∧ c < (S i).hp.nx) y := fun y hy => by rw [hdf] at hy; exact supD_mono (fun c hc => ⟨hc.1, by omega⟩) (I.df y hy)
  have spm : supM (fun c => d c ∧ c < (S i).hp.nx) (S i).pm := by rw [hpm]; exact supM_mono (fun c hc => ⟨hc.1, by omega⟩) I.pm
  have hxF : CtxR x μ (fun c => d c ∧ c < (S i).hp.nx) b := hx.mono I.ext.agr fun c hc => ⟨I.ext.dom c hc, by have := I.lt0 c hc; omega⟩
  obtain ⟨c', r, hmem, F⟩ := fire_ok EO ihS hfire (μ := μ) (ρ := rho (bat b tm ((S i).df.map (renD μ)) (.inRegion all (i :: rest) :: k)) μ rt) (b := b) (cs := cs) (tm := tm) (k := k) (ops := all) (i := i) (rest := rest)
    (opR_rho RF hs2 _ _ _ _) hev RF (fun c hc => hc.2) sdf spm hxF hcs ho (by rw [I.wanted D ho hm hi hr]; exact hw)
  simp only [List.mem_singleton, Prod.mk.injEq] at hmem
  obtain ⟨rfl, rfl⟩ := hmem
  obtain ⟨μ', d', w', R', X, lt', sch, spm', st⟩ := F
  have X0 := I.ext.cut (H := (S i).hp) (fun c hc _ => hlow c (by have := D.nx (Nat.zero_le l) I.ln; omega)) h0i I.lt0
  have XX := X0.trans X RF.inn
  refine ⟨_, _, hlast, μ', d', w', tm, R', XX, lt', ⟨TmS_mono XX.dom ht0, fun y hy => supD_mono X.dom (sdf y hy), spm'⟩, sch, ?_, .inRegion all (i :: rest) :: k, ?_⟩
  · intro t ht
    obtain ⟨q, q0, q1, q2, q3, q4⟩ := I.tms t
    have hq : q = 0 := by
      rcases q4 with q4 | ⟨p, p1, p2, p3⟩
      · exact q4
      · exact absurd ht (hdst t (dsts_mem p3 (by
          have : all.toList[q - 1]? = some p := by simpa using p2
          exact List.mem_of_getElem? this)))
    subst hq
    rw [hS0] at q1
    show tm.getD t undef = ren μ' (tget tm0 t)
    rw [q1, ren_agree XX.agr _ (ht0 t), ren_agree I.ext.agr _ (ht0 t)]
  · show Steps P _ (lone { bat b tm ((S i).df.map (renD μ')) _ with mode := .panicking (renPs μ' ch) } (csAt x.dfd cs (renM μ' pm)) w')
    rw [renDs_agree X.agr sdf]
    have st' := st
    simp only [hdf, hpm] at st' ⊢
    exact st'
end inv
end Go.Xe
