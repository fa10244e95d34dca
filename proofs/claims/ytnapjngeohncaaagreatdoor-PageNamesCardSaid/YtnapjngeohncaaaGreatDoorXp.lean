import Derived.Test.YtnapjngeohncaaaGreatDoorXoa
set_option linter.unusedSimpArgs false
set_option linter.unusedVariables false
namespace Go.Xe
section effs
variable {E : Env} {P : Program} {μ : Mu} {d : Nat → Prop} {H : Hp} {w : World} {tm : Tr AV} {ρ : Operand → Value}

theorem sameBits_flat : ∀ (l : List AV) (n : Nat), (∀ a ∈ l, ∃ x, a = .v x ∧ Instr.sameBits n (ren μ a) (ren μ a) = true) →
    ((renL μ l).zip (renL μ l)).all (fun (x, y) => Instr.sameBits n x y) = true
  | [], n, _ => rfl
  | a :: as, n, h => by
    simp only [renL, List.zip_cons_cons, List.all_cons, Bool.and_eq_true]
    exact ⟨(h a (List.mem_cons_self ..)).choose_spec.2, sameBits_flat as n (fun b hb => h b (List.mem_cons_of_mem _ hb))⟩

theorem sameBits_key {k : AV} (h : flatKey k = true) (n : Nat) : Instr.sameBits (n + 1) (ren μ k) (ren μ k) = true := by
  have base : ∀ (a : AV) n, (match a with | .v (.bool _) | .v (.int _ _) | .v (.string _) => true | _ => false) = true → Instr.sameBits n (ren μ a) (ren μ a) = true := by
    intro a n ha
    split at ha
    · simp [ren, Instr.sameBits]
    · simp [ren, Instr.sameBits]
    · simp [ren, Instr.sameBits, ← bytesEq_beq, bytesEq_iff]
    · cases ha
  unfold flatKey at h
  split at h
  · simp [ren, Instr.sameBits]
  · simp [ren, Instr.sameBits]
  · simp [ren, Instr.sameBits, ← bytesEq_beq, bytesEq_iff]
  · rename_i cs
    simp only [ren, Instr.sameBits, Bool.and_eq_true]
    refine ⟨by simp, ?_⟩
    refine sameBits_flat cs n fun a ha => ?_
    have := List.all_eq_true.1 h a ha
    refine ⟨?_, ?_, base a n this⟩
    · exact ren μ a
    · split at this <;> first | rfl | cases this
  · cases h
theorem keyStays {k : AV} (h : flatKey k = true) (w : World) : (Instr.keyThatStays (ren μ k) (ren μ k)).run P w = .ok (ren μ k) w := by
  have := sameBits_key (μ := μ) h 9999
  simp only [Instr.keyThatStays]
  rw [if_pos (by simpa using this)]
  rfl

theorem utf8_size (s : ByteArray) (p : Nat) : True := trivial

theorem goes_ok (EO : EnvOK E P) {x : ADef} {nx : ANext} (h : goes E x = some nx) (hx : supD d x) :
    EffR P μ d nx ((invoke (renD μ x).target (renD μ x).args).run P w) w := by
  obtain ⟨tg, args⟩ := x
  unfold goes at h
  simp only [supD] at hx
  split at h
  · rename_i f captured htg
    simp only at htg
    subst htg
    split at h
    · rename_i hb
      obtain rfl := Option.some.inj h
      unfold hasBody at hb
      split at hb
      · rename_i fn hf
        simp only [supT] at hx
        refine ⟨.enter f (renL μ (args ++ captured)).toArray, ?_, rfl, supL_append.2 ⟨hx.2, hx.1⟩⟩
        have h1 := EO.ft _ _ hf
        have h2 := EO.name _ _ hf
        have h3 : fn.body.isNone = false := by cases hbo : fn.body <;> simp_all
        have h2' : ¬ fn.name = "runtime.NumGoroutine" := by simpa using h2
        have h3' : ¬ fn.body = none := by intro e; rw [e] at h3; cases h3
        simp [renD, renT, invoke, callFunc, program, Sem.run, h1, h2', h3', renL_append]
      · cases hb
    · cases h
  · rename_i l htg
    simp only at htg
    subst htg
    obtain rfl := Option.some.inj h
    simp only [supT] at hx
    exact ⟨rfl, hx.1, hx.2⟩
  · cases h
theorem tgtOf_ok {f : AV} {args : List AV} {x : ADef} (h : tgtOf f args = some x) (hf : sup d f) (ha : supL d args) (w : World) :
    (Deferred.ofValue (ren μ f) (renL μ args).toArray).run P w = .ok (renD μ x) w ∧ supD d x := by
  unfold tgtOf at h
  split at h
  · obtain rfl := Option.some.inj h
    simp only [sup] at hf
    exact ⟨by simp [Deferred.ofValue, ren, renD, renT, renL_append], hf.2, supL_append.2 ⟨hf.1, ha⟩⟩
  · obtain rfl := Option.some.inj h
    simp only [sup] at hf
    exact ⟨by simp [Deferred.ofValue, ren, renD, renT], hf, ha⟩
  · cases h

theorem eff_value {v : AV} {H' : Hp} {r : Result Next} {w' : World} (R' : Rel E μ d H' w') (X : Ext μ d H w μ d H' w') (lt : Lt d H') (hv : sup d v) (hr : r = .ok (.value (ren μ v)) w') :
    After E P μ d H w (.value v) H' r := ⟨μ, d, w', R', X, lt, _, hr, rfl, hv⟩
theorem eff_skip {H' : Hp} {r : Result Next} {w' : World} (R' : Rel E μ d H' w') (X : Ext μ d H w μ d H' w') (lt : Lt d H') (hr : r = .ok .skip w') :
    After E P μ d H w .skip H' r := ⟨μ, d, w', R', X, lt, _, hr, rfl⟩

theorem eff_sound (EO : EnvOK E P) (hρ : OpR E μ d tm ρ) (R : Rel E μ d H w) (lt : Lt d H) {x : Ctx} {o : Oper} {nx : ANext} {H' : Hp} (h : aEff E x tm o H = some (nx, H')) :
    After E P μ d H w nx H' ((execOp ρ o).run P w) := by
  obtain ⟨dst, op, ty, pos, after, guard⟩ := o
  unfold aEff at h
  dsimp only at h
  split at h
  · -- store
    rename_i t a v
    split at h
    · rename_i b off v' ha hv
      obtain ⟨H1, h1, h2⟩ := Option.map_eq_some_iff.1 h
      simp only [Prod.mk.injEq] at h2
      obtain ⟨rfl, rfl⟩ := h2
      have ka := hρ _ _ ha
      have kv := hρ _ _ hv
      obtain ⟨w', k1, k2, k3, k4⟩ := store_ok EO R (by simpa only [sup] using ka.2) kv.2 h1
      refine eff_skip k2 k3 (lt_same lt k4) ?_
      simp only [execOp, Sem.run_bind, ka.1, kv.1, ren, k1, Result.andThen_ok, Sem.run_pure]
    · cases h
  · -- mapUpdate
    rename_i t m k v
    split at h
    · rename_i key elem b k' v' hu hm hk hv
      split at h
      · rename_i n es clock hn hg
        have km := hρ _ _ hm
        have kk := hρ _ _ hk
        have kv := hρ _ _ hv
        have hb : d b := by simpa only [sup] using km.2
        have kg := map_ok R hb hg
        have hck := checkKey_ok EO (μ := μ) (d := d) hn kk.2 false w
        split at h
        · rename_i i e hf
          split at h
          · rename_i hst
            simp only [Option.some.injEq, Prod.mk.injEq] at h
            obtain ⟨rfl, rfl⟩ := h
            simp only [Bool.and_eq_true] at hst
            have hek := sameAV_ok hst.1
            have hfk := findKey_ok EO R hn kk.2 hf kg.2
            have hmem := findEnt_mem hf
            have hei : es[i]? = some e := by simpa using hmem.2.2
            have kw := map_write (P := P) (clock' := clock) R hb hg (es' := setNth { e with key := k', val := v' } i es) (fun y hy => by
              rcases setNth_mem hy with rfl | hy
              · exact ⟨kk.2, kv.2⟩
              · exact kg.2 y hy)
            refine eff_skip kw.2.1 kw.2.2 (lt_same lt rfl) ?_
            have hmod := modify_set (μ := μ) hei (fun x => { x with key := ren μ k', val := ren μ v' }) (e' := { e with key := k', val := v' }) (by simp [renE])
            have hgetk : ((((es.map (renE μ)).toArray)[i]?).map (·.key)).getD (ren μ k') = ren μ k' := by
              simp [hei, renE, hek]
            simp only [execOp, Sem.run_bind, Instr.mapUpdate, run_und EO hu, Result.andThen_ok, km.1, kk.1, kv.1, ren, MapKept.run_getObj_map kg.1, hck, hfk, Option.map_some, entR, hgetk, keyStays hst.2, hmod, kw.1, Sem.run_pure]
          · cases h
        · rename_i hf
          simp only [Option.some.injEq, Prod.mk.injEq] at h
          obtain ⟨rfl, rfl⟩ := h
          have hfk := findKey_ok EO R hn kk.2 hf kg.2
          have kw := map_write (P := P) (clock' := clock + 1) R hb hg (es' := es ++ [AEnt.mk k' v' clock]) (fun y hy => by
            rcases List.mem_append.1 hy with hy | hy
            · exact kg.2 y hy
            · obtain rfl := List.mem_singleton.1 hy
              exact ⟨kk.2, kv.2⟩)
          refine eff_skip kw.2.1 kw.2.2 (lt_same lt rfl) ?_
          have hpush : (es.map (renE μ)).toArray.push { key := ren μ k', val := ren μ v', born := clock } = ((es ++ [AEnt.mk k' v' clock]).map (renE μ)).toArray := by
            apply Array.ext'
            simp [renE]
          simp only [execOp, Sem.run_bind, Instr.mapUpdate, run_und EO hu, Result.andThen_ok, km.1, kk.1, kv.1, ren, MapKept.run_getObj_map kg.1, hck, hfk, Option.map_none, hpush, kw.1, Sem.run_pure]
        · cases h
      · cases h
    · cases h
  · -- insert
    rename_i t m k v
    split at h
    · rename_i key elem b k' v' hu hm hk hv
      split at h
      · rename_i n es clock hn hg
        have km := hρ _ _ hm
        have kk := hρ _ _ hk
        have kv := hρ _ _ hv
        have hb : d b := by simpa only [sup] using km.2
        have kg := map_ok R hb hg
        have hck := checkKey_ok EO (μ := μ) (d := d) hn kk.2 false w
        split at h
        · rename_i hf
          simp only [Option.some.injEq, Prod.mk.injEq] at h
          obtain ⟨rfl, rfl⟩ := h
          have hfk := findKey_ok EO R hn kk.2 hf kg.2
          have kw := map_write (P := P) (clock' := clock + 1) R hb hg (es' := es ++ [AEnt.mk k' v' clock]) (fun y hy => by
            rcases List.mem_append.1 hy with hy | hy
            · exact kg.2 y hy
            · obtain rfl := List.mem_singleton.1 hy
              exact ⟨kk.2, kv.2⟩)
          refine eff_skip kw.2.1 kw.2.2 (lt_same lt rfl) ?_
          have hpush : (es.map (renE μ)).toArray.push { key := ren μ k', val := ren μ v', born := clock } = ((es ++ [AEnt.mk k' v' clock]).map (renE μ)).toArray := by
            apply Array.ext'
            simp [renE]
          simp only [execOp, Sem.run_bind, Instr.mapUpdate, run_und EO hu, Result.andThen_ok, km.1, kk.1, kv.1, ren, MapKept.run_getObj_map kg.1, hck, hfk, Option.map_none, hpush, kw.1, Sem.run_pure]
        · cases h
      · cases h
    · cases h
  · -- convert
    rename_i src dst x
    split at h
    · rename_i e s h1 h2 ha
      have ka := hρ _ _ ha
      split at h
      · rename_i he
        obtain ⟨hsz, h⟩ : E.size e = some 1 ∧ some (ANext.value (.slice H.nx 0 s.size s.size true), H.push (.row (strCs s) e)) = some (nx, H') := by
          split at h
          · rename_i q; exact ⟨q, h⟩
          · cases h
        simp only [Option.some.injEq, Prod.mk.injEq] at h
        obtain ⟨rfl, rfl⟩ := h
        obtain ⟨newCap, w', q1, q2, q3, q4, q5⟩ := strBytes_ok (P := P) R lt he hsz s
        refine ⟨_, _, w', q3, q4, q5, _, ?_, rfl, .inr rfl⟩
        have hcv : (convert src dst (.string s)).run P w = .ok (.slice (some ⟨w.heap.size, 0, none⟩) s.size newCap) w' := by
          simp [convert, run_und EO h1, run_und EO h2, run_und EO he, q2]
        simp only [execOp, Sem.run_bind, ka.1, ren, hcv, Result.andThen_ok, Sem.run_pure, Mu.put_self, if_true]
        congr 3
        omega
      · cases h
    · cases h
  · -- mapEntry
    rename_i t m k
    split at h
    · rename_i key elem b k' hu hm hk
      split at h
      · rename_i n es clock z hn hg hz
        have km := hρ _ _ hm
        have kk := hρ _ _ hk
        have kz := zero_ok EO hz
        have hb : d b := by simpa only [sup] using km.2
        have kg := map_ok R hb hg
        have hck := checkKey_ok EO (μ := μ) (d := d) hn kk.2 false w
        split at h
        · rename_i i e hf
          split at h
          · rename_i hst
            simp only [Option.some.injEq, Prod.mk.injEq] at h
            obtain ⟨rfl, rfl⟩ := h
            simp only [Bool.and_eq_true] at hst
            have hek := sameAV_ok hst.1
            have hfk := findKey_ok EO R hn kk.2 hf kg.2
            have hmem := findEnt_mem hf
            have hei : es[i]? = some e := by simpa using hmem.2.2
            have kw := map_write (P := P) (clock' := clock) R hb hg (es' := setNth { e with key := k' } i es) (fun y hy => by
              rcases setNth_mem hy with rfl | hy
              · exact ⟨kk.2, (kg.2 e hmem.1).2⟩
              · exact kg.2 y hy)
            refine eff_value kw.2.1 kw.2.2 (lt_same lt rfl) (by simp only [sup, supL]; exact ⟨(kg.2 e hmem.1).2, by simp [isSc], trivial⟩) ?_
            have hmod := modify_set (μ := μ) hei (fun x => { x with key := ren μ k' }) (e' := { e with key := k' }) (by simp [renE])
            have hgetk : ((((es.map (renE μ)).toArray)[i]?).map (·.key)).getD (ren μ k') = ren μ k' := by
              simp [hei, renE, hek]
            have hgetb : ((((es.map (renE μ)).toArray)[i]?).map (fun x => (x.born : Int))).getD 0 = (e.born : Int) := by
              simp [hei, renE]
            simp only [execOp, Sem.run_bind, Instr.mapEntry, run_und EO hu, Result.andThen_ok, km.1, kk.1, ren, MapKept.run_getObj_map kg.1, hck, hfk, Option.map_some, entR, hgetk, hgetb, keyStays hst.2, hmod, kw.1, Sem.run_pure, renL, goInt]
          · cases h
        · rename_i hf
          simp only [Option.some.injEq, Prod.mk.injEq] at h
          obtain ⟨rfl, rfl⟩ := h
          have hfk := findKey_ok EO R hn kk.2 hf kg.2
          have kw := map_write (P := P) (clock' := clock + 1) R hb hg (es' := es ++ [AEnt.mk k' z clock]) (fun y hy => by
            rcases List.mem_append.1 hy with hy | hy
            · exact kg.2 y hy
            · obtain rfl := List.mem_singleton.1 hy
              exact ⟨kk.2, kz.2 d⟩)
          refine eff_value kw.2.1 kw.2.2 (lt_same lt rfl) (by simp only [sup, supL]; exact ⟨kz.2 d, by simp [isSc], trivial⟩) ?_
          have hpush : (es.map (renE μ)).toArray.push { key := ren μ k', val := ren μ z, born := clock } = ((es ++ [AEnt.mk k' z clock]).map (renE μ)).toArray := by
            apply Array.ext'
            simp [renE]
          simp only [execOp, Sem.run_bind, Instr.mapEntry, run_und EO hu, Result.andThen_ok, km.1, kk.1, ren, MapKept.run_getObj_map kg.1, hck, hfk, Option.map_none, kz.1 μ, hpush, kw.1, Sem.run_pure, renL, goInt]
        · cases h
      · cases h
    · cases h
  · -- entryStore
    rename_i t m st v
    split at h
    · rename_i b k n v' hm hst hv
      split at h
      · rename_i es clock hg
        split at h
        · rename_i i e hf
          simp only [Option.some.injEq, Prod.mk.injEq] at h
          obtain ⟨rfl, rfl⟩ := h
          have km := hρ _ _ hm
          have ks := hρ _ _ hst
          have kv := hρ _ _ hv
          have hb : d b := by simpa only [sup] using km.2
          have kg := map_ok R hb hg
          obtain ⟨f1, f2, f3, f4⟩ := findBorn_ok (μ := μ) hf
          simp only [Nat.sub_zero] at f2 f4
          have hmem : e ∈ es := List.mem_of_getElem? f2
          have kw := map_write (P := P) (clock' := clock) R hb hg (es' := setNth { e with val := v' } i es) (fun y hy => by
            rcases setNth_mem hy with rfl | hy
            · exact ⟨(kg.2 e hmem).1, kv.2⟩
            · exact kg.2 y hy)
          refine eff_skip kw.2.1 kw.2.2 (lt_same lt rfl) ?_
          have hmod := modify_set (μ := μ) f2 (fun x => { x with val := ren μ v' }) (e' := { e with val := v' }) (by simp [renE])
          have f4' : (es.map (renE μ)).toArray.findIdx? (fun x => (x.born : Int) == (n : Int)) = some i := by simpa using f4
          simp only [execOp, Sem.run_bind, Instr.entryStore, Result.andThen_ok, km.1, ks.1, kv.1, ren, MapKept.run_getObj_map kg.1, asInt, asIntOf, Sem.run_pure, Int.ofNat_eq_natCast, f4', hmod, kw.1]
        · cases h
      · cases h
    · cases h
  · -- next
    rename_i it isString
    split at h
    · rename_i b ha
      split at h
      · rename_i s p hg
        have ka := hρ _ _ ha
        have hb : d b := by simpa only [sup] using ka.2
        obtain ⟨o', r1, r2⟩ := R.ob b _ hb hg
        obtain ⟨rfl, hsh⟩ : o' = .stringIter s p ∧ (μ.at_ b).sh = 0 := r2
        split at h
        · rename_i hlt
          have hlt : p < s.size := Nat.le_of_ble_eq_true hlt
          simp only [Option.some.injEq, Prod.mk.injEq] at h
          obtain ⟨rfl, rfl⟩ := h
          have k := set_ok R (ob' := .siter s (p + (Utf8.decode s p).2)) (O' := .stringIter s (p + (Utf8.decode s p).2)) hb hg rfl ⟨rfl, hsh⟩ trivial (fun c t fz h => by rw [r1] at h; cases h) (fun c t fz h => by cases h)
          refine eff_value k.1 k.2 (lt_same lt rfl) (by simp [sup, supL, isSc]) ?_
          simp [execOp, Instr.next, ka.1, ren, hsh, getObj, setObj, Sem.run, r1, hlt, renL, goInt]
        · rename_i hlt
          have hlt : ¬ p < s.size := fun h' => by
            have : Nat.blt p s.size = true := Nat.ble_eq_true_of_le h'
            rw [this] at hlt; cases hlt
          simp only [Option.some.injEq, Prod.mk.injEq] at h
          obtain ⟨rfl, rfl⟩ := h
          refine eff_value R (.refl _ _ _ _) lt (by simp [sup, supL, isSc]) ?_
          simp [execOp, Instr.next, ka.1, ren, hsh, getObj, setObj, Sem.run, r1, hlt, renL]
      · cases h
    · cases h
  · -- panic
    rename_i a
    split at h
    · rename_i t v ha
      simp only [Option.some.injEq, Prod.mk.injEq] at h
      obtain ⟨rfl, rfl⟩ := h
      have ka := hρ _ _ ha
      refine ⟨μ, d, w, R, .refl _ _ _ _, lt, ?_, ka.2⟩
      simp [execOp, Instr.panic, ka.1, ren, goPanic]
    · cases h
  · -- defer
    rename_i c
    split at h
    · rename_i f hr hf
      split at h
      · rename_i f' args ha hargs
        obtain ⟨dd, hd, he⟩ := Option.map_eq_some_iff.1 h
        simp only [Prod.mk.injEq] at he
        obtain ⟨rfl, rfl⟩ := he
        have ka := hρ _ _ ha
        have kar := opvA_ok hρ hargs
        have kt := tgtOf_ok (P := P) (μ := μ) hd ka.2 kar.2 w
        refine ⟨μ, d, w, R, .refl _ _ _ _, lt, _, ?_, rfl, kt.2⟩
        simp only [execOp, resolve, hf, Sem.run_bind, ka.1, kar.1, kt.1, Result.andThen_ok, Sem.run_pure]
      · cases h
    · cases h
  · -- call
    rename_i c
    split at h
    · rename_i f hf
      split at h
      · rename_i f' args ha hargs
        split at h
        · rename_i dd hd
          have ka := hρ _ _ ha
          have kar := opvA_ok hρ hargs
          have kt := tgtOf_ok (P := P) (μ := μ) hd ka.2 kar.2 w
          split at h
          · rename_i nx' hn
            simp only [Option.some.injEq, Prod.mk.injEq] at h
            obtain ⟨rfl, rfl⟩ := h
            refine ⟨μ, d, w, R, .refl _ _ _ _, lt, ?_⟩
            have kg := goes_ok (μ := μ) (w := w) EO hn kt.2
            simp only [execOp, resolve, hf, Sem.run_bind, ka.1, kar.1, kt.1, Result.andThen_ok]
            exact kg
          · obtain ⟨⟨v, H1⟩, hx, he⟩ := Option.map_eq_some_iff.1 h
            simp only [Prod.mk.injEq] at he
            obtain ⟨rfl, rfl⟩ := he
            obtain ⟨w', k1, k2, k3, k4, k5⟩ := extOf_ok (P := P) EO R kt.2 hx
            refine eff_value k2 k3 (lt_same lt k4) k5 ?_
            simp only [execOp, resolve, hf, Sem.run_bind, ka.1, kar.1, kt.1, Result.andThen_ok]
            exact k1
        · cases h
      · cases h
    · rename_i r name hf
      split at h
      · rename_i r' args hr hargs
        obtain ⟨nx', hn, he⟩ := Option.map_eq_some_iff.1 h
        simp only [Prod.mk.injEq] at he
        obtain ⟨rfl, rfl⟩ := he
        have kr := hρ _ _ hr
        have kar := opvA_ok hρ hargs
        refine ⟨μ, d, w, R, .refl _ _ _ _, lt, ?_⟩
        have kg := invoke_ok (μ := μ) (w := w) EO kr.2 kar.2 hn
        simp only [execOp, resolve, hf, Sem.run_bind, kr.1, kar.1, Result.andThen_ok, Sem.run_pure]
        exact kg
      · cases h
    · rename_i hf
      split at h
      · rename_i p n hargs
        obtain ⟨⟨v, H1⟩, ha, he⟩ := Option.map_eq_some_iff.1 h
        simp only [Prod.mk.injEq] at he
        obtain ⟨rfl, rfl⟩ := he
        have kar := opvA_ok hρ hargs
        simp only [supL] at kar
        obtain ⟨w', k1, k2, k3, k4, k5⟩ := unsafeStr_ok (P := P) EO R kar.2.1 ha ty
        refine eff_value k2 k3 (lt_same lt k4) k5 ?_
        simp only [execOp, resolve, hf, Sem.run_bind, kar.1, Result.andThen_ok, Sem.run_pure, invoke, builtin, renL, k1]
      · cases h
    · rename_i hf
      split at h
      · rename_i s y hargs
        obtain ⟨⟨v, H1⟩, ha, he⟩ := Option.map_eq_some_iff.1 h
        simp only [Prod.mk.injEq] at he
        obtain ⟨rfl, rfl⟩ := he
        have kar := opvA_ok hρ hargs
        simp only [supL] at kar
        obtain ⟨μ', d', w', k1, k2, k3, k4, k5⟩ := append_ok (ty := ty) EO R lt kar.2.1 kar.2.2.1 ha
        refine ⟨μ', d', w', k1, k2, k3, _, ?_, rfl, k5⟩
        simp only [execOp, resolve, hf, Sem.run_bind, kar.1, Result.andThen_ok, Sem.run_pure, invoke, builtin, renL, k4]
      · cases h
    · rename_i hf
      split at h
      · simp only [Option.some.injEq, Prod.mk.injEq] at h
        obtain ⟨rfl, rfl⟩ := h
        refine ⟨μ, d, w, R, .refl _ _ _ _, lt, _, ?_, rfl⟩
        simp only [execOp, resolve, hf, Sem.run_bind, Result.andThen_ok, Sem.run_pure, invoke, builtin]
      · cases h
    · cases h
  · cases h
end effs
end Go.Xe
