import Derived.Test.YtnapjngeohncaaaGreatDoorXp
set_option linter.unusedSimpArgs false
set_option linter.unusedVariables false
namespace Go.Xe
section nxt
variable {E : Env} {P : Program} {μ : Mu} {d : Nat → Prop} {H : Hp} {w : World} {tm : Tr AV} {ρ : Operand → Value}

theorem inBorn_ok (e : AEnt) : ∀ seen : List Nat, inBorn e seen = seen.contains e.born
  | [] => rfl
  | n :: ns => by
    unfold inBorn
    cases h : Nat.beq e.born n with
    | true => simp [Nat.eq_of_beq_eq_true h]
    | false =>
      have := Nat.ne_of_beq_eq_false h
      simp [inBorn_ok e ns, List.contains_cons, this]
theorem leftOf_ok (seen : List Nat) : ∀ es : List AEnt, (leftOf seen es).map (renE μ) = (es.map (renE μ)).filter (fun e => !seen.contains e.born)
  | [] => rfl
  | e :: es => by
    unfold leftOf
    rw [inBorn_ok]
    cases h : seen.contains e.born with
    | true => simp [renE, h, leftOf_ok seen es, List.filter_cons, -List.contains_eq_mem]
    | false => simp [renE, h, leftOf_ok seen es, List.filter_cons, -List.contains_eq_mem]
theorem oldOf_ok (n : Nat) : ∀ es : List AEnt, (oldOf n es).map (renE μ) = (es.map (renE μ)).filter (fun e => decide (e.born < n))
  | [] => rfl
  | e :: es => by
    unfold oldOf
    cases h : Nat.blt e.born n with
    | true =>
      have : e.born < n := Nat.le_of_ble_eq_true h
      simp [renE, this, oldOf_ok n es, List.filter_cons]
    | false =>
      have : ¬ e.born < n := fun h' => by
        have h2 : Nat.blt e.born n = true := Nat.ble_eq_true_of_le h'
        rw [h2] at h; cases h
      simp [renE, this, oldOf_ok n es, List.filter_cons]
theorem newOf_ok (n : Nat) : ∀ es : List AEnt, (newOf n es).map (renE μ) = (es.map (renE μ)).filter (fun e => decide (e.born ≥ n))
  | [] => rfl
  | e :: es => by
    unfold newOf
    cases h : Nat.blt e.born n with
    | true =>
      have : ¬ n ≤ e.born := Nat.not_le_of_lt (Nat.le_of_ble_eq_true h)
      simp [renE, this, newOf_ok n es, List.filter_cons]
    | false =>
      have : n ≤ e.born := by
        rcases Nat.lt_or_ge e.born n with h' | h'
        · have h2 : Nat.blt e.born n = true := Nat.ble_eq_true_of_le h'
          rw [h2] at h; cases h
        · exact h'
      simp [renE, this, newOf_ok n es, List.filter_cons]
theorem someL_ok {α : Type} : ∀ l : List α, someL l = l.map some
  | [] => rfl
  | a :: as => by simp [someL, someL_ok as]
def candR (since : Nat) (left : Array MapEntry) : Array (Option MapEntry) :=
  (if (left.filter (·.born < since)).isEmpty then #[none] else #[]) ++ (left.filter (·.born < since) ++ left.filter (·.born ≥ since)).map some
theorem cands_ok (since : Nat) (left : List AEnt) : ((cands since left).map (Option.map (renE μ))).toArray = candR since (left.map (renE μ)).toArray := by
  unfold candR
  apply Array.ext'
  have he : ((left.map (renE μ)).toArray.filter (fun e => decide (e.born < since))).isEmpty = ((left.map (renE μ)).filter (fun e => decide (e.born < since))).isEmpty := by
    rw [List.filter_toArray]
    simp
  rw [he, ← oldOf_ok]
  simp only [Array.toList_append, Array.toList_map, Array.toList_filter, List.toList_toArray]
  rw [← oldOf_ok, ← newOf_ok]
  unfold cands
  cases ho : oldOf since left with
  | nil => simp [someL_ok, List.map_map, Function.comp_def]
  | cons e old => simp [someL_ok, List.map_map, Function.comp_def]
theorem leftOf_sub {seen : List Nat} : ∀ {es : List AEnt} {e : AEnt}, e ∈ leftOf seen es → e ∈ es
  | [], e, h => h
  | x :: xs, e, h => by
    unfold leftOf at h
    split at h
    · exact List.mem_cons_of_mem _ (leftOf_sub h)
    · rcases List.mem_cons.1 h with rfl | h
      · exact List.mem_cons_self ..
      · exact List.mem_cons_of_mem _ (leftOf_sub h)
theorem oldOf_sub {n : Nat} : ∀ {es : List AEnt} {e : AEnt}, e ∈ oldOf n es → e ∈ es
  | [], e, h => h
  | x :: xs, e, h => by
    unfold oldOf at h
    split at h
    · rcases List.mem_cons.1 h with rfl | h
      · exact List.mem_cons_self ..
      · exact List.mem_cons_of_mem _ (oldOf_sub h)
    · exact List.mem_cons_of_mem _ (oldOf_sub h)
theorem newOf_sub {n : Nat} : ∀ {es : List AEnt} {e : AEnt}, e ∈ newOf n es → e ∈ es
  | [], e, h => h
  | x :: xs, e, h => by
    unfold newOf at h
    split at h
    · exact List.mem_cons_of_mem _ (newOf_sub h)
    · rcases List.mem_cons.1 h with rfl | h
      · exact List.mem_cons_self ..
      · exact List.mem_cons_of_mem _ (newOf_sub h)
theorem cands_sub {n : Nat} {es : List AEnt} {e : AEnt} (h : some e ∈ cands n es) : e ∈ es := by
  unfold cands at h
  split at h
  · simp only [someL_ok, List.mem_cons, List.mem_map, reduceCtorEq, false_or] at h
    obtain ⟨a, ha, he⟩ := h
    cases he
    exact newOf_sub ha
  · rename_i x xs hx
    rw [← hx, someL_ok] at h
    obtain ⟨a, ha, he⟩ := List.mem_map.1 h
    cases he
    rcases List.mem_append.1 ha with h | h
    · exact oldOf_sub h
    · exact newOf_sub h
theorem cands_pos (n : Nat) (es : List AEnt) : 0 < (cands n es).length := by
  unfold cands
  split
  · simp
  · simp [someL_ok]
theorem afterNext_mem {r m since clock : Nat} {seen : List Nat} : ∀ {cs : List (Option AEnt)} {c : Option AEnt}, c ∈ cs →
    (match c with
      | none => ((AV.tuple [.v (.bool false)], H) : AV × Hp)
      | some e => (.tuple [.v (.bool true), e.key, e.val], H.set r (.miter (some m) since (seen ++ [e.born]) clock))) ∈ afterNext H r m since seen clock cs
  | x :: xs, c, h => by
    rcases List.mem_cons.1 h with rfl | h
    · cases c <;> simp [afterNext]
    · have := afterNext_mem (r := r) (m := m) (since := since) (clock := clock) (seen := seen) h
      cases x <;> exact List.mem_cons_of_mem _ this
theorem run_mapNext (n : Nat) (hn : 0 < n) : ∃ i k, i < n ∧ (choose (.mapNext n)).run P w = .ok i { w with drawn := k } := by
  by_cases h : n ≤ 1
  · exact ⟨0, w.drawn, hn, by simp [choose, Sem.run, Question.forced, h]⟩
  · exact ⟨_, w.drawn + 1, Nat.mod_lt (w.tape w.drawn (.mapNext n)) hn, by simp [choose, Sem.run, Question.forced, Question.cut, h]⟩
theorem next_run {r m since stepped clock : Nat} {seen : Array Nat} {es : Array MapEntry} {ty : TypeId} (h1 : w.heap[r]? = some (.mapIter (some m) since seen stepped)) (h2 : w.heap[m]? = some (.map es clock))
    (h3 : ¬ (!seen.isEmpty && !es.isEmpty && es.all (·.born ≥ stepped)) = true) {i k : Nat} {w1 : World} (h4 : (choose (.mapNext (candR since (es.filter fun e => !seen.contains e.born)).size)).run P w = .ok i w1) :
    (Instr.next (.pointer (some ⟨r, 0, none⟩)) false ty).run P w = (match (candR since (es.filter fun e => !seen.contains e.born))[i]? with
      | some (some e) => (do
        setObj r (.mapIter (some m) since (seen.push e.born) clock)
        pure (.tuple #[.bool true, e.key, e.val]) : Sem Value)
      | some none => pure (.tuple #[.bool false])
      | none => stuck "Next: no such candidate").run P w1 := by
  have g1 : (getObj r).run P w = .ok (.mapIter (some m) since seen stepped) w := by simp [getObj, Sem.run, h1]
  have g2 : (getObj m).run P w = .ok (.map es clock) w := by simp [getObj, Sem.run, h2]
  unfold Instr.next
  simp only [Sem.run_bind, g1, Result.andThen_ok, g2]
  rw [if_neg h3]
  have h4' := h4
  unfold candR at h4' ⊢
  simp only [Sem.run_bind, pure_bind, h4', Result.andThen_ok]
  rfl

theorem mapnext_sound (EO : EnvOK E P) (hρ : OpR E μ d tm ρ) (R : Rel E μ d H w) {o : Oper} {l : List (AV × Hp)} (h : aNextMap E tm o H = some l) :
    ∃ p ∈ l, ∃ w', (execOp ρ o).run P w = .ok (.value (ren μ p.1)) w' ∧ Rel E μ d p.2 w' ∧ Ext μ d H w μ d p.2 w' ∧ p.2.nx = H.nx ∧ sup d p.1 := by
  obtain ⟨dst, op, ty, pos, after, guard⟩ := o
  unfold aNextMap at h
  dsimp only at h
  split at h
  · rename_i it
    split at h
    · rename_i r ha
      have ka := hρ _ _ ha
      have hr : d r := by simpa only [sup] using ka.2
      split at h
      · rename_i since seen stepped hg
        obtain rfl := Option.some.inj h
        obtain ⟨o1, h1, h2⟩ := R.ob r _ hr hg
        obtain ⟨rfl, hsh⟩ : o1 = .mapIter none since seen.toArray stepped ∧ (μ.at_ r).sh = 0 := h2
        refine ⟨_, List.mem_singleton.2 rfl, w, ?_, R, .refl _ _ _ _, rfl, by simp [sup, supL, isSc]⟩
        simp [execOp, Instr.next, ka.1, ren, hsh, getObj, Sem.run, h1, renL]
      · rename_i m since seen stepped hg
        obtain ⟨o1, h1, h2⟩ := R.ob r _ hr hg
        obtain ⟨rfl, hsh⟩ : o1 = .mapIter (some (μ.at_ m).blk) since seen.toArray stepped ∧ (μ.at_ r).sh = 0 := h2
        have hm : d m := R.sp r _ hr hg m rfl
        split at h
        · rename_i es clock hgm
          split at h
          · rename_i hok
            obtain rfl := Option.some.inj h
            have km := map_ok R hm hgm
            obtain ⟨idx, k, hidx, hch⟩ := run_mapNext (P := P) (w := w) (cands since (leftOf seen es)).length (cands_pos _ _)
            obtain ⟨c, hc⟩ : ∃ c, (cands since (leftOf seen es))[idx]? = some c := ⟨_, List.getElem?_eq_getElem hidx⟩
            have hcm : c ∈ cands since (leftOf seen es) := List.mem_of_getElem? hc
            have hl : (es.map (renE μ)).toArray.filter (fun e => !seen.toArray.contains e.born) = ((leftOf seen es).map (renE μ)).toArray := by
              apply Array.ext'
              rw [leftOf_ok]
              simp [Array.toList_filter]
            have hcd := cands_ok (μ := μ) since (leftOf seen es)
            rw [← hl] at hcd
            have hun : ¬ ((!seen.toArray.isEmpty && !(es.map (renE μ)).toArray.isEmpty && (es.map (renE μ)).toArray.all (fun e => decide (e.born ≥ stepped))) = true) := by
              intro hh
              simp only [Bool.and_eq_true, Bool.not_eq_true', Bool.or_eq_true] at hh hok
              rcases hok with (h3 | h3) | h3
              · obtain ⟨e, he, hlt⟩ := List.any_eq_true.1 h3
                have hlt : e.born < stepped := Nat.le_of_ble_eq_true hlt
                have := Array.all_eq_true_iff_forall_mem.1 hh.2 (renE μ e) (by simp; exact ⟨e, he, rfl⟩)
                have h9 : stepped ≤ e.born := of_decide_eq_true this
                omega
              · have := hh.1.1
                cases seen <;> simp_all
              · have := hh.1.2
                cases es <;> simp_all
            have hsz : (candR since ((es.map (renE μ)).toArray.filter fun e => !seen.toArray.contains e.born)).size = (cands since (leftOf seen es)).length := by
              rw [← hcd]; simp
            have hget : (candR since ((es.map (renE μ)).toArray.filter fun e => !seen.toArray.contains e.born))[idx]? = some (c.map (renE μ)) := by
              rw [← hcd]; simp [hc]
            have R' := rel_drawn (n := k) R
            have X' := (drawn_ok R k).2
            have hrun := next_run (P := P) (ty := ty) h1 km.1 hun (i := idx) (k := k) (by rw [hsz]; exact hch)
            rw [hget] at hrun
            have hptr : (⟨(μ.at_ r).blk, 0 + (μ.at_ r).sh, none⟩ : Addr) = ⟨(μ.at_ r).blk, 0, none⟩ := by rw [hsh]
            cases c with
            | none =>
              refine ⟨_, afterNext_mem hcm, { w with drawn := k }, ?_, R', X', rfl, by simp [sup, supL, isSc]⟩
              simp only [execOp, Sem.run_bind, ka.1, ren, hptr, hrun, Option.map_none, Sem.run_pure, Result.andThen_ok, renL]
            | some e =>
              have hme : e ∈ es := leftOf_sub (cands_sub hcm)
              have kse := set_ok R' (ob' := .miter (some m) since (seen ++ [e.born]) clock) (O' := .mapIter (some (μ.at_ m).blk) since (seen ++ [e.born]).toArray clock) hr hg rfl ⟨rfl, hsh⟩ (fun b hb => by cases hb; exact hm)
                (fun c t fz h => by rw [h1] at h; cases h) (fun c t fz h => by cases h)
              refine ⟨_, afterNext_mem hcm, _, ?_, kse.1, X'.trans kse.2 R'.inn, rfl, by simp only [sup, supL]; exact ⟨by simp [isSc], (km.2 e hme).1, (km.2 e hme).2, trivial⟩⟩
              have hset : (setObj (μ.at_ r).blk (.mapIter (some (μ.at_ m).blk) since (seen.toArray.push e.born) clock)).run P { w with drawn := k } = .ok () { w with drawn := k, heap := w.heap.setIfInBounds (μ.at_ r).blk (.mapIter (some (μ.at_ m).blk) since (seen ++ [e.born]).toArray clock) } := by
                simp [setObj, Sem.run, h1]
              simp only [execOp, Sem.run_bind, ka.1, ren, hptr, hrun, Option.map_some, renE, hset, Sem.run_pure, Result.andThen_ok, renL]
          · cases h
        · cases h
      · cases h
    · cases h
  · cases h
end nxt
end Go.Xe
