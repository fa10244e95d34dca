import Derived.Test.YtnapjngeohncaaaGreatDoorXk
set_option linter.unusedSimpArgs false
set_option linter.unusedVariables false
namespace Go.Xe
section effs
variable {E : Env} {P : Program} {μ : Mu} {d : Nat → Prop} {H : Hp} {w : World} {tm : Tr AV} {ρ : Operand → Value}

def NextR (μ : Mu) (d : Nat → Prop) : ANext → Next → Prop
  | .value v, n => n = .value (ren μ v) ∧ sup d v
  | .skip, n => n = .skip
  | .enter f args, n => n = .enter f (renL μ args).toArray ∧ supL d args
  | .defer x, n => n = .defer (renD μ x) ∧ supD d x
  | .recov, n => n = .recover
  | _, _ => False
def EffR (P : Program) (μ : Mu) (d : Nat → Prop) (nx : ANext) (r : Result Next) (w : World) : Prop :=
  match nx with
  | .panic v => r = .halt (.panic (ren μ v)) w ∧ sup d v
  | .round l args => r = (Instr.yield (μ.at_ l).blk (renL μ args).toArray).run P w ∧ d l ∧ supL d args
  | nx => ∃ N, r = .ok N w ∧ NextR μ d nx N
/-- the world behind an operation that ends at once -/
def After (E : Env) (P : Program) (μ : Mu) (d : Nat → Prop) (H : Hp) (w : World) (nx : ANext) (H' : Hp) (r : Result Next) : Prop :=
  ∃ μ' d' w', Rel E μ' d' H' w' ∧ Ext μ d H w μ' d' H' w' ∧ Lt d' H' ∧ EffR P μ' d' nx r w'

theorem one_ren {a : AV} (h : a.one = true) (hs : sup d a) : (ren μ a).oneCell' = true := by
  cases a with
  | v x => simp only [sup] at hs; cases x <;> first | rfl | (simp [isSc] at hs)
  | agg _ => simp [AV.one] at h
  | tuple _ => simp [AV.one] at h
  | _ => rfl
theorem ones_ren {l : List AV} (h : l.all AV.one = true) (hs : supL d l) : ∀ v ∈ renL μ l, v.oneCell' = true := by
  intro v hv
  rw [renL_map] at hv
  obtain ⟨a, ha, rfl⟩ := List.mem_map.1 hv
  exact one_ren (List.all_eq_true.1 h a ha) (supL_iff.1 hs a ha)

theorem splice (pre m post vs : List Value) (off : Nat) (h : off + vs.length ≤ m.length) :
    (pre ++ m ++ post).take (off + pre.length) ++ vs ++ (pre ++ m ++ post).drop (off + pre.length + vs.length) = pre ++ (m.take off ++ vs ++ m.drop (off + vs.length)) ++ post := by
  have e1 : (pre ++ m ++ post).take (off + pre.length) = pre ++ m.take off := by
    rw [List.append_assoc, Nat.add_comm, List.take_length_add_append, List.take_append_of_le_length (by omega)]
  have e2 : (pre ++ m ++ post).drop (off + pre.length + vs.length) = m.drop (off + vs.length) ++ post := by
    rw [List.append_assoc, show off + pre.length + vs.length = pre.length + (off + vs.length) by omega, List.drop_length_add_append, List.drop_append_of_le_length (by omega)]
  rw [e1, e2]
  simp

/-- no cell of the row is frozen -/
def Warm (fz : Nat × Nat) (n : Nat) : Prop := fz = (0, 0) ∨ n ≤ fz.1
theorem Warm.not {fz : Nat × Nat} {n i : Nat} (h : Warm fz n) (hi : i < n) : (decide (fz.1 ≤ i) && decide (i < fz.2)) = false := by
  rcases h with rfl | h
  · simp
  · have : ¬ fz.1 ≤ i := by omega
    simp [this]
theorem storeCells_fz (g o : Nat) (t : TypeId) (fz : Nat × Nat) : ∀ (vs : List Value) (i : Nat) (cur : Array Value) (w : World), w.heap[g]? = some (.cells cur t fz) → Warm fz cur.size → o + i + vs.length ≤ cur.size → (∀ v ∈ vs, v.oneCell' = true) →
    (storeCells ⟨g, o, none⟩ vs i).run P w = .ok () (w.setRow g (cur.toList.take (o + i) ++ vs ++ cur.toList.drop (o + i + vs.length)).toArray)
  | [], i, cur, w, hg, _, _, _ => by
    simp only [storeCells, List.append_nil, List.length_nil, Nat.add_zero, List.take_append_drop, Array.toArray_toList]
    rw [setRow_self w g cur t fz hg]
    rfl
  | v :: rest, i, cur, w, hg, hw, hl, h1 => by
    have hi : o + i < cur.size := by simp at hl; omega
    have hadd : (⟨g, o, none⟩ : Addr).add i = ⟨g, o + i, none⟩ := by unfold Addr.add; split <;> simp_all
    have hcell : w.cell? ⟨g, o + i, none⟩ = some cur[o + i] := by simp [World.cell?, hg, hi]
    have hfro : w.frozen? ⟨g, o + i, none⟩ = false := by
      unfold World.frozen?
      simp only [hg]
      exact hw.not hi
    have hst : (store ((⟨g, o, none⟩ : Addr).add i) v).run P w = .ok () (w.setRow g (cur.setIfInBounds (o + i) v)) := by
      rw [hadd, run_store P w _ v _ (h1 v (by simp)), hcell]
      simp [hfro, setCell_eq_setRow w g (o + i) cur t fz v hg]
    have ih := storeCells_fz g o t fz rest (i + 1) (cur.setIfInBounds (o + i) v) (w.setRow g (cur.setIfInBounds (o + i) v)) (setRow_heap w g cur _ t _ hg) (by simpa using hw) (by simp at hl ⊢; omega) (fun x hx => h1 x (by simp [hx]))
    simp only [storeCells, Sem.run_bind, hst, Result.andThen_ok, ih, setRow_setRow]
    congr 3
    have e := list_seg_step cur.toList (o + i) v rest (by simp at hl ⊢; omega)
    simpa [Array.toList_setIfInBounds, Nat.add_assoc] using e
theorem row_write (R : Rel E μ d H w) {b off : Nat} {cs vs : List AV} {e : TypeId} (hb : d b) (hg : H.get b = some (.row cs e)) (hl : off + vs.length ≤ cs.length)
    (h1 : vs.all AV.one = true) (hs : supL d vs) :
    ∃ w', (storeCells ⟨(μ.at_ b).blk, off + (μ.at_ b).sh, none⟩ (renL μ vs)).run P w = .ok () w' ∧
      Rel E μ d (H.set b (.row (cs.take off ++ vs ++ cs.drop (off + vs.length)) e)) w' ∧ Ext μ d H w μ d (H.set b (.row (cs.take off ++ vs ++ cs.drop (off + vs.length)) e)) w' := by
  obtain ⟨pre, post, fz, r1, r2, ⟨sz, r3, r4, r4a, r4b⟩, r5⟩ := row_ok R hb hg
  have hwarm : Warm fz (pre ++ renL μ cs ++ post).toArray.size := by
    rcases r4b with h | h
    · exact .inl h
    · exact .inr (by simp only [List.size_toArray, List.length_append, renL_length]; omega)
  have q := storeCells_fz (P := P) (μ.at_ b).blk (off + (μ.at_ b).sh) e fz (renL μ vs) 0 _ w r1 hwarm (by simp [renL_length]; omega) (ones_ren h1 hs)
  have e1 : ((pre ++ renL μ cs ++ post).toArray.toList.take (off + (μ.at_ b).sh + 0) ++ renL μ vs ++ (pre ++ renL μ cs ++ post).toArray.toList.drop (off + (μ.at_ b).sh + 0 + (renL μ vs).length)) =
      pre ++ renL μ (cs.take off ++ vs ++ cs.drop (off + vs.length)) ++ post := by
    simp only [List.toList_toArray, Nat.add_zero, ← r2]
    rw [splice pre (renL μ cs) post (renL μ vs) off (by simp [renL_length]; omega)]
    simp [renL_append, renL_take, renL_drop, renL_length]
  rw [e1, setRow_eq r1] at q
  have k := set_ok R (ob' := .row (cs.take off ++ vs ++ cs.drop (off + vs.length)) e) (O' := .cells (pre ++ renL μ (cs.take off ++ vs ++ cs.drop (off + vs.length)) ++ post).toArray e fz) hb hg rfl
    ⟨pre, post, fz, rfl, r2, sz, r3, r4, r4a, r4b.imp id fun h => ⟨h.1, by simp only [List.length_append, List.length_take, List.length_drop]; omega⟩⟩ (supL_append.2 ⟨supL_append.2 ⟨supL_take r5, hs⟩, supL_drop r5⟩)
    (fun c t fz h => by
      rw [r1] at h
      cases h
      exact ⟨_, rfl, by simp [renL_length]; omega⟩)
    (fun c t fz h => by cases h; exact ⟨_, r1⟩)
  exact ⟨_, q, k.1, k.2⟩

theorem store_ok (EO : EnvOK E P) (R : Rel E μ d H w) {t : TypeId} {b off : Nat} {x : AV} {H' : Hp} (hb : d b) (hx : sup d x) (h : aStore E t b off x H = some H') :
    ∃ w', (Instr.storeAt t (.pointer (some ⟨(μ.at_ b).blk, off + (μ.at_ b).sh, none⟩)) (ren μ x)).run P w = .ok () w' ∧ Rel E μ d H' w' ∧ Ext μ d H w μ d H' w' ∧ H'.nx = H.nx := by
  unfold aStore at h
  split at h
  · rename_i n cs e hn hg
    split at h
    · rename_i hc
      obtain rfl := Option.some.inj h
      simp only [Bool.and_eq_true] at hc
      have c1 := Nat.eq_of_beq_eq_true hc.1.1
      have c2 := Nat.le_of_ble_eq_true hc.1.2
      subst c1
      obtain ⟨w', k1, k2, k3⟩ := row_write (P := P) R hb hg c2 hc.2 (sup_cells hx)
      refine ⟨w', ?_, k2, k3, rfl⟩
      have hsz : (ren μ x).cells.size = x.cells.length := by rw [← Array.length_toList, ren_cells μ hx, renL_length]
      simp only [Instr.storeAt, Instr.sureAddr, Sem.run_bind, Sem.run_pure, Result.andThen_ok, storeVar, run_size EO hn]
      rw [if_neg (by simp [hsz]), ren_cells μ hx]
      exact k1
    · cases h
  · cases h
theorem lt_same {H' : Hp} (lt : Lt d H) (h : H'.nx = H.nx) : Lt d H' := fun b hb => by rw [h]; exact lt b hb

theorem setNth_map {α β : Type} (f : α → β) (v : α) : ∀ (i : Nat) (l : List α), (setNth v i l).map f = (l.map f).set i (f v)
  | _, [] => by simp [setNth]
  | 0, x :: xs => by simp [setNth]
  | n + 1, x :: xs => by simp [setNth, setNth_map f v n xs]
theorem setNth_mem {α : Type} {v x : α} : ∀ {i : Nat} {l : List α}, x ∈ setNth v i l → x = v ∨ x ∈ l
  | _, [], h => by simp [setNth] at h
  | 0, y :: ys, h => by
    rcases List.mem_cons.1 h with h | h
    · exact .inl h
    · exact .inr (List.mem_cons_of_mem _ h)
  | n + 1, y :: ys, h => by
    rcases List.mem_cons.1 h with h | h
    · exact .inr (by rw [h]; exact List.mem_cons_self ..)
    · rcases setNth_mem h with h | h
      · exact .inl h
      · exact .inr (List.mem_cons_of_mem _ h)
theorem modify_set {es : List AEnt} {i : Nat} {e e' : AEnt} (he : es[i]? = some e) (g : MapEntry → MapEntry) (hg : g (renE μ e) = renE μ e') :
    (es.map (renE μ)).toArray.modify i g = ((setNth e' i es).map (renE μ)).toArray := by
  apply Array.ext'
  rw [setNth_map]
  apply List.ext_getElem?
  intro j
  simp only [Array.toList_modify, List.toList_toArray, List.getElem?_modify, List.getElem?_set, List.getElem?_map, List.length_map]
  by_cases h : i = j
  · subst h
    have hlt : i < es.length := (List.getElem?_eq_some_iff.1 he).1
    have hv : es[i] = e := (List.getElem?_eq_some_iff.1 he).2
    simp [hlt, hv, hg]
  · simp [h]

theorem map_write (R : Rel E μ d H w) {b : Nat} {es es' : List AEnt} {clock clock' : Nat} (hb : d b) (hg : H.get b = some (.map es clock)) (hs : ∀ e ∈ es', supE d e) :
    (setObj (μ.at_ b).blk (.map (es'.map (renE μ)).toArray clock')).run P w = .ok () { w with heap := w.heap.setIfInBounds (μ.at_ b).blk (.map (es'.map (renE μ)).toArray clock') } ∧
    Rel E μ d (H.set b (.map es' clock')) { w with heap := w.heap.setIfInBounds (μ.at_ b).blk (.map (es'.map (renE μ)).toArray clock') } ∧
    Ext μ d H w μ d (H.set b (.map es' clock')) { w with heap := w.heap.setIfInBounds (μ.at_ b).blk (.map (es'.map (renE μ)).toArray clock') } := by
  have km := map_ok R hb hg
  have k := set_ok R (ob' := .map es' clock') (O' := .map (es'.map (renE μ)).toArray clock') hb hg rfl rfl hs
    (fun c t fz h => by rw [km.1] at h; cases h) (fun c t fz h => by cases h)
  exact ⟨MapKept.run_setObj_map _ km.1, k.1, k.2⟩
end effs
end Go.Xe
