import Derived.Test.YtnapjngeohncaaaGreatDoorXad
import Derived.Handed
import Derived.LaidLaws
import Derived.ChangeSame
set_option linter.unusedSimpArgs false
set_option linter.unusedVariables false
namespace Go.Xe
def keptG (h H0 : Hp) : Nat → Bool
  | 0 => true
  | g + 1 => (match h.get g, H0.get g with
    | some x, some y => sameObj x y
    | _, _ => false) && keptG h H0 g
def finOK (n : Nat) (H0 : Hp) : Option (List Res) → Bool
  | some rs => rs.all fun r => match r with
    | .fin (.ret (.v (.bool true))) _ h => keptG h H0 n
    | _ => false
  | none => false
theorem keptG_ok {h H0 : Hp} : ∀ {n : Nat}, keptG h H0 n = true → ∀ g, g < n → ∃ x, h.get g = some x ∧ H0.get g = some x
  | 0, _, g, hg => by omega
  | n + 1, hk, g, hg => by
    unfold keptG at hk
    rw [Bool.and_eq_true] at hk
    by_cases e : g = n
    · subst e
      have h1 := hk.1
      split at h1
      · rename_i x y hx hy
        obtain rfl := sameObj_ok h1
        exact ⟨x, hx, hy⟩
      · cases h1
    · exact keptG_ok hk.2 g (by omega)
section
variable {E : Env} {P : Program}
theorem run_ok (EO : EnvOK E P) {n : Nat} {f : FuncId} {args : List AV} {H0 : Hp} {w : World} {μ : Mu} (hgo : finOK E.ng H0 (ev E n (.call false f args .run H0)) = true)
    (R : Rel E μ (fun b => b < E.ng) H0 w) (hnx : H0.nx = E.ng) (rows : ∀ g, g < E.ng → ∃ cs e, H0.get g = some (.row cs e) ∧ E.und e ≠ some (.int .u8)) (hs : supL (fun b => b < E.ng) args) :
    Calls P f (renL μ args).toArray w fun e w' => e = .returned (.bool true) ∧ w'.os = w.os ∧ w'.output = w.output ∧ ∀ i, i < w.heap.size → w'.heap[i]? = w.heap[i]? := by
  intro cs
  cases hev : ev E n (.call false f args .run H0) with
  | none => rw [hev] at hgo; cases hgo
  | some rs =>
    rw [hev] at hgo
    obtain ⟨e, pm, h, hm, μ', d', w', fr, q1, q2, q3, q4, q5, q6, q7, q8, q9⟩ := sound EO n _ _ hev μ (fun b => b < E.ng) w cs R (fun b hb => by rw [hnx]; exact hb) hs trivial (fun h => by cases h)
    have hok := List.all_eq_true.1 hgo _ hm
    split at hok
    · rename_i pm' h' heq
      cases heq
      refine ⟨.returned (.bool true), w', fr, ⟨rfl, q2.os, q2.out, fun i hi => ?_⟩, q6, q9, leaving_of_fini q7 q8⟩
      by_cases hgk : ∃ k, k < E.ng ∧ E.glAt k = i
      · obtain ⟨k, hg, rfl⟩ := hgk
        obtain ⟨x, hx, hy⟩ := keptG_ok hok k hg
        obtain ⟨cs', e', hr, hn1⟩ := rows k hg
        rw [hr] at hy
        obtain rfl := Option.some.inj hy
        have hgl := R.glob k hg
        have hgl' := q1.glob k hg
        obtain ⟨o1, a1, a2⟩ := R.ob k _ hg hr
        obtain ⟨o2, b1, b2⟩ := q1.ob k _ hgl'.1 hx
        have hsp := R.sp k _ hg hr
        rw [hgl.2] at a1 a2
        rw [hgl'.2] at b1 b2
        simp only [ObjR] at a2 b2
        obtain ⟨pre, post, fz, rfl, a3, sz, a4, a5, _, a6⟩ := a2
        obtain ⟨pre', post', fz', rfl, b3, sz', b4, b5, _, b6⟩ := b2
        obtain rfl : pre = [] := List.eq_nil_of_length_eq_zero a3
        obtain rfl : pre' = [] := List.eq_nil_of_length_eq_zero b3
        obtain rfl : post = [] := List.eq_nil_of_length_eq_zero (by simpa using a5)
        obtain rfl : post' = [] := List.eq_nil_of_length_eq_zero (by simpa using b5)
        obtain rfl : fz = (0, 0) := a6.resolve_right fun h => hn1 h.1
        obtain rfl : fz' = (0, 0) := b6.resolve_right fun h => hn1 h.1
        rw [a1, b1, renL_agree q2.agr _ hsp]
      · exact q2.keep i hi fun b hb e => by
          rw [(R.glob b hb).2] at e
          exact hgk ⟨b, hb, e⟩
    · cases hok
theorem keptBut_same {w w' : World} (may : MemPlace → Prop) (h1 : w'.os = w.os) (h2 : w'.output = w.output) (h3 : ∀ i, i < w.heap.size → w'.heap[i]? = w.heap[i]?) : w.keptBut w' may := by
  refine ⟨h1, h2, fun i hi => ?_⟩
  rw [h3 i hi]
  split
  · rename_i c t fr c' t' fr' e1 e2
    rw [e1] at e2
    simp only [Option.some.injEq, Obj.cells.injEq] at e2
    obtain ⟨rfl, rfl, rfl⟩ := e2
    exact ⟨rfl, rfl, rfl, fun _ _ => rfl⟩
  · rename_i e1 e2
    rw [e1] at e2
    simp only [Option.some.injEq, Obj.map.injEq] at e2
    obtain ⟨rfl, rfl⟩ := e2
    exact .inr ⟨rfl, rfl⟩
  · rfl
/-- the world's own variables, as rows: of each, its number in the program, its cells, its type -/
theorem start_rel {rows : List (Nat × List AV × TypeId)} {w : World} {m : Int} (hng : E.ng = rows.length) (hgl : E.gl = rows.map (·.1)) (hnd : E.gl.Nodup) (hsym : E.lo ≤ m ∧ m ≤ E.hi)
    (h : ∀ (k g : Nat) (cs : List AV) (e : TypeId), rows[k]? = some (g, cs, e) → supL (fun b => b < E.ng) cs ∧ w.heap[g]? = some (.cells (renL ⟨fun b => ⟨E.glAt b, 0, 0⟩, m⟩ cs).toArray e (0, 0)) ∧ ∃ sz, E.size e = some sz) :
    Rel E ⟨fun b => ⟨E.glAt b, 0, 0⟩, m⟩ (fun b => b < E.ng) ⟨Tr.ofList (rows.map fun r => .row r.2.1 r.2.2), rows.length⟩ w ∧
      ∀ g, g < E.ng → ∃ cs e, (⟨Tr.ofList (rows.map fun r => .row r.2.1 r.2.2), rows.length⟩ : Hp).get g = some (.row cs e) := by
  have hget : ∀ g, (⟨Tr.ofList (rows.map fun r => .row r.2.1 r.2.2), rows.length⟩ : Hp).get g = (rows[g]?).map fun r => .row r.2.1 r.2.2 := by
    intro g
    show (Tr.ofList _).get g = _
    rw [Tr.get_ofList, List.getElem?_map]
  have hlook : ∀ k, k < E.ng → ∃ cs e, rows[k]? = some (E.glAt k, cs, e) := by
    intro k hk
    rw [hng] at hk
    refine ⟨rows[k].2.1, rows[k].2.2, ?_⟩
    rw [List.getElem?_eq_getElem hk]
    have : E.glAt k = rows[k].1 := by
      unfold Env.glAt
      rw [hgl]
      simp [hk]
    rw [this]
  refine ⟨⟨?_, ?_, ?_, ?_, ?_, fun g hg => ⟨hg, rfl⟩, hsym⟩, fun g hg => ?_⟩
  · intro b o hb hg
    obtain ⟨cs, e, hr⟩ := hlook b hb
    rw [hget, hr] at hg
    obtain rfl := Option.some.inj hg
    obtain ⟨h1, h2, sz, h3⟩ := h b _ cs e hr
    exact ⟨_, h2, [], [], (0, 0), by simp, rfl, sz, h3, by simp, ⟨0, by simp⟩, .inl rfl⟩
  · intro b o hb hg
    obtain ⟨cs, e, hr⟩ := hlook b hb
    rw [hget, hr] at hg
    obtain rfl := Option.some.inj hg
    exact (h b _ cs e hr).1
  · intro b c _ _ hb hc _ _ _ _ he
    have hb' : b < E.gl.length := by rw [hgl, List.length_map, ← hng]; exact hb
    have hc' : c < E.gl.length := by rw [hgl, List.length_map, ← hng]; exact hc
    have he' : E.gl.getD b 0 = E.gl.getD c 0 := he
    rw [List.getD_eq_getElem?_getD, List.getD_eq_getElem?_getD, List.getElem?_eq_getElem hb', List.getElem?_eq_getElem hc'] at he'
    exact (List.getElem_inj hnd).1 (by simpa using he')
  · intro b hb
    obtain ⟨cs, e, hr⟩ := hlook b hb
    exact (Array.getElem?_eq_some_iff.1 (h b _ cs e hr).2.1).1
  · intro b hb
    rw [hget, List.getElem?_eq_none hb]
    rfl
  · obtain ⟨cs, e, hr⟩ := hlook g hg
    exact ⟨cs, e, by rw [hget, hr]; rfl⟩
end
end Go.Xe
