import Derived.Test.YtnapjngeohncaaaGreatDoorXt
set_option linter.unusedSimpArgs false
set_option linter.unusedVariables false
namespace Go.Xe
section low
variable {d e : Nat → Prop}
mutual
theorem sup_and : ∀ a, sup d a → sup e a → sup (fun b => d b ∧ e b) a
  | .v _, k, _ => by simpa only [sup] using k
  | .sym, _, _ => by simp [sup]
  | .ptr b _, k, q => by simp only [sup] at k q ⊢; exact ⟨k, q⟩
  | .slice b _ _ _ _, k, q => by simp only [sup] at k q ⊢; exact ⟨k, q⟩
  | .map b, k, q => by simp only [sup] at k q ⊢; exact ⟨k, q⟩
  | .func _ f c, k, q => by simp only [sup] at k q ⊢; exact ⟨supL_and f k.1 q.1, supL_and c k.2 q.2⟩
  | .yield l, k, q => by simp only [sup] at k q ⊢; exact ⟨k, q⟩
  | .iface _ x, k, q => by simp only [sup] at k q ⊢; exact sup_and x k q
  | .agg cs, k, q => by simp only [sup] at k q ⊢; exact supL_and cs k q
  | .tuple cs, k, q => by simp only [sup] at k q ⊢; exact supL_and cs k q
theorem supL_and : ∀ l, supL d l → supL e l → supL (fun b => d b ∧ e b) l
  | [], _, _ => by simp [supL]
  | a :: as, k, q => by simp only [supL] at k q ⊢; exact ⟨sup_and a k.1 q.1, supL_and as k.2 q.2⟩
end
mutual
theorem low_and {n : Nat} : ∀ a, sup d a → lowAV n a = true → sup (fun b => d b ∧ b < n) a
  | .v _, k, _ => by simpa only [sup] using k
  | .sym, _, _ => by simp [sup]
  | .ptr b _, k, q => by simp only [sup] at k ⊢; simp only [lowAV, Nat.blt_eq] at q; exact ⟨k, q⟩
  | .slice b _ _ _ _, k, q => by simp only [sup] at k ⊢; simp only [lowAV, Nat.blt_eq] at q; exact ⟨k, q⟩
  | .map b, k, q => by simp only [sup] at k ⊢; simp only [lowAV, Nat.blt_eq] at q; exact ⟨k, q⟩
  | .func _ f c, k, q => by simp only [sup] at k ⊢; simp only [lowAV, Bool.and_eq_true] at q; exact ⟨lowL_and f k.1 q.1, lowL_and c k.2 q.2⟩
  | .yield l, k, q => by simp only [sup] at k ⊢; simp only [lowAV, Nat.blt_eq] at q; exact ⟨k, q⟩
  | .iface _ x, k, q => by simp only [sup] at k ⊢; simp only [lowAV] at q; exact low_and x k q
  | .agg cs, k, q => by simp only [sup] at k ⊢; simp only [lowAV] at q; exact lowL_and cs k q
  | .tuple cs, k, q => by simp only [sup] at k ⊢; simp only [lowAV] at q; exact lowL_and cs k q
theorem lowL_and {n : Nat} : ∀ l, supL d l → lowAVs n l = true → supL (fun b => d b ∧ b < n) l
  | [], _, _ => by simp [supL]
  | a :: as, k, q => by simp only [supL] at k ⊢; simp only [lowAVs, Bool.and_eq_true] at q; exact ⟨low_and a k.1 q.1, lowL_and as k.2 q.2⟩
end
theorem supD_and {x : ADef} (k : supD d x) (q : supD e x) : supD (fun b => d b ∧ e b) x := by
  obtain ⟨t, as⟩ := x
  refine ⟨?_, supL_and _ k.2 q.2⟩
  have k1 := k.1
  have q1 := q.1
  cases t <;> simp only [supT] at k1 q1 ⊢
  · exact supL_and _ k1 q1
  · exact ⟨k1, q1⟩
  · exact ⟨k1, q1⟩
theorem supO_and {o : AObj} (k : supO d o) (q : supO e o) : supO (fun b => d b ∧ e b) o := by
  cases o <;> simp only [supO] at k q ⊢
  · exact supL_and _ k q
  · exact fun x hx => ⟨sup_and _ (k x hx).1 (q x hx).1, sup_and _ (k x hx).2 (q x hx).2⟩
  · exact fun b hb => ⟨k b hb, q b hb⟩
  · exact ⟨fun t => sup_and _ (k.1 t) (q.1 t), k.2, q.2⟩
  · exact fun l hl x hx => supD_and (k l hl x hx) (q l hl x hx)

theorem lowOps_ok {n : Nat} {tm : Tr AV} {t : Tmp} : ∀ {l : List Operand}, lowOps n tm l = true → Operand.tmp t ∈ l → lowAV n (tget tm t) = true
  | x :: xs, h, hm => by
    cases x with
    | tmp t' =>
      simp only [lowOps, Bool.and_eq_true] at h
      rcases List.mem_cons.1 hm with e | hm
      · cases e; exact h.1
      · exact lowOps_ok h.2 hm
    | _ =>
      simp only [lowOps] at h
      rcases List.mem_cons.1 hm with e | hm
      · cases e
      · exact lowOps_ok h hm
theorem restrL_get {tm : Tr AV} {t : Tmp} : ∀ {l : List Operand} {acc : Tr AV}, (Operand.tmp t ∈ l → tget (restrL tm l acc) t = tget tm t) ∧ (Operand.tmp t ∉ l → tget (restrL tm l acc) t = tget acc t)
  | [], acc => ⟨(fun h => by cases h), fun _ => rfl⟩
  | x :: xs, acc => by
    cases x with
    | tmp t' =>
      simp only [restrL]
      have ih := restrL_get (tm := tm) (t := t) (l := xs) (acc := acc.set t' (tget tm t'))
      refine ⟨fun h => ?_, fun h => ?_⟩
      · by_cases hm : Operand.tmp t ∈ xs
        · exact ih.1 hm
        · rw [ih.2 hm]
          rcases List.mem_cons.1 h with e | e
          · cases e; simp [tget, Tr.get_set]
          · exact absurd e hm
      · rw [ih.2 (fun q => h (List.mem_cons_of_mem _ q))]
        have : t ≠ t' := fun e => h (e ▸ List.mem_cons_self ..)
        simp [tget, Tr.get_set, this]
    | _ =>
      simp only [restrL]
      have ih := restrL_get (tm := tm) (t := t) (l := xs) (acc := acc)
      exact ⟨fun h => ih.1 (by
        rcases List.mem_cons.1 h with e | e
        · cases e
        · exact e), fun h => ih.2 (fun q => h (List.mem_cons_of_mem _ q))⟩
theorem restr_ok {n : Nat} {tm rt : Tr AV} {o : Oper} (h : restr n tm o = some rt) : (∀ cs b, o.op ≠ .select cs b) ∧
    (∀ t, Operand.tmp t ∈ o.op.operands → tget rt t = tget tm t ∧ lowAV n (tget rt t) = true) ∧ ∀ t, Operand.tmp t ∉ o.op.operands → tget rt t = .undef := by
  unfold restr at h
  split at h
  · cases h
  · rename_i hs
    split at h
    · rename_i hl
      obtain rfl := Option.some.inj h
      refine ⟨hs, fun t ht => ?_, fun t ht => ?_⟩
      · have := (restrL_get (tm := tm) (acc := .e)).1 (Array.mem_toList_iff.2 ht)
        exact ⟨this, by rw [this]; exact lowOps_ok hl (Array.mem_toList_iff.2 ht)⟩
      · rw [(restrL_get (tm := tm) (acc := .e)).2 (fun q => ht (Array.mem_toList_iff.1 q))]
        rfl
    · cases h
theorem allocF_ok {E : Env} {tm : Tr AV} {o : Oper} {r : AObj × (Nat → AV)} (h : aAllocF E tm o = some r) : aAlloc E tm o ⟨.e, 0⟩ = some r := by
  unfold aAllocF at h
  split at h
  · cases h
  · exact h
end low

/-! ### memory of two parts -/
def mixL (V : Hp) : Nat → Nat → Hp → Hp
  | _, 0, acc => acc
  | b, n + 1, acc => mixL V (b + 1) n (match V.get b with
    | some o => acc.set b o
    | none => acc)
theorem mixL_get (V : Hp) (c : Nat) : ∀ (n b : Nat) (acc : Hp), (mixL V b n acc).get c = if b ≤ c ∧ c < b + n then (match V.get c with | some o => some o | none => acc.get c) else acc.get c
  | 0, b, acc => by
    have : ¬ (b ≤ c ∧ c < b + 0) := by omega
    rw [if_neg this]; rfl
  | n + 1, b, acc => by
    rw [mixL, mixL_get V c n (b + 1)]
    by_cases e : c = b
    · subst e
      have h1 : ¬ (c + 1 ≤ c ∧ c < c + 1 + n) := by omega
      have h2 : c ≤ c ∧ c < c + (n + 1) := by omega
      rw [if_neg h1, if_pos h2]
      cases hv : V.get c with
      | none => rfl
      | some o => simp [Hp.get_set]
    · have k : (match V.get b with | some o => acc.set b o | none => acc).get c = acc.get c := by
        cases V.get b with
        | none => rfl
        | some o => simp [Hp.get_set, e]
      rw [k]
      by_cases h1 : b + 1 ≤ c ∧ c < b + 1 + n
      · have h2 : b ≤ c ∧ c < b + (n + 1) := by omega
        rw [if_pos h1, if_pos h2]
      · have h2 : ¬ (b ≤ c ∧ c < b + (n + 1)) := by omega
        rw [if_neg h1, if_neg h2]
def mix (H V : Hp) : Hp := ⟨(mixL V H.nx (V.nx - H.nx) H).tr, max H.nx V.nx⟩
theorem mix_get {H V : Hp} (hn : ∀ b, H.nx ≤ b → H.get b = none) (vn : ∀ b, V.nx ≤ b → V.get b = none) (c : Nat) : (mix H V).get c = if c < H.nx then H.get c else V.get c := by
  have e : (mix H V).get c = (mixL V H.nx (V.nx - H.nx) H).get c := rfl
  rw [e, mixL_get]
  by_cases h : c < H.nx
  · have : ¬ (H.nx ≤ c ∧ c < H.nx + (V.nx - H.nx)) := by omega
    rw [if_neg this, if_pos h]
  · rw [if_neg h]
    have hc := hn c (by omega)
    rw [hc]
    split
    · cases V.get c <;> rfl
    · rw [vn c (by omega)]

section parts
variable {E : Env} {P : Program} {μ μ' : Mu} {d d' : Nat → Prop} {V H HF H' : Hp} {w w' : World}
theorem Rel.cut (R : Rel E μ d V w) (hg : ∀ b, d b → b < H.nx → H.get b = V.get b) (hn : ∀ b, H.nx ≤ b → H.get b = none) (hng : E.ng ≤ H.nx)
    (hw : ∀ b o, d b → b < H.nx → V.get b = some o → supO (fun c => c < H.nx) o) : Rel E μ (fun b => d b ∧ b < H.nx) H w := by
  refine ⟨?_, ?_, ?_, fun b hb => R.inn b hb.1, hn, ?_, R.sym⟩
  · intro b o hb h
    rw [hg b hb.1 hb.2] at h
    exact R.ob b o hb.1 h
  · intro b o hb h
    rw [hg b hb.1 hb.2] at h
    exact supO_and (R.sp b o hb.1 h) (hw b o hb.1 hb.2 h)
  · intro b c ob oc hb hc h1 h2
    rw [hg b hb.1 hb.2] at h1
    rw [hg c hc.1 hc.2] at h2
    exact R.inj b c ob oc hb.1 hc.1 h1 h2
  · intro g hgn
    have := R.glob g hgn
    exact ⟨⟨this.1, by omega⟩, this.2⟩
theorem Rel.bare (R : Rel E μ d V w) {n : Nat} (hng : E.ng ≤ n) : Rel E μ (fun b => d b ∧ b < n) ⟨.e, 0⟩ w := by
  have e : ∀ b, (⟨.e, 0⟩ : Hp).get b = none := fun b => rfl
  refine ⟨(fun b o _ h => by rw [e] at h; cases h), (fun b o _ h => by rw [e] at h; cases h), (fun b c ob oc _ _ h => by rw [e] at h; cases h), fun b hb => R.inn b hb.1, fun b _ => rfl, ?_, R.sym⟩
  intro g hgn
  have := R.glob g hgn
  exact ⟨⟨this.1, by omega⟩, this.2⟩
variable {μ0 : Mu} {d0 : Nat → Prop} {H0 : Hp} {w0 : World}
theorem Ext.cut (X : Ext μ0 d0 H0 w0 μ d V w) (hg : ∀ b, b < H0.nx → ¬ d0 b → H.get b = V.get b) (hle : H0.nx ≤ H.nx) (lt : Lt d0 H0) : Ext μ0 d0 H0 w0 μ (fun b => d b ∧ b < H.nx) H w := by
  refine ⟨fun b hb => ⟨X.dom b hb, Nat.lt_of_lt_of_le (lt b hb) hle⟩, X.agr, hle, ?_, X.size, X.keep, fun b hb => X.new b hb.1, ?_, X.rows, X.os, X.out, X.tape⟩
  · intro b hb
    rcases X.fresh b hb.1 with h | h
    · exact .inl h
    · exact .inr ⟨h.1, hb.2⟩
  · intro b hb hnb
    rw [hg b hb hnb]
    exact X.abs b hb hnb
def Mu.join (μ μ' : Mu) (n : Nat) : Mu := ⟨fun b => if b < n then μ'.at_ b else μ.at_ b, μ.n⟩
theorem join_agree (X : Ext μ (fun b => d b ∧ b < HF.nx) HF w μ' d' H' w') (hle : ∀ b, d b → HF.nx ≤ b → H'.nx ≤ b) : Agree d μ (μ.join μ' H'.nx) := by
  refine ⟨fun b hb => ?_, rfl⟩
  unfold Mu.join
  simp only
  by_cases h : b < HF.nx
  · have := X.nx
    rw [if_pos (by omega)]
    exact X.agr.1 b ⟨hb, h⟩
  · have := hle b hb (by omega)
    rw [if_neg (by omega)]
theorem join_agree' (X : Ext μ (fun b => d b ∧ b < HF.nx) HF w μ' d' H' w') (lt' : Lt d' H') : Agree d' μ' (μ.join μ' H'.nx) := by
  refine ⟨fun b hb => ?_, X.agr.2.symm⟩
  unfold Mu.join
  simp only
  rw [if_pos (lt' b hb)]
theorem join_rel (R : Rel E μ d V w) (R' : Rel E μ' d' H' w') (lt' : Lt d' H') (X : Ext μ (fun b => d b ∧ b < HF.nx) HF w μ' d' H' w') (hle : ∀ b, d b → HF.nx ≤ b → H'.nx ≤ b)
    (hap : ∀ c, d c → HF.nx ≤ c → ∀ b, d b → b ≠ c → (μ.at_ b).blk ≠ (μ.at_ c).blk) : Rel E (μ.join μ' H'.nx) (fun b => d' b ∨ d b) (mix H' V) w' := by
  have ag := join_agree X hle
  have ag' := join_agree' X lt'
  have hm := mix_get R'.nxt R.nxt
  have two : ∀ b, d' b ∨ d b → (d' b ∧ b < H'.nx) ∨ (d b ∧ HF.nx ≤ b ∧ ¬ b < H'.nx) := by
    intro b hb
    rcases hb with hb | hb
    · exact .inl ⟨hb, lt' b hb⟩
    · by_cases h : b < HF.nx
      · have := X.dom b ⟨hb, h⟩; exact .inl ⟨this, lt' b this⟩
      · have := hle b hb (by omega); exact .inr ⟨hb, by omega, by omega⟩
  have far : ∀ b c, d' b → d c → HF.nx ≤ c → (μ'.at_ b).blk ≠ (μ.at_ c).blk := by
    intro b c hb hc hcn e
    by_cases hd : d b ∧ b < HF.nx
    · rw [X.agr.1 b hd] at e
      exact hap c hc hcn b hd.1 (by omega) e
    · rcases X.new b hb hd with h1 | ⟨c', hc', h1⟩
      · have := R.inn c hc; omega
      · exact hap c hc hcn c' hc'.1 (by have := hc'.2; omega) (h1.trans e)
  refine ⟨?_, ?_, ?_, ?_, ?_, ?_, by rw [show (μ.join μ' H'.nx).n = μ.n from rfl]; exact R.sym⟩
  · intro b o hb hg
    rw [hm] at hg
    rcases two b hb with ⟨h1, h2⟩ | ⟨h1, h2, h3⟩
    · rw [if_pos h2] at hg
      obtain ⟨o', q1, q2⟩ := R'.ob b o h1 hg
      rw [ag'.1 b h1]
      exact ⟨o', q1, ObjR_agree ag' (R'.sp b o h1 hg) q2⟩
    · rw [if_neg h3] at hg
      obtain ⟨o', q1, q2⟩ := R.ob b o h1 hg
      rw [ag.1 b h1]
      refine ⟨o', ?_, ObjR_agree ag (R.sp b o h1 hg) q2⟩
      rw [X.keep _ (R.inn b h1) (fun c hc e => hap b h1 h2 c hc.1 (by have := hc.2; omega) e)]
      exact q1
  · intro b o hb hg
    rw [hm] at hg
    rcases two b hb with ⟨h1, h2⟩ | ⟨h1, h2, h3⟩
    · rw [if_pos h2] at hg
      exact supO_mono (fun c hc => .inl hc) (R'.sp b o h1 hg)
    · rw [if_neg h3] at hg
      exact supO_mono (fun c hc => .inr hc) (R.sp b o h1 hg)
  · intro b c ob oc hb hc hgb hgc lb lc e
    rw [hm] at hgb hgc
    rcases two b hb with ⟨h1, h2⟩ | ⟨h1, h2, h3⟩ <;> rcases two c hc with ⟨k1, k2⟩ | ⟨k1, k2, k3⟩
    · rw [if_pos h2] at hgb
      rw [if_pos k2] at hgc
      rw [ag'.1 b h1, ag'.1 c k1] at e
      exact R'.inj b c _ _ h1 k1 hgb hgc lb lc e
    · rw [ag'.1 b h1, ag.1 c k1] at e
      exact absurd e (far b c h1 k1 k2)
    · rw [ag.1 b h1, ag'.1 c k1] at e
      exact absurd e.symm (far c b k1 h1 h2)
    · rw [if_neg h3] at hgb
      rw [if_neg k3] at hgc
      rw [ag.1 b h1, ag.1 c k1] at e
      exact R.inj b c _ _ h1 k1 hgb hgc lb lc e
  · intro b hb
    rcases two b hb with ⟨h1, h2⟩ | ⟨h1, h2, h3⟩
    · rw [ag'.1 b h1]; exact R'.inn b h1
    · rw [ag.1 b h1]; exact Nat.lt_of_lt_of_le (R.inn b h1) X.size
  · intro b hb
    have hb' : max H'.nx V.nx ≤ b := hb
    rw [hm, if_neg (by omega)]
    exact R.nxt b (by omega)
  · intro g hgn
    have := R.glob g hgn
    exact ⟨.inr this.1, by rw [ag.1 g this.1]; exact this.2⟩
theorem join_ext (X0 : Ext μ0 d0 H0 w0 μ d V w) (R : Rel E μ d V w) (R' : Rel E μ' d' H' w') (lt0 : Lt d0 H0) (lt' : Lt d' H') (hHF : ∀ b, b < H0.nx → ¬ d0 b → HF.get b = V.get b) (h0 : H0.nx ≤ HF.nx)
    (X : Ext μ (fun b => d b ∧ b < HF.nx) HF w μ' d' H' w') (hle : ∀ b, d b → HF.nx ≤ b → H'.nx ≤ b) : Ext μ0 d0 H0 w0 (μ.join μ' H'.nx) (fun b => d' b ∨ d b) (mix H' V) w' := by
  have ag := join_agree X hle
  have ag' := join_agree' X lt'
  have C := (X0.cut hHF h0 lt0).trans X (fun b hb => R.inn b hb.1)
  refine ⟨fun b hb => .inl (C.dom b hb), C.agr.trans (ag'.mono C.dom), Nat.le_trans C.nx (Nat.le_max_left _ _), ?_, C.size, C.keep, ?_, ?_, C.rows, C.os, C.out, C.tape⟩
  · intro b hb
    show d0 b ∨ (H0.nx ≤ b ∧ b < max H'.nx V.nx)
    rcases hb with hb | hb
    · rcases C.fresh b hb with h | h
      · exact .inl h
      · exact .inr ⟨h.1, by omega⟩
    · rcases X0.fresh b hb with h | h
      · exact .inl h
      · exact .inr ⟨h.1, by omega⟩
  · intro b hb hnb
    rcases hb with hb | hb
    · rw [ag'.1 b hb]; exact C.new b hb hnb
    · rw [ag.1 b hb]; exact X0.new b hb hnb
  · intro b hb hnb
    have := C.nx
    rw [mix_get R'.nxt R.nxt, if_pos (by omega)]
    exact C.abs b hb hnb
/-- one more block, at a number of its own -/
theorem put_rel (R : Rel E μ d V w) {V' : Hp} {a : Nat} (ha : ¬ d a) {p : Pl} (hp : p.blk = w.heap.size) {ob : AObj} {O : Obj} (hO : ObjR E μ p ob O) (hs : supO d ob)
    (hg : ∀ b, V'.get b = if b = a then some ob else V.get b) (hn : V.nx ≤ V'.nx) (han : a < V'.nx) : Rel E (μ.put a p) (fun b => d b ∨ b = a) V' (w.alloc O) := by
  have ag : Agree d μ (μ.put a p) := Mu.agree_put μ _ ha
  have hne : ∀ b, d b → b ≠ a := fun b hb e => ha (e ▸ hb)
  refine ⟨?_, ?_, ?_, ?_, ?_, ?_, R.sym⟩
  · intro b o hb hg'
    rw [hg] at hg'
    rcases hb with hb | rfl
    · rw [if_neg (hne b hb)] at hg'
      obtain ⟨o', h1, h2⟩ := R.ob b o hb hg'
      have hlt := R.inn b hb
      refine ⟨o', ?_, ?_⟩
      · rw [ag.1 b hb, alloc_get, if_neg (by omega)]; exact h1
      · rw [ag.1 b hb]; exact ObjR_agree ag (R.sp b o hb hg') h2
    · rw [if_pos rfl] at hg'
      obtain rfl := Option.some.inj hg'
      refine ⟨O, ?_, ?_⟩
      · rw [Mu.put_self, alloc_get, if_pos hp]
      · rw [Mu.put_self]; exact ObjR_agree ag hs hO
  · intro b o hb hg'
    rw [hg] at hg'
    rcases hb with hb | rfl
    · rw [if_neg (hne b hb)] at hg'
      exact supO_mono (fun c hc => .inl hc) (R.sp b o hb hg')
    · rw [if_pos rfl] at hg'
      obtain rfl := Option.some.inj hg'
      exact supO_mono (fun c hc => .inl hc) hs
  · intro b c ob' oc hb hc hgb hgc lb lc e
    rw [hg] at hgb hgc
    rcases hb with hb | rfl <;> rcases hc with hc | rfl
    · rw [if_neg (hne b hb)] at hgb
      rw [if_neg (hne c hc)] at hgc
      rw [ag.1 b hb, ag.1 c hc] at e
      exact R.inj b c _ _ hb hc hgb hgc lb lc e
    · rw [ag.1 b hb, Mu.put_self] at e
      have := R.inn b hb
      omega
    · rw [ag.1 c hc, Mu.put_self] at e
      have := R.inn c hc
      omega
    · rfl
  · intro b hb
    rw [alloc_size]
    rcases hb with hb | rfl
    · rw [ag.1 b hb]; have := R.inn b hb; omega
    · rw [Mu.put_self, hp]; exact Nat.lt_succ_self _
  · intro b hb
    rw [hg, if_neg (by omega)]
    exact R.nxt b (by omega)
  · intro g hgn
    have := R.glob g hgn
    exact ⟨.inl this.1, by rw [ag.1 g this.1]; exact this.2⟩
theorem put_ext (X : Ext μ0 d0 H0 w0 μ d V w) {V' : Hp} {a : Nat} (ha : ¬ d a) {p : Pl} (hp : p.blk = w.heap.size) {O : Obj} (h0 : H0.nx ≤ a) (han : a < V'.nx) (hn : V.nx ≤ V'.nx)
    (hg : ∀ b, b ≠ a → V'.get b = V.get b) (hf : ∀ a, (w.alloc O).frozen? a = w.frozen? a) : Ext μ0 d0 H0 w0 (μ.put a p) (fun b => d b ∨ b = a) V' (w.alloc O) := by
  have ag : Agree d μ (μ.put a p) := Mu.agree_put μ _ ha
  refine ⟨fun b h => .inl (X.dom b h), X.agr.trans (ag.mono X.dom), Nat.le_trans X.nx hn, ?_, by rw [alloc_size]; have := X.size; omega, ?_, ?_, ?_, ?_, X.os, X.out, X.tape⟩
  · intro b hb
    rcases hb with hb | rfl
    · rcases X.fresh b hb with h | h
      · exact .inl h
      · exact .inr ⟨h.1, by omega⟩
    · exact .inr ⟨h0, han⟩
  · intro r hr hnr
    have := X.size
    rw [alloc_get, if_neg (by omega)]
    exact X.keep r hr hnr
  · intro b hb hnb
    rcases hb with hb | rfl
    · rw [ag.1 b hb]; exact X.new b hb hnb
    · rw [Mu.put_self, hp]; exact .inl X.size
  · intro b hb hnb
    rw [hg b (by omega)]
    exact X.abs b hb hnb
  · intro r c t fz hr
    obtain ⟨c', f', h1, h2⟩ := X.rows r c t fz hr
    have : r < w.heap.size := (Array.getElem?_eq_some_iff.1 h1).1
    exact ⟨c', f', by rw [alloc_get, if_neg (by omega)]; exact h1, h2⟩
end parts
end Go.Xe
