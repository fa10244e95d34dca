import Derived.Test.YtnapjngeohncaaaGreatDoorXe
set_option linter.unusedSimpArgs false
set_option linter.unusedVariables false
namespace Go.Xe

/-! ### tables -/
theorem Tr.get_e {α : Type} (k : Nat) : (Tr.e : Tr α).get k = none := rfl
theorem Tr.get_setF {α : Type} (v : α) : ∀ (f k : Nat) (t : Tr α) (j : Nat), k < f → (Tr.setF v f k t).get j = if j = k then some v else t.get j := by
  intro f
  induction f with
  | zero => intro k t j h; omega
  | succ f ih =>
    intro k t j h
    cases k with
    | zero =>
      cases t with
      | e =>
        cases j with
        | zero => simp [Tr.setF, Tr.get]
        | succ j => simp only [Tr.setF, Tr.get]; split <;> simp [Tr.get]
      | n x l r =>
        cases j with
        | zero => simp [Tr.setF, Tr.get]
        | succ j => simp [Tr.setF, Tr.get]
    | succ k =>
      have hk : k / 2 < f := by omega
      cases t with
      | e =>
        cases hp : Nat.beq (k % 2) 0 with
        | true =>
          have hp' := Nat.eq_of_beq_eq_true hp
          cases j with
          | zero => simp [Tr.setF, Tr.get, hp]
          | succ j =>
            simp only [Tr.setF, Tr.get, hp]
            cases hq : Nat.beq (j % 2) 0 with
            | true =>
              have hq' := Nat.eq_of_beq_eq_true hq
              simp only [ih (k / 2) .e (j / 2) hk, Tr.get]
              by_cases hjk : j = k
              · simp [hjk]
              · have : ¬ j / 2 = k / 2 := by omega
                simp [hjk, this]
            | false =>
              have hq' := Nat.ne_of_beq_eq_false hq
              have : ¬ j = k := by omega
              simp [Tr.get, this]
        | false =>
          have hp' := Nat.ne_of_beq_eq_false hp
          cases j with
          | zero => simp [Tr.setF, Tr.get, hp]
          | succ j =>
            simp only [Tr.setF, Tr.get, hp]
            cases hq : Nat.beq (j % 2) 0 with
            | true =>
              have hq' := Nat.eq_of_beq_eq_true hq
              have : ¬ j = k := by omega
              simp [Tr.get, this]
            | false =>
              have hq' := Nat.ne_of_beq_eq_false hq
              simp only [ih (k / 2) .e (j / 2) hk, Tr.get]
              by_cases hjk : j = k
              · simp [hjk]
              · have : ¬ j / 2 = k / 2 := by omega
                simp [hjk, this]
      | n x l r =>
        cases hp : Nat.beq (k % 2) 0 with
        | true =>
          have hp' := Nat.eq_of_beq_eq_true hp
          cases j with
          | zero => simp [Tr.setF, Tr.get, hp]
          | succ j =>
            simp only [Tr.setF, Tr.get, hp]
            cases hq : Nat.beq (j % 2) 0 with
            | true =>
              have hq' := Nat.eq_of_beq_eq_true hq
              simp only [ih (k / 2) l (j / 2) hk]
              by_cases hjk : j = k
              · simp [hjk]
              · have : ¬ j / 2 = k / 2 := by omega
                simp [hjk, this]
            | false =>
              have hq' := Nat.ne_of_beq_eq_false hq
              have : ¬ j = k := by omega
              simp [this]
        | false =>
          have hp' := Nat.ne_of_beq_eq_false hp
          cases j with
          | zero => simp [Tr.setF, Tr.get, hp]
          | succ j =>
            simp only [Tr.setF, Tr.get, hp]
            cases hq : Nat.beq (j % 2) 0 with
            | true =>
              have hq' := Nat.eq_of_beq_eq_true hq
              have : ¬ j = k := by omega
              simp [this]
            | false =>
              have hq' := Nat.ne_of_beq_eq_false hq
              simp only [ih (k / 2) r (j / 2) hk]
              by_cases hjk : j = k
              · simp [hjk]
              · have : ¬ j / 2 = k / 2 := by omega
                simp [hjk, this]
theorem Tr.get_set {α : Type} (t : Tr α) (k : Nat) (v : α) (j : Nat) : (t.set k v).get j = if j = k then some v else t.get j :=
  Tr.get_setF v (k + 1) k t j (by omega)
theorem Tr.get_ofListFrom {α : Type} : ∀ (l : List α) (i : Nat) (t : Tr α) (j : Nat), (Tr.ofListFrom i l t).get j = if i ≤ j ∧ j < i + l.length then l[j - i]? else t.get j
  | [], i, t, j => by
    have : ¬ (i ≤ j ∧ j < i + ([] : List α).length) := by simp
    rw [if_neg this]; rfl
  | x :: xs, i, t, j => by
    rw [Tr.ofListFrom, Tr.get_ofListFrom xs, Tr.get_set]
    by_cases h1 : i + 1 ≤ j ∧ j < i + 1 + xs.length
    · have h2 : i ≤ j ∧ j < i + (x :: xs).length := by simp; omega
      rw [if_pos h1, if_pos h2]
      obtain ⟨m, hm⟩ : ∃ m, j - i = m + 1 := ⟨j - i - 1, by omega⟩
      have : j - (i + 1) = m := by omega
      simp [this, hm]
    · rw [if_neg h1]
      by_cases h3 : j = i
      · subst h3
        simp
      · have h2 : ¬ (i ≤ j ∧ j < i + (x :: xs).length) := by simp; omega
        rw [if_neg h3, if_neg h2]
theorem Tr.get_ofList {α : Type} (l : List α) (j : Nat) : (Tr.ofList l).get j = l[j]? := by
  rw [Tr.ofList, Tr.get_ofListFrom]
  by_cases h : j < l.length
  · simp [h]
  · have : l[j]? = none := List.getElem?_eq_none (by omega)
    simp [h, this, Tr.get]

theorem Hp.get_set (h : Hp) (b : Nat) (o : AObj) (c : Nat) : (h.set b o).get c = if c = b then some o else h.get c := Tr.get_set _ _ _ _
theorem Hp.get_push (h : Hp) (o : AObj) (c : Nat) : (h.push o).get c = if c = h.nx then some o else h.get c := Tr.get_set _ _ _ _
theorem Hp.nx_set (h : Hp) (b : Nat) (o : AObj) : (h.set b o).nx = h.nx := rfl
theorem Hp.nx_push (h : Hp) (o : AObj) : (h.push o).nx = h.nx + 1 := rfl

/-! ### what an abstract value stands for -/
structure Pl where
  blk : Nat
  sh : Nat
  sl : Nat
  deriving Inhabited
/-- where the blocks lie, and the int that is not known -/
structure Mu where
  at_ : Nat → Pl
  n : Int

mutual
def ren (μ : Mu) : AV → Value
  | .v x => x
  | .sym => .int .i64 μ.n
  | .ptr b off => .pointer (some ⟨(μ.at_ b).blk, off + (μ.at_ b).sh, none⟩)
  | .slice b off len cap q => .slice (some ⟨(μ.at_ b).blk, off + (μ.at_ b).sh, none⟩) len (if q then cap + (μ.at_ b).sl else cap)
  | .map b => .map (some (μ.at_ b).blk)
  | .func f first cap => .func (.func f) (renL μ first).toArray (renL μ cap).toArray
  | .yield l => .func (.yield (μ.at_ l).blk) #[] #[]
  | .iface t x => .iface t (ren μ x)
  | .agg cs => .agg (renL μ cs).toArray
  | .tuple cs => .tuple (renL μ cs).toArray
def renL (μ : Mu) : List AV → List Value
  | [] => []
  | a :: as => ren μ a :: renL μ as
end
/-- a value that bears no address and fills one cell -/
def isSc : Value → Bool
  | .bool _ | .int _ _ | .float _ _ | .complex _ _ _ | .string _ | .pointer none | .slice none _ _ | .map none | .nilFunc | .nilIface => true
  | _ => false
mutual
/-- its blocks are among 'd' -/
def sup (d : Nat → Prop) : AV → Prop
  | .v x => isSc x = true
  | .sym => True
  | .ptr b _ => d b
  | .slice b _ _ _ _ => d b
  | .map b => d b
  | .func _ first cap => supL d first ∧ supL d cap
  | .yield l => d l
  | .iface _ x => sup d x
  | .agg cs => supL d cs
  | .tuple cs => supL d cs
def supL (d : Nat → Prop) : List AV → Prop
  | [] => True
  | a :: as => sup d a ∧ supL d as
end

theorem renL_map (μ : Mu) : ∀ l, renL μ l = l.map (ren μ)
  | [] => rfl
  | a :: as => by rw [renL, renL_map μ as]; rfl
theorem renL_length (μ : Mu) (l : List AV) : (renL μ l).length = l.length := by simp [renL_map]
theorem renL_append (μ : Mu) (a b : List AV) : renL μ (a ++ b) = renL μ a ++ renL μ b := by simp [renL_map]
theorem renL_take (μ : Mu) (n : Nat) (a : List AV) : renL μ (a.take n) = (renL μ a).take n := by simp [renL_map, List.map_take]
theorem renL_drop (μ : Mu) (n : Nat) (a : List AV) : renL μ (a.drop n) = (renL μ a).drop n := by simp [renL_map, List.map_drop]
theorem renL_get (μ : Mu) (l : List AV) (i : Nat) : (renL μ l)[i]? = (l[i]?).map (ren μ) := by simp [renL_map]
theorem supL_iff {d : Nat → Prop} : ∀ {l : List AV}, supL d l ↔ ∀ a ∈ l, sup d a
  | [] => by simp [supL]
  | a :: as => by simp [supL, supL_iff (l := as)]
theorem supL_append {d : Nat → Prop} {a b : List AV} : supL d (a ++ b) ↔ supL d a ∧ supL d b := by
  simp only [supL_iff, List.mem_append]
  exact ⟨fun h => ⟨fun x hx => h x (.inl hx), fun x hx => h x (.inr hx)⟩, fun h x hx => hx.elim (h.1 x) (h.2 x)⟩
theorem supL_take {d : Nat → Prop} {n : Nat} {a : List AV} (h : supL d a) : supL d (a.take n) :=
  supL_iff.2 fun x hx => supL_iff.1 h x (List.mem_of_mem_take hx)
theorem supL_drop {d : Nat → Prop} {n : Nat} {a : List AV} (h : supL d a) : supL d (a.drop n) :=
  supL_iff.2 fun x hx => supL_iff.1 h x (List.mem_of_mem_drop hx)
theorem supL_get {d : Nat → Prop} {l : List AV} {i : Nat} {v : AV} (h : supL d l) (hv : l[i]? = some v) : sup d v :=
  supL_iff.1 h v (List.mem_of_getElem? hv)

mutual
theorem sup_mono {d e : Nat → Prop} (h : ∀ b, d b → e b) : ∀ a, sup d a → sup e a
  | .v _, k => by simpa only [sup] using k
  | .sym, _ => by simp [sup]
  | .ptr b _, k => by simp only [sup] at k ⊢; exact h _ k
  | .slice b _ _ _ _, k => by simp only [sup] at k ⊢; exact h _ k
  | .map b, k => by simp only [sup] at k ⊢; exact h _ k
  | .func _ f c, k => by simp only [sup] at k ⊢; exact ⟨supL_mono h f k.1, supL_mono h c k.2⟩
  | .yield l, k => by simp only [sup] at k ⊢; exact h _ k
  | .iface _ x, k => by simp only [sup] at k ⊢; exact sup_mono h x k
  | .agg cs, k => by simp only [sup] at k ⊢; exact supL_mono h cs k
  | .tuple cs, k => by simp only [sup] at k ⊢; exact supL_mono h cs k
theorem supL_mono {d e : Nat → Prop} (h : ∀ b, d b → e b) : ∀ l, supL d l → supL e l
  | [], _ => by simp [supL]
  | a :: as, k => by simp only [supL] at k ⊢; exact ⟨sup_mono h a k.1, supL_mono h as k.2⟩
end
/-- two placings agree on 'd' -/
def Agree (d : Nat → Prop) (μ ν : Mu) : Prop := (∀ b, d b → ν.at_ b = μ.at_ b) ∧ ν.n = μ.n
theorem Agree.refl (d : Nat → Prop) (μ : Mu) : Agree d μ μ := ⟨fun _ _ => rfl, rfl⟩
theorem Agree.mono {d e : Nat → Prop} {μ ν : Mu} (h : Agree e μ ν) (hd : ∀ b, d b → e b) : Agree d μ ν := ⟨fun b hb => h.1 b (hd b hb), h.2⟩
theorem Agree.trans {d : Nat → Prop} {μ ν ξ : Mu} (h : Agree d μ ν) (k : Agree d ν ξ) : Agree d μ ξ := ⟨fun b hb => (k.1 b hb).trans (h.1 b hb), k.2.trans h.2⟩
mutual
theorem ren_agree {d : Nat → Prop} {μ ν : Mu} (h : Agree d μ ν) : ∀ a, sup d a → ren ν a = ren μ a
  | .v _, _ => by simp [ren]
  | .sym, _ => by simp [ren, h.2]
  | .ptr b _, k => by simp only [sup] at k; simp [ren, h.1 _ k]
  | .slice b _ _ _ _, k => by simp only [sup] at k; simp [ren, h.1 _ k]
  | .map b, k => by simp only [sup] at k; simp [ren, h.1 _ k]
  | .func _ f c, k => by simp only [sup] at k; simp [ren, renL_agree h f k.1, renL_agree h c k.2]
  | .yield l, k => by simp only [sup] at k; simp [ren, h.1 _ k]
  | .iface _ x, k => by simp only [sup] at k; simp [ren, ren_agree h x k]
  | .agg cs, k => by simp only [sup] at k; simp [ren, renL_agree h cs k]
  | .tuple cs, k => by simp only [sup] at k; simp [ren, renL_agree h cs k]
theorem renL_agree {d : Nat → Prop} {μ ν : Mu} (h : Agree d μ ν) : ∀ l, supL d l → renL ν l = renL μ l
  | [], _ => by simp [renL]
  | a :: as, k => by simp only [supL] at k; simp [renL, ren_agree h a k.1, renL_agree h as k.2]
end

theorem ren_cells {d : Nat → Prop} (μ : Mu) {a : AV} (k : sup d a) : (ren μ a).cells.toList = renL μ a.cells := by
  cases a with
  | v x => simp only [sup] at k; cases x <;> simp_all [ren, Value.cells, AV.cells, renL, isSc]
  | _ => simp [ren, Value.cells, AV.cells, renL]

def supE (d : Nat → Prop) (e : AEnt) : Prop := sup d e.key ∧ sup d e.val
def renE (μ : Mu) (e : AEnt) : MapEntry := { key := ren μ e.key, val := ren μ e.val, born := e.born }
def supT (d : Nat → Prop) : ATgt → Prop
  | .fn _ c => supL d c
  | .yield l => d l
  | .collected r => d r
def renT (μ : Mu) : ATgt → Target
  | .fn f c => .fn (.func f) (renL μ c).toArray
  | .yield l => .fn (.yield (μ.at_ l).blk) #[]
  | .collected r => .collected (μ.at_ r).blk
def supD (d : Nat → Prop) (x : ADef) : Prop := supT d x.target ∧ supL d x.args
def renD (μ : Mu) (x : ADef) : Deferred := { target := renT μ x.target, args := (renL μ x.args).toArray }
def renP (μ : Mu) (p : APan) : PanicEntry := { v := ren μ p.v, recovered := p.recovered }
def supPs (d : Nat → Prop) (l : List APan) : Prop := ∀ p ∈ l, sup d p.v
def renPs (μ : Mu) (l : List APan) : List PanicEntry := l.map (renP μ)
def supM (d : Nat → Prop) : AMode → Prop
  | .panicking l => supPs d l
  | _ => True
def renM (μ : Mu) : AMode → FrameMode
  | .run => .run
  | .returning => .returning
  | .panicking l => .panicking (renPs μ l)

section mono
variable {d e : Nat → Prop} {μ ν : Mu}
theorem supE_mono (h : ∀ b, d b → e b) {x : AEnt} (k : supE d x) : supE e x := ⟨sup_mono h _ k.1, sup_mono h _ k.2⟩
theorem renE_agree (h : Agree d μ ν) {x : AEnt} (k : supE d x) : renE ν x = renE μ x := by simp [renE, ren_agree h _ k.1, ren_agree h _ k.2]
theorem supT_mono (h : ∀ b, d b → e b) {x : ATgt} (k : supT d x) : supT e x := by
  cases x <;> simp only [supT] at k ⊢
  · exact supL_mono h _ k
  · exact h _ k
  · exact h _ k
theorem renT_agree (h : Agree d μ ν) {x : ATgt} (k : supT d x) : renT ν x = renT μ x := by
  cases x <;> simp only [supT] at k <;> simp only [renT]
  · rw [renL_agree h _ k]
  · rw [h.1 _ k]
  · rw [h.1 _ k]
theorem supD_mono (h : ∀ b, d b → e b) {x : ADef} (k : supD d x) : supD e x := ⟨supT_mono h k.1, supL_mono h _ k.2⟩
theorem renD_agree (h : Agree d μ ν) {x : ADef} (k : supD d x) : renD ν x = renD μ x := by simp [renD, renT_agree h k.1, renL_agree h _ k.2]
theorem renDs_agree (h : Agree d μ ν) {l : List ADef} (k : ∀ x ∈ l, supD d x) : l.map (renD ν) = l.map (renD μ) :=
  List.map_congr_left fun x hx => renD_agree h (k x hx)
theorem renEs_agree (h : Agree d μ ν) {l : List AEnt} (k : ∀ x ∈ l, supE d x) : l.map (renE ν) = l.map (renE μ) :=
  List.map_congr_left fun x hx => renE_agree h (k x hx)
theorem supPs_mono (h : ∀ b, d b → e b) {l : List APan} (k : supPs d l) : supPs e l := fun p hp => sup_mono h _ (k p hp)
theorem renPs_agree (h : Agree d μ ν) {l : List APan} (k : supPs d l) : renPs ν l = renPs μ l :=
  List.map_congr_left fun x hx => by simp [renP, ren_agree h _ (k x hx)]
theorem supM_mono (h : ∀ b, d b → e b) {m : AMode} (k : supM d m) : supM e m := by
  cases m <;> simp only [supM] at k ⊢
  exact supPs_mono h k
theorem renM_agree (h : Agree d μ ν) {m : AMode} (k : supM d m) : renM ν m = renM μ m := by
  cases m <;> simp only [supM] at k <;> simp only [renM]
  rw [renPs_agree h k]
end mono

/-! ### memory -/
def TmR (μ : Mu) (tm : Tr AV) (sz : Nat) (a : Array Value) : Prop := a.size = sz ∧ ∀ t, a.getD t undef = ren μ (tget tm t)
def TmS (d : Nat → Prop) (tm : Tr AV) : Prop := ∀ t, sup d (tget tm t)
theorem TmR_agree {d : Nat → Prop} {μ ν : Mu} (h : Agree d μ ν) {tm : Tr AV} {sz : Nat} {a : Array Value} (k : TmS d tm) (r : TmR μ tm sz a) : TmR ν tm sz a :=
  ⟨r.1, fun t => by rw [r.2 t, ren_agree h _ (k t)]⟩
theorem TmS_mono {d e : Nat → Prop} (h : ∀ b, d b → e b) {tm : Tr AV} (k : TmS d tm) : TmS e tm := fun t => sup_mono h _ (k t)

def supO (d : Nat → Prop) : AObj → Prop
  | .row cs _ => supL d cs
  | .map es _ => ∀ e ∈ es, supE d e
  | .siter _ _ => True
  | .miter m _ _ _ => ∀ b, m = some b → d b
  | .loop l => TmS d l.tm ∧ d l.defers
  | .defs ds => ∀ l, ds = some l → ∀ x ∈ l, supD d x
  | .dead => True
def ObjR (E : Env) (μ : Mu) (p : Pl) : AObj → Obj → Prop
  | .row cs e, o => ∃ (pre post : List Value) (fz : Nat × Nat), o = .cells (pre ++ renL μ cs ++ post).toArray e fz ∧ pre.length = p.sh ∧ ∃ sz, E.size e = some sz ∧ post.length = sz * p.sl ∧ (∃ k, pre.length = sz * k) ∧ (fz = (0, 0) ∨ (E.und e = some (.int .u8) ∧ pre.length + cs.length + post.length ≤ fz.1))
  | .map es clock, o => o = .map (es.map (renE μ)).toArray clock
  | .siter s pos, o => o = .stringIter s pos ∧ p.sh = 0
  | .miter m since seen stepped, o => o = .mapIter (m.map fun b => (μ.at_ b).blk) since seen.toArray stepped ∧ p.sh = 0
  | .loop l, o => ∃ arr, TmR μ l.tm l.sz arr ∧ o = .loop { state := l.state, pending := l.pending, fn := l.fn, tmps := arr, params := l.params.toArray, assign := l.assign, body := l.body, defers := (μ.at_ l.defers).blk }
  | .defs ds, o => o = .deferred (ds.map fun l => l.map (renD μ))
  | .dead, _ => True
def AObj.live : AObj → Bool
  | .dead => false
  | _ => true

theorem supO_mono {d e : Nat → Prop} (h : ∀ b, d b → e b) {o : AObj} (k : supO d o) : supO e o := by
  cases o <;> simp only [supO] at k ⊢
  · exact supL_mono h _ k
  · exact fun x hx => supE_mono h (k x hx)
  · exact fun b hb => h _ (k b hb)
  · exact ⟨TmS_mono h k.1, h _ k.2⟩
  · exact fun l hl x hx => supD_mono h (k l hl x hx)
theorem ObjR_agree {E : Env} {d : Nat → Prop} {μ ν : Mu} (h : Agree d μ ν) {p : Pl} {o : AObj} {o' : Obj} (k : supO d o) (r : ObjR E μ p o o') : ObjR E ν p o o' := by
  cases o <;> simp only [supO] at k <;> simp only [ObjR] at r ⊢
  · obtain ⟨pre, post, fz, h1, h2⟩ := r
    exact ⟨pre, post, fz, by rw [h1, renL_agree h _ k], h2⟩
  · rw [r, renEs_agree h k]
  · exact r
  · refine ⟨?_, r.2⟩
    rw [r.1]
    rename_i m _ _ _
    cases m with
    | none => rfl
    | some b => simp [h.1 _ (k b rfl)]
  · obtain ⟨arr, h1, h2⟩ := r
    exact ⟨arr, TmR_agree h k.1 h1, by rw [h2, h.1 _ k.2]⟩
  · rw [r]
    rename_i ds
    cases ds with
    | none => rfl
    | some l => simp [renDs_agree h (k l rfl)]

structure Rel (E : Env) (μ : Mu) (d : Nat → Prop) (H : Hp) (w : World) : Prop where
  ob : ∀ b o, d b → H.get b = some o → ∃ o', w.heap[(μ.at_ b).blk]? = some o' ∧ ObjR E μ (μ.at_ b) o o'
  sp : ∀ b o, d b → H.get b = some o → supO d o
  inj : ∀ b c ob oc, d b → d c → H.get b = some ob → H.get c = some oc → ob.live = true → oc.live = true → (μ.at_ b).blk = (μ.at_ c).blk → b = c
  inn : ∀ b, d b → (μ.at_ b).blk < w.heap.size
  nxt : ∀ b, H.nx ≤ b → H.get b = none
  glob : ∀ g, g < E.ng → d g ∧ μ.at_ g = ⟨E.glAt g, 0, 0⟩
  sym : E.lo ≤ μ.n ∧ μ.n ≤ E.hi

structure Ext (μ : Mu) (d : Nat → Prop) (H : Hp) (w : World) (μ' : Mu) (d' : Nat → Prop) (H' : Hp) (w' : World) : Prop where
  dom : ∀ b, d b → d' b
  agr : Agree d μ μ'
  nx : H.nx ≤ H'.nx
  fresh : ∀ b, d' b → d b ∨ (H.nx ≤ b ∧ b < H'.nx)
  size : w.heap.size ≤ w'.heap.size
  keep : ∀ r, r < w.heap.size → (∀ b, d b → (μ.at_ b).blk ≠ r) → w'.heap[r]? = w.heap[r]?
  new : ∀ b, d' b → ¬ d b → w.heap.size ≤ (μ'.at_ b).blk ∨ ∃ c, d c ∧ (μ.at_ c).blk = (μ'.at_ b).blk
  abs : ∀ b, b < H.nx → ¬ d b → H'.get b = H.get b
  rows : ∀ (r : Nat) c t fz, w.heap[r]? = some (.cells c t fz) → ∃ c' fz', w'.heap[r]? = some (.cells c' t fz') ∧ c'.size = c.size
  os : w'.os = w.os
  out : w'.output = w.output
  tape : w'.tape = w.tape

theorem Ext.refl (μ : Mu) (d : Nat → Prop) (H : Hp) (w : World) : Ext μ d H w μ d H w :=
  ⟨fun _ h => h, .refl _ _, Nat.le_refl _, fun _ h => .inl h, Nat.le_refl _, fun _ _ _ => rfl, fun _ h k => absurd h k, fun _ _ _ => rfl, fun _ c _ fz h => ⟨c, fz, h, rfl⟩, rfl, rfl, rfl⟩
theorem Ext.trans {μ μ1 μ2 : Mu} {d d1 d2 : Nat → Prop} {H H1 H2 : Hp} {w w1 w2 : World} (h : Ext μ d H w μ1 d1 H1 w1) (k : Ext μ1 d1 H1 w1 μ2 d2 H2 w2)
    (hin : ∀ b, d1 b → (μ1.at_ b).blk < w1.heap.size) : Ext μ d H w μ2 d2 H2 w2 := by
  refine ⟨fun b hb => k.dom b (h.dom b hb), h.agr.trans (k.agr.mono h.dom), Nat.le_trans h.nx k.nx, ?_, Nat.le_trans h.size k.size, ?_, ?_, ?_, ?_, k.os.trans h.os, k.out.trans h.out, k.tape.trans h.tape⟩
  · intro b hb
    rcases k.fresh b hb with h1 | h1
    · rcases h.fresh b h1 with h2 | h2
      · exact .inl h2
      · exact .inr ⟨h2.1, Nat.lt_of_lt_of_le h2.2 k.nx⟩
    · exact .inr ⟨Nat.le_trans h.nx h1.1, h1.2⟩
  · intro r hr hn
    rw [k.keep r (Nat.lt_of_lt_of_le hr h.size) ?_, h.keep r hr hn]
    intro b hb e
    by_cases hd : d b
    · exact hn b hd (by rw [← e, h.agr.1 b hd])
    · rcases h.new b hb hd with h1 | ⟨c, hc, h1⟩
      · omega
      · exact hn c hc (h1.trans e)
  · intro b hb hnb
    by_cases hd : d1 b
    · have e := k.agr.1 b hd
      rcases h.new b hd hnb with h1 | ⟨c, hc, h1⟩
      · exact .inl (by rw [e]; exact h1)
      · exact .inr ⟨c, hc, by rw [e]; exact h1⟩
    · rcases k.new b hb hd with h1 | ⟨c, hc, h1⟩
      · exact .inl (Nat.le_trans h.size h1)
      · by_cases hdc : d c
        · exact .inr ⟨c, hdc, by rw [← h1, h.agr.1 c hdc]⟩
        · rcases h.new c hc hdc with h2 | ⟨c', hc', h2⟩
          · exact .inl (by rw [← h1]; exact h2)
          · exact .inr ⟨c', hc', by rw [← h1]; exact h2⟩
  · intro b hb hnb
    rw [k.abs b (Nat.lt_of_lt_of_le hb h.nx) ?_, h.abs b hb hnb]
    intro hd
    rcases h.fresh b hd with h1 | h1
    · exact hnb h1
    · omega
  · intro r c t fz hr
    obtain ⟨c1, f1, h1, e1⟩ := h.rows r c t fz hr
    obtain ⟨c2, f2, h2, e2⟩ := k.rows r c1 t f1 h1
    exact ⟨c2, f2, h2, e2.trans e1⟩
end Go.Xe
