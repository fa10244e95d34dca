import Derived.Test.YtnapjngeohncaaaGreatDoorXq
set_option linter.unusedSimpArgs false
set_option linter.unusedVariables false
namespace Go.Xe
def csAt (dfd : Bool) (cs : List Frame) (m : FrameMode) : List Frame :=
  match dfd, cs with
  | true, c :: rest => { c with mode := m } :: rest
  | _, cs => cs
def kd (dfd : Bool) : CallKind := if dfd then .deferred else .normal
structure CtxR (x : Ctx) (μ : Mu) (d : Nat → Prop) (b : Frame) : Prop where
  fn : b.fn = x.fn
  kind : b.kind = kd x.dfd
  rnd : match x.rnd with
    | none => b.roundOf = none
    | some l => b.roundOf = some (μ.at_ l).blk ∧ d l ∧ x.dfd = false
structure StS (d : Nat → Prop) (s : St) : Prop where
  tm : TmS d s.tm
  df : ∀ x ∈ s.df, supD d x
  pm : supM d s.pm
theorem CtxR.mono {x : Ctx} {μ ν : Mu} {d e : Nat → Prop} {b : Frame} (h : CtxR x μ d b) (ag : Agree d μ ν) (hd : ∀ b, d b → e b) : CtxR x ν e b := by
  refine ⟨h.fn, h.kind, ?_⟩
  have := h.rnd
  cases hr : x.rnd with
  | none => rw [hr] at this; simpa using this
  | some l =>
    rw [hr] at this
    simp only at this ⊢
    exact ⟨by rw [ag.1 l this.2.1]; exact this.1, hd l this.2.1, this.2.2⟩
theorem StS.mono {d e : Nat → Prop} (hd : ∀ b, d b → e b) {s : St} (h : StS d s) : StS e s :=
  ⟨TmS_mono hd h.tm, fun x hx => supD_mono hd (h.df x hx), supM_mono hd h.pm⟩

def Arr (P : Program) (m : Machine) (b : Frame) (k : List Item) (e : AExit) (cs : List Frame) (tm : Array Value) (df : List Deferred) (μ : Mu) (w : World) : Prop :=
  match e with
  | .normal => Steps P m (lone (bat b tm df k) cs w)
  | .exit id => ∃ k', exitTo id k' = exitTo id k ∧ Steps P m (lone (bat b tm df (.code (.exit id) :: k')) cs w)
  | .goto l => ∃ k', gotoIn l k' = gotoIn l k ∧ Steps P m (lone (bat b tm df (.code (.goto l) :: k')) cs w)
  | .ret => ∃ k', Steps P m (lone (bat b tm df (.code .ret :: k')) cs w)
  | .panic ch => ∃ todo, Steps P m (lone { bat b tm df todo with mode := .panicking (renPs μ ch) } cs w)
def TmX (x : Ctx) (μ : Mu) (e : AExit) (s : St) (tm : Array Value) : Prop :=
  match e with
  | .panic _ => ∀ t ∈ x.res, tm.getD t undef = ren μ (tget s.tm t)
  | _ => TmR μ s.tm s.sz tm
def supX (d : Nat → Prop) : AExit → Prop
  | .panic ch => supPs d ch
  | _ => True
def Post (E : Env) (P : Program) (x : Ctx) (b : Frame) (k : List Item) (cs : List Frame) (m : Machine) (μ : Mu) (d : Nat → Prop) (H : Hp) (w : World) (e : AExit) (s : St) : Prop :=
  ∃ μ' d' w' tm, Rel E μ' d' s.hp w' ∧ Ext μ d H w μ' d' s.hp w' ∧ Lt d' s.hp ∧ StS d' s ∧ supX d' e ∧ TmX x μ' e s tm ∧
    Arr P m b k e (csAt x.dfd cs (renM μ' s.pm)) tm (s.df.map (renD μ')) μ' w'
def supEnd (d : Nat → Prop) : AEnd → Prop
  | .ret v => sup d v
  | .panic ch => supPs d ch
def Fini (P : Program) (fr : Frame) (w : World) (μ : Mu) : AEnd → Prop
  | .ret v => fr.mode = .returning ∧ fr.defers = [] ∧ ∃ fn, P.funcs[fr.fn]? = some fn ∧ (results fn fr.tmps).run P w = .ok (ren μ v) w
  | .panic ch => fr.mode = .panicking (renPs μ ch) ∧ fr.defers = [] ∧ ∃ fn, P.funcs[fr.fn]? = some fn
def CodeOK (E : Env) (P : Program) (x : Ctx) (s : St) (rs : List Res) (todo : List Item → List Item) : Prop :=
  ∀ μ d w b cs tm k, Rel E μ d s.hp w → Lt d s.hp → StS d s → CtxR x μ d b → TmR μ s.tm s.sz tm → (x.dfd = true → cs ≠ []) →
    ∃ e s', .out e s' ∈ rs ∧ Post E P x b k cs (lone (bat b tm (s.df.map (renD μ)) (todo k)) (csAt x.dfd cs (renM μ s.pm)) w) μ d s.hp w e s'
def EndOK (E : Env) (P : Program) (rs : List Res) (μ : Mu) (d : Nat → Prop) (H : Hp) (w : World) (m : Machine) (dfd : Bool) (cs : List Frame) (f : FuncId) : Prop :=
  ∃ e pm h, .fin e pm h ∈ rs ∧ ∃ μ' d' w' fr, Rel E μ' d' h w' ∧ Ext μ d H w μ' d' h w' ∧ Lt d' h ∧ supEnd d' e ∧ supM d' pm ∧
    Steps P m (lone fr (csAt dfd cs (renM μ' pm)) w') ∧ Fini P fr w' μ' e ∧ fr.kind = kd dfd ∧ fr.fn = f
def endAt (c : Frame) (cs : List Frame) (μ : Mu) (w : World) : AEnd → Machine
  | .ret v => lone (c.finish (ren μ v)) cs w
  | .panic ch => lone (c.raise (renPs μ ch)) cs w
def OKJ (E : Env) (P : Program) : Job → List Res → Prop
  | .code x c s, rs => CodeOK E P x s rs (fun k => .code c :: k) ∧ ∀ c', c = .loop c' → CodeOK E P x s rs (fun k => .inLoop c' :: k)
  | .scope x body cur s, rs => CodeOK E P x s rs (fun k => .code cur :: .inScope body :: k)
  | .call dfd f args pm H, rs => ∀ μ d w cs, Rel E μ d H w → Lt d H → supL d args → supM d pm → (dfd = true → cs ≠ []) →
      EndOK E P rs μ d H w (lone (Frame.enter P f (renL μ args).toArray (kd dfd)) (csAt dfd cs (renM μ pm)) w) dfd cs f
  | .round l args H, rs => ∀ μ d w c cs, Rel E μ d H w → Lt d H → d l → supL d args →
      ∃ e pm h, .fin e pm h ∈ rs ∧ ∃ f ts as bd, (Instr.yield (μ.at_ l).blk (renL μ args).toArray).run P w = .ok (.round (μ.at_ l).blk f ts as bd) w ∧
        ∃ μ' d' w', Rel E μ' d' h w' ∧ Ext μ d H w μ' d' h w' ∧ Lt d' h ∧ supEnd d' e ∧
          Steps P (lone (Frame.round (μ.at_ l).blk f ts as bd .normal) (c :: cs) w) (endAt c cs μ' w' e)
  | .leave x rl mode s, rs => ∀ μ d w b cs tm todo fn, Rel E μ d s.hp w → Lt d s.hp → StS d s → supM d mode → b.fn = x.fn → b.kind = kd x.dfd → b.roundOf = none →
      P.funcs[x.fn]? = some fn → fn.results.toList = rl → (∀ t ∈ resTmps rl, tm.getD t undef = ren μ (tget s.tm t)) → (x.dfd = true → cs ≠ []) →
      EndOK E P rs μ d s.hp w (lone { bat b tm (s.df.map (renD μ)) todo with mode := renM μ mode } (csAt x.dfd cs (renM μ s.pm)) w) x.dfd cs x.fn

section fire
variable {E : Env} {P : Program} {μ : Mu} {d : Nat → Prop} {H : Hp} {w : World} {tm : Tr AV} {ρ : Operand → Value}

theorem aOp_sound (EO : EnvOK E P) (hρ : OpR E μ d tm ρ) (R : Rel E μ d H w) (lt : Lt d H) {x : Ctx} {o : Oper} {c : Cls} {nx : ANext} {H' : Hp} (h : aOp E x tm o H = some (c, nx, H')) :
    After E P μ d H w nx H' ((execOp ρ o).run P w) := by
  unfold aOp at h
  split at h
  · rename_i v hv
    simp only [Option.some.injEq, Prod.mk.injEq] at h
    obtain ⟨rfl, rfl, rfl⟩ := h
    have k := pure_sound EO hρ R.sym hv w
    exact eff_value R (.refl _ _ _ _) lt k.2 k.1
  · split at h
    · rename_i v hv
      simp only [Option.some.injEq, Prod.mk.injEq] at h
      obtain ⟨rfl, rfl, rfl⟩ := h
      have k := read_sound EO hρ R hv
      exact eff_value R (.refl _ _ _ _) lt k.2 k.1
    · split at h
      · rename_i ob f hv
        simp only [Option.some.injEq, Prod.mk.injEq] at h
        obtain ⟨rfl, rfl, rfl⟩ := h
        obtain ⟨V, O, k1, k2, k3, k4, k5, k6⟩ := alloc_sound EO hρ R hv
        have kp := push_ok R lt (p := ⟨w.heap.size, 0, 0⟩) rfl k2 k3 k5
        have kf := k6 (μ.put H.nx ⟨w.heap.size, 0, 0⟩) H.nx (Mu.put_self _ _ _)
        exact ⟨_, _, _, kp.1, kp.2.1, kp.2.2, _, k1, by rw [kf.1], kf.2 _ (.inr rfl)⟩
      · split at h
        · rename_i nx' h' hv
          simp only [Option.some.injEq, Prod.mk.injEq] at h
          obtain ⟨rfl, rfl, rfl⟩ := h
          exact eff_sound EO hρ R lt hv
        · cases h
theorem aOp_nodefer {x : Ctx} {o : Oper} {r : Cls × ANext × Hp} (h : aOp E x tm o H = some r) : x.rnd = none ∨ ∀ c, o.op ≠ .defer c := by
  cases hr : x.rnd with
  | none => exact .inl rfl
  | some l =>
    refine .inr fun c hc => ?_
    simp [aOp, aPure, aRead, aAlloc, aEff, hc, hr] at h

theorem leaving_of_fini {fr : Frame} {v : AV} (h : Fini P fr w μ (.ret v)) (hk : fr.kind = .normal) : fr.leaving P w (.returned (ren μ v)) :=
  ⟨h.1, h.2.1, hk, h.2.2⟩
theorem andThen_some {α β : Type} {x : Option (List α)} {f : α → Option (List β)} {rs : List β} (h : andThen x f = some rs) :
    ∃ l, x = some l ∧ allR f l = some rs := by
  unfold andThen at h
  split at h
  · exact ⟨_, rfl, h⟩
  · cases h
theorem allR_mem {α β : Type} {f : α → Option (List β)} : ∀ {l : List α} {rs : List β}, allR f l = some rs → ∀ a ∈ l, ∃ l', f a = some l' ∧ ∀ r ∈ l', r ∈ rs
  | [], rs, h, a, ha => by cases ha
  | [x], rs, h, a, ha => by
    obtain rfl := List.mem_singleton.1 ha
    exact ⟨rs, h, fun r hr => hr⟩
  | x :: y :: l, rs, h, a, ha => by
    unfold allR at h
    simp only at h
    split at h
    · rename_i p q hp hq
      obtain rfl := Option.some.inj h
      rcases List.mem_cons.1 ha with rfl | ha
      · exact ⟨p, hp, fun r hr => List.mem_append_left _ hr⟩
      · obtain ⟨l', h1, h2⟩ := allR_mem hq a ha
        exact ⟨l', h1, fun r hr => List.mem_append_right _ (h2 r hr)⟩
    · cases h

theorem csAt_agree {ν : Mu} {dfd : Bool} {cs : List Frame} {m : AMode} (ag : Agree d μ ν) (hm : supM d m) : csAt dfd cs (renM ν m) = csAt dfd cs (renM μ m) := by
  rw [renM_agree ag hm]
theorem csAt_ne {dfd : Bool} {cs : List Frame} {m : FrameMode} : True := trivial

def FireOut (E : Env) (P : Program) (x : Ctx) (b : Frame) (cs : List Frame) (m : Machine) (μ : Mu) (d : Nat → Prop) (H : Hp) (w : World) (tm : Array Value) (df : List Deferred) (k : List Item) (ops : Array Oper) (i : Nat) (rest : List Nat) (o : Oper) : Fired → Prop
  | .val v df' pm' h' => ∃ μ' d' w', Rel E μ' d' h' w' ∧ Ext μ d H w μ' d' h' w' ∧ Lt d' h' ∧ sup d' v ∧ (∀ y ∈ df', supD d' y) ∧ supM d' pm' ∧
      Steps P m (lone (bat b (putA tm o.dst (ren μ' v)) (df'.map (renD μ')) (.inRegion ops rest :: k)) (csAt x.dfd cs (renM μ' pm')) w')
  | .fell ch pm' h' => ∃ μ' d' w', Rel E μ' d' h' w' ∧ Ext μ d H w μ' d' h' w' ∧ Lt d' h' ∧ supPs d' ch ∧ supM d' pm' ∧
      Steps P m (lone { bat b tm df (.inRegion ops (i :: rest) :: k) with mode := .panicking (renPs μ' ch) } (csAt x.dfd cs (renM μ' pm')) w')

theorem fromMap_mem {df : List ADef} {pm : AMode} {p : AV × Hp} : ∀ {l : List (AV × Hp)}, p ∈ l → (Cls.e, Fired.val p.1 df pm p.2) ∈ fromMap df pm l
  | q :: qs, h => by
    obtain ⟨v, g⟩ := q
    unfold fromMap
    rcases List.mem_cons.1 h with rfl | h
    · exact List.mem_cons_self ..
    · exact List.mem_cons_of_mem _ (fromMap_mem h)
theorem fire_ok (EO : EnvOK E P) {ih : Job → Option (List Res)} (ihS : ∀ j rs, ih j = some rs → OKJ E P j rs) {x : Ctx} {o : Oper} {s : St} {l : List (Cls × Fired)} (h : fireOp E ih x o s = some l)
    {b : Frame} {cs : List Frame} {tm : Array Value} {k : List Item} {ops : Array Oper} {i : Nat} {rest : List Nat}
    (hρ : OpR E μ d s.tm ρ) (hev : execOp (bat b tm (s.df.map (renD μ)) (.inRegion ops (i :: rest) :: k)).eval o = execOp ρ o)
    (R : Rel E μ d s.hp w) (lt : Lt d s.hp) (sdf : ∀ y ∈ s.df, supD d y) (spm : supM d s.pm) (hx : CtxR x μ d b) (hcs : x.dfd = true → cs ≠ [])
    (ho : ops[i]? = some o) (hw : Region.wanted o (yielded ops tm) = true) :
    ∃ c r, (c, r) ∈ l ∧ FireOut E P x b cs (lone (bat b tm (s.df.map (renD μ)) (.inRegion ops (i :: rest) :: k)) (csAt x.dfd cs (renM μ s.pm)) w) μ d s.hp w tm (s.df.map (renD μ)) k ops i rest o r := by
  unfold fireOp at h
  have hnd : ∀ {r}, aOp E x s.tm o s.hp = some r → b.roundOf = none ∨ ∀ c, o.op ≠ .defer c := by
    intro r hr
    rcases aOp_nodefer hr with h1 | h1
    · left
      have := hx.rnd
      rw [h1] at this
      exact this
    · exact .inr h1
  split at h
  · rename_i l' hnm
    obtain rfl := Option.some.inj h
    obtain ⟨p, hp, w', k1, k2, k3, k4, k5⟩ := mapnext_sound EO hρ R hnm
    have hnd2 : b.roundOf = none ∨ ∀ c, o.op ≠ .defer c := by
      refine .inr fun c hc => ?_
      simp [aNextMap, hc] at hnm
    refine ⟨.e, .val p.1 s.df s.pm p.2, fromMap_mem hp, μ, d, w', k2, k3, lt_same lt k4, k5, sdf, spm, ?_⟩
    exact .one (s_value ho hw hnd2 (by rw [hev]; exact k1))
  split at h
  · -- value
    rename_i c v h' hop
    obtain rfl := Option.some.inj h
    obtain ⟨μ', d', w', k1, k2, k3, N, k4, rfl, k5⟩ := aOp_sound EO hρ R lt hop
    refine ⟨_, _, List.mem_singleton.2 rfl, μ', d', w', k1, k2, k3, k5, fun y hy => supD_mono k2.dom (sdf y hy), supM_mono k2.dom spm, ?_⟩
    rw [renDs_agree k2.agr sdf, csAt_agree k2.agr spm]
    exact .one (s_value ho hw (hnd hop) (by rw [hev]; exact k4))
  · -- skip
    rename_i c h' hop
    obtain rfl := Option.some.inj h
    obtain ⟨μ', d', w', k1, k2, k3, N, k4, rfl⟩ := aOp_sound EO hρ R lt hop
    refine ⟨_, _, List.mem_singleton.2 rfl, μ', d', w', k1, k2, k3, trivial, fun y hy => supD_mono k2.dom (sdf y hy), supM_mono k2.dom spm, ?_⟩
    rw [renDs_agree k2.agr sdf, csAt_agree k2.agr spm]
    exact .one (s_skipped ho hw (hnd hop) (by rw [hev]; exact k4))
  · -- defer
    rename_i c dd h' hop
    obtain rfl := Option.some.inj h
    obtain ⟨μ', d', w', k1, k2, k3, N, k4, rfl, k5⟩ := aOp_sound EO hρ R lt hop
    refine ⟨_, _, List.mem_singleton.2 rfl, μ', d', w', k1, k2, k3, trivial, fun y hy => ?_, supM_mono k2.dom spm, ?_⟩
    · rcases List.mem_cons.1 hy with rfl | hy
      · exact k5
      · exact supD_mono k2.dom (sdf y hy)
    · rw [List.map_cons, renDs_agree k2.agr sdf, csAt_agree k2.agr spm]
      exact .one (s_defer ho hw (hnd hop) (by rw [hev]; exact k4))
  · -- panic
    rename_i c v h' hop
    obtain rfl := Option.some.inj h
    obtain ⟨μ', d', w', k1, k2, k3, k4, k5⟩ := aOp_sound EO hρ R lt hop
    refine ⟨_, _, List.mem_singleton.2 rfl, μ', d', w', k1, k2, k3, fun p hp => by obtain rfl := List.mem_singleton.1 hp; exact k5, supM_mono k2.dom spm, ?_⟩
    rw [csAt_agree k2.agr spm]
    exact .one (s_panic ho hw (hnd hop) (by rw [hev]; exact k4))
  · -- recover
    rename_i c h' hop
    obtain ⟨μ', d', w', k1, k2, k3, N, k4, rfl⟩ := aOp_sound EO hρ R lt hop
    have hrn : b.roundOf = none := by
      have := hx.rnd
      cases hr : x.rnd with
      | none => rw [hr] at this; exact this
      | some l' =>
        rw [hr] at this
        split at h
        · rename_i hd _; rw [this.2.2] at hd; cases hd
        · rename_i hd _; rw [this.2.2] at hd; cases hd
        · cases h
    have hst := s_recover (P := P) (b := b) (tm := tm) (df := s.df.map (renD μ)) (k := k) (cs := csAt x.dfd cs (renM μ s.pm)) (w := w) ho hw hrn (by rw [hev]; exact k4)
    split at h
    · rename_i v older hd hpm
      obtain rfl := Option.some.inj h
      rw [hpm] at spm
      have spm' : supPs d (⟨v, false⟩ :: older) := spm
      refine ⟨_, _, List.mem_singleton.2 rfl, μ', d', w', k1, k2, k3, sup_mono k2.dom _ (spm' ⟨v, false⟩ (List.mem_cons_self ..)), fun y hy => supD_mono k2.dom (sdf y hy), ?_, ?_⟩
      · intro p hp
        rcases List.mem_cons.1 hp with rfl | hp
        · exact sup_mono k2.dom _ (spm' ⟨v, false⟩ (List.mem_cons_self ..))
        · exact sup_mono k2.dom _ (spm' p (List.mem_cons_of_mem _ hp))
      · obtain ⟨c0, rest0, rfl⟩ : ∃ c0 r0, cs = c0 :: r0 := by
          cases cs with
          | nil => exact absurd rfl (hcs hd)
          | cons a l => exact ⟨a, l, rfl⟩
        have hkind : (bat b tm (s.df.map (renD μ)) (.inRegion ops (i :: rest) :: k)).kind = .deferred := by
          have := hx.kind; rw [hd] at this; exact this
        rw [hd, hpm] at hst ⊢
        have htr : tryRecover (bat b tm (s.df.map (renD μ)) (.inRegion ops (i :: rest) :: k)) (csAt true (c0 :: rest0) (renM μ (.panicking (⟨v, false⟩ :: older)))) =
            some (ren μ v, csAt true (c0 :: rest0) (renM μ (.panicking (⟨v, true⟩ :: older)))) := by
          unfold tryRecover
          rw [hkind]
          simp [csAt, renM, renPs, renP]
        rw [htr] at hst
        simp only at hst
        rw [renDs_agree k2.agr sdf, ren_agree k2.agr v (spm' ⟨v, false⟩ (List.mem_cons_self ..)),
          csAt_agree k2.agr (show supM d (.panicking (⟨v, true⟩ :: older)) from fun p hp => by
            rcases List.mem_cons.1 hp with rfl | hp
            · exact spm' ⟨v, false⟩ (List.mem_cons_self ..)
            · exact spm' p (List.mem_cons_of_mem _ hp))]
        exact .one hst
    · rename_i hd hpm
      obtain rfl := Option.some.inj h
      refine ⟨_, _, List.mem_singleton.2 rfl, μ', d', w', k1, k2, k3, by simp [sup, isSc], fun y hy => supD_mono k2.dom (sdf y hy), supM_mono k2.dom spm, ?_⟩
      obtain ⟨c0, rest0, rfl⟩ : ∃ c0 r0, cs = c0 :: r0 := by
        cases cs with
        | nil => exact absurd rfl (hcs hd)
        | cons a l => exact ⟨a, l, rfl⟩
      have hkind : (bat b tm (s.df.map (renD μ)) (.inRegion ops (i :: rest) :: k)).kind = .deferred := by
        have := hx.kind; rw [hd] at this; exact this
      have htr : tryRecover (bat b tm (s.df.map (renD μ)) (.inRegion ops (i :: rest) :: k)) (csAt x.dfd (c0 :: rest0) (renM μ s.pm)) = none := by
        unfold tryRecover
        rw [hkind, hd, hpm]
        simp [csAt, renM]
      rw [htr] at hst
      simp only at hst
      rw [renDs_agree k2.agr sdf, csAt_agree k2.agr spm]
      exact .one hst
    · cases h
  · -- enter
    rename_i c f args h1 hop
    obtain ⟨μ1, d1, w1, k1, k2, k3, N, k4, rfl, k5⟩ := aOp_sound EO hρ R lt hop
    obtain ⟨rs, hi, hall⟩ := andThen_some h
    obtain ⟨e, pm, h2, hm, μ2, d2, w2, fr, q1, q2, q3, q4, q5, q6, q7, q8, q9⟩ := ihS _ _ hi μ1 d1 w1 (bat b tm (s.df.map (renD μ)) (.inRegion ops (i :: rest) :: k) :: csAt x.dfd cs (renM μ s.pm)) k1 k3 k5 trivial (fun h => by cases h)
    obtain ⟨l', hl', hsub⟩ := allR_mem hall _ hm
    have X := k2.trans q2 k1.inn
    have hst : Steps P (lone (bat b tm (s.df.map (renD μ)) (.inRegion ops (i :: rest) :: k)) (csAt x.dfd cs (renM μ s.pm)) w) (lone fr (bat b tm (s.df.map (renD μ)) (.inRegion ops (i :: rest) :: k) :: csAt x.dfd cs (renM μ s.pm)) w2) :=
      .head (s_enter ho hw (hnd hop) (by rw [hev]; exact k4)) q6
    cases e with
    | ret v =>
      simp only [fromEnd, Option.some.injEq] at hl'
      subst hl'
      refine ⟨_, _, hsub _ (List.mem_singleton.2 rfl), μ2, d2, w2, q1, X, q3, q4, fun y hy => supD_mono X.dom (sdf y hy), supM_mono X.dom spm, ?_⟩
      rw [renDs_agree X.agr sdf, csAt_agree X.agr spm]
      refine hst.trans (.one ?_)
      rw [step_leave_returned (leaving_of_fini q7 q8), finish_bat, ho]
      rfl
    | panic ch =>
      simp only [fromEnd, Option.some.injEq] at hl'
      subst hl'
      refine ⟨_, _, hsub _ (List.mem_singleton.2 rfl), μ2, d2, w2, q1, X, q3, q4, supM_mono X.dom spm, ?_⟩
      rw [csAt_agree X.agr spm]
      refine hst.trans (.one ?_)
      rw [step_leave_panicked (chain := renPs μ2 ch) ⟨q7.1, q7.2.1, q7.2.2⟩]
      rfl
  · -- round
    rename_i c lp args h1 hop
    obtain ⟨μ1, d1, w1, k1, k2, k3, k4, k5, k6⟩ := aOp_sound EO hρ R lt hop
    obtain ⟨rs, hi, hall⟩ := andThen_some h
    obtain ⟨e, pm, h2, hm, f, ts, as, bd, q0, μ2, d2, w2, q1, q2, q3, q4, q5⟩ := ihS _ _ hi μ1 d1 w1 (bat b tm (s.df.map (renD μ)) (.inRegion ops (i :: rest) :: k)) (csAt x.dfd cs (renM μ s.pm)) k1 k3 k5 k6
    obtain ⟨l', hl', hsub⟩ := allR_mem hall _ hm
    have X := k2.trans q2 k1.inn
    rw [q0] at k4
    have hst := s_round (P := P) (b := b) (tm := tm) (df := s.df.map (renD μ)) (k := k) (cs := csAt x.dfd cs (renM μ s.pm)) ho hw (hnd hop) (by rw [hev]; exact k4)
    cases e with
    | ret v =>
      simp only [fromEnd, Option.some.injEq] at hl'
      subst hl'
      refine ⟨_, _, hsub _ (List.mem_singleton.2 rfl), μ2, d2, w2, q1, X, q3, q4, fun y hy => supD_mono X.dom (sdf y hy), supM_mono X.dom spm, ?_⟩
      rw [renDs_agree X.agr sdf, csAt_agree X.agr spm]
      have q5' := q5
      simp only [endAt] at q5'
      rw [finish_bat, ho] at q5'
      exact .head hst q5'
    | panic ch =>
      simp only [fromEnd, Option.some.injEq] at hl'
      subst hl'
      refine ⟨_, _, hsub _ (List.mem_singleton.2 rfl), μ2, d2, w2, q1, X, q3, q4, supM_mono X.dom spm, ?_⟩
      rw [csAt_agree X.agr spm]
      exact .head hst q5
  · cases h
end fire
end Go.Xe
