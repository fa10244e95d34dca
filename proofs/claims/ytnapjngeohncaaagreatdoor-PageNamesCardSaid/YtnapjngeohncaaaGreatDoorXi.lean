import Derived.Test.YtnapjngeohncaaaGreatDoorXh
import Derived.Laws.BytesString
import Derived.Lib.UnsafeStr
import Derived.Lib.Builder
set_option linter.unusedSimpArgs false
set_option linter.unusedVariables false
namespace Go.Xe
section reads
variable {E : Env} {P : Program} {μ : Mu} {d : Nat → Prop} {H : Hp} {w : World} {tm : Tr AV} {ρ : Operand → Value}

def entR (μ : Mu) (p : Nat × AEnt) : Nat × Value := (p.1, ren μ p.2.val)

def KeyOf : TypeDesc → AV → Prop
  | .int _, .v (.int _ _) => True
  | .string, .v (.string _) => True
  | .bool, .v (.bool _) => True
  | _, _ => False

theorem keyNow_ok {td : TypeDesc} {k e : AV} {r : Bool} (h : keyNow k e = some r) (hk : KeyOf td k) :
    Instr.sameNow td (ren μ k) (ren μ e) = some r := by
  unfold keyNow at h
  split at h
  · split at h
    · rename_i hj
      obtain rfl := of_decide_eq_true hj
      obtain rfl := Option.some.inj h
      cases td <;> simp_all [Instr.sameNow, ren, KeyOf]
      rw [Bool.eq_iff_iff]; simp
    · cases h
  · obtain rfl := Option.some.inj h
    cases td <;> simp_all [Instr.sameNow, ren, bytesEq_beq, KeyOf]
  · obtain rfl := Option.some.inj h
    cases td <;> simp_all [Instr.sameNow, ren, KeyOf]
  · cases h

theorem findNow_ok {td : TypeDesc} {t : TypeId} {k : AV} (hk : KeyOf td k) :
    ∀ (es : List AEnt) (i : Nat) (r : Option (Nat × AEnt)), findEnt E H t 1 k es i = some r → Instr.findNow td (ren μ k) (es.map (renE μ)) i = some (r.map (entR μ))
  | [], i, r, h => by
    simp only [findEnt, Option.some.injEq] at h
    subst h
    simp [Instr.findNow]
  | e :: es, i, r, h => by
    unfold findEnt at h
    simp only [List.map_cons, Instr.findNow]
    split at h
    · rename_i h1
      obtain rfl := Option.some.inj h
      have : Instr.sameNow td (ren μ k) (renE μ e).key = some true := keyNow_ok h1 hk
      rw [this]
      simp [entR, renE]
    · rename_i h1
      have : Instr.sameNow td (ren μ k) (renE μ e).key = some false := keyNow_ok h1 hk
      rw [this]
      exact findNow_ok hk es (i + 1) r h
    · cases h
theorem findAsking_ok (EO : EnvOK E P) (R : Rel E μ d H w) {t : TypeId} {n : Nat} (hn : n ≠ 1) {k : AV} (hk : sup d k) :
    ∀ (es : List AEnt) (i : Nat) (r : Option (Nat × AEnt)), findEnt E H t n k es i = some r → (∀ e ∈ es, supE d e) →
    (Instr.findAsking t (ren μ k) (es.map (renE μ)) i).run P w = .ok (r.map (entR μ)) w
  | [], i, r, h, _ => by
    simp only [findEnt, Option.some.injEq] at h
    subst h
    simp [Instr.findAsking]
  | e :: es, i, r, h, he => by
    have h' : (match aEq E H 60 t k e.key with
      | some true => some (some (i, e))
      | some false => findEnt E H t n k es (i + 1)
      | none => none) = some r := by
      rcases n with _ | _ | n
      · exact h
      · exact absurd rfl hn
      · exact h
    clear h
    have h := h'
    clear h'
    have hek := he e (List.mem_cons_self ..)
    simp only [List.map_cons, Instr.findAsking, Sem.run_bind]
    split at h
    · rename_i h1
      obtain rfl := Option.some.inj h
      have q := (eq_both EO R 60).1 _ _ _ _ h1 hk hek.1 10000 (by omega)
      have q' : (Op.equal t (ren μ k) (renE μ e).key).run P w = .ok true w := q
      simp only [q', Result.andThen_ok]
      simp [entR, renE]
    · rename_i h1
      have q := (eq_both EO R 60).1 _ _ _ _ h1 hk hek.1 10000 (by omega)
      have q' : (Op.equal t (ren μ k) (renE μ e).key).run P w = .ok false w := q
      simp only [q', Result.andThen_ok]
      simpa using findAsking_ok EO R hn hk es (i + 1) r h (fun x hx => he x (List.mem_cons_of_mem _ hx))
    · cases h

theorem keyKind_cases {t : TypeId} {k : AV} {n : Nat} (h : keyKind E t k = n + 1) :
    (n = 0 ∧ ∃ td, E.und t = some td ∧ KeyOf td k) ∨
    (n = 1 ∧ ∃ fs cs, E.und t = some (.struct fs) ∧ k = .agg cs ∧ keyFields E cs fs.toList = true) := by
  unfold keyKind at h
  split at h
  · rename_i fs cs hu
    split at h
    · rename_i hf
      exact .inr ⟨by omega, fs, cs, hu, rfl, hf⟩
    · cases h
  · rename_i h0
    unfold plainKind at h
    split at h
    · rename_i hu; exact .inl ⟨by omega, _, hu, trivial⟩
    · rename_i hu; exact .inl ⟨by omega, _, hu, trivial⟩
    · rename_i hu; exact .inl ⟨by omega, _, hu, trivial⟩
    · rename_i hu; exact absurd rfl (h0 _ _ hu)
    · cases h
theorem findKey_ok (EO : EnvOK E P) (R : Rel E μ d H w) {t : TypeId} {k : AV} {n : Nat} (hn : keyKind E t k = n + 1) (hk : sup d k) {es : List AEnt} {r : Option (Nat × AEnt)}
    (h : findEnt E H t (n + 1) k es 0 = some r) (he : ∀ e ∈ es, supE d e) : (Instr.findKey t (ren μ k) (es.map (renE μ))).run P w = .ok (r.map (entR μ)) w := by
  rcases keyKind_cases hn with ⟨rfl, td, hu, hm⟩ | ⟨rfl, fs, cs, hu, rfl, hf⟩
  · have q := findNow_ok (μ := μ) hm es 0 r h
    simp [Instr.findKey, run_und EO hu, q]
  · have q := findAsking_ok EO R (by omega) hk es 0 r h he
    simp only [Instr.findKey, Sem.run_bind, run_und EO hu, Result.andThen_ok]
    cases es with
    | nil =>
      simp only [findEnt, Option.some.injEq] at h
      subst h
      simp [Instr.findNow]
    | cons e es =>
      simp only [List.map_cons, Instr.findNow, Instr.sameNow] at q ⊢
      exact q

theorem checkFields_ok (EO : EnvOK E P) {cs : List AV} (hs : supL d cs) (em : Bool) (n : Nat) (w : World) : ∀ (fs : List Field), keyFields E cs fs = true →
    (forIn fs PUnit.unit fun f (_ : PUnit) => (if f.name ≠ "_" then (do
        let v ← part f.type (renL μ cs).toArray f.offset
        Instr.checkKey em (n + 1) f.type v
        pure (ForInStep.yield PUnit.unit)) else pure (ForInStep.yield PUnit.unit) : Sem (ForInStep PUnit))).run P w = .ok PUnit.unit w
  | [], _ => by simp
  | f :: fs, h => by
    unfold keyFields at h
    simp only [Bool.and_eq_true] at h
    obtain ⟨h1, h2⟩ := h
    split at h1
    · rename_i a ha
      have ka := part_ok EO (μ := μ) (d := d) ha hs w
      have e1 := Nat.eq_of_beq_eq_true h1
      have q : (Instr.checkKey em (n + 1) f.type (ren μ a)).run P w = .ok () w := by
        unfold plainKind at e1
        split at e1
        · rename_i hu; simp [Instr.checkKey, run_und EO hu, ren]
        · rename_i hu; simp [Instr.checkKey, run_und EO hu, ren]
        · rename_i hu; simp [Instr.checkKey, run_und EO hu, ren]
        · cases e1
        · cases e1
      have ih := checkFields_ok EO hs em n w fs h2
      simp only [List.forIn_cons, Sem.run_bind]
      by_cases hn : f.name = "_"
      · simp only [hn, ne_eq, not_true, if_false, Sem.run_pure, Result.andThen_ok, Sem.run_bind]
        exact ih
      · simp only [hn, ne_eq, not_false_eq_true, if_true, Sem.run_bind, ka.1, q, Sem.run_pure, Result.andThen_ok]
        exact ih
    · cases h1
theorem checkKey_gen (EO : EnvOK E P) {t : TypeId} {k : AV} {n : Nat} (hn : keyKind E t k = n + 1) (hk : sup d k) (em : Bool) (m : Nat) (w : World) : (Instr.checkKey em (m + 2) t (ren μ k)).run P w = .ok () w := by
  rcases keyKind_cases hn with ⟨rfl, td, hu, hm⟩ | ⟨rfl, fs, cs, hu, rfl, hf⟩
  · unfold KeyOf at hm
    split at hm
    · simp [Instr.checkKey, run_und EO hu, ren]
    · simp [Instr.checkKey, run_und EO hu, ren]
    · simp [Instr.checkKey, run_und EO hu, ren]
    · exact hm.elim
  · have q := checkFields_ok EO (μ := μ) (d := d) (by simpa only [sup] using hk) em m w fs.toList hf
    rw [Instr.checkKey]
    simp only [Sem.run_bind, run_und EO hu, Result.andThen_ok, ren]
    rw [← Array.forIn_toList, q]
    rfl
theorem checkKey_ok (EO : EnvOK E P) {t : TypeId} {k : AV} {n : Nat} (hn : keyKind E t k = n + 1) (hk : sup d k) (em : Bool) (w : World) : (Instr.checkKey em 10000 t (ren μ k)).run P w = .ok () w :=
  checkKey_gen EO hn hk em 9998 w

theorem map_ok (R : Rel E μ d H w) {b : Nat} {es : List AEnt} {clock : Nat} (hb : d b) (h : H.get b = some (.map es clock)) :
    w.heap[(μ.at_ b).blk]? = some (.map (es.map (renE μ)).toArray clock) ∧ ∀ e ∈ es, supE d e := by
  obtain ⟨o', h1, h2⟩ := R.ob b _ hb h
  have h2 : o' = .map (es.map (renE μ)).toArray clock := h2
  subst h2
  exact ⟨h1, R.sp b _ hb h⟩
theorem findEnt_mem {t : TypeId} {n : Nat} {k : AV} : ∀ {es : List AEnt} {i j : Nat} {e : AEnt}, findEnt E H t n k es i = some (some (j, e)) → e ∈ es ∧ i ≤ j ∧ es[j - i]? = some e
  | [], i, j, e, h => by simp [findEnt] at h
  | x :: xs, i, j, e, h => by
    unfold findEnt at h
    split at h
    · simp only [Option.some.injEq, Prod.mk.injEq] at h
      obtain ⟨rfl, rfl⟩ := h
      exact ⟨List.mem_cons_self .., Nat.le_refl _, by simp⟩
    · have k := findEnt_mem h
      refine ⟨List.mem_cons_of_mem _ k.1, by omega, ?_⟩
      obtain ⟨m, hm⟩ : ∃ m, j - i = m + 1 := ⟨j - i - 1, by omega⟩
      rw [hm, List.getElem?_cons_succ, ← k.2.2]
      congr 1; omega
    · cases h
theorem lookup_ok (EO : EnvOK E P) (R : Rel E μ d H w) {t : TypeId} {m k v : AV} {ok : Bool} (hm : sup d m) (hk : sup d k) (h : aLookup E H t m k ok = some v) :
    (Instr.lookup t (ren μ m) (ren μ k) ok).run P w = .ok (ren μ v) w ∧ sup d v := by
  unfold aLookup at h
  split at h
  · rename_i key elem hu
    split at h
    · cases h
    · rename_i n hn
      dsimp only at h
      split at h
      · rename_i es hes
        have hmes : (m = .v (.map none) ∧ es = []) ∨ ∃ b clock, m = .map b ∧ H.get b = some (.map es clock) := by
          split at hes
          · obtain rfl := Option.some.inj hes
            exact .inl ⟨rfl, rfl⟩
          · rename_i b
            split at hes
            · rename_i es' clock hb
              obtain rfl := Option.some.inj hes
              exact .inr ⟨b, clock, rfl, hb⟩
            · cases hes
          · cases hes
        have hsup : ∀ e ∈ es, supE d e := by
          rcases hmes with ⟨_, rfl⟩ | ⟨b, clock, rfl, hb⟩
          · exact fun _ h => by cases h
          · exact (map_ok R (by simpa only [sup] using hm) hb).2
        have hck := checkKey_ok EO (μ := μ) (d := d) hn hk ((es.map (renE μ)).toArray.isEmpty) w
        have hrun : ∀ r, findEnt E H key (n + 1) k es 0 = some r → (Instr.lookup t (ren μ m) (ren μ k) ok).run P w =
            (match r with
              | some (_, e) => .ok (if ok then .tuple #[ren μ e.val, .bool true] else ren μ e.val) w
              | none => ((zeroValue elem).run P w).andThen fun z w => .ok (if ok then .tuple #[z, .bool false] else z) w) := by
          intro r hf
          have q := findKey_ok EO R hn hk hf hsup
          rcases hmes with ⟨rfl, rfl⟩ | ⟨b, clock, rfl, hb⟩
          · simp only [List.map_nil] at q hck
            simp only [Instr.lookup, Sem.run_bind, run_und EO hu, Result.andThen_ok, ren, Sem.run_pure, hck, q]
            cases r <;> simp [entR]
          · have km := (map_ok R (by simpa only [sup] using hm) hb).1
            simp only [Instr.lookup, Sem.run_bind, run_und EO hu, Result.andThen_ok, ren, MapKept.run_getObj_map km, Sem.run_pure, hck, q]
            cases r <;> simp [entR]
        split at h
        · rename_i j e hf
          obtain rfl := Option.some.inj h
          have hmem := (findEnt_mem hf).1
          refine ⟨?_, ?_⟩
          · rw [hrun _ hf]
            cases ok <;> simp [ren, renL]
          · cases ok
            · exact (hsup e hmem).2
            · simp only [sup, supL]; exact ⟨(hsup e hmem).2, by simp [isSc], trivial⟩
        · rename_i z hf hz
          obtain rfl := Option.some.inj h
          have kz := zero_ok EO hz
          refine ⟨?_, ?_⟩
          · rw [hrun _ hf]
            cases ok <;> simp [ren, renL, kz.1 μ]
          · cases ok
            · exact kz.2 d
            · simp only [sup, supL]; exact ⟨kz.2 d, by simp [isSc], trivial⟩
        · cases h
      · cases h
  · cases h

theorem lastN_ok : ∀ {l : List Nat} {n : Nat}, lastN l = some n → l.toArray.back? = some n
  | [], n, h => by cases h
  | [a], n, h => by simp only [lastN, Option.some.injEq] at h; subst h; rfl
  | a :: b :: l, n, h => by
    have := lastN_ok (l := b :: l) (n := n) (by simpa [lastN] using h)
    simp only [List.back?_toArray, List.getLast?_cons_cons] at this ⊢
    exact this
theorem findBorn_ok : ∀ {es : List AEnt} {n i j : Nat} {e : AEnt}, findBorn n es i = some (j, e) →
    i ≤ j ∧ es[j - i]? = some e ∧ (es.map (renE μ)).find? (·.born == n) = some (renE μ e) ∧ (es.map (renE μ)).findIdx? (fun x => (x.born : Int) == (n : Int)) = some (j - i)
  | [], n, i, j, e, h => by cases h
  | x :: xs, n, i, j, e, h => by
    unfold findBorn at h
    split at h
    · rename_i hb
      have hb := Nat.eq_of_beq_eq_true hb
      simp only [Option.some.injEq, Prod.mk.injEq] at h
      obtain ⟨rfl, rfl⟩ := h
      refine ⟨Nat.le_refl _, by simp, ?_, ?_⟩
      · simp [renE, hb]
      · simp [renE, hb, List.findIdx?_cons]
    · rename_i hb
      have hb := Nat.ne_of_beq_eq_false hb
      obtain ⟨k1, k2, k3, k4⟩ := findBorn_ok h
      obtain ⟨m, hm⟩ : ∃ m, j - i = m + 1 := ⟨j - i - 1, by omega⟩
      have hm' : j - (i + 1) = m := by omega
      refine ⟨by omega, by rw [hm, List.getElem?_cons_succ, ← hm']; exact k2, ?_, ?_⟩
      · rw [List.map_cons, List.find?_cons_of_neg (by simp [renE, hb])]
        exact k3
      · have hb' : ¬ ((x.born : Int) = (n : Int)) := by omega
        rw [List.map_cons, List.findIdx?_cons]
        rw [if_neg (by simpa [renE] using hb'), k4, hm, hm']
        rfl
theorem bytes_ok : ∀ {cs : List AV} {l : List UInt8}, bytesOf cs = some l → ∃ ns : List Int, renL μ cs = ns.map (Value.int .u8) ∧ ∀ s : ByteArray, ns.foldl (fun r n => r.push (UInt8.ofNat n.toNat)) s = ⟨s.data ++ l.toArray⟩
  | [], l, h => by
    simp only [bytesOf, Option.some.injEq] at h
    subst h
    exact ⟨[], rfl, fun s => by cases s; simp⟩
  | c :: cs, l, h => by
    unfold bytesOf at h
    split at h
    · rename_i hx; cases hx
    · rename_i n rest hx
      obtain ⟨rfl, rfl⟩ := List.cons.inj hx
      split at h
      · rename_i l' hl
        obtain rfl := Option.some.inj h
        obtain ⟨ns, h1, h2⟩ := bytes_ok hl
        refine ⟨n :: ns, by simp [renL, ren, h1], fun s => ?_⟩
        rw [List.foldl_cons, h2]
        cases s
        simp only [ByteArray.push, ByteArray.mk.injEq]
        apply Array.ext'
        simp
      · cases h
    · cases h

theorem binOp_eql {a : AV} (h : notNum a = true) (hs : sup d a) (t : TypeId) (y : Value) (w : World) :
    (binOp .eql t (ren μ a) y).run P w = ((Op.equal t (ren μ a) y).run P w).andThen fun b w' => .ok (.bool b) w' := by
  cases a with
  | v x => cases x <;> first | (simp [notNum] at h; done) | (simp only [binOp, ren]; simp)
  | sym => simp [notNum] at h
  | _ => simp only [binOp, ren]; simp
theorem binOp_neq {a : AV} (h : notNum a = true) (hs : sup d a) (t : TypeId) (y : Value) (w : World) :
    (binOp .neq t (ren μ a) y).run P w = ((Op.equal t (ren μ a) y).run P w).andThen fun b w' => .ok (.bool (!b)) w' := by
  cases a with
  | v x => cases x <;> first | (simp [notNum] at h; done) | (simp only [binOp, ren]; simp)
  | sym => simp [notNum] at h
  | _ => simp only [binOp, ren]; simp
theorem eqGuard_eq (EO : EnvOK E P) {op : BinOp} {t : TypeId} {x y : Operand} {a b : AV} {n : Nat} {r : Bool} (hn : ¬ (a = .v .nilIface ∧ b = .v .nilIface)) (ha : sup d a) (hb : sup d b) (h : aEq E H n t a b = some r) (w : World) :
    (eqGuard op t x y (ren μ a) (ren μ b)).run P w = .ok () w := by
  by_cases h1 : ∃ cs, a = .agg cs
  · obtain ⟨cs, rfl⟩ := h1
    by_cases h2 : ∃ cs', b = .agg cs'
    · obtain ⟨cs', rfl⟩ := h2
      cases n with
      | zero => simp [aEq] at h
      | succ n =>
        simp only [aEq] at h
        split at h
        all_goals first
          | (rename_i heq _; cases heq; done)
          | (rename_i heq; cases heq; done)
          | skip
        · split at h
          · rename_i he
            simp only [ren]
            exact run_eqGuard_agg w op t x y _ _ (EO.eq _ _ he).2
          · cases h
        · cases h
    · simp only [ren]
      cases b with
      | agg cs' => exact absurd ⟨cs', rfl⟩ h2
      | v z =>
        simp only [sup] at hb
        cases op <;> cases z <;> simp_all [eqGuard, ren, isSc]
      | _ => cases op <;> simp [eqGuard, ren]
  · by_cases h2 : a = .v .nilIface
    · subst h2
      cases b with
      | v z =>
        simp only [sup] at hb
        cases op <;> cases z <;> simp_all [eqGuard, ren, isSc]
      | _ => cases op <;> simp [eqGuard, ren]
    · refine eqGuard_sc op t x y _ _ w ⟨fun cs e => ?_, fun e => ?_⟩
      · cases a with
        | v z => simp only [ren] at e; subst e; simp [sup, isSc] at ha
        | agg cs' => exact h1 ⟨cs', rfl⟩
        | _ => simp [ren] at e
      · cases a with
        | v z => simp only [ren] at e; subst e; exact h2 rfl
        | _ => simp [ren] at e
theorem lies_row {u : TypeId} {sz count off : Nat} (hc : P.cellsOf u = sz + 1) (h0 : off % (sz + 1) = 0) (h1 : off / (sz + 1) + 1 ≤ count) : liesAt P P.depth u count off u 1 = true := by
  have hd : P.depth = (2 * (P.types.size + Made.depth) + 1) + 1 := rfl
  rw [hd]
  simp only [liesAt, Bool.or_eq_true]
  left
  rw [hd]
  simp [Go.rowAt, hc, h0, h1, sameLayout]
theorem shape_ok (R : Rel E μ d H w) {b : Nat} {cs : List AV} {e : TypeId} (hb : d b) (h : H.get b = some (.row cs e)) :
    ∃ sz k q, E.size e = some sz ∧ (μ.at_ b).sh = sz * k ∧ w.shape? (μ.at_ b).blk = some (e, sz * k + cs.length + q) := by
  obtain ⟨pre, post, fz, r1, r2, ⟨sz, r3, r4, ⟨k, r6⟩, _⟩, r5⟩ := row_ok R hb h
  refine ⟨sz, k, post.length, r3, by omega, ?_⟩
  simp [World.shape?, r1, renL_length, r6]
  omega
theorem read_sound (EO : EnvOK E P) (hρ : OpR E μ d tm ρ) (R : Rel E μ d H w) {o : Oper} {v : AV} (h : aRead E tm o H = some v) :
    (execOp ρ o).run P w = .ok (.value (ren μ v)) w ∧ sup d v := by
  obtain ⟨dst, op, ty, pos, after, guard⟩ := o
  unfold aRead at h
  dsimp only at h
  split at h
  · rename_i t x
    split at h
    · rename_i b off ha
      have ka := hρ _ _ ha
      have q := load_ok EO R (by simpa only [sup] using ka.2) h
      exact ⟨by simp [execOp, Instr.loadAt, ka.1, ren, Instr.sureAddr, q.1], q.2⟩
    · cases h
  · rename_i op t x y t'
    split at h
    · rename_i ha hb
      have ka := hρ _ _ ha
      have kb := hρ _ _ hb
      have g : (isLit x || isLit y) = true → (eqGuard op t x y .nilIface .nilIface).run P w = .ok () w := by
        intro hl
        cases op <;> simp only [eqGuard, Sem.run_bind, Sem.run_ite, Bool.not_true, Bool.not_false, if_true, if_false, Bool.false_eq_true, Sem.run_pure]
        all_goals (cases x <;> cases y <;> simp_all [isLit])
      split at h
      · rename_i hl hu
        obtain rfl := Option.some.inj h
        refine ⟨?_, by simp [sup, isSc]⟩
        simp only [execOp, Sem.run_bind, ka.1, kb.1, ren, g hl, Result.andThen_ok]
        have q : ∀ n, (Op.equalIn (n + 1) t .nilIface .nilIface).run P w = .ok true w := fun n => by simp [Op.equalIn, run_und EO hu]
        have q' : (Op.equal t .nilIface .nilIface).run P w = .ok true w := q 9999
        simp [binOp, q']
      · rename_i hl hu
        obtain rfl := Option.some.inj h
        refine ⟨?_, by simp [sup, isSc]⟩
        simp only [execOp, Sem.run_bind, ka.1, kb.1, ren, g hl, Result.andThen_ok]
        have q : ∀ n, (Op.equalIn (n + 1) t .nilIface .nilIface).run P w = .ok true w := fun n => by simp [Op.equalIn, run_und EO hu]
        have q' : (Op.equal t .nilIface .nilIface).run P w = .ok true w := q 9999
        simp [binOp, q']
      · cases h
    · rename_i a b hn ha hb
      have ka := hρ _ _ ha
      have kb := hρ _ _ hb
      split at h
      · rename_i hnn
        obtain ⟨r, hr, rfl⟩ := Option.map_eq_some_iff.1 h
        refine ⟨?_, by simp [sup, isSc]⟩
        have q := (eq_both EO R 60).1 _ _ _ _ hr ka.2 kb.2 10000 (by omega)
        have q' : (Op.equal t (ren μ a) (ren μ b)).run P w = .ok r w := q
        have g := eqGuard_eq (μ := μ) (d := d) (op := .eql) (x := x) (y := y) EO (fun e => hn e.1 e.2) ka.2 kb.2 hr w
        simp only [execOp, Sem.run_bind, ka.1, kb.1, g, Result.andThen_ok, binOp_eql hnn ka.2, q', ren, Sem.run_pure]
      · rename_i hnn
        obtain ⟨r, hr, rfl⟩ := Option.map_eq_some_iff.1 h
        refine ⟨?_, by simp [sup, isSc]⟩
        have q := (eq_both EO R 60).1 _ _ _ _ hr ka.2 kb.2 10000 (by omega)
        have q' : (Op.equal t (ren μ a) (ren μ b)).run P w = .ok r w := q
        have g := eqGuard_eq (μ := μ) (d := d) (op := .neq) (x := x) (y := y) EO (fun e => hn e.1 e.2) ka.2 kb.2 hr w
        simp only [execOp, Sem.run_bind, ka.1, kb.1, g, Result.andThen_ok, binOp_neq hnn ka.2, q', ren, Sem.run_pure]
      · cases h
    · cases h
  · rename_i t m k ok
    split at h
    · rename_i a b ha hb
      have ka := hρ _ _ ha
      have kb := hρ _ _ hb
      have q := lookup_ok EO R ka.2 kb.2 h
      exact ⟨by simp [execOp, ka.1, kb.1, q.1], q.2⟩
    · cases h
  · rename_i it
    split at h
    · rename_i r ha
      have ka := hρ _ _ ha
      split at h
      · rename_i m since seen stepped hr
        obtain ⟨o1, h1, h2⟩ := R.ob r _ (by simpa only [sup] using ka.2) hr
        have hsm : d m := R.sp r _ (by simpa only [sup] using ka.2) hr m rfl
        obtain ⟨h2, hsh⟩ : o1 = .mapIter (some (μ.at_ m).blk) since seen.toArray stepped ∧ (μ.at_ r).sh = 0 := h2
        subst h2
        split at h
        · rename_i stamp es clock hl hm
          have km := map_ok R hsm hm
          split at h
          · rename_i i e hc hf
            obtain rfl := Option.some.inj h
            have hc := Nat.eq_of_beq_eq_true hc
            subst hc
            obtain ⟨k1, k2, k3, k4⟩ := findBorn_ok (μ := μ) hf
            have hmem : e ∈ es := List.mem_of_getElem? k2
            refine ⟨?_, by simp only [sup, supL]; exact ⟨(km.2 e hmem).1, (km.2 e hmem).2, trivial⟩⟩
            simp only [execOp, Sem.run_bind, ka.1, ren, hsh]
            simp [Instr.entry, getObj, Sem.run, h1, lastN_ok hl, km.1, k3, renL, renE]
          · cases h
        · cases h
      · cases h
    · cases h
  · rename_i src dst x
    split at h
    · rename_i e b off len cap opn h1 h2 ha
      have ka := hρ _ _ ha
      split at h
      · rename_i cs he hr
        obtain ⟨l, hl, rfl⟩ := Option.map_eq_some_iff.1 h
        refine ⟨?_, by simp [sup, isSc]⟩
        have kr := rowAt_ok (P := P) R (by simpa only [sup] using ka.2) hr
        obtain ⟨ns, n1, n2⟩ := bytes_ok (μ := μ) hl
        rw [n1] at kr
        have q := run_bytesToString w _ _ (if opn then cap + (μ.at_ b).sl else cap) ns kr.1
        have q2 := run_convert_bytes_string w src dst e (some ⟨(μ.at_ b).blk, off + (μ.at_ b).sh, none⟩) len (if opn then cap + (μ.at_ b).sl else cap) (und_ok EO h1) (und_ok EO he) (und_ok EO h2)
        rw [n2] at q
        simp only [execOp, Sem.run_bind, ka.1, ren, q2, q, Result.andThen_ok, Sem.run_pure]
        rw [show (⟨ByteArray.empty.data ++ l.toArray⟩ : ByteArray) = ⟨l.toArray⟩ from by rw [show ByteArray.empty.data = #[] from rfl, Array.empty_append]]
      · cases h
    · rename_i e n c h1 h2 ha
      have ka := hρ _ _ ha
      split at h
      · rename_i he
        obtain rfl := Option.some.inj h
        refine ⟨?_, by simp [sup, isSc]⟩
        simp [execOp, ka.1, ren, convert, run_und EO h1, run_und EO h2, run_und EO he, Conv.bytesToString]
      · cases h
    · rename_i t b off h1 h2 ha
      have ka := hρ _ _ ha
      split at h
      · rename_i n cs e hn hr
        split at h
        · rename_i hlt
          obtain rfl := Option.some.inj h
          have hb : d b := by simpa only [sup] using ka.2
          have hlt : off < cs.length := Nat.le_of_ble_eq_true hlt
          obtain ⟨sz, k, q, s1, s2, s3⟩ := shape_ok R hb hr
          obtain ⟨j, hj, hjs⟩ := size_info EO hn
          have qq := Lib.run_to_unsafe (P := P) w ⟨(μ.at_ b).blk, off + (μ.at_ b).sh, none⟩ (und_ok EO h1) (und_ok EO h2) hj (by omega) s3 (by simp only; omega)
          refine ⟨?_, ka.2⟩
          simp only [execOp, Sem.run_bind, ka.1, ren, qq, Result.andThen_ok, Sem.run_pure]
        · cases h
      · cases h
    · rename_i u b off h1 h2 ha
      have ka := hρ _ _ ha
      split at h
      · rename_i n cs e hn hr
        split at h
        · rename_i hck
          obtain rfl := Option.some.inj h
          simp only [Bool.and_eq_true] at hck
          obtain rfl := Nat.eq_of_beq_eq_true hck.1.1
          have c2 := Nat.eq_of_beq_eq_true hck.1.2
          have c3 := Nat.le_of_ble_eq_true hck.2
          have hb : d b := by simpa only [sup] using ka.2
          obtain ⟨sz, k, q, s1, s2, s3⟩ := shape_ok R hb hr
          obtain rfl : sz = n + 1 := Option.some.inj (s1.symm.trans hn)
          obtain ⟨j, hj, hjs⟩ := size_info EO hn
          have hcell : P.cellsOf u = n + 1 := by simp [Program.cellsOf, hj, hjs]
          have hoff : off + (μ.at_ b).sh = off + (n + 1) * k := by rw [s2]
          have hl := lies_row (P := P) (u := u) (count := ((n + 1) * k + cs.length + q) / P.cellsOf u) (off := off + (μ.at_ b).sh) hcell (by rw [hoff, Nat.add_mul_mod_self_left]; exact c2) (by
            rw [hcell, hoff]
            have := Nat.div_le_div_right (c := n + 1) (show off + (n + 1) * k + (n + 1) ≤ (n + 1) * k + cs.length + q by omega)
            rwa [Nat.add_div_right _ (Nat.succ_pos n)] at this)
          have qq := Lib.run_from_unsafe (P := P) w ⟨(μ.at_ b).blk, off + (μ.at_ b).sh, none⟩ (und_ok EO h1) (und_ok EO h2) hj s3 hl
          refine ⟨?_, ka.2⟩
          simp only [execOp, Sem.run_bind, ka.1, ren, qq, Result.andThen_ok, Sem.run_pure]
        · cases h
      · cases h
    · cases h
  · rename_i c
    split at h
    · rename_i hb
      split at h
      · rename_i b t hargs hty
        have ka := opvA_ok hρ hargs
        split at h
        · rename_i k e es clock hu hm
          obtain rfl := Option.some.inj h
          refine ⟨?_, by simp [sup, isSc]⟩
          have km := map_ok R (by simpa only [supL, sup, and_true] using ka.2) hm
          simp only [execOp, resolve, hb, Sem.run_bind, Sem.run_pure, Result.andThen_ok, invoke, ka.1]
          simp [builtin, Builtin.len_, hty, run_und EO hu, renL, ren, MapKept.run_getObj_map km.1, goInt]
        · cases h
      · cases h
    · cases h
  · cases h
end reads
end Go.Xe
