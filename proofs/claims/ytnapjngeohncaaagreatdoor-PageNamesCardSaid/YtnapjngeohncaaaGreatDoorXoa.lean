import Derived.Test.YtnapjngeohncaaaGreatDoorXo
import Derived.Lib.UnsafeStr
import Derived.Laws.Externs
import GoSem.Extern.Table
set_option linter.unusedSimpArgs false
set_option linter.unusedVariables false
namespace Go.Xe
section more
variable {E : Env} {P : Program} {μ : Mu} {d : Nat → Prop} {H : Hp} {w : World}
theorem alloc_freeze (w : World) (A : Array Value) (e : TypeId) (n : Nat) : (w.alloc (.cells A e)).freeze ⟨w.heap.size, n, none⟩ 1 = w.alloc (.cells A e (n, n + 1)) := by
  obtain ⟨hp, tp, dr, os, out⟩ := w
  show World.freeze ⟨hp.push (.cells A e), tp, dr, os, out⟩ ⟨hp.size, n, none⟩ 1 = ⟨hp.push (.cells A e (n, n + 1)), tp, dr, os, out⟩
  unfold World.freeze
  rw [if_neg (by omega)]
  simp only [World.mk.injEq, and_true]
  apply Array.ext_getElem?
  intro i
  rw [Array.getElem?_modify, Array.getElem?_push, Array.getElem?_push]
  by_cases h : hp.size = i
  · subst h; simp
  · rw [if_neg h]
    have h2 : ¬ i = hp.size := fun e => h e.symm
    rw [if_neg h2, if_neg h2]
def strRow (s : ByteArray) (k : Nat) : Array Value := (s.data.map fun (b : UInt8) => Value.int .u8 b.toNat) ++ Array.replicate k (Value.int .u8 0)
def strCs (s : ByteArray) : List AV := s.data.toList.map fun b => .v (.int .u8 b.toNat)
theorem strCs_sup {d : Nat → Prop} (s : ByteArray) : supL d (strCs s) := by
  rw [supL_iff]
  intro a ha
  obtain ⟨b, _, rfl⟩ := List.mem_map.1 ha
  rfl
theorem strRow_ok {e : TypeId} (hu8 : E.und e = some (.int .u8)) (hsz : E.size e = some 1) (s : ByteArray) (k r : Nat) :
    ObjR E μ ⟨r, 0, k⟩ (.row (strCs s) e) (.cells (strRow s k) e ((strRow s k).size, (strRow s k).size + 1)) := by
  refine ⟨[], List.replicate k (.int .u8 0), ((strRow s k).size, (strRow s k).size + 1), ?_, rfl, 1, hsz, by simp, ⟨0, by simp⟩, .inr ⟨hu8, ?_⟩⟩
  · congr 1
    apply Array.ext'
    simp [strRow, strCs, renL_map, ren]
  · simp [strRow, strCs]
theorem strBytes_ok (R : Rel E μ d H w) (lt : Lt d H) {e : TypeId} (hu8 : E.und e = some (.int .u8)) (hsz : E.size e = some 1) (s : ByteArray) :
    ∃ newCap w', s.size ≤ newCap ∧ (Conv.stringToBytes e s).run P w = .ok (.slice (some ⟨w.heap.size, 0, none⟩) s.size newCap) w' ∧
      Rel E (μ.put H.nx ⟨w.heap.size, 0, newCap - s.size⟩) (fun b => d b ∨ b = H.nx) (H.push (.row (strCs s) e)) w' ∧
      Ext μ d H w (μ.put H.nx ⟨w.heap.size, 0, newCap - s.size⟩) (fun b => d b ∨ b = H.nx) (H.push (.row (strCs s) e)) w' ∧ Lt (fun b => d b ∨ b = H.nx) (H.push (.row (strCs s) e)) := by
  have kd := drawn_ok R (w.drawn + 1)
  have hch : ∃ newCap, s.size ≤ newCap ∧ (choose (.appendCap s.size 0 e)).run P w = .ok newCap { w with drawn := w.drawn + 1 } := by
    refine ⟨s.size + w.tape w.drawn (.appendCap s.size 0 e) % (2 ^ 63 - s.size), by omega, ?_⟩
    simp [choose, Sem.run, Question.forced, Question.cut]
  obtain ⟨newCap, h1, h2⟩ := hch
  have kp := push_ok0 (p := ⟨w.heap.size, 0, newCap - s.size⟩) (ob := .row (strCs s) e) (O := .cells (strRow s (newCap - s.size)) e ((strRow s (newCap - s.size)).size, (strRow s (newCap - s.size)).size + 1)) kd.1 lt rfl (strRow_ok hu8 hsz s _ _) (strCs_sup s)
  refine ⟨newCap, _, h1, ?_, kp.1, kd.2.trans kp.2.1 kd.1.inn, kp.2.2⟩
  have hdef : Conv.stringToBytes e s = (do
      let cap ← choose (.appendCap s.size 0 e)
      let a ← newRow e (strRow s (cap - s.size))
      markStringish a
      pure (.slice (some a) s.size cap)) := rfl
  rw [hdef, ← alloc_freeze]
  have hsh : (World.alloc { w with drawn := w.drawn + 1 } (.cells (strRow s (newCap - s.size)) e)).shape? w.heap.size = some (e, (strRow s (newCap - s.size)).size) := by
    simp [World.shape?, World.alloc]
  have hm : (markStringish ⟨w.heap.size, 0, none⟩).run P (World.alloc { w with drawn := w.drawn + 1 } (.cells (strRow s (newCap - s.size)) e)) = .ok () ((World.alloc { w with drawn := w.drawn + 1 } (.cells (strRow s (newCap - s.size)) e)).freeze ⟨w.heap.size, (strRow s (newCap - s.size)).size, none⟩ 1) := by
    unfold markStringish
    simp only [Sem.run_bind, shape, Sem.run, hsh, Result.andThen_ok, freeze]
  have hn : (newRow e (strRow s (newCap - s.size))).run P { w with drawn := w.drawn + 1 } = .ok ⟨w.heap.size, 0, none⟩ (World.alloc { w with drawn := w.drawn + 1 } (.cells (strRow s (newCap - s.size)) e)) := rfl
  simp only [Sem.run_bind, h2, Result.andThen_ok, hn, hm, Sem.run_pure]
theorem intAt_ok (R : Rel E μ d H w) {k : IntKind} {b off : Nat} {n : Int} (hb : d b) (h : intAt H k b off = some n) :
    w.cell? ⟨(μ.at_ b).blk, off + (μ.at_ b).sh, none⟩ = some (.int k n) := by
  unfold intAt at h
  split at h
  · rename_i cs e hg
    split at h
    · rename_i k' n' hc
      split at h
      · rename_i hk
        have hk := of_decide_eq_true hk
        obtain rfl := Option.some.inj h
        subst hk
        have := (cell_ok R hb hg hc).1
        simpa only [ren] using this
      · cases h
    · cases h
  · cases h
theorem live_row (R : Rel E μ d H w) {b : Nat} {cs : List AV} {e : TypeId} (hb : d b) (hg : H.get b = some (.row cs e)) {o : Nat} (ho : o < cs.length) :
    w.frozen? ⟨(μ.at_ b).blk, o + (μ.at_ b).sh, none⟩ = false ∧ ∃ sh, w.shape? (μ.at_ b).blk = some sh := by
  obtain ⟨pre, post, fz, r1, r2, ⟨sz, _, _, _, r4⟩, r5⟩ := row_ok R hb hg
  refine ⟨?_, _, by simp [World.shape?, r1]; rfl⟩
  unfold World.frozen?
  simp only [r1]
  have hw : Warm fz (pre.length + cs.length + post.length) := r4.imp id fun h => h.2
  exact hw.not (by omega)
theorem putCell_ok (R : Rel E μ d H w) {b off : Nat} {k : IntKind} {n : Int} {H' : Hp} (hb : d b) (h : putCell H b off (.int k n) = some H') :
    ∃ w', (store ⟨(μ.at_ b).blk, off + (μ.at_ b).sh, none⟩ (.int k n) .atomic).run P w = .ok () w' ∧ Rel E μ d H' w' ∧ Ext μ d H w μ d H' w' ∧ H'.nx = H.nx ∧
      ∃ cs e, H.get b = some (.row cs e) ∧ off < cs.length := by
  unfold putCell at h
  split at h
  · rename_i cs e hg
    split at h
    · rename_i hlt
      obtain rfl := Option.some.inj h
      have hlt : off < cs.length := Nat.le_of_ble_eq_true hlt
      obtain ⟨w', k1, k2, k3⟩ := row_write (P := P) (vs := [.v (.int k n)]) R hb hg (show off + 1 ≤ cs.length by omega) rfl ⟨rfl, trivial⟩
      refine ⟨w', ?_, k2, k3, rfl, cs, e, hg, hlt⟩
      have hc := (cell_ok R hb hg (List.getElem?_eq_getElem hlt)).1
      have s1 := run_store P w ⟨(μ.at_ b).blk, off + (μ.at_ b).sh, none⟩ (.int k n) .plain rfl
      have s2 := run_store P w ⟨(μ.at_ b).blk, off + (μ.at_ b).sh, none⟩ (.int k n) .atomic rfl
      rw [hc] at s1 s2
      simp only at s1 s2
      rw [s2, ← s1]
      have : (storeCells ⟨(μ.at_ b).blk, off + (μ.at_ b).sh, none⟩ [Value.int k n]).run P w = (store ⟨(μ.at_ b).blk, off + (μ.at_ b).sh, none⟩ (.int k n) .plain).run P w := by
        have ha0 : (⟨(μ.at_ b).blk, off + (μ.at_ b).sh, none⟩ : Addr).add 0 = ⟨(μ.at_ b).blk, off + (μ.at_ b).sh, none⟩ := by simp [Addr.add]
        simp only [storeCells, Sem.run_bind, ha0]
        rw [s1]
        simp only [(live_row R hb hg hlt).1, Result.andThen_ok, Sem.run_pure, Bool.false_eq_true, if_false]
      rw [← this]
      simpa only [renL, ren] using k1
    · cases h
  · cases h
theorem idx_ok (c : UInt8) (f : Nat → UInt8) : ∀ (l : List UInt8) (k : Nat), (∀ j x, l[j]? = some x → f (k + j) = x) → (List.range' k l.length).find? (fun i => f i == c) = idxOf8 c.toNat l k
  | [], k, _ => rfl
  | b :: bs, k, h => by
    have h0 := h 0 b rfl
    simp only [Nat.add_zero] at h0
    simp only [List.length_cons, List.range'_succ, List.find?_cons, h0, idxOf8]
    by_cases hb : b = c
    · subst hb
      simp
    · have h1 : (b == c) = false := by simpa using hb
      have h2 : Nat.beq b.toNat c.toNat = false := by
        cases hq : Nat.beq b.toNat c.toNat with
        | false => rfl
        | true => exact absurd (UInt8.toNat_inj.1 (Nat.eq_of_beq_eq_true hq)) hb
      rw [h1, h2]
      exact idx_ok c f bs (k + 1) (fun j x hj => by have := h (j + 1) x hj; rw [← this]; congr 1; omega)
theorem firstIdx_eq (s : ByteArray) (c : Nat) (hc : c < 256) : Go.firstIdx s ((c : Int).toNat.toUInt8) = (match idxOf8 c s.data.toList 0 with | some i => (i : Int) | none => -1) := by
  have q := idx_ok (c.toUInt8) (fun i => s[i]!) s.data.toList 0 (fun j x hj => by
    have h1 : s.data[j]? = some x := by simpa using hj
    have hlt : j < s.data.size := (Array.getElem?_eq_some_iff.1 h1).1
    have hv : s.data[j] = x := (Array.getElem?_eq_some_iff.1 h1).2
    have hlt' : j < s.size := hlt
    simp only [Nat.zero_add]
    rw [getElem!_pos s j hlt']
    exact hv)
  have hsz : s.data.toList.length = s.size := Array.length_toList
  rw [hsz, ← List.range_eq_range'] at q
  have ht : c.toUInt8.toNat = c := by
    show c % 256 = c
    exact Nat.mod_eq_of_lt hc
  rw [ht] at q
  unfold Go.firstIdx
  simp only [Int.toNat_natCast]
  rw [q]
  cases idxOf8 c s.data.toList 0 <;> rfl
theorem loadT_eq (t : Extern.Atomic.T) (a : Value) : Extern.Atomic.loadT t #[a] = (do Extern.Atomic.read t (← asAddr a)) := rfl
theorem storeT_eq (a v : Value) : Extern.Atomic.storeT #[a, v] = (do store (← asAddr a) v .atomic; pure Extern.Atomic.none_) := rfl
theorem casT_eq (t : Extern.Atomic.T) (addr old new : Value) : Extern.Atomic.casT t #[addr, old, new] = (do
    let a ← asAddr addr
    if ← Extern.Atomic.touchesFrozen a then unsupported (.unsafePointer "a write to bytes that a string shares")
    let eq ← match t, ← Extern.Atomic.read t a, old with
      | _, .int _ x, .int _ y => pure (x == y)
      | .ptr, .pointer x, .pointer y => samePointer x y
      | .int _, .pointer (some _), .int _ 0 | .int _, .int _ 0, .pointer (some _) => pure false
      | .int _, .pointer (some _), _ | .int _, _, .pointer (some _) => unsupported .addressObserved
      | _, _, _ => stuck "atomic.CompareAndSwap: old is no T"
    if eq then store a new .atomic
    pure (.bool eq)) := rfl
theorem update_eq (op : IntKind → Int → Int → Sem Value) (k : IntKind) (r : Bool) (addr y : Value) : Extern.Atomic.update op k r #[addr, y] = (do
    let a ← asAddr addr
    let old ← Extern.Atomic.read (.int k) a
    let new ← op k (← asInt old) (← asInt y)
    store a new .atomic
    pure (if r then new else old)) := rfl
theorem ext_ok (R : Rel E μ d H w) {k : Nat} {args : List AV} {v : AV} {H' : Hp} (hs : supL d args) (h : aExt k args H = some (v, H')) :
    ∃ w', (extSem k (renL μ args).toArray).run P w = .ok (ren μ v) w' ∧ Rel E μ d H' w' ∧ Ext μ d H w μ d H' w' ∧ H'.nx = H.nx ∧ sup d v := by
  have here : ∀ v, H' = H → v = v → (extSem k (renL μ args).toArray).run P w = .ok (ren μ v) w → sup d v → ∃ w', (extSem k (renL μ args).toArray).run P w = .ok (ren μ v) w' ∧ Rel E μ d H' w' ∧ Ext μ d H w μ d H' w' ∧ H'.nx = H.nx ∧ sup d v := by
    intro v e _ hr hv
    subst e
    exact ⟨w, hr, R, .refl _ _ _ _, rfl, hv⟩
  unfold aExt at h
  split at h
  · simp only [Option.some.injEq, Prod.mk.injEq] at h
    obtain ⟨rfl, rfl⟩ := h
    exact here _ rfl rfl rfl hs.1
  · simp only [Option.some.injEq, Prod.mk.injEq] at h
    obtain ⟨rfl, rfl⟩ := h
    exact here _ rfl rfl (by simp [extSem, mark, Sem.run, Extern.Race.none_, ren, renL]) (by simp [sup, supL])
  · simp only [Option.some.injEq, Prod.mk.injEq] at h
    obtain ⟨rfl, rfl⟩ := h
    exact here _ rfl rfl (by simp [extSem, mark, Sem.run, Extern.Race.none_, ren, renL]) (by simp [sup, supL])
  · simp only [Option.some.injEq, Prod.mk.injEq] at h
    obtain ⟨rfl, rfl⟩ := h
    exact here _ rfl rfl (by simp [extSem, Extern.Race.marked, Extern.Race.at_, mark, Sem.run, Extern.Race.none_, ren, renL]) (by simp [sup, supL])
  · simp only [Option.some.injEq, Prod.mk.injEq] at h
    obtain ⟨rfl, rfl⟩ := h
    exact here _ rfl rfl (by simp [extSem, Extern.Race.marked, Extern.Race.at_, mark, Sem.run, Extern.Race.none_, ren, renL]) (by simp [sup, supL])
  · rename_i b off
    split at h
    · rename_i n hn
      simp only [Option.some.injEq, Prod.mk.injEq] at h
      obtain ⟨rfl, rfl⟩ := h
      have hc := intAt_ok R (by simpa only [supL, sup, and_true] using hs) hn
      exact here _ rfl rfl (by simp only [extSem, renL, ren, loadT_eq]; simp [Extern.Atomic.read, asAddr, hc]) (by simp [sup, isSc])
    · cases h
  · rename_i b off k n
    split at h
    · rename_i H1 hp
      simp only [Option.some.injEq, Prod.mk.injEq] at h
      obtain ⟨rfl, rfl⟩ := h
      obtain ⟨w', k1, k2, k3, k4, k5⟩ := putCell_ok (P := P) R hs.1 hp
      exact ⟨w', by simp only [extSem, renL, ren, storeT_eq]; simp [asAddr, k1, Extern.Atomic.none_], k2, k3, k4, by simp [sup, supL]⟩
    · cases h
  · rename_i b off k0 x k y
    split at h
    · rename_i n hn
      split at h
      · rename_i hx
        have hx := of_decide_eq_true hx
        subst hx
        split at h
        · rename_i H1 hp
          simp only [Option.some.injEq, Prod.mk.injEq] at h
          obtain ⟨rfl, rfl⟩ := h
          have hc := intAt_ok R hs.1 hn
          obtain ⟨w', k1, k2, k3, k4, cs, e, k5, k6⟩ := putCell_ok (P := P) R hs.1 hp
          obtain ⟨l1, sh, l2⟩ := live_row R hs.1 k5 k6
          have ht : (Extern.Atomic.touchesFrozen ⟨(μ.at_ b).blk, off + (μ.at_ b).sh, none⟩).run P w = .ok false w := by
            simp [Extern.Atomic.touchesFrozen, viewAt, shape, frozen, Sem.run, l1, l2]
          refine ⟨w', ?_, k2, k3, k4, by simp [sup, isSc]⟩
          simp only [extSem, renL, ren, casT_eq, Sem.run_bind, asAddr, Sem.run_pure, Result.andThen_ok, ht, Bool.false_eq_true, if_false]
          simp [Extern.Atomic.read, hc, k1]
        · cases h
      · cases h
    · cases h
  · rename_i b off k0 y
    split at h
    · rename_i n hn
      split at h
      · rename_i H1 hp
        simp only [Option.some.injEq, Prod.mk.injEq] at h
        obtain ⟨rfl, rfl⟩ := h
        have hc := intAt_ok R hs.1 hn
        obtain ⟨w', k1, k2, k3, k4, cs, e, k5⟩ := putCell_ok (P := P) R hs.1 hp
        refine ⟨w', ?_, k2, k3, k4, by simp [sup, isSc]⟩
        simp only [extSem, renL, ren, update_eq]
        simp [Extern.Atomic.read, asAddr, hc, asInt, asIntOf, Op.intArith, k1]
      · cases h
    · cases h
  · rename_i s c
    split at h
    · rename_i hc
      have hc : c < 256 := Nat.le_of_ble_eq_true hc
      simp only [Option.some.injEq, Prod.mk.injEq] at h
      obtain ⟨rfl, rfl⟩ := h
      have q := run_indexByte_string (P := P) s (Int.ofNat c) w
      refine here _ rfl rfl ?_ (by simp [sup, isSc])
      simp only [extSem, renL, ren]
      rw [q]
      congr 2
      exact firstIdx_eq s c hc
    · cases h
  · cases h
theorem extOf_ok (EO : EnvOK E P) (R : Rel E μ d H w) {x : ADef} {v : AV} {H' : Hp} (hs : supD d x) (h : extOf E x H = some (v, H')) :
    ∃ w', (invoke (renD μ x).target (renD μ x).args).run P w = .ok (.value (ren μ v)) w' ∧ Rel E μ d H' w' ∧ Ext μ d H w μ d H' w' ∧ H'.nx = H.nx ∧ sup d v := by
  obtain ⟨tg, args⟩ := x
  unfold extOf at h
  split at h
  · rename_i f htg
    simp only at htg
    subst htg
    split at h
    · rename_i k hk
      obtain ⟨fn, f1, f2, f3, f4, f5⟩ := EO.ex f k hk
      obtain ⟨w', k1, k2, k3, k4, k5⟩ := ext_ok (P := P) R hs.2 h
      refine ⟨w', ?_, k2, k3, k4, k5⟩
      have q := run_callFunc_extern f1 f2 f3 f4 f5 (renL μ args).toArray w
      show (callFunc f ((renL μ args).toArray ++ #[])).run P w = _
      rw [Array.append_empty, q, k1]
      rfl
    · cases h
  · cases h
theorem findMeth_ok {name : String} {m : Method} : ∀ {l : List Method}, findMeth name l = some m → l.find? (fun m => m.name == name) = some m
  | [], h => by cases h
  | a :: as, h => by
    unfold findMeth at h
    split at h
    · rename_i hd
      have hd := of_decide_eq_true hd
      obtain rfl := Option.some.inj h
      simp [hd]
    · rename_i hd
      have hd := of_decide_eq_false hd
      simp [hd, findMeth_ok h]
theorem invoke_ok (EO : EnvOK E P) {r : AV} {name : String} {args : List AV} {nx : ANext} (hr : sup d r) (ha : supL d args) (h : aInvoke E r name args = some nx) :
    EffR P μ d nx ((invoke (.fn (.method name) #[]) (#[ren μ r] ++ (renL μ args).toArray)).run P w) w := by
  unfold aInvoke at h
  split at h
  · rename_i t v
    split at h
    · rename_i f hm
      obtain rfl := Option.some.inj h
      unfold methOf at hm
      split at hm
      · rename_i el i hu hi
        split at hm
        · rename_i m hf
          split at hm
          · rename_i f' hpath hfn
            split at hm
            · rename_i hb
              obtain rfl := Option.some.inj hm
              unfold hasBody at hb
              split at hb
              · rename_i fn hft
                refine ⟨.enter f' (renL μ (v :: args)).toArray, ?_, rfl, ⟨hr, ha⟩⟩
                have h1 := EO.ft _ _ hft
                have h2 := EO.name _ _ hft
                have h3 : fn.body.isNone = false := by cases hbo : fn.body <;> simp_all
                have h2' : ¬ fn.name = "runtime.NumGoroutine" := by simpa using h2
                have h3' : ¬ fn.body = none := by intro e; rw [e] at h3; cases h3
                have hinfo := run_info EO hi w
                have hfind : i.methods.find? (fun m => m.name == name) = some m := by
                  rw [← Array.find?_toList]; exact findMeth_ok hf
                have hmeth : ∀ n, (method (n + 1) t (ren μ v) name).run P w = .ok (f', ren μ v) w := by
                  intro n
                  unfold method
                  simp only [Sem.run_bind, hinfo, Result.andThen_ok, hfind, hpath, follow, Sem.run_pure, hfn]
                  simp [receiverAt, run_und EO hu, Place.get]
                have hcm : (callMethod (ren μ (.iface t v)) name (renL μ args).toArray).run P w = .ok (.enter f' (renL μ (v :: args)).toArray) w := by
                  have hd : P.types.size + Made.depth = (P.types.size + (Made.depth - 1)) + 1 := by
                    have : 0 < Made.depth := by decide
                    omega
                  simp only [ren, callMethod, Sem.run_bind, program, Sem.run, Result.andThen_ok]
                  rw [show (P.types.size + Made.depth) = _ from hd, hmeth]
                  simp [callFunc, program, Sem.run, h1, h2', h3', renL]
                simp only [invoke]
                have e0 : (#[ren μ (.iface t v)] ++ (renL μ args).toArray)[0]? = some (ren μ (.iface t v)) := by simp
                have e1 : (#[ren μ (.iface t v)] ++ (renL μ args).toArray).extract 1 (#[ren μ (.iface t v)] ++ (renL μ args).toArray).size = (renL μ args).toArray := by
                  apply Array.ext'
                  simp
                rw [e0]
                simp only
                rw [e1]
                exact hcm
              · cases hb
            · cases hm
          · cases hm
        · cases hm
      · cases hm
    · cases h
  · cases h
theorem loadBytes_ok (w : World) (b : Nat) : ∀ (ns : List Int) (o : Nat) (acc : ByteArray), (∀ j n, ns[j]? = some n → w.cell? ⟨b, o + j, none⟩ = some (.int .u8 n)) →
    (loadBytes ⟨b, o, none⟩ acc ns.length).run P w = .ok (ns.foldl (fun r n => r.push (UInt8.ofNat n.toNat)) acc) w
  | [], o, acc, _ => by simp [loadBytes]
  | n :: ns, o, acc, h => by
    have h0 : w.cell? ⟨b, o, none⟩ = some (.int .u8 n) := h 0 n rfl
    have ih := loadBytes_ok w b ns (o + 1) (acc.push (UInt8.ofNat n.toNat)) (fun j x hj => by
      have := h (j + 1) x hj
      rw [show o + 1 + j = o + (j + 1) by omega]
      exact this)
    simp only [List.length_cons, loadBytes, Sem.run_bind, run_load, h0, Result.andThen_ok, addr_add, List.foldl_cons]
    exact ih
theorem unsafeString_eq (ts : Array TypeId) (ty : TypeId) (p : Option Addr) (len : Value) : Builtin.unsafeString_ ts ty #[.pointer p, len] = (do
    let n ← asInt len
    let some pt := ts[0]? | stuck "unsafe.String: no argument types"
    if n < 0 then runtimePanic (.error "unsafe.String: len out of range")
    if n > IntKind.i64.max then unsupported (.unsafePointer "String: a length above the largest int")
    match p with
    | none =>
      if n = 0 then pure (.string .empty)
      else runtimePanic (.error "unsafe.String: ptr is nil and len is not zero")
    | some a =>
      if n = 0 then pure (.string .empty)
      else if ← variablesAt a (← elemOf pt) n.toNat then do
        let s ← loadBytes a .empty n.toNat
        freeze a n.toNat
        pure (.string s)
      else unsupported (.unsafePointer "String: not so many bytes at ptr")) := rfl
theorem lies_bytes {e : TypeId} {count off n : Nat} (hc : P.cellsOf e = 1) (hn : off + n ≤ count) : liesAt P P.depth e count off e n = true := by
  have hd : P.depth = (2 * (P.types.size + Made.depth) + 1) + 1 := rfl
  rw [hd]
  simp only [liesAt, Bool.or_eq_true]
  left
  rw [hd]
  simp [Go.rowAt, hc, hn, sameLayout, Nat.mod_one]
theorem unsafeStr_ok (EO : EnvOK E P) (R : Rel E μ d H w) {argTypes : Array TypeId} {p n : AV} {v : AV} {H' : Hp} (hs : sup d p) (h : aUnsafeStr E argTypes p n H = some (v, H')) (ty : TypeId) :
    ∃ w', (Builtin.unsafeString_ argTypes ty #[ren μ p, ren μ n]).run P w = .ok (ren μ v) w' ∧ Rel E μ d H' w' ∧ Ext μ d H w μ d H' w' ∧ H'.nx = H.nx ∧ sup d v := by
  have hmax : IntKind.i64.max = 9223372036854775807 := rfl
  unfold aUnsafeStr at h
  split at h
  · rename_i k pt hpt
    simp only [Option.some.injEq, Prod.mk.injEq] at h
    obtain ⟨rfl, rfl⟩ := h
    refine ⟨w, ?_, R, .refl _ _ _ _, rfl, by simp [sup, isSc]⟩
    simp only [ren, unsafeString_eq]
    simp [asInt, asIntOf, hpt, hmax]
  · rename_i b off n pt hpt
    split at h
    · rename_i u cs e hu hg
      split at h
      · rename_i l hue he hng hl
        split at h
        · rename_i hck
          simp only [Option.some.injEq, Prod.mk.injEq] at h
          obtain ⟨rfl, rfl⟩ := h
          simp only [Bool.and_eq_true] at hck
          have c1 := Nat.le_of_ble_eq_true hck.1
          have c2 := Nat.le_of_ble_eq_true hck.2
          obtain rfl := Nat.eq_of_beq_eq_true hue
          have hb : d b := by simpa only [sup] using hs
          obtain ⟨sz, k, q, s1, s2, s3⟩ := shape_ok R hb hg
          obtain rfl : sz = 1 := Option.some.inj (s1.symm.trans he)
          obtain ⟨j, hj, hjs⟩ := size_info EO he
          have hcell : P.cellsOf u = 1 := by simp [Program.cellsOf, hj, hjs]
          obtain ⟨ns, n1, n2⟩ := bytes_ok (μ := μ) hl
          have hlen : ns.length = n + 1 := by
            have := congrArg List.length n1
            simp [renL_length] at this
            omega
          have hlies := lies_bytes (P := P) (e := u) (count := (1 * k + cs.length + q) / P.cellsOf u) (off := off + (μ.at_ b).sh) (n := n + 1) hcell (by rw [hcell, Nat.div_one]; omega)
          have hlb := loadBytes_ok (P := P) w (μ.at_ b).blk ns (off + (μ.at_ b).sh) .empty (fun j x hj => by
            have hr : (renL μ ((cs.drop off).take (n + 1)))[j]? = some (.int .u8 x) := by rw [n1]; simp [hj]
            rw [renL_get] at hr
            obtain ⟨a, ha, hax⟩ := Option.map_eq_some_iff.1 hr
            have ha' : cs[off + j]? = some a := by
              rw [List.getElem?_take] at ha
              split at ha
              · rwa [List.getElem?_drop] at ha
              · cases ha
            have := (cell_ok R hb hg ha').1
            rw [hax] at this
            rw [show off + (μ.at_ b).sh + j = off + j + (μ.at_ b).sh by omega]
            exact this)
          rw [hlen, n2] at hlb
          have hmt : (⟨ByteArray.empty.data ++ l.toArray⟩ : ByteArray) = ⟨l.toArray⟩ := by rw [show ByteArray.empty.data = #[] from rfl, Array.empty_append]
          rw [hmt] at hlb
          have kk := kill_ok R hb hg
          obtain ⟨pre, post, fz, r1, _⟩ := row_ok R hb hg
          obtain ⟨fz', hfz⟩ := freeze_eq (off := off + (μ.at_ b).sh) (n := n + 1) r1
          have kt := touch_ok (fz' := fz') kk.1 hb rfl (fun c o hc hgc hl e' => by
            rw [Hp.get_set] at hgc
            by_cases ec : c = b
            · rw [if_pos ec] at hgc
              obtain rfl := Option.some.inj hgc
              cases hl
            · rw [if_neg ec] at hgc
              exact ec (R.inj c b _ _ hc hb hgc hg hl rfl e')) r1
          refine ⟨_, ?_, kt.1, kk.2.trans kt.2 R.inn, rfl, by simp [sup, isSc]⟩
          rw [← hfz]
          have h63 : ¬ (9223372036854775807 : Int) < ((n + 1 : Nat) : Int) := by omega
          have hneg : ¬ ((n + 1 : Nat) : Int) < 0 := by omega
          have hne : ¬ ((n + 1 : Nat) : Int) = 0 := by omega
          have hva : (variablesAt ⟨(μ.at_ b).blk, off + (μ.at_ b).sh, none⟩ u (n + 1)).run P w = .ok true w := by
            simp only [variablesAt, Sem.run_bind, program, shape, Sem.run, Result.andThen_ok, s3, Sem.run_pure, hlies]
          have hel : (elemOf pt).run P w = .ok u w := by simp [elemOf, run_und EO hu]
          simp only [ren, unsafeString_eq, Int.ofNat_eq_natCast]
          simp only [asInt, asIntOf, Sem.run_bind, Sem.run_pure, Result.andThen_ok, hpt, hmax, gt_iff_lt, h63, hneg, hne, if_false, Int.toNat_natCast, hel, hva, if_true, hlb, freeze, Sem.run]
        · cases h
      · cases h
    · cases h
  · cases h
end more
end Go.Xe
