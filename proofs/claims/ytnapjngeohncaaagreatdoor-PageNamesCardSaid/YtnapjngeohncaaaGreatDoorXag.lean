import Derived.Test.YtnapjngeohncaaaGreatDoorXaf
set_option linter.unusedSimpArgs false
set_option linter.unusedVariables false
namespace Go.Xe
/-! ### the same evaluator, in small parts: what the kernel runs -/
noncomputable section
def ifB {α : Type} (b : Bool) (x y : α) : α := @Bool.rec (fun _ => α) y x b
theorem ifB_true {α : Type} (x y : α) : ifB true x y = x := rfl
theorem ifB_false {α : Type} (x y : α) : ifB false x y = y := rfl
def bindO {α : Type} {β : Type} (o : Option α) (k : α → Option β) : Option β := @Option.rec α (fun _ => Option β) none k o
theorem bindO_none {α : Type} {β : Type} (k : α → Option β) : bindO none k = none := rfl
theorem bindO_some {α : Type} {β : Type} (a : α) (k : α → Option β) : bindO (some a) k = k a := rfl

/-! tables -/
def Tr.getE {α : Type} (_ : Nat) : Option α := none
def Tr.getS {α : Type} (k : Nat) (_ : Option α) (x : Option α) (l r : Nat → Option α) : Option α := ifB (Nat.beq (k % 2) 0) (l (k / 2)) (r (k / 2))
def Tr.getN {α : Type} (x : Option α) (_ _ : Tr α) (l r : Nat → Option α) (k : Nat) : Option α :=
  @Nat.rec (fun _ => Option α → (Nat → Option α) → (Nat → Option α) → Option α) (fun x _ _ => x) (fun k _ _ l r => ifB (Nat.beq (k % 2) 0) (l (k / 2)) (r (k / 2))) k x l r
def Tr.getQ {α : Type} (t : Tr α) : Nat → Option α := @Tr.rec α (fun _ => Nat → Option α) Tr.getE Tr.getN t
theorem Tr.getQ_eq {α : Type} (t : Tr α) : ∀ k, t.getQ k = t.get k := by
  induction t with
  | e => intro k; rfl
  | n x l r il ir =>
    intro k
    cases k with
    | zero => rfl
    | succ k =>
      show ifB (Nat.beq (k % 2) 0) (l.getQ (k / 2)) (r.getQ (k / 2)) = _
      rw [il, ir]
      show _ = (match Nat.beq (k % 2) 0 with | true => l.get (k / 2) | false => r.get (k / 2))
      cases Nat.beq (k % 2) 0 <;> rfl

def Tr.setZ {α : Type} (v : α) (t : Tr α) : Tr α := @Tr.rec α (fun _ => Tr α) (.n (some v) .e .e) (fun _ l r _ _ => .n (some v) l r) t
def Tr.setE {α : Type} (k : Nat) (ih : Nat → Tr α → Tr α) : Tr α :=
  ifB (Nat.beq (k % 2) 0) (.n none (ih (k / 2) .e) .e) (.n none .e (ih (k / 2) .e))
def Tr.setN {α : Type} (x : Option α) (l r : Tr α) (_ _ : Nat → (Nat → Tr α → Tr α) → Tr α) (k : Nat) (ih : Nat → Tr α → Tr α) : Tr α :=
  ifB (Nat.beq (k % 2) 0) (.n x (ih (k / 2) l) r) (.n x l (ih (k / 2) r))
def Tr.setT {α : Type} (k : Nat) (ih : Nat → Tr α → Tr α) (t : Tr α) : Tr α :=
  @Tr.rec α (fun _ => Nat → (Nat → Tr α → Tr α) → Tr α) Tr.setE Tr.setN t k ih
def Tr.setS {α : Type} (v : α) (_ : Nat) (ih : Nat → Tr α → Tr α) (k : Nat) (t : Tr α) : Tr α :=
  @Nat.rec (fun _ => Tr α) (Tr.setZ v t) (fun k _ => Tr.setT k ih t) k
def Tr.setFQ {α : Type} (v : α) (f : Nat) : Nat → Tr α → Tr α := @Nat.rec (fun _ => Nat → Tr α → Tr α) (fun _ t => t) (Tr.setS v) f
def Tr.setQ {α : Type} (t : Tr α) (k : Nat) (v : α) : Tr α := Tr.setFQ v (k + 1) k t
theorem Tr.setFQ_eq {α : Type} (v : α) : ∀ (f k : Nat) (t : Tr α), Tr.setFQ v f k t = Tr.setF v f k t := by
  intro f
  induction f with
  | zero => intro k t; rfl
  | succ f ih =>
    intro k t
    cases k with
    | zero => cases t <;> rfl
    | succ k =>
      cases t with
      | e =>
        show ifB (Nat.beq (k % 2) 0) (.n none (Tr.setFQ v f (k / 2) .e) .e) (.n none .e (Tr.setFQ v f (k / 2) .e)) = (match Nat.beq (k % 2) 0 with
          | true => Tr.n none (Tr.setF v f (k / 2) .e) .e
          | false => Tr.n none .e (Tr.setF v f (k / 2) .e) : Tr α)
        rw [ih]
        cases Nat.beq (k % 2) 0 <;> rfl
      | n x l r =>
        show ifB (Nat.beq (k % 2) 0) (.n x (Tr.setFQ v f (k / 2) l) r) (.n x l (Tr.setFQ v f (k / 2) r)) = (match Nat.beq (k % 2) 0 with
          | true => Tr.n x (Tr.setF v f (k / 2) l) r
          | false => Tr.n x l (Tr.setF v f (k / 2) r) : Tr α)
        rw [ih, ih]
        cases Nat.beq (k % 2) 0 <;> rfl
theorem Tr.setQ_eq {α : Type} (t : Tr α) (k : Nat) (v : α) : t.setQ k v = t.set k v := Tr.setFQ_eq v (k + 1) k t

/-! lists -/
def lenQ {α : Type} (l : List α) : Nat := @List.rec α (fun _ => Nat) 0 (fun _ _ n => n + 1) l
theorem lenQ_eq {α : Type} (l : List α) : lenQ l = l.length := by
  induction l with
  | nil => rfl
  | cons a as ih => show lenQ as + 1 = as.length + 1; rw [ih]
def nthQ {α : Type} (l : List α) : Nat → Option α :=
  @List.rec α (fun _ => Nat → Option α) (fun _ => none) (fun a _ ih k => @Nat.rec (fun _ => Option α) (some a) (fun k _ => ih k) k) l
theorem nthQ_eq {α : Type} (l : List α) : ∀ k, nthQ l k = l[k]? := by
  induction l with
  | nil => intro k; rfl
  | cons a as ih =>
    intro k
    cases k with
    | zero => rfl
    | succ k => show nthQ as k = _; rw [ih]; rfl
def appQ {α : Type} (l m : List α) : List α := @List.rec α (fun _ => List α) m (fun a _ r => a :: r) l
theorem appQ_eq {α : Type} (l m : List α) : appQ l m = l ++ m := by
  induction l with
  | nil => rfl
  | cons a as ih => show a :: appQ as m = _; rw [ih]; rfl
def dropQ {α : Type} (n : Nat) : List α → List α :=
  @Nat.rec (fun _ => List α → List α) (fun l => l) (fun _ ih l => @List.rec α (fun _ => List α) [] (fun _ as _ => ih as) l) n
theorem dropQ_eq {α : Type} : ∀ (n : Nat) (l : List α), dropQ n l = l.drop n := by
  intro n
  induction n with
  | zero => intro l; rfl
  | succ n ih =>
    intro l
    cases l with
    | nil => rfl
    | cons a as => show dropQ n as = _; rw [ih]; rfl
def takeQ {α : Type} (n : Nat) : List α → List α :=
  @Nat.rec (fun _ => List α → List α) (fun _ => []) (fun _ ih l => @List.rec α (fun _ => List α) [] (fun a as _ => a :: ih as) l) n
theorem takeQ_eq {α : Type} : ∀ (n : Nat) (l : List α), takeQ n l = l.take n := by
  intro n
  induction n with
  | zero => intro l; rfl
  | succ n ih =>
    intro l
    cases l with
    | nil => rfl
    | cons a as => show a :: takeQ n as = _; rw [ih]; rfl
def allQ {α : Type} (p : α → Bool) (l : List α) : Bool := @List.rec α (fun _ => Bool) true (fun a _ r => ifB (p a) r false) l
theorem allQ_eq {α : Type} (p : α → Bool) (l : List α) : allQ p l = l.all p := by
  induction l with
  | nil => rfl
  | cons a as ih =>
    show ifB (p a) (allQ p as) false = (p a && as.all p)
    rw [ih]; cases p a <;> rfl

/-! values -/
def asV (a : AV) : Option Value := @AV.rec (fun _ => Option Value) (fun _ => Unit) (fun x => some x) (none) (fun _ _ => none) (fun _ _ _ _ _ => none) (fun _ => none) (fun _ _ _ _ _ => none) (fun _ => none) (fun _ _ _ => none) (fun _ _ => none) (fun _ _ => none) () (fun _ _ _ _ => ()) a
def asPtr (a : AV) : Option (Nat × Nat) := @AV.rec (fun _ => Option (Nat × Nat)) (fun _ => Unit) (fun _ => none) (none) (fun b o => some (b, o)) (fun _ _ _ _ _ => none) (fun _ => none) (fun _ _ _ _ _ => none) (fun _ => none) (fun _ _ _ => none) (fun _ _ => none) (fun _ _ => none) () (fun _ _ _ _ => ()) a
def asAgg (a : AV) : Option (List AV) := @AV.rec (fun _ => Option (List AV)) (fun _ => Unit) (fun _ => none) (none) (fun _ _ => none) (fun _ _ _ _ _ => none) (fun _ => none) (fun _ _ _ _ _ => none) (fun _ => none) (fun _ _ _ => none) (fun c _ => some c) (fun _ _ => none) () (fun _ _ _ _ => ()) a
def asTup (a : AV) : Option (List AV) := @AV.rec (fun _ => Option (List AV)) (fun _ => Unit) (fun _ => none) (none) (fun _ _ => none) (fun _ _ _ _ _ => none) (fun _ => none) (fun _ _ _ _ _ => none) (fun _ => none) (fun _ _ _ => none) (fun _ _ => none) (fun c _ => some c) () (fun _ _ _ _ => ()) a
def vBool (a : Value) : Option Bool := @Value.rec (fun _ => Option Bool) (fun _ => Unit) (fun _ => Unit) (fun b => some b) (fun _ _ => none) (fun _ _ => none) (fun _ _ _ => none) (fun _ => none) (fun _ => none) (fun _ _ _ => none) (fun _ => none) (fun _ => none) (fun _ _ _ _ _ => none) (none) (fun _ _ _ => none) (none) (fun _ _ => none) (fun _ _ => none) (fun _ _ => ()) () (fun _ _ _ _ => ()) a
def vInt (a : Value) : Option (IntKind × Int) := @Value.rec (fun _ => Option (IntKind × Int)) (fun _ => Unit) (fun _ => Unit) (fun _ => none) (fun k n => some (k, n)) (fun _ _ => none) (fun _ _ _ => none) (fun _ => none) (fun _ => none) (fun _ _ _ => none) (fun _ => none) (fun _ => none) (fun _ _ _ _ _ => none) (none) (fun _ _ _ => none) (none) (fun _ _ => none) (fun _ _ => none) (fun _ _ => ()) () (fun _ _ _ _ => ()) a
def iNat (n : Int) : Option Nat := @Int.rec (fun _ => Option Nat) (fun n => some n) (fun _ => none)  n
def asBool (a : AV) : Option Bool := bindO (asV a) vBool
def asInt (a : AV) : Option (IntKind × Int) := bindO (asV a) vInt
def asNat (a : AV) : Option Nat := bindO (asInt a) (fun p => iNat p.2)
def cellsQ (a : AV) : List AV := @AV.rec (fun _ => List AV) (fun _ => Unit) (fun x => [.v x]) ([.sym]) (fun b o => [.ptr b o]) (fun a b c d e => [.slice a b c d e]) (fun b => [.map b]) (fun a b c _ _ => [.func a b c]) (fun b => [.yield b]) (fun a b _ => [.iface a b]) (fun c _ => c) (fun c _ => [.tuple c]) () (fun _ _ _ _ => ()) a
theorem cellsQ_eq (a : AV) : cellsQ a = a.cells := by cases a <;> rfl
def oneQ (a : AV) : Bool := @AV.rec (fun _ => Bool) (fun _ => Unit) (fun _ => true) (true) (fun _ _ => true) (fun _ _ _ _ _ => true) (fun _ => true) (fun _ _ _ _ _ => true) (fun _ => true) (fun _ _ _ => true) (fun _ _ => false) (fun _ _ => false) () (fun _ _ _ _ => ()) a
theorem oneQ_eq (a : AV) : oneQ a = a.one := by cases a <;> rfl
theorem oneQ_fun : oneQ = AV.one := funext oneQ_eq

/-! operands -/
def tgetQ (tm : Tr AV) (t : Tmp) : AV := @Option.rec AV (fun _ => AV) AV.undef (fun v => v) (tm.getQ t)
theorem tgetQ_eq (tm : Tr AV) (t : Tmp) : tgetQ tm t = tget tm t := by
  unfold tgetQ tget; rw [Tr.getQ_eq]; cases tm.get t <;> rfl
def op_tmp (t : Tmp) (_ : Env) (tm : Tr AV) : Option AV := some (tgetQ tm t)
def op_const (v : Value) (_ : Env) (_ : Tr AV) : Option AV := ofV v
def gloV (E : Env) (g : Nat) : Option AV := bindO (findG g E.gl 0) (fun k => ifB (Nat.blt k E.ng) (some (.ptr k 0)) none)
def op_glob (g : Nat) (E : Env) (_ : Tr AV) : Option AV := gloV E g
def op_func (f : Nat) (_ : Env) (_ : Tr AV) : Option AV := some (.func f [] [])
def opvQ (E : Env) (tm : Tr AV) (x : Operand) : Option AV := @Operand.rec (fun _ => Env → Tr AV → Option AV) op_tmp op_const op_glob op_func x E tm
theorem opvQ_eq (E : Env) (tm : Tr AV) (x : Operand) : opvQ E tm x = opv E tm x := by
  cases x with
  | tmp t => show some (tgetQ tm t) = some (tget tm t); rw [tgetQ_eq]
  | const v => rfl
  | func f => rfl
  | global g =>
    show gloV E g = (match findG g E.gl 0 with
    | some k => match Nat.blt k E.ng with
      | true => some (AV.ptr k 0)
      | false => none
    | none => none)
    unfold gloV
    cases findG g E.gl 0 with
    | none => rfl
    | some k =>
      show ifB (Nat.blt k E.ng) (some (AV.ptr k 0)) none = (match Nat.blt k E.ng with | true => some (AV.ptr k 0) | false => none)
      cases Nat.blt k E.ng <;> rfl
def opvLQ (E : Env) (tm : Tr AV) (l : List Operand) : Option (List AV) :=
  @List.rec Operand (fun _ => Option (List AV)) (some []) (fun x _ ih => bindO (opvQ E tm x) (fun a => bindO ih (fun l => some (a :: l)))) l
theorem opvLQ_eq (E : Env) (tm : Tr AV) (l : List Operand) : opvLQ E tm l = opvL E tm l := by
  induction l with
  | nil => rfl
  | cons x xs ih =>
    show bindO (opvQ E tm x) (fun a => bindO (opvLQ E tm xs) (fun l => some (a :: l))) = (match opv E tm x, opvL E tm xs with
      | some a, some as => some (a :: as)
      | _, _ => none)
    rw [opvQ_eq, ih]
    cases opv E tm x <;> cases opvL E tm xs <;> rfl

/-! numbers -/
def kNo (k : IntKind) : Nat := @IntKind.rec (fun _ => Nat) (0) (1) (2) (3) (4) (5) (6) (7)  k
def kTop (k : IntKind) : Nat := @IntKind.rec (fun _ => Nat) (127) (32767) (2147483647) (9223372036854775807) (255) (65535) (4294967295) (18446744073709551615)  k
def eqK (k k' : IntKind) : Bool := Nat.beq (kNo k) (kNo k')
theorem eqK_eq (k k' : IntKind) : eqK k k' = decide (k = k') := by cases k <;> cases k' <;> rfl
def wrapQ (k : IntKind) (n : Int) : Int := @Int.rec (fun _ => IntKind → Int) (fun m k => ifB (Nat.ble m (kTop k)) (.ofNat m) (k.wrap (.ofNat m))) (fun m k => k.wrap (.negSucc m)) n k
theorem wrapQ_eq (k : IntKind) (n : Int) : wrapQ k n = k.wrap n := by
  cases n with
  | negSucc m => rfl
  | ofNat m =>
    show ifB (Nat.ble m (kTop k)) (.ofNat m) (k.wrap (.ofNat m)) = _
    cases h : Nat.ble m (kTop k) with
    | false => rfl
    | true =>
      have h' := Nat.le_of_ble_eq_true h
      show Int.ofNat m = k.wrap (.ofNat m)
      cases k <;> simp only [kTop] at h' <;> simp only [IntKind.wrap, IntKind.bits, IntKind.signed, Int.ofNat_eq_natCast] <;> simp <;> omega
def int2 {R : Type} (f : Nat → Nat → R) (g : Int → Int → R) (x y : Int) : R :=
  @Int.rec (fun _ => R) (fun a => @Int.rec (fun _ => R) (fun b => f a b) (fun b => g (.ofNat a) (.negSucc b)) y) (fun a => g (.negSucc a) y) x
theorem int2_eq {R : Type} {f : Nat → Nat → R} {g : Int → Int → R} (h : ∀ a b : Nat, f a b = g (.ofNat a) (.ofNat b)) (x y : Int) : int2 f g x y = g x y := by
  cases x with
  | negSucc a => rfl
  | ofNat a => cases y with
    | negSucc b => rfl
    | ofNat b => exact h a b
def addI (x y : Int) : Int := int2 (fun a b => .ofNat (a + b)) (fun x y => x + y) x y
theorem addI_eq (x y : Int) : addI x y = x + y := int2_eq (g := fun x y => x + y) (fun a b => rfl) x y
def subI (x y : Int) : Int := int2 (fun a b => ifB (Nat.ble b a) (.ofNat (a - b)) (.ofNat a - .ofNat b)) (fun x y => x - y) x y
theorem subI_eq (x y : Int) : subI x y = x - y := int2_eq (fun a b => by
  cases h : Nat.ble b a with
  | false => rfl
  | true => have := Nat.le_of_ble_eq_true h; show Int.ofNat (a - b) = Int.ofNat a - Int.ofNat b; simp only [Int.ofNat_eq_natCast]; omega) x y
def ltI (x y : Int) : Bool := int2 (fun a b => Nat.blt a b) (fun x y => decide (x < y)) x y
theorem ltI_eq (x y : Int) : ltI x y = decide (x < y) := int2_eq (fun a b => by
  show Nat.blt a b = decide (Int.ofNat a < Int.ofNat b)
  rw [Bool.eq_iff_iff, Nat.blt_eq, decide_eq_true_iff]; simp only [Int.ofNat_eq_natCast]; omega) x y
def leI (x y : Int) : Bool := int2 (fun a b => Nat.ble a b) (fun x y => decide (x ≤ y)) x y
theorem leI_eq (x y : Int) : leI x y = decide (x ≤ y) := int2_eq (fun a b => by
  show Nat.ble a b = decide (Int.ofNat a ≤ Int.ofNat b)
  rw [Bool.eq_iff_iff, Nat.ble_eq, decide_eq_true_iff]; simp only [Int.ofNat_eq_natCast]; omega) x y
def eqI (x y : Int) : Bool := int2 (fun a b => Nat.beq a b) (fun x y => x == y) x y
theorem eqI_eq (x y : Int) : eqI x y = (x == y) := int2_eq (fun a b => by
  show Nat.beq a b = (Int.ofNat a == Int.ofNat b)
  rw [Bool.eq_iff_iff, Nat.beq_eq, beq_iff_eq]; simp only [Int.ofNat_eq_natCast]; omega) x y

/-! numbers against one another -/
def bi_gen (op : BinOp) (k : IntKind) (x : Int) (k' : IntKind) (y : Int) : Option Value := aBinSc op (.int k x) (.int k' y)
def bi_add (k : IntKind) (x : Int) (k' : IntKind) (y : Int) : Option Value := ifB (eqK k k') (some (.int k (wrapQ k (addI x y)))) none
def bi_sub (k : IntKind) (x : Int) (k' : IntKind) (y : Int) : Option Value := ifB (eqK k k') (some (.int k (wrapQ k (subI x y)))) none
def bi_lss (k : IntKind) (x : Int) (k' : IntKind) (y : Int) : Option Value := ifB (eqK k k') (some (.bool (ltI x y))) none
def bi_leq (k : IntKind) (x : Int) (k' : IntKind) (y : Int) : Option Value := ifB (eqK k k') (some (.bool (leI x y))) none
def bi_gtr (k : IntKind) (x : Int) (k' : IntKind) (y : Int) : Option Value := ifB (eqK k k') (some (.bool (ltI y x))) none
def bi_geq (k : IntKind) (x : Int) (k' : IntKind) (y : Int) : Option Value := ifB (eqK k k') (some (.bool (leI y x))) none
def bi_eql (k : IntKind) (x : Int) (k' : IntKind) (y : Int) : Option Value := ifB (eqK k k') (some (.bool (eqI x y))) none
def bi_neq (k : IntKind) (x : Int) (k' : IntKind) (y : Int) : Option Value := ifB (eqK k k') (some (.bool (ifB (eqI x y) false true))) none
def bi (op : BinOp) (k : IntKind) (x : Int) (k' : IntKind) (y : Int) : Option Value :=
  @BinOp.rec (fun _ => IntKind → Int → IntKind → Int → Option Value) (bi_add) (bi_sub) (bi_gen .mul) (bi_gen .quo) (bi_gen .rem) (bi_gen .and) (bi_gen .or) (bi_gen .xor) (bi_gen .shl) (bi_gen .shr) (bi_gen .andNot) (bi_eql) (bi_neq) (bi_lss) (bi_leq) (bi_gtr) (bi_geq)  op k x k' y
theorem bi_eq (op : BinOp) (k : IntKind) (x : Int) (k' : IntKind) (y : Int) : bi op k x k' y = aBinSc op (.int k x) (.int k' y) := by
  cases op
  case mul | quo | rem | and | or | xor | shl | shr | andNot => rfl
  case add =>
    show ifB (eqK k k') (some (Value.int k (wrapQ k (addI x y)))) none = (match decide (k = k') with | true => some (Value.int k (k.wrap (x + y))) | false => none)
    rw [eqK_eq, wrapQ_eq, addI_eq]; cases decide (k = k') <;> rfl
  case sub =>
    show ifB (eqK k k') (some (Value.int k (wrapQ k (subI x y)))) none = (match decide (k = k') with | true => some (Value.int k (k.wrap (x - y))) | false => none)
    rw [eqK_eq, wrapQ_eq, subI_eq]; cases decide (k = k') <;> rfl
  case lss =>
    show ifB (eqK k k') (some (Value.bool (ltI x y))) none = (match decide (k = k') with | true => some (Value.bool (decide (x < y))) | false => none)
    rw [eqK_eq, ltI_eq]; cases decide (k = k') <;> rfl
  case leq =>
    show ifB (eqK k k') (some (Value.bool (leI x y))) none = (match decide (k = k') with | true => some (Value.bool (decide (x ≤ y))) | false => none)
    rw [eqK_eq, leI_eq]; cases decide (k = k') <;> rfl
  case gtr =>
    show ifB (eqK k k') (some (Value.bool (ltI y x))) none = (match decide (k = k') with | true => some (Value.bool (decide (y < x))) | false => none)
    rw [eqK_eq, ltI_eq]; cases decide (k = k') <;> rfl
  case geq =>
    show ifB (eqK k k') (some (Value.bool (leI y x))) none = (match decide (k = k') with | true => some (Value.bool (decide (y ≤ x))) | false => none)
    rw [eqK_eq, leI_eq]; cases decide (k = k') <;> rfl
  case eql =>
    show ifB (eqK k k') (some (Value.bool (eqI x y))) none = (match decide (k = k') with | true => some (Value.bool (x == y)) | false => none)
    rw [eqK_eq, eqI_eq]; cases decide (k = k') <;> rfl
  case neq =>
    show ifB (eqK k k') (some (Value.bool (ifB (eqI x y) false true))) none = (match decide (k = k') with | true => some (Value.bool (!(x == y))) | false => none)
    rw [eqK_eq, eqI_eq]; cases decide (k = k') <;> cases (x == y) <;> rfl
def bsc_int (k : IntKind) (x : Int) (op : BinOp) (b : Value) : Option Value := bindO (vInt b) (fun p => bi op k x p.1 p.2)
def bsc (op : BinOp) (a b : Value) : Option Value :=
  @Value.rec (fun _ => BinOp → Value → Option Value) (fun _ => Unit) (fun _ => Unit) (fun a op b => aBinSc op (.bool a) b) (bsc_int) (fun k a op b => aBinSc op (.float k a) b) (fun _ _ _ => fun _ _ => none) (fun a op b => aBinSc op (.string a) b) (fun _ => fun _ _ => none) (fun _ _ _ => fun _ _ => none) (fun _ => fun _ _ => none) (fun _ => fun _ _ => none) (fun _ _ _ _ _ => fun _ _ => none) (fun _ _ => none) (fun _ _ _ => fun _ _ => none) (fun _ _ => none) (fun _ _ => fun _ _ => none) (fun _ _ => fun _ _ => none) (fun _ _ => ()) () (fun _ _ _ _ => ()) a op b
theorem bsc_eq (op : BinOp) (a b : Value) : bsc op a b = aBinSc op a b := by
  cases a
  case int k x =>
    show bindO (vInt b) (fun p => bi op k x p.1 p.2) = _
    cases b
    case int k' y => exact bi_eq op k x k' y
    all_goals cases op <;> rfl
  case bool | float | string => rfl
  all_goals cases op <;> rfl
def aPure_bin0 (E : Env) (op : BinOp) (a b : AV) : Option AV :=
  match a, b with
  | .v a, .v b => (aBinSc op a b).map .v
  | .sym, .v (.int .i64 c) => (symCmp E op c).map fun r => .v (.bool r)
  | _, _ => none
def bav_v (a : Value) (E : Env) (op : BinOp) (b : AV) : Option AV := bindO (asV b) (fun y => bindO (bsc op a y) (fun v => some (.v v)))
def bav (E : Env) (op : BinOp) (a b : AV) : Option AV :=
  @AV.rec (fun _ => Env → BinOp → AV → Option AV) (fun _ => Unit) (bav_v) (fun E op b => aPure_bin0 E op .sym b) (fun _ _ => fun _ _ _ => none) (fun _ _ _ _ _ => fun _ _ _ => none) (fun _ => fun _ _ _ => none) (fun _ _ _ _ _ => fun _ _ _ => none) (fun _ => fun _ _ _ => none) (fun _ _ _ => fun _ _ _ => none) (fun _ _ => fun _ _ _ => none) (fun _ _ => fun _ _ _ => none) () (fun _ _ _ _ => ()) a E op b
theorem bav_eq (E : Env) (op : BinOp) (a b : AV) : bav E op a b = aPure_bin0 E op a b := by
  cases a
  case v x =>
    show bindO (asV b) (fun y => bindO (bsc op x y) (fun v => some (AV.v v))) = _
    cases b
    case v y =>
      show bindO (bsc op x y) (fun v => some (AV.v v)) = (aBinSc op x y).map AV.v
      rw [bsc_eq]; cases aBinSc op x y <;> rfl
    all_goals rfl
  case sym => rfl
  all_goals rfl

/-! types: closed terms, which the kernel keeps -/
def fieldOff (E : Env) (s : TypeId) (f : Nat) : Option Nat :=
  match E.und s with
  | some (.struct fs) => match fs[f]? with
    | some fd => match E.size fd.type with
      | some (_ + 1) => some fd.offset
      | _ => none
    | none => none
  | _ => none
def arrAt (E : Env) (t : TypeId) : Option (Nat × Nat) :=
  match E.und t with
  | some (.array len elem) => (E.size elem).map fun sz => (len, sz)
  | _ => none
def sliAt (E : Env) (t : TypeId) : Option Nat :=
  match E.und t with
  | some (.slice elem) => E.size elem
  | _ => none
/-- how a type is loaded: none; whole, with its size; one cell -/
def loadAs (E : Env) (t : TypeId) : Option (Option Nat) :=
  match E.agg t, E.size t with
  | some true, some n => some (some n)
  | some false, some _ => some none
  | _, _ => none

/-! memory -/
def Hp.getQ (h : Hp) (b : Nat) : Option AObj := h.tr.getQ b
theorem Hp.getQ_eq (h : Hp) (b : Nat) : h.getQ b = h.get b := Tr.getQ_eq _ _
def Hp.setQ (h : Hp) (b : Nat) (o : AObj) : Hp := @Hp.rec (fun _ => Hp) (fun tr nx => ⟨tr.setQ b o, nx⟩) h
theorem Hp.setQ_eq (h : Hp) (b : Nat) (o : AObj) : h.setQ b o = h.set b o := by cases h; show Hp.mk _ _ = Hp.mk _ _; rw [Tr.setQ_eq]
def Hp.pushQ (h : Hp) (o : AObj) : Hp := @Hp.rec (fun _ => Hp) (fun tr nx => ⟨tr.setQ nx o, nx + 1⟩) h
theorem Hp.pushQ_eq (h : Hp) (o : AObj) : h.pushQ o = h.push o := by cases h; show Hp.mk _ _ = Hp.mk _ _; rw [Tr.setQ_eq]
def asRow (o : AObj) : Option (List AV × TypeId) := @AObj.rec (fun _ => Option (List AV × TypeId)) (fun c e => some (c, e)) (fun _ _ => none) (fun _ _ => none) (fun _ _ _ _ => none) (fun _ => none) (fun _ => none) (none)  o
def rowQ (h : Hp) (b : Nat) : Option (List AV × TypeId) := bindO (h.getQ b) asRow
theorem rowQ_eq (h : Hp) (b : Nat) : rowQ h b = (match h.get b with | some (.row c e) => some (c, e) | _ => none) := by
  unfold rowQ; rw [Hp.getQ_eq]
  cases h.get b with
  | none => rfl
  | some o => cases o <;> rfl
def cutQ (off n : Nat) (cs : List AV) : Option AV := ifB (Nat.ble (off + n) (lenQ cs)) (some (.agg (takeQ n (dropQ off cs)))) none
def aLoadQ (E : Env) (h : Hp) (t : TypeId) (b off : Nat) : Option AV :=
  bindO (loadAs E t) fun w => bindO (rowQ h b) fun p => @Option.rec Nat (fun _ => Option AV) (nthQ p.1 off) (fun n => cutQ off n p.1) w
theorem aLoadQ_eq (E : Env) (h : Hp) (t : TypeId) (b off : Nat) : aLoadQ E h t b off = aLoad E h t b off := by
  unfold aLoadQ aLoad loadAs
  rw [rowQ_eq]
  cases E.agg t with
  | none => rfl
  | some g => cases E.size t with
    | none => cases g <;> rfl
    | some n => cases g with
      | false =>
        cases h.get b with
        | none => rfl
        | some o => cases o with
          | row cs e => exact nthQ_eq cs off
          | _ => rfl
      | true =>
        unfold rowAt
        cases h.get b with
        | none => rfl
        | some o => cases o with
          | row cs e =>
            show ifB (Nat.ble (off + n) (lenQ cs)) (some (AV.agg (takeQ n (dropQ off cs)))) none = (match Nat.ble (off + n) cs.length with | true => some ((cs.drop off).take n) | false => none).map AV.agg
            rw [lenQ_eq, takeQ_eq, dropQ_eq]
            cases Nat.ble (off + n) cs.length <;> rfl
          | _ => rfl

/-- one cell laid over -/
def updQ (x : AV) (cs : List AV) : Nat → Option (List AV) :=
  @List.rec AV (fun _ => Nat → Option (List AV)) (fun _ => none) (fun a as ih k => @Nat.rec (fun _ => Option (List AV)) (some (x :: as)) (fun k _ => bindO (ih k) (fun r => some (a :: r))) k) cs
theorem updQ_eq (x : AV) (cs : List AV) : ∀ k, updQ x cs k = match Nat.ble (k + 1) cs.length with | true => some (cs.take k ++ [x] ++ cs.drop (k + 1)) | false => none := by
  induction cs with
  | nil => intro k; rfl
  | cons a as ih =>
    intro k
    cases k with
    | zero => rfl
    | succ k =>
      show bindO (updQ x as k) (fun r => some (a :: r)) = _
      rw [ih]
      show _ = (match Nat.ble (k + 1) as.length with | true => some (a :: (as.take k ++ [x] ++ as.drop (k + 1))) | false => none)
      cases Nat.ble (k + 1) as.length <;> rfl
def splQ (off n : Nat) (xs cs : List AV) : Option (List AV) :=
  ifB (Nat.beq (lenQ xs) n) (ifB (Nat.ble (off + n) (lenQ cs)) (ifB (allQ oneQ xs) (some (appQ (takeQ off cs) (appQ xs (dropQ (off + n) cs)))) none) none) none
def stoQ (x : AV) (off n : Nat) (cs : List AV) : Option (List AV) :=
  ifB (oneQ x) (ifB (Nat.beq n 1) (updQ x cs off) none) (splQ off n (cellsQ x) cs)
theorem one_cells {x : AV} (h : x.one = true) : x.cells = [x] := by cases x <;> first | rfl | cases h
theorem stoQ_eq (x : AV) (off n : Nat) (cs : List AV) : stoQ x off n cs = match Nat.beq x.cells.length n && Nat.ble (off + n) cs.length && x.cells.all AV.one with
    | true => some (cs.take off ++ x.cells ++ cs.drop (off + n))
    | false => none := by
  unfold stoQ
  rw [oneQ_eq]
  cases ho : x.one with
  | true =>
    rw [one_cells ho]
    show ifB (Nat.beq n 1) (updQ x cs off) none = (match Nat.beq 1 n && Nat.ble (off + n) cs.length && (x.one && true) with
      | true => some (cs.take off ++ [x] ++ cs.drop (off + n))
      | false => none)
    rw [ho]
    cases hn : Nat.beq n 1 with
    | true =>
      have e := Nat.eq_of_beq_eq_true hn
      subst e
      show updQ x cs off = _
      rw [updQ_eq]
      show _ = (match (true && Nat.ble (off + 1) cs.length && true) with | true => some (cs.take off ++ [x] ++ cs.drop (off + 1)) | false => none)
      cases Nat.ble (off + 1) cs.length <;> rfl
    | false =>
      have : Nat.beq 1 n = false := by
        cases h1 : Nat.beq 1 n with
        | false => rfl
        | true => have e := Nat.eq_of_beq_eq_true h1; subst e; cases hn
      rw [this]; rfl
  | false =>
    show splQ off n (cellsQ x) cs = _
    unfold splQ
    rw [cellsQ_eq, lenQ_eq, lenQ_eq, allQ_eq, appQ_eq, appQ_eq, takeQ_eq, dropQ_eq, oneQ_fun, List.append_assoc]
    cases Nat.beq x.cells.length n <;> cases Nat.ble (off + n) cs.length <;> cases x.cells.all AV.one <;> rfl
def aStoreQ (E : Env) (t : TypeId) (b off : Nat) (x : AV) (h : Hp) : Option Hp :=
  bindO (E.size t) fun n => bindO (rowQ h b) fun p => bindO (stoQ x off n p.1) fun l => some (h.setQ b (.row l p.2))
theorem aStoreQ_eq (E : Env) (t : TypeId) (b off : Nat) (x : AV) (h : Hp) : aStoreQ E t b off x h = aStore E t b off x h := by
  unfold aStoreQ aStore
  rw [rowQ_eq]
  cases E.size t with
  | none => rfl
  | some n => cases h.get b with
    | none => rfl
    | some o => cases o with
      | row cs e =>
        show bindO (stoQ x off n cs) (fun l => some (h.setQ b (.row l e))) = (match Nat.beq x.cells.length n && Nat.ble (off + n) cs.length && x.cells.all AV.one with
          | true => some (h.set b (.row (cs.take off ++ x.cells ++ cs.drop (off + n)) e))
          | false => none)
        rw [stoQ_eq]
        cases Nat.beq x.cells.length n && Nat.ble (off + n) cs.length && x.cells.all AV.one with
        | true => show some (h.setQ b _) = _; rw [Hp.setQ_eq]
        | false => rfl
      | _ => rfl

/-! the arms -/
def aPure_pick (E : Env) (tm : Tr AV) (c : Operand) (a : Operand) (b : Operand) : Option AV :=
  match opv E tm c with
    | some (.v (.bool true)) => opv E tm a
    | some (.v (.bool false)) => opv E tm b
    | _ => none
def aPure_build (E : Env) (tm : Tr AV) (t : TypeId) (parts : Array (Nat × Operand)) : Option AV :=
  match partsL E tm parts.toList with
    | some l => aBuild E t l
    | none => none
def aPure_convert (E : Env) (tm : Tr AV) (src : TypeId) (dst : TypeId) (x : Operand) : Option AV :=
  match opv E tm x with
    | some a => aConvert E src dst a
    | none => none
def aPure_makeFunc (E : Env) (tm : Tr AV) (fn : Fn) (first : Array Operand) (captured : Array Operand) : Option AV :=
  match fn with
    | .func f => match opvL E tm first.toList, opvL E tm captured.toList with
      | some a, some b => some (.func f a b)
      | _, _ => none
    | _ => none
def aPure_slice (E : Env) (tm : Tr AV) (t : TypeId) (x : Operand) (lo : Option Operand) (hi : Option Operand) (mx : Option Operand) : Option AV :=
  match opv E tm x, idxO E tm lo, idxO E tm hi, idxO E tm mx with
    | some a, some l, some h, some m => aSlice E t a l h m
    | _, _, _, _ => none
def aPure_field (E : Env) (tm : Tr AV) (t : TypeId) (x : Operand) (f : Nat) : Option AV :=
  match opv E tm x, E.und t with
    | some (.agg cs), some (.struct fs) => match fs[f]? with
      | some fd => aPart E fd.type cs fd.offset
      | none => none
    | _, _ => none
def aPure_index (E : Env) (tm : Tr AV) (t : TypeId) (x : Operand) (ix : Operand) : Option AV :=
  match opv E tm x, opv E tm ix, E.und t with
    | some (.agg cs), some (.v (.int _ (.ofNat i))), some (.array len elem) => match E.size elem, Nat.blt i len with
      | some sz, true => aPart E elem cs (i * sz)
      | _, _ => none
    | some (.v (.string s)), some (.v (.int _ (.ofNat i))), some .string => match s.data.toList[i]? with
      | some b => some (.v (.int .u8 b.toNat))
      | none => none
    | _, _, _ => none
def aPure_typeAssert (E : Env) (tm : Tr AV) (x : Operand) (asserted : TypeId) (ok : Bool) : Option AV :=
  match opv E tm x with
    | some a => aTypeAssert E a asserted ok
    | none => none
def aRead_binOp (E : Env) (tm : Tr AV) (h : Hp) (op : BinOp) (t : TypeId) (x : Operand) (y : Operand) : Option AV :=
  match opv E tm x, opv E tm y with
    | some (.v .nilIface), some (.v .nilIface) => match isLit x || isLit y, op, E.und t with
      | true, .eql, some (.interface _) => some (.v (.bool true))
      | true, .neq, some (.interface _) => some (.v (.bool false))
      | _, _, _ => none
    | some a, some b => match op, notNum a with
      | .eql, true => (aEq E h 60 t a b).map fun r => .v (.bool r)
      | .neq, true => (aEq E h 60 t a b).map fun r => .v (.bool (!r))
      | _, _ => none
    | _, _ => none
def aRead_lookup (E : Env) (tm : Tr AV) (h : Hp) (t : TypeId) (m : Operand) (k : Operand) (ok : Bool) : Option AV :=
  match opv E tm m, opv E tm k with
    | some a, some b => aLookup E h t a b ok
    | _, _ => none
def aRead_entry (E : Env) (tm : Tr AV) (h : Hp) (it : Operand) : Option AV :=
  match opv E tm it with
    | some (.ptr r 0) => match h.get r with
      | some (.miter (some m) _ seen stepped) => match lastN seen, h.get m with
        | some stamp, some (.map es clock) => match Nat.beq clock stepped, findBorn stamp es 0 with
          | true, some (_, e) => some (.tuple [e.key, e.val])
          | _, _ => none
        | _, _ => none
      | _ => none
    | _ => none
def aRead_convert (E : Env) (tm : Tr AV) (h : Hp) (src : TypeId) (dst : TypeId) (x : Operand) : Option AV :=
  match E.und src, E.und dst, opv E tm x with
    | some (.slice e), some .string, some (.slice b off len _ _) => match E.und e, rowAt h b off len with
      | some (.int .u8), some cs => (bytesOf cs).map fun l => .v (.string ⟨l.toArray⟩)
      | _, _ => none
    | some (.slice e), some .string, some (.v (.slice none _ _)) => match E.und e with
      | some (.int .u8) => some (.v (.string .empty))
      | _ => none
    | some (.pointer t), some .unsafePointer, some (.ptr b off) => match E.size t, h.get b with
      | some (_ + 1), some (.row cs _) => match Nat.blt off cs.length with
        | true => some (.ptr b off)
        | false => none
      | _, _ => none
    | some .unsafePointer, some (.pointer u), some (.ptr b off) => match E.size u, h.get b with
      | some (n + 1), some (.row cs e) => match Nat.beq u e && Nat.beq (off % (n + 1)) 0 && Nat.ble (off + (n + 1)) cs.length with
        | true => some (.ptr b off)
        | false => none
      | _, _ => none
    | _, _, _ => none
def aRead_call (E : Env) (tm : Tr AV) (h : Hp) (c : Call) : Option AV :=
  match c.callee with
    | .builtin .len => match opvL E tm c.args.toList, c.argTypes[0]? with
      | some [.map b], some t => match E.und t, h.get b with
        | some (.map _ _), some (.map es _) => some (.v (.int .i64 es.length))
        | _, _ => none
      | _, _ => none
    | _ => none
def aAlloc_box (E : Env) (tm : Tr AV) (h : Hp) (t : TypeId) (x : Operand) : Option (AObj × (Nat → AV)) :=
  match opv E tm x, E.size t with
    | some a, some _ => some (.row a.cells t, fun b => .ptr b 0)
    | _, _ => none
def aAlloc_buildSlice (E : Env) (tm : Tr AV) (h : Hp) (t : TypeId) (len : Nat) (parts : Array (Nat × Operand)) : Option (AObj × (Nat → AV)) :=
  match E.und t, partsL E tm parts.toList with
    | some (.slice e), some l => match E.size e, E.zero e with
      | some sz, some z => match Nat.ble (len * sz) (2 ^ 24) && Nat.beq z.cells.length sz, fillEach sz (rep z.cells len) l with
        | true, some cs => some (.row cs e, fun b => .slice b 0 len len false)
        | _, _ => none
      | _, _ => none
    | _, _ => none
def aAlloc_makeSlice (E : Env) (tm : Tr AV) (h : Hp) (t : TypeId) (n : Operand) (c : Operand) : Option (AObj × (Nat → AV)) :=
  match E.und t, opv E tm n, opv E tm c with
    | some (.slice e), some (.v (.int _ (.ofNat n))), some (.v (.int _ (.ofNat c))) => match E.zero e, E.tt.get e with
      | some z, some i => match Nat.ble n c && Nat.ble (i.bytes * c) (2 ^ 40) && Nat.ble c (2 ^ 40) && Nat.beq z.cells.length i.size with
        | true => some (.row (rep z.cells c) e, fun b => .slice b 0 n c false)
        | false => none
      | _, _ => none
    | _, _, _ => none
def aAlloc_makeMap (E : Env) (tm : Tr AV) (h : Hp) (r : Option Operand) : Option (AObj × (Nat → AV)) :=
  match r with
    | none => some (.map [] 0, fun b => .map b)
    | some _ => none
def aAlloc_range (E : Env) (tm : Tr AV) (h : Hp) (t : TypeId) (x : Operand) : Option (AObj × (Nat → AV)) :=
  match E.und t, opv E tm x with
    | some .string, some (.v (.string s)) => some (.siter s 0, fun b => .ptr b 0)
    | some (.map _ _), some (.v (.map none)) => some (.miter none 0 [] 0, fun b => .ptr b 0)
    | some (.map _ _), some (.map m) => match h.get m with
      | some (.map _ clock) => some (.miter (some m) clock [] clock, fun b => .ptr b 0)
      | _ => none
    | _, _ => none
def aEff_mapUpdate (E : Env) (x : Ctx) (tm : Tr AV) (h : Hp) (t : TypeId) (m : Operand) (k : Operand) (v : Operand) : Option (ANext × Hp) :=
  match E.und t, opv E tm m, opv E tm k, opv E tm v with
    | some (.map key _), some (.map b), some k, some v => match keyKind E key k, h.get b with
      | kind + 1, some (.map es clock) => match findEnt E h key (kind + 1) k es 0 with
        | some (some (i, e)) => match sameAV e.key k && flatKey k with
          | true => some (.skip, h.set b (.map (setNth { e with key := k, val := v } i es) clock))
          | false => none
        | some none => some (.skip, h.set b (.map (es ++ [⟨k, v, clock⟩]) (clock + 1)))
        | none => none
      | _, _ => none
    | _, _, _, _ => none
def aEff_insert (E : Env) (x : Ctx) (tm : Tr AV) (h : Hp) (t : TypeId) (m : Operand) (k : Operand) (v : Operand) : Option (ANext × Hp) :=
  match E.und t, opv E tm m, opv E tm k, opv E tm v with
    | some (.map key _), some (.map b), some k, some v => match keyKind E key k, h.get b with
      | kind + 1, some (.map es clock) => match findEnt E h key (kind + 1) k es 0 with
        | some none => some (.skip, h.set b (.map (es ++ [⟨k, v, clock⟩]) (clock + 1)))
        | _ => none
      | _, _ => none
    | _, _, _, _ => none
def aEff_convert (E : Env) (x : Ctx) (tm : Tr AV) (h : Hp) (src : TypeId) (dst : TypeId) (x : Operand) : Option (ANext × Hp) :=
  match E.und src, E.und dst, opv E tm x with
    | some .string, some (.slice e), some (.v (.string s)) => match E.und e with
      | some (.int .u8) => match E.size e with
        | some 1 => some (.value (.slice h.nx 0 s.size s.size true), h.push (.row (s.data.toList.map fun b => .v (.int .u8 b.toNat)) e))
        | _ => none
      | _ => none
    | _, _, _ => none
def aEff_mapEntry (E : Env) (x : Ctx) (tm : Tr AV) (h : Hp) (t : TypeId) (m : Operand) (k : Operand) : Option (ANext × Hp) :=
  match E.und t, opv E tm m, opv E tm k with
    | some (.map key elem), some (.map b), some k => match keyKind E key k, h.get b, E.zero elem with
      | kind + 1, some (.map es clock), some z => match findEnt E h key (kind + 1) k es 0 with
        | some (some (i, e)) => match sameAV e.key k && flatKey k with
          | true => some (.value (.tuple [e.val, .v (.int .i64 e.born)]), h.set b (.map (setNth { e with key := k } i es) clock))
          | false => none
        | some none => some (.value (.tuple [z, .v (.int .i64 clock)]), h.set b (.map (es ++ [⟨k, z, clock⟩]) (clock + 1)))
        | none => none
      | _, _, _ => none
    | _, _, _ => none
def aEff_entryStore (E : Env) (x : Ctx) (tm : Tr AV) (h : Hp) (m : Operand) (st : Operand) (v : Operand) : Option (ANext × Hp) :=
  match opv E tm m, opv E tm st, opv E tm v with
    | some (.map b), some (.v (.int _ (.ofNat n))), some v => match h.get b with
      | some (.map es clock) => match findBorn n es 0 with
        | some (i, e) => some (.skip, h.set b (.map (setNth { e with val := v } i es) clock))
        | none => none
      | _ => none
    | _, _, _ => none
def aEff_next (E : Env) (x : Ctx) (tm : Tr AV) (h : Hp) (it : Operand) (isString : Bool) : Option (ANext × Hp) :=
  match opv E tm it, isString with
    | some (.ptr b 0), true => match h.get b with
      | some (.siter s pos) => match Nat.blt pos s.size with
        | true => match Utf8.decode s pos with
          | (c, width) => some (.value (.tuple [.v (.bool true), .v (.int .i64 pos), .v (.int .i32 c)]), h.set b (.siter s (pos + width)))
        | false => some (.value (.tuple [.v (.bool false)]), h)
      | _ => none
    | _, _ => none
def aEff_panic (E : Env) (x : Ctx) (tm : Tr AV) (h : Hp) (a : Operand) : Option (ANext × Hp) :=
  match opv E tm a with
    | some (.iface t v) => some (.panic (.iface t v), h)
    | _ => none
def aEff_defer (E : Env) (x : Ctx) (tm : Tr AV) (h : Hp) (c : Call) : Option (ANext × Hp) :=
  match x.rnd, c.callee with
    | none, .value f => match opv E tm f, opvL E tm c.args.toList with
      | some f, some args => (tgtOf f args).map fun d => (.defer d, h)
      | _, _ => none
    | _, _ => none
def aPure_binOp (E : Env) (tm : Tr AV) (op : BinOp) (x y : Operand) : Option AV := bindO (opvQ E tm x) fun a => bindO (opvQ E tm y) fun b => bav E op a b
theorem aPure_binOp_eq (E : Env) (tm : Tr AV) (op : BinOp) (x y : Operand) : aPure_binOp E tm op x y = match opv E tm x, opv E tm y with
    | some (.v a), some (.v b) => (aBinSc op a b).map .v
    | some .sym, some (.v (.int .i64 c)) => (symCmp E op c).map fun r => .v (.bool r)
    | _, _ => none := by
  unfold aPure_binOp
  rw [opvQ_eq, opvQ_eq]
  cases opv E tm x with
  | none => cases opv E tm y <;> rfl
  | some a => cases opv E tm y with
    | none => cases a <;> rfl
    | some b =>
      show bav E op a b = _
      rw [bav_eq]
      cases a
      case v x => cases b <;> rfl
      case sym => cases b with
        | v y => cases y with
          | int k c => cases k <;> rfl
          | _ => rfl
        | _ => rfl
      all_goals rfl
def aPure_unOp (E : Env) (tm : Tr AV) (op : UnOp) (x : Operand) : Option AV := bindO (opvQ E tm x) fun a => bindO (asV a) fun v => bindO (Sem.pureRun (Op.unary op v)) fun r => some (.v r)
theorem aPure_unOp_eq (E : Env) (tm : Tr AV) (op : UnOp) (x : Operand) : aPure_unOp E tm op x = match opv E tm x with
    | some (.v a) => (Sem.pureRun (Op.unary op a)).map .v
    | _ => none := by
  unfold aPure_unOp
  rw [opvQ_eq]
  cases opv E tm x with
  | none => rfl
  | some a => cases a with
    | v y => show bindO (Sem.pureRun (Op.unary op y)) (fun r => some (AV.v r)) = (Sem.pureRun (Op.unary op y)).map AV.v; cases Sem.pureRun (Op.unary op y) <;> rfl
    | _ => rfl
def aPure_extract (E : Env) (tm : Tr AV) (t : Operand) (ix : Nat) : Option AV := bindO (opvQ E tm t) fun a => bindO (asTup a) fun l => nthQ l ix
theorem aPure_extract_eq (E : Env) (tm : Tr AV) (t : Operand) (ix : Nat) : aPure_extract E tm t ix = match opv E tm t with
    | some (.tuple vs) => vs[ix]?
    | _ => none := by
  unfold aPure_extract
  rw [opvQ_eq]
  cases opv E tm t with
  | none => rfl
  | some a => cases a with
    | tuple vs => exact nthQ_eq vs ix
    | _ => rfl
def nilOk (a : AV) : Option AV := @AV.rec (fun _ => Option AV) (fun _ => Unit) (fun _ => none) (none) (fun b o => some (.ptr b o)) (fun _ _ _ _ _ => none) (fun b => some (.map b)) (fun a b c _ _ => some (.func a b c)) (fun l => some (.yield l)) (fun a b _ => some (.iface a b)) (fun _ _ => none) (fun _ _ => none) () (fun _ _ _ _ => ()) a
def aPure_nilCheck (E : Env) (tm : Tr AV) (x : Operand) : Option AV := bindO (opvQ E tm x) nilOk
theorem aPure_nilCheck_eq (E : Env) (tm : Tr AV) (x : Operand) : aPure_nilCheck E tm x = match opv E tm x with
    | some (.ptr b off) => some (.ptr b off)
    | some (.func f a b) => some (.func f a b)
    | some (.yield l) => some (.yield l)
    | some (.iface t v) => some (.iface t v)
    | some (.map b) => some (.map b)
    | _ => none := by
  unfold aPure_nilCheck
  rw [opvQ_eq]
  cases opv E tm x with
  | none => rfl
  | some a => cases a <;> rfl
def isIfc (E : Env) (t : TypeId) : Option Bool :=
  match E.und t with
  | some (.interface _) => some true
  | some _ => some false
  | none => none
def aPure_makeInterface (E : Env) (tm : Tr AV) (t : TypeId) (x : Operand) : Option AV := bindO (isIfc E t) fun b => ifB b none (bindO (opvQ E tm x) fun a => some (.iface t a))
theorem aPure_makeInterface_eq (E : Env) (tm : Tr AV) (t : TypeId) (x : Operand) : aPure_makeInterface E tm t x = match opv E tm x, E.und t with
    | _, some (.interface _) => none
    | some a, some _ => some (.iface t a)
    | _, _ => none := by
  unfold aPure_makeInterface isIfc
  rw [opvQ_eq]
  cases E.und t with
  | none => cases opv E tm x <;> rfl
  | some d => cases d <;> cases opv E tm x <;> rfl
def aPure_fieldAddr (E : Env) (tm : Tr AV) (s : TypeId) (x : Operand) (f : Nat) : Option AV := bindO (opvQ E tm x) fun a => bindO (asPtr a) fun p => bindO (fieldOff E s f) fun o => some (.ptr p.1 (p.2 + o))
theorem aPure_fieldAddr_eq (E : Env) (tm : Tr AV) (s : TypeId) (x : Operand) (f : Nat) : aPure_fieldAddr E tm s x f = match opv E tm x, E.und s with
    | some (.ptr b off), some (.struct fs) => match fs[f]? with
      | some fd => match E.size fd.type with
        | some (_ + 1) => some (.ptr b (off + fd.offset))
        | _ => none
      | none => none
    | _, _ => none := by
  unfold aPure_fieldAddr fieldOff
  rw [opvQ_eq]
  cases opv E tm x with
  | none => rfl
  | some a => cases a with
    | ptr b off => cases E.und s with
      | none => rfl
      | some d => cases d with
        | struct fs => 
          show bindO (match fs[f]? with
            | some fd => match E.size fd.type with
              | some (_ + 1) => some fd.offset
              | _ => none
            | none => none) (fun o => some (AV.ptr b (off + o))) = (match fs[f]? with
            | some fd => match E.size fd.type with
              | some (_ + 1) => some (AV.ptr b (off + fd.offset))
              | _ => none
            | none => none)
          cases fs[f]? with
          | none => rfl
          | some fd =>
            show bindO (match E.size fd.type with
              | some (_ + 1) => some fd.offset
              | _ => none) (fun o => some (AV.ptr b (off + o))) = (match E.size fd.type with
              | some (_ + 1) => some (AV.ptr b (off + fd.offset))
              | _ => none)
            cases E.size fd.type with
            | none => rfl
            | some n => cases n <;> rfl
        | _ => rfl
    | _ => rfl
def ia_ptr (b off : Nat) (E : Env) (t : TypeId) (i : Nat) : Option AV := bindO (arrAt E t) fun p => ifB (Nat.blt i p.1) (some (.ptr b (off + i * p.2))) none
def ia_sli (b off len _cap : Nat) (_o : Bool) (E : Env) (t : TypeId) (i : Nat) : Option AV := bindO (sliAt E t) fun z => ifB (Nat.blt i len) (some (.ptr b (off + i * z))) none
def iaQ (a : AV) (E : Env) (t : TypeId) (i : Nat) : Option AV := @AV.rec (fun _ => Env → TypeId → Nat → Option AV) (fun _ => Unit) (fun _ => fun _ _ _ => none) (fun _ _ _ => none) (ia_ptr) (ia_sli) (fun _ => fun _ _ _ => none) (fun _ _ _ _ _ => fun _ _ _ => none) (fun _ => fun _ _ _ => none) (fun _ _ _ => fun _ _ _ => none) (fun _ _ => fun _ _ _ => none) (fun _ _ => fun _ _ _ => none) () (fun _ _ _ _ => ()) a E t i
def aPure_indexAddr (E : Env) (tm : Tr AV) (t : TypeId) (x ix : Operand) : Option AV := bindO (opvQ E tm x) fun a => bindO (opvQ E tm ix) fun b => bindO (asNat b) fun i => iaQ a E t i
theorem aPure_indexAddr_eq (E : Env) (tm : Tr AV) (t : TypeId) (x ix : Operand) : aPure_indexAddr E tm t x ix = match opv E tm x, opv E tm ix, E.und t with
    | some (.ptr b off), some (.v (.int _ (.ofNat i))), some (.array len elem) => match E.size elem, Nat.blt i len with
      | some sz, true => some (.ptr b (off + i * sz))
      | _, _ => none
    | some (.slice b off len _ _), some (.v (.int _ (.ofNat i))), some (.slice elem) => match E.size elem, Nat.blt i len with
      | some sz, true => some (.ptr b (off + i * sz))
      | _, _ => none
    | _, _, _ => none := by
  unfold aPure_indexAddr
  rw [opvQ_eq, opvQ_eq]
  cases opv E tm x with
  | none => rfl
  | some a => cases opv E tm ix with
    | none => cases a <;> rfl
    | some b =>
      cases b with
      | v y => cases y with
        | int k n => cases n with
          | negSucc n => cases a <;> rfl
          | ofNat i =>
            show iaQ a E t i = _
            cases a with
            | ptr b off =>
              show bindO (arrAt E t) (fun p => ifB (Nat.blt i p.1) (some (AV.ptr b (off + i * p.2))) none) = _
              unfold arrAt
              cases E.und t with
              | none => rfl
              | some d => cases d with
                | array len elem =>
                  show bindO ((E.size elem).map fun sz => (len, sz)) (fun p => ifB (Nat.blt i p.1) (some (AV.ptr b (off + i * p.2))) none) = (match E.size elem, Nat.blt i len with
                    | some sz, true => some (AV.ptr b (off + i * sz))
                    | _, _ => none)
                  cases E.size elem with
                  | none => rfl
                  | some sz =>
                    show ifB (Nat.blt i len) (some (AV.ptr b (off + i * sz))) none = _
                    cases Nat.blt i len <;> rfl
                | _ => rfl
            | slice b off len cap o =>
              show bindO (sliAt E t) (fun z => ifB (Nat.blt i len) (some (AV.ptr b (off + i * z))) none) = _
              unfold sliAt
              cases E.und t with
              | none => rfl
              | some d => cases d with
                | slice elem =>
                  show bindO (E.size elem) (fun z => ifB (Nat.blt i len) (some (AV.ptr b (off + i * z))) none) = (match E.size elem, Nat.blt i len with
                    | some sz, true => some (AV.ptr b (off + i * sz))
                    | _, _ => none)
                  cases E.size elem with
                  | none => rfl
                  | some sz =>
                    show ifB (Nat.blt i len) (some (AV.ptr b (off + i * sz))) none = _
                    cases Nat.blt i len <;> rfl
                | _ => rfl
            | _ => rfl
        | _ => cases a <;> rfl
      | _ => cases a <;> rfl

def aRead_load (E : Env) (tm : Tr AV) (h : Hp) (t : TypeId) (x : Operand) : Option AV := bindO (opvQ E tm x) fun a => bindO (asPtr a) fun p => aLoadQ E h t p.1 p.2
theorem aRead_load_eq (E : Env) (tm : Tr AV) (h : Hp) (t : TypeId) (x : Operand) : aRead_load E tm h t x = match opv E tm x with
    | some (.ptr b off) => aLoad E h t b off
    | _ => none := by
  unfold aRead_load
  rw [opvQ_eq]
  cases opv E tm x with
  | none => rfl
  | some a => cases a with
    | ptr b off => exact aLoadQ_eq E h t b off
    | _ => rfl
def aAlloc_alloc (E : Env) (tm : Tr AV) (h : Hp) (t : TypeId) : Option (AObj × (Nat → AV)) := bindO (E.zero t) fun z => some (.row (cellsQ z) t, fun b => .ptr b 0)
theorem aAlloc_alloc_eq (E : Env) (tm : Tr AV) (h : Hp) (t : TypeId) : aAlloc_alloc E tm h t = match E.zero t with
    | some z => some (.row z.cells t, fun b => .ptr b 0)
    | none => none := by
  unfold aAlloc_alloc
  cases E.zero t with
  | none => rfl
  | some z => show some (AObj.row (cellsQ z) t, _) = _; rw [cellsQ_eq]
def aEff_store (E : Env) (tm : Tr AV) (h : Hp) (t : TypeId) (a v : Operand) : Option (ANext × Hp) :=
  bindO (opvQ E tm a) fun a => bindO (asPtr a) fun p => bindO (opvQ E tm v) fun v => bindO (aStoreQ E t p.1 p.2 v h) fun h => some (.skip, h)
theorem aEff_store_eq (E : Env) (tm : Tr AV) (h : Hp) (t : TypeId) (a v : Operand) : aEff_store E tm h t a v = match opv E tm a, opv E tm v with
    | some (.ptr b off), some v => (aStore E t b off v h).map fun h => (.skip, h)
    | _, _ => none := by
  unfold aEff_store
  rw [opvQ_eq, opvQ_eq]
  cases opv E tm a with
  | none => rfl
  | some a => cases a with
    | ptr b off => cases opv E tm v with
      | none => rfl
      | some v =>
        show bindO (aStoreQ E t b off v h) (fun h => some (ANext.skip, h)) = (aStore E t b off v h).map fun h => (ANext.skip, h)
        rw [aStoreQ_eq]; cases aStore E t b off v h <;> rfl
    | _ => cases opv E tm v <;> rfl

/-! calls -/
def lenAt (E : Env) (ts : Array TypeId) : Option TypeDesc := bindO ts[0]? fun t => E.und t
def isSli (d : TypeDesc) : Bool := match d with | .slice _ => true | _ => false
def len_gen (x : AV) (d : TypeDesc) : Option AV := bindO (aLen d x) fun n => some (.v (.int .i64 (Int.ofNat n)))
def len_sli (b off len cap : Nat) (o : Bool) (d : TypeDesc) : Option AV := ifB (isSli d) (some (.v (.int .i64 (.ofNat len)))) (len_gen (.slice b off len cap o) d)
def lenV (x : AV) (d : TypeDesc) : Option AV := @AV.rec (fun _ => TypeDesc → Option AV) (fun _ => Unit) (fun a d => len_gen (.v a) d) (fun d => len_gen .sym d) (fun a b d => len_gen (.ptr a b) d) (len_sli) (fun a d => len_gen (.map a) d) (fun a b c _ _ d => len_gen (.func a b c) d) (fun a d => len_gen (.yield a) d) (fun a b _ d => len_gen (.iface a b) d) (fun c _ d => len_gen (.agg c) d) (fun c _ d => len_gen (.tuple c) d) () (fun _ _ _ _ => ()) x d
theorem lenV_eq (x : AV) (d : TypeDesc) : lenV x d = bindO (aLen d x) fun n => some (.v (.int .i64 (Int.ofNat n))) := by
  cases x with
  | slice b off len cap o =>
    show ifB (isSli d) (some (AV.v (.int .i64 (.ofNat len)))) (len_gen (.slice b off len cap o) d) = _
    cases d <;> rfl
  | v a => show len_gen (.v a) d = _; rfl
  | sym => show len_gen .sym d = _; rfl
  | ptr a b => show len_gen (.ptr a b) d = _; rfl
  | map a => show len_gen (.map a) d = _; rfl
  | func a b c => show len_gen (.func a b c) d = _; rfl
  | yield a => show len_gen (.yield a) d = _; rfl
  | iface a b => show len_gen (.iface a b) d = _; rfl
  | agg c => show len_gen (.agg c) d = _; rfl
  | tuple c => show len_gen (.tuple c) d = _; rfl
def oneL (l : List AV) : Option AV := @List.rec AV (fun _ => Option AV) none (fun a as _ => @List.rec AV (fun _ => Option AV) (some a) (fun _ _ _ => none) as) l
def b_len (E : Env) (ts : Array TypeId) (l : List AV) : Option AV := bindO (oneL l) fun x => bindO (lenAt E ts) fun d => lenV x d
def b_gen (b : Builtin) (E : Env) (ts : Array TypeId) (l : List AV) : Option AV := aBuiltinPure E b ts l
def bPureQ (E : Env) (b : Builtin) (ts : Array TypeId) (l : List AV) : Option AV := @Builtin.rec (fun _ => Env → Array TypeId → List AV → Option AV) (fun _ _ _ => none) (b_gen .cap) (fun _ _ _ => none) (fun _ _ _ => none) (fun _ _ _ => none) (fun _ _ _ => none) (fun _ _ _ => none) (fun _ _ _ => none) (b_len) (fun _ _ _ => none) (b_gen .max) (b_gen .min) (fun _ _ _ => none) (fun _ _ _ => none) (fun _ _ _ => none) (fun _ _ _ => none) (fun _ _ _ => none) (fun _ _ _ => none) (fun _ _ _ => none) (fun _ _ _ => none) (b_gen .unsafeSliceData) (fun _ _ _ => none) (fun _ _ _ => none) (fun _ _ _ => none) (fun _ _ _ => none) (fun _ _ _ => none)  b E ts l
theorem bPureQ_eq (E : Env) (b : Builtin) (ts : Array TypeId) (l : List AV) : bPureQ E b ts l = aBuiltinPure E b ts l := by
  cases b
  case len =>
    cases l with
    | nil => rfl
    | cons x xs => cases xs with
      | cons y ys => rfl
      | nil =>
        show bindO (bindO ts[0]? fun t => E.und t) (fun d => lenV x d) = _
        simp only [aBuiltinPure]
        cases ts[0]? with
        | none => rfl
        | some t =>
          show bindO (E.und t) (fun d => lenV x d) = _
          simp only []
          cases E.und t with
          | none => rfl
          | some d =>
            show lenV x d = _
            rw [lenV_eq]
            simp only []
            cases aLen d x <;> rfl
  case cap | min | max | unsafeSliceData => rfl
  all_goals rfl
def cp_b (b : Builtin) (E : Env) (tm : Tr AV) (c : Call) : Option AV := bindO (opvLQ E tm c.args.toList) fun l => bPureQ E b c.argTypes l
def aPure_call (E : Env) (tm : Tr AV) (c : Call) : Option AV := @Callee.rec (fun _ => Env → Tr AV → Call → Option AV) (fun _ => fun _ _ _ => none) (fun _ _ => fun _ _ _ => none) (cp_b)  c.callee E tm c
theorem aPure_call_eq (E : Env) (tm : Tr AV) (c : Call) : aPure_call E tm c = match c.callee with
    | .builtin b => match opvL E tm c.args.toList with
      | some args => aBuiltinPure E b c.argTypes args
      | none => none
    | _ => none := by
  unfold aPure_call
  cases c.callee with
  | builtin b =>
    show bindO (opvLQ E tm c.args.toList) (fun l => bPureQ E b c.argTypes l) = _
    rw [opvLQ_eq]
    cases opvL E tm c.args.toList with
    | none => rfl
    | some l => exact bPureQ_eq E b c.argTypes l
  | _ => rfl
def tgtQ (f : AV) (args : List AV) : Option ADef := @AV.rec (fun _ => List AV → Option ADef) (fun _ => Unit) (fun _ => fun _ => none) (fun _ => none) (fun _ _ => fun _ => none) (fun _ _ _ _ _ => fun _ => none) (fun _ => fun _ => none) (fun f first captured _ _ args => some { target := .fn f captured, args := appQ first args }) (fun l args => some { target := .yield l, args := args }) (fun _ _ _ => fun _ => none) (fun _ _ => fun _ => none) (fun _ _ => fun _ => none) () (fun _ _ _ _ => ()) f args
theorem tgtQ_eq (f : AV) (args : List AV) : tgtQ f args = tgtOf f args := by
  cases f with
  | func f first captured => show some _ = some _; rw [appQ_eq]
  | _ => rfl
def go_fn (f : FuncId) (captured : List AV) (E : Env) (args : List AV) : Option ANext := ifB (hasBody E f) (some (.enter f (appQ args captured))) none
def goesQ (E : Env) (d : ADef) : Option ANext := @ATgt.rec (fun _ => Env → List AV → Option ANext) (go_fn) (fun l _ args => some (.round l args)) (fun _ => fun _ _ => none)  d.target E d.args
theorem goesQ_eq (E : Env) (d : ADef) : goesQ E d = goes E d := by
  unfold goesQ goes
  cases d.target with
  | fn f captured => show ifB (hasBody E f) (some (ANext.enter f (appQ d.args captured))) none = (match hasBody E f with | true => some (ANext.enter f (d.args ++ captured)) | false => none); rw [appQ_eq]; cases hasBody E f <;> rfl
  | _ => rfl
def go_or (E : Env) (d : ADef) (h : Hp) (r : Option ANext) : Option (ANext × Hp) :=
  @Option.rec ANext (fun _ => Option (ANext × Hp)) ((extOf E d h).map fun (v, h) => (.value v, h)) (fun nx => some (nx, h)) r
def ce_val (f : Operand) (E : Env) (x : Ctx) (tm : Tr AV) (h : Hp) (c : Call) : Option (ANext × Hp) :=
  bindO (opvQ E tm f) fun f => bindO (opvLQ E tm c.args.toList) fun l => bindO (tgtQ f l) fun d => go_or E d h (goesQ E d)
def ce_gen (E : Env) (x : Ctx) (tm : Tr AV) (h : Hp) (c : Call) : Option (ANext × Hp) :=
  match c.callee with
    | .value f => match opv E tm f, opvL E tm c.args.toList with
      | some f, some args => match tgtOf f args with
        | some d => match goes E d with
          | some nx => some (nx, h)
          | none => (extOf E d h).map fun (v, h) => (.value v, h)
        | none => none
      | _, _ => none
    | .invoke r name => match opv E tm r, opvL E tm c.args.toList with
      | some r, some args => (aInvoke E r name args).map fun nx => (nx, h)
      | _, _ => none
    | .builtin .unsafeString => match opvL E tm c.args.toList with
      | some [p, n] => (aUnsafeStr E c.argTypes p n h).map fun (v, h) => (.value v, h)
      | _ => none
    | .builtin .append => match opvL E tm c.args.toList with
      | some [s, y] => (aAppend E c.argTypes s y h).map fun (v, h) => (.value v, h)
      | _ => none
    | .builtin .recover => match x.rnd with
      | none => some (.recov, h)
      | some _ => none
    | _ => none
def aEff_call (E : Env) (x : Ctx) (tm : Tr AV) (h : Hp) (c : Call) : Option (ANext × Hp) := @Callee.rec (fun _ => Env → Ctx → Tr AV → Hp → Call → Option (ANext × Hp)) (ce_val) (fun _ _ => ce_gen) (fun _ => ce_gen)  c.callee E x tm h c
theorem aEff_call_eq (E : Env) (x : Ctx) (tm : Tr AV) (h : Hp) (c : Call) : aEff_call E x tm h c = ce_gen E x tm h c := by
  unfold aEff_call
  obtain ⟨callee, args, ts⟩ := c
  cases callee with
  | value f =>
    show bindO (opvQ E tm f) (fun f => bindO (opvLQ E tm args.toList) fun l => bindO (tgtQ f l) fun d => go_or E d h (goesQ E d)) = (match opv E tm f, opvL E tm args.toList with
      | some f, some args => match tgtOf f args with
        | some d => match goes E d with
          | some nx => some (nx, h)
          | none => (extOf E d h).map fun (v, h) => (ANext.value v, h)
        | none => none
      | _, _ => none)
    rw [opvQ_eq, opvLQ_eq]
    cases opv E tm f with
    | none => rfl
    | some f => cases opvL E tm args.toList with
      | none => rfl
      | some l =>
        show bindO (tgtQ f l) (fun d => go_or E d h (goesQ E d)) = (match tgtOf f l with
          | some d => match goes E d with
            | some nx => some (nx, h)
            | none => (extOf E d h).map fun (v, h) => (ANext.value v, h)
          | none => none)
        rw [tgtQ_eq]
        cases tgtOf f l with
        | none => rfl
        | some d =>
          show go_or E d h (goesQ E d) = (match goes E d with
            | some nx => some (nx, h)
            | none => (extOf E d h).map fun (v, h) => (ANext.value v, h))
          rw [goesQ_eq]; cases goes E d <;> rfl
  | builtin b => rfl
  | invoke r m => rfl

/-! one operation -/
abbrev RF := Option (List (Cls × Fired))
abbrev RR := Option (List Res)
def valF (c : Cls) (v : AV) (s : St) : RF := @St.rec (fun _ => RF) (fun _ _ df pm hp => some [(c, .val v df pm hp)]) s
def fP (r : Option AV) (s : St) : RF := bindO r fun v => valF .p v s
def fR (r : Option AV) (s : St) : RF := bindO r fun v => valF .r v s
def fPR (p r : Option AV) (s : St) : RF := @Option.rec AV (fun _ => RF) (fR r s) (fun v => valF .p v s) p
def fA (r : Option (AObj × (Nat → AV))) (s : St) : RF := bindO r fun q => @St.rec (fun _ => RF) (fun _ _ df pm hp => some [(.a, .val (q.2 hp.nx) df pm (hp.pushQ q.1))]) s
def fireRec (x : Ctx) (c : Cls) (h : Hp) (s : St) : RF :=
  match x.dfd, s.pm with
  | true, .panicking (⟨v, false⟩ :: older) => some [(c, .val v s.df (.panicking (⟨v, true⟩ :: older)) h)]
  | true, .returning => some [(c, .val (.v .nilIface) s.df s.pm h)]
  | _, _ => none
def allRQ {α β : Type} (f : α → Option (List β)) (l : List α) : Option (List β) :=
  @List.rec α (fun _ => Option (List β)) (some []) (fun a as ih => @List.rec α (fun _ => Option (List β)) (f a) (fun _ _ _ => bindO (f a) fun x => bindO ih fun y => some (appQ x y)) as) l
theorem allRQ_eq {α β : Type} (f : α → Option (List β)) (l : List α) : allRQ f l = allR f l := by
  induction l with
  | nil => rfl
  | cons a as ih => cases as with
    | nil => rfl
    | cons b bs =>
      show bindO (f a) (fun x => bindO (allRQ f (b :: bs)) fun y => some (appQ x y)) = (match f a, allR f (b :: bs) with
        | some x, some y => some (x ++ y)
        | _, _ => none)
      rw [ih]
      cases f a with
      | none => rfl
      | some x => cases allR f (b :: bs) with
        | none => rfl
        | some y => show some (appQ x y) = _; rw [appQ_eq]
def thenQ {α β : Type} (x : Option (List α)) (f : α → Option (List β)) : Option (List β) := bindO x (allRQ f)
theorem thenQ_eq {α β : Type} (x : Option (List α)) (f : α → Option (List β)) : thenQ x f = andThen x f := by
  cases x with
  | none => rfl
  | some l => exact allRQ_eq f l
def ek_val (v : AV) (_ : Job → RR) (_ : Ctx) (s : St) (h : Hp) : RF := @St.rec (fun _ => RF) (fun _ _ df pm _ => some [(.e, .val v df pm h)]) s
def ek_skip (_ : Job → RR) (_ : Ctx) (s : St) (h : Hp) : RF := @St.rec (fun _ => RF) (fun _ _ df pm _ => some [(.e, .val .undef df pm h)]) s
def ek_enter (f : FuncId) (args : List AV) (ih : Job → RR) (_ : Ctx) (s : St) (h : Hp) : RF := @St.rec (fun _ => RF) (fun _ _ df pm _ => thenQ (ih (.call false f args .run h)) (fromEnd .e df pm)) s
def ek_round (l : Nat) (args : List AV) (ih : Job → RR) (_ : Ctx) (s : St) (h : Hp) : RF := @St.rec (fun _ => RF) (fun _ _ df pm _ => thenQ (ih (.round l args h)) (fromEnd .e df pm)) s
def ek_defer (d : ADef) (_ : Job → RR) (_ : Ctx) (s : St) (h : Hp) : RF := @St.rec (fun _ => RF) (fun _ _ df pm _ => some [(.e, .val .undef (d :: df) pm h)]) s
def ek_rec (_ : Job → RR) (x : Ctx) (s : St) (h : Hp) : RF := fireRec x .e h s
def ek_panic (v : AV) (_ : Job → RR) (_ : Ctx) (s : St) (h : Hp) : RF := some [(.e, .fell [⟨v, false⟩] s.pm h)]
def ekQ (nx : ANext) (ih : Job → RR) (x : Ctx) (s : St) (h : Hp) : RF :=
  @ANext.rec (fun _ => (Job → RR) → Ctx → St → Hp → RF) (ek_val) (ek_skip) (ek_enter) (ek_round) (ek_defer) (ek_rec) (ek_panic)  nx ih x s h
def fE (r : Option (ANext × Hp)) (ih : Job → RR) (x : Ctx) (s : St) : RF := bindO r fun q => ekQ q.1 ih x s q.2
def fPRE (p r : Option AV) (e : Option (ANext × Hp)) (ih : Job → RR) (x : Ctx) (s : St) : RF :=
  @Option.rec AV (fun _ => RF) (@Option.rec AV (fun _ => RF) (fE e ih x s) (fun v => valF .r v s) r) (fun v => valF .p v s) p
def fNone (_ : Env) (_ : Job → RR) (_ : Ctx) (_ : St) : RF := none
theorem go_fE (E : Env) (ih : Job → RR) (x : Ctx) (s : St) (e : Option (ANext × Hp)) : fE e ih x s = (match (match e with | some (nx, h) => some (Cls.e, nx, h) | none => none) with
  | some (c, .value v, h) => some [(c, .val v s.df s.pm h)]
  | some (c, .skip, h) => some [(c, .val .undef s.df s.pm h)]
  | some (c, .defer d, h) => some [(c, .val .undef (d :: s.df) s.pm h)]
  | some (c, .panic v, h) => some [(c, .fell [⟨v, false⟩] s.pm h)]
  | some (c, .recov, h) => match x.dfd, s.pm with
    | true, .panicking (⟨v, false⟩ :: older) => some [(c, .val v s.df (.panicking (⟨v, true⟩ :: older)) h)]
    | true, .returning => some [(c, .val (.v .nilIface) s.df s.pm h)]
    | _, _ => none
  | some (c, .enter f args, h) => andThen (ih (.call false f args .run h)) (fromEnd c s.df s.pm)
  | some (c, .round l args, h) => andThen (ih (.round l args h)) (fromEnd c s.df s.pm)
  | none => none : RF) := by
  cases e with
  | none => rfl
  | some q =>
    obtain ⟨nx, h⟩ := q
    cases nx with
    | enter f args => exact thenQ_eq _ _
    | round l args => exact thenQ_eq _ _
    | _ => rfl
theorem fire_fP {E : Env} {ih : Job → RR} {x : Ctx} {o : Oper} {s : St} {r : Option AV} (hn : aNextMap E s.tm o s.hp = none) (hp : aPure E s.tm o = r) (hr : aRead E s.tm o s.hp = none)
    (ha : aAlloc E s.tm o s.hp = none) (he : aEff E x s.tm o s.hp = none) : fP r s = fireOp E ih x o s := by
  unfold fireOp aOp; rw [hn, hp, hr, ha, he]; cases r <;> rfl
theorem fire_fR {E : Env} {ih : Job → RR} {x : Ctx} {o : Oper} {s : St} {r : Option AV} (hn : aNextMap E s.tm o s.hp = none) (hp : aPure E s.tm o = none) (hr : aRead E s.tm o s.hp = r)
    (ha : aAlloc E s.tm o s.hp = none) (he : aEff E x s.tm o s.hp = none) : fR r s = fireOp E ih x o s := by
  unfold fireOp aOp; rw [hn, hp, hr, ha, he]; cases r <;> rfl
theorem fire_fPR {E : Env} {ih : Job → RR} {x : Ctx} {o : Oper} {s : St} {p r : Option AV} (hn : aNextMap E s.tm o s.hp = none) (hp : aPure E s.tm o = p) (hr : aRead E s.tm o s.hp = r)
    (ha : aAlloc E s.tm o s.hp = none) (he : aEff E x s.tm o s.hp = none) : fPR p r s = fireOp E ih x o s := by
  unfold fireOp aOp; rw [hn, hp, hr, ha, he]; cases p <;> cases r <;> rfl
theorem fire_fA {E : Env} {ih : Job → RR} {x : Ctx} {o : Oper} {s : St} {r : Option (AObj × (Nat → AV))} (hn : aNextMap E s.tm o s.hp = none) (hp : aPure E s.tm o = none) (hr : aRead E s.tm o s.hp = none)
    (ha : aAlloc E s.tm o s.hp = r) (he : aEff E x s.tm o s.hp = none) : fA r s = fireOp E ih x o s := by
  unfold fireOp aOp; rw [hn, hp, hr, ha, he]
  cases r with
  | none => rfl
  | some q => show some [(Cls.a, Fired.val (q.2 s.hp.nx) s.df s.pm (s.hp.pushQ q.1))] = _; rw [Hp.pushQ_eq]
theorem fire_fE {E : Env} {ih : Job → RR} {x : Ctx} {o : Oper} {s : St} {r : Option (ANext × Hp)} (hn : aNextMap E s.tm o s.hp = none) (hp : aPure E s.tm o = none) (hr : aRead E s.tm o s.hp = none)
    (ha : aAlloc E s.tm o s.hp = none) (he : aEff E x s.tm o s.hp = r) : fE r ih x s = fireOp E ih x o s := by
  unfold fireOp aOp; rw [hn, hp, hr, ha, he, go_fE E]
  cases r with
  | none => rfl
  | some q => obtain ⟨nx, h⟩ := q; cases nx <;> rfl
theorem fire_fPRE {E : Env} {ih : Job → RR} {x : Ctx} {o : Oper} {s : St} {p r : Option AV} {e : Option (ANext × Hp)} (hn : aNextMap E s.tm o s.hp = none) (hp : aPure E s.tm o = p) (hr : aRead E s.tm o s.hp = r)
    (ha : aAlloc E s.tm o s.hp = none) (he : aEff E x s.tm o s.hp = e) : fPRE p r e ih x s = fireOp E ih x o s := by
  unfold fireOp aOp; rw [hn, hp, hr, ha, he]
  cases p with
  | some v => rfl
  | none => cases r with
    | some v => rfl
    | none =>
      show fE e ih x s = _
      rw [go_fE E]
      cases e with
      | none => rfl
      | some q => obtain ⟨nx, h⟩ := q; cases nx <;> rfl
def f_move (x : Operand) (E : Env) (_ : Job → RR) (_ : Ctx) (s : St) : RF := fP (opvQ E s.tm x) s
def f_pick (a b c : Operand) (E : Env) (_ : Job → RR) (_ : Ctx) (s : St) : RF := fP (aPure_pick E s.tm a b c) s
def f_alloc (t : TypeId) (E : Env) (_ : Job → RR) (_ : Ctx) (s : St) : RF := fA (aAlloc_alloc E s.tm s.hp t) s
def f_box (t : TypeId) (a : Operand) (E : Env) (_ : Job → RR) (_ : Ctx) (s : St) : RF := fA (aAlloc_box E s.tm s.hp t a) s
def f_build (t : TypeId) (a : Array (Nat × Operand)) (E : Env) (_ : Job → RR) (_ : Ctx) (s : St) : RF := fP (aPure_build E s.tm t a) s
def f_buildSlice (t : TypeId) (n : Nat) (a : Array (Nat × Operand)) (E : Env) (_ : Job → RR) (_ : Ctx) (s : St) : RF := fA (aAlloc_buildSlice E s.tm s.hp t n a) s
def f_load (t : TypeId) (a : Operand) (E : Env) (_ : Job → RR) (_ : Ctx) (s : St) : RF := fR (aRead_load E s.tm s.hp t a) s
def f_store (t : TypeId) (a b : Operand) (E : Env) (ih : Job → RR) (x : Ctx) (s : St) : RF := fE (aEff_store E s.tm s.hp t a b) ih x s
def f_nilCheck (a : Operand) (E : Env) (_ : Job → RR) (_ : Ctx) (s : St) : RF := fP (aPure_nilCheck E s.tm a) s
def f_binOp (op : BinOp) (t : TypeId) (a b : Operand) (_ : TypeId) (E : Env) (_ : Job → RR) (_ : Ctx) (s : St) : RF := fPR (aPure_binOp E s.tm op a b) (aRead_binOp E s.tm s.hp op t a b) s
def f_unOp (op : UnOp) (_ : TypeId) (a : Operand) (E : Env) (_ : Job → RR) (_ : Ctx) (s : St) : RF := fP (aPure_unOp E s.tm op a) s
def f_convert (t u : TypeId) (a : Operand) (E : Env) (ih : Job → RR) (x : Ctx) (s : St) : RF := fPRE (aPure_convert E s.tm t u a) (aRead_convert E s.tm s.hp t u a) (aEff_convert E x s.tm s.hp t u a) ih x s
def f_insert (t : TypeId) (a b c : Operand) (E : Env) (ih : Job → RR) (x : Ctx) (s : St) : RF := fE (aEff_insert E x s.tm s.hp t a b c) ih x s
def f_makeInterface (t : TypeId) (a : Operand) (E : Env) (_ : Job → RR) (_ : Ctx) (s : St) : RF := fP (aPure_makeInterface E s.tm t a) s
def f_makeFunc (f : Fn) (a b : Array Operand) (E : Env) (_ : Job → RR) (_ : Ctx) (s : St) : RF := fP (aPure_makeFunc E s.tm f a b) s
def f_makeMap (_ : TypeId) (a : Option Operand) (E : Env) (_ : Job → RR) (_ : Ctx) (s : St) : RF := fA (aAlloc_makeMap E s.tm s.hp a) s
def f_makeSlice (t : TypeId) (a b : Operand) (E : Env) (_ : Job → RR) (_ : Ctx) (s : St) : RF := fA (aAlloc_makeSlice E s.tm s.hp t a b) s
def f_slice (t : TypeId) (a : Operand) (l h m : Option Operand) (E : Env) (_ : Job → RR) (_ : Ctx) (s : St) : RF := fP (aPure_slice E s.tm t a l h m) s
def f_fieldAddr (t : TypeId) (a : Operand) (n : Nat) (E : Env) (_ : Job → RR) (_ : Ctx) (s : St) : RF := fP (aPure_fieldAddr E s.tm t a n) s
def f_field (t : TypeId) (a : Operand) (n : Nat) (E : Env) (_ : Job → RR) (_ : Ctx) (s : St) : RF := fP (aPure_field E s.tm t a n) s
def f_indexAddr (t : TypeId) (a b : Operand) (E : Env) (_ : Job → RR) (_ : Ctx) (s : St) : RF := fP (aPure_indexAddr E s.tm t a b) s
def f_index (t : TypeId) (a b : Operand) (E : Env) (_ : Job → RR) (_ : Ctx) (s : St) : RF := fP (aPure_index E s.tm t a b) s
def f_lookup (t : TypeId) (a b : Operand) (ok : Bool) (E : Env) (_ : Job → RR) (_ : Ctx) (s : St) : RF := fR (aRead_lookup E s.tm s.hp t a b ok) s
def f_mapUpdate (t : TypeId) (a b c : Operand) (E : Env) (ih : Job → RR) (x : Ctx) (s : St) : RF := fE (aEff_mapUpdate E x s.tm s.hp t a b c) ih x s
def f_mapEntry (t : TypeId) (a b : Operand) (E : Env) (ih : Job → RR) (x : Ctx) (s : St) : RF := fE (aEff_mapEntry E x s.tm s.hp t a b) ih x s
def f_entryStore (_ : TypeId) (a b c : Operand) (E : Env) (ih : Job → RR) (x : Ctx) (s : St) : RF := fE (aEff_entryStore E x s.tm s.hp a b c) ih x s
def f_range (t : TypeId) (a : Operand) (E : Env) (_ : Job → RR) (_ : Ctx) (s : St) : RF := fA (aAlloc_range E s.tm s.hp t a) s
def nextMapQ (E : Env) (tm : Tr AV) (it : Operand) (h : Hp) : Option (List (AV × Hp)) :=
  match opv E tm it with
  | some (.ptr r 0) => match h.get r with
    | some (.miter none _ _ _) => some [(.tuple [.v (.bool false)], h)]
    | some (.miter (some m) since seen stepped) => match h.get m with
      | some (.map es clock) => match es.any (fun e => Nat.blt e.born stepped) || seen.isEmpty || es.isEmpty with
        | true => some (afterNext h r m since seen clock (cands since (leftOf seen es)))
        | false => none
      | _ => none
    | _ => none
  | _ => none
def f_next (a : Operand) (str : Bool) (E : Env) (ih : Job → RR) (x : Ctx) (s : St) : RF :=
  ifB str (fE (aEff_next E x s.tm s.hp a true) ih x s) (bindO (nextMapQ E s.tm a s.hp) fun l => some (fromMap s.df s.pm l))
def f_entry (a : Operand) (E : Env) (_ : Job → RR) (_ : Ctx) (s : St) : RF := fR (aRead_entry E s.tm s.hp a) s
def f_typeAssert (a : Operand) (_ : TypeId) (t : TypeId) (ok : Bool) (E : Env) (_ : Job → RR) (_ : Ctx) (s : St) : RF := fP (aPure_typeAssert E s.tm a t ok) s
def f_extract (a : Operand) (n : Nat) (E : Env) (_ : Job → RR) (_ : Ctx) (s : St) : RF := fP (aPure_extract E s.tm a n) s
def f_call (c : Call) (E : Env) (ih : Job → RR) (x : Ctx) (s : St) : RF := fPRE (aPure_call E s.tm c) (aRead_call E s.tm s.hp c) (aEff_call E x s.tm s.hp c) ih x s
def f_defer (c : Call) (E : Env) (ih : Job → RR) (x : Ctx) (s : St) : RF := fE (aEff_defer E x s.tm s.hp c) ih x s
def f_panic (a : Operand) (E : Env) (ih : Job → RR) (x : Ctx) (s : St) : RF := fE (aEff_panic E x s.tm s.hp a) ih x s
def fireQ (E : Env) (ih : Job → RR) (x : Ctx) (o : Oper) (s : St) : RF :=
  @Op.rec (fun _ => Env → (Job → RR) → Ctx → St → RF) (f_move) (f_move) (f_pick) (f_alloc) (f_box) (f_build) (f_buildSlice) (f_insert) (f_load) (f_store) (fun _ => fNone) (fun _ => fNone) (f_nilCheck) (f_binOp) (f_unOp) (f_convert) (fun _ _ => fNone) (f_makeInterface) (f_makeFunc) (f_makeMap) (fun _ _ => fNone) (f_makeSlice) (f_slice) (f_fieldAddr) (f_field) (f_indexAddr) (f_index) (f_lookup) (f_mapUpdate) (f_mapEntry) (f_entryStore) (f_range) (f_next) (f_entry) (f_typeAssert) (f_extract) (f_call) (fun _ => fNone) (f_defer) (f_panic) (fun _ _ => fNone) (fun _ _ _ => fNone) (fun _ _ => fNone)  o.op E ih x s
theorem fireQ_eq (E : Env) (ih : Job → RR) (x : Ctx) (o : Oper) (s : St) : fireQ E ih x o s = fireOp E ih x o s := by
  obtain ⟨dst, op, ty, pos, after, guard⟩ := o
  cases op with
  | move a => exact fire_fP rfl (opvQ_eq _ _ _).symm rfl rfl rfl
  | assign a => exact fire_fP rfl (opvQ_eq _ _ _).symm rfl rfl rfl
  | pick a b c => exact fire_fP rfl rfl rfl rfl rfl
  | alloc t => exact fire_fA rfl rfl rfl (aAlloc_alloc_eq E s.tm s.hp t).symm rfl
  | box t a => exact fire_fA rfl rfl rfl rfl rfl
  | build t a => exact fire_fP rfl rfl rfl rfl rfl
  | buildSlice t n a => exact fire_fA rfl rfl rfl rfl rfl
  | insert t a b c => exact fire_fE rfl rfl rfl rfl rfl
  | load t a => exact fire_fR rfl rfl (aRead_load_eq E s.tm s.hp t a).symm rfl rfl
  | store t a b => exact fire_fE rfl rfl rfl rfl (aEff_store_eq E s.tm s.hp t a b).symm
  | ready n => rfl
  | waits n => rfl
  | nilCheck a => exact fire_fP rfl (aPure_nilCheck_eq E s.tm a).symm rfl rfl rfl
  | binOp op t a b u => exact fire_fPR rfl (aPure_binOp_eq E s.tm op a b).symm rfl rfl rfl
  | unOp op t a => exact fire_fP rfl (aPure_unOp_eq E s.tm op a).symm rfl rfl rfl
  | convert t u a => exact fire_fPRE rfl rfl rfl rfl rfl
  | sliceToArrayPointer t a => rfl
  | makeInterface t a => exact fire_fP rfl (aPure_makeInterface_eq E s.tm t a).symm rfl rfl rfl
  | makeFunc f a b => exact fire_fP rfl rfl rfl rfl rfl
  | makeMap t a => exact fire_fA rfl rfl rfl rfl rfl
  | makeChan t a => rfl
  | makeSlice t a b => exact fire_fA rfl rfl rfl rfl rfl
  | slice t a l h m => exact fire_fP rfl rfl rfl rfl rfl
  | fieldAddr t a n => exact fire_fP rfl (aPure_fieldAddr_eq E s.tm t a n).symm rfl rfl rfl
  | field t a n => exact fire_fP rfl rfl rfl rfl rfl
  | indexAddr t a b => exact fire_fP rfl (aPure_indexAddr_eq E s.tm t a b).symm rfl rfl rfl
  | index t a b => exact fire_fP rfl rfl rfl rfl rfl
  | lookup t a b ok => exact fire_fR rfl rfl rfl rfl rfl
  | mapUpdate t a b c => exact fire_fE rfl rfl rfl rfl rfl
  | mapEntry t a b => exact fire_fE rfl rfl rfl rfl rfl
  | entryStore t a b c => exact fire_fE rfl rfl rfl rfl rfl
  | range t a => exact fire_fA rfl rfl rfl rfl rfl
  | next a str =>
    cases str with
    | true => exact fire_fE rfl rfl rfl rfl rfl
    | false =>
      show bindO (nextMapQ E s.tm a s.hp) (fun l => some (fromMap s.df s.pm l)) = _
      have h1 : aNextMap E s.tm ⟨dst, .next a false, ty, pos, after, guard⟩ s.hp = nextMapQ E s.tm a s.hp := rfl
      have h2 : aOp E x s.tm ⟨dst, .next a false, ty, pos, after, guard⟩ s.hp = none := by
        unfold aOp
        show (match aEff E x s.tm ⟨dst, .next a false, ty, pos, after, guard⟩ s.hp with | some (nx, h) => some (Cls.e, nx, h) | none => none) = none
        have : aEff E x s.tm ⟨dst, .next a false, ty, pos, after, guard⟩ s.hp = none := by
          show (match opv E s.tm a, false with
            | some (.ptr b 0), true => match s.hp.get b with
              | some (.siter s pos) => match Nat.blt pos s.size with
                | true => match Utf8.decode s pos with
                  | (c, width) => some (ANext.value (.tuple [.v (.bool true), .v (.int .i64 pos), .v (.int .i32 c)]), _)
                | false => some (.value (.tuple [.v (.bool false)]), _)
              | _ => none
            | _, _ => none) = none
          cases opv E s.tm a with
          | none => rfl
          | some v => cases v with
            | ptr b off => cases off <;> rfl
            | _ => rfl
        rw [this]
      unfold fireOp
      rw [h1, h2]
      cases nextMapQ E s.tm a s.hp <;> rfl
  | entry a => exact fire_fR rfl rfl rfl rfl rfl
  | typeAssert a t u ok => exact fire_fP rfl rfl rfl rfl rfl
  | extract a n => exact fire_fP rfl (aPure_extract_eq E s.tm a n).symm rfl rfl rfl
  | call c => exact fire_fPRE rfl (aPure_call_eq E s.tm c).symm rfl rfl (aEff_call_eq E x s.tm s.hp c).symm
  | go c => rfl
  | defer c => exact fire_fE rfl rfl rfl rfl rfl
  | panic a => exact fire_fE rfl rfl rfl rfl rfl
  | send a b => rfl
  | recv t a ok => rfl
  | select cs b => rfl

/-! regions that draw their order -/
theorem bit_testBit (m i : Nat) : bit m i = m.testBit i := by
  unfold bit
  rw [Bool.eq_iff_iff, Nat.beq_eq, Nat.testBit_eq_decide_div_mod_eq, decide_eq_true_iff]
  rw [show Nat.shiftRight m i = m >>> i from rfl, Nat.shiftRight_eq_div_pow]
def maskL (l : List Nat) : Nat := @List.rec Nat (fun _ => Nat) 0 (fun t _ m => Nat.lor m (Nat.shiftLeft 1 t)) l
theorem memN_mask (n : Nat) (l : List Nat) : memN n l = bit (maskL l) n := by
  induction l with
  | nil => rw [bit_testBit]; show false = Nat.testBit 0 n; simp
  | cons x xs ih =>
    rw [bit_testBit] at ih ⊢
    show (match Nat.beq n x with | true => true | false => memN n xs) = Nat.testBit (maskL xs ||| (1 <<< x)) n
    rw [Nat.testBit_or, Nat.testBit_shiftLeft]
    cases h : Nat.beq n x with
    | true =>
      have e := Nat.eq_of_beq_eq_true h
      subst e
      simp
    | false =>
      have e : n ≠ x := fun e => by subst e; simp at h
      show memN n xs = _
      rw [ih]
      have : (1 : Nat).testBit (n - x) = decide (n - x = 0) := by
        cases hq : n - x with
        | zero => rfl
        | succ q => simp [Nat.testBit_succ]
      rw [this]
      rw [Bool.eq_iff_iff]
      simp
      omega
/-- an operation's own name, and those that it names, as masks -/
def dstM (o : Oper) : Nat := @Option.rec Tmp (fun _ => Nat) 0 (fun d => Nat.shiftLeft 1 d) o.dst
def namM (all : List Oper) (o : Oper) : Nat := maskL (opNames all o)
theorem land_one (d m : Nat) : Nat.beq (Nat.land (Nat.shiftLeft 1 d) m) 0 = !bit m d := by
  rw [bit_testBit, Bool.eq_iff_iff, Nat.beq_eq]
  show (1 <<< d) &&& m = 0 ↔ _
  rw [Nat.shiftLeft_eq, Nat.one_mul]
  constructor
  · intro h
    have h1 := congrArg (fun q => Nat.testBit q d) h
    simp [Nat.testBit_and, Nat.testBit_two_pow] at h1
    simp [h1]
  · intro h
    apply Nat.eq_of_testBit_eq
    intro i
    rw [Nat.testBit_and, Nat.testBit_two_pow, Nat.zero_testBit]
    cases hd : decide (d = i) with
    | false => rfl
    | true =>
      have e := of_decide_eq_true hd
      subst e
      simpa using h
def clashM (dp np d n : Nat) : Bool := ifB (Nat.beq (Nat.land dp (Nat.lor n d)) 0) (ifB (Nat.beq (Nat.land d np) 0) false true) true
theorem clashM_eq (all : List Oper) (a b : Oper) : clashM (dstM a) (namM all a) (dstM b) (namM all b) = clash all a b := by
  unfold clashM clash dstM
  have e0 : ∀ m, Nat.beq (Nat.land 0 m) 0 = true := fun m => by rw [show Nat.land 0 m = 0 &&& m from rfl, Nat.zero_and]; rfl
  have e1 : ∀ m, Nat.lor m 0 = m := fun m => Nat.or_zero m
  cases ha : a.dst with
  | none =>
    cases hb : b.dst with
    | none => show ifB (Nat.beq (Nat.land 0 _) 0) (ifB (Nat.beq (Nat.land 0 _) 0) false true) true = _; rw [e0, e0]; rfl
    | some d' =>
      show ifB (Nat.beq (Nat.land 0 _) 0) (ifB (Nat.beq (Nat.land (Nat.shiftLeft 1 d') (namM all a)) 0) false true) true = (false || memN d' (opNames all a))
      rw [e0, land_one, memN_mask]
      show ifB (!bit (namM all a) d') false true = bit (namM all a) d'
      cases bit (namM all a) d' <;> rfl
  | some d =>
    cases hb : b.dst with
    | none =>
      show ifB (Nat.beq (Nat.land (Nat.shiftLeft 1 d) (Nat.lor (namM all b) 0)) 0) (ifB (Nat.beq (Nat.land 0 _) 0) false true) true = ((memN d (opNames all b) || false) || false)
      rw [e0, e1, land_one, memN_mask]
      show ifB (!bit (namM all b) d) (ifB true false true) true = _
      unfold namM
      cases bit (maskL (opNames all b)) d <;> rfl
    | some d' =>
      show ifB (Nat.beq (Nat.land (Nat.shiftLeft 1 d) (Nat.lor (namM all b) (Nat.shiftLeft 1 d'))) 0) (ifB (Nat.beq (Nat.land (Nat.shiftLeft 1 d') (namM all a)) 0) false true) true = ((memN d (opNames all b) || Nat.beq d d') || memN d' (opNames all a))
      rw [land_one, land_one, memN_mask, memN_mask]
      have : bit (Nat.lor (namM all b) (Nat.shiftLeft 1 d')) d = (bit (namM all b) d || Nat.beq d d') := by
        rw [bit_testBit, bit_testBit]
        show (namM all b ||| (1 <<< d')).testBit d = _
        rw [Nat.testBit_or]
        congr 1
        rw [Nat.shiftLeft_eq, Nat.one_mul, Nat.testBit_two_pow, Bool.eq_iff_iff, Nat.beq_eq, decide_eq_true_iff]
        exact eq_comm
      rw [this]
      unfold namM
      cases bit (maskL (opNames all b)) d <;> cases Nat.beq d d' <;> cases bit (maskL (opNames all a)) d' <;> rfl
structure Nms where
  d : Nat
  n : Nat
def nmsOf (all : List Oper) (l : List Oper) : List Nms := @List.rec Oper (fun _ => List Nms) [] (fun o _ r => ⟨dstM o, namM all o⟩ :: r) l
def apartM (d n m : Nat) (l : List Nms) : Nat → Bool :=
  @List.rec Nms (fun _ => Nat → Bool) (fun _ => true) (fun p _ k i => ifB (bit m i) (k (i + 1)) (ifB (clashM p.d p.n d n) false (k (i + 1)))) l
theorem apartM_eq (all : List Oper) (o : Oper) (m : Nat) (l : List Oper) : ∀ i, apartM (dstM o) (namM all o) m (nmsOf all l) i = apartFrom all o m l i := by
  induction l with
  | nil => intro i; rfl
  | cons p ps ih =>
    intro i
    show ifB (bit m i) (apartM (dstM o) (namM all o) m (nmsOf all ps) (i + 1)) (ifB (clashM (dstM p) (namM all p) (dstM o) (namM all o)) false (apartM (dstM o) (namM all o) m (nmsOf all ps) (i + 1))) = ((!clash all p o || bit m i) && apartFrom all o m ps (i + 1))
    rw [ih, clashM_eq]
    cases clash all p o <;> cases bit m i <;> rfl
theorem nmsOf_take (all l : List Oper) : ∀ j, nmsOf all (l.take j) = (nmsOf all l).take j := by
  induction l with
  | nil => intro j; cases j <;> rfl
  | cons o os ih =>
    intro j
    cases j with
    | zero => rfl
    | succ j => show (⟨dstM o, namM all o⟩ : Nms) :: nmsOf all (os.take j) = (⟨dstM o, namM all o⟩ : Nms) :: (nmsOf all os).take j; rw [ih]
def apartG (A : List Nms) (l : List Nms) : List Nat → Nat → Bool :=
  @List.rec Nms (fun _ => List Nat → Nat → Bool) (fun _ _ => true) (fun o _ k befs j => @List.rec Nat (fun _ => Bool) false (fun m ms _ => ifB (apartM o.d o.n m (takeQ j A) 0) (k ms (j + 1)) false) befs) l
theorem apartG_eq (all l : List Oper) : ∀ befs j, apartG (nmsOf all all) (nmsOf all l) befs j = apartAll all l befs j := by
  induction l with
  | nil => intro befs j; rfl
  | cons o os ih =>
    intro befs j
    cases befs with
    | nil => rfl
    | cons m ms =>
      show ifB (apartM (dstM o) (namM all o) m (takeQ j (nmsOf all all)) 0) (apartG (nmsOf all all) (nmsOf all os) ms (j + 1)) false = (apartFrom all o m (all.take j) 0 && apartAll all os ms (j + 1))
      rw [ih, takeQ_eq, ← nmsOf_take, apartM_eq]
      cases apartFrom all o m (all.take j) 0 <;> rfl
/-- the nth of a list whose first elements may not be built yet: forced from the front -/
def drawableQ (all : List Oper) : Bool := ifB (backAll all 0) (apartG (nmsOf all all) (nmsOf all all) (befsOf all []) 0) false
theorem drawableQ_eq (all : List Oper) : drawableQ all = drawable all := by
  unfold drawableQ drawable
  rw [apartG_eq]; cases backAll all 0 <;> rfl

def lowQ (a : AV) (n : Nat) : Bool :=
  @AV.rec (fun _ => Nat → Bool) (fun _ => Nat → Bool) (fun _ _ => true) (fun _ => true) (fun b _ n => Nat.blt b n) (fun b _ _ _ _ n => Nat.blt b n) (fun b n => Nat.blt b n) (fun _ _ _ i j n => ifB (i n) (j n) false) (fun b n => Nat.blt b n)
    (fun _ _ i n => i n) (fun _ i n => i n) (fun _ i n => i n) (fun _ => true) (fun _ _ i j n => ifB (i n) (j n) false) a n
def lowsR (a : List AV) (n : Nat) : Bool :=
  @AV.rec_1 (fun _ => Nat → Bool) (fun _ => Nat → Bool) (fun _ _ => true) (fun _ => true) (fun b _ n => Nat.blt b n) (fun b _ _ _ _ n => Nat.blt b n) (fun b n => Nat.blt b n) (fun _ _ _ i j n => ifB (i n) (j n) false) (fun b n => Nat.blt b n)
    (fun _ _ i n => i n) (fun _ i n => i n) (fun _ i n => i n) (fun _ => true) (fun _ _ i j n => ifB (i n) (j n) false) a n
mutual
theorem lowQ_eq (n : Nat) : ∀ a : AV, lowQ a n = lowAV n a
  | .v _ => rfl
  | .sym => rfl
  | .ptr _ _ => rfl
  | .slice _ _ _ _ _ => rfl
  | .map _ => rfl
  | .yield _ => rfl
  | .func f a c => by
    have h1 := lowsR_eq n a
    have h2 := lowsR_eq n c
    show ifB (lowsR a n) (lowsR c n) false = (lowAVs n a && lowAVs n c)
    rw [h1, h2]; cases lowAVs n a <;> rfl
  | .iface _ x => lowQ_eq n x
  | .agg cs => lowsR_eq n cs
  | .tuple cs => lowsR_eq n cs
theorem lowsR_eq (n : Nat) : ∀ a : List AV, lowsR a n = lowAVs n a
  | [] => rfl
  | a :: as => by
    show ifB (lowQ a n) (lowsR as n) false = (lowAV n a && lowAVs n as)
    rw [lowQ_eq n a, lowsR_eq n as]; cases lowAV n a <;> rfl
end

/-! regions in the text's order -/
def wantQ (all : List Oper) (tm : Tr AV) (o : Oper) : Bool := @Option.rec (Nat × Bool) (fun _ => Bool) true (fun _ => wanted all tm o) o.guard
theorem wantQ_eq (all : List Oper) (tm : Tr AV) (o : Oper) : wantQ all tm o = wanted all tm o := by
  obtain ⟨dst, op, ty, pos, after, guard⟩ := o
  cases guard <;> rfl
def put_d (d : Nat) (v : AV) (s : St) : St := @St.rec (fun _ => St) (fun tm sz df pm hp => ifB (Nat.blt d sz) ⟨tm.setQ d v, sz, df, pm, hp⟩ ⟨tm, sz, df, pm, hp⟩) s
def putQ (s : St) (dst : Option Tmp) (v : AV) : St := @Option.rec Tmp (fun _ => St) s (fun d => put_d d v s) dst
def dphQ (s : St) (df : List ADef) (pm : AMode) (h : Hp) : St := @St.rec (fun _ => St) (fun tm sz _ _ _ => ⟨tm, sz, df, pm, h⟩) s
theorem dphQ_eq (s : St) (df : List ADef) (pm : AMode) (h : Hp) : dphQ s df pm h = { s with df := df, pm := pm, hp := h } := rfl
theorem putQ_eq (s : St) (dst : Option Tmp) (v : AV) : putQ s dst v = s.put dst v := by
  cases dst with
  | none => rfl
  | some d =>
    show ifB (Nat.blt d s.sz) { s with tm := s.tm.setQ d v } s = (match Nat.blt d s.sz with | true => { s with tm := s.tm.set d v } | false => s)
    rw [Tr.setQ_eq]; cases Nat.blt d s.sz <;> rfl
def ro_val (v : AV) (df : List ADef) (pm : AMode) (h : Hp) (dst : Option Tmp) (k : St → RR) (s : St) : RR := k (putQ (dphQ s df pm h) dst v)
def ro_fell (ch : List APan) (pm : AMode) (h : Hp) (_ : Option Tmp) (_ : St → RR) (s : St) : RR := some [.out (.panic ch) { s with pm := pm, hp := h }]
def ro_k (dst : Option Tmp) (k : St → RR) (s : St) (r : Cls × Fired) : RR := @Fired.rec (fun _ => Option Tmp → (St → RR) → St → RR) (ro_val) (ro_fell)  r.2 dst k s
def ro_cons (E : Env) (ih : Job → RR) (x : Ctx) (all : List Oper) (o : Oper) (k : St → RR) (s : St) : RR :=
  ifB (wantQ all s.tm o) (thenQ (fireQ E ih x o s) (ro_k o.dst k s)) (k (putQ s o.dst .undef))
def ro_nil (s : St) : RR := some [.out .normal s]
def runOpsQ (E : Env) (ih : Job → RR) (x : Ctx) (all ops : List Oper) : St → RR := @List.rec Oper (fun _ => St → RR) ro_nil (fun o _ k => ro_cons E ih x all o k) ops
theorem runOpsQ_eq (E : Env) (ih : Job → RR) (x : Ctx) (all ops : List Oper) : ∀ s, runOpsQ E ih x all ops s = runOps E ih x all ops s := by
  induction ops with
  | nil => intro s; rfl
  | cons o os k =>
    intro s
    have k' : runOpsQ E ih x all os = runOps E ih x all os := funext k
    show ifB (wantQ all s.tm o) (thenQ (fireQ E ih x o s) (ro_k o.dst (runOpsQ E ih x all os) s)) (runOpsQ E ih x all os (putQ s o.dst .undef)) = (match wanted all s.tm o with
      | true => andThen (fireOp E ih x o s) fun r => match r with
        | (_, .val v df pm h) => runOps E ih x all os (s.fired o.dst v df pm h)
        | (_, .fell ch pm h) => some [.out (.panic ch) { s with pm := pm, hp := h }]
      | false => runOps E ih x all os (s.put o.dst .undef))
    rw [wantQ_eq, fireQ_eq, thenQ_eq, k', putQ_eq]
    cases wanted all s.tm o with
    | false => rfl
    | true =>
      show andThen (fireOp E ih x o s) (ro_k o.dst (runOps E ih x all os) s) = andThen (fireOp E ih x o s) _
      congr 1
      funext r
      obtain ⟨c, f⟩ := r
      cases f with
      | val v df pm h => show runOps E ih x all os (putQ (dphQ s df pm h) o.dst v) = _; rw [putQ_eq]; rfl
      | fell ch pm h => rfl

def isSelQ (op : Op) : Bool := @Op.rec (fun _ => Bool) (fun _ => false) (fun _ => false) (fun _ _ _ => false) (fun _ => false) (fun _ _ => false) (fun _ _ => false) (fun _ _ _ => false) (fun _ _ _ _ => false) (fun _ _ => false) (fun _ _ _ => false) (fun _ => false) (fun _ => false) (fun _ => false) (fun _ _ _ _ _ => false) (fun _ _ _ => false) (fun _ _ _ => false) (fun _ _ => false) (fun _ _ => false) (fun _ _ _ => false) (fun _ _ => false) (fun _ _ => false) (fun _ _ _ => false) (fun _ _ _ _ _ => false) (fun _ _ _ => false) (fun _ _ _ => false) (fun _ _ _ => false) (fun _ _ _ => false) (fun _ _ _ _ => false) (fun _ _ _ _ => false) (fun _ _ _ => false) (fun _ _ _ _ => false) (fun _ _ => false) (fun _ _ => false) (fun _ => false) (fun _ _ _ _ => false) (fun _ _ => false) (fun _ => false) (fun _ => false) (fun _ => false) (fun _ => false) (fun _ _ => false) (fun _ _ _ => false) (fun _ _ => true)  op
def lowOpsQ (n : Nat) (tm : Tr AV) (l : List Operand) : Bool :=
  @List.rec Operand (fun _ => Bool) true (fun x _ r => @Operand.rec (fun _ => Tr AV → Nat → Bool → Bool) (fun t tm n r => ifB (lowQ (tgetQ tm t) n) r false) (fun _ _ _ r => r) (fun _ _ _ r => r) (fun _ _ _ r => r) x tm n r) l
theorem lowOpsQ_eq (n : Nat) (tm : Tr AV) (l : List Operand) : lowOpsQ n tm l = lowOps n tm l := by
  induction l with
  | nil => rfl
  | cons x xs ih =>
    cases x with
    | tmp t =>
      show ifB (lowQ (tgetQ tm t) n) (lowOpsQ n tm xs) false = (lowAV n (tget tm t) && lowOps n tm xs)
      rw [ih, lowQ_eq, tgetQ_eq]; cases lowAV n (tget tm t) <;> rfl
    | _ => exact ih
def restrLQ (tm : Tr AV) (l : List Operand) : Tr AV → Tr AV :=
  @List.rec Operand (fun _ => Tr AV → Tr AV) (fun acc => acc) (fun x _ k acc => @Operand.rec (fun _ => Tr AV → (Tr AV → Tr AV) → Tr AV → Tr AV) (fun t tm k acc => k (acc.setQ t (tgetQ tm t))) (fun _ _ k acc => k acc) (fun _ _ k acc => k acc) (fun _ _ k acc => k acc) x tm k acc) l
theorem restrLQ_eq (tm : Tr AV) (l : List Operand) : ∀ acc, restrLQ tm l acc = restrL tm l acc := by
  induction l with
  | nil => intro acc; rfl
  | cons x xs ih =>
    intro acc
    cases x with
    | tmp t => show restrLQ tm xs (acc.setQ t (tgetQ tm t)) = restrL tm xs (acc.set t (tget tm t)); rw [ih, Tr.setQ_eq, tgetQ_eq]
    | _ => exact ih acc
def restrQ (n : Nat) (tm : Tr AV) (o : Oper) : Option (Tr AV) := ifB (isSelQ o.op) none (ifB (lowOpsQ n tm o.op.operands.toList) (some (restrLQ tm o.op.operands.toList .e)) none)
theorem restrQ_eq (n : Nat) (tm : Tr AV) (o : Oper) : restrQ n tm o = restr n tm o := by
  unfold restrQ restr
  rw [lowOpsQ_eq, restrLQ_eq]
  obtain ⟨dst, op, ty, pos, after, guard⟩ := o
  cases op with
  | select cs b => rfl
  | _ =>
    simp only []
    rw [show ∀ x : Op, isSelQ x = isSelQ x from fun _ => rfl]
    show ifB false none (ifB _ _ _) = _
    rw [ifB_false]
    split <;> rename_i h <;> first | (rw [h]; rfl) | (simp only [Bool.not_eq_true] at h; rw [h]; rfl)
/-- what a step of a drawn region comes to -/
inductive WK where
  | pure (v : AV)
  | read (v : AV)
  | alloc (ob : AObj) (g : Nat → AV)
  | eff (v : AV) (df : List ADef) (pm : AMode) (h : Hp)
  | fell (ch : List APan) (pm : AMode) (h : Hp)
  | bad
def wkFired (f : Fired) : WK := @Fired.rec (fun _ => WK) (fun v df pm h => .eff v df pm h) (fun ch pm h => .fell ch pm h)  f
def wkFire (r : RF) : WK :=
  @Option.rec (List (Cls × Fired)) (fun _ => WK) .bad (fun l => @List.rec (Cls × Fired) (fun _ => WK) .bad (fun a as _ => @List.rec (Cls × Fired) (fun _ => WK) (wkFired a.2) (fun _ _ _ => .bad) as) l) r
def wkSpec (E : Env) (ih : Job → RR) (x : Ctx) (o : Oper) (s : St) (rt : Tr AV) (B : Hp) : WK :=
  match aPure E rt o with
  | some v => .pure v
  | none => match aRead E rt o B with
    | some v => .read v
    | none => match aAllocF E rt o with
      | some (ob, g) => .alloc ob g
      | none => wkFire (fireOp E ih x o { s with tm := rt })
def wP (p : Option AV) (f : WK) : WK := @Option.rec AV (fun _ => WK) f (fun v => .pure v) p
def wR (p : Option AV) (f : WK) : WK := @Option.rec AV (fun _ => WK) f (fun v => .read v) p
def wA (p : Option (AObj × (Nat → AV))) (f : WK) : WK := @Option.rec (AObj × (Nat → AV)) (fun _ => WK) f (fun q => .alloc q.1 q.2) p
theorem wk_P {E : Env} {ih : Job → RR} {x : Ctx} {o : Oper} {s : St} {rt : Tr AV} {B : Hp} {p : Option AV} (hp : aPure E rt o = p) (hr : aRead E rt o B = none) (ha : aAllocF E rt o = none) :
    wP p (wkFire (fireOp E ih x o { s with tm := rt })) = wkSpec E ih x o s rt B := by
  unfold wkSpec; rw [hp, hr, ha]; cases p <;> rfl
theorem wk_PR {E : Env} {ih : Job → RR} {x : Ctx} {o : Oper} {s : St} {rt : Tr AV} {B : Hp} {p r : Option AV} (hp : aPure E rt o = p) (hr : aRead E rt o B = r) (ha : aAllocF E rt o = none) :
    wP p (wR r (wkFire (fireOp E ih x o { s with tm := rt }))) = wkSpec E ih x o s rt B := by
  unfold wkSpec; rw [hp, hr, ha]; cases p <;> cases r <;> rfl
theorem wk_R {E : Env} {ih : Job → RR} {x : Ctx} {o : Oper} {s : St} {rt : Tr AV} {B : Hp} {r : Option AV} (hp : aPure E rt o = none) (hr : aRead E rt o B = r) (ha : aAllocF E rt o = none) :
    wR r (wkFire (fireOp E ih x o { s with tm := rt })) = wkSpec E ih x o s rt B := by
  unfold wkSpec; rw [hp, hr, ha]; cases r <;> rfl
theorem wk_A {E : Env} {ih : Job → RR} {x : Ctx} {o : Oper} {s : St} {rt : Tr AV} {B : Hp} {a : Option (AObj × (Nat → AV))} (hp : aPure E rt o = none) (hr : aRead E rt o B = none) (ha : aAllocF E rt o = a) :
    wA a (wkFire (fireOp E ih x o { s with tm := rt })) = wkSpec E ih x o s rt B := by
  unfold wkSpec; rw [hp, hr, ha]; cases a <;> rfl
theorem wk_F {E : Env} {ih : Job → RR} {x : Ctx} {o : Oper} {s : St} {rt : Tr AV} {B : Hp} (hp : aPure E rt o = none) (hr : aRead E rt o B = none) (ha : aAllocF E rt o = none) :
    wkFire (fireOp E ih x o { s with tm := rt }) = wkSpec E ih x o s rt B := by
  unfold wkSpec; rw [hp, hr, ha]
abbrev WT := Env → Tr AV → Hp → WK → WK
def w_move (a : Operand) (E : Env) (rt : Tr AV) (_ : Hp) (f : WK) : WK := wP (opvQ E rt a) f
def w_pick (a b c : Operand) (E : Env) (rt : Tr AV) (_ : Hp) (f : WK) : WK := wP (aPure_pick E rt a b c) f
def w_build (t : TypeId) (a : Array (Nat × Operand)) (E : Env) (rt : Tr AV) (_ : Hp) (f : WK) : WK := wP (aPure_build E rt t a) f
def w_nilCheck (a : Operand) (E : Env) (rt : Tr AV) (_ : Hp) (f : WK) : WK := wP (aPure_nilCheck E rt a) f
def w_binOp (op : BinOp) (t : TypeId) (a b : Operand) (_ : TypeId) (E : Env) (rt : Tr AV) (B : Hp) (f : WK) : WK := wP (aPure_binOp E rt op a b) (wR (aRead_binOp E rt B op t a b) f)
def w_unOp (op : UnOp) (_ : TypeId) (a : Operand) (E : Env) (rt : Tr AV) (_ : Hp) (f : WK) : WK := wP (aPure_unOp E rt op a) f
def w_convert (t u : TypeId) (a : Operand) (E : Env) (rt : Tr AV) (B : Hp) (f : WK) : WK := wP (aPure_convert E rt t u a) (wR (aRead_convert E rt B t u a) f)
def w_makeInterface (t : TypeId) (a : Operand) (E : Env) (rt : Tr AV) (_ : Hp) (f : WK) : WK := wP (aPure_makeInterface E rt t a) f
def w_makeFunc (g : Fn) (a b : Array Operand) (E : Env) (rt : Tr AV) (_ : Hp) (f : WK) : WK := wP (aPure_makeFunc E rt g a b) f
def w_slice (t : TypeId) (a : Operand) (l h m : Option Operand) (E : Env) (rt : Tr AV) (_ : Hp) (f : WK) : WK := wP (aPure_slice E rt t a l h m) f
def w_fieldAddr (t : TypeId) (a : Operand) (n : Nat) (E : Env) (rt : Tr AV) (_ : Hp) (f : WK) : WK := wP (aPure_fieldAddr E rt t a n) f
def w_field (t : TypeId) (a : Operand) (n : Nat) (E : Env) (rt : Tr AV) (_ : Hp) (f : WK) : WK := wP (aPure_field E rt t a n) f
def w_indexAddr (t : TypeId) (a b : Operand) (E : Env) (rt : Tr AV) (_ : Hp) (f : WK) : WK := wP (aPure_indexAddr E rt t a b) f
def w_index (t : TypeId) (a b : Operand) (E : Env) (rt : Tr AV) (_ : Hp) (f : WK) : WK := wP (aPure_index E rt t a b) f
def w_typeAssert (a : Operand) (_ : TypeId) (t : TypeId) (ok : Bool) (E : Env) (rt : Tr AV) (_ : Hp) (f : WK) : WK := wP (aPure_typeAssert E rt a t ok) f
def w_extract (a : Operand) (n : Nat) (E : Env) (rt : Tr AV) (_ : Hp) (f : WK) : WK := wP (aPure_extract E rt a n) f
def w_call (c : Call) (E : Env) (rt : Tr AV) (B : Hp) (f : WK) : WK := wP (aPure_call E rt c) (wR (aRead_call E rt B c) f)
def w_load (t : TypeId) (a : Operand) (E : Env) (rt : Tr AV) (B : Hp) (f : WK) : WK := wR (aRead_load E rt B t a) f
def w_lookup (t : TypeId) (a b : Operand) (ok : Bool) (E : Env) (rt : Tr AV) (B : Hp) (f : WK) : WK := wR (aRead_lookup E rt B t a b ok) f
def w_entry (a : Operand) (E : Env) (rt : Tr AV) (B : Hp) (f : WK) : WK := wR (aRead_entry E rt B a) f
def w_alloc (t : TypeId) (E : Env) (rt : Tr AV) (_ : Hp) (f : WK) : WK := wA (aAlloc_alloc E rt ⟨.e, 0⟩ t) f
def w_box (t : TypeId) (a : Operand) (E : Env) (rt : Tr AV) (_ : Hp) (f : WK) : WK := wA (aAlloc_box E rt ⟨.e, 0⟩ t a) f
def w_buildSlice (t : TypeId) (n : Nat) (a : Array (Nat × Operand)) (E : Env) (rt : Tr AV) (_ : Hp) (f : WK) : WK := wA (aAlloc_buildSlice E rt ⟨.e, 0⟩ t n a) f
def w_makeSlice (t : TypeId) (a b : Operand) (E : Env) (rt : Tr AV) (_ : Hp) (f : WK) : WK := wA (aAlloc_makeSlice E rt ⟨.e, 0⟩ t a b) f
def w_makeMap (_ : TypeId) (a : Option Operand) (E : Env) (rt : Tr AV) (_ : Hp) (f : WK) : WK := wA (aAlloc_makeMap E rt ⟨.e, 0⟩ a) f
def wkQ (E : Env) (ih : Job → RR) (x : Ctx) (o : Oper) (s : St) (rt : Tr AV) (B : Hp) : WK :=
  @Op.rec (fun _ => WT) (w_move) (w_move) (w_pick) (w_alloc) (w_box) (w_build) (w_buildSlice) (fun _ _ _ _ => fun _ _ _ f => f) (w_load) (fun _ _ _ => fun _ _ _ f => f) (fun _ => fun _ _ _ f => f) (fun _ => fun _ _ _ f => f) (w_nilCheck) (w_binOp) (w_unOp) (w_convert) (fun _ _ => fun _ _ _ f => f) (w_makeInterface) (w_makeFunc) (w_makeMap) (fun _ _ => fun _ _ _ f => f) (w_makeSlice) (w_slice) (w_fieldAddr) (w_field) (w_indexAddr) (w_index) (w_lookup) (fun _ _ _ _ => fun _ _ _ f => f) (fun _ _ _ => fun _ _ _ f => f) (fun _ _ _ _ => fun _ _ _ f => f) (fun _ _ => fun _ _ _ f => f) (fun _ _ => fun _ _ _ f => f) (w_entry) (w_typeAssert) (w_extract) (w_call) (fun _ => fun _ _ _ f => f) (fun _ => fun _ _ _ f => f) (fun _ => fun _ _ _ f => f) (fun _ _ => fun _ _ _ f => f) (fun _ _ _ => fun _ _ _ f => f) (fun _ _ => fun _ _ _ f => f)  o.op E rt B (wkFire (fireQ E ih x o (@St.rec (fun _ => St) (fun _ sz df pm hp => ⟨rt, sz, df, pm, hp⟩) s)))
theorem wkQ_eq (E : Env) (ih : Job → RR) (x : Ctx) (o : Oper) (s : St) (rt : Tr AV) (B : Hp) : wkQ E ih x o s rt B = wkSpec E ih x o s rt B := by
  unfold wkQ
  rw [fireQ_eq]
  obtain ⟨dst, op, ty, pos, after, guard⟩ := o
  cases op with
  | move a => exact wk_P (opvQ_eq _ _ _).symm rfl rfl
  | assign a => exact wk_P (opvQ_eq _ _ _).symm rfl rfl
  | pick a b c => exact wk_P rfl rfl rfl
  | build t a => exact wk_P rfl rfl rfl
  | nilCheck a => exact wk_P (aPure_nilCheck_eq E rt a).symm rfl rfl
  | binOp op t a b u => exact wk_PR (aPure_binOp_eq E rt op a b).symm rfl rfl
  | unOp op t a => exact wk_P (aPure_unOp_eq E rt op a).symm rfl rfl
  | convert t u a => exact wk_PR rfl rfl rfl
  | makeInterface t a => exact wk_P (aPure_makeInterface_eq E rt t a).symm rfl rfl
  | makeFunc f a b => exact wk_P rfl rfl rfl
  | slice t a l h m => exact wk_P rfl rfl rfl
  | fieldAddr t a n => exact wk_P (aPure_fieldAddr_eq E rt t a n).symm rfl rfl
  | field t a n => exact wk_P rfl rfl rfl
  | indexAddr t a b => exact wk_P (aPure_indexAddr_eq E rt t a b).symm rfl rfl
  | index t a b => exact wk_P rfl rfl rfl
  | typeAssert a t u ok => exact wk_P rfl rfl rfl
  | extract a n => exact wk_P (aPure_extract_eq E rt a n).symm rfl rfl
  | call c => exact wk_PR (aPure_call_eq E rt c).symm rfl rfl
  | load t a => exact wk_R rfl (aRead_load_eq E rt B t a).symm rfl
  | lookup t a b ok => exact wk_R rfl rfl rfl
  | entry a => exact wk_R rfl rfl rfl
  | alloc t => exact wk_A rfl rfl (aAlloc_alloc_eq E rt ⟨.e, 0⟩ t).symm
  | box t a => exact wk_A rfl rfl rfl
  | buildSlice t n a => exact wk_A rfl rfl rfl
  | makeSlice t a b => exact wk_A rfl rfl rfl
  | makeMap t a => exact wk_A rfl rfl rfl
  | _ => exact wk_F rfl rfl rfl
abbrev KW := List Nat → Nat → Hp → St → Option Walk
def ww_pure (v : AV) (_ : Env) (_ : List Oper) (_ : Tr AV) (o : Oper) (_ : List Oper) (k : KW) (_ : Nat) (ms : List Nat) (j : Nat) (B : Hp) (s : St) (_ : Tr AV) : Option Walk := k ms (j + 1) B (putQ s o.dst v)
def ww_read (v : AV) (_ : Env) (_ : List Oper) (_ : Tr AV) (o : Oper) (_ : List Oper) (k : KW) (m : Nat) (ms : List Nat) (j : Nat) (B : Hp) (s : St) (rt : Tr AV) : Option Walk :=
  bindO (k ms (j + 1) B (putQ s o.dst v)) fun w => some (w.addRead ⟨j, m, o, rt, v⟩)
def ww_alloc (ob : AObj) (g : Nat → AV) (_ : Env) (_ : List Oper) (_ : Tr AV) (o : Oper) (_ : List Oper) (k : KW) (_ : Nat) (ms : List Nat) (j : Nat) (B : Hp) (s : St) (_ : Tr AV) : Option Walk := @St.rec (fun _ => Option Walk) (fun tm sz df pm hp => k ms (j + 1) B (putQ ⟨tm, sz, df, pm, hp.pushQ ob⟩ o.dst (g hp.nx))) s
def ww_eff (v : AV) (df : List ADef) (pm : AMode) (h : Hp) (_ : Env) (_ : List Oper) (_ : Tr AV) (o : Oper) (_ : List Oper) (k : KW) (m : Nat) (ms : List Nat) (j : Nat) (_ : Hp) (s : St) (_ : Tr AV) : Option Walk :=
  ifB (Nat.ble s.hp.nx h.nx) (bindO (k ms (j + 1) h (putQ (dphQ s df pm h) o.dst v)) fun w => some (w.addEff j m h)) none
def ww_fell (ch : List APan) (pm : AMode) (h : Hp) (E : Env) (all : List Oper) (tm0 : Tr AV) (_ : Oper) (os : List Oper) (_ : KW) (m : Nat) (ms : List Nat) (j : Nat) (B : Hp) (s : St) (_ : Tr AV) : Option Walk :=
  (restW E all j B os ms (j + 1) s).map fun rds => ⟨rds, [(j, m)], [], some j, .out (.panic ch) { s with tm := tm0, pm := pm, hp := h }⟩
def ww_bad (_ : Env) (_ : List Oper) (_ : Tr AV) (_ : Oper) (_ : List Oper) (_ : KW) (_ : Nat) (_ : List Nat) (_ : Nat) (_ : Hp) (_ : St) (_ : Tr AV) : Option Walk := none
def wwGo (w : WK) (E : Env) (all : List Oper) (tm0 : Tr AV) (o : Oper) (os : List Oper) (k : KW) (m : Nat) (ms : List Nat) (j : Nat) (B : Hp) (s : St) (rt : Tr AV) : Option Walk :=
  @WK.rec (fun _ => Env → List Oper → Tr AV → Oper → List Oper → KW → Nat → List Nat → Nat → Hp → St → Tr AV → Option Walk) ww_pure ww_read ww_alloc ww_eff ww_fell ww_bad w E all tm0 o os k m ms j B s rt
def ww_m (E : Env) (ih : Job → RR) (x : Ctx) (all : List Oper) (tm0 : Tr AV) (o : Oper) (os : List Oper) (k : KW) (m : Nat) (ms : List Nat) (j : Nat) (B : Hp) (s : St) : Option Walk :=
  ifB (wantQ all s.tm o) (bindO (restrQ s.hp.nx s.tm o) fun rt => wwGo (wkQ E ih x o s rt B) E all tm0 o os k m ms j B s rt) (k ms (j + 1) B (putQ s o.dst .undef))
def ww_cons (E : Env) (ih : Job → RR) (x : Ctx) (all : List Oper) (tm0 : Tr AV) (o : Oper) (os : List Oper) (k : KW) (ms : List Nat) (j : Nat) (B : Hp) (s : St) : Option Walk :=
  @List.rec Nat (fun _ => Option Walk) none (fun m ms _ => ww_m E ih x all tm0 o os k m ms j B s) ms
def ww_nil (_ : List Nat) (_ : Nat) (_ : Hp) (s : St) : Option Walk := some ⟨[], [], [], none, .out .normal s⟩
def walkWQ (E : Env) (ih : Job → RR) (x : Ctx) (all : List Oper) (tm0 : Tr AV) (l : List Oper) : KW := @List.rec Oper (fun _ => KW) ww_nil (ww_cons E ih x all tm0) l
theorem walkWQ_eq (E : Env) (ih : Job → RR) (x : Ctx) (all : List Oper) (tm0 : Tr AV) (l : List Oper) : ∀ ms j B s, walkWQ E ih x all tm0 l ms j B s = walkW E ih x all tm0 l ms j B s := by
  induction l with
  | nil => intro ms j B s; cases ms <;> rfl
  | cons o os ik =>
    intro ms j B s
    cases ms with
    | nil => rfl
    | cons m ms =>
      have ik' : walkWQ E ih x all tm0 os = walkW E ih x all tm0 os := funext fun ms => funext fun j => funext fun B => funext fun s => ik ms j B s
      show ww_m E ih x all tm0 o os (walkWQ E ih x all tm0 os) m ms j B s = _
      rw [ik']
      unfold ww_m
      conv => rhs; unfold walkW
      rw [wantQ_eq, putQ_eq]
      cases wanted all s.tm o with
      | false => rfl
      | true =>
        rw [ifB_true, restrQ_eq]
        cases restr s.hp.nx s.tm o with
        | none => rfl
        | some rt =>
          show wwGo (wkQ E ih x o s rt B) E all tm0 o os (walkW E ih x all tm0 os) m ms j B s rt = _
          rw [wkQ_eq]
          unfold wkSpec
          simp only []
          cases aPure E rt o with
          | some v => show walkW E ih x all tm0 os ms (j + 1) B (putQ s o.dst v) = _; rw [putQ_eq]
          | none =>
            simp only []
            cases aRead E rt o B with
            | some v =>
              show bindO (walkW E ih x all tm0 os ms (j + 1) B (putQ s o.dst v)) (fun w => some (w.addRead ⟨j, m, o, rt, v⟩)) = (walkW E ih x all tm0 os ms (j + 1) B (s.put o.dst v)).map (.addRead ⟨j, m, o, rt, v⟩)
              rw [putQ_eq]
              cases walkW E ih x all tm0 os ms (j + 1) B (s.put o.dst v) <;> rfl
            | none =>
              simp only []
              cases aAllocF E rt o with
              | some q => obtain ⟨ob, g⟩ := q; show walkW E ih x all tm0 os ms (j + 1) B (putQ { s with hp := s.hp.pushQ ob } o.dst (g s.hp.nx)) = _; rw [putQ_eq, Hp.pushQ_eq]
              | none =>
                simp only []
                cases fireOp E ih x o { s with tm := rt } with
                | none => rfl
                | some l => cases l with
                  | nil => rfl
                  | cons a as =>
                    obtain ⟨c, f⟩ := a
                    cases as with
                    | cons b bs => cases f <;> rfl
                    | nil => cases f with
                      | val v df pm h =>
                        show ifB (Nat.ble s.hp.nx h.nx) (bindO (walkW E ih x all tm0 os ms (j + 1) h (putQ (dphQ s df pm h) o.dst v)) fun w => some (w.addEff j m h)) none = (match Nat.ble s.hp.nx h.nx with
                          | true => (walkW E ih x all tm0 os ms (j + 1) h (s.fired o.dst v df pm h)).map (.addEff j m h)
                          | false => none)
                        rw [putQ_eq]
                        cases Nat.ble s.hp.nx h.nx with
                        | false => rfl
                        | true =>
                          show bindO (walkW E ih x all tm0 os ms (j + 1) h (s.fired o.dst v df pm h)) (fun w => some (w.addEff j m h)) = (walkW E ih x all tm0 os ms (j + 1) h (s.fired o.dst v df pm h)).map (.addEff j m h)
                          cases walkW E ih x all tm0 os ms (j + 1) h (s.fired o.dst v df pm h) <;> rfl
                      | fell ch pm h => rfl

def aReadQ (E : Env) (tm : Tr AV) (o : Oper) (h : Hp) : Option AV :=
  @Op.rec (fun _ => Env → Tr AV → Hp → Option AV) (fun _ => fun _ _ _ => none) (fun _ => fun _ _ _ => none) (fun _ _ _ => fun _ _ _ => none) (fun _ => fun _ _ _ => none) (fun _ _ => fun _ _ _ => none) (fun _ _ => fun _ _ _ => none) (fun _ _ _ => fun _ _ _ => none) (fun _ _ _ _ => fun _ _ _ => none) (fun t x E tm h => aRead_load E tm h t x) (fun _ _ _ => fun _ _ _ => none) (fun _ => fun _ _ _ => none) (fun _ => fun _ _ _ => none) (fun _ => fun _ _ _ => none) (fun op t x y _ E tm h => aRead_binOp E tm h op t x y) (fun _ _ _ => fun _ _ _ => none) (fun t u x E tm h => aRead_convert E tm h t u x) (fun _ _ => fun _ _ _ => none) (fun _ _ => fun _ _ _ => none) (fun _ _ _ => fun _ _ _ => none) (fun _ _ => fun _ _ _ => none) (fun _ _ => fun _ _ _ => none) (fun _ _ _ => fun _ _ _ => none) (fun _ _ _ _ _ => fun _ _ _ => none) (fun _ _ _ => fun _ _ _ => none) (fun _ _ _ => fun _ _ _ => none) (fun _ _ _ => fun _ _ _ => none) (fun _ _ _ => fun _ _ _ => none) (fun t m k ok E tm h => aRead_lookup E tm h t m k ok) (fun _ _ _ _ => fun _ _ _ => none) (fun _ _ _ => fun _ _ _ => none) (fun _ _ _ _ => fun _ _ _ => none) (fun _ _ => fun _ _ _ => none) (fun _ _ => fun _ _ _ => none) (fun it E tm h => aRead_entry E tm h it) (fun _ _ _ _ => fun _ _ _ => none) (fun _ _ => fun _ _ _ => none) (fun c E tm h => aRead_call E tm h c) (fun _ => fun _ _ _ => none) (fun _ => fun _ _ _ => none) (fun _ => fun _ _ _ => none) (fun _ _ => fun _ _ _ => none) (fun _ _ _ => fun _ _ _ => none) (fun _ _ => fun _ _ _ => none)  o.op E tm h
theorem aReadQ_eq (E : Env) (tm : Tr AV) (o : Oper) (h : Hp) : aReadQ E tm o h = aRead E tm o h := by
  obtain ⟨dst, op, ty, pos, after, guard⟩ := o
  cases op with
  | load t x => exact aRead_load_eq E tm h t x
  | _ => rfl
def sv_int (k : IntKind) (a : Int) (y : Value) : Bool := @Option.rec (IntKind × Int) (fun _ => Bool) false (fun p => ifB (eqK k p.1) (eqI a p.2) false) (vInt y)
def sameVQ (x y : Value) : Bool := @Value.rec (fun _ => Value → Bool) (fun _ => Unit) (fun _ => Unit) (fun a y => sameV (.bool a) y) (sv_int) (fun k a y => sameV (.float k a) y) (fun k a b y => sameV (.complex k a b) y) (fun a y => sameV (.string a) y) (fun a y => sameV (.pointer a) y) (fun a b c y => sameV (.slice a b c) y) (fun a y => sameV (.map a) y) (fun a y => sameV (.chan a) y) (fun a b c _ _ y => sameV (.func a b c) y) (fun y => sameV .nilFunc y) (fun a b _ y => sameV (.iface a b) y) (fun y => sameV .nilIface y) (fun a _ y => sameV (.agg a) y) (fun a _ y => sameV (.tuple a) y) (fun _ _ => ()) () (fun _ _ _ _ => ()) x y
theorem sameVQ_eq (x y : Value) : sameVQ x y = sameV x y := by
  cases x with
  | int k a =>
    show sv_int k a y = _
    cases y with
    | int k' b =>
      show ifB (eqK k k') (eqI a b) false = (decide (k = k') && decide (a = b))
      rw [eqK_eq, eqI_eq]
      have : (a == b) = decide (a = b) := by rw [Bool.eq_iff_iff]; simp
      rw [this]; cases decide (k = k') <;> rfl
    | _ => rfl
  | _ => rfl
def sa_v (x : Value) (b : AV) : Bool := @Option.rec Value (fun _ => Bool) false (fun y => sameVQ x y) (asV b)
def sa_ptr (a o : Nat) (b : AV) : Bool := @Option.rec (Nat × Nat) (fun _ => Bool) false (fun p => ifB (Nat.beq a p.1) (Nat.beq o p.2) false) (asPtr b)
def sameQ (a b : AV) : Bool := @AV.rec (fun _ => AV → Bool) (fun _ => Unit) (sa_v) (fun y => sameAV .sym y) (sa_ptr) (fun a b c d e y => sameAV (.slice a b c d e) y) (fun a y => sameAV (.map a) y) (fun a b c _ _ y => sameAV (.func a b c) y) (fun a y => sameAV (.yield a) y) (fun a b _ y => sameAV (.iface a b) y) (fun a _ y => sameAV (.agg a) y) (fun a _ y => sameAV (.tuple a) y) () (fun _ _ _ _ => ()) a b
theorem sameQ_eq (a b : AV) : sameQ a b = sameAV a b := by
  cases a with
  | v x =>
    show sa_v x b = _
    cases b with
    | v y => show sameVQ x y = _; rw [sameVQ_eq, sameAV]
    | _ => simp [sa_v, asV, sameAV]
  | ptr c o =>
    show sa_ptr c o b = _
    cases b with
    | ptr d p => show ifB (Nat.beq c d) (Nat.beq o p) false = _; rw [sameAV]; cases Nat.beq c d <;> rfl
    | _ => simp [sa_ptr, asPtr, sameAV]
  | _ => rfl
def readsQ (E : Env) (tm : Tr AV) (o : Oper) (v : AV) (h : Hp) : Bool := ifB (lowOpsQ h.nx tm o.op.operands.toList) (@Option.rec AV (fun _ => Bool) false (fun w => sameQ v w) (aReadQ E tm o h)) false
theorem readsQ_eq (E : Env) (tm : Tr AV) (o : Oper) (v : AV) (h : Hp) : readsQ E tm o v h = readsAs E tm o v h := by
  unfold readsQ readsAs
  rw [lowOpsQ_eq, aReadQ_eq]
  cases lowOps h.nx tm o.op.operands.toList with
  | false => rfl
  | true => cases aRead E tm o h with
    | none => rfl
    | some w => exact sameQ_eq v w
def inTurnQ (l : List (Nat × Nat)) : Bool := @List.rec (Nat × Nat) (fun _ => Bool) true (fun q r k => ifB (allQ (fun p => bit p.2 q.1) r) k false) l
theorem inTurnQ_eq (l : List (Nat × Nat)) : inTurnQ l = inTurn l := by
  induction l with
  | nil => rfl
  | cons q r ih =>
    obtain ⟨e, m⟩ := q
    show ifB (allQ (fun p => bit p.2 e) r) (inTurnQ r) false = (r.all (fun p => bit p.2 e) && inTurn r)
    rw [allQ_eq, ih]; cases r.all (fun p => bit p.2 e) <;> rfl
def anyQ {α : Type} (p : α → Bool) (l : List α) : Bool := @List.rec α (fun _ => Bool) false (fun a _ r => ifB (p a) true r) l
theorem anyQ_eq {α : Type} (p : α → Bool) (l : List α) : anyQ p l = l.any p := by
  induction l with
  | nil => rfl
  | cons a as ih =>
    show ifB (p a) true (anyQ p as) = (p a || as.any p)
    rw [ih]; cases p a <;> rfl
def st_e (i m l : Nat) (e : Nat × Nat) : Bool := ifB (Nat.blt e.1 l) (bit e.2 i) (bit m e.1)
theorem st_e_eq (i m l : Nat) (e : Nat × Nat) : st_e i m l e = ((Nat.blt e.1 l && bit e.2 i) || (Nat.ble l e.1 && bit m e.1)) := by
  unfold st_e
  cases h : Nat.blt e.1 l with
  | true =>
    have h1 : e.1 < l := by simpa [Nat.blt_eq] using h
    have : Nat.ble l e.1 = false := by
      cases hh : Nat.ble l e.1 with
      | false => rfl
      | true => have := Nat.le_of_ble_eq_true hh; omega
    rw [this, ifB_true]
    cases bit e.2 i <;> rfl
  | false =>
    have : Nat.ble l e.1 = true := by
      have h1 : ¬ e.1 < l := fun q => by rw [← Nat.blt_eq] at q; rw [h] at q; cases q
      exact Nat.ble_eq_true_of_le (by omega)
    rw [this, ifB_false]; rfl
def steadyQ (E : Env) (effs : List (Nat × Nat)) (levs : List (Nat × Hp)) (r : Rd) : Bool :=
  allQ (fun l => ifB (anyQ (st_e r.i r.m l.1) effs) true (readsQ E r.tm r.o r.v l.2)) levs
theorem steadyQ_eq (E : Env) (effs : List (Nat × Nat)) (levs : List (Nat × Hp)) (r : Rd) : steadyQ E effs levs r = steady E effs levs r := by
  unfold steadyQ steady
  rw [allQ_eq]
  congr 1
  funext l
  rw [anyQ_eq, readsQ_eq]
  have : st_e r.i r.m l.1 = fun e => (Nat.blt e.1 l.1 && bit e.2 r.i) || (Nat.ble l.1 e.1 && bit r.m e.1) := funext (st_e_eq r.i r.m l.1)
  rw [this]
  cases effs.any (fun e => (Nat.blt e.1 l.1 && bit e.2 r.i) || (Nat.ble l.1 e.1 && bit r.m e.1)) <;> rfl
def fallQ (all : List Oper) (x : Ctx) (f : Option Nat) : Bool := @Option.rec Nat (fun _ => Bool) true (fun _ => (dsts all).all (fun d => !memN d x.res)) f
def drawEnd (E : Env) (x : Ctx) (all : List Oper) (h : Hp) (w : Walk) : Option Res :=
  ifB (inTurnQ w.effs) (ifB (allQ (steadyQ E w.effs ((0, h) :: w.levs)) w.reads) (ifB (fallQ all x w.fall) (some w.last) none) none) none
def drawQ (E : Env) (ih : Job → RR) (x : Ctx) (all : List Oper) (s : St) : Option Res :=
  ifB (drawableQ all) (ifB (allQ (fun d => Nat.blt d s.sz) (dsts all)) (bindO (walkWQ E ih x all s.tm all (befsOf all []) 0 s.hp s) (drawEnd E x all s.hp)) none) none
theorem drawQ_eq (E : Env) (ih : Job → RR) (x : Ctx) (all : List Oper) (s : St) : drawQ E ih x all s = drawW E ih x all s := by
  unfold drawQ drawW
  rw [drawableQ_eq, allQ_eq, walkWQ_eq]
  cases drawable all with
  | false => rfl
  | true =>
    cases (dsts all).all (fun d => Nat.blt d s.sz) with
    | false => rfl
    | true =>
      rw [ifB_true, ifB_true]
      show _ = (match walkW E ih x all s.tm all (befsOf all []) 0 s.hp s with
        | some w => match inTurn w.effs && w.reads.all (steady E w.effs ((0, s.hp) :: w.levs)) && (match w.fall with
            | none => true
            | some _ => (dsts all).all (fun d => !memN d x.res)) with
          | true => some w.last
          | false => none
        | none => none)
      cases walkW E ih x all s.tm all (befsOf all []) 0 s.hp s with
      | none => rfl
      | some w =>
        show drawEnd E x all s.hp w = (match inTurn w.effs && w.reads.all (steady E w.effs ((0, s.hp) :: w.levs)) && (match w.fall with
            | none => true
            | some _ => (dsts all).all (fun d => !memN d x.res)) with
          | true => some w.last
          | false => none)
        unfold drawEnd
        have h1 : steadyQ E w.effs ((0, s.hp) :: w.levs) = steady E w.effs ((0, s.hp) :: w.levs) := funext (steadyQ_eq E _ _)
        have h2 : fallQ all x w.fall = (match w.fall with
            | none => true
            | some _ => (dsts all).all (fun d => !memN d x.res)) := by cases w.fall <;> rfl
        rw [inTurnQ_eq, allQ_eq, h1, h2]
        generalize (match w.fall with
            | none => true
            | some _ => (dsts all).all (fun d => !memN d x.res)) = c
        cases inTurn w.effs <;> cases w.reads.all (steady E w.effs ((0, s.hp) :: w.levs)) <;> cases c <;> rfl
/-! one step -/
def sk_out (e : AExit) (s : St) (ih : Job → RR) (x : Ctx) (b : Code) : RR :=
  @AExit.rec (fun _ => (Job → RR) → Ctx → Code → St → RR) (fun ih x b s => ih (.code x b s)) (fun i _ _ _ s => some [.out (.exit i) s]) (fun i _ _ _ s => some [.out (.goto i) s]) (fun _ _ _ s => some [.out .ret s]) (fun ch _ _ _ s => some [.out (.panic ch) s])  e ih x b s
def seqK (ih : Job → RR) (x : Ctx) (b : Code) (r : Res) : RR := @Res.rec (fun _ => (Job → RR) → Ctx → Code → RR) sk_out (fun e pm h _ _ _ => some [.fin e pm h]) r ih x b
def bk_out (e : AExit) (s : St) (id : Nat) : RR :=
  @AExit.rec (fun _ => Nat → St → RR) (fun _ s => some [.out .normal s]) (fun i id s => ifB (Nat.beq i id) (some [.out .normal s]) (some [.out (.exit i) s])) (fun i _ s => some [.out (.goto i) s]) (fun _ s => some [.out .ret s]) (fun ch _ s => some [.out (.panic ch) s])  e id s
def blkK (id : Nat) (r : Res) : RR := @Res.rec (fun _ => Nat → RR) bk_out (fun e pm h _ => some [.fin e pm h]) r id
def scoK (ih : Job → RR) (x : Ctx) (body : Code) (r : Res) : RR :=
  match r with
    | .out (.goto l) s => match findLabel body l with
      | some rest => ih (.scope x body rest s)
      | none => some [.out (.goto l) s]
    | r => some [r]
abbrev CT := Ctx → St → Env → (Job → RR) → RR
def c_skip (_ : Ctx) (s : St) (_ : Env) (_ : Job → RR) : RR := some [.out .normal s]
def c_region (_ : Nat) (ops : Array Oper) (draw : Bool) (x : Ctx) (s : St) (E : Env) (ih : Job → RR) : RR := ifB draw (oneR (drawQ E ih x ops.toList s)) (runOpsQ E ih x ops.toList ops.toList s)
def c_seq (a b : Code) (_ _ : CT) (x : Ctx) (s : St) (_ : Env) (ih : Job → RR) : RR := thenQ (ih (.code x a s)) (seqK ih x b)
def c_cond (c : Operand) (a b : Code) (_ _ : CT) (x : Ctx) (s : St) (E : Env) (ih : Job → RR) : RR := bindO (opvQ E s.tm c) fun v => bindO (asBool v) fun t => ifB t (ih (.code x a s)) (ih (.code x b s))
def c_block (id : Nat) (c : Code) (_ : CT) (x : Ctx) (s : St) (_ : Env) (ih : Job → RR) : RR := thenQ (ih (.code x c s)) (blkK id)
def c_loop (c : Code) (_ : CT) (x : Ctx) (s : St) (_ : Env) (ih : Job → RR) : RR := thenQ (ih (.code x c s)) (seqK ih x (.loop c))
def c_rf (f : Operand) (params : Array Tmp) (assign body : Code) (_ _ : CT) (x : Ctx) (s : St) (E : Env) (ih : Job → RR) : RR := evBody E ih (.code x (.rangeFunc f params assign body) s)
def c_exit (i : Nat) (_ : Ctx) (s : St) (_ : Env) (_ : Job → RR) : RR := some [.out (.exit i) s]
def c_scope (c : Code) (_ : CT) (x : Ctx) (s : St) (_ : Env) (ih : Job → RR) : RR := ih (.scope x c c s)
def c_label (_ : Nat) (_ : Ctx) (s : St) (_ : Env) (_ : Job → RR) : RR := some [.out .normal s]
def c_goto (i : Nat) (_ : Ctx) (s : St) (_ : Env) (_ : Job → RR) : RR := some [.out (.goto i) s]
def c_ret (_ : Ctx) (s : St) (_ : Env) (_ : Job → RR) : RR := some [.out .ret s]
def c_no (_ : String) (_ : Ctx) (_ : St) (_ : Env) (_ : Job → RR) : RR := none
def j_code (x : Ctx) (c : Code) (s : St) (E : Env) (ih : Job → RR) : RR :=
  @Code.rec (fun _ => CT) (c_skip) (c_region) (c_seq) (c_cond) (c_block) (c_loop) (c_rf) (c_exit) (c_scope) (c_label) (c_goto) (c_ret) (c_no)  c x s E ih
def j_scope (x : Ctx) (body cur : Code) (s : St) (_ : Env) (ih : Job → RR) : RR := thenQ (ih (.code x cur s)) (scoK ih x body)
def ck_out (e : AExit) (s : St) (ih : Job → RR) (x : Ctx) (rs : List ResultVar) : RR :=
  @AExit.rec (fun _ => (Job → RR) → Ctx → List ResultVar → St → RR) (fun ih x rs s => ih (.leave x rs .returning s)) (fun _ _ _ _ _ => none) (fun _ _ _ _ _ => none) (fun ih x rs s => ih (.leave x rs .returning s)) (fun ch ih x rs s => ih (.leave x rs (.panicking ch) s))  e ih x rs s
def calK (ih : Job → RR) (x : Ctx) (rs : List ResultVar) (r : Res) : RR := @Res.rec (fun _ => (Job → RR) → Ctx → List ResultVar → RR) ck_out (fun _ _ _ _ _ _ => none) r ih x rs
def tmQ (l : List AV) : Nat → Tr AV → Tr AV := @List.rec AV (fun _ => Nat → Tr AV → Tr AV) (fun _ t => t) (fun a _ k i t => k (i + 1) (t.setQ i a)) l
theorem tmQ_eq (l : List AV) : ∀ i t, tmQ l i t = tmOf l i t := by
  induction l with
  | nil => intro i t; rfl
  | cons a as ih => intro i t; show tmQ as (i + 1) (t.setQ i a) = tmOf as (i + 1) (t.set i a); rw [ih, Tr.setQ_eq]
def ctxOf (f : FuncId) (fn : Func) (dfd : Bool) : Ctx := { fn := f, dfd := dfd, rnd := none, res := resTmps fn.results.toList }
def callIn (f : FuncId) (fn : Func) (c : Code) (dfd : Bool) (args : List AV) (pm : AMode) (h : Hp) (ih : Job → RR) : RR :=
  thenQ (ih (.code (ctxOf f fn dfd) c { tm := tmQ args 0 .e, sz := Nat.max (lenQ args) fn.ntmps, df := [], pm := pm, hp := h })) (calK ih (ctxOf f fn dfd) fn.results.toList)
def meetQ (n0 : Nat) (r : RR) : RR := bindO r fun l => @List.rec Res (fun _ => RR) (some []) (fun a as _ => @List.rec Res (fun _ => RR) (some [a]) (fun _ _ _ => meetAll n0 a as) as) l
theorem meetQ_eq (n0 : Nat) (r : RR) : meetQ n0 r = meetR n0 r := by
  cases r with
  | none => rfl
  | some l => cases l with
    | nil => rfl
    | cons a as => cases as with
      | nil => rfl
      | cons b bs => rfl
def j_call (dfd : Bool) (f : FuncId) (args : List AV) (pm : AMode) (h : Hp) (E : Env) (ih : Job → RR) : RR :=
  bindO (E.ft.get f) fun fn => bindO fn.body fun c => meetQ h.nx (callIn f fn c dfd args pm h ih)
def j_round (l : Nat) (args : List AV) (h : Hp) (E : Env) (ih : Job → RR) : RR := evBody E ih (.round l args h)
def resQ (E : Env) (tm : Tr AV) (h : Hp) (rs : List ResultVar) : Option (List AV) :=
  @List.rec ResultVar (fun _ => Option (List AV)) (some []) (fun r _ ih => @ResultVar.rec (fun _ => Option (List AV)) (fun t => bindO ih fun l => some (tgetQ tm t :: l)) (fun a t => bindO (asPtr (tgetQ tm a)) fun p => bindO (aLoadQ E h t p.1 p.2) fun v => bindO ih fun l => some (v :: l)) r) rs
theorem resQ_eq (E : Env) (tm : Tr AV) (h : Hp) (rs : List ResultVar) : resQ E tm h rs = aResults E tm h rs := by
  induction rs with
  | nil => rfl
  | cons r rs ih =>
    cases r with
    | tmp t =>
      show bindO (resQ E tm h rs) (fun l => some (tgetQ tm t :: l)) = (aResults E tm h rs).map fun l => tget tm t :: l
      rw [ih, tgetQ_eq]; cases aResults E tm h rs <;> rfl
    | cell a t =>
      show bindO (asPtr (tgetQ tm a)) (fun p => bindO (aLoadQ E h t p.1 p.2) fun v => bindO (resQ E tm h rs) fun l => some (v :: l)) = (match tget tm a with
        | .ptr b off => match aLoad E h t b off, aResults E tm h rs with
          | some v, some l => some (v :: l)
          | _, _ => none
        | _ => none)
      rw [ih, tgetQ_eq]
      cases tget tm a with
      | ptr b off =>
        show bindO (aLoadQ E h t b off) (fun v => bindO (aResults E tm h rs) fun l => some (v :: l)) = (match aLoad E h t b off, aResults E tm h rs with
          | some v, some l => some (v :: l)
          | _, _ => none)
        rw [aLoadQ_eq]
        cases aLoad E h t b off <;> cases aResults E tm h rs <;> rfl
      | _ => rfl
def lv_nil (E : Env) (_ : Job → RR) (_ : Ctx) (rs : List ResultVar) (mode : AMode) (s : St) : RR :=
  @AMode.rec (fun _ => Env → List ResultVar → St → RR) (fun _ _ _ => none) (fun E rs s => bindO (resQ E s.tm s.hp rs) fun l => some [.fin (.ret (oneOf l)) s.pm s.hp]) (fun ch _ _ s => some [.fin (.panic ch) s.pm s.hp])  mode E rs s
def lv_gen (E : Env) (ih : Job → RR) (x : Ctx) (rs : List ResultVar) (mode : AMode) (s : St) : RR := evBody E ih (.leave x rs mode s)
def j_leave (x : Ctx) (rs : List ResultVar) (mode : AMode) (s : St) (E : Env) (ih : Job → RR) : RR :=
  @List.rec ADef (fun _ => Env → (Job → RR) → Ctx → List ResultVar → AMode → St → RR) lv_nil (fun _ _ _ => lv_gen) s.df E ih x rs mode s
def evB (E : Env) (ih : Job → RR) (j : Job) : RR := @Job.rec (fun _ => Env → (Job → RR) → RR) j_code j_scope j_call j_round j_leave j E ih
theorem evB_eq (E : Env) (ih : Job → RR) (j : Job) : evB E ih j = evBody E ih j := by
  cases j with
  | code x c s =>
    cases c with
    | region id ops draw =>
      show ifB draw (oneR (drawQ E ih x ops.toList s)) (runOpsQ E ih x ops.toList ops.toList s) = _
      rw [runOpsQ_eq, drawQ_eq]; cases draw <;> rfl
    | seq a b =>
      show thenQ (ih (.code x a s)) (seqK ih x b) = _
      rw [thenQ_eq]
      show _ = andThen (ih (.code x a s)) _
      congr 1; funext r
      cases r with
      | fin e pm h => rfl
      | out e s => cases e <;> rfl
    | cond c a b =>
      show bindO (opvQ E s.tm c) (fun v => bindO (asBool v) fun t => ifB t (ih (.code x a s)) (ih (.code x b s))) = (match opv E s.tm c with
        | some (.v (.bool true)) => ih (.code x a s)
        | some (.v (.bool false)) => ih (.code x b s)
        | _ => none)
      rw [opvQ_eq]
      cases opv E s.tm c with
      | none => rfl
      | some v => cases v with
        | v y => cases y with
          | bool t => cases t <;> rfl
          | _ => rfl
        | _ => rfl
    | block id c =>
      show thenQ (ih (.code x c s)) (blkK id) = _
      rw [thenQ_eq]
      show _ = andThen (ih (.code x c s)) _
      congr 1; funext r
      cases r with
      | fin e pm h => rfl
      | out e s => cases e with
        | exit i =>
          show ifB (Nat.beq i id) (some [Res.out .normal s]) (some [.out (.exit i) s]) = (match Nat.beq i id with | true => some [Res.out .normal s] | false => some [.out (.exit i) s])
          cases Nat.beq i id <;> rfl
        | _ => rfl
    | loop c =>
      show thenQ (ih (.code x c s)) (seqK ih x (.loop c)) = _
      rw [thenQ_eq]
      show _ = andThen (ih (.code x c s)) _
      congr 1; funext r
      cases r with
      | fin e pm h => rfl
      | out e s => cases e <;> rfl
    | _ => rfl
  | scope x body cur s => exact thenQ_eq _ _
  | call dfd f args pm h =>
    show bindO (E.ft.get f) (fun fn => bindO fn.body fun c => meetQ h.nx (callIn f fn c dfd args pm h ih)) = (match E.ft.get f with
      | none => none
      | some fn => match fn.body with
        | none => none
        | some c => _)
    cases E.ft.get f with
    | none => rfl
    | some fn =>
      show bindO fn.body (fun c => meetQ h.nx (callIn f fn c dfd args pm h ih)) = (match fn.body with
        | none => none
        | some c => _)
      cases fn.body with
      | none => rfl
      | some c =>
        show meetQ h.nx (callIn f fn c dfd args pm h ih) = _
        rw [meetQ_eq]
        unfold callIn
        rw [thenQ_eq, tmQ_eq, lenQ_eq]
        show meetR h.nx (andThen _ _) = meetR h.nx (andThen _ _)
        congr 2
        funext r
        cases r with
        | fin e pm h => rfl
        | out e s => cases e <;> rfl
  | round l args h => rfl
  | leave x rs mode s =>
    obtain ⟨tm, sz, df, pm, hp⟩ := s
    cases df with
    | cons d ds => rfl
    | nil =>
      cases mode with
      | run => rfl
      | returning =>
        show bindO (resQ E tm hp rs) (fun l => some [Res.fin (.ret (oneOf l)) pm hp]) = oneR ((aResults E tm hp rs).map fun l => .fin (.ret (oneOf l)) pm hp)
        rw [resQ_eq]; cases aResults E tm hp rs <;> rfl
      | panicking ch => rfl
def ev_s (E : Env) (_ : Nat) (ih : Job → RR) (j : Job) : RR := evB E ih j
def evQ (E : Env) (n : Nat) : Job → RR := @Nat.rec (fun _ => Job → RR) (fun _ => none) (ev_s E) n
theorem evQ_eq (E : Env) (n : Nat) : ∀ j, evQ E n j = ev E n j := by
  induction n with
  | zero => intro j; rfl
  | succ n ih =>
    intro j
    show evB E (evQ E n) j = evBody E (ev E n) j
    rw [evB_eq, funext ih]
end
end Go.Xe
