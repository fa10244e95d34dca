/- The abstract evaluator: a closed run of a Go text, over a heap of its own numbering, whatever order and whatever capacity the model draws. -/
import Derived.Calls
namespace Go.Xe

/-! ### tables by number -/
inductive Tr (α : Type) where
  | e : Tr α
  | n (x : Option α) (l r : Tr α) : Tr α

def Tr.get {α : Type} : Tr α → Nat → Option α
  | .e, _ => none
  | .n x l r, k => match k with
    | 0 => x
    | k + 1 => match Nat.beq (k % 2) 0 with
      | true => l.get (k / 2)
      | false => r.get (k / 2)

def Tr.setF {α : Type} (v : α) : Nat → Nat → Tr α → Tr α
  | 0, _, t => t
  | f + 1, k, t => match k with
    | 0 => match t with
      | .e => .n (some v) .e .e
      | .n _ l r => .n (some v) l r
    | k + 1 => match t with
      | .e => match Nat.beq (k % 2) 0 with
        | true => .n none (Tr.setF v f (k / 2) .e) .e
        | false => .n none .e (Tr.setF v f (k / 2) .e)
      | .n x l r => match Nat.beq (k % 2) 0 with
        | true => .n x (Tr.setF v f (k / 2) l) r
        | false => .n x l (Tr.setF v f (k / 2) r)
def Tr.set {α : Type} (t : Tr α) (k : Nat) (v : α) : Tr α := Tr.setF v (k + 1) k t

def Tr.ofListFrom {α : Type} : Nat → List α → Tr α → Tr α
  | _, [], t => t
  | i, x :: xs, t => Tr.ofListFrom (i + 1) xs (t.set i x)
def Tr.ofList {α : Type} (l : List α) : Tr α := Tr.ofListFrom 0 l .e

/-! ### values -/
inductive AV where
  | v (x : Value)
  /-- one int of which only bounds are known -/
  | sym
  | ptr (b off : Nat)
  | slice (b off len cap : Nat) (opn : Bool)
  | map (b : Nat)
  | func (f : FuncId) (first captured : List AV)
  | yield (l : Nat)
  | iface (t : TypeId) (x : AV)
  | agg (cs : List AV)
  | tuple (cs : List AV)
  deriving Inhabited

def AV.undef : AV := .tuple []

def AV.cells : AV → List AV
  | .agg cs => cs
  | x => [x]

/-- may it stand in one cell? -/
def AV.one : AV → Bool
  | .agg _ | .tuple _ => false
  | _ => true

/-- a value without an address -/
def sc (x : Value) : Option AV :=
  match x with
  | .bool _ | .int _ _ | .float _ _ | .complex _ _ _ | .string _ | .pointer none | .slice none _ _ | .map none | .nilFunc | .nilIface => some (.v x)
  | .func (.func f) first captured => match first.toList, captured.toList with
    | [], [] => some (.func f [] [])
    | _, _ => none
  | _ => none

def scL : List Value → Option (List AV)
  | [] => some []
  | x :: xs => match sc x, scL xs with
    | some a, some as => some (a :: as)
    | _, _ => none

def ofV (x : Value) : Option AV :=
  match x with
  | .agg cs => (scL cs.toList).map .agg
  | .tuple cs => (scL cs.toList).map .tuple
  | .iface t (.agg cs) => (scL cs.toList).map fun l => .iface t (.agg l)
  | .iface t x => (sc x).map (.iface t)
  | x => sc x

inductive ATgt where
  | fn (f : FuncId) (captured : List AV)
  | yield (l : Nat)
  | collected (r : Nat)
  deriving Inhabited
structure ADef where
  target : ATgt
  args : List AV
  deriving Inhabited
structure APan where
  v : AV
  recovered : Bool
  deriving Inhabited
inductive AMode where
  | run
  | returning
  | panicking (chain : List APan)
  deriving Inhabited
structure ALoop where
  state : LoopState
  pending : Option Code
  fn : FuncId
  tm : Tr AV
  sz : Nat
  params : List Tmp
  assign : Code
  body : Code
  defers : Nat
structure AEnt where
  key : AV
  val : AV
  born : Nat
inductive AObj where
  | row (cs : List AV) (elem : TypeId)
  | map (es : List AEnt) (clock : Nat)
  | siter (s : ByteArray) (pos : Nat)
  | miter (m : Option Nat) (since : Nat) (seen : List Nat) (stepped : Nat)
  | loop (l : ALoop)
  | defs (ds : Option (List ADef))
  | dead

structure Hp where
  tr : Tr AObj
  nx : Nat
def Hp.get (h : Hp) (b : Nat) : Option AObj := h.tr.get b
def Hp.set (h : Hp) (b : Nat) (o : AObj) : Hp := ⟨h.tr.set b o, h.nx⟩
def Hp.push (h : Hp) (o : AObj) : Hp := ⟨h.tr.set h.nx o, h.nx + 1⟩

structure Env where
  ft : Tr Func
  tt : Tr TypeInfo
  /-- types whose values may be compared field by field -/
  eq : Tr Unit
  /-- how many package-level variables lie in the memory -/
  ng : Nat
  /-- which they are: of each one's number here, its number in the program -/
  gl : List Nat
  /-- the bounds of the one int that is not known -/
  lo : Int
  hi : Int
  /-- functions without a body that are run here: of each its number and its kind -/
  ex : List (Nat × Nat) := []
def findEx (f : Nat) : List (Nat × Nat) → Option Nat
  | [] => none
  | p :: ps => match Nat.beq p.1 f with
    | true => some p.2
    | false => findEx f ps
/-- what the kinds stand for -/
def extSem : Nat → Array Value → Sem Value
  | 0 => Extern.AbiNoEscape.same
  | 1 => fun _ => do mark .disable; pure Extern.Race.none_
  | 2 => fun _ => do mark .enable; pure Extern.Race.none_
  | 3 => Extern.Race.marked .acquire
  | 4 => Extern.Race.marked .releaseMerge
  | 5 => Extern.Atomic.loadT (.int .u32)
  | 6 => Extern.Atomic.storeT
  | 7 => Extern.Atomic.casT (.int .i32)
  | 8 => Extern.Atomic.update (Op.intArith .add) .i32 true
  | 9 => Extern.BytealgIndexByte.indexByte
  | _ => fun _ => stuck "none"

def Env.und (E : Env) (t : TypeId) : Option TypeDesc :=
  match E.tt.get t with
  | some i => match i.desc with
    | .named _ u => match E.tt.get u with
      | some j => some j.desc
      | none => none
    | d => some d
  | none => none
def Env.size (E : Env) (t : TypeId) : Option Nat :=
  match E.tt.get t with
  | some i => some i.size
  | none => none
def Env.zero (E : Env) (t : TypeId) : Option AV :=
  match E.tt.get t with
  | some i => match i.zero with
    | some z => ofV z
    | none => none
  | none => none
/-- none: no such type; is it a struct or an array? -/
def Env.agg (E : Env) (t : TypeId) : Option Bool :=
  match E.und t with
  | some (.struct _) | some (.array _ _) => some true
  | some _ => some false
  | none => none

/-! ### a frame -/
structure St where
  tm : Tr AV
  sz : Nat
  df : List ADef
  pm : AMode
  hp : Hp
structure Ctx where
  fn : FuncId
  dfd : Bool
  rnd : Option Nat
  res : List Tmp

inductive AExit where
  | normal
  | exit (id : Nat)
  | goto (l : Nat)
  | ret
  | panic (chain : List APan)
inductive AEnd where
  | ret (v : AV)
  | panic (chain : List APan)
inductive Res where
  | out (x : AExit) (s : St)
  | fin (e : AEnd) (pm : AMode) (h : Hp)
inductive Job where
  | code (x : Ctx) (c : Code) (s : St)
  | scope (x : Ctx) (body cur : Code) (s : St)
  | call (dfd : Bool) (f : FuncId) (args : List AV) (pm : AMode) (h : Hp)
  | round (l : Nat) (args : List AV) (h : Hp)
  | leave (x : Ctx) (res : List ResultVar) (mode : AMode) (s : St)

inductive ANext where
  | value (v : AV)
  | skip
  | enter (f : FuncId) (args : List AV)
  | round (l : Nat) (args : List AV)
  | defer (d : ADef)
  | recov
  | panic (v : AV)

def tget (tm : Tr AV) (t : Tmp) : AV := match tm.get t with
  | some v => v
  | none => .undef
def St.put (s : St) (dst : Option Tmp) (v : AV) : St :=
  match dst with
  | some d => match Nat.blt d s.sz with
    | true => { s with tm := s.tm.set d v }
    | false => s
  | none => s

def findG (g : Nat) : List Nat → Nat → Option Nat
  | [], _ => none
  | x :: xs, i => match Nat.beq x g with
    | true => some i
    | false => findG g xs (i + 1)
def Env.glAt (E : Env) (k : Nat) : Nat := E.gl.getD k 0
def opv (E : Env) (tm : Tr AV) : Operand → Option AV
  | .tmp t => some (tget tm t)
  | .const v => ofV v
  | .global g => match findG g E.gl 0 with
    | some k => match Nat.blt k E.ng with
      | true => some (.ptr k 0)
      | false => none
    | none => none
  | .func f => some (.func f [] [])

def opvL (E : Env) (tm : Tr AV) : List Operand → Option (List AV)
  | [] => some []
  | x :: xs => match opv E tm x, opvL E tm xs with
    | some a, some as => some (a :: as)
    | _, _ => none

/-! ### pure operations -/
def Sem.pureRun {α : Type} : Sem α → Option α
  | .pure a => some a
  | _ => none

def bytesEq : List UInt8 → List UInt8 → Bool
  | [], [] => true
  | a :: x, b :: y => match Nat.beq a.toNat b.toNat with
    | true => bytesEq x y
    | false => false
  | _, _ => false

/-- numbers, bools and strings against one another -/
def aBinSc (op : BinOp) (x y : Value) : Option Value :=
  match op, x, y with
  | .shl, .int k a, .int yk b | .shr, .int k a, .int yk b => Sem.pureRun (Op.shift op k a yk b)
  | _, .int k a, .int k' b => match decide (k = k') with
    | true => match op with
      | .add | .sub | .mul => Sem.pureRun (Op.intArith op k a b)
      | .quo | .rem => Sem.pureRun (Op.intDiv op k a b)
      | .and | .or | .xor | .andNot => Sem.pureRun (Op.intBits op k a b)
      | _ => Sem.pureRun (Op.intCmp op a b)
    | false => none
  | _, .float k a, .float k' b => match decide (k = k') with
    | true => match op with
      | .add | .sub | .mul | .quo => Sem.pureRun (Op.floatArith op k a b)
      | _ => Sem.pureRun (Op.floatCmp op k a b)
    | false => none
  | .eql, .string a, .string b => some (.bool (bytesEq a.data.toList b.data.toList))
  | .neq, .string a, .string b => some (.bool (!bytesEq a.data.toList b.data.toList))
  | _, .string a, .string b => Sem.pureRun (Op.stringOp op a b)
  | _, _, _ => none

/-- the unknown int against a number -/
def symCmp (E : Env) (op : BinOp) (c : Int) : Option Bool :=
  match op with
  | .lss => match decide (E.hi < c), decide (c ≤ E.lo) with
    | true, _ => some true
    | _, true => some false
    | _, _ => none
  | .leq => match decide (E.hi ≤ c), decide (c < E.lo) with
    | true, _ => some true
    | _, true => some false
    | _, _ => none
  | .gtr => match decide (c < E.lo), decide (E.hi ≤ c) with
    | true, _ => some true
    | _, true => some false
    | _, _ => none
  | .geq => match decide (c ≤ E.lo), decide (E.hi < c) with
    | true, _ => some true
    | _, true => some false
    | _, _ => none
  | _ => none

def fillPlace (places : List (Nat × Nat)) (cells : List AV) : List (Nat × AV) → Option (List AV)
  | [] => some cells
  | (i, v) :: rest => match places[i]? with
    | none => none
    | some (off, size) =>
      match Nat.beq v.cells.length size && Nat.ble (off + size) cells.length with
      | true => fillPlace places (cells.take off ++ v.cells ++ cells.drop (off + size)) rest
      | false => none
def fillEach (size : Nat) (cells : List AV) : List (Nat × AV) → Option (List AV)
  | [] => some cells
  | (i, v) :: rest =>
      match Nat.beq v.cells.length size && Nat.ble (i * size + size) cells.length with
      | true => fillEach size (cells.take (i * size) ++ v.cells ++ cells.drop (i * size + size)) rest
      | false => none
def partsL (E : Env) (tm : Tr AV) : List (Nat × Operand) → Option (List (Nat × AV))
  | [] => some []
  | (i, x) :: xs => match opv E tm x, partsL E tm xs with
    | some a, some as => some ((i, a) :: as)
    | _, _ => none
def fieldPlaces (E : Env) : List Field → Option (List (Nat × Nat))
  | [] => some []
  | f :: fs => match E.size f.type, fieldPlaces E fs with
    | some n, some l => some ((f.offset, n) :: l)
    | _, _ => none
def aBuild (E : Env) (t : TypeId) (parts : List (Nat × AV)) : Option AV :=
  match E.zero t, E.und t with
  | some z, some (.struct fs) => match fieldPlaces E fs.toList with
    | some places => (fillPlace places z.cells parts).map .agg
    | none => none
  | some z, some (.array _ elem) => match E.size elem with
    | some n => (fillEach n z.cells parts).map .agg
    | none => none
  | _, _ => none
def aPart (E : Env) (t : TypeId) (cs : List AV) (off : Nat) : Option AV :=
  match E.agg t, E.size t with
  | some true, some n => match Nat.ble (off + n) cs.length with
    | true => some (.agg ((cs.drop off).take n))
    | false => none
  | some false, some _ => cs[off]?
  | _, _ => none

def idxO (E : Env) (tm : Tr AV) : Option Operand → Option (Option Nat)
  | none => some none
  | some x => match opv E tm x with
    | some (.v (.int _ (.ofNat n))) => some (some n)
    | _ => none
/-- (l, h, m), all within what may be -/
def bounds (len cap : Nat) (lo hi mx : Option Nat) : Option (Nat × Nat × Nat) :=
  match mx, hi with
  | some _, none => none
  | _, _ =>
  let m := mx.getD cap
  let h := hi.getD len
  let l := lo.getD 0
  match Nat.ble m cap && Nat.ble h m && Nat.ble l h with
  | true => some (l, h, m)
  | false => none

def aSlice (E : Env) (t : TypeId) (x : AV) (lo hi mx : Option Nat) : Option AV :=
  match E.und t, x with
  | some (.array n elem), .ptr b off => match bounds n n lo hi mx, E.size elem with
    | some (l, h, m), some sz => some (.slice b (match Nat.beq m l with | true => off | false => off + l * sz) (h - l) (m - l) false)
    | _, _ => none
  | some .string, .v (.string s) => match mx, bounds s.size s.size lo hi none with
    | none, some (l, h, _) => some (.v (.string (s.extract l h)))
    | _, _ => none
  | some (.slice elem), .v (.slice none len cap) => match bounds len cap lo hi mx, E.size elem with
    | some (l, h, m), some _ => some (.v (.slice none (h - l) (m - l)))
    | _, _ => none
  | some (.slice elem), .slice b off len cap opn => match bounds len cap lo hi mx, E.size elem with
    | some (l, h, m), some sz =>
      let o := opn && mx.isNone
      match Nat.beq m l, o with
      | true, true => none
      | true, false => some (.slice b off (h - l) (m - l) false)
      | false, o => some (.slice b (off + l * sz) (h - l) (m - l) o)
    | _, _ => none
  | some (.pointer arr), .ptr b off => match E.und arr with
    | some (.array n elem) => match bounds n n lo hi mx, E.size elem with
      | some (l, h, m), some sz => some (.slice b (match Nat.beq m l with | true => off | false => off + l * sz) (h - l) (m - l) false)
      | _, _ => none
    | _ => none
  | _, _ => none

def aConvert (E : Env) (src dst : TypeId) (x : AV) : Option AV :=
  match E.und src, E.und dst, x with
  | some _, some (.int k), .v (.int _ n) => some (.v (.int k (k.wrap n)))
  | some _, some (.float k), .v (.int _ n) => (Sem.pureRun (Conv.intToFloat k n)).map .v
  | some _, some (.int k), .v (.float s b) => (Sem.pureRun (Conv.floatToInt s b k)).map .v
  | some _, some (.float k), .v (.float s b) => (Sem.pureRun (Conv.floatToFloat s b k)).map .v
  | some _, some .string, .v (.int _ n) => (Sem.pureRun (Conv.intToString n)).map .v
  | some _, some .string, .v (.string s) => some (.v (.string s))
  | _, _, _ => none

def aTypeAssert (E : Env) (x : AV) (asserted : TypeId) (ok : Bool) : Option AV :=
  match E.und asserted, x with
  | some (.interface _), .v .nilIface => match ok with
    | true => (E.zero asserted).map fun z => .tuple [z, .v (.bool false)]
    | false => none
  | some (.interface want), .iface t _ => match E.tt.get t with
    | some i => match Instr.missingMethod want i.methods with
      | none => some (match ok with | true => .tuple [x, .v (.bool true)] | false => x)
      | some _ => match ok with
        | true => (E.zero asserted).map fun z => .tuple [z, .v (.bool false)]
        | false => none
    | none => none
  | some _, .v .nilIface => match ok with
    | true => (E.zero asserted).map fun z => .tuple [z, .v (.bool false)]
    | false => none
  | some _, .iface t v => match Nat.beq t asserted, ok with
    | true, true => some (.tuple [v, .v (.bool true)])
    | true, false => some v
    | false, true => (E.zero asserted).map fun z => .tuple [z, .v (.bool false)]
    | false, false => none
  | _, _ => none

def minL (f : Int → Int → Int) (k : IntKind) : Int → List AV → Option Int
  | a, [] => some a
  | a, .v (.int k' b) :: rest => match decide (k = k') with
    | true => minL f k (f a b) rest
    | false => none
  | _, _ => none
def aLen : TypeDesc → AV → Option Nat
  | .array n _, _ => some n
  | .string, .v (.string s) => some s.size
  | .slice _, .v (.slice none n _) => some n
  | .slice _, .slice _ _ n _ _ => some n
  | .map _ _, .v (.map none) => some 0
  | _, _ => none

def aBuiltinPure (E : Env) (b : Builtin) (argTypes : Array TypeId) (args : List AV) : Option AV :=
  match b, args with
  | .len, [x] => match argTypes[0]? with
    | some t => match E.und t with
      | some td => (aLen td x).map fun n => .v (.int .i64 n)
      | none => none
    | none => none
  | .cap, [x] => match argTypes[0]? with
    | some t => match E.und t, x with
      | some (.slice _), .slice _ _ _ c false => some (.v (.int .i64 c))
      | some (.slice _), .v (.slice none _ c) => some (.v (.int .i64 c))
      | _, _ => none
    | none => none
  | .min, .v (.int k a) :: rest => (minL (fun x y => if y < x then y else x) k a rest).map fun n => .v (.int k n)
  | .unsafeSliceData, [.slice b off _ (_ + 1) _] => some (.ptr b off)
  | .max, .v (.int k a) :: rest => (minL (fun x y => if x < y then y else x) k a rest).map fun n => .v (.int k n)
  | _, _ => none

def aPure (E : Env) (tm : Tr AV) (o : Oper) : Option AV :=
  match o.op with
  | .move x | .assign x => opv E tm x
  | .pick c a b => match opv E tm c with
    | some (.v (.bool true)) => opv E tm a
    | some (.v (.bool false)) => opv E tm b
    | _ => none
  | .build t parts => match partsL E tm parts.toList with
    | some l => aBuild E t l
    | none => none
  | .nilCheck x => match opv E tm x with
    | some (.ptr b off) => some (.ptr b off)
    | some (.func f a b) => some (.func f a b)
    | some (.yield l) => some (.yield l)
    | some (.iface t v) => some (.iface t v)
    | some (.map b) => some (.map b)
    | _ => none
  | .binOp op _ x y _ => match opv E tm x, opv E tm y with
    | some (.v a), some (.v b) => (aBinSc op a b).map .v
    | some .sym, some (.v (.int .i64 c)) => (symCmp E op c).map fun r => .v (.bool r)
    | _, _ => none
  | .unOp op _ x => match opv E tm x with
    | some (.v a) => (Sem.pureRun (Op.unary op a)).map .v
    | _ => none
  | .convert src dst x => match opv E tm x with
    | some a => aConvert E src dst a
    | none => none
  | .makeInterface t x => match opv E tm x, E.und t with
    | _, some (.interface _) => none
    | some a, some _ => some (.iface t a)
    | _, _ => none
  | .makeFunc fn first captured => match fn with
    | .func f => match opvL E tm first.toList, opvL E tm captured.toList with
      | some a, some b => some (.func f a b)
      | _, _ => none
    | _ => none
  | .slice t x lo hi mx => match opv E tm x, idxO E tm lo, idxO E tm hi, idxO E tm mx with
    | some a, some l, some h, some m => aSlice E t a l h m
    | _, _, _, _ => none
  | .fieldAddr s x f => match opv E tm x, E.und s with
    | some (.ptr b off), some (.struct fs) => match fs[f]? with
      | some fd => match E.size fd.type with
        | some (_ + 1) => some (.ptr b (off + fd.offset))
        | _ => none
      | none => none
    | _, _ => none
  | .field t x f => match opv E tm x, E.und t with
    | some (.agg cs), some (.struct fs) => match fs[f]? with
      | some fd => aPart E fd.type cs fd.offset
      | none => none
    | _, _ => none
  | .indexAddr t x ix => match opv E tm x, opv E tm ix, E.und t with
    | some (.ptr b off), some (.v (.int _ (.ofNat i))), some (.array len elem) => match E.size elem, Nat.blt i len with
      | some sz, true => some (.ptr b (off + i * sz))
      | _, _ => none
    | some (.slice b off len _ _), some (.v (.int _ (.ofNat i))), some (.slice elem) => match E.size elem, Nat.blt i len with
      | some sz, true => some (.ptr b (off + i * sz))
      | _, _ => none
    | _, _, _ => none
  | .index t x ix => match opv E tm x, opv E tm ix, E.und t with
    | some (.agg cs), some (.v (.int _ (.ofNat i))), some (.array len elem) => match E.size elem, Nat.blt i len with
      | some sz, true => aPart E elem cs (i * sz)
      | _, _ => none
    | some (.v (.string s)), some (.v (.int _ (.ofNat i))), some .string => match s.data.toList[i]? with
      | some b => some (.v (.int .u8 b.toNat))
      | none => none
    | _, _, _ => none
  | .typeAssert x _ asserted ok => match opv E tm x with
    | some a => aTypeAssert E a asserted ok
    | none => none
  | .extract t ix => match opv E tm t with
    | some (.tuple vs) => vs[ix]?
    | _ => none
  | .call c => match c.callee with
    | .builtin b => match opvL E tm c.args.toList with
      | some args => aBuiltinPure E b c.argTypes args
      | none => none
    | _ => none
  | _ => none

/-- 'some r = v', told by a comparison that the kernel can do -/
def sameV : Value → Value → Bool
  | .bool a, .bool b => a == b
  | .int k a, .int k' b => decide (k = k') && decide (a = b)
  | .string a, .string b => bytesEq a.data.toList b.data.toList
  | .pointer none, .pointer none => true
  | .slice none n c, .slice none n' c' => Nat.beq n n' && Nat.beq c c'
  | .map none, .map none => true
  | .nilFunc, .nilFunc => true
  | .nilIface, .nilIface => true
  | .float k a, .float k' b => decide (k = k') && Nat.beq a b
  | _, _ => false
mutual
def sameAV : AV → AV → Bool
  | .v a, .v b => sameV a b
  | .ptr b o, .ptr b' o' => Nat.beq b b' && Nat.beq o o'
  | .slice b o n c q, .slice b' o' n' c' q' => Nat.beq b b' && Nat.beq o o' && Nat.beq n n' && Nat.beq c c' && (q == q')
  | .map b, .map b' => Nat.beq b b'
  | .yield b, .yield b' => Nat.beq b b'
  | .sym, .sym => true
  | .func f as bs, .func f' as' bs' => Nat.beq f f' && sameAVs as as' && sameAVs bs bs'
  | .iface t a, .iface t' a' => Nat.beq t t' && sameAV a a'
  | .agg as, .agg as' => sameAVs as as'
  | .tuple as, .tuple as' => sameAVs as as'
  | _, _ => false
def sameAVs : List AV → List AV → Bool
  | [], [] => true
  | a :: as, b :: bs => sameAV a b && sameAVs as bs
  | _, _ => false
end
/-! ### operations that read memory -/
def rowAt (h : Hp) (b off n : Nat) : Option (List AV) :=
  match h.get b with
  | some (.row cs _) => match Nat.ble (off + n) cs.length with
    | true => some ((cs.drop off).take n)
    | false => none
  | _ => none
def aLoad (E : Env) (h : Hp) (t : TypeId) (b off : Nat) : Option AV :=
  match E.agg t, E.size t with
  | some true, some n => (rowAt h b off n).map .agg
  | some false, some _ => match h.get b with
    | some (.row cs _) => cs[off]?
    | _ => none
  | _, _ => none
/-- a row that is not of bytes -/
def isRow (E : Env) (h : Hp) (b : Nat) : Bool :=
  match h.get b with
  | some (.row _ e) => match E.und e with
    | some (.int .u8) => false
    | some _ => true
    | none => false
  | _ => false

mutual
def aEq (E : Env) (h : Hp) : Nat → TypeId → AV → AV → Option Bool
  | 0, _, _, _ => none
  | d + 1, t, x, y =>
    match E.und t, x, y with
    | some .bool, .v (.bool a), .v (.bool b) => some (a == b)
    | some (.int _), .v (.int k a), .v (.int k' b) => match decide (k = k') with
      | true => some (decide (a = b))
      | false => none
    | some (.float _), .v (.float k a), .v (.float k' b) => match decide (k = k') with
      | true => some (Op.floatEq k a b)
      | false => none
    | some .string, .v (.string a), .v (.string b) => some (bytesEq a.data.toList b.data.toList)
    | some (.pointer _), .v (.pointer none), .v (.pointer none) => some true
    | some (.pointer _), .v (.pointer none), .ptr _ _ => some false
    | some (.pointer _), .ptr _ _, .v (.pointer none) => some false
    | some (.pointer elem), .ptr b off, .ptr b' off' => match E.size elem with
      | some (_ + 1) => match isRow E h b && isRow E h b' with
        | true => some (Nat.beq b b' && Nat.beq off off')
        | false => none
      | _ => none
    | some (.interface _), .v .nilIface, .v .nilIface => some true
    | some (.interface _), .v .nilIface, .iface _ _ => some false
    | some (.interface _), .iface _ _, .v .nilIface => some false
    | some (.interface _), .iface tx vx, .iface ty vy => match Nat.beq tx ty with
      | false => some false
      | true => match E.tt.get tx with
        | some i => match i.comparable with
          | true => aEq E h d tx vx vy
          | false => none
        | none => none
    | some (.struct fs), .agg xs, .agg ys => match E.eq.get t with
      | some _ => aEqF E h d fs.toList xs ys
      | none => none
    | some (.slice _), .v (.slice none _ _), .v (.slice none _ _) => some true
    | some (.slice _), .v (.slice none _ _), .slice _ _ _ _ _ => some false
    | some (.slice _), .slice _ _ _ _ _, .v (.slice none _ _) => some false
    | some (.map _ _), .v (.map none), .v (.map none) => some true
    | some (.map _ _), .v (.map none), .map _ => some false
    | some (.map _ _), .map _, .v (.map none) => some false
    | some (.func _ _ _), .v .nilFunc, .v .nilFunc => some true
    | some (.func _ _ _), .v .nilFunc, .func _ _ _ => some false
    | some (.func _ _ _), .func _ _ _, .v .nilFunc => some false
    | some (.func _ _ _), .v .nilFunc, .yield _ => some false
    | some (.func _ _ _), .yield _, .v .nilFunc => some false
    | _, _, _ => none
def aEqF (E : Env) (h : Hp) : Nat → List Field → List AV → List AV → Option Bool
  | 0, _, _, _ => none
  | _ + 1, [], _, _ => some true
  | d + 1, f :: fs, xs, ys => match decide (f.name = "_") with
    | true => aEqF E h d fs xs ys
    | false => match aPart E f.type xs f.offset, aPart E f.type ys f.offset with
      | some a, some b => match aEq E h d f.type a b with
        | some true => aEqF E h d fs xs ys
        | some false => some false
        | none => none
      | _, _ => none
end

/-- keys that are numbers, bools, strings -/
def keyNow (k e : AV) : Option Bool :=
  match k, e with
  | .v (.int j a), .v (.int j' b) => match decide (j = j') with
    | true => some (decide (a = b))
    | false => none
  | .v (.string a), .v (.string b) => some (bytesEq a.data.toList b.data.toList)
  | .v (.bool a), .v (.bool b) => some (a == b)
  | _, _ => none
/-- 1: a number, a bool, a string; 2: a struct of such -/
def plainKind (E : Env) (t : TypeId) (k : AV) : Nat :=
  match E.und t, k with
  | some (.int _), .v (.int _ _) => 1
  | some .string, .v (.string _) => 1
  | some .bool, .v (.bool _) => 1
  | some (.struct _), .agg _ => 2
  | _, _ => 0
def keyFields (E : Env) (cs : List AV) : List Field → Bool
  | [] => true
  | f :: fs => (match aPart E f.type cs f.offset with
      | some a => Nat.beq (plainKind E f.type a) 1
      | none => false) && keyFields E cs fs
/-- how a key is compared: 1 at once, 2 field by field, 0 not here -/
def keyKind (E : Env) (t : TypeId) (k : AV) : Nat :=
  match E.und t, k with
  | some (.struct fs), .agg cs => match keyFields E cs fs.toList with
    | true => 2
    | false => 0
  | _, _ => plainKind E t k
def findEnt (E : Env) (h : Hp) (t : TypeId) (kind : Nat) (k : AV) : List AEnt → Nat → Option (Option (Nat × AEnt))
  | [], _ => some none
  | e :: es, i => match (match kind with | 1 => keyNow k e.key | _ => aEq E h 60 t k e.key) with
    | some true => some (some (i, e))
    | some false => findEnt E h t kind k es (i + 1)
    | none => none
def aLookup (E : Env) (h : Hp) (t : TypeId) (m k : AV) (ok : Bool) : Option AV :=
  match E.und t with
  | some (.map key elem) => match keyKind E key k with
    | 0 => none
    | kind + 1 =>
      let es : Option (List AEnt) := match m with
        | .v (.map none) => some []
        | .map b => match h.get b with
          | some (.map es _) => some es
          | _ => none
        | _ => none
      match es with
      | some es => match findEnt E h key (kind + 1) k es 0, E.zero elem with
        | some (some (_, e)), _ => some (match ok with | true => .tuple [e.val, .v (.bool true)] | false => e.val)
        | some none, some z => some (match ok with | true => .tuple [z, .v (.bool false)] | false => z)
        | _, _ => none
      | none => none
  | _ => none

def setNth {α : Type} (v : α) : Nat → List α → List α
  | _, [] => []
  | 0, _ :: xs => v :: xs
  | n + 1, x :: xs => x :: setNth v n xs
def findBorn (n : Nat) : List AEnt → Nat → Option (Nat × AEnt)
  | [], _ => none
  | e :: es, i => match Nat.beq e.born n with
    | true => some (i, e)
    | false => findBorn n es (i + 1)

def lastN : List Nat → Option Nat
  | [] => none
  | n :: ns => match ns with
    | [] => some n
    | _ :: _ => lastN ns
def bytesOf : List AV → Option (List UInt8)
  | [] => some []
  | .v (.int .u8 n) :: rest => match bytesOf rest with
    | some l => some (UInt8.ofNat n.toNat :: l)
    | none => none
  | _ => none

/-- neither a number nor a string -/
def notNum : AV → Bool
  | .v (.int _ _) | .v (.float _ _) | .v (.complex _ _ _) | .v (.string _) | .sym => false
  | _ => true
def isLit : Operand → Bool
  | .const _ => true
  | _ => false
def aRead (E : Env) (tm : Tr AV) (o : Oper) (h : Hp) : Option AV :=
  match o.op with
  | .load t x => match opv E tm x with
    | some (.ptr b off) => aLoad E h t b off
    | _ => none
  | .binOp op t x y _ => match opv E tm x, opv E tm y with
    | some (.v .nilIface), some (.v .nilIface) => match isLit x || isLit y, op, E.und t with
      | true, .eql, some (.interface _) => some (.v (.bool true))
      | true, .neq, some (.interface _) => some (.v (.bool false))
      | _, _, _ => none
    | some a, some b => match op, notNum a with
      | .eql, true => (aEq E h 60 t a b).map fun r => .v (.bool r)
      | .neq, true => (aEq E h 60 t a b).map fun r => .v (.bool (!r))
      | _, _ => none
    | _, _ => none
  | .lookup t m k ok => match opv E tm m, opv E tm k with
    | some a, some b => aLookup E h t a b ok
    | _, _ => none
  | .entry it => match opv E tm it with
    | some (.ptr r 0) => match h.get r with
      | some (.miter (some m) _ seen stepped) => match lastN seen, h.get m with
        | some stamp, some (.map es clock) => match Nat.beq clock stepped, findBorn stamp es 0 with
          | true, some (_, e) => some (.tuple [e.key, e.val])
          | _, _ => none
        | _, _ => none
      | _ => none
    | _ => none
  | .convert src dst x => match E.und src, E.und dst, opv E tm x with
    | some (.slice e), some .string, some (.slice b off len _ _) => match E.und e, rowAt h b off len with
      | some (.int .u8), some cs => (bytesOf cs).map fun l => .v (.string ⟨l.toArray⟩)
      | _, _ => none
    | some (.slice e), some .string, some (.v (.slice none _ _)) => match E.und e with
      | some (.int .u8) => some (.v (.string .empty))
      | _ => none
    | some (.pointer t), some .unsafePointer, some (.ptr b off) => match E.size t, h.get b with
      | some (_ + 1), some (.row cs _) => match Nat.blt off cs.length with
        | true => some (.ptr b off)
        | false => none
      | _, _ => none
    | some .unsafePointer, some (.pointer u), some (.ptr b off) => match E.size u, h.get b with
      | some (n + 1), some (.row cs e) => match Nat.beq u e && Nat.beq (off % (n + 1)) 0 && Nat.ble (off + (n + 1)) cs.length with
        | true => some (.ptr b off)
        | false => none
      | _, _ => none
    | _, _, _ => none
  | .call c => match c.callee with
    | .builtin .len => match opvL E tm c.args.toList, c.argTypes[0]? with
      | some [.map b], some t => match E.und t, h.get b with
        | some (.map _ _), some (.map es _) => some (.v (.int .i64 es.length))
        | _, _ => none
      | _, _ => none
    | _ => none
  | _ => none

/-! ### operations that make one block -/
def rep (z : List AV) : Nat → List AV
  | 0 => []
  | n + 1 => z ++ rep z n
def aAlloc (E : Env) (tm : Tr AV) (o : Oper) (h : Hp) : Option (AObj × (Nat → AV)) :=
  match o.op with
  | .alloc t => match E.zero t with
    | some z => some (.row z.cells t, fun b => .ptr b 0)
    | none => none
  | .box t x => match opv E tm x, E.size t with
    | some a, some _ => some (.row a.cells t, fun b => .ptr b 0)
    | _, _ => none
  | .buildSlice t len parts => match E.und t, partsL E tm parts.toList with
    | some (.slice e), some l => match E.size e, E.zero e with
      | some sz, some z => match Nat.ble (len * sz) (2 ^ 24) && Nat.beq z.cells.length sz, fillEach sz (rep z.cells len) l with
        | true, some cs => some (.row cs e, fun b => .slice b 0 len len false)
        | _, _ => none
      | _, _ => none
    | _, _ => none
  | .makeSlice t n c => match E.und t, opv E tm n, opv E tm c with
    | some (.slice e), some (.v (.int _ (.ofNat n))), some (.v (.int _ (.ofNat c))) => match E.zero e, E.tt.get e with
      | some z, some i => match Nat.ble n c && Nat.ble (i.bytes * c) (2 ^ 40) && Nat.ble c (2 ^ 40) && Nat.beq z.cells.length i.size with
        | true => some (.row (rep z.cells c) e, fun b => .slice b 0 n c false)
        | false => none
      | _, _ => none
    | _, _, _ => none
  | .makeMap _ r => match r with
    | none => some (.map [] 0, fun b => .map b)
    | some _ => none
  | .range t x => match E.und t, opv E tm x with
    | some .string, some (.v (.string s)) => some (.siter s 0, fun b => .ptr b 0)
    | some (.map _ _), some (.v (.map none)) => some (.miter none 0 [] 0, fun b => .ptr b 0)
    | some (.map _ _), some (.map m) => match h.get m with
      | some (.map _ clock) => some (.miter (some m) clock [] clock, fun b => .ptr b 0)
      | _ => none
    | _, _ => none
  | _ => none

/-! ### operations that change memory -/
def isIntD : TypeDesc → Bool
  | .int _ => true
  | _ => false
/-- how many are appended, and their cells -/
def appSrc (h : Hp) (sz bytes : Nat) (z : AV) (ints : Bool) (x : AV) : Option (Nat × List AV) :=
  match ints, x with
  | true, .v (.int _ (.ofNat n)) => match Nat.ble n (2 ^ 32) && Nat.ble (n * bytes) (2 ^ 40) with
    | true => some (n, rep z.cells n)
    | false => none
  | false, .v (.slice none 0 _) => some (0, [])
  | false, .slice b off n _ _ => (rowAt h b off (n * sz)).map fun cs => (n, cs)
  | false, .v (.string s) => match Nat.beq sz 1 with
    | true => some (s.size, s.data.toList.map fun b => .v (.int .u8 b.toNat))
    | false => none
  | _, _ => none
def smallCap (need bytes : Nat) : Bool := Nat.ble ((2 * need + 1000) * bytes) (2 ^ 40) && Nat.ble need (2 ^ 40)
def aAppend (E : Env) (argTypes : Array TypeId) (s x : AV) (h : Hp) : Option (AV × Hp) :=
  match argTypes[0]?, argTypes[1]? with
  | some sT, some xT =>
    match E.und sT, E.und xT with
    | some (.slice e), some xd =>
      match E.size e, E.tt.get e, E.zero e with
      | some sz, some i, some z =>
        match appSrc h sz i.bytes z (isIntD xd) x with
        | some (n, new) => match new.all AV.one && Nat.beq z.cells.length sz && Nat.beq new.length (n * sz) with
          | true => match s with
            | .v (.slice none 0 0) => match n with
              | 0 => some (s, h)
              | _ => match smallCap n i.bytes with
                | true => some (.slice h.nx 0 n n true, h.push (.row new e))
                | false => none
            | .slice b off len cap opn =>
              match h.get b with
              | some (.row cs e') => match Nat.beq (off + cap * sz) cs.length || (!opn && Nat.ble (off + cap * sz) cs.length), Nat.beq e e' with
                | true, true => match Nat.ble (len + n) cap with
                  | true => some (.slice b off (len + n) cap opn, h.set b (.row (cs.take (off + len * sz) ++ new ++ cs.drop (off + (len + n) * sz)) e))
                  | false => match smallCap (len + n) i.bytes && Nat.ble len cap, opn with
                    | true, false => some (.slice h.nx 0 (len + n) (len + n) true, h.push (.row ((cs.drop off).take (len * sz) ++ new) e))
                    | true, true => match Nat.beq (off % sz) 0 with
                      | true => some (.slice h.nx 0 (len + n) (len + n) true, (h.set b .dead).push (.row ((cs.drop off).take (len * sz) ++ new) e))
                      | false => none
                    | false, _ => none
                | _, _ => none
              | _ => none
            | _ => none
          | false => none
        | none => none
      | _, _, _ => none
    | _, _ => none
  | _, _ => none

def aStore (E : Env) (t : TypeId) (b off : Nat) (x : AV) (h : Hp) : Option Hp :=
  match E.size t, h.get b with
  | some n, some (.row cs e) => match Nat.beq x.cells.length n && Nat.ble (off + n) cs.length && x.cells.all AV.one with
    | true => some (h.set b (.row (cs.take off ++ x.cells ++ cs.drop (off + n)) e))
    | false => none
  | _, _ => none

/-- keys that may stay: flat, and of numbers, bools, strings alone -/
def flatKey : AV → Bool
  | .v (.bool _) | .v (.int _ _) | .v (.string _) => true
  | .agg cs => cs.all fun a => match a with
    | .v (.bool _) | .v (.int _ _) | .v (.string _) => true
    | _ => false
  | _ => false
def tgtOf (f : AV) (args : List AV) : Option ADef :=
  match f with
  | .func f first captured => some { target := .fn f captured, args := first ++ args }
  | .yield l => some { target := .yield l, args := args }
  | _ => none
def hasBody (E : Env) (f : FuncId) : Bool :=
  match E.ft.get f with
  | some fn => fn.body.isSome
  | none => false
def goes (E : Env) (d : ADef) : Option ANext :=
  match d.target with
  | .fn f captured => match hasBody E f with
    | true => some (.enter f (d.args ++ captured))
    | false => none
  | .yield l => some (.round l d.args)
  | _ => none

/-- a cell that holds an int of a kind -/
def intAt (h : Hp) (k : IntKind) (b off : Nat) : Option Int :=
  match h.get b with
  | some (.row cs _) => match cs[off]? with
    | some (.v (.int k' n)) => match decide (k = k') with
      | true => some n
      | false => none
    | _ => none
  | _ => none
def putCell (h : Hp) (b off : Nat) (v : Value) : Option Hp :=
  match h.get b with
  | some (.row cs e) => match Nat.blt off cs.length with
    | true => some (h.set b (.row (cs.take off ++ [.v v] ++ cs.drop (off + 1)) e))
    | false => none
  | _ => none
def idxOf8 (c : Nat) : List UInt8 → Nat → Option Nat
  | [], _ => none
  | b :: bs, i => match Nat.beq b.toNat c with
    | true => some i
    | false => idxOf8 c bs (i + 1)
/-- functions without a body -/
def aExt (k : Nat) (args : List AV) (h : Hp) : Option (AV × Hp) :=
  match k, args with
  | 0, [v] => some (v, h)
  | 1, _ => some (.tuple [], h)
  | 2, _ => some (.tuple [], h)
  | 3, [.ptr _ _] => some (.tuple [], h)
  | 4, [.ptr _ _] => some (.tuple [], h)
  | 5, [.ptr b off] => match intAt h .u32 b off with
    | some n => some (.v (.int .u32 n), h)
    | none => none
  | 6, [.ptr b off, .v (.int k n)] => match putCell h b off (.int k n) with
    | some h => some (.tuple [], h)
    | none => none
  | 7, [.ptr b off, .v (.int _ x), .v (.int k y)] => match intAt h .i32 b off with
    | some n => match decide (n = x) with
      | true => match putCell h b off (.int k y) with
        | some h => some (.v (.bool true), h)
        | none => none
      | false => none
    | none => none
  | 8, [.ptr b off, .v (.int _ y)] => match intAt h .i32 b off with
    | some n => match putCell h b off (.int .i32 (IntKind.i32.wrap (n + y))) with
      | some h => some (.v (.int .i32 (IntKind.i32.wrap (n + y))), h)
      | none => none
    | none => none
  | 9, [.v (.string s), .v (.int .u8 (.ofNat c))] => match Nat.blt c 256 with
    | true => some (.v (.int .i64 (match idxOf8 c s.data.toList 0 with | some i => i | none => -1)), h)
    | false => none
  | _, _ => none
def extOf (E : Env) (d : ADef) (h : Hp) : Option (AV × Hp) :=
  match d.target with
  | .fn f [] => match findEx f E.ex with
    | some k => aExt k d.args h
    | none => none
  | _ => none
def findMeth (name : String) : List Method → Option Method
  | [] => none
  | m :: ms => match decide (m.name = name) with
    | true => some m
    | false => findMeth name ms
/-- a method of a pointer type, without a road -/
def methOf (E : Env) (t : TypeId) (name : String) : Option FuncId :=
  match E.und t, E.tt.get t with
  | some (.pointer _), some i => match findMeth name i.methods.toList with
    | some m => match m.path.toList, m.func with
      | [], some (f, true) => match hasBody E f with
        | true => some f
        | false => none
      | _, _ => none
    | none => none
  | _, _ => none
def aInvoke (E : Env) (r : AV) (name : String) (args : List AV) : Option ANext :=
  match r with
  | .iface t v => match methOf E t name with
    | some f => some (.enter f (v :: args))
    | none => none
  | _ => none
/-- unsafe.String: the bytes are given up -/
def aUnsafeStr (E : Env) (argTypes : Array TypeId) (p n : AV) (h : Hp) : Option (AV × Hp) :=
  match p, n, argTypes[0]? with
  | .v (.pointer none), .v (.int _ (.ofNat 0)), some _ => some (.v (.string .empty), h)
  | .ptr b off, .v (.int .i64 (.ofNat (n + 1))), some pt => match E.und pt, h.get b with
    | some (.pointer u), some (.row cs e) => match Nat.beq u e, E.size e, Nat.blt E.ng (b + 1), bytesOf ((cs.drop off).take (n + 1)) with
      | true, some 1, true, some l => match Nat.ble (off + (n + 1)) cs.length && Nat.ble (n + 1) (2 ^ 40) with
        | true => some (.v (.string ⟨l.toArray⟩), h.set b .dead)
        | false => none
      | _, _, _, _ => none
    | _, _ => none
  | _, _, _ => none
def aEff (E : Env) (x : Ctx) (tm : Tr AV) (o : Oper) (h : Hp) : Option (ANext × Hp) :=
  match o.op with
  | .store t a v => match opv E tm a, opv E tm v with
    | some (.ptr b off), some v => (aStore E t b off v h).map fun h => (.skip, h)
    | _, _ => none
  | .mapUpdate t m k v => match E.und t, opv E tm m, opv E tm k, opv E tm v with
    | some (.map key _), some (.map b), some k, some v => match keyKind E key k, h.get b with
      | kind + 1, some (.map es clock) => match findEnt E h key (kind + 1) k es 0 with
        | some (some (i, e)) => match sameAV e.key k && flatKey k with
          | true => some (.skip, h.set b (.map (setNth { e with key := k, val := v } i es) clock))
          | false => none
        | some none => some (.skip, h.set b (.map (es ++ [⟨k, v, clock⟩]) (clock + 1)))
        | none => none
      | _, _ => none
    | _, _, _, _ => none
  | .insert t m k v => match E.und t, opv E tm m, opv E tm k, opv E tm v with
    | some (.map key _), some (.map b), some k, some v => match keyKind E key k, h.get b with
      | kind + 1, some (.map es clock) => match findEnt E h key (kind + 1) k es 0 with
        | some none => some (.skip, h.set b (.map (es ++ [⟨k, v, clock⟩]) (clock + 1)))
        | _ => none
      | _, _ => none
    | _, _, _, _ => none
  | .convert src dst x => match E.und src, E.und dst, opv E tm x with
    | some .string, some (.slice e), some (.v (.string s)) => match E.und e with
      | some (.int .u8) => match E.size e with
        | some 1 => some (.value (.slice h.nx 0 s.size s.size true), h.push (.row (s.data.toList.map fun b => .v (.int .u8 b.toNat)) e))
        | _ => none
      | _ => none
    | _, _, _ => none
  | .mapEntry t m k => match E.und t, opv E tm m, opv E tm k with
    | some (.map key elem), some (.map b), some k => match keyKind E key k, h.get b, E.zero elem with
      | kind + 1, some (.map es clock), some z => match findEnt E h key (kind + 1) k es 0 with
        | some (some (i, e)) => match sameAV e.key k && flatKey k with
          | true => some (.value (.tuple [e.val, .v (.int .i64 e.born)]), h.set b (.map (setNth { e with key := k } i es) clock))
          | false => none
        | some none => some (.value (.tuple [z, .v (.int .i64 clock)]), h.set b (.map (es ++ [⟨k, z, clock⟩]) (clock + 1)))
        | none => none
      | _, _, _ => none
    | _, _, _ => none
  | .entryStore _ m st v => match opv E tm m, opv E tm st, opv E tm v with
    | some (.map b), some (.v (.int _ (.ofNat n))), some v => match h.get b with
      | some (.map es clock) => match findBorn n es 0 with
        | some (i, e) => some (.skip, h.set b (.map (setNth { e with val := v } i es) clock))
        | none => none
      | _ => none
    | _, _, _ => none
  | .next it isString => match opv E tm it, isString with
    | some (.ptr b 0), true => match h.get b with
      | some (.siter s pos) => match Nat.blt pos s.size with
        | true => match Utf8.decode s pos with
          | (c, width) => some (.value (.tuple [.v (.bool true), .v (.int .i64 pos), .v (.int .i32 c)]), h.set b (.siter s (pos + width)))
        | false => some (.value (.tuple [.v (.bool false)]), h)
      | _ => none
    | _, _ => none
  | .panic a => match opv E tm a with
    | some (.iface t v) => some (.panic (.iface t v), h)
    | _ => none
  | .defer c => match x.rnd, c.callee with
    | none, .value f => match opv E tm f, opvL E tm c.args.toList with
      | some f, some args => (tgtOf f args).map fun d => (.defer d, h)
      | _, _ => none
    | _, _ => none
  | .call c => match c.callee with
    | .value f => match opv E tm f, opvL E tm c.args.toList with
      | some f, some args => match tgtOf f args with
        | some d => match goes E d with
          | some nx => some (nx, h)
          | none => (extOf E d h).map fun (v, h) => (.value v, h)
        | none => none
      | _, _ => none
    | .invoke r name => match opv E tm r, opvL E tm c.args.toList with
      | some r, some args => (aInvoke E r name args).map fun nx => (nx, h)
      | _, _ => none
    | .builtin .unsafeString => match opvL E tm c.args.toList with
      | some [p, n] => (aUnsafeStr E c.argTypes p n h).map fun (v, h) => (.value v, h)
      | _ => none
    | .builtin .append => match opvL E tm c.args.toList with
      | some [s, y] => (aAppend E c.argTypes s y h).map fun (v, h) => (.value v, h)
      | _ => none
    | .builtin .recover => match x.rnd with
      | none => some (.recov, h)
      | some _ => none
    | _ => none
  | _ => none

/-! ### a map ranged over: whichever entry comes -/
def inBorn (e : AEnt) : List Nat → Bool
  | [] => false
  | n :: ns => match Nat.beq e.born n with
    | true => true
    | false => inBorn e ns
def leftOf (seen : List Nat) : List AEnt → List AEnt
  | [] => []
  | e :: es => match inBorn e seen with
    | true => leftOf seen es
    | false => e :: leftOf seen es
def oldOf (since : Nat) : List AEnt → List AEnt
  | [] => []
  | e :: es => match Nat.blt e.born since with
    | true => e :: oldOf since es
    | false => oldOf since es
def newOf (since : Nat) : List AEnt → List AEnt
  | [] => []
  | e :: es => match Nat.blt e.born since with
    | true => newOf since es
    | false => e :: newOf since es
def someL {α : Type} : List α → List (Option α)
  | [] => []
  | a :: as => some a :: someL as
def cands (since : Nat) (left : List AEnt) : List (Option AEnt) :=
  match oldOf since left with
  | [] => none :: someL (newOf since left)
  | e :: old => someL ((e :: old) ++ newOf since left)
def afterNext (h : Hp) (r m since : Nat) (seen : List Nat) (clock : Nat) : List (Option AEnt) → List (AV × Hp)
  | [] => []
  | none :: cs => (.tuple [.v (.bool false)], h) :: afterNext h r m since seen clock cs
  | some e :: cs => (.tuple [.v (.bool true), e.key, e.val], h.set r (.miter (some m) since (seen ++ [e.born]) clock)) :: afterNext h r m since seen clock cs
def aNextMap (E : Env) (tm : Tr AV) (o : Oper) (h : Hp) : Option (List (AV × Hp)) :=
  match o.op with
  | .next it false => match opv E tm it with
    | some (.ptr r 0) => match h.get r with
      | some (.miter none _ _ _) => some [(.tuple [.v (.bool false)], h)]
      | some (.miter (some m) since seen stepped) => match h.get m with
        | some (.map es clock) => match es.any (fun e => Nat.blt e.born stepped) || seen.isEmpty || es.isEmpty with
          | true => some (afterNext h r m since seen clock (cands since (leftOf seen es)))
          | false => none
        | _ => none
      | _ => none
    | _ => none
  | _ => none

inductive Cls where
  | p | r | a | e

def aOp (E : Env) (x : Ctx) (tm : Tr AV) (o : Oper) (h : Hp) : Option (Cls × ANext × Hp) :=
  match aPure E tm o with
  | some v => some (.p, .value v, h)
  | none => match aRead E tm o h with
    | some v => some (.r, .value v, h)
    | none => match aAlloc E tm o h with
      | some (ob, f) => some (.a, .value (f h.nx), h.push ob)
      | none => match aEff E x tm o h with
        | some (nx, h) => some (.e, nx, h)
        | none => none

def allR {α β : Type} (f : α → Option (List β)) : List α → Option (List β)
  | [] => some []
  | a :: as => match as with
    | [] => f a
    | _ :: _ => match f a, allR f as with
      | some x, some y => some (x ++ y)
      | _, _ => none
def andThen {α β : Type} (x : Option (List α)) (f : α → Option (List β)) : Option (List β) :=
  match x with
  | some l => allR f l
  | none => none

/-! ### regions -/
def opNames (all : List Oper) (o : Oper) : List Tmp :=
  (o.op.operands.toList.filterMap fun | .tmp t => some t | _ => none) ++ (match o.guard with
    | some (g, _) => match all[g]? with
      | some p => p.dst.toList
      | none => []
    | none => [])
def memN (n : Nat) : List Nat → Bool
  | [] => false
  | x :: xs => match Nat.beq n x with
    | true => true
    | false => memN n xs
def clash (all : List Oper) (a b : Oper) : Bool :=
  (match a.dst with
    | some d => memN d (opNames all b) || (match b.dst with | some d' => Nat.beq d d' | none => false)
    | none => false) ||
  (match b.dst with
    | some d => memN d (opNames all a)
    | none => false)
/-- of each operation: the mask of those that must come before it -/
def maskOf (befs : List Nat) : List Edge → Nat → Nat
  | [], m => m
  | e :: es, m => match Region.binds .any e with
    | true => maskOf befs es (Nat.lor (Nat.lor m (Nat.shiftLeft 1 e.on)) (match befs[e.on]? with | some x => x | none => 0))
    | false => maskOf befs es m
def befsOf : List Oper → List Nat → List Nat
  | [], acc => acc
  | o :: os, acc => befsOf os (acc ++ [maskOf acc o.after.toList 0])
def bit (m i : Nat) : Bool := Nat.beq ((Nat.shiftRight m i) % 2) 1
/-- each earlier operation that clashes with 'o' (number j) comes before it -/
def apartFrom (all : List Oper) (o : Oper) (m : Nat) : List Oper → Nat → Bool
  | [], _ => true
  | p :: ps, i => (!clash all p o || bit m i) && apartFrom all o m ps (i + 1)
def apartAll (all : List Oper) : List Oper → List Nat → Nat → Bool
  | [], _, _ => true
  | o :: os, befs, j => match befs with
    | m :: ms => apartFrom all o m (all.take j) 0 && apartAll all os ms (j + 1)
    | [] => false
/-- edges lead back -/
def backAll : List Oper → Nat → Bool
  | [], _ => true
  | o :: os, j => o.after.toList.all (fun e => !Region.binds .any e || Nat.blt e.on j) && backAll os (j + 1)
def dsts : List Oper → List Tmp
  | [] => []
  | o :: os => match o.dst with
    | some d => d :: dsts os
    | none => dsts os
def drawable (all : List Oper) : Bool := backAll all 0 && apartAll all all (befsOf all []) 0

def wanted (all : List Oper) (tm : Tr AV) (o : Oper) : Bool :=
  match o.guard with
  | none => true
  | some (g, want) => match all[g]? with
    | some p => match p.dst with
      | some d => match tget tm d with
        | .v (.bool b) => b == want
        | _ => false
      | none => false
    | none => false

/-- what one operation comes to -/
inductive Fired where
  | val (v : AV) (df : List ADef) (pm : AMode) (hp : Hp)
  | fell (chain : List APan) (pm : AMode) (hp : Hp)

def fromMap (df : List ADef) (pm : AMode) : List (AV × Hp) → List (Cls × Fired)
  | [] => []
  | (v, h) :: rest => (.e, .val v df pm h) :: fromMap df pm rest
def fromEnd (c : Cls) (df : List ADef) (pm : AMode) : Res → Option (List (Cls × Fired))
  | .fin (.ret v) _ h => some [(c, .val v df pm h)]
  | .fin (.panic ch) _ h => some [(c, .fell ch pm h)]
  | _ => none
/-- one operation, with what it calls -/
def fireOp (E : Env) (ih : Job → Option (List Res)) (x : Ctx) (o : Oper) (s : St) : Option (List (Cls × Fired)) :=
  match aNextMap E s.tm o s.hp with
  | some l => some (fromMap s.df s.pm l)
  | none => match aOp E x s.tm o s.hp with
  | some (c, .value v, h) => some [(c, .val v s.df s.pm h)]
  | some (c, .skip, h) => some [(c, .val .undef s.df s.pm h)]
  | some (c, .defer d, h) => some [(c, .val .undef (d :: s.df) s.pm h)]
  | some (c, .panic v, h) => some [(c, .fell [⟨v, false⟩] s.pm h)]
  | some (c, .recov, h) => match x.dfd, s.pm with
    | true, .panicking (⟨v, false⟩ :: older) => some [(c, .val v s.df (.panicking (⟨v, true⟩ :: older)) h)]
    | true, .returning => some [(c, .val (.v .nilIface) s.df s.pm h)]
    | _, _ => none
  | some (c, .enter f args, h) => andThen (ih (.call false f args .run h)) (fromEnd c s.df s.pm)
  | some (c, .round l args, h) => andThen (ih (.round l args h)) (fromEnd c s.df s.pm)
  | none => none
def St.fired (s : St) (dst : Option Tmp) (v : AV) (df : List ADef) (pm : AMode) (hp : Hp) : St := { s with df := df, pm := pm, hp := hp }.put dst v

/-- a region in the text's order -/
def runOps (E : Env) (ih : Job → Option (List Res)) (x : Ctx) (all : List Oper) : List Oper → St → Option (List Res)
  | [], s => some [.out .normal s]
  | o :: os, s => match wanted all s.tm o with
    | true => andThen (fireOp E ih x o s) fun r => match r with
      | (_, .val v df pm h) => runOps E ih x all os (s.fired o.dst v df pm h)
      | (_, .fell ch pm h) => some [.out (.panic ch) { s with pm := pm, hp := h }]
    | false => runOps E ih x all os (s.put o.dst .undef)

/- every block named lies below n -/
mutual
def lowAV (n : Nat) : AV → Bool
  | .v _ | .sym => true
  | .ptr b _ | .slice b _ _ _ _ | .map b | .yield b => Nat.blt b n
  | .func _ f c => lowAVs n f && lowAVs n c
  | .iface _ x => lowAV n x
  | .agg cs | .tuple cs => lowAVs n cs
def lowAVs (n : Nat) : List AV → Bool
  | [] => true
  | a :: as => lowAV n a && lowAVs n as
end
def lowOps (n : Nat) (tm : Tr AV) : List Operand → Bool
  | [] => true
  | .tmp t :: xs => lowAV n (tget tm t) && lowOps n tm xs
  | _ :: xs => lowOps n tm xs
/-- the table of an operation's operands alone -/
def restrL (tm : Tr AV) : List Operand → Tr AV → Tr AV
  | [], acc => acc
  | .tmp t :: xs, acc => restrL tm xs (acc.set t (tget tm t))
  | _ :: xs, acc => restrL tm xs acc
def restr (n : Nat) (tm : Tr AV) (o : Oper) : Option (Tr AV) :=
  match o.op with
  | .select _ _ => none
  | _ => match lowOps n tm o.op.operands.toList with
    | true => some (restrL tm o.op.operands.toList .e)
    | false => none

def readsAs (E : Env) (tm : Tr AV) (o : Oper) (v : AV) (h : Hp) : Bool :=
  match lowOps h.nx tm o.op.operands.toList, aRead E tm o h with
  | true, some v' => sameAV v v'
  | _, _ => false
/-- an allocation that looks at no memory -/
def aAllocF (E : Env) (tm : Tr AV) (o : Oper) : Option (AObj × (Nat → AV)) :=
  match o.op with
  | .range _ _ => none
  | _ => aAlloc E tm o ⟨.e, 0⟩

structure Rd where
  i : Nat
  m : Nat
  o : Oper
  tm : Tr AV
  v : AV
/-- how a region that draws its order goes, in the text's: its reads; its effects, with their masks; the memory behind each, with its number -/
structure Walk where
  reads : List Rd
  effs : List (Nat × Nat)
  levs : List (Nat × Hp)
  fall : Option Nat
  last : Res
def Walk.addRead (r : Rd) (w : Walk) : Walk := { w with reads := r :: w.reads }
def Walk.addEff (j m : Nat) (h : Hp) (w : Walk) : Walk := { w with effs := (j, m) :: w.effs, levs := (j + 1, h) :: w.levs }

/-- behind a panic at 'f': what may have been done ahead of it must go, too -/
def restW (E : Env) (all : List Oper) (f : Nat) (B : Hp) : List Oper → List Nat → Nat → St → Option (List Rd)
  | [], _, _, _ => some []
  | o :: os, m :: ms, j, s => match bit m f with
    | true => restW E all f B os ms (j + 1) s
    | false => match wanted all s.tm o with
      | false => restW E all f B os ms (j + 1) (s.put o.dst .undef)
      | true => match restr s.hp.nx s.tm o with
        | none => none
        | some rt => match aPure E rt o with
          | some v => restW E all f B os ms (j + 1) (s.put o.dst v)
          | none => match aRead E rt o B with
            | some v => (restW E all f B os ms (j + 1) (s.put o.dst v)).map (⟨j, m, o, rt, v⟩ :: ·)
            | none => match aAllocF E rt o with
              | some (ob, g) => restW E all f B os ms (j + 1) ({ s with hp := s.hp.push ob }.put o.dst (g s.hp.nx))
              | none => none
  | _ :: _, [], _, _ => none
def walkW (E : Env) (ih : Job → Option (List Res)) (x : Ctx) (all : List Oper) (tm0 : Tr AV) : List Oper → List Nat → Nat → Hp → St → Option Walk
  | [], _, _, _, s => some ⟨[], [], [], none, .out .normal s⟩
  | o :: os, m :: ms, j, B, s => match wanted all s.tm o with
    | false => walkW E ih x all tm0 os ms (j + 1) B (s.put o.dst .undef)
    | true => match restr s.hp.nx s.tm o with
      | none => none
      | some rt => match aPure E rt o with
        | some v => walkW E ih x all tm0 os ms (j + 1) B (s.put o.dst v)
        | none => match aRead E rt o B with
          | some v => (walkW E ih x all tm0 os ms (j + 1) B (s.put o.dst v)).map (.addRead ⟨j, m, o, rt, v⟩)
          | none => match aAllocF E rt o with
            | some (ob, g) => walkW E ih x all tm0 os ms (j + 1) B ({ s with hp := s.hp.push ob }.put o.dst (g s.hp.nx))
            | none => match fireOp E ih x o { s with tm := rt } with
              | some [(_, .val v df pm h)] => match Nat.ble s.hp.nx h.nx with
                | true => (walkW E ih x all tm0 os ms (j + 1) h (s.fired o.dst v df pm h)).map (.addEff j m h)
                | false => none
              | some [(_, .fell ch pm h)] => (restW E all j B os ms (j + 1) s).map fun rds => ⟨rds, [(j, m)], [], some j, .out (.panic ch) { s with tm := tm0, pm := pm, hp := h }⟩
              | _ => none
  | _ :: _, [], _, _, _ => none
def inTurn : List (Nat × Nat) → Bool
  | [] => true
  | (e, _) :: r => r.all (fun p => bit p.2 e) && inTurn r
/-- a read answers alike wherever it may come -/
def steady (E : Env) (effs : List (Nat × Nat)) (levs : List (Nat × Hp)) (r : Rd) : Bool :=
  levs.all fun l => effs.any (fun e => (Nat.blt e.1 l.1 && bit e.2 r.i) || (Nat.ble l.1 e.1 && bit r.m e.1)) || readsAs E r.tm r.o r.v l.2
/-- a region that draws its order: walked in the text's; whatever order is drawn, it comes to the same -/
def drawW (E : Env) (ih : Job → Option (List Res)) (x : Ctx) (all : List Oper) (s : St) : Option Res :=
  match drawable all && (dsts all).all (fun d => Nat.blt d s.sz) with
  | true => match walkW E ih x all s.tm all (befsOf all []) 0 s.hp s with
    | some w => match inTurn w.effs && w.reads.all (steady E w.effs ((0, s.hp) :: w.levs)) && (match w.fall with
        | none => true
        | some _ => (dsts all).all (fun d => !memN d x.res)) with
      | true => some w.last
      | false => none
    | none => none
  | false => none

/-! ### two ways meet -/
def sameEnts : List AEnt → List AEnt → Bool
  | [], [] => true
  | a :: as, b :: bs => sameAV a.key b.key && sameAV a.val b.val && Nat.beq a.born b.born && sameEnts as bs
  | _, _ => false
def sameNats : List Nat → List Nat → Bool
  | [], [] => true
  | a :: as, b :: bs => Nat.beq a b && sameNats as bs
  | _, _ => false
def sameDefs : List ADef → List ADef → Bool
  | [], [] => true
  | a :: as, b :: bs => (match a.target, b.target with
      | .fn f c, .fn g d => Nat.beq f g && sameAVs c d
      | .yield l, .yield l' => Nat.beq l l'
      | .collected r, .collected r' => Nat.beq r r'
      | _, _ => false) && sameAVs a.args b.args && sameDefs as bs
  | _, _ => false
def sameObj : AObj → AObj → Bool
  | .row a e, .row b e' => Nat.beq e e' && sameAVs a b
  | .map a c, .map b c' => Nat.beq c c' && sameEnts a b
  | .siter a p, .siter b p' => Nat.beq p p' && bytesEq a.data.toList b.data.toList
  | .miter none a b c, .miter none a' b' c' => Nat.beq a a' && sameNats b b' && Nat.beq c c'
  | .miter (some m) a b c, .miter (some m') a' b' c' => Nat.beq m m' && Nat.beq a a' && sameNats b b' && Nat.beq c c'
  | .defs none, .defs none => true
  | .defs (some a), .defs (some b) => sameDefs a b
  | .dead, .dead => true
  | _, _ => false
/-- the memory in which both ways agree; blocks from 'n0' on may be given up -/
def meetHp (n0 : Nat) (a b : Hp) : Nat → Hp → Option Hp
  | 0, acc => some acc
  | k + 1, acc => match a.get k, b.get k with
    | some x, some y => match sameObj x y with
      | true => meetHp n0 a b k (acc.set k x)
      | false => match Nat.ble n0 k with
        | true => meetHp n0 a b k (acc.set k .dead)
        | false => none
    | none, none => meetHp n0 a b k acc
    | _, _ => none
def samePans : List APan → List APan → Bool
  | [], [] => true
  | a :: as, b :: bs => sameAV a.v b.v && (a.recovered == b.recovered) && samePans as bs
  | _, _ => false
def sameMode : AMode → AMode → Bool
  | .run, .run => true
  | .returning, .returning => true
  | .panicking a, .panicking b => samePans a b
  | _, _ => false
def sameEnd : AEnd → AEnd → Bool
  | .ret a, .ret b => sameAV a b
  | .panic a, .panic b => samePans a b
  | _, _ => false
def meet1 (n0 : Nat) (r : Res) (q : Res) : Option Res :=
  match r, q with
  | .fin e pm h, .fin e' pm' h' => match sameEnd e e' && sameMode pm pm' && Nat.beq h.nx h'.nx with
    | true => (meetHp n0 h h' h.nx ⟨.e, h.nx⟩).map fun g => .fin e pm g
    | false => none
  | _, _ => none
def meetAll (n0 : Nat) : Res → List Res → Option (List Res)
  | r, [] => some [r]
  | r, q :: qs => match meet1 n0 r q with
    | some r => meetAll n0 r qs
    | none => none
def meetR (n0 : Nat) : Option (List Res) → Option (List Res)
  | some (r :: q :: qs) => meetAll n0 r (q :: qs)
  | x => x

/-! ### frames -/
def settleA : AMode → AMode
  | .panicking (⟨_, true⟩ :: _) => .returning
  | m => m
def raisedA (u : AMode) (chain : List APan) : AMode :=
  match u with
  | .panicking old => .panicking (chain ++ old)
  | _ => .panicking chain
def aResults (E : Env) (tm : Tr AV) (h : Hp) : List ResultVar → Option (List AV)
  | [] => some []
  | .tmp t :: rs => (aResults E tm h rs).map fun l => tget tm t :: l
  | .cell a t :: rs => match tget tm a with
    | .ptr b off => match aLoad E h t b off, aResults E tm h rs with
      | some v, some l => some (v :: l)
      | _, _ => none
    | _ => none
def oneOf : List AV → AV
  | [v] => v
  | l => .tuple l
def tmOf : List AV → Nat → Tr AV → Tr AV
  | [], _, t => t
  | a :: as, i, t => tmOf as (i + 1) (t.set i a)
def resTmps : List ResultVar → List Tmp
  | [] => []
  | .tmp t :: rs => t :: resTmps rs
  | .cell a _ :: rs => a :: resTmps rs
def setParams : List Tmp → List AV → Nat → Tr AV → Option (Tr AV)
  | [], [], _, t => some t
  | p :: ps, a :: as, sz, t => match Nat.blt p sz with
    | true => setParams ps as sz (t.set p a)
    | false => none
  | _, _, _, _ => none
def aEndRound (l : Nat) (jump : Option Code) (h : Hp) : Option (AEnd × Hp) :=
  match h.get l with
  | some (.loop r) => some (.ret (.v (.bool jump.isNone)), h.set l (.loop { r with state := if jump.isNone then .ready else .done, pending := jump }))
  | _ => none

def oneR (x : Option Res) : Option (List Res) :=
  match x with
  | some r => some [r]
  | none => none
def endR (l : Nat) : Res → Option (List Res)
  | .out .normal s => oneR ((aEndRound l none s.hp).map fun (e, h) => .fin e .run h)
  | .out (.exit i) s => oneR ((aEndRound l (some (.exit i)) s.hp).map fun (e, h) => .fin e .run h)
  | .out (.goto i) s => oneR ((aEndRound l (some (.goto i)) s.hp).map fun (e, h) => .fin e .run h)
  | .out .ret s => oneR ((aEndRound l (some .ret) s.hp).map fun (e, h) => .fin e .run h)
  | .out (.panic ch) s => match s.df with
    | [] => some [.fin (.panic ch) .run s.hp]
    | _ :: _ => none
  | _ => none

def isRun : AMode → Bool
  | .run => true
  | _ => false
def evBody (E : Env) (ih : Job → Option (List Res)) : Job → Option (List Res)
  | .code x c s => match c with
    | .skip | .label _ => some [.out .normal s]
    | .seq a b => andThen (ih (.code x a s)) fun r => match r with
      | .out .normal s => ih (.code x b s)
      | r => some [r]
    | .cond c a b => match opv E s.tm c with
      | some (.v (.bool true)) => ih (.code x a s)
      | some (.v (.bool false)) => ih (.code x b s)
      | _ => none
    | .block id c => andThen (ih (.code x c s)) fun r => match r with
      | .out (.exit i) s => match Nat.beq i id with
        | true => some [.out .normal s]
        | false => some [.out (.exit i) s]
      | r => some [r]
    | .loop c => andThen (ih (.code x c s)) fun r => match r with
      | .out .normal s => ih (.code x (.loop c) s)
      | r => some [r]
    | .scope c => ih (.scope x c c s)
    | .exit id => some [.out (.exit id) s]
    | .goto l => some [.out (.goto l) s]
    | .ret => some [.out .ret s]
    | .refuse _ => none
    | .region _ ops draw => match draw with
      | false => runOps E ih x ops.toList ops.toList s
      | true => oneR (drawW E ih x ops.toList s)
    | .rangeFunc f params assign body => match opv E s.tm f with
      | none => none
      | some fv =>
        let pre : Option (Nat × List ADef × Hp) := match x.rnd with
          | some l => match s.hp.get l with
            | some (.loop r) => some (r.defers, s.df, s.hp)
            | _ => none
          | none => some (s.hp.nx, ⟨.collected s.hp.nx, []⟩ :: s.df, s.hp.push (.defs (some [])))
        match pre with
        | none => none
        | some (dfs, df, h) =>
          match tgtOf fv [.yield h.nx] with
          | none => none
          | some d => match goes E d with
            | some (.enter g args) => andThen (ih (.call false g args .run (h.push (.loop { state := .ready, pending := none, fn := x.fn, tm := s.tm, sz := s.sz, params := params.toList, assign, body, defers := dfs })))) fun r => match r with
              | .fin (.panic ch) _ h' => some [.out (.panic ch) { s with df, hp := h' }]
              | .fin (.ret _) _ h' => match h'.get h.nx with
                | some (.loop r) => match r.state with
                  | .busy => none
                  | _ => match r.pending with
                    | none => some [.out .normal { s with df, hp := h'.set h.nx .dead }]
                    | some j => ih (.code x j { s with df, hp := h'.set h.nx .dead })
                | _ => none
              | _ => none
            | _ => none
  | .scope x body cur s => andThen (ih (.code x cur s)) fun r => match r with
    | .out (.goto l) s => match findLabel body l with
      | some rest => ih (.scope x body rest s)
      | none => some [.out (.goto l) s]
    | r => some [r]
  | .call dfd f args pm h => match E.ft.get f with
    | none => none
    | some fn => match fn.body with
      | none => none
      | some c =>
        let x : Ctx := { fn := f, dfd, rnd := none, res := resTmps fn.results.toList }
        meetR h.nx (andThen (ih (.code x c { tm := tmOf args 0 .e, sz := Nat.max args.length fn.ntmps, df := [], pm, hp := h })) fun r => match r with
        | .out .normal s => ih (.leave x fn.results.toList .returning s)
        | .out .ret s => ih (.leave x fn.results.toList .returning s)
        | .out (.panic ch) s => ih (.leave x fn.results.toList (.panicking ch) s)
        | _ => none)
  | .round l args h => match h.get l with
    | some (.loop r) => match setParams r.params args r.sz r.tm, E.ft.get r.fn with
      | none, _ => none
      | _, none => none
      | some tm, some _ =>
        let x : Ctx := { fn := r.fn, dfd := false, rnd := some l, res := [] }
        andThen (ih (.code x r.assign { tm, sz := r.sz, df := [], pm := .run, hp := h })) fun q => match q with
        | .out .normal s => match s.hp.get l with
          | some (.loop r') => match r'.state with
            | .ready => andThen (ih (.code x r.body { s with hp := s.hp.set l (.loop { r' with state := .busy }) })) (endR l)
            | _ => none
          | _ => none
        | _ => none
    | _ => none
  | .leave x rs mode s => match isRun mode with
   | true => none
   | false => match s.df with
    | [] => match mode with
      | .returning => oneR ((aResults E s.tm s.hp rs).map fun l => .fin (.ret (oneOf l)) s.pm s.hp)
      | .panicking ch => some [.fin (.panic ch) s.pm s.hp]
      | .run => none
    | d :: ds => match d.target with
      | .collected r => match s.hp.get r with
        | some (.defs (some l)) => ih (.leave x rs mode { s with df := l ++ ds, hp := s.hp.set r (.defs none) })
        | _ => none
      | _ => match goes E d with
        | some (.enter f args) => andThen (ih (.call true f args mode s.hp)) fun r => match r with
          | .fin (.ret _) pm h => ih (.leave x rs (settleA pm) { s with df := ds, hp := h })
          | .fin (.panic ch) pm h => ih (.leave x rs (raisedA pm ch) { s with df := ds, hp := h })
          | _ => none
        | _ => none

def ev (E : Env) : Nat → Job → Option (List Res)
  | 0, _ => none
  | n + 1, j => evBody E (ev E n) j
end Go.Xe
