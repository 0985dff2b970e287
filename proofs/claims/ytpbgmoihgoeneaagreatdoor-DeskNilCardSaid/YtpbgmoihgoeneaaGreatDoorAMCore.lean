/- The abstract machine: a deterministic evaluator of loaded programs over abstract blocks: no tape, no capacities, no addresses of the model's heap. This text defines it; nothing is proved here. -/
import Derived.Calls
import GoSem.Extern.BytealgIndexByte
namespace Go.AM

abbrev M := Except String

/-- A table by numbers. -/
inductive T (α : Type) where
  | leaf
  | node (v : Option α) (l r : T α)
  deriving Inhabited

namespace T
variable {α : Type}
def get : T α → Nat → Option α
  | .leaf, _ => none
  | .node v l r, n =>
    match n with
    | 0 => v
    | m + 1 =>
      match m % 2 with
      | 0 => l.get (m / 2)
      | _ => r.get (m / 2)
def setF : Nat → T α → Nat → Option α → T α
  | 0, t, _, _ => t
  | f + 1, .leaf, n, x =>
    match n with
    | 0 => .node x .leaf .leaf
    | m + 1 =>
      match m % 2 with
      | 0 => .node none (setF f .leaf (m / 2) x) .leaf
      | _ => .node none .leaf (setF f .leaf (m / 2) x)
  | f + 1, .node v l r, n, x =>
    match n with
    | 0 => .node x l r
    | m + 1 =>
      match m % 2 with
      | 0 => .node v (setF f l (m / 2) x) r
      | _ => .node v l (setF f r (m / 2) x)
def set (t : T α) (n : Nat) (x : α) : T α := setF (n + 1) t n (some x)
def erase (t : T α) (n : Nat) : T α := setF (n + 1) t n none
/-- As setF, carried out at once. -/
def setM : Nat → T α → Nat → Option α → Except String (T α)
  | 0, t, _, _ => .ok t
  | f + 1, .leaf, n, x =>
    match n with
    | 0 => .ok (.node x .leaf .leaf)
    | m + 1 =>
      match m % 2 with
      | 0 => (setM f .leaf (m / 2) x).bind fun t => .ok (.node none t .leaf)
      | _ => (setM f .leaf (m / 2) x).bind fun t => .ok (.node none .leaf t)
  | f + 1, .node v l r, n, x =>
    match n with
    | 0 => .ok (.node x l r)
    | m + 1 =>
      match m % 2 with
      | 0 => (setM f l (m / 2) x).bind fun t => .ok (.node v t r)
      | _ => (setM f r (m / 2) x).bind fun t => .ok (.node v l t)
def ofListFrom : Nat → List α → T α → T α
  | _, [], t => t
  | i, x :: l, t => ofListFrom (i + 1) l (t.set i x)
end T

/-- The capacity of a slice whose array may have more room than is known is this and how many cells an element takes. -/
def GROW : Nat := 4611686018427387904

inductive Blk where
  | cells (c : List Value) (elem : TypeId) (ro : Bool)
  | map (es : List MapEntry) (clock : Nat)
  | siter (s : ByteArray) (pos : Nat)
  | miter (m : Option Nat) (since : Nat) (seen : List Nat) (stepped : Nat)
  | loop (st : LoopState) (pending : Option Code) (tmps : T Value) (params : List Tmp) (assign body : Code)
  deriving Inhabited

structure St where
  heap : T Blk
  next : Nat
  deriving Inhabited

structure Fr where
  tmps : T Value
  defers : List Deferred
  round : Bool
  deriving Inhabited

mutual
/-- A value without an address: it stands for itself. -/
def closedV : Value → Bool
  | .bool _ | .int _ _ | .float _ _ | .complex _ _ _ | .string _ | .pointer none | .slice none _ _ | .map none | .chan none | .nilFunc | .nilIface => true
  | .func (.yield _) _ _ => false
  | .func _ ⟨a⟩ ⟨c⟩ => closedL a && closedL c
  | .iface _ v => closedV v
  | .agg ⟨l⟩ => closedL l
  | .tuple ⟨l⟩ => closedL l
  | _ => false
def closedL : List Value → Bool
  | [] => true
  | x :: l => closedV x && closedL l
end

def closedO (G : Nat) : Operand → Bool
  | .tmp _ => true
  | .const v => closedV v
  | .global g => decide (g < G)
  | .func _ => true

def allL {α : Type} (p : α → Bool) : List α → Bool
  | [] => true
  | x :: l => p x && allL p l

def dstOk (n : Nat) : Option Tmp → Bool
  | some d => decide (d < n)
  | none => true

def wfOper (G n : Nat) (o : Oper) : Bool := allL (closedO G) o.op.operands.toList && dstOk n o.dst

/-- What is asked of a text beforehand: its constants bear no address, its slots lie in the frame. -/
def wfCode (G n : Nat) : Code → Bool
  | .region _ ops _ => allL (wfOper G n) ops.toList
  | .seq a b => wfCode G n a && wfCode G n b
  | .cond c a b => closedO G c && wfCode G n a && wfCode G n b
  | .block _ b => wfCode G n b
  | .loop b => wfCode G n b
  | .scope b => wfCode G n b
  | .rangeFunc f ps a b => closedO G f && allL (fun p => decide (p < n)) ps.toList && wfCode G n a && wfCode G n b
  | _ => true

/-- What is asked of a type. -/
structure TI where
  und : TypeDesc
  size : Nat
  bytes : Nat
  zero : Option Value
  methods : List Method
  agg : Bool
  eqOk : Bool
  deriving Inhabited

inductive Ext where
  | indexByte
  deriving Inhabited, DecidableEq

structure Env where
  /-- How many package-level variables there are. -/
  G : Nat
  ty : Nat → Option TI
  fn : Nat → Option Func
  ext : Nat → Option Ext

inductive AX where
  | normal
  | exit (id : Nat)
  | goto (l : Nat)
  | ret
  deriving Inhabited

structure Rec where
  code : Code → Fr → St → M (AX × Fr × St)
  call : FuncId → List Value → St → M (Value × St)
  round : Nat → List Value → St → M (Value × St)

inductive ANext where
  | value (v : Value)
  | call (f : FuncId) (args : List Value)
  | round (l : Nat) (args : List Value)
  | defer (d : Deferred)
  deriving Inhabited

def bad {α : Type} (s : String) : M α := .error s

section
variable (E : Env)

def ti (t : TypeId) : M TI := match E.ty t with | some i => .ok i | none => bad "no type"

def ev (fr : T Value) : Operand → Value
  | .tmp t => match fr.get t with | some v => v | none => undef
  | .const v => v
  | .global g => .pointer (some ⟨g, 0, none⟩)
  | .func f => .func (.func f) #[] #[]

def vcells : Value → List Value
  | .agg cs => cs.toList
  | v => [v]

def zeroOf (i : TI) : M Value := match i.zero with | some v => if closedV v then .ok v else bad "zero" | none => bad "zero"

def forceN : Nat → M Nat
  | 0 => .ok 0
  | n + 1 => .ok (n + 1)

def forceI : Int → M Int
  | .ofNat n => (forceN n).bind fun n => .ok (.ofNat n)
  | .negSucc n => (forceN n).bind fun n => .ok (.negSucc n)

/-- A value whose number has been reckoned. -/
def forceV : Value → M Value
  | .int k n => (forceI n).bind fun n => .ok (.int k n)
  | .bool true => .ok (.bool true)
  | .bool false => .ok (.bool false)
  | v => .ok v

def setBlk (σ : St) (n : Nat) (b : Blk) : M St :=
  match σ with
  | ⟨h, nx⟩ => (T.setM (n + 1) h n (some b)).bind fun h => .ok ⟨h, nx⟩

def eraseBlk (σ : St) (n : Nat) : M St :=
  match σ with
  | ⟨h, nx⟩ => (T.setM (n + 1) h n none).bind fun h => .ok ⟨h, nx⟩

/-- A new block: its number, and the state with it. -/
def newBlk (σ : St) (b : Blk) : M (Nat × St) :=
  match σ with
  | ⟨h, nx⟩ => (forceN nx).bind fun nx => (T.setM (nx + 1) h nx (some b)).bind fun h => .ok (nx, ⟨h, nx + 1⟩)

def cellsAt (σ : St) (b : Nat) : M (List Value × TypeId × Bool) :=
  match σ.heap.get b with
  | some (.cells c e ro) => .ok (c, e, ro)
  | _ => bad "no cells"

def takeExact {α : Type} : Nat → List α → M (List α)
  | 0, _ => .ok []
  | n + 1, x :: l => (takeExact n l).map (x :: ·)
  | _ + 1, [] => bad "too few cells"

/-- n cells from an address on. -/
def readN (σ : St) (a : Addr) (n : Nat) : M (List Value) :=
  if a.spot.isSome then bad "spot" else
  (cellsAt σ a.block).bind fun (c, _, _) => takeExact n (c.drop a.off)

def putN : List Value → Nat → List Value → M (List Value)
  | c, 0, [] => .ok c
  | [], _, _ => bad "store: too few cells"
  | _ :: c, 0, y :: ys => (putN c 0 ys).map (y :: ·)
  | x :: c, n + 1, ys => (putN c n ys).map (x :: ·)

def scalarV : Value → Bool
  | .agg _ => false
  | .tuple _ => false
  | _ => true

def writeN (σ : St) (a : Addr) (vs : List Value) : M St :=
  if a.spot.isSome then bad "spot" else
  if !vs.all scalarV then bad "store: not cells" else
  (cellsAt σ a.block).bind fun (c, e, ro) =>
    if ro then bad "store: read only" else
    (putN c a.off vs).bind fun c' => setBlk σ a.block (.cells c' e false)

def addrOf : Value → M Addr
  | .pointer (some a) => .ok a
  | _ => bad "address"

def mkAgg (l : List Value) : Value := .agg l.toArray

def loadVarA (σ : St) (t : TypeId) (a : Addr) : M Value :=
  (ti E t).bind fun i =>
    if i.agg then (readN σ a i.size).map mkAgg
    else (readN σ a 1).bind fun
      | [v] => .ok v
      | _ => bad "load"

def partA (i : TI) (cs : List Value) (off : Nat) : M Value :=
  if i.agg then .ok (mkAgg ((cs.drop off).take i.size))
  else match cs[off]? with | some v => .ok v | none => bad "part"

def fieldOf (i : TI) (f : Nat) : M Field :=
  match i.und with
  | .struct fs => match fs[f]? with | some x => .ok x | none => bad "field"
  | _ => bad "struct"

def nth {α : Type} : List α → Nat → Option α
  | [], _ => none
  | x :: _, 0 => some x
  | _ :: l, n + 1 => nth l n

def mapE {α β : Type} (f : α → M β) : List α → M (List β)
  | [] => .ok []
  | x :: l => (f x).bind fun y => (mapE f l).map (y :: ·)

def setCells : List Value → Nat → List Value → List Value
  | c, _, [] => c
  | [], _, _ => []
  | _ :: c, 0, y :: ys => y :: setCells c 0 ys
  | x :: c, n + 1, ys => x :: setCells c n ys

def fillA (place : Nat → M (Nat × Nat)) : List Value → List (Nat × Value) → M (List Value)
  | cells, [] => .ok cells
  | cells, (i, v) :: rest =>
    (place i).bind fun (off, size) =>
      if (vcells v).length ≠ size || off + size > cells.length then bad "build: part" else
      fillA place (setCells cells off (vcells v)) rest

def repl {α : Type} : Nat → List α → List α
  | 0, _ => []
  | n + 1, z => z ++ repl n z

def buildA (t : TypeId) (parts : List (Nat × Value)) : M Value :=
  (ti E t).bind fun i => (zeroOf i).bind fun z =>
    match i.und with
    | .struct fs => (mapE (fun f => (ti E f.type).map fun j => (f.offset, j.size)) fs.toList).bind fun pl =>
      (fillA (fun k => match nth pl k with | some p => .ok p | none => bad "build: field") (vcells z) parts).map mkAgg
    | .array _ e => (ti E e).bind fun j => (fillA (fun k => .ok (k * j.size, j.size)) (vcells z) parts).map mkAgg
    | _ => bad "build"

def elemTI (t : TypeId) : M (TypeId × TI) :=
  (ti E t).bind fun i => match i.und with
    | .slice e => (ti E e).map fun j => (e, j)
    | _ => bad "slice type"

def buildSliceA (t : TypeId) (len : Nat) (parts : List (Nat × Value)) : M (Blk × (Nat → Value)) :=
  (elemTI E t).bind fun (e, j) => (zeroOf j).bind fun z =>
    if len * j.size > 16777216 || len > 16777216 then bad "buildSlice" else
    if (vcells z).length ≠ j.size then bad "zero" else
    (fillA (fun k => .ok (k * j.size, j.size)) (repl len (vcells z)) parts).map fun c =>
      (.cells c e false, fun b => .slice (some ⟨b, 0, none⟩) len len)

def wrapF (k : IntKind) (n : Int) : Int :=
  match k with
  | .i64 => if -9223372036854775808 ≤ n && n < 9223372036854775808 then n else IntKind.wrap .i64 n
  | .u64 => if 0 ≤ n && n < 18446744073709551616 then n else IntKind.wrap .u64 n
  | .i32 => if -2147483648 ≤ n && n < 2147483648 then n else IntKind.wrap .i32 n
  | .u32 => if 0 ≤ n && n < 4294967296 then n else IntKind.wrap .u32 n
  | .i16 => if -32768 ≤ n && n < 32768 then n else IntKind.wrap .i16 n
  | .u16 => if 0 ≤ n && n < 65536 then n else IntKind.wrap .u16 n
  | .i8 => if -128 ≤ n && n < 128 then n else IntKind.wrap .i8 n
  | .u8 => if 0 ≤ n && n < 256 then n else IntKind.wrap .u8 n

def bytesEq : List UInt8 → List UInt8 → Bool
  | [], [] => true
  | a :: x, b :: y => if a.toNat = b.toNat then bytesEq x y else false
  | _, _ => false

def strA (op : BinOp) (x y : ByteArray) : M Value :=
  match op with
  | .add => if x.data.toList.length + y.data.toList.length > 1099511627776 then bad "string: too long" else .ok (.string ⟨(x.data.toList ++ y.data.toList).toArray⟩)
  | .eql => .ok (.bool (bytesEq x.data.toList y.data.toList))
  | .neq => .ok (.bool (!bytesEq x.data.toList y.data.toList))
  | .lss => .ok (.bool (Op.bytesLess x.data.toList y.data.toList))
  | .leq => .ok (.bool (Op.bytesLess x.data.toList y.data.toList || bytesEq x.data.toList y.data.toList))
  | .gtr => .ok (.bool !(Op.bytesLess x.data.toList y.data.toList || bytesEq x.data.toList y.data.toList))
  | .geq => .ok (.bool !(Op.bytesLess x.data.toList y.data.toList))
  | _ => bad "string op"

def intA (op : BinOp) (k : IntKind) (x y : Int) : M Value :=
  match op with
  | .add => .ok (.int k (wrapF k (x + y)))
  | .sub => .ok (.int k (wrapF k (x - y)))
  | .mul => .ok (.int k (wrapF k (x * y)))
  | .quo => if y = 0 then bad "division by zero" else .ok (.int k (wrapF k (x.tdiv y)))
  | .rem => if y = 0 then bad "division by zero" else .ok (.int k (x.tmod y))
  | .and => .ok (.int k (wrapF k ((BitVec.ofInt k.bits x &&& BitVec.ofInt k.bits y).toNat)))
  | .or => .ok (.int k (wrapF k ((BitVec.ofInt k.bits x ||| BitVec.ofInt k.bits y).toNat)))
  | .xor => .ok (.int k (wrapF k ((BitVec.ofInt k.bits x ^^^ BitVec.ofInt k.bits y).toNat)))
  | .andNot => .ok (.int k (wrapF k ((BitVec.ofInt k.bits x &&& ~~~BitVec.ofInt k.bits y).toNat)))
  | .eql => .ok (.bool (x == y))
  | .neq => .ok (.bool (x != y))
  | .lss => .ok (.bool (x < y))
  | .leq => .ok (.bool (x ≤ y))
  | .gtr => .ok (.bool (x > y))
  | .geq => .ok (.bool (x ≥ y))
  | _ => bad "int op"

def shiftA (op : BinOp) (k : IntKind) (x y : Int) : M Value :=
  if y < 0 then bad "negative shift" else
  match op with
  | .shl => .ok (.int k (wrapF k (x * ((2 ^ (min y.toNat k.bits) : Nat) : Int))))
  | .shr => .ok (.int k (x.fdiv ((2 ^ (min y.toNat k.bits) : Nat) : Int)))
  | _ => bad "shift"

def eqFieldsA (eq : TypeId → Value → Value → M Bool) (xs ys : List Value) : List Field → M Bool
  | [] => .ok true
  | f :: rest =>
    if f.name = "_" then bad "equal: blank field" else
    (ti E f.type).bind fun j =>
    (partA j xs f.offset).bind fun a => (partA j ys f.offset).bind fun b =>
    (eq f.type a b).bind fun r => if r then eqFieldsA eq xs ys rest else .ok false

/-- Two values of a type. -/
def equalA : Nat → TypeId → Value → Value → M Bool
  | 0, _, _, _ => bad "equal: depth"
  | d + 1, t, x, y =>
    (ti E t).bind fun i =>
    match i.und, x, y with
    | .bool, .bool a, .bool b => .ok (a == b)
    | .int _, .int k a, .int k' b => if k = k' then .ok (a == b) else bad "equal: kinds"
    | .string, .string a, .string b => .ok (bytesEq a.data.toList b.data.toList)
    | .pointer _, .pointer none, .pointer b => .ok b.isNone
    | .pointer _, .pointer (some _), .pointer none => .ok false
    | .interface _, .nilIface, .iface _ _ => .ok false
    | .interface _, .iface _ _, .nilIface => .ok false
    | .slice _, .slice none _ _, .slice b _ _ => .ok b.isNone
    | .slice _, .slice (some _) _ _, .slice none _ _ => .ok false
    | .map _ _, .map none, .map b => .ok b.isNone
    | .map _ _, .map (some _), .map none => .ok false
    | .func _ _ _, .nilFunc, .nilFunc => .ok true
    | .func _ _ _, .nilFunc, .func _ _ _ => .ok false
    | .func _ _ _, .func _ _ _, .nilFunc => .ok false
    | .struct fs, .agg xs, .agg ys =>
      if !i.eqOk then bad "equal: struct" else eqFieldsA E (equalA d) xs.toList ys.toList fs.toList
    | _, _, _ => bad "equal: kind"

def binOpA (op : BinOp) (t : TypeId) (x y : Value) : M Value :=
  match x, y with
  | .int k a, .int k' b =>
    match op with
    | .shl => shiftA .shl k a b
    | .shr => shiftA .shr k a b
    | _ => if k = k' then intA op k a b else bad "kinds"
  | .string a, .string b => strA op a b
  | _, _ =>
    match op with
    | .eql => (equalA E 100 t x y).map fun r => .bool r
    | .neq => (equalA E 100 t x y).map fun r => .bool (!r)
    | _ => bad "binop"

def unA (op : UnOp) (x : Value) : M Value :=
  match op, x with
  | .neg, .int k n => .ok (.int k (wrapF k (0 - n)))
  | .xor, .int k n => intA .xor k (if k.signed then -1 else k.max) n
  | .not, .bool b => .ok (.bool !b)
  | _, _ => bad "unop"

def byteOf : Value → M UInt8
  | .int .u8 n => .ok (UInt8.ofNat n.toNat)
  | _ => bad "byte"

def byteVal (b : UInt8) : Value := .int .u8 b.toNat

def bytesAt (σ : St) (x : Value) : M (List UInt8) :=
  match x with
  | .string s => .ok s.data.toList
  | .slice none _ _ => .ok []
  | .slice (some a) n _ => (readN σ a n).bind (mapE byteOf)
  | _ => bad "bytes"

def mapL {α β : Type} (f : α → β) : List α → List β
  | [] => []
  | x :: l => f x :: mapL f l

def convertA (σ : St) (src dst : TypeId) (x : Value) : M Value :=
  (ti E src).bind fun i => (ti E dst).bind fun j =>
  match i.und, j.und, x with
  | _, .int k, .int _ n => .ok (.int k (wrapF k n))
  | _, .string, .int _ n => .ok (.string (Utf8.encode n))
  | _, .string, .string s => .ok (.string s)
  | .slice e, .string, x =>
    (ti E e).bind fun ej => match ej.und with
    | .int .u8 => (bytesAt σ x).map fun l => .string ⟨l.toArray⟩
    | _ => bad "convert from slice"
  | _, _, _ => bad "convert"

/-- A slice of bytes that is converted to its own type ([]byte of a constant). -/
def convertSliceA (σ : St) (src dst : TypeId) (x : Value) : M Value :=
  (ti E dst).bind fun j =>
  match j.und, x with
  | .slice e, .slice (some a) n c =>
    (ti E e).bind fun ej => match ej.und with
    | .int .u8 => if src = dst && n ≠ 0 then
        (cellsAt σ a.block).bind fun (_, _, ro) => if ro then bad "convert slice" else .ok (.slice (some a) n c)
      else bad "convert slice"
    | _ => bad "convert slice"
  | _, _ => bad "convert slice"

def bytesNewA (src dst : TypeId) (x : Value) : M (Blk × (Nat → Value)) :=
  (ti E src).bind fun _ => (ti E dst).bind fun j =>
  match j.und, x with
  | .slice e, .string s =>
    (ti E e).bind fun ej => match ej.und with
    | .int .u8 => if ej.size ≠ 1 then bad "a byte's size" else .ok (.cells (mapL byteVal s.data.toList) e false, fun b => .slice (some ⟨b, 0, none⟩) s.data.toList.length (GROW + ej.size))
    | _ => bad "convert to slice"
  | _, _ => bad "convert to slice"

/-- 0: a plain conversion; 1: a string to new bytes; 2: bytes to the same type. -/
def convKind (src dst : TypeId) : Nat :=
  match E.ty src, E.ty dst with
  | some i, some j => match i.und, j.und with
    | .string, .slice _ => 1
    | .slice _, .slice _ => 2
    | _, _ => 0
  | _, _ => 0

def intOf : Value → M Int
  | .int _ n => .ok n
  | _ => bad "int"

def makeSliceA (t : TypeId) (l c : Value) : M (Blk × (Nat → Value)) :=
  (elemTI E t).bind fun (e, j) => (zeroOf j).bind fun z => (intOf l).bind fun l => (intOf c).bind fun c =>
  if l < 0 || l > c || c > 1099511627776 || (j.bytes : Int) * c > 1099511627776 then bad "make: size" else
  if (vcells z).length ≠ j.size then bad "zero" else
  .ok (.cells (repl c.toNat (vcells z)) e false, fun b => .slice (some ⟨b, 0, none⟩) l.toNat c.toNat)

def boundA (v : Option Value) (dflt : Nat) (most : Nat) : M Nat :=
  match v with
  | none => .ok dflt
  | some v => (intOf v).bind fun i => if 0 ≤ i && i ≤ (most : Int) then .ok i.toNat else bad "slice bound"

/-- The bounds of a slice expression over n elements, of which c may be had. -/
def bounds3 (lo hi mx : Option Value) (n c : Nat) : M (Nat × Nat × Nat) :=
  match hi, mx with
  | none, some _ => bad "slice: no upper bound"
  | _, _ => (boundA mx c c).bind fun m => (boundA hi n m).bind fun h => (boundA lo 0 h).bind fun l => .ok (l, h, m)

def sliceA (t : TypeId) (x : Value) (lo hi mx : Option Value) : M Value :=
  (ti E t).bind fun i =>
  match i.und, x with
  | .string, .string s =>
    if mx.isSome then bad "slice" else
    (bounds3 lo hi none s.data.toList.length s.data.toList.length).bind fun (l, h, _) => .ok (.string ⟨((s.data.toList.drop l).take (h - l)).toArray⟩)
  | .slice e, .slice a n c =>
    (ti E e).bind fun j =>
    match a with
    | none => if n ≠ 0 || c ≠ 0 then bad "slice: nil" else (bounds3 lo hi mx 0 0).bind fun (l, h, m) => .ok (.slice none (h - l) (m - l))
    | some a =>
      if GROW ≤ c then
        if c ≠ GROW + j.size || GROW ≤ n then bad "slice: size" else
        (bounds3 lo hi mx n n).bind fun (l, h, m) =>
          match mx with
          | none => (forceN (h - l)).bind fun k => .ok (.slice (some (a.add (l * j.size))) k c)
          | some _ => .ok (.slice (some (if m = l then a else a.add (l * j.size))) (h - l) (m - l))
      else
        (bounds3 lo hi mx n c).bind fun (l, h, m) => .ok (.slice (some (if m = l then a else a.add (l * j.size))) (h - l) (m - l))
  | .array n e, .pointer (some a) =>
    (ti E e).bind fun j => if GROW ≤ n then bad "slice: array" else
      (bounds3 lo hi mx n n).bind fun (l, h, m) => .ok (.slice (some (if m = l then a else a.add (l * j.size))) (h - l) (m - l))
  | _, _ => bad "slice"

def fieldAddrA (s : TypeId) (x : Value) (f : Nat) : M Value :=
  (ti E s).bind fun i => (fieldOf i f).bind fun fd => (addrOf x).bind fun a => (ti E fd.type).bind fun j =>
    if j.size = 0 then bad "field of no size" else .ok (.pointer (some (a.add fd.offset)))

def fieldA (s : TypeId) (x : Value) (f : Nat) : M Value :=
  (ti E s).bind fun i => (fieldOf i f).bind fun fd => (ti E fd.type).bind fun j =>
    match x with
    | .agg cs => partA j cs.toList fd.offset
    | _ => bad "struct value"

def indexAddrA (t : TypeId) (x ix : Value) : M Value :=
  (ti E t).bind fun i => (intOf ix).bind fun k =>
  match i.und, x with
  | .array len e, .pointer (some a) => (ti E e).bind fun j =>
      if 0 ≤ k && k < (len : Int) then .ok (.pointer (some (a.add (k.toNat * j.size)))) else bad "index out of range"
  | .slice e, .slice (some a) len _ => (ti E e).bind fun j =>
      if 0 ≤ k && k < (len : Int) then .ok (.pointer (some (a.add (k.toNat * j.size)))) else bad "index out of range"
  | _, _ => bad "indexAddr"

def indexA (t : TypeId) (x ix : Value) : M Value :=
  (ti E t).bind fun i => (intOf ix).bind fun k =>
  match i.und, x with
  | .array len e, .agg cs => (ti E e).bind fun j =>
      if 0 ≤ k && k < (len : Int) then partA j cs.toList (k.toNat * j.size) else bad "index out of range"
  | .string, .string s =>
      if 0 ≤ k then match nth s.data.toList k.toNat with | some b => .ok (byteVal b) | none => bad "index out of range"
      else bad "index out of range"
  | _, _ => bad "index"

def keyEq : Value → Value → M Bool
  | .int k a, .int k' b => if k = k' then .ok (a == b) else bad "key"
  | .string a, .string b => .ok (bytesEq a.data.toList b.data.toList)
  | .bool a, .bool b => .ok (a == b)
  | _, _ => bad "key"

def findE (k : Value) : List MapEntry → Nat → M (Option (Nat × Value))
  | [], _ => .ok none
  | e :: es, i => (keyEq k e.key).bind fun r => if r then .ok (some (i, e.val)) else findE k es (i + 1)

def keyKind (i : TI) (k : Value) : M Unit :=
  match i.und, k with
  | .int _, .int _ _ => .ok ()
  | .string, .string _ => .ok ()
  | .bool, .bool _ => .ok ()
  | _, _ => bad "map key"

def mapAt (σ : St) (r : Nat) : M (List MapEntry × Nat) :=
  match σ.heap.get r with
  | some (.map es c) => .ok (es, c)
  | _ => bad "no map"

def mapTI (t : TypeId) : M (TI × TI) :=
  (ti E t).bind fun i => match i.und with
  | .map k e => (ti E k).bind fun ki => (ti E e).map fun ei => (ki, ei)
  | _ => bad "map type"

def lookupA (σ : St) (t : TypeId) (x ix : Value) (ok : Bool) : M Value :=
  (mapTI E t).bind fun (ki, ei) => (keyKind ki ix).bind fun _ => (zeroOf ei).bind fun z =>
  (show M (Option (Nat × Value)) from match x with
    | .map none => .ok none
    | .map (some r) => (mapAt σ r).bind fun (es, _) => findE ix es 0
    | _ => bad "lookup").map fun r =>
  match r with
  | some (_, v) => if ok then .tuple #[v, .bool true] else v
  | none => if ok then .tuple #[z, .bool false] else z

def modNth {α : Type} (f : α → α) : List α → Nat → List α
  | [], _ => []
  | x :: l, 0 => f x :: l
  | x :: l, n + 1 => x :: modNth f l n

def mapUpdateA (σ : St) (t : TypeId) (x k v : Value) : M St :=
  (mapTI E t).bind fun (ki, _) => (keyKind ki k).bind fun _ =>
  match x with
  | .map (some r) => (mapAt σ r).bind fun (es, c) => (findE k es 0).bind fun
    | some (i, _) => setBlk σ r (.map (modNth (fun e => { e with key := k, val := v }) es i) c)
    | none => setBlk σ r (.map (es ++ [{ key := k, val := v, born := c }]) (c + 1))
  | _ => bad "mapUpdate"

def rangeA (σ : St) (t : TypeId) (x : Value) : M (Value × St) :=
  (ti E t).bind fun i =>
  (show M Blk from match i.und, x with
    | .string, .string s => .ok (.siter s 0)
    | .map _ _, .map none => .ok (.miter none 0 [] 0)
    | .map _ _, .map (some m) => (mapAt σ m).map fun (_, c) => Blk.miter (some m) c [] c
    | _, _ => bad "range").bind fun b => (newBlk σ b).bind fun (n, σ') => .ok (.pointer (some ⟨n, 0, none⟩), σ')

def nextA (σ : St) (it : Value) (isString : Bool) : M (Value × St) :=
  match it with
  | .pointer (some ⟨r, 0, none⟩) =>
    match σ.heap.get r, isString with
    | some (.siter s pos), true =>
      if pos < s.data.toList.length then
        match Utf8.decode s pos with
        | (c, width) => (forceN (pos + width)).bind fun p' => (setBlk σ r (.siter s p')).bind fun σ' => .ok (.tuple #[.bool true, goInt pos, .int .i32 c], σ')
      else .ok (.tuple #[.bool false], σ)
    | some (.miter none _ _ _), false => .ok (.tuple #[.bool false], σ)
    | some (.miter (some m) since seen last), false =>
      (mapAt σ m).bind fun (es, clock) =>
      -- told alone where one entry at most is there, older than the range
      match es with
      | [] => if seen.isEmpty then .ok (.tuple #[.bool false], σ) else bad "map range"
      | [e] =>
        if e.born < since then
          if seen.isEmpty then (setBlk σ r (.miter (some m) since [e.born] clock)).bind fun σ' => .ok (.tuple #[.bool true, e.key, e.val], σ')
          else if seen == [e.born] && decide (e.born < last) then .ok (.tuple #[.bool false], σ) else bad "map range"
        else bad "map range"
      | _ => bad "map range: several"
    | _, _ => bad "next"
  | _ => bad "next"

def typeAssertA (x : Value) (asserted : TypeId) (ok : Bool) : M Value :=
  (ti E asserted).bind fun i =>
  match i.und, x with
  | .interface _, _ => bad "assert: interface"
  | _, .nilIface => if ok then (zeroOf i).map fun z => .tuple #[z, .bool false] else bad "assert: nil"
  | _, .iface t v =>
    if t = asserted then .ok (if ok then .tuple #[v, .bool true] else v)
    else if ok then (zeroOf i).map fun z => .tuple #[z, .bool false] else bad "assert: other type"
  | _, _ => bad "assert"

inductive APlace where
  | val (v : Value)
  | var (a : Addr)

def APlace.getA (σ : St) (t : TypeId) : APlace → M Value
  | .val v => .ok v
  | .var a => loadVarA E σ t a

def fieldPlaceA (a : Addr) (f : Field) : M Addr :=
  (ti E f.type).bind fun j => if j.size = 0 then bad "field of no size" else .ok (a.add f.offset)

def followA (σ : St) : List FieldStep → TypeId → APlace → M (TypeId × APlace)
  | [], t, x => .ok (t, x)
  | s :: rest, t, x =>
    (ti E s.struct).bind fun i => (fieldOf i s.index).bind fun f =>
    if s.deref then
      (x.getA E σ t).bind fun v => (addrOf v).bind fun a => (fieldPlaceA E a f).bind fun a => followA σ rest f.type (.var a)
    else match x with
      | .var a => (fieldPlaceA E a f).bind fun a => followA σ rest f.type (.var a)
      | .val (.agg cs) => (ti E f.type).bind fun j => (partA j cs.toList f.offset).bind fun v => followA σ rest f.type (.val v)
      | .val _ => bad "follow"

def receiverAtA (σ : St) (xt : TypeId) (x : APlace) (ptr : Bool) : M Value :=
  (ti E xt).bind fun i =>
  match i.und, ptr, x with
  | .pointer _, true, x => x.getA E σ xt
  | .pointer elem, false, x => (x.getA E σ xt).bind fun p => (addrOf p).bind fun a => loadVarA E σ elem a
  | _, true, .var a => .ok (.pointer (some a))
  | _, true, .val _ => bad "receiver"
  | _, false, x => x.getA E σ xt

def findMethod (name : String) : List Method → Option Method
  | [] => none
  | m :: l => if m.name == name then some m else findMethod name l

def methodA (σ : St) : Nat → TypeId → Value → String → M (FuncId × Value)
  | 0, _, _, _ => bad "method: depth"
  | fuel + 1, t, v, name =>
    (ti E t).bind fun i =>
    match findMethod name i.methods with
    | none => bad "no such method"
    | some m =>
      (followA E σ m.path.toList t (.val v)).bind fun (xt, x) =>
      match m.func with
      | none => (x.getA E σ xt).bind fun
        | .iface t' v' => methodA σ fuel t' v' name
        | _ => bad "method: interface"
      | some (f, ptr) => (receiverAtA E σ xt x ptr).map fun r => (f, r)

def lenA (t : TypeId) (σ : St) (x : Value) : M Value :=
  (ti E t).bind fun i =>
  match i.und, x with
  | .string, .string s => .ok (goInt s.data.toList.length)
  | .array n _, _ => .ok (goInt n)
  | .slice _, .slice _ n _ => .ok (goInt n)
  | .map _ _, .map none => .ok (goInt 0)
  | .map _ _, .map (some r) => (mapAt σ r).map fun (es, _) => goInt es.length
  | _, _ => bad "len"

def srcLen : Value → M Nat
  | .slice _ n _ => .ok n
  | .string s => .ok s.data.toList.length
  | _ => bad "source"

def srcCells (σ : St) (size n : Nat) : Value → M (List Value)
  | .slice (some a) _ _ => readN σ a (n * size)
  | .slice none m _ => if m ≠ 0 then bad "source: nil" else .ok []
  | .string s => if size ≠ 1 then bad "source: not bytes" else .ok (mapL byteVal (s.data.toList.take n))
  | _ => bad "source"

def isIntTy (i : TI) : Bool := match i.und with | .int _ => true | _ => false

def appendSrc (σ : St) (j : TI) (xType : TypeId) (x : Value) : M (Nat × List Value) :=
  (ti E xType).bind fun xi =>
  if isIntTy xi then
    (intOf x).bind fun l => (zeroOf j).bind fun z =>
      if l < 0 || l > 1099511627776 || (vcells z).length ≠ j.size then bad "append: make" else .ok (l.toNat, repl l.toNat (vcells z))
  else (srcLen x).bind fun n => (srcCells σ j.size n x).map fun c => (n, c)

def appendA (σ : St) (sType xType : TypeId) (s x : Value) : M (Value × St) :=
  (elemTI E sType).bind fun (e, j) => (zeroOf j).bind fun z =>
  if j.size = 0 || j.bytes = 0 || (vcells z).length ≠ j.size then bad "append: elements of no size" else
  match s with
  | .slice base sLen sCap =>
    (appendSrc E σ j xType x).bind fun (n, new) =>
    if (sLen + n) * j.bytes > 1099511627776 || !new.all scalarV then bad "append: too long" else
    match base with
    | none =>
      if sLen ≠ 0 || sCap ≠ 0 then bad "append: nil" else
      if n = 0 then .ok (.slice none 0 0, σ) else
      (newBlk σ (.cells new e false)).bind fun (b, σ') => (forceN n).bind fun n => .ok (.slice (some ⟨b, 0, none⟩) n (GROW + j.size), σ')
    | some a =>
      if n = 0 then (if sLen ≤ sCap then .ok (s, σ) else bad "append: capacity") else
      if a.spot.isSome then bad "spot" else
      (cellsAt σ a.block).bind fun (c, _, ro) =>
      if GROW ≤ sCap then
        if sCap ≠ GROW + j.size then bad "append: size" else
        if ro || a.off + sLen * j.size ≠ c.length then bad "append: not at the end" else
        (eraseBlk σ a.block).bind fun σ => (newBlk σ (.cells (c.drop a.off ++ new) e false)).bind fun (b, σ') =>
        (forceN (sLen + n)).bind fun n => .ok (.slice (some ⟨b, 0, none⟩) n (GROW + j.size), σ')
      else if sLen + n ≤ sCap then
        (writeN σ (a.add (sLen * j.size)) new).bind fun σ' => (forceN (sLen + n)).bind fun n => .ok (.slice base n sCap, σ')
      else
        (takeExact (sLen * j.size) (c.drop a.off)).bind fun old => (newBlk σ (.cells (old ++ new) e false)).bind fun (b, σ') =>
        (forceN (sLen + n)).bind fun n => .ok (.slice (some ⟨b, 0, none⟩) n (GROW + j.size), σ')
  | _ => bad "append"

def copyA (σ : St) (dType : TypeId) (dst src : Value) : M (Value × St) :=
  (elemTI E dType).bind fun (_, j) =>
  match dst with
  | .slice base dLen _ => (srcLen src).bind fun sl =>
    let n := if sl ≤ dLen then sl else dLen
    if n = 0 then .ok (goInt 0, σ) else
    (srcCells σ j.size n src).bind fun c =>
    match base with
    | some a => (writeN σ a c).map fun σ' => (goInt n, σ')
    | none => bad "copy"
  | _ => bad "copy"

def eraseNth {α : Type} : List α → Nat → List α
  | [], _ => []
  | _ :: l, 0 => l
  | x :: l, n + 1 => x :: eraseNth l n

def deleteA (σ : St) (t : TypeId) (m k : Value) : M St :=
  (mapTI E t).bind fun (ki, _) => (keyKind ki k).bind fun _ =>
  match m with
  | .map none => .ok σ
  | .map (some r) => (mapAt σ r).bind fun (es, c) => (findE k es 0).bind fun
    | some (i, _) => setBlk σ r (.map (eraseNth es i) c)
    | none => .ok σ
  | _ => bad "delete"

def min2A : Value → Value → M Value
  | .int k x, .int _ y => .ok (.int k (if y < x then y else x))
  | _, _ => bad "min"
def max2A : Value → Value → M Value
  | .int k x, .int _ y => .ok (.int k (if y > x then y else x))
  | _, _ => bad "max"
def foldE (f : Value → Value → M Value) : Value → List Value → M Value
  | x, [] => .ok x
  | x, y :: l => (f x y).bind fun z => foldE f z l

def quietBuiltinA (b : Builtin) (ts : List TypeId) (args : List Value) (σ : St) : M Value :=
  match b, ts, args with
  | .len, t :: _, x :: _ => lenA E t σ x
  | .min, _, x :: l => foldE min2A x l
  | .max, _, x :: l => foldE max2A x l
  | _, _, _ => bad "builtin"

def loudBuiltinA (b : Builtin) (ts : List TypeId) (args : List Value) (σ : St) : M (Value × St) :=
  match b, ts, args with
  | .append, t :: u :: _, s :: x :: _ => appendA E σ t u s x
  | .copy, t :: _, d :: s :: _ => copyA E σ t d s
  | .delete, t :: _, m :: k :: _ => (deleteA E σ t m k).map fun σ' => (.tuple #[], σ')
  | _, _, _ => bad "builtin"

def findByte (c : Nat) : List UInt8 → Nat → Int
  | [], _ => -1
  | b :: l, i => if b.toNat = c then (i : Int) else findByte c l (i + 1)

def extA (x : Ext) (args : List Value) : M Value :=
  match x, args with
  | .indexByte, [.string s, .int .u8 c] => .ok (goInt (findByte (UInt8.ofNat c.toNat).toNat s.data.toList 0))
  | _, _ => bad "extern"

def callFuncA (f : FuncId) (args : List Value) (σ : St) : M (ANext × St) :=
  match E.ext f with
  | some x => (extA x args).map fun v => (.value v, σ)
  | none => match E.fn f with
    | some fn => if fn.body.isSome then .ok (.call f args, σ) else bad "a function without a body"
    | none => bad "no function"

def callMethodA (recv : Value) (name : String) (args : List Value) (σ : St) : M (ANext × St) :=
  match recv with
  | .iface t v => (methodA E σ 100 t v name).bind fun (f, r) => callFuncA E f (r :: args) σ
  | _ => bad "invoke: no interface value"

def isIface (i : TI) : Bool := match i.und with | .interface _ => true | _ => false

def invokeA (fn : Fn) (args captured : List Value) (σ : St) : M (ANext × St) :=
  match fn with
  | .func f => callFuncA E f (args ++ captured) σ
  | .method name => match args with
    | r :: rest => callMethodA E r name rest σ
    | [] => bad "method value"
  | .methodOf t name => match args with
    | r :: rest => (ti E t).bind fun i => callMethodA E (if isIface i then r else .iface t r) name rest σ
    | [] => bad "method expression"
  | .via t path f ptr => match args with
    | x :: rest => (followA E σ path.toList t (.val x)).bind fun (xt, p) => (receiverAtA E σ xt p ptr).bind fun r => callFuncA E f (r :: rest) σ
    | [] => bad "method expression"
  | .yield l => match σ.heap.get l with
    | some (.loop _ _ _ ps _ _) => if ps.length = args.length then .ok (.round l args, σ) else bad "yield: arguments"
    | _ => bad "yield: no loop"

def targetA (f : Value) (args : List Value) : M (Fn × List Value × List Value) :=
  match f with
  | .func fn first captured => .ok (fn, first.toList ++ args, captured.toList)
  | _ => bad "call: no function"

def callA (fr : T Value) (c : Call) (σ : St) : M (ANext × St) :=
  let args := mapL (ev fr) c.args.toList
  match c.callee with
  | .builtin b => (loudBuiltinA E b c.argTypes.toList args σ).map fun (v, σ) => (.value v, σ)
  | .invoke recv name => callMethodA E (ev fr recv) name args σ
  | .value f => (targetA (ev fr f) args).bind fun (fn, a, cp) => invokeA E fn a cp σ

def deferA (fr : T Value) (c : Call) : M Deferred :=
  match c.callee with
  | .value f => (targetA (ev fr f) (mapL (ev fr) c.args.toList)).map fun (fn, a, cp) => { target := .fn fn cp.toArray, args := a.toArray }
  | _ => bad "defer"

def optV (fr : T Value) : Option Operand → Option Value
  | none => none
  | some x => some (ev fr x)

/-- What an operation is: 0: it looks at its operands alone; 1: it reads memory; 2: it makes a block out of its operands; 3: any other. -/
def cls (o : Op) : Nat :=
  match o with
  | .move _ | .assign _ | .pick .. | .build .. | .nilCheck _ | .binOp .. | .unOp .. | .makeInterface .. | .makeFunc .. | .slice .. | .fieldAddr .. | .field ..
  | .indexAddr .. | .index .. | .typeAssert .. | .extract .. => 0
  | .load .. | .lookup .. => 1
  | .convert src dst _ => match convKind E src dst with
    | 0 => 1
    | 1 => 2
    | _ => 3
  | .alloc _ | .box .. | .buildSlice .. | .makeMap .. | .makeSlice .. => 2
  | .call c => match c.callee with
    | .builtin .len | .builtin .min | .builtin .max => 1
    | _ => 3
  | _ => 3

def pureA (fr : T Value) (o : Op) : M Value :=
  match o with
  | .move x | .assign x => .ok (ev fr x)
  | .pick c a b => match ev fr c with
    | .bool t => .ok (if t then ev fr a else ev fr b)
    | _ => bad "pick"
  | .build t parts => buildA E t (mapL (fun p => (p.1, ev fr p.2)) parts.toList)
  | .nilCheck x => match ev fr x with
    | .pointer none => bad "nil pointer" | .nilIface => bad "nil interface" | .nilFunc => bad "nil function"
    | .func (.method name) first captured => match first.toList with
      | .iface _ _ :: _ => bad "nilCheck: method of an interface"
      | .nilIface :: _ => bad "nilCheck"
      | _ => .ok (.func (.method name) first captured)
    | v => .ok v
  | .binOp op t x y _ => binOpA E op t (ev fr x) (ev fr y)
  | .unOp op _ x => unA op (ev fr x)
  | .makeInterface t x => (ti E t).bind fun i => if isIface i then bad "makeInterface" else .ok (.iface t (ev fr x))
  | .makeFunc fn first captured => match fn with
    | .yield _ => bad "makeFunc"
    | _ => .ok (.func fn (mapL (ev fr) first.toList).toArray (mapL (ev fr) captured.toList).toArray)
  | .slice t x lo hi mx => sliceA E t (ev fr x) (optV fr lo) (optV fr hi) (optV fr mx)
  | .fieldAddr s x f => fieldAddrA E s (ev fr x) f
  | .field t x f => fieldA E t (ev fr x) f
  | .indexAddr t x ix => indexAddrA E t (ev fr x) (ev fr ix)
  | .index t x ix => indexA E t (ev fr x) (ev fr ix)
  | .typeAssert x _ a ok => typeAssertA E (ev fr x) a ok
  | .extract t ix => match ev fr t with
    | .tuple vs => match nth vs.toList ix with | some v => .ok v | none => bad "extract"
    | _ => bad "extract"
  | _ => bad "pure"

def readA (fr : T Value) (σ : St) (o : Op) : M Value :=
  match o with
  | .load t a => (addrOf (ev fr a)).bind (loadVarA E σ t)
  | .lookup t x ix ok => lookupA E σ t (ev fr x) (ev fr ix) ok
  | .convert src dst x => convertA E σ src dst (ev fr x)
  | .call c => match c.callee with
    | .builtin b => quietBuiltinA E b c.argTypes.toList (mapL (ev fr) c.args.toList) σ
    | _ => bad "read"
  | _ => bad "read"

def allocA (fr : T Value) (o : Op) : M (Blk × (Nat → Value)) :=
  match o with
  | .alloc e => (ti E e).bind fun i => (zeroOf i).map fun z => (.cells (vcells z) e false, fun b => .pointer (some ⟨b, 0, none⟩))
  | .box e x => .ok (.cells (vcells (ev fr x)) e false, fun b => .pointer (some ⟨b, 0, none⟩))
  | .buildSlice t len parts => buildSliceA E t len (mapL (fun p => (p.1, ev fr p.2)) parts.toList)
  | .convert src dst x => bytesNewA E src dst (ev fr x)
  | .makeMap _ none => .ok (.map [] 0, fun b => .map (some b))
  | .makeSlice t l c => makeSliceA E t (ev fr l) (ev fr c)
  | _ => bad "alloc"

def loudA (fr : T Value) (σ : St) (o : Op) : M (ANext × St) :=
  match o with
  | .store t a x => (addrOf (ev fr a)).bind fun a => (ti E t).bind fun i =>
      if (vcells (ev fr x)).length ≠ i.size then bad "store: size" else (writeN σ a (vcells (ev fr x))).map fun σ => (.value undef, σ)
  | .mapUpdate t m k x | .insert t m k x => (mapUpdateA E σ t (ev fr m) (ev fr k) (ev fr x)).map fun σ => (.value undef, σ)
  | .convert src dst x => (convertSliceA E σ src dst (ev fr x)).map fun v => (.value v, σ)
  | .range t x => (rangeA E σ t (ev fr x)).map fun (v, σ) => (.value v, σ)
  | .next it isString => (nextA σ (ev fr it) isString).map fun (v, σ) => (.value v, σ)
  | .call c => callA E fr c σ
  | .defer c => (deferA fr c).map fun d => (.defer d, σ)
  | _ => bad "operation"

def fput (fr : Fr) (d : Option Tmp) (v : Value) : M Fr :=
  match fr with
  | ⟨t, ds, r⟩ =>
    match d with
    | some d => (forceV v).bind fun v => (T.setM (d + 1) t d (some v)).bind fun t => .ok ⟨t, ds, r⟩
    | none => .ok ⟨t, ds, r⟩

/-- Is an operation carried out? -/
def wantedA (ops : List Oper) (t : T Value) (o : Oper) : Bool :=
  match o.guard with
  | none => true
  | some (j, want) =>
    match nth ops j with
    | none => false
    | some oj => match oj.dst with
      | none => false
      | some d => match t.get d with
        | some (.bool b) => b == want
        | _ => false

def doNext (R : Rec) (n : ANext) (fr : Fr) (d : Option Tmp) (σ : St) : M (Fr × St) :=
  match n with
  | .value v => (fput fr d v).bind fun fr => .ok (fr, σ)
  | .call f args => (R.call f args σ).bind fun (v, σ) => (fput fr d v).bind fun fr => .ok (fr, σ)
  | .round l args => (R.round l args σ).bind fun (v, σ) => (fput fr d v).bind fun fr => .ok (fr, σ)
  | .defer df => if fr.round then bad "defer in a round" else
      (fput fr d undef).bind fun fr => match fr with
      | ⟨t, ds, r⟩ => .ok (⟨t, df :: ds, r⟩, σ)

/-- The operations of a region, in the order of the text. -/
def opsA (R : Rec) (ops : List Oper) : List Oper → Fr → St → M (Fr × St)
  | [], fr, σ => .ok (fr, σ)
  | o :: rest, fr, σ =>
    if wantedA ops fr.tmps o then
      match cls E o.op with
      | 0 => (pureA E fr.tmps o.op).bind fun v => (fput fr o.dst v).bind fun fr => opsA R ops rest fr σ
      | 1 => (readA E fr.tmps σ o.op).bind fun v => (fput fr o.dst v).bind fun fr => opsA R ops rest fr σ
      | 2 => (allocA E fr.tmps o.op).bind fun (b, v) => (newBlk σ b).bind fun (n, σ) => (fput fr o.dst (v n)).bind fun fr => opsA R ops rest fr σ
      | _ => (loudA E fr.tmps σ o.op).bind fun (n, σ) => (doNext R n fr o.dst σ).bind fun (fr, σ) => opsA R ops rest fr σ
    else (fput fr o.dst undef).bind fun fr => opsA R ops rest fr σ

/-- What each operation waits for, over all edges that bind: bit i of the j-th number: i stands before j in every order. -/
def beforeL : List Oper → List Nat → List Nat
  | [], acc => acc
  | o :: rest, acc =>
    beforeL rest (acc ++ [o.after.toList.foldl (fun s e => if Region.binds .any e then s ||| 2 ^ e.on ||| (nth acc e.on).getD 0 else s) 0])

def tmpsOf : List Operand → List Nat
  | [] => []
  | .tmp t :: l => t :: tmpsOf l
  | _ :: l => tmpsOf l

def readsOf (ops : List Oper) (o : Oper) : List Nat :=
  (match o.guard with
   | some (j, _) => match nth ops j with
     | some oj => (match oj.dst with | some d => [d] | none => [])
     | none => []
   | none => []) ++ tmpsOf o.op.operands.toList

def memN : Nat → List Nat → Bool
  | _, [] => false
  | x, y :: l => if x = y then true else memN x l

/-- Must i (an earlier one) and j keep their order? -/
def mustKeep (ops : List Oper) (i j : Oper) : Bool :=
  (cls E i.op == 3 && cls E j.op == 3) ||
  (match i.dst with
   | some d => memN d (readsOf ops j) || (match j.dst with | some d' => d == d' | none => false)
   | none => false) ||
  (match j.dst with
   | some d => memN d (readsOf ops i)
   | none => false)

def keptAll (ops : List Oper) (oj : Oper) (bj : Nat) : List Oper → Nat → Bool
  | [], _ => true
  | oi :: l, i => if mustKeep E ops oi oj && !bj.testBit i then false else keptAll ops oj bj l (i + 1)

def edgesOk (j : Nat) : List Edge → Bool
  | [] => true
  | e :: l => (!Region.binds .any e || e.on < j) && edgesOk j l

/-- May a region be carried out in any order that its edges allow? (What it does to memory is asked as it runs.) -/
def regionOkFrom (ops : List Oper) : List Oper → List Nat → List Oper → Nat → Bool
  | o :: rest, b :: bs, seen, j => edgesOk j o.after.toList && keptAll E ops o b seen 0 && regionOkFrom ops rest bs (seen ++ [o]) (j + 1)
  | [], [], _, _ => true
  | _, _, _, _ => false

def regionOk (ops : List Oper) : Bool := regionOkFrom E ops ops (beforeL ops []) [] 0

/-- How many loud operations have been carried out at least where those among the bits have been. -/
def loudLo (b : Nat) : List Oper → Nat → Nat → Nat → Nat
  | [], _, _, acc => acc
  | o :: l, i, q, acc => if cls E o.op == 3 then loudLo b l (i + 1) (q + 1) (if b.testBit i then q + 1 else acc) else loudLo b l (i + 1) q acc

/-- How many loud operations may stand before operation i: up to the first that waits for it. -/
def loudHi (i : Nat) : List Oper → List Nat → Nat → Nat
  | o :: l, b :: bs, q => if cls E o.op == 3 then (if b.testBit i then q else loudHi i l bs (q + 1)) else loudHi i l bs q
  | _, _, q => q

mutual
def sameV : Value → Value → Bool
  | .bool a, .bool b => a == b
  | .int k a, .int k' b => k == k' && a == b
  | .string a, .string b => bytesEq a.data.toList b.data.toList
  | .pointer none, .pointer none => true
  | .pointer (some ⟨b, o, none⟩), .pointer (some ⟨b', o', none⟩) => b == b' && o == o'
  | .slice none n c, .slice none n' c' => n == n' && c == c'
  | .slice (some ⟨b, o, none⟩) n c, .slice (some ⟨b', o', none⟩) n' c' => b == b' && o == o' && n == n' && c == c'
  | .map a, .map b => a == b
  | .func fn ⟨a⟩ ⟨c⟩, .func fn' ⟨a'⟩ ⟨c'⟩ => fn == fn' && sameL a a' && sameL c c'
  | .nilFunc, .nilFunc => true
  | .iface t v, .iface t' v' => t == t' && sameV v v'
  | .nilIface, .nilIface => true
  | .agg ⟨a⟩, .agg ⟨b⟩ => sameL a b
  | .tuple ⟨a⟩, .tuple ⟨b⟩ => sameL a b
  | _, _ => false
def sameL : List Value → List Value → Bool
  | [], [] => true
  | x :: l, y :: m => sameV x y && sameL l m
  | _, _ => false
end

def sameBlk : Blk → Blk → Bool
  | .cells c e ro, .cells c' e' ro' => e == e' && ro == ro' && sameL c c'
  | .map [] n, .map [] n' => n == n'
  | _, _ => false

/-- What is kept of a drawn region's operation, to be asked again: its frame, its value, where it may stand. -/
inductive Note where
  | read (fr : T Value) (o : Op) (v : Value) (lo hi p : Nat)
  | made (n : Nat) (b : Blk) (hi p : Nat)

/-- Carries out a drawn region in the order of the text: frame, state; the states right behind each loud operation (the last first); notes. -/
def drawA (R : Rec) (ops : List Oper) (bs : List Nat) (base : Nat) :
    List Oper → List Nat → Nat → Nat → Fr → St → List St → List Note → M (Fr × St × List St × List Note)
  | o :: rest, b :: bl, i, p, fr, σ, snaps, notes =>
    if wantedA ops fr.tmps o then
      match cls E o.op with
      | 0 => (pureA E fr.tmps o.op).bind fun v => (fput fr o.dst v).bind fun fr => drawA R ops bs base rest bl (i + 1) p fr σ snaps notes
      | 1 => (readA E fr.tmps σ o.op).bind fun v => (fput fr o.dst v).bind fun fr' =>
          drawA R ops bs base rest bl (i + 1) p fr' σ snaps (.read fr.tmps o.op v (loudLo E b ops 0 0 0) (loudHi E i ops bs 0) p :: notes)
      | 2 => (allocA E fr.tmps o.op).bind fun (b, v) => (forceN (base + i)).bind fun n => (setBlk σ n b).bind fun σ => (fput fr o.dst (v n)).bind fun fr =>
          drawA R ops bs base rest bl (i + 1) p fr σ snaps (.made n b (loudHi E i ops bs 0) p :: notes)
      | _ => (loudA E fr.tmps σ o.op).bind fun (n, σ) =>
          match n with
          | .defer _ => bad "defer in a drawn region"
          | n => (doNext R n fr o.dst σ).bind fun (fr, σ) => drawA R ops bs base rest bl (i + 1) (p + 1) fr σ (σ :: snaps) notes
    else
      (fput fr o.dst undef).bind fun fr =>
      match cls E o.op with
      | 3 => drawA R ops bs base rest bl (i + 1) (p + 1) fr σ (σ :: snaps) notes
      | _ => drawA R ops bs base rest bl (i + 1) p fr σ snaps notes
  | _, _, _, _, fr, σ, snaps, notes => .ok (fr, σ, snaps, notes)

/-- The notes hold at the states from number j on. -/
def noteOk (note : Note) : List St → Nat → Bool
  | [], _ => true
  | σ :: l, j =>
    (match note with
     | .read fr o v lo hi p =>
       if lo ≤ j && j ≤ hi && j ≠ p then
         (match readA E fr σ o with
          | .ok v' => sameV v v'
          | .error _ => false)
       else true
     | .made n b hi p =>
       if j ≤ p then (σ.heap.get n).isNone else
       if j ≤ hi then
         (match σ.heap.get n with
          | some b' => sameBlk b b'
          | none => false)
       else true) && noteOk note l (j + 1)

def notesOk (snaps : List St) : List Note → Bool
  | [] => true
  | n :: l => noteOk E n snaps 0 && notesOk snaps l

def regionDraw (R : Rec) (ops : List Oper) (fr : Fr) (σ : St) : M (Fr × St) :=
  if !regionOk E ops then bad "a region whose order is open" else
  let bs := beforeL ops []
  match σ with
  | ⟨h, nx⟩ => (forceN nx).bind fun nx => (forceN (nx + ops.length)).bind fun nx' =>
  (drawA E R ops bs nx ops bs 0 0 fr ⟨h, nx'⟩ [⟨h, nx'⟩] []).bind fun (fr, σ, snaps, notes) =>
    if notesOk E snaps.reverse notes then .ok (fr, σ) else bad "a region whose order matters"

def codeA (R : Rec) (c : Code) (fr : Fr) (σ : St) : M (AX × Fr × St) :=
  match c with
  | .skip | .label _ => .ok (.normal, fr, σ)
  | .region _ ops draw => (if draw then regionDraw E R ops.toList fr σ else opsA E R ops.toList ops.toList fr σ).map fun (fr, σ) => (.normal, fr, σ)
  | .seq a b => (R.code a fr σ).bind fun (x, fr, σ) => match x with
    | .normal => R.code b fr σ
    | x => .ok (x, fr, σ)
  | .cond c a b => match ev fr.tmps c with
    | .bool true => R.code a fr σ
    | .bool false => R.code b fr σ
    | _ => bad "cond"
  | .block id b => (R.code b fr σ).map fun (x, fr, σ) => match x with
    | .exit id' => if id' = id then (.normal, fr, σ) else (.exit id', fr, σ)
    | x => (x, fr, σ)
  | .loop b => (R.code b fr σ).bind fun (x, fr, σ) => match x with
    | .normal => R.code (.loop b) fr σ
    | x => .ok (x, fr, σ)
  | .exit id => .ok (.exit id, fr, σ)
  | .ret => .ok (.ret, fr, σ)
  | .rangeFunc f params assign body =>
    if fr.round then bad "range over a function in a round" else
    (newBlk σ (.loop .ready none fr.tmps params.toList assign body)).bind fun (l, σ) =>
    (targetA (ev fr.tmps f) [.func (.yield l) #[] #[]]).bind fun (fn, a, cp) => (invokeA E fn a cp σ).bind fun (n, σ) =>
    (match n with
      | .call f args => R.call f args σ
      | _ => bad "range over a function").bind fun (_, σ) =>
    match σ.heap.get l with
    | some (.loop st pending tmps params assign body) =>
      match st with
      | .busy => bad "range over a function: busy"
      | _ =>
      (setBlk σ l (.loop .exhausted pending tmps params assign body)).bind fun σ =>
      match pending with
      | none => .ok (.normal, fr, σ)
      | some .ret => .ok (.ret, fr, σ)
      | some (.exit id) => .ok (.exit id, fr, σ)
      | some _ => bad "range over a function: jump"
    | _ => bad "range over a function: no loop"
  | _ => bad "code"

def paramsT : List Tmp → List Value → T Value → M (T Value)
  | [], [], t => .ok t
  | p :: ps, v :: vs, t => (forceV v).bind fun v => (T.setM (p + 1) t p (some v)).bind fun t => paramsT ps vs t
  | _, _, _ => bad "yield: arguments"

def roundA (R : Rec) (l : Nat) (args : List Value) (σ : St) : M (Value × St) :=
  match σ.heap.get l with
  | some (.loop _ _ tmps params assign body) =>
    (paramsT params args tmps).bind fun t => (R.code assign { tmps := t, defers := [], round := true } σ).bind fun (x, fr, σ) =>
    match x, σ.heap.get l with
    | .normal, some (.loop .ready pending tmps params assign body') =>
      (setBlk σ l (.loop .busy pending tmps params assign body')).bind fun σ =>
      (R.code body fr σ).bind fun (x, fr, σ) =>
      match σ.heap.get l with
      | some (.loop _ _ tmps params assign body) =>
        match x with
        | .normal => (setBlk σ l (.loop .ready none tmps params assign body)).bind fun σ => .ok (.bool true, σ)
        | .ret => (setBlk σ l (.loop .done (some .ret) tmps params assign body)).bind fun σ => .ok (.bool false, σ)
        | .exit id => (setBlk σ l (.loop .done (some (.exit id)) tmps params assign body)).bind fun σ => .ok (.bool false, σ)
        | .goto _ => bad "goto out of a round"
      | _ => bad "no loop"
    | _, _ => bad "round"
  | _ => bad "yield: no loop"

def argsT : List Value → Nat → T Value → M (T Value)
  | [], _, t => .ok t
  | v :: l, i, t => (forceV v).bind fun v => (T.setM (i + 1) t i (some v)).bind fun t => argsT l (i + 1) t

def resultsA (fr : Fr) (σ : St) : List ResultVar → M (List Value)
  | [] => .ok []
  | .tmp t :: l => (resultsA fr σ l).map ((match fr.tmps.get t with | some v => v | none => undef) :: ·)
  | .cell a t :: l => (addrOf (match fr.tmps.get a with | some v => v | none => undef)).bind fun a =>
      (loadVarA E σ t a).bind fun v => (resultsA fr σ l).map (v :: ·)

def oneOf : List Value → Value
  | [v] => v
  | l => .tuple l.toArray

def defersA (R : Rec) : List Deferred → St → M St
  | [], σ => .ok σ
  | { target := .fn fn captured, args } :: l, σ =>
    (invokeA E fn args.toList captured.toList σ).bind fun (n, σ) => match n with
      | .call f args => (R.call f args σ).bind fun (_, σ) => defersA R l σ
      | _ => bad "deferred"
  | _ :: _, _ => bad "deferred"

def funcA (R : Rec) (f : FuncId) (args : List Value) (σ : St) : M (Value × St) :=
  match E.fn f with
  | none => bad "no function"
  | some fn => match fn.body with
    | none => bad "no body"
    | some c => if !(wfCode E.G fn.ntmps c && decide (args.length ≤ fn.ntmps)) then bad "not well formed" else (argsT args 0 .leaf).bind fun t => (R.code c ⟨t, [], false⟩ σ).bind fun (x, fr, σ) =>
      match x with
      | .normal | .ret => (defersA E R fr.defers σ).bind fun σ => (resultsA E fr σ fn.results.toList).map fun l => (oneOf l, σ)
      | _ => bad "jump out of a function"

def stepR (R : Rec) : Rec where
  code := codeA E R
  call := funcA E R
  round := roundA R

def noRec : Rec where
  code := fun _ _ _ => bad "fuel"
  call := fun _ _ _ => bad "fuel"
  round := fun _ _ _ => bad "fuel"

def run : Nat → Rec := Nat.rec noRec (fun _ R => stepR E R)
end

/-- What a program says of a type. -/
def mkTI (P : Program) (t : Nat) : Option TI :=
  match P.info? t with
  | none => none
  | some i =>
    match P.underlying t with
    | none => none
    | some u =>
      some (TI.mk u i.size i.bytes i.zero i.methods.toList (match u with | .struct _ => true | .array _ _ => true | _ => false) (!(P.stoodInHeld t) && !(P.eqGuardType P.depth t)))

def envOf (P : Program) (x : Nat → Option Ext) : Env := Env.mk P.globals.size (mkTI P) (fun f => P.funcs[f]?) x

end Go.AM
