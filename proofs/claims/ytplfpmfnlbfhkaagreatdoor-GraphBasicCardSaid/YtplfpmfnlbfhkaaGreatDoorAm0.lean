/- The abstract evaluator: loaded Go code is run on abstract values. Definitions alone. -/
import Derived.Tactics
import Derived.Orders
set_option linter.unusedVariables false
namespace Go.Am
open Go

/-- Abstract values. 'row': a slice whose elements nobody writes any more ('ex': its capacity is its length); 'mrow': the first 'len' elements of an object; 'fptr': an address into frozen memory, with the cells from there on. -/
inductive AV where
  | bool (b : Bool)
  | int (k : IntKind) (n : Int)
  | str (s : List UInt8)
  | row (ex : Bool) (l : List AV)
  | mrow (id ver len : Nat)
  | ptr (id ver off : Nat)
  | fptr (cs : List AV)
  | nilptr
  | map (id : Nat)
  | nilmap
  | func (f : FuncId) (first captured : List AV)
  | nilfunc
  | iface (t : TypeId) (v : AV)
  | niliface
  | agg (cs : List AV)
  | tup (vs : List AV)
  deriving Inhabited

def und : AV := .tup []
def AV.cells : AV → List AV
  | .agg cs => cs
  | v => [v]
def AV.flat : AV → Bool
  | .agg _ | .tup _ => false
  | _ => true

/-- An object: cells ('sz': how many make an element, 'ver': its version, 'fz': how many of the first ones are frozen), or a map. -/
inductive AObj where
  | gone
  | cells (sz ver fz : Nat) (c : List AV)
  | map (es : List (AV × AV))
  deriving Inhabited

abbrev Heap := List AObj
abbrev Look := Nat → Option AObj
abbrev Ups := List (Nat × AObj)

def sget : List AV → Nat → AV
  | [], _ => und
  | x :: _, 0 => x
  | _ :: t, n + 1 => sget t n
def sset : List AV → Nat → AV → List AV
  | [], 0, v => [v]
  | [], n + 1, v => und :: sset [] n v
  | _ :: t, 0, v => v :: t
  | x :: t, n + 1, v => x :: sset t n v

def mapO {α β : Type} (f : α → Option β) : List α → Option (List β)
  | [] => some []
  | x :: xs => match f x with
    | none => none
    | some y => match mapO f xs with
      | none => none
      | some ys => some (y :: ys)

def ofValue : Nat → Value → Option AV
  | 0, _ => none
  | n + 1, v => match v with
    | .bool b => some (.bool b)
    | .int k i => some (.int k i)
    | .string s => some (.str s.data.toList)
    | .pointer none => some .nilptr
    | .slice none 0 0 => some (.row true [])
    | .map none => some .nilmap
    | .nilFunc => some .nilfunc
    | .nilIface => some .niliface
    | .agg cs => (mapO (ofValue n) cs.toList).map .agg
    | _ => none

def opnd (s : List AV) : Operand → Option AV
  | .tmp t => some (sget s t)
  | .const v => ofValue 3 v
  | .func f => some (.func f [] [])
  | .global _ => none

section
variable (P : Program)

def tyAgg (t : TypeId) : Option Bool :=
  match P.underlying t with
  | some (.struct _) | some (.array _ _) => some true
  | some _ => some false
  | none => none
def tySize (t : TypeId) : Option Nat := (P.info? t).map (·.size)
def zeroA (t : TypeId) : Option AV := (P.info? t).bind fun i => i.zero.bind (ofValue 3)
def elemTy (t : TypeId) : Option TypeId :=
  match P.underlying t with
  | some (.slice e) => some e
  | _ => none

def addrCells (g : Look) : AV → Option (List AV)
  | .fptr cs => some cs
  | .ptr id ver off => match g id with
    | some (.cells _ ver' _ c) => if ver' = ver then some (c.drop off) else none
    | _ => none
  | _ => none

def loadFrom (t : TypeId) (cs : List AV) : Option AV :=
  match tyAgg P t with
  | some true => match tySize P t with
    | some n => if n ≤ cs.length then some (.agg (cs.take n)) else none
    | none => none
  | some false => cs.head?
  | none => none

def splice (c : List AV) (off : Nat) (xs : List AV) : List AV := c.take off ++ xs ++ c.drop (off + xs.length)

def storeA (t : TypeId) (g : Look) (v x : AV) : Option Ups :=
  match v with
  | .ptr id ver off => match g id, tySize P t with
    | some (.cells sz ver' fz c), some n =>
      if ver' = ver ∧ x.cells.length = n ∧ x.cells.all AV.flat = true ∧ off + n ≤ c.length ∧ fz ≤ off then
        some [(id, .cells sz ver fz (splice c off x.cells))] else none
    | _, _ => none
  | _ => none

def fieldOff (s : TypeId) (f : Nat) : Option (Nat × TypeId) :=
  match P.underlying s with
  | some (.struct fields) => (fields[f]?).map fun fd => (fd.offset, fd.type)
  | _ => none

def fieldAddrA (s : TypeId) (v : AV) (f : Nat) : Option AV :=
  match fieldOff P s f with
  | some (o, ft) => match tySize P ft with
    | some (_ + 1) => match v with
      | .ptr id ver off => some (.ptr id ver (off + o))
      | .fptr cs => some (.fptr (cs.drop o))
      | _ => none
    | _ => none
  | none => none

def partA (t : TypeId) (cs : List AV) (off : Nat) : Option AV :=
  match tyAgg P t with
  | some true => match tySize P t with
    | some n => if off + n ≤ cs.length then some (.agg ((cs.drop off).take n)) else none
    | none => none
  | some false => cs[off]?
  | none => none

def fieldA (s : TypeId) (v : AV) (f : Nat) : Option AV :=
  match fieldOff P s f, v with
  | some (o, ft), .agg cs => partA P ft cs o
  | _, _ => none

def indexAddrA (t : TypeId) (x i : AV) : Option AV :=
  match elemTy P t, i with
  | some e, .int _ n => match tySize P e with
    | some sz => match x with
      | .row _ l => if 0 ≤ n then match l[n.toNat]? with
          | some v => if v.cells.length = sz then some (.fptr v.cells) else none
          | none => none
        else none
      | .mrow id ver len => if 0 ≤ n ∧ n < len then some (.ptr id ver (n.toNat * sz)) else none
      | _ => none
    | none => none
  | _, _ => none

def indexA (t : TypeId) (x i : AV) : Option AV :=
  match P.underlying t, x, i with
  | some .string, .str s, .int _ n => if 0 ≤ n then (s[n.toNat]?).map fun b => .int .u8 b.toNat else none
  | _, _, _ => none

/-- A bound of a slice expression: not there, or a number. -/
def boundA (d : Nat) : Option AV → Option Nat
  | none => some d
  | some (.int _ n) => if 0 ≤ n then some n.toNat else none
  | _ => none

def headOk (sz : Nat) : List AV → Bool
  | [] => true
  | v :: _ => v.cells.length == sz

def sliceA (t : TypeId) (x : AV) (lo hi mx : Option AV) : Option AV :=
  match P.underlying t, x with
  | some .string, .str s => match mx, boundA 0 lo, boundA s.length hi with
    | none, some l, some h => if l ≤ h ∧ h ≤ s.length then some (.str ((s.take h).drop l)) else none
    | _, _, _ => none
  | some (.slice e), .row ex r => match tySize P e with
    | none => none
    | some sz => if headOk sz r = true then (match mx with
      | none => match boundA 0 lo, boundA r.length hi with
        | some l, some h => if l ≤ h ∧ h ≤ r.length then some (.row (ex && h == r.length) ((r.take h).drop l)) else none
        | _, _ => none
      | some m => match hi with
        | none => none
        | some hv => match boundA 0 lo, boundA 0 (some hv), boundA 0 (some m) with
          | some l, some h, some m => if l ≤ h ∧ h ≤ m ∧ m ≤ r.length then some (.row (h == m) ((r.take h).drop l)) else none
          | _, _, _ => none) else none
  | some (.slice e), .mrow id ver len => match mx, lo, tySize P e with
    | none, none, some _ => match boundA len hi with
      | some h => if h ≤ len then some (.mrow id ver h) else none
      | none => none
    | _, _, _ => none
  | _, _ => none

def intBin (op : BinOp) (k : IntKind) (x y : Int) : Option AV :=
  match op with
  | .add => some (.int k (k.wrap (x + y)))
  | .sub => some (.int k (k.wrap (x - y)))
  | .mul => some (.int k (k.wrap (x * y)))
  | .quo => if y = 0 then none else some (.int k (k.wrap (x.tdiv y)))
  | .rem => if y = 0 then none else some (.int k (x.tmod y))
  | .and => some (.int k (k.wrap (BitVec.ofInt k.bits x &&& BitVec.ofInt k.bits y).toNat))
  | .or => some (.int k (k.wrap (BitVec.ofInt k.bits x ||| BitVec.ofInt k.bits y).toNat))
  | .xor => some (.int k (k.wrap (BitVec.ofInt k.bits x ^^^ BitVec.ofInt k.bits y).toNat))
  | .andNot => some (.int k (k.wrap (BitVec.ofInt k.bits x &&& ~~~(BitVec.ofInt k.bits y)).toNat))
  | .eql => some (.bool (x == y))
  | .neq => some (.bool (x != y))
  | .lss => some (.bool (x < y))
  | .leq => some (.bool (x ≤ y))
  | .gtr => some (.bool (x > y))
  | .geq => some (.bool (x ≥ y))
  | _ => none

def shiftA (op : BinOp) (k : IntKind) (x y : Int) : Option AV :=
  if y < 0 then none else
  match op with
  | .shl => some (.int k (k.wrap (x * 2 ^ min y.toNat k.bits)))
  | .shr => some (.int k (x.fdiv (2 ^ min y.toNat k.bits)))
  | _ => none

def strLim : Nat := 4611686018427387904

def strBin (op : BinOp) (x y : List UInt8) : Option AV :=
  match op with
  | .add => if x.length + y.length ≤ strLim then some (.str (x ++ y)) else none
  | .eql => some (.bool (x == y))
  | .neq => some (.bool (!(x == y)))
  | .lss => some (.bool (Op.bytesLess x y))
  | .leq => some (.bool (Op.bytesLess x y || x == y))
  | .gtr => some (.bool (!(Op.bytesLess x y || x == y)))
  | .geq => some (.bool (!(Op.bytesLess x y)))
  | _ => none

/-- '==' where one side is nil, or both are Bools. -/
def eqlA (t : TypeId) (x y : AV) : Option Bool :=
  match P.underlying t, x, y with
  | some .bool, .bool a, .bool b => some (a == b)
  | some (.pointer _), .nilptr, .nilptr => some true
  | some (.pointer _), .nilptr, .ptr _ _ _ | some (.pointer _), .ptr _ _ _, .nilptr => some false
  | some (.interface _), .nilptr, _ => none
  | some (.interface _), .niliface, .iface _ _ | some (.interface _), .iface _ _, .niliface => some false
  | some (.map _ _), .nilmap, .nilmap => some true
  | some (.map _ _), .nilmap, .map _ | some (.map _ _), .map _, .nilmap => some false
  | some (.func _ _ _), .nilfunc, .nilfunc => some true
  | some (.func _ _ _), .nilfunc, .func _ _ _ | some (.func _ _ _), .func _ _ _, .nilfunc => some false
  | _, _, _ => none

def binA (op : BinOp) (t : TypeId) (x y : AV) : Option AV :=
  match x, y with
  | .int k a, .int k' b => match op with
    | .shl | .shr => shiftA op k a b
    | _ => if k = k' then intBin op k a b else none
  | .str a, .str b => strBin op a b
  | x, y => match op with
    | .eql => (eqlA P t x y).map .bool
    | .neq => (eqlA P t x y).map fun b => .bool (!b)
    | _ => none

def unA (op : UnOp) (x : AV) : Option AV :=
  match op, x with
  | .not, .bool b => some (.bool (!b))
  | .neg, .int k n => some (.int k (k.wrap (0 - n)))
  | .xor, .int k n => intBin .xor k (if k.signed then -1 else k.max) n
  | _, _ => none

def byteOf : AV → Option UInt8
  | .int .u8 n => some (UInt8.ofNat n.toNat)
  | _ => none

/-- The cells of a slice's, or a string's, elements ('sz' cells an element), and how many elements. -/
def srcCells (g : Look) (sz : Nat) : AV → Option (List AV × Nat)
  | .str s => if sz = 1 then some (s.map fun b => .int .u8 b.toNat, s.length) else none
  | .row _ l => if l.all (fun v => v.cells.length == sz) then some (l.flatMap AV.cells, l.length) else none
  | .mrow id ver len => match g id with
    | some (.cells sz' ver' _ c) => if ver' = ver ∧ sz' = sz ∧ len * sz ≤ c.length then some (c.take (len * sz), len) else none
    | _ => none
  | _ => none

def convertA (g : Look) (src dst : TypeId) (x : AV) : Option AV :=
  if (P.underlying src).isNone then none else
  match P.underlying dst, x with
  | some (.int k), .int _ n => some (.int k (k.wrap n))
  | some .string, .int _ n => some (.str (Utf8.encode n).data.toList)
  | some .string, .str s => some (.str s)
  | some (.slice e), .str s => match P.underlying e, P.underlying src with
    | some (.int .u8), some .string => some (.row false (s.map fun b => .int .u8 b.toNat))
    | _, _ => none
  | some .string, x => match elemTy P src with
    | some e => match P.underlying e with
      | some (.int .u8) => match srcCells g 1 x with
        | some (cs, _) => (mapO byteOf cs).map .str
        | none => none
      | _ => none
    | none => none
  | _, _ => none

def fillA (place : Nat → Option (Nat × Nat)) (cells : List AV) : List (Nat × AV) → Option (List AV)
  | [] => some cells
  | (i, v) :: rest => match place i with
    | none => none
    | some (off, size) => if v.cells.length = size ∧ off + size ≤ cells.length then fillA place (splice cells off v.cells) rest else none

def evalParts (ρ : Operand → Option AV) (parts : List (Nat × Operand)) : Option (List (Nat × AV)) :=
  mapO (fun (i, x) => (ρ x).map fun v => (i, v)) parts

def fieldPlaces (t : TypeId) : Option (List (Nat × Nat)) :=
  match P.underlying t with
  | some (.struct fields) => mapO (fun f : Field => (tySize P f.type).map fun n => (f.offset, n)) fields.toList
  | _ => none

def buildA (t : TypeId) (parts : List (Nat × AV)) : Option AV :=
  match zeroA P t, fieldPlaces P t with
  | some z, some places => (fillA (fun i => places[i]?) z.cells parts).map .agg
  | _, _ => none

/-- Cells as elements. -/
def chunk (sz : Nat) : Nat → List AV → List AV
  | 0, _ => []
  | n + 1, cs => if sz = 1 then cs.take 1 ++ chunk sz n (cs.drop 1) else .agg (cs.take sz) :: chunk sz n (cs.drop sz)

def reps (n : Nat) (cs : List AV) : List AV :=
  match n with
  | 0 => []
  | n + 1 => cs ++ reps n cs

def buildSliceA (t : TypeId) (len : Nat) (parts : List (Nat × AV)) : Option AV :=
  match elemTy P t with
  | some e => match tySize P e, zeroA P e with
    | some sz, some z =>
      if z.cells.length = sz ∧ sz ≠ 0 ∧ len * sz ≤ 16777216 then
        match fillA (fun i => some (i * sz, sz)) (reps len z.cells) parts with
        | some cs => if cs.all AV.flat then some (.row true (chunk sz len cs)) else none
        | none => none
      else none
    | _, _ => none
  | none => none

def lim : Nat := 2147483648

/-- Has a type's zero value that many cells? -/
def zeroOk (t : TypeId) (n : Nat) : Bool :=
  match zeroA P t with
  | some z => z.cells.length == n
  | none => false

def appendA (g : Look) (nid : Nat) (t t2 : TypeId) (s x : AV) : Option (AV × Ups) :=
  match elemTy P t, P.underlying t2 with
  | _, some (.int _) => none
  | some e, some _ => match P.info? e with
    | some i =>
      if i.size ≠ 0 ∧ i.bytes ≤ 32768 then
        match srcCells g i.size x with
        | some (xs, k) =>
          if k = 0 then match s with
            | .row _ _ | .mrow _ _ _ => some (s, [])
            | _ => none
          else match s with
            | .row true l =>
              if l.all (fun v => v.cells.length == i.size) ∧ l.length + k ≤ lim ∧ zeroOk P e i.size then
                some (.mrow nid 0 (l.length + k), [(nid, .cells i.size 0 0 (l.flatMap AV.cells ++ xs))]) else none
            | .mrow id ver len => match g id with
              | some (.cells sz ver' fz c) =>
                if ver' = ver ∧ sz = i.size ∧ len * sz ≤ c.length ∧ fz ≤ len * sz ∧ len + k ≤ lim ∧ zeroOk P e i.size ∧ xs.all AV.flat = true then
                  some (.mrow id (ver + 1) (len + k), [(id, .cells sz (ver + 1) fz (c.take (len * sz) ++ xs))]) else none
              | _ => none
            | _ => none
        | none => none
      else none
    | none => none
  | _, _ => none

def copyA (g : Look) (t : TypeId) (d x : AV) : Option (AV × Ups) :=
  match elemTy P t with
  | some e => match tySize P e with
    | some sz => match srcCells g sz x, d with
      | some (xs, k), .mrow id ver len => match g id with
        | some (.cells sz' ver' fz c) =>
          if ver' = ver ∧ sz' = sz ∧ len * sz ≤ c.length ∧ fz = 0 ∧ xs.all AV.flat = true then
            some (.int .i64 (min k len : Nat), [(id, .cells sz ver fz (splice c 0 (xs.take (min k len * sz))))]) else none
        | _ => none
      | _, _ => none
    | none => none
  | none => none

def makeSliceA (nid : Nat) (t : TypeId) (l c : AV) : Option (AV × Ups) :=
  match elemTy P t, l, c with
  | some e, .int _ n, .int _ m => match P.info? e, zeroA P e with
    | some i, some z =>
      if 0 ≤ n ∧ n ≤ m ∧ m ≤ lim ∧ i.bytes ≤ 32768 ∧ i.size ≠ 0 ∧ z.cells.length = i.size then
        some (.mrow nid 0 n.toNat, [(nid, .cells i.size 0 0 (reps n.toNat z.cells))]) else none
    | _, _ => none
  | _, _, _ => none

def lenA (g : Look) (t : TypeId) (v : AV) : Option AV :=
  match P.underlying t, v with
  | some .string, .str s => some (.int .i64 s.length)
  | some (.slice _), .row _ l => some (.int .i64 l.length)
  | some (.slice _), .mrow _ _ len => some (.int .i64 len)
  | some (.map _ _), .nilmap => some (.int .i64 0)
  | some (.map _ _), .map id => match g id with
    | some (.map es) => some (.int .i64 es.length)
    | _ => none
  | _, _ => none

/-- Equal keys: numbers of one kind, strings, Bools, and structs of these. -/
def keyEq1 : AV → AV → Option Bool
  | .int k a, .int k' b => if k = k' then some (a == b) else none
  | .str a, .str b => some (a == b)
  | .bool a, .bool b => some (a == b)
  | _, _ => none
def keyEqs : List AV → List AV → Option Bool
  | [], [] => some true
  | x :: xs, y :: ys => match keyEq1 x y, keyEqs xs ys with
    | some a, some b => some (a && b)
    | _, _ => none
  | _, _ => none
def keyEq (x y : AV) : Option Bool :=
  match x, y with
  | .agg a, .agg b => keyEqs a b
  | x, y => keyEq1 x y

/-- Is a value a key that a type's keys may be: a number, a string, a Bool, or a struct of just such cells? -/
def keyCell (t : TypeId) (v : AV) : Bool :=
  match P.underlying t, v with
  | some (.int _), .int _ _ | some .string, .str _ | some .bool, .bool _ => true
  | _, _ => false
def keyCells : Nat → List Field → List AV → Bool
  | _, [], [] => true
  | i, f :: fs, c :: cs => f.name != "_" && f.offset == i && keyCell P f.type c && keyCells (i + 1) fs cs
  | _, _, _ => false
def keyOk (t : TypeId) (v : AV) : Bool :=
  match P.underlying t, v with
  | some (.struct fields), .agg cs => keyCells P 0 fields.toList cs && !P.stoodInHeld t
  | some (.int _), .int _ _ | some .string, .str _ | some .bool, .bool _ => true
  | _, _ => false

def findA (k : AV) : List (AV × AV) → Nat → Option (Option (Nat × AV))
  | [], _ => some none
  | (k', v) :: es, i => match keyEq k k' with
    | some true => some (some (i, v))
    | some false => findA k es (i + 1)
    | none => none

def lookupA (g : Look) (t : TypeId) (m k : AV) (ok : Bool) : Option AV :=
  match P.underlying t with
  | some (.map kt et) =>
    if keyOk P kt k then
      match (match m with
        | .nilmap => some []
        | .map id => match g id with
          | some (.map es) => some es
          | _ => none
        | _ => none) with
      | some es => match findA k es 0 with
        | some (some (_, v)) => some (if ok then .tup [v, .bool true] else v)
        | some none => (zeroA P et).map fun z => if ok then .tup [z, .bool false] else z
        | none => none
      | none => none
    else none
  | _ => none

def updateA (g : Look) (t : TypeId) (m k v : AV) : Option Ups :=
  match P.underlying t, m with
  | some (.map kt _), .map id => match g id with
    | some (.map es) =>
      if keyOk P kt k then
        match findA k es 0 with
        | some (some (i, _)) => some [(id, .map (es.set i (k, v)))]
        | some none => some [(id, .map (es ++ [(k, v)]))]
        | none => none
      else none
    | _ => none
  | _, _ => none

def deleteA (g : Look) (t : TypeId) (m k : AV) : Option Ups :=
  match P.underlying t, m with
  | some (.map kt _), .map id => match g id with
    | some (.map es) =>
      if keyOk P kt k then
        match findA k es 0 with
        | some (some (i, _)) => some [(id, .map (es.eraseIdx i))]
        | some none => some [(id, .map es)]
        | none => none
      else none
    | _ => none
  | _, _ => none

def optO (ρ : Operand → Option AV) : Option Operand → Option (Option AV)
  | none => some none
  | some x => (ρ x).map some

def minA : AV → List AV → Option AV
  | x, [] => some x
  | .int k x, .int _ y :: rest => minA (.int k (if y < x then y else x)) rest
  | _, _ => none
def maxA : AV → List AV → Option AV
  | x, [] => some x
  | .int k x, .int _ y :: rest => maxA (.int k (if x < y then y else x)) rest
  | _, _ => none

/-- One operation that calls no Go function: its value, and what it writes. 'nid': the number for a new object. -/
def opA (o : Oper) (nid : Nat) (ρ : Operand → Option AV) (g : Look) : Option (AV × Ups) :=
  match o.op with
  | .move x | .assign x => (ρ x).map fun v => (v, [])
  | .pick c a b => match ρ c, ρ a, ρ b with
    | some (.bool t), some x, some y => some (if t then x else y, [])
    | _, _, _ => none
  | .alloc t => (zeroA P t).map fun z => (.ptr nid 0 0, [(nid, .cells 0 0 0 z.cells)])
  | .box t x => (ρ x).map fun v => (.ptr nid 0 0, [(nid, .cells 0 0 0 v.cells)])
  | .build t parts => match evalParts ρ parts.toList with
    | some ps => (buildA P t ps).map fun v => (v, [])
    | none => none
  | .buildSlice t len parts => match evalParts ρ parts.toList with
    | some ps => (buildSliceA P t len ps).map fun v => (v, [])
    | none => none
  | .load t a => match ρ a with
    | some v => match addrCells g v with
      | some cs => (loadFrom P t cs).map fun v => (v, [])
      | none => none
    | none => none
  | .store t a x => match ρ a, ρ x with
    | some a, some x => (storeA P t g a x).map fun u => (und, u)
    | _, _ => none
  | .nilCheck x => match ρ x with
    | some (.ptr id ver off) => some (.ptr id ver off, [])
    | some (.fptr cs) => some (.fptr cs, [])
    | some (.func f a b) => some (.func f a b, [])
    | _ => none
  | .binOp op t x y _ => match ρ x, ρ y with
    | some a, some b => (binA P op t a b).map fun v => (v, [])
    | _, _ => none
  | .unOp op _ x => match ρ x with
    | some a => (unA op a).map fun v => (v, [])
    | none => none
  | .convert src dst x => match ρ x with
    | some a => (convertA P g src dst a).map fun v => (v, [])
    | none => none
  | .makeInterface t x => match P.underlying t, ρ x with
    | some (.interface _), _ => none
    | some _, some v => some (.iface t v, [])
    | _, _ => none
  | .makeFunc (.func f) first captured => match mapO ρ first.toList, mapO ρ captured.toList with
    | some a, some b => some (.func f a b, [])
    | _, _ => none
  | .makeMap _ none => some (.map nid, [(nid, .map [])])
  | .makeSlice t l c => match ρ l, ρ c with
    | some l, some c => makeSliceA P nid t l c
    | _, _ => none
  | .slice t x lo hi mx => match ρ x, optO ρ lo, optO ρ hi, optO ρ mx with
    | some x, some lo, some hi, some mx => (sliceA P t x lo hi mx).map fun v => (v, [])
    | _, _, _, _ => none
  | .fieldAddr s x f => match ρ x with
    | some v => (fieldAddrA P s v f).map fun v => (v, [])
    | none => none
  | .field s x f => match ρ x with
    | some v => (fieldA P s v f).map fun v => (v, [])
    | none => none
  | .indexAddr t x i => match ρ x, ρ i with
    | some x, some i => (indexAddrA P t x i).map fun v => (v, [])
    | _, _ => none
  | .index t x i => match ρ x, ρ i with
    | some x, some i => (indexA P t x i).map fun v => (v, [])
    | _, _ => none
  | .lookup t m k ok => match ρ m, ρ k with
    | some m, some k => (lookupA P g t m k ok).map fun v => (v, [])
    | _, _ => none
  | .mapUpdate t m k v | .insert t m k v => match ρ m, ρ k, ρ v with
    | some m, some k, some v => (updateA P g t m k v).map fun u => (und, u)
    | _, _, _ => none
  | .extract x i => match ρ x with
    | some (.tup vs) => (vs[i]?).map fun v => (v, [])
    | _ => none
  | .call { callee := .builtin b, args, argTypes } => match b, args.toList, argTypes.toList with
    | .len, [x], [t] => match ρ x with
      | some v => (lenA P g t v).map fun v => (v, [])
      | none => none
    | .append, [s, x], [t, t2] => match ρ s, ρ x with
      | some s, some x => appendA P g nid t t2 s x
      | _, _ => none
    | .copy, [d, x], t :: _ => match ρ d, ρ x with
      | some d, some x => copyA P g t d x
      | _, _ => none
    | .min, x :: xs, _ => match ρ x, mapO ρ xs with
      | some v, some vs => (minA v vs).map fun v => (v, [])
      | _, _ => none
    | .max, x :: xs, _ => match ρ x, mapO ρ xs with
      | some v, some vs => (maxA v vs).map fun v => (v, [])
      | _, _ => none
    | .delete, [m, k], t :: _ => match ρ m, ρ k with
      | some m, some k => (deleteA P g t m k).map fun u => (und, u)
      | _, _ => none
    | _, _, _ => none
  | _ => none
end
end Go.Am
