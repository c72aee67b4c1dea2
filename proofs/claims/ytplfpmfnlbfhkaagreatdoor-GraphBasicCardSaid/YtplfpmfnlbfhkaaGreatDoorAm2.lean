/- The abstract evaluator, its third part: regions whose order is open, and code. Definitions alone. -/
import Derived.Test.YtplfpmfnlbfhkaaGreatDoorAm1
set_option linter.unusedVariables false
namespace Go.Am
open Go

/-- The numbers of objects that values lead to by themselves. -/
def idOf : AV → List Nat
  | .mrow id _ _ | .ptr id _ _ | .map id => [id]
  | _ => []
def idsOf (ρ : Operand → Option AV) (l : List Operand) : List Nat :=
  l.flatMap fun x => match ρ x with
    | some v => idOf v
    | none => []

/-- Does an operation want a number for a new object? -/
def allocs (E : Env) (o : Oper) : Bool :=
  match o.op with
  | .alloc _ | .box _ _ | .makeMap _ _ | .makeSlice _ _ _ => true
  | .call { callee := .builtin .append, .. } => true
  | .call { callee := .value (.func k), .. } => (E.I k).isSome
  | _ => false
/-- Does it look at objects, or write them? -/
def looks (o : Oper) : Bool :=
  match o.op with
  | .load _ _ | .store _ _ _ | .convert _ _ _ | .lookup _ _ _ _ | .mapUpdate _ _ _ _ | .insert _ _ _ _ => true
  | .call { callee := .builtin _, .. } => true
  | _ => false

/-- What is noted of an operation that was done: whom it looks at, whom it writes, may it look at all? -/
structure Note where
  foot : List Nat
  wr : List Nat
  all : Bool

/-- What an operation looks at: of one that calls nothing. -/
def footA (E : Env) (o : Oper) (nid : Nat) (ρ : Operand → Option AV) : List Nat :=
  (if allocs E o then [nid] else []) ++ (if looks o then idsOf ρ o.op.operands.toList else [])

def rank (E : Env) : List Oper → Nat → Nat
  | _, 0 => 0
  | [], _ => 0
  | o :: l, n + 1 => (if allocs E o then 1 else 0) + rank E l n

def putN (f : Fr) (dst : Option Nat) (v : AV) (t : Note) : Option (Fr × Note) :=
  match putS f dst v with
  | some f' => some (f', t)
  | none => none

/-- The objects that are written lie in the heap, and are looked at. -/
def wrOk (n : Nat) (foot : List Nat) (u : Ups) : Bool := u.all fun p => decide (p.1 < n) && foot.contains p.1
/-- A new object's number is free. -/
def nidOk (E : Env) (o : Oper) (nid : Nat) (h : Heap) : Bool :=
  !allocs E o || match h[nid]? with
    | some .gone => true
    | _ => false

section
variable (E : Env) (rec : Code → Fr → Option (Ex × Fr)) (ops : Array Oper) (base : Nat)

def stepN (o : Oper) (nid : Nat) (f : Fr) : Option (Fr × Note) :=
  if wantedA ops f.s o then
    match o.op with
    | .defer _ => none
    | .call c =>
      if isCall o then
        match calleeA E.P (opnd f.s) c with
        | some (k, args) => match E.I k with
          | some i => if allocs E o then match i nid args (look f.h) with
              | some (v, u) => if nidOk E o nid f.h && wrOk f.h.length (nid :: args.flatMap idOf) u then
                  putN { f with h := applyU f.h u } o.dst v ⟨nid :: args.flatMap idOf, u.map (·.1), false⟩ else none
              | none => none
            else none
          | none => match callG E rec nid k args f.h with
            | some (v, h) => if nfL args && v.nf then putN f o.dst v ⟨[], [], false⟩ else putN { f with h } o.dst v ⟨[], diffH 0 f.h h, true⟩
            | none => none
        | none => none
      else match opA E.P o nid (opnd f.s) (look f.h) with
        | some (v, u) => if nidOk E o nid f.h && wrOk f.h.length (footA E o nid (opnd f.s)) u then
            putN { f with h := applyU f.h u } o.dst v ⟨footA E o nid (opnd f.s), u.map (·.1), false⟩ else none
        | none => none
    | _ => match opA E.P o nid (opnd f.s) (look f.h) with
      | some (v, u) => if nidOk E o nid f.h && wrOk f.h.length (footA E o nid (opnd f.s)) u then
          putN { f with h := applyU f.h u } o.dst v ⟨footA E o nid (opnd f.s), u.map (·.1), false⟩ else none
      | none => none
  else putN f o.dst und ⟨[], [], false⟩

/-- All, in the order of the text; what is noted of each. -/
def textO : List Oper → Nat → Fr → Option (Fr × List Note)
  | [], _, f => some (f, [])
  | o :: l, nid, f => match stepN E rec ops o nid f with
    | some (f', t) => match textO l (if allocs E o then nid + 1 else nid) f' with
      | some (f'', ts) => some (f'', t :: ts)
      | none => none
    | none => none
end

def meet (a b : List Nat) : Bool := a.any fun x => b.contains x

/-- May the one be done ahead of the other one as well as behind it? -/
def Note.apart (a b : Note) : Bool :=
  !(meet a.foot b.wr) && !(meet b.foot a.wr) && (!a.all || b.wr.isEmpty) && (!b.all || a.wr.isEmpty)
def Note.quiet (a : Note) : Bool := a.foot.isEmpty && a.wr.isEmpty && !a.all

/-- What is done before an operation in each order: a bit for each. -/
def befOne (acc : List Nat) : List Edge → Nat
  | [] => 0
  | e :: es => if Region.binds .any e then (2 ^ e.on ||| acc.getD e.on 0) ||| befOne acc es else befOne acc es
def force {α : Type} (n : Nat) (k : Nat → α) : α :=
  match n with
  | 0 => k 0
  | m + 1 => k (m + 1)
def befL : List Oper → List Nat → List Nat
  | [], acc => acc
  | o :: l, acc => force (befOne acc o.after.toList) fun v => befL l (acc ++ [v])

def apartRow (ops : Array Oper) (o : Oper) (mask : Nat) : Nat → List Oper → Bool
  | _, [] => true
  | k, p :: l => (mask.testBit k || Oper.apart ops o p) && apartRow ops o mask (k + 1) l
/-- Unordered operations have each its own slots. -/
def apartAll (ops : Array Oper) : List Oper → List Nat → List Oper → Bool
  | prev, b :: bs, o :: l => apartRow ops o b 0 prev && apartAll ops (prev ++ [o]) bs l
  | _, _, [] => true
  | _, [], _ :: _ => false
/-- Every edge leads back. -/
def edgesOk (i : Nat) : List Oper → Bool
  | [] => true
  | o :: l => o.after.toList.all (fun e => !Region.binds .any e || decide (e.on < i)) && edgesOk (i + 1) l
/-- What is to be seen in the text of a region alone. -/
def textOk (ops : Array Oper) : Bool := edgesOk 0 ops.toList && apartAll ops [] (befL ops.toList []) ops.toList

def noteRow (t : Note) (mask : Nat) : Nat → List Note → Bool
  | _, [] => true
  | k, p :: l => (p.quiet || mask.testBit k || t.apart p) && noteRow t mask (k + 1) l
def noteAll : List Note → List Nat → List Note → Bool
  | prev, b :: bs, t :: l => (t.quiet || noteRow t b 0 prev) && noteAll (prev ++ [t]) bs l
  | _, _, [] => true
  | _, [], _ :: _ => false

def drawnA (E : Env) (rec : Code → Fr → Option (Ex × Fr)) (ops : Array Oper) (f : Fr) : Option Fr :=
  match textO E rec ops ops.toList f.h.length { f with h := f.h ++ List.replicate (rank E ops.toList ops.size) AObj.gone } with
  | some (f', ts) => if textOk ops && noteAll [] (befL ops.toList []) ts then some f' else none
  | none => none

def evC (E : Env) : Nat → Code → Fr → Option (Ex × Fr)
  | 0, _, _ => none
  | n + 1, c, f => match c with
    | .skip => some (.normal, f)
    | .region _ ops draw => match (if draw then drawnA E (evC E n) ops f else stepsO E (evC E n) ops ops.toList f) with
      | some f => some (.normal, f)
      | none => none
    | .seq a b => match evC E n a f with
      | some (.normal, f) => evC E n b f
      | r => r
    | .cond x a b => match opnd f.s x with
      | some (.bool t) => evC E n (if t then a else b) f
      | _ => none
    | .block id b => match evC E n b f with
      | some (.exit id', f) => some (if id' = id then .normal else .exit id', f)
      | r => r
    | .loop b => match evC E n b f with
      | some (.normal, f) => evC E n (.loop b) f
      | r => r
    | .exit id => some (.exit id, f)
    | .ret => some (.ret, f)
    | _ => none

/-- A call with values in which nothing is an object's, and its answer, of the same make. -/
def pureCall (E : Env) (n : Nat) (f : FuncId) (args : List AV) : Option AV :=
  match callG E (evC E n) 0 f args [] with
  | some (v, _) => if v.nf then some v else none
  | none => none
end Go.Am
