/- The abstract evaluator, its second half: calls, regions, code. Definitions alone. -/
import Derived.Test.YtplfpmfnlbfhkaaGreatDoorAm0
set_option linter.unusedVariables false
namespace Go.Am
open Go

mutual
def AV.beq : AV → AV → Bool
  | .bool a, .bool b => a == b
  | .int k a, .int l b => k == l && a == b
  | .str a, .str b => a == b
  | .row x a, .row y b => x == y && beqL a b
  | .mrow a b c, .mrow x y z => a == x && b == y && c == z
  | .ptr a b c, .ptr x y z => a == x && b == y && c == z
  | .fptr a, .fptr b => beqL a b
  | .nilptr, .nilptr => true
  | .map a, .map b => a == b
  | .nilmap, .nilmap => true
  | .func f a b, .func g x y => f == g && beqL a x && beqL b y
  | .nilfunc, .nilfunc => true
  | .iface t v, .iface u w => t == u && AV.beq v w
  | .niliface, .niliface => true
  | .agg a, .agg b => beqL a b
  | .tup a, .tup b => beqL a b
  | _, _ => false
def beqL : List AV → List AV → Bool
  | [], [] => true
  | x :: xs, y :: ys => AV.beq x y && beqL xs ys
  | _, _ => false
end

def beqP : List (AV × AV) → List (AV × AV) → Bool
  | [], [] => true
  | (x, v) :: xs, (y, w) :: ys => AV.beq x y && AV.beq v w && beqP xs ys
  | _, _ => false
def AObj.beq : AObj → AObj → Bool
  | .gone, .gone => true
  | .cells a b c x, .cells d e f y => a == d && b == e && c == f && beqL x y
  | .map x, .map y => beqP x y
  | _, _ => false

def idxFrom : Nat → Heap → List Nat
  | _, [] => []
  | i, _ :: xs => i :: idxFrom (i + 1) xs
/-- The numbers of objects that differ, or are new. -/
def diffH : Nat → Heap → Heap → List Nat
  | i, a, [] => idxFrom i a
  | i, [], _ :: ys => i :: diffH (i + 1) [] ys
  | i, x :: xs, y :: ys => if x.beq y then diffH (i + 1) xs ys else i :: diffH (i + 1) xs ys

/- Nothing in it is an object's; its slices' capacities are forgotten. -/
mutual
def AV.nf : AV → Bool
  | .mrow _ _ _ | .ptr _ _ _ | .map _ => false
  | .row ex l => !ex && nfL l
  | .fptr cs => nfL cs
  | .func _ a b => nfL a && nfL b
  | .iface _ v => AV.nf v
  | .agg cs => nfL cs
  | .tup cs => nfL cs
  | _ => true
def nfL : List AV → Bool
  | [] => true
  | v :: vs => AV.nf v && nfL vs
end

/- A value with its rows frozen: what it becomes. -/
mutual
def frv0 (g : Look) (rec : AV → Option AV) : AV → Option AV
  | .mrow id ver len => match g id with
    | some (.cells sz ver' _ c) =>
      if ver' = ver ∧ sz ≠ 0 ∧ len * sz ≤ c.length then
        match mapO rec (c.take (len * sz)) with
        | some cs => if cs.all AV.flat then some (.row false (chunk sz len cs)) else none
        | none => none
      else none
    | _ => none
  | .row _ l => match frvL g rec l with
    | some l => some (.row false l)
    | none => none
  | .agg l => match frvL g rec l with
    | some l => some (.agg l)
    | none => none
  | .tup l => match frvL g rec l with
    | some l => some (.tup l)
    | none => none
  | .iface t v => match frv0 g rec v with
    | some v => some (.iface t v)
    | none => none
  | v => some v
def frvL (g : Look) (rec : AV → Option AV) : List AV → Option (List AV)
  | [] => some []
  | v :: vs => match frv0 g rec v, frvL g rec vs with
    | some v, some vs => some (v :: vs)
    | _, _ => none
end
def frv (g : Look) : Nat → AV → Option AV
  | 0 => fun _ => none
  | n + 1 => frv0 g (frv g n)

/- Which objects are frozen by that, and how many of their cells. -/
mutual
def frm0 (g : Look) (rec : AV → List (Nat × Nat)) : AV → List (Nat × Nat)
  | .mrow id _ len => match g id with
    | some (.cells sz _ _ c) => (id, len * sz) :: (c.take (len * sz)).flatMap rec
    | _ => []
  | .row _ l => frmL g rec l
  | .agg l => frmL g rec l
  | .tup l => frmL g rec l
  | .iface _ v => frm0 g rec v
  | _ => []
def frmL (g : Look) (rec : AV → List (Nat × Nat)) : List AV → List (Nat × Nat)
  | [] => []
  | v :: vs => frm0 g rec v ++ frmL g rec vs
end
def frm (g : Look) : Nat → AV → List (Nat × Nat)
  | 0 => fun _ => []
  | n + 1 => frm0 g (frm g n)

def markH (h : Heap) (p : Nat × Nat) : Heap :=
  match h[p.1]? with
  | some (.cells sz ver fz c) => h.set p.1 (.cells sz ver (max fz p.2) c)
  | _ => h
def marksH (h : Heap) (l : List (Nat × Nat)) : Heap := l.foldl markH h

/- Other numbers for the objects. -/
mutual
def shiftV (k : Nat) : AV → AV
  | .mrow id ver len => .mrow (k + id) ver len
  | .ptr id ver off => .ptr (k + id) ver off
  | .map id => .map (k + id)
  | .row ex l => .row ex (shiftL k l)
  | .fptr l => .fptr (shiftL k l)
  | .func f a b => .func f (shiftL k a) (shiftL k b)
  | .iface t v => .iface t (shiftV k v)
  | .agg l => .agg (shiftL k l)
  | .tup l => .tup (shiftL k l)
  | v => v
def shiftL (k : Nat) : List AV → List AV
  | [] => []
  | v :: vs => shiftV k v :: shiftL k vs
end
def shiftP (k : Nat) : List (AV × AV) → List (AV × AV)
  | [] => []
  | (x, v) :: l => (shiftV k x, shiftV k v) :: shiftP k l
def shiftO (k : Nat) : AObj → AObj
  | .gone => .gone
  | .cells a b c l => .cells a b c (shiftL k l)
  | .map es => .map (shiftP k es)

inductive Ex where
  | normal
  | exit (id : Nat)
  | ret
  deriving DecidableEq

structure Fr where
  n : Nat
  s : List AV
  h : Heap
  d : List (FuncId × List AV)

def look (h : Heap) : Look := fun i => h[i]?
def putH (h : Heap) (p : Nat × AObj) : Heap := if p.1 < h.length then h.set p.1 p.2 else h ++ (List.replicate (p.1 - h.length) .gone ++ [p.2])
def applyU (h : Heap) (u : Ups) : Heap := u.foldl putH h
def putS (f : Fr) (dst : Option Nat) (v : AV) : Option Fr :=
  match dst with
  | none => some f
  | some d => if d < f.n then some { f with s := sset f.s d v } else none
def wantedA (ops : Array Oper) (s : List AV) (o : Oper) : Bool :=
  match o.guard with
  | none => true
  | some (j, want) => match (ops[j]?).bind (·.dst) with
    | some d => match sget s d with
      | .bool b => b == want
      | _ => false
    | none => false

/-- A program; functions that are told by a rule of their own; whose arguments, and whose answers, are frozen; which deferred calls do nothing. -/
structure Env where
  P : Program
  I : FuncId → Option (Nat → List AV → Look → Option (AV × Ups))
  fa : FuncId → Bool
  fr : FuncId → Bool
  dn : FuncId → Bool

def methodA (P : Program) (t : TypeId) (name : String) : Option FuncId :=
  match P.info? t with
  | some i => match i.methods.find? (·.name == name) with
    | some m => if m.path.isEmpty then match m.func with
        | some (f, pr) => match P.underlying t, pr with
          | some (.pointer _), true => some f
          | some (.pointer _), false => none
          | some _, false => some f
          | _, _ => none
        | none => none
      else none
    | none => none
  | none => none

def calleeA (P : Program) (ρ : Operand → Option AV) (c : Call) : Option (FuncId × List AV) :=
  match c.callee with
  | .value f => match ρ f, mapO ρ c.args.toList with
    | some (.func f first captured), some args => some (f, first ++ args ++ captured)
    | _, _ => none
  | .invoke recv name => match ρ recv, mapO ρ c.args.toList with
    | some (.iface t v), some args => (methodA P t name).map fun f => (f, v :: args)
    | _, _ => none
  | .builtin _ => none

def resultsA (P : Program) (fn : Func) (s : List AV) (g : Look) : Option AV :=
  match mapO (fun r => match r with
    | .tmp t => some (sget s t)
    | .cell a t => match addrCells g (sget s a) with
      | some cs => loadFrom P t cs
      | none => none) fn.results.toList with
  | some [v] => some v
  | some vs => some (.tup vs)
  | none => none

section
variable (E : Env) (rec : Code → Fr → Option (Ex × Fr))

/-- A body, on a heap. -/
def bodyA (f : FuncId) (args : List AV) (h : Heap) : Option (Func × Fr) :=
  match E.P.funcs[f]? with
  | some fn => match fn.body with
    | some c => match rec c { n := max args.length fn.ntmps, s := args, h, d := [] } with
      | some (.normal, fr) | some (.ret, fr) => some (fn, fr)
      | _ => none
    | none => none
  | none => none

/-- A deferred call; its answer counts for nothing. -/
def deferredA (f : FuncId) (args : List AV) (h : Heap) : Option Heap :=
  if E.dn f then some h else
  match bodyA E rec f args h with
  | some (fn, fr) => if fr.d.isEmpty then (resultsA E.P fn fr.s (look fr.h)).map fun _ => fr.h else none
  | none => none
def defersA : List (FuncId × List AV) → Heap → Option Heap
  | [], h => some h
  | (f, args) :: ds, h => match deferredA E rec f args h with
    | some h => defersA ds h
    | none => none

def callF (f : FuncId) (args : List AV) (h : Heap) : Option (AV × Heap) :=
  match bodyA E rec f args h with
  | some (fn, fr) => match defersA E rec fr.d fr.h with
    | some h => (resultsA E.P fn fr.s (look h)).map fun v => (v, h)
    | none => none
  | none => none

def frzDepth : Nat := 64

/-- The answer of a call is frozen. -/
def frzR (f : FuncId) (r : AV × Heap) : Option (AV × Heap) :=
  if E.fr f then match frv (look r.2) frzDepth r.1 with
    | some v' => some (v', marksH r.2 (frm (look r.2) frzDepth r.1))
    | none => none
  else some r

/-- A call with values in which nothing is an object's: on an empty heap. -/
def pureA (f : FuncId) (args : List AV) : Option (AV × Heap) :=
  (callF E rec f args []).bind (frzR E f)

def joinA (r : AV × Heap) (h : Heap) : AV × Heap :=
  if r.1.nf then (r.1, h) else (shiftV h.length r.1, h ++ r.2.map (shiftO h.length))

def callG (nid : Nat) (f : FuncId) (args : List AV) (h : Heap) : Option (AV × Heap) :=
  match E.I f with
  | some i => match i nid args (look h) with
    | some (v, u) => some (v, applyU h u)
    | none => none
  | none =>
    if nfL args then (pureA E rec f args).map fun r => joinA r h
    else if E.fa f then
      match frvL (look h) (frv (look h) frzDepth) args with
      | some args' =>
        if nfL args' then (pureA E rec f args').map fun r => joinA r (marksH h (frmL (look h) (frm (look h) frzDepth) args))
        else (callF E rec f args' (marksH h (frmL (look h) (frm (look h) frzDepth) args))).bind (frzR E f)
      | none => none
    else (callF E rec f args h).bind (frzR E f)

def isCall (o : Oper) : Bool :=
  match o.op with
  | .call { callee := .builtin _, .. } => false
  | .call _ => true
  | _ => false

/-- One operation; 'nid': the number for a new object. -/
def stepO (ops : Array Oper) (o : Oper) (nid : Nat) (f : Fr) : Option Fr :=
  if wantedA ops f.s o then
    match o.op with
    | .call c =>
      if isCall o then
        match calleeA E.P (opnd f.s) c with
        | some (k, args) => match callG E rec nid k args f.h with
          | some (v, h) => putS { f with h } o.dst v
          | none => none
        | none => none
      else match opA E.P o nid (opnd f.s) (look f.h) with
        | some (v, u) => putS { f with h := applyU f.h u } o.dst v
        | none => none
    | .defer c => match calleeA E.P (opnd f.s) c with
      | some p => putS { f with d := p :: f.d } o.dst und
      | none => none
    | _ => match opA E.P o nid (opnd f.s) (look f.h) with
      | some (v, u) => putS { f with h := applyU f.h u } o.dst v
      | none => none
  else putS f o.dst und

def stepsO (ops : Array Oper) : List Oper → Fr → Option Fr
  | [], f => some f
  | o :: l, f => match stepO E rec ops o f.h.length f with
    | some f => stepsO ops l f
    | none => none
end
end Go.Am
