/- The functions that are told by a rule of their own. -/
import Derived.Test.YtplfpmfnlbfhkaaGreatDoorAm2
set_option linter.unusedVariables false
namespace Go.Am
open Go

def isStr : AV → Bool
  | .str _ => true
  | _ => false
/-- slices.Clone, at elements of 'sz' cells. -/
def iClone (sz : Nat) : Nat → List AV → Look → Option (AV × Ups)
  | nid, [x], g => if isStr x then none else match srcCells g sz x with
    | some (cs, k) => if k = 0 then some (.row true [], []) else if k ≤ lim then some (.mrow nid 0 k, [(nid, .cells sz 0 0 cs)]) else none
    | none => none
  | _, _, _ => none

def firstIdxA (c : UInt8) : List UInt8 → Nat → Int
  | [], _ => -1
  | b :: bs, i => if b = c then i else firstIdxA c bs (i + 1)
/-- internal/bytealg.IndexByteString. -/
def iIndexByte (_ : Nat) (args : List AV) (_ : Look) : Option (AV × Ups) :=
  match args with
  | [.str s, .int .u8 c] => some (.int .i64 (firstIdxA (UInt8.ofNat c.toNat) s 0), [])
  | _ => none

def asciiA : AV → Bool
  | .int .u8 n => decide (0 ≤ n) && decide (n < 128)
  | _ => false
/-- runes.Bad, of signs of one byte. -/
def iBad (_ : Nat) (args : List AV) (_ : Look) : Option (AV × Ups) :=
  match args with
  | [.row _ l] => if l.all asciiA && decide (l.length ≤ lim) then some (.int .i64 (-1), []) else none
  | _ => none
end Go.Am
