/- The sum of layer 2 as plain Lean functions on whole numbers: one byte, a text's bytes, a row of texts. -/
import Derived.Test.YtohlhliifeeokaaGreatAb
import Derived.RowKit
import Derived.Laws.BitsLemmas
namespace Go.Proofs.YtohlhliifeeokaaGreat.A
open Go Go.RowKit Go.Proofs.YtohlhliifeeokaaGreat.Ab
set_option linter.unusedVariables false
def crcTurn (c : Int) : Int := if wrap64 (c * 2) ≥ 65536 then Go.bits .xor .i64 (wrap64 (c * 2)) 69665 else wrap64 (c * 2)
def crcTurns : Nat → Int → Int
  | 0, c => c
  | n + 1, c => crcTurns n (crcTurn c)
theorem crcTurns_succ (n : Nat) (c : Int) : crcTurns (n + 1) c = crcTurn (crcTurns n c) := by
  induction n generalizing c with
  | zero => rfl
  | succ n ih => rw [crcTurns, ih]; rfl
def crcByte (c b : Int) : Int := crcTurns 8 (Go.bits .xor .i64 c (wrap64 (wrap64 b * 256)))
def crcStr (c : Int) (s : List UInt8) : Int := s.foldl (fun c b => crcByte c b.toNat) c
def crcRow (c : Int) (l : List ByteArray) : Int := l.foldl (fun c s => crcStr c s.data.toList) c
def sum_Over (k : Nat) (l : List ByteArray) : Option (Int × Unit) := bif decide (l.length ≤ 1000000000000) && l.all (fun s => decide (s.size ≤ 9223372036854775807)) then some (crcRow 65535 l, ()) else none
def sum_Of (k : Nat) (s : ByteArray) : Option (Int × Unit) := bif decide (s.size ≤ 9223372036854775807) then some (crcStr 65535 s.data.toList, ()) else none
end Go.Proofs.YtohlhliifeeokaaGreat.A
