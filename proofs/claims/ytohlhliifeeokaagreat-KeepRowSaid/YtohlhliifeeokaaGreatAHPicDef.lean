/- slices.Clone at texts, and snap.picture: what they answer. -/
import Derived.Test.YtohlhliifeeokaaGreatAHRowDef
namespace Go.Proofs.YtohlhliifeeokaaGreat.A
open Go Go.Proofs.YtohlhliifeeokaaGreat.Ab
set_option linter.unusedVariables false
def slices_Clone_string_string (k : Nat) (l : List ByteArray) : Option (List ByteArray × Unit) := bif decide (l.length * 16 ≤ 140737488355328) then some (l, ()) else none
def snap_picture (k : Nat) (n : Int) (l : List ByteArray) : Option (ByteArray × Int × Unit) :=
  bif decide (n < 0) then some (⟨#[]⟩, 1, ()) else bif decide (n > 1000000000) then some (⟨#[]⟩, 1, ()) else
  bif decide ((l.length + 1) * 16 ≤ 140737488355328) then (wire_Int k n).bind fun a => (frame_Row k 3 (a.1 :: l)).bind fun r => bif r.2.1 != 0 then some (⟨#[]⟩, 2, ()) else some (r.1, 0, ())
  else none
end Go.Proofs.YtohlhliifeeokaaGreat.A
