/- frame.Row: what rows of texts have for bytes. -/
import Derived.Test.YtohlhliifeeokaaGreatFnFrameP
namespace Go.Proofs.YtohlhliifeeokaaGreat.A
open Go Go.Proofs.YtohlhliifeeokaaGreat.Ab
set_option linter.unusedVariables false
def frame_Row_l (k : Nat) : List ByteArray → ByteArray → Option (ByteArray × Int)
  | [], b => some (b, 0)
  | s :: l, b => (wire_Text k s).bind fun r => bif r.2.1 != 0 then some (⟨#[]⟩, r.2.1) else
      bif decide (b.size + r.1.size ≤ 100000000) then frame_Row_l k l (b ++ r.1) else none
def frame_Row (k : Nat) (a : Int) (l : List ByteArray) : Option (ByteArray × Int × Unit) :=
  bif decide (a < 0) then some (⟨#[]⟩, 1, ()) else bif decide (a > 99) then some (⟨#[]⟩, 1, ()) else
  bif decide ((l.length : Int) > 100) then some (⟨#[]⟩, 2, ()) else
  (wire_Int k l.length).bind fun n => bif decide (n.1.size ≤ 100000000) then
    (frame_Row_l k l n.1).bind fun q => bif q.2 != 0 then some (⟨#[]⟩, q.2, ()) else frame_Put k a q.1
  else none
end Go.Proofs.YtohlhliifeeokaaGreat.A
