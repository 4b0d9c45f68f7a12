/- record.Scan: the texts of the records that bytes begin with, and how many bytes they take. -/
import Derived.Test.YtohlhliifeeokaaGreatFnFrameP
namespace Go.Proofs.YtohlhliifeeokaaGreat.A
open Go Go.Proofs.YtohlhliifeeokaaGreat.Ab
set_option linter.unusedVariables false
def scanL (k : Nat) : Nat → ByteArray → Int → Option (List (ByteArray × ByteArray))
  | 0, _, _ => none
  | q + 1, b, n => (frame_Get k b).bind fun r => (wire_GetInt k r.2.1).bind fun g =>
      bif r.2.2.2.1 != 0 then some [] else bif g.2.2.1 != 0 then some [] else bif r.1 != 1 then some [] else bif g.1 != n then some [] else
      bif decide (n < 0) then some [] else bif decide (n > 1000000000) then some [] else bif decide ((g.2.1.size : Int) > 1000) then some [] else
      (scanL k q r.2.2.1 (n + 1)).bind fun l => some ((g.2.1, r.2.2.1) :: l)
def takenOf (b : ByteArray) (l : List (ByteArray × ByteArray)) : Int := l.foldl (fun _ p => IntKind.i64.wrap ((b.size : Int) - (p.2.size : Int))) 0
def record_Scan (k : Nat) (b : ByteArray) (first : Int) : Option (List ByteArray × Int × Unit) :=
  (scanL k k b first).bind fun l => bif decide (l.length ≤ 1000000000) then some (l.map (·.1), takenOf b l, ()) else none
theorem takenOf_snoc (b : ByteArray) (l : List (ByteArray × ByteArray)) (p : ByteArray × ByteArray) : takenOf b (l ++ [p]) = IntKind.i64.wrap ((b.size : Int) - (p.2.size : Int)) := by
  unfold takenOf; rw [List.foldl_append]; rfl
end Go.Proofs.YtohlhliifeeokaaGreat.A
