/- slices.Clone at files: what it answers. -/
import Derived.Test.YtohlhliifeeokaaGreatAHDef
namespace Go.Proofs.YtohlhliifeeokaaGreat.A
open Go Go.Proofs.YtohlhliifeeokaaGreat.Ab
def slices_Clone_api_File_api_File (_ : Nat) (l : List (Int × (ByteArray × (ByteArray × Unit)))) : Option (List (Int × (ByteArray × (ByteArray × Unit))) × Unit) := bif decide (l.length * 40 ≤ 140737488355328) then some (l, ()) else none
end Go.Proofs.YtohlhliifeeokaaGreat.A
