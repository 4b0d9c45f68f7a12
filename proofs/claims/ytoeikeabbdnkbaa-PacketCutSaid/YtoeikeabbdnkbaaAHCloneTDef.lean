/- slices.Clone at texts: what it answers. -/
import Derived.Test.YtoeikeabbdnkbaaAHDef
namespace Go.Proofs.Ytoeikeabbdnkbaa.A
open Go Go.Proofs.Ytoeikeabbdnkbaa.Ab

def slices_Clone_string_string (_ : Nat) (l : List ByteArray) : Option (List ByteArray × Unit) := bif decide (l.length * 16 ≤ 140737488355328) then some (l, ()) else none
end Go.Proofs.Ytoeikeabbdnkbaa.A
