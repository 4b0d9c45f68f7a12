/- What bounds the data of a law's parameters keep. -/
import Derived.Test.YtohlhliifeeokaaGreatAb
import Derived.ProofKit
namespace Go.Proofs.YtohlhliifeeokaaGreat.Ab
open Go
def bnd : (t : Ty) → t.den → Prop
  | .int k, x => (Lit.int k x).wf = true
  | .bool, _ => True
  | .str, x => ByteArray.size x ≤ maxLen
  | .nil, _ => True
  | .cons a b, x => bnd a x.1 ∧ bnd b x.2
  | .sl t, l => List.length (α := t.den) l ≤ maxLen ∧ ∀ x : t.den, List.Mem x (l : List t.den) → bnd t x
end Go.Proofs.YtohlhliifeeokaaGreat.Ab
