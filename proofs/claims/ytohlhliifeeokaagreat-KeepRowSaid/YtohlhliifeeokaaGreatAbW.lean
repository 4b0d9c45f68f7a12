/- Abstract runs: answers whose rows are new ones. -/
import Derived.Test.YtohlhliifeeokaaGreatAbF
namespace Go.Proofs.YtohlhliifeeokaaGreat.Ab
open Go Go.RowKit
set_option linter.unusedVariables false
set_option linter.unusedSimpArgs false
section
variable {P : Program} {base : Nat} {w0 : World} {S0 : Mem} {φ : Nat → Nat} {ψ : Nat → Value} {S : Mem} {s : St} {a : Act} {w : World}
abbrev noMem : Mem := fun _ => none
end
end Go.Proofs.YtohlhliifeeokaaGreat.Ab
