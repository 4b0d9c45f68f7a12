/- PRINTED BY resid.py (ours): what each function answers, as the evaluator's runs by the kernel tell it. -/
import Derived.Test.YtoeikeabbdnkbaaAb
import Derived.Test.YtoeikeabbdnkbaaAHIntsDef
import Derived.Test.YtoeikeabbdnkbaaAHSumDef
namespace Go.Proofs.Ytoeikeabbdnkbaa.A
open Go Go.Proofs.Ytoeikeabbdnkbaa.Ab
set_option linter.unusedVariables false
def wire_Int (k : Nat) (a0 : Int) : (Option (ByteArray × (Int × Unit))) := ((wire_Ints k [a0]).bind fun r1 => some (r1.fst, r1.snd.fst, ()))
def wire_Text (k : Nat) (a0 : ByteArray) : (Option (ByteArray × (Int × Unit))) := (bif decide ((↑a0.size : Int) > 3000) then some (ByteArray.mk #[], 2, ()) else ((wire_Int k (↑a0.size : Int)).bind fun r1 => (bif decide (ByteArray.size r1.fst + a0.size ≤ 9223372036854775807) then some (r1.fst ++ a0, r1.snd.fst, ()) else none)))
def frame_Put (k : Nat) (a0 : Int) (a1 : ByteArray) : (Option (ByteArray × (Int × Unit))) := (bif decide (a0 < 0) then some (ByteArray.mk #[], 1, ()) else (bif decide (a0 > 99) then some (ByteArray.mk #[], 1, ()) else ((wire_Text k a1).bind fun r1 => (bif r1.snd.fst != 0 then some (ByteArray.mk #[], r1.snd.fst, ()) else ((wire_Int k a0).bind fun r2 => ((sum_Over k ([r2.fst, r1.fst])).bind fun r3 => ((wire_Int k r3.fst).bind fun r4 => (bif decide (ByteArray.size r2.fst + ByteArray.size r1.fst ≤ 9223372036854775807) then (bif decide ((r2.fst ++ r1.fst).size + ByteArray.size r4.fst ≤ 9223372036854775807) then some (r2.fst ++ r1.fst ++ r4.fst, r4.snd.fst, ()) else none) else none))))))))
end Go.Proofs.Ytoeikeabbdnkbaa.A
