/- What functions outside the evaluator's reach answer. -/
import Derived.Test.YtohlhliifeeokaaGreatAb
import Derived.Lib.Join
namespace Go.Proofs.YtohlhliifeeokaaGreat.A
open Go Go.Proofs.YtohlhliifeeokaaGreat.Ab
set_option linter.unusedVariables false
def joinOf (l : List ByteArray) (sep : ByteArray) : ByteArray := ⟨(Lib.join (l.map (·.data.toList)) sep.data.toList).toArray⟩
def strings_Join (k : Nat) (l : List ByteArray) (sep : ByteArray) : Option (ByteArray × Unit) :=
  bif decide (l.length ≤ 140737488355328) && decide ((Lib.join (l.map (·.data.toList)) sep.data.toList).length ≤ 140737488355328) then some (joinOf l sep, ()) else none
theorem strings_Join_some {k : Nat} {l : List ByteArray} {a1 r : ByteArray} (h : strings_Join k l a1 = some (r, ())) : l.length ≤ 140737488355328 ∧ (Lib.join (l.map (·.data.toList)) a1.data.toList).length ≤ 140737488355328 ∧ r = joinOf l a1 := by
  unfold strings_Join at h
  rw [cond_eq_ite] at h
  split at h
  · rename_i hg
    simp only [Bool.and_eq_true, decide_eq_true_eq] at hg
    simp only [Option.some.injEq, Prod.mk.injEq, and_true] at h
    exact ⟨hg.1, hg.2, h.symm⟩
  · cases h
end Go.Proofs.YtohlhliifeeokaaGreat.A
