/- wire.Ints: what a row of whole numbers has for bytes. -/
import Derived.Test.YtohlhliifeeokaaGreatAb
namespace Go.Proofs.YtohlhliifeeokaaGreat.A
open Go Go.Proofs.YtohlhliifeeokaaGreat.Ab
set_option linter.unusedVariables false
def digsF : Nat → Int → List Int
  | 0, _ => []
  | f + 1, n => if 0 < n then (n % 250) :: digsF f (n / 250) else []
def intB (n : Int) : List UInt8 := (digsF 5 (if n < 0 then -n else n)).map (fun d => UInt8.ofNat d.toNat) ++ [if n < 0 then 254 else 255]
def intsB (l : List Int) : List UInt8 := l.flatMap intB
def intOk (n : Int) : Bool := decide (-2147483647 ≤ n ∧ n ≤ 2147483647)
def wire_Ints (k : Nat) (l : List Int) : Option (ByteArray × Int × Unit) :=
  bif decide (l.length ≤ 1000000000000) then (bif l.all intOk then some (⟨(intsB l).toArray⟩, 0, ()) else some (⟨#[]⟩, 1, ())) else none
theorem digsF_bd (f : Nat) : ∀ (n : Int), (digsF f n).length ≤ f ∧ ∀ d ∈ digsF f n, 0 ≤ d ∧ d < 250 := by
  induction f with
  | zero => intro n; exact ⟨Nat.le_refl _, fun d h => by simp [digsF] at h⟩
  | succ f ih =>
    intro n
    unfold digsF
    split
    · obtain ⟨h1, h2⟩ := ih (n / 250)
      refine ⟨by simpa using h1, fun d hd => ?_⟩
      rcases List.mem_cons.1 hd with rfl | hd
      · omega
      · exact h2 d hd
    · exact ⟨by simp, fun d h => by simp at h⟩
theorem intB_len (n : Int) : (intB n).length ≤ 6 := by
  have := (digsF_bd 5 (if n < 0 then -n else n)).1
  unfold intB
  rw [List.length_append, List.length_map]
  simp; omega
theorem intsB_len (l : List Int) : (intsB l).length ≤ 6 * l.length := by
  induction l with
  | nil => simp [intsB]
  | cons n l ih =>
    have := intB_len n
    have e : intsB (n :: l) = intB n ++ intsB l := rfl
    rw [e, List.length_append, List.length_cons]
    omega
theorem intsB_snoc (l : List Int) (n : Int) : intsB (l ++ [n]) = intsB l ++ intB n := by simp [intsB]
end Go.Proofs.YtohlhliifeeokaaGreat.A
