/- Commands: both say the same of one. -/
import Derived.Test.YtoeikeabbdnkbaaAP1
import Derived.Test.YtoeikeabbdnkbaaFnPacket
namespace Go.Proofs.Ytoeikeabbdnkbaa.Pure
open Go Go.Proofs.Ytoeikeabbdnkbaa.Ab Go.Proofs.Ytoeikeabbdnkbaa.A
set_option linter.unusedVariables false
set_option linter.unusedSimpArgs false

theorem ieq (a b : Int) : (a == b) = decide (a = b) := by rw [Bool.eq_iff_iff]; simp
theorem cdec {α : Type} (p : Prop) [Decidable p] (x y : α) : (bif decide p then x else y) = if p then x else y := by by_cases h : p <;> simp [h]
theorem dfalse {p : Prop} [Decidable p] (h : ¬ p) : (some (false, ()) : Option (Bool × Unit)) = some (decide p, ()) := by rw [decide_eq_false h]
theorem dtrue {p : Prop} [Decidable p] (h : p) : (some (true, ()) : Option (Bool × Unit)) = some (decide p, ()) := by rw [decide_eq_true h]
theorem dsame {p q : Prop} [Decidable p] [Decidable q] (h : p ↔ q) : (some (decide p, ()) : Option (Bool × Unit)) = some (decide q, ()) := by rw [decide_eq_decide.2 h]
theorem two (p q : Prop) [Decidable p] [Decidable q] : (bif decide p then some (decide q, ()) else some (false, ()) : Option (Bool × Unit)) = some (decide (p ∧ q), ()) := by by_cases h : p <;> simp [h]
theorem mwithin (k : Nat) (a b c : Int) : machine_within k a b c = some (decide (b ≤ a ∧ a ≤ c), ()) := two _ _
theorem r19in (k : Nat) (a b c : Int) : ref19_in k a b c = some (decide (b ≤ a ∧ a ≤ c), ()) := two _ _
theorem spotIs (k : Nat) (b c : Int) : spot_Is k (b, c, ()) = some (decide (1 ≤ b ∧ b ≤ 99 ∧ 0 ≤ c ∧ c ≤ 7), ()) := by
  unfold spot_Is spot_place_may
  simp only [cdec]
  repeat' split
  all_goals (simp only [Option.bind_some]; first | exact dfalse (by omega) | exact dsame (by omega))
theorem r04Is (k : Nat) (b c : Int) : ref04_Is k (b, c, ()) = some (decide (1 ≤ b ∧ b ≤ 99 ∧ 0 ≤ c ∧ c ≤ 7), ()) := by
  unfold ref04_Is
  simp only [cdec]
  repeat' split
  all_goals first | exact dfalse (by omega) | exact dsame (by omega)
def cmdP (se rq kd bed ch pr t lo : Int) : Prop :=
  (kd = 1 ∧ se = 0 ∧ rq = 0 ∧ bed = 0 ∧ ch = 0 ∧ pr = 0 ∧ t = 0 ∧ lo = 0) ∨
  (kd ≠ 1 ∧ 1 ≤ se ∧ se ≤ 1000000000 ∧ 1 ≤ rq ∧ rq ≤ 1000000000 ∧ 0 ≤ t ∧ t ≤ 1000000000 ∧
    ((kd = 2 ∧ (1 ≤ bed ∧ bed ≤ 99 ∧ 0 ≤ ch ∧ ch ≤ 7) ∧ 1 ≤ pr ∧ pr ≤ 3 ∧ lo = 0) ∨ ((kd = 3 ∨ kd = 5) ∧ (1 ≤ bed ∧ bed ≤ 99 ∧ 0 ≤ ch ∧ ch ≤ 7) ∧ pr = 0 ∧ lo = 0) ∨ (kd = 4 ∧ (1 ≤ bed ∧ bed ≤ 99 ∧ 0 ≤ ch ∧ ch ≤ 7) ∧ pr = 0 ∧ 1 ≤ lo ∧ lo ≤ 1000) ∨
     ((kd = 6 ∨ kd = 7) ∧ 1 ≤ bed ∧ bed ≤ 99 ∧ ch = 0 ∧ pr = 0 ∧ 1 ≤ lo ∧ lo ≤ 1000) ∨ (kd = 8 ∧ bed = 0 ∧ ch = 0 ∧ pr = 0 ∧ 1 ≤ lo ∧ lo ≤ 20) ∨ (kd = 9 ∧ bed = 0 ∧ ch = 0 ∧ pr = 0 ∧ lo = 0)))
instance (se rq kd bed ch pr t lo : Int) : Decidable (cmdP se rq kd bed ch pr t lo) := by unfold cmdP; infer_instance
theorem kinds (P : Int → Prop) (h : ∀ kd, (kd < 1 ∨ 9 < kd) → P kd) (h1 : P 1) (h2 : P 2) (h3 : P 3) (h4 : P 4) (h5 : P 5) (h6 : P 6) (h7 : P 7) (h8 : P 8) (h9 : P 9) (kd : Int) : P kd := by
  by_cases q : kd < 1 ∨ 9 < kd
  · exact h kd q
  · have : kd = 1 ∨ kd = 2 ∨ kd = 3 ∨ kd = 4 ∨ kd = 5 ∨ kd = 6 ∨ kd = 7 ∨ kd = 8 ∨ kd = 9 := by omega
    rcases this with rfl | rfl | rfl | rfl | rfl | rfl | rfl | rfl | rfl <;> assumption
theorem andt (b c : Bool) (p q : Prop) [Decidable p] [Decidable q] (hb : b = decide p) (hc : c = decide q) : (b && c) = decide (p ∧ q) := by rw [hb, hc]; simp
theorem mayM (k : Nat) (se rq kd bed ch pr t lo : Int) : machine_May k (se, rq, kd, bed, ch, pr, t, lo, ()) = some (decide (cmdP se rq kd bed ch pr t lo), ()) := by
  unfold machine_May
  simp only [mwithin, spotIs, Option.bind_some, ieq, ← decide_not, ← Bool.decide_and, Bool.and_true, cdec]
  revert kd
  refine kinds _ ?_ ?_ ?_ ?_ ?_ ?_ ?_ ?_ ?_ ?_
  · intro kd h
    have h1 : kd ≠ 1 := by omega
    have h2 : kd ≠ 2 := by omega
    have h3 : kd ≠ 3 := by omega
    have h4 : kd ≠ 4 := by omega
    have h5 : kd ≠ 5 := by omega
    have h6 : kd ≠ 6 := by omega
    have h7 : kd ≠ 7 := by omega
    have h8 : kd ≠ 8 := by omega
    have h9 : kd ≠ 9 := by omega
    simp only [h1, h2, h3, h4, h5, h6, h7, h8, h9, if_false]
    repeat' split
    all_goals (refine dfalse ?_; unfold cmdP; omega)
  all_goals
    simp only [Int.reduceEq, if_true, if_false, true_and]
    repeat' split
    all_goals first | (refine dfalse ?_; unfold cmdP; omega) | (refine dsame ?_; unfold cmdP; omega)
theorem mayR (k : Nat) (se rq kd bed ch pr t lo : Int) : ref19_May k (se, rq, kd, bed, ch, pr, t, lo, ()) = some (decide (cmdP se rq kd bed ch pr t lo), ()) := by
  unfold ref19_May
  simp only [r19in, r04Is, Option.bind_some, ieq, ← decide_not, ← Bool.decide_and, Bool.and_true, cdec]
  revert kd
  refine kinds _ ?_ ?_ ?_ ?_ ?_ ?_ ?_ ?_ ?_ ?_
  · intro kd h
    have h1 : kd ≠ 1 := by omega
    have h2 : kd ≠ 2 := by omega
    have h3 : kd ≠ 3 := by omega
    have h4 : kd ≠ 4 := by omega
    have h5 : kd ≠ 5 := by omega
    have h6 : kd ≠ 6 := by omega
    have h7 : kd ≠ 7 := by omega
    have h8 : kd ≠ 8 := by omega
    have h9 : kd ≠ 9 := by omega
    simp only [h1, h2, h3, h4, h5, h6, h7, h8, h9, if_false]
    repeat' split
    all_goals (refine dfalse ?_; unfold cmdP; omega)
  all_goals
    simp only [Int.reduceEq, if_true, if_false, true_and]
    repeat' split
    all_goals first | (refine dfalse ?_; unfold cmdP; omega) | (refine dsame ?_; unfold cmdP; omega)
end Go.Proofs.Ytoeikeabbdnkbaa.Pure
