/- The walk of sum.Step: below 0 and from 65536 on it refuses, else it answers the sum behind the byte. -/
import Derived.Test.YtbfmdedjkmfabaaHSum
namespace Go.Proofs.Ytbfmdedjkmfabaa.Q
open Go.RowKit Go.Proofs.YtbfmdedjkmfabaaW.PrintWords Go.Proofs.YtbfmdedjkmfabaaW.PrintLast Go.Proofs.YtbfmdedjkmfabaaW.PrintMore
set_option linter.unusedVariables false
set_option linter.unusedSimpArgs false

def sum_Step.f (c b : Int) : Option (Int × Bool) := if c < 0 then some (0, false) else if 65536 ≤ c then some (0, false) else some (crcByte c b, true)

set_option maxHeartbeats 4000000 in
set_option maxRecDepth 100000 in
theorem sum_Step.calls (a0 a1 : Int) (r1 : Int) (r2 : Bool) (w : World) (h : sum_Step.f a0 a1 = some (r1, r2)) :
    Calls Try.prog 17 #[.int .i64 a0, .int .u8 a1] w fun e w' => e = .returned (.tuple #[.int .i64 r1, .bool r2]) ∧ Below w.heap.size w w' := by
  unfold sum_Step.f at h
  by_cases h1 : a0 < 0
  · rw [if_pos h1] at h
    obtain ⟨rfl, rfl⟩ : 0 = r1 ∧ false = r2 := by simpa using h
    clear h
    go_enter Try.func17, Try.ntmps17
    go_wp2
    go_ret2
    exact ⟨rfl, Below.refl _ _⟩
  · rw [if_neg h1] at h
    by_cases h2 : 65536 ≤ a0
    · rw [if_pos h2] at h
      obtain ⟨rfl, rfl⟩ : 0 = r1 ∧ false = r2 := by simpa using h
      clear h
      go_enter Try.func17, Try.ntmps17
      go_wp2
      go_ret2
      exact ⟨rfl, Below.refl _ _⟩
    · rw [if_neg h2] at h
      obtain ⟨e1, rfl⟩ : crcByte a0 a1 = r1 ∧ true = r2 := by simpa using h
      have HE := Aside0.mk e1
      clear h e1
      have hu := Try.underlying58
      go_enter Try.func17, Try.ntmps17
      go_wp2_with (go_at_call 39; go_must (refine (sum_state_addT w.heap.size 58 a0 a1 w _ (heap_alloc_new w _) (below_alloc (Below.refl _ _) _) (Nat.le_refl _)).mono ?_); rintro e w' ⟨rfl, h1, h2, h3⟩; have hcz := blk_cell h1 0; simp only [List.getElem?_toArray, List.getElem?_cons_zero, HE.out] at hcz; have HB := Aside0.mk h2; clear h1 h2 h3)
      go_ret2
      exact ⟨rfl, HB.out⟩
end Go.Proofs.Ytbfmdedjkmfabaa.Q
