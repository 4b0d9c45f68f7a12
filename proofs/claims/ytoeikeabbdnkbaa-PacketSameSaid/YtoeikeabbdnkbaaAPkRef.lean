/- Messages, in the document's words. -/
import Derived.Test.YtoeikeabbdnkbaaAPkMsg
namespace Go.Proofs.Ytoeikeabbdnkbaa.Pure
open Go Go.Proofs.Ytoeikeabbdnkbaa.Ab Go.Proofs.Ytoeikeabbdnkbaa.A
set_option linter.unusedVariables false
set_option linter.unusedSimpArgs false

theorem r20rows (l : List ByteArray) (hl : l.length ≤ 1000000) : ∃ k0, ∀ k, k0 ≤ k → ∀ m : Int, ref20_rows k l m = some (decide ((∀ x ∈ l, x.size ≤ 45) ∧ (l.length : Int) ≤ m), ()) := by
  rcases rows_loop l hl with ⟨⟨k0, h⟩, ha⟩ | ⟨j, ⟨k0, h⟩, ha⟩
  · refine ⟨k0, fun k hk m => ?_⟩
    have h' := h k hk
    dsimp only at h'
    unfold ref20_rows
    simp only [h', Option.bind_some, Nat.beq_refl, cond_true]
    exact dsame ⟨fun q => ⟨ha, q⟩, fun q => q.2⟩
  · refine ⟨k0, fun k hk m => ?_⟩
    have h' := h k hk
    dsimp only at h'
    unfold ref20_rows
    simp only [h', Option.bind_some]
    exact dfalse fun q => ha q.1
set_option maxHeartbeats 4000000 in
theorem r20Is (kd fr to vw la n c : Int) (l : List ByteArray) (hl : l.length ≤ 1000000) : Ev (fun k => ref20_Is k (kd, fr, to, vw, la, n, c, l, ())) (decide (msgP kd fr to vw la n c l), ()) := by
  obtain ⟨k0, h⟩ := r20rows l hl
  by_cases hn : 0 ≤ n ∧ n ≤ 40
  all_goals
    by_cases ha : ∀ x ∈ l, x.size ≤ 45
    · refine ⟨k0, fun k hk => Eq.trans ?_ (msg_short ha)⟩
      have h' := h k hk
      have e : ∀ m : Int, ((∀ x ∈ l, x.size ≤ 45) ∧ (l.length : Int) ≤ m) = ((l.length : Int) ≤ m) := fun m => propext ⟨fun q => q.2, fun q => ⟨ha, q⟩⟩
      have h2 : ∀ m : Int, ref20_rows k l m = some (decide ((l.length : Int) ≤ m), ()) := fun m => (h' m).trans (dsame ⟨fun q => q.2, fun q => ⟨ha, q⟩⟩)
      dsimp only
      unfold ref20_Is
      first | simp only [r20in, h2, Option.bind_some, ieq, ← decide_not, bne, cdec, wrap40 hn] | simp only [r20in, h2, Option.bind_some, ieq, ← decide_not, bne, cdec]
      have hR : (0 : Int) ≤ (l.length : Int) := Int.natCast_nonneg _
      revert hR
      clear e h2 h' h ha hl hk k0 k
      generalize (l.length : Int) = R
      intro hR
      revert kd
      refine kinds _ ?_ ?_ ?_ ?_ ?_ ?_ ?_ ?_ ?_ ?_
      · intro kd h
        have h1 : kd ≠ 1 := by omega
        have h2 : kd ≠ 2 := by omega
        have h3 : kd ≠ 3 := by omega
        have h4 : kd ≠ 4 := by omega
        have h5 : kd ≠ 5 := by omega
        have h6 : kd ≠ 6 := by omega
        have h7 : kd ≠ 7 := by omega
        have h8 : kd ≠ 8 := by omega
        have h9 : kd ≠ 9 := by omega
        simp only [h1, h2, h3, h4, h5, h6, h7, h8, h9, if_false, not_false_eq_true, if_true]
        repeat' split
        all_goals (refine dfalse ?_; unfold msgQ; omega)
      all_goals
        simp only [Int.reduceEq, if_true, if_false, true_and, not_true_eq_false, not_false_eq_true, false_or, or_false, false_and]
        repeat' split
        all_goals first | (refine dfalse ?_; unfold msgQ; omega) | (refine dsame ?_; unfold msgQ; omega)
    · refine ⟨k0, fun k hk => ?_⟩
      have e : ¬ msgP kd fr to vw la n c l := fun q => ha q.2.1
      rw [decide_eq_false e]
      have h' := h k hk
      have h2 : ∀ m : Int, ref20_rows k l m = some (false, ()) := fun m => (h' m).trans (dfalse fun q => ha q.1).symm
      dsimp only
      unfold ref20_Is
      have hR : (1 : Int) ≤ (l.length : Int) := by
        cases l with
        | nil => exact absurd (fun x hx => by cases hx) ha
        | cons x l => rw [List.length_cons]; omega
      revert hR
      simp only [r20in, h2, Option.bind_some, ieq, ← decide_not, bne, cdec, cond_false]
      clear e h2 h' h ha hl hk k0 k
      generalize (l.length : Int) = R
      intro hR
      revert kd
      refine kinds _ ?_ ?_ ?_ ?_ ?_ ?_ ?_ ?_ ?_ ?_
      · intro kd h
        have h1 : kd ≠ 1 := by omega
        have h2 : kd ≠ 2 := by omega
        have h3 : kd ≠ 3 := by omega
        have h4 : kd ≠ 4 := by omega
        have h5 : kd ≠ 5 := by omega
        have h6 : kd ≠ 6 := by omega
        have h7 : kd ≠ 7 := by omega
        have h8 : kd ≠ 8 := by omega
        have h9 : kd ≠ 9 := by omega
        simp only [h1, h2, h3, h4, h5, h6, h7, h8, h9, if_false, not_false_eq_true, if_true]
        repeat' split
        all_goals rfl
      all_goals
        simp only [Int.reduceEq, if_true, if_false, true_and, not_true_eq_false, not_false_eq_true, false_or, or_false, false_and]
        repeat' split
        all_goals first | rfl | (exfalso; omega)
end Go.Proofs.Ytoeikeabbdnkbaa.Pure
