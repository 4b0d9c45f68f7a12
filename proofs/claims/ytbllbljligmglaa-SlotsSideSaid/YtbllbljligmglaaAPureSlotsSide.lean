/- SlotsSide, of data alone: of two files' bytes the better number is the same, whichever is the first one. -/
import Derived.Test.YtbllbljligmglaaASlotsLaw
namespace Go.Proofs.Ytbllbljligmglaa.Pure
open Go Go.Proofs.Ytbllbljligmglaa.Ab Go.Proofs.Ytbllbljligmglaa.A
set_option linter.unusedVariables false

theorem imax_id (n : Int) (h : 0 ≤ n) : imax n 0 = n := by unfold imax; rw [bif_f (by omega)]
theorem imax_id2 (n : Int) (h : 1 ≤ n) : imax 0 n = n := by unfold imax; rw [bif_t (by omega)]
theorem SlotsSide : ∀ (a0 : ByteArray) (a1 : ByteArray), a0.size ≤ 140737488351232 → a1.size ≤ 140737488351232 → ∃ k, law15_SlotsSide k a0 a1 = some (true, ()) := by
  intro a b _ _
  obtain ⟨a, rfl⟩ := all_text a
  obtain ⟨b, rfl⟩ := all_text b
  have sa := mkB_size a
  have sb := mkB_size b
  refine Ev.get ?_
  by_cases h1 : ((mkB a).size : Int) > 600
  · exact Ev.dt h1 (Ev.now _)
  refine Ev.df h1 ?_
  by_cases h2 : ((mkB b).size : Int) > 600
  · exact Ev.dt h2 (Ev.now _)
  refine Ev.df h2 ?_
  have c1 := Better_ok a b (by omega) (by omega)
  have c2 := Better_ok b a (by omega) (by omega)
  have c3 := Better_ok a [] (by omega) (by simp)
  have c4 := Better_ok [] b (by simp) (by omega)
  rw [noteO_nil] at c3 c4
  have tl : ∀ z : ByteArray, (z.toList == z.toList) = true := fun z => beq_self_eq_true _
  cases ha : noteO a with
  | none =>
    cases hb : noteO b with
    | none =>
      rw [ha, hb] at c1 c2; rw [ha] at c3; rw [hb] at c4
      exact Ev.bind c1 (Ev.bind c2 (Ev.bind c3 (Ev.bind c4 (Ev.f rfl (Ev.f rfl (Ev.f rfl (Ev.f rfl (Ev.f rfl (Ev.bind slotted_ok (Ev.t rfl (Ev.t rfl (Ev.now _))))))))))))
    | some q =>
      have hq := (noteO_some hb).1.1
      rw [ha, hb] at c1 c2; rw [ha] at c3; rw [hb] at c4
      refine Ev.bind c1 (Ev.bind c2 (Ev.bind c3 (Ev.bind c4 (Ev.f (nbeq_i rfl) (Ev.f rfl (Ev.f (nbeq_i ?_) (Ev.f rfl (Ev.f rfl (Ev.bind slotted_ok (Ev.t rfl (Ev.f ?_ (Ev.t (tl _) (Ev.t rfl ?_)))))))))))))
      · exact (imax_id2 q.1 hq).symm
      · exact bne_i (by show (0 : Int) ≠ q.1; omega)
      · have e : (decide (q.1 > 0) == decide ((1 : Int) ≥ 0)) = true := by rw [decide_eq_true (by omega)]; rfl
        exact Ev.of (g := fun _ => some (true, ())) (fun k => congrArg (fun z : Bool => some (z, ())) e) (Ev.now _)
  | some p =>
    have hp := (noteO_some ha).1.1
    cases hb : noteO b with
    | none =>
      rw [ha, hb] at c1 c2; rw [ha] at c3; rw [hb] at c4
      refine Ev.bind c1 (Ev.bind c2 (Ev.bind c3 (Ev.bind c4 (Ev.f (nbeq_i rfl) (Ev.f rfl (Ev.f (nbeq_i ?_) (Ev.f rfl (Ev.f rfl (Ev.bind slotted_ok (Ev.t rfl (Ev.f ?_ (Ev.t (tl _) (Ev.t rfl ?_)))))))))))))
      · exact (imax_id p.1 (by omega)).symm
      · exact bne_i (by show p.1 ≠ (0 : Int); omega)
      · have e : (decide (p.1 > 0) == decide ((0 : Int) ≥ 0)) = true := by rw [decide_eq_true (by omega)]; rfl
        exact Ev.of (g := fun _ => some (true, ())) (fun k => congrArg (fun z : Bool => some (z, ())) e) (Ev.now _)
    | some q =>
      have hq := (noteO_some hb).1.1
      rw [ha, hb] at c1 c2; rw [ha] at c3; rw [hb] at c4
      have e1 : betterO (some p) (some q) = if q.1 > p.1 then (q.2, q.1, 1) else (p.2, p.1, 0) := rfl
      have e2 : betterO (some q) (some p) = if p.1 > q.1 then (p.2, p.1, 1) else (q.2, q.1, 0) := rfl
      rw [e1] at c1
      rw [e2] at c2
      rcases Int.lt_trichotomy p.1 q.1 with g | g | g
      · rw [if_pos (by omega)] at c1
        rw [if_neg (by omega)] at c2
        refine Ev.bind c1 (Ev.bind c2 (Ev.bind c3 (Ev.bind c4 (Ev.f (nbeq_i rfl) (Ev.f rfl (Ev.f (nbeq_i ?_) (Ev.f rfl (Ev.f rfl (Ev.bind slotted_ok (Ev.t rfl (Ev.f ?_ (Ev.t (tl _) (Ev.t rfl ?_)))))))))))))
        · show q.1 = imax p.1 q.1
          unfold imax; rw [bif_t (by omega)]
        · exact bne_i (by show p.1 ≠ q.1; omega)
        · have e : (decide (q.1 > 0) == decide ((1 : Int) ≥ 0)) = true := by rw [decide_eq_true (by omega)]; rfl
          exact Ev.of (g := fun _ => some (true, ())) (fun k => congrArg (fun z : Bool => some (z, ())) e) (Ev.now _)
      · rw [if_neg (by omega)] at c1 c2
        refine Ev.bind c1 (Ev.bind c2 (Ev.bind c3 (Ev.bind c4 (Ev.f (nbeq_i g) (Ev.f rfl (Ev.f (nbeq_i ?_) (Ev.f rfl (Ev.f rfl (Ev.bind slotted_ok (Ev.t rfl (Ev.t (beq_i g) ?_)))))))))))
        · show p.1 = imax p.1 q.1
          unfold imax; rw [bif_f (by omega)]
        · have e : (decide (p.1 > 0) == decide ((0 : Int) ≥ 0)) = true := by rw [decide_eq_true (by omega)]; rfl
          exact Ev.of (g := fun _ => some (true, ())) (fun k => congrArg (fun z : Bool => some (z, ())) e) (Ev.now _)
      · rw [if_neg (by omega)] at c1
        rw [if_pos (by omega)] at c2
        refine Ev.bind c1 (Ev.bind c2 (Ev.bind c3 (Ev.bind c4 (Ev.f (nbeq_i rfl) (Ev.f rfl (Ev.f (nbeq_i ?_) (Ev.f rfl (Ev.f rfl (Ev.bind slotted_ok (Ev.t rfl (Ev.f ?_ (Ev.t (tl _) (Ev.t rfl ?_)))))))))))))
        · show p.1 = imax p.1 q.1
          unfold imax; rw [bif_f (by omega)]
        · exact bne_i (by show p.1 ≠ q.1; omega)
        · have e : (decide (p.1 > 0) == decide ((0 : Int) ≥ 0)) = true := by rw [decide_eq_true (by omega)]; rfl
          exact Ev.of (g := fun _ => some (true, ())) (fun k => congrArg (fun z : Bool => some (z, ())) e) (Ev.now _)
end Go.Proofs.Ytbllbljligmglaa.Pure
