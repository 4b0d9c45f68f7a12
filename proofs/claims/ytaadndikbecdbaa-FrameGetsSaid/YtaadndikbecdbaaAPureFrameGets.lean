/- FrameGets, of data alone: the program's answers are the document's. -/
import Derived.Test.YtaadndikbecdbaaAFramed
namespace Go.Proofs.Ytaadndikbecdbaa.Pure
open Go Go.Proofs.Ytaadndikbecdbaa.Ab Go.Proofs.Ytaadndikbecdbaa.A
set_option linter.unusedVariables false

theorem FrameGets : ∀ (a0 : ByteArray), a0.size ≤ 140737488351232 → ∃ k, law03_FrameGets k a0 = some (true, ()) := by
  intro a0 _
  obtain ⟨l, rfl⟩ := all_text a0
  refine Ev.get ?_
  have hsz := mkB_size l
  by_cases h : ((mkB l).size : Int) > 600
  · exact Ev.dt h (Ev.now _)
  · refine Ev.df h ?_
    obtain ⟨k, t, r, e, _, h1, h2⟩ := Fr_both l (by omega)
    obtain ⟨k', ts, r', e', hrow, h3, h4⟩ := Row_both l (by omega)
    obtain ⟨us, m, f, hus, h5, h6⟩ := All_both l (by omega)
    have hts : ts.length ≤ 100 := by
      rcases hrow with ⟨_, _, _, h, _⟩ | ⟨_, _, h, _⟩
      · exact h
      · rw [h]; simp
    refine Ev.bind h1 (Ev.bind h2 (Ev.bind h3 (Ev.bind h4 (Ev.bind h5 (Ev.bind h6 (Ev.bind framed_ok (Ev.t rfl (Ev.t (beq_i rfl) (Ev.t (beq_self_eq_true _) (Ev.t (beq_self_eq_true _) (Ev.t (beq_i rfl) (Ev.t (beq_i rfl) (Ev.bind (Texts_ok (ts.map mkB) (by rw [List.length_map]; omega)) (Ev.t rfl (Ev.t (beq_self_eq_true _) (Ev.t (beq_i rfl) (Ev.bind (Texts_ok us (by omega)) (Ev.t rfl (Ev.t (beq_i rfl) ?_)))))))))))))))))))
    show Ev (fun _ => some (f == f, ())) _
    rw [beq_i rfl]; exact Ev.now _
end Go.Proofs.Ytaadndikbecdbaa.Pure
