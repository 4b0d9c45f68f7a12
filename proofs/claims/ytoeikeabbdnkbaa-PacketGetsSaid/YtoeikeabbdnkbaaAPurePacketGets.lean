/- PacketGets, of data alone: the program's answers are the document's. -/
import Derived.Test.YtoeikeabbdnkbaaAPkTell
namespace Go.Proofs.Ytoeikeabbdnkbaa.Pure
open Go Go.Proofs.Ytoeikeabbdnkbaa.Ab Go.Proofs.Ytoeikeabbdnkbaa.A
set_option linter.unusedVariables false
set_option linter.unusedSimpArgs false

theorem PacketGets : ∀ (a0 : ByteArray), a0.size ≤ 140737488351232 → ∃ k, law20_PacketGets k a0 = some (true, ()) := by
  intro a0 _
  obtain ⟨l, rfl⟩ := all_text a0
  refine Ev.get ?_
  have hsz := mkB_size l
  by_cases h : ((mkB l).size : Int) > 1500
  · exact Ev.dt h (Ev.now _)
  refine Ev.df h ?_
  obtain ⟨c, e, c1, c2, _⟩ := getC_both l (by omega)
  obtain ⟨a, f, a1, a2, ha⟩ := getA_both l (by omega)
  obtain ⟨m, g, m1, m2, hm⟩ := getM_both l (by omega)
  obtain ⟨b1, b2, b3, b4, b5, b6, b7, b8, _⟩ := c
  obtain ⟨d1, d2, d3, _⟩ := a
  obtain ⟨n1, n2, n3, n4, n5, n6, n7, n8, _⟩ := m
  refine Ev.bind c1 (Ev.bind c2 (Ev.bind a1 (Ev.bind a2 (Ev.bind m1 (Ev.bind m2 (Ev.bind packed_ok (Ev.t rfl (Ev.t (by simp) (Ev.t (beq_i rfl) (Ev.bind (sameA d1 d2 d3 ?_) (Ev.t rfl (Ev.t (beq_i rfl) (Ev.bind (sameM n1 n2 n3 n4 n5 n6 n7 n8 ?_) (Ev.t rfl ?_))))))))))))))
  · exact ha.few
  · exact hm.few
  · show Ev (fun _ => some (g == g, ())) _
    rw [beq_i rfl]; exact Ev.now _
end Go.Proofs.Ytoeikeabbdnkbaa.Pure
