/- PacketSame, of data alone: what is got is put as it was; what is of one kind is of no other one. -/
import Derived.Test.YtoeikeabbdnkbaaAPkPut
namespace Go.Proofs.Ytoeikeabbdnkbaa.Pure
open Go Go.Proofs.Ytoeikeabbdnkbaa.Ab Go.Proofs.Ytoeikeabbdnkbaa.A
set_option linter.unusedVariables false
set_option linter.unusedSimpArgs false

theorem PacketSame : ∀ (a0 : ByteArray), a0.size ≤ 140737488351232 → ∃ k, law20_PacketSame k a0 = some (true, ()) := by
  intro a0 _
  obtain ⟨l, rfl⟩ := all_text a0
  refine Ev.get ?_
  have hsz := mkB_size l
  by_cases h : ((mkB l).size : Int) > 1500
  · exact Ev.dt h (Ev.now _)
  refine Ev.df h ?_
  obtain ⟨c, e, c1, _, hc⟩ := getC_both l (by omega)
  obtain ⟨a, f, a1, _, ha⟩ := getA_both l (by omega)
  obtain ⟨m, g, m1, _, hm⟩ := getM_both l (by omega)
  obtain ⟨ta, eta⟩ := list_mk a.2.2.1
  obtain ⟨tm, etm⟩ := list_mk m.2.2.2.2.2.2.2.1
  have p1 := putC_ok c
  have p2 := putA_ok a ta eta (by have := ha.few; rw [eta, List.length_map] at this; exact this)
  have p3 := putM_ok m tm etm (by have := hm.few; rw [etm, List.length_map] at this; exact this)
  have inj : ∀ {x y : List (List UInt8)}, x.map mkB = y.map mkB → x = y := fun {x y} q => by
    have := congrArg (List.map fun s : ByteArray => s.data.toList) q
    simpa [List.map_map, Function.comp_def, mkB] using this
  have stay : (!(mkB l).toList == (mkB l).toList) = false := by rw [beq_self_eq_true]; rfl
  obtain ⟨b1, b2, b3, b4, b5, b6, b7, b8, _⟩ := c
  obtain ⟨d1, d2, d3, _⟩ := a
  obtain ⟨n1, n2, n3, n4, n5, n6, n7, n8, _⟩ := m
  refine Ev.bind c1 (Ev.bind a1 (Ev.bind m1 (Ev.bind p1 (Ev.bind p2 (Ev.bind p3 ?_)))))
  rcases hc with ⟨rfl, okc, lc⟩ | ⟨rfl, _⟩
  · have e1 : layC (b1, b2, b3, b4, b5, b6, b7, b8, ()) = l := lc.2.2.2.2.symm
    rw [if_pos okc, e1]
    have hf : f = 20 := by
      rcases ha with ⟨_, _, ts, _, la⟩ | ⟨q, _⟩
      · exact absurd (kind_one (by omega) (by omega) (by omega) (by omega) (lc.2.2.2.2.symm.trans la.2.2.2.2)) (by decide)
      · exact q
    have hg : g = 20 := by
      rcases hm with ⟨_, _, ts, _, la⟩ | ⟨q, _⟩
      · exact absurd (kind_one (by omega) (by omega) (by omega) (by omega) (lc.2.2.2.2.symm.trans la.2.2.2.2)) (by decide)
      · exact q
    subst hf hg
    exact Ev.t (beq_i rfl) (Ev.f (nbeq_i rfl) (Ev.f stay (Ev.f (bne_i (show (20 : Int) ≠ 0 by decide)) (Ev.f (bne_i (show (20 : Int) ≠ 0 by decide)) (Ev.f (bne_i (show (20 : Int) ≠ 0 by decide)) (Ev.bind packed_ok (Ev.t rfl (Ev.t (nbne_i (show (20 : Int) ≠ 0 by decide)) (Ev.now _)))))))))
  · refine Ev.f (bne_i (show (20 : Int) ≠ 0 by decide)) ?_
    rcases ha with ⟨rfl, oka, ts, ea, la⟩ | ⟨rfl, _⟩
    · obtain rfl := inj (eta.symm.trans ea)
      have e1 : layA (d1, d2, d3, ()) ta = l := la.2.2.2.2.symm
      rw [if_pos oka, e1]
      have hg : g = 20 := by
        rcases hm with ⟨_, _, ts, _, lm⟩ | ⟨q, _⟩
        · exact absurd (kind_one (by omega) (by omega) (by omega) (by omega) (la.2.2.2.2.symm.trans lm.2.2.2.2)) (by decide)
        · exact q
      subst hg
      exact Ev.t (beq_i rfl) (Ev.f (nbeq_i rfl) (Ev.f stay (Ev.f (bne_i (show (20 : Int) ≠ 0 by decide)) (Ev.bind packed_ok (Ev.t rfl (Ev.t (nbne_i (show (20 : Int) ≠ 0 by decide)) (Ev.now _)))))))
    · refine Ev.f (bne_i (show (20 : Int) ≠ 0 by decide)) (Ev.bind packed_ok (Ev.t rfl ?_))
      rcases hm with ⟨rfl, okm, ts, em, lm⟩ | ⟨rfl, _⟩
      · obtain rfl := inj (etm.symm.trans em)
        have e1 : layM (n1, n2, n3, n4, n5, n6, n7, n8, ()) tm = l := lm.2.2.2.2.symm
        rw [if_pos okm, e1]
        refine Ev.f (nbeq_i rfl) (Ev.t (beq_i rfl) ?_)
        show Ev (fun _ => some ((mkB l).toList == (mkB l).toList, ())) _
        rw [beq_self_eq_true]; exact Ev.now _
      · exact Ev.t (nbne_i (show (20 : Int) ≠ 0 by decide)) (Ev.now _)
end Go.Proofs.Ytoeikeabbdnkbaa.Pure
