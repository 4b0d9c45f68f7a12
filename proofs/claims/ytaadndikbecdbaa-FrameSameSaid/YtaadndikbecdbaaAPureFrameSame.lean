/- FrameSame, of data alone: what is got is put as it was. -/
import Derived.Test.YtaadndikbecdbaaAFramed
namespace Go.Proofs.Ytaadndikbecdbaa.Pure
open Go Go.Proofs.Ytaadndikbecdbaa.Ab Go.Proofs.Ytaadndikbecdbaa.A
set_option linter.unusedVariables false

theorem FrameSame : ∀ (a0 : ByteArray), a0.size ≤ 140737488351232 → ∃ k, law03_FrameSame k a0 = some (true, ()) := by
  intro a0 _
  obtain ⟨l, rfl⟩ := all_text a0
  refine Ev.get ?_
  have hsz := mkB_size l
  by_cases h : ((mkB l).size : Int) > 600
  · exact Ev.dt h (Ev.now _)
  · refine Ev.df h ?_
    obtain ⟨k, t, r, e, hf, h1, _⟩ := Fr_both l (by omega)
    obtain ⟨k', ts, r', e', hrow, h3, _⟩ := Row_both l (by omega)
    have h2 : ∀ (k : Int) (t : List UInt8), Ev (fun q => frame_Put q k (mkB t)) (PutA k t) := fun k t => Ev.all (fun q => Put_ok q k t)
    have h4 : Ev (fun q => frame_Row q k' (ts.map mkB)) (RowA k' ts) := Ev.all (fun q => Row_ok q k' ts)
    refine Ev.bind h1 (Ev.bind (h2 k t) ?_)
    have tail : Ev (fun q => (law03_framed q).bind fun r8 => bif r8.fst then bif e' != 0 then some (true, ()) else bif (RowA k' ts).2.1 == e' then bif decide ((RowA k' ts).1.size + (mkB r').size ≤ 9223372036854775807) then some (((RowA k' ts).1 ++ mkB r').toList == (mkB l).toList, ()) else none else some (false, ()) else some (false, ())) (true, ()) := by
      refine Ev.bind framed_ok (Ev.t rfl ?_)
      rcases hrow with ⟨rfl, a1, a2, a3, a4, a5, a6⟩ | ⟨he, _⟩
      · have hA : RowA k' ts = (mkB (frB k' (rowB ts)), 0, ()) := by
          unfold RowA PutA
          rw [if_neg (by omega), if_neg (by omega), if_pos (show ∀ t ∈ ts, t.length ≤ 3000 from a4), if_neg (by omega), if_neg (by omega)]
        rw [hA]
        have hl := frB_len k' (rowB ts)
        have hr : r'.length ≤ l.length := by rw [a6, List.length_append]; omega
        refine Ev.f (nbeq_i rfl) (Ev.t (beq_i rfl) (Ev.dt (by show (mkB (frB k' (rowB ts))).size + (mkB r').size ≤ _; rw [mkB_size, mkB_size]; omega) ?_))
        rw [mkB_append, ← a6, beq_self_eq_true]
        exact Ev.now _
      · exact Ev.t (nbne_i he) (Ev.now _)
    rcases hf with ⟨rfl, a1, a2, a3, a4⟩ | ⟨he, _⟩
    · have hA : PutA k t = (mkB (frB k t), 0, ()) := by
        unfold PutA; rw [if_neg (by omega), if_neg (by omega)]
      rw [hA]
      have hl := frB_len k t
      have hr : r.length ≤ l.length := by rw [a4, List.length_append]; omega
      refine Ev.t (beq_i rfl) (Ev.f (nbeq_i rfl) (Ev.dt (by show (mkB (frB k t)).size + (mkB r).size ≤ _; rw [mkB_size, mkB_size]; omega) (Ev.f ?_ (Ev.bind h3 (Ev.bind h4 tail)))))
      show (!((mkB (frB k t) ++ mkB r).toList == (mkB l).toList)) = false
      rw [mkB_append, ← a4, beq_self_eq_true]; rfl
    · exact Ev.f (bne_i he) (Ev.bind h3 (Ev.bind h4 tail))
end Go.Proofs.Ytaadndikbecdbaa.Pure
