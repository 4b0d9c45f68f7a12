/- The document's texts and frames are laid as the program's. -/
import Derived.Test.YtoeikeabbdnkbaaAFrame
namespace Go.Proofs.Ytoeikeabbdnkbaa.A
open Go Go.Proofs.Ytoeikeabbdnkbaa.Ab
set_option linter.unusedVariables false
set_option linter.unusedSimpArgs false

theorem refText_ok (s : List UInt8) : Ev (fun k => ref01_Text k (mkB s)) (TextA s) := by
  have hsz := mkB_size s
  unfold TextA
  by_cases h : (s.length : Int) > 3000
  · rw [if_pos h]; exact Ev.dt (by omega) (Ev.now _)
  · rw [if_neg h]
    have hn : intOk (s.length : Int) = true := small_ok _ (by omega)
    have hi := refInt_ok (s.length : Int)
    rw [IntA_ok hn, ← hsz] at hi
    have hl := intB_len (s.length : Int)
    refine Ev.df (by omega) (Ev.bind hi (Ev.dt (by show (mkB (intB ((mkB s).size : Int))).size + (mkB s).size ≤ _; rw [hsz, mkB_size]; omega) ?_))
    show Ev (fun _ => some (mkB (intB ((mkB s).size : Int)) ++ mkB s, (0 : Int), ())) _
    rw [mkB_append, hsz]
    exact Ev.now _
theorem refPut_ok (k : Int) (s : List UInt8) : Ev (fun q => ref03_Put q k (mkB s)) (PutA k s) := by
  unfold PutA
  by_cases h0 : k < 0
  · rw [if_pos (.inl h0)]; exact Ev.dt h0 (Ev.now _)
  · by_cases h1 : k > 99
    · rw [if_pos (.inr h1)]; exact Ev.df h0 (Ev.dt h1 (Ev.now _))
    · rw [if_neg (by omega)]
      have ht := refText_ok s
      unfold TextA at ht
      refine Ev.df h0 (Ev.df h1 ?_)
      by_cases h2 : (s.length : Int) > 3000
      · rw [if_pos h2] at ht ⊢
        exact Ev.bind ht (Ev.t rfl (Ev.now _))
      · rw [if_neg h2] at ht ⊢
        have hi := refInt_ok k
        rw [IntA_ok (kind_intOk (by omega) (by omega))] at hi
        have l1 := intB_len k
        have l2 := txB_len s
        have l3 := intB_len (sumI (intB k ++ txB s))
        have g1 : (mkB (intB k)).size + (mkB (txB s)).size ≤ 9223372036854775807 := by rw [mkB_size, mkB_size]; omega
        have hs : Ev (fun q => ref02_Of q (mkB (intB k) ++ mkB (txB s))) (sumI (intB k ++ txB s), ()) := by
          rw [mkB_append]; exact ref_Of _ (by rw [List.length_append]; omega)
        have hi2 := refInt_ok (sumI (intB k ++ txB s))
        rw [IntA_ok (sum_intOk _)] at hi2
        refine Ev.bind ht (Ev.f rfl (Ev.bind hi (Ev.dt g1 (Ev.bind hs (Ev.bind hi2 (Ev.dt g1 (Ev.dt ?_ ?_)))))))
        · show (mkB (intB k) ++ mkB (txB s)).size + (mkB (intB (sumI (intB k ++ txB s)))).size ≤ 9223372036854775807
          rw [mkB_append, mkB_size, mkB_size, List.length_append]; omega
        · show Ev (fun _ => some (mkB (intB k) ++ mkB (txB s) ++ mkB (intB (sumI (intB k ++ txB s))), (0 : Int), ())) _
          rw [mkB_append, mkB_append]; exact Ev.now _
end Go.Proofs.Ytoeikeabbdnkbaa.A
