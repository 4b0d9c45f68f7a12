/- SumOn: for every three texts within the law's bounds and every byte the law holds of the printed functions. -/
import Derived.Test.YtbfmdedjkmfabaaSumLaw
import Derived.Test.YtbfmdedjkmfabaaQx6
set_option linter.unusedVariables false
set_option linter.unusedSimpArgs false
namespace Go.Proofs.Ytbfmdedjkmfabaa.Pure
open Go.RowKit Go.Proofs.Ytbfmdedjkmfabaa.Q Go.Proofs.YtbfmdedjkmfabaaW.PrintWords Go.Proofs.YtbfmdedjkmfabaaW.PrintLast

theorem on_rest (x0 x1 x2 : ByteArray) (h0 : x0.size ≤ 300) (h1 : x1.size ≤ 300) (h2 : x2.size ≤ 100) : Ev (fun k => watchmanlaw02_SumOn.j1 k x0 x1 x2 false) true := by
  refine Ev.step (f := fun k => (watchmanlaw02_summed.f k).bind fun t => if t = true then some true else some false) (fun k => ?_) (Ev.bind summed_ok ?_)
  · rw [watchmanlaw02_SumOn.j1, if_neg (by simp)]
    have q0 : x0.size + x2.size ≤ 9223372036854775807 := by omega
    have q1 : x1.size + x2.size ≤ 9223372036854775807 := by omega
    rw [Of_ok x0 (by omega), Of_ok x1 (by omega), Of_ok (x0 ++ x2) (by rw [ByteArray.size_append]; omega), Of_ok (x1 ++ x2) (by rw [ByteArray.size_append]; omega)]
    simp only [Option.bind_some, if_pos q0, if_pos q1, bytes_append]
    have e : (sumI x0.data.toList == sumI x1.data.toList) = (sumI (x0.data.toList ++ x2.data.toList) == sumI (x1.data.toList ++ x2.data.toList)) := by
      rw [Bool.eq_iff_iff, beq_iff_eq, beq_iff_eq, sumI_inj, sumI_inj, sumB_append, sumB_append, strB_sum]
    rw [e]
    simp
  · exact Ev.congr (fun k => if_pos rfl) (Ev.now true)

theorem SumOn : watchmanlaw02_SumOn.Pure := by
  intro x0 x1 x2 b _ _ _ hb
  have ⟨b0, b1⟩ := u8_wf hb
  have yes : Ev (fun k => watchmanlaw02_SumOn.j0 k x0 x1 x2 b true) true := by
    refine Ev.step (fun k => ?_) (Ev.now true)
    rw [watchmanlaw02_SumOn.j0, if_pos rfl]
  by_cases h0 : (x0.size : Int) > 300
  · exact (Ev.congr (fun k => by unfold watchmanlaw02_SumOn.f; rw [if_pos h0]) yes).rounds
  by_cases h1 : (x1.size : Int) > 300
  · exact (Ev.congr (fun k => by unfold watchmanlaw02_SumOn.f; rw [if_neg h0, if_pos h1]) yes).rounds
  by_cases h2 : (x2.size : Int) > 100
  · exact (Ev.congr (fun k => by unfold watchmanlaw02_SumOn.f; rw [if_neg h0, if_neg h1, decide_eq_true h2]) yes).rounds
  refine (Ev.congr (fun k => by unfold watchmanlaw02_SumOn.f; rw [if_neg h0, if_neg h1, decide_eq_false h2]) (Ev.step (fun k => ?_) (on_rest x0 x1 x2 (by omega) (by omega) (by omega)))).rounds
  rw [watchmanlaw02_SumOn.j0, if_neg (by simp), Of_ok x0 (by omega)]
  simp only [Option.bind_some]
  rw [show sumI x0.data.toList = ((sumB x0.data.toList).toNat : Int) from rfl, Step_sum _ b0 b1]
  simp only [Option.bind_some, if_true]
  rw [if_pos (by rw [size_one]; omega), Of_ok _ (by rw [ByteArray.size_append, size_one]; omega)]
  simp only [Option.bind_some, bytes_append, bytes_one]
  have e : sumI (x0.data.toList ++ [UInt8.ofNat b.toNat]) = ((byteB (sumB x0.data.toList) (UInt8.ofNat b.toNat)).toNat : Int) := by
    unfold sumI; rw [sumB_append]; rfl
  rw [e]
  simp
end Go.Proofs.Ytbfmdedjkmfabaa.Pure
