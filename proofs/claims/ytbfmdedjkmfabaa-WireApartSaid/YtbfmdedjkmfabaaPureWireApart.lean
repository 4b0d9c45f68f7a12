/- WireApart: for every two numbers the law holds of the printed functions. -/
import Derived.Test.YtbfmdedjkmfabaaWireGets
import Derived.Test.YtbfmdedjkmfabaaQx9
set_option linter.unusedVariables false
set_option linter.unusedSimpArgs false
namespace Go.Proofs.Ytbfmdedjkmfabaa.Pure
open Go.RowKit Go.Proofs.Ytbfmdedjkmfabaa.Q Go.Proofs.YtbfmdedjkmfabaaW.PrintWords Go.Proofs.YtbfmdedjkmfabaaW.PrintLast

theorem neg_len (n : Int) : (intB (-n)).length = (intB n).length := by
  have h : absI (-n) = absI n := by unfold absI; split <;> split <;> omega
  rw [intB_eq, intB_eq, h, List.length_append, List.length_append]
  rfl
theorem WireApart : watchmanlaw01_WireApart.Pure := by
  intro n m hn hm
  have bn := i64_bd hn
  have bm := i64_bd hm
  have skip : ∀ x y : ByteArray, Ev (fun k => watchmanlaw01_WireApart.j0 k n m x y true) true := fun x y =>
    Ev.step (f := fun k => (watchmanlaw01_wired.f k).bind fun t => some t) (fun k => by rw [watchmanlaw01_WireApart.j0, if_pos rfl]) (Ev.bind wired_ok (Ev.now true))
  by_cases h1 : intOk n = true
  · by_cases h2 : intOk m = true
    · have h1' := (intOk_iff n).1 h1
      have e1 : ∀ k, watchmanlaw01_WireApart.f k n m = watchmanlaw01_WireApart.j0 k n m (mkB (intB n)) (mkB (intB m)) (decide (((mkB (intB n)).size : Int) > ((mkB (intB m)).size : Int))) := fun k => by
        unfold watchmanlaw01_WireApart.f
        rw [Int_ok, Int_ok]
        unfold IntA
        rw [if_pos h1, if_pos h2]
        rfl
      refine (Ev.congr e1 ?_ : Ev (fun k => watchmanlaw01_WireApart.f k n m) true).rounds
      rw [mkB_size, mkB_size]
      by_cases h3 : ((intB n).length : Int) > ((intB m).length : Int)
      · rw [decide_eq_true h3]; exact skip _ _
      · rw [decide_eq_false h3]
        have hok : intOk (-n) = true := by rw [intOk_iff]; omega
        refine Ev.step (f := fun k => (watchmanlaw01_wired.f k).bind fun t => if t = true then some true else some false) (fun k => ?_) (Ev.bind wired_ok (Ev.congr (fun k => if_pos rfl) (Ev.now true)))
        have hp : (((mkB (intB m)).extract 0 (intB n).length).toList == (mkB (intB n)).toList) = (n == m) := by
          rw [mkB_extract, mkB_toList, mkB_toList, List.drop_zero, Bool.eq_iff_iff, beq_iff_eq, beq_iff_eq]
          constructor
          · intro h
            have h4 : intB n ++ (intB m).drop (intB n).length = intB m ++ [] := by rw [← h, List.append_nil, List.length_take, Nat.min_eq_left (by omega), List.take_append_drop]
            exact (intB_one h1 h2 h4).1
          · rintro rfl; rw [List.take_length]
        rw [watchmanlaw01_WireApart.j0, if_neg (by simp), wrap64_id (by omega) (by omega), Int_ok]
        unfold IntA
        rw [if_pos hok]
        simp only [Option.bind_some, mkB_size, if_pos (show (0 : Int) ≤ ((intB n).length : Int) by omega), if_pos (show ((intB n).length : Int) ≤ ((intB m).length : Int) by omega), hp, beq_self_eq_true, if_true, neg_len]
    · refine (Ev.congr (fun k => ?_) (skip (mkB (intB n)) (mkB [])) : Ev (fun k => watchmanlaw01_WireApart.f k n m) true).rounds
      unfold watchmanlaw01_WireApart.f
      rw [Int_ok, Int_ok]
      unfold IntA
      rw [if_pos h1, if_neg h2]
      rfl
  · refine (Ev.congr (fun k => ?_) (skip (mkB []) (IntA m).1) : Ev (fun k => watchmanlaw01_WireApart.f k n m) true).rounds
    unfold watchmanlaw01_WireApart.f
    rw [Int_ok, Int_ok]
    unfold IntA
    rw [if_neg h1]
    rfl
end Go.Proofs.Ytbfmdedjkmfabaa.Pure
