/- FileCut: what is cut is a beginning of what there was; cut where it ends it is as synced; a Crash is a Cut. -/
import Derived.Test.YtaadndikbecdbaaQx10
import Derived.Test.YtaadndikbecdbaaFileThy
namespace Go.Proofs.Ytaadndikbecdbaa.Pure
open Go.RowKit Go.Proofs.Ytaadndikbecdbaa.Q Go.Proofs.YtaadndikbecdbaaW.PrintWords Go.Proofs.YtaadndikbecdbaaW.PrintLast
set_option linter.unusedVariables false
set_option linter.unusedSimpArgs false

theorem FileCut : watchmanlaw12_FileCut.Pure := by
  intro m s t n hm hs ht hn
  obtain ⟨b, hb, hb2⟩ := Big_ok m s t
  refine ⟨1, ?_⟩
  unfold watchmanlaw12_FileCut.f
  rw [hb]
  simp only [Option.bind_some]
  cases b with
  | true => rw [if_pos rfl, watchmanlaw12_FileCut.j0, if_pos rfl, filed_ok]; rfl
  | false =>
    have hz := hb2 rfl
    rw [if_neg (by decide), Is_ok (by omega) (by omega)]
    simp only [Option.bind_some]
    cases h : okF m s t with
    | false => rw [watchmanlaw12_FileCut.j0, if_pos (by decide), filed_ok]; rfl
    | true =>
      have hk := okF_size h
      have hi := i64_wf hn
      rw [watchmanlaw12_FileCut.j0, if_neg (by decide), Read_t h]
      simp only [Option.bind_some]
      by_cases hc : 0 ≤ n ∧ n ≤ ((s.size + t.size : Nat) : Int)
      · have hq : mn n (t.size : Int) = ((left_ n t : Nat) : Int) ∧ left_ n t ≤ t.size := by
          unfold left_ mn mx
          repeat (first | omega | split)
        rw [Cut_t h n hc.1 hc.2]
        simp only [Option.bind_some, if_true]
        rw [Sync_t h, Crash_t h, hq.1, wrap64_of (by omega) (by omega), Cut_t h _ (by omega) (by omega), filed_ok]
        simp only [Option.bind_some, if_true]
        have hx : okF m ((s ++ t).extract 0 n.toNat) EB = true := decide_eq_true (by rw [ByteArray.size_extract, ByteArray.size_append, EB_size]; omega)
        rw [Read_t hx, show ((s.size : Int) + ((left_ n t : Nat) : Int)).toNat = s.size + left_ n t by omega, cut_app _ hq.2]
        simp only [Option.bind_some, app_E]
        rw [if_pos hc.1, if_pos (by rw [ByteArray.size_append]; omega), if_pos trivial]
        by_cases e : n = ((s ++ t).size : Int)
        · rw [if_pos e, if_pos (by rw [extract_all _ _ (by omega)]; exact eq3 _ _ _)]
          simp
        · rw [if_neg e]
          simp
      · have hx : cutF m s t n = false := by
          unfold cutF; rw [h, Bool.true_and]
          by_cases h0 : 0 ≤ n
          · rw [decide_eq_true h0, decide_eq_false (by omega)]; rfl
          · rw [decide_eq_false h0]; rfl
        rw [Cut_ok (by omega) (by omega), hx]
        simp only [Option.bind_some, resF]
        have hr : file_Read.f 0 EB EB = some EB := by rw [Read_ok (by rw [EB_size]; omega) (by rw [EB_size]; omega), app_E]
        simp only [Bool.false_eq_true, if_false, filed_ok, Option.bind_some, if_true, hr]
        rw [if_neg (by decide)]
        by_cases h0 : n < 0
        · rw [if_pos h0, E_toList]; rfl
        · rw [if_neg h0, if_pos (by rw [ByteArray.size_append]; omega), E_toList]; rfl
end Go.Proofs.Ytaadndikbecdbaa.Pure
