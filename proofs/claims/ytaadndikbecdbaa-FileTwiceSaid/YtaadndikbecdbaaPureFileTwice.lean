/- FileTwice: a second crash loses nothing more; what is added behind a crash stands behind what was kept. -/
import Derived.Test.YtaadndikbecdbaaQx11
import Derived.Test.YtaadndikbecdbaaFileThy
namespace Go.Proofs.Ytaadndikbecdbaa.Pure
open Go.RowKit Go.Proofs.Ytaadndikbecdbaa.Q Go.Proofs.YtaadndikbecdbaaW.PrintWords Go.Proofs.YtaadndikbecdbaaW.PrintLast
set_option linter.unusedVariables false
set_option linter.unusedSimpArgs false

theorem FileTwice : watchmanlaw12_FileTwice.Pure := by
  intro m s t n n2 u hm hs ht hn hn2 hu
  obtain ⟨b, hb, hb2⟩ := Big_ok m s t
  refine ⟨1, ?_⟩
  unfold watchmanlaw12_FileTwice.f
  rw [hb]
  simp only [Option.bind_some]
  cases b with
  | true => rw [if_pos rfl, watchmanlaw12_FileTwice.j0, if_pos rfl]
  | false =>
    have hz := hb2 rfl
    rw [if_neg (by decide)]
    by_cases hu2 : (u.size : Int) > 200
    · rw [decide_eq_true hu2, watchmanlaw12_FileTwice.j0, if_pos rfl]
    · rw [decide_eq_false hu2, watchmanlaw12_FileTwice.j0, if_neg (by decide)]
      cases h : okF m s t with
      | false =>
        have h0 : okF 0 EB EB = false := rfl
        rw [Crash_ok (by omega) (by omega), h]
        simp only [resF, Bool.false_eq_true, if_false, Option.bind_some]
        rw [Crash_ok (by rw [EB_size]; omega) (by rw [EB_size]; omega), Add_ok (by rw [EB_size]; omega) (by rw [EB_size]; omega) [u] (by simp) (by rw [cat_one]; omega), h0]
        simp only [resF, Bool.false_eq_true, if_false, Option.bind_some, filed_ok, if_true]
        rfl
      | true =>
        have hk := okF_size h
        have hc := okF_crash h (left_ n t)
        have hk2 := okF_size hc
        rw [Crash_t h]
        simp only [Option.bind_some]
        rw [Crash_t hc, Add_ok (by omega) (by rw [EB_size]; omega) [u] (by simp) (by rw [cat_one]; omega), hc, cat_one, E_app]
        simp only [Option.bind_some, if_true, filed_ok, extract_E, app_E]
        rw [if_pos (eq3 _ _ _)]
        cases h3 : okF m (s ++ t.extract 0 (left_ n t)) u with
        | false => simp [resF]
        | true =>
          have hk3 := okF_size h3
          simp only [resF, if_true]
          rw [Read_t h3, Read_t hc]
          simp only [Option.bind_some, app_E]
          rw [if_pos (by omega)]
          simp
end Go.Proofs.Ytaadndikbecdbaa.Pure
