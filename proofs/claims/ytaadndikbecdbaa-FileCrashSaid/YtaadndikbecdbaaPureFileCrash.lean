/- FileCrash: behind a Sync nothing is lost by a Crash; behind a Crash there is what was kept and a beginning of what was loose. -/
import Derived.Test.YtaadndikbecdbaaQx9
import Derived.Test.YtaadndikbecdbaaFileThy
namespace Go.Proofs.Ytaadndikbecdbaa.Pure
open Go.RowKit Go.Proofs.Ytaadndikbecdbaa.Q Go.Proofs.YtaadndikbecdbaaW.PrintWords Go.Proofs.YtaadndikbecdbaaW.PrintLast
set_option linter.unusedVariables false
set_option linter.unusedSimpArgs false

theorem FileCrash : watchmanlaw12_FileCrash.Pure := by
  intro m s t n hm hs ht hn
  obtain ⟨b, hb, hb2⟩ := Big_ok m s t
  refine ⟨2, ?_⟩
  unfold watchmanlaw12_FileCrash.f
  rw [hb]
  simp only [Option.bind_some]
  cases b with
  | true => rw [if_pos rfl, watchmanlaw12_FileCrash.j0, if_pos rfl, filed_ok]; rfl
  | false =>
    have hz := hb2 rfl
    rw [if_neg (by decide), Is_ok (by omega) (by omega)]
    simp only [Option.bind_some]
    cases h : okF m s t with
    | false => rw [watchmanlaw12_FileCrash.j0, if_pos (by decide), filed_ok]; rfl
    | true =>
      have hl := left_le (t := t) n
      have hk := okF_size h
      rw [watchmanlaw12_FileCrash.j0, if_neg (by decide), Sync_t h]
      simp only [Option.bind_some]
      rw [Crash_t (okF_sync h), Crash_t h]
      simp only [Option.bind_some]
      rw [Read_t (okF_crash h _), Read_t h, Read_t (okF_sync h)]
      simp only [Option.bind_some, if_true, extract_E, app_E]
      have hsz : (s ++ t.extract 0 (left_ n t)).size = s.size + left_ n t := by rw [ByteArray.size_append, extract_size _ _ hl.2]
      rw [if_neg (by simp), if_neg (by rw [hsz]; omega), if_neg (by rw [hsz, ByteArray.size_append]; omega), if_pos (by omega), if_pos (by rw [hsz, ByteArray.size_append]; omega),
        if_pos (by rw [hsz, cut_app _ hl.2])]
      rw [show (EB.toList != ([] : List UInt8)) = false by rw [E_toList]; rfl, watchmanlaw12_FileCrash.j1, if_neg (by decide), filed_ok]
      simp only [Option.bind_some, if_true]
      rw [if_pos (by rw [hl.1, hsz, wrap64_of (by omega) (by omega)]; omega), Is_t (okF_crash h _)]
      rfl
end Go.Proofs.Ytaadndikbecdbaa.Pure
