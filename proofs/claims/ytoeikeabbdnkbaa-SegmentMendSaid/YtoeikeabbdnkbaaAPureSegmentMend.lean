/- SegmentMend, of data alone. -/
import Derived.Test.YtoeikeabbdnkbaaASegOps
import Derived.Test.YtoeikeabbdnkbaaAbB
namespace Go.Proofs.Ytoeikeabbdnkbaa.Pure
open Go Go.Proofs.Ytoeikeabbdnkbaa.Ab Go.Proofs.Ytoeikeabbdnkbaa.A
set_option linter.unusedVariables false

theorem SegmentMend : ∀ (a0 : (Int × (Int × ((List (Int × (ByteArray × (ByteArray × Unit)))) × Unit)))), bnd (.cons (.int .i64) (.cons (.int .i64) (.cons (.sl (.cons (.int .i64) (.cons .str (.cons .str .nil)))) .nil))) a0 → ∃ k, law14_SegmentMend k a0 = some (true, ()) := by
  rintro ⟨z, n, fs, ⟨⟩⟩ hb
  refine Ev.get ?_
  have hf : fs.length ≤ maxLen := hb.2.2.1.1
  obtain ⟨x, hx, hs⟩ := sfar_ok z n fs [] hf (by simp)
  cases x with
  | true => exact Ev.bind hx (Ev.t rfl (Ev.now _))
  | false =>
  obtain ⟨s1, s2, _, _⟩ := hs rfl
  refine Ev.bind hx (Ev.f rfl ?_)
  rcases Is_cases z n fs (by omega) s2 with ⟨pre, s, t, rfl, ok, hi⟩ | hi
  case inr =>
    have hi' : Ev (fun k => segment_Is k (z, n, fs, ())) (false, ()) := hi
    exact Ev.bind (SMend_no hi) (Ev.t rfl (Ev.bind parted_ok (Ev.t rfl (Ev.bind hi' (Ev.now _)))))
  obtain ⟨pre', s', t', ps, x, y, w, ok', hM, hc, hp, sc⟩ := Mend_any ok
  obtain ⟨x', y', sc'⟩ := scan_good z n _ ok'.len ok'.bd ok'.n0 ok'.n1 hc hp
  have htot := ok'.total hc hp
  have hm : (ps.flatten.map mkB).length = ps.flatten.length := List.length_map ..
  have hA := (Add_good ok' sc' (by omega) [] (by simp)).1 rfl
  have tx := Texts_ok (ps.flatten.map mkB) (by omega)
  have hsm := Same_ok z n (files z pre' s' t') (Nat.le_trans ok'.len (by decide))
  exact Ev.bind hM (Ev.f rfl (Ev.bind (Read_scan ok sc) (Ev.bind (Read_scan ok' sc') (Ev.bind (Mend_good ok' sc') (Ev.bind hA (Ev.bind parted_ok (Ev.t rfl (Ev.t rfl (Ev.t rfl (Ev.t rfl (Ev.bind tx (Ev.t rfl (Ev.bind hsm (Ev.t rfl (Ev.t rfl (Ev.bind (Is_true ok') (Ev.now _)))))))))))))))))
end Go.Proofs.Ytoeikeabbdnkbaa.Pure
