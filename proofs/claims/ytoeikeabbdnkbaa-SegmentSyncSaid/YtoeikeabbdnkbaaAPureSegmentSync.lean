/- SegmentSync, of data alone. -/
import Derived.Test.YtoeikeabbdnkbaaASegOps
import Derived.Test.YtoeikeabbdnkbaaAbB
namespace Go.Proofs.Ytoeikeabbdnkbaa.Pure
open Go Go.Proofs.Ytoeikeabbdnkbaa.Ab Go.Proofs.Ytoeikeabbdnkbaa.A
set_option linter.unusedVariables false

theorem SegmentSync : ∀ (a0 : (Int × (Int × ((List (Int × (ByteArray × (ByteArray × Unit)))) × Unit)))) (a1 : Int), bnd (.cons (.int .i64) (.cons (.int .i64) (.cons (.sl (.cons (.int .i64) (.cons .str (.cons .str .nil)))) .nil))) a0 → (Lit.int .i64 a1).wf = true → ∃ k, law14_SegmentSync k a0 a1 = some (true, ()) := by
  rintro ⟨z, n, fs, ⟨⟩⟩ a hb _
  refine Ev.get ?_
  have hf : fs.length ≤ maxLen := hb.2.2.1.1
  obtain ⟨x, hx, hs⟩ := sfar_ok z n fs [] hf (by simp)
  cases x with
  | true => exact Ev.bind hx (Ev.t rfl (Ev.now _))
  | false =>
  obtain ⟨s1, s2, _, _⟩ := hs rfl
  refine Ev.bind hx (Ev.f rfl ?_)
  rcases Is_cases z n fs (by omega) s2 with ⟨pre, s, t, rfl, ok, hi⟩ | hi
  case inr =>
    have hi' : Ev (fun k => segment_Is k (z, n, fs, ())) (false, ()) := hi
    exact Ev.bind (SSync_no hi) (Ev.t rfl (Ev.bind parted_ok (Ev.t rfl (Ev.bind hi' (Ev.now _)))))
  have okS := ok.sync
  have e1 : (s ++ t) ++ EB.extract 0 (leftN a EB.size) = s ++ t := by
    have : EB.extract 0 (leftN a EB.size) = EB := bytes_inj (by rw [bytes_extract]; simp)
    rw [this, app_E]
  have hC := SCrash_ok okS a
  rw [e1] at hC
  have hS := SSync_ok okS
  rw [app_E] at hS
  obtain ⟨T, x, y, x', y', w, k1, k2, k3⟩ := scan_same z n (files z pre s t) (files z pre (s ++ t) EB) ok.len ok.bd okS.bd ok.n0 ok.n1 (by rw [files_cont, files_cont, app_E])
  have hsm := Same_ok z n (files z pre (s ++ t) EB) (Nat.le_trans okS.len (by decide))
  have tx := Texts_big T (by omega)
  exact Ev.bind (SSync_ok ok) (Ev.f rfl (Ev.bind hC (Ev.bind hS (Ev.bind (Read_scan ok k1) (Ev.bind (Read_scan okS k2) (Ev.bind parted_ok (Ev.t rfl (Ev.t rfl (Ev.t rfl (Ev.t rfl (Ev.t rfl (Ev.bind hsm (Ev.t rfl (Ev.bind hsm (Ev.t rfl (Ev.bind tx (Ev.now _)))))))))))))))))
end Go.Proofs.Ytoeikeabbdnkbaa.Pure
