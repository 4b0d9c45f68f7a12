/- SnapAgain, of data alone. -/
import Derived.Test.YthgeadmcliiaoaaASnapLaw
import Derived.Test.YthgeadmcliiaoaaAbB
namespace Go.Proofs.Ythgeadmcliiaoaa.Pure
open Go Go.Proofs.Ythgeadmcliiaoaa.Ab Go.Proofs.Ythgeadmcliiaoaa.A
set_option linter.unusedVariables false

theorem SnapAgain : ∀ (a0 : (Int × (ByteArray × (ByteArray × (Int × (ByteArray × (ByteArray × Unit))))))) (a1 : Int) (a2 : (List ByteArray)) (a3 : Int) (a4 : Int) (a5 : Int) (a6 : (List ByteArray)), bnd (.cons (.int .i64) (.cons .str (.cons .str (.cons (.int .i64) (.cons .str (.cons .str .nil)))))) a0 → (Lit.int .i64 a1).wf = true → bnd (.sl .str) a2 → (Lit.int .i64 a3).wf = true → (Lit.int .i64 a4).wf = true → (Lit.int .i64 a5).wf = true → bnd (.sl .str) a6 → ∃ k, law16_SnapAgain k a0 a1 a2 a3 a4 a5 a6 = some (true, ()) := by
  rintro ⟨m, a, b, m', c, d, ⟨⟩⟩ n l D t n2 l2 _ _ _ _ _ _ _
  refine Ev.get ?_
  obtain ⟨y, hy, hs⟩ := hfar_ok (m := m) (a := a) (b := b) (m' := m') (c := c) (d := d) l
  cases y with
  | true => exact Ev.bind hy (Ev.t rfl (Ev.now _))
  | false =>
  obtain ⟨y2, hy2, hs2⟩ := hfar_ok (m := m) (a := a) (b := b) (m' := m') (c := c) (d := d) l2
  cases y2 with
  | true => exact Ev.bind hy (Ev.f rfl (Ev.bind hy2 (Ev.t rfl (Ev.now _))))
  | false =>
    obtain ⟨sm, sa, sb, _, _, hl⟩ := hs rfl
    obtain ⟨_, _, _, _, _, hl2⟩ := hs2 rfl
    obtain ⟨L, rfl⟩ := all_texts l
    obtain ⟨L2, rfl⟩ := all_texts l2
    have hm : (L.map mkB).length = L.length := List.length_map ..
    have hm2 : (L2.map mkB).length = L2.length := List.length_map ..
    have sv := (Save_both (m := m) (m' := m') sm n L (by omega) D).1
    refine Ev.bind hy (Ev.f rfl (Ev.bind hy2 (Ev.f rfl ?_)))
    rcases saveA_cases m a b m' c d n L D with ⟨hok, p, hp, hpm, e⟩ | ⟨e, he, e1⟩
    case inr =>
      rw [e1] at sv
      have cr := (CrashH_both (m := 0) (m' := 0) small_Z t).1
      unfold crashH at cr
      rw [okZ] at cr
      have sv2 := (Save_both (m := 0) (m' := 0) small_Z n2 L2 (by omega) (-1)).1
      exact Ev.bind sv (Ev.bind cr (Ev.bind sv2 (Ev.t (nbne_i he) (Ev.bind snapped_ok (Ev.now _)))))
    rw [e] at sv
    have hp2 : (((mkB p).size : Nat) : Int) ≤ m := by rw [mkB_size]; exact hpm
    have hb := nrm_bd D
    obtain ⟨x, y, z, w, e2, ok2, sm2, _, _, _, _, _, _⟩ := saveJ_ok (p := mkB p) hok hp2 (J := nrm D) hb.1 hb.2
    rw [e2] at sv
    have cr := (CrashH_both (m := m) (m' := m) sm2 t).1
    obtain ⟨x', z', e3, ok3, sm3, hx'⟩ := crash_ok ok2 t
    rw [e3] at cr
    have sv2 := (Save_both (m := m) (m' := m) sm3 n2 L2 (by omega) (-1)).1
    rcases saveA_cases m x' EB m z' EB n2 L2 (-1) with ⟨hok4, p4, hp4, hpm4, e4⟩ | ⟨e, he, e4⟩
    case inr =>
      rw [e4] at sv2
      exact Ev.bind sv (Ev.bind cr (Ev.bind sv2 (Ev.f rfl (Ev.f rfl (Ev.t (nbne_i he) (Ev.bind snapped_ok (Ev.now _)))))))
    rw [e4] at sv2
    have hJ : nrm (-1) = 3 := rfl
    rw [hJ] at sv2
    have hp5 : (((mkB p4).size : Nat) : Int) ≤ m := by rw [mkB_size]; exact hpm4
    obtain ⟨x5, y5, z5, w5, e5, ok5, sm5, _, _, _, _, _, h35⟩ := saveJ_ok (p := mkB p4) hok4 hp5 (J := 3) (by omega) (by omega)
    obtain ⟨rfl, rfl, rfl, rfl⟩ := h35 rfl
    rw [e5] at sv2
    have ho : TellIs (mkB p4 ++ EB).data.toList (some (n2, L2)) := by rw [app_E]; exact hp4
    have ld := (Load_both (m := m) (m' := m) sm5 ho).1
    rw [ok5] at ld
    have tx := Texts_ok (L2.map mkB) (by omega)
    exact Ev.bind sv (Ev.bind cr (Ev.bind sv2 (Ev.f rfl (Ev.f rfl (Ev.f rfl (Ev.bind ld (Ev.bind snapped_ok (Ev.t rfl (Ev.t rfl (Ev.t rfl (Ev.t rfl (Ev.t (beq_i rfl) (Ev.bind tx (Ev.now _))))))))))))))
end Go.Proofs.Ythgeadmcliiaoaa.Pure
