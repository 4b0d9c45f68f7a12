/- SnapBack, of data alone. -/
import Derived.Test.YthgeadmcliiaoaaASnapLaw
import Derived.Test.YthgeadmcliiaoaaAbB
namespace Go.Proofs.Ythgeadmcliiaoaa.Pure
open Go Go.Proofs.Ythgeadmcliiaoaa.Ab Go.Proofs.Ythgeadmcliiaoaa.A
set_option linter.unusedVariables false

theorem SnapBack : ∀ (a0 : (Int × (ByteArray × (ByteArray × (Int × (ByteArray × (ByteArray × Unit))))))) (a1 : Int) (a2 : (List ByteArray)), bnd (.cons (.int .i64) (.cons .str (.cons .str (.cons (.int .i64) (.cons .str (.cons .str .nil)))))) a0 → (Lit.int .i64 a1).wf = true → bnd (.sl .str) a2 → ∃ k, law16_SnapBack k a0 a1 a2 = some (true, ()) := by
  rintro ⟨m, a, b, m', c, d, ⟨⟩⟩ n l _ _ _
  refine Ev.get ?_
  obtain ⟨y, hy, hs⟩ := hfar_ok (m := m) (a := a) (b := b) (m' := m') (c := c) (d := d) l
  cases y with
  | true => exact Ev.bind hy (Ev.t rfl (Ev.now _))
  | false =>
    obtain ⟨sm, sa, sb, _, _, hl⟩ := hs rfl
    obtain ⟨L, rfl⟩ := all_texts l
    have hm : (L.map mkB).length = L.length := List.length_map ..
    have sv := (Save_both (m := m) (m' := m') sm n L (by omega) (-1)).1
    refine Ev.bind hy (Ev.f rfl ?_)
    rcases saveA_cases m a b m' c d n L (-1) with ⟨hok, p, hp, hpm, e⟩ | ⟨e, he, e1⟩
    · rw [e] at sv
      have hJ : nrm (-1) = 3 := rfl
      rw [hJ] at sv
      have hp2 : (((mkB p).size : Nat) : Int) ≤ m := by rw [mkB_size]; exact hpm
      obtain ⟨x, y, z, w, e2, ok2, sm2, _, _, _, _, _, h3⟩ := saveJ_ok (p := mkB p) hok hp2 (J := 3) (by omega) (by omega)
      obtain ⟨rfl, rfl, rfl, rfl⟩ := h3 rfl
      rw [e2] at sv
      have ho : TellIs (mkB p ++ EB).data.toList (some (n, L)) := by rw [app_E]; exact hp
      have ld := (Load_both (m := m) (m' := m) sm2 ho).1
      rw [ok2] at ld
      have tx := Texts_ok (L.map mkB) (by omega)
      refine Ev.bind sv (Ev.f rfl (Ev.bind ld (Ev.bind snapped_ok (Ev.t rfl (Ev.t rfl (Ev.t rfl (Ev.t rfl (Ev.t (beq_i rfl) (Ev.bind tx (Ev.t rfl ?_))))))))))
      exact Ev.of (g := fun _ => some (true, ())) (fun k => congrArg (fun z : Bool => some (z, ())) (same3 (F m EB EB))) (Ev.now _)
    · rw [e1] at sv
      refine Ev.bind sv (Ev.t (nbne_i he) (Ev.bind snapped_ok (Ev.t rfl (Ev.t rfl ?_))))
      exact Ev.of (g := fun _ => some (true, ())) (fun k => congrArg (fun z : Bool => some (z, ())) (same6 HZ)) (Ev.now _)
end Go.Proofs.Ythgeadmcliiaoaa.Pure
