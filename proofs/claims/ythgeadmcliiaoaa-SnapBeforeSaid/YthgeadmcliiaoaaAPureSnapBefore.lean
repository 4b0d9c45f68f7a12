/- SnapBefore, of data alone. -/
import Derived.Test.YthgeadmcliiaoaaASnapLaw
import Derived.Test.YthgeadmcliiaoaaAbB
namespace Go.Proofs.Ythgeadmcliiaoaa.Pure
open Go Go.Proofs.Ythgeadmcliiaoaa.Ab Go.Proofs.Ythgeadmcliiaoaa.A
set_option linter.unusedVariables false

theorem SnapBefore : ∀ (a0 : (Int × (ByteArray × (ByteArray × (Int × (ByteArray × (ByteArray × Unit))))))) (a1 : Int) (a2 : (List ByteArray)) (a3 : Int), bnd (.cons (.int .i64) (.cons .str (.cons .str (.cons (.int .i64) (.cons .str (.cons .str .nil)))))) a0 → (Lit.int .i64 a1).wf = true → bnd (.sl .str) a2 → (Lit.int .i64 a3).wf = true → ∃ k, law16_SnapBefore k a0 a1 a2 a3 = some (true, ()) := by
  rintro ⟨m, a, b, m', c, d, ⟨⟩⟩ n l D _ _ _ _
  refine Ev.get ?_
  obtain ⟨y, hy, hs⟩ := hfar_ok (m := m) (a := a) (b := b) (m' := m') (c := c) (d := d) l
  cases y with
  | true => exact Ev.bind hy (Ev.t rfl (Ev.bind snapped_ok (Ev.now _)))
  | false =>
    obtain ⟨sm, sa, sb, _, _, hl⟩ := hs rfl
    obtain ⟨L, rfl⟩ := all_texts l
    have hm : (L.map mkB).length = L.length := List.length_map ..
    refine Ev.bind hy (Ev.f rfl ?_)
    by_cases d0 : D < 0
    · exact Ev.dt d0 (Ev.bind snapped_ok (Ev.now _))
    by_cases d2 : D > 2
    · exact Ev.df d0 (Ev.dt d2 (Ev.bind snapped_ok (Ev.now _)))
    refine Ev.df d0 (Ev.df d2 ?_)
    have sv := (Save_both (m := m) (m' := m') sm n L (by omega) D).1
    obtain ⟨o, ho⟩ := tell_ex (a ++ b).data.toList (by rw [size_toList, ByteArray.size_append]; omega)
    have ld := (Load_both (m := m) (m' := m') sm ho).1
    rcases saveA_cases m a b m' c d n L D with ⟨hok, p, hp, hpm, e⟩ | ⟨e, he, e1⟩
    · rw [e] at sv
      have hJ : nrm D = D := if_neg (by omega)
      rw [hJ] at sv
      have hp2 : (((mkB p).size : Nat) : Int) ≤ m := by rw [mkB_size]; exact hpm
      obtain ⟨x, y, z, w, e2, ok2, sm2, _, _, _, _, h3, _⟩ := saveJ_ok (p := mkB p) hok hp2 (J := D) (by omega) (by omega)
      obtain ⟨rfl, rfl⟩ := h3 (by omega)
      rw [e2] at sv
      have ld2 := (Load_both (m := m) (m' := m) sm2 ho).1
      rw [ok2] at ld2
      rw [hok] at ld
      have tx := Texts_ok _ (load_len ho true)
      have cb : (!(D == 3)) = true := by rw [bne_i (by omega)]; rfl
      have eb : ∀ z : Bool, (z == z) = true := fun z => by cases z <;> rfl
      have l0 : (loadH true o).2.2.2.1 = 0 := by cases o <;> rfl
      refine Ev.bind ld (Ev.bind sv (Ev.f rfl (Ev.bind ld2 (Ev.bind snapped_ok (Ev.t rfl (Ev.t cb (Ev.t (beq_i l0) (Ev.t (beq_i rfl) (Ev.t (beq_i rfl) (Ev.t (eb _) (Ev.bind tx (Ev.t rfl ?_))))))))))))
      exact Ev.of (g := fun _ => some (true, ())) (fun k => congrArg (fun z : Bool => some (z, ())) (same3 (F m x y))) (Ev.now _)
    · rw [e1] at sv
      exact Ev.bind ld (Ev.bind sv (Ev.t (nbne_i he) (Ev.bind snapped_ok (Ev.now _))))
end Go.Proofs.Ythgeadmcliiaoaa.Pure
