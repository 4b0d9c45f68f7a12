/- SnapCrash, of data alone. -/
import Derived.Test.YthgeadmcliiaoaaASnapLaw
import Derived.Test.YthgeadmcliiaoaaAbB
namespace Go.Proofs.Ythgeadmcliiaoaa.Pure
open Go Go.Proofs.Ythgeadmcliiaoaa.Ab Go.Proofs.Ythgeadmcliiaoaa.A
set_option linter.unusedVariables false

theorem SnapCrash : ∀ (a0 : (Int × (ByteArray × (ByteArray × (Int × (ByteArray × (ByteArray × Unit))))))) (a1 : Int) (a2 : (List ByteArray)) (a3 : Int) (a4 : Int), bnd (.cons (.int .i64) (.cons .str (.cons .str (.cons (.int .i64) (.cons .str (.cons .str .nil)))))) a0 → (Lit.int .i64 a1).wf = true → bnd (.sl .str) a2 → (Lit.int .i64 a3).wf = true → (Lit.int .i64 a4).wf = true → ∃ k, law16_SnapCrash k a0 a1 a2 a3 a4 = some (true, ()) := by
  rintro ⟨m, a, b, m', c, d, ⟨⟩⟩ n l D t _ _ _ _ _
  refine Ev.get ?_
  obtain ⟨y, hy, hs⟩ := hfar_ok (m := m) (a := a) (b := b) (m' := m') (c := c) (d := d) l
  cases y with
  | true => exact Ev.bind hy (Ev.t rfl (Ev.now _))
  | false =>
    obtain ⟨sm, sa, sb, _, _, hl⟩ := hs rfl
    obtain ⟨L, rfl⟩ := all_texts l
    have hm : (L.map mkB).length = L.length := List.length_map ..
    refine Ev.bind hy (Ev.f rfl ?_)
    obtain ⟨u, rfl⟩ := all_text b
    by_cases hu : u = []
    case neg => exact Ev.t (text_ne hu) (Ev.now _)
    subst hu
    have sv := (Save_both (m := m) (m' := m') sm n L (by omega) D).1
    refine Ev.f text_eq ?_
    rcases saveA_cases m a (mkB []) m' c d n L D with ⟨hok, p, hp, hpm, e⟩ | ⟨e, he, e1⟩
    case inr =>
      rw [e1] at sv
      exact Ev.bind sv (Ev.t (nbne_i he) (Ev.bind snapped_ok (Ev.now _)))
    rw [e] at sv
    have hp2 : (((mkB p).size : Nat) : Int) ≤ m := by rw [mkB_size]; exact hpm
    have hb := nrm_bd D
    obtain ⟨x, y, z, w, e2, ok2, sm2, _, _, _, _, hn3, h3⟩ := saveJ_ok (p := mkB p) hok hp2 (J := nrm D) hb.1 hb.2
    rw [e2] at sv
    have cr := (CrashH_both (m := m) (m' := m) sm2 t).1
    obtain ⟨x', z', e3, ok3, sm3, hx'⟩ := crash_ok ok2 t
    rw [e3] at cr
    have s3 := sm3.a
    have hE : EB.size = 0 := EB_size
    by_cases hJ : nrm D = 3
    · obtain ⟨rfl, rfl, rfl, rfl⟩ := h3 hJ
      have hxp : x' = mkB p := by rw [hx', show EB.extract 0 (leftN t EB.size) = EB from bytes_inj (by rw [bytes_extract]; simp), app_E]
      subst hxp
      have ho : TellIs (mkB p ++ EB).data.toList (some (n, L)) := by rw [app_E]; exact hp
      have ld := (Load_both (m := m) (m' := m) sm3 ho).1
      rw [ok3] at ld
      have tx := Texts_ok (L.map mkB) (by omega)
      exact Ev.bind sv (Ev.f rfl (Ev.bind cr (Ev.bind ld (Ev.f rfl (Ev.f rfl (Ev.t (beq_i hJ) (Ev.bind snapped_ok (Ev.t rfl (Ev.t rfl (Ev.t (beq_i rfl) (Ev.bind tx (Ev.now _))))))))))))
    · obtain ⟨rfl, rfl⟩ := hn3 hJ
      obtain ⟨o, ho⟩ := tell_ex (x' ++ EB).data.toList (by rw [size_toList, ByteArray.size_append]; omega)
      have ld := (Load_both (m := m) (m' := m) sm3 ho).1
      rw [ok3] at ld
      have l0 : (loadH true o).2.2.2.1 = 0 := by cases o <;> rfl
      have hxa : x' = x := by rw [hx', show (mkB []).extract 0 (leftN t (mkB []).size) = EB from bytes_inj (by rw [bytes_extract]; simp [mkB]), app_E]
      subst hxa
      refine Ev.bind sv (Ev.f rfl (Ev.bind cr (Ev.bind ld (Ev.f rfl (Ev.f (nbeq_i l0) (Ev.f (bne_i hJ) (Ev.bind snapped_ok (Ev.t rfl ?_))))))))
      exact Ev.of (g := fun _ => some (true, ())) (fun k => congrArg (fun z : Bool => some (z, ())) (same3 (F m x' EB))) (Ev.now _)
end Go.Proofs.Ythgeadmcliiaoaa.Pure
