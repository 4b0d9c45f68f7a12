/- SnapDoes, of data alone. -/
import Derived.Test.YthgeadmcliiaoaaASnapLaw
import Derived.Test.YthgeadmcliiaoaaAbB
namespace Go.Proofs.Ythgeadmcliiaoaa.Pure
open Go Go.Proofs.Ythgeadmcliiaoaa.Ab Go.Proofs.Ythgeadmcliiaoaa.A
set_option linter.unusedVariables false

theorem SnapDoes : ∀ (a0 : (Int × (ByteArray × (ByteArray × (Int × (ByteArray × (ByteArray × Unit))))))) (a1 : Int) (a2 : (List ByteArray)) (a3 : Int) (a4 : Int), bnd (.cons (.int .i64) (.cons .str (.cons .str (.cons (.int .i64) (.cons .str (.cons .str .nil)))))) a0 → (Lit.int .i64 a1).wf = true → bnd (.sl .str) a2 → (Lit.int .i64 a3).wf = true → (Lit.int .i64 a4).wf = true → ∃ k, law16_SnapDoes k a0 a1 a2 a3 a4 = some (true, ()) := by
  rintro ⟨m, a, b, m', c, d, ⟨⟩⟩ n l D x _ _ _ _ _
  refine Ev.get ?_
  obtain ⟨y, hy, hs⟩ := hfar_ok (m := m) (a := a) (b := b) (m' := m') (c := c) (d := d) l
  cases y with
  | true => exact Ev.bind hy (Ev.t rfl (Ev.now _))
  | false =>
    obtain ⟨sm, sa, sb, _, _, hl⟩ := hs rfl
    obtain ⟨L, rfl⟩ := all_texts l
    have hm : (L.map mkB).length = L.length := List.length_map ..
    obtain ⟨o, ho⟩ := tell_ex (a ++ b).data.toList (by rw [size_toList, ByteArray.size_append]; omega)
    have ld := Load_both (m := m) (m' := m') sm ho
    have sv := Save_both (m := m) (m' := m') sm n L (by omega) D
    have cr := CrashH_both (m := m) (m' := m') sm x
    have nw := NewH_both x
    have t1 := Texts_ok _ (load_len ho (okH m a b m' c d))
    have t2 := Texts_ok (L.map mkB) (by omega)
    have eb : ∀ z : Bool, (z == z) = true := fun z => by cases z <;> rfl
    exact Ev.bind hy (Ev.f rfl (Ev.bind (OwnT_ok _ (by omega)) (Ev.bind ld.1 (Ev.bind ld.2 (Ev.bind sv.1 (Ev.bind sv.2 (Ev.bind cr.1 (Ev.bind cr.2 (Ev.bind nw.1 (Ev.bind nw.2 (Ev.bind snapped_ok (Ev.t rfl (Ev.t (beq_i rfl) (Ev.bind t1 (Ev.t rfl (Ev.t (eb _) (Ev.t (beq_i rfl) (Ev.t (same6 _) (Ev.t (eb _) (Ev.t (beq_i rfl) (Ev.t (same6 _) (Ev.t (beq_i rfl) (Ev.t (same6 _) (Ev.t (beq_i rfl) (Ev.bind t2 (Ev.now _))))))))))))))))))))))))))
end Go.Proofs.Ythgeadmcliiaoaa.Pure
