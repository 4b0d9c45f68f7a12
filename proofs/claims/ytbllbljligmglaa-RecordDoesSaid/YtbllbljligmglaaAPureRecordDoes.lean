/- RecordDoes, of data alone. -/
import Derived.Test.YtbllbljligmglaaARecLaw
import Derived.Test.YtbllbljligmglaaAbB
namespace Go.Proofs.Ytbllbljligmglaa.Pure
open Go Go.Proofs.Ytbllbljligmglaa.Ab Go.Proofs.Ytbllbljligmglaa.A
set_option linter.unusedVariables false

theorem RecordDoes : ∀ (a0 : (Int × (ByteArray × (ByteArray × Unit)))) (a1 : Int) (a2 : (List ByteArray)) (a3 : ByteArray), bnd (.cons (.int .i64) (.cons .str (.cons .str .nil))) a0 → (Lit.int .i64 a1).wf = true → bnd (.sl .str) a2 → a3.size ≤ 140737488351232 → ∃ k, law13_RecordDoes k a0 a1 a2 a3 = some (true, ()) := by
  rintro ⟨m, s, t, ⟨⟩⟩ n l z _ _ hl _
  refine Ev.get ?_
  have hl : l.length ≤ maxLen := hl.1
  obtain ⟨x, hx, hs⟩ := rfar_ok m s t l hl
  cases x with
  | true => exact Ev.bind hx (Ev.t rfl (Ev.now _))
  | false =>
    obtain ⟨s1, s2, s3, s4⟩ := hs rfl
    refine Ev.bind hx (Ev.f rfl ?_)
    by_cases hz : (z.size : Int) > 1100
    · exact Ev.dt hz (Ev.now _)
    · have own : Ev (fun k => ref01_OwnTexts k l) (l, ()) := by
        cases l with
        | nil => exact Ev.t rfl (Ev.now _)
        | cons y l => exact Ev.f rfl (Ev.dt (by show (y :: l).length * 16 ≤ _; omega) (Ev.now _))
      obtain ⟨L, rfl⟩ := all_texts l
      obtain ⟨u, rfl⟩ := all_text z
      have hm : (L.map mkB).length = L.length := List.length_map ..
      have hu := mkB_size u
      obtain ⟨ts, rest, hsc⟩ := scan_ex (mkB u) n (by omega)
      obtain ⟨ts', rest', hsc'⟩ := scan_ex (s ++ t) n (by rw [ByteArray.size_append]; omega)
      have sc := Scan_both (l := u) (by omega) hsc
      have g1 := (scan_len hsc).2.2
      have g2 := (scan_len hsc').2.2
      rw [size_toList] at g1 g2
      rw [ByteArray.size_append] at g2
      have ad := AddR_both m s t (by omega) (by omega) n L (by omega)
      have rd := ReadR_both (m := m) (by omega) (by omega) hsc'
      have md := MendR_both (m := m) (by omega) (by omega) hsc'
      have t1 := Texts_ok (scanA u ts rest).1 (by show (ts.map mkB).length ≤ _; rw [List.length_map]; omega)
      have t2 := Texts_ok (readR m s t ts').1 (readR_len (by omega))
      have t3 := Texts_ok (L.map mkB) (by omega)
      exact Ev.df hz (Ev.bind own (Ev.bind (RecPut_ok n u) (Ev.bind (rRecPut_ok n u) (Ev.bind sc.1 (Ev.bind sc.2 (Ev.bind ad.1 (Ev.bind ad.2 (Ev.bind rd.1 (Ev.bind rd.2 (Ev.bind md.1 (Ev.bind md.2 (Ev.bind recorded_ok (Ev.t rfl (Ev.t (beq_self_eq_true _) (Ev.t (beq_i rfl) (Ev.bind t1 (Ev.t rfl (Ev.t (beq_i rfl) (Ev.t (same3 _) (Ev.t (beq_i rfl) (Ev.bind t2 (Ev.t rfl (Ev.t (beq_i rfl) (Ev.t (same3 _) (Ev.t (beq_i rfl) (Ev.t (beq_i rfl) (Ev.bind t3 (Ev.now _))))))))))))))))))))))))))))
end Go.Proofs.Ytbllbljligmglaa.Pure
