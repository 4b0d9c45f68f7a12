/- RecordMends, of data alone. -/
import Derived.Test.YtbllbljligmglaaARecLaw
import Derived.Test.YtbllbljligmglaaAbB
namespace Go.Proofs.Ytbllbljligmglaa.Pure
open Go Go.Proofs.Ytbllbljligmglaa.Ab Go.Proofs.Ytbllbljligmglaa.A
set_option linter.unusedVariables false

theorem RecordMends : ∀ (a0 : (Int × (ByteArray × (ByteArray × Unit)))) (a1 : Int), bnd (.cons (.int .i64) (.cons .str (.cons .str .nil))) a0 → (Lit.int .i64 a1).wf = true → ∃ k, law13_RecordMends k a0 a1 = some (true, ()) := by
  rintro ⟨m, s, t, ⟨⟩⟩ n _ _
  refine Ev.get ?_
  obtain ⟨x, hx, hs⟩ := rfar_ok m s t [] (by simp)
  cases x with
  | true => exact Ev.bind hx (Ev.t rfl (Ev.now _))
  | false =>
    obtain ⟨s1, s2, s3, s4⟩ := hs rfl
    refine Ev.bind hx (Ev.f rfl ?_)
    obtain ⟨ts, rest, hsc⟩ := scan_ex (s ++ t) n (by rw [ByteArray.size_append]; omega)
    have md := (MendR_both (m := m) (by omega) (by omega) hsc).1
    have rd := (ReadR_both (m := m) (by omega) (by omega) hsc).1
    have gl := scan_len hsc
    rw [size_toList, ByteArray.size_append] at gl
    cases g : okF m s t with
    | false =>
      have e : mendR m s t n ts = (F 0 EB EB, 0, 1, ()) := by unfold mendR; rw [g]; rfl
      rw [e] at md
      exact Ev.bind md (Ev.t rfl (Ev.bind recorded_ok (Ev.t rfl (Ev.bind (Ev.all fun k => Is_ok k m s t (by omega) (by omega)) (Ev.t (by rw [g]; rfl) (Ev.now _))))))
    | true =>
      have e : mendR m s t n ts = (F m (mkB (recsB n ts)) EB, (ts.length : Int), 0, ()) := by unfold mendR; rw [g]; rfl
      have e2 : readR m s t ts = (ts.map mkB, 0, ()) := by unfold readR; rw [g]; rfl
      rw [e] at md
      rw [e2] at rd
      have hz := mkB_size (recsB n ts)
      have hE : EB.size = 0 := EB_size
      have g2 : okF m (mkB (recsB n ts)) EB = true := by
        have := okF_bd g
        exact decide_eq_true ⟨this.1, this.2.1, by omega⟩
      have hd : (mkB (recsB n ts) ++ EB).data.toList = recsB n ts := by rw [app_E]; rfl
      have hsc2 : ScanIs (mkB (recsB n ts) ++ EB).data.toList n ts [] := by rw [hd]; exact scan_whole hsc.1
      have md2 := (MendR_both (m := m) (s := mkB (recsB n ts)) (t := EB) (by omega) (by omega) hsc2).1
      have rd2 := (ReadR_both (m := m) (s := mkB (recsB n ts)) (t := EB) (by omega) (by omega) hsc2).1
      have sc2 := (scan_of (s := mkB (recsB n ts)) (t := EB) (by omega) (by omega) hsc2).1
      have e3 : mendR m (mkB (recsB n ts)) EB n ts = (F m (mkB (recsB n ts)) EB, (ts.length : Int), 0, ()) := by unfold mendR; rw [g2]; rfl
      have e4 : readR m (mkB (recsB n ts)) EB ts = (ts.map mkB, 0, ()) := by unfold readR; rw [g2]; rfl
      rw [e3] at md2
      rw [e4] at rd2
      have fr : Ev (fun k => file_Read k (F m (mkB (recsB n ts)) EB)) (mkB (recsB n ts) ++ EB, ()) := Ev.all fun k => read_ok k m _ _ (by omega) (by omega)
      have hm : (ts.map mkB).length = ts.length := List.length_map ..
      have t1 := Texts_ok (ts.map mkB) (by omega)
      have c1 : ((((ts.map mkB).length : Nat) : Int) == (ts.length : Int)) = true := beq_i (by rw [hm])
      have c2 : ((((recsB n ts).length : Nat) : Int) == ((mkB (recsB n ts) ++ EB).size : Int)) = true := beq_i (by rw [ByteArray.size_append]; omega)
      refine Ev.bind md (Ev.f rfl (Ev.bind rd (Ev.bind rd2 (Ev.bind md2 (Ev.bind fr (Ev.bind sc2 (Ev.bind recorded_ok (Ev.t rfl (Ev.t rfl (Ev.t rfl (Ev.t rfl (Ev.bind t1 (Ev.t rfl (Ev.t c1 (Ev.t (beq_i rfl) (Ev.t (same3 _) (Ev.bind fr ?_)))))))))))))))))
      exact Ev.of (g := fun _ => some (true, ())) (fun k => congrArg (fun z : Bool => some (z, ())) c2) (Ev.now _)
end Go.Proofs.Ytbllbljligmglaa.Pure
