/- RecordBack, of data alone. -/
import Derived.Test.YtbllbljligmglaaARecLaw
import Derived.Test.YtbllbljligmglaaAbB
namespace Go.Proofs.Ytbllbljligmglaa.Pure
open Go Go.Proofs.Ytbllbljligmglaa.Ab Go.Proofs.Ytbllbljligmglaa.A
set_option linter.unusedVariables false

theorem RecordBack : ∀ (a0 : Int) (a1 : Int) (a2 : (List ByteArray)) (a3 : (List ByteArray)), (Lit.int .i64 a0).wf = true → (Lit.int .i64 a1).wf = true → bnd (.sl .str) a2 → bnd (.sl .str) a3 → ∃ k, law13_RecordBack k a0 a1 a2 a3 = some (true, ()) := by
  intro m n l2 l3 _ hwf h2 h3
  refine Ev.get ?_
  have h2 : l2.length ≤ maxLen := h2.1
  have h3 : l3.length ≤ maxLen := h3.1
  have hwf' : -9223372036854775808 ≤ n ∧ n ≤ 9223372036854775807 := by
    have : (Lit.int .i64 n).wf = true := hwf
    simpa [Lit.wf, IntKind.min, IntKind.max, IntKind.bits, IntKind.signed] using this
  have hE : EB.size = 0 := EB_size
  have hn := bad_ok (m := m)
  unfold newF at hn
  cases g : decide (1 ≤ m ∧ m ≤ 4000) with
  | false => rw [g] at hn; exact Ev.bind hn (Ev.t rfl (Ev.bind recorded_ok (Ev.now _)))
  | true =>
    rw [g] at hn
    have hm := of_decide_eq_true g
    refine Ev.bind hn (Ev.f rfl ?_)
    obtain ⟨x2, hx2, s2⟩ := rfar_ok m EB EB l2 h2
    cases x2 with
    | true => exact Ev.bind hx2 (Ev.t rfl (Ev.bind recorded_ok (Ev.now _)))
    | false =>
    refine Ev.bind hx2 (Ev.f rfl ?_)
    obtain ⟨x3, hx3, s3⟩ := rfar_ok m EB EB l3 h3
    cases x3 with
    | true => exact Ev.bind hx3 (Ev.t rfl (Ev.bind recorded_ok (Ev.now _)))
    | false =>
    refine Ev.bind hx3 (Ev.f rfl ?_)
    obtain ⟨_, _, s2, _⟩ := s2 rfl
    obtain ⟨_, _, s3, _⟩ := s3 rfl
    obtain ⟨L2, rfl⟩ := all_texts l2
    obtain ⟨L3, rfl⟩ := all_texts l3
    have m2 : (L2.map mkB).length = L2.length := List.length_map ..
    have m3 : (L3.map mkB).length = L3.length := List.length_map ..
    have g0 : okF m EB EB = true := decide_eq_true ⟨hm.1, hm.2, by omega⟩
    have hA := (AddR_both m EB EB (by omega) (by omega) n L2 (by omega)).1
    rcases addR_cases m EB EB n L2 with ⟨_, ok2, g2, e2⟩ | ⟨e, he, e2, _⟩
    case inr =>
      rw [e2] at hA
      have hB := (AddR_both 0 EB EB (by omega) (by omega) (IntKind.i64.wrap (n + ((L2.map mkB).length : Int))) L3 (by omega)).1
      exact Ev.bind hA (Ev.bind hB (Ev.t (nbne_i he) (Ev.bind recorded_ok (Ev.now _))))
    rw [e2] at hA
    obtain ⟨A, hAd⟩ : ∃ A, EB ++ mkB (recsB n L2) = A := ⟨_, rfl⟩
    rw [hAd] at hA g2
    have b2 := okF_bd g2
    have hB := (AddR_both m EB A (by omega) (by omega) (IntKind.i64.wrap (n + ((L2.map mkB).length : Int))) L3 (by omega)).1
    rcases addR_cases m EB A (IntKind.i64.wrap (n + ((L2.map mkB).length : Int))) L3 with ⟨_, ok3, g3, e3⟩ | ⟨e, he, e3, _⟩
    case inr =>
      rw [e3] at hB
      exact Ev.bind hA (Ev.bind hB (Ev.f rfl (Ev.t (nbne_i he) (Ev.bind recorded_ok (Ev.now _)))))
    rw [e3] at hB
    refine Ev.bind hA (Ev.bind hB (Ev.f rfl (Ev.f rfl ?_)))
    by_cases hbig : n > 900000000
    · exact Ev.dt hbig (Ev.bind recorded_ok (Ev.now _))
    refine Ev.df hbig ?_
    have wn : IntKind.i64.wrap (n + ((L2.map mkB).length : Int)) = n + L2.length := by rw [m2, wrap_id (by omega) (by omega)]
    rw [wn] at ok3 g3 ⊢
    have ok : recsOk n (L2 ++ L3) := (recsOk_app n L2 L3).2 ⟨ok2, ok3⟩
    have hX : A ++ mkB (recsB (n + L2.length) L3) = EB ++ mkB (recsB n (L2 ++ L3)) := by rw [← hAd, app_assoc, mkB_append, recsB_app]
    rw [hX] at g3 ⊢
    have b3 := okF_bd g3
    have hsc : ScanIs (EB ++ (EB ++ mkB (recsB n (L2 ++ L3)))).data.toList n (L2 ++ L3) [] := by rw [E_app, E_app]; exact scan_whole ok
    have rd := (ReadR_both (m := m) (s := EB) (t := EB ++ mkB (recsB n (L2 ++ L3))) (by omega) (by omega) hsc).1
    have er : readR m EB (EB ++ mkB (recsB n (L2 ++ L3))) (L2 ++ L3) = ((L2 ++ L3).map mkB, 0, ()) := by unfold readR; rw [g3]; rfl
    rw [er] at rd
    have ad := (AddR_both m EB EB (by omega) (by omega) n (L2 ++ L3) (by rw [List.length_append]; omega)).1
    rw [addR_good g0 ok g3] at ad
    have fr : Ev (fun k => file_Read k (F m EB (EB ++ mkB (recsB n (L2 ++ L3))))) (EB ++ (EB ++ mkB (recsB n (L2 ++ L3))), ()) := Ev.all fun k => read_ok k m _ _ (by omega) (by omega)
    have tx := Texts_ok ((L2 ++ L3).map mkB) (by rw [List.length_map, List.length_append]; omega)
    have fin : ∀ T, T = (L2 ++ L3).map mkB → Ev (fun k => (record_Read k (F m EB (EB ++ mkB (recsB n (L2 ++ L3)))) n).bind fun r6 => (record_Add k (F m EB EB) n T).bind fun r7 => (law13_recorded k).bind fun r8 => bif r8.1 then (bif r6.2.1 == 0 then ((ref01_Texts k r6.1 T).bind fun r9 => bif r9.1 then (bif r7.2.1 == 0 then ((file_Read k (r7.1.1, r7.1.2.1, r7.1.2.2.1, ())).bind fun r10 => (file_Read k (F m EB (EB ++ mkB (recsB n (L2 ++ L3))))).bind fun r11 => some (ByteArray.toList r10.1 == ByteArray.toList r11.1, ())) else some (false, ())) else some (false, ())) else some (false, ())) else some (false, ())) (true, ()) := by
      rintro T rfl
      refine Ev.bind rd (Ev.bind ad (Ev.bind recorded_ok (Ev.t rfl (Ev.t rfl (Ev.bind tx (Ev.t rfl (Ev.t rfl (Ev.bind fr (Ev.bind fr ?_)))))))))
      exact Ev.of (g := fun _ => some (true, ())) (fun k => congrArg (fun z : Bool => some (z, ())) (beq_self_eq_true _)) (Ev.now _)
    cases L2 with
    | nil =>
      cases L3 with
      | nil => exact Ev.t rfl (Ev.t rfl (fin _ rfl))
      | cons y L3 => exact Ev.t rfl (Ev.f rfl (Ev.dt (by show ((y :: L3).map mkB).length * 16 ≤ _; omega) (fin _ rfl)))
    | cons x L2 =>
      cases L3 with
      | nil => exact Ev.f rfl (Ev.dt (by show ((x :: L2).map mkB).length * 16 ≤ _; omega) (Ev.t rfl (fin _ (by rw [List.append_nil]))))
      | cons y L3 => exact Ev.f rfl (Ev.dt (by show ((x :: L2).map mkB).length * 16 ≤ _; omega) (Ev.f rfl (Ev.dt (by show (((x :: L2).map mkB).length + ((y :: L3).map mkB).length) * 16 ≤ _; omega) (fin _ (by rw [List.map_append])))))
end Go.Proofs.Ytbllbljligmglaa.Pure
