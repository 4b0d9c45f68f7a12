/- SlotsBack, of data alone: what is saved is loaded, with the next number; the other file stays. -/
import Derived.Test.YtbllbljligmglaaASlotsLaw
namespace Go.Proofs.Ytbllbljligmglaa.Pure
open Go Go.Proofs.Ytbllbljligmglaa.Ab Go.Proofs.Ytbllbljligmglaa.A
set_option linter.unusedVariables false

theorem SlotsBack : ∀ (a0 : (Int × (ByteArray × (ByteArray × (Int × (ByteArray × (ByteArray × Unit))))))) (a1 : ByteArray), bnd (.cons (.int .i64) (.cons .str (.cons .str (.cons (.int .i64) (.cons .str (.cons .str .nil)))))) a0 → a1.size ≤ 140737488351232 → ∃ k, law15_SlotsBack k a0 a1 = some (true, ()) := by
  rintro ⟨m, a, b, m', c, d, ⟨⟩⟩ t _ _
  refine Ev.get ?_
  obtain ⟨far, hf, hs⟩ := far_ok m a b m' c d t
  refine Ev.bind hf ?_
  cases far with
  | true => exact Ev.t rfl (Ev.now _)
  | false =>
    obtain ⟨sm, ht⟩ := hs rfl
    refine Ev.f rfl ?_
    have hsv := Save_ok m a b m' c d sm t (-1)
    refine Ev.bind (Load_ok m a b m' c d sm) ?_
    have tl : ∀ z : ByteArray, (z.toList == z.toList) = true := fun z => beq_self_eq_true _
    rcases save_cases m a b m' c d t (-1) with ⟨e, he, h⟩ | ⟨g, rfl, ht1, h1, h3, hcases⟩
    · rw [h] at hsv
      refine Ev.bind hsv (Ev.t (nbne_i he) (Ev.bind slotted_ok (Ev.t rfl (Ev.t rfl ?_))))
      have := same6 ZS
      show Ev (fun _ => some (_, ())) _
      exact Ev.of (g := fun _ => some (true, ())) (fun k => congrArg (fun z : Bool => some (z, ())) (same6 ZS)) (Ev.now _)
    · have bn := best_new a b c d t h1 ht1
      have hz := next_len (bestS a b c d).2.1 t
      have hn0 := (best_n a b c d).1
      obtain ⟨q1, q2, q3, q4⟩ := sm
      have smn : (nextB (bestS a b c d).2.1 t).size ≤ 400000 := by omega
      have hE : EB.size = 0 := EB_size
      have tlt : ((mkB t.data.toList).toList == t.toList) = true := by rw [mkB_of]; exact tl _
      have w : (IntKind.i64.wrap ((bestS a b c d).2.1 + 1 - 1) == (bestS a b c d).2.1) = true := by rw [wrap_id (by omega) (by omega)]; exact beq_i (by omega)
      have hld : loadS m a b m c d = (mkB (bestS a b c d).1, (bestS a b c d).2.1, 0, ()) := loadS_ok _ _ _ _ _ _ g
      rw [hld]
      rcases hcases with ⟨h0, h⟩ | ⟨h0, h4, h⟩ | ⟨h0, h4, h⟩ | ⟨_, _, h4, h⟩ | ⟨_, _, h4, h⟩
      · omega
      · omega
      · omega
      · rw [h] at hsv
        have g2 : okS m a b m (nextB (bestS a b c d).2.1 t) EB = true := okS_new0 g (by omega)
        have hl := Load_ok m a b m (nextB (bestS a b c d).2.1 t) EB ⟨q1, q2, smn, by omega⟩
        rw [loadS_ok _ _ _ _ _ _ g2, (bn.1 h4).1 _ EB (app_E _)] at hl
        refine Ev.bind hsv (Ev.f rfl (Ev.bind hl (Ev.bind slotted_ok (Ev.t rfl (Ev.t (beq_i rfl) (Ev.t (beq_i rfl) (Ev.t rfl (Ev.t tlt (Ev.t w (Ev.t ?_ (Ev.now _)))))))))))
        show (m == m && (a.toList == a.toList && (b.toList == b.toList && true))) = true
        simp
      · rw [h] at hsv
        have g2 : okS m (nextB (bestS a b c d).2.1 t) EB m c d = true := okS_new1 g (by omega)
        have hl := Load_ok m (nextB (bestS a b c d).2.1 t) EB m c d ⟨smn, by omega, q3, q4⟩
        rw [loadS_ok _ _ _ _ _ _ g2, (bn.2 h4).1 _ EB (app_E _)] at hl
        refine Ev.bind hsv (Ev.f rfl (Ev.bind hl (Ev.bind slotted_ok (Ev.t rfl (Ev.t (beq_i rfl) (Ev.t (beq_i rfl) (Ev.t rfl (Ev.t tlt (Ev.t w ?_)))))))))
        cases hc : (m == m && ((nextB (bestS a b c d).2.1 t).toList == a.toList && (EB.toList == b.toList && true))) with
        | true => exact Ev.t rfl (Ev.now _)
        | false =>
          refine Ev.f rfl ?_
          have e : (m == m && (c.toList == c.toList && (d.toList == d.toList && true))) = true := by simp
          exact Ev.of (g := fun _ => some (true, ())) (fun k => congrArg (fun z : Bool => some (z, ())) e) (Ev.now _)
end Go.Proofs.Ytbllbljligmglaa.Pure
