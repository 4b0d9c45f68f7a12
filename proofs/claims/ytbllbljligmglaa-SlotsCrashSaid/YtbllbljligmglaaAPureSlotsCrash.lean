/- SlotsCrash, of data alone: behind a Save that is stopped at any deed, and any Crash, what there was is loaded, or the new text. -/
import Derived.Test.YtbllbljligmglaaASlotsLaw
namespace Go.Proofs.Ytbllbljligmglaa.Pure
open Go Go.Proofs.Ytbllbljligmglaa.Ab Go.Proofs.Ytbllbljligmglaa.A
set_option linter.unusedVariables false

theorem SlotsCrash : ∀ (a0 : (Int × (ByteArray × (ByteArray × (Int × (ByteArray × (ByteArray × Unit))))))) (a1 : ByteArray) (a2 : Int) (a3 : Int), bnd (.cons (.int .i64) (.cons .str (.cons .str (.cons (.int .i64) (.cons .str (.cons .str .nil)))))) a0 → a1.size ≤ 140737488351232 → (Lit.int .i64 a2).wf = true → (Lit.int .i64 a3).wf = true → ∃ k, law15_SlotsCrash k a0 a1 a2 a3 = some (true, ()) := by
  rintro ⟨m, a, b, m', c, d, ⟨⟩⟩ t deeds n _ _ _ _
  refine Ev.get ?_
  obtain ⟨far, hf, hs⟩ := far_ok m a b m' c d t
  refine Ev.bind hf ?_
  cases far with
  | true => exact Ev.t rfl (Ev.now _)
  | false =>
    obtain ⟨sm, ht⟩ := hs rfl
    refine Ev.f rfl ?_
    cases hb : (!(b.toList == EB.toList)) with
    | true => exact Ev.t rfl (Ev.now _)
    | false =>
      refine Ev.f rfl ?_
      obtain rfl := tl_ne hb
      cases hd : (!(d.toList == EB.toList)) with
      | true => exact Ev.t rfl (Ev.now _)
      | false =>
        refine Ev.f rfl ?_
        obtain rfl := tl_ne hd
        have hsv := Save_ok m a EB m' c EB sm t deeds
        refine Ev.bind (Load_ok m a EB m' c EB sm) ?_
        have tl : ∀ z : ByteArray, (z.toList == z.toList) = true := fun z => beq_self_eq_true _
        cases g : okS m a EB m' c EB with
        | false =>
          rw [loadS_no _ _ _ _ _ _ g]
          exact Ev.bind hsv (Ev.t rfl (Ev.bind slotted_ok (Ev.now _)))
        | true =>
          rw [loadS_ok _ _ _ _ _ _ g]
          obtain ⟨x, done, e, hx⟩ : ∃ x done e, saveS m a EB m' c EB t deeds = (x, done, e, ()) := ⟨_, _, _, rfl⟩
          by_cases he : e = 0
          · subst he
            rw [hx] at hsv
            obtain ⟨_, a', c', sm', g', ⟨b2, d2, a2, c2, rfl, sm2, hcr⟩, hor⟩ := save_crash m a c m' sm t deeds n hx
            have hc := SCrash_ok m a2 b2 m' c2 d2 sm2 n
            rw [hcr] at hc
            have hl := Load_ok m a' EB m' c' EB sm'
            rw [loadS_ok _ _ _ _ _ _ g'] at hl
            refine Ev.bind hsv (Ev.f (nbeq_i rfl) (Ev.f (nbeq_i rfl) (Ev.bind hc (Ev.bind hl (Ev.bind slotted_ok (Ev.t rfl (Ev.t (beq_i rfl) (Ev.t (beq_i rfl) ?_))))))))
            have bn := best_n a EB c EB
            rcases hor with ⟨h1, h2⟩ | ⟨rfl, h2⟩
            · refine Ev.t ?_ (Ev.t ?_ (Ev.now _))
              · show (IntKind.i64.wrap ((bestS a' EB c' EB).2.1 - 1) == (bestS a EB c EB).2.1) = true
                rw [h2, wrap_id (by omega) (by omega)]; exact beq_i (by omega)
              · show ((mkB (bestS a' EB c' EB).1).toList == t.toList) = true
                rw [h1, mkB_of]; exact tl _
            · rw [h2]
              refine Ev.f ?_ (Ev.t rfl (Ev.t (beq_i rfl) ?_))
              · show (IntKind.i64.wrap ((bestS a EB c EB).2.1 - 1) == (bestS a EB c EB).2.1) = false
                rw [wrap_id (by omega) (by omega)]; exact bne_i (by omega)
              · exact Ev.of (g := fun _ => some (true, ())) (fun k => congrArg (fun z : Bool => some (z, ())) (tl _)) (Ev.now _)
          · rw [hx] at hsv
            exact Ev.bind hsv (Ev.f (nbeq_i rfl) (Ev.t (nbne_i he) (Ev.bind slotted_ok (Ev.now _))))
end Go.Proofs.Ytbllbljligmglaa.Pure
