/- SlotsDo, of data alone: the program's answers are the document's. -/
import Derived.Test.YtbllbljligmglaaASlotsLaw
namespace Go.Proofs.Ytbllbljligmglaa.Pure
open Go Go.Proofs.Ytbllbljligmglaa.Ab Go.Proofs.Ytbllbljligmglaa.A
set_option linter.unusedVariables false

theorem SlotsDo : ∀ (a0 : (Int × (ByteArray × (ByteArray × (Int × (ByteArray × (ByteArray × Unit))))))) (a1 : ByteArray) (a2 : Int) (a3 : Int) (a4 : ByteArray) (a5 : ByteArray), bnd (.cons (.int .i64) (.cons .str (.cons .str (.cons (.int .i64) (.cons .str (.cons .str .nil)))))) a0 → a1.size ≤ 140737488351232 → (Lit.int .i64 a2).wf = true → (Lit.int .i64 a3).wf = true → a4.size ≤ 140737488351232 → a5.size ≤ 140737488351232 → ∃ k, law15_SlotsDo k a0 a1 a2 a3 a4 a5 = some (true, ()) := by
  rintro ⟨m, a, b, m', c, d, ⟨⟩⟩ t deeds n x y _ _ _ _ _ _
  refine Ev.get ?_
  obtain ⟨far, hf, hs⟩ := far_ok m a b m' c d t
  refine Ev.bind hf ?_
  cases far with
  | true => exact Ev.t rfl (Ev.now _)
  | false =>
    obtain ⟨sm, ht⟩ := hs rfl
    refine Ev.f rfl ?_
    by_cases h1 : (x.size : Int) > 600
    · exact Ev.dt h1 (Ev.now _)
    refine Ev.df h1 ?_
    by_cases h2 : (y.size : Int) > 600
    · exact Ev.dt h2 (Ev.now _)
    refine Ev.df h2 ?_
    have hb := Better_ok x.data.toList y.data.toList (by rw [size_toList]; omega) (by rw [size_toList]; omega)
    have hrb := rBetter_ok x.data.toList y.data.toList (by rw [size_toList]; omega) (by rw [size_toList]; omega)
    rw [mkB_of, mkB_of] at hb hrb
    have tl : ∀ z : ByteArray, (z.toList == z.toList) = true := fun z => beq_self_eq_true _
    have bb : ∀ z : Bool, (z == z) = true := fun z => beq_self_eq_true _
    have s6 : ∀ z : ST, (z.1 == z.1 && (z.2.1.toList == z.2.1.toList && (z.2.2.1.toList == z.2.2.1.toList && true)) && (z.2.2.2.1 == z.2.2.2.1 && (z.2.2.2.2.1.toList == z.2.2.2.2.1.toList && (z.2.2.2.2.2.1.toList == z.2.2.2.2.2.1.toList && true)) && true)) = true := same6
    refine Ev.bind (Load_ok m a b m' c d sm) (Ev.bind (rLoad_ok m a b m' c d sm) (Ev.bind (Save_ok m a b m' c d sm t deeds) (Ev.bind (rSave_ok m a b m' c d sm t deeds) (Ev.bind (SCrash_ok m a b m' c d sm n) (Ev.bind (rSCrash_ok m a b m' c d sm n) (Ev.bind hb (Ev.bind hrb (Ev.bind (SNew_ok n) (Ev.bind (rSNew_ok n) (Ev.bind slotted_ok (Ev.t rfl ?_)))))))))))
    refine Ev.t (tl _) (Ev.t (beq_i rfl) (Ev.t (beq_i rfl) (Ev.t (same6 _) (Ev.t (bb _) (Ev.t (beq_i rfl) (Ev.t (same6 _) (Ev.t (beq_i rfl) (Ev.t (tl _) (Ev.t (beq_i rfl) (Ev.t (beq_i rfl) (Ev.t (same6 _) ?_)))))))))))
    show Ev (fun _ => some ((newS n).2.1 == (newS n).2.1, ())) _
    rw [beq_i rfl]; exact Ev.now _
end Go.Proofs.Ytbllbljligmglaa.Pure
