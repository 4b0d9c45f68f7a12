/- Abstract runs: what a program's texts lean on. -/
import Derived.Test.YtohlhliifeeokaaGreatAbW
namespace Go.Proofs.YtohlhliifeeokaaGreat.Ab
open Go
set_option linter.unusedVariables false
theorem GOk.nil {P : Program} : GOk P (look []) := fun f g h => by simp [look] at h
theorem GOk.cons {P : Program} {f : FuncId} {g : Sig} {l : List (Nat × Sig)} (h : FnOk P f g) (hl : GOk P (look l)) : GOk P (look ((f, g) :: l)) := fun f' g' e => by
  rcases put_keys e with ⟨rfl, rfl⟩ | ⟨_, e⟩
  · exact h
  · exact hl f' g' e
section
variable {P : Program}
theorem POk.lend {f : FuncId} {g : Sig} {l : List (Nat × Special)} (h : FnOk P f g) (hl : POk P (look l)) : POk P (look ((f, .lend g) :: l)) := fun f' g' e => by
  rcases put_keys e with ⟨rfl, rfl⟩ | ⟨_, e⟩
  · exact h
  · exact hl f' g' e
end
def entersB (P : Program) (f : FuncId) : Bool := match P.funcs[f]? with
  | some fn => fn.body.isSome && !(fn.name == "runtime.NumGoroutine")
  | none => false
theorem entersAb {P : Program} {f : FuncId} (h : entersB P f = true) : ∀ args w, (callFunc f args).run P w = .ok (.enter f args) w := by
  intro args w
  unfold entersB at h
  split at h
  · rename_i fn hf
    simp only [Bool.and_eq_true] at h
    obtain ⟨h1, h2⟩ := h
    obtain ⟨c, hb⟩ := Option.isSome_iff_exists.1 h1
    have hnm' : (fn.name == "runtime.NumGoroutine") = false := by simpa using h2
    unfold callFunc
    rw [Sem.run_bind]
    simp only [run_program, Result.andThen_ok, hf, hnm', Bool.false_eq_true, if_false, hb, Option.isNone_some]
    rfl
  · cases h
theorem fn_ok' {P : Program} {Γ : Nat → FuncId → Option Sig} {H : FuncId → Nat → Option Hint} {D k : Nat} {f : FuncId} {ts res : List Ty} {d : (ts.foldr Ty.cons .nil).den → Option (res.foldr Ty.cons .nil).den} (hΓ : ∀ k, GOk P (Γ k)) (hm : P.follows .mixedOrders = true) (he : entersB P f = true)
    (h : ∀ x, evTop P Γ (fun _ => look []) H D k f (argAVs ts x) res = d x) : FnOk P f ⟨ts, res, d⟩ :=
  fn_ok (D := D) hΓ (fun _ => POk.nil) hm (entersAb he) fun x y e => ⟨k, (h x).trans e⟩
theorem fn_okP {P : Program} {Γ : Nat → FuncId → Option Sig} {Φ : Nat → FuncId → Option Special} {H : FuncId → Nat → Option Hint} {D k : Nat} {f : FuncId} {ts res : List Ty} {d : (ts.foldr Ty.cons .nil).den → Option (res.foldr Ty.cons .nil).den} (hΓ : ∀ k, GOk P (Γ k)) (hΦ : ∀ k, POk P (Φ k)) (hm : P.follows .mixedOrders = true) (he : entersB P f = true)
    (h : ∀ x, evTop P Γ Φ H D k f (argAVs ts x) res = d x) : FnOk P f ⟨ts, res, d⟩ :=
  fn_ok (D := D) hΓ hΦ hm (entersAb he) fun x y e => ⟨k, (h x).trans e⟩
end Go.Proofs.YtohlhliifeeokaaGreat.Ab
