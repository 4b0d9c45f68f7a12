/- Each theorem of this text says that a call of a Go function comes to what a Lean function of the same name answers, or carries such facts to a law; its conditions are those that stand in it. Written by this session's own program (wip/tools/print2.py); not trusted: Lean checks it. -/
import Derived.Test.YtaadndikbecdbaaRows
import Derived.Test.YtaadndikbecdbaaQx9
import Derived.Test.YtaadndikbecdbaaPureFileCrash
import Derived.Test.YtaadndikbecdbaaRowKit
import Derived.WalkKit
import Derived.ProofKit
import Derived.OpenShut
import Derived.ShutString
import Derived.ChangeOld
import Derived.Below
import Derived.SizedLaws
import Derived.Test.YtaadndikbecdbaaWSized
namespace Go.Proofs.Ytaadndikbecdbaa.fileCrash
open Go.ChangeShapes Go.WideShapes Go.ChangeAt Go.RowKit Go.Proofs.Ytaadndikbecdbaa.Q Go.Proofs.YtaadndikbecdbaaW.PrintWords Go.Proofs.YtaadndikbecdbaaW.PrintLast
open Go.ChangeMaps (open_string shut_string)
set_option linter.unusedVariables false
set_option linter.unusedSimpArgs false
theorem own : ownKnob Try.prog.godebug = none := by kernel_rfl
theorem laidOut : laidOutB Try.prog = true := by kernel_rfl
theorem rd0 (W : World) : Rd Try.prog W 23 (Kd.pair (Kd.int .i64) (Kd.pair Kd.string Kd.string)) (fun x => ((Lit.int .i64 x.1).wf = true ∧ x.2.1.size ≤ maxLen ∧ x.2.2.size ≤ maxLen)) := by
  have h : Rd Try.prog W 23 (Kd.pair (Kd.int .i64) (Kd.pair Kd.string Kd.string)) _ := (Rd.tuple Try.underlying23 (by kernel_rfl) (RdF.cons rfl (by kernel_rfl) (Rd.int Try.underlying3) (RdF.cons rfl (by kernel_rfl) (Rd.string Try.underlying9) (RdF.last rfl (by kernel_rfl) (Rd.string Try.underlying9)))))
  exact h
set_option maxRecDepth 100000 in
theorem lifted (os : Os) (started : os.Started) (H : Type) (enc : TypeId × Value → H) :
    ReturnsInHanded {} Try.checked os 5 .any (Rows.fileCrashSpec.pre6 enc Try.prog Try.f5 Rows.fileCrashRow.domain false) (Rows.fileCrashSpec.post enc Try.prog Try.f5 false true false false) := by
  refine returnsInHanded_of_change_sized (C := Try.checked) own started (by kernel_rfl) Try.func5
    (ChangeSpec.witness6 (enc := enc) (C := Try.checked) false ⟨#[], #[.agg #[.int .i64 0, .string ByteArray.empty, .string ByteArray.empty], .int .i64 0], []⟩ 8 (by kernel_rfl) (by kernel_rfl) (by kernel_rfl) (by kernel_rfl)) ?_
  intro W base args ds gs before hval0 hW hcnd hsz0 _
  have hsz : (DataW.weightsEach Try.prog (Try.f5.params.toList ++ Rows.fileCrashSpec.plain.varTypes Try.prog) (ds ++ gs)).all (· ≤ reachBytes) = true := hsz0
  have hval : ∀ (j : Nat) t v, Try.f5.params[j]? = some t → args[j]? = some v → Value.okWide Try.prog W .any base t v := hval0
  have hW' := hW
  obtain ⟨p, q, hA0, hV, rfl, hfz, hnd⟩ := hW
  have hA : DataW.TrodAll enc Try.prog W 0 (fun _ => true) true Try.f5.params.toList args.toList ds p := hA0
  rw [Try.params5] at hA hval hsz
  obtain ⟨v0, vs0, d0, ds0, p0, q0, hargs, rfl, rfl, h0, r0⟩ := trodAll_cons hA
  obtain ⟨v1, vs1, d1, ds1, p1, q1, rfl, rfl, rfl, h1, r1⟩ := trodAll_cons r0
  obtain ⟨rfl, rfl, rfl⟩ := trodAll_nil r1
  obtain rfl : args = #[v0, v1] := by cases args; simp_all
  obtain ⟨rfl, rfl⟩ := trodVars_none hV
  obtain ⟨vs_0, rfl, _⟩ := okWide_struct Try.underlying23 (hval 0 23 v0 rfl rfl)
  have k0 := h0
  have lt0 : ∀ x ∈ p0, x.block < W.heap.size := by obtain ⟨m, hm⟩ := k0; exact DataW.trod_lt m _ _ _ hm
  obtain ⟨fu0, hf0⟩ := h0
  obtain ⟨⟨a0_0, ⟨a0_1, a0_2⟩⟩, ⟨_, _, e0, rfl, ⟨_, _, rfl, rfl, rfl⟩⟩, ⟨b0_0, ⟨b0_1, b0_2⟩⟩⟩ := rd0 W H enc fu0 _ _ hf0
  obtain rfl : vs_0 = #[.int .i64 a0_0, .string a0_1, .string a0_2] := by apply Array.ext'; simpa [Value.cells] using e0
  obtain ⟨a1, rfl, rfl, rfl, w1⟩ := open_int Try.underlying3 (hval 1 3 v1 rfl rfl) h1
  clear hA0 hval0 hsz0 hsz
  obtain ⟨k_, h_⟩ := Pure.FileCrash a0_0 a0_1 a0_2 a1 b0_0 b0_1 b0_2 w1
  refine (watchmanlaw12_FileCrash.calls (w := W) (r := true)  (h := h_) (hr_ := rfl)).mono fun e W' ⟨he, bel0⟩ => ?_
  have bel := bel0
  subst he
  exact ⟨_, rfl, _, _, _, [], _, [], hW', trodAll_mk1 (shut_bool Try.underlying4 _), (trodAll_cons_mk (Below.trod laidOut (by kernel_rfl) (of_decide_eq_true (by kernel_rfl)) k0 bel lt0) (trodAll_cons_mk (shut_int Try.underlying3 w1) trodAll_mk0)), rfl, bel.frame _, fun h => by cases h⟩
theorem over : Rows.fileCrashRow.holds Try.pinned (OpenSpec.ofChange Rows.fileCrashSpec) :=
  OpenClaim.holds_of_wide 5 Try.f5 rfl rfl rfl rfl rfl rfl rfl ⟨rfl, rfl, rfl, rfl, rfl⟩ rfl rfl rfl rfl rfl (by kernel_rfl) Try.func5 (by kernel_rfl)
    (of_decide_eq_true (by kernel_rfl)) (by unfold Func.isWrapper; first | (rw [if_pos (by decide +kernel)]; kernel_rfl) | (rw [if_neg (by decide +kernel)]; exact ⟨rfl, rfl⟩))
    (fun os started H enc _ => lifted os started H enc)
theorem proved : Rows.FileCrashSaid := over
#print axioms proved
end Go.Proofs.Ytaadndikbecdbaa.fileCrash
namespace Go.Proofs.Ytaadndikbecdbaa
/-- The row, under a short name, for the claim. -/
theorem fileCrash_holds : Rows.FileCrashSaid := fileCrash.proved
end Go.Proofs.Ytaadndikbecdbaa
