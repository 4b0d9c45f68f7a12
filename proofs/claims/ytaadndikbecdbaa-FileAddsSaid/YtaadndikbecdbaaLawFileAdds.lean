/- Each theorem of this text says that a call of a Go function comes to what a Lean function of the same name answers, or carries such facts to a law; its conditions are those that stand in it. Written by this session's own program (wip/tools/print2.py); not trusted: Lean checks it. -/
import Derived.Test.YtaadndikbecdbaaRows
import Derived.Test.YtaadndikbecdbaaQx8
import Derived.Test.YtaadndikbecdbaaPureFileAdds
import Derived.Test.YtaadndikbecdbaaRowKit
import Derived.WalkKit
import Derived.ProofKit
import Derived.OpenShut
import Derived.ShutString
import Derived.ChangeOld
import Derived.Below
import Derived.SizedLaws
import Derived.Test.YtaadndikbecdbaaWSized
namespace Go.Proofs.Ytaadndikbecdbaa.fileAdds
open Go.ChangeShapes Go.WideShapes Go.ChangeAt Go.RowKit Go.Proofs.Ytaadndikbecdbaa.Q Go.Proofs.YtaadndikbecdbaaW.PrintWords Go.Proofs.YtaadndikbecdbaaW.PrintLast
open Go.ChangeMaps (open_string shut_string)
set_option linter.unusedVariables false
set_option linter.unusedSimpArgs false
theorem own : ownKnob Try.prog.godebug = none := by kernel_rfl
theorem laidOut : laidOutB Try.prog = true := by kernel_rfl
theorem rd0 (W : World) : Rd Try.prog W 23 (Kd.pair (Kd.int .i64) (Kd.pair Kd.string Kd.string)) (fun x => ((Lit.int .i64 x.1).wf = true ∧ x.2.1.size ≤ maxLen ∧ x.2.2.size ≤ maxLen)) := by
  have h : Rd Try.prog W 23 (Kd.pair (Kd.int .i64) (Kd.pair Kd.string Kd.string)) _ := (Rd.tuple Try.underlying23 (by kernel_rfl) (RdF.cons rfl (by kernel_rfl) (Rd.int Try.underlying3) (RdF.cons rfl (by kernel_rfl) (Rd.string Try.underlying9) (RdF.last rfl (by kernel_rfl) (Rd.string Try.underlying9)))))
  exact h
theorem rd1 (W : World) : Rd Try.prog W 24 (Kd.slice 9 Kd.string) (fun x => (x.length ≤ maxLen ∧ ∀ x_ ∈ x, x_.size ≤ maxLen)) := by
  have h : Rd Try.prog W 24 (Kd.slice 9 Kd.string) _ := (Rd.slice (⟨#[]⟩ : ByteArray) Try.underlying24 (by kernel_rfl) (Rd.string Try.underlying9))
  exact h
set_option maxRecDepth 100000 in
theorem lifted (os : Os) (started : os.Started) (H : Type) (enc : TypeId × Value → H) :
    ReturnsInHanded {} Try.checked os 4 .any (Rows.fileAddsSpec.pre6 enc Try.prog Try.f4 Rows.fileAddsRow.domain false) (Rows.fileAddsSpec.post enc Try.prog Try.f4 false true false false) := by
  refine returnsInHanded_of_change_sized (C := Try.checked) own started (by kernel_rfl) Try.func4
    (ChangeSpec.witness6 (enc := enc) (C := Try.checked) false ⟨#[], #[.agg #[.int .i64 0, .string ByteArray.empty, .string ByteArray.empty], .slice none 0 0], []⟩ 8 (by kernel_rfl) (by kernel_rfl) (by kernel_rfl) (by kernel_rfl)) ?_
  intro W base args ds gs before hval0 hW hcnd hsz0 _
  have hsz : (DataW.weightsEach Try.prog (Try.f4.params.toList ++ Rows.fileAddsSpec.plain.varTypes Try.prog) (ds ++ gs)).all (· ≤ reachBytes) = true := hsz0
  have hval : ∀ (j : Nat) t v, Try.f4.params[j]? = some t → args[j]? = some v → Value.okWide Try.prog W .any base t v := hval0
  have hW' := hW
  obtain ⟨p, q, hA0, hV, rfl, hfz, hnd⟩ := hW
  have hA : DataW.TrodAll enc Try.prog W 0 (fun _ => true) true Try.f4.params.toList args.toList ds p := hA0
  rw [Try.params4] at hA hval hsz
  obtain ⟨v0, vs0, d0, ds0, p0, q0, hargs, rfl, rfl, h0, r0⟩ := trodAll_cons hA
  obtain ⟨v1, vs1, d1, ds1, p1, q1, rfl, rfl, rfl, h1, r1⟩ := trodAll_cons r0
  obtain ⟨rfl, rfl, rfl⟩ := trodAll_nil r1
  obtain rfl : args = #[v0, v1] := by cases args; simp_all
  obtain ⟨rfl, rfl⟩ := trodVars_none hV
  obtain ⟨vs_0, rfl, _⟩ := okWide_struct Try.underlying23 (hval 0 23 v0 rfl rfl)
  have k0 := h0
  have lt0 : ∀ x ∈ p0, x.block < W.heap.size := by obtain ⟨m, hm⟩ := k0; exact DataW.trod_lt m _ _ _ hm
  obtain ⟨fu0, hf0⟩ := h0
  obtain ⟨⟨a0_0, ⟨a0_1, a0_2⟩⟩, ⟨_, _, e0, rfl, ⟨_, _, rfl, rfl, rfl⟩⟩, ⟨b0_0, ⟨b0_1, b0_2⟩⟩⟩ := rd0 W H enc fu0 _ _ hf0
  obtain rfl : vs_0 = #[.int .i64 a0_0, .string a0_1, .string a0_2] := by apply Array.ext'; simpa [Value.cells] using e0
  obtain ⟨a_1, len1, cap1, rfl⟩ := okWide_slice Try.underlying24 (hval 1 24 v1 rfl rfl)
  have k1 := h1
  have lt1 : ∀ x ∈ p1, x.block < W.heap.size := by obtain ⟨m, hm⟩ := k1; exact DataW.trod_lt m _ _ _ hm
  obtain ⟨fu1, hf1⟩ := h1
  obtain ⟨l1, ⟨A1, c1, e1, hc1, hr1⟩, b1⟩ := rd1 W H enc fu1 _ _ hf1
  simp only [Value.cells] at e1
  obtain ⟨rfl, rfl, rfl⟩ : a_1 = A1 ∧ len1 = l1.length ∧ cap1 = c1 := by simpa using e1
  clear hA0 hval0 hsz0 hsz
  obtain ⟨k_, h_⟩ := Pure.FileAdds a0_0 a0_1 a0_2 l1 b0_0 b0_1 b0_2 b1
  refine (watchmanlaw12_FileAdds.calls (w := W) (r := true) (hr1 := hr1) (hc1 := hc1) (h := h_) (hr_ := rfl)).mono fun e W' ⟨he, bel0⟩ => ?_
  have bel := bel0
  subst he
  exact ⟨_, rfl, _, _, _, [], _, [], hW', trodAll_mk1 (shut_bool Try.underlying4 _), (trodAll_cons_mk (Below.trod laidOut (by kernel_rfl) (of_decide_eq_true (by kernel_rfl)) k0 bel lt0) (trodAll_cons_mk (Below.trod laidOut (by kernel_rfl) (of_decide_eq_true (by kernel_rfl)) k1 bel lt1) trodAll_mk0)), rfl, bel.frame _, fun h => by cases h⟩
theorem over : Rows.fileAddsRow.holds Try.pinned (OpenSpec.ofChange Rows.fileAddsSpec) :=
  OpenClaim.holds_of_wide 4 Try.f4 rfl rfl rfl rfl rfl rfl rfl ⟨rfl, rfl, rfl, rfl, rfl⟩ rfl rfl rfl rfl rfl (by kernel_rfl) Try.func4 (by kernel_rfl)
    (of_decide_eq_true (by kernel_rfl)) (by unfold Func.isWrapper; first | (rw [if_pos (by decide +kernel)]; kernel_rfl) | (rw [if_neg (by decide +kernel)]; exact ⟨rfl, rfl⟩))
    (fun os started H enc _ => lifted os started H enc)
theorem proved : Rows.FileAddsSaid := over
#print axioms proved
end Go.Proofs.Ytaadndikbecdbaa.fileAdds
namespace Go.Proofs.Ytaadndikbecdbaa
/-- The row, under a short name, for the claim. -/
theorem fileAdds_holds : Rows.FileAddsSaid := fileAdds.proved
end Go.Proofs.Ytaadndikbecdbaa
