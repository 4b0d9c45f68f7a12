/- The statement SegmentDoes is carried by what the law's function answers on all data (the text APureSegmentDoes): a call comes to true, and turns nothing that was there. Its conditions are those of the given row. -/
import Derived.Test.YtoeikeabbdnkbaaRows
import Derived.Test.YtoeikeabbdnkbaaEvSDoes
import Derived.Test.YtoeikeabbdnkbaaAPureSegmentDoes
import Derived.Test.YtoeikeabbdnkbaaAbK
import Derived.WalkKit
import Derived.ProofKit
import Derived.OpenShut
import Derived.ShutString
import Derived.ChangeOld
import Derived.Below
import Derived.SizedLaws
namespace Go.Proofs.Ytoeikeabbdnkbaa.segmentDoes
open Go.ChangeShapes Go.WideShapes Go.ChangeAt Go.RowKit Go.Proofs.Ytoeikeabbdnkbaa.Ab Go.Proofs.Ytoeikeabbdnkbaa.A
open Go.ChangeMaps (open_string shut_string)
set_option linter.unusedVariables false
set_option linter.unusedSimpArgs false
theorem own : ownKnob Try.prog.godebug = none := by kernel_rfl
theorem laidOut : laidOutB Try.prog = true := by kernel_rfl
theorem rd0 (W : World) : RdT Try.prog W 25 (.cons (.int .i64) (.cons (.int .i64) (.cons (.sl (.cons (.int .i64) (.cons .str (.cons .str .nil)))) .nil))) := by
  have h : RdT Try.prog W 25 (.cons (.int .i64) (.cons (.int .i64) (.cons (.sl (.cons (.int .i64) (.cons .str (.cons .str .nil)))) .nil))) := (RdT.struct Try.underlying25 (by kernel_rfl) (RdS.cons rfl (by kernel_rfl) (RdT.int Try.underlying3) (RdS.cons rfl (by kernel_rfl) (RdT.int Try.underlying3) (RdS.cons rfl (by kernel_rfl) (RdT.sl Try.underlying23 (by kernel_rfl) (RdT.struct Try.underlying74 (by kernel_rfl) (RdS.cons rfl (by kernel_rfl) (RdT.int Try.underlying3) (RdS.cons rfl (by kernel_rfl) (RdT.str Try.underlying9) (RdS.cons rfl (by kernel_rfl) (RdT.str Try.underlying9) RdS.nil))))) RdS.nil))))
  exact h
theorem rd1 (W : World) : RdT Try.prog W 22 (.sl .str) := by
  have h : RdT Try.prog W 22 (.sl .str) := (RdT.sl Try.underlying22 (by kernel_rfl) (RdT.str Try.underlying9))
  exact h
set_option maxRecDepth 100000 in
theorem lifted (os : Os) (started : os.Started) (H : Type) (enc : TypeId × Value → H) :
    ReturnsInHanded {} Try.checked os 10 .any (Rows.segmentDoesSpec.pre6 enc Try.prog Try.f10 Rows.segmentDoesRow.domain false) (Rows.segmentDoesSpec.post enc Try.prog Try.f10 false true false false) := by
  refine returnsInHanded_of_change_sized (C := Try.checked) own started (by kernel_rfl) Try.func10
    (ChangeSpec.witness6 (enc := enc) (C := Try.checked) false ⟨#[], #[.agg #[.int .i64 0, .int .i64 0, .slice none 0 0], .slice none 0 0, .int .i64 0, .int .i64 0], []⟩ 8 (by kernel_rfl) (by kernel_rfl) (by kernel_rfl) (by kernel_rfl)) ?_
  intro W base args ds gs before hval0 hW hcnd hsz0 _
  have hsz : (DataW.weightsEach Try.prog (Try.f10.params.toList ++ Rows.segmentDoesSpec.plain.varTypes Try.prog) (ds ++ gs)).all (· ≤ reachBytes) = true := hsz0
  have hval : ∀ (j : Nat) t v, Try.f10.params[j]? = some t → args[j]? = some v → Value.okWide Try.prog W .any base t v := hval0
  have hW' := hW
  obtain ⟨p, q, hA0, hV, rfl, hfz, hnd⟩ := hW
  have hA : DataW.TrodAll enc Try.prog W 0 (fun _ => true) true Try.f10.params.toList args.toList ds p := hA0
  rw [Try.params10] at hA hval hsz
  obtain ⟨v0, vs0, d0, ds0, p0, q0, hargs, rfl, rfl, h0, r0⟩ := trodAll_cons hA
  obtain ⟨v1, vs1, d1, ds1, p1, q1, rfl, rfl, rfl, h1, r1⟩ := trodAll_cons r0
  obtain ⟨v2, vs2, d2, ds2, p2, q2, rfl, rfl, rfl, h2, r2⟩ := trodAll_cons r1
  obtain ⟨v3, vs3, d3, ds3, p3, q3, rfl, rfl, rfl, h3, r3⟩ := trodAll_cons r2
  obtain ⟨rfl, rfl, rfl⟩ := trodAll_nil r3
  obtain rfl : args = #[v0, v1, v2, v3] := by cases args; simp_all
  obtain ⟨rfl, rfl⟩ := trodVars_none hV
  obtain ⟨vs_0, rfl, _⟩ := okWide_struct Try.underlying25 (hval 0 25 v0 rfl rfl)
  have k0 := h0
  have lt0 : ∀ x ∈ p0, x.block < W.heap.size := by obtain ⟨m, hm⟩ := k0; exact DataW.trod_lt m _ _ _ hm
  obtain ⟨fu0, hf0⟩ := h0
  obtain ⟨a0, hr0, b0⟩ := rd0 W H enc fu0 _ _ hf0
  obtain ⟨a_1, len1, cap1, rfl⟩ := okWide_slice Try.underlying22 (hval 1 22 v1 rfl rfl)
  have k1 := h1
  have lt1 : ∀ x ∈ p1, x.block < W.heap.size := by obtain ⟨m, hm⟩ := k1; exact DataW.trod_lt m _ _ _ hm
  obtain ⟨fu1, hf1⟩ := h1
  obtain ⟨a1, hr1, b1⟩ := rd1 W H enc fu1 _ _ hf1
  obtain ⟨a2, rfl, rfl, rfl, w2⟩ := open_int Try.underlying3 (hval 2 3 v2 rfl rfl) h2
  obtain ⟨a3, rfl, rfl, rfl, w3⟩ := open_int Try.underlying3 (hval 3 3 v3 rfl rfl) h3
  clear hA0 hval0 hsz0 hsz
  obtain ⟨k_, h_⟩ := Pure.SegmentDoes a0 a1 a2 a3 b0 b1 w2 w3
  refine ((law14_SegmentDoes_ok k_).calls (a0, a1, a2, a3, ()) (true, ()) h_ W.cell? W [_, _, _, _] (fun p v h => h) ⟨rep1_agg rfl hr0, hr1, rfl, rfl, trivial⟩).mono fun e W' ⟨u, S', he, _, _, _, hres, bel⟩ => ?_
  have hres : [u] = [Value.bool true] := hres
  obtain rfl : u = .bool true := by simpa using hres
  subst he
  exact ⟨_, rfl, _, _, _, [], _, [], hW', trodAll_mk1 (shut_bool Try.underlying4 _), (trodAll_cons_mk (Below.trod laidOut (by kernel_rfl) (of_decide_eq_true (by kernel_rfl)) k0 bel lt0) (trodAll_cons_mk (Below.trod laidOut (by kernel_rfl) (of_decide_eq_true (by kernel_rfl)) k1 bel lt1) (trodAll_cons_mk (shut_int Try.underlying3 w2) (trodAll_cons_mk (shut_int Try.underlying3 w3) trodAll_mk0)))), rfl, bel.frame _, fun h => by cases h⟩
theorem over : Rows.segmentDoesRow.holds Try.pinned (OpenSpec.ofChange Rows.segmentDoesSpec) :=
  OpenClaim.holds_of_wide 10 Try.f10 rfl rfl rfl rfl rfl rfl rfl ⟨rfl, rfl, rfl, rfl, rfl⟩ rfl rfl rfl rfl rfl (by kernel_rfl) Try.func10 (by kernel_rfl)
    (of_decide_eq_true (by kernel_rfl)) (by unfold Func.isWrapper; first | (rw [if_pos (by decide +kernel)]; kernel_rfl) | (rw [if_neg (by decide +kernel)]; exact ⟨rfl, rfl⟩))
    (fun os started H enc _ => lifted os started H enc)
theorem proved : Rows.SegmentDoesSaid := over
#print axioms proved
end Go.Proofs.Ytoeikeabbdnkbaa.segmentDoes
namespace Go.Proofs.Ytoeikeabbdnkbaa
/-- The row, under a short name, for the claim. -/
theorem segmentDoes_holds : Rows.SegmentDoesSaid := segmentDoes.proved
end Go.Proofs.Ytoeikeabbdnkbaa
