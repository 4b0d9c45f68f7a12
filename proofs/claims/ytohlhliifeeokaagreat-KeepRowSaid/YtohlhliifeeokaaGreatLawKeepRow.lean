/- The statement KeepRow is carried by what the law's function answers on all data (the text APureKeepRow): a call comes to true, and turns nothing that was there. Its conditions are those of the given row. -/
import Derived.Test.YtohlhliifeeokaaGreatRows
import Derived.Test.YtohlhliifeeokaaGreatEvKeepW
import Derived.Test.YtohlhliifeeokaaGreatAPureKeepRow
import Derived.Test.YtohlhliifeeokaaGreatAbK
import Derived.WalkKit
import Derived.ProofKit
import Derived.OpenShut
import Derived.ShutString
import Derived.ChangeOld
import Derived.Below
import Derived.SizedLaws
namespace Go.Proofs.YtohlhliifeeokaaGreat.keepRow
open Go.ChangeShapes Go.WideShapes Go.ChangeAt Go.RowKit Go.Proofs.YtohlhliifeeokaaGreat.Ab Go.Proofs.YtohlhliifeeokaaGreat.A
open Go.ChangeMaps (open_string shut_string)
set_option linter.unusedVariables false
set_option linter.unusedSimpArgs false
theorem own : ownKnob Tryz.prog.godebug = none := by kernel_rfl
theorem laidOut : laidOutB Tryz.prog = true := by kernel_rfl
theorem rd1 (W : World) : RdT Tryz.prog W 22 (.sl (.cons (.int .i64) (.cons .str (.cons (.sl .str) (.cons (.int .i64) (.cons (.int .i64) (.cons (.int .i64) .nil))))))) := by
  have h : RdT Tryz.prog W 22 (.sl (.cons (.int .i64) (.cons .str (.cons (.sl .str) (.cons (.int .i64) (.cons (.int .i64) (.cons (.int .i64) .nil))))))) := (RdT.sl Tryz.underlying22 (by kernel_rfl) (RdT.struct Tryz.underlying40 (by kernel_rfl) (RdS.cons rfl (by kernel_rfl) (RdT.int Tryz.underlying3) (RdS.cons rfl (by kernel_rfl) (RdT.str Tryz.underlying9) (RdS.cons rfl (by kernel_rfl) (RdT.sl Tryz.underlying38 (by kernel_rfl) (RdT.str Tryz.underlying9)) (RdS.cons rfl (by kernel_rfl) (RdT.int Tryz.underlying3) (RdS.cons rfl (by kernel_rfl) (RdT.int Tryz.underlying3) (RdS.cons rfl (by kernel_rfl) (RdT.int Tryz.underlying3) RdS.nil))))))))
  exact h
set_option maxRecDepth 100000 in
theorem lifted (os : Os) (started : os.Started) (H : Type) (enc : TypeId × Value → H) :
    ReturnsInHanded {} Tryz.checked os 3 .any (Rows.keepRowSpec.pre6 enc Tryz.prog Tryz.f3 Rows.keepRowRow.domain false) (Rows.keepRowSpec.post enc Tryz.prog Tryz.f3 false true false false) := by
  refine returnsInHanded_of_change_sized (C := Tryz.checked) own started (by kernel_rfl) Tryz.func3
    (ChangeSpec.witness6 (enc := enc) (C := Tryz.checked) false ⟨#[], #[.int .i64 0, .slice none 0 0], []⟩ 8 (by kernel_rfl) (by kernel_rfl) (by kernel_rfl) (by kernel_rfl)) ?_
  intro W base args ds gs before hval0 hW hcnd hsz0 _
  have hsz : (DataW.weightsEach Tryz.prog (Tryz.f3.params.toList ++ Rows.keepRowSpec.plain.varTypes Tryz.prog) (ds ++ gs)).all (· ≤ reachBytes) = true := hsz0
  have hval : ∀ (j : Nat) t v, Tryz.f3.params[j]? = some t → args[j]? = some v → Value.okWide Tryz.prog W .any base t v := hval0
  have hW' := hW
  obtain ⟨p, q, hA0, hV, rfl, hfz, hnd⟩ := hW
  have hA : DataW.TrodAll enc Tryz.prog W 0 (fun _ => true) true Tryz.f3.params.toList args.toList ds p := hA0
  rw [Tryz.params3] at hA hval hsz
  obtain ⟨v0, vs0, d0, ds0, p0, q0, hargs, rfl, rfl, h0, r0⟩ := trodAll_cons hA
  obtain ⟨v1, vs1, d1, ds1, p1, q1, rfl, rfl, rfl, h1, r1⟩ := trodAll_cons r0
  obtain ⟨rfl, rfl, rfl⟩ := trodAll_nil r1
  obtain rfl : args = #[v0, v1] := by cases args; simp_all
  obtain ⟨rfl, rfl⟩ := trodVars_none hV
  obtain ⟨a0, rfl, rfl, rfl, w0⟩ := open_int Tryz.underlying3 (hval 0 3 v0 rfl rfl) h0
  obtain ⟨a_1, len1, cap1, rfl⟩ := okWide_slice Tryz.underlying22 (hval 1 22 v1 rfl rfl)
  have k1 := h1
  have lt1 : ∀ x ∈ p1, x.block < W.heap.size := by obtain ⟨m, hm⟩ := k1; exact DataW.trod_lt m _ _ _ hm
  obtain ⟨fu1, hf1⟩ := h1
  obtain ⟨a1, hr1, b1⟩ := rd1 W H enc fu1 _ _ hf1
  clear hA0 hval0 hsz0 hsz
  obtain ⟨k_, h_⟩ := Pure.KeepRow a0 a1 w0 b1
  refine ((law17_KeepRow_ok k_).calls (a0, a1, ()) (true, ()) h_ W.cell? W [_, _] (fun p v h => h) ⟨rfl, hr1, trivial⟩).mono fun e W' ⟨u, S', he, _, _, _, hres, bel⟩ => ?_
  have hres : [u] = [Value.bool true] := hres
  obtain rfl : u = .bool true := by simpa using hres
  subst he
  exact ⟨_, rfl, _, _, _, [], _, [], hW', trodAll_mk1 (shut_bool Tryz.underlying4 _), (trodAll_cons_mk (shut_int Tryz.underlying3 w0) (trodAll_cons_mk (Below.trod laidOut (by kernel_rfl) (of_decide_eq_true (by kernel_rfl)) k1 bel lt1) trodAll_mk0)), rfl, bel.frame _, fun h => by cases h⟩
theorem over : Rows.keepRowRow.holds Tryz.pinned (OpenSpec.ofChange Rows.keepRowSpec) :=
  OpenClaim.holds_of_wide 3 Tryz.f3 rfl rfl rfl rfl rfl rfl rfl ⟨rfl, rfl, rfl, rfl, rfl⟩ rfl rfl rfl rfl rfl (by kernel_rfl) Tryz.func3 (by kernel_rfl)
    (of_decide_eq_true (by kernel_rfl)) (by unfold Func.isWrapper; first | (rw [if_pos (by decide +kernel)]; kernel_rfl) | (rw [if_neg (by decide +kernel)]; exact ⟨rfl, rfl⟩))
    (fun os started H enc _ => lifted os started H enc)
theorem proved : Rows.KeepRowSaid := over
#print axioms proved
end Go.Proofs.YtohlhliifeeokaaGreat.keepRow
namespace Go.Proofs.YtohlhliifeeokaaGreat
/-- The row, under a short name, for the claim. -/
theorem keepRow_holds : Rows.KeepRowSaid := keepRow.proved
end Go.Proofs.YtohlhliifeeokaaGreat
