/- The statement KeepLoose is carried by what the law's function answers on all data (the text APureKeepLoose): a call comes to true, and turns nothing that was there. Its conditions are those of the given row. -/
import Derived.Test.YtohlhliifeeokaaGreatRows
import Derived.Test.YtohlhliifeeokaaGreatEvKeepL
import Derived.Test.YtohlhliifeeokaaGreatAPureKeepLoose
import Derived.Test.YtohlhliifeeokaaGreatAbK
import Derived.WalkKit
import Derived.ProofKit
import Derived.OpenShut
import Derived.ShutString
import Derived.ChangeOld
import Derived.Below
import Derived.SizedLaws
namespace Go.Proofs.YtohlhliifeeokaaGreat.keepLoose
open Go.ChangeShapes Go.WideShapes Go.ChangeAt Go.RowKit Go.Proofs.YtohlhliifeeokaaGreat.Ab Go.Proofs.YtohlhliifeeokaaGreat.A
open Go.ChangeMaps (open_string shut_string)
set_option linter.unusedVariables false
set_option linter.unusedSimpArgs false
theorem own : ownKnob Tryz.prog.godebug = none := by kernel_rfl
theorem laidOut : laidOutB Tryz.prog = true := by kernel_rfl
theorem rd0 (W : World) : RdT Tryz.prog W 33 (.cons (.int .i64) (.cons .str (.cons .str (.cons (.int .i64) (.cons .str (.cons .str (.cons (.int .i64) (.cons .str (.cons .str (.cons (.int .i64) (.cons .str (.cons .str (.cons (.int .i64) (.cons (.int .i64) (.cons (.sl (.cons (.int .i64) (.cons .str (.cons .str .nil)))) .nil))))))))))))))) := by
  have h : RdT Tryz.prog W 33 (.cons (.int .i64) (.cons .str (.cons .str (.cons (.int .i64) (.cons .str (.cons .str (.cons (.int .i64) (.cons .str (.cons .str (.cons (.int .i64) (.cons .str (.cons .str (.cons (.int .i64) (.cons (.int .i64) (.cons (.sl (.cons (.int .i64) (.cons .str (.cons .str .nil)))) .nil))))))))))))))) := (RdT.struct Tryz.underlying33 (by kernel_rfl) (RdS.struct (a := (.cons (.int .i64) (.cons .str (.cons .str (.cons (.int .i64) (.cons .str (.cons .str .nil))))))) (b := (.cons (.int .i64) (.cons .str (.cons .str (.cons (.int .i64) (.cons .str (.cons .str (.cons (.int .i64) (.cons (.int .i64) (.cons (.sl (.cons (.int .i64) (.cons .str (.cons .str .nil)))) .nil)))))))))) rfl rfl (by kernel_rfl) (RdT.struct Tryz.underlying26 (by kernel_rfl) (RdS.struct (a := (.cons (.int .i64) (.cons .str (.cons .str .nil)))) (b := (.cons (.int .i64) (.cons .str (.cons .str .nil)))) rfl rfl (by kernel_rfl) (RdT.struct Tryz.underlying24 (by kernel_rfl) (RdS.cons rfl (by kernel_rfl) (RdT.int Tryz.underlying3) (RdS.cons rfl (by kernel_rfl) (RdT.str Tryz.underlying9) (RdS.cons rfl (by kernel_rfl) (RdT.str Tryz.underlying9) RdS.nil)))) (RdS.struct (a := (.cons (.int .i64) (.cons .str (.cons .str .nil)))) (b := .nil) rfl rfl (by kernel_rfl) (RdT.struct Tryz.underlying24 (by kernel_rfl) (RdS.cons rfl (by kernel_rfl) (RdT.int Tryz.underlying3) (RdS.cons rfl (by kernel_rfl) (RdT.str Tryz.underlying9) (RdS.cons rfl (by kernel_rfl) (RdT.str Tryz.underlying9) RdS.nil)))) RdS.nil))) (RdS.struct (a := (.cons (.int .i64) (.cons .str (.cons .str (.cons (.int .i64) (.cons .str (.cons .str .nil))))))) (b := (.cons (.int .i64) (.cons (.int .i64) (.cons (.sl (.cons (.int .i64) (.cons .str (.cons .str .nil)))) .nil)))) rfl rfl (by kernel_rfl) (RdT.struct Tryz.underlying28 (by kernel_rfl) (RdS.struct (a := (.cons (.int .i64) (.cons .str (.cons .str .nil)))) (b := (.cons (.int .i64) (.cons .str (.cons .str .nil)))) rfl rfl (by kernel_rfl) (RdT.struct Tryz.underlying24 (by kernel_rfl) (RdS.cons rfl (by kernel_rfl) (RdT.int Tryz.underlying3) (RdS.cons rfl (by kernel_rfl) (RdT.str Tryz.underlying9) (RdS.cons rfl (by kernel_rfl) (RdT.str Tryz.underlying9) RdS.nil)))) (RdS.struct (a := (.cons (.int .i64) (.cons .str (.cons .str .nil)))) (b := .nil) rfl rfl (by kernel_rfl) (RdT.struct Tryz.underlying24 (by kernel_rfl) (RdS.cons rfl (by kernel_rfl) (RdT.int Tryz.underlying3) (RdS.cons rfl (by kernel_rfl) (RdT.str Tryz.underlying9) (RdS.cons rfl (by kernel_rfl) (RdT.str Tryz.underlying9) RdS.nil)))) RdS.nil))) (RdS.struct (a := (.cons (.int .i64) (.cons (.int .i64) (.cons (.sl (.cons (.int .i64) (.cons .str (.cons .str .nil)))) .nil)))) (b := .nil) rfl rfl (by kernel_rfl) (RdT.struct Tryz.underlying31 (by kernel_rfl) (RdS.cons rfl (by kernel_rfl) (RdT.int Tryz.underlying3) (RdS.cons rfl (by kernel_rfl) (RdT.int Tryz.underlying3) (RdS.cons rfl (by kernel_rfl) (RdT.sl Tryz.underlying29 (by kernel_rfl) (RdT.struct Tryz.underlying24 (by kernel_rfl) (RdS.cons rfl (by kernel_rfl) (RdT.int Tryz.underlying3) (RdS.cons rfl (by kernel_rfl) (RdT.str Tryz.underlying9) (RdS.cons rfl (by kernel_rfl) (RdT.str Tryz.underlying9) RdS.nil))))) RdS.nil)))) RdS.nil))))
  exact h
set_option maxRecDepth 100000 in
theorem lifted (os : Os) (started : os.Started) (H : Type) (enc : TypeId × Value → H) :
    ReturnsInHanded {} Tryz.checked os 4 .any (Rows.keepLooseSpec.pre6 enc Tryz.prog Tryz.f4 Rows.keepLooseRow.domain false) (Rows.keepLooseSpec.post enc Tryz.prog Tryz.f4 false true false false) := by
  refine returnsInHanded_of_change_sized (C := Tryz.checked) own started (by kernel_rfl) Tryz.func4
    (ChangeSpec.witness6 (enc := enc) (C := Tryz.checked) false ⟨#[], #[.agg #[.int .i64 0, .string ByteArray.empty, .string ByteArray.empty, .int .i64 0, .string ByteArray.empty, .string ByteArray.empty, .int .i64 0, .string ByteArray.empty, .string ByteArray.empty, .int .i64 0, .string ByteArray.empty, .string ByteArray.empty, .int .i64 0, .int .i64 0, .slice none 0 0], .int .i64 0], []⟩ 8 (by kernel_rfl) (by kernel_rfl) (by kernel_rfl) (by kernel_rfl)) ?_
  intro W base args ds gs before hval0 hW hcnd hsz0 _
  have hsz : (DataW.weightsEach Tryz.prog (Tryz.f4.params.toList ++ Rows.keepLooseSpec.plain.varTypes Tryz.prog) (ds ++ gs)).all (· ≤ reachBytes) = true := hsz0
  have hval : ∀ (j : Nat) t v, Tryz.f4.params[j]? = some t → args[j]? = some v → Value.okWide Tryz.prog W .any base t v := hval0
  have hW' := hW
  obtain ⟨p, q, hA0, hV, rfl, hfz, hnd⟩ := hW
  have hA : DataW.TrodAll enc Tryz.prog W 0 (fun _ => true) true Tryz.f4.params.toList args.toList ds p := hA0
  rw [Tryz.params4] at hA hval hsz
  obtain ⟨v0, vs0, d0, ds0, p0, q0, hargs, rfl, rfl, h0, r0⟩ := trodAll_cons hA
  obtain ⟨v1, vs1, d1, ds1, p1, q1, rfl, rfl, rfl, h1, r1⟩ := trodAll_cons r0
  obtain ⟨rfl, rfl, rfl⟩ := trodAll_nil r1
  obtain rfl : args = #[v0, v1] := by cases args; simp_all
  obtain ⟨rfl, rfl⟩ := trodVars_none hV
  obtain ⟨vs_0, rfl, _⟩ := okWide_struct Tryz.underlying33 (hval 0 33 v0 rfl rfl)
  have k0 := h0
  have lt0 : ∀ x ∈ p0, x.block < W.heap.size := by obtain ⟨m, hm⟩ := k0; exact DataW.trod_lt m _ _ _ hm
  obtain ⟨fu0, hf0⟩ := h0
  obtain ⟨a0, hr0, b0⟩ := rd0 W H enc fu0 _ _ hf0
  obtain ⟨a1, rfl, rfl, rfl, w1⟩ := open_int Tryz.underlying3 (hval 1 3 v1 rfl rfl) h1
  clear hA0 hval0 hsz0 hsz
  obtain ⟨k_, h_⟩ := Pure.KeepLoose a0 a1 b0 w1
  refine ((law17_KeepLoose_ok k_).calls (a0, a1, ()) (true, ()) h_ W.cell? W [_, _] (fun p v h => h) ⟨rep1_agg rfl hr0, rfl, trivial⟩).mono fun e W' ⟨u, S', he, _, _, _, hres, bel⟩ => ?_
  have hres : [u] = [Value.bool true] := hres
  obtain rfl : u = .bool true := by simpa using hres
  subst he
  exact ⟨_, rfl, _, _, _, [], _, [], hW', trodAll_mk1 (shut_bool Tryz.underlying4 _), (trodAll_cons_mk (Below.trod laidOut (by kernel_rfl) (of_decide_eq_true (by kernel_rfl)) k0 bel lt0) (trodAll_cons_mk (shut_int Tryz.underlying3 w1) trodAll_mk0)), rfl, bel.frame _, fun h => by cases h⟩
theorem over : Rows.keepLooseRow.holds Tryz.pinned (OpenSpec.ofChange Rows.keepLooseSpec) :=
  OpenClaim.holds_of_wide 4 Tryz.f4 rfl rfl rfl rfl rfl rfl rfl ⟨rfl, rfl, rfl, rfl, rfl⟩ rfl rfl rfl rfl rfl (by kernel_rfl) Tryz.func4 (by kernel_rfl)
    (of_decide_eq_true (by kernel_rfl)) (by unfold Func.isWrapper; first | (rw [if_pos (by decide +kernel)]; kernel_rfl) | (rw [if_neg (by decide +kernel)]; exact ⟨rfl, rfl⟩))
    (fun os started H enc _ => lifted os started H enc)
theorem proved : Rows.KeepLooseSaid := over
#print axioms proved
end Go.Proofs.YtohlhliifeeokaaGreat.keepLoose
namespace Go.Proofs.YtohlhliifeeokaaGreat
/-- The row, under a short name, for the claim. -/
theorem keepLoose_holds : Rows.KeepLooseSaid := keepLoose.proved
end Go.Proofs.YtohlhliifeeokaaGreat
