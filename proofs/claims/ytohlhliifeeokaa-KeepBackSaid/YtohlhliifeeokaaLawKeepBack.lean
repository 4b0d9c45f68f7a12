/- The statement KeepBack is carried by what the law's function answers on all data (the text APureKeepBack): a call comes to true, and turns nothing that was there. Its conditions are those of the given row. -/
import Derived.Test.YtohlhliifeeokaaRows
import Derived.Test.YtohlhliifeeokaaEvKeep
import Derived.Test.YtohlhliifeeokaaAPureKeepBack
import Derived.Test.YtohlhliifeeokaaAbK
import Derived.WalkKit
import Derived.ProofKit
import Derived.OpenShut
import Derived.ShutString
import Derived.ChangeOld
import Derived.Below
import Derived.SizedLaws
import Derived.Test.YtohlhliifeeokaaWSized
namespace Go.Proofs.Ytohlhliifeeokaa.keepBack
open Go.ChangeShapes Go.WideShapes Go.ChangeAt Go.RowKit Go.Proofs.Ytohlhliifeeokaa.Ab Go.Proofs.Ytohlhliifeeokaa.A Go.Proofs.YtohlhliifeeokaaW.PrintWords
open Go.ChangeMaps (open_string shut_string)
set_option linter.unusedVariables false
set_option linter.unusedSimpArgs false
theorem own : ownKnob Try.prog.godebug = none := by kernel_rfl
theorem laidOut : laidOutB Try.prog = true := by kernel_rfl
theorem rd0 (W : World) : RdT Try.prog W 92 (.cons (.int .i64) (.cons .str (.cons .str (.cons (.int .i64) (.cons .str (.cons .str (.cons (.int .i64) (.cons .str (.cons .str (.cons (.int .i64) (.cons .str (.cons .str (.cons (.int .i64) (.cons (.int .i64) (.cons (.sl (.cons (.int .i64) (.cons .str (.cons .str .nil)))) .nil))))))))))))))) := by
  have h : RdT Try.prog W 92 (.cons (.int .i64) (.cons .str (.cons .str (.cons (.int .i64) (.cons .str (.cons .str (.cons (.int .i64) (.cons .str (.cons .str (.cons (.int .i64) (.cons .str (.cons .str (.cons (.int .i64) (.cons (.int .i64) (.cons (.sl (.cons (.int .i64) (.cons .str (.cons .str .nil)))) .nil))))))))))))))) := (RdT.struct Try.underlying92 (by kernel_rfl) (RdS.struct (a := (.cons (.int .i64) (.cons .str (.cons .str (.cons (.int .i64) (.cons .str (.cons .str .nil))))))) (b := (.cons (.int .i64) (.cons .str (.cons .str (.cons (.int .i64) (.cons .str (.cons .str (.cons (.int .i64) (.cons (.int .i64) (.cons (.sl (.cons (.int .i64) (.cons .str (.cons .str .nil)))) .nil)))))))))) rfl rfl (by kernel_rfl) (RdT.struct Try.underlying68 (by kernel_rfl) (RdS.struct (a := (.cons (.int .i64) (.cons .str (.cons .str .nil)))) (b := (.cons (.int .i64) (.cons .str (.cons .str .nil)))) rfl rfl (by kernel_rfl) (RdT.struct Try.underlying23 (by kernel_rfl) (RdS.cons rfl (by kernel_rfl) (RdT.int Try.underlying3) (RdS.cons rfl (by kernel_rfl) (RdT.str Try.underlying9) (RdS.cons rfl (by kernel_rfl) (RdT.str Try.underlying9) RdS.nil)))) (RdS.struct (a := (.cons (.int .i64) (.cons .str (.cons .str .nil)))) (b := .nil) rfl rfl (by kernel_rfl) (RdT.struct Try.underlying23 (by kernel_rfl) (RdS.cons rfl (by kernel_rfl) (RdT.int Try.underlying3) (RdS.cons rfl (by kernel_rfl) (RdT.str Try.underlying9) (RdS.cons rfl (by kernel_rfl) (RdT.str Try.underlying9) RdS.nil)))) RdS.nil))) (RdS.struct (a := (.cons (.int .i64) (.cons .str (.cons .str (.cons (.int .i64) (.cons .str (.cons .str .nil))))))) (b := (.cons (.int .i64) (.cons (.int .i64) (.cons (.sl (.cons (.int .i64) (.cons .str (.cons .str .nil)))) .nil)))) rfl rfl (by kernel_rfl) (RdT.struct Try.underlying81 (by kernel_rfl) (RdS.struct (a := (.cons (.int .i64) (.cons .str (.cons .str .nil)))) (b := (.cons (.int .i64) (.cons .str (.cons .str .nil)))) rfl rfl (by kernel_rfl) (RdT.struct Try.underlying23 (by kernel_rfl) (RdS.cons rfl (by kernel_rfl) (RdT.int Try.underlying3) (RdS.cons rfl (by kernel_rfl) (RdT.str Try.underlying9) (RdS.cons rfl (by kernel_rfl) (RdT.str Try.underlying9) RdS.nil)))) (RdS.struct (a := (.cons (.int .i64) (.cons .str (.cons .str .nil)))) (b := .nil) rfl rfl (by kernel_rfl) (RdT.struct Try.underlying23 (by kernel_rfl) (RdS.cons rfl (by kernel_rfl) (RdT.int Try.underlying3) (RdS.cons rfl (by kernel_rfl) (RdT.str Try.underlying9) (RdS.cons rfl (by kernel_rfl) (RdT.str Try.underlying9) RdS.nil)))) RdS.nil))) (RdS.struct (a := (.cons (.int .i64) (.cons (.int .i64) (.cons (.sl (.cons (.int .i64) (.cons .str (.cons .str .nil)))) .nil)))) (b := .nil) rfl rfl (by kernel_rfl) (RdT.struct Try.underlying53 (by kernel_rfl) (RdS.cons rfl (by kernel_rfl) (RdT.int Try.underlying3) (RdS.cons rfl (by kernel_rfl) (RdT.int Try.underlying3) (RdS.cons rfl (by kernel_rfl) (RdT.sl Try.underlying51 (by kernel_rfl) (RdT.struct Try.underlying23 (by kernel_rfl) (RdS.cons rfl (by kernel_rfl) (RdT.int Try.underlying3) (RdS.cons rfl (by kernel_rfl) (RdT.str Try.underlying9) (RdS.cons rfl (by kernel_rfl) (RdT.str Try.underlying9) RdS.nil))))) RdS.nil)))) RdS.nil))))
  exact h
theorem rd2 (W : World) : RdT Try.prog W 24 (.sl .str) := by
  have h : RdT Try.prog W 24 (.sl .str) := (RdT.sl Try.underlying24 (by kernel_rfl) (RdT.str Try.underlying9))
  exact h
set_option maxRecDepth 100000 in
theorem lifted (os : Os) (started : os.Started) (H : Type) (enc : TypeId × Value → H) :
    ReturnsInHanded {} Try.checked os 8 .any (Rows.keepBackSpec.pre6 enc Try.prog Try.f8 Rows.keepBackRow.domain false) (Rows.keepBackSpec.post enc Try.prog Try.f8 false true false false) := by
  refine returnsInHanded_of_change_sized (C := Try.checked) own started (by kernel_rfl) Try.func8
    (ChangeSpec.witness6 (enc := enc) (C := Try.checked) false ⟨#[], #[.agg #[.int .i64 0, .string ByteArray.empty, .string ByteArray.empty, .int .i64 0, .string ByteArray.empty, .string ByteArray.empty, .int .i64 0, .string ByteArray.empty, .string ByteArray.empty, .int .i64 0, .string ByteArray.empty, .string ByteArray.empty, .int .i64 0, .int .i64 0, .slice none 0 0], .string ByteArray.empty, .slice none 0 0, .int .i64 0], []⟩ 8 (by kernel_rfl) (by kernel_rfl) (by kernel_rfl) (by kernel_rfl)) ?_
  intro W base args ds gs before hval0 hW hcnd hsz0 _
  have hsz : (DataW.weightsEach Try.prog (Try.f8.params.toList ++ Rows.keepBackSpec.plain.varTypes Try.prog) (ds ++ gs)).all (· ≤ reachBytes) = true := hsz0
  have hval : ∀ (j : Nat) t v, Try.f8.params[j]? = some t → args[j]? = some v → Value.okWide Try.prog W .any base t v := hval0
  have hW' := hW
  obtain ⟨p, q, hA0, hV, rfl, hfz, hnd⟩ := hW
  have hA : DataW.TrodAll enc Try.prog W 0 (fun _ => true) true Try.f8.params.toList args.toList ds p := hA0
  rw [Try.params8] at hA hval hsz
  obtain ⟨v0, vs0, d0, ds0, p0, q0, hargs, rfl, rfl, h0, r0⟩ := trodAll_cons hA
  obtain ⟨v1, vs1, d1, ds1, p1, q1, rfl, rfl, rfl, h1, r1⟩ := trodAll_cons r0
  obtain ⟨v2, vs2, d2, ds2, p2, q2, rfl, rfl, rfl, h2, r2⟩ := trodAll_cons r1
  obtain ⟨v3, vs3, d3, ds3, p3, q3, rfl, rfl, rfl, h3, r3⟩ := trodAll_cons r2
  obtain ⟨rfl, rfl, rfl⟩ := trodAll_nil r3
  obtain rfl : args = #[v0, v1, v2, v3] := by cases args; simp_all
  obtain ⟨rfl, rfl⟩ := trodVars_none hV
  obtain ⟨vs_0, rfl, _⟩ := okWide_struct Try.underlying92 (hval 0 92 v0 rfl rfl)
  have k0 := h0
  have lt0 : ∀ x ∈ p0, x.block < W.heap.size := by obtain ⟨m, hm⟩ := k0; exact DataW.trod_lt m _ _ _ hm
  obtain ⟨fu0, hf0⟩ := h0
  obtain ⟨a0, hr0, b0⟩ := rd0 W H enc fu0 _ _ hf0
  obtain ⟨a1, rfl, rfl, rfl, y1⟩ := open_string Try.underlying9 (hval 1 9 v1 rfl rfl) h1
  have w1 : a1.size ≤ 140737488351232 := by
    have z := sized_string hsz (j := 1) (t := 9) rfl rfl
    rw [Array.length_toList] at z
    exact z
  obtain ⟨a_2, len2, cap2, rfl⟩ := okWide_slice Try.underlying24 (hval 2 24 v2 rfl rfl)
  have k2 := h2
  have lt2 : ∀ x ∈ p2, x.block < W.heap.size := by obtain ⟨m, hm⟩ := k2; exact DataW.trod_lt m _ _ _ hm
  obtain ⟨fu2, hf2⟩ := h2
  obtain ⟨a2, hr2, b2⟩ := rd2 W H enc fu2 _ _ hf2
  obtain ⟨a3, rfl, rfl, rfl, w3⟩ := open_int Try.underlying3 (hval 3 3 v3 rfl rfl) h3
  clear hA0 hval0 hsz0 hsz
  obtain ⟨k_, h_⟩ := Pure.KeepBack a0 a1 a2 a3 b0 w1 b2 w3
  refine ((law17_KeepBack_ok k_).calls (a0, a1, a2, a3, ()) (true, ()) h_ W.cell? W [_, _, _, _] (fun p v h => h) ⟨rep1_agg rfl hr0, rfl, hr2, rfl, trivial⟩).mono fun e W' ⟨u, S', he, _, _, _, hres, bel⟩ => ?_
  have hres : [u] = [Value.bool true] := hres
  obtain rfl : u = .bool true := by simpa using hres
  subst he
  exact ⟨_, rfl, _, _, _, [], _, [], hW', trodAll_mk1 (shut_bool Try.underlying4 _), (trodAll_cons_mk (Below.trod laidOut (by kernel_rfl) (of_decide_eq_true (by kernel_rfl)) k0 bel lt0) (trodAll_cons_mk (shut_string Try.underlying9 y1) (trodAll_cons_mk (Below.trod laidOut (by kernel_rfl) (of_decide_eq_true (by kernel_rfl)) k2 bel lt2) (trodAll_cons_mk (shut_int Try.underlying3 w3) trodAll_mk0)))), rfl, bel.frame _, fun h => by cases h⟩
theorem over : Rows.keepBackRow.holds Try.pinned (OpenSpec.ofChange Rows.keepBackSpec) :=
  OpenClaim.holds_of_wide 8 Try.f8 rfl rfl rfl rfl rfl rfl rfl ⟨rfl, rfl, rfl, rfl, rfl⟩ rfl rfl rfl rfl rfl (by kernel_rfl) Try.func8 (by kernel_rfl)
    (of_decide_eq_true (by kernel_rfl)) (by unfold Func.isWrapper; first | (rw [if_pos (by decide +kernel)]; kernel_rfl) | (rw [if_neg (by decide +kernel)]; exact ⟨rfl, rfl⟩))
    (fun os started H enc _ => lifted os started H enc)
theorem proved : Rows.KeepBackSaid := over
#print axioms proved
end Go.Proofs.Ytohlhliifeeokaa.keepBack
namespace Go.Proofs.Ytohlhliifeeokaa
/-- The row, under a short name, for the claim. -/
theorem keepBack_holds : Rows.KeepBackSaid := keepBack.proved
end Go.Proofs.Ytohlhliifeeokaa
