/- The statement PacketCut is carried by what the law's function answers on all data (the text APurePacketCut): a call comes to true, and turns nothing that was there. Its conditions are those of the given row. -/
import Derived.Test.YtoeikeabbdnkbaaRows
import Derived.Test.YtoeikeabbdnkbaaEvPacket
import Derived.Test.YtoeikeabbdnkbaaAPurePacketCut
import Derived.Test.YtoeikeabbdnkbaaAbK
import Derived.WalkKit
import Derived.ProofKit
import Derived.OpenShut
import Derived.ShutString
import Derived.ChangeOld
import Derived.Below
import Derived.SizedLaws
namespace Go.Proofs.Ytoeikeabbdnkbaa.packetCut
open Go.ChangeShapes Go.WideShapes Go.ChangeAt Go.RowKit Go.Proofs.Ytoeikeabbdnkbaa.Ab Go.Proofs.Ytoeikeabbdnkbaa.A
open Go.ChangeMaps (open_string shut_string)
set_option linter.unusedVariables false
set_option linter.unusedSimpArgs false
theorem own : ownKnob Try.prog.godebug = none := by kernel_rfl
theorem laidOut : laidOutB Try.prog = true := by kernel_rfl
theorem rd0 (W : World) : RdT Try.prog W 43 (.cons (.int .i64) (.cons (.int .i64) (.cons (.int .i64) (.cons (.int .i64) (.cons (.int .i64) (.cons (.int .i64) (.cons (.int .i64) (.cons (.int .i64) .nil)))))))) := by
  have h : RdT Try.prog W 43 (.cons (.int .i64) (.cons (.int .i64) (.cons (.int .i64) (.cons (.int .i64) (.cons (.int .i64) (.cons (.int .i64) (.cons (.int .i64) (.cons (.int .i64) .nil)))))))) := (RdT.struct Try.underlying43 (by kernel_rfl) (RdS.cons rfl (by kernel_rfl) (RdT.int Try.underlying3) (RdS.cons rfl (by kernel_rfl) (RdT.int Try.underlying3) (RdS.cons rfl (by kernel_rfl) (RdT.int Try.underlying3) (RdS.struct (a := (.cons (.int .i64) (.cons (.int .i64) .nil))) (b := (.cons (.int .i64) (.cons (.int .i64) (.cons (.int .i64) .nil)))) rfl rfl (by kernel_rfl) (RdT.struct Try.underlying41 (by kernel_rfl) (RdS.cons rfl (by kernel_rfl) (RdT.int Try.underlying3) (RdS.cons rfl (by kernel_rfl) (RdT.int Try.underlying3) RdS.nil))) (RdS.cons rfl (by kernel_rfl) (RdT.int Try.underlying3) (RdS.cons rfl (by kernel_rfl) (RdT.int Try.underlying3) (RdS.cons rfl (by kernel_rfl) (RdT.int Try.underlying3) RdS.nil))))))))
  exact h
theorem rd1 (W : World) : RdT Try.prog W 47 (.cons (.int .i64) (.cons (.int .i64) (.cons (.sl .str) .nil))) := by
  have h : RdT Try.prog W 47 (.cons (.int .i64) (.cons (.int .i64) (.cons (.sl .str) .nil))) := (RdT.struct Try.underlying47 (by kernel_rfl) (RdS.cons rfl (by kernel_rfl) (RdT.int Try.underlying26) (RdS.cons rfl (by kernel_rfl) (RdT.int Try.underlying3) (RdS.cons rfl (by kernel_rfl) (RdT.sl Try.underlying22 (by kernel_rfl) (RdT.str Try.underlying9)) RdS.nil))))
  exact h
theorem rd2 (W : World) : RdT Try.prog W 51 (.cons (.int .i64) (.cons (.int .i64) (.cons (.int .i64) (.cons (.int .i64) (.cons (.int .i64) (.cons (.int .i64) (.cons (.int .i64) (.cons (.sl .str) .nil)))))))) := by
  have h : RdT Try.prog W 51 (.cons (.int .i64) (.cons (.int .i64) (.cons (.int .i64) (.cons (.int .i64) (.cons (.int .i64) (.cons (.int .i64) (.cons (.int .i64) (.cons (.sl .str) .nil)))))))) := (RdT.struct Try.underlying51 (by kernel_rfl) (RdS.cons rfl (by kernel_rfl) (RdT.int Try.underlying3) (RdS.cons rfl (by kernel_rfl) (RdT.int Try.underlying3) (RdS.cons rfl (by kernel_rfl) (RdT.int Try.underlying3) (RdS.cons rfl (by kernel_rfl) (RdT.int Try.underlying3) (RdS.cons rfl (by kernel_rfl) (RdT.int Try.underlying3) (RdS.cons rfl (by kernel_rfl) (RdT.int Try.underlying3) (RdS.cons rfl (by kernel_rfl) (RdT.int Try.underlying3) (RdS.cons rfl (by kernel_rfl) (RdT.sl Try.underlying22 (by kernel_rfl) (RdT.str Try.underlying9)) RdS.nil)))))))))
  exact h
set_option maxRecDepth 100000 in
theorem lifted (os : Os) (started : os.Started) (H : Type) (enc : TypeId × Value → H) :
    ReturnsInHanded {} Try.checked os 7 .any (Rows.packetCutSpec.pre6 enc Try.prog Try.f7 Rows.packetCutRow.domain false) (Rows.packetCutSpec.post enc Try.prog Try.f7 false true false false) := by
  refine returnsInHanded_of_change_sized (C := Try.checked) own started (by kernel_rfl) Try.func7
    (ChangeSpec.witness6 (enc := enc) (C := Try.checked) false ⟨#[], #[.agg #[.int .i64 0, .int .i64 0, .int .i64 0, .int .i64 0, .int .i64 0, .int .i64 0, .int .i64 0, .int .i64 0], .agg #[.int .i64 0, .int .i64 0, .slice none 0 0], .agg #[.int .i64 0, .int .i64 0, .int .i64 0, .int .i64 0, .int .i64 0, .int .i64 0, .int .i64 0, .slice none 0 0], .int .i64 0, .int .u8 0], []⟩ 8 (by kernel_rfl) (by kernel_rfl) (by kernel_rfl) (by kernel_rfl)) ?_
  intro W base args ds gs before hval0 hW hcnd hsz0 _
  have hsz : (DataW.weightsEach Try.prog (Try.f7.params.toList ++ Rows.packetCutSpec.plain.varTypes Try.prog) (ds ++ gs)).all (· ≤ reachBytes) = true := hsz0
  have hval : ∀ (j : Nat) t v, Try.f7.params[j]? = some t → args[j]? = some v → Value.okWide Try.prog W .any base t v := hval0
  have hW' := hW
  obtain ⟨p, q, hA0, hV, rfl, hfz, hnd⟩ := hW
  have hA : DataW.TrodAll enc Try.prog W 0 (fun _ => true) true Try.f7.params.toList args.toList ds p := hA0
  rw [Try.params7] at hA hval hsz
  obtain ⟨v0, vs0, d0, ds0, p0, q0, hargs, rfl, rfl, h0, r0⟩ := trodAll_cons hA
  obtain ⟨v1, vs1, d1, ds1, p1, q1, rfl, rfl, rfl, h1, r1⟩ := trodAll_cons r0
  obtain ⟨v2, vs2, d2, ds2, p2, q2, rfl, rfl, rfl, h2, r2⟩ := trodAll_cons r1
  obtain ⟨v3, vs3, d3, ds3, p3, q3, rfl, rfl, rfl, h3, r3⟩ := trodAll_cons r2
  obtain ⟨v4, vs4, d4, ds4, p4, q4, rfl, rfl, rfl, h4, r4⟩ := trodAll_cons r3
  obtain ⟨rfl, rfl, rfl⟩ := trodAll_nil r4
  obtain rfl : args = #[v0, v1, v2, v3, v4] := by cases args; simp_all
  obtain ⟨rfl, rfl⟩ := trodVars_none hV
  obtain ⟨vs_0, rfl, _⟩ := okWide_struct Try.underlying43 (hval 0 43 v0 rfl rfl)
  have k0 := h0
  have lt0 : ∀ x ∈ p0, x.block < W.heap.size := by obtain ⟨m, hm⟩ := k0; exact DataW.trod_lt m _ _ _ hm
  obtain ⟨fu0, hf0⟩ := h0
  obtain ⟨a0, hr0, b0⟩ := rd0 W H enc fu0 _ _ hf0
  obtain ⟨vs_1, rfl, _⟩ := okWide_struct Try.underlying47 (hval 1 47 v1 rfl rfl)
  have k1 := h1
  have lt1 : ∀ x ∈ p1, x.block < W.heap.size := by obtain ⟨m, hm⟩ := k1; exact DataW.trod_lt m _ _ _ hm
  obtain ⟨fu1, hf1⟩ := h1
  obtain ⟨a1, hr1, b1⟩ := rd1 W H enc fu1 _ _ hf1
  obtain ⟨vs_2, rfl, _⟩ := okWide_struct Try.underlying51 (hval 2 51 v2 rfl rfl)
  have k2 := h2
  have lt2 : ∀ x ∈ p2, x.block < W.heap.size := by obtain ⟨m, hm⟩ := k2; exact DataW.trod_lt m _ _ _ hm
  obtain ⟨fu2, hf2⟩ := h2
  obtain ⟨a2, hr2, b2⟩ := rd2 W H enc fu2 _ _ hf2
  obtain ⟨a3, rfl, rfl, rfl, w3⟩ := open_int Try.underlying3 (hval 3 3 v3 rfl rfl) h3
  obtain ⟨a4, rfl, rfl, rfl, w4⟩ := open_int Try.underlying5 (hval 4 5 v4 rfl rfl) h4
  clear hA0 hval0 hsz0 hsz
  obtain ⟨k_, h_⟩ := Pure.PacketCut a0 a1 a2 a3 a4 b0 b1 b2 w3 w4
  refine ((law20_PacketCut_ok k_).calls (a0, a1, a2, a3, a4, ()) (true, ()) h_ W.cell? W [_, _, _, _, _] (fun p v h => h) ⟨rep1_agg rfl hr0, rep1_agg rfl hr1, rep1_agg rfl hr2, rfl, rfl, trivial⟩).mono fun e W' ⟨u, S', he, _, _, _, hres, bel⟩ => ?_
  have hres : [u] = [Value.bool true] := hres
  obtain rfl : u = .bool true := by simpa using hres
  subst he
  exact ⟨_, rfl, _, _, _, [], _, [], hW', trodAll_mk1 (shut_bool Try.underlying4 _), (trodAll_cons_mk (Below.trod laidOut (by kernel_rfl) (of_decide_eq_true (by kernel_rfl)) k0 bel lt0) (trodAll_cons_mk (Below.trod laidOut (by kernel_rfl) (of_decide_eq_true (by kernel_rfl)) k1 bel lt1) (trodAll_cons_mk (Below.trod laidOut (by kernel_rfl) (of_decide_eq_true (by kernel_rfl)) k2 bel lt2) (trodAll_cons_mk (shut_int Try.underlying3 w3) (trodAll_cons_mk (shut_int Try.underlying5 w4) trodAll_mk0))))), rfl, bel.frame _, fun h => by cases h⟩
theorem over : Rows.packetCutRow.holds Try.pinned (OpenSpec.ofChange Rows.packetCutSpec) :=
  OpenClaim.holds_of_wide 7 Try.f7 rfl rfl rfl rfl rfl rfl rfl ⟨rfl, rfl, rfl, rfl, rfl⟩ rfl rfl rfl rfl rfl (by kernel_rfl) Try.func7 (by kernel_rfl)
    (of_decide_eq_true (by kernel_rfl)) (by unfold Func.isWrapper; first | (rw [if_pos (by decide +kernel)]; kernel_rfl) | (rw [if_neg (by decide +kernel)]; exact ⟨rfl, rfl⟩))
    (fun os started H enc _ => lifted os started H enc)
theorem proved : Rows.PacketCutSaid := over
#print axioms proved
end Go.Proofs.Ytoeikeabbdnkbaa.packetCut
namespace Go.Proofs.Ytoeikeabbdnkbaa
/-- The row, under a short name, for the claim. -/
theorem packetCut_holds : Rows.PacketCutSaid := packetCut.proved
end Go.Proofs.Ytoeikeabbdnkbaa
