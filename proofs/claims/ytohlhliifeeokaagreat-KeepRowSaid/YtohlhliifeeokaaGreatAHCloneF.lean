/- slices.Clone at files: the same files in a row of one's own. -/
import Derived.Test.YtohlhliifeeokaaGreatAHCloneFDef
import Derived.Test.YtohlhliifeeokaaGreatAHKit
import Derived.Test.YtohlhliifeeokaaGreatAbG
import Derived.Test.YtohlhliifeeokaaGreatProg
import Derived.WalkKit
import Derived.Deep.LoopGhost
import Derived.Lib.Walk
import Derived.Lib.SliceRun
import Derived.Laws.AppendOwn
import Derived.OwnWalk
import Derived.KernelRfl
namespace Go.Proofs.YtohlhliifeeokaaGreat.Q
open Go Go.RowKit Go.Lib
set_option linter.unusedVariables false
set_option linter.unusedSimpArgs false
set_option maxHeartbeats 2000000 in
set_option maxRecDepth 100000 in
theorem cloneF_calls (ad : Addr) (n c : Nat) (cs : List Value) (w : World) (hl : cs.length = n * 3) (h1 : ∀ u ∈ cs, u.oneCell' = true) (hbig : n * 40 ≤ 140737488355328) (hc : ∀ j u, cs[j]? = some u → w.cell? (ad.add j) = some u) :
    Calls Tryz.prog 47 #[.slice (some ad) n c] w fun e w' => ∃ v', e = .returned v' ∧ w'.ownsRow w.heap.size 24 3 v' n cs ∧ Below w.heap.size w w' := by
  obtain ⟨i0, hi, hz0, hz1, hz2⟩ := info_parts (P := Tryz.prog) (e := 24) (z := .agg #[.int .i64 0, .string ⟨#[]⟩, .string ⟨#[]⟩]) (size := 3) (bytes := 40) (by kernel_rfl)
  have q1 : ∀ (w : World) (a : Option Addr) (n c n' c' : Nat), (binOp .eql 29 (.slice a n c) (.slice none n' c')).run Tryz.prog w = .ok (.bool a.isNone) w := fun w a n c n' c' => Lib.run_eql_slice_nil w _ _ a n c n' c' Tryz.underlying29
  have A : Aside (∀ j u, cs[j]? = some u → w.cell? (ad.add j) = some u) := hc
  clear hc
  have mixed : Tryz.prog.follows .mixedOrders = true := by kernel_rfl
  have t0 := Tryz.underlying29
  have t1 := Tryz.underlying24
  have a0 := Tryz.isAgg29
  have z0 := Tryz.sizeOf24
  have v0 := Tryz.zeroValue24
  go_enter Tryz.func47, Tryz.ntmps47
  go_wp2_with (at_builtin; refine wpList_append_own _ rfl _ _ 29 rfl w.heap.size 24 i0 (.agg #[.int .i64 0, .string ⟨#[]⟩, .string ⟨#[]⟩]) 3 40 t0 hi hz0 hz1 hz2 rfl (by decide) _ _ _ rfl (World.ownsRow_made w #[] 0 (Nat.le_refl _) (Nat.zero_le _) rfl) ad n c cs rfl ?qc1 ?qc2 ?qc3 ?qc4 ?qc5 ?qc6 ?_)
  case qc1 => exact hl
  case qc2 =>
    intro j u hj
    exact Lib.cell?_alloc_some _ (A.out j u hj)
  case qc3 => exact h1
  case qc4 => unfold maxLen; omega
  case qc5 => omega
  case qc6 => simp
  intro v' w1 hown hgrow hnil
  go_wp2
  go_ret
  refine ⟨v', rfl, by simpa using hown, ?_⟩
  exact ((Below.refl _ w).alloc (Nat.le_refl _) _).grown hgrow (by simp) (by intro k hk; simp [Value.ownBlock] at hk; omega)
set_option maxHeartbeats 1000000 in
theorem cloneF_nil (n c : Nat) (w : World) : Calls Tryz.prog 47 #[.slice none n c] w fun e w' => e = .returned (.slice none 0 0) ∧ w' = w := by
  have q1 : ∀ (w : World) (a : Option Addr) (n c n' c' : Nat), (binOp .eql 29 (.slice a n c) (.slice none n' c')).run Tryz.prog w = .ok (.bool a.isNone) w := fun w a n c n' c' => Lib.run_eql_slice_nil w _ _ a n c n' c' Tryz.underlying29
  have mixed : Tryz.prog.follows .mixedOrders = true := by kernel_rfl
  have t0 := Tryz.underlying29
  have t1 := Tryz.underlying24
  have a0 := Tryz.isAgg29
  have z0 := Tryz.sizeOf24
  have v0 := Tryz.zeroValue24
  go_enter Tryz.func47, Tryz.ntmps47
  go_wp2
  go_ret
  exact ⟨rfl, rfl⟩
end Go.Proofs.YtohlhliifeeokaaGreat.Q
namespace Go.Proofs.YtohlhliifeeokaaGreat.A
open Go Go.RowKit Go.Proofs.YtohlhliifeeokaaGreat.Ab
set_option linter.unusedVariables false
theorem row_comes {t : Ty} {e : TypeId} {S : Mem} {w w' : World} {v : Value} {l : List t.den} {xs : List Value} (hS : ∀ p v, S p = some v → w.cell? p = some v) (hb : Below w.heap.size w w') (hrow : RowList S t l xs) (hown : w'.ownsRow w.heap.size e t.width v l.length xs) : Comes1 [.sl t] (l, ()) S w (.returned v) w' := by
  rcases hown.2 with ⟨rfl, hz⟩ | ⟨g, cap, cur, rfl, hB, hh, hcap, _, hcs, htake⟩
  · obtain rfl : l = [] := List.length_eq_zero_iff.1 hz
    refine ⟨_, S, rfl, Mem.le_refl S, fun p u h => (hb.cell (World.block_lt_of_cell? w _ (hS p u h))).trans (hS p u h), fun p u h h0 => (by rw [h] at h0; cases h0), ?_, hb⟩
    exact (⟨none, 0, rfl, Nat.le_refl _, fun i x hi => by simp [lst] at hi⟩ : Reps S (.sl t) [] _)
  · have hne : ∀ p u, S p = some u → p.block ≠ g := fun p u h => by have := World.block_lt_of_cell? w _ (hS p u h); omega
    have hle : S.le (memAdd S g xs) := fun p u h => by unfold memAdd; rw [if_neg (hne p u h)]; exact h
    refine ⟨_, memAdd S g xs, rfl, hle, fun p u h => ?_, fun p u h h0 => ?_, ?_, hb⟩
    · unfold memAdd at h
      split at h
      · rename_i hpb
        obtain ⟨pb, po, ps⟩ := p
        simp only at hpb; subst hpb
        cases ps with
        | some z => cases h
        | none =>
          simp only at h
          rw [← htake, List.getElem?_take] at h
          split at h
          · simpa [World.cell?, hh] using h
          · cases h
      · exact (hb.cell (World.block_lt_of_cell? w _ (hS p u h))).trans (hS p u h)
    · unfold memAdd at h
      split at h
      · rename_i hpb; rw [hpb]; exact ⟨hB, _, _, hh⟩
      · rw [h] at h0; cases h0
    · refine (⟨some ⟨g, 0, none⟩, cap, rfl, hcap, fun i x hi => ?_⟩ : Reps (memAdd S g xs) (.sl t) l _)
      obtain ⟨us, k1, k2⟩ := (hrow.mono hle).2 i x hi
      refine ⟨_, us, rfl, k1, fun j u hj => ?_⟩
      rw [add_at, Nat.zero_add]
      unfold memAdd
      rw [if_pos rfl]
      exact k2 j u hj
abbrev FTy : Ty := .cons (.int .i64) (.cons .str (.cons .str .nil))
def slices_Clone_api_File_api_File_sig (k : Nat) : Sig := ⟨[.sl FTy], [.sl FTy], fun x => slices_Clone_api_File_api_File k x.1⟩
theorem slices_Clone_api_File_api_File_ok (k : Nat) : FnOk Go.Proofs.Tryz.prog 47 (slices_Clone_api_File_api_File_sig k) := by
  refine ⟨entersAb (by kernel_rfl), ?_⟩
  rintro ⟨l, _⟩ ⟨r, _⟩ hy S w vs hS ha
  change List FTy.den at l
  change List FTy.den at r
  match vs, ha with
  | [v1], ⟨h1, _⟩ =>
  have h1 : Reps S (.sl FTy) l [v1] := h1
  replace hy : slices_Clone_api_File_api_File k l = some (r, ()) := hy
  unfold slices_Clone_api_File_api_File at hy
  rw [cond_eq_ite] at hy
  split at hy
  · rename_i hlen
    have hlen : l.length * 40 ≤ 140737488355328 := of_decide_eq_true hlen
    obtain rfl : l = r := congrArg Prod.fst (Option.some.inj hy)
    obtain ⟨A, c, hv, hc, hel⟩ := id h1
    obtain rfl : v1 = .slice A (lst (t := FTy) l).length c := by simpa using hv
    cases A with
    | none =>
      have hl0 : l = [] := by
        cases l with
        | nil => rfl
        | cons x l => obtain ⟨a, us, e, _⟩ := hel 0 x rfl; cases e
      subst hl0
      refine (Q.cloneF_nil _ c w).mono ?_
      rintro e w' ⟨rfl, rfl⟩
      exact row_comes hS (Below.refl _ _) (RowList.nil S FTy) (e := 0) ⟨rfl, .inl ⟨rfl, rfl⟩⟩
    | some a =>
      obtain ⟨xs, k1, k2⟩ := reps_row (S := S) (t := FTy) (ad := a) l 0 (fun i x hi => by
        obtain ⟨a', us, e, g1, g2⟩ := hel i x hi
        cases e
        exact ⟨us, g1, fun j u hj => by have := g2 j u hj; simpa using this⟩)
      refine (Q.cloneF_calls a l.length c xs w k1.1 k1.oneCell hlen (fun j u hj => hS _ _ (by have := k2 j u hj; simpa using this))).mono ?_
      rintro e w' ⟨v', rfl, hown, hb⟩
      exact row_comes hS hb k1 hown
  · cases hy
end Go.Proofs.YtohlhliifeeokaaGreat.A
