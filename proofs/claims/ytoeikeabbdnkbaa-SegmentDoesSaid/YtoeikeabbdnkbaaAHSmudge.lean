/- watchmanlaw14.smudge turns the files of a log that is handed on, and nothing else. -/
import Derived.Test.YtoeikeabbdnkbaaAHKit
import Derived.Test.YtoeikeabbdnkbaaAHIntsDef
import Derived.Below
import Derived.Test.YtoeikeabbdnkbaaAbG
import Derived.Test.YtoeikeabbdnkbaaProg
import Derived.WalkKit
import Derived.Deep.LoopGhost
import Derived.Lib.Walk
import Derived.Lib.SliceRun
import Derived.OwnWalk
import Derived.LoopN
import Derived.KernelRfl
namespace Go.Proofs.Ytoeikeabbdnkbaa.Q
open Go Go.RowKit Go.Lib Go.Proofs.Ytoeikeabbdnkbaa.Ab Go.Proofs.Ytoeikeabbdnkbaa.A
set_option linter.unusedVariables false
set_option linter.unusedSimpArgs false

/-- What stays, as a block of files is turned. -/
def SmJ (w : World) (b m : Nat) (e0 : TypeId) (vs : Array Value) (w' : World) : Prop :=
  w'.os = w.os ∧ w'.tape = w.tape ∧ w'.output = w.output ∧ w.heap.size + 1 ≤ w'.heap.size ∧ (∀ k, k < w.heap.size → k ≠ b → w'.heap[k]? = w.heap[k]?) ∧ w'.heap[w.heap.size]? = some (.cells vs 25 (0, 0)) ∧
    ∃ cur, w'.heap[b]? = some (.cells cur e0 (0, 0)) ∧ cur.size = m
set_option maxHeartbeats 2000000 in
set_option maxRecDepth 100000 in
theorem smudge_calls (x1 x2 : Value) (b o n c m : Nat) (e0 : TypeId) (w : World) (hb : ∃ cur, w.heap[b]? = some (.cells cur e0 (0, 0)) ∧ cur.size = m) (hm : o + n * 3 ≤ m) (hn : n ≤ 1000000000000) :
    Calls Try.prog 47 #[.agg #[x1, x2, .slice (some ⟨b, o, none⟩) n c]] w fun e w' => e = .returned (.tuple #[]) ∧ SmJ w b m e0 #[x1, x2, .slice (some ⟨b, o, none⟩) n c] w' := by
  have HB := Sd.mk hb
  clear hb
  have HJ0 : Sd (SmJ w b m e0 #[x1, x2, .slice (some ⟨b, o, none⟩) n c] (w.alloc (.cells #[x1, x2, .slice (some ⟨b, o, none⟩) n c] 25))) := ⟨by
    obtain ⟨cur, h1, h2⟩ := HB.out
    have hlt := (Array.getElem?_eq_some_iff.1 h1).1
    refine ⟨rfl, rfl, rfl, by show w.heap.size + 1 ≤ (w.heap.push _).size; rw [Array.size_push]; exact Nat.le_refl _, fun k hk _ => Below.heap_alloc w _ _ hk, ?_, cur, (Below.heap_alloc w _ _ hlt).trans h1, h2⟩
    show (w.heap.push _)[w.heap.size]? = _
    rw [Array.getElem?_push_size]⟩
  have HLT := Sd.mk (show b < w.heap.size by obtain ⟨cur, h1, h2⟩ := HB.out; exact (Array.getElem?_eq_some_iff.1 h1).1)
  clear HB
  go_enter Try.func47, Try.ntmps47
  go_wp2
  go_loopw [2] (fun v2 w' => ∃ i : Nat, i ≤ n ∧ v2 = .int .i64 i ∧ Sd (SmJ w b m e0 #[x1, x2, .slice (some ⟨b, o, none⟩) n c] w')) (fun v _ => n - (RowKit.intOf v).toNat)
  case atStart => exact ⟨0, by omega, rfl, HJ0⟩
  case round =>
    clear HJ0
    obtain ⟨i, hi, rfl, HJ⟩ := hrel
    have hc2 : wr.cell? ⟨w.heap.size, 2, none⟩ = some (.slice (some ⟨b, o, none⟩) n c) := bk_cell HJ.out.2.2.2.2.2.1 2
    by_cases hlt : i < n
    · obtain ⟨u, hu⟩ : ∃ u, wr.cell? ⟨b, o + i * 3, none⟩ = some u := by
        obtain ⟨cur, h1, h2⟩ := HJ.out.2.2.2.2.2.2
        have hl : o + i * 3 < cur.size := by omega
        exact ⟨_, (bk_cell h1 (o + i * 3)).trans (Array.getElem?_eq_getElem hl)⟩
      have hf : wr.frozen? ⟨b, o + i * 3, none⟩ = false := by
        obtain ⟨cur, h1, h2⟩ := HJ.out.2.2.2.2.2.2
        exact bk_frozen h1 _
      go_wp2
      go_roundw
      case measure => simp [RowKit.intOf]; omega
      case rel =>
        refine ⟨i + 1, by omega, by go_num, ⟨?_⟩⟩
        obtain ⟨q1, q2, q3, q4, q5, q6, cur, q7, q8⟩ := HJ.out
        refine ⟨q1, q2, q3, by simp only [World.setCell, Array.size_modify]; exact q4, fun k hk hne => (Below.heap_setCell _ _ _ _ hne).trans (q5 k hk hne), (Below.heap_setCell _ _ _ _ (by have := HLT.out; show w.heap.size ≠ b; omega)).trans q6, _, bk_put q7 _ _ rfl, ?_⟩
        rw [Array.size_setIfInBounds]; exact q8
    · go_wp2
      go_end0
      exact ⟨rfl, HJ.out⟩
set_option maxHeartbeats 1000000 in
set_option maxRecDepth 100000 in
theorem smudge_nil (x1 x2 : Value) (A : Option Addr) (c : Nat) (w : World) : Calls Try.prog 47 #[.agg #[x1, x2, .slice A 0 c]] w fun e w' => e = .returned (.tuple #[]) ∧ Below w.heap.size w w' := by
  have HJ0 : Sd (Below w.heap.size w (w.alloc (.cells #[x1, x2, .slice A 0 c] 25)) ∧ (w.alloc (.cells #[x1, x2, .slice A 0 c] 25)).heap[w.heap.size]? = some (.cells #[x1, x2, .slice A 0 c] 25 (0, 0))) := ⟨(Below.refl _ w).alloc (Nat.le_refl _) _, by
    show (w.heap.push _)[w.heap.size]? = _
    rw [Array.getElem?_push_size]⟩
  go_enter Try.func47, Try.ntmps47
  go_wp2
  go_loopw [2] (fun v2 w' => v2 = .int .i64 0 ∧ Sd (Below w.heap.size w w' ∧ w'.heap[w.heap.size]? = some (.cells #[x1, x2, .slice A 0 c] 25 (0, 0)))) (fun _ _ => 0)
  case atStart => exact ⟨rfl, HJ0⟩
  case round =>
    clear HJ0
    obtain ⟨rfl, HJ⟩ := hrel
    have hc2 : wr.cell? ⟨w.heap.size, 2, none⟩ = some (.slice A 0 c) := bk_cell HJ.out.2 2
    go_wp2
    go_end0
    exact ⟨rfl, HJ.out.1⟩
end Go.Proofs.Ytoeikeabbdnkbaa.Q
namespace Go.Proofs.Ytoeikeabbdnkbaa.A
open Go Go.RowKit Go.Proofs.Ytoeikeabbdnkbaa.Ab
set_option linter.unusedVariables false
abbrev SmT : Ty := .cons (.int .i64) (.cons .str (.cons .str .nil))
theorem law14_smudge_spoil : SpoilOk Go.Proofs.Try.prog 47 SmT := by
  refine ⟨entersAb (by kernel_rfl), fun x1 x2 v l Sf w hlen9 hSf hrep => ?_⟩
  change List SmT.den at l
  obtain ⟨A, c, e, hc, hel⟩ := hrep
  obtain rfl : v = .slice A (lst (t := SmT) l).length c := by simpa using e
  cases l with
  | nil =>
    refine (Q.smudge_nil x1 x2 A c w).mono ?_
    rintro e w' ⟨rfl, h⟩
    exact ⟨rfl, h.os, h.tape, h.output, h.size, fun g ⟨cur, e, q⟩ => ⟨cur, e, (h.block g (Array.getElem?_eq_some_iff.1 q).1).trans q⟩, fun k hk _ => h.block k hk⟩
  | cons x l =>
    obtain ⟨ad, us, rfl, k7, k8⟩ := hel 0 x rfl
    have hl : us.length = 3 := k7.width
    have hblk : ∀ k, (ad.add k).block = ad.block := fun k => by unfold Addr.add; split <;> rfl
    obtain ⟨cur, e0, hz⟩ : Unfz w ad.block := by
      have := (hSf _ _ (k8 0 us[0] (by simp [show 0 < us.length by omega]))).2
      rwa [hblk] at this
    -- the last cell lies in the block
    obtain ⟨a', us', e', k9, k10⟩ := hel l.length ((x :: l).getLast (by simp)) (by
      show (x :: l)[l.length]? = _
      rw [List.getLast_eq_getElem]; simp)
    cases e'
    have hl' : us'.length = 3 := k9.width
    have hcell := (hSf _ _ (k10 2 us'[2] (by simp [show 2 < us'.length by omega]))).1
    obtain ⟨b, o, sp⟩ := ad
    have hsp : sp = none := by
      have hc0 := (hSf _ _ (k8 0 us[0] (by simp [show 0 < us.length by omega]))).1
      cases sp with
      | none => rfl
      | some z => simp [World.cell?, hz, Addr.add] at hc0
    subst hsp
    rw [add_at, Q.bk_cell hz] at hcell
    have hin := (Array.getElem?_eq_some_iff.1 hcell).1
    have hlen : (lst (t := SmT) (x :: l)).length = l.length + 1 := rfl
    have hw : SmT.width = 3 := rfl
    rw [hw] at hin
    refine (Q.smudge_calls x1 x2 b o (lst (t := SmT) (x :: l)).length c cur.size e0 w ⟨cur, hz, rfl⟩ (by rw [hlen]; omega) ?_).mono ?_
    · exact hlen9
    · rintro e w' ⟨rfl, q1, q2, q3, q4, q5, q6, cur', q7, q8⟩
      refine ⟨rfl, q1, q2, q3, by omega, fun g hg => ?_, fun k hk hne => q5 k hk fun q => ?_⟩
      · by_cases hgb : g = b
        · subst hgb; exact ⟨_, _, q7⟩
        · obtain ⟨cur, e, q⟩ := hg
          exact ⟨cur, e, (q5 g (Array.getElem?_eq_some_iff.1 q).1 hgb).trans q⟩
      · rcases hne with h | h
        · cases h
        · exact h (by rw [q]; rfl)
end Go.Proofs.Ytoeikeabbdnkbaa.A
