/- wire's digits: the function value that it answers calls its round at a number's digits, the lowest one first. -/
import Derived.Test.YtohlhliifeeokaaGreatRange
import Derived.Test.YtohlhliifeeokaaGreatProg
import Derived.OwnWalkIn
import Derived.TacticsInMore
import Derived.LoopNIn
import Derived.LoopIn
import Derived.Test.YtohlhliifeeokaaGreatAHKit
import Derived.Test.YtohlhliifeeokaaGreatAHIntsDef
namespace Go.Proofs.YtohlhliifeeokaaGreat.Q
open Go.RowKit Go.Shelf Go.Proofs.YtohlhliifeeokaaGreat.A
attribute [local go_sem] Oper.semAt_some
set_option linter.unusedVariables false
set_option linter.unusedSimpArgs false
set_option maxHeartbeats 1000000 in
theorem digits_calls (n : Int) (w : World) :
    Calls Tryz.prog 103 #[.int .i64 n] w fun e w' => e = .returned (.func (.func 110) #[] #[.pointer (some ⟨w.heap.size, 0, none⟩)]) ∧ w' = w.alloc (.cells #[.int .i64 n] 3) := by
  have hmf : ∀ (fn : Fn) (first cap : Array Value) (w : World), (Instr.makeFunc fn first cap).run Tryz.prog w = .ok (.func fn first cap) w := fun _ _ _ _ => rfl
  go_enter Tryz.func103, Tryz.ntmps103
  go_wp2
  go_ret
  exact ⟨rfl, rfl⟩
set_option maxHeartbeats 2000000 in
set_option maxRecDepth 100000 in
theorem digits_all (Bn : Nat) (f : Nat) (n : Int) (h0 : 0 ≤ n) (hn : n < 250 ^ f) (hm : n ≤ 9223372036854775807) (l : Nat) (J : List Int → World → Prop)
    (hJ : ∀ pre W1 W2 row, J pre W1 → W1.grownBy W2 row → (∀ r, row = some r → r = Bn) → J pre W2)
    (hY : ∀ pre x post W1, digsF f n = pre ++ x :: post → J pre W1 → (∃ cs, W1.heap[Bn]? = some (.cells cs 3 (0, 0))) → YieldAt Fence.wide 0 Tryz.prog l #[.int .u8 x] W1 fun e W' => e = .returned (.bool true) ∧ J (pre ++ [x]) W' ∧ W'.heap[Bn]? = W1.heap[Bn]?)
    (W : World) (hB : W.heap[Bn]? = some (.cells #[.int .i64 n] 3 (0, 0))) (hJ0 : J [] W) :
    CallsIn Fence.wide 0 Tryz.prog 110 #[.func (.yield l) #[] #[], .pointer (some ⟨Bn, 0, none⟩)] W fun e W' => (∃ v, e = .returned v) ∧ J (digsF f n) W' := by
  have HJ := Sd.mk hJ
  have HY := Sd.mk hY
  have HN := Sd.mk hn
  clear hJ hY hn
  refine callsIn_of_wp Tryz.func110 rfl trivial ?_ rfl
  simp only [Tryz.ntmps110, List.size_toArray, List.length_cons, List.length_nil, Nat.reduceAdd, Nat.reduceSub, Array.replicate_succ, Array.replicate_zero, List.push_toArray, List.append_toArray, List.nil_append, List.cons_append]
  gi_wp2
  gi_loopw [3] (fun _ wr => ∃ (pre : List Int) (g : Nat) (m : Int), 0 ≤ m ∧ m ≤ 9223372036854775807 ∧ Sd (m < 250 ^ g) ∧ Sd (digsF f n = pre ++ digsF g m) ∧ Sd (J pre wr) ∧ Sd (wr.heap[Bn]? = some (.cells #[.int .i64 m] 3 (0, 0))))
    (fun _ wr => (intOf ((wr.cell? ⟨Bn, 0, none⟩).getD undef)).toNat)
  case atStart => exact ⟨[], f, n, h0, hm, ⟨HN.out⟩, ⟨rfl⟩, ⟨hJ0⟩, ⟨hB⟩⟩
  case round =>
    obtain ⟨pre, g, m, hm0, hm1, HG, HD, HJs, HB⟩ := hrel
    have hc := bk_cell HB.out 0
    have hf := bk_frozen HB.out 0
    simp only [List.getElem?_toArray, List.getElem?_cons_zero] at hc
    by_cases hp : 0 < m
    · cases g with
      | zero => exact absurd HG.out (by simp; omega)
      | succ g =>
        have hd : digsF f n = pre ++ (m % 250) :: digsF g (m / 250) := by rw [HD.out, digsF, if_pos hp]
        obtain ⟨fn, tmps, assign, body, hy, hR⟩ := HY.out pre (m % 250) _ wr hd HJs.out ⟨_, HB.out⟩
        have HD2 := Sd.mk hd
        clear hd
        have hr0 : 0 ≤ m % 250 := by omega
        have hr1 : m % 250 < 250 := by omega
        gi_wp2
        refine ⟨rfl, hR.mono ?_⟩
        rintro e W3 ⟨rfl, hJ3, hB3⟩
        have HB3 := Sd.mk (hB3.trans HB.out)
        have HJ3 := Sd.mk hJ3
        clear hB3 hJ3 hR hy
        have hc3 := bk_cell HB3.out 0
        have hf3 := bk_frozen HB3.out 0
        simp only [List.getElem?_toArray, List.getElem?_cons_zero] at hc3
        gi_wp2
        go_roundw
        case rel =>
          refine ⟨pre ++ [m % 250], g, m / 250, by omega, by omega, ⟨?_⟩, ⟨by rw [HD2.out]; simp⟩, ⟨HJ.out _ _ _ (some Bn) HJ3.out ?_ (fun r e => by cases e; rfl)⟩, ⟨bk_put HB3.out 0 _ rfl⟩⟩
          · have := HG.out
            rw [Int.pow_succ] at this
            omega
          · exact ⟨rfl, rfl, rfl, by simp [World.setCell], fun k _ hk => Below.heap_setCell _ _ _ _ (fun e => hk (by simp [e]))⟩
        case measure =>
          have h1 : (W3.setCell ⟨Bn, 0, none⟩ (.int .i64 (m / 250))).cell? ⟨Bn, 0, none⟩ = some (.int .i64 (m / 250)) := (bk_cell (bk_put (w := W3) HB3.out 0 (.int .i64 (m / 250)) rfl) 0).trans rfl
          rw [h1, hc]
          simp [intOf]
          omega
    · gi_wp2
      go_end0
      have e : digsF g m = [] := by cases g <;> simp [digsF, hp]
      have h2 := HD.out
      rw [e, List.append_nil] at h2
      exact ⟨⟨_, rfl⟩, by rw [h2]; exact HJs.out⟩
end Go.Proofs.YtohlhliifeeokaaGreat.Q
