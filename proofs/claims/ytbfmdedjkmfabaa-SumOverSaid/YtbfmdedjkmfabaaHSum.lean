/- The walks of (*sum.state).add and (*sum.reader).read: a call leaves in the state just the sum of the texts' bytes. -/
import Derived.Test.YtbfmdedjkmfabaaHSumPure
import Derived.Test.YtbfmdedjkmfabaaQx1
import Derived.StillTailTactics
import Derived.WalkSpells
namespace Go.Proofs.Ytbfmdedjkmfabaa.Q
open Go.RowKit Go.Proofs.YtbfmdedjkmfabaaW.PrintWords Go.Proofs.YtbfmdedjkmfabaaW.PrintLast Go.Proofs.YtbfmdedjkmfabaaW.PrintMore
set_option linter.unusedVariables false
set_option linter.unusedSimpArgs false

theorem addr_add_block (a : Addr) (n : Nat) : (a.add n).block = a.block := by unfold Addr.add; split <;> rfl
theorem take_all8 (s : ByteArray) : s.data.toList.take s.size = s.data.toList := List.take_of_length_le (Nat.le_of_eq (by rw [Array.length_toList]; rfl))
theorem take_snoc8 (s : ByteArray) (k : Nat) (h : k < s.size) : s.data.toList.take (k + 1) = s.data.toList.take k ++ [s[k]] := by
  rw [List.take_succ_eq_append_getElem (by simpa using h)]; rfl

set_option maxHeartbeats 4000000 in
set_option maxRecDepth 100000 in
theorem sum_state_addT (g T : Nat) (c b : Int) (w0 w : World) (hI : w.heap[g]? = some (.cells #[.int .i64 c] T (0, 0))) (hB : Below w0.heap.size w0 w) (hg : w0.heap.size ≤ g) :
    Calls Try.prog 39 #[.pointer (some ⟨g, 0, none⟩), .int .u8 b] w fun e w' => e = .returned (.tuple #[]) ∧ w'.heap[g]? = some (.cells #[.int .i64 (crcByte c b)] T (0, 0)) ∧ Below w0.heap.size w0 w' ∧ KeepBut w w' g none := by
  have HI0 := Aside0.mk hI
  have HK := Aside0.mk (KeepBut.refl w g none)
  have HB := Aside0.mk hB
  have HG := Aside0.mk hg
  have hcz := blk_cell hI 0
  have hfz := blk_frozen hI 0
  simp only [List.getElem?_toArray, List.getElem?_cons_zero] at hcz
  clear hB hI hg
  go_enter Try.func39, Try.ntmps39
  go_wp2
  go_loopw [14] (fun v14 w' => ∃ j : Nat, j ≤ 8 ∧ v14 = .int .i64 j ∧ Aside0 (w'.heap[g]? = some (.cells #[.int .i64 (crcTurns j (Go.bits .xor .i64 c (wrap64 (wrap64 b * 256))))] T (0, 0))) ∧ Aside0 (KeepBut w w' g none) ∧ Aside0 (Below w0.heap.size w0 w')) (fun v _ => 8 - (intOf v).toNat)
  case atStart => exact ⟨0, by omega, rfl, ⟨blk_put HI0.out 0 _ rfl⟩, ⟨KeepBut.set_ HK.out _ _⟩, ⟨HB.out.setCell HG.out _⟩⟩
  case round =>
    clear hcz hfz HI0 HK HB
    obtain ⟨j, hj, rfl, HI, HK, HB⟩ := hrel
    have hcz := blk_cell HI.out 0
    have hfz := blk_frozen HI.out 0
    simp only [List.getElem?_toArray, List.getElem?_cons_zero] at hcz
    obtain ⟨X, hX⟩ : ∃ X, crcTurns j (Go.bits .xor .i64 c (wrap64 (wrap64 b * 256))) = X := ⟨_, rfl⟩
    have HS := Aside0.mk (crcTurns_succ j (Go.bits .xor .i64 c (wrap64 (wrap64 b * 256))))
    rw [hX] at hcz
    have HX := Aside0.mk hX
    clear hX
    by_cases hlt : j < 8
    · by_cases h2 : wrap64 (X * 2) ≥ 65536
      · have HV := Aside0.mk (show crcTurn X = Go.bits .xor .i64 (wrap64 (X * 2)) 69665 from if_pos h2)
        have c5b0 : decide (65536 ≤ (wrap64 (X * 2))) = true := decide_eq_true h2
        clear h2
        go_wp2
        go_roundw
        case measure => simp [intOf]; omega
        case rel =>
          have e : crcTurns (j + 1) (Go.bits .xor .i64 c (wrap64 (wrap64 b * 256))) = Go.bits .xor .i64 (wrap64 (X * 2)) 69665 := by rw [HS.out, HX.out, HV.out]
          exact ⟨j + 1, by omega, by go_num, ⟨by rw [e]; exact blk_put (blk_put HI.out 0 _ rfl) 0 _ rfl⟩, ⟨KeepBut.set_ (KeepBut.set_ HK.out _ _) _ _⟩, ⟨(HB.out.setCell HG.out _).setCell HG.out _⟩⟩
      · have HV := Aside0.mk (show crcTurn X = wrap64 (X * 2) from if_neg h2)
        have c5b0 : decide (65536 ≤ (wrap64 (X * 2))) = false := decide_eq_false h2
        clear h2
        go_wp2
        go_roundw
        case measure => simp [intOf]; omega
        case rel =>
          have e : crcTurns (j + 1) (Go.bits .xor .i64 c (wrap64 (wrap64 b * 256))) = wrap64 (X * 2) := by rw [HS.out, HX.out, HV.out]
          exact ⟨j + 1, by omega, by go_num, ⟨by rw [e]; exact blk_put HI.out 0 _ rfl⟩, ⟨KeepBut.set_ HK.out _ _⟩, ⟨HB.out.setCell HG.out _⟩⟩
    · obtain rfl : j = 8 := by omega
      go_wp2
      go_end0
      exact ⟨rfl, HI.out, HB.out, HK.out⟩

/-- What a call of read makes of a sum's state; it answers the same number. -/
def sum_reader_read.f (c : Int) (l : List ByteArray) : Option (Int × Int) := if l.all (fun s => decide (s.size ≤ 9223372036854775807)) = true then some (crcRow c l, crcRow c l) else none

set_option maxHeartbeats 4000000 in
set_option maxRecDepth 100000 in
theorem sum_reader_read.calls (g : Nat) (s0_0 : Int) (A1 : Option Addr) (c1 : Nat) (l1 : List ByteArray) (r1 r2 : Int) (w0 w : World) (hI : IsS60 w0 w g s0_0) (hB : Below w0.heap.size w0 w) (hr1 : Kd.C Kd.string w A1 l1.length l1) (hc1 : l1.length ≤ c1) (hf1 : ∀ ad, A1 = some ad → 0 < l1.length → ad.block ≠ g) (h : sum_reader_read.f s0_0 l1 = some (r1, r2)) :
    Calls Try.prog 38 #[.pointer (some ⟨g, 0, none⟩), .slice A1 l1.length c1] w fun e w' => e = .returned (.int .i64 r1) ∧ IsS60 w0 w' g r2 ∧ Below w0.heap.size w0 w' ∧ KeepBut w w' g none := by
  unfold sum_reader_read.f at h
  split at h
  case isFalse => cases h
  rename_i hall
  obtain ⟨rfl, rfl⟩ : crcRow s0_0 l1 = r1 ∧ crcRow s0_0 l1 = r2 := by simpa using h
  clear h
  have HALL := Aside0.mk (fun s hs => of_decide_eq_true (List.all_eq_true.1 hall s hs) : ∀ s ∈ l1, s.size ≤ 9223372036854775807)
  have hlen : l1.length ≤ 9223372036854775807 := hr1.2.1
  have HR := Aside0.mk hr1
  have HF := Aside0.mk hf1
  have HB := Aside0.mk hB
  have HI := Aside0.mk hI
  have HK := Aside0.mk (KeepBut.refl w g none)
  have HG := Aside0.mk hI.2
  clear hr1 hc1 hf1 hall hB hI
  go_enter Try.func38, Try.ntmps38
  go_wp2
  go_loopw [10] (fun v10 w' => ∃ i : Nat, i ≤ l1.length ∧ v10 = .int .i64 i ∧ Aside0 (IsS60 w0 w' g (crcRow s0_0 (l1.take i))) ∧ Aside0 (Below w0.heap.size w0 w') ∧ Aside0 (KeepBut w w' g none)) (fun v _ => l1.length - (intOf v).toNat)
  case atStart => exact ⟨0, by omega, rfl, HI, HB, HK⟩
  case round =>
    clear HI HB HK
    obtain ⟨i, hi, rfl, HI, HB, HK⟩ := hrel
    obtain ⟨wo, rfl⟩ : ∃ wo : World, wo = wr := ⟨_, rfl⟩
    by_cases hlt : i < l1.length
    · obtain ⟨ad, e, hx⟩ := Kd.at_string HR.out (i : Int) (by omega) (by omega)
      have hne := HF.out ad e (by omega)
      cases e
      have hx2 := keep_cell HK.out hx (by rw [addr_add_block]; exact hne)
      clear hx
      obtain ⟨s, hs⟩ : ∃ s, rdOf ByteArray.empty l1 (i : Int) = s := ⟨_, rfl⟩
      rw [hs] at hx2
      simp only [Int.toNat_natCast] at hx2
      have hs2 : l1[i] = s := by rw [← hs]; simp [rdOf, List.getD_eq_getElem?_getD, List.getElem?_eq_getElem hlt]
      have hsz : s.size ≤ 9223372036854775807 := HALL.out s (by rw [← hs2]; exact List.getElem_mem _)
      have HST := Aside0.mk (show crcRow s0_0 (l1.take (i + 1)) = crcStr (crcRow s0_0 (l1.take i)) s.data.toList by
        rw [List.take_succ_eq_append_getElem hlt, hs2]; simp [crcRow, List.foldl_append])
      clear hs hs2
      go_wp2
      go_loopw [16] (fun v16 w' => ∃ m : Nat, m ≤ s.size ∧ v16 = .int .i64 m ∧ Aside0 (IsS60 w0 w' g (crcStr (crcRow s0_0 (l1.take i)) (s.data.toList.take m))) ∧ Aside0 (Below w0.heap.size w0 w') ∧ Aside0 (KeepBut w w' g none)) (fun v _ => s.size - (intOf v).toNat)
      case atStart => exact ⟨0, by omega, rfl, HI, HB, HK⟩
      case round =>
        clear HI HB HK hx2
        obtain ⟨m, hm, rfl, HI, HB, HK⟩ := hrel
        by_cases hlm : m < s.size
        · have HT := Aside0.mk (show crcStr (crcRow s0_0 (l1.take i)) (s.data.toList.take (m + 1)) = crcByte (crcStr (crcRow s0_0 (l1.take i)) (s.data.toList.take m)) (s[m].toNat : Int) by
            rw [take_snoc8 s m hlm]; simp [crcStr, List.foldl_append])
          obtain ⟨X, hX⟩ : ∃ X, crcStr (crcRow s0_0 (l1.take i)) (s.data.toList.take m) = X := ⟨_, rfl⟩
          rw [hX] at HI
          have HX := Aside0.mk hX
          clear hX
          have c0 : decide ((m : Int) < (s.size : Int)) = true := decide_eq_true (by omega)
          go_wp2
          go_still_tail 6, (by kernel_rfl)
          go_wp2_with (go_at_call 39; go_must (refine (sum_state_addT g 60 X _ w0 wr.drew HI.out.1 (below_drew HB.out) HG.out).mono ?_); rintro e w' ⟨rfl, h1, h2, h3⟩; have HI' := Aside0.mk h1; have HB' := Aside0.mk h2; have HK' := Aside0.mk (KeepBut.trans (keep_drew HK.out) h3 (.inl rfl)); clear h1 h2 h3)
          go_roundw
          case measure => simp [intOf]; omega
          case rel => exact ⟨m + 1, by omega, by go_num, ⟨by rw [HT.out, HX.out]; exact ⟨HI'.out, HG.out⟩⟩, HB', HK'⟩
        · obtain rfl : m = s.size := by omega
          go_wp2
          go_roundw
          case measure => simp [intOf]; omega
          case rel => exact ⟨i + 1, by omega, by go_num, ⟨by rw [HST.out]; have := HI.out; rwa [take_all8] at this⟩, HB, HK⟩
    · obtain rfl : i = l1.length := by omega
      have HI2 := HI.out
      rw [List.take_length] at HI2
      have hcz := blk_cell HI2.1 0
      simp only [List.getElem?_toArray, List.getElem?_cons_zero] at hcz
      have HI3 := Aside0.mk HI2
      clear HI2
      go_wp2
      go_ret
      exact ⟨rfl, HI3.out, HB.out, HK.out⟩
end Go.Proofs.Ytbfmdedjkmfabaa.Q
