/- The walks of (*sum.state).add and (*sum.reader).read: a call leaves in the state just the sum of the texts' bytes. -/
import Derived.Test.YtohlhliifeeokaaGreatAHSumDef
import Derived.Test.YtohlhliifeeokaaGreatAHKit
import Derived.Test.YtohlhliifeeokaaGreatAHJoin
import Derived.StillTailTactics
import Derived.WalkSpells
namespace Go.Proofs.YtohlhliifeeokaaGreat.Q
open Go.RowKit Go.Proofs.YtohlhliifeeokaaGreat.A
set_option linter.unusedVariables false
set_option linter.unusedSimpArgs false
def Kc (w w' : World) (g : Nat) : Prop := ∀ (p : Addr) (v : Value), p.block ≠ g → w.cell? p = some v → w'.cell? p = some v
theorem Kc.refl (w : World) (g : Nat) : Kc w w g := fun _ _ _ h => h
theorem Kc.set_ {w w1 : World} {g : Nat} (h : Kc w w1 g) (j : Nat) (u : Value) : Kc w (w1.setCell ⟨g, j, none⟩ u) g := fun p v hp hc => by
  have e := Below.heap_setCell w1 ⟨g, j, none⟩ u p.block hp
  have := h p v hp hc
  simpa [World.cell?, e] using this
theorem Kc.trans {w w1 w2 : World} {g : Nat} (h : Kc w w1 g) (k : Kc w1 w2 g) : Kc w w2 g := fun p v hp hc => k p v hp (h p v hp hc)
theorem Kc.drew {w w1 : World} {g : Nat} (h : Kc w w1 g) : Kc w w1.drew g := fun p v hp hc => h p v hp hc
def IsR (w0 w : World) (g : Nat) (c : Int) : Prop := w.heap[g]? = some (.cells #[.int .i64 c] 183 (0, 0)) ∧ w0.heap.size ≤ g
theorem at_str {l0 : List ByteArray} {A0 : Option Addr} {w : World} (h : ∀ (i : Nat) (x : ByteArray), l0[i]? = some x → ∃ ad, A0 = some ad ∧ w.cell? (ad.add i) = some (.string x)) (i : Int) (h0 : 0 ≤ i) (h1 : i < l0.length) : ∃ ad, A0 = some ad ∧ w.cell? (ad.add i.toNat) = some (.string (l0.getD i.toNat ByteArray.empty)) := by
  have hi : i.toNat < l0.length := by omega
  have e : l0[i.toNat]? = some (l0.getD i.toNat ByteArray.empty) := by rw [List.getD_eq_getElem?_getD, List.getElem?_eq_getElem hi]; rfl
  exact h _ _ e
theorem addr_add_block (a : Addr) (n : Nat) : (a.add n).block = a.block := by unfold Addr.add; split <;> rfl
theorem take_all8 (s : ByteArray) : s.data.toList.take s.size = s.data.toList := List.take_of_length_le (Nat.le_of_eq (by rw [Array.length_toList]; rfl))
theorem take_snoc8 (s : ByteArray) (k : Nat) (h : k < s.size) : s.data.toList.take (k + 1) = s.data.toList.take k ++ [s[k]] := by
  rw [List.take_succ_eq_append_getElem (by simpa using h)]; rfl
set_option maxHeartbeats 4000000 in
set_option maxRecDepth 100000 in
theorem sum_state_addT (g T : Nat) (c b : Int) (w0 w : World) (hI : w.heap[g]? = some (.cells #[.int .i64 c] T (0, 0))) (hB : Below w0.heap.size w0 w) (hg : w0.heap.size ≤ g) :
    Calls Tryz.prog 111 #[.pointer (some ⟨g, 0, none⟩), .int .u8 b] w fun e w' => e = .returned (.tuple #[]) ∧ w'.heap[g]? = some (.cells #[.int .i64 (crcByte c b)] T (0, 0)) ∧ Below w0.heap.size w0 w' ∧ Kc w w' g := by
  have HI0 := Sd.mk hI
  have HK := Sd.mk (Kc.refl w g)
  have HB := Sd.mk hB
  have HG := Sd.mk hg
  have hcz := bk_cell hI 0
  have hfz := bk_frozen hI 0
  simp only [List.getElem?_toArray, List.getElem?_cons_zero] at hcz
  clear hB hI hg
  go_enter Tryz.func111, Tryz.ntmps111
  go_wp2
  go_loopw [14] (fun v14 w' => ∃ j : Nat, j ≤ 8 ∧ v14 = .int .i64 j ∧ Sd (w'.heap[g]? = some (.cells #[.int .i64 (crcTurns j (Go.bits .xor .i64 c (wrap64 (wrap64 b * 256))))] T (0, 0))) ∧ Sd (Kc w w' g) ∧ Sd (Below w0.heap.size w0 w')) (fun v _ => 8 - (intOf v).toNat)
  case atStart => exact ⟨0, by omega, rfl, ⟨bk_put HI0.out 0 _ rfl⟩, ⟨Kc.set_ HK.out _ _⟩, ⟨HB.out.setCell HG.out _⟩⟩
  case round =>
    clear hcz hfz HI0 HK HB
    obtain ⟨j, hj, rfl, HI, HK, HB⟩ := hrel
    have hcz := bk_cell HI.out 0
    have hfz := bk_frozen HI.out 0
    simp only [List.getElem?_toArray, List.getElem?_cons_zero] at hcz
    obtain ⟨X, hX⟩ : ∃ X, crcTurns j (Go.bits .xor .i64 c (wrap64 (wrap64 b * 256))) = X := ⟨_, rfl⟩
    have HS := Sd.mk (crcTurns_succ j (Go.bits .xor .i64 c (wrap64 (wrap64 b * 256))))
    rw [hX] at hcz
    have HX := Sd.mk hX
    clear hX
    by_cases hlt : j < 8
    · by_cases h2 : wrap64 (X * 2) ≥ 65536
      · have HV := Sd.mk (show crcTurn X = Go.bits .xor .i64 (wrap64 (X * 2)) 69665 from if_pos h2)
        have c5b0 : decide (65536 ≤ (wrap64 (X * 2))) = true := decide_eq_true h2
        clear h2
        go_wp2
        go_roundw
        case measure => simp [intOf]; omega
        case rel =>
          have e : crcTurns (j + 1) (Go.bits .xor .i64 c (wrap64 (wrap64 b * 256))) = Go.bits .xor .i64 (wrap64 (X * 2)) 69665 := by rw [HS.out, HX.out, HV.out]
          exact ⟨j + 1, by omega, by go_num, ⟨by rw [e]; exact bk_put (bk_put HI.out 0 _ rfl) 0 _ rfl⟩, ⟨Kc.set_ (Kc.set_ HK.out _ _) _ _⟩, ⟨(HB.out.setCell HG.out _).setCell HG.out _⟩⟩
      · have HV := Sd.mk (show crcTurn X = wrap64 (X * 2) from if_neg h2)
        have c5b0 : decide (65536 ≤ (wrap64 (X * 2))) = false := decide_eq_false h2
        clear h2
        go_wp2
        go_roundw
        case measure => simp [intOf]; omega
        case rel =>
          have e : crcTurns (j + 1) (Go.bits .xor .i64 c (wrap64 (wrap64 b * 256))) = wrap64 (X * 2) := by rw [HS.out, HX.out, HV.out]
          exact ⟨j + 1, by omega, by go_num, ⟨by rw [e]; exact bk_put HI.out 0 _ rfl⟩, ⟨Kc.set_ HK.out _ _⟩, ⟨HB.out.setCell HG.out _⟩⟩
    · obtain rfl : j = 8 := by omega
      go_wp2
      go_end0
      exact ⟨rfl, HI.out, HB.out, HK.out⟩
def sum_reader_read_f (c : Int) (l : List ByteArray) : Option (Int × Int) := if l.all (fun s => decide (s.size ≤ 9223372036854775807)) = true then some (crcRow c l, crcRow c l) else none
set_option maxHeartbeats 4000000 in
set_option maxRecDepth 100000 in
theorem sum_reader_read_calls (g : Nat) (s0_0 : Int) (A1 : Option Addr) (c1 : Nat) (l1 : List ByteArray) (r1 r2 : Int) (w0 w : World) (hI : IsR w0 w g s0_0) (hB : Below w0.heap.size w0 w) (hr1 : ∀ (i : Nat) (x : ByteArray), l1[i]? = some x → ∃ ad, A1 = some ad ∧ w.cell? (ad.add i) = some (.string x)) (hlen : l1.length ≤ 9223372036854775807) (hf1 : ∀ ad, A1 = some ad → 0 < l1.length → ad.block ≠ g) (h : sum_reader_read_f s0_0 l1 = some (r1, r2)) :
    Calls Tryz.prog 106 #[.pointer (some ⟨g, 0, none⟩), .slice A1 l1.length c1] w fun e w' => e = .returned (.int .i64 r1) ∧ IsR w0 w' g r2 ∧ Below w0.heap.size w0 w' ∧ Kc w w' g := by
  unfold sum_reader_read_f at h
  split at h
  case isFalse => cases h
  rename_i hall
  obtain ⟨rfl, rfl⟩ : crcRow s0_0 l1 = r1 ∧ crcRow s0_0 l1 = r2 := by simpa using h
  clear h
  have HALL := Sd.mk (fun s hs => of_decide_eq_true (List.all_eq_true.1 hall s hs) : ∀ s ∈ l1, s.size ≤ 9223372036854775807)
  have HR := Sd.mk hr1
  have HF := Sd.mk hf1
  have HB := Sd.mk hB
  have HI := Sd.mk hI
  have HK := Sd.mk (Kc.refl w g)
  have HG := Sd.mk hI.2
  clear hr1 hf1 hall hB hI
  go_enter Tryz.func106, Tryz.ntmps106
  go_wp2
  go_loopw [10] (fun v10 w' => ∃ i : Nat, i ≤ l1.length ∧ v10 = .int .i64 i ∧ Sd (IsR w0 w' g (crcRow s0_0 (l1.take i))) ∧ Sd (Below w0.heap.size w0 w') ∧ Sd (Kc w w' g)) (fun v _ => l1.length - (intOf v).toNat)
  case atStart => exact ⟨0, by omega, rfl, HI, HB, HK⟩
  case round =>
    clear HI HB HK
    obtain ⟨i, hi, rfl, HI, HB, HK⟩ := hrel
    obtain ⟨wo, rfl⟩ : ∃ wo : World, wo = wr := ⟨_, rfl⟩
    by_cases hlt : i < l1.length
    · obtain ⟨ad, e, hx⟩ := at_str HR.out (i : Int) (by omega) (by omega)
      have hne := HF.out ad e (by omega)
      cases e
      have hx2 := HK.out _ _ (by rw [addr_add_block]; exact hne) hx
      clear hx
      obtain ⟨s, hs⟩ : ∃ s, l1.getD (i : Int).toNat ByteArray.empty = s := ⟨_, rfl⟩
      rw [hs] at hx2
      simp only [Int.toNat_natCast] at hx2
      have hs2 : l1[i] = s := by rw [← hs]; simp [List.getD_eq_getElem?_getD, List.getElem?_eq_getElem hlt]
      have hsz : s.size ≤ 9223372036854775807 := HALL.out s (by rw [← hs2]; exact List.getElem_mem _)
      have HST := Sd.mk (show crcRow s0_0 (l1.take (i + 1)) = crcStr (crcRow s0_0 (l1.take i)) s.data.toList by
        rw [List.take_succ_eq_append_getElem hlt, hs2]; simp [crcRow, List.foldl_append])
      clear hs hs2
      go_wp2
      go_loopw [16] (fun v16 w' => ∃ m : Nat, m ≤ s.size ∧ v16 = .int .i64 m ∧ Sd (IsR w0 w' g (crcStr (crcRow s0_0 (l1.take i)) (s.data.toList.take m))) ∧ Sd (Below w0.heap.size w0 w') ∧ Sd (Kc w w' g)) (fun v _ => s.size - (intOf v).toNat)
      case atStart => exact ⟨0, by omega, rfl, HI, HB, HK⟩
      case round =>
        clear HI HB HK hx2
        obtain ⟨m, hm, rfl, HI, HB, HK⟩ := hrel
        by_cases hlm : m < s.size
        · have HT := Sd.mk (show crcStr (crcRow s0_0 (l1.take i)) (s.data.toList.take (m + 1)) = crcByte (crcStr (crcRow s0_0 (l1.take i)) (s.data.toList.take m)) (s[m].toNat : Int) by
            rw [take_snoc8 s m hlm]; simp [crcStr, List.foldl_append])
          obtain ⟨X, hX⟩ : ∃ X, crcStr (crcRow s0_0 (l1.take i)) (s.data.toList.take m) = X := ⟨_, rfl⟩
          rw [hX] at HI
          have HX := Sd.mk hX
          clear hX
          have c0 : decide ((m : Int) < (s.size : Int)) = true := decide_eq_true (by omega)
          go_wp2
          go_still_tail 6, (by kernel_rfl)
          go_wp2_with (go_at_call 111; go_must (refine (sum_state_addT g 183 X _ w0 wr.drew HI.out.1 (bw_drew HB.out) HG.out).mono ?_); rintro e w' ⟨rfl, h1, h2, h3⟩; have HI' := Sd.mk h1; have HB' := Sd.mk h2; have HK' := Sd.mk (Kc.trans (Kc.drew HK.out) h3); clear h1 h2 h3)
          go_roundw
          case measure => simp [intOf]; omega
          case rel => exact ⟨m + 1, by omega, by go_num, ⟨by rw [HT.out, HX.out]; exact ⟨HI'.out, HG.out⟩⟩, HB', HK'⟩
        · obtain rfl : m = s.size := by omega
          go_wp2
          go_roundw
          case measure => simp [intOf]; omega
          case rel => exact ⟨i + 1, by omega, by go_num, ⟨by rw [HST.out]; have := HI.out; rwa [take_all8] at this⟩, HB, HK⟩
    · obtain rfl : i = l1.length := by omega
      have HI2 := HI.out
      rw [List.take_length] at HI2
      have hcz := bk_cell HI2.1 0
      simp only [List.getElem?_toArray, List.getElem?_cons_zero] at hcz
      have HI3 := Sd.mk HI2
      clear HI2
      go_wp2
      go_ret
      exact ⟨rfl, HI3.out, HB.out, HK.out⟩
set_option maxHeartbeats 1000000 in
theorem sum_open_calls (w : World) : Calls Tryz.prog 105 #[] w fun e w' => e = .returned (.pointer (some ⟨w.heap.size, 0, none⟩)) ∧ w' = w.alloc (.cells #[.int .i64 65535] 183) := by
  go_enter Tryz.func105, Tryz.ntmps105
  go_wp2
  go_ret
  exact ⟨rfl, rfl⟩
set_option maxHeartbeats 1000000 in
theorem sum_Over_calls (A1 : Option Addr) (c1 : Nat) (l1 : List ByteArray) (w : World) (hr1 : ∀ (i : Nat) (x : ByteArray), l1[i]? = some x → ∃ ad, A1 = some ad ∧ w.cell? (ad.add i) = some (.string x)) (hlen : l1.length ≤ 9223372036854775807) (h : l1.all (fun s => decide (s.size ≤ 9223372036854775807)) = true) :
    Calls Tryz.prog 91 #[.slice A1 l1.length c1] w fun e w' => e = .returned (.int .i64 (crcRow 65535 l1)) ∧ Below w.heap.size w w' := by
  have hlt : ∀ (i : Nat) (x : ByteArray), l1[i]? = some x → ∃ ad, A1 = some ad ∧ ad.block < w.heap.size ∧ w.cell? (ad.add i) = some (.string x) := fun i x hi => by
    obtain ⟨ad, e, hc⟩ := hr1 i x hi
    have := World.block_lt_of_cell? w _ hc
    rw [addr_add_block] at this
    exact ⟨ad, e, this, hc⟩
  have HR := Sd.mk hlt
  have HH := Sd.mk h
  have HL := Sd.mk hlen
  clear hr1 h hlen hlt
  go_enter Tryz.func91, Tryz.ntmps91
  go_wp2_with (go_at_call 105; refine (sum_open_calls _).mono ?_; rintro e w' ⟨rfl, rfl⟩)
  go_wp2_with (go_at_call 106; refine (sum_reader_read_calls w.heap.size 65535 A1 c1 l1 (crcRow 65535 l1) (crcRow 65535 l1) w _ ⟨heap_alloc_new w _, Nat.le_refl _⟩ (bw_alloc (Below.refl _ _) _) (fun i x hi => ?_) HL.out (fun ad e h0 => ?_) (by unfold sum_reader_read_f; rw [if_pos HH.out])).mono ?_)
  · obtain ⟨ad, e, hb, hc⟩ := HR.out i x hi
    refine ⟨ad, e, ?_⟩
    exact ((bw_alloc (Below.refl _ w) _).cell (by rw [addr_add_block]; exact hb)).trans hc
  · obtain ⟨ad', e', hb, hc⟩ := HR.out 0 l1[0] (List.getElem?_eq_getElem h0)
    rw [e] at e'
    obtain rfl := Option.some.inj e'
    omega
  · rintro e w' ⟨rfl, h1, h2, h3⟩
    have H2 := Sd.mk h2
    clear h1 h2 h3
    go_wp2
    go_ret
    exact ⟨rfl, H2.out⟩
set_option maxHeartbeats 1000000 in
theorem sum_Of_calls (s : ByteArray) (w : World) (h : s.size ≤ 9223372036854775807) :
    Calls Tryz.prog 98 #[.string s] w fun e w' => e = .returned (.int .i64 (crcStr 65535 s.data.toList)) ∧ Below w.heap.size w w' := by
  have HH := Sd.mk h
  clear h
  go_enter Tryz.func98, Tryz.ntmps98
  go_wp2_with (go_at_call 105; refine (sum_open_calls _).mono ?_; rintro e w' ⟨rfl, rfl⟩)
  go_wp2_with (go_at_call 106; refine (sum_reader_read_calls w.heap.size 65535 (some ⟨w.heap.size + 1, 0, none⟩) 1 [s] (crcRow 65535 [s]) (crcRow 65535 [s]) w _ ⟨?za, Nat.le_refl _⟩ (bw_alloc (bw_alloc (Below.refl _ _) _) _) (fun i x hi => ?zb) (by simp) (fun ad e h0 => ?zc) (by unfold sum_reader_read_f; rw [if_pos (by simpa using HH.out)])).mono ?zd)
  case zd =>
    rintro e w' ⟨rfl, h1, h2, h3⟩
    have H2 := Sd.mk h2
    clear h1 h2 h3
    go_wp2
    go_ret
    exact ⟨rfl, H2.out⟩
  case za => exact (Below.heap_alloc _ _ _ (by simp)).trans (heap_alloc_new w _)
  case zc =>
    obtain rfl := Option.some.inj e
    simp
  case zb =>
    match i, hi with
    | 0, hi =>
      obtain rfl := Option.some.inj hi
      refine ⟨_, rfl, ?_⟩
      have := heap_alloc_new (w.alloc (.cells #[.int .i64 65535] 183)) (.cells #[.string s] 9)
      rw [World.size_alloc] at this
      exact bk_cell this 0
end Go.Proofs.YtohlhliifeeokaaGreat.Q
namespace Go.Proofs.YtohlhliifeeokaaGreat.A
open Go Go.RowKit Go.Proofs.YtohlhliifeeokaaGreat.Ab Go.Proofs.YtohlhliifeeokaaGreat.Q
def sum_Over_sig (k : Nat) : Sig := ⟨[(.sl .str)], [(.int .i64)], fun x => sum_Over k x.1⟩
theorem sum_Over_ok (k : Nat) : FnOk Go.Proofs.Tryz.prog 91 (sum_Over_sig k) := by
  refine ⟨entersAb (by kernel_rfl), ?_⟩
  rintro ⟨l, _⟩ ⟨r, _⟩ hy S w vs hS ha
  change List ByteArray at l
  change Int at r
  match vs, ha with
  | [v0], ⟨h0, _⟩ =>
  obtain ⟨A, c, hv, hc, hcells⟩ := (h0 : Reps S (.sl .str) l [v0])
  obtain rfl : v0 = .slice A (lst (t := .str) l).length c := by simpa using hv
  replace hy : sum_Over k l = some (r, ()) := hy
  unfold sum_Over at hy
  rw [cond_eq_ite] at hy
  split at hy
  · rename_i hg
    simp only [Bool.and_eq_true, decide_eq_true_eq] at hg
    obtain rfl : crcRow 65535 l = r := by simpa using hy
    exact (sum_Over_calls A c l w (row_get hS hcells) (by omega) hg.2).mono fun en w' ⟨he, hb⟩ => comes_below he hS hb (show Reps S (.int .i64) _ [.int .i64 _] from rfl)
  · cases hy
def sum_Of_sig (k : Nat) : Sig := ⟨[.str], [(.int .i64)], fun x => sum_Of k x.1⟩
theorem sum_Of_ok (k : Nat) : FnOk Go.Proofs.Tryz.prog 98 (sum_Of_sig k) := by
  refine ⟨entersAb (by kernel_rfl), ?_⟩
  rintro ⟨s, _⟩ ⟨r, _⟩ hy S w vs hS ha
  change ByteArray at s
  change Int at r
  match vs, ha with
  | [v0], ⟨h0, _⟩ =>
  have h0 : [v0] = [.string s] := h0
  obtain rfl : v0 = .string s := by simpa using h0
  replace hy : sum_Of k s = some (r, ()) := hy
  unfold sum_Of at hy
  rw [cond_eq_ite] at hy
  split at hy
  · rename_i hg
    obtain rfl : crcStr 65535 s.data.toList = r := by simpa using hy
    exact (sum_Of_calls s w (of_decide_eq_true hg)).mono fun en w' ⟨he, hb⟩ => comes_below he hS hb (show Reps S (.int .i64) _ [.int .i64 _] from rfl)
  · cases hy
end Go.Proofs.YtohlhliifeeokaaGreat.A
