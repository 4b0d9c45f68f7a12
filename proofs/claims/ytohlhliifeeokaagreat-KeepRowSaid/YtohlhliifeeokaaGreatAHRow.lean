/- frame.Row keeps its contract: a builder of its own, a loop, and the frame of what it holds. -/
import Derived.Test.YtohlhliifeeokaaGreatAHRowDef
import Derived.Test.YtohlhliifeeokaaGreatEvFrameP
import Derived.Test.YtohlhliifeeokaaGreatAHKit
import Derived.Test.YtohlhliifeeokaaGreatAHBuild
import Derived.Test.YtohlhliifeeokaaGreatAHInts
import Derived.Test.YtohlhliifeeokaaGreatAHSum
namespace Go.Proofs.YtohlhliifeeokaaGreat.Q
open Go Go.RowKit Go.Proofs.YtohlhliifeeokaaGreat.A Go.Proofs.YtohlhliifeeokaaGreat.Ab
set_option linter.unusedVariables false
set_option linter.unusedSimpArgs false
theorem isB_below {B b : Nat} {bs : List Value} {W W' : World} (h : Lib.IsBuilder 160 5 B b bs W) (hg : Below W.heap.size W W') : Lib.IsBuilder 160 5 B b bs W' := by
  have hgr : W.grownBy W' none := ⟨hg.os, hg.tape, hg.output, hg.size, fun i hi _ => hg.block i hi⟩
  have key : ∀ p v, W.heap[b]? = some (.cells #[p, v] 160 (0, 0)) → W.ownsRow B 5 1 v bs.length bs → W'.heap[b]? = some (.cells #[p, v] 160 (0, 0)) ∧ W'.ownsRow B 5 1 v bs.length bs := fun p v h1 h2 => by
    refine ⟨(hg.block b (Array.getElem?_eq_some_iff.1 h1).1).trans h1, h2.kept hgr ?_⟩
    cases e : v.ownBlock with
    | none => exact .inl rfl
    | some g => exact .inr (fun e2 => by cases e2)
  rcases h with ⟨h0, v, h1, h2, h3⟩ | ⟨h0, v, h1, h2, h3⟩
  · obtain ⟨k1, k2⟩ := key _ _ h1 h2
    exact .inl ⟨h0, v, k1, k2, h3⟩
  · obtain ⟨k1, k2⟩ := key _ _ h1 h2
    exact .inr ⟨h0, v, k1, k2, h3⟩
theorem strCells_app (a b : ByteArray) : Lib.strCells (a ++ b) = Lib.strCells a ++ Lib.strCells b := by
  unfold Lib.strCells
  rw [← List.map_append]
  congr 1
theorem bw_call {b : Nat} {w W W' : World} (h : Below b w W) (hb : b ≤ W.heap.size) (h1 : Below W.heap.size W W') : Below b w W' := h.trans (h1.mono hb)
def noMem : Mem := fun _ => none
theorem Int_calls (k : Nat) (n : Int) (r : ByteArray) (e : Int) (w : World) (h : wire_Int k n = some (r, e, ())) :
    Calls Tryz.prog 80 #[.int .i64 n] w fun en w' => en = .returned (.tuple #[.string r, .int .i64 e]) ∧ Below w.heap.size w w' := by
  refine ((wire_Int_ok k).calls (n, ()) (r, e, ()) h noMem w [.int .i64 n] (fun p v h => by cases h) ⟨rfl, trivial⟩).mono ?_
  rintro en w' ⟨u, S', rfl, -, -, -, ⟨us, rfl, hus⟩, hb⟩
  match us, hus with
  | [u0, u1], ⟨h0, h1, _⟩ =>
    have h0 : [u0] = [.string r] := h0
    have h1 : [u1] = [.int .i64 e] := h1
    obtain rfl : u0 = .string r := by simpa using h0
    obtain rfl : u1 = .int .i64 e := by simpa using h1
    exact ⟨rfl, hb⟩
theorem Text_calls (k : Nat) (s r : ByteArray) (e : Int) (w : World) (h : wire_Text k s = some (r, e, ())) :
    Calls Tryz.prog 90 #[.string s] w fun en w' => en = .returned (.tuple #[.string r, .int .i64 e]) ∧ Below w.heap.size w w' := by
  refine ((wire_Text_ok k).calls (s, ()) (r, e, ()) h noMem w [.string s] (fun p v h => by cases h) ⟨rfl, trivial⟩).mono ?_
  rintro en w' ⟨u, S', rfl, -, -, -, ⟨us, rfl, hus⟩, hb⟩
  match us, hus with
  | [u0, u1], ⟨h0, h1, _⟩ =>
    have h0 : [u0] = [.string r] := h0
    have h1 : [u1] = [.int .i64 e] := h1
    obtain rfl : u0 = .string r := by simpa using h0
    obtain rfl : u1 = .int .i64 e := by simpa using h1
    exact ⟨rfl, hb⟩
theorem Put_calls (k : Nat) (a : Int) (s r : ByteArray) (e : Int) (w : World) (h : frame_Put k a s = some (r, e, ())) :
    Calls Tryz.prog 81 #[.int .i64 a, .string s] w fun en w' => en = .returned (.tuple #[.string r, .int .i64 e]) ∧ Below w.heap.size w w' := by
  refine ((frame_Put_ok k).calls (a, s, ()) (r, e, ()) h noMem w [.int .i64 a, .string s] (fun p v h => by cases h) ⟨rfl, rfl, trivial⟩).mono ?_
  rintro en w' ⟨u, S', rfl, -, -, -, ⟨us, rfl, hus⟩, hb⟩
  match us, hus with
  | [u0, u1], ⟨h0, h1, _⟩ =>
    have h0 : [u0] = [.string r] := h0
    have h1 : [u1] = [.int .i64 e] := h1
    obtain rfl : u0 = .string r := by simpa using h0
    obtain rfl : u1 = .int .i64 e := by simpa using h1
    exact ⟨rfl, hb⟩
set_option maxHeartbeats 4000000 in
set_option maxRecDepth 100000 in
theorem frame_Row_calls (k : Nat) (a : Int) (A1 : Option Addr) (c1 : Nat) (l1 : List ByteArray) (r : ByteArray) (e : Int) (w : World) (hr1 : ∀ (i : Nat) (x : ByteArray), l1[i]? = some x → ∃ ad, A1 = some ad ∧ w.cell? (ad.add i) = some (.string x))
    (h : frame_Row k a l1 = some (r, e, ())) :
    Calls Tryz.prog 83 #[.int .i64 a, .slice A1 l1.length c1] w fun en w' => en = .returned (.tuple #[.string r, .int .i64 e]) ∧ Below w.heap.size w w' := by
  unfold frame_Row at h
  simp only [cond_eq_ite, decide_eq_true_eq] at h
  have HR := Sd.mk hr1
  clear hr1
  by_cases ha : a < 0
  · rw [if_pos ha] at h
    obtain ⟨rfl, rfl⟩ : (⟨#[]⟩ : ByteArray) = r ∧ (1 : Int) = e := by simpa using h
    go_enter Tryz.func83, Tryz.ntmps83
    go_wp2
    go_ret2
    exact ⟨rfl, Below.refl _ _⟩
  rw [if_neg ha] at h
  by_cases hb : a > 99
  · rw [if_pos hb] at h
    obtain ⟨rfl, rfl⟩ : (⟨#[]⟩ : ByteArray) = r ∧ (1 : Int) = e := by simpa using h
    go_enter Tryz.func83, Tryz.ntmps83
    go_wp2
    go_ret2
    exact ⟨rfl, Below.refl _ _⟩
  rw [if_neg hb] at h
  by_cases hl : (l1.length : Int) > 100
  · rw [if_pos hl] at h
    obtain ⟨rfl, rfl⟩ : (⟨#[]⟩ : ByteArray) = r ∧ (2 : Int) = e := by simpa using h
    go_enter Tryz.func83, Tryz.ntmps83
    go_wp2
    go_ret2
    exact ⟨rfl, Below.refl _ _⟩
  rw [if_neg hl] at h
  obtain ⟨⟨n0, n1, _⟩, hn, h⟩ := Option.bind_eq_some_iff.1 h
  dsimp only at h
  split at h
  case isFalse => cases h
  rename_i hsz
  obtain ⟨⟨q0, q1⟩, hq, h⟩ := Option.bind_eq_some_iff.1 h
  have HN := Sd.mk hn
  have HQ := Sd.mk hq
  have HS := Sd.mk hsz
  have HE := Sd.mk h
  clear hn hq hsz h
  obtain ⟨b, hb0⟩ : ∃ b, w.heap.size = b := ⟨_, rfl⟩
  have HBB := Sd.mk hb0
  go_enter Tryz.func83, Tryz.ntmps83
  go_wp2_with (go_at_call 80; refine (Int_calls k _ n0 n1 _ HN.out).mono ?_; rintro e w' ⟨rfl, h1⟩; have H1 := Sd.mk h1; clear h1)
  have HI : Sd (Lib.IsBuilder 160 5 b b [] w') := by
    have hf := Lib.fresh_isBuilder 160 5 w
    rw [HBB.out] at hf
    exact ⟨isB_below hf H1.out⟩
  have HW : Sd (Below b w w') := by
    refine ⟨bw_call (Below.alloc (Below.refl _ _) (Nat.le_of_eq HBB.out.symm) _) ?_ H1.out⟩
    rw [World.size_alloc]; have := HBB.out; omega
  have hle : b ≤ w'.heap.size := by have := HW.out.size; have := HBB.out; omega
  have hn0 : n0.size ≤ 100000000 := HS.out
  go_wp2_with (go_at_call 93; go_loud (refine (B_string b b [] n0 _ HI.out (by simp; omega) hle).mono ?_; rintro e w2 ⟨rfl, h1, h2, h3⟩; have H2 := Sd.mk h1; have H3 := Sd.mk h2; clear h1 h2 h3))
  have hle2 : b ≤ w2.heap.size := by have := H3.out.size; omega
  have HW2 : Sd (Below b w w2) := ⟨HW.out.trans H3.out⟩
  have HI2 : Sd (Lib.IsBuilder 160 5 b b (Lib.strCells n0) w2) := ⟨.inr (by simpa using H2.out)⟩
  have hlen : l1.length ≤ 100 := by omega
  clear H1 HI HW hle H2 H3
  go_loopw [34] (fun v34 w' => ∃ (i : Nat) (acc : ByteArray), i ≤ l1.length ∧ v34 = .int .i64 i ∧ acc.size ≤ 100000000 ∧ b ≤ w'.heap.size ∧ Sd (frame_Row_l k (l1.drop i) acc = some (q0, q1)) ∧ Sd (Lib.IsBuilder 160 5 b b (Lib.strCells acc) w') ∧ Sd (Below b w w')) (fun v _ => l1.length - (intOf v).toNat)
  case atStart => exact ⟨0, n0, by omega, rfl, hn0, hle2, HQ, HI2, HW2⟩
  case round =>
    clear HI2 HW2 HQ hle2 hn0
    obtain ⟨i, acc, hi, rfl, hacc, hbw, HQ, HI, HW⟩ := hrel
    by_cases hlt : i < l1.length
    · obtain ⟨ad, e0, hx⟩ := at_str HR.out (i : Int) (by omega) (by omega)
      cases e0
      obtain ⟨s, hs⟩ : ∃ s, l1.getD (i : Int).toNat ByteArray.empty = s := ⟨_, rfl⟩
      rw [hs] at hx
      have hx2 := (HW.out.cell (by rw [← HBB.out]; exact World.block_lt_of_cell? w _ hx)).trans hx
      clear hx
      simp only [Int.toNat_natCast] at hx2
      have hq := HQ.out
      rw [List.drop_eq_getElem_cons hlt, show l1[i] = s by rw [← hs]; simp [List.getD_eq_getElem?_getD, List.getElem?_eq_getElem hlt]] at hq
      clear hs
      unfold frame_Row_l at hq
      obtain ⟨⟨t0, t1, _⟩, ht, hq⟩ := Option.bind_eq_some_iff.1 hq
      simp only [cond_eq_ite, decide_eq_true_eq] at hq
      have HT := Sd.mk ht
      clear ht
      by_cases ht1 : t1 = 0
      · subst ht1
        have hq : (if acc.size + t0.size ≤ 100000000 then frame_Row_l k (l1.drop (i + 1)) (acc ++ t0) else none) = some (q0, q1) := hq
        split at hq
        case isFalse => cases hq
        rename_i hsz
        have HQ2 := Sd.mk hq
        clear hq HQ
        go_wp2_with (go_at_call 90; refine (Text_calls k _ t0 0 _ HT.out).mono ?_; rintro e w' ⟨rfl, h1⟩; have H1 := Sd.mk h1; clear h1)
        have HI2 : Sd (Lib.IsBuilder 160 5 b b (Lib.strCells acc) w') := ⟨isB_below HI.out H1.out⟩
        have HW2 : Sd (Below b w w') := ⟨bw_call HW.out hbw H1.out⟩
        have hbw2 : b ≤ w'.heap.size := by have := H1.out.size; omega
        clear H1 HI HW
        go_wp2_with (go_at_call 93; refine (B_string b b (Lib.strCells acc) t0 _ HI2.out (by rw [Lib.strCells_length]; omega) hbw2).mono ?_; rintro e w3 ⟨rfl, h1, h2, h3⟩; have H2 := Sd.mk h1; have H3 := Sd.mk h2; clear h1 h2 h3)
        go_roundw
        case measure => simp [intOf]; omega
        case rel => exact ⟨i + 1, acc ++ t0, by omega, by go_num, by rw [ByteArray.size_append]; omega, by have := H3.out.size; omega, HQ2, ⟨by rw [strCells_app]; exact .inr H2.out⟩, ⟨HW2.out.trans H3.out⟩⟩
      · have hne : (t1 != 0) = true := by simpa using ht1
        have hq : (if (t1 != 0) = true then some ((⟨#[]⟩ : ByteArray), t1) else if acc.size + t0.size ≤ 100000000 then frame_Row_l k (l1.drop (i + 1)) (acc ++ t0) else none) = some (q0, q1) := hq
        rw [if_pos hne] at hq
        obtain ⟨rfl, rfl⟩ : (⟨#[]⟩ : ByteArray) = q0 ∧ t1 = q1 := by simpa using hq
        have hE := HE.out
        rw [if_pos hne] at hE
        obtain ⟨rfl, rfl⟩ : (⟨#[]⟩ : ByteArray) = r ∧ t1 = e := by simpa using hE
        have HBW := Sd.mk hbw
        clear hq hE HQ HE hbw
        go_wp2_with (go_at_call 90; refine (Text_calls k _ t0 t1 _ HT.out).mono ?_; rintro e w' ⟨rfl, h1⟩; have H1 := Sd.mk h1; clear h1)
        go_wp2
        go_ret2
        exact ⟨rfl, by rw [HBB.out]; exact bw_call HW.out HBW.out H1.out⟩
    · obtain rfl : i = l1.length := by omega
      have hq := HQ.out
      rw [List.drop_length] at hq
      unfold frame_Row_l at hq
      obtain ⟨rfl, rfl⟩ : acc = q0 ∧ (0 : Int) = q1 := by simpa using hq
      have hE := HE.out
      have hE : frame_Put k a acc = some (r, e, ()) := hE
      have HE2 := Sd.mk hE
      have HBW := Sd.mk hbw
      clear hq HQ hE HE hbw
      have HC : Calls Tryz.prog 94 #[.pointer (some ⟨b, 0, none⟩)] wr fun e w' => e = .returned (.string acc) ∧ Below b wr w' := Tryz.Builder_String_any b b acc.data.toList wr HI.out HBW.out
      go_wp2_with (go_at_call 94; refine HC.mono ?_; rintro e w' ⟨rfl, h1⟩; have H1 := Sd.mk h1; clear h1)
      go_wp2_with (go_at_call 81; refine (Put_calls k _ acc r e _ HE2.out).mono ?_; rintro e w3 ⟨rfl, h1⟩; have H2 := Sd.mk h1; clear h1)
      go_wp2
      go_ret2
      exact ⟨rfl, by rw [HBB.out]; exact bw_call (HW.out.trans H1.out) (by have := H1.out.size; have := HBW.out; omega) H2.out⟩
end Go.Proofs.YtohlhliifeeokaaGreat.Q
namespace Go.Proofs.YtohlhliifeeokaaGreat.A
open Go Go.RowKit Go.Proofs.YtohlhliifeeokaaGreat.Ab Go.Proofs.YtohlhliifeeokaaGreat.Q
end Go.Proofs.YtohlhliifeeokaaGreat.A
