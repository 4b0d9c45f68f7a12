/- snap.picture keeps its contract: the number's bytes ahead of the texts, in a row, and the row's frame. -/
import Derived.Test.YtohlhliifeeokaaGreatAHPicDef
import Derived.Test.YtohlhliifeeokaaGreatAHRow
import Derived.Test.YtohlhliifeeokaaGreatAHClone
namespace Go.Proofs.YtohlhliifeeokaaGreat.Q
open Go Go.RowKit Go.Proofs.YtohlhliifeeokaaGreat.A Go.Proofs.YtohlhliifeeokaaGreat.Ab
set_option linter.unusedVariables false
set_option linter.unusedSimpArgs false
theorem ins_own (B : Nat) (v : Value) (cs : List Value) (x : Value) (vb : Nat) (w : World) (h : w.ownsRow B 9 1 v cs.length cs) (hlt : ∀ g, v.ownBlock = some g → g ≠ vb) (h1 : ∀ v ∈ cs, v.oneCell' = true) (hx1 : x.oneCell' = true) (hv : w.heap[vb]? = some (.cells #[x] 9 (0, 0))) (hB2 : B ≤ w.heap.size) (hbig : (cs.length + 1) * 16 ≤ 140737488355328) :
    Calls Tryz.prog 84 #[v, .int .i64 0, .slice (some ⟨vb, 0, none⟩) 1 1] w (Ins B w x cs) := by
  rcases h.2 with ⟨rfl, hz⟩ | ⟨g, cap, cur, rfl, hB, hh, hcap, hmax, hcs, htake⟩
  · obtain rfl : cs = [] := List.length_eq_zero_iff.1 hz
    refine (Go.Proofs.Any2.slices_Insert_string_end_grow lays22 none 0 0 vb 0 1 1 [] [x] w (by omega) (by omega) (by omega) hbig rfl rfl (fun _ => rfl) (fun a h => by cases h) (fun j v hj => by
      rw [bk_cell hv, Nat.zero_add]
      simpa using hj) (by simpa using hx1)).mono ?_
    rintro e w' ⟨rfl, rfl⟩
    refine ⟨_, _, rfl, fun j v hj => ?_, ((Below.refl _ _).drew).alloc (by exact hB2) _⟩
    have hlt := (List.getElem?_eq_some_iff.1 hj).1
    obtain rfl : j = 0 := by simpa using hlt
    rw [World.cell?_alloc_at (w := w.drew) _ _ w.heap.size 0 rfl, Array.getElem?_append_left (by simp)]
    simpa using hj
  · exact ins_row B g cap cur cs x vb w hh hB hcap hmax (by omega) (by rw [← htake, Nat.mul_one]; simp) h1 hx1 (fun e => hlt g rfl e.symm) hv hB2 hbig
theorem own_below {w W' : World} {B : Nat} {v : Value} {n : Nat} {xs : List Value} (h : w.ownsRow B 9 1 v n xs) (hg : Below w.heap.size w W') : W'.ownsRow B 9 1 v n xs := by
  have hgr : w.grownBy W' none := ⟨hg.os, hg.tape, hg.output, hg.size, fun i hi _ => hg.block i hi⟩
  refine h.kept hgr ?_
  cases e : v.ownBlock with
  | none => exact .inl rfl
  | some g => exact .inr (fun e2 => by cases e2)
theorem pic_ins (B : Nat) (v : Value) (l1 : List ByteArray) (n0 : ByteArray) (w2 : World) (hown : w2.ownsRow B 9 1 v l1.length (l1.map Value.string)) (hB : B ≤ w2.heap.size) (hbig : (l1.length + 1) * 16 ≤ 140737488355328) :
    Calls Tryz.prog 84 #[v, .int .i64 0, .slice (some ⟨w2.heap.size, 0, none⟩) 1 1] (w2.alloc (.cells #[.string n0] 9)) fun e w' =>
      ∃ g C, e = .returned (.slice (some ⟨g, 0, none⟩) (n0 :: l1).length C) ∧ (∀ (i : Nat) (x : ByteArray), (n0 :: l1)[i]? = some x → ∃ ad, (some ⟨g, 0, none⟩ : Option Addr) = some ad ∧ w'.cell? (ad.add i) = some (.string x)) ∧ Below B w2 w' := by
  have hlen : (l1.map Value.string).length = l1.length := List.length_map ..
  have hal : Below w2.heap.size w2 (w2.alloc (.cells #[.string n0] 9)) := (Below.refl _ _).alloc (Nat.le_refl _) _
  have ho2 := own_below hown hal
  rw [← hlen] at ho2
  refine (ins_own B v (l1.map Value.string) (.string n0) w2.heap.size _ ho2 (fun g hg e => ?_) (fun u hu => ?_) rfl ?_ ?_ (by rw [hlen]; exact hbig)).mono ?_
  · subst e
    rcases hown.2 with ⟨rfl, _⟩ | ⟨g, cap, cur, rfl, _, hh, _⟩
    · cases hg
    · have hg : g = w2.heap.size := by simpa [Value.ownBlock] using hg
      rw [hg] at hh
      rw [Array.getElem?_eq_none (Nat.le_refl _)] at hh
      cases hh
  · obtain ⟨x, _, rfl⟩ := List.mem_map.1 hu; rfl
  · show (w2.heap.push _)[w2.heap.size]? = _; simp
  · have := hal.size; omega
  · rintro e w' ⟨g, C, rfl, hc, hb⟩
    refine ⟨g, C, by rw [hlen]; rfl, fun i x hi => ⟨_, rfl, ?_⟩, (hal.mono hB).trans hb⟩
    rw [add_at, Nat.zero_add]
    refine hc i _ ?_
    have : ((n0 :: l1).map Value.string)[i]? = some (.string x) := by rw [List.getElem?_map, hi]; rfl
    exact this
set_option maxHeartbeats 4000000 in
set_option maxRecDepth 100000 in
theorem picture_calls (k : Nat) (n : Int) (A1 : Option Addr) (c1 : Nat) (l1 : List ByteArray) (r : ByteArray) (e : Int) (w : World) (hr1 : ∀ (i : Nat) (x : ByteArray), l1[i]? = some x → ∃ ad, A1 = some ad ∧ w.cell? (ad.add i) = some (.string x))
    (hsp : ∀ a, A1 = some a → 0 < l1.length → a.spot = none) (h : snap_picture k n l1 = some (r, e, ())) :
    Calls Tryz.prog 64 #[.int .i64 n, .slice A1 l1.length c1] w fun en w' => en = .returned (.tuple #[.string r, .int .i64 e]) ∧ Below w.heap.size w w' := by
  unfold snap_picture at h
  simp only [cond_eq_ite, decide_eq_true_eq] at h
  have HR := Sd.mk hr1
  have HP := Sd.mk hsp
  clear hr1 hsp
  by_cases ha : n < 0
  · rw [if_pos ha] at h
    obtain ⟨rfl, rfl⟩ : (⟨#[]⟩ : ByteArray) = r ∧ (1 : Int) = e := by simpa using h
    go_enter Tryz.func64, Tryz.ntmps64
    go_wp2
    go_ret2
    exact ⟨rfl, Below.refl _ _⟩
  rw [if_neg ha] at h
  by_cases hb : n > 1000000000
  · rw [if_pos hb] at h
    obtain ⟨rfl, rfl⟩ : (⟨#[]⟩ : ByteArray) = r ∧ (1 : Int) = e := by simpa using h
    go_enter Tryz.func64, Tryz.ntmps64
    go_wp2
    go_ret2
    exact ⟨rfl, Below.refl _ _⟩
  rw [if_neg hb] at h
  split at h
  case isFalse => cases h
  rename_i hbig
  have HBig := Sd.mk hbig
  clear hbig
  obtain ⟨⟨n0, n1, _⟩, hn, h⟩ := Option.bind_eq_some_iff.1 h
  dsimp only at h
  obtain ⟨⟨q0, q1, _⟩, hq, h⟩ := Option.bind_eq_some_iff.1 h
  have HN := Sd.mk hn
  have HQ := Sd.mk hq
  have HE := Sd.mk h
  clear hn hq h
  go_enter Tryz.func64, Tryz.ntmps64
  go_wp2_with (go_at_call 80; refine (Int_calls k _ n0 n1 _ HN.out).mono ?_; rintro e w' ⟨rfl, h1⟩; have H1 := Sd.mk h1; clear h1)
  have HR2 : Sd (∀ (i : Nat) (x : ByteArray), l1[i]? = some x → ∃ ad, A1 = some ad ∧ w'.cell? (ad.add i) = some (.string x)) := ⟨fun i x hi => by
    obtain ⟨ad, e1, e2⟩ := HR.out i x hi
    exact ⟨ad, e1, (H1.out.cell (World.block_lt_of_cell? w _ e2)).trans e2⟩⟩
  have HB : Sd (w.heap.size ≤ w'.heap.size) := ⟨H1.out.size⟩
  go_wp2_with (go_at_call 75; refine (clone_calls A1 c1 l1 _ HR2.out HP.out (by have := HBig.out; omega)).mono ?_; rintro e w2 ⟨v, rfl, h1, h2⟩; have H2 := Sd.mk h1; have H3 := Sd.mk h2; clear h1 h2)
  have HB2 : Sd (w'.heap.size ≤ w2.heap.size) := ⟨H2.out.size⟩
  go_wp2_with (go_at_call 84; refine (pic_ins w'.heap.size v l1 n0 w2 H3.out HB2.out HBig.out).mono ?_; rintro e w4 ⟨g, C, rfl, h1, h2⟩; have H4 := Sd.mk h1; have H5 := Sd.mk h2; clear h1 h2)
  have hE := HE.out
  by_cases hq1 : q1 = 0
  · subst hq1
    obtain ⟨rfl, rfl⟩ : q0 = r ∧ (0 : Int) = e := by simpa using hE
    clear hE
    go_wp2_with (go_at_call 83; refine (frame_Row_calls k 3 (some ⟨g, 0, none⟩) C (n0 :: l1) q0 0 w4 H4.out HQ.out).mono ?_; rintro e w5 ⟨rfl, h1⟩; have H6 := Sd.mk h1; clear h1)
    have HW : Sd (Below w.heap.size w w5) := ⟨by
      have a1 := H1.out
      have a2 := (H2.out.mono HB.out)
      have a3 := (H5.out.mono HB.out)
      have a4 := H6.out.mono (show w.heap.size ≤ w4.heap.size by have := a1.size; have := a2.size; have := a3.size; omega)
      exact ((a1.trans a2).trans a3).trans a4⟩
    go_wp2
    go_ret2
    exact ⟨rfl, HW.out⟩
  · have hne : (q1 != 0) = true := by simpa using hq1
    rw [if_pos hne] at hE
    obtain ⟨rfl, rfl⟩ : (⟨#[]⟩ : ByteArray) = r ∧ (2 : Int) = e := by simpa using hE
    clear hE
    go_wp2_with (go_at_call 83; refine (frame_Row_calls k 3 (some ⟨g, 0, none⟩) C (n0 :: l1) q0 q1 w4 H4.out HQ.out).mono ?_; rintro e w5 ⟨rfl, h1⟩; have H6 := Sd.mk h1; clear h1)
    have HW : Sd (Below w.heap.size w w5) := ⟨by
      have a1 := H1.out
      have a2 := (H2.out.mono HB.out)
      have a3 := (H5.out.mono HB.out)
      have a4 := H6.out.mono (show w.heap.size ≤ w4.heap.size by have := a1.size; have := a2.size; have := a3.size; omega)
      exact ((a1.trans a2).trans a3).trans a4⟩
    go_wp2
    go_ret2
    exact ⟨rfl, HW.out⟩
end Go.Proofs.YtohlhliifeeokaaGreat.Q
namespace Go.Proofs.YtohlhliifeeokaaGreat.A
open Go Go.RowKit Go.Proofs.YtohlhliifeeokaaGreat.Ab Go.Proofs.YtohlhliifeeokaaGreat.Q
def snap_picture_sig (k : Nat) : Sig := ⟨[(.int .i64), (.sl .str)], [.str, (.int .i64)], fun x => snap_picture k x.1 x.2.1⟩
theorem snap_picture_ok (k : Nat) : FnOk Go.Proofs.Tryz.prog 64 (snap_picture_sig k) := by
  refine ⟨entersAb (by kernel_rfl), ?_⟩
  rintro ⟨a, l, _⟩ ⟨r, e, _⟩ hy S w vs hS ha
  change Int at a
  change List ByteArray at l
  change ByteArray at r
  change Int at e
  match vs, ha with
  | [v0, v1], ⟨h0, h1, _⟩ =>
  have h0 : [v0] = [.int .i64 a] := h0
  obtain rfl : v0 = .int .i64 a := by simpa using h0
  obtain ⟨A, c, hv, hc, hcells⟩ := (h1 : Reps S (.sl .str) l [v1])
  obtain rfl : v1 = .slice A (lst (t := .str) l).length c := by simpa using hv
  replace hy : snap_picture k a l = some (r, e, ()) := hy
  have hr := row_get hS hcells
  exact (picture_calls k a A c l r e w hr (fun a ha hpos => spot_none hr ha hpos) hy).mono fun en w' ⟨he, hb⟩ => comes_below he hS hb ⟨[.string r, .int .i64 e], rfl, rfl, rfl, trivial⟩
end Go.Proofs.YtohlhliifeeokaaGreat.A
