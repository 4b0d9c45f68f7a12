/- record.Scan keeps its contract: a range over the records that an iterator tells. -/
import Derived.Test.YtoeikeabbdnkbaaAHScanDef
import Derived.Test.YtoeikeabbdnkbaaEvP
import Derived.Test.YtoeikeabbdnkbaaAHKit
import Derived.Test.YtoeikeabbdnkbaaATxt
import Derived.Test.YtoeikeabbdnkbaaARange
import Derived.OwnWalkIn
import Derived.TacticsInMore
import Derived.LoopNIn
import Derived.LoopIn
import Derived.Lib.OthersKept
namespace Go.Proofs.Ytoeikeabbdnkbaa.Q
open Go Go.RowKit Go.Shelf Go.Proofs.Ytoeikeabbdnkbaa.A Go.Proofs.Ytoeikeabbdnkbaa.Ab
set_option linter.unusedVariables false
set_option linter.unusedSimpArgs false

def noMemS : Mem := fun _ => none
theorem Get_calls (k : Nat) (b t r : ByteArray) (n e : Int) (w : World) (h : frame_Get k b = some (n, t, r, e, ())) :
    Calls Try.prog 129 #[.string b] w fun en w' => en = .returned (.tuple #[.int .i64 n, .string t, .string r, .int .i64 e]) ∧ Below w.heap.size w w' := by
  refine ((frame_Get_ok k).calls (b, ()) (n, t, r, e, ()) h noMemS w [.string b] (fun p v h => by cases h) ⟨rfl, trivial⟩).mono ?_
  rintro en w' ⟨u, S', rfl, -, -, -, ⟨us, rfl, hus⟩, hb⟩
  match us, hus with
  | [u0, u1, u2, u3], ⟨h0, h1, h2, h3, _⟩ =>
    have h0 : [u0] = [.int .i64 n] := h0
    have h1 : [u1] = [.string t] := h1
    have h2 : [u2] = [.string r] := h2
    have h3 : [u3] = [.int .i64 e] := h3
    obtain rfl : u0 = .int .i64 n := by simpa using h0
    obtain rfl : u1 = .string t := by simpa using h1
    obtain rfl : u2 = .string r := by simpa using h2
    obtain rfl : u3 = .int .i64 e := by simpa using h3
    exact ⟨rfl, hb⟩
theorem GetInt_calls (k : Nat) (b r : ByteArray) (n e : Int) (w : World) (h : wire_GetInt k b = some (n, r, e, ())) :
    Calls Try.prog 103 #[.string b] w fun en w' => en = .returned (.tuple #[.int .i64 n, .string r, .int .i64 e]) ∧ Below w.heap.size w w' := by
  refine ((wire_GetInt_ok k).calls (b, ()) (n, r, e, ()) h noMemS w [.string b] (fun p v h => by cases h) ⟨rfl, trivial⟩).mono ?_
  rintro en w' ⟨u, S', rfl, -, -, -, ⟨us, rfl, hus⟩, hb⟩
  match us, hus with
  | [u0, u1, u2], ⟨h0, h1, h2, _⟩ =>
    have h0 : [u0] = [.int .i64 n] := h0
    have h1 : [u1] = [.string r] := h1
    have h2 : [u2] = [.int .i64 e] := h2
    obtain rfl : u0 = .int .i64 n := by simpa using h0
    obtain rfl : u1 = .string r := by simpa using h1
    obtain rfl : u2 = .int .i64 e := by simpa using h2
    exact ⟨rfl, hb⟩
theorem grown_below {W W' : World} (h : Below W.heap.size W W') : W.grownBy W' none := ⟨h.os, h.tape, h.output, h.size, fun i hi _ => h.block i hi⟩

theorem blk_at {w : World} {g : Nat} {o : Obj} (h : w.heap[g]? = some o) : g < w.heap.size := (Array.getElem?_eq_some_iff.1 h).1
/-- One round of a scan, told. -/
def scanStep (k q' : Nat) (e1 e2 n1 n2 n : Int) (s2 r1 : ByteArray) : Option (List (ByteArray × ByteArray)) :=
  bif e1 != 0 then some [] else bif e2 != 0 then some [] else bif n1 != 1 then some [] else bif n2 != n then some [] else
  bif decide (n < 0) then some [] else bif decide (n > 1000000000) then some [] else bif decide ((s2.size : Int) > 1000) then some [] else
  (scanL k q' r1 (n + 1)).bind fun l => some ((s2, r1) :: l)
theorem scan_stops {k q' : Nat} {e1 e2 n1 n2 n : Int} {s2 r1 : ByteArray} {post : List (ByteArray × ByteArray)} (h : scanStep k q' e1 e2 n1 n2 n s2 r1 = some post) (hc : ¬ e1 = 0 ∨ ¬ e2 = 0 ∨ ¬ n1 = 1 ∨ ¬ n2 = n ∨ n < 0 ∨ 1000000000 < n ∨ 1000 < (s2.size : Int)) : post = [] := by
  unfold scanStep at h
  have fin : some [] = some post → post = [] := fun h => (Option.some.inj h).symm
  by_cases c1 : e1 = 0
  · rw [nbeq_i c1] at h
    by_cases c2 : e2 = 0
    · rw [nbeq_i c2] at h
      by_cases c3 : n1 = 1
      · rw [nbeq_i c3] at h
        by_cases c4 : n2 = n
        · rw [nbeq_i c4] at h
          by_cases c5 : n < 0
          · exact fin ((bif_t c5 _ _).symm.trans h)
          · have h := (bif_f c5 _ _).symm.trans h
            by_cases c6 : n > 1000000000
            · exact fin ((bif_t c6 _ _).symm.trans h)
            · have h := (bif_f c6 _ _).symm.trans h
              exact fin ((bif_t (p := (s2.size : Int) > 1000) (by omega) _ _).symm.trans h)
        · rw [nbne_i c4] at h; exact fin h
      · rw [nbne_i c3] at h; exact fin h
    · rw [nbne_i c2] at h; exact fin h
  · rw [nbne_i c1] at h; exact fin h
theorem scan_goes {k q' : Nat} {n : Int} {s2 r1 : ByteArray} {post : List (ByteArray × ByteArray)} (h : scanStep k q' 0 0 1 n n s2 r1 = some post) (h0 : 0 ≤ n) (h1 : n ≤ 1000000000) (h2 : (s2.size : Int) ≤ 1000) : ∃ l, post = (s2, r1) :: l ∧ scanL k q' r1 (n + 1) = some l := by
  unfold scanStep at h
  rw [nbeq_i rfl, nbeq_i (a := 1) rfl, nbeq_i (a := n) rfl] at h
  have h := (bif_f (p := n < 0) (by omega) _ _).symm.trans h
  have h := (bif_f (p := n > 1000000000) (by omega) _ _).symm.trans h
  have h := (bif_f (p := (s2.size : Int) > 1000) (by omega) _ _).symm.trans h
  obtain ⟨l, h3, h4⟩ := Option.bind_eq_some_iff.1 h
  exact ⟨l, (Option.some.inj h4).symm, h3⟩

set_option maxHeartbeats 4000000 in
set_option maxRecDepth 100000 in
theorem records_all (k q : Nat) (b : ByteArray) (first : Int) (xs : List (ByteArray × ByteArray)) (hx : scanL k q b first = some xs) (Bf Bn : Nat) (l : Nat) (J : List (ByteArray × ByteArray) → World → Prop)
    (hJ : ∀ pre W1 W2 row, J pre W1 → W1.grownBy W2 row → (∀ r, row = some r → r = Bn) → J pre W2)
    (hY : ∀ pre x post W1, xs = pre ++ x :: post → J pre W1 → (∃ cs, W1.heap[Bn]? = some (.cells cs 9 (0, 0))) → YieldAt Fence.wide 0 Try.prog l #[.string x.1, .string x.2] W1 fun e W' => e = .returned (.bool true) ∧ J (pre ++ [x]) W' ∧ W'.heap[Bn]? = W1.heap[Bn]?)
    (W : World) (hB : W.heap[Bn]? = some (.cells #[.string b] 9 (0, 0))) (hBf : W.heap[Bf]? = some (.cells #[.int .i64 first] 3 (0, 0))) (hJ0 : J [] W) :
    CallsIn Fence.wide 0 Try.prog 128 #[.func (.yield l) #[] #[], .pointer (some ⟨Bf, 0, none⟩), .pointer (some ⟨Bn, 0, none⟩)] W fun e W' => (∃ v, e = .returned v) ∧ J xs W' := by
  have HJ := Sd.mk hJ
  have HY := Sd.mk hY
  have HX := Sd.mk hx
  clear hJ hY hx
  have hcf := bk_cell hBf 0
  have hff := bk_frozen hBf 0
  simp only [List.getElem?_toArray, List.getElem?_cons_zero] at hcf
  have hfn : ∀ f, Fence.wide.fn f := fun _ => trivial
  have hdp : Fence.wide.depth = none := rfl
  refine callsIn_of_wp Try.func128 rfl trivial ?_ rfl
  simp only [Try.ntmps128, List.size_toArray, List.length_cons, List.length_nil, Nat.reduceAdd, Nat.reduceSub, Array.replicate_succ, Array.replicate_zero, List.push_toArray, List.append_toArray, List.nil_append, List.cons_append]
  gi_wp2
  clear hcf hff hBf
  gi_loopw [4] (fun v wr => ∃ (pre post : List (ByteArray × ByteArray)) (q' : Nat) (b' : ByteArray), v = .int .i64 (first + pre.length) ∧ Sd (xs = pre ++ post) ∧ Sd (pre ≠ [] → 0 ≤ first ∧ first + pre.length ≤ 1000000001) ∧ Sd (scanL k q' b' (first + pre.length) = some post) ∧ Sd (J pre wr) ∧ Sd (wr.heap[Bn]? = some (.cells #[.string b'] 9 (0, 0))))
    (fun v _ => xs.length - (intOf v - first).toNat)
  case atStart => exact ⟨[], xs, q, b, by simp, ⟨rfl⟩, ⟨fun h => absurd rfl h⟩, ⟨by simpa using HX.out⟩, ⟨hJ0⟩, ⟨hB⟩⟩
  case round =>
    obtain ⟨pre, post, q', b', rfl, HE, HN, HS, HJs, HB⟩ := hrel
    have hc := bk_cell HB.out 0
    simp only [List.getElem?_toArray, List.getElem?_cons_zero] at hc
    cases q' with
    | zero => exact absurd HS.out (by simp [scanL])
    | succ q' =>
      have hs := HS.out
      unfold scanL at hs
      obtain ⟨⟨n1, t1, r1, e1, ⟨⟩⟩, hg, hs⟩ := Option.bind_eq_some_iff.1 hs
      obtain ⟨⟨n2, s2, e2, ⟨⟩⟩, hi, hs⟩ := Option.bind_eq_some_iff.1 hs
      have HG := Sd.mk hg
      have HI := Sd.mk hi
      clear hg hi HS
      obtain ⟨n, hn⟩ : ∃ n, first + (pre.length : Int) = n := ⟨_, rfl⟩
      rw [hn] at hs ⊢
      have HNN := Sd.mk hn
      clear hn
      -- the walk up to the conditions
      have HP : Sd (scanStep k q' e1 e2 n1 n2 n s2 r1 = some post) := ⟨hs⟩
      clear hs
      by_cases hG : e1 = 0 ∧ e2 = 0 ∧ n1 = 1 ∧ n2 = n ∧ 0 ≤ n ∧ n ≤ 1000000000 ∧ (s2.size : Int) ≤ 1000
      · obtain ⟨rfl, rfl, rfl, rfl, g0, g1, g2⟩ := hG
        obtain ⟨post', rfl, hpost⟩ := scan_goes HP.out g0 g1 g2
        have HPO := Sd.mk hpost
        clear hpost HP
        gi_wp2_with (gi_at_call 129; refine (callsIn_wide.2 (Get_calls k _ t1 r1 _ _ _ HG.out)).mono ?_; rintro e w' ⟨rfl, h1⟩; have H1 := Sd.mk h1; clear h1)
        gi_wp2_with (gi_at_call 103; refine (callsIn_wide.2 (GetInt_calls k _ s2 _ _ _ HI.out)).mono ?_; rintro e w2 ⟨rfl, h2⟩; have H2 := Sd.mk h2; clear h2; have hJ2 : Sd (J pre w2) := ⟨HJ.out _ _ _ none (HJ.out _ _ _ none HJs.out (grown_below H1.out) (fun r e => by cases e)) (grown_below H2.out) (fun r e => by cases e)⟩; have hB2 : Sd (w2.heap[Bn]? = some (.cells #[.string b'] 9 (0, 0))) := ⟨(H2.out.block Bn (Nat.lt_of_lt_of_le (blk_at HB.out) H1.out.size)).trans ((H1.out.block Bn (blk_at HB.out)).trans HB.out)⟩; obtain ⟨fn, tmps, assign, body, hy, hR⟩ := HY.out pre (s2, r1) post' w2 HE.out hJ2.out ⟨_, hB2.out⟩)
        have HB3 := hB2
        clear hB2
        refine hR.mono ?_
        rintro e W3 ⟨rfl, hJ3, hB3⟩
        have HB4 := Sd.mk (hB3.trans HB3.out)
        have HJ3 := Sd.mk hJ3
        clear hB3 hJ3 hR hy
        have hc3 := bk_cell HB4.out 0
        have hf3 := bk_frozen HB4.out 0
        simp only [List.getElem?_toArray, List.getElem?_cons_zero] at hc3
        gi_wp2
        go_roundw
        case rel =>
          have hn := HNN.out
          refine ⟨pre ++ [(s2, r1)], post', q', r1, ?_, ⟨by rw [HE.out]; simp⟩, ⟨fun _ => ?_⟩, ⟨?_⟩, ⟨HJ.out _ _ _ (some Bn) HJ3.out ?_ (fun r e => by cases e; rfl)⟩, ⟨bk_put HB4.out 0 _ rfl⟩⟩
          · rw [List.length_append, List.length_singleton, ← hn]; congr 1; omega
          · have h3 : first + ((pre ++ [(s2, r1)]).length : Int) = first + pre.length + 1 := by rw [List.length_append]; simp; omega
            cases pre with
            | nil => simp at hn; rw [h3]; simp; omega
            | cons p pre => have := HN.out (by simp); rw [h3]; omega
          · have h3 : first + ((pre ++ [(s2, r1)]).length : Int) = first + pre.length + 1 := by rw [List.length_append]; simp; omega
            rw [h3, hn]; exact HPO.out
          · exact ⟨rfl, rfl, rfl, by simp [World.setCell], fun k _ hk => Below.heap_setCell _ _ _ _ (fun e => hk (by simp [e]))⟩
        case measure =>
          have hn := HNN.out
          have hl := congrArg List.length HE.out
          rw [List.length_append, List.length_cons] at hl
          simp only [intOf]
          omega
      · gi_wp2_with (gi_at_call 129; refine (callsIn_wide.2 (Get_calls k _ t1 r1 n1 e1 _ HG.out)).mono ?_; rintro e w' ⟨rfl, h1⟩; have H1 := Sd.mk h1; clear h1)
        gi_wp2_with (gi_at_call 103; refine (callsIn_wide.2 (GetInt_calls k _ s2 n2 e2 _ HI.out)).mono ?_; rintro e w2 ⟨rfl, h2⟩; have H2 := Sd.mk h2; clear h2; have hJ2 : Sd (J pre w2) := ⟨HJ.out _ _ _ none (HJ.out _ _ _ none HJs.out (grown_below H1.out) (fun r e => by cases e)) (grown_below H2.out) (fun r e => by cases e)⟩; have hB2 : Sd (w2.heap[Bn]? = some (.cells #[.string b'] 9 (0, 0))) := ⟨(H2.out.block Bn (Nat.lt_of_lt_of_le (blk_at HB.out) H1.out.size)).trans ((H1.out.block Bn (blk_at HB.out)).trans HB.out)⟩)
        all_goals first
          | (have hp := scan_stops HP.out (by omega)
             refine bodyPost_ret (results_none rfl _ _ _) rfl ?_
             exact ⟨⟨_, rfl⟩, by rw [HE.out, hp, List.append_nil]; exact hJ2.out⟩)
          | (exfalso; omega)
end Go.Proofs.Ytoeikeabbdnkbaa.Q
