import Derived.Test.YtfhphiedbdinmaaGreatDoorEvFrameP
import Derived.Test.YtfhphiedbdinmaaGreatDoorARange
import Derived.RegionIn
import Derived.Test.YtfhphiedbdinmaaGreatDoorAHClone
set_option linter.all false
namespace Go.Proofs.YtfhphiedbdinmaaGreatDoor.Q
open Go Go.RowKit Go.Shelf A Ab
section
def noMemS : Mem := fun _ => none
theorem Get_calls (k : Nat) (b t r : ByteArray) (n e : Int) (w : World) (h : frame_Get k b = some (n, t, r, e, ())) :
 Calls Tryz.prog 127 #[.string b] w fun en w' => en = .returned (.tuple #[.int .i64 n, .string t, .string r, .int .i64 e]) /\ Below w.heap.size w w' := by
 refine ((frame_Get_ok k).calls (b, ()) (n, t, r, e, ()) h noMemS w [.string b] trivial (fun p v h => by cases h) ⟨rfl, trivial⟩).mono ?_
 rintro en w' ⟨u, S', rfl, -, -, -, ⟨us, rfl, hus⟩, hb⟩
 match us, hus with
 | [u0, u1, u2, u3], ⟨h0, h1, h2, h3, _⟩ =>
   have h0 : [u0] = [.int .i64 n] := h0
   have h1 : [u1] = [.string t] := h1
   have h2 : [u2] = [.string r] := h2
   have h3 : [u3] = [.int .i64 e] := h3
   obtain rfl : u0 = .int .i64 n := by simpa using h0
   obtain rfl : u1 = .string t := by simpa using h1
   obtain rfl : u2 = .string r := by simpa using h2
   obtain rfl : u3 = .int .i64 e := by simpa using h3
   exact ⟨rfl, hb⟩
theorem GetInt_calls (k : Nat) (b r : ByteArray) (n e : Int) (w : World) (h : wire_GetInt k b = some (n, r, e, ())) :
 Calls Tryz.prog 99 #[.string b] w fun en w' => en = .returned (.tuple #[.int .i64 n, .string r, .int .i64 e]) /\ Below w.heap.size w w' := by
 refine ((wire_GetInt_ok k).calls (b, ()) (n, r, e, ()) h noMemS w [.string b] trivial (fun p v h => by cases h) ⟨rfl, trivial⟩).mono ?_
 rintro en w' ⟨u, S', rfl, -, -, -, ⟨us, rfl, hus⟩, hb⟩
 match us, hus with
 | [u0, u1, u2], ⟨h0, h1, h2, _⟩ =>
   have h0 : [u0] = [.int .i64 n] := h0
   have h1 : [u1] = [.string r] := h1
   have h2 : [u2] = [.int .i64 e] := h2
   obtain rfl : u0 = .int .i64 n := by simpa using h0
   obtain rfl : u1 = .string r := by simpa using h1
   obtain rfl : u2 = .int .i64 e := by simpa using h2
   exact ⟨rfl, hb⟩
theorem grown_below {W W' : World} (h : Below W.heap.size W W') : W.grownBy W' none := ⟨h.os, h.tape, h.output, h.size, fun i hi _ => h.block i hi⟩
theorem blk_at {w : World} {g : Nat} {o : Obj} (h : w.heap[g]? = some o) : g < w.heap.size := (Array.getElem?_eq_some_iff.1 h).1
def scanStep (k q' : Nat) (e1 e2 n1 n2 n : Int) (s2 r1 : ByteArray) : Option (List (ByteArray × ByteArray)) :=
 bif e1 != 0 then some [] else bif e2 != 0 then some [] else bif n1 != 1 then some [] else bif n2 != n then some [] else
 bif decide (n < 0) then some [] else bif decide (n > 1000000000) then some [] else bif decide ((s2.size : Int) > 1000) then some [] else
 (scanL k q' r1 (n + 1)).bind fun l => some ((s2, r1) :: l)
theorem scan_stops {k q' : Nat} {e1 e2 n1 n2 n : Int} {s2 r1 : ByteArray} {post : List (ByteArray × ByteArray)} (h : scanStep k q' e1 e2 n1 n2 n s2 r1 = some post) (hc : ¬ e1 = 0 \/ ¬ e2 = 0 \/ ¬ n1 = 1 \/ ¬ n2 = n \/ n < 0 \/ 1000000000 < n \/ 1000 < (s2.size : Int)) : post = [] := by
 unfold scanStep at h
 have fin : some [] = some post -> post = [] := fun h => (Option.some.inj h).symm
 by_cases c1 : e1 = 0
 . rw [nbeq_i c1] at h
   by_cases c2 : e2 = 0
   . rw [nbeq_i c2] at h
     by_cases c3 : n1 = 1
     . rw [nbeq_i c3] at h
       by_cases c4 : n2 = n
       . rw [nbeq_i c4] at h
         by_cases c5 : n < 0
         . exact fin ((bif_t c5 _ _).symm.trans h)
         . have h := (bif_f c5 _ _).symm.trans h
           by_cases c6 : n > 1000000000
           . exact fin ((bif_t c6 _ _).symm.trans h)
           . have h := (bif_f c6 _ _).symm.trans h
             exact fin ((bif_t (p := (s2.size : Int) > 1000) (by omega) _ _).symm.trans h)
       . rw [nbne_i c4] at h; exact fin h
     . rw [nbne_i c3] at h; exact fin h
   . rw [nbne_i c2] at h; exact fin h
 . rw [nbne_i c1] at h; exact fin h
theorem scan_goes {k q' : Nat} {n : Int} {s2 r1 : ByteArray} {post : List (ByteArray × ByteArray)} (h : scanStep k q' 0 0 1 n n s2 r1 = some post) (h0 : 0 <= n) (h1 : n <= 1000000000) (h2 : (s2.size : Int) <= 1000) : ∃ l, post = (s2, r1) :: l /\ scanL k q' r1 (n + 1) = some l := by
 unfold scanStep at h
 rw [nbeq_i rfl, nbeq_i (a := 1) rfl, nbeq_i (a := n) rfl] at h
 have h := (bif_f (p := n < 0) (by omega) _ _).symm.trans h
 have h := (bif_f (p := n > 1000000000) (by omega) _ _).symm.trans h
 have h := (bif_f (p := (s2.size : Int) > 1000) (by omega) _ _).symm.trans h
 obtain ⟨l, h3, h4⟩ := Option.bind_eq_some_iff.1 h
 exact ⟨l, (Option.some.inj h4).symm, h3⟩
set_option maxHeartbeats 4000000 in
set_option maxRecDepth 100000 in
theorem records_all (k q : Nat) (b : ByteArray) (first : Int) (xs : List (ByteArray × ByteArray)) (hx : scanL k q b first = some xs) (Bf Bn : Nat) (l : Nat) (J : List (ByteArray × ByteArray) -> World -> Prop)
 (hJ : ∀ pre W1 W2 row, J pre W1 -> W1.grownBy W2 row -> (∀ r, row = some r -> r = Bn) -> J pre W2)
 (hY : ∀ pre x post W1, xs = pre ++ x :: post -> J pre W1 -> (∃ cs, W1.heap[Bn]? = some (.cells cs 9 (0, 0))) -> YieldAt Fence.wide 0 Tryz.prog l #[.string x.1, .string x.2] W1 fun e W' => e = .returned (.bool true) /\ J (pre ++ [x]) W' /\ W'.heap[Bn]? = W1.heap[Bn]?)
 (W : World) (hB : W.heap[Bn]? = some (.cells #[.string b] 9 (0, 0))) (hBf : W.heap[Bf]? = some (.cells #[.int .i64 first] 3 (0, 0))) (hJ0 : J [] W) :
 CallsIn Fence.wide 0 Tryz.prog 156 #[.func (.yield l) #[] #[], .pointer (some ⟨Bf, 0, none⟩), .pointer (some ⟨Bn, 0, none⟩)] W fun e W' => (∃ v, e = .returned v) /\ J xs W' := by
 have HJ := Sd.mk hJ
 have HY := Sd.mk hY
 have HX := Sd.mk hx
 clear hJ hY hx
 have hcf := bk_cell hBf 0
 have hff := bk_frozen hBf 0
 simp only [List.getElem?_toArray, List.getElem?_cons_zero] at hcf
 have hfn : ∀ f, Fence.wide.fn f := fun _ => trivial
 have hdp : Fence.wide.depth = none := rfl
 refine callsIn_of_wp Tryz.func156 rfl trivial ?_ rfl
 simp only [Tryz.ntmps156, List.size_toArray, List.length_cons, List.length_nil, Nat.reduceAdd, Nat.reduceSub, Array.replicate_succ, Array.replicate_zero, List.push_toArray, List.append_toArray, List.nil_append, List.cons_append]
 gi_wp2
 clear hcf hff hBf
 gi_loopw [4] (fun v wr => ∃ (pre post : List (ByteArray × ByteArray)) (q' : Nat) (b' : ByteArray), v = .int .i64 (first + pre.length) /\ Sd (xs = pre ++ post) /\ Sd (pre ≠ [] -> 0 <= first /\ first + pre.length <= 1000000001) /\ Sd (scanL k q' b' (first + pre.length) = some post) /\ Sd (J pre wr) /\ Sd (wr.heap[Bn]? = some (.cells #[.string b'] 9 (0, 0))))
  (fun v _ => xs.length - (intOf v - first).toNat)
 case atStart => exact ⟨[], xs, q, b, by simp, ⟨rfl⟩, ⟨fun h => absurd rfl h⟩, ⟨by simpa using HX.out⟩, ⟨hJ0⟩, ⟨hB⟩⟩
 case round =>
  obtain ⟨pre, post, q', b', rfl, HE, HN, HS, HJs, HB⟩ := hrel
  have hc := bk_cell HB.out 0
  simp only [List.getElem?_toArray, List.getElem?_cons_zero] at hc
  cases q' with
  | zero => exact absurd HS.out (by simp [scanL])
  | succ q' =>
    have hs := HS.out
    unfold scanL at hs
    obtain ⟨⟨n1, t1, r1, e1, ⟨⟩⟩, hg, hs⟩ := Option.bind_eq_some_iff.1 hs
    obtain ⟨⟨n2, s2, e2, ⟨⟩⟩, hi, hs⟩ := Option.bind_eq_some_iff.1 hs
    have HG := Sd.mk hg
    have HI := Sd.mk hi
    clear hg hi HS
    obtain ⟨n, hn⟩ : ∃ n, first + (pre.length : Int) = n := ⟨_, rfl⟩
    rw [hn] at hs ⊢
    have HNN := Sd.mk hn
    clear hn
    -- the walk up to the conditions
    have HP : Sd (scanStep k q' e1 e2 n1 n2 n s2 r1 = some post) := ⟨hs⟩
    clear hs
    by_cases hG : e1 = 0 /\ e2 = 0 /\ n1 = 1 /\ n2 = n /\ 0 <= n /\ n <= 1000000000 /\ (s2.size : Int) <= 1000
    . obtain ⟨rfl, rfl, rfl, rfl, g0, g1, g2⟩ := hG
      obtain ⟨post', rfl, hpost⟩ := scan_goes HP.out g0 g1 g2
      have HPO := Sd.mk hpost
      clear hpost HP
      gi_wp2_with (gi_at_call 127; refine (callsIn_wide.2 (Get_calls k _ t1 r1 _ _ _ HG.out)).mono ?_; rintro e w' ⟨rfl, h1⟩; have H1 := Sd.mk h1; clear h1)
      gi_wp2_with (gi_at_call 99; refine (callsIn_wide.2 (GetInt_calls k _ s2 _ _ _ HI.out)).mono ?_; rintro e w2 ⟨rfl, h2⟩; have H2 := Sd.mk h2; clear h2; have hJ2 : Sd (J pre w2) := ⟨HJ.out _ _ _ none (HJ.out _ _ _ none HJs.out (grown_below H1.out) (fun r e => by cases e)) (grown_below H2.out) (fun r e => by cases e)⟩; have hB2 : Sd (w2.heap[Bn]? = some (.cells #[.string b'] 9 (0, 0))) := ⟨(H2.out.block Bn (Nat.lt_of_lt_of_le (blk_at HB.out) H1.out.size)).trans ((H1.out.block Bn (blk_at HB.out)).trans HB.out)⟩; obtain ⟨fn, tmps, assign, body, hy, hR⟩ := HY.out pre (s2, r1) post' w2 HE.out hJ2.out ⟨_, hB2.out⟩)
      have HB3 := hB2
      clear hB2
      refine hR.mono ?_
      rintro e W3 ⟨rfl, hJ3, hB3⟩
      have HB4 := Sd.mk (hB3.trans HB3.out)
      have HJ3 := Sd.mk hJ3
      clear hB3 hJ3 hR hy
      have hc3 := bk_cell HB4.out 0
      have hf3 := bk_frozen HB4.out 0
      simp only [List.getElem?_toArray, List.getElem?_cons_zero] at hc3
      gi_wp2
      go_roundw
      case rel =>
       have hn := HNN.out
       refine ⟨pre ++ [(s2, r1)], post', q', r1, ?_, ⟨by rw [HE.out]; simp⟩, ⟨fun _ => ?_⟩, ⟨?_⟩, ⟨HJ.out _ _ _ (some Bn) HJ3.out ?_ (fun r e => by cases e; rfl)⟩, ⟨bk_put HB4.out 0 _ rfl⟩⟩
       . rw [List.length_append, List.length_singleton, <- hn]; congr 1; omega
       . have h3 : first + ((pre ++ [(s2, r1)]).length : Int) = first + pre.length + 1 := by rw [List.length_append]; simp; omega
         cases pre with
         | nil => simp at hn; rw [h3]; simp; omega
         | cons p pre => have := HN.out (by simp); rw [h3]; omega
       . have h3 : first + ((pre ++ [(s2, r1)]).length : Int) = first + pre.length + 1 := by rw [List.length_append]; simp; omega
         rw [h3, hn]; exact HPO.out
       . exact ⟨rfl, rfl, rfl, by simp [World.setCell], fun k _ hk => Below.heap_setCell _ _ _ _ (fun e => hk (by simp [e]))⟩
      case measure =>
       have hn := HNN.out
       have hl := congrArg List.length HE.out
       rw [List.length_append, List.length_cons] at hl
       simp only [intOf]
       omega
    . gi_wp2_with (gi_at_call 127; refine (callsIn_wide.2 (Get_calls k _ t1 r1 n1 e1 _ HG.out)).mono ?_; rintro e w' ⟨rfl, h1⟩; have H1 := Sd.mk h1; clear h1)
      gi_wp2_with (gi_at_call 99; refine (callsIn_wide.2 (GetInt_calls k _ s2 n2 e2 _ HI.out)).mono ?_; rintro e w2 ⟨rfl, h2⟩; have H2 := Sd.mk h2; clear h2; have hJ2 : Sd (J pre w2) := ⟨HJ.out _ _ _ none (HJ.out _ _ _ none HJs.out (grown_below H1.out) (fun r e => by cases e)) (grown_below H2.out) (fun r e => by cases e)⟩; have hB2 : Sd (w2.heap[Bn]? = some (.cells #[.string b'] 9 (0, 0))) := ⟨(H2.out.block Bn (Nat.lt_of_lt_of_le (blk_at HB.out) H1.out.size)).trans ((H1.out.block Bn (blk_at HB.out)).trans HB.out)⟩)
      all_goals first
       | (have hp := scan_stops HP.out (by omega)
          refine bodyPost_ret (results_none rfl _ _ _) rfl ?_
          exact ⟨⟨_, rfl⟩, by rw [HE.out, hp, List.append_nil]; exact hJ2.out⟩)
       | (exfalso; omega)
end
section
attribute [local go_sem] Oper.semAt_some
set_option maxHeartbeats 1000000 in
theorem records_calls (b : ByteArray) (n : Int) (w : World) :
 Calls Tryz.prog 118 #[.string b, .int .i64 n] w fun e w' => e = .returned (.func (.func 156) #[] #[.pointer (some ⟨w.heap.size + 1, 0, none⟩), .pointer (some ⟨w.heap.size, 0, none⟩)]) /\ w' = (w.alloc (.cells #[.string b] 9)).alloc (.cells #[.int .i64 n] 3) := by
 have hmf : ∀ (fn : Fn) (first cap : Array Value) (w : World), (Instr.makeFunc fn first cap).run Tryz.prog w = .ok (.func fn first cap) w := fun _ _ _ _ => rfl
 go_enter Tryz.func118, Tryz.ntmps118
 go_wp2
 go_ret
 exact ⟨rfl, rfl⟩
theorem string_info : (Tryz.prog.info? 9).map (fun i => (i.zero, i.size, i.bytes)) = some (some (.string ⟨#[]⟩), 1, 16) := by kernel_rfl
theorem str_cells {w : World} {B : Nat} {v : Value} {n : Nat} {xs : List Value} (h : w.ownsRow B 9 1 v n xs) : ∀ g, v.ownBlock = some g -> B <= g /\ ∃ c fz, w.heap[g]? = some (.cells c 9 fz) := by
 intro g hg
 rcases h.2 with ⟨rfl, _⟩ | ⟨g', cap, cur, rfl, hB, hh, _⟩
 . simp [Value.ownBlock] at hg
 . simp [Value.ownBlock] at hg
   subst hg
   exact ⟨hB, _, _, hh⟩
def ScanI (b : ByteArray) (S0 : Nat) (w : World) (pre : List (ByteArray × ByteArray)) (W : World) : Prop :=
 W.heap[S0]? = some (.cells #[.string b] 9 (0, 0)) /\ W.heap[S0 + 2]? = some (.cells #[.int .i64 (takenOf b pre)] 3 (0, 0)) /\
 (∃ v, W.heap[S0 + 1]? = some (.cells #[v] 23 (0, 0)) /\ W.ownsRow (S0 + 5) 9 1 v pre.length (pre.map fun p => .string p.1)) /\ Below S0 w W /\ S0 + 5 <= W.heap.size
theorem ScanI.kept {b : ByteArray} {S0 : Nat} {w : World} {pre : List (ByteArray × ByteArray)} {W W' : World} {row : Option Nat} (h : ScanI b S0 w pre W) (hg : W.grownBy W' row) (hr : ∀ r, row = some r -> r = S0 + 3 \/ (S0 + 5 <= r /\ ∃ o : Obj, W.heap[r]? = some o /\ o.isCells = false)) : ScanI b S0 w pre W' := by
 obtain ⟨h1, h2, ⟨v, h3, h4⟩, h5, h6⟩ := h
 have nb : ∀ k, k < S0 + 3 -> some k ≠ row := fun k hk e => by rcases hr k e.symm with h | ⟨h, _⟩ <;> omega
 refine ⟨(hg.block _ (blk_at h1) (nb _ (by omega))).trans h1, (hg.block _ (blk_at h2) (nb _ (by omega))).trans h2, ⟨v, (hg.block _ (blk_at h3) (nb _ (by omega))).trans h3, h4.kept hg ?_⟩, h5.grown hg (by omega) (fun r e => by rcases hr r e with h | ⟨h, _⟩ <;> omega), by have := hg.size; omega⟩
 cases e : v.ownBlock with
 | none => exact .inl rfl
 | some g =>
   refine .inr fun e2 => ?_
   obtain ⟨k1, c, fz, k2⟩ := str_cells h4 g e
   rcases hr g e2.symm with h | ⟨_, o, ho, hc⟩
   . omega
   . rw [k2] at ho; cases ho; cases hc
set_option maxHeartbeats 4000000 in
set_option maxRecDepth 100000 in
theorem Scan_calls (k : Nat) (b : ByteArray) (first : Int) (xs : List (ByteArray × ByteArray)) (hx : scanL k k b first = some xs) (hlen : xs.length <= 1000000000) (w : World) :
 Calls Tryz.prog 85 #[.string b, .int .i64 first] w fun e w' => ∃ v, e = .returned (.tuple #[v, .int .i64 (takenOf b xs)]) /\ Below w.heap.size w w' /\ w'.ownsRow w.heap.size 9 1 v xs.length (xs.map fun p => .string p.1) := by
 refine (callsIn_wide (n := 0)).1 ?_
 have HX := Sd.mk hx
 have HL := Sd.mk hlen
 clear hx hlen
 have hfn : ∀ f, Fence.wide.fn f := fun _ => trivial
 have hdp : Fence.wide.depth = none := rfl
 obtain ⟨S0, hS0⟩ : ∃ S0, w.heap.size = S0 := ⟨_, rfl⟩
 have HS := Sd.mk hS0
 refine callsIn_of_wp_marks Tryz.func85 rfl trivial ?_ rfl
 simp only [Tryz.ntmps85, List.size_toArray, List.length_cons, List.length_nil, Nat.reduceAdd, Nat.reduceSub, Array.replicate_succ, Array.replicate_zero, List.push_toArray, List.append_toArray, List.nil_append, List.cons_append]
 gi_wp2_with (gi_at_call 118; refine (callsIn_wide.2 (records_calls _ _ _)).mono ?_; rintro e w' ⟨rfl, rfl⟩)
 obtain ⟨wr, hwr⟩ : ∃ wr, (((((w.alloc (.cells #[.string b] 9)).alloc (.cells #[.slice none 0 0] 23)).alloc (.cells #[.int .i64 0] 3)).alloc (.cells #[.string b] 9)).alloc (.cells #[.int .i64 first] 3)) = wr := ⟨_, rfl⟩
 have hsz : wr.heap.size = S0 + 5 := by rw [<- hwr]; simp; have := HS.out; omega
 have hat : ∀ (V : World) (o : Obj) (j : Nat), V.heap.size = j -> (V.alloc o).heap[j]? = some o := fun V o j e => by subst e; exact heap_alloc_new V o
 have hkeep : ∀ (V : World) (o o' : Obj) (j : Nat), V.heap[j]? = some o -> (V.alloc o').heap[j]? = some o := fun V o o' j e => (Below.heap_alloc V o' j (blk_at e)).trans e
 have b4 : wr.heap[S0 + 4]? = some (.cells #[.int .i64 first] 3 (0, 0)) := by rw [<- hwr]; exact hat _ _ _ (by simp; have := HS.out; omega)
 have b3 : wr.heap[S0 + 3]? = some (.cells #[.string b] 9 (0, 0)) := by rw [<- hwr]; exact hkeep _ _ _ _ (hat _ _ _ (by simp; have := HS.out; omega))
 have b2 : wr.heap[S0 + 2]? = some (.cells #[.int .i64 0] 3 (0, 0)) := by rw [<- hwr]; exact hkeep _ _ _ _ (hkeep _ _ _ _ (hat _ _ _ (by simp; have := HS.out; omega)))
 have b1 : wr.heap[S0 + 1]? = some (.cells #[.slice none 0 0] 23 (0, 0)) := by rw [<- hwr]; exact hkeep _ _ _ _ (hkeep _ _ _ _ (hkeep _ _ _ _ (hat _ _ _ (by simp; have := HS.out; omega))))
 have b0 : wr.heap[S0]? = some (.cells #[.string b] 9 (0, 0)) := by rw [<- hwr]; exact hkeep _ _ _ _ (hkeep _ _ _ _ (hkeep _ _ _ _ (hkeep _ _ _ _ (hat _ _ _ HS.out))))
 have hbel : Below S0 w wr := by
  rw [<- hwr]
  have h0 := HS.out
  exact ((((Below.alloc (Below.refl _ _) (Nat.le_of_eq h0.symm) _).alloc (by simp; omega) _).alloc (by simp; omega) _).alloc (by simp; omega) _).alloc (by simp; omega) _
 rw [hwr]
 have HB := Sd.mk (And.intro b0 (And.intro b1 (And.intro b2 (And.intro b3 (And.intro b4 (And.intro hbel hsz))))))
 clear b0 b1 b2 b3 b4 hbel hwr hat hkeep
 refine range_all2 (gf := 156) (lb := #[.pointer (some ⟨S0 + 4, 0, none⟩), .pointer (some ⟨S0 + 3, 0, none⟩)]) (encs := fun p : ByteArray × ByteArray => #[Value.string p.1, Value.string p.2]) (Bn := S0 + 3) (tB := 9) (xs := xs) rfl (enters_of Tryz.func156 (by kernel_rfl) rfl) (by omega) ?seqR ?hpsR
  (ScanI b S0 w) ?invR ?at0R ?a1R ?assignR ?bodyR ?doneR
 case assignR =>
  intro l d W K' hK'
  gi_wp2
  exact hK'
 case hpsR => intro _; rfl
 case seqR =>
  intro W hW l J' hJ' hY' h0'
  obtain ⟨b0, b1, b2, b3, b4, hbel, hsz⟩ := HB.out
  exact records_all k k b first xs HX.out (S0 + 4) (S0 + 3) l J' hJ' hY' W ((hW _ (by omega)).trans b3) ((hW _ (by omega)).trans b4) h0'
 case invR =>
  intro pre W W' row hI hg hr
  exact hI.kept hg (fun r e => (hr r e).imp_right (fun h => ⟨by omega, h.2⟩))
 case at0R =>
  obtain ⟨b0, b1, b2, b3, b4, hbel, hsz⟩ := HB.out
  exact ⟨b0, b2, ⟨.slice none 0 0, b1, ⟨rfl, .inl ⟨rfl, rfl⟩⟩⟩, hbel, by omega⟩
 case bodyR =>
  rintro l pre x post W hxs hI ⟨cs, hcs⟩
  have hHI := Sd.mk hI
  obtain ⟨h1, h2, ⟨v, h3, h4⟩, h5, h6⟩ := hI
  have c0 := bk_cell h1 0
  have c2 := bk_cell h2 0
  have c1 := bk_cell h3 0
  have f1 := bk_frozen h3 0
  have f2 := bk_frozen h2 0
  simp only [List.getElem?_toArray, List.getElem?_cons_zero] at c0 c1 c2
  have HCS := Sd.mk hcs
  have HOWN := Sd.mk h4
  have HXS := Sd.mk hxs
  have HH := Sd.mk (And.intro h1 (And.intro h2 (And.intro h3 (And.intro h5 h6))))
  clear h1 h2 h3 h4 h5 h6 hcs hxs
  obtain ⟨i0, hi, hz0, hz1, hz2⟩ := info_parts string_info
  gi_wp2_with (gi_at_builtin; refine wpListIn_append_own _ rfl _ _ 23 rfl (S0 + 5) 9 i0 (.string ⟨#[]⟩) 1 16 Tryz.underlying23 hi hz0 hz1 hz2 rfl (by decide) _ _ _ rfl (HOWN.out.alloc _) ⟨W.heap.size, 0, none⟩ 1 1 [.string x.1] rfl rfl ?zc1 ?zc2 ?zc3 ?zc4 ?zc5 ?_)
  case zc1 =>
   intro j u hj
   match j, hj with
   | 0, hj => simp at hj; subst hj; exact (bk_cell (heap_alloc_new W _) 0).trans rfl
  case zc2 => intro u hu; simp at hu; subst hu; rfl
  case zc3 => have h1 := congrArg List.length HXS.out; rw [List.length_append, List.length_cons] at h1; have := HL.out; unfold maxLen; omega
  case zc4 => have h1 := congrArg List.length HXS.out; rw [List.length_append, List.length_cons] at h1; have := HL.out; omega
  case zc5 => have := HH.out.2.2.2.2; simp; omega
  intro v' w2 hown' hgrow _
  obtain ⟨h1, h2, h3, h5, h6⟩ := HH.out
  have hne : ∀ k, k < S0 + 5 -> some k ≠ v.ownBlock := fun k hk e => by
   obtain ⟨q1, _⟩ := str_cells HOWN.out k e.symm
   omega
  have keep : ∀ (k : Nat) (o : Obj), k < S0 + 5 -> W.heap[k]? = some o -> w2.heap[k]? = some o := fun k o hk ho =>
   (hgrow.block k (by simp; omega) (hne k hk)).trans ((Below.heap_alloc W _ k (by omega)).trans ho)
  have k1 := keep _ _ (by omega) h1
  have k2 := keep _ _ (by omega) h2
  have k3 := keep _ _ (by omega) h3
  have kn := keep _ _ (by omega) HCS.out
  have d0 := bk_cell k1 0
  have d1 := bk_cell k3 0
  have d2 := bk_cell k2 0
  have e1 := bk_frozen k3 0
  have e2 := bk_frozen k2 0
  simp only [List.getElem?_toArray, List.getElem?_cons_zero] at d0 d1 d2
  obtain ⟨g, cap, rfl⟩ : ∃ g cap, v' = .slice (some ⟨g, 0, none⟩) (pre.length + 1) cap := by
   rcases hown'.2 with ⟨_, h0⟩ | ⟨g, cap, cur, hv, _⟩
   . omega
   . exact ⟨g, cap, hv⟩
  have HF := Sd.mk (And.intro k1 (And.intro k2 (And.intro k3 (And.intro kn (And.intro hown' (And.intro hgrow (And.intro h5 h6)))))))
  clear k1 k2 k3 kn hown' hgrow h1 h2 h3 h5 h6 keep
  gi_wp2
  obtain ⟨k1, k2, k3, kn, hown', hgrow, h5, h6⟩ := HF.out
  obtain ⟨h1, h2, h3, _, _⟩ := HH.out
  have gset : ∀ (V : World) (p : Addr) (u : Value), V.grownBy (V.setCell p u) (some p.block) := fun V p u => ⟨rfl, rfl, rfl, by simp [World.setCell], fun k _ hk => Below.heap_setCell _ _ _ _ (fun e => hk (by simp [e]))⟩
  have hgne : g ≠ S0 + 1 /\ g ≠ S0 + 2 := by
   obtain ⟨q1, _⟩ := str_cells hown' g rfl
   omega
  have hsz2 : W.heap.size <= w2.heap.size := by have := hgrow.size; simp at this; omega
  refine ⟨⟨by simp [World.setCell]; exact hsz2, fun k o hk ho => ?_⟩, ?_, ?_, ?_, ?_, ?_, ?_⟩
  . have n1 : k ≠ S0 + 1 := fun e => by rw [e, h3] at hk; cases hk; cases ho
    have n2 : k ≠ S0 + 2 := fun e => by rw [e, h2] at hk; cases hk; cases ho
    have n3 : some k ≠ v.ownBlock := fun e => by
     obtain ⟨_, c, fz, q⟩ := str_cells HOWN.out k e.symm
     rw [q] at hk; cases hk; cases ho
    rw [Below.heap_setCell _ _ _ _ n2, Below.heap_setCell _ _ _ _ n1, hgrow.block k (by simp; have := blk_at hk; omega) n3, Below.heap_alloc _ _ _ (blk_at hk)]
    exact hk
  . rw [Below.heap_setCell _ _ _ _ (by show S0 + 3 ≠ S0 + 1 + 1; omega), Below.heap_setCell _ _ _ _ (by show S0 + 3 ≠ S0 + 1; omega), kn]
    exact HCS.out.symm
  . rw [Below.heap_setCell _ _ _ _ (by show S0 ≠ S0 + 1 + 1; omega), Below.heap_setCell _ _ _ _ (by show S0 ≠ S0 + 1; omega)]
    exact k1
  . refine bk_put (t := 3) (cs := #[.int .i64 (takenOf b pre)]) ?_ 0 _ ?_
    . rw [Below.heap_setCell _ _ _ _ (by show S0 + 2 ≠ S0 + 1; omega)]
      exact k2
    . rw [takenOf_snoc, IntKind.wrap_i64]; unfold wrap64; rfl
  . refine ⟨.slice (some ⟨g, 0, none⟩) (pre.length + 1) cap, ?_, ?_⟩
    . rw [Below.heap_setCell _ _ _ _ (by show S0 + 1 ≠ S0 + 1 + 1; omega)]
      exact bk_put k3 0 _ rfl
    . rw [List.length_append, List.length_singleton, List.map_append]
      refine World.ownsRow.kept (World.ownsRow.kept hown' (gset _ _ _) (.inr ?_)) (gset _ _ _) (.inr ?_)
      . simp [Value.ownBlock]; exact hgne.1
      . simp [Value.ownBlock]; exact hgne.2
  . exact (((h5.alloc (by omega) _).grown hgrow (by simp; omega) (fun k hk => by have := (str_cells HOWN.out k hk).1; omega)).setCell (by show S0 <= S0 + 1; omega) _).setCell (by show S0 <= S0 + 1 + 1; omega) _
  . simp [World.setCell]; omega
 case doneR =>
  rintro D W hD hI hDf
  obtain ⟨h1, h2, ⟨v, h3, h4⟩, h5, h6⟩ := hI
  have c2 := bk_cell h2 0
  have c1 := bk_cell h3 0
  simp only [List.getElem?_toArray, List.getElem?_cons_zero] at c1 c2
  have HH := Sd.mk (And.intro h1 (And.intro h2 (And.intro h3 (And.intro h4 (And.intro h5 (And.intro h6 hDf))))))
  clear h1 h2 h3 h4 h5 h6 hDf
  gi_wp2
  gi_region
  gi_wp2
  refine leaves_one (D := D) (W := W.drew) HH.out.2.2.2.2.2.2 (fun W' hk hg => ?_)
  obtain ⟨h1, h2, h3, h4, h5, h6, hDf⟩ := HH.out
  have hrow : W'.ownsRow (S0 + 5) 9 1 v xs.length (xs.map fun p => .string p.1) := by
   refine World.ownsRow.kept (w := W.drew) h4 hg ?_
   . cases e : v.ownBlock with
     | none => exact .inl rfl
     | some g =>
       refine .inr fun e2 => ?_
       injection e2 with e2
       subst e2
       obtain ⟨_, c, fz, k2⟩ := str_cells h4 _ e
       rw [k2] at hDf; cases hDf
  refine ⟨.tuple #[v, .int .i64 (takenOf b xs)], by simp [results, Tryz.results85, go_sem], v, rfl, ?_, ?_⟩
  . rw [HS.out]
    exact (Below.drew h5).grown hg (by show S0 <= W.heap.size; omega) (fun r e => by cases e; omega)
  . rw [HS.out]
    refine ⟨hrow.1, ?_⟩
    rcases hrow.2 with q2 | ⟨g, cap, cur, q3, q4, q5⟩
    . exact .inl q2
    . exact .inr ⟨g, cap, cur, q3, by omega, q5⟩
end
end Go.Proofs.YtfhphiedbdinmaaGreatDoor.Q
namespace Go.Proofs.YtfhphiedbdinmaaGreatDoor.A
open Go Go.RowKit Ab Q
def record_Scan_sig (k : Nat) : Sig := ⟨[.str, (.int .i64)], [(.sl .str), (.int .i64)], fun x => record_Scan k x.1 x.2.1⟩
theorem record_Scan_ok (k : Nat) : FnOk Go.Proofs.Tryz.prog 85 (record_Scan_sig k) := by
 refine ⟨entersAb (by kernel_rfl), ?_⟩
 rintro ⟨b, n, _⟩ ⟨r, t, _⟩ hy S w vs _ hS ha
 change ByteArray at b
 change Int at n
 change List ByteArray at r
 change Int at t
 match vs, ha with
 | [v0, v1], ⟨h0, h1, _⟩ =>
 have h0 : [v0] = [.string b] := h0
 have h1 : [v1] = [.int .i64 n] := h1
 obtain rfl : v0 = .string b := by simpa using h0
 obtain rfl : v1 = .int .i64 n := by simpa using h1
 replace hy : record_Scan k b n = some (r, t, ()) := hy
 unfold record_Scan at hy
 obtain ⟨xs, hx, hy⟩ := Option.bind_eq_some_iff.1 hy
 rw [cond_eq_ite] at hy
 split at hy
 . rename_i hlen
   have hlen := of_decide_eq_true hlen
   obtain ⟨rfl, rfl⟩ : xs.map (·.1) = r /\ takenOf b xs = t := by
    have := Option.some.inj hy
    exact ⟨congrArg Prod.fst this, congrArg (fun z : List ByteArray × Int × Unit => z.2.1) this⟩
   refine (Scan_calls k b n xs hx hlen w).mono ?_
   rintro e w' ⟨v, rfl, hb, hown⟩
   have e1 : xs.map (fun p => Value.string p.1) = (xs.map (·.1)).map Value.string := by rw [List.map_map]; rfl
   have e2 : xs.length = (xs.map (·.1)).length := (List.length_map ..).symm
   rw [e1, e2] at hown
   obtain ⟨S', a, b, c, d⟩ := row_new (t := .str) hS hb (row_str S _) hown
   exact ⟨_, S', rfl, a, b, c, ⟨[_, _], rfl, d, rfl, trivial⟩, hb⟩
 . cases hy
end Go.Proofs.YtfhphiedbdinmaaGreatDoor.A
namespace Go.Proofs.YtfhphiedbdinmaaGreatDoor.Q
open Go Go.RowKit Go.Lib
set_option maxHeartbeats 2000000 in
set_option maxRecDepth 100000 in
theorem cloneF_calls (ad : Addr) (n c : Nat) (cs : List Value) (w : World) (hl : cs.length = n * 3) (h1 : ∀ u ∈ cs, u.oneCell' = true) (hbig : n * 40 <= 140737488355328) (hc : ∀ j u, cs[j]? = some u -> w.cell? (ad.add j) = some u) :
 Calls Tryz.prog 49 #[.slice (some ad) n c] w fun e w' => ∃ v', e = .returned v' /\ w'.ownsRow w.heap.size 27 3 v' n cs /\ Below w.heap.size w w' := by
 obtain ⟨i0, hi, hz0, hz1, hz2⟩ := info_parts (P := Tryz.prog) (e := 27) (z := .agg #[.int .i64 0, .string ⟨#[]⟩, .string ⟨#[]⟩]) (size := 3) (bytes := 40) (by kernel_rfl)
 have q1 : ∀ (w : World) (a : Option Addr) (n c n' c' : Nat), (binOp .eql 32 (.slice a n c) (.slice none n' c')).run Tryz.prog w = .ok (.bool a.isNone) w := fun w a n c n' c' => Lib.run_eql_slice_nil w _ _ a n c n' c' Tryz.underlying32
 have A : Aside (∀ j u, cs[j]? = some u -> w.cell? (ad.add j) = some u) := hc
 clear hc
 have mixed : Tryz.prog.follows .mixedOrders = true := by kernel_rfl
 have t0 := Tryz.underlying32
 have t1 := Tryz.underlying27
 have a0 := Tryz.isAgg32
 have z0 := Tryz.sizeOf27
 have v0 := Tryz.zeroValue27
 go_enter Tryz.func49, Tryz.ntmps49
 go_wp2_with (at_builtin; refine wpList_append_own _ rfl _ _ 32 rfl w.heap.size 27 i0 (.agg #[.int .i64 0, .string ⟨#[]⟩, .string ⟨#[]⟩]) 3 40 t0 hi hz0 hz1 hz2 rfl (by decide) _ _ _ rfl (World.ownsRow_made w #[] 0 (Nat.le_refl _) (Nat.zero_le _) rfl) ad n c cs rfl ?qc1 ?qc2 ?qc3 ?qc4 ?qc5 ?qc6 ?_)
 case qc1 => exact hl
 case qc2 =>
  intro j u hj
  exact Lib.cell?_alloc_some _ (A.out j u hj)
 case qc3 => exact h1
 case qc4 => unfold maxLen; omega
 case qc5 => omega
 case qc6 => simp
 intro v' w1 hown hgrow hnil
 go_wp2
 go_ret
 refine ⟨v', rfl, by simpa using hown, ?_⟩
 exact ((Below.refl _ w).alloc (Nat.le_refl _) _).grown hgrow (by simp) (by intro k hk; simp [Value.ownBlock] at hk; omega)
set_option maxHeartbeats 1000000 in
theorem cloneF_nil (n c : Nat) (w : World) : Calls Tryz.prog 49 #[.slice none n c] w fun e w' => e = .returned (.slice none 0 0) /\ w' = w := by
 have q1 : ∀ (w : World) (a : Option Addr) (n c n' c' : Nat), (binOp .eql 32 (.slice a n c) (.slice none n' c')).run Tryz.prog w = .ok (.bool a.isNone) w := fun w a n c n' c' => Lib.run_eql_slice_nil w _ _ a n c n' c' Tryz.underlying32
 have mixed : Tryz.prog.follows .mixedOrders = true := by kernel_rfl
 have t0 := Tryz.underlying32
 have t1 := Tryz.underlying27
 have a0 := Tryz.isAgg32
 have z0 := Tryz.sizeOf27
 have v0 := Tryz.zeroValue27
 go_enter Tryz.func49, Tryz.ntmps49
 go_wp2
 go_ret
 exact ⟨rfl, rfl⟩
end Go.Proofs.YtfhphiedbdinmaaGreatDoor.Q
namespace Go.Proofs.YtfhphiedbdinmaaGreatDoor.A
open Go Go.RowKit Ab
abbrev FTy : Ty := .cons (.int .i64) (.cons .str (.cons .str .nil))
def slices_Clone_api_File_api_File_sig (k : Nat) : Sig := ⟨[.sl FTy], [.sl FTy], fun x => slices_Clone_api_File_api_File k x.1⟩
theorem slices_Clone_api_File_api_File_ok (k : Nat) : FnOk Go.Proofs.Tryz.prog 49 (slices_Clone_api_File_api_File_sig k) := by
 refine ⟨entersAb (by kernel_rfl), ?_⟩
 rintro ⟨l, _⟩ ⟨r, _⟩ hy S w vs _ hS ha
 change List FTy.den at l
 change List FTy.den at r
 match vs, ha with
 | [v1], ⟨h1, _⟩ =>
 have h1 : Reps S (.sl FTy) l [v1] := h1
 replace hy : slices_Clone_api_File_api_File k l = some (r, ()) := hy
 unfold slices_Clone_api_File_api_File at hy
 rw [cond_eq_ite] at hy
 split at hy
 . rename_i hlen
   have hlen : l.length * 40 <= 140737488355328 := of_decide_eq_true hlen
   obtain rfl : l = r := congrArg Prod.fst (Option.some.inj hy)
   obtain ⟨A, c, hv, hc, hel⟩ := id h1
   obtain rfl : v1 = .slice A (lst (t := FTy) l).length c := by simpa using hv
   cases A with
   | none =>
     have hl0 : l = [] := by
      cases l with
      | nil => rfl
      | cons x l => obtain ⟨a, us, e, _⟩ := hel 0 x rfl; cases e
     subst hl0
     refine (Q.cloneF_nil _ c w).mono ?_
     rintro e w' ⟨rfl, rfl⟩
     exact row_comes hS (Below.refl _ _) (RowList.nil S FTy) (e := 0) ⟨rfl, .inl ⟨rfl, rfl⟩⟩
   | some a =>
     obtain ⟨xs, k1, k2⟩ := reps_row (S := S) (t := FTy) (ad := a) l 0 (fun i x hi => by
      obtain ⟨a', us, e, g1, g2⟩ := hel i x hi
      cases e
      exact ⟨us, g1, fun j u hj => by have := g2 j u hj; simpa using this⟩)
     refine (Q.cloneF_calls a l.length c xs w k1.1 k1.oneCell hlen (fun j u hj => hS _ _ (by have := k2 j u hj; simpa using this))).mono ?_
     rintro e w' ⟨v', rfl, hown, hb⟩
     exact row_comes hS hb k1 hown
 . cases hy
end Go.Proofs.YtfhphiedbdinmaaGreatDoor.A
namespace Go.Proofs.YtfhphiedbdinmaaGreatDoor.Q
open Go Go.RowKit A Ab
theorem isB_below {B b : Nat} {bs : List Value} {W W' : World} (h : Lib.IsBuilder 235 5 B b bs W) (hg : Below W.heap.size W W') : Lib.IsBuilder 235 5 B b bs W' := by
 have hgr : W.grownBy W' none := ⟨hg.os, hg.tape, hg.output, hg.size, fun i hi _ => hg.block i hi⟩
 have key : ∀ p v, W.heap[b]? = some (.cells #[p, v] 235 (0, 0)) -> W.ownsRow B 5 1 v bs.length bs -> W'.heap[b]? = some (.cells #[p, v] 235 (0, 0)) /\ W'.ownsRow B 5 1 v bs.length bs := fun p v h1 h2 => by
  refine ⟨(hg.block b (Array.getElem?_eq_some_iff.1 h1).1).trans h1, h2.kept hgr ?_⟩
  cases e : v.ownBlock with
  | none => exact .inl rfl
  | some g => exact .inr (fun e2 => by cases e2)
 rcases h with ⟨h0, v, h1, h2, h3⟩ | ⟨h0, v, h1, h2, h3⟩
 . obtain ⟨k1, k2⟩ := key _ _ h1 h2
   exact .inl ⟨h0, v, k1, k2, h3⟩
 . obtain ⟨k1, k2⟩ := key _ _ h1 h2
   exact .inr ⟨h0, v, k1, k2, h3⟩
theorem strCells_app (a b : ByteArray) : Lib.strCells (a ++ b) = Lib.strCells a ++ Lib.strCells b := by
 unfold Lib.strCells
 rw [<- List.map_append]
 congr 1
theorem bw_call {b : Nat} {w W W' : World} (h : Below b w W) (hb : b <= W.heap.size) (h1 : Below W.heap.size W W') : Below b w W' := h.trans (h1.mono hb)
def noMem : Mem := fun _ => none
theorem Int_calls (k : Nat) (n : Int) (r : ByteArray) (e : Int) (w : World) (h : wire_Int k n = some (r, e, ())) :
 Calls Tryz.prog 91 #[.int .i64 n] w fun en w' => en = .returned (.tuple #[.string r, .int .i64 e]) /\ Below w.heap.size w w' := by
 refine ((wire_Int_ok k).calls (n, ()) (r, e, ()) h noMem w [.int .i64 n] trivial (fun p v h => by cases h) ⟨rfl, trivial⟩).mono ?_
 rintro en w' ⟨u, S', rfl, -, -, -, ⟨us, rfl, hus⟩, hb⟩
 match us, hus with
 | [u0, u1], ⟨h0, h1, _⟩ =>
   have h0 : [u0] = [.string r] := h0
   have h1 : [u1] = [.int .i64 e] := h1
   obtain rfl : u0 = .string r := by simpa using h0
   obtain rfl : u1 = .int .i64 e := by simpa using h1
   exact ⟨rfl, hb⟩
theorem Text_calls (k : Nat) (s r : ByteArray) (e : Int) (w : World) (h : wire_Text k s = some (r, e, ())) :
 Calls Tryz.prog 121 #[.string s] w fun en w' => en = .returned (.tuple #[.string r, .int .i64 e]) /\ Below w.heap.size w w' := by
 refine ((wire_Text_ok k).calls (s, ()) (r, e, ()) h noMem w [.string s] trivial (fun p v h => by cases h) ⟨rfl, trivial⟩).mono ?_
 rintro en w' ⟨u, S', rfl, -, -, -, ⟨us, rfl, hus⟩, hb⟩
 match us, hus with
 | [u0, u1], ⟨h0, h1, _⟩ =>
   have h0 : [u0] = [.string r] := h0
   have h1 : [u1] = [.int .i64 e] := h1
   obtain rfl : u0 = .string r := by simpa using h0
   obtain rfl : u1 = .int .i64 e := by simpa using h1
   exact ⟨rfl, hb⟩
theorem Put_calls (k : Nat) (a : Int) (s r : ByteArray) (e : Int) (w : World) (h : frame_Put k a s = some (r, e, ())) :
 Calls Tryz.prog 92 #[.int .i64 a, .string s] w fun en w' => en = .returned (.tuple #[.string r, .int .i64 e]) /\ Below w.heap.size w w' := by
 refine ((frame_Put_ok k).calls (a, s, ()) (r, e, ()) h noMem w [.int .i64 a, .string s] trivial (fun p v h => by cases h) ⟨rfl, rfl, trivial⟩).mono ?_
 rintro en w' ⟨u, S', rfl, -, -, -, ⟨us, rfl, hus⟩, hb⟩
 match us, hus with
 | [u0, u1], ⟨h0, h1, _⟩ =>
   have h0 : [u0] = [.string r] := h0
   have h1 : [u1] = [.int .i64 e] := h1
   obtain rfl : u0 = .string r := by simpa using h0
   obtain rfl : u1 = .int .i64 e := by simpa using h1
   exact ⟨rfl, hb⟩
set_option maxHeartbeats 4000000 in
set_option maxRecDepth 100000 in
theorem frame_Row_calls (k : Nat) (a : Int) (A1 : Option Addr) (c1 : Nat) (l1 : List ByteArray) (r : ByteArray) (e : Int) (w : World) (hr1 : ∀ (i : Nat) (x : ByteArray), l1[i]? = some x -> ∃ ad, A1 = some ad /\ w.cell? (ad.add i) = some (.string x))
 (h : frame_Row k a l1 = some (r, e, ())) :
 Calls Tryz.prog 88 #[.int .i64 a, .slice A1 l1.length c1] w fun en w' => en = .returned (.tuple #[.string r, .int .i64 e]) /\ Below w.heap.size w w' := by
 unfold frame_Row at h
 simp only [cond_eq_ite, decide_eq_true_eq] at h
 have HR := Sd.mk hr1
 clear hr1
 by_cases ha : a < 0
 . rw [if_pos ha] at h
   obtain ⟨rfl, rfl⟩ : (⟨#[]⟩ : ByteArray) = r /\ (1 : Int) = e := by simpa using h
   go_enter Tryz.func88, Tryz.ntmps88
   go_wp2
   go_ret2
   exact ⟨rfl, Below.refl _ _⟩
 rw [if_neg ha] at h
 by_cases hb : a > 99
 . rw [if_pos hb] at h
   obtain ⟨rfl, rfl⟩ : (⟨#[]⟩ : ByteArray) = r /\ (1 : Int) = e := by simpa using h
   go_enter Tryz.func88, Tryz.ntmps88
   go_wp2
   go_ret2
   exact ⟨rfl, Below.refl _ _⟩
 rw [if_neg hb] at h
 by_cases hl : (l1.length : Int) > 100
 . rw [if_pos hl] at h
   obtain ⟨rfl, rfl⟩ : (⟨#[]⟩ : ByteArray) = r /\ (2 : Int) = e := by simpa using h
   go_enter Tryz.func88, Tryz.ntmps88
   go_wp2
   go_ret2
   exact ⟨rfl, Below.refl _ _⟩
 rw [if_neg hl] at h
 obtain ⟨⟨n0, n1, _⟩, hn, h⟩ := Option.bind_eq_some_iff.1 h
 dsimp only at h
 split at h
 case isFalse => cases h
 rename_i hsz
 obtain ⟨⟨q0, q1⟩, hq, h⟩ := Option.bind_eq_some_iff.1 h
 have HN := Sd.mk hn
 have HQ := Sd.mk hq
 have HS := Sd.mk hsz
 have HE := Sd.mk h
 clear hn hq hsz h
 obtain ⟨b, hb0⟩ : ∃ b, w.heap.size = b := ⟨_, rfl⟩
 have HBB := Sd.mk hb0
 go_enter Tryz.func88, Tryz.ntmps88
 go_wp2_with (go_at_call 91; refine (Int_calls k _ n0 n1 _ HN.out).mono ?_; rintro e w' ⟨rfl, h1⟩; have H1 := Sd.mk h1; clear h1)
 have HI : Sd (Lib.IsBuilder 235 5 b b [] w') := by
  have hf := Lib.fresh_isBuilder 235 5 w
  rw [HBB.out] at hf
  exact ⟨isB_below hf H1.out⟩
 have HW : Sd (Below b w w') := by
  refine ⟨bw_call (Below.alloc (Below.refl _ _) (Nat.le_of_eq HBB.out.symm) _) ?_ H1.out⟩
  rw [World.size_alloc]; have := HBB.out; omega
 have hle : b <= w'.heap.size := by have := HW.out.size; have := HBB.out; omega
 have hn0 : n0.size <= 100000000 := HS.out
 go_wp2_with (go_at_call 120; go_loud (refine (B_string b b [] n0 _ HI.out (by simp; omega) hle).mono ?_; rintro e w2 ⟨rfl, h1, h2, h3⟩; have H2 := Sd.mk h1; have H3 := Sd.mk h2; clear h1 h2 h3))
 have hle2 : b <= w2.heap.size := by have := H3.out.size; omega
 have HW2 : Sd (Below b w w2) := ⟨HW.out.trans H3.out⟩
 have HI2 : Sd (Lib.IsBuilder 235 5 b b (Lib.strCells n0) w2) := ⟨.inr (by simpa using H2.out)⟩
 have hlen : l1.length <= 100 := by omega
 clear H1 HI HW hle H2 H3
 go_loopw [34] (fun v34 w' => ∃ (i : Nat) (acc : ByteArray), i <= l1.length /\ v34 = .int .i64 i /\ acc.size <= 100000000 /\ b <= w'.heap.size /\ Sd (frame_Row_l k (l1.drop i) acc = some (q0, q1)) /\ Sd (Lib.IsBuilder 235 5 b b (Lib.strCells acc) w') /\ Sd (Below b w w')) (fun v _ => l1.length - (intOf v).toNat)
 case atStart => exact ⟨0, n0, by omega, rfl, hn0, hle2, HQ, HI2, HW2⟩
 case round =>
  clear HI2 HW2 HQ hle2 hn0
  obtain ⟨i, acc, hi, rfl, hacc, hbw, HQ, HI, HW⟩ := hrel
  by_cases hlt : i < l1.length
  . obtain ⟨ad, e0, hx⟩ := at_str HR.out (i : Int) (by omega) (by omega)
    cases e0
    obtain ⟨s, hs⟩ : ∃ s, l1.getD (i : Int).toNat ByteArray.empty = s := ⟨_, rfl⟩
    rw [hs] at hx
    have hx2 := (HW.out.cell (by rw [<- HBB.out]; exact World.block_lt_of_cell? w _ hx)).trans hx
    clear hx
    simp only [Int.toNat_natCast] at hx2
    have hq := HQ.out
    rw [List.drop_eq_getElem_cons hlt, show l1[i] = s by rw [<- hs]; simp [List.getD_eq_getElem?_getD, List.getElem?_eq_getElem hlt]] at hq
    clear hs
    unfold frame_Row_l at hq
    obtain ⟨⟨t0, t1, _⟩, ht, hq⟩ := Option.bind_eq_some_iff.1 hq
    simp only [cond_eq_ite, decide_eq_true_eq] at hq
    have HT := Sd.mk ht
    clear ht
    by_cases ht1 : t1 = 0
    . subst ht1
      have hq : (if acc.size + t0.size <= 100000000 then frame_Row_l k (l1.drop (i + 1)) (acc ++ t0) else none) = some (q0, q1) := hq
      split at hq
      case isFalse => cases hq
      rename_i hsz
      have HQ2 := Sd.mk hq
      clear hq HQ
      go_wp2_with (go_at_call 121; refine (Text_calls k _ t0 0 _ HT.out).mono ?_; rintro e w' ⟨rfl, h1⟩; have H1 := Sd.mk h1; clear h1)
      have HI2 : Sd (Lib.IsBuilder 235 5 b b (Lib.strCells acc) w') := ⟨isB_below HI.out H1.out⟩
      have HW2 : Sd (Below b w w') := ⟨bw_call HW.out hbw H1.out⟩
      have hbw2 : b <= w'.heap.size := by have := H1.out.size; omega
      clear H1 HI HW
      go_wp2_with (go_at_call 120; refine (B_string b b (Lib.strCells acc) t0 _ HI2.out (by rw [Lib.strCells_length]; omega) hbw2).mono ?_; rintro e w3 ⟨rfl, h1, h2, h3⟩; have H2 := Sd.mk h1; have H3 := Sd.mk h2; clear h1 h2 h3)
      go_roundw
      case measure => simp [intOf]; omega
      case rel => exact ⟨i + 1, acc ++ t0, by omega, by go_num, by rw [ByteArray.size_append]; omega, by have := H3.out.size; omega, HQ2, ⟨by rw [strCells_app]; exact .inr H2.out⟩, ⟨HW2.out.trans H3.out⟩⟩
    . have hne : (t1 != 0) = true := by simpa using ht1
      have hq : (if (t1 != 0) = true then some ((⟨#[]⟩ : ByteArray), t1) else if acc.size + t0.size <= 100000000 then frame_Row_l k (l1.drop (i + 1)) (acc ++ t0) else none) = some (q0, q1) := hq
      rw [if_pos hne] at hq
      obtain ⟨rfl, rfl⟩ : (⟨#[]⟩ : ByteArray) = q0 /\ t1 = q1 := by simpa using hq
      have hE := HE.out
      rw [if_pos hne] at hE
      obtain ⟨rfl, rfl⟩ : (⟨#[]⟩ : ByteArray) = r /\ t1 = e := by simpa using hE
      have HBW := Sd.mk hbw
      clear hq hE HQ HE hbw
      go_wp2_with (go_at_call 121; refine (Text_calls k _ t0 t1 _ HT.out).mono ?_; rintro e w' ⟨rfl, h1⟩; have H1 := Sd.mk h1; clear h1)
      go_wp2
      go_ret2
      exact ⟨rfl, by rw [HBB.out]; exact bw_call HW.out HBW.out H1.out⟩
  . obtain rfl : i = l1.length := by omega
    have hq := HQ.out
    rw [List.drop_length] at hq
    unfold frame_Row_l at hq
    obtain ⟨rfl, rfl⟩ : acc = q0 /\ (0 : Int) = q1 := by simpa using hq
    have hE := HE.out
    have hE : frame_Put k a acc = some (r, e, ()) := hE
    have HE2 := Sd.mk hE
    have HBW := Sd.mk hbw
    clear hq HQ hE HE hbw
    have HC : Calls Tryz.prog 122 #[.pointer (some ⟨b, 0, none⟩)] wr fun e w' => e = .returned (.string acc) /\ Below b wr w' := Tryz.Builder_String_any b b acc.data.toList wr HI.out HBW.out
    go_wp2_with (go_at_call 122; refine HC.mono ?_; rintro e w' ⟨rfl, h1⟩; have H1 := Sd.mk h1; clear h1)
    go_wp2_with (go_at_call 92; refine (Put_calls k _ acc r e _ HE2.out).mono ?_; rintro e w3 ⟨rfl, h1⟩; have H2 := Sd.mk h1; clear h1)
    go_wp2
    go_ret2
    exact ⟨rfl, by rw [HBB.out]; exact bw_call (HW.out.trans H1.out) (by have := H1.out.size; have := HBW.out; omega) H2.out⟩
end Go.Proofs.YtfhphiedbdinmaaGreatDoor.Q
namespace Go.Proofs.YtfhphiedbdinmaaGreatDoor.A
open Go Go.RowKit Ab Q
def frame_Row_sig (k : Nat) : Sig := ⟨[(.int .i64), (.sl .str)], [.str, (.int .i64)], fun x => frame_Row k x.1 x.2.1⟩
theorem frame_Row_ok (k : Nat) : FnOk Go.Proofs.Tryz.prog 88 (frame_Row_sig k) := by
 refine ⟨entersAb (by kernel_rfl), ?_⟩
 rintro ⟨a, l, _⟩ ⟨r, e, _⟩ hy S w vs _ hS ha
 change Int at a
 change List ByteArray at l
 change ByteArray at r
 change Int at e
 match vs, ha with
 | [v0, v1], ⟨h0, h1, _⟩ =>
 have h0 : [v0] = [.int .i64 a] := h0
 obtain rfl : v0 = .int .i64 a := by simpa using h0
 obtain ⟨A, c, hv, hc, hcells⟩ := (h1 : Reps S (.sl .str) l [v1])
 obtain rfl : v1 = .slice A (lst (t := .str) l).length c := by simpa using hv
 replace hy : frame_Row k a l = some (r, e, ()) := hy
 exact (frame_Row_calls k a A c l r e w (row_get hS hcells) hy).mono fun en w' ⟨he, hb⟩ => comes_below he hS hb ⟨[.string r, .int .i64 e], rfl, rfl, rfl, trivial⟩
end Go.Proofs.YtfhphiedbdinmaaGreatDoor.A
namespace Go.Proofs.YtfhphiedbdinmaaGreatDoor.Q
open Go Go.RowKit A Ab
theorem ins_own (B : Nat) (v : Value) (cs : List Value) (x : Value) (vb : Nat) (w : World) (h : w.ownsRow B 9 1 v cs.length cs) (hlt : ∀ g, v.ownBlock = some g -> g ≠ vb) (h1 : ∀ v ∈ cs, v.oneCell' = true) (hx1 : x.oneCell' = true) (hv : w.heap[vb]? = some (.cells #[x] 9 (0, 0))) (hB2 : B <= w.heap.size) (hbig : (cs.length + 1) * 16 <= 140737488355328) :
 Calls Tryz.prog 117 #[v, .int .i64 0, .slice (some ⟨vb, 0, none⟩) 1 1] w (Ins B w x cs) := by
 rcases h.2 with ⟨rfl, hz⟩ | ⟨g, cap, cur, rfl, hB, hh, hcap, hmax, hcs, htake⟩
 . obtain rfl : cs = [] := List.length_eq_zero_iff.1 hz
   refine (Go.Proofs.Any2.slices_Insert_string_end_grow lays22 none 0 0 vb 0 1 1 [] [x] w (by omega) (by omega) (by omega) hbig rfl rfl (fun _ => rfl) (fun a h => by cases h) (fun j v hj => by
    rw [bk_cell hv, Nat.zero_add]
    simpa using hj) (by simpa using hx1)).mono ?_
   rintro e w' ⟨rfl, rfl⟩
   refine ⟨_, _, rfl, fun j v hj => ?_, ((Below.refl _ _).drew).alloc (by exact hB2) _⟩
   have hlt := (List.getElem?_eq_some_iff.1 hj).1
   obtain rfl : j = 0 := by simpa using hlt
   rw [World.cell?_alloc_at (w := w.drew) _ _ w.heap.size 0 rfl, Array.getElem?_append_left (by simp)]
   simpa using hj
 . exact ins_row B g cap cur cs x vb w hh hB hcap hmax (by omega) (by rw [<- htake, Nat.mul_one]; simp) h1 hx1 (fun e => hlt g rfl e.symm) hv hB2 hbig
theorem own_below {w W' : World} {B : Nat} {v : Value} {n : Nat} {xs : List Value} (h : w.ownsRow B 9 1 v n xs) (hg : Below w.heap.size w W') : W'.ownsRow B 9 1 v n xs := by
 have hgr : w.grownBy W' none := ⟨hg.os, hg.tape, hg.output, hg.size, fun i hi _ => hg.block i hi⟩
 refine h.kept hgr ?_
 cases e : v.ownBlock with
 | none => exact .inl rfl
 | some g => exact .inr (fun e2 => by cases e2)
theorem pic_ins (B : Nat) (v : Value) (l1 : List ByteArray) (n0 : ByteArray) (w2 : World) (hown : w2.ownsRow B 9 1 v l1.length (l1.map Value.string)) (hB : B <= w2.heap.size) (hbig : (l1.length + 1) * 16 <= 140737488355328) :
 Calls Tryz.prog 117 #[v, .int .i64 0, .slice (some ⟨w2.heap.size, 0, none⟩) 1 1] (w2.alloc (.cells #[.string n0] 9)) fun e w' =>
  ∃ g C, e = .returned (.slice (some ⟨g, 0, none⟩) (n0 :: l1).length C) /\ (∀ (i : Nat) (x : ByteArray), (n0 :: l1)[i]? = some x -> ∃ ad, (some ⟨g, 0, none⟩ : Option Addr) = some ad /\ w'.cell? (ad.add i) = some (.string x)) /\ Below B w2 w' := by
 have hlen : (l1.map Value.string).length = l1.length := List.length_map ..
 have hal : Below w2.heap.size w2 (w2.alloc (.cells #[.string n0] 9)) := (Below.refl _ _).alloc (Nat.le_refl _) _
 have ho2 := own_below hown hal
 rw [<- hlen] at ho2
 refine (ins_own B v (l1.map Value.string) (.string n0) w2.heap.size _ ho2 (fun g hg e => ?_) (fun u hu => ?_) rfl ?_ ?_ (by rw [hlen]; exact hbig)).mono ?_
 . subst e
   rcases hown.2 with ⟨rfl, _⟩ | ⟨g, cap, cur, rfl, _, hh, _⟩
   . cases hg
   . have hg : g = w2.heap.size := by simpa [Value.ownBlock] using hg
     rw [hg] at hh
     rw [Array.getElem?_eq_none (Nat.le_refl _)] at hh
     cases hh
 . obtain ⟨x, _, rfl⟩ := List.mem_map.1 hu; rfl
 . show (w2.heap.push _)[w2.heap.size]? = _; simp
 . have := hal.size; omega
 . rintro e w' ⟨g, C, rfl, hc, hb⟩
   refine ⟨g, C, by rw [hlen]; rfl, fun i x hi => ⟨_, rfl, ?_⟩, (hal.mono hB).trans hb⟩
   rw [add_at, Nat.zero_add]
   refine hc i _ ?_
   have : ((n0 :: l1).map Value.string)[i]? = some (.string x) := by rw [List.getElem?_map, hi]; rfl
   exact this
set_option maxHeartbeats 4000000 in
set_option maxRecDepth 100000 in
theorem picture_calls (k : Nat) (n : Int) (A1 : Option Addr) (c1 : Nat) (l1 : List ByteArray) (r : ByteArray) (e : Int) (w : World) (hr1 : ∀ (i : Nat) (x : ByteArray), l1[i]? = some x -> ∃ ad, A1 = some ad /\ w.cell? (ad.add i) = some (.string x))
 (hsp : ∀ a, A1 = some a -> 0 < l1.length -> a.spot = none) (h : snap_picture k n l1 = some (r, e, ())) :
 Calls Tryz.prog 79 #[.int .i64 n, .slice A1 l1.length c1] w fun en w' => en = .returned (.tuple #[.string r, .int .i64 e]) /\ Below w.heap.size w w' := by
 unfold snap_picture at h
 simp only [cond_eq_ite, decide_eq_true_eq] at h
 have HR := Sd.mk hr1
 have HP := Sd.mk hsp
 clear hr1 hsp
 by_cases ha : n < 0
 . rw [if_pos ha] at h
   obtain ⟨rfl, rfl⟩ : (⟨#[]⟩ : ByteArray) = r /\ (1 : Int) = e := by simpa using h
   go_enter Tryz.func79, Tryz.ntmps79
   go_wp2
   go_ret2
   exact ⟨rfl, Below.refl _ _⟩
 rw [if_neg ha] at h
 by_cases hb : n > 1000000000
 . rw [if_pos hb] at h
   obtain ⟨rfl, rfl⟩ : (⟨#[]⟩ : ByteArray) = r /\ (1 : Int) = e := by simpa using h
   go_enter Tryz.func79, Tryz.ntmps79
   go_wp2
   go_ret2
   exact ⟨rfl, Below.refl _ _⟩
 rw [if_neg hb] at h
 split at h
 case isFalse => cases h
 rename_i hbig
 have HBig := Sd.mk hbig
 clear hbig
 obtain ⟨⟨n0, n1, _⟩, hn, h⟩ := Option.bind_eq_some_iff.1 h
 dsimp only at h
 obtain ⟨⟨q0, q1, _⟩, hq, h⟩ := Option.bind_eq_some_iff.1 h
 have HN := Sd.mk hn
 have HQ := Sd.mk hq
 have HE := Sd.mk h
 clear hn hq h
 go_enter Tryz.func79, Tryz.ntmps79
 go_wp2_with (go_at_call 91; refine (Int_calls k _ n0 n1 _ HN.out).mono ?_; rintro e w' ⟨rfl, h1⟩; have H1 := Sd.mk h1; clear h1)
 have HR2 : Sd (∀ (i : Nat) (x : ByteArray), l1[i]? = some x -> ∃ ad, A1 = some ad /\ w'.cell? (ad.add i) = some (.string x)) := ⟨fun i x hi => by
  obtain ⟨ad, e1, e2⟩ := HR.out i x hi
  exact ⟨ad, e1, (H1.out.cell (World.block_lt_of_cell? w _ e2)).trans e2⟩⟩
 have HB : Sd (w.heap.size <= w'.heap.size) := ⟨H1.out.size⟩
 go_wp2_with (go_at_call 100; refine (clone_calls A1 c1 l1 _ HR2.out HP.out (by have := HBig.out; omega)).mono ?_; rintro e w2 ⟨v, rfl, h1, h2⟩; have H2 := Sd.mk h1; have H3 := Sd.mk h2; clear h1 h2)
 have HB2 : Sd (w'.heap.size <= w2.heap.size) := ⟨H2.out.size⟩
 go_wp2_with (go_at_call 117; refine (pic_ins w'.heap.size v l1 n0 w2 H3.out HB2.out HBig.out).mono ?_; rintro e w4 ⟨g, C, rfl, h1, h2⟩; have H4 := Sd.mk h1; have H5 := Sd.mk h2; clear h1 h2)
 have hE := HE.out
 by_cases hq1 : q1 = 0
 . subst hq1
   obtain ⟨rfl, rfl⟩ : q0 = r /\ (0 : Int) = e := by simpa using hE
   clear hE
   go_wp2_with (go_at_call 88; refine (frame_Row_calls k 3 (some ⟨g, 0, none⟩) C (n0 :: l1) q0 0 w4 H4.out HQ.out).mono ?_; rintro e w5 ⟨rfl, h1⟩; have H6 := Sd.mk h1; clear h1)
   have HW : Sd (Below w.heap.size w w5) := ⟨by
    have a1 := H1.out
    have a2 := (H2.out.mono HB.out)
    have a3 := (H5.out.mono HB.out)
    have a4 := H6.out.mono (show w.heap.size <= w4.heap.size by have := a1.size; have := a2.size; have := a3.size; omega)
    exact ((a1.trans a2).trans a3).trans a4⟩
   go_wp2
   go_ret2
   exact ⟨rfl, HW.out⟩
 . have hne : (q1 != 0) = true := by simpa using hq1
   rw [if_pos hne] at hE
   obtain ⟨rfl, rfl⟩ : (⟨#[]⟩ : ByteArray) = r /\ (2 : Int) = e := by simpa using hE
   clear hE
   go_wp2_with (go_at_call 88; refine (frame_Row_calls k 3 (some ⟨g, 0, none⟩) C (n0 :: l1) q0 q1 w4 H4.out HQ.out).mono ?_; rintro e w5 ⟨rfl, h1⟩; have H6 := Sd.mk h1; clear h1)
   have HW : Sd (Below w.heap.size w w5) := ⟨by
    have a1 := H1.out
    have a2 := (H2.out.mono HB.out)
    have a3 := (H5.out.mono HB.out)
    have a4 := H6.out.mono (show w.heap.size <= w4.heap.size by have := a1.size; have := a2.size; have := a3.size; omega)
    exact ((a1.trans a2).trans a3).trans a4⟩
   go_wp2
   go_ret2
   exact ⟨rfl, HW.out⟩
end Go.Proofs.YtfhphiedbdinmaaGreatDoor.Q
namespace Go.Proofs.YtfhphiedbdinmaaGreatDoor.A
open Go Go.RowKit Ab Q
def snap_picture_sig (k : Nat) : Sig := ⟨[(.int .i64), (.sl .str)], [.str, (.int .i64)], fun x => snap_picture k x.1 x.2.1⟩
theorem snap_picture_ok (k : Nat) : FnOk Go.Proofs.Tryz.prog 79 (snap_picture_sig k) := by
 refine ⟨entersAb (by kernel_rfl), ?_⟩
 rintro ⟨a, l, _⟩ ⟨r, e, _⟩ hy S w vs _ hS ha
 change Int at a
 change List ByteArray at l
 change ByteArray at r
 change Int at e
 match vs, ha with
 | [v0, v1], ⟨h0, h1, _⟩ =>
 have h0 : [v0] = [.int .i64 a] := h0
 obtain rfl : v0 = .int .i64 a := by simpa using h0
 obtain ⟨A, c, hv, hc, hcells⟩ := (h1 : Reps S (.sl .str) l [v1])
 obtain rfl : v1 = .slice A (lst (t := .str) l).length c := by simpa using hv
 replace hy : snap_picture k a l = some (r, e, ()) := hy
 have hr := row_get hS hcells
 exact (picture_calls k a A c l r e w hr (fun a ha hpos => spot_none hr ha hpos) hy).mono fun en w' ⟨he, hb⟩ => comes_below he hS hb ⟨[.string r, .int .i64 e], rfl, rfl, rfl, trivial⟩
end Go.Proofs.YtfhphiedbdinmaaGreatDoor.A
