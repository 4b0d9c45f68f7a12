import Derived.Test.YtfhphiedbdinmaaGreatDoorAMach2
import Derived.Test.YtfhphiedbdinmaaGreatDoorAT1
set_option linter.all false
namespace Go.Proofs.YtfhphiedbdinmaaGreatDoor.Pure
open Go Ab A
abbrev CmdT : Type := CmdT8
def numsC (c : CmdT) : List Int := [c.1, c.2.1, c.2.2.1, c.2.2.2.1, c.2.2.2.2.1, c.2.2.2.2.2.1, c.2.2.2.2.2.2.1, c.2.2.2.2.2.2.2.1]
abbrev okC (c : CmdT) : Prop := mayC c
instance (c : CmdT) : Decidable (mayC c) := by unfold mayC; infer_instance
theorem intsB_le (ns : List Int) : (intsB ns).length <= 6 * ns.length := by
 induction ns with
 | nil => simp [intsB]
 | cons n ns ih =>
   have e : intsB (n :: ns) = intB n ++ intsB ns := by simp [intsB]
   have := intB_len n
   rw [e, List.length_append, List.length_cons]; omega
theorem txsB_le (B : Nat) (ts : List (List UInt8)) (h : ∀ t ∈ ts, t.length <= B) : (txsB ts).length <= (B + 6) * ts.length := by
 induction ts with
 | nil => simp [txsB]
 | cons t ts ih =>
   have := ih fun x hx => h x (by simp [hx])
   have h1 := txB_len t
   have h2 := h t (by simp)
   rw [txsB_cons, List.length_append, List.length_cons, Nat.mul_add, Nat.mul_one]; omega
theorem rowB_le (B : Nat) (h : List UInt8) (ts : List (List UInt8)) (hh : h.length <= 48) (ht : ∀ t ∈ ts, t.length <= B) (hB : (B + 6) * ts.length <= 2900) : (rowB (h :: ts)).length <= 3000 := by
 have h1 := txsB_le B ts ht
 have h2 := txB_len h
 have h3 := intB_len ((h :: ts).length : Int)
 unfold rowB
 rw [List.length_append, txsB_cons, List.length_append]; omega
theorem put_ok (k : Nat) (kind : Int) (h0 : 0 <= kind) (h1 : kind <= 99) (h : List UInt8) (ts : List (List UInt8)) (hl : ts.length < 100) (hs : shortL (h :: ts)) (hr : (rowB (h :: ts)).length <= 3000) : packet_put k kind (mkB h) (ts.map mkB) = some (mkB (frB kind (rowB (h :: ts))), 0, ()) := by
 have hA : RowA kind (h :: ts) = (mkB (frB kind (rowB (h :: ts))), 0, ()) := by
  unfold RowA PutA
  rw [if_neg (by omega), if_neg (by rw [List.length_cons]; omega), if_pos (show ∀ t ∈ h :: ts, t.length <= 3000 from hs), if_neg (by omega), if_neg (by omega)]
 unfold packet_put
 cases ts with
 | nil =>
   have := Row_ok k kind [h]
   rw [hA] at this
   show (bif true then _ else _) = _
   rw [cond_true, show [mkB h] = [h].map mkB from rfl, this]; rfl
 | cons t ts =>
   have := Row_ok k kind (h :: t :: ts)
   rw [hA] at this
   have e : (List.length ((t :: ts).map mkB)).beq 0 = false := by rw [List.length_map]; rfl
   rw [e, cond_false, cdec, if_pos (by rw [List.length_map]; show (1 + (t :: ts).length) * 16 <= _; omega), show [mkB h] ++ (t :: ts).map mkB = (h :: t :: ts).map mkB from rfl, this]; rfl
theorem numbers_ok (k : Nat) (ns : List Int) (hl : ns.length <= 100) (h : ∀ n ∈ ns, intOk n = true) : packet_numbers k ns = some (mkB (intsB ns), ()) := by
 unfold packet_numbers
 rw [Ints_ok k ns (by omega)]
 unfold IntsA
 rw [if_pos (List.all_eq_true.2 h)]; rfl
theorem okC_ints {c : CmdT} (h : okC c) : ∀ n ∈ numsC c, intOk n = true := by
 obtain ⟨a1, a2, a3, a4, a5, a6, a7, a8, _⟩ := c
 unfold okC mayC cmdP at h
 dsimp only at h
 intro n hn
 rw [intOk_iff]
 simp only [numsC, List.mem_cons, List.not_mem_nil, or_false] at hn
 rcases hn with rfl | rfl | rfl | rfl | rfl | rfl | rfl | rfl <;> omega
def layC (c : CmdT) : List UInt8 := frB 4 (rowB [intsB (numsC c)])
theorem okC_lays {c : CmdT} (h : okC c) : (∀ n ∈ numsC c, intOk n = true) /\ shortL [intsB (numsC c)] /\ (rowB [intsB (numsC c)]).length <= 3000 := by
 have h6 := intsB_le (numsC c)
 have h6 : (intsB (numsC c)).length <= 48 := h6
 refine ⟨okC_ints h, fun t ht => ?_, rowB_le 0 _ _ h6 (fun t ht => by cases ht) (by simp)⟩
 rw [List.mem_singleton] at ht
 subst ht; omega
theorem putC_ok (c : CmdT) : Ev (fun k => packet_PutCmd k c) (if okC c then (mkB (layC c), 0, ()) else (EB, 1, ())) := by
 obtain ⟨a1, a2, a3, a4, a5, a6, a7, a8, _⟩ := c
 refine Ev.bind (Ev.all fun k => mayM k a1 a2 a3 a4 a5 a6 a7 a8) ?_
 by_cases h : okC (a1, a2, a3, a4, a5, a6, a7, a8, ())
 . obtain ⟨b1, b3, b4⟩ := okC_lays h
   rw [if_pos h]
   refine Ev.f (by show (!decide _) = false; rw [decide_eq_true (show cmdP a1 a2 a3 a4 a5 a6 a7 a8 from h)]; rfl) (Ev.bind (Ev.all fun k => numbers_ok k _ (by show (8 : Nat) <= 100; omega) b1) (Ev.bind (Ev.all fun k => put_ok k 4 (by omega) (by omega) _ [] (by simp) b3 b4) (Ev.now _)))
 . rw [if_neg h]
   exact Ev.t (by show (!decide _) = true; rw [decide_eq_false (show ¬ cmdP a1 a2 a3 a4 a5 a6 a7 a8 from h)]; rfl) (Ev.now _)
end Go.Proofs.YtfhphiedbdinmaaGreatDoor.Pure
