/- Answers and messages: both say the same of one. -/
import Derived.Test.YtoeikeabbdnkbaaAPkCmd
namespace Go.Proofs.Ytoeikeabbdnkbaa.Pure
open Go Go.Proofs.Ytoeikeabbdnkbaa.Ab Go.Proofs.Ytoeikeabbdnkbaa.A
set_option linter.unusedVariables false
set_option linter.unusedSimpArgs false

/-- A loop that looks at each text of a row. -/
theorem loop_all {α β : Type} {st : Nat → (α → Option β) → α → Option β} {X : Nat → α} {out : β} {bad : Nat → β} (l : List ByteArray) (B : Nat) (hend : ∀ k again, st k again (X l.length) = some out)
    (hgo : ∀ i (h : i < l.length), (l[i]).size ≤ B → ∀ k again, st k again (X i) = again (X (i + 1))) (hbad : ∀ i (h : i < l.length), B < (l[i]).size → ∀ k again, st k again (X i) = some (bad i)) (d : Nat) :
    ∀ i, i + d = l.length → (∀ j (h : j < l.length), j < i → (l[j]).size ≤ B) → (Ev (fun k => rec1 st k (X i)) out ∧ ∀ x ∈ l, x.size ≤ B) ∨ (∃ j, Ev (fun k => rec1 st k (X i)) (bad j) ∧ ¬ ∀ x ∈ l, x.size ≤ B) := by
  induction d with
  | zero =>
    intro i hi h
    obtain rfl : i = l.length := by omega
    refine .inl ⟨Ev.step ⟨0, fun k _ => hend k _⟩, fun x hx => ?_⟩
    obtain ⟨j, hj, rfl⟩ := List.mem_iff_getElem.1 hx
    exact h j hj hj
  | succ d ih =>
    intro i hi h
    have hlt : i < l.length := by omega
    by_cases hb : (l[i]).size ≤ B
    · have go : ∀ {R}, Ev (fun k => rec1 st k (X (i + 1))) R → Ev (fun k => rec1 st k (X i)) R := fun {R} ⟨k0, h⟩ => Ev.step ⟨k0, fun k hk => (hgo i hlt hb k _).trans (h k hk)⟩
      rcases ih (i + 1) (by omega) (fun j hj hji => by
        by_cases e2 : j = i
        · subst e2; exact hb
        · exact h j hj (by omega)) with ⟨k1, k2⟩ | ⟨u, k1, k2⟩
      · exact .inl ⟨go k1, k2⟩
      · exact .inr ⟨u, go k1, k2⟩
    · exact .inr ⟨i, Ev.step ⟨0, fun k _ => hbad i hlt (by omega) k _⟩, fun hh => hb (hh _ (List.getElem_mem hlt))⟩
theorem rmay_loop (c n : Int) (l : List ByteArray) (hl : l.length ≤ 1000000) : (Ev (fun k => session_reply_may_l1 (c, n, l, ()) k (0, 0, ())) (.exit 0, 0, (l.length : Int), ()) ∧ ∀ x ∈ l, x.size ≤ 80) ∨ (∃ j : Nat, Ev (fun k => session_reply_may_l1 (c, n, l, ()) k (0, 0, ())) (.ret, (j : Int), (j : Int), ()) ∧ ¬ ∀ x ∈ l, x.size ≤ 80) := by
  refine loop_all (X := fun i => (0, (i : Int), ())) (out := (AExit.exit 0, 0, (l.length : Int), ())) (bad := fun j => (AExit.ret, (j : Int), (j : Int), ())) l 80 (fun k again => ?_) (fun i hi h k again => ?_) (fun i hi h k again => ?_) l.length 0 (by omega) (fun j _ h => absurd h (by omega))
  · simp only [cdec]; rw [if_neg (by omega)]
  · simp only [cdec, session_reply_may_1, Option.bind_some]
    rw [if_pos (by omega), if_pos (by omega), if_pos (by omega), if_neg (by rw [getD_z l i hi]; omega), wrap_succ (by omega)]
  · simp only [cdec, session_reply_may_1, Option.bind_some]
    rw [if_pos (by omega), if_pos (by omega), if_pos (by omega), if_pos (by rw [getD_z l i hi]; omega)]
theorem r18_loop (c n : Int) (l : List ByteArray) (hl : l.length ≤ 1000000) : (Ev (fun k => ref18_Answer_l1 (c, n, l, ()) k (false, 0, ())) (.exit 0, false, (l.length : Int), ()) ∧ ∀ x ∈ l, x.size ≤ 80) ∨ (∃ j : Nat, Ev (fun k => ref18_Answer_l1 (c, n, l, ()) k (false, 0, ())) (.ret, false, (j : Int), ()) ∧ ¬ ∀ x ∈ l, x.size ≤ 80) := by
  refine loop_all (X := fun i => (false, (i : Int), ())) (out := (AExit.exit 0, false, (l.length : Int), ())) (bad := fun j => (AExit.ret, false, (j : Int), ())) l 80 (fun k again => ?_) (fun i hi h k again => ?_) (fun i hi h k again => ?_) l.length 0 (by omega) (fun j _ h => absurd h (by omega))
  · simp only [cdec]; rw [if_neg (by omega)]
  · simp only [cdec]
    rw [if_pos (by omega), if_pos (by omega), if_pos (by omega), if_neg (by rw [getD_z l i hi]; omega), wrap_succ (by omega)]
  · simp only [cdec]
    rw [if_pos (by omega), if_pos (by omega), if_pos (by omega), if_pos (by rw [getD_z l i hi]; omega)]
def ansP (c n : Int) (l : List ByteArray) : Prop := 0 ≤ c ∧ c ≤ 1000 ∧ -1000000000 ≤ n ∧ n ≤ 1000000000 ∧ l.length ≤ 20 ∧ ∀ x ∈ l, x.size ≤ 80
instance (c n : Int) (l : List ByteArray) : Decidable (ansP c n l) := by unfold ansP; infer_instance
theorem rmay (c n : Int) (l : List ByteArray) (hl : l.length ≤ 1000000) : Ev (fun k => session_reply_may k (c, n, l, ())) (decide (ansP c n l), ()) := by
  rcases rmay_loop c n l hl with ⟨⟨k0, h⟩, ha⟩ | ⟨j, ⟨k0, h⟩, ha⟩
  · refine ⟨k0, fun k hk => ?_⟩
    unfold session_reply_may
    simp only [h k hk, Option.bind_some, cdec]
    repeat' split
    all_goals first | (refine dfalse ?_; unfold ansP; omega) | (refine dtrue ⟨by omega, by omega, by omega, by omega, by omega, ha⟩) | (exfalso; omega)
  · refine ⟨k0, fun k hk => ?_⟩
    have hn : ¬ ansP c n l := fun q => ha q.2.2.2.2.2
    unfold session_reply_may
    simp only [h k hk, Option.bind_some, cdec]
    rw [decide_eq_false hn]
    repeat' split
    all_goals first | rfl | (exfalso; omega) | (rw [decide_eq_true (by omega)]; rfl)
theorem r18ans (c n : Int) (l : List ByteArray) (hl : l.length ≤ 1000000) : Ev (fun k => ref18_Answer k (c, n, l, ())) (decide (ansP c n l), ()) := by
  rcases r18_loop c n l hl with ⟨⟨k0, h⟩, ha⟩ | ⟨j, ⟨k0, h⟩, ha⟩
  · refine ⟨k0, fun k hk => ?_⟩
    unfold ref18_Answer
    simp only [h k hk, Option.bind_some, cdec]
    repeat' split
    all_goals first | (refine dfalse ?_; unfold ansP; omega) | (refine dtrue ⟨by omega, by omega, by omega, by omega, by omega, ha⟩) | (exfalso; omega)
  · refine ⟨k0, fun k hk => ?_⟩
    have hn : ¬ ansP c n l := fun q => ha q.2.2.2.2.2
    unfold ref18_Answer
    simp only [h k hk, Option.bind_some, cdec]
    rw [decide_eq_false hn]
    repeat' split
    all_goals first | rfl | (exfalso; omega)
theorem mayA (c n : Int) (l : List ByteArray) (hl : l.length ≤ 1000000) : Ev (fun k => packet_may k (c, n, l, ())) (decide (ansP c n l), ()) := by
  have hr : Ev (fun k => session_client_right k (c, n, l, 1, 0, 0, ())) (decide (ansP c n l), ()) := Ev.dt (by show (1 : Int) ≥ 1; omega) (Ev.dt (by show (1 : Int) ≤ 1000000000; omega) (Ev.dt (by show (0 : Int) ≥ 0; omega) (Ev.dt (by show (0 : Int) ≤ 1000000000; omega) (Ev.dt (by show (0 : Int) ≥ 0; omega) (Ev.dt (by show (0 : Int) ≤ 1000000000; omega) (Ev.bind (rmay c n l hl) (Ev.now _)))))))
  by_cases ha : ansP c n l
  · rw [decide_eq_true ha] at hr ⊢
    have hlp : Ev (fun k => session_Is_l1 [(1, 0, 0, c, n, l, ())] k (false, 0, ())) (.exit 0, false, 1, ()) := by
      refine Ev.step (Ev.dt (by show (0 : Int) < 1; omega) (Ev.dt (by show (0 : Int) ≤ 0; omega) (Ev.dt (by show (0 : Int) < 1; omega) ?_)))
      refine Ev.bind (Ev.now ((c, n, l, 1, 0, 0, ()), ())) (Ev.bind hr (Ev.f rfl (Ev.df (by show ¬ (0 : Int) > 0; omega) ?_)))
      exact Ev.step (Ev.df (by show ¬ IntKind.i64.wrap ((0 : Int) + 1) < 1; rw [wrap_id (by omega) (by omega)]; omega) (Ev.now _))
    exact Ev.bind (Ev.bind hlp (Ev.now _)) (Ev.now _)
  · rw [decide_eq_false ha] at hr ⊢
    have hlp : Ev (fun k => session_Is_l1 [(1, 0, 0, c, n, l, ())] k (false, 0, ())) (.ret, false, 0, ()) := by
      refine Ev.step (Ev.dt (by show (0 : Int) < 1; omega) (Ev.dt (by show (0 : Int) ≤ 0; omega) (Ev.dt (by show (0 : Int) < 1; omega) ?_)))
      exact Ev.bind (Ev.now ((c, n, l, 1, 0, 0, ()), ())) (Ev.bind hr (Ev.t rfl (Ev.now _)))
    exact Ev.bind (Ev.bind hlp (Ev.now _)) (Ev.now _)
theorem pwithin (k : Nat) (a b c : Int) : packet_within k a b c = some (decide (b ≤ a ∧ a ≤ c), ()) := two _ _
theorem r20in (k : Nat) (a b c : Int) : ref20_in k a b c = some (decide (b ≤ a ∧ a ≤ c), ()) := two _ _
def msgP (kd fr to vw la n c : Int) (l : List ByteArray) : Prop :=
  (0 ≤ fr ∧ fr ≤ 6 ∧ 0 ≤ to ∧ to ≤ 6 ∧ fr ≠ to ∧ 0 ≤ vw ∧ vw ≤ 1000000) ∧ (∀ x ∈ l, x.size ≤ 45) ∧
  ((kd = 1 ∧ la = 0 ∧ 0 ≤ c ∧ c ≤ 40 ∧ 1 ≤ n ∧ n ≤ 40 ∧ (l.length : Int) = 1) ∨ ((kd = 2 ∨ kd = 7) ∧ la = 0 ∧ 0 ≤ n ∧ n ≤ 40 ∧ c = 0 ∧ (l.length : Int) = 0) ∨ (kd = 3 ∧ la = 0 ∧ 0 ≤ c ∧ c ≤ 40 ∧ n = 0 ∧ (l.length : Int) = 0) ∨ (kd = 4 ∧ la = 0 ∧ c = 0 ∧ n = 0 ∧ (l.length : Int) = 0) ∨
   (kd = 5 ∧ (l.length : Int) ≤ 40 ∧ 0 ≤ c ∧ c ≤ l.length ∧ 0 ≤ la ∧ la ≤ vw ∧ n = 0) ∨ (kd = 6 ∧ la = 0 ∧ (l.length : Int) ≤ 40 ∧ 0 ≤ c ∧ c ≤ l.length ∧ n = 0) ∨ (kd = 8 ∧ la = 0 ∧ 0 ≤ n ∧ n ≤ 40 ∧ (l.length : Int) ≤ 40 - n ∧ 0 ≤ c ∧ c ≤ 40))
instance (kd fr to vw la n c : Int) (l : List ByteArray) : Decidable (msgP kd fr to vw la n c l) := by unfold msgP; infer_instance
theorem pIs_loop (kd fr to vw la n c : Int) (l : List ByteArray) (hl : l.length ≤ 1000000) : (Ev (fun k => packet_Is_l1 (kd, fr, to, vw, la, n, c, l, ()) k (0, 0, ())) (.exit 0, 0, (l.length : Int), ()) ∧ ∀ x ∈ l, x.size ≤ 45) ∨ (∃ j : Nat, Ev (fun k => packet_Is_l1 (kd, fr, to, vw, la, n, c, l, ()) k (0, 0, ())) (.ret, (j : Int), (j : Int), ()) ∧ ¬ ∀ x ∈ l, x.size ≤ 45) := by
  refine loop_all (X := fun i => (0, (i : Int), ())) (out := (AExit.exit 0, 0, (l.length : Int), ())) (bad := fun j => (AExit.ret, (j : Int), (j : Int), ())) l 45 (fun k again => ?_) (fun i hi h k again => ?_) (fun i hi h k again => ?_) l.length 0 (by omega) (fun j _ h => absurd h (by omega))
  · simp only [cdec]; rw [if_neg (by omega)]
  · simp only [cdec, packet_Is_1, Option.bind_some]
    rw [if_pos (by omega), if_pos (by omega), if_pos (by omega), if_neg (by rw [getD_z l i hi]; omega), wrap_succ (by omega)]
  · simp only [cdec, packet_Is_1, Option.bind_some]
    rw [if_pos (by omega), if_pos (by omega), if_pos (by omega), if_pos (by rw [getD_z l i hi]; omega)]
theorem rows_loop (l : List ByteArray) (hl : l.length ≤ 1000000) : (Ev (fun k => ref20_rows_l1 l k (false, 0, ())) (.exit 0, false, (l.length : Int), ()) ∧ ∀ x ∈ l, x.size ≤ 45) ∨ (∃ j : Nat, Ev (fun k => ref20_rows_l1 l k (false, 0, ())) (.ret, false, (j : Int), ()) ∧ ¬ ∀ x ∈ l, x.size ≤ 45) := by
  refine loop_all (X := fun i => (false, (i : Int), ())) (out := (AExit.exit 0, false, (l.length : Int), ())) (bad := fun j => (AExit.ret, false, (j : Int), ())) l 45 (fun k again => ?_) (fun i hi h k again => ?_) (fun i hi h k again => ?_) l.length 0 (by omega) (fun j _ h => absurd h (by omega))
  · simp only [cdec]; rw [if_neg (by omega)]
  · simp only [cdec]
    rw [if_pos (by omega), if_pos (by omega), if_pos (by omega), if_neg (by rw [getD_z l i hi]; omega), wrap_succ (by omega)]
  · simp only [cdec]
    rw [if_pos (by omega), if_pos (by omega), if_pos (by omega), if_pos (by rw [getD_z l i hi]; omega)]
theorem wrap40 {n : Int} (h : 0 ≤ n ∧ n ≤ 40) : IntKind.i64.wrap (40 - n) = 40 - n := wrap_id (by omega) (by omega)
def msgQ (kd fr to vw la n c R : Int) : Prop :=
  (0 ≤ fr ∧ fr ≤ 6 ∧ 0 ≤ to ∧ to ≤ 6 ∧ fr ≠ to ∧ 0 ≤ vw ∧ vw ≤ 1000000) ∧
  ((kd = 1 ∧ la = 0 ∧ 0 ≤ c ∧ c ≤ 40 ∧ 1 ≤ n ∧ n ≤ 40 ∧ R = 1) ∨ ((kd = 2 ∨ kd = 7) ∧ la = 0 ∧ 0 ≤ n ∧ n ≤ 40 ∧ c = 0 ∧ R = 0) ∨ (kd = 3 ∧ la = 0 ∧ 0 ≤ c ∧ c ≤ 40 ∧ n = 0 ∧ R = 0) ∨ (kd = 4 ∧ la = 0 ∧ c = 0 ∧ n = 0 ∧ R = 0) ∨
   (kd = 5 ∧ R ≤ 40 ∧ 0 ≤ c ∧ c ≤ R ∧ 0 ≤ la ∧ la ≤ vw ∧ n = 0) ∨ (kd = 6 ∧ la = 0 ∧ R ≤ 40 ∧ 0 ≤ c ∧ c ≤ R ∧ n = 0) ∨ (kd = 8 ∧ la = 0 ∧ 0 ≤ n ∧ n ≤ 40 ∧ R ≤ 40 - n ∧ 0 ≤ c ∧ c ≤ 40))
instance (kd fr to vw la n c R : Int) : Decidable (msgQ kd fr to vw la n c R) := by unfold msgQ; infer_instance
theorem msg_short {kd fr to vw la n c : Int} {l : List ByteArray} (ha : ∀ x ∈ l, x.size ≤ 45) : (some (decide (msgQ kd fr to vw la n c l.length), ()) : Option (Bool × Unit)) = some (decide (msgP kd fr to vw la n c l), ()) := dsame ⟨fun q => ⟨q.1, ha, q.2⟩, fun q => ⟨q.1, q.2.2⟩⟩
set_option maxHeartbeats 4000000 in
theorem pIs (kd fr to vw la n c : Int) (l : List ByteArray) (hl : l.length ≤ 1000000) : Ev (fun k => packet_Is k (kd, fr, to, vw, la, n, c, l, ())) (decide (msgP kd fr to vw la n c l), ()) := by
  by_cases hn : 0 ≤ n ∧ n ≤ 40
  all_goals
    rcases pIs_loop kd fr to vw la n c l hl with ⟨⟨k0, h⟩, ha⟩ | ⟨j, ⟨k0, h⟩, ha⟩
    · refine ⟨k0, fun k hk => Eq.trans ?_ (msg_short ha)⟩
      have h' := h k hk
      dsimp only at h' ⊢
      unfold packet_Is
      first | simp only [pwithin, h', Option.bind_some, ieq, ← decide_not, bne, cdec, Nat.beq_refl, cond_true, wrap40 hn] | simp only [pwithin, h', Option.bind_some, ieq, ← decide_not, bne, cdec, Nat.beq_refl, cond_true]
      have hR : (0 : Int) ≤ (l.length : Int) := Int.natCast_nonneg _
      revert hR
      generalize (l.length : Int) = R
      intro hR
      clear h h' ha hl hk k0 k
      revert kd
      refine kinds _ ?_ ?_ ?_ ?_ ?_ ?_ ?_ ?_ ?_ ?_
      · intro kd h
        have h1 : kd ≠ 1 := by omega
        have h2 : kd ≠ 2 := by omega
        have h3 : kd ≠ 3 := by omega
        have h4 : kd ≠ 4 := by omega
        have h5 : kd ≠ 5 := by omega
        have h6 : kd ≠ 6 := by omega
        have h7 : kd ≠ 7 := by omega
        have h8 : kd ≠ 8 := by omega
        have h9 : kd ≠ 9 := by omega
        simp only [h1, h2, h3, h4, h5, h6, h7, h8, h9, if_false, not_false_eq_true, if_true]
        repeat' split
        all_goals (refine dfalse ?_; unfold msgQ; omega)
      all_goals
        simp only [Int.reduceEq, if_true, if_false, true_and, not_true_eq_false, not_false_eq_true, false_or, or_false, false_and]
        repeat' split
        all_goals first | (refine dfalse ?_; unfold msgQ; omega) | (refine dsame ?_; unfold msgQ; omega)
    · refine ⟨k0, fun k hk => ?_⟩
      have e : ¬ msgP kd fr to vw la n c l := fun q => ha q.2.1
      rw [decide_eq_false e]
      have h' := h k hk
      dsimp only at h' ⊢
      unfold packet_Is
      simp only [pwithin, h', Option.bind_some, ieq, ← decide_not, bne, cdec]
      have hj : (j : Int) ≥ 0 := Int.natCast_nonneg _
      simp only [hj, if_true]
      repeat' split
      all_goals first | rfl | (exfalso; omega)
end Go.Proofs.Ytoeikeabbdnkbaa.Pure
