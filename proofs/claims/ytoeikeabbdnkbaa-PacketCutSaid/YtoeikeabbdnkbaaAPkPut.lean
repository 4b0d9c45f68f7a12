/- Packets: what is put. -/
import Derived.Test.YtoeikeabbdnkbaaAPkTell
namespace Go.Proofs.Ytoeikeabbdnkbaa.Pure
open Go Go.Proofs.Ytoeikeabbdnkbaa.Ab Go.Proofs.Ytoeikeabbdnkbaa.A
set_option linter.unusedVariables false
set_option linter.unusedSimpArgs false

theorem intsB_le (ns : List Int) : (intsB ns).length ≤ 6 * ns.length := by
  induction ns with
  | nil => simp [intsB]
  | cons n ns ih =>
    have e : intsB (n :: ns) = intB n ++ intsB ns := by simp [intsB]
    have := intB_len n
    rw [e, List.length_append, List.length_cons]; omega
theorem txsB_le (B : Nat) (ts : List (List UInt8)) (h : ∀ t ∈ ts, t.length ≤ B) : (txsB ts).length ≤ (B + 6) * ts.length := by
  induction ts with
  | nil => simp [txsB]
  | cons t ts ih =>
    have := ih fun x hx => h x (by simp [hx])
    have h1 := txB_len t
    have h2 := h t (by simp)
    rw [txsB_cons, List.length_append, List.length_cons, Nat.mul_add, Nat.mul_one]; omega
theorem rowB_le (B : Nat) (h : List UInt8) (ts : List (List UInt8)) (hh : h.length ≤ 48) (ht : ∀ t ∈ ts, t.length ≤ B) (hB : (B + 6) * ts.length ≤ 2900) : (rowB (h :: ts)).length ≤ 3000 := by
  have h1 := txsB_le B ts ht
  have h2 := txB_len h
  have h3 := intB_len ((h :: ts).length : Int)
  unfold rowB
  rw [List.length_append, txsB_cons, List.length_append]; omega
theorem put_ok (k : Nat) (kind : Int) (h0 : 0 ≤ kind) (h1 : kind ≤ 99) (h : List UInt8) (ts : List (List UInt8)) (hl : ts.length < 100) (hs : shortL (h :: ts)) (hr : (rowB (h :: ts)).length ≤ 3000) : packet_put k kind (mkB h) (ts.map mkB) = some (mkB (frB kind (rowB (h :: ts))), 0, ()) := by
  have hA : RowA kind (h :: ts) = (mkB (frB kind (rowB (h :: ts))), 0, ()) := by
    unfold RowA PutA
    rw [if_neg (by omega), if_neg (by rw [List.length_cons]; omega), if_pos (show ∀ t ∈ h :: ts, t.length ≤ 3000 from hs), if_neg (by omega), if_neg (by omega)]
  unfold packet_put
  cases ts with
  | nil =>
    have := Row_ok k kind [h]
    rw [hA] at this
    show (bif true then _ else _) = _
    rw [cond_true, show [mkB h] = [h].map mkB from rfl, this]; rfl
  | cons t ts =>
    have := Row_ok k kind (h :: t :: ts)
    rw [hA] at this
    have e : (List.length ((t :: ts).map mkB)).beq 0 = false := by rw [List.length_map]; rfl
    rw [e, cond_false, cdec, if_pos (by rw [List.length_map]; show (1 + (t :: ts).length) * 16 ≤ _; omega), show [mkB h] ++ (t :: ts).map mkB = (h :: t :: ts).map mkB from rfl, this]; rfl
theorem numbers_ok (k : Nat) (ns : List Int) (hl : ns.length ≤ 100) (h : ∀ n ∈ ns, intOk n = true) : packet_numbers k ns = some (mkB (intsB ns), ()) := by
  unfold packet_numbers
  rw [Ints_ok k ns (by omega)]
  unfold IntsA
  rw [if_pos (List.all_eq_true.2 h)]; rfl
theorem okC_ints {c : CmdT} (h : okC c) : ∀ n ∈ numsC c, intOk n = true := by
  obtain ⟨a1, a2, a3, a4, a5, a6, a7, a8, _⟩ := c
  unfold okC cmdP at h
  dsimp only at h
  intro n hn
  rw [intOk_iff]
  simp only [numsC, List.mem_cons, List.not_mem_nil, or_false] at hn
  rcases hn with rfl | rfl | rfl | rfl | rfl | rfl | rfl | rfl <;> omega
theorem okA_ints {a : AnsT} (h : okA a) : ∀ n ∈ numsA a, intOk n = true := by
  obtain ⟨a1, a2, a3, _⟩ := a
  obtain ⟨h1, h2, h3, h4, _⟩ := h
  dsimp only at h1 h2 h3 h4
  intro n hn
  rw [intOk_iff]
  simp only [numsA, List.mem_cons, List.not_mem_nil, or_false] at hn
  rcases hn with rfl | rfl <;> omega
theorem okM_few {m : MsgT} (h : okM m) : m.2.2.2.2.2.2.2.1.length ≤ 40 := by
  obtain ⟨a1, a2, a3, a4, a5, a6, a7, a8, _⟩ := m
  obtain ⟨h1, _, h2⟩ := h
  dsimp only at h1 h2 ⊢
  omega
theorem okM_ints {m : MsgT} (h : okM m) : ∀ n ∈ numsM m, intOk n = true := by
  obtain ⟨a1, a2, a3, a4, a5, a6, a7, a8, _⟩ := m
  obtain ⟨h1, _, h2⟩ := h
  dsimp only at h1 h2
  intro n hn
  rw [intOk_iff]
  simp only [numsM, List.mem_cons, List.not_mem_nil, or_false] at hn
  rcases hn with rfl | rfl | rfl | rfl | rfl | rfl | rfl <;> omega
/-- What is put, where it may be. -/
def layC (c : CmdT) : List UInt8 := frB 4 (rowB [intsB (numsC c)])
def layA (a : AnsT) (ts : List (List UInt8)) : List UInt8 := frB 5 (rowB (intsB (numsA a) :: ts))
def layM (m : MsgT) (ts : List (List UInt8)) : List UInt8 := frB 6 (rowB (intsB (numsM m) :: ts))
theorem okC_lays {c : CmdT} (h : okC c) : Lays 4 (numsC c) [] (layC c) := by
  have h6 := intsB_le (numsC c)
  have h6 : (intsB (numsC c)).length ≤ 48 := h6
  refine ⟨okC_ints h, by simp, fun t ht => ?_, rowB_le 0 _ _ h6 (fun t ht => by cases ht) (by simp), rfl⟩
  rw [List.mem_singleton] at ht
  subst ht; omega
theorem okA_lays {a : AnsT} {ts : List (List UInt8)} (e : a.2.2.1 = ts.map mkB) (h : okA a) : Lays 5 (numsA a) ts (layA a ts) := by
  have h6 := intsB_le (numsA a)
  have h6 : (intsB (numsA a)).length ≤ 12 := h6
  have h7 := h.2.2.2.2
  rw [e, List.length_map] at h7
  have h8 : ∀ t ∈ ts, t.length ≤ 80 := fun t ht => by have := h7.2 (mkB t) (List.mem_map_of_mem ht); rwa [mkB_size] at this
  refine ⟨okA_ints h, by omega, fun t ht => ?_, rowB_le 80 _ _ (by omega) h8 (by omega), rfl⟩
  rcases List.mem_cons.1 ht with rfl | ht
  · omega
  · have := h8 t ht; omega
theorem okM_lays {m : MsgT} {ts : List (List UInt8)} (e : m.2.2.2.2.2.2.2.1 = ts.map mkB) (h : okM m) : Lays 6 (numsM m) ts (layM m ts) := by
  have h6 := intsB_le (numsM m)
  have h6 : (intsB (numsM m)).length ≤ 42 := h6
  have h7 := okM_few h
  have h9 := h.2.1
  rw [e] at h7 h9
  rw [List.length_map] at h7
  have h8 : ∀ t ∈ ts, t.length ≤ 45 := fun t ht => by have := h9 (mkB t) (List.mem_map_of_mem ht); rwa [mkB_size] at this
  refine ⟨okM_ints h, by omega, fun t ht => ?_, rowB_le 45 _ _ (by omega) h8 (by omega), rfl⟩
  rcases List.mem_cons.1 ht with rfl | ht
  · omega
  · have := h8 t ht; omega
theorem putC_ok (c : CmdT) : Ev (fun k => packet_PutCmd k c) (if okC c then (mkB (layC c), 0, ()) else (EB, 1, ())) := by
  obtain ⟨a1, a2, a3, a4, a5, a6, a7, a8, _⟩ := c
  refine Ev.bind (Ev.all fun k => mayM k a1 a2 a3 a4 a5 a6 a7 a8) ?_
  by_cases h : okC (a1, a2, a3, a4, a5, a6, a7, a8, ())
  · obtain ⟨b1, b2, b3, b4, b5⟩ := okC_lays h
    rw [if_pos h]
    refine Ev.f (by show (!decide _) = false; rw [decide_eq_true (show cmdP a1 a2 a3 a4 a5 a6 a7 a8 from h)]; rfl) (Ev.bind (Ev.all fun k => numbers_ok k _ (by show (8 : Nat) ≤ 100; omega) b1) (Ev.bind (Ev.all fun k => put_ok k 4 (by omega) (by omega) _ [] b2 b3 b4) (Ev.now _)))
  · rw [if_neg h]
    exact Ev.t (by show (!decide _) = true; rw [decide_eq_false (show ¬ cmdP a1 a2 a3 a4 a5 a6 a7 a8 from h)]; rfl) (Ev.now _)
theorem putA_ok (a : AnsT) (ts : List (List UInt8)) (e : a.2.2.1 = ts.map mkB) (hl : ts.length ≤ 1000000) : Ev (fun k => packet_PutAnswer k a) (if okA a then (mkB (layA a ts), 0, ()) else (EB, 1, ())) := by
  obtain ⟨a1, a2, a3, _⟩ := a
  have e : a3 = ts.map mkB := e
  subst e
  refine Ev.bind (mayA a1 a2 (ts.map mkB) (by rw [List.length_map]; exact hl)) ?_
  by_cases h : okA (a1, a2, ts.map mkB, ())
  · obtain ⟨b1, b2, b3, b4, b5⟩ := okA_lays rfl h
    rw [if_pos h]
    refine Ev.f (by show (!decide _) = false; rw [decide_eq_true (show ansP a1 a2 (ts.map mkB) from h)]; rfl) (Ev.bind (Ev.all fun k => numbers_ok k _ (by show (2 : Nat) ≤ 100; omega) b1) (Ev.bind (Ev.all fun k => put_ok k 5 (by omega) (by omega) _ ts b2 b3 b4) (Ev.now _)))
  · rw [if_neg h]
    exact Ev.t (by show (!decide _) = true; rw [decide_eq_false (show ¬ ansP a1 a2 (ts.map mkB) from h)]; rfl) (Ev.now _)
theorem putM_ok (m : MsgT) (ts : List (List UInt8)) (e : m.2.2.2.2.2.2.2.1 = ts.map mkB) (hl : ts.length ≤ 1000000) : Ev (fun k => packet_PutMsg k m) (if okM m then (mkB (layM m ts), 0, ()) else (EB, 1, ())) := by
  obtain ⟨a1, a2, a3, a4, a5, a6, a7, a8, _⟩ := m
  have e : a8 = ts.map mkB := e
  subst e
  refine Ev.bind (pIs a1 a2 a3 a4 a5 a6 a7 (ts.map mkB) (by rw [List.length_map]; exact hl)) ?_
  by_cases h : okM (a1, a2, a3, a4, a5, a6, a7, ts.map mkB, ())
  · obtain ⟨b1, b2, b3, b4, b5⟩ := okM_lays rfl h
    rw [if_pos h]
    refine Ev.f (by show (!decide _) = false; rw [decide_eq_true (show msgP a1 a2 a3 a4 a5 a6 a7 (ts.map mkB) from h)]; rfl) (Ev.bind (Ev.all fun k => numbers_ok k _ (by show (7 : Nat) ≤ 100; omega) b1) (Ev.bind (Ev.all fun k => put_ok k 6 (by omega) (by omega) _ ts b2 b3 b4) (Ev.now _)))
  · rw [if_neg h]
    exact Ev.t (by show (!decide _) = true; rw [decide_eq_false (show ¬ msgP a1 a2 a3 a4 a5 a6 a7 (ts.map mkB) from h)]; rfl) (Ev.now _)
/-- Frames of unlike kinds are unlike. -/
theorem kind_one {k k' : Int} {t t' : List UInt8} (h0 : 0 ≤ k) (h1 : k ≤ 99) (h0' : 0 ≤ k') (h1' : k' ≤ 99) (h : frB k t = frB k' t') : k = k' := by
  have e := frB_app k t []
  have e' := frB_app k' t' []
  rw [h, e'] at e
  exact (intB_one (kind_intOk h0' h1') (kind_intOk h0 h1) e).1.symm
end Go.Proofs.Ytoeikeabbdnkbaa.Pure
