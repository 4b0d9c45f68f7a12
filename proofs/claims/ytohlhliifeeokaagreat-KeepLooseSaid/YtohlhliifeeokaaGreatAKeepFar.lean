/- Keeps: the document's rows, and what is let go. -/
import Derived.Test.YtohlhliifeeokaaGreatAT3
import Derived.Test.YtohlhliifeeokaaGreatFnKeepL
import Derived.KernelRfl
namespace Go.Proofs.YtohlhliifeeokaaGreat.A
open Go Go.Proofs.YtohlhliifeeokaaGreat.Ab
set_option linter.unusedVariables false
set_option linter.unusedSimpArgs false

set_option maxRecDepth 100000 in
theorem kept17_all (q : Nat) : law17_kept (q + 60) = some (true, ()) := by kernel_rfl
theorem kept17_ok : Ev (fun k => law17_kept k) (true, ()) := ⟨60, fun k hk => by
  obtain ⟨q, rfl⟩ : ∃ q, k = q + 60 := ⟨k - 60, by omega⟩
  exact kept17_all q⟩
theorem kfar_l (l : List ByteArray) (hl : l.length ≤ maxLen) (d : Nat) : ∀ i : Nat, i + d = l.length →
    (Ev (fun k => law17_far_l1 l k (false, (i : Int), ())) (.exit 0, false, (l.length : Int), ()) ∧ ∀ j (h : j < l.length), i ≤ j → l[j].size ≤ 1100) ∨ ∃ i', Ev (fun k => law17_far_l1 l k (false, (i : Int), ())) (.ret, true, i', ()) := by
  unfold maxLen at hl
  induction d with
  | zero =>
    intro i hi
    obtain rfl : i = l.length := by omega
    exact .inl ⟨Ev.step (Ev.df (by show ¬ (l.length : Int) < l.length; omega) (Ev.now _)), fun j h h' => by omega⟩
  | succ d ih =>
    intro i hi
    have c0 : (i : Int) < (l.length : Int) := by omega
    have c1 : (0 : Int) ≤ (i : Int) := by omega
    have hg : l.getD (Int.toNat (i : Int)) Ty.str.zero = l[i] := getD_z l i (by omega)
    have w := wrap_succ (i := i) (by omega)
    have ih := ih (i + 1) (by omega)
    have e1 : ((l.getD (Int.toNat (i : Int)) Ty.str.zero).size : Int) = (l[i].size : Int) := by rw [hg]
    have on : l[i].size ≤ 1100 → (∀ {R}, Ev (fun k => law17_far_l1 l k (false, (((i + 1 : Nat)) : Int), ())) R → Ev (fun k => law17_far_l1 l k (false, (i : Int), ())) R) →
        ((Ev (fun k => law17_far_l1 l k (false, (i : Int), ())) (.exit 0, false, (l.length : Int), ()) ∧ ∀ j (h : j < l.length), i ≤ j → l[j].size ≤ 1100) ∨ ∃ i', Ev (fun k => law17_far_l1 l k (false, (i : Int), ())) (.ret, true, i', ())) := by
      intro hle h
      rcases ih with ⟨k1, k2⟩ | ⟨i', k⟩
      · refine .inl ⟨h k1, fun j hj hij => ?_⟩
        by_cases e : j = i
        · subst e; exact hle
        · exact k2 j hj (by omega)
      · exact .inr ⟨i', h k⟩
    by_cases h1 : ((l.getD (Int.toNat (i : Int)) Ty.str.zero).size : Int) > 100
    · by_cases h2 : ((l.getD (Int.toNat (i : Int)) Ty.str.zero).size : Int) ≤ 1000
      · exact .inr ⟨_, Ev.step (Ev.dt c0 (Ev.dt c1 (Ev.dt c0 (Ev.dt h1 (Ev.dt c1 (Ev.dt c0 (Ev.dt h2 (Ev.now _))))))))⟩
      · by_cases h3 : ((l.getD (Int.toNat (i : Int)) Ty.str.zero).size : Int) > 1100
        · exact .inr ⟨_, Ev.step (Ev.dt c0 (Ev.dt c1 (Ev.dt c0 (Ev.dt h1 (Ev.dt c1 (Ev.dt c0 (Ev.df h2 (Ev.dt c1 (Ev.dt c0 (Ev.dt h3 (Ev.now _)))))))))))⟩
        · refine on (by omega) (fun {R} h => ?_)
          rw [← w] at h
          exact Ev.step (Ev.dt c0 (Ev.dt c1 (Ev.dt c0 (Ev.dt h1 (Ev.dt c1 (Ev.dt c0 (Ev.df h2 (Ev.dt c1 (Ev.dt c0 (Ev.df h3 h))))))))))
    · have h3 : ¬ ((l.getD (Int.toNat (i : Int)) Ty.str.zero).size : Int) > 1100 := by omega
      refine on (by omega) (fun {R} h => ?_)
      rw [← w] at h
      exact Ev.step (Ev.dt c0 (Ev.dt c1 (Ev.dt c0 (Ev.df h1 (Ev.dt c1 (Ev.dt c0 (Ev.df h3 h)))))))
theorem kbig_ok (m : Int) (a b : ByteArray) (m' : Int) (c d : ByteArray) (hm : Int) (ha hb : ByteArray) (hm' : Int) (hc hd : ByteArray) (z n : Int) (fs : List FT) (hf : fs.length ≤ maxLen) : ∃ x, Ev (fun k => ref17_Big k (KM (S6 m a b m' c d) (H6 hm ha hb hm' hc hd) (SG z n fs))) (x, ()) ∧ (x = false → (a.size ≤ 2000 ∧ b.size ≤ 2000 ∧ c.size ≤ 2000 ∧ d.size ≤ 2000) ∧ (ha.size ≤ 2000 ∧ hb.size ≤ 2000 ∧ hc.size ≤ 2000 ∧ hd.size ≤ 2000) ∧ fs.length ≤ 25 ∧ ∀ f ∈ fs, bdF f) := by
  have b1 : Ev (fun k => ref15_Big k (S6 m a b m' c d)) (decide (a.size > 2000 ∨ b.size > 2000) || decide (c.size > 2000 ∨ d.size > 2000), ()) := by
    refine Ev.bind (Ev.all fun k => rBig_ok k m a b) ?_
    cases g : decide (a.size > 2000 ∨ b.size > 2000) with
    | true => exact Ev.t rfl (Ev.now _)
    | false => exact Ev.f rfl (Ev.bind (Ev.all fun k => rBig_ok k m' c d) (Ev.now _))
  have b2 : Ev (fun k => ref16_Big k (H6 hm ha hb hm' hc hd)) (decide (ha.size > 2000 ∨ hb.size > 2000 ∨ hc.size > 2000 ∨ hd.size > 2000), ()) := Ev.all fun k => rBigH_ok k
  have b3 : ∃ b, Ev (fun k => ref14_Big k (SG z n fs)) (b, ()) ∧ (b = false → fs.length ≤ 25 ∧ ∀ f ∈ fs, bdF f) := by
    by_cases hs : (fs.length : Int) ≤ 25
    · rcases sbig_l z n fs hf hs fs.length 0 (by omega) with ⟨g1, g2⟩ | ⟨i', g⟩
      · refine ⟨decide ((fs.length : Int) > 25), Ev.bind g1 (Ev.t rfl (Ev.now _)), fun _ => ⟨by omega, fun f hf => ?_⟩⟩
        obtain ⟨j, hj, rfl⟩ := List.getElem_of_mem hf
        have := g2 j hj (Nat.zero_le _)
        exact ⟨by omega, by omega⟩
      · exact ⟨true, Ev.bind g (Ev.now _), fun h => by cases h⟩
    · refine ⟨true, ?_, fun h => by cases h⟩
      have c0 : ((0 : Nat) : Int) < (fs.length : Int) := by omega
      have g : Ev (fun k => ref14_Big_l1 (SG z n fs) k (false, 0, ())) (.exit 0, false, 0, ()) := Ev.step (Ev.dt c0 (Ev.df hs (Ev.now _)))
      have e : (decide ((fs.length : Int) > 25), ()) = (true, ()) := by rw [decide_eq_true (by omega)]
      rw [← e]
      exact Ev.bind g (Ev.t rfl (Ev.now _))
  cases g1 : (decide (a.size > 2000 ∨ b.size > 2000) || decide (c.size > 2000 ∨ d.size > 2000)) with
  | true => rw [g1] at b1; exact ⟨true, Ev.bind b1 (Ev.t rfl (Ev.now _)), fun h => by cases h⟩
  | false =>
    rw [g1] at b1
    rw [Bool.or_eq_false_iff] at g1
    have p1 := of_decide_eq_false g1.1
    have p2 := of_decide_eq_false g1.2
    cases g2 : decide (ha.size > 2000 ∨ hb.size > 2000 ∨ hc.size > 2000 ∨ hd.size > 2000) with
    | true => rw [g2] at b2; exact ⟨true, Ev.bind b1 (Ev.f rfl (Ev.bind b2 (Ev.t rfl (Ev.now _)))), fun h => by cases h⟩
    | false =>
      rw [g2] at b2
      have p3 := of_decide_eq_false g2
      obtain ⟨x, b3, p4⟩ := b3
      exact ⟨x, Ev.bind b1 (Ev.f rfl (Ev.bind b2 (Ev.f rfl (Ev.bind b3 (Ev.now _))))), fun h => ⟨by omega, by omega, p4 h⟩⟩
theorem kfar_ok (m : Int) (a b : ByteArray) (m' : Int) (c d : ByteArray) (hm : Int) (ha hb : ByteArray) (hm' : Int) (hc hd : ByteArray) (z n : Int) (fs : List FT) (l : List ByteArray) (hf : fs.length ≤ maxLen) (hl : l.length ≤ maxLen) : ∃ x, Ev (fun k => law17_far k (KM (S6 m a b m' c d) (H6 hm ha hb hm' hc hd) (SG z n fs)) l) (x, ()) ∧ (x = false → (a.size ≤ 2000 ∧ b.size ≤ 2000 ∧ c.size ≤ 2000 ∧ d.size ≤ 2000) ∧ (ha.size ≤ 2000 ∧ hb.size ≤ 2000 ∧ hc.size ≤ 2000 ∧ hd.size ≤ 2000) ∧ (fs.length ≤ 25 ∧ ∀ f ∈ fs, bdF f) ∧ l.length ≤ 110 ∧ ∀ y ∈ l, y.size ≤ 1100) := by
  rcases kfar_l l hl l.length 0 (by omega) with ⟨k1, k2⟩ | ⟨i', k⟩
  · obtain ⟨x, hb, hx⟩ := kbig_ok m a b m' c d hm ha hb hm' hc hd z n fs hf
    cases x with
    | true => exact ⟨true, Ev.bind k1 (Ev.t rfl (Ev.bind hb (Ev.t rfl (Ev.now _)))), fun h => by cases h⟩
    | false =>
      obtain ⟨x1, x2, x3⟩ := hx rfl
      have mem : ∀ y ∈ l, y.size ≤ 1100 := fun y hy => by
        obtain ⟨j, hj, rfl⟩ := List.getElem_of_mem hy
        exact k2 j hj (Nat.zero_le _)
      by_cases c1 : (l.length : Int) > 25
      · by_cases c2 : (l.length : Int) ≤ 99
        · exact ⟨true, Ev.bind k1 (Ev.t rfl (Ev.bind hb (Ev.f rfl (Ev.dt c1 (Ev.dt c2 (Ev.now _)))))), fun h => by cases h⟩
        · refine ⟨decide ((l.length : Int) > 110), Ev.bind k1 (Ev.t rfl (Ev.bind hb (Ev.f rfl (Ev.dt c1 (Ev.df c2 (Ev.now _)))))), fun h => ?_⟩
          have h := of_decide_eq_false h
          exact ⟨x1, x2, x3, by omega, mem⟩
      · refine ⟨decide ((l.length : Int) > 110), Ev.bind k1 (Ev.t rfl (Ev.bind hb (Ev.f rfl (Ev.df c1 (Ev.now _))))), fun h => ?_⟩
        have h := of_decide_eq_false h
        exact ⟨x1, x2, x3, by omega, mem⟩
  · exact ⟨true, Ev.bind k (Ev.now _), fun h => by cases h⟩
end Go.Proofs.YtohlhliifeeokaaGreat.A
