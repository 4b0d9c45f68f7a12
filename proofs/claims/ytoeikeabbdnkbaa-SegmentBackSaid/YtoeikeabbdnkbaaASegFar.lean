/- Logs in files: the document's rows, what is let go, and logs that are the same. -/
import Derived.Test.YtoeikeabbdnkbaaASegLaw
import Derived.Test.YtoeikeabbdnkbaaFnSeg
import Derived.KernelRfl
namespace Go.Proofs.Ytoeikeabbdnkbaa.A
open Go Go.Proofs.Ytoeikeabbdnkbaa.Ab
set_option linter.unusedVariables false
set_option linter.unusedSimpArgs false

set_option maxRecDepth 100000 in
theorem parted_all (q : Nat) : law14_parted (q + 60) = some (true, ()) := by kernel_rfl
theorem parted_ok : Ev (fun k => law14_parted k) (true, ()) := ⟨60, fun k hk => by
  obtain ⟨q, rfl⟩ : ∃ q, k = q + 60 := ⟨k - 60, by omega⟩
  exact parted_all q⟩
theorem sfar_l (l : List ByteArray) (hl : l.length ≤ maxLen) (d : Nat) : ∀ i : Nat, i + d = l.length →
    (Ev (fun k => law14_far_l1 l k (false, (i : Int), ())) (.exit 0, false, (l.length : Int), ()) ∧ ∀ j (h : j < l.length), i ≤ j → l[j].size ≤ 1100) ∨ ∃ i', Ev (fun k => law14_far_l1 l k (false, (i : Int), ())) (.ret, true, i', ()) := by
  unfold maxLen at hl
  induction d with
  | zero =>
    intro i hi
    obtain rfl : i = l.length := by omega
    exact .inl ⟨Ev.step (Ev.df (by show ¬ (l.length : Int) < l.length; omega) (Ev.now _)), fun j h h' => by omega⟩
  | succ d ih =>
    intro i hi
    have c0 : (i : Int) < (l.length : Int) := by omega
    have c1 : (0 : Int) ≤ (i : Int) := by omega
    have hg : l.getD (Int.toNat (i : Int)) Ty.str.zero = l[i] := getD_z l i (by omega)
    have w := wrap_succ (i := i) (by omega)
    have ih := ih (i + 1) (by omega)
    have e1 : ((l.getD (Int.toNat (i : Int)) Ty.str.zero).size : Int) = (l[i].size : Int) := by rw [hg]
    have on : l[i].size ≤ 1100 → (∀ {R}, Ev (fun k => law14_far_l1 l k (false, (((i + 1 : Nat)) : Int), ())) R → Ev (fun k => law14_far_l1 l k (false, (i : Int), ())) R) →
        ((Ev (fun k => law14_far_l1 l k (false, (i : Int), ())) (.exit 0, false, (l.length : Int), ()) ∧ ∀ j (h : j < l.length), i ≤ j → l[j].size ≤ 1100) ∨ ∃ i', Ev (fun k => law14_far_l1 l k (false, (i : Int), ())) (.ret, true, i', ())) := by
      intro hle h
      rcases ih with ⟨k1, k2⟩ | ⟨i', k⟩
      · refine .inl ⟨h k1, fun j hj hij => ?_⟩
        by_cases e : j = i
        · subst e; exact hle
        · exact k2 j hj (by omega)
      · exact .inr ⟨i', h k⟩
    by_cases h1 : ((l.getD (Int.toNat (i : Int)) Ty.str.zero).size : Int) > 100
    · by_cases h2 : ((l.getD (Int.toNat (i : Int)) Ty.str.zero).size : Int) ≤ 1000
      · exact .inr ⟨_, Ev.step (Ev.dt c0 (Ev.dt c1 (Ev.dt c0 (Ev.dt h1 (Ev.dt c1 (Ev.dt c0 (Ev.dt h2 (Ev.now _))))))))⟩
      · by_cases h3 : ((l.getD (Int.toNat (i : Int)) Ty.str.zero).size : Int) > 1100
        · exact .inr ⟨_, Ev.step (Ev.dt c0 (Ev.dt c1 (Ev.dt c0 (Ev.dt h1 (Ev.dt c1 (Ev.dt c0 (Ev.df h2 (Ev.dt c1 (Ev.dt c0 (Ev.dt h3 (Ev.now _)))))))))))⟩
        · refine on (by omega) (fun {R} h => ?_)
          rw [← w] at h
          exact Ev.step (Ev.dt c0 (Ev.dt c1 (Ev.dt c0 (Ev.dt h1 (Ev.dt c1 (Ev.dt c0 (Ev.df h2 (Ev.dt c1 (Ev.dt c0 (Ev.df h3 h))))))))))
    · have h3 : ¬ ((l.getD (Int.toNat (i : Int)) Ty.str.zero).size : Int) > 1100 := by omega
      refine on (by omega) (fun {R} h => ?_)
      rw [← w] at h
      exact Ev.step (Ev.dt c0 (Ev.dt c1 (Ev.dt c0 (Ev.df h1 (Ev.dt c1 (Ev.dt c0 (Ev.df h3 h)))))))
theorem sbig_l (z n : Int) (fs : List FT) (hl : fs.length ≤ maxLen) (hs : (fs.length : Int) ≤ 25) (d : Nat) : ∀ i : Nat, i + d = fs.length →
    (Ev (fun k => ref14_Big_l1 (SG z n fs) k (false, (i : Int), ())) (.exit 0, false, (fs.length : Int), ()) ∧ ∀ j (h : j < fs.length), i ≤ j → fs[j].2.1.size ≤ 600 ∧ fs[j].2.2.1.size ≤ 600) ∨ ∃ i', Ev (fun k => ref14_Big_l1 (SG z n fs) k (false, (i : Int), ())) (.ret, true, i', ()) := by
  unfold maxLen at hl
  induction d with
  | zero =>
    intro i hi
    obtain rfl : i = fs.length := by omega
    exact .inl ⟨Ev.step (Ev.df (by show ¬ (fs.length : Int) < fs.length; omega) (Ev.now _)), fun j h h' => by omega⟩
  | succ d ih =>
    intro i hi
    have c0 : (i : Int) < (fs.length : Int) := by omega
    have c1 : (0 : Int) ≤ (i : Int) := by omega
    have hg : fs.getD (Int.toNat (i : Int)) Zf = fs[i] := getD_f fs i (by omega) _
    have w := wrap_succ (i := i) (by omega)
    have ih := ih (i + 1) (by omega)
    rw [← w] at ih
    have e1 : (((fs.getD (Int.toNat (i : Int)) Zf).2.1.size : Nat) : Int) = (fs[i].2.1.size : Int) := by rw [hg]
    have e2 : (((fs.getD (Int.toNat (i : Int)) Zf).2.2.1.size : Nat) : Int) = (fs[i].2.2.1.size : Int) := by rw [hg]
    by_cases h1 : (((fs.getD (Int.toNat (i : Int)) Zf).2.1.size : Nat) : Int) > 600
    · exact .inr ⟨_, Ev.step (Ev.dt c0 (Ev.dt hs (Ev.dt c1 (Ev.dt c0 (Ev.dt h1 (Ev.now _))))))⟩
    · by_cases h2 : (((fs.getD (Int.toNat (i : Int)) Zf).2.2.1.size : Nat) : Int) > 600
      · exact .inr ⟨_, Ev.step (Ev.dt c0 (Ev.dt hs (Ev.dt c1 (Ev.dt c0 (Ev.df h1 (Ev.dt c1 (Ev.dt c0 (Ev.dt h2 (Ev.now _)))))))))⟩
      · rcases ih with ⟨k1, k2⟩ | ⟨i', k⟩
        · refine .inl ⟨Ev.step (Ev.dt c0 (Ev.dt hs (Ev.dt c1 (Ev.dt c0 (Ev.df h1 (Ev.dt c1 (Ev.dt c0 (Ev.df h2 k1)))))))), fun j hj hij => ?_⟩
          by_cases e : j = i
          · subst e; omega
          · exact k2 j hj (by omega)
        · exact .inr ⟨i', Ev.step (Ev.dt c0 (Ev.dt hs (Ev.dt c1 (Ev.dt c0 (Ev.df h1 (Ev.dt c1 (Ev.dt c0 (Ev.df h2 k))))))))⟩
theorem sfar_ok (z n : Int) (fs : List FT) (l : List ByteArray) (hf : fs.length ≤ maxLen) (hl : l.length ≤ maxLen) : ∃ x, Ev (fun k => law14_far k (SG z n fs) l) (x, ()) ∧ (x = false → fs.length ≤ 25 ∧ (∀ f ∈ fs, bdF f) ∧ l.length ≤ 25 ∧ ∀ y ∈ l, y.size ≤ 1100) := by
  rcases sfar_l l hl l.length 0 (by omega) with ⟨k1, k2⟩ | ⟨i', k⟩
  · have big : ∃ b, Ev (fun k => ref14_Big k (SG z n fs)) (b, ()) ∧ (b = false → fs.length ≤ 25 ∧ ∀ f ∈ fs, bdF f) := by
      by_cases hs : (fs.length : Int) ≤ 25
      · rcases sbig_l z n fs hf hs fs.length 0 (by omega) with ⟨g1, g2⟩ | ⟨i', g⟩
        · refine ⟨decide ((fs.length : Int) > 25), Ev.bind g1 (Ev.t rfl (Ev.now _)), fun _ => ⟨by omega, fun f hf => ?_⟩⟩
          obtain ⟨j, hj, rfl⟩ := List.getElem_of_mem hf
          have := g2 j hj (Nat.zero_le _)
          exact ⟨by omega, by omega⟩
        · exact ⟨true, Ev.bind g (Ev.now _), fun h => by cases h⟩
      · refine ⟨true, ?_, fun h => by cases h⟩
        have c0 : ((0 : Nat) : Int) < (fs.length : Int) := by omega
        have g : Ev (fun k => ref14_Big_l1 (SG z n fs) k (false, 0, ())) (.exit 0, false, 0, ()) := Ev.step (Ev.dt c0 (Ev.df hs (Ev.now _)))
        have e : (decide ((fs.length : Int) > 25), ()) = (true, ()) := by rw [decide_eq_true (by omega)]
        rw [← e]
        exact Ev.bind g (Ev.t rfl (Ev.now _))
    obtain ⟨b, hb, hb2⟩ := big
    cases b with
    | true => exact ⟨true, Ev.bind k1 (Ev.t rfl (Ev.bind hb (Ev.t rfl (Ev.now _)))), fun h => by cases h⟩
    | false =>
      refine ⟨decide ((l.length : Int) > 25), Ev.bind k1 (Ev.t rfl (Ev.bind hb (Ev.f rfl (Ev.now _)))), fun h => ?_⟩
      have h := of_decide_eq_false h
      refine ⟨(hb2 rfl).1, (hb2 rfl).2, by omega, fun y hy => ?_⟩
      obtain ⟨j, hj, rfl⟩ := List.getElem_of_mem hy
      exact k2 j hj (Nat.zero_le _)
  · exact ⟨true, Ev.bind k (Ev.now _), fun h => by cases h⟩
theorem Same_l (z n : Int) (fs : List FT) (hl : fs.length ≤ 1000000) (d : Nat) : ∀ i : Nat, i + d = fs.length → Ev (fun k => ref14_Same_l1 (SG z n fs) (SG z n fs) k (false, (i : Int), ())) (.exit 0, false, (fs.length : Int), ()) := by
  induction d with
  | zero =>
    intro i hi
    obtain rfl : i = fs.length := by omega
    exact Ev.step (Ev.df (by show ¬ (fs.length : Int) < fs.length; omega) (Ev.now _))
  | succ d ih =>
    intro i hi
    have c0 : (i : Int) < (fs.length : Int) := by omega
    have c1 : (0 : Int) ≤ (i : Int) := by omega
    have ih := ih (i + 1) (by omega)
    rw [← wrap_succ (by omega)] at ih
    exact Ev.step (Ev.dt c0 (Ev.dt c1 (Ev.dt c0 (Ev.dt c1 (Ev.dt c0 (Ev.f (by simp) ih))))))
theorem Same_ok (z n : Int) (fs : List FT) (hl : fs.length ≤ 1000000) : Ev (fun k => ref14_Same k (SG z n fs) (SG z n fs)) (true, ()) :=
  Ev.f (nbeq_i rfl) (Ev.f (nbeq_i rfl) (Ev.f (nbeq_i rfl) (Ev.bind (Same_l z n fs hl fs.length 0 (by omega)) (Ev.t rfl (Ev.now _)))))
theorem SNew_cases (z n : Int) : (okL z n [] EB EB ∧ Ev (fun k => segment_New k z n) (SL z n [] EB EB, 0, ())) ∨ Ev (fun k => segment_New k z n) (RB, 1, ()) := by
  have hE := EB_size
  rcases Is_cases z n [F z EB EB] (by simp) (by intro f hf; simp at hf; subst hf; exact ⟨by show EB.size ≤ 4000; omega, by show EB.size ≤ 4000; omega⟩) with ⟨pre, s, t, h1, h2, h3⟩ | h
  · have h1 : files z [] EB EB = files z pre s t := h1
    obtain ⟨rfl, rfl, rfl⟩ := files_inj h1
    exact .inl ⟨h2, Ev.bind h3 (Ev.f rfl (Ev.now _))⟩
  · exact .inr (Ev.bind h (Ev.t rfl (Ev.now _)))
theorem Is_bad : Ev (fun k => segment_Is k RB) (false, ()) := Ev.dt (by show (0 : Int) < 20; decide) (Ev.now _)
theorem Add_bad (l : List ByteArray) : Ev (fun k => segment_Add k RB l) (RB, 1, ()) := Ev.bind Is_bad (Ev.t rfl (Ev.now _))
end Go.Proofs.Ytoeikeabbdnkbaa.A
