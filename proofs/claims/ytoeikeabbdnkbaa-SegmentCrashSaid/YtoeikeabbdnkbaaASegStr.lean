/- Logs in files: the document's rows, what is let go, and logs that are the same. -/
import Derived.Test.YtoeikeabbdnkbaaASegLaw
import Derived.Test.YtoeikeabbdnkbaaFnSeg
import Derived.KernelRfl
namespace Go.Proofs.Ytoeikeabbdnkbaa.A
open Go Go.Proofs.Ytoeikeabbdnkbaa.Ab
set_option linter.unusedVariables false
set_option linter.unusedSimpArgs false

set_option maxRecDepth 100000 in
theorem parted_all (q : Nat) : law14_parted (q + 60) = some (true, ()) := by kernel_rfl
theorem parted_ok : Ev (fun k => law14_parted k) (true, ()) := ⟨60, fun k hk => by
  obtain ⟨q, rfl⟩ : ∃ q, k = q + 60 := ⟨k - 60, by omega⟩
  exact parted_all q⟩
theorem sfar_l (l : List ByteArray) (hl : l.length ≤ maxLen) (d : Nat) : ∀ i : Nat, i + d = l.length →
    (Ev (fun k => law14_far_l1 l k (false, (i : Int), ())) (.exit 0, false, (l.length : Int), ()) ∧ ∀ j (h : j < l.length), i ≤ j → l[j].size ≤ 1100) ∨ ∃ i', Ev (fun k => law14_far_l1 l k (false, (i : Int), ())) (.ret, true, i', ()) := by
  unfold maxLen at hl
  induction d with
  | zero =>
    intro i hi
    obtain rfl : i = l.length := by omega
    exact .inl ⟨Ev.step (Ev.df (by show ¬ (l.length : Int) < l.length; omega) (Ev.now _)), fun j h h' => by omega⟩
  | succ d ih =>
    intro i hi
    have c0 : (i : Int) < (l.length : Int) := by omega
    have c1 : (0 : Int) ≤ (i : Int) := by omega
    have hg : l.getD (Int.toNat (i : Int)) Ty.str.zero = l[i] := getD_z l i (by omega)
    have w := wrap_succ (i := i) (by omega)
    have ih := ih (i + 1) (by omega)
    have e1 : ((l.getD (Int.toNat (i : Int)) Ty.str.zero).size : Int) = (l[i].size : Int) := by rw [hg]
    have on : l[i].size ≤ 1100 → (∀ {R}, Ev (fun k => law14_far_l1 l k (false, (((i + 1 : Nat)) : Int), ())) R → Ev (fun k => law14_far_l1 l k (false, (i : Int), ())) R) →
        ((Ev (fun k => law14_far_l1 l k (false, (i : Int), ())) (.exit 0, false, (l.length : Int), ()) ∧ ∀ j (h : j < l.length), i ≤ j → l[j].size ≤ 1100) ∨ ∃ i', Ev (fun k => law14_far_l1 l k (false, (i : Int), ())) (.ret, true, i', ())) := by
      intro hle h
      rcases ih with ⟨k1, k2⟩ | ⟨i', k⟩
      · refine .inl ⟨h k1, fun j hj hij => ?_⟩
        by_cases e : j = i
        · subst e; exact hle
        · exact k2 j hj (by omega)
      · exact .inr ⟨i', h k⟩
    by_cases h1 : ((l.getD (Int.toNat (i : Int)) Ty.str.zero).size : Int) > 100
    · by_cases h2 : ((l.getD (Int.toNat (i : Int)) Ty.str.zero).size : Int) ≤ 1000
      · exact .inr ⟨_, Ev.step (Ev.dt c0 (Ev.dt c1 (Ev.dt c0 (Ev.dt h1 (Ev.dt c1 (Ev.dt c0 (Ev.dt h2 (Ev.now _))))))))⟩
      · by_cases h3 : ((l.getD (Int.toNat (i : Int)) Ty.str.zero).size : Int) > 1100
        · exact .inr ⟨_, Ev.step (Ev.dt c0 (Ev.dt c1 (Ev.dt c0 (Ev.dt h1 (Ev.dt c1 (Ev.dt c0 (Ev.df h2 (Ev.dt c1 (Ev.dt c0 (Ev.dt h3 (Ev.now _)))))))))))⟩
        · refine on (by omega) (fun {R} h => ?_)
          rw [← w] at h
          exact Ev.step (Ev.dt c0 (Ev.dt c1 (Ev.dt c0 (Ev.dt h1 (Ev.dt c1 (Ev.dt c0 (Ev.df h2 (Ev.dt c1 (Ev.dt c0 (Ev.df h3 h))))))))))
    · have h3 : ¬ ((l.getD (Int.toNat (i : Int)) Ty.str.zero).size : Int) > 1100 := by omega
      refine on (by omega) (fun {R} h => ?_)
      rw [← w] at h
      exact Ev.step (Ev.dt c0 (Ev.dt c1 (Ev.dt c0 (Ev.df h1 (Ev.dt c1 (Ev.dt c0 (Ev.df h3 h)))))))
theorem sbig_l (z n : Int) (fs : List FT) (hl : fs.length ≤ maxLen) (hs : (fs.length : Int) ≤ 25) (d : Nat) : ∀ i : Nat, i + d = fs.length →
    (Ev (fun k => ref14_Big_l1 (SG z n fs) k (false, (i : Int), ())) (.exit 0, false, (fs.length : Int), ()) ∧ ∀ j (h : j < fs.length), i ≤ j → fs[j].2.1.size ≤ 600 ∧ fs[j].2.2.1.size ≤ 600) ∨ ∃ i', Ev (fun k => ref14_Big_l1 (SG z n fs) k (false, (i : Int), ())) (.ret, true, i', ()) := by
  unfold maxLen at hl
  induction d with
  | zero =>
    intro i hi
    obtain rfl : i = fs.length := by omega
    exact .inl ⟨Ev.step (Ev.df (by show ¬ (fs.length : Int) < fs.length; omega) (Ev.now _)), fun j h h' => by omega⟩
  | succ d ih =>
    intro i hi
    have c0 : (i : Int) < (fs.length : Int) := by omega
    have c1 : (0 : Int) ≤ (i : Int) := by omega
    have hg : fs.getD (Int.toNat (i : Int)) Zf = fs[i] := getD_f fs i (by omega) _
    have w := wrap_succ (i := i) (by omega)
    have ih := ih (i + 1) (by omega)
    rw [← w] at ih
    have e1 : (((fs.getD (Int.toNat (i : Int)) Zf).2.1.size : Nat) : Int) = (fs[i].2.1.size : Int) := by rw [hg]
    have e2 : (((fs.getD (Int.toNat (i : Int)) Zf).2.2.1.size : Nat) : Int) = (fs[i].2.2.1.size : Int) := by rw [hg]
    by_cases h1 : (((fs.getD (Int.toNat (i : Int)) Zf).2.1.size : Nat) : Int) > 600
    · exact .inr ⟨_, Ev.step (Ev.dt c0 (Ev.dt hs (Ev.dt c1 (Ev.dt c0 (Ev.dt h1 (Ev.now _))))))⟩
    · by_cases h2 : (((fs.getD (Int.toNat (i : Int)) Zf).2.2.1.size : Nat) : Int) > 600
      · exact .inr ⟨_, Ev.step (Ev.dt c0 (Ev.dt hs (Ev.dt c1 (Ev.dt c0 (Ev.df h1 (Ev.dt c1 (Ev.dt c0 (Ev.dt h2 (Ev.now _)))))))))⟩
      · rcases ih with ⟨k1, k2⟩ | ⟨i', k⟩
        · refine .inl ⟨Ev.step (Ev.dt c0 (Ev.dt hs (Ev.dt c1 (Ev.dt c0 (Ev.df h1 (Ev.dt c1 (Ev.dt c0 (Ev.df h2 k1)))))))), fun j hj hij => ?_⟩
          by_cases e : j = i
          · subst e; omega
          · exact k2 j hj (by omega)
        · exact .inr ⟨i', Ev.step (Ev.dt c0 (Ev.dt hs (Ev.dt c1 (Ev.dt c0 (Ev.df h1 (Ev.dt c1 (Ev.dt c0 (Ev.df h2 k))))))))⟩
theorem sfar_ok (z n : Int) (fs : List FT) (l : List ByteArray) (hf : fs.length ≤ maxLen) (hl : l.length ≤ maxLen) : ∃ x, Ev (fun k => law14_far k (SG z n fs) l) (x, ()) ∧ (x = false → fs.length ≤ 25 ∧ (∀ f ∈ fs, bdF f) ∧ l.length ≤ 25 ∧ ∀ y ∈ l, y.size ≤ 1100) := by
  rcases sfar_l l hl l.length 0 (by omega) with ⟨k1, k2⟩ | ⟨i', k⟩
  · have big : ∃ b, Ev (fun k => ref14_Big k (SG z n fs)) (b, ()) ∧ (b = false → fs.length ≤ 25 ∧ ∀ f ∈ fs, bdF f) := by
      by_cases hs : (fs.length : Int) ≤ 25
      · rcases sbig_l z n fs hf hs fs.length 0 (by omega) with ⟨g1, g2⟩ | ⟨i', g⟩
        · refine ⟨decide ((fs.length : Int) > 25), Ev.bind g1 (Ev.t rfl (Ev.now _)), fun _ => ⟨by omega, fun f hf => ?_⟩⟩
          obtain ⟨j, hj, rfl⟩ := List.getElem_of_mem hf
          have := g2 j hj (Nat.zero_le _)
          exact ⟨by omega, by omega⟩
        · exact ⟨true, Ev.bind g (Ev.now _), fun h => by cases h⟩
      · refine ⟨true, ?_, fun h => by cases h⟩
        have c0 : ((0 : Nat) : Int) < (fs.length : Int) := by omega
        have g : Ev (fun k => ref14_Big_l1 (SG z n fs) k (false, 0, ())) (.exit 0, false, 0, ()) := Ev.step (Ev.dt c0 (Ev.df hs (Ev.now _)))
        have e : (decide ((fs.length : Int) > 25), ()) = (true, ()) := by rw [decide_eq_true (by omega)]
        rw [← e]
        exact Ev.bind g (Ev.t rfl (Ev.now _))
    obtain ⟨b, hb, hb2⟩ := big
    cases b with
    | true => exact ⟨true, Ev.bind k1 (Ev.t rfl (Ev.bind hb (Ev.t rfl (Ev.now _)))), fun h => by cases h⟩
    | false =>
      refine ⟨decide ((l.length : Int) > 25), Ev.bind k1 (Ev.t rfl (Ev.bind hb (Ev.f rfl (Ev.now _)))), fun h => ?_⟩
      have h := of_decide_eq_false h
      refine ⟨(hb2 rfl).1, (hb2 rfl).2, by omega, fun y hy => ?_⟩
      obtain ⟨j, hj, rfl⟩ := List.getElem_of_mem hy
      exact k2 j hj (Nat.zero_le _)
  · exact ⟨true, Ev.bind k (Ev.now _), fun h => by cases h⟩
theorem Same_l (z n : Int) (fs : List FT) (hl : fs.length ≤ 1000000) (d : Nat) : ∀ i : Nat, i + d = fs.length → Ev (fun k => ref14_Same_l1 (SG z n fs) (SG z n fs) k (false, (i : Int), ())) (.exit 0, false, (fs.length : Int), ()) := by
  induction d with
  | zero =>
    intro i hi
    obtain rfl : i = fs.length := by omega
    exact Ev.step (Ev.df (by show ¬ (fs.length : Int) < fs.length; omega) (Ev.now _))
  | succ d ih =>
    intro i hi
    have c0 : (i : Int) < (fs.length : Int) := by omega
    have c1 : (0 : Int) ≤ (i : Int) := by omega
    have ih := ih (i + 1) (by omega)
    rw [← wrap_succ (by omega)] at ih
    exact Ev.step (Ev.dt c0 (Ev.dt c1 (Ev.dt c0 (Ev.dt c1 (Ev.dt c0 (Ev.f (by simp) ih))))))
theorem Same_ok (z n : Int) (fs : List FT) (hl : fs.length ≤ 1000000) : Ev (fun k => ref14_Same k (SG z n fs) (SG z n fs)) (true, ()) :=
  Ev.f (nbeq_i rfl) (Ev.f (nbeq_i rfl) (Ev.f (nbeq_i rfl) (Ev.bind (Same_l z n fs hl fs.length 0 (by omega)) (Ev.t rfl (Ev.now _)))))
theorem SNew_cases (z n : Int) : (okL z n [] EB EB ∧ Ev (fun k => segment_New k z n) (SL z n [] EB EB, 0, ())) ∨ Ev (fun k => segment_New k z n) (RB, 1, ()) := by
  have hE := EB_size
  rcases Is_cases z n [F z EB EB] (by simp) (by intro f hf; simp at hf; subst hf; exact ⟨by show EB.size ≤ 4000; omega, by show EB.size ≤ 4000; omega⟩) with ⟨pre, s, t, h1, h2, h3⟩ | h
  · have h1 : files z [] EB EB = files z pre s t := h1
    obtain ⟨rfl, rfl, rfl⟩ := files_inj h1
    exact .inl ⟨h2, Ev.bind h3 (Ev.f rfl (Ev.now _))⟩
  · exact .inr (Ev.bind h (Ev.t rfl (Ev.now _)))
theorem Is_bad : Ev (fun k => segment_Is k RB) (false, ()) := Ev.dt (by show (0 : Int) < 20; decide) (Ev.now _)
theorem Add_bad (l : List ByteArray) : Ev (fun k => segment_Add k RB l) (RB, 1, ()) := Ev.bind Is_bad (Ev.t rfl (Ev.now _))
abbrev Txt := List UInt8
structure Str (n : Int) (pre : List ByteArray) (s u : ByteArray) (ps : List (List Txt)) (B0 B1 : List Txt) : Prop where
  p : pre.map (fun x => x.data.toList) = filesB n ps
  o : partsOk n ps
  s : s = mkB (recsB (n + ps.flatten.length) B0)
  os : recsOk (n + ps.flatten.length) B0
  u : u = mkB (recsB (n + ps.flatten.length + B0.length) B1)
  ou : recsOk (n + ps.flatten.length + B0.length) B1
theorem contF_pre (z : Int) (x : ByteArray) : contF (F z x EB) = x.data.toList := by unfold contF; rw [show (F z x EB).2.1 ++ (F z x EB).2.2.1 = x from app_E x]
theorem files_cont (z : Int) (pre : List ByteArray) (s u : ByteArray) : (files z pre s u).map contF = pre.map (fun x => x.data.toList) ++ [(s ++ u).data.toList] := by
  unfold files
  rw [List.map_append, List.map_map]
  congr 1
  apply List.map_congr_left
  intro x _
  exact contF_pre z x
theorem Str.cont {n : Int} {pre : List ByteArray} {s u : ByteArray} {ps : List (List Txt)} {B0 B1 : List Txt} (h : Str n pre s u ps B0 B1) (z : Int) : (files z pre s u).map contF = filesB n (ps ++ [B0 ++ B1]) ∧ partsOk n (ps ++ [B0 ++ B1]) := by
  have e : (s ++ u).data.toList = recsB (n + ps.flatten.length) (B0 ++ B1) := by
    rw [h.s, h.u, two_app, ← recsB_app]
  refine ⟨?_, (partsOk_app n ps _).2 ⟨h.o, (recsOk_app _ B0 B1).2 ⟨h.os, h.ou⟩, trivial⟩⟩
  rw [files_cont, h.p, e, filesB_app]; rfl
theorem flat_last (ps : List (List Txt)) (B : List Txt) : (ps ++ [B]).flatten = ps.flatten ++ B := by simp
theorem Str.scan {z n : Int} {pre : List ByteArray} {s u : ByteArray} {ps : List (List Txt)} {B0 B1 : List Txt} (h : Str n pre s u ps B0 B1) (hok : okL z n pre s u) : ∃ x y, Ev (fun k => segment_scan k (SL z n pre s u)) (((ps.flatten ++ (B0 ++ B1)).map mkB, x, y, true, ()), ()) := by
  obtain ⟨h1, h2⟩ := h.cont z
  rw [← flat_last]
  exact scan_good z n _ hok.len hok.bd hok.n0 hok.n1 h1 h2
theorem Str.new (n : Int) : Str n [] EB EB [] [] [] := ⟨rfl, trivial, rfl, trivial, rfl, trivial⟩
theorem Str.step {z n : Int} {pre : List ByteArray} {s u : ByteArray} {ps : List (List Txt)} {B0 B1 : List Txt} {t : Txt} (h : Str n pre s u ps B0 B1) (hok : okL z n pre s u) (hn : n + (ps.flatten ++ (B0 ++ B1)).length ≤ 1000000000) (hs : (stepA z (n + (ps.flatten ++ (B0 ++ B1)).length) t pre s u).1 = 0) :
    ∃ ps' B0' B1', okL z n (stepA z (n + (ps.flatten ++ (B0 ++ B1)).length) t pre s u).2.1 (stepA z (n + (ps.flatten ++ (B0 ++ B1)).length) t pre s u).2.2.1 (stepA z (n + (ps.flatten ++ (B0 ++ B1)).length) t pre s u).2.2.2 ∧
      Str n (stepA z (n + (ps.flatten ++ (B0 ++ B1)).length) t pre s u).2.1 (stepA z (n + (ps.flatten ++ (B0 ++ B1)).length) t pre s u).2.2.1 (stepA z (n + (ps.flatten ++ (B0 ++ B1)).length) t pre s u).2.2.2 ps' B0' B1' ∧
      ps'.flatten ++ (B0' ++ B1') = (ps.flatten ++ (B0 ++ B1)) ++ [t] ∧ ps.flatten.length + B0.length ≤ ps'.flatten.length + B0'.length := by
  obtain ⟨k1, k2⟩ := stepA_ok hok hs
  have hn0 := hok.n0
  have eN : n + ((ps.flatten ++ (B0 ++ B1)).length : Int) = n + ps.flatten.length + B0.length + B1.length := by simp only [List.length_append]; omega
  obtain ⟨N, hN⟩ : ∃ N : Int, n + ((ps.flatten ++ (B0 ++ B1)).length : Int) = N := ⟨_, rfl⟩
  rw [hN] at hs k1 hn eN ⊢
  have hrec : recOk N t := ⟨by omega, hn, k2⟩
  have hE := EB_size
  unfold stepA at hs k1 ⊢
  split at hs
  · cases hs
  · rename_i h1
    split at hs
    · cases hs
    · rename_i h2
      rw [if_neg h1, if_neg h2] at k1 ⊢
      split at hs
      · rename_i h3
        rw [if_pos h3] at k1 ⊢
        refine ⟨ps, B0, B1 ++ [t], k1, ⟨h.p, h.o, h.s, h.os, ?_, ?_⟩, by simp only [List.append_assoc], Nat.le_refl _⟩
        · show u ++ mkB (recB N t) = _
          rw [recsB_app, ← mkB_append, ← h.u, ← eN]
          show _ = u ++ mkB (recB N t ++ [])
          rw [List.append_nil]
        · rw [recsOk_app, ← eN]; exact ⟨h.ou, hrec, trivial⟩
      · rename_i h3
        rw [if_neg h3] at k1 ⊢
        split at hs
        · cases hs
        · rename_i h4
          rw [if_neg h4] at k1 ⊢
          have e2 : n + (((ps ++ [B0 ++ B1]).flatten.length : Nat) : Int) = N := by rw [flat_last, eN]; simp only [List.length_append]; omega
          have c := h.cont z
          rw [files_cont] at c
          refine ⟨ps ++ [B0 ++ B1], [], [t], k1, ⟨?_, c.2, ?_, trivial, ?_, ?_⟩, by rw [flat_last]; simp, ?_⟩
          · show (pre ++ [s ++ u]).map _ = _
            rw [List.map_append, ← c.1]; rfl
          · show EB = _; rfl
          · show mkB (recB N t) = _
            rw [e2]
            have : N + ((([] : List Txt).length : Nat) : Int) = N := by simp
            rw [this]
            show _ = mkB (recB N t ++ [])
            rw [List.append_nil]
          · rw [e2]
            have : N + ((([] : List Txt).length : Nat) : Int) = N := by simp
            rw [this]; exact ⟨hrec, trivial⟩
          · rw [flat_last]; simp only [List.length_append, List.length_nil]; omega
theorem Str.run {z n : Int} : ∀ (L : List Txt) (σ : Lg) (ps : List (List Txt)) (B0 B1 : List Txt), okL z n σ.1 σ.2.1 σ.2.2 → Str n σ.1 σ.2.1 σ.2.2 ps B0 B1 → n + (ps.flatten ++ (B0 ++ B1)).length + L.length ≤ 1000000000 → (runA z (n + (ps.flatten ++ (B0 ++ B1)).length) L σ).1 = 0 →
    ∃ ps' B0' B1', okL z n (runA z (n + (ps.flatten ++ (B0 ++ B1)).length) L σ).2.1 (runA z (n + (ps.flatten ++ (B0 ++ B1)).length) L σ).2.2.1 (runA z (n + (ps.flatten ++ (B0 ++ B1)).length) L σ).2.2.2 ∧
      Str n (runA z (n + (ps.flatten ++ (B0 ++ B1)).length) L σ).2.1 (runA z (n + (ps.flatten ++ (B0 ++ B1)).length) L σ).2.2.1 (runA z (n + (ps.flatten ++ (B0 ++ B1)).length) L σ).2.2.2 ps' B0' B1' ∧
      ps'.flatten ++ (B0' ++ B1') = (ps.flatten ++ (B0 ++ B1)) ++ L ∧ ps.flatten.length + B0.length ≤ ps'.flatten.length + B0'.length
  | [], σ, ps, B0, B1, hok, hS, hn, hs => ⟨ps, B0, B1, hok, hS, by simp, Nat.le_refl _⟩
  | t :: L, σ, ps, B0, B1, hok, hS, hn, hs => by
    rw [List.length_cons] at hn
    rw [runA] at hs ⊢
    by_cases h : (stepA z (n + (ps.flatten ++ (B0 ++ B1)).length) t σ.1 σ.2.1 σ.2.2).1 = 0
    · rw [if_pos h] at hs ⊢
      obtain ⟨ps1, C0, C1, k1, k2, k3, k4⟩ := hS.step hok (by omega) h
      have e : n + ((ps.flatten ++ (B0 ++ B1)).length : Int) + 1 = n + ((ps1.flatten ++ (C0 ++ C1)).length : Int) := by rw [k3, List.length_append]; simp; omega
      rw [e] at hs ⊢
      obtain ⟨ps', B0', B1', g1, g2, g3, g4⟩ := Str.run L _ ps1 C0 C1 k1 k2 (by omega) hs
      exact ⟨ps', B0', B1', g1, g2, by rw [g3, k3]; simp, by omega⟩
    · rw [if_neg h] at hs
      exact absurd hs h
end Go.Proofs.Ytoeikeabbdnkbaa.A
