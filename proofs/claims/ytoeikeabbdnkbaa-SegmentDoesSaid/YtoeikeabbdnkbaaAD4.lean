/- Logs in files: the document's rows, and what is let go. -/
import Derived.Test.YtoeikeabbdnkbaaAD3
import Derived.Test.YtoeikeabbdnkbaaFnSD
import Derived.KernelRfl
namespace Go.Proofs.Ytoeikeabbdnkbaa.A
open Go Go.Proofs.Ytoeikeabbdnkbaa.Ab
set_option linter.unusedVariables false
set_option linter.unusedSimpArgs false

set_option maxRecDepth 100000 in
theorem parted_all (q : Nat) : law14_parted (q + 60) = some (true, ()) := by kernel_rfl
theorem parted_ok : Ev (fun k => law14_parted k) (true, ()) := ⟨60, fun k hk => by
  obtain ⟨q, rfl⟩ : ∃ q, k = q + 60 := ⟨k - 60, by omega⟩
  exact parted_all q⟩
theorem sfar_l (l : List ByteArray) (hl : l.length ≤ maxLen) (d : Nat) : ∀ i : Nat, i + d = l.length →
    (Ev (fun k => law14_far_l1 l k (false, (i : Int), ())) (.exit 0, false, (l.length : Int), ()) ∧ ∀ j (h : j < l.length), i ≤ j → l[j].size ≤ 1100) ∨ ∃ i', Ev (fun k => law14_far_l1 l k (false, (i : Int), ())) (.ret, true, i', ()) := by
  unfold maxLen at hl
  induction d with
  | zero =>
    intro i hi
    obtain rfl : i = l.length := by omega
    exact .inl ⟨Ev.step (Ev.df (by show ¬ (l.length : Int) < l.length; omega) (Ev.now _)), fun j h h' => by omega⟩
  | succ d ih =>
    intro i hi
    have c0 : (i : Int) < (l.length : Int) := by omega
    have c1 : (0 : Int) ≤ (i : Int) := by omega
    have hg : l.getD (Int.toNat (i : Int)) Ty.str.zero = l[i] := getD_z l i (by omega)
    have w := wrap_succ (i := i) (by omega)
    have ih := ih (i + 1) (by omega)
    have e1 : ((l.getD (Int.toNat (i : Int)) Ty.str.zero).size : Int) = (l[i].size : Int) := by rw [hg]
    have on : l[i].size ≤ 1100 → (∀ {R}, Ev (fun k => law14_far_l1 l k (false, (((i + 1 : Nat)) : Int), ())) R → Ev (fun k => law14_far_l1 l k (false, (i : Int), ())) R) →
        ((Ev (fun k => law14_far_l1 l k (false, (i : Int), ())) (.exit 0, false, (l.length : Int), ()) ∧ ∀ j (h : j < l.length), i ≤ j → l[j].size ≤ 1100) ∨ ∃ i', Ev (fun k => law14_far_l1 l k (false, (i : Int), ())) (.ret, true, i', ())) := by
      intro hle h
      rcases ih with ⟨k1, k2⟩ | ⟨i', k⟩
      · refine .inl ⟨h k1, fun j hj hij => ?_⟩
        by_cases e : j = i
        · subst e; exact hle
        · exact k2 j hj (by omega)
      · exact .inr ⟨i', h k⟩
    by_cases h1 : ((l.getD (Int.toNat (i : Int)) Ty.str.zero).size : Int) > 100
    · by_cases h2 : ((l.getD (Int.toNat (i : Int)) Ty.str.zero).size : Int) ≤ 1000
      · exact .inr ⟨_, Ev.step (Ev.dt c0 (Ev.dt c1 (Ev.dt c0 (Ev.dt h1 (Ev.dt c1 (Ev.dt c0 (Ev.dt h2 (Ev.now _))))))))⟩
      · by_cases h3 : ((l.getD (Int.toNat (i : Int)) Ty.str.zero).size : Int) > 1100
        · exact .inr ⟨_, Ev.step (Ev.dt c0 (Ev.dt c1 (Ev.dt c0 (Ev.dt h1 (Ev.dt c1 (Ev.dt c0 (Ev.df h2 (Ev.dt c1 (Ev.dt c0 (Ev.dt h3 (Ev.now _)))))))))))⟩
        · refine on (by omega) (fun {R} h => ?_)
          rw [← w] at h
          exact Ev.step (Ev.dt c0 (Ev.dt c1 (Ev.dt c0 (Ev.dt h1 (Ev.dt c1 (Ev.dt c0 (Ev.df h2 (Ev.dt c1 (Ev.dt c0 (Ev.df h3 h))))))))))
    · have h3 : ¬ ((l.getD (Int.toNat (i : Int)) Ty.str.zero).size : Int) > 1100 := by omega
      refine on (by omega) (fun {R} h => ?_)
      rw [← w] at h
      exact Ev.step (Ev.dt c0 (Ev.dt c1 (Ev.dt c0 (Ev.df h1 (Ev.dt c1 (Ev.dt c0 (Ev.df h3 h)))))))
theorem sfar_ok (z n : Int) (fs : List FT) (l : List ByteArray) (hf : fs.length ≤ maxLen) (hl : l.length ≤ maxLen) : ∃ x, Ev (fun k => law14_far k (SG z n fs) l) (x, ()) ∧ (x = false → fs.length ≤ 25 ∧ (∀ f ∈ fs, bdF f) ∧ l.length ≤ 25 ∧ ∀ y ∈ l, y.size ≤ 1100) := by
  rcases sfar_l l hl l.length 0 (by omega) with ⟨k1, k2⟩ | ⟨i', k⟩
  · have big : ∃ b, Ev (fun k => ref14_Big k (SG z n fs)) (b, ()) ∧ (b = false → fs.length ≤ 25 ∧ ∀ f ∈ fs, bdF f) := by
      by_cases hs : (fs.length : Int) ≤ 25
      · rcases sbig_l z n fs hf hs fs.length 0 (by omega) with ⟨g1, g2⟩ | ⟨i', g⟩
        · refine ⟨decide ((fs.length : Int) > 25), Ev.bind g1 (Ev.t rfl (Ev.now _)), fun _ => ⟨by omega, fun f hf => ?_⟩⟩
          obtain ⟨j, hj, rfl⟩ := List.getElem_of_mem hf
          have := g2 j hj (Nat.zero_le _)
          exact ⟨by omega, by omega⟩
        · exact ⟨true, Ev.bind g (Ev.now _), fun h => by cases h⟩
      · refine ⟨true, ?_, fun h => by cases h⟩
        have c0 : ((0 : Nat) : Int) < (fs.length : Int) := by omega
        have g : Ev (fun k => ref14_Big_l1 (SG z n fs) k (false, 0, ())) (.exit 0, false, 0, ()) := Ev.step (Ev.dt c0 (Ev.df hs (Ev.now _)))
        have e : (decide ((fs.length : Int) > 25), ()) = (true, ()) := by rw [decide_eq_true (by omega)]
        rw [← e]
        exact Ev.bind g (Ev.t rfl (Ev.now _))
    obtain ⟨b, hb, hb2⟩ := big
    cases b with
    | true => exact ⟨true, Ev.bind k1 (Ev.t rfl (Ev.bind hb (Ev.t rfl (Ev.now _)))), fun h => by cases h⟩
    | false =>
      refine ⟨decide ((l.length : Int) > 25), Ev.bind k1 (Ev.t rfl (Ev.bind hb (Ev.f rfl (Ev.now _)))), fun h => ?_⟩
      have h := of_decide_eq_false h
      refine ⟨(hb2 rfl).1, (hb2 rfl).2, by omega, fun y hy => ?_⟩
      obtain ⟨j, hj, rfl⟩ := List.getElem_of_mem hy
      exact k2 j hj (Nat.zero_le _)
  · exact ⟨true, Ev.bind k (Ev.now _), fun h => by cases h⟩
end Go.Proofs.Ytoeikeabbdnkbaa.A
/- Logs in files: the document's functions. -/
namespace Go.Proofs.Ytoeikeabbdnkbaa.A
open Go Go.Proofs.Ytoeikeabbdnkbaa.Ab
set_option linter.unusedVariables false
set_option linter.unusedSimpArgs false

theorem rfileIs_ev {f : FT} (h : bdF f) : Ev (fun k => ref12_Is k (f.1, f.2.1, f.2.2.1, ())) (okF f.1 f.2.1 f.2.2.1, ()) := Ev.all fun k => rIs_ok k f.1 f.2.1 f.2.2.1 (by have := h.1; omega) (by have := h.2; omega)
theorem rfileRead_ev {f : FT} (h : bdF f) : Ev (fun k => ref12_Read k (f.1, f.2.1, f.2.2.1, ())) (f.2.1 ++ f.2.2.1, ()) := Ev.all fun k => rread_ok k f.1 f.2.1 f.2.2.1 (by have := h.1; omega) (by have := h.2; omega)
section
variable (z n : Int) (fs : List FT) (hl : fs.length ≤ 1000) (hb : ∀ f ∈ fs, bdF f)
include hl hb
theorem rIs_l : ∀ (q p : List FT), fs = p ++ q → q ≠ [] →
    ((∃ pre s t, q = files z pre s t ∧ (∀ x ∈ pre, okF z x EB = true) ∧ okF z s t = true) ∧ Ev (fun k => ref14_Is_l1 (SG z n fs) k (false, (p.length : Int), ())) (.exit 0, false, (fs.length : Int), ())) ∨
    (∃ i', Ev (fun k => ref14_Is_l1 (SG z n fs) k (false, (p.length : Int), ())) (.ret, false, i', ())) := by
  intro q
  induction q with
  | nil => intro p _ h; exact absurd rfl h
  | cons f q ih =>
    intro p hp _
    have hlen : fs.length = p.length + (q.length + 1) := by rw [hp]; simp
    have c0 : (p.length : Int) < (fs.length : Int) := by omega
    have c1 : (0 : Int) ≤ (p.length : Int) := by omega
    have hg : fs.getD (Int.toNat (p.length : Int)) Zf = f := by rw [hp, getD_m]
    have hi : Ev (fun k => ref12_Is k ((fs.getD (Int.toNat (p.length : Int)) Zf).1, (fs.getD (Int.toNat (p.length : Int)) Zf).2.1, (fs.getD (Int.toNat (p.length : Int)) Zf).2.2.1, ())) (okF f.1 f.2.1 f.2.2.1, ()) := by
      rw [hg]; exact rfileIs_ev (hb f (by rw [hp]; simp))
    have hw : IntKind.i64.wrap ((fs.length : Int) - 1) = fs.length - 1 := wrap_id (by omega) (by omega)
    have hw2 := wrap_succ (i := p.length) (by omega)
    cases g : okF f.1 f.2.1 f.2.2.1 with
    | false =>
      rw [g] at hi
      exact .inr ⟨_, Ev.step (Ev.dt c0 (Ev.dt c1 (Ev.dt c0 (Ev.bind hi (Ev.t rfl (Ev.now _))))))⟩
    | true =>
      rw [g] at hi
      by_cases hz : f.1 = z
      · have e1 : ((fs.getD (Int.toNat (p.length : Int)) Zf).1 != z) = false := by rw [hg]; exact nbeq_i hz
        obtain ⟨m, s, t, ⟨⟩⟩ := f
        have hz : m = z := hz
        subst hz
        have g : okF m s t = true := g
        cases q with
        | nil =>
          left
          refine ⟨⟨[], s, t, rfl, by simp, g⟩, ?_⟩
          have c2 : ¬ IntKind.i64.wrap ((p.length : Int) + 1) < (fs.length : Int) := by rw [hw2]; simp at hlen; omega
          have hend : Ev (fun k => ref14_Is_l1 (SG m n fs) k (false, IntKind.i64.wrap ((p.length : Int) + 1), ())) (.exit 0, false, (fs.length : Int), ()) := by
            rw [hw2, show p.length + 1 = fs.length by simp at hlen; omega]
            exact Ev.step (Ev.df (by show ¬ (fs.length : Int) < fs.length; omega) (Ev.now _))
          exact Ev.step (Ev.dt c0 (Ev.dt c1 (Ev.dt c0 (Ev.bind hi (Ev.f rfl (Ev.f e1 (Ev.df c2 hend)))))))
        | cons f2 q =>
          have c2 : IntKind.i64.wrap ((p.length : Int) + 1) < (fs.length : Int) := by rw [hw2]; simp at hlen; omega
          cases g2 : (t.toList == EB.toList) with
          | false =>
            right
            have e2 : (!(fs.getD (Int.toNat (p.length : Int)) Zf).2.2.1.toList == EB.toList) = true := by rw [hg]; show (!(t.toList == EB.toList)) = true; rw [g2]; rfl
            exact ⟨_, Ev.step (Ev.dt c0 (Ev.dt c1 (Ev.dt c0 (Ev.bind hi (Ev.f rfl (Ev.f e1 (Ev.dt c2 (Ev.t e2 (Ev.now _)))))))))⟩
          | true =>
            have e2 : (!(fs.getD (Int.toNat (p.length : Int)) Zf).2.2.1.toList == EB.toList) = false := by rw [hg]; show (!(t.toList == EB.toList)) = false; rw [g2]; rfl
            obtain rfl := isE g2
            have on : ∀ {R}, Ev (fun k => ref14_Is_l1 (SG m n fs) k (false, (((p ++ [F m s EB]).length : Nat) : Int), ())) R → Ev (fun k => ref14_Is_l1 (SG m n fs) k (false, (p.length : Int), ())) R := by
              intro R h
              rw [show (((p ++ [F m s EB]).length : Nat) : Int) = IntKind.i64.wrap ((p.length : Int) + 1) by rw [hw2]; simp] at h
              exact Ev.step (Ev.dt c0 (Ev.dt c1 (Ev.dt c0 (Ev.bind hi (Ev.f rfl (Ev.f e1 (Ev.dt c2 (Ev.f e2 h))))))))
            rcases ih (p ++ [F m s EB]) (by rw [hp]; simp) (by simp) with ⟨⟨pre, s2, t2, h1, h2, h3⟩, h4⟩ | ⟨i', h4⟩
            · refine .inl ⟨⟨s :: pre, s2, t2, by rw [files_cons, ← h1], fun x hx => ?_, h3⟩, on h4⟩
              rcases List.mem_cons.1 hx with rfl | hx
              · exact g
              · exact h2 x hx
            · exact .inr ⟨i', on h4⟩
      · have e1 : ((fs.getD (Int.toNat (p.length : Int)) Zf).1 != z) = true := by rw [hg]; exact nbne_i hz
        exact .inr ⟨_, Ev.step (Ev.dt c0 (Ev.dt c1 (Ev.dt c0 (Ev.bind hi (Ev.f rfl (Ev.t e1 (Ev.now _)))))))⟩
theorem rIs_cases : (∃ pre s t, fs = files z pre s t ∧ okL z n pre s t ∧ Ev (fun k => ref14_Is k (SG z n fs)) (true, ())) ∨ Ev (fun k => ref14_Is k (SG z n fs)) (false, ()) := by
  by_cases a1 : z < 20
  · exact .inr (Ev.dt a1 (Ev.now _))
  by_cases a2 : z > 4000
  · exact .inr (Ev.df a1 (Ev.dt a2 (Ev.now _)))
  by_cases a3 : n < 0
  · exact .inr (Ev.df a1 (Ev.df a2 (Ev.dt a3 (Ev.now _))))
  by_cases a4 : n > 900000000
  · exact .inr (Ev.df a1 (Ev.df a2 (Ev.df a3 (Ev.dt a4 (Ev.now _)))))
  by_cases a5 : (fs.length : Int) < 1
  · exact .inr (Ev.df a1 (Ev.df a2 (Ev.df a3 (Ev.df a4 (Ev.dt a5 (Ev.now _))))))
  by_cases a6 : (fs.length : Int) > 20
  · exact .inr (Ev.df a1 (Ev.df a2 (Ev.df a3 (Ev.df a4 (Ev.df a5 (Ev.dt a6 (Ev.now _)))))))
  rcases rIs_l z n fs hl hb fs [] rfl (by intro e; rw [e] at a5; simp at a5) with ⟨⟨pre, s, t, h1, h2, h3⟩, h4⟩ | ⟨i', h4⟩
  · left
    have hlen := files_len z pre s t
    rw [← h1] at hlen
    refine ⟨pre, s, t, h1, ⟨by omega, by omega, by omega, by omega, by omega, fun x hx => ?_, (okF_bd h3).2.2⟩, Ev.df a1 (Ev.df a2 (Ev.df a3 (Ev.df a4 (Ev.df a5 (Ev.df a6 (Ev.bind h4 (Ev.t rfl (Ev.now _))))))))⟩
    have := (okF_bd (h2 x hx)).2.2
    rw [EB_size] at this; omega
  · exact .inr (Ev.df a1 (Ev.df a2 (Ev.df a3 (Ev.df a4 (Ev.df a5 (Ev.df a6 (Ev.bind h4 (Ev.now _))))))))
end
theorem rIs_true {z n : Int} {pre : List ByteArray} {s t : ByteArray} (h : okL z n pre s t) : Ev (fun k => ref14_Is k (SL z n pre s t)) (true, ()) := by
  have hlen := files_len z pre s t
  have hl := h.l
  have h0 := h.z0
  have h1 := h.z1
  have h2 := h.n0
  have h3 := h.n1
  have key : ∀ (pre' p : List ByteArray), pre = p ++ pre' → Ev (fun k => ref14_Is_l1 (SL z n pre s t) k (false, (p.length : Int), ())) (.exit 0, false, ((files z pre s t).length : Int), ()) := by
    intro pre'
    induction pre' with
    | nil =>
      intro p hp
      rw [List.append_nil] at hp
      subst hp
      have c0 : (pre.length : Int) < ((files z pre s t).length : Int) := by omega
      have c1 : (0 : Int) ≤ (pre.length : Int) := by omega
      have hg : (files z pre s t).getD (Int.toNat (pre.length : Int)) Zf = F z s t := by
        have := getD_m (pre.map (fun x => F z x EB)) (F z s t) [] Zf
        rw [List.length_map] at this; exact this
      have hi : Ev (fun k => ref12_Is k (((files z pre s t).getD (Int.toNat (pre.length : Int)) Zf).1, ((files z pre s t).getD (Int.toNat (pre.length : Int)) Zf).2.1, ((files z pre s t).getD (Int.toNat (pre.length : Int)) Zf).2.2.1, ())) (true, ()) := by
        rw [hg]
        have := rfileIs_ev (f := F z s t) (h.bd _ (by simp [files]))
        rw [show okF (F z s t).1 (F z s t).2.1 (F z s t).2.2.1 = true from h.okF] at this
        exact this
      have e1 : (((files z pre s t).getD (Int.toNat (pre.length : Int)) Zf).1 != z) = false := by rw [hg]; exact nbeq_i rfl
      have hw : IntKind.i64.wrap (((files z pre s t).length : Int) - 1) = (files z pre s t).length - 1 := wrap_id (by omega) (by omega)
      have c2 : ¬ IntKind.i64.wrap ((pre.length : Int) + 1) < ((files z pre s t).length : Int) := by rw [wrap_succ (by omega)]; omega
      have hw2 := wrap_succ (i := pre.length) (by omega)
      have hend : Ev (fun k => ref14_Is_l1 (SL z n pre s t) k (false, IntKind.i64.wrap ((pre.length : Int) + 1), ())) (.exit 0, false, ((files z pre s t).length : Int), ()) := by
        rw [hw2, show pre.length + 1 = (files z pre s t).length by omega]
        exact Ev.step (Ev.df (by show ¬ ((files z pre s t).length : Int) < (files z pre s t).length; omega) (Ev.now _))
      exact Ev.step (Ev.dt c0 (Ev.dt c1 (Ev.dt c0 (Ev.bind hi (Ev.f rfl (Ev.f e1 (Ev.df c2 hend)))))))
    | cons x pre' ih =>
      intro p hp
      have hpl : pre.length = p.length + (pre'.length + 1) := by rw [hp]; simp
      have c0 : (p.length : Int) < ((files z pre s t).length : Int) := by omega
      have c1 : (0 : Int) ≤ (p.length : Int) := by omega
      have hg : (files z pre s t).getD (Int.toNat (p.length : Int)) Zf = F z x EB := by
        have := getD_m (p.map (fun x => F z x EB)) (F z x EB) (files z pre' s t) Zf
        rw [List.length_map] at this
        rw [← this, hp]
        simp [files]
      have hi : Ev (fun k => ref12_Is k (((files z pre s t).getD (Int.toNat (p.length : Int)) Zf).1, ((files z pre s t).getD (Int.toNat (p.length : Int)) Zf).2.1, ((files z pre s t).getD (Int.toNat (p.length : Int)) Zf).2.2.1, ())) (true, ()) := by
        rw [hg]
        have := rfileIs_ev (f := F z x EB) (h.bd _ (by simp [files, hp]))
        have hx := h.p x (by rw [hp]; simp)
        rw [show okF (F z x EB).1 (F z x EB).2.1 (F z x EB).2.2.1 = true from decide_eq_true ⟨by show 1 ≤ z; omega, h1, by show ((x.size + EB.size : Nat) : Int) ≤ z; rw [EB_size]; exact hx⟩] at this
        exact this
      have e1 : (((files z pre s t).getD (Int.toNat (p.length : Int)) Zf).1 != z) = false := by rw [hg]; exact nbeq_i rfl
      have hw : IntKind.i64.wrap (((files z pre s t).length : Int) - 1) = (files z pre s t).length - 1 := wrap_id (by omega) (by omega)
      have c2 : IntKind.i64.wrap ((p.length : Int) + 1) < ((files z pre s t).length : Int) := by rw [wrap_succ (by omega)]; omega
      have e2 : (!((files z pre s t).getD (Int.toNat (p.length : Int)) Zf).2.2.1.toList == EB.toList) = false := by rw [hg]; show (!(EB.toList == EB.toList)) = false; simp
      have hw2 := wrap_succ (i := p.length) (by omega)
      have h := ih (p ++ [x]) (by rw [hp]; simp)
      rw [show (((p ++ [x]).length : Nat) : Int) = IntKind.i64.wrap ((p.length : Int) + 1) by rw [hw2]; simp] at h
      exact Ev.step (Ev.dt c0 (Ev.dt c1 (Ev.dt c0 (Ev.bind hi (Ev.f rfl (Ev.f e1 (Ev.dt c2 (Ev.f e2 h))))))))
  have a1 : ¬ z < 20 := by omega
  have a2 : ¬ z > 4000 := by omega
  have a3 : ¬ n < 0 := by omega
  have a4 : ¬ n > 900000000 := by omega
  have a5 : ¬ ((files z pre s t).length : Int) < 1 := by omega
  have a6 : ¬ ((files z pre s t).length : Int) > 20 := by omega
  exact Ev.df a1 (Ev.df a2 (Ev.df a3 (Ev.df a4 (Ev.df a5 (Ev.df a6 (Ev.bind (key pre [] rfl) (Ev.t rfl (Ev.now _))))))))

/-- Both say the same of a log. -/
theorem Is_both (z n : Int) (fs : List FT) (hl : fs.length ≤ 1000) (hb : ∀ f ∈ fs, bdF f) : (∃ pre s t, fs = files z pre s t ∧ okL z n pre s t ∧ Ev (fun k => segment_Is k (SG z n fs)) (true, ()) ∧ Ev (fun k => ref14_Is k (SG z n fs)) (true, ())) ∨
    (Ev (fun k => segment_Is k (SG z n fs)) (false, ()) ∧ Ev (fun k => ref14_Is k (SG z n fs)) (false, ())) := by
  rcases Is_cases z n fs hl hb with ⟨pre, s, t, rfl, h, h1⟩ | h1
  · exact .inl ⟨pre, s, t, rfl, h, h1, rIs_true h⟩
  · rcases rIs_cases z n fs hl hb with ⟨pre, s, t, rfl, h, h2⟩ | h2
    · have := (Is_true h).one h1
      cases this
    · exact .inr ⟨h1, h2⟩
/-! ### What a scan tells -/
section
variable (z n : Int) (fs : List FT) (hl : fs.length ≤ 1000) (hb : ∀ f ∈ fs, bdF f) (h0 : 0 ≤ n) (h1 : n ≤ 900000000)
include hl hb h0 h1
abbrev RdS (acc : List ByteArray) (i : Int) : List ByteArray × (List ByteArray × (Int × (Bool × (Int × Unit)))) := (acc, [], 0, false, i, ())
theorem rread_at {p : List FT} {f : FT} {q : List FT} (hp : fs = p ++ f :: q) {acc : List ByteArray} (ha : acc.length ≤ 10000000) {ts : List (List UInt8)} {rest : List UInt8} (hs : ScanIs (contF f) (n + acc.length) ts rest) :
    (rest = [] → ∀ {R}, Ev (fun k => ref14_read_l1 (SG z n fs) k (RdS (acc ++ ts.map mkB) (((p ++ [f]).length : Nat) : Int))) R → Ev (fun k => ref14_read_l1 (SG z n fs) k (RdS acc (p.length : Int))) R) ∧
    (rest ≠ [] → Ev (fun k => ref14_read_l1 (SG z n fs) k (RdS acc (p.length : Int))) (.ret, acc ++ ts.map mkB, acc ++ ts.map mkB, (p.length : Int), false, (p.length : Int), ())) := by
  have hlen : fs.length = p.length + (q.length + 1) := by rw [hp]; simp
  have c0 : (p.length : Int) < (fs.length : Int) := by omega
  have c1 : (0 : Int) ≤ (p.length : Int) := by omega
  have hg : fs.getD (Int.toNat (p.length : Int)) Zf = f := by rw [hp, getD_m]
  have hbf := hb f (by rw [hp]; simp)
  have hr : Ev (fun k => ref12_Read k ((fs.getD (Int.toNat (p.length : Int)) Zf).1, (fs.getD (Int.toNat (p.length : Int)) Zf).2.1, (fs.getD (Int.toNat (p.length : Int)) Zf).2.2.1, ())) (f.2.1 ++ f.2.2.1, ()) := by
    rw [hg]; exact rfileRead_ev hbf
  have hcl : (contF f).length ≤ 8000 := contF_len fs hb (by rw [hp]; simp)
  have hwn : IntKind.i64.wrap (n + (acc.length : Int)) = n + acc.length := wrap_id (by omega) (by omega)
  have hsc : Ev (fun k => ref13_Scan k (f.2.1 ++ f.2.2.1) (IntKind.i64.wrap (n + (acc.length : Int)))) (scanA (contF f) ts rest) := by
    rw [hwn]
    have := (Scan_both (by omega) hs).2
    rwa [show mkB (contF f) = f.2.1 ++ f.2.2.1 from mkB_of _] at this
  have hsz : ((f.2.1 ++ f.2.2.1).size : Int) = ((contF f).length : Int) := by rw [← mkB_size, show mkB (contF f) = f.2.1 ++ f.2.2.1 from mkB_of _]
  have htl := scan_len hs
  have hw2 := wrap_succ (i := p.length) (by omega)
  have hpl : (((p ++ [f]).length : Nat) : Int) = IntKind.i64.wrap ((p.length : Int) + 1) := by rw [hw2]; simp
  have hroom : (acc.length + (ts.map mkB).length) * 16 ≤ 140737488355328 := by rw [List.length_map]; omega
  refine ⟨fun hr0 R h => ?_, fun hr0 => ?_⟩
  · subst hr0
    have c2 : ¬ (((contF f).length - ([] : List UInt8).length : Nat) : Int) < ((f.2.1 ++ f.2.2.1).size : Int) := by rw [hsz]; simp
    rw [hpl] at h
    refine Ev.step (Ev.dt c0 (Ev.dt c1 (Ev.dt c0 (Ev.bind hr (Ev.bind hsc ?_)))))
    cases ts with
    | nil =>
      rw [List.map_nil, List.append_nil] at h
      exact Ev.t rfl (Ev.df c2 h)
    | cons t ts => exact Ev.f rfl (Ev.dt hroom (Ev.df c2 h))
  · have hrl : 0 < rest.length := List.length_pos_iff.2 hr0
    have c2 : (((contF f).length - rest.length : Nat) : Int) < ((f.2.1 ++ f.2.2.1).size : Int) := by rw [hsz]; omega
    refine Ev.step (Ev.dt c0 (Ev.dt c1 (Ev.dt c0 (Ev.bind hr (Ev.bind hsc ?_)))))
    cases ts with
    | nil =>
      rw [List.map_nil, List.append_nil]
      exact Ev.t rfl (Ev.dt c2 (Ev.now _))
    | cons t ts => exact Ev.f rfl (Ev.dt hroom (Ev.dt c2 (Ev.now _)))
theorem rread_runs : ∀ (ps : List (List (List UInt8))) (p q1 q2 : List FT) (acc : List ByteArray), fs = p ++ (q1 ++ q2) → acc.length ≤ 8000 * p.length → q1.map contF = filesB (n + acc.length) ps → partsOk (n + acc.length) ps →
    (∀ {R}, Ev (fun k => ref14_read_l1 (SG z n fs) k (RdS (acc ++ ps.flatten.map mkB) (((p ++ q1).length : Nat) : Int))) R → Ev (fun k => ref14_read_l1 (SG z n fs) k (RdS acc (p.length : Int))) R) ∧ (acc ++ ps.flatten.map mkB).length ≤ 8000 * (p ++ q1).length := by
  intro ps
  induction ps with
  | nil =>
    intro p q1 q2 acc hp ha hq _
    have : q1 = [] := by cases q1 with | nil => rfl | cons _ _ => simp [filesB] at hq
    subst this
    exact ⟨fun h => by simpa using h, by simpa using ha⟩
  | cons ts ps ih =>
    intro p q1 q2 acc hp ha hq hok
    cases q1 with
    | nil => simp [filesB] at hq
    | cons f q1 =>
      rw [filesB, List.map_cons] at hq
      injection hq with hq1 hq2
      have hlen : fs.length = p.length + (q1.length + q2.length + 1) := by have := congrArg List.length hp; simp at this; omega
      have hs : ScanIs (contF f) (n + acc.length) ts [] := by rw [hq1]; exact scan_whole hok.1
      have hmem : f ∈ fs := by rw [hp]; simp
      have hcl := contF_len fs hb hmem
      have htl := (scan_len hs).2.2
      have hm : (ts.map mkB).length = ts.length := List.length_map ..
      obtain ⟨g1, _⟩ := rread_at z n fs hl hb h0 h1 (p := p) (f := f) (q := q1 ++ q2) (by rw [hp]; simp) (by omega) hs
      have e1 : n + ((acc ++ ts.map mkB).length : Int) = n + acc.length + ts.length := by rw [List.length_append, hm]; omega
      obtain ⟨k1, k2⟩ := ih (p ++ [f]) q1 q2 (acc ++ ts.map mkB) (by rw [hp]; simp) (by
        rw [List.length_append, hm, List.length_append]; simp; omega) (by rw [hq2, e1]) (by rw [e1]; exact hok.2)
      have e2 : acc ++ ts.map mkB ++ ps.flatten.map mkB = acc ++ (ts :: ps).flatten.map mkB := by rw [flat_cons, List.map_append, List.append_assoc]
      have e3 : p ++ [f] ++ q1 = p ++ f :: q1 := by simp
      rw [e2, e3] at k2
      rw [e2, e3] at k1
      exact ⟨fun h => g1 rfl (k1 h), k2⟩
theorem rread_good {ps : List (List (List UInt8))} (hc : fs.map contF = filesB n ps) (hok : partsOk n ps) : Ev (fun k => ref14_read k (SG z n fs)) (ps.flatten.map mkB, IntKind.i64.wrap ((fs.length : Int) - 1), true, ()) := by
  have e0 : n + (([] : List ByteArray).length : Int) = n := by simp
  obtain ⟨k1, _⟩ := rread_runs z n fs hl hb h0 h1 ps [] fs [] [] (by simp) (by simp) (by rw [e0]; exact hc) (by rw [e0]; exact hok)
  have hend : Ev (fun k => ref14_read_l1 (SG z n fs) k (RdS ([] ++ ps.flatten.map mkB) ((([] ++ fs).length : Nat) : Int))) (.exit 0, ps.flatten.map mkB, [], 0, false, (fs.length : Int), ()) :=
    Ev.step (Ev.df (by show ¬ (fs.length : Int) < fs.length; omega) (Ev.now _))
  exact Ev.bind (k1 hend) (Ev.t rfl (Ev.now _))
theorem rread_bad {p : List FT} {f : FT} {q : List FT} (hp : fs = p ++ f :: q) {ps : List (List (List UInt8))} (hc : p.map contF = filesB n ps) (hok : partsOk n ps) {ts : List (List UInt8)} {rest : List UInt8} (hs : ScanIs (contF f) (n + ps.flatten.length) ts rest) (hr : rest ≠ []) :
    Ev (fun k => ref14_read k (SG z n fs)) ((ps.flatten ++ ts).map mkB, (p.length : Int), false, ()) := by
  have e0 : n + (([] : List ByteArray).length : Int) = n := by simp
  obtain ⟨k1, k2⟩ := rread_runs z n fs hl hb h0 h1 ps [] p (f :: q) [] (by simpa using hp) (by simp) (by rw [e0]; exact hc) (by rw [e0]; exact hok)
  have hlen : fs.length = p.length + (q.length + 1) := by rw [hp]; simp
  have hm : (ps.flatten.map mkB).length = ps.flatten.length := List.length_map ..
  simp only [List.nil_append] at k1 k2
  obtain ⟨_, g2⟩ := rread_at z n fs hl hb h0 h1 hp (acc := ps.flatten.map mkB) (by omega) (ts := ts) (rest := rest) (by rw [hm]; exact hs)
  rw [List.map_append]
  exact Ev.bind (k1 (g2 hr)) (Ev.now _)
end
end Go.Proofs.Ytoeikeabbdnkbaa.A
/- Logs in files: the document's Sync, Crash, New, Read, Mend and Drop answer what the program's do. -/
namespace Go.Proofs.Ytoeikeabbdnkbaa.A
open Go Go.Proofs.Ytoeikeabbdnkbaa.Ab
set_option linter.unusedVariables false
set_option linter.unusedSimpArgs false

theorem Ev.both2 {β : Type} {f : Nat → Option β} {y : β} (h : Ev f y) : Ev (fun k => Ab.both2 (f k)) y := by
  simp only [Ab.both2_eq]; exact h
theorem files_b0 (z : Int) (pre : List ByteArray) (s t : ByteArray) : (List.length (files z pre s t)).beq 0 = false := by rw [files_len]; rfl
section
variable {z n : Int} {pre : List ByteArray} {s t : ByteArray} (h : okL z n pre s t)
include h
theorem okL.c0' : (files z pre s t).length * 40 ≤ 140737488355328 := by have := h.len; omega
theorem rSSync_ok : Ev (fun k => ref14_Sync k (SL z n pre s t)) (SL z n pre (s ++ t) EB, 0, ()) := by
  have hs : Ev (fun k => ref12_Sync k (((files z pre s t).getD (IntKind.i64.wrap (((files z pre s t).length : Int) - 1)).toNat Zf).1, ((files z pre s t).getD (IntKind.i64.wrap (((files z pre s t).length : Int) - 1)).toNat Zf).2.1, ((files z pre s t).getD (IntKind.i64.wrap (((files z pre s t).length : Int) - 1)).toNat Zf).2.2.1, ())) (F z (s ++ t) EB, 0, ()) := by
    rw [h.wN, files_last]
    have hb := h.bd (F z s t) (by simp [files])
    have h1 := rfileIs_ev hb
    rw [show okF (F z s t).1 (F z s t).2.1 (F z s t).2.2.1 = true from h.okF] at h1
    exact Ev.bind h1 (Ev.f rfl (Ev.bind (rfileRead_ev hb) (Ev.now _)))
  have hset := h.set (F z (s ++ t) EB)
  have e : (SL z n pre (s ++ t) EB, (0 : Int), ()) = (SG z n ((files z pre s t).set (IntKind.i64.wrap (((files z pre s t).length : Int) - 1)).toNat (F z (s ++ t) EB)), (0 : Int), ()) := by rw [hset]; rfl
  rw [e]
  exact Ev.bind (rIs_true h) (Ev.f rfl (Ev.f (files_b0 _ _ _ _) (Ev.dt h.c0' (Ev.dt h.c3 (Ev.dt h.c4 (Ev.dt h.c5 (Ev.bind hs (Ev.dt h.c3 (Ev.dt h.c4 (Ev.dt h.c5 (Ev.share (Ev.now _))))))))))))
theorem rSCrash_ok (a : Int) : Ev (fun k => ref14_Crash k (SL z n pre s t) a) (SL z n pre (s ++ t.extract 0 (leftN a t.size)) EB, 0, ()) := by
  have hs : Ev (fun k => ref12_Crash k (((files z pre s t).getD (IntKind.i64.wrap (((files z pre s t).length : Int) - 1)).toNat Zf).1, ((files z pre s t).getD (IntKind.i64.wrap (((files z pre s t).length : Int) - 1)).toNat Zf).2.1, ((files z pre s t).getD (IntKind.i64.wrap (((files z pre s t).length : Int) - 1)).toNat Zf).2.2.1, ()) a) (F z (s ++ t.extract 0 (leftN a t.size)) EB, 0, ()) := by
    rw [h.wN, files_last]
    refine Ev.all fun k => ?_
    have := rCrash_ok k z s t h.sz.1 h.sz.2 a
    rw [crashF, h.okF] at this; exact this
  have hset := h.set (F z (s ++ t.extract 0 (leftN a t.size)) EB)
  have e : (SL z n pre (s ++ t.extract 0 (leftN a t.size)) EB, (0 : Int), ()) = (SG z n ((files z pre s t).set (IntKind.i64.wrap (((files z pre s t).length : Int) - 1)).toNat (F z (s ++ t.extract 0 (leftN a t.size)) EB)), (0 : Int), ()) := by rw [hset]; rfl
  rw [e]
  exact Ev.bind (rIs_true h) (Ev.f rfl (Ev.f (files_b0 _ _ _ _) (Ev.dt h.c0' (Ev.dt h.c3 (Ev.dt h.c4 (Ev.dt h.c5 (Ev.bind hs (Ev.dt h.c3 (Ev.dt h.c4 (Ev.dt h.c5 (Ev.share (Ev.now _))))))))))))
end
theorem rNo {z n : Int} {fs : List FT} (h : Ev (fun k => ref14_Is k (SG z n fs)) (false, ())) (a : Int) (l : List ByteArray) : Ev (fun k => ref14_Read k (SG z n fs)) ([], 1, ()) ∧ Ev (fun k => ref14_Add k (SG z n fs) l) (RB, 1, ()) ∧ Ev (fun k => ref14_Sync k (SG z n fs)) (RB, 1, ()) ∧ Ev (fun k => ref14_Crash k (SG z n fs) a) (RB, 1, ()) ∧ Ev (fun k => ref14_Mend k (SG z n fs)) (RB, 1, ()) ∧ Ev (fun k => ref14_Drop k (SG z n fs) a) (RB, 1, ()) :=
  ⟨Ev.bind h (Ev.t rfl (Ev.now _)), Ev.bind h (Ev.t rfl (Ev.now _)), Ev.bind h (Ev.t rfl (Ev.now _)), Ev.bind h (Ev.t rfl (Ev.now _)), Ev.bind h (Ev.t rfl (Ev.now _)), Ev.bind h (Ev.t rfl (Ev.now _))⟩
theorem sNo {z n : Int} {fs : List FT} (h : Ev (fun k => segment_Is k (SG z n fs)) (false, ())) (a : Int) (l : List ByteArray) : Ev (fun k => segment_Read k (SG z n fs)) ([], 1, ()) ∧ Ev (fun k => segment_Add k (SG z n fs) l) (RB, 1, ()) ∧ Ev (fun k => segment_Sync k (SG z n fs)) (RB, 1, ()) ∧ Ev (fun k => segment_Crash k (SG z n fs) a) (RB, 1, ()) ∧ Ev (fun k => segment_Mend k (SG z n fs)) (RB, 1, ()) ∧ Ev (fun k => segment_Drop k (SG z n fs) a) (RB, 1, ()) :=
  ⟨Ev.bind h (Ev.t rfl (Ev.now _)), Ev.bind h (Ev.t rfl (Ev.now _)), Ev.bind h (Ev.t rfl (Ev.now _)), Ev.bind h (Ev.t rfl (Ev.now _)), Ev.bind h (Ev.t rfl (Ev.now _)), Ev.bind h (Ev.t rfl (Ev.now _))⟩
/-- New: both the same. -/
theorem New_both (z n : Int) : ∃ fs e, fs.length ≤ 1 ∧ ∃ z' n', Ev (fun k => segment_New k z n) (SG z' n' fs, e, ()) ∧ Ev (fun k => ref14_New k z n) (SG z' n' fs, e, ()) := by
  have hb : ∀ f ∈ [F z EB EB], bdF f := fun f hf => by
    simp at hf; subst hf
    have := EB_size
    exact ⟨by show EB.size ≤ 4000; omega, by show EB.size ≤ 4000; omega⟩
  rcases Is_both z n [F z EB EB] (by simp) hb with ⟨_, _, _, _, _, g1, g2⟩ | ⟨g1, g2⟩
  · exact ⟨[F z EB EB], 0, by simp, z, n, Ev.bind g1 (Ev.f rfl (Ev.now _)), Ev.bind g2 (Ev.f rfl (Ev.now _))⟩
  · exact ⟨[], 1, by simp, 0, 0, Ev.bind g1 (Ev.t rfl (Ev.now _)), Ev.bind g2 (Ev.t rfl (Ev.now _))⟩
/-! ### Mend -/
section
variable (z n : Int) (fs : List FT) (hl : fs.length ≤ 1000) (hb : ∀ f ∈ fs, bdF f)
include hl hb
abbrev MdS (m : Int) (i : Int) (x : SegT) : Int × (Int × (Int × (SegT × (SegT × Unit)))) := (0, m, i, x, RB, ())
theorem rmend_at {p : List FT} {f : FT} {q : List FT} (hp : fs = p ++ f :: q) {m : Int} (hm0 : 0 ≤ m) (hm1 : m ≤ 1000000000) {ts : List Txt} {rest : List UInt8} (hs : ScanIs (contF f) m ts rest) :
    (rest = [] → ∀ {R}, Ev (fun k => ref14_Mend_l1 k (MdS (m + ts.length) (((p ++ [f]).length : Nat) : Int) (SG z n fs))) R → Ev (fun k => ref14_Mend_l1 k (MdS m (p.length : Int) (SG z n fs))) R) ∧
    (rest ≠ [] → ∀ {g : FT}, Ev (fun k => ref12_Cut k (f.1, f.2.1, f.2.2.1, ()) (((contF f).length - rest.length : Nat) : Int)) (g, 0, ()) → Ev (fun k => ref14_Mend_l1 k (MdS m (p.length : Int) (SG z n fs))) (.ret, 0, m, (p.length : Int), SG z n (p ++ [g]), SG z n (p ++ [g]), ())) := by
  have hlen : fs.length = p.length + (q.length + 1) := by rw [hp]; simp
  have c0 : (p.length : Int) < (fs.length : Int) := by omega
  have c1 : (0 : Int) ≤ (p.length : Int) := by omega
  have c2 : Int.toNat (p.length : Int) < fs.length := by omega
  have hg : fs.getD (Int.toNat (p.length : Int)) Zf = f := by rw [hp, getD_m]
  have hbf := hb f (by rw [hp]; simp)
  have hr : Ev (fun k => ref12_Read k ((fs.getD (Int.toNat (p.length : Int)) Zf).1, (fs.getD (Int.toNat (p.length : Int)) Zf).2.1, (fs.getD (Int.toNat (p.length : Int)) Zf).2.2.1, ())) (f.2.1 ++ f.2.2.1, ()) := by
    rw [hg]; exact rfileRead_ev hbf
  have hcl : (contF f).length ≤ 8000 := contF_len fs hb (by rw [hp]; simp)
  have hsc : Ev (fun k => ref13_Scan k (f.2.1 ++ f.2.2.1) m) (scanA (contF f) ts rest) := by
    have := (Scan_both (by omega) hs).2
    rwa [show mkB (contF f) = f.2.1 ++ f.2.2.1 from mkB_of _] at this
  have hsz : ((f.2.1 ++ f.2.2.1).size : Int) = ((contF f).length : Int) := by rw [← mkB_size, show mkB (contF f) = f.2.1 ++ f.2.2.1 from mkB_of _]
  have htl := scan_len hs
  have hw2 := wrap_succ (i := p.length) (by omega)
  have hpl : (((p ++ [f]).length : Nat) : Int) = IntKind.i64.wrap ((p.length : Int) + 1) := by rw [hw2]; simp
  have hwm : IntKind.i64.wrap (m + ((ts.map mkB).length : Int)) = m + ts.length := by rw [List.length_map, wrap_id (by omega) (by omega)]
  refine ⟨fun hr0 R h => ?_, fun hr0 g hcut => ?_⟩
  · subst hr0
    have c3 : ¬ (((contF f).length - ([] : List UInt8).length : Nat) : Int) < ((f.2.1 ++ f.2.2.1).size : Int) := by rw [hsz]; simp
    rw [hpl, ← hwm] at h
    exact Ev.step (Ev.dt c0 (Ev.dt c1 (Ev.dt c0 (Ev.dt c2 (Ev.bind hr (Ev.bind hsc (Ev.df c3 h)))))))
  · have hrl : 0 < rest.length := List.length_pos_iff.2 hr0
    have c3 : (((contF f).length - rest.length : Nat) : Int) < ((f.2.1 ++ f.2.2.1).size : Int) := by rw [hsz]; omega
    have hcut' : Ev (fun k => ref12_Cut k ((fs.getD (Int.toNat (p.length : Int)) Zf).1, (fs.getD (Int.toNat (p.length : Int)) Zf).2.1, (fs.getD (Int.toNat (p.length : Int)) Zf).2.2.1, ()) (((contF f).length - rest.length : Nat) : Int)) (g, 0, ()) := by rw [hg]; exact hcut
    have hset : fs.set (Int.toNat (p.length : Int)) g = p ++ g :: q := by rw [hp, Int.toNat_natCast]; simp
    have c4 : (0 : Int) ≤ IntKind.i64.wrap ((p.length : Int) + 1) := by rw [hw2]; omega
    have c5 : IntKind.i64.wrap ((p.length : Int) + 1) ≤ ((fs.set (Int.toNat (p.length : Int)) g).length : Int) := by rw [hw2, List.length_set]; omega
    have ht : List.drop 0 (List.take (IntKind.i64.wrap ((p.length : Int) + 1)).toNat (fs.set (Int.toNat (p.length : Int)) g)) = p ++ [g] := by
      rw [hset, hw2, Int.toNat_natCast, List.drop_zero, show p ++ g :: q = (p ++ [g]) ++ q by simp]
      exact List.take_left' (by simp)
    rw [← ht]
    exact Ev.step (Ev.dt c0 (Ev.dt c1 (Ev.dt c0 (Ev.dt c2 (Ev.bind hr (Ev.bind hsc (Ev.dt c3 (Ev.dt c1 (Ev.dt c0 (Ev.dt c2 (Ev.bind hcut' (Ev.dt c1 (Ev.dt c0 (Ev.dt c2 (Ev.share (Ev.dt c4 (Ev.dt c5 (Ev.share (Ev.now _)))))))))))))))))))
theorem rmend_runs : ∀ (ps : List (List Txt)) (p q1 q2 : List FT) (m : Int), fs = p ++ (q1 ++ q2) → 0 ≤ m → m ≤ 900000000 + 8000 * p.length → q1.map contF = filesB m ps → partsOk m ps →
    (∀ {R}, Ev (fun k => ref14_Mend_l1 k (MdS (m + ps.flatten.length) (((p ++ q1).length : Nat) : Int) (SG z n fs))) R → Ev (fun k => ref14_Mend_l1 k (MdS m (p.length : Int) (SG z n fs))) R) ∧ m + ps.flatten.length ≤ 900000000 + 8000 * (p ++ q1).length := by
  intro ps
  induction ps with
  | nil =>
    intro p q1 q2 m hp h0 hm hq _
    have : q1 = [] := by cases q1 with | nil => rfl | cons _ _ => simp [filesB] at hq
    subst this
    exact ⟨fun h => by simpa using h, by simpa using hm⟩
  | cons ts ps ih =>
    intro p q1 q2 m hp h0 hm hq hok
    cases q1 with
    | nil => simp [filesB] at hq
    | cons f q1 =>
      rw [filesB, List.map_cons] at hq
      injection hq with hq1 hq2
      have hlen : fs.length = p.length + (q1.length + q2.length + 1) := by have := congrArg List.length hp; simp at this; omega
      have hs : ScanIs (contF f) m ts [] := by rw [hq1]; exact scan_whole hok.1
      have hmem : f ∈ fs := by rw [hp]; simp
      have hcl := contF_len fs hb hmem
      have htl := (scan_len hs).2.2
      obtain ⟨g1, _⟩ := rmend_at z n fs hl hb (p := p) (f := f) (q := q1 ++ q2) (by rw [hp]; simp) h0 (by omega) hs
      obtain ⟨k1, k2⟩ := ih (p ++ [f]) q1 q2 (m + ts.length) (by rw [hp]; simp) (by omega) (by rw [List.length_append]; simp; omega) hq2 hok.2
      have e2 : m + (ts.length : Int) + (ps.flatten.length : Int) = m + ((ts :: ps).flatten.length : Int) := by rw [flat_cons, List.length_append]; omega
      have e3 : p ++ [f] ++ q1 = p ++ f :: q1 := by simp
      rw [e2, e3] at k2
      rw [e2, e3] at k1
      exact ⟨fun h => g1 rfl (k1 h), k2⟩
end
theorem data_inj : ∀ {a b : List ByteArray}, a.map (fun x => x.data.toList) = b.map (fun x => x.data.toList) → a = b
  | [], [], _ => rfl
  | [], _ :: _, h => by simp at h
  | _ :: _, [], h => by simp at h
  | x :: a, y :: b, h => by
    rw [List.map_cons, List.map_cons] at h
    injection h with h1 h2
    rw [bytes_inj h1, data_inj h2]
/-- Mend: both the same. -/
theorem Mend_both {z n : Int} {pre : List ByteArray} {s t : ByteArray} (h : okL z n pre s t) : ∃ fs, fs.length ≤ 20 ∧ Ev (fun k => segment_Mend k (SL z n pre s t)) (SG z n fs, 0, ()) ∧ Ev (fun k => ref14_Mend k (SL z n pre s t)) (SG z n fs, 0, ()) := by
  have n0 := h.n0
  have n1 := h.n1
  have hfl := files_len z pre s t
  have hll := h.l
  rcases parts_or n ((files z pre s t).map contF) (fun c hc => by
    obtain ⟨f, hf, rfl⟩ := List.mem_map.1 hc
    exact contF_len _ h.bd hf) with ⟨ps, k1, k2⟩ | ⟨ps, c, cs', ts, rest, k1, k2, k3, k4⟩
  · obtain ⟨x, y, e1⟩ := scan_good z n _ h.len h.bd h.n0 h.n1 k2 k1
    refine ⟨files z pre s t, by omega, Mend_good h e1, ?_⟩
    obtain ⟨g1, _⟩ := rmend_runs z n _ h.len h.bd ps [] (files z pre s t) [] n (by simp) n0 (by simp; omega) k2 k1
    refine Ev.bind (rIs_true h) (Ev.f rfl (Ev.f (files_b0 _ _ _ _) (Ev.dt h.c0' (Ev.bind (g1 (Ev.step (Ev.df ?_ (Ev.now _)))) (Ev.t rfl (Ev.now _))))))
    show ¬ (((([] : List FT) ++ files z pre s t).length : Nat) : Int) < ((files z pre s t).length : Int)
    simp
  · obtain ⟨p, r, h1, h2, h3⟩ := List.map_eq_append_iff.1 k2
    obtain ⟨f, q, rfl, h5, h6⟩ := List.map_eq_cons_iff.1 h3
    have k3 : ScanIs (contF f) (n + ps.flatten.length) ts rest := by rw [h5]; exact k3
    obtain ⟨pre', W, g1, g2, g3, g4, g5, g6⟩ := Mend_bad h h1 h2 k1 k3 k4
    have hlen' := files_len z pre' W EB
    have hl' := g1.l
    refine ⟨files z pre' W EB, by omega, g2, ?_⟩
    obtain ⟨pre2, s', t', e1, e2, rfl, e4, ok'⟩ := files_split h1 h
    have ep : pre2 = pre' := data_inj (by
      rw [g5, ← h2, e2, List.map_map]
      apply List.map_congr_left
      intro x _
      exact (contF_pre z x).symm)
    subst ep
    have gl := scan_len k3
    have gsz : (contF (F z s' t')).length = (s' ++ t').size := size_toList _
    rw [ByteArray.size_append] at gsz
    have oke := ok'.e
    have hcl : (contF (F z s' t')).length ≤ 8000 := contF_len _ h.bd (by rw [h1]; simp)
    have hrec : (((contF (F z s' t')).length - rest.length : Nat) : Int) = (((recsB (n + ps.flatten.length) ts).length : Nat) : Int) := by omega
    have hcut : Ev (fun k => ref12_Cut k ((F z s' t').1, (F z s' t').2.1, (F z s' t').2.2.1, ()) (((contF (F z s' t')).length - rest.length : Nat) : Int)) (F z W EB, 0, ()) := by
      rw [hrec]
      refine Ev.all fun k => ?_
      have := rCut_ok k z s' t' ok'.sz.1 ok'.sz.2 (((recsB (n + ps.flatten.length) ts).length : Nat) : Int)
      unfold cutF at this
      rw [ok'.okF, if_neg (by omega)] at this
      have hx : (s' ++ t').extract 0 (Int.toNat (((recsB (n + ps.flatten.length) ts).length : Nat) : Int)) = W := by
        have hs2 : (s' ++ t').data.toList = recsB (n + ps.flatten.length) ts ++ rest := k3.2.1
        rw [← mkB_of (s' ++ t'), mkB_extract, List.drop_zero, Int.toNat_natCast, hs2, List.take_left, g6]
      rw [hx] at this
      exact this
    have hplen : (files z pre s t).length = p.length + (q.length + 1) := by rw [h1]; simp
    obtain ⟨m1, m2⟩ := rmend_runs z n _ h.len h.bd ps [] p (F z s' t' :: q) n (by simpa using h1) n0 (by simp; omega) h2 k1
    simp only [List.nil_append] at m1 m2
    obtain ⟨_, a2⟩ := rmend_at z n _ h.len h.bd (p := p) (f := F z s' t') (q := q) h1 (m := n + ps.flatten.length) (by omega) (by omega) k3
    have hend := m1 (a2 k4 hcut)
    have efs : p ++ [F z W EB] = files z pre2 W EB := by rw [e2]; rfl
    rw [efs] at hend
    exact Ev.bind (rIs_true h) (Ev.f rfl (Ev.f (files_b0 _ _ _ _) (Ev.dt h.c0' (Ev.bind hend (Ev.now _)))))
/-! ### Drop -/
theorem drop_both {z : Int} {s t : ByteArray} (a : Int) : ∀ (pre : List ByteArray) (n : Int), okL z n pre s t → ∃ n' pre', pre'.length ≤ pre.length ∧
    Ev (fun k => segment_Drop_l1 a k (SL z n pre s t, ())) (.exit 0, SL z n' pre' s t, ()) ∧
    (Ev (fun k => ref14_Drop_l1 a k (0, RB, SL z n pre s t, ())) (.exit 0, 0, RB, SL z n' pre' s t, ()) ∨ Ev (fun k => ref14_Drop_l1 a k (0, RB, SL z n pre s t, ())) (.ret, 0, SL z n' pre' s t, SL z n' pre' s t, ()))
  | [], n, hok => ⟨n, [], Nat.le_refl _, Ev.step (Ev.df (by show ¬ (((files z [] s t).length : Nat) : Int) > 1; rw [files_len]; simp) (Ev.now _)), .inl (Ev.step (Ev.df (by show ¬ (((files z [] s t).length : Nat) : Int) > 1; rw [files_len]; simp) (Ev.now _)))⟩
  | x :: pre, n, hok => by
    have hfl := files_len z (x :: pre) s t
    rw [List.length_cons] at hfl
    have c0 : (((files z (x :: pre) s t).length : Nat) : Int) > 1 := by omega
    have c1 : (0 : Int) < (((files z (x :: pre) s t).length : Nat) : Int) := by omega
    have hbx : bdF (F z x EB) := hok.bd _ (by rw [files_cons]; simp)
    have b1 : x.size ≤ 4000 := hbx.1
    have hE := EB_size
    have hr : Ev (fun k => file_Read k (((files z (x :: pre) s t).getD (Int.toNat 0) Zf).1, ((files z (x :: pre) s t).getD (Int.toNat 0) Zf).2.1, ((files z (x :: pre) s t).getD (Int.toNat 0) Zf).2.2.1, ())) (x ++ EB, ()) := fileRead_ev hbx
    have hr' : Ev (fun k => ref12_Read k (((files z (x :: pre) s t).getD (Int.toNat 0) Zf).1, ((files z (x :: pre) s t).getD (Int.toNat 0) Zf).2.1, ((files z (x :: pre) s t).getD (Int.toNat 0) Zf).2.2.1, ())) (x ++ EB, ()) := rfileRead_ev hbx
    obtain ⟨ts, rest, hs⟩ := scan_ex (x ++ EB) n (by rw [ByteArray.size_append]; omega)
    have gl := scan_len hs
    rw [size_toList, ByteArray.size_append] at gl
    have n0 := hok.n0
    have n1 := hok.n1
    have sb := Scan_both (l := (x ++ EB).data.toList) (by rw [size_toList, ByteArray.size_append]; omega) hs
    rw [mkB_of] at sb
    obtain ⟨sc, sc'⟩ := sb
    have hsz : ((x ++ EB).size : Int) = ((x ++ EB).data.toList.length : Int) := by rw [size_toList]
    by_cases hr0 : rest = []
    · subst hr0
      have c2 : ¬ ((((x ++ EB).data.toList.length - ([] : List UInt8).length : Nat)) : Int) < ((x ++ EB).size : Int) := by rw [hsz]; simp
      have hw : IntKind.i64.wrap (n + ((ts.map mkB).length : Int)) = n + ts.length := by rw [List.length_map, wrap_id (by omega) (by omega)]
      have him := imin_le a 900000000
      by_cases h : n + (ts.length : Int) > imin a 900000000
      · have c3 : IntKind.i64.wrap (n + ((ts.map mkB).length : Int)) > imin a 900000000 := by rw [hw]; exact h
        refine ⟨n, x :: pre, Nat.le_refl _, Ev.step (Ev.dt c0 (Ev.dt c1 (Ev.bind hr (Ev.bind sc (Ev.df c2 (Ev.dt c3 (Ev.now _))))))), .inr ?_⟩
        by_cases ha : n + (ts.length : Int) > a
        · have c4 : IntKind.i64.wrap (n + ((ts.map mkB).length : Int)) > a := by rw [hw]; exact ha
          exact Ev.step (Ev.dt c0 (Ev.dt c1 (Ev.bind hr' (Ev.bind sc' (Ev.df c2 (Ev.dt c4 (Ev.now _)))))))
        · have c4 : ¬ IntKind.i64.wrap (n + ((ts.map mkB).length : Int)) > a := by rw [hw]; exact ha
          have c5 : IntKind.i64.wrap (n + ((ts.map mkB).length : Int)) > 900000000 := by
            rw [hw]
            unfold imin at h
            by_cases q : (900000000 : Int) < a
            · rw [decide_eq_true q] at h; exact h
            · rw [decide_eq_false q] at h
              have h : n + (ts.length : Int) > a := h
              omega
          exact Ev.step (Ev.dt c0 (Ev.dt c1 (Ev.bind hr' (Ev.bind sc' (Ev.df c2 (Ev.df c4 (Ev.dt c5 (Ev.now _))))))))
      · have c3 : ¬ IntKind.i64.wrap (n + ((ts.map mkB).length : Int)) > imin a 900000000 := by rw [hw]; exact h
        have c4 : ¬ IntKind.i64.wrap (n + ((ts.map mkB).length : Int)) > a := by rw [hw]; omega
        have c5 : ¬ IntKind.i64.wrap (n + ((ts.map mkB).length : Int)) > 900000000 := by rw [hw]; omega
        have c6 : (1 : Int) ≤ (((files z (x :: pre) s t).length : Nat) : Int) := by omega
        have hd : List.drop (Int.toNat 1) (List.take (files z (x :: pre) s t).length (files z (x :: pre) s t)) = files z pre s t := by rw [List.take_length]; rfl
        obtain ⟨n', pre', q1, q2, q3⟩ := drop_both a pre (n + ts.length) ⟨hok.z0, hok.z1, by omega, by omega, by have := hok.l; rw [List.length_cons] at this; omega, fun y hy => hok.p y (List.mem_cons_of_mem _ hy), hok.e⟩
        have on : ∀ {R}, Ev (fun k => ref14_Drop_l1 a k (0, RB, SL z (n + ts.length) pre s t, ())) R → Ev (fun k => ref14_Drop_l1 a k (0, RB, SL z n (x :: pre) s t, ())) R := by
          intro R q
          have q' : Ev (fun k => ref14_Drop_l1 a k (0, RB, (z, IntKind.i64.wrap (n + ((ts.map mkB).length : Int)), List.drop (Int.toNat 1) (List.take (files z (x :: pre) s t).length (files z (x :: pre) s t)), ()), ())) R := by rw [hd, hw]; exact q
          exact Ev.step (Ev.dt c0 (Ev.dt c1 (Ev.bind hr' (Ev.bind sc' (Ev.df c2 (Ev.df c4 (Ev.df c5 (Ev.dt c6 (Ev.share q')))))))))
        refine ⟨n', pre', by rw [List.length_cons]; omega, ?_, q3.imp on on⟩
        have q' : Ev (fun k => segment_Drop_l1 a k ((z, IntKind.i64.wrap (n + ((ts.map mkB).length : Int)), List.drop (Int.toNat 1) (List.take (files z (x :: pre) s t).length (files z (x :: pre) s t)), ()), ())) (.exit 0, SL z n' pre' s t, ()) := by rw [hd, hw]; exact q2
        exact Ev.step (Ev.dt c0 (Ev.dt c1 (Ev.bind hr (Ev.bind sc (Ev.df c2 (Ev.df c3 (Ev.dt c6 (Ev.share q'))))))))
    · have hrl : 0 < rest.length := List.length_pos_iff.2 hr0
      have c2 : ((((x ++ EB).data.toList.length - rest.length : Nat)) : Int) < ((x ++ EB).size : Int) := by
        rw [hsz]
        have : (x ++ EB).data.toList.length = (x ++ EB).size := size_toList _
        rw [ByteArray.size_append] at this
        omega
      exact ⟨n, x :: pre, Nat.le_refl _, Ev.step (Ev.dt c0 (Ev.dt c1 (Ev.bind hr (Ev.bind sc (Ev.dt c2 (Ev.now _)))))), .inr (Ev.step (Ev.dt c0 (Ev.dt c1 (Ev.bind hr' (Ev.bind sc' (Ev.dt c2 (Ev.now _)))))))⟩
theorem Drop_both {z n : Int} {pre : List ByteArray} {s t : ByteArray} (h : okL z n pre s t) (a : Int) : ∃ n' fs, fs.length ≤ 20 ∧ Ev (fun k => segment_Drop k (SL z n pre s t) a) (SG z n' fs, 0, ()) ∧ Ev (fun k => ref14_Drop k (SL z n pre s t) a) (SG z n' fs, 0, ()) := by
  obtain ⟨n', pre', h1, h2, h3⟩ := drop_both a pre n h
  have hfl := files_len z pre' s t
  have hl := h.l
  refine ⟨n', files z pre' s t, by omega, ?_, ?_⟩
  · refine Ev.bind (Is_true h) (Ev.f rfl (Ev.dt h.c0 (Ev.share (Ev.share ?_))))
    refine Ev.bind (x := (AExit.exit 0, SL z n' pre' s t, ())) ?_ (Ev.t rfl (Ev.now _))
    rw [copyL (files z pre s t)]
    exact h2
  · refine Ev.bind (rIs_true h) (Ev.f rfl (Ev.f (files_b0 _ _ _ _) (Ev.dt h.c0' ?_)))
    rcases h3 with h3 | h3
    · exact Ev.bind h3 (Ev.t rfl (Ev.now _))
    · exact Ev.bind h3 (Ev.now _)
/-- Read: both the same. -/
theorem Read_both {z n : Int} {pre : List ByteArray} {s t : ByteArray} (h : okL z n pre s t) : ∃ T : List ByteArray, T.length ≤ 1000000 ∧ Ev (fun k => segment_Read k (SL z n pre s t)) (T, 0, ()) ∧ Ev (fun k => ref14_Read k (SL z n pre s t)) (T, 0, ()) := by
  rcases parts_or n ((files z pre s t).map contF) (fun c hc => by
    obtain ⟨f, hf, rfl⟩ := List.mem_map.1 hc
    exact contF_len _ h.bd hf) with ⟨ps, k1, k2⟩ | ⟨ps, c, cs', ts, rest, k1, k2, k3, k4⟩
  · obtain ⟨x, y, e1⟩ := scan_good z n _ h.len h.bd h.n0 h.n1 k2 k1
    have e2 := rread_good z n _ h.len h.bd h.n0 h.n1 k2 k1
    exact ⟨_, by rw [List.length_map]; have := h.total k2 k1; omega, Read_scan h e1, Ev.bind (rIs_true h) (Ev.f rfl (Ev.bind e2 (Ev.now _)))⟩
  · obtain ⟨p, r, h1, h2, h3⟩ := List.map_eq_append_iff.1 k2
    obtain ⟨f, q, rfl, h5, h6⟩ := List.map_eq_cons_iff.1 h3
    have k3 : ScanIs (contF f) (n + ps.flatten.length) ts rest := by rw [h5]; exact k3
    have e1 := scan_bad z n _ h.len h.bd h.n0 h.n1 h1 h2 k1 k3 k4
    have e2 := rread_bad z n _ h.len h.bd h.n0 h.n1 h1 h2 k1 k3 k4
    obtain ⟨pre', W, g1, _, g3, g4, _⟩ := Mend_bad h h1 h2 k1 k3 k4
    have htot := g1.total g3 g4
    rw [flat_last] at htot
    exact ⟨_, by rw [List.length_map]; omega, Read_scan h e1, Ev.bind (rIs_true h) (Ev.f rfl (Ev.bind e2 (Ev.now _)))⟩
end Go.Proofs.Ytoeikeabbdnkbaa.A
/- Logs in files: the document's Add answers what the program's does. -/
namespace Go.Proofs.Ytoeikeabbdnkbaa.A
open Go Go.Proofs.Ytoeikeabbdnkbaa.Ab
set_option linter.unusedVariables false
set_option linter.unusedSimpArgs false

theorem Ev.both3 {β : Type} {f : Nat → Option β} {y : β} (h : Ev f y) : Ev (fun k => Ab.both (Ab.both2 (f k)) (f k)) y := by
  have e : ∀ k, Ab.both (Ab.both2 (f k)) (f k) = f k := fun k => by rw [Ab.both2_eq]; exact Ab.both2_eq _
  simp only [e]; exact h
theorem add_l1_eq (x : SegT) : ref14_Add_l1 x = ref14_read_l1 x := rfl
theorem add_l3_eq (x : Int × (Int × (SegT × (SegT × Unit)))) : ref14_Add_l3 x = ref14_read_l1 x.2.2.2.1 := by
  unfold ref14_Add_l3 ref14_read_l1
  congr 1
  funext k again y
  by_cases h1 : y.2.2.2.2.1 < ((List.length x.2.2.2.1.2.2.1 : Nat) : Int)
  · by_cases h2 : 0 ≤ y.2.2.2.2.1
    · have h3 : Int.toNat y.2.2.2.2.1 < List.length x.2.2.2.1.2.2.1 := by omega
      simp only [decide_eq_true h1, decide_eq_true h2, decide_eq_true h3, cond_true]
    · simp only [decide_eq_false h2, cond_false]
  · simp only [decide_eq_false h1, cond_false]
section
variable (z n : Int) (fs : List FT) (hl : fs.length ≤ 1000) (hb : ∀ f ∈ fs, bdF f) (h0 : 0 ≤ n) (h1 : n ≤ 900000000)
include hl hb h0 h1
theorem rread_goodL {ps : List (List (List UInt8))} (hc : fs.map contF = filesB n ps) (hok : partsOk n ps) : Ev (fun k => ref14_read_l1 (SG z n fs) k (RdS [] 0)) (.exit 0, ps.flatten.map mkB, [], 0, false, (fs.length : Int), ()) := by
  have e0 : n + (([] : List ByteArray).length : Int) = n := by simp
  obtain ⟨k1, _⟩ := rread_runs z n fs hl hb h0 h1 ps [] fs [] [] (by simp) (by simp) (by rw [e0]; exact hc) (by rw [e0]; exact hok)
  have hend : Ev (fun k => ref14_read_l1 (SG z n fs) k (RdS ([] ++ ps.flatten.map mkB) ((([] ++ fs).length : Nat) : Int))) (.exit 0, ps.flatten.map mkB, [], 0, false, (fs.length : Int), ()) :=
    Ev.step (Ev.df (by show ¬ (fs.length : Int) < fs.length; omega) (Ev.now _))
  exact k1 hend
theorem rread_badL {p : List FT} {f : FT} {q : List FT} (hp : fs = p ++ f :: q) {ps : List (List (List UInt8))} (hc : p.map contF = filesB n ps) (hok : partsOk n ps) {ts : List (List UInt8)} {rest : List UInt8} (hs : ScanIs (contF f) (n + ps.flatten.length) ts rest) (hr : rest ≠ []) :
    ∃ T, Ev (fun k => ref14_read_l1 (SG z n fs) k (RdS [] 0)) (.ret, T, T, (p.length : Int), false, (p.length : Int), ()) := by
  have e0 : n + (([] : List ByteArray).length : Int) = n := by simp
  obtain ⟨k1, k2⟩ := rread_runs z n fs hl hb h0 h1 ps [] p (f :: q) [] (by simpa using hp) (by simp) (by rw [e0]; exact hc) (by rw [e0]; exact hok)
  have hlen : fs.length = p.length + (q.length + 1) := by rw [hp]; simp
  have hm : (ps.flatten.map mkB).length = ps.flatten.length := List.length_map ..
  simp only [List.nil_append] at k1 k2
  obtain ⟨_, g2⟩ := rread_at z n fs hl hb h0 h1 hp (acc := ps.flatten.map mkB) (by omega) (ts := ts) (rest := rest) (by rw [hm]; exact hs)
  exact ⟨_, k1 (g2 hr)⟩
end
section
variable (L : List Txt) (z n : Int)
theorem radd_step {pre : List ByteArray} {s u : ByteArray} (h : okL z n pre s u) {ps : List (List Txt)} (hc : (files z pre s u).map contF = filesB n ps) (hw : partsOk n ps) {p q : List Txt} {t : Txt} (hp : L = p ++ t :: q) (hpl : p.length ≤ 1000) (hn : n + ps.flatten.length ≤ 1000000000) (e : Int) :
    ((stepA z (n + ps.flatten.length) t pre s u).1 = 0 → ∀ {R}, Ev (fun k => ref14_Add_l2 (L.map mkB) k (e, (((p ++ [t]).length : Nat) : Int), RB, SL z n (stepA z (n + ps.flatten.length) t pre s u).2.1 (stepA z (n + ps.flatten.length) t pre s u).2.2.1 (stepA z (n + ps.flatten.length) t pre s u).2.2.2, ())) R →
      Ev (fun k => ref14_Add_l2 (L.map mkB) k (e, (p.length : Int), RB, SL z n pre s u, ())) R) ∧
    ((stepA z (n + ps.flatten.length) t pre s u).1 ≠ 0 → ∃ i' B, Ev (fun k => ref14_Add_l2 (L.map mkB) k (e, (p.length : Int), RB, SL z n pre s u, ())) (.ret, (stepA z (n + ps.flatten.length) t pre s u).1, i', RB, B, ())) := by
  have hm : (L.map mkB).length = L.length := List.length_map ..
  have hlen : L.length = p.length + (q.length + 1) := by rw [hp]; simp
  have b0 := h.z0
  have b1 := h.z1
  have b2 := h.n0
  have b3 := h.n1
  have b4 := h.l
  have b5 := h.e
  have hE := EB_size
  have hfl := files_len z pre s u
  have c0 : (p.length : Int) < ((L.map mkB).length : Int) := by omega
  have c1 : (0 : Int) ≤ (p.length : Int) := by omega
  have hread : Ev (fun k => ref14_Add_l3 (e, (p.length : Int), RB, SL z n pre s u, ()) k (RdS [] 0)) (.exit 0, ps.flatten.map mkB, [], 0, false, ((files z pre s u).length : Int), ()) := by
    rw [add_l3_eq]; exact rread_goodL z n _ h.len h.bd b2 b3 hc hw
  have w1 : IntKind.i64.wrap (n + ((ps.flatten.map mkB).length : Int)) = n + ps.flatten.length := by rw [List.length_map, wrap_id (by omega) (by omega)]
  have w2 := wrap_succ (i := p.length) (by omega)
  have e0 : (((p ++ [t]).length : Nat) : Int) = IntKind.i64.wrap ((p.length : Int) + 1) := by rw [w2]; simp
  have hput : Ev (fun k => ref13_Put k (IntKind.i64.wrap (n + ((ps.flatten.map mkB).length : Int))) ((L.map mkB).getD (Int.toNat (p.length : Int)) Ty.str.zero)) (RecPutA (n + ps.flatten.length) t) := by
    rw [w1, hp, getD_mid]; exact rRecPut_ok _ _
  obtain ⟨N, hN⟩ : ∃ N : Int, n + ps.flatten.length = N := ⟨_, rfl⟩
  rw [hN] at hput hn ⊢
  have hN0 : 0 ≤ N := by omega
  have hrl := recB_len N t
  have hmr := mkB_size (recB N t)
  by_cases h1 : t.length > 1000
  · have hσ : stepA z N t pre s u = (2, pre, s, u) := by unfold stepA; rw [if_pos h1]
    rw [hσ]
    rw [put_long hN0 hn (by omega)] at hput
    exact ⟨fun q => absurd q (by intro q; cases q), fun _ => ⟨_, _, Ev.step (Ev.dt c0 (Ev.dt c1 (Ev.dt c0 (Ev.both3 (Ev.bind hread (Ev.t rfl (Ev.bind hput (Ev.t rfl (Ev.t rfl (Ev.now _))))))))))⟩⟩
  rw [put_good hN0 hn (by omega)] at hput
  by_cases h2 : ((recB N t).length : Int) > z
  · have hσ : stepA z N t pre s u = (2, pre, s, u) := by unfold stepA; rw [if_neg h1, if_pos h2]
    rw [hσ]
    have c2 : ((mkB (recB N t)).size : Int) > z := by omega
    exact ⟨fun q => absurd q (by intro q; cases q), fun _ => ⟨_, _, Ev.step (Ev.dt c0 (Ev.dt c1 (Ev.dt c0 (Ev.both3 (Ev.bind hread (Ev.t rfl (Ev.bind hput (Ev.f rfl (Ev.dt c2 (Ev.now _))))))))))⟩⟩
  have c2 : ¬ ((mkB (recB N t)).size : Int) > z := by omega
  have hwN := h.wN
  have c3 := h.c3
  have c4 := h.c4
  have c5 := h.c5
  have hadd : Ev (fun k => ref12_Add k (((files z pre s u).getD (IntKind.i64.wrap (((files z pre s u).length : Int) - 1)).toNat Zf).1, ((files z pre s u).getD (IntKind.i64.wrap (((files z pre s u).length : Int) - 1)).toNat Zf).2.1, ((files z pre s u).getD (IntKind.i64.wrap (((files z pre s u).length : Int) - 1)).toNat Zf).2.2.1, ()) [mkB (recB N t)]) (addF z s u (mkB (recB N t))) := by
    rw [hwN, files_last]
    refine ⟨2, fun k hk => ?_⟩
    have hcat : cat [mkB (recB N t)] = mkB (recB N t) := by rw [cat_cons, cat_nil, app_E]
    have := rAdd_ok k z s u (by omega) (by omega) [mkB (recB N t)] (by simp) (by intro x hx; simp at hx; subst hx; omega) (by simp; omega)
    rw [hcat] at this; exact this
  by_cases h3 : ((s.size + (u.size + (recB N t).length) : Nat) : Int) ≤ z
  · have hσ : stepA z N t pre s u = (0, pre, s, u ++ mkB (recB N t)) := by unfold stepA; rw [if_neg h1, if_neg h2, if_pos h3]
    rw [hσ]
    have g2 : okF z s (u ++ mkB (recB N t)) = true := decide_eq_true ⟨by omega, b1, by rw [ByteArray.size_append, mkB_size]; exact h3⟩
    have ha : addF z s u (mkB (recB N t)) = (F z s (u ++ mkB (recB N t)), 0, ()) := by unfold addF; rw [h.okF, g2]; rfl
    rw [ha] at hadd
    refine ⟨fun _ {R} h => ?_, fun q => absurd rfl q⟩
    rw [e0] at h
    have hset : (files z pre s u).set (IntKind.i64.wrap (((files z pre s u).length : Int) - 1)).toNat (F z s (u ++ mkB (recB N t))) = files z pre s (u ++ mkB (recB N t)) := by rw [hwN, files_set]; rfl
    have h' : Ev (fun k => ref14_Add_l2 (L.map mkB) k (e, IntKind.i64.wrap ((p.length : Int) + 1), RB, (z, n, (files z pre s u).set (IntKind.i64.wrap (((files z pre s u).length : Int) - 1)).toNat (F z s (u ++ mkB (recB N t))), ()), ())) R := by rw [hset]; exact h
    exact Ev.step (Ev.dt c0 (Ev.dt c1 (Ev.dt c0 (Ev.both3 (Ev.bind hread (Ev.t rfl (Ev.bind hput (Ev.f rfl (Ev.df c2 (Ev.dt c3 (Ev.dt c4 (Ev.dt c5 (Ev.bind hadd (Ev.t rfl (Ev.dt c3 (Ev.dt c4 (Ev.dt c5 (Ev.share h'))))))))))))))))))
  have g2 : okF z s (u ++ mkB (recB N t)) = false := by refine okF_no ?_; rw [ByteArray.size_append, mkB_size]; exact h3
  have ha : addF z s u (mkB (recB N t)) = (F 0 EB EB, 81, ()) := by unfold addF; rw [h.okF, g2]; rfl
  rw [ha] at hadd
  by_cases h4 : pre.length + 1 = 20
  · have hσ : stepA z N t pre s u = (81, pre, s, u) := by unfold stepA; rw [if_neg h1, if_neg h2, if_neg h3, if_pos h4]
    rw [hσ]
    have c6 : ((files z pre s u).length : Int) ≥ 20 := by omega
    exact ⟨fun q => absurd q (by intro q; cases q), fun _ => ⟨_, _, Ev.step (Ev.dt c0 (Ev.dt c1 (Ev.dt c0 (Ev.both3 (Ev.bind hread (Ev.t rfl (Ev.bind hput (Ev.f rfl (Ev.df c2 (Ev.dt c3 (Ev.dt c4 (Ev.dt c5 (Ev.bind hadd (Ev.f rfl (Ev.dt c6 (Ev.now _))))))))))))))))⟩⟩
  · have hσ : stepA z N t pre s u = (0, pre ++ [s ++ u], EB, mkB (recB N t)) := by unfold stepA; rw [if_neg h1, if_neg h2, if_neg h3, if_neg h4]
    rw [hσ]
    have c6 : ¬ ((files z pre s u).length : Int) ≥ 20 := by omega
    have hsync : Ev (fun k => ref12_Sync k (((files z pre s u).getD (IntKind.i64.wrap (((files z pre s u).length : Int) - 1)).toNat Zf).1, ((files z pre s u).getD (IntKind.i64.wrap (((files z pre s u).length : Int) - 1)).toNat Zf).2.1, ((files z pre s u).getD (IntKind.i64.wrap (((files z pre s u).length : Int) - 1)).toNat Zf).2.2.1, ())) (F z (s ++ u) EB, 0, ()) := by
      rw [hwN, files_last]
      have hb := h.bd (F z s u) (by simp [files])
      have h1 := rfileIs_ev hb
      rw [show okF (F z s u).1 (F z s u).2.1 (F z s u).2.2.1 = true from h.okF] at h1
      exact Ev.bind h1 (Ev.f rfl (Ev.bind (rfileRead_ev hb) (Ev.now _)))
    have hset : (files z pre s u).set (IntKind.i64.wrap (((files z pre s u).length : Int) - 1)).toNat (F z (s ++ u) EB) = (pre ++ [s ++ u]).map (fun x => F z x EB) := by rw [hwN, files_set, List.map_append]; rfl
    refine ⟨fun _ {R} h => ?_, fun q => absurd rfl q⟩
    rw [e0] at h
    have c7 : (((files z pre s u).set (IntKind.i64.wrap (((files z pre s u).length : Int) - 1)).toNat (F z (s ++ u) EB)).length + [F z EB (mkB (recB N t))].length) * 40 ≤ 140737488355328 := by rw [List.length_set]; simp; omega
    have h' : Ev (fun k => ref14_Add_l2 (L.map mkB) k (e, IntKind.i64.wrap ((p.length : Int) + 1), RB, (z, n, (files z pre s u).set (IntKind.i64.wrap (((files z pre s u).length : Int) - 1)).toNat (F z (s ++ u) EB) ++ [F z EB (mkB (recB N t))], ()), ())) R := by rw [hset]; exact h
    exact Ev.step (Ev.dt c0 (Ev.dt c1 (Ev.dt c0 (Ev.both3 (Ev.bind hread (Ev.t rfl (Ev.bind hput (Ev.f rfl (Ev.df c2 (Ev.dt c3 (Ev.dt c4 (Ev.dt c5 (Ev.bind hadd (Ev.f rfl (Ev.df c6 (Ev.dt c3 (Ev.dt c4 (Ev.dt c5 (Ev.bind hsync (Ev.dt c3 (Ev.dt c4 (Ev.dt c5 (Ev.share (Ev.dt c7 h'))))))))))))))))))))))))
theorem radd_run : ∀ (q p : List Txt) (σ : Lg) (ps : List (List Txt)) (e : Int), okL z n σ.1 σ.2.1 σ.2.2 → (files z σ.1 σ.2.1 σ.2.2).map contF = filesB n ps → partsOk n ps → L = p ++ q → L.length ≤ 1000 → n + ps.flatten.length + q.length ≤ 1000000000 →
    ((runA z (n + ps.flatten.length) q σ).1 = 0 → okL z n (runA z (n + ps.flatten.length) q σ).2.1 (runA z (n + ps.flatten.length) q σ).2.2.1 (runA z (n + ps.flatten.length) q σ).2.2.2 ∧ Ev (fun k => ref14_Add_l2 (L.map mkB) k (e, (p.length : Int), RB, SL z n σ.1 σ.2.1 σ.2.2, ())) (.exit 0, e, (L.length : Int), RB, SL z n (runA z (n + ps.flatten.length) q σ).2.1 (runA z (n + ps.flatten.length) q σ).2.2.1 (runA z (n + ps.flatten.length) q σ).2.2.2, ())) ∧
    ((runA z (n + ps.flatten.length) q σ).1 ≠ 0 → ∃ i' B, Ev (fun k => ref14_Add_l2 (L.map mkB) k (e, (p.length : Int), RB, SL z n σ.1 σ.2.1 σ.2.2, ())) (.ret, (runA z (n + ps.flatten.length) q σ).1, i', RB, B, ())) := by
  intro q
  have hm : (L.map mkB).length = L.length := List.length_map ..
  induction q with
  | nil =>
    intro p σ ps e hok hc hw hp hL hn
    obtain rfl : L = p := by rw [hp, List.append_nil]
    exact ⟨fun _ => ⟨hok, Ev.step (Ev.df (by show ¬ (L.length : Int) < ((L.map mkB).length : Int); omega) (Ev.now _))⟩, fun q => absurd rfl q⟩
  | cons t q ih =>
    intro p σ ps e hok hc hw hp hL hn
    have hlen : L.length = p.length + (q.length + 1) := by rw [hp]; simp
    rw [List.length_cons] at hn
    obtain ⟨g1, g2⟩ := radd_step L z n hok hc hw hp (by omega) (by omega) e
    rw [runA]
    by_cases hs : (stepA z (n + ps.flatten.length) t σ.1 σ.2.1 σ.2.2).1 = 0
    · rw [if_pos hs]
      obtain ⟨ps', k1, k2, k3, k4⟩ := stepA_whole hok hc hw rfl (by omega) hs
      have hfl : (ps'.flatten.length : Int) = ps.flatten.length + 1 := by rw [k4]; simp
      have := ih (p ++ [t]) (stepA z (n + ps.flatten.length) t σ.1 σ.2.1 σ.2.2).2 ps' e k1 k2 k3 (by rw [hp]; simp) hL (by omega)
      rw [show n + (ps'.flatten.length : Int) = n + ps.flatten.length + 1 by omega] at this
      refine ⟨fun hq => ⟨(this.1 hq).1, g1 hs (this.1 hq).2⟩, fun hq => ?_⟩
      obtain ⟨i', B, h⟩ := this.2 hq
      exact ⟨i', B, g1 hs h⟩
    · rw [if_neg hs]
      exact ⟨fun hq => absurd hq hs, g2⟩
end
/-- Add: both the same. -/
theorem Add_both {z n : Int} {pre : List ByteArray} {s u : ByteArray} (h : okL z n pre s u) (L : List Txt) (hL : L.length ≤ 1000) : ∃ z' n' fs e, fs.length ≤ 20 ∧ Ev (fun k => segment_Add k (SL z n pre s u) (L.map mkB)) (SG z' n' fs, e, ()) ∧ Ev (fun k => ref14_Add k (SL z n pre s u) (L.map mkB)) (SG z' n' fs, e, ()) := by
  have n0 := h.n0
  have n1 := h.n1
  rcases parts_or n ((files z pre s u).map contF) (fun c hc => by
    obtain ⟨f, hf, rfl⟩ := List.mem_map.1 hc
    exact contF_len _ h.bd hf) with ⟨ps, k1, k2⟩ | ⟨ps, c, cs', ts, rest, k1, k2, k3, k4⟩
  · obtain ⟨x, y, sc⟩ := scan_good z n _ h.len h.bd n0 n1 k2 k1
    have htot := h.total k2 k1
    have hm : (ps.flatten.map mkB).length = ps.flatten.length := List.length_map ..
    obtain ⟨a1, a2⟩ := Add_good h sc (by omega) L hL
    rw [hm] at a1 a2
    obtain ⟨r1, r2⟩ := radd_run L z n L [] (pre, s, u) ps 0 h k2 k1 rfl hL (by omega)
    have hrd := rread_goodL z n _ h.len h.bd n0 n1 k2 k1
    rw [← add_l1_eq] at hrd
    by_cases hq : (runA z (n + ps.flatten.length) L (pre, s, u)).1 = 0
    · obtain ⟨ok', q1⟩ := r1 hq
      have hfl := files_len z (runA z (n + ps.flatten.length) L (pre, s, u)).2.1 (runA z (n + ps.flatten.length) L (pre, s, u)).2.2.1 (runA z (n + ps.flatten.length) L (pre, s, u)).2.2.2
      have hl' := ok'.l
      exact ⟨z, n, _, 0, by omega, a1 hq, Ev.bind (rIs_true h) (Ev.f rfl (Ev.bind hrd (Ev.t rfl (Ev.f (files_b0 _ _ _ _) (Ev.dt h.c0' (Ev.bind q1 (Ev.t rfl (Ev.now _))))))))⟩
    · obtain ⟨i', B, q1⟩ := r2 hq
      exact ⟨0, 0, [], _, by simp, a2 hq, Ev.bind (rIs_true h) (Ev.f rfl (Ev.bind hrd (Ev.t rfl (Ev.f (files_b0 _ _ _ _) (Ev.dt h.c0' (Ev.bind q1 (Ev.now _)))))))⟩
  · obtain ⟨p, r, h1, h2, h3⟩ := List.map_eq_append_iff.1 k2
    obtain ⟨f, q, rfl, h5, h6⟩ := List.map_eq_cons_iff.1 h3
    have k3 : ScanIs (contF f) (n + ps.flatten.length) ts rest := by rw [h5]; exact k3
    have e1 := scan_bad z n _ h.len h.bd n0 n1 h1 h2 k1 k3 k4
    obtain ⟨T, e2⟩ := rread_badL z n _ h.len h.bd n0 n1 h1 h2 k1 k3 k4
    rw [← add_l1_eq] at e2
    exact ⟨0, 0, [], 1, by simp, Ev.bind (Is_true h) (Ev.f rfl (Ev.bind e1 (Ev.t rfl (Ev.now _)))), Ev.bind (rIs_true h) (Ev.f rfl (Ev.bind e2 (Ev.t rfl (Ev.now _))))⟩
end Go.Proofs.Ytoeikeabbdnkbaa.A
