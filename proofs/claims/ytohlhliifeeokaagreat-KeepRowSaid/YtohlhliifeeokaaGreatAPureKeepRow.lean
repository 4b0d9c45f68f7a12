/- Keeps: the document's rows, and what is let go. -/
import Derived.Test.YtohlhliifeeokaaGreatAT3
import Derived.Test.YtohlhliifeeokaaGreatFnKeepW
import Derived.KernelRfl
import Derived.Test.YtohlhliifeeokaaGreatAbB
namespace Go.Proofs.YtohlhliifeeokaaGreat.A
open Go Go.Proofs.YtohlhliifeeokaaGreat.Ab
set_option linter.unusedVariables false
set_option linter.unusedSimpArgs false
set_option maxRecDepth 100000 in
theorem kept17_all (q : Nat) : law17_kept (q + 60) = some (true, ()) := by kernel_rfl
theorem kept17_ok : Ev (fun k => law17_kept k) (true, ()) := ⟨60, fun k hk => by
  obtain ⟨q, rfl⟩ : ∃ q, k = q + 60 := ⟨k - 60, by omega⟩
  exact kept17_all q⟩
theorem kfar_l (l : List ByteArray) (hl : l.length ≤ maxLen) (d : Nat) : ∀ i : Nat, i + d = l.length →
    (Ev (fun k => law17_far_l1 l k (false, (i : Int), ())) (.exit 0, false, (l.length : Int), ()) ∧ ∀ j (h : j < l.length), i ≤ j → l[j].size ≤ 1100) ∨ ∃ i', Ev (fun k => law17_far_l1 l k (false, (i : Int), ())) (.ret, true, i', ()) := by
  unfold maxLen at hl
  induction d with
  | zero =>
    intro i hi
    obtain rfl : i = l.length := by omega
    exact .inl ⟨Ev.step (Ev.df (by show ¬ (l.length : Int) < l.length; omega) (Ev.now _)), fun j h h' => by omega⟩
  | succ d ih =>
    intro i hi
    have c0 : (i : Int) < (l.length : Int) := by omega
    have c1 : (0 : Int) ≤ (i : Int) := by omega
    have hg : l.getD (Int.toNat (i : Int)) Ty.str.zero = l[i] := getD_z l i (by omega)
    have w := wrap_succ (i := i) (by omega)
    have ih := ih (i + 1) (by omega)
    have e1 : ((l.getD (Int.toNat (i : Int)) Ty.str.zero).size : Int) = (l[i].size : Int) := by rw [hg]
    have on : l[i].size ≤ 1100 → (∀ {R}, Ev (fun k => law17_far_l1 l k (false, (((i + 1 : Nat)) : Int), ())) R → Ev (fun k => law17_far_l1 l k (false, (i : Int), ())) R) →
        ((Ev (fun k => law17_far_l1 l k (false, (i : Int), ())) (.exit 0, false, (l.length : Int), ()) ∧ ∀ j (h : j < l.length), i ≤ j → l[j].size ≤ 1100) ∨ ∃ i', Ev (fun k => law17_far_l1 l k (false, (i : Int), ())) (.ret, true, i', ())) := by
      intro hle h
      rcases ih with ⟨k1, k2⟩ | ⟨i', k⟩
      · refine .inl ⟨h k1, fun j hj hij => ?_⟩
        by_cases e : j = i
        · subst e; exact hle
        · exact k2 j hj (by omega)
      · exact .inr ⟨i', h k⟩
    by_cases h1 : ((l.getD (Int.toNat (i : Int)) Ty.str.zero).size : Int) > 100
    · by_cases h2 : ((l.getD (Int.toNat (i : Int)) Ty.str.zero).size : Int) ≤ 1000
      · exact .inr ⟨_, Ev.step (Ev.dt c0 (Ev.dt c1 (Ev.dt c0 (Ev.dt h1 (Ev.dt c1 (Ev.dt c0 (Ev.dt h2 (Ev.now _))))))))⟩
      · by_cases h3 : ((l.getD (Int.toNat (i : Int)) Ty.str.zero).size : Int) > 1100
        · exact .inr ⟨_, Ev.step (Ev.dt c0 (Ev.dt c1 (Ev.dt c0 (Ev.dt h1 (Ev.dt c1 (Ev.dt c0 (Ev.df h2 (Ev.dt c1 (Ev.dt c0 (Ev.dt h3 (Ev.now _)))))))))))⟩
        · refine on (by omega) (fun {R} h => ?_)
          rw [← w] at h
          exact Ev.step (Ev.dt c0 (Ev.dt c1 (Ev.dt c0 (Ev.dt h1 (Ev.dt c1 (Ev.dt c0 (Ev.df h2 (Ev.dt c1 (Ev.dt c0 (Ev.df h3 h))))))))))
    · have h3 : ¬ ((l.getD (Int.toNat (i : Int)) Ty.str.zero).size : Int) > 1100 := by omega
      refine on (by omega) (fun {R} h => ?_)
      rw [← w] at h
      exact Ev.step (Ev.dt c0 (Ev.dt c1 (Ev.dt c0 (Ev.df h1 (Ev.dt c1 (Ev.dt c0 (Ev.df h3 h)))))))
theorem kbig_ok (m : Int) (a b : ByteArray) (m' : Int) (c d : ByteArray) (hm : Int) (ha hb : ByteArray) (hm' : Int) (hc hd : ByteArray) (z n : Int) (fs : List FT) (hf : fs.length ≤ maxLen) : ∃ x, Ev (fun k => ref17_Big k (KM (S6 m a b m' c d) (H6 hm ha hb hm' hc hd) (SG z n fs))) (x, ()) ∧ (x = false → (a.size ≤ 2000 ∧ b.size ≤ 2000 ∧ c.size ≤ 2000 ∧ d.size ≤ 2000) ∧ (ha.size ≤ 2000 ∧ hb.size ≤ 2000 ∧ hc.size ≤ 2000 ∧ hd.size ≤ 2000) ∧ fs.length ≤ 25 ∧ ∀ f ∈ fs, bdF f) := by
  have b1 : Ev (fun k => ref15_Big k (S6 m a b m' c d)) (decide (a.size > 2000 ∨ b.size > 2000) || decide (c.size > 2000 ∨ d.size > 2000), ()) := by
    refine Ev.bind (Ev.all fun k => rBig_ok k m a b) ?_
    cases g : decide (a.size > 2000 ∨ b.size > 2000) with
    | true => exact Ev.t rfl (Ev.now _)
    | false => exact Ev.f rfl (Ev.bind (Ev.all fun k => rBig_ok k m' c d) (Ev.now _))
  have b2 : Ev (fun k => ref16_Big k (H6 hm ha hb hm' hc hd)) (decide (ha.size > 2000 ∨ hb.size > 2000 ∨ hc.size > 2000 ∨ hd.size > 2000), ()) := Ev.all fun k => rBigH_ok k
  have b3 : ∃ b, Ev (fun k => ref14_Big k (SG z n fs)) (b, ()) ∧ (b = false → fs.length ≤ 25 ∧ ∀ f ∈ fs, bdF f) := by
    by_cases hs : (fs.length : Int) ≤ 25
    · rcases sbig_l z n fs hf hs fs.length 0 (by omega) with ⟨g1, g2⟩ | ⟨i', g⟩
      · refine ⟨decide ((fs.length : Int) > 25), Ev.bind g1 (Ev.t rfl (Ev.now _)), fun _ => ⟨by omega, fun f hf => ?_⟩⟩
        obtain ⟨j, hj, rfl⟩ := List.getElem_of_mem hf
        have := g2 j hj (Nat.zero_le _)
        exact ⟨by omega, by omega⟩
      · exact ⟨true, Ev.bind g (Ev.now _), fun h => by cases h⟩
    · refine ⟨true, ?_, fun h => by cases h⟩
      have c0 : ((0 : Nat) : Int) < (fs.length : Int) := by omega
      have g : Ev (fun k => ref14_Big_l1 (SG z n fs) k (false, 0, ())) (.exit 0, false, 0, ()) := Ev.step (Ev.dt c0 (Ev.df hs (Ev.now _)))
      have e : (decide ((fs.length : Int) > 25), ()) = (true, ()) := by rw [decide_eq_true (by omega)]
      rw [← e]
      exact Ev.bind g (Ev.t rfl (Ev.now _))
  cases g1 : (decide (a.size > 2000 ∨ b.size > 2000) || decide (c.size > 2000 ∨ d.size > 2000)) with
  | true => rw [g1] at b1; exact ⟨true, Ev.bind b1 (Ev.t rfl (Ev.now _)), fun h => by cases h⟩
  | false =>
    rw [g1] at b1
    rw [Bool.or_eq_false_iff] at g1
    have p1 := of_decide_eq_false g1.1
    have p2 := of_decide_eq_false g1.2
    cases g2 : decide (ha.size > 2000 ∨ hb.size > 2000 ∨ hc.size > 2000 ∨ hd.size > 2000) with
    | true => rw [g2] at b2; exact ⟨true, Ev.bind b1 (Ev.f rfl (Ev.bind b2 (Ev.t rfl (Ev.now _)))), fun h => by cases h⟩
    | false =>
      rw [g2] at b2
      have p3 := of_decide_eq_false g2
      obtain ⟨x, b3, p4⟩ := b3
      exact ⟨x, Ev.bind b1 (Ev.f rfl (Ev.bind b2 (Ev.f rfl (Ev.bind b3 (Ev.now _))))), fun h => ⟨by omega, by omega, p4 h⟩⟩
theorem kfar_ok (m : Int) (a b : ByteArray) (m' : Int) (c d : ByteArray) (hm : Int) (ha hb : ByteArray) (hm' : Int) (hc hd : ByteArray) (z n : Int) (fs : List FT) (l : List ByteArray) (hf : fs.length ≤ maxLen) (hl : l.length ≤ maxLen) : ∃ x, Ev (fun k => law17_far k (KM (S6 m a b m' c d) (H6 hm ha hb hm' hc hd) (SG z n fs)) l) (x, ()) ∧ (x = false → (a.size ≤ 2000 ∧ b.size ≤ 2000 ∧ c.size ≤ 2000 ∧ d.size ≤ 2000) ∧ (ha.size ≤ 2000 ∧ hb.size ≤ 2000 ∧ hc.size ≤ 2000 ∧ hd.size ≤ 2000) ∧ (fs.length ≤ 25 ∧ ∀ f ∈ fs, bdF f) ∧ l.length ≤ 110 ∧ ∀ y ∈ l, y.size ≤ 1100) := by
  rcases kfar_l l hl l.length 0 (by omega) with ⟨k1, k2⟩ | ⟨i', k⟩
  · obtain ⟨x, hb, hx⟩ := kbig_ok m a b m' c d hm ha hb hm' hc hd z n fs hf
    cases x with
    | true => exact ⟨true, Ev.bind k1 (Ev.t rfl (Ev.bind hb (Ev.t rfl (Ev.now _)))), fun h => by cases h⟩
    | false =>
      obtain ⟨x1, x2, x3⟩ := hx rfl
      have mem : ∀ y ∈ l, y.size ≤ 1100 := fun y hy => by
        obtain ⟨j, hj, rfl⟩ := List.getElem_of_mem hy
        exact k2 j hj (Nat.zero_le _)
      by_cases c1 : (l.length : Int) > 25
      · by_cases c2 : (l.length : Int) ≤ 99
        · exact ⟨true, Ev.bind k1 (Ev.t rfl (Ev.bind hb (Ev.f rfl (Ev.dt c1 (Ev.dt c2 (Ev.now _)))))), fun h => by cases h⟩
        · refine ⟨decide ((l.length : Int) > 110), Ev.bind k1 (Ev.t rfl (Ev.bind hb (Ev.f rfl (Ev.dt c1 (Ev.df c2 (Ev.now _)))))), fun h => ?_⟩
          have h := of_decide_eq_false h
          exact ⟨x1, x2, x3, by omega, mem⟩
      · refine ⟨decide ((l.length : Int) > 110), Ev.bind k1 (Ev.t rfl (Ev.bind hb (Ev.f rfl (Ev.df c1 (Ev.now _))))), fun h => ?_⟩
        have h := of_decide_eq_false h
        exact ⟨x1, x2, x3, by omega, mem⟩
  · exact ⟨true, Ev.bind k (Ev.now _), fun h => by cases h⟩
end Go.Proofs.YtohlhliifeeokaaGreat.A
namespace Go.Proofs.YtohlhliifeeokaaGreat.A
open Go Go.Proofs.YtohlhliifeeokaaGreat.Ab
set_option linter.unusedVariables false
set_option linter.unusedSimpArgs false
theorem Mend_tells {z n : Int} {pre : List ByteArray} {s t : ByteArray} {T : List Txt} (h : okL z n pre s t) (hT : Whole n (files z pre s t) T ∨ Broken n (files z pre s t) T) :
    ∃ pre' s' t', okL z n pre' s' t' ∧ Ev (fun k => segment_Mend k (SL z n pre s t)) (SL z n pre' s' t', 0, ()) ∧ Whole n (files z pre' s' t') T ∧ (t = EB → t' = EB) := by
  rcases hT with hw | hb
  · obtain ⟨x, y, sc⟩ := hw.scan h
    exact ⟨pre, s, t, h, Mend_good h sc, hw, id⟩
  · obtain ⟨p, f, q, ps, ts, rest, h1, h2, h3, h4, h5, rfl⟩ := hb
    obtain ⟨pre', W, g1, g2, g3, g4, _⟩ := Mend_bad h h1 h2 h3 h4 h5
    exact ⟨pre', W, EB, g1, g2, ⟨ps ++ [ts], g3, g4, by rw [flat_last]⟩, fun _ => rfl⟩
structure Crashed (m : Int) (a b c d : ByteArray) (hm : Int) (ha hb hc hd : ByteArray) (z n : Int) (pre : List ByteArray) (s t : ByteArray) (v : Int) (a' c' ha' hc' : ByteArray) (pre' : List ByteArray) (s' : ByteArray) (T' : List Txt) : Prop where
  ev : Ev (fun k => keep_Crash k (KM (S6 m a b m c d) (H6 hm ha hb hm hc hd) (SL z n pre s t)) v) (KM (S6 m a' EB m c' EB) (H6 hm ha' EB hm hc' EB) (SL z n pre' s' EB), 0, ())
  ok : okS m a' EB m c' EB = true
  sm : smallS a' EB c' EB
  hok : okH hm ha' EB hm hc' EB = true
  hsm : smallH ha' EB hc' EB
  lok : okL z n pre' s' EB
  w : Whole n (files z pre' s' EB) T'
  ea : a' = a ++ b.extract 0 (leftN v b.size)
  ec : c' = c ++ d.extract 0 (leftN v d.size)
  eh : ha' = ha ++ hb.extract 0 (leftN v hb.size)
  tl : Whole n (files z pre (s ++ t.extract 0 (leftN v t.size)) EB) T' ∨ Broken n (files z pre (s ++ t.extract 0 (leftN v t.size)) EB) T'
  et : leftN v t.size = t.size → ∀ T, (Whole n (files z pre s t) T ∨ Broken n (files z pre s t) T) → T' = T
  same : b = EB → d = EB → hb = EB → hd = EB → t = EB → (∃ T, Whole n (files z pre s t) T) → a' = a ∧ c' = c ∧ ha' = ha ∧ hc' = hc ∧ pre' = pre ∧ s' = s
theorem ext_E (k : Nat) : EB.extract 0 k = EB := bytes_inj (by rw [bytes_extract]; simp)
theorem tells_one {z n : Int} {pre : List ByteArray} {s t : ByteArray} {T T' : List Txt} (hok : okL z n pre s t) (h : Whole n (files z pre s t) T ∨ Broken n (files z pre s t) T) (h' : Whole n (files z pre s t) T' ∨ Broken n (files z pre s t) T') : T = T' := by
  obtain ⟨x, y, w, e⟩ := tells_scan h hok
  obtain ⟨x', y', w', e'⟩ := tells_scan h' hok
  have := congrArg (fun r : TL => r.1.1) (e.one e')
  have this : T.map mkB = T'.map mkB := this
  have inj : ∀ (a b : List Txt), a.map mkB = b.map mkB → a = b := by
    intro a
    induction a with
    | nil => intro b h; cases b with | nil => rfl | cons _ _ => cases h
    | cons x a ih =>
      intro b h
      cases b with
      | nil => cases h
      | cons y b =>
        rw [List.map_cons, List.map_cons] at h
        injection h with h1 h2
        rw [ih b h2, show x = y from congrArg (fun q : ByteArray => q.data.toList) h1]
  exact inj _ _ this
theorem crashed {m : Int} {a b c d : ByteArray} {hm : Int} {ha hb hc hd : ByteArray} {z n : Int} {pre : List ByteArray} {s t : ByteArray} (sm : smallS a b c d) (ok : okS m a b m c d = true) (hsm : smallH ha hb hc hd) (hok : okH hm ha hb hm hc hd = true) (lok : okL z n pre s t) (v : Int) :
    ∃ a' c' ha' hc' pre' s' T', Crashed m a b c d hm ha hb hc hd z n pre s t v a' c' ha' hc' pre' s' T' := by
  have hE := EB_size
  obtain ⟨o, ho⟩ := tell_ex (ha ++ hb).data.toList (by rw [size_toList, ByteArray.size_append]; have := hsm.a; have := hsm.b; omega)
  have h1 := Load_ok m a b m c d sm
  rw [loadS_ok m a b m c d ok] at h1
  have h2 := (Load_both (m := hm) (m' := hm) hsm ho).1
  rw [hok] at h2
  have h2 : ∃ base P w, Ev (fun k => snap_Load k (H6 hm ha hb hm hc hd)) (base, P, w, 0, ()) := by
    cases o with
    | none => exact ⟨_, _, _, h2⟩
    | some p => exact ⟨_, _, _, h2⟩
  obtain ⟨base, P, w, h2⟩ := h2
  have may := may_ev h1 h2 (Is_true lok)
  have c1 := NCrash_ok m a b m c d sm v
  have e1 : crashS m a b m c d v = (S6 m (a ++ b.extract 0 (leftN v b.size)) EB m (c ++ d.extract 0 (leftN v d.size)) EB, 0, ()) := by unfold crashS; rw [ok]; rfl
  rw [e1] at c1
  have c2 := (CrashH_both (m := hm) (m' := hm) hsm v).1
  have e2 : crashH hm ha hb hm hc hd v = (H6 hm (ha ++ hb.extract 0 (leftN v hb.size)) EB hm (hc ++ hd.extract 0 (leftN v hd.size)) EB, 0, ()) := by unfold crashH; rw [hok]; rfl
  rw [e2] at c2
  have c3 := SCrash_ok lok v
  obtain ⟨T0, hT0⟩ := tells_or (lok.crash v)
  obtain ⟨pre', s', t', k1, k2, k3, k4⟩ := Mend_tells (lok.crash v) hT0
  obtain rfl := k4 rfl
  obtain ⟨f1, f2, _⟩ := okS_bd ok
  have b1 := okF_bd f1
  have b2 := okF_bd f2
  have l1 := leftN_le v b.size
  have l2 := leftN_le v d.size
  have ok1 : okS m (a ++ b.extract 0 (leftN v b.size)) EB m (c ++ d.extract 0 (leftN v d.size)) EB = true := by
    unfold okS
    rw [show okF m (a ++ b.extract 0 (leftN v b.size)) EB = true from decide_eq_true ⟨b1.1, b1.2.1, by have := b1.2.2; rw [ByteArray.size_append, ByteArray.size_extract]; omega⟩, show okF m (c ++ d.extract 0 (leftN v d.size)) EB = true from decide_eq_true ⟨b1.1, b1.2.1, by have := b2.2.2; rw [ByteArray.size_append, ByteArray.size_extract]; omega⟩]
    simp
  have sm1 : smallS (a ++ b.extract 0 (leftN v b.size)) EB (c ++ d.extract 0 (leftN v d.size)) EB := by
    have := b1.2.1; have := b1.2.2; have := b2.2.2
    refine ⟨?_, by omega, ?_, by omega⟩ <;> rw [ByteArray.size_append, ByteArray.size_extract] <;> omega
  obtain ⟨x', z', g1, g2, g3, g4⟩ := crash_ok hok v
  rw [e2] at g1
  have g1 : H6 hm (ha ++ hb.extract 0 (leftN v hb.size)) EB hm (hc ++ hd.extract 0 (leftN v hd.size)) EB = H6 hm x' EB hm z' EB := congrArg Prod.fst g1
  have ex : ha ++ hb.extract 0 (leftN v hb.size) = x' := congrArg (fun q : HT => q.2.1) g1
  have ez : hc ++ hd.extract 0 (leftN v hd.size) = z' := congrArg (fun q : HT => q.2.2.2.2.1) g1
  rw [ex, ez] at c2
  refine ⟨_, _, x', z', pre', s', T0, ⟨?_, ok1, sm1, g2, g3, k1, k3, rfl, rfl, ex.symm, hT0, fun q T hT => ?_, ?_⟩⟩
  · exact Ev.bind may (Ev.f rfl (Ev.bind c1 (Ev.bind c2 (Ev.bind c3 (Ev.bind k2 (Ev.now _))))))
  · have hs := tells_syn hT
    rw [q, ext_all] at hT0
    exact tells_one lok.sync hT0 hs
  · rintro rfl rfl rfl rfl rfl ⟨T, hT⟩
    rw [ext_E, app_E] at k2
    obtain ⟨x, y, sc⟩ := hT.scan lok
    have := (Mend_good lok sc).one k2
    have this : SL z n pre s EB = SL z n pre' s' EB := congrArg Prod.fst this
    have e3 : files z pre s EB = files z pre' s' EB := congrArg (fun q : SegT => q.2.2.1) this
    obtain ⟨q1, q2, _⟩ := files_inj e3
    exact ⟨by rw [ext_E, app_E], by rw [ext_E, app_E], by rw [← ex, ext_E, app_E], by rw [← ez, ext_E, app_E], q1.symm, q2.symm⟩
end Go.Proofs.YtohlhliifeeokaaGreat.A
namespace Go.Proofs.YtohlhliifeeokaaGreat.A
open Go Go.Proofs.YtohlhliifeeokaaGreat.Ab
set_option linter.unusedVariables false
set_option linter.unusedSimpArgs false
def Gd (K : KT) (tx : ByteArray) (base : Int) (P : List ByteArray) (z n : Int) (T : List Txt) : Prop :=
  ∃ m a c hm ha hc pre s, K = KM (S6 m a EB m c EB) (H6 hm ha EB hm hc EB) (SL z n pre s EB) ∧ smallS a EB c EB ∧ okS m a EB m c EB = true ∧ smallH ha EB hc EB ∧ okH hm ha EB hm hc EB = true ∧
    Opn (S6 m a EB m c EB) (H6 hm ha EB hm hc EB) z n pre s EB tx base P T ∧ Whole n (files z pre s EB) T
theorem Gd.open {K : KT} {tx : ByteArray} {base : Int} {P : List ByteArray} {z n : Int} {T : List Txt} (h : Gd K tx base P z n T) : Ev (fun k => keep_Open k K) (tx, base, P, (T.drop (base - n).toNat).map mkB, 0, ()) := by
  obtain ⟨m, a, c, hm, ha, hc, pre, s, rfl, _, _, _, _, ho, _⟩ := h
  exact ho.open
theorem Gd.bd {K : KT} {tx : ByteArray} {base : Int} {P : List ByteArray} {z n : Int} {T : List Txt} (h : Gd K tx base P z n T) : 0 ≤ n ∧ n ≤ 900000000 ∧ n ≤ base ∧ base ≤ n + T.length ∧ T.length ≤ 160000 ∧ P.length ≤ 1000000 := by
  obtain ⟨m, a, c, hm, ha, hc, pre, s, rfl, _, _, _, _, ho, _⟩ := h
  exact ⟨ho.lok.n0, ho.lok.n1, ho.b0, ho.b1, ho.tl, ho.pl⟩
theorem Gd.crash {K : KT} {tx : ByteArray} {base : Int} {P : List ByteArray} {z n : Int} {T : List Txt} (h : Gd K tx base P z n T) (v : Int) : Ev (fun k => keep_Crash k K v) (K, 0, ()) := by
  obtain ⟨m, a, c, hm, ha, hc, pre, s, rfl, sm, ok, hsm, hok, ho, hw⟩ := h
  obtain ⟨a', c', ha', hc', pre', s', T', hC⟩ := crashed sm ok hsm hok ho.lok v
  obtain ⟨rfl, rfl, rfl, rfl, rfl, rfl⟩ := hC.same rfl rfl rfl rfl rfl ⟨_, hw⟩
  exact hC.ev
theorem Gd.far {K : KT} {tx : ByteArray} {base : Int} {P : List ByteArray} {z n : Int} {T : List Txt} (h : Gd K tx base P z n T) : ∃ m a b m' c d hm ha hb hm' hc hd fs, K = KM (S6 m a b m' c d) (H6 hm ha hb hm' hc hd) (SG z n fs) ∧ fs.length ≤ 1000 := by
  obtain ⟨m, a, c, hm, ha, hc, pre, s, rfl, sm, ok, hsm, hok, ho, hw⟩ := h
  exact ⟨m, a, EB, m, c, EB, hm, ha, EB, hm, hc, EB, _, rfl, ho.lok.len⟩
theorem pic_same {hm : Int} {ha hb hc hd ha' hc' : ByteArray} {R : Int × (List ByteArray × (Bool × (Int × Unit)))} (hsm : smallH ha hb hc hd) (hok : okH hm ha hb hm hc hd = true) (hsm' : smallH ha' EB hc' EB) (hok' : okH hm ha' EB hm hc' EB = true) (eh : ha' = ha ++ hb) (h : Ev (fun k => snap_Load k (H6 hm ha hb hm hc hd)) R) : Ev (fun k => snap_Load k (H6 hm ha' EB hm hc' EB)) R := by
  obtain ⟨o, hto⟩ := tell_ex (ha ++ hb).data.toList (by rw [size_toList, ByteArray.size_append]; have := hsm.a; have := hsm.b; omega)
  have k1 := (Load_both (m := hm) (m' := hm) hsm hto).1
  rw [hok] at k1
  have e1 := h.one k1
  have k2 := (Load_both (m := hm) (m' := hm) hsm' (o := o) (by rw [app_E, eh]; exact hto)).1
  rw [hok', ← e1] at k2
  exact k2
theorem Crashed.gd {m : Int} {a b c d : ByteArray} {hm : Int} {ha hb hc hd : ByteArray} {z n : Int} {pre : List ByteArray} {s t : ByteArray} {v : Int} {a' c' ha' hc' : ByteArray} {pre' : List ByteArray} {s' : ByteArray} {T' : List Txt} {tx : ByteArray} {base : Int} {P : List ByteArray} (h : Crashed m a b c d hm ha hb hc hd z n pre s t v a' c' ha' hc' pre' s' T')
    (hn : ∃ y, Ev (fun k => slots_Load k (S6 m a' EB m c' EB)) (tx, y, 0, ())) (hp : ∃ w, Ev (fun k => snap_Load k (H6 hm ha' EB hm hc' EB)) (base, P, w, 0, ())) (pl : P.length ≤ 1000000) (b0 : n ≤ base) (b1 : base ≤ n + T'.length) :
    Gd (KM (S6 m a' EB m c' EB) (H6 hm ha' EB hm hc' EB) (SL z n pre' s' EB)) tx base P z n T' :=
  ⟨m, a', c', hm, ha', hc', pre', s', rfl, h.sm, h.ok, h.hsm, h.hok, ⟨hn, hp, h.lok, .inl h.w, pl, b0, b1⟩, h.w⟩
def Job (z : Int) (x : KT) (done : Bool) (R : ByteArray → Int → List ByteArray → Int → List Txt → Prop) : Prop :=
  (done = true ∧ ∃ tx base P n T, Gd x tx base P z n T ∧ R tx base P n T) ∨ (done = false ∧ ∀ v, ∃ K' tx base P n T, Ev (fun k => keep_Crash k x v) (K', 0, ()) ∧ Gd K' tx base P z n T ∧ R tx base P n T)
section
variable {K : KT} {tx : ByteArray} {base : Int} {P : List ByteArray} {z n : Int} {T : List Txt} (h : Gd K tx base P z n T)
include h
theorem note_job (t : ByteArray) (D : Int) : (∃ x d e, e ≠ 0 ∧ Ev (fun k => keep_Note k K t D) (x, d, e, ())) ∨ ∃ x d, Ev (fun k => keep_Note k K t D) (x, d, 0, ()) ∧ Job z x d (fun tx' base' P' n' T' => base' = base ∧ P' = P ∧ n' = n ∧ T' = T ∧ (tx' = t ∨ d = false ∧ tx' = tx)) := by
  obtain ⟨m, a, c, hm, ha, hc, pre, s, rfl, sm, ok, hsm, hok, ho, hw⟩ := h
  have hsv := Save_ok m a EB m c EB sm t D
  obtain ⟨x, done, e, hx⟩ : ∃ x done e, saveS m a EB m c EB t D = (x, done, e, ()) := ⟨_, _, _, rfl⟩
  rw [hx] at hsv
  by_cases he : e = 0
  case neg => exact .inl ⟨_, _, e, he, (ho.noted hsv).1 he⟩
  subst he
  refine .inr ⟨_, _, (ho.noted hsv).2 rfl, ?_⟩
  obtain ⟨y0, hl0⟩ := ho.note
  obtain ⟨w0, hp0⟩ := ho.pic
  have k0 := Load_ok m a EB m c EB sm
  rw [loadS_ok m a EB m c EB ok] at k0
  have etx : tx = mkB (bestS a EB c EB).1 := congrArg Prod.fst (hl0.one k0)
  have tells : ∀ {a' c' : ByteArray}, smallS a' EB c' EB → okS m a' EB m c' EB = true → ∃ y, Ev (fun k => slots_Load k (S6 m a' EB m c' EB)) (mkB (bestS a' EB c' EB).1, y, 0, ()) := fun {a' c'} g1 g2 => by
    have k := Load_ok m a' EB m c' EB g1
    rw [loadS_ok m a' EB m c' EB g2] at k
    exact ⟨_, k⟩
  cases done with
  | true =>
    left
    refine ⟨rfl, ?_⟩
    obtain ⟨_, a', c', sm', g', ⟨b2, d2, a2, c2, rfl, sm2, hcr⟩, hor⟩ := save_crash m a c m sm t D 0 hx
    rcases hor with ⟨h1, h2⟩ | ⟨h1, _⟩
    case inr => cases h1
    rcases save_cases m a EB m c EB t D with ⟨e, he, q⟩ | ⟨g, _, ht, hb, hsz, hcases⟩
    · rw [q] at hx
      exact absurd (congrArg (fun z : ST × (Bool × (Int × Unit)) => z.2.2.1) hx) he
    have bn := best_new a EB c EB t hb ht
    have hz := next_len (bestS a EB c EB).2.1 t
    have hE : EB.size = 0 := EB_size
    obtain ⟨q1, q2, q3, q4⟩ := sm
    rcases hcases with ⟨_, q⟩ | ⟨_, _, q⟩ | ⟨_, _, q⟩ | ⟨_, _, h4, q⟩ | ⟨_, _, h4, q⟩ <;> rw [q] at hx
    · cases congrArg (fun z : ST × (Bool × (Int × Unit)) => z.2.1) hx
    · cases congrArg (fun z : ST × (Bool × (Int × Unit)) => z.2.1) hx
    · cases congrArg (fun z : ST × (Bool × (Int × Unit)) => z.2.1) hx
    · have ex : S6 m a EB m (nextB (bestS a EB c EB).2.1 t) EB = S6 m a2 b2 m c2 d2 := congrArg Prod.fst hx
      rw [← ex]
      have g2 : okS m a EB m (nextB (bestS a EB c EB).2.1 t) EB = true := okS_new0 g (by omega)
      have sm3 : smallS a EB (nextB (bestS a EB c EB).2.1 t) EB := ⟨q1, q2, by omega, q4⟩
      have tl := tells sm3 g2
      rw [(bn.1 h4).1 _ EB (app_E _)] at tl
      have tl : ∃ y, Ev (fun k => slots_Load k (S6 m a EB m (nextB (bestS a EB c EB).2.1 t) EB)) (mkB t.data.toList, y, 0, ()) := tl
      rw [mkB_of] at tl
      exact ⟨t, base, P, n, T, ⟨m, a, _, hm, ha, hc, pre, s, rfl, sm3, g2, hsm, hok, ⟨tl, ho.pic, ho.lok, ho.tells, ho.pl, ho.b0, ho.b1⟩, hw⟩, rfl, rfl, rfl, rfl, .inl rfl⟩
    · have ex : S6 m (nextB (bestS a EB c EB).2.1 t) EB m c EB = S6 m a2 b2 m c2 d2 := congrArg Prod.fst hx
      rw [← ex]
      have g2 : okS m (nextB (bestS a EB c EB).2.1 t) EB m c EB = true := okS_new1 g (by omega)
      have sm3 : smallS (nextB (bestS a EB c EB).2.1 t) EB c EB := ⟨by omega, q2, q3, q4⟩
      have tl := tells sm3 g2
      rw [(bn.2 h4).1 _ EB (app_E _)] at tl
      have tl : ∃ y, Ev (fun k => slots_Load k (S6 m (nextB (bestS a EB c EB).2.1 t) EB m c EB)) (mkB t.data.toList, y, 0, ()) := tl
      rw [mkB_of] at tl
      exact ⟨t, base, P, n, T, ⟨m, _, c, hm, ha, hc, pre, s, rfl, sm3, g2, hsm, hok, ⟨tl, ho.pic, ho.lok, ho.tells, ho.pl, ho.b0, ho.b1⟩, hw⟩, rfl, rfl, rfl, rfl, .inl rfl⟩
  | false =>
    right
    refine ⟨rfl, fun v => ?_⟩
    obtain ⟨_, a', c', sm', g', ⟨b2, d2, a2, c2, rfl, sm2, hcr⟩, hor⟩ := save_crash m a c m sm t D v hx
    have ok2 : okS m a2 b2 m c2 d2 = true := by
      cases g : okS m a2 b2 m c2 d2 with
      | true => rfl
      | false =>
        unfold crashS at hcr
        rw [g] at hcr
        have : (1 : Int) = 0 := congrArg (fun q : ST × (Int × Unit) => q.2.1) hcr
        cases this
    obtain ⟨a3, c3, ha3, hc3, pre3, s3, T3, hC⟩ := crashed sm2 ok2 hsm hok ho.lok v
    have e3 : crashS m a2 b2 m c2 d2 v = (S6 m a3 EB m c3 EB, 0, ()) := by unfold crashS; rw [ok2, hC.ea, hC.ec]; rfl
    have e4 : S6 m a3 EB m c3 EB = S6 m a' EB m c' EB := congrArg Prod.fst (e3.symm.trans hcr)
    have ea : a3 = a' := congrArg (fun q : ST => q.2.1) e4
    have ec : c3 = c' := congrArg (fun q : ST => q.2.2.2.2.1) e4
    subst ea ec
    have eT : T3 = T := hC.et (by have := leftN_le v EB.size; have := EB_size; omega) T (.inl hw)
    subst eT
    have eh : ha3 = ha ++ EB := by rw [hC.eh, ext_E]
    have hp := pic_same hsm hok hC.hsm hC.hok eh hp0
    have g := hC.gd (tells sm' g') ⟨_, hp⟩ ho.pl ho.b0 ho.b1
    refine ⟨_, _, _, _, _, _, hC.ev, g, rfl, rfl, rfl, rfl, ?_⟩
    rcases hor with ⟨h1, _⟩ | ⟨_, h2⟩
    · left; rw [h1, mkB_of]
    · right; exact ⟨rfl, by rw [h2, etx]⟩
end
theorem push_eq2 (l : List ByteArray) : keep_Push_l2 l = keep_Push_l3 l := rfl
theorem push_eq1 (l : List ByteArray) : keep_Push_l1 l 2 = keep_Push_l3 l := rfl
section
variable {S : ST} {H : HT} {z n : Int} {pre : List ByteArray} {s t tx : ByteArray} {base : Int} {P : List ByteArray} {T : List Txt} (h : Opn S H z n pre s t tx base P T) (l : List ByteArray) {A A' : SegT} {e : Int}
include h
theorem Opn.push0 : Ev (fun k => keep_Push k (KM S H (SL z n pre s t)) l 0) (KM S H (SL z n pre s t), false, 0, ()) := by
  have l1 : Ev (fun k => keep_Push_l1 l 0 k (false, 0, 0, KZ, KM S H (SL z n pre s t), ())) (.exit 0, false, 0, 0, KZ, KM S H (SL z n pre s t), ()) := Ev.step (Ev.f rfl (Ev.now _))
  exact h.go (Ev.bind (cloneF_ev h.lok.len) (Ev.f rfl (Ev.f rfl (Ev.t rfl (Ev.t rfl (Ev.bind l1 (Ev.t rfl (Ev.now _))))))))
theorem Opn.push1 (hA : Ev (fun k => segment_Add k (SL z n pre s t) l) (A, 0, ())) : Ev (fun k => keep_Push k (KM S H (SL z n pre s t)) l 1) (KM S H A, false, 0, ()) := by
  have l2 : Ev (fun k => keep_Push_l1 l 1 k (false, 0, IntKind.i64.wrap (0 + 1), KZ, KM S H A, ())) (.exit 0, false, 0, IntKind.i64.wrap (0 + 1), KZ, KM S H A, ()) := Ev.step (Ev.f rfl (Ev.now _))
  have l1 : Ev (fun k => keep_Push_l1 l 1 k (false, 0, 0, KZ, KM S H (SL z n pre s t), ())) (.exit 0, false, 0, IntKind.i64.wrap (0 + 1), KZ, KM S H A, ()) := Ev.step (Ev.t rfl (Ev.t rfl (Ev.t rfl (Ev.t rfl (Ev.bind hA (Ev.f rfl l2))))))
  exact h.go (Ev.bind (cloneF_ev h.lok.len) (Ev.f rfl (Ev.f rfl (Ev.t rfl (Ev.t rfl (Ev.bind l1 (Ev.t rfl (Ev.now _))))))))
theorem Opn.push_all {D : Int} (hD : D < 0 ∨ 2 ≤ D) (hA : Ev (fun k => segment_Add k (SL z n pre s t) l) (A, 0, ())) (hS : Ev (fun k => segment_Sync k A) (A', 0, ())) : Ev (fun k => keep_Push k (KM S H (SL z n pre s t)) l D) (KM S H A', true, 0, ()) := by
  have end3 : Ev (fun k => keep_Push_l3 l k (false, 0, IntKind.i64.wrap (IntKind.i64.wrap (0 + 1) + 1), KZ, KM S H A', ())) (.exit 0, false, 0, IntKind.i64.wrap (IntKind.i64.wrap (0 + 1) + 1), KZ, KM S H A', ()) := Ev.step (Ev.f rfl (Ev.now _))
  have l2 : Ev (fun k => keep_Push_l3 l k (false, 0, IntKind.i64.wrap (0 + 1), KZ, KM S H A, ())) (.exit 0, false, 0, IntKind.i64.wrap (IntKind.i64.wrap (0 + 1) + 1), KZ, KM S H A', ()) := Ev.step (Ev.t rfl (Ev.t rfl (Ev.t rfl (Ev.f rfl (Ev.t rfl (Ev.bind hS (Ev.f rfl end3)))))))
  have l1 : Ev (fun k => keep_Push_l3 l k (false, 0, 0, KZ, KM S H (SL z n pre s t), ())) (.exit 0, false, 0, IntKind.i64.wrap (IntKind.i64.wrap (0 + 1) + 1), KZ, KM S H A', ()) := Ev.step (Ev.t rfl (Ev.t rfl (Ev.t rfl (Ev.t rfl (Ev.bind hA (Ev.f rfl l2))))))
  by_cases c1 : D < 0
  · exact h.go (Ev.bind (cloneF_ev h.lok.len) (Ev.dt c1 (Ev.bind l1 (Ev.t rfl (Ev.now _)))))
  · by_cases c2 : D > 2
    · rw [← push_eq2] at l1
      exact h.go (Ev.bind (cloneF_ev h.lok.len) (Ev.df c1 (Ev.dt c2 (Ev.bind l1 (Ev.t rfl (Ev.now _))))))
    · obtain rfl : D = 2 := by omega
      rw [← push_eq1] at l1
      exact h.go (Ev.bind (cloneF_ev h.lok.len) (Ev.f rfl (Ev.f rfl (Ev.t rfl (Ev.t rfl (Ev.bind l1 (Ev.t rfl (Ev.now _))))))))
theorem Opn.push_err {D : Int} (hD : D ≠ 0) (hA : Ev (fun k => segment_Add k (SL z n pre s t) l) (A, e, ())) (he : e ≠ 0) : Ev (fun k => keep_Push k (KM S H (SL z n pre s t)) l D) (KZ, false, e, ()) := by
  have l1 : Ev (fun k => keep_Push_l3 l k (false, 0, 0, KZ, KM S H (SL z n pre s t), ())) (.ret, false, e, 0, KZ, KM S H A, ()) := Ev.step (Ev.t rfl (Ev.t rfl (Ev.t rfl (Ev.t rfl (Ev.bind hA (Ev.t (nbne_i he) (Ev.now _)))))))
  by_cases c1 : D < 0
  · exact h.go (Ev.bind (cloneF_ev h.lok.len) (Ev.dt c1 (Ev.bind l1 (Ev.now _))))
  · by_cases c2 : D > 2
    · rw [← push_eq2] at l1
      exact h.go (Ev.bind (cloneF_ev h.lok.len) (Ev.df c1 (Ev.dt c2 (Ev.bind l1 (Ev.now _)))))
    · by_cases c3 : D = 2
      · subst c3
        rw [← push_eq1] at l1
        exact h.go (Ev.bind (cloneF_ev h.lok.len) (Ev.f rfl (Ev.f rfl (Ev.t rfl (Ev.t rfl (Ev.bind l1 (Ev.now _)))))))
      · obtain rfl : D = 1 := by omega
        have l1 : Ev (fun k => keep_Push_l1 l 1 k (false, 0, 0, KZ, KM S H (SL z n pre s t), ())) (.ret, false, e, 0, KZ, KM S H A, ()) := Ev.step (Ev.t rfl (Ev.t rfl (Ev.t rfl (Ev.t rfl (Ev.bind hA (Ev.t (nbne_i he) (Ev.now _)))))))
        exact h.go (Ev.bind (cloneF_ev h.lok.len) (Ev.f rfl (Ev.f rfl (Ev.t rfl (Ev.t rfl (Ev.bind l1 (Ev.now _)))))))
end
theorem Whole.str {z n : Int} {pre : List ByteArray} {s : ByteArray} {T : List Txt} (h : Whole n (files z pre s EB) T) : ∃ ps B0, Str n pre s EB ps B0 [] ∧ T = ps.flatten ++ (B0 ++ []) := by
  obtain ⟨ps, hc, ho, rfl⟩ := h
  have hne : ps ≠ [] := by rintro rfl; rw [files_cont] at hc; simp [filesB] at hc
  obtain ⟨qs, l, rfl⟩ : ∃ qs l, ps = qs ++ [l] := ⟨ps.dropLast, ps.getLast hne, (List.dropLast_concat_getLast hne).symm⟩
  obtain ⟨p1, p2, _⟩ := (partsOk_app n qs [l]).1 ho
  rw [files_cont, filesB_app] at hc
  obtain ⟨c1, c2⟩ := List.append_inj' hc rfl
  rw [app_E] at c2
  have c2 : s.data.toList = recsB (n + qs.flatten.length) l := by
    have : [s.data.toList] = [recsB (n + qs.flatten.length) l] := c2
    injection this
  exact ⟨qs, l, ⟨c1, p1, by rw [← c2, mkB_of], p2, rfl, trivial⟩, by rw [flat_last, List.append_nil]⟩
theorem Str.cut {z n : Int} {pre : List ByteArray} {s u : ByteArray} {ps : List (List Txt)} {C0 C1 : List Txt} (SC : Str n pre s u ps C0 C1) (j : Nat) :
    ∃ i, i ≤ C1.length ∧ (Whole n (files z pre (s ++ u.extract 0 j) EB) (ps.flatten ++ (C0 ++ C1.take i)) ∨ Broken n (files z pre (s ++ u.extract 0 j) EB) (ps.flatten ++ (C0 ++ C1.take i))) := by
  obtain ⟨i, rest, hi, hs⟩ := scan_part SC.ou j
  obtain ⟨Y, hY⟩ : ∃ Y, s ++ u.extract 0 j = Y := ⟨_, rfl⟩
  rw [hY]
  have eY : contF (F z Y EB) = recsB (n + ps.flatten.length) C0 ++ (recsB (n + ps.flatten.length + C0.length) C1).take j := by
    rw [contF_pre, ← hY, bytes_append, SC.s, SC.u, bytes_extract, List.drop_zero]; rfl
  have hsc : ScanIs (contF (F z Y EB)) (n + ps.flatten.length) (C0 ++ C1.take i) rest := by rw [eY]; exact scan_behind SC.os hs
  refine ⟨i, hi, ?_⟩
  by_cases hr : rest = []
  · subst hr
    left
    refine ⟨ps ++ [C0 ++ C1.take i], ?_, (partsOk_app n ps _).2 ⟨SC.o, hsc.1, trivial⟩, by rw [flat_last]⟩
    rw [files_cont, SC.p, filesB_app]
    have := hsc.2.1
    rw [List.append_nil, contF_pre] at this
    rw [app_E, this]; rfl
  · right
    refine ⟨pre.map (fun x => F z x EB), F z Y EB, [], ps, C0 ++ C1.take i, rest, rfl, ?_, SC.o, hsc, hr, rfl⟩
    rw [← SC.p, pre_cont]
section
variable {K : KT} {tx : ByteArray} {base : Int} {P : List ByteArray} {z n : Int} {T : List Txt} (h : Gd K tx base P z n T)
include h
theorem push_job (L : List Txt) (hL : L.length ≤ 1000) (D : Int) : (∃ x d e, e ≠ 0 ∧ Ev (fun k => keep_Push k K (L.map mkB) D) (x, d, e, ())) ∨ ∃ x d, Ev (fun k => keep_Push k K (L.map mkB) D) (x, d, 0, ()) ∧ Job z x d (fun tx' base' P' n' T' => tx' = tx ∧ base' = base ∧ P' = P ∧ n' = n ∧ (∃ i, T' = T ++ (if D = 0 then [] else L.take i)) ∧ (d = true → D ≠ 0 ∧ T' = T ++ L)) := by
  have hg := h
  obtain ⟨m, a, c, hm, ha, hc, pre, s, rfl, sm, ok, hsm, hok, ho, hw⟩ := h
  by_cases hD : D = 0
  · subst hD
    refine .inr ⟨_, _, ho.push0 _, .inr ⟨rfl, fun v => ⟨_, _, _, _, _, _, hg.crash v, hg, rfl, rfl, rfl, rfl, ⟨0, ?_⟩, fun q => by cases q⟩⟩⟩
    rw [if_pos rfl, List.append_nil]
  obtain ⟨x, y, sc⟩ := hw.scan ho.lok
  have hl := ho.tl
  have n1 := ho.lok.n1
  have add := Add_good ho.lok sc (by rw [List.length_map]; omega) L hL
  rw [List.length_map] at add
  by_cases q : (runA z (n + T.length) L (pre, s, EB)).1 = 0
  case neg => exact .inl ⟨_, _, _, q, ho.push_err _ hD (add.2 q) q⟩
  right
  by_cases h1 : D = 1
  · subst h1
    refine ⟨_, _, ho.push1 _ (add.1 q), .inr ⟨rfl, fun v => ?_⟩⟩
    obtain ⟨ps, B0, st, eT⟩ := hw.str
    have run := Str.run (z := z) (n := n) L (pre, s, EB) ps B0 [] ho.lok st (by rw [← eT]; omega)
    rw [← eT] at run
    obtain ⟨qs, C0, C1, okC, SC, TC, hge⟩ := run q
    obtain ⟨σ, hσ⟩ : ∃ σ, (runA z (n + T.length) L (pre, s, EB)).2 = σ := ⟨_, rfl⟩
    rw [hσ] at okC SC ⊢
    obtain ⟨pre3, s3, u3⟩ := σ
    have okC : okL z n pre3 s3 u3 := okC
    have SC : Str n pre3 s3 u3 qs C0 C1 := SC
    obtain ⟨a', c', ha', hc', pre', s', T', hC⟩ := crashed sm ok hsm hok okC v
    obtain ⟨i, hi0, hi⟩ := SC.cut (z := z) (leftN v u3.size)
    have eT' := tells_one (okC.crash v) hC.tl hi
    have ea : a' = a := by rw [hC.ea, ext_E, app_E]
    have ec : c' = c := by rw [hC.ec, ext_E, app_E]
    have eh : ha' = ha ++ EB := by rw [hC.eh, ext_E]
    obtain ⟨w0, hp0⟩ := ho.pic
    have hp := pic_same hsm hok hC.hsm hC.hok eh hp0
    subst ea ec
    have hlen : T.length = ps.flatten.length + B0.length := by rw [eT]; simp
    -- the beginning
    have pfx : ∃ j, T' = T ++ L.take j := by
      have hU : T' = (T ++ L).take T'.length := by
        rw [← TC, eT', List.take_append, List.take_append]
        rw [List.take_of_length_le (l := qs.flatten) (by simp), List.take_of_length_le (l := C0) (by simp)]
        congr 2
        simp only [List.length_append, List.length_take]
        congr 1
        omega
      have lo : T.length ≤ T'.length := by rw [eT']; simp only [List.length_append]; omega
      refine ⟨T'.length - T.length, ?_⟩
      rw [List.take_append, List.take_of_length_le lo] at hU
      exact hU
    obtain ⟨j, hj⟩ := pfx
    have b1 : base ≤ n + T'.length := by have := ho.b1; rw [hj, List.length_append]; omega
    have g := hC.gd ho.note ⟨_, hp⟩ ho.pl ho.b0 b1
    exact ⟨_, _, _, _, _, _, hC.ev, g, rfl, rfl, rfl, rfl, ⟨j, by rw [if_neg (by decide)]; exact hj⟩, fun q => by cases q⟩
  · have p := (ho.pushed hw L hL).2 q
    obtain ⟨_, p2, p3⟩ := p
    obtain ⟨σ, hσ⟩ : ∃ σ, (runA z (n + T.length) L (pre, s, EB)).2 = σ := ⟨_, rfl⟩
    have hA := add.1 q
    obtain ⟨ps, c1, c2, e0⟩ := hw
    have kk := runA_whole L (pre, s, EB) ps ho.lok c1 c2 (by rw [← e0]; omega) (by rw [← e0]; exact q)
    rw [← e0] at kk
    obtain ⟨k1, k2⟩ := kk
    rw [hσ] at hA p2 p3 k1
    have ev := ho.push_all _ (by omega : D < 0 ∨ 2 ≤ D) hA (SSync_ok k1)
    refine ⟨_, _, ev, .inl ⟨rfl, _, _, _, _, _, ⟨m, a, c, hm, ha, hc, _, _, rfl, sm, ok, hsm, hok, p2, p3⟩, rfl, rfl, rfl, rfl, ⟨L.length, by rw [if_neg hD, List.take_length]⟩, fun _ => ⟨hD, rfl⟩⟩⟩
end
theorem snap_eq2 (K : KT) (u : Int) (l : List ByteArray) : keep_Snap_l2 K u l = keep_Snap_l3 K u l := rfl
theorem snap_eq1 (K : KT) (u : Int) (l : List ByteArray) : keep_Snap_l1 K u l 5 = keep_Snap_l3 K u l := rfl
section
variable {S : ST} {H : HT} {z n : Int} {pre : List ByteArray} {s t tx : ByteArray} {base : Int} {P : List ByteArray} {T : List Txt} (h : Opn S H z n pre s t tx base P T) {u : Int} {l : List ByteArray} (hu : base ≤ u ∧ u ≤ n + T.length) {X X1 X2 X3 : HT} {w w1 w2 w3 : Bool} (hs : Ev (fun k => snap_Save k H u l (-1)) (X, w, 0, ())) (hs1 : Ev (fun k => snap_Save k H u l 1) (X1, w1, 0, ())) (hs2 : Ev (fun k => snap_Save k H u l 2) (X2, w2, 0, ())) (hs3 : Ev (fun k => snap_Save k H u l 3) (X3, w3, 0, ()))
include h hu hs
theorem Opn.snap0 : Ev (fun k => keep_Snap k (KM S H (SL z n pre s t)) u l 0) (KM S H (SL z n pre s t), false, 0, ()) := by
  obtain ⟨w1, h2⟩ := h.pic
  have l0 : Ev (fun k => keep_Snap_l1 (KM S H (SL z n pre s t)) u l 0 k (false, 0, 0, KZ, KM S H (SL z n pre s t), ())) (.exit 0, false, 0, 0, KZ, KM S H (SL z n pre s t), ()) := Ev.step (Ev.f rfl (Ev.now _))
  exact h.go (Ev.bind (cloneF_ev h.lok.len) (Ev.bind (base_ev h2) (Ev.df (by show ¬ u < base; omega) (Ev.bind (end_ev h.lok h.tells) (Ev.df (by show ¬ u > n + (T.length : Int); omega) (Ev.bind hs (Ev.f rfl (Ev.f rfl (Ev.f rfl (Ev.t rfl (Ev.t rfl (Ev.bind l0 (Ev.t rfl (Ev.now _))))))))))))))
theorem Opn.snap1 : Ev (fun k => keep_Snap k (KM S H (SL z n pre s t)) u l 1) (KM S H (SL z n pre (s ++ t) EB), false, 0, ()) := by
  obtain ⟨w1, h2⟩ := h.pic
  have l1 : Ev (fun k => keep_Snap_l1 (KM S H (SL z n pre s t)) u l 1 k (false, 0, IntKind.i64.wrap (0 + 1), KZ, KM S H (SL z n pre (s ++ t) EB), ())) (.exit 0, false, 0, IntKind.i64.wrap (0 + 1), KZ, KM S H (SL z n pre (s ++ t) EB), ()) := Ev.step (Ev.f rfl (Ev.now _))
  have l0 : Ev (fun k => keep_Snap_l1 (KM S H (SL z n pre s t)) u l 1 k (false, 0, 0, KZ, KM S H (SL z n pre s t), ())) (.exit 0, false, 0, IntKind.i64.wrap (0 + 1), KZ, KM S H (SL z n pre (s ++ t) EB), ()) := Ev.step (Ev.t rfl (Ev.t rfl (Ev.t rfl (Ev.t rfl (Ev.bind (SSync_ok h.lok) (Ev.f rfl l1))))))
  exact h.go (Ev.bind (cloneF_ev h.lok.len) (Ev.bind (base_ev h2) (Ev.df (by show ¬ u < base; omega) (Ev.bind (end_ev h.lok h.tells) (Ev.df (by show ¬ u > n + (T.length : Int); omega) (Ev.bind hs (Ev.f rfl (Ev.f rfl (Ev.f rfl (Ev.t rfl (Ev.t rfl (Ev.bind l0 (Ev.t rfl (Ev.now _))))))))))))))
include hs1 in
theorem Opn.snap2 : Ev (fun k => keep_Snap k (KM S H (SL z n pre s t)) u l 2) (KM S X1 (SL z n pre (s ++ t) EB), false, 0, ()) := by
  obtain ⟨w1, h2⟩ := h.pic
  have l2 : Ev (fun k => keep_Snap_l1 (KM S H (SL z n pre s t)) u l 2 k (false, 0, IntKind.i64.wrap (IntKind.i64.wrap (0 + 1) + 1), KZ, KM S X1 (SL z n pre (s ++ t) EB), ())) (.exit 0, false, 0, IntKind.i64.wrap (IntKind.i64.wrap (0 + 1) + 1), KZ, KM S X1 (SL z n pre (s ++ t) EB), ()) := Ev.step (Ev.f rfl (Ev.now _))
  have l1 : Ev (fun k => keep_Snap_l1 (KM S H (SL z n pre s t)) u l 2 k (false, 0, IntKind.i64.wrap (0 + 1), KZ, KM S H (SL z n pre (s ++ t) EB), ())) (.exit 0, false, 0, IntKind.i64.wrap (IntKind.i64.wrap (0 + 1) + 1), KZ, KM S X1 (SL z n pre (s ++ t) EB), ()) := Ev.step (Ev.t rfl (Ev.t rfl (Ev.t rfl (Ev.f rfl (Ev.t rfl (Ev.bind (hs1) (Ev.f rfl l2)))))))
  have l0 : Ev (fun k => keep_Snap_l1 (KM S H (SL z n pre s t)) u l 2 k (false, 0, 0, KZ, KM S H (SL z n pre s t), ())) (.exit 0, false, 0, IntKind.i64.wrap (IntKind.i64.wrap (0 + 1) + 1), KZ, KM S X1 (SL z n pre (s ++ t) EB), ()) := Ev.step (Ev.t rfl (Ev.t rfl (Ev.t rfl (Ev.t rfl (Ev.bind (SSync_ok h.lok) (Ev.f rfl l1))))))
  exact h.go (Ev.bind (cloneF_ev h.lok.len) (Ev.bind (base_ev h2) (Ev.df (by show ¬ u < base; omega) (Ev.bind (end_ev h.lok h.tells) (Ev.df (by show ¬ u > n + (T.length : Int); omega) (Ev.bind hs (Ev.f rfl (Ev.f rfl (Ev.f rfl (Ev.t rfl (Ev.t rfl (Ev.bind l0 (Ev.t rfl (Ev.now _))))))))))))))
include hs1 hs2 in
theorem Opn.snap3 : Ev (fun k => keep_Snap k (KM S H (SL z n pre s t)) u l 3) (KM S X2 (SL z n pre (s ++ t) EB), false, 0, ()) := by
  obtain ⟨w1, h2⟩ := h.pic
  have l3 : Ev (fun k => keep_Snap_l1 (KM S H (SL z n pre s t)) u l 3 k (false, 0, IntKind.i64.wrap (IntKind.i64.wrap (IntKind.i64.wrap (0 + 1) + 1) + 1), KZ, KM S X2 (SL z n pre (s ++ t) EB), ())) (.exit 0, false, 0, IntKind.i64.wrap (IntKind.i64.wrap (IntKind.i64.wrap (0 + 1) + 1) + 1), KZ, KM S X2 (SL z n pre (s ++ t) EB), ()) := Ev.step (Ev.f rfl (Ev.now _))
  have l2 : Ev (fun k => keep_Snap_l1 (KM S H (SL z n pre s t)) u l 3 k (false, 0, IntKind.i64.wrap (IntKind.i64.wrap (0 + 1) + 1), KZ, KM S X1 (SL z n pre (s ++ t) EB), ())) (.exit 0, false, 0, IntKind.i64.wrap (IntKind.i64.wrap (IntKind.i64.wrap (0 + 1) + 1) + 1), KZ, KM S X2 (SL z n pre (s ++ t) EB), ()) := Ev.step (Ev.t rfl (Ev.t rfl (Ev.t rfl (Ev.f rfl (Ev.f rfl (Ev.t rfl (Ev.bind (hs2) (Ev.f rfl l3))))))))
  have l1 : Ev (fun k => keep_Snap_l1 (KM S H (SL z n pre s t)) u l 3 k (false, 0, IntKind.i64.wrap (0 + 1), KZ, KM S H (SL z n pre (s ++ t) EB), ())) (.exit 0, false, 0, IntKind.i64.wrap (IntKind.i64.wrap (IntKind.i64.wrap (0 + 1) + 1) + 1), KZ, KM S X2 (SL z n pre (s ++ t) EB), ()) := Ev.step (Ev.t rfl (Ev.t rfl (Ev.t rfl (Ev.f rfl (Ev.t rfl (Ev.bind (hs1) (Ev.f rfl l2)))))))
  have l0 : Ev (fun k => keep_Snap_l1 (KM S H (SL z n pre s t)) u l 3 k (false, 0, 0, KZ, KM S H (SL z n pre s t), ())) (.exit 0, false, 0, IntKind.i64.wrap (IntKind.i64.wrap (IntKind.i64.wrap (0 + 1) + 1) + 1), KZ, KM S X2 (SL z n pre (s ++ t) EB), ()) := Ev.step (Ev.t rfl (Ev.t rfl (Ev.t rfl (Ev.t rfl (Ev.bind (SSync_ok h.lok) (Ev.f rfl l1))))))
  exact h.go (Ev.bind (cloneF_ev h.lok.len) (Ev.bind (base_ev h2) (Ev.df (by show ¬ u < base; omega) (Ev.bind (end_ev h.lok h.tells) (Ev.df (by show ¬ u > n + (T.length : Int); omega) (Ev.bind hs (Ev.f rfl (Ev.f rfl (Ev.f rfl (Ev.t rfl (Ev.t rfl (Ev.bind l0 (Ev.t rfl (Ev.now _))))))))))))))
include hs1 hs2 hs3 in
theorem Opn.snap4 : Ev (fun k => keep_Snap k (KM S H (SL z n pre s t)) u l 4) (KM S X3 (SL z n pre (s ++ t) EB), false, 0, ()) := by
  obtain ⟨w1, h2⟩ := h.pic
  have l4 : Ev (fun k => keep_Snap_l1 (KM S H (SL z n pre s t)) u l 4 k (false, 0, IntKind.i64.wrap (IntKind.i64.wrap (IntKind.i64.wrap (IntKind.i64.wrap (0 + 1) + 1) + 1) + 1), KZ, KM S X3 (SL z n pre (s ++ t) EB), ())) (.exit 0, false, 0, IntKind.i64.wrap (IntKind.i64.wrap (IntKind.i64.wrap (IntKind.i64.wrap (0 + 1) + 1) + 1) + 1), KZ, KM S X3 (SL z n pre (s ++ t) EB), ()) := Ev.step (Ev.f rfl (Ev.now _))
  have l3 : Ev (fun k => keep_Snap_l1 (KM S H (SL z n pre s t)) u l 4 k (false, 0, IntKind.i64.wrap (IntKind.i64.wrap (IntKind.i64.wrap (0 + 1) + 1) + 1), KZ, KM S X2 (SL z n pre (s ++ t) EB), ())) (.exit 0, false, 0, IntKind.i64.wrap (IntKind.i64.wrap (IntKind.i64.wrap (IntKind.i64.wrap (0 + 1) + 1) + 1) + 1), KZ, KM S X3 (SL z n pre (s ++ t) EB), ()) := Ev.step (Ev.t rfl (Ev.t rfl (Ev.t rfl (Ev.f rfl (Ev.f rfl (Ev.f rfl (Ev.t rfl (Ev.bind (hs3) (Ev.f rfl l4)))))))))
  have l2 : Ev (fun k => keep_Snap_l1 (KM S H (SL z n pre s t)) u l 4 k (false, 0, IntKind.i64.wrap (IntKind.i64.wrap (0 + 1) + 1), KZ, KM S X1 (SL z n pre (s ++ t) EB), ())) (.exit 0, false, 0, IntKind.i64.wrap (IntKind.i64.wrap (IntKind.i64.wrap (IntKind.i64.wrap (0 + 1) + 1) + 1) + 1), KZ, KM S X3 (SL z n pre (s ++ t) EB), ()) := Ev.step (Ev.t rfl (Ev.t rfl (Ev.t rfl (Ev.f rfl (Ev.f rfl (Ev.t rfl (Ev.bind (hs2) (Ev.f rfl l3))))))))
  have l1 : Ev (fun k => keep_Snap_l1 (KM S H (SL z n pre s t)) u l 4 k (false, 0, IntKind.i64.wrap (0 + 1), KZ, KM S H (SL z n pre (s ++ t) EB), ())) (.exit 0, false, 0, IntKind.i64.wrap (IntKind.i64.wrap (IntKind.i64.wrap (IntKind.i64.wrap (0 + 1) + 1) + 1) + 1), KZ, KM S X3 (SL z n pre (s ++ t) EB), ()) := Ev.step (Ev.t rfl (Ev.t rfl (Ev.t rfl (Ev.f rfl (Ev.t rfl (Ev.bind (hs1) (Ev.f rfl l2)))))))
  have l0 : Ev (fun k => keep_Snap_l1 (KM S H (SL z n pre s t)) u l 4 k (false, 0, 0, KZ, KM S H (SL z n pre s t), ())) (.exit 0, false, 0, IntKind.i64.wrap (IntKind.i64.wrap (IntKind.i64.wrap (IntKind.i64.wrap (0 + 1) + 1) + 1) + 1), KZ, KM S X3 (SL z n pre (s ++ t) EB), ()) := Ev.step (Ev.t rfl (Ev.t rfl (Ev.t rfl (Ev.t rfl (Ev.bind (SSync_ok h.lok) (Ev.f rfl l1))))))
  exact h.go (Ev.bind (cloneF_ev h.lok.len) (Ev.bind (base_ev h2) (Ev.df (by show ¬ u < base; omega) (Ev.bind (end_ev h.lok h.tells) (Ev.df (by show ¬ u > n + (T.length : Int); omega) (Ev.bind hs (Ev.f rfl (Ev.f rfl (Ev.f rfl (Ev.t rfl (Ev.t rfl (Ev.bind l0 (Ev.t rfl (Ev.now _))))))))))))))
include hs1 hs2 hs3 in
theorem Opn.snap_full {G : SegT} (hd : Ev (fun k => segment_Drop k (SL z n pre (s ++ t) EB) u) (G, 0, ())) {D : Int} (hD : D < 0 ∨ 5 ≤ D) : Ev (fun k => keep_Snap k (KM S H (SL z n pre s t)) u l D) (KM S X3 G, true, 0, ()) := by
  obtain ⟨w1, h2⟩ := h.pic
  have l5 : Ev (fun k => keep_Snap_l3 (KM S H (SL z n pre s t)) u l k (false, 0, IntKind.i64.wrap (IntKind.i64.wrap (IntKind.i64.wrap (IntKind.i64.wrap (IntKind.i64.wrap (0 + 1) + 1) + 1) + 1) + 1), KZ, KM S X3 G, ())) (.exit 0, false, 0, IntKind.i64.wrap (IntKind.i64.wrap (IntKind.i64.wrap (IntKind.i64.wrap (IntKind.i64.wrap (0 + 1) + 1) + 1) + 1) + 1), KZ, KM S X3 G, ()) := Ev.step (Ev.f rfl (Ev.now _))
  have l4 : Ev (fun k => keep_Snap_l3 (KM S H (SL z n pre s t)) u l k (false, 0, IntKind.i64.wrap (IntKind.i64.wrap (IntKind.i64.wrap (IntKind.i64.wrap (0 + 1) + 1) + 1) + 1), KZ, KM S X3 (SL z n pre (s ++ t) EB), ())) (.exit 0, false, 0, IntKind.i64.wrap (IntKind.i64.wrap (IntKind.i64.wrap (IntKind.i64.wrap (IntKind.i64.wrap (0 + 1) + 1) + 1) + 1) + 1), KZ, KM S X3 G, ()) := Ev.step (Ev.t rfl (Ev.t rfl (Ev.t rfl (Ev.f rfl (Ev.f rfl (Ev.f rfl (Ev.f rfl (Ev.t rfl (Ev.bind (hd) (Ev.f rfl l5))))))))))
  have l3 : Ev (fun k => keep_Snap_l3 (KM S H (SL z n pre s t)) u l k (false, 0, IntKind.i64.wrap (IntKind.i64.wrap (IntKind.i64.wrap (0 + 1) + 1) + 1), KZ, KM S X2 (SL z n pre (s ++ t) EB), ())) (.exit 0, false, 0, IntKind.i64.wrap (IntKind.i64.wrap (IntKind.i64.wrap (IntKind.i64.wrap (IntKind.i64.wrap (0 + 1) + 1) + 1) + 1) + 1), KZ, KM S X3 G, ()) := Ev.step (Ev.t rfl (Ev.t rfl (Ev.t rfl (Ev.f rfl (Ev.f rfl (Ev.f rfl (Ev.t rfl (Ev.bind (hs3) (Ev.f rfl l4)))))))))
  have l2 : Ev (fun k => keep_Snap_l3 (KM S H (SL z n pre s t)) u l k (false, 0, IntKind.i64.wrap (IntKind.i64.wrap (0 + 1) + 1), KZ, KM S X1 (SL z n pre (s ++ t) EB), ())) (.exit 0, false, 0, IntKind.i64.wrap (IntKind.i64.wrap (IntKind.i64.wrap (IntKind.i64.wrap (IntKind.i64.wrap (0 + 1) + 1) + 1) + 1) + 1), KZ, KM S X3 G, ()) := Ev.step (Ev.t rfl (Ev.t rfl (Ev.t rfl (Ev.f rfl (Ev.f rfl (Ev.t rfl (Ev.bind (hs2) (Ev.f rfl l3))))))))
  have l1 : Ev (fun k => keep_Snap_l3 (KM S H (SL z n pre s t)) u l k (false, 0, IntKind.i64.wrap (0 + 1), KZ, KM S H (SL z n pre (s ++ t) EB), ())) (.exit 0, false, 0, IntKind.i64.wrap (IntKind.i64.wrap (IntKind.i64.wrap (IntKind.i64.wrap (IntKind.i64.wrap (0 + 1) + 1) + 1) + 1) + 1), KZ, KM S X3 G, ()) := Ev.step (Ev.t rfl (Ev.t rfl (Ev.t rfl (Ev.f rfl (Ev.t rfl (Ev.bind (hs1) (Ev.f rfl l2)))))))
  have l0 : Ev (fun k => keep_Snap_l3 (KM S H (SL z n pre s t)) u l k (false, 0, 0, KZ, KM S H (SL z n pre s t), ())) (.exit 0, false, 0, IntKind.i64.wrap (IntKind.i64.wrap (IntKind.i64.wrap (IntKind.i64.wrap (IntKind.i64.wrap (0 + 1) + 1) + 1) + 1) + 1), KZ, KM S X3 G, ()) := Ev.step (Ev.t rfl (Ev.t rfl (Ev.t rfl (Ev.t rfl (Ev.bind (SSync_ok h.lok) (Ev.f rfl l1))))))
  by_cases c1 : D < 0
  · exact h.go (Ev.bind (cloneF_ev h.lok.len) (Ev.bind (base_ev h2) (Ev.df (by show ¬ u < base; omega) (Ev.bind (end_ev h.lok h.tells) (Ev.df (by show ¬ u > n + (T.length : Int); omega) (Ev.bind hs (Ev.f rfl (Ev.dt c1 (Ev.bind l0 (Ev.t rfl (Ev.now _)))))))))))
  · by_cases c2 : D > 5
    · rw [← snap_eq2] at l0
      exact h.go (Ev.bind (cloneF_ev h.lok.len) (Ev.bind (base_ev h2) (Ev.df (by show ¬ u < base; omega) (Ev.bind (end_ev h.lok h.tells) (Ev.df (by show ¬ u > n + (T.length : Int); omega) (Ev.bind hs (Ev.f rfl (Ev.df c1 (Ev.dt c2 (Ev.bind l0 (Ev.t rfl (Ev.now _))))))))))))
    · obtain rfl : D = 5 := by omega
      rw [← snap_eq1] at l0
      exact h.go (Ev.bind (cloneF_ev h.lok.len) (Ev.bind (base_ev h2) (Ev.df (by show ¬ u < base; omega) (Ev.bind (end_ev h.lok h.tells) (Ev.df (by show ¬ u > n + (T.length : Int); omega) (Ev.bind hs (Ev.f rfl (Ev.f rfl (Ev.f rfl (Ev.t rfl (Ev.t rfl (Ev.bind l0 (Ev.t rfl (Ev.now _))))))))))))))
end
section
variable {K : KT} {tx : ByteArray} {base : Int} {P : List ByteArray} {z n : Int} {T : List Txt} (h : Gd K tx base P z n T)
include h
theorem snap_job (u : Int) (L : List Txt) (hL : L.length ≤ 1000) (D : Int) : (∃ x d e, e ≠ 0 ∧ Ev (fun k => keep_Snap k K u (L.map mkB) D) (x, d, e, ())) ∨ ∃ x d, Ev (fun k => keep_Snap k K u (L.map mkB) D) (x, d, 0, ()) ∧
    Job z x d (fun tx' base' P' n' T' => tx' = tx ∧ (∃ dd, T = dd ++ T' ∧ n' = n + (dd.length : Int)) ∧ (base' = u ∧ P' = L.map mkB ∨ d = false ∧ base' = base ∧ P' = P)) := by
  have hg := h
  obtain ⟨m, a, c, hm, ha, hc, pre, s, rfl, sm, ok, hsm, hok, ho, hw⟩ := h
  by_cases hu : base ≤ u ∧ u ≤ n + T.length
  case neg => exact .inl ⟨_, _, 80, by decide, ho.snap_no (by omega)⟩
  have sv := fun D => (Save_both (m := hm) (m' := hm) hsm u L (by omega) D).1
  rcases saveA_all hm ha EB hm hc EB u L with ⟨g, p, hp, hsz, hD⟩ | ⟨e, he, hD⟩
  case inr =>
    have := sv (-1)
    rw [hD] at this
    exact .inl ⟨_, _, e, he, ho.snap_err hu this he⟩
  have sv := fun D => hD D ▸ sv D
  right
  obtain ⟨w0, hp0⟩ := ho.pic
  have nr : nrm 1 = 1 ∧ nrm 2 = 2 ∧ nrm 3 = 3 := ⟨by decide, by decide, by decide⟩
  have sv1 := sv 1
  have sv2 := sv 2
  have sv3 := sv 3
  rw [nr.1] at sv1
  rw [nr.2.1] at sv2
  rw [nr.2.2] at sv3
  have hpz : (((mkB p).size : Nat) : Int) ≤ hm := by rw [mkB_size]; exact hsz
  -- stopped at a deed: the picture is what it was, or the new one
  have stop : ∀ J : Int, 0 ≤ J → J ≤ 3 → ∀ v, ∃ K' tx' base' P' n' T', Ev (fun k => keep_Crash k (KM (S6 m a EB m c EB) (saveJ hm ha EB hm hc EB (mkB p) J) (SL z n pre (s ++ EB) EB)) v) (K', 0, ()) ∧ Gd K' tx' base' P' z n' T' ∧ tx' = tx ∧ (∃ dd, T = dd ++ T' ∧ n' = n + (dd.length : Int)) ∧ (base' = u ∧ P' = L.map mkB ∨ false = false ∧ base' = base ∧ P' = P) := by
    intro J j0 j3 v
    obtain ⟨x, y, zz, ww, e1, e2, e3, _, _, _, _, e8, e9⟩ := saveJ_ok g hpz j0 j3
    rw [e1, app_E]
    obtain ⟨a', c', ha', hc', pre', s', T', hC⟩ := crashed sm ok e3 e2 ho.lok v
    have ea : a' = a := by rw [hC.ea, ext_E, app_E]
    have ec : c' = c := by rw [hC.ec, ext_E, app_E]
    have eT : T' = T := hC.et (by have := leftN_le v EB.size; have := EB_size; omega) T (.inl hw)
    subst ea ec eT
    by_cases hJ : J = 3
    · obtain ⟨rfl, rfl, rfl, rfl⟩ := e9 hJ
      have eh : ha' = mkB p := by rw [hC.eh, ext_E, app_E]
      subst eh
      have hto : TellIs (mkB p ++ EB).data.toList (some (u, L)) := by rw [app_E]; show PicIs (mkB p).data.toList u L; exact hp
      have hld := (Load_both (m := hm) (m' := hm) hC.hsm hto).1
      rw [hC.hok] at hld
      have b0 := ho.b0
      have gd := hC.gd ho.note ⟨_, hld⟩ (by rw [List.length_map]; omega) (by omega) (by omega)
      exact ⟨_, _, _, _, _, _, hC.ev, gd, rfl, ⟨[], rfl, by simp⟩, .inl ⟨rfl, rfl⟩⟩
    · obtain ⟨rfl, rfl⟩ := e8 hJ
      have eh : ha' = x ++ EB := by rw [hC.eh, ext_E]
      have hq := pic_same hsm hok hC.hsm hC.hok eh hp0
      exact ⟨_, _, _, _, _, _, hC.ev, hC.gd ho.note ⟨_, hq⟩ ho.pl ho.b0 ho.b1, rfl, ⟨[], rfl, by simp⟩, .inr ⟨rfl, rfl, rfl⟩⟩
  have s0 := stop 0 (by decide) (by decide)
  rw [show saveJ hm ha EB hm hc EB (mkB p) 0 = H6 hm ha EB hm hc EB from rfl] at s0
  by_cases hfull : D < 0 ∨ 5 ≤ D
  · obtain ⟨n', pre', dd, T', k1, k2, k3, k4, k5, k6, k7⟩ := Drop_tells ho.lok.sync (tells_syn ho.tells) u
    have ev := ho.snap_full hu (sv (-1)) sv1 sv2 sv3 k1 hfull
    obtain ⟨x, y, zz, ww, e1, e2, e3, _, _, _, _, e8, e9⟩ := saveJ_ok g hpz (J := 3) (by decide) (by decide)
    obtain ⟨rfl, rfl, rfl, rfl⟩ := e9 rfl
    rw [e1] at ev
    have hto : TellIs (mkB p ++ EB).data.toList (some (u, L)) := by rw [app_E]; show PicIs (mkB p).data.toList u L; exact hp
    have hld := (Load_both (m := hm) (m' := hm) e3 hto).1
    rw [e2] at hld
    have b0 := ho.b0
    have b1 := ho.b1
    have hlen := congrArg List.length k4
    rw [List.length_append] at hlen
    refine ⟨_, _, ev, .inl ⟨rfl, tx, u, L.map mkB, n', T', ⟨m, a, c, hm, _, _, pre', _, rfl, sm, ok, e3, e2, ⟨ho.note, ⟨_, hld⟩, k2, k3, by rw [List.length_map]; omega, by omega, by omega⟩, k7 hw.syn⟩, rfl, ⟨dd, k4, k5⟩, .inl ⟨rfl, rfl⟩⟩⟩
  · obtain c0 | c0 | c0 | c0 | c0 : D = 0 ∨ D = 1 ∨ D = 2 ∨ D = 3 ∨ D = 4 := by omega
    · subst c0; exact ⟨_, _, ho.snap0 hu (sv (-1)), .inr ⟨rfl, fun v => ⟨_, _, _, _, _, _, hg.crash v, hg, rfl, ⟨[], rfl, by simp⟩, .inr ⟨rfl, rfl, rfl⟩⟩⟩⟩
    · subst c0; exact ⟨_, _, ho.snap1 hu (sv (-1)), .inr ⟨rfl, s0⟩⟩
    · subst c0; exact ⟨_, _, ho.snap2 hu (sv (-1)) sv1, .inr ⟨rfl, stop 1 (by decide) (by decide)⟩⟩
    · subst c0; exact ⟨_, _, ho.snap3 hu (sv (-1)) sv1 sv2, .inr ⟨rfl, stop 2 (by decide) (by decide)⟩⟩
    · subst c0; exact ⟨_, _, ho.snap4 hu (sv (-1)) sv1 sv2 sv3, .inr ⟨rfl, stop 3 (by decide) (by decide)⟩⟩
end
end Go.Proofs.YtohlhliifeeokaaGreat.A
namespace Go.Proofs.YtohlhliifeeokaaGreat.Pure
open Go Go.Proofs.YtohlhliifeeokaaGreat.Ab Go.Proofs.YtohlhliifeeokaaGreat.A
set_option linter.unusedVariables false
set_option maxRecDepth 4000
abbrev OR := ByteArray × (Int × (List ByteArray × (List ByteArray × (Int × Unit))))
abbrev JT := Int × (ByteArray × (List ByteArray × (Int × (Int × (Int × Unit)))))
abbrev KRS := Bool × (List (ByteArray × Unit) × (Int × (Int × (KT × Unit))))
abbrev kt (x : KT) : KT := (x.1, x.2.1, x.2.2.1, x.2.2.2.1, x.2.2.2.2.1, x.2.2.2.2.2.1, x.2.2.2.2.2.2.1, x.2.2.2.2.2.2.2.1, x.2.2.2.2.2.2.2.2.1, x.2.2.2.2.2.2.2.2.2.1, x.2.2.2.2.2.2.2.2.2.2.1, x.2.2.2.2.2.2.2.2.2.2.2.1, x.2.2.2.2.2.2.2.2.2.2.2.2.1, x.2.2.2.2.2.2.2.2.2.2.2.2.2.1, x.2.2.2.2.2.2.2.2.2.2.2.2.2.2.1, ())
def krSP (k2 : Nat) (o : JT) (r7 r18 : OR) : Option (Bool × Unit) := (bif r18.2.1 != r7.2.1 then (bif o.1 != 3 then some (true, ()) else (bif r18.2.1 != o.2.2.2.1 then some (true, ()) else ((ref01_Texts k2 r18.2.2.1 (o.2.2.1)).bind fun r26 => some (!r26.1, ())))) else ((ref01_Texts k2 r18.2.2.1 r7.2.2.1).bind fun r24 => (bif !r24.1 then (bif o.1 != 3 then some (true, ()) else (bif r18.2.1 != o.2.2.2.1 then some (true, ()) else ((ref01_Texts k2 r18.2.2.1 (o.2.2.1)).bind fun r25 => some (!r25.1, ())))) else some (false, ()))))
def krE (k2 : Nat) (again3 : KRS → Option (AExit × KRS)) (x4 : KRS) (o : JT) (r7 : OR) (r8 : KT × (Bool × (Int × Unit))) (r10 : Bool × (List (ByteArray × Unit) × Unit)) (r13 : Bool × (KT × (Int × Unit))) (r15 : Bool × (Int × Unit)) (r17 : Bool × (Bool × (KT × Unit))) : Option (AExit × KRS) := (bif r17.1 then ((keep_Open k2 (kt r17.2.2.1)).bind fun r18 => (((bif r18.2.2.2.2.1 != 0 then some (true, ()) else (bif decide (IntKind.i64.wrap (r18.2.1 + (↑(List.length r18.2.2.2.1) : Int)) < r13.2.2.1) then some (true, ()) else (bif decide (IntKind.i64.wrap (r18.2.1 + (↑(List.length r18.2.2.2.1) : Int)) > (↑(List.length r10.2.1) : Int)) then some (true, ()) else (bif decide (0 ≤ IntKind.i64.wrap (r18.2.1 + (↑(List.length r18.2.2.2.1) : Int))) then (bif decide (IntKind.i64.wrap (r18.2.1 + (↑(List.length r18.2.2.2.1) : Int)) ≤ (↑(List.length r10.2.1) : Int)) then (bif decide (0 ≤ r18.2.1) then (bif decide (r18.2.1 ≤ IntKind.i64.wrap (r18.2.1 + (↑(List.length r18.2.2.2.1) : Int))) then ((ref01_Texts k2 r18.2.2.2.1 (List.drop (Int.toNat r18.2.1) (List.take (IntKind.i64.wrap (r18.2.1 + (↑(List.length r18.2.2.2.1) : Int))).toNat (List.map (fun x ↦ x.1) r10.2.1)))).bind fun r19 => some (!r19.1, ())) else none) else none) else none) else none))))).bind fun r20 => (bif r20.1 then some (AExit.ret, false, r10.2.1, r13.2.2.1, x4.2.2.2.1, (kt r17.2.2.1), ()) else (((bif !ByteArray.toList r18.1 == ByteArray.toList r7.1 then (bif o.1 != 1 then some (true, ()) else (bif !ByteArray.toList r18.1 == ByteArray.toList o.2.1 then some (true, ()) else (bif r18.2.1 != r7.2.1 then (bif o.1 != 3 then some (true, ()) else (bif r18.2.1 != o.2.2.2.1 then some (true, ()) else ((ref01_Texts k2 r18.2.2.1 (o.2.2.1)).bind fun r26 => some (!r26.1, ())))) else ((ref01_Texts k2 r18.2.2.1 r7.2.2.1).bind fun r24 => (bif !r24.1 then (bif o.1 != 3 then some (true, ()) else (bif r18.2.1 != o.2.2.2.1 then some (true, ()) else ((ref01_Texts k2 r18.2.2.1 (o.2.2.1)).bind fun r25 => some (!r25.1, ())))) else some (false, ())))))) else (bif r18.2.1 != r7.2.1 then (bif o.1 != 3 then some (true, ()) else (bif r18.2.1 != o.2.2.2.1 then some (true, ()) else ((ref01_Texts k2 r18.2.2.1 (o.2.2.1)).bind fun r23 => some (!r23.1, ())))) else ((ref01_Texts k2 r18.2.2.1 r7.2.2.1).bind fun r21 => (bif !r21.1 then (bif o.1 != 3 then some (true, ()) else (bif r18.2.1 != o.2.2.2.1 then some (true, ()) else ((ref01_Texts k2 r18.2.2.1 (o.2.2.1)).bind fun r22 => some (!r22.1, ())))) else some (false, ())))))).bind fun r27 => (bif r27.1 then some (AExit.ret, false, r10.2.1, r13.2.2.1, x4.2.2.2.1, (kt r17.2.2.1), ()) else (((bif r8.2.2.1 == 0 then (bif r8.2.1 then (bif o.1 == 1 then (bif !ByteArray.toList r18.1 == ByteArray.toList o.2.1 then some (true, ()) else (bif o.1 == 3 then some (r18.2.1 != o.2.2.2.1, ()) else some (false, ()))) else (bif o.1 == 3 then some (r18.2.1 != o.2.2.2.1, ()) else some (false, ()))) else some (false, ())) else some (false, ()))).bind fun r28 => (bif r28.1 then some (AExit.ret, false, r10.2.1, r13.2.2.1, x4.2.2.2.1, (kt r17.2.2.1), ()) else (((bif decide (r15.2.1 ≥ 0) then (bif decide (0 ≤ IntKind.i64.wrap (r18.2.1 + (↑(List.length r18.2.2.2.1) : Int))) then (bif decide (IntKind.i64.wrap (r18.2.1 + (↑(List.length r18.2.2.2.1) : Int)) ≤ (↑(List.length r10.2.1) : Int)) then some (true, List.take (IntKind.i64.wrap (r18.2.1 + (↑(List.length r18.2.2.2.1) : Int))).toNat r10.2.1, IntKind.i64.wrap (r18.2.1 + (↑(List.length r18.2.2.2.1) : Int)), ()) else none) else none) else some (true, r10.2.1, r13.2.2.1, ()))).bind fun r29 => (bif r29.1 then again3 (r17.2.1, r29.2.1, r29.2.2.1, IntKind.i64.wrap (x4.2.2.2.1 + 1), (kt r17.2.2.1), ()) else some (AExit.ret, r17.2.1, r29.2.1, r29.2.2.1, x4.2.2.2.1, (kt r17.2.2.1), ())))))))))) else some (AExit.ret, r17.2.1, r10.2.1, r13.2.2.1, x4.2.2.2.1, (kt r17.2.2.1), ()))
def krC (k2 : Nat) (again3 : KRS → Option (AExit × KRS)) (x4 : KRS) (o : JT) (r7 : OR) (r8 : KT × (Bool × (Int × Unit))) (r10 : Bool × (List (ByteArray × Unit) × Unit)) (r13 : Bool × (KT × (Int × Unit))) : Option (AExit × KRS) := (bif r13.1 then (((bif r8.2.2.1 == 0 then some (!r8.2.1, ()) else some (false, ()))).bind fun r14 => (((bif r14.1 then some (true, imax o.2.2.2.2.2.1 0, ()) else some (true, o.2.2.2.2.2.1, ()))).bind fun r15 => (bif r15.1 then (((bif decide (r15.2.1 ≥ 0) then ((keep_Crash k2 (kt r13.2.1) r15.2.1).bind fun r16 => (bif r16.2.1 != 0 then some (false, false, (kt r13.2.1), ()) else some (true, x4.1, (kt r16.1), ()))) else some (true, x4.1, (kt r13.2.1), ()))).bind fun r17 => krE k2 again3 x4 o r7 r8 r10 r13 r15 r17) else some (AExit.ret, x4.1, r10.2.1, r13.2.2.1, x4.2.2.2.1, (kt r13.2.1), ())))) else some (AExit.ret, x4.1, r10.2.1, r13.2.2.1, x4.2.2.2.1, (kt r13.2.1), ()))
def krD (k2 : Nat) (again3 : KRS → Option (AExit × KRS)) (x4 : KRS) (o : JT) (r7 : OR) (r8 : KT × (Bool × (Int × Unit))) : Option (AExit × KRS) := (((bif r8.2.2.1 == 0 then (bif o.1 == 2 then some (o.2.2.2.2.1 != 0, ()) else some (false, ())) else some (false, ()))).bind fun r9 => (((bif r9.1 then (bif (List.map (fun z ↦ (z, ())) o.2.2.1).length.beq 0 then some (true, x4.2.1, ()) else (bif decide ((List.length x4.2.1 + (List.map (fun z ↦ (z, ())) o.2.2.1).length) * 16 ≤ 140737488355328) then some (true, x4.2.1 ++ List.map (fun z ↦ (z, ())) o.2.2.1, ()) else none)) else some (true, x4.2.1, ()))).bind fun r10 => (bif r10.1 then (((bif r8.2.2.1 == 0 then (((bif o.1 == 2 then (bif r8.2.1 then some (true, ()) else (bif o.1 == 3 then some (o.2.2.2.2.1 != 0, ()) else some (false, ()))) else (bif o.1 == 3 then some (o.2.2.2.2.1 != 0, ()) else some (false, ())))).bind fun r11 => (((bif r11.1 then some (true, (↑(List.length r10.2.1) : Int), ()) else some (true, x4.2.2.1, ()))).bind fun r12 => (bif r12.1 then some (true, (kt r8.1), r12.2.1, ()) else some (false, (kt r8.1), r12.2.1, ())))) else some (true, (kt x4.2.2.2.2.1), x4.2.2.1, ()))).bind fun r13 => krC k2 again3 x4 o r7 r8 r10 r13) else some (AExit.ret, x4.1, r10.2.1, x4.2.2.1, x4.2.2.2.1, (kt x4.2.2.2.2.1), ()))))
theorem Texts_any_l (l m : List ByteArray) (hl : l.length ≤ 1000000000) (hm : m.length = l.length) (d : Nat) : ∀ i : Nat, i + d = l.length → Ev (fun k => ref01_Texts_l1 l m k (false, (i : Int), ())) (.exit 0, false, (l.length : Int), ()) ∨ ∃ i', Ev (fun k => ref01_Texts_l1 l m k (false, (i : Int), ())) (.ret, false, i', ()) := by
  induction d with
  | zero =>
    intro i hi
    obtain rfl : i = l.length := by omega
    exact .inl (Ev.step (Ev.df (by show ¬ (l.length : Int) < l.length; omega) (Ev.now _)))
  | succ d ih =>
    intro i hi
    have c0 : (i : Int) < (l.length : Int) := by omega
    have c1 : (0 : Int) ≤ (i : Int) := by omega
    have c2 : (i : Int) < (m.length : Int) := by omega
    have ih := ih (i + 1) (by omega)
    rw [← wrap_succ (by omega)] at ih
    cases h : (!(ByteArray.toList (l.getD (Int.toNat (i : Int)) Ty.str.zero) == ByteArray.toList (m.getD (Int.toNat (i : Int)) Ty.str.zero))) with
    | true => exact .inr ⟨_, Ev.step (Ev.dt c0 (Ev.dt c1 (Ev.dt c0 (Ev.dt c1 (Ev.dt c2 (Ev.t h (Ev.now _)))))))⟩
    | false =>
      rcases ih with ih | ⟨i', ih⟩
      · exact .inl (Ev.step (Ev.dt c0 (Ev.dt c1 (Ev.dt c0 (Ev.dt c1 (Ev.dt c2 (Ev.f h ih)))))))
      · exact .inr ⟨i', Ev.step (Ev.dt c0 (Ev.dt c1 (Ev.dt c0 (Ev.dt c1 (Ev.dt c2 (Ev.f h ih))))))⟩
theorem Texts_any (l m : List ByteArray) (hl : l.length ≤ 1000000000) : ∃ v, Ev (fun k => ref01_Texts k l m) (v, ()) := by
  by_cases h : (l.length : Int) = (m.length : Int)
  · rcases Texts_any_l l m hl (by omega) l.length 0 (by omega) with g | ⟨i', g⟩
    · exact ⟨_, Ev.f (nbeq_i h) (Ev.bind g (Ev.t rfl (Ev.now _)))⟩
    · exact ⟨_, Ev.f (nbeq_i h) (Ev.bind g (Ev.now _))⟩
  · exact ⟨_, Ev.t (nbne_i h) (Ev.now _)⟩
theorem krSP_ev (o : JT) {tx tx' : ByteArray} {base base' : Int} {P P' l7 l18 : List ByteArray} {e7 e18 : Int} (hP : P'.length ≤ 1000000) (hp : base' = base ∧ P' = P ∨ o.1 = 3 ∧ base' = o.2.2.2.1 ∧ P' = o.2.2.1) :
    Ev (fun k => krSP k o (tx, base, P, l7, e7, ()) (tx', base', P', l18, e18, ())) (false, ()) := by
  have t0 := Texts_big P' (by omega)
  rcases hp with ⟨rfl, rfl⟩ | ⟨h1, h2, h3⟩
  · exact Ev.f (nbeq_i rfl) (Ev.bind t0 (Ev.f rfl (Ev.now _)))
  · have t1 : Ev (fun k => ref01_Texts k P' o.2.2.1) (true, ()) := by rw [← h3]; exact t0
    by_cases hb : base' = base
    · obtain ⟨v, hv⟩ := Texts_any P' P (by omega)
      refine Ev.f (nbeq_i hb) (Ev.bind hv ?_)
      cases v with
      | true => exact Ev.f rfl (Ev.now _)
      | false => exact Ev.t rfl (Ev.f (nbeq_i h1) (Ev.f (nbeq_i h2) (Ev.bind t1 (Ev.now _))))
    · exact Ev.t (nbne_i hb) (Ev.f (nbeq_i h1) (Ev.f (nbeq_i h2) (Ev.bind t1 (Ev.now _))))
structure Cond (o : JT) (tx : ByteArray) (base : Int) (P : List ByteArray) (f : Int) (done : Bool) (rows : List (ByteArray × Unit)) (syn : Int) (tx' : ByteArray) (base' : Int) (P' : List ByteArray) (n' : Int) (T' : List Txt) : Prop where
  lo : syn ≤ n' + T'.length
  hi : n' + T'.length ≤ (rows.length : Int)
  e : (((rows.map (fun x => x.1)).take (n' + T'.length).toNat).drop n'.toNat) = T'.map mkB
  ht : tx' = tx ∨ o.1 = 1 ∧ tx' = o.2.1
  hp : base' = base ∧ P' = P ∨ o.1 = 3 ∧ base' = o.2.2.2.1 ∧ P' = o.2.2.1
  hd : f = 0 → done = true → (o.1 = 1 → tx' = o.2.1) ∧ (o.1 = 3 → base' = o.2.2.2.1)
def Inv (z : Int) (N : Nat) (rows : List (ByteArray × Unit)) (syn : Int) (K : KT) : Prop :=
  ∃ tx base P n T, Gd K tx base P z n T ∧ (rows.length : Int) = n + T.length ∧ (rows.map (fun x => x.1)).drop n.toNat = T.map mkB ∧ syn ≤ rows.length ∧ rows.length ≤ N
def Fine (R : AExit × KRS) : Prop := (∃ s, R = (.exit 0, s)) ∨ ∃ s, R = (.ret, true, s)
theorem krE_ev {again : Nat → KRS → Option (AExit × KRS)} (x4 : KRS) (o : JT) {tx tx' : ByteArray} {base base' : Int} {P P' l7 : List ByteArray} {e7 f : Int} {X8 K13 K' : KT} {done fl : Bool} {rows : List (ByteArray × Unit)} {syn left z n' : Int} {T' : List Txt} {N : Nat}
    (g : Gd K' tx' base' P' z n' T') (c : Cond o tx base P f done rows syn tx' base' P' n' T') (hN : rows.length ≤ N) (hN2 : N ≤ 1000000) (hfree : ¬ left ≥ 0 → (rows.length : Int) = n' + T'.length)
    (hA : ∀ rows' syn', Inv z N rows' syn' K' → ∃ R, Fine R ∧ Ev (fun k => again k (fl, rows', syn', IntKind.i64.wrap (x4.2.2.2.1 + 1), K', ())) R) :
    ∃ R, Fine R ∧ Ev (fun k => krE k (again k) x4 o (tx, base, P, l7, e7, ()) (X8, done, f, ()) (true, rows, ()) (true, K13, syn, ()) (true, left, ()) (true, fl, K', ())) R := by
  obtain ⟨n0, n1, b0, b1, tl, pl⟩ := g.bd
  have w : IntKind.i64.wrap (base' + (((T'.drop (base' - n').toNat).map mkB).length : Int)) = n' + T'.length := by
    rw [List.length_map, List.length_drop, wrap_id (by omega) (by omega)]; omega
  obtain ⟨E, hE⟩ : ∃ E, IntKind.i64.wrap (base' + (((T'.drop (base' - n').toNat).map mkB).length : Int)) = E := ⟨_, rfl⟩
  have wE : E = n' + T'.length := hE ▸ w
  have c1 : ¬ IntKind.i64.wrap (base' + (((T'.drop (base' - n').toNat).map mkB).length : Int)) < syn := by rw [hE]; have := c.lo; omega
  have c2 : ¬ IntKind.i64.wrap (base' + (((T'.drop (base' - n').toNat).map mkB).length : Int)) > (rows.length : Int) := by rw [hE]; have := c.hi; omega
  have c3 : 0 ≤ IntKind.i64.wrap (base' + (((T'.drop (base' - n').toNat).map mkB).length : Int)) := by rw [hE]; omega
  have c4 : IntKind.i64.wrap (base' + (((T'.drop (base' - n').toNat).map mkB).length : Int)) ≤ (rows.length : Int) := by rw [hE]; have := c.hi; omega
  have c5 : 0 ≤ base' := by omega
  have c6 : base' ≤ IntKind.i64.wrap (base' + (((T'.drop (base' - n').toNat).map mkB).length : Int)) := by rw [hE]; omega
  have eX : List.drop (Int.toNat base') (List.take (IntKind.i64.wrap (base' + (((T'.drop (base' - n').toNat).map mkB).length : Int))).toNat (List.map (fun x => x.1) rows)) = (T'.drop (base' - n').toNat).map mkB := by
    rw [w, show Int.toNat base' = n'.toNat + (base' - n').toNat by omega, ← List.drop_drop, c.e, List.map_drop]
  have t1 : Ev (fun k => ref01_Texts k ((T'.drop (base' - n').toNat).map mkB) (List.drop (Int.toNat base') (List.take (IntKind.i64.wrap (base' + (((T'.drop (base' - n').toNat).map mkB).length : Int))).toNat (List.map (fun x => x.1) rows)))) (true, ()) := by
    rw [eX]; exact Texts_big _ (by rw [List.length_map, List.length_drop]; omega)
  have sp := krSP_ev (tx := tx) (tx' := tx') (l7 := l7) (e7 := e7) (l18 := (T'.drop (base' - n').toNat).map mkB) (e18 := 0) o pl c.hp
  -- the tail
  have tail : ∃ R, Fine R ∧ Ev (fun k => (((bif decide (left ≥ 0) then (bif decide (0 ≤ IntKind.i64.wrap (base' + (((T'.drop (base' - n').toNat).map mkB).length : Int))) then (bif decide (IntKind.i64.wrap (base' + (((T'.drop (base' - n').toNat).map mkB).length : Int)) ≤ (rows.length : Int)) then some (true, List.take (IntKind.i64.wrap (base' + (((T'.drop (base' - n').toNat).map mkB).length : Int))).toNat rows, IntKind.i64.wrap (base' + (((T'.drop (base' - n').toNat).map mkB).length : Int)), ()) else none) else none) else some (true, rows, syn, ())) : Option (Bool × (List (ByteArray × Unit) × (Int × Unit)))).bind fun r29 => (bif r29.1 then again k (fl, r29.2.1, r29.2.2.1, IntKind.i64.wrap (x4.2.2.2.1 + 1), K', ()) else some (AExit.ret, fl, r29.2.1, r29.2.2.1, x4.2.2.2.1, K', ())))) R := by
    by_cases hl : left ≥ 0
    · have len : (rows.take (n' + T'.length).toNat).length = (n' + T'.length).toNat := by have := c.hi; rw [List.length_take]; omega
      obtain ⟨R, hF, hR⟩ := hA (rows.take (IntKind.i64.wrap (base' + (((T'.drop (base' - n').toNat).map mkB).length : Int))).toNat) (IntKind.i64.wrap (base' + (((T'.drop (base' - n').toNat).map mkB).length : Int))) ⟨tx', base', P', n', T', g, by rw [w, len]; omega, by rw [w, List.map_take]; exact c.e, by rw [w, len]; omega, by rw [w, len]; have := c.hi; omega⟩
      exact ⟨R, hF, Ev.bind (Ev.dt hl (Ev.dt c3 (Ev.dt c4 (Ev.now _)))) (Ev.t rfl hR)⟩
    · have hfr := hfree hl
      obtain ⟨R, hF, hR⟩ := hA rows syn ⟨tx', base', P', n', T', g, hfr, by
        have := c.e
        rw [List.take_of_length_le (by rw [List.length_map]; omega)] at this
        exact this, by have := c.lo; omega, hN⟩
      exact ⟨R, hF, Ev.bind (Ev.df hl (Ev.now _)) (Ev.t rfl hR)⟩
  obtain ⟨R, hF, hR⟩ := tail
  refine ⟨R, hF, ?_⟩
  refine Ev.t rfl (Ev.bind g.open (Ev.bind (x := (false, ())) (Ev.f (nbeq_i rfl) (Ev.df c1 (Ev.df c2 (Ev.dt c3 (Ev.dt c4 (Ev.dt c5 (Ev.dt c6 (Ev.bind t1 (Ev.now _))))))))) (Ev.f rfl (Ev.bind (x := (false, ())) ?_ (Ev.f rfl (Ev.bind (x := (false, ())) ?_ (Ev.f rfl hR)))))))
  · by_cases q : tx' = tx
    · exact Ev.f (by show (!(tx'.toList == tx.toList)) = false; rw [q]; simp) sp
    · rcases c.ht with h | ⟨h1, h2⟩
      · exact absurd h q
      · have nq : (!(tx'.toList == tx.toList)) = true := by
          cases hh : (!(tx'.toList == tx.toList)) with
          | true => rfl
          | false => exact absurd (tl_ne hh) q
        exact Ev.t nq (Ev.f (nbeq_i h1) (Ev.f (by show (!(tx'.toList == o.2.1.toList)) = false; rw [h2]; simp) sp))
  · by_cases hf : f = 0
    · refine Ev.t (beq_i hf) ?_
      cases done with
      | false => exact Ev.f rfl (Ev.now _)
      | true =>
        obtain ⟨d1, d2⟩ := c.hd hf rfl
        refine Ev.t rfl ?_
        have k3 : Ev (fun _ => (bif o.1 == 3 then some (base' != o.2.2.2.1, ()) else some (false, ()) : Option (Bool × Unit))) (false, ()) := by
          by_cases h3 : o.1 = 3
          · exact Ev.t (beq_i h3) (by rw [nbeq_i (d2 h3)]; exact Ev.now _)
          · exact Ev.f (bne_i h3) (Ev.now _)
        by_cases h1 : o.1 = 1
        · exact Ev.t (beq_i h1) (Ev.f (by show (!(tx'.toList == o.2.1.toList)) = false; rw [d1 h1]; simp) k3)
        · exact Ev.f (bne_i h1) k3
    · exact Ev.f (bne_i hf) (Ev.now _)
theorem imax_ge (a : Int) : imax a 0 ≥ 0 := by
  rcases imax_cases a 0 with ⟨_, e⟩ | ⟨_, e⟩ <;> omega
theorem krC_ev {again : Nat → KRS → Option (AExit × KRS)} (x4 : KRS) (o : JT) {tx : ByteArray} {base : Int} {P l7 : List ByteArray} {e7 f : Int} {X8 K1 : KT} {done : Bool} {rows : List (ByteArray × Unit)} {syn z : Int} {N : Nat}
    (h1 : ∀ v, ∃ K' tx' base' P' n' T', Ev (fun k => keep_Crash k K1 v) (K', 0, ()) ∧ Gd K' tx' base' P' z n' T' ∧ Cond o tx base P f done rows syn tx' base' P' n' T')
    (h2 : f ≠ 0 ∨ done = true → ∃ tx' base' P' n' T', Gd K1 tx' base' P' z n' T' ∧ Cond o tx base P f done rows syn tx' base' P' n' T' ∧ (rows.length : Int) = n' + T'.length)
    (hN : rows.length ≤ N) (hN2 : N ≤ 1000000) (hA : ∀ rows' syn' K', Inv z N rows' syn' K' → ∃ R, Fine R ∧ Ev (fun k => again k (x4.1, rows', syn', IntKind.i64.wrap (x4.2.2.2.1 + 1), K', ())) R) :
    ∃ R, Fine R ∧ Ev (fun k => krC k (again k) x4 o (tx, base, P, l7, e7, ()) (X8, done, f, ()) (true, rows, ()) (true, K1, syn, ())) R := by
  have go : ∀ left : Int, (¬ left ≥ 0 → f ≠ 0 ∨ done = true) → ∃ R, Fine R ∧ Ev (fun k => (((bif decide (left ≥ 0) then ((keep_Crash k (kt K1) left).bind fun r16 => (bif r16.2.1 != 0 then some (false, false, (kt K1), ()) else some (true, x4.1, (kt r16.1), ()))) else some (true, x4.1, (kt K1), ())) : Option (Bool × (Bool × (KT × Unit)))).bind fun r17 => krE k (again k) x4 o (tx, base, P, l7, e7, ()) (X8, done, f, ()) (true, rows, ()) (true, K1, syn, ()) (true, left, ()) r17)) R := by
    intro left hl
    by_cases c : left ≥ 0
    · obtain ⟨K', tx', base', P', n', T', hc, g, cc⟩ := h1 left
      obtain ⟨R, hF, hR⟩ := krE_ev (X8 := X8) (K13 := K1) (l7 := l7) (e7 := e7) (fl := x4.1) (left := left) x4 o g cc hN hN2 (fun q => absurd c q) (fun rows' syn' hi => hA rows' syn' K' hi)
      exact ⟨R, hF, Ev.bind (Ev.dt c (Ev.bind hc (Ev.f (nbeq_i rfl) (Ev.now _)))) hR⟩
    · obtain ⟨tx', base', P', n', T', g, cc, hfr⟩ := h2 (hl c)
      obtain ⟨R, hF, hR⟩ := krE_ev (X8 := X8) (K13 := K1) (l7 := l7) (e7 := e7) (fl := x4.1) (left := left) x4 o g cc hN hN2 (fun _ => hfr) (fun rows' syn' hi => hA rows' syn' K1 hi)
      exact ⟨R, hF, Ev.bind (Ev.df c (Ev.now _)) hR⟩
  by_cases hf : f = 0
  · cases done with
    | true =>
      obtain ⟨R, hF, hR⟩ := go o.2.2.2.2.2.1 (fun _ => .inr rfl)
      exact ⟨R, hF, Ev.t rfl (Ev.bind (Ev.t (beq_i hf) (Ev.now _)) (Ev.bind (Ev.f rfl (Ev.now _)) (Ev.t rfl hR)))⟩
    | false =>
      obtain ⟨R, hF, hR⟩ := go (imax o.2.2.2.2.2.1 0) (fun q => absurd (imax_ge _) q)
      exact ⟨R, hF, Ev.t rfl (Ev.bind (Ev.t (beq_i hf) (Ev.now _)) (Ev.bind (Ev.t rfl (Ev.now _)) (Ev.t rfl hR)))⟩
  · obtain ⟨R, hF, hR⟩ := go o.2.2.2.2.2.1 (fun _ => .inl hf)
    exact ⟨R, hF, Ev.t rfl (Ev.bind (Ev.f (bne_i hf) (Ev.now _)) (Ev.bind (Ev.f rfl (Ev.now _)) (Ev.t rfl hR)))⟩
theorem job_h1 {z : Int} {x : KT} {d : Bool} {R : ByteArray → Int → List ByteArray → Int → List Txt → Prop} {C : ByteArray → Int → List ByteArray → Int → List Txt → Prop} (hj : Job z x d R) (hc : ∀ tx base P n T, R tx base P n T → C tx base P n T) :
    ∀ v, ∃ K' tx' base' P' n' T', Ev (fun k => keep_Crash k x v) (K', 0, ()) ∧ Gd K' tx' base' P' z n' T' ∧ C tx' base' P' n' T' := by
  rcases hj with ⟨rfl, tx, base, P, n, T, g, hr⟩ | ⟨rfl, h⟩
  · exact fun v => ⟨x, tx, base, P, n, T, g.crash v, g, hc _ _ _ _ _ hr⟩
  · intro v
    obtain ⟨K', tx, base, P, n, T, e, g, hr⟩ := h v
    exact ⟨K', tx, base, P, n, T, e, g, hc _ _ _ _ _ hr⟩
theorem job_h2 {z f N : Int} {x : KT} {d : Bool} {R : ByteArray → Int → List ByteArray → Int → List Txt → Prop} {C : ByteArray → Int → List ByteArray → Int → List Txt → Prop} (hj : Job z x d R) (hf : f = 0) (hc : ∀ tx base P n T, R tx base P n T → C tx base P n T) (hn : ∀ tx base P n T, d = true → R tx base P n T → N = n + T.length) :
    f ≠ 0 ∨ d = true → ∃ tx' base' P' n' T', Gd x tx' base' P' z n' T' ∧ C tx' base' P' n' T' ∧ N = n' + T'.length := by
  rintro (h | h)
  · exact absurd hf h
  · rcases hj with ⟨_, tx, base, P, n, T, g, hr⟩ | ⟨e, _⟩
    · exact ⟨tx, base, P, n, T, g, hc _ _ _ _ _ hr, hn _ _ _ _ _ h hr⟩
    · rw [e] at h; cases h
theorem map_fst (l : List ByteArray) : (l.map (fun z => (z, ()))).map (fun x => x.1) = l := by rw [List.map_map]; exact List.map_id _
theorem krD_ev {again : Nat → KRS → Option (AExit × KRS)} (fl : Bool) (rows : List (ByteArray × Unit)) (syn i : Int) (K : KT) (o : JT) {L : List Txt} (hL : o.2.2.1 = L.map mkB) (hl : L.length ≤ 20) {tx : ByteArray} {base : Int} {P l7 : List ByteArray} {z n : Int} {T : List Txt} {N : Nat} {e7 : Int}
    (g : Gd K tx base P z n T) (hr : (rows.length : Int) = n + T.length) (he : (rows.map (fun x => x.1)).drop n.toNat = T.map mkB) (hs : syn ≤ rows.length) (hN : rows.length + 20 ≤ N) (hN2 : N ≤ 1000000)
    (hA : ∀ rows' syn' K', Inv z N rows' syn' K' → ∃ R, Fine R ∧ Ev (fun k => again k (fl, rows', syn', IntKind.i64.wrap (i + 1), K', ())) R) :
    ∃ r8, Ev (fun k => law17_job k K o) r8 ∧ ∃ R, Fine R ∧ Ev (fun k => krD k (again k) (fl, rows, syn, i, K, ()) o (tx, base, P, l7, e7, ()) r8) R := by
  obtain ⟨n0, n1, b0, b1, tl, pl⟩ := g.bd
  have hlm : (rows.map (fun x => x.1)).length = rows.length := List.length_map ..
  have e0 : ((rows.map (fun x => x.1)).take (n + T.length).toNat).drop n.toNat = T.map mkB := by
    rw [List.take_of_length_le (by omega)]; exact he
  have no : ∀ (X8 : KT) (done : Bool) (e : Int), e ≠ 0 → ∃ R, Fine R ∧ Ev (fun k => krD k (again k) (fl, rows, syn, i, K, ()) o (tx, base, P, l7, e7, ()) (X8, done, e, ())) R := by
    intro X8 done e hne
    have c : Cond o tx base P e done rows syn tx base P n T := ⟨by omega, by omega, e0, .inl rfl, .inl ⟨rfl, rfl⟩, fun q => absurd q hne⟩
    obtain ⟨R, hF, hR⟩ := krC_ev (again := again) (X8 := X8) (K1 := K) (l7 := l7) (e7 := e7) (N := N) (fl, rows, syn, i, K, ()) o (fun v => ⟨K, tx, base, P, n, T, g.crash v, g, c⟩) (fun _ => ⟨tx, base, P, n, T, g, c, hr⟩) (by omega) hN2 hA
    exact ⟨R, hF, Ev.bind (x := (false, ())) (Ev.f (bne_i hne) (Ev.now _)) (Ev.bind (x := (true, rows, ())) (Ev.f rfl (Ev.now _)) (Ev.t rfl (Ev.bind (x := (true, K, syn, ())) (Ev.f (bne_i hne) (Ev.now _)) hR)))⟩
  by_cases h1 : o.1 = 1
  · have n2 : (o.1 == 2) = false := by rw [h1]; rfl
    have n3 : (o.1 == 3) = false := by rw [h1]; rfl
    rcases note_job g o.2.1 o.2.2.2.2.1 with ⟨x, d, e, hne, hj⟩ | ⟨x, d, hj, J⟩
    · exact ⟨_, Ev.t (beq_i h1) (Ev.bind hj (Ev.now _)), no _ _ _ hne⟩
    · refine ⟨(x, d, 0, ()), Ev.t (beq_i h1) (Ev.bind hj (Ev.now _)), ?_⟩
      have hc : ∀ tx' base' P' n' T', (base' = base ∧ P' = P ∧ n' = n ∧ T' = T ∧ (tx' = o.2.1 ∨ d = false ∧ tx' = tx)) → Cond o tx base P 0 d rows syn tx' base' P' n' T' := by
        rintro tx' base' P' n' T' ⟨rfl, rfl, rfl, rfl, h⟩
        refine ⟨by omega, by omega, e0, ?_, .inl ⟨rfl, rfl⟩, fun _ hd => ⟨fun _ => ?_, fun q => ?_⟩⟩
        · rcases h with h | ⟨_, h⟩
          · exact .inr ⟨h1, h⟩
          · exact .inl h
        · rcases h with h | ⟨h, _⟩
          · exact h
          · rw [h] at hd; cases hd
        · omega
      obtain ⟨R, hF, hR⟩ := krC_ev (again := again) (X8 := x) (l7 := l7) (e7 := e7) (N := N) (fl, rows, syn, i, K, ()) o (job_h1 J hc) (job_h2 J rfl hc (by rintro _ _ _ n' T' _ ⟨_, _, rfl, rfl, _⟩; exact hr)) (by omega) hN2 hA
      exact ⟨R, hF, Ev.bind (x := (false, ())) (Ev.t rfl (Ev.f n2 (Ev.now _))) (Ev.bind (x := (true, rows, ())) (Ev.f rfl (Ev.now _)) (Ev.t rfl (Ev.bind (x := (true, x, syn, ())) (Ev.t rfl (Ev.bind (x := (false, ())) (Ev.f n2 (Ev.f n3 (Ev.now _))) (Ev.bind (x := (true, syn, ())) (Ev.f rfl (Ev.now _)) (Ev.t rfl (Ev.now _))))) hR)))⟩
  by_cases h2 : o.1 = 2
  · have n3 : (o.1 == 3) = false := by rw [h2]; rfl
    rcases push_job g L (by omega) o.2.2.2.2.1 with ⟨x, d, e, hne, hj⟩ | ⟨x, d, hj, J⟩
    · rw [← hL] at hj
      exact ⟨_, Ev.f (bne_i h1) (Ev.t (beq_i h2) (Ev.bind hj (Ev.now _))), no _ _ _ hne⟩
    · rw [← hL] at hj
      refine ⟨(x, d, 0, ()), Ev.f (bne_i h1) (Ev.t (beq_i h2) (Ev.bind hj (Ev.now _))), ?_⟩
      by_cases hD : o.2.2.2.2.1 = 0
      · have hc : ∀ tx' base' P' n' T', (tx' = tx ∧ base' = base ∧ P' = P ∧ n' = n ∧ (∃ i, T' = T ++ (if o.2.2.2.2.1 = 0 then [] else L.take i)) ∧ (d = true → o.2.2.2.2.1 ≠ 0 ∧ T' = T ++ L)) → Cond o tx base P 0 d rows syn tx' base' P' n' T' := by
          rintro tx' base' P' n' T' ⟨rfl, rfl, rfl, rfl, ⟨_, hT⟩, _⟩
          rw [if_pos hD, List.append_nil] at hT
          subst hT
          exact ⟨by omega, by omega, e0, .inl rfl, .inl ⟨rfl, rfl⟩, fun _ _ => ⟨fun q => absurd q h1, fun q => by omega⟩⟩
        have dn : d = false := by
          rcases J with ⟨hd, _, _, _, _, _, _, _, _, _, _, _, h⟩ | ⟨hd, _⟩
          · exact absurd hD (h hd).1
          · exact hd
        subst dn
        obtain ⟨R, hF, hR⟩ := krC_ev (again := again) (X8 := x) (l7 := l7) (e7 := e7) (N := N) (fl, rows, syn, i, K, ()) o (job_h1 J hc) (job_h2 J rfl hc (by intro _ _ _ _ _ q; cases q)) (by omega) hN2 hA
        have d0 : (o.2.2.2.2.1 != 0) = false := nbeq_i hD
        have k9 : Ev (fun _ => (some (o.2.2.2.2.1 != 0, ()) : Option (Bool × Unit))) (false, ()) := by rw [d0]; exact Ev.now _
        exact ⟨R, hF, Ev.bind (x := (false, ())) (Ev.t rfl (Ev.t (beq_i h2) k9)) (Ev.bind (x := (true, rows, ())) (Ev.f rfl (Ev.now _)) (Ev.t rfl (Ev.bind (x := (true, x, syn, ())) (Ev.t rfl (Ev.bind (x := (false, ())) (Ev.t (beq_i h2) (Ev.f rfl (Ev.f n3 (Ev.now _)))) (Ev.bind (x := (true, syn, ())) (Ev.f rfl (Ev.now _)) (Ev.t rfl (Ev.now _))))) hR)))⟩
      · obtain ⟨rows1, hrows⟩ : ∃ rows1, rows ++ o.2.2.1.map (fun z => (z, ())) = rows1 := ⟨_, rfl⟩
        have mL : (o.2.2.1.map (fun z => (z, ()))).length = L.length := by rw [List.length_map, hL, List.length_map]
        have len1 : rows1.length = rows.length + L.length := by rw [← hrows, List.length_append, mL]
        have er : rows1.map (fun x => x.1) = rows.map (fun x => x.1) ++ L.map mkB := by rw [← hrows, List.map_append, map_fst, hL]
        have eT : ∀ T' : List Txt, ∀ j, T' = T ++ L.take j → ((rows1.map (fun x => x.1)).take (n + T'.length).toNat).drop n.toNat = T'.map mkB := by
          intro T' j hT
          have hlt : T'.length ≤ T.length + L.length := by rw [hT, List.length_append, List.length_take]; omega
          rw [er, List.take_append, List.drop_append, List.take_of_length_le (by rw [hlm, hT, List.length_append]; omega), he]
          have : n.toNat - (rows.map (fun x => x.1)).length = 0 := by omega
          rw [this, List.drop_zero, hT, List.map_append, List.map_take]
          congr 1
          rw [hlm]
          have : (n + ((T ++ L.take j).length : Int)).toNat - rows.length = (L.take j).length := by rw [List.length_append]; omega
          rw [this, List.length_take, ← List.take_take, List.take_of_length_le (l := L.map mkB) (by simp)]
        have k10 : Ev (fun _ => (bif (List.map (fun z => (z, ())) o.2.2.1).length.beq 0 then some (true, rows, ()) else (bif decide ((List.length rows + (List.map (fun z => (z, ())) o.2.2.1).length) * 16 ≤ 140737488355328) then some (true, rows ++ List.map (fun z => (z, ())) o.2.2.1, ()) else none) : Option (Bool × (List (ByteArray × Unit) × Unit)))) (true, rows1, ()) := by
          rw [hrows]
          by_cases z0 : (List.map (fun z => (z, ())) o.2.2.1).length = 0
          · have e1 : rows1 = rows := by rw [← hrows, List.length_eq_zero_iff.1 z0, List.append_nil]
            rw [e1]
            exact Ev.t (by rw [z0]; rfl) (Ev.now _)
          · refine Ev.f ?_ (Ev.dt (by rw [mL]; omega) (Ev.now _))
            cases q : (List.map (fun z => (z, ())) o.2.2.1).length.beq 0 with
            | false => rfl
            | true => exact absurd (Nat.eq_of_beq_eq_true q) z0
        have d1 : (o.2.2.2.2.1 != 0) = true := nbne_i hD
        have k9 : Ev (fun _ => (some (o.2.2.2.2.1 != 0, ()) : Option (Bool × Unit))) (true, ()) := by rw [d1]; exact Ev.now _
        have hc : ∀ sy : Int, (d = true ∧ sy = rows1.length ∨ d = false ∧ sy = syn) → ∀ tx' base' P' n' T', (tx' = tx ∧ base' = base ∧ P' = P ∧ n' = n ∧ (∃ i, T' = T ++ (if o.2.2.2.2.1 = 0 then [] else L.take i)) ∧ (d = true → o.2.2.2.2.1 ≠ 0 ∧ T' = T ++ L)) → Cond o tx base P 0 d rows1 sy tx' base' P' n' T' := by
          rintro sy hsy tx' base' P' n' T' ⟨rfl, rfl, rfl, rfl, ⟨j, hT⟩, hd⟩
          rw [if_neg hD] at hT
          have q1 : T'.length ≤ T.length + L.length := by rw [hT, List.length_append, List.length_take]; omega
          have q2 : T.length ≤ T'.length := by rw [hT, List.length_append]; omega
          refine ⟨?_, by omega, eT T' j hT, .inl rfl, .inl ⟨rfl, rfl⟩, fun _ _ => ⟨fun q => absurd q h1, fun q => by omega⟩⟩
          rcases hsy with ⟨hd1, hs1⟩ | ⟨_, hs1⟩
          · have := congrArg List.length (hd hd1).2
            rw [List.length_append] at this
            omega
          · omega
        cases d with
        | true =>
          obtain ⟨R, hF, hR⟩ := krC_ev (again := again) (X8 := x) (l7 := l7) (e7 := e7) (N := N) (fl, rows, syn, i, K, ()) o (job_h1 J (hc rows1.length (.inl ⟨rfl, rfl⟩))) (job_h2 J rfl (hc rows1.length (.inl ⟨rfl, rfl⟩)) (by
            rintro _ _ _ n' T' _ ⟨_, _, _, rfl, _, h⟩
            have := congrArg List.length (h rfl).2
            rw [List.length_append] at this
            omega)) (by omega) hN2 hA
          exact ⟨R, hF, Ev.bind (x := (true, ())) (Ev.t rfl (Ev.t (beq_i h2) k9)) (Ev.bind (x := (true, rows1, ())) (Ev.t rfl k10) (Ev.t rfl (Ev.bind (x := (true, x, (rows1.length : Int), ())) (Ev.t rfl (Ev.bind (x := (true, ())) (Ev.t (beq_i h2) (Ev.t rfl (Ev.now _))) (Ev.bind (x := (true, (rows1.length : Int), ())) (Ev.t rfl (Ev.now _)) (Ev.t rfl (Ev.now _))))) hR)))⟩
        | false =>
          obtain ⟨R, hF, hR⟩ := krC_ev (again := again) (X8 := x) (l7 := l7) (e7 := e7) (N := N) (fl, rows, syn, i, K, ()) o (job_h1 J (hc syn (.inr ⟨rfl, rfl⟩))) (job_h2 J rfl (hc syn (.inr ⟨rfl, rfl⟩)) (by intro _ _ _ _ _ q; cases q)) (by omega) hN2 hA
          exact ⟨R, hF, Ev.bind (x := (true, ())) (Ev.t rfl (Ev.t (beq_i h2) k9)) (Ev.bind (x := (true, rows1, ())) (Ev.t rfl k10) (Ev.t rfl (Ev.bind (x := (true, x, syn, ())) (Ev.t rfl (Ev.bind (x := (false, ())) (Ev.t (beq_i h2) (Ev.f rfl (Ev.f n3 (Ev.now _)))) (Ev.bind (x := (true, syn, ())) (Ev.f rfl (Ev.now _)) (Ev.t rfl (Ev.now _))))) hR)))⟩
  by_cases h3 : o.1 = 3
  · have n2 : (o.1 == 2) = false := bne_i h2
    rcases snap_job g o.2.2.2.1 L (by omega) o.2.2.2.2.1 with ⟨x, d, e, hne, hj⟩ | ⟨x, d, hj, J⟩
    · rw [← hL] at hj
      exact ⟨_, Ev.f (bne_i h1) (Ev.f n2 (Ev.t (beq_i h3) (Ev.bind hj (Ev.now _)))), no _ _ _ hne⟩
    · rw [← hL] at hj
      refine ⟨(x, d, 0, ()), Ev.f (bne_i h1) (Ev.f n2 (Ev.t (beq_i h3) (Ev.bind hj (Ev.now _)))), ?_⟩
      have hc : ∀ sy : Int, sy ≤ rows.length → ∀ tx' base' P' n' T', (tx' = tx ∧ (∃ dd, T = dd ++ T' ∧ n' = n + (dd.length : Int)) ∧ (base' = o.2.2.2.1 ∧ P' = L.map mkB ∨ d = false ∧ base' = base ∧ P' = P)) → Cond o tx base P 0 d rows sy tx' base' P' n' T' := by
        rintro sy hsy tx' base' P' n' T' ⟨rfl, ⟨dd, hT, rfl⟩, h⟩
        have hlen := congrArg List.length hT
        rw [List.length_append] at hlen
        refine ⟨by omega, by omega, ?_, .inl rfl, ?_, fun _ hd => ⟨fun q => absurd q h1, fun _ => ?_⟩⟩
        · rw [List.take_of_length_le (by rw [hlm]; omega), show (n + (dd.length : Int)).toNat = n.toNat + dd.length by omega, ← List.drop_drop, he, hT, List.map_append]
          have : dd.length = (dd.map mkB).length := (List.length_map ..).symm
          rw [this, List.drop_left]
        · rcases h with ⟨q1, q2⟩ | ⟨_, q1, q2⟩
          · exact .inr ⟨h3, q1, by rw [q2, hL]⟩
          · exact .inl ⟨q1, q2⟩
        · rcases h with ⟨q1, _⟩ | ⟨q, _⟩
          · exact q1
          · rw [q] at hd; cases hd
      have hn : ∀ (tx' : ByteArray) (base' : Int) (P' : List ByteArray) (n' : Int) (T' : List Txt), d = true → (tx' = tx ∧ (∃ dd, T = dd ++ T' ∧ n' = n + (dd.length : Int)) ∧ (base' = o.2.2.2.1 ∧ P' = L.map mkB ∨ d = false ∧ base' = base ∧ P' = P)) → (rows.length : Int) = n' + T'.length := by
        rintro _ _ _ n' T' _ ⟨_, ⟨dd, hT, rfl⟩, _⟩
        have hlen := congrArg List.length hT
        rw [List.length_append] at hlen
        omega
      cases hD : (o.2.2.2.2.1 != 0) with
      | true =>
        have k9 : Ev (fun _ => (some (o.2.2.2.2.1 != 0, ()) : Option (Bool × Unit))) (true, ()) := by rw [hD]; exact Ev.now _
        obtain ⟨R, hF, hR⟩ := krC_ev (again := again) (X8 := x) (l7 := l7) (e7 := e7) (N := N) (fl, rows, syn, i, K, ()) o (job_h1 J (hc rows.length (Int.le_refl _))) (job_h2 J rfl (hc rows.length (Int.le_refl _)) hn) (by omega) hN2 hA
        exact ⟨R, hF, Ev.bind (x := (false, ())) (Ev.t rfl (Ev.f n2 (Ev.now _))) (Ev.bind (x := (true, rows, ())) (Ev.f rfl (Ev.now _)) (Ev.t rfl (Ev.bind (x := (true, x, (rows.length : Int), ())) (Ev.t rfl (Ev.bind (x := (true, ())) (Ev.f n2 (Ev.t (beq_i h3) k9)) (Ev.bind (x := (true, (rows.length : Int), ())) (Ev.t rfl (Ev.now _)) (Ev.t rfl (Ev.now _))))) hR)))⟩
      | false =>
        have k9 : Ev (fun _ => (some (o.2.2.2.2.1 != 0, ()) : Option (Bool × Unit))) (false, ()) := by rw [hD]; exact Ev.now _
        obtain ⟨R, hF, hR⟩ := krC_ev (again := again) (X8 := x) (l7 := l7) (e7 := e7) (N := N) (fl, rows, syn, i, K, ()) o (job_h1 J (hc syn hs)) (job_h2 J rfl (hc syn hs) hn) (by omega) hN2 hA
        exact ⟨R, hF, Ev.bind (x := (false, ())) (Ev.t rfl (Ev.f n2 (Ev.now _))) (Ev.bind (x := (true, rows, ())) (Ev.f rfl (Ev.now _)) (Ev.t rfl (Ev.bind (x := (true, x, syn, ())) (Ev.t rfl (Ev.bind (x := (false, ())) (Ev.f n2 (Ev.t (beq_i h3) k9)) (Ev.bind (x := (true, syn, ())) (Ev.f rfl (Ev.now _)) (Ev.t rfl (Ev.now _))))) hR)))⟩
  · exact ⟨_, Ev.f (bne_i h1) (Ev.f (bne_i h2) (Ev.f (bne_i h3) (Ev.now _))), no _ _ _ (by decide)⟩
theorem tell_none : TellIs [] none := by
  rintro n L ⟨_, _, _, _, _, h⟩
  have hd : (1 : Nat) ≤ (hdB 3 (rowB (intB n :: L))).length := by
    have : intB 3 ≠ [] := by decide
    have := List.length_pos_iff.2 this
    unfold hdB
    rw [List.length_append]; omega
  have := congrArg List.length h
  simp [frB] at this
  omega
theorem new_ok (m : Int) : (∃ X e, e ≠ 0 ∧ Ev (fun k => keep_New k m) (X, e, ())) ∨ ∃ K tx, Ev (fun k => keep_New k m) (K, 0, ()) ∧ Gd K tx 0 [] m 0 [] := by
  have h1 := NNew_ok m
  have h2 := (NewH_both m).1
  have hE := EB_size
  rcases SNew_cases m 0 with ⟨ok, h3⟩ | h3
  · have b0 := ok.z0
    have b1 := ok.z1
    have g : decide (1 ≤ m ∧ m ≤ 4000) = true := decide_eq_true ⟨by omega, b1⟩
    unfold newS at h1
    unfold newH at h2
    rw [g] at h1 h2
    have f0 : okF m EB EB = true := decide_eq_true ⟨by omega, b1, by omega⟩
    have okS0 : okS m EB EB m EB EB = true := by unfold okS; rw [f0]; simp
    have okH0 : okH m EB EB m EB EB = true := by unfold okH; rw [f0]; simp
    have sm : smallS EB EB EB EB := ⟨by omega, by omega, by omega, by omega⟩
    have l1 := Load_ok m EB EB m EB EB sm
    rw [loadS_ok _ _ _ _ _ _ okS0] at l1
    have l2 := (Load_both (m := m) (m' := m) small_Z (o := none) (by rw [app_E]; exact tell_none)).1
    rw [okH0] at l2
    have w : Whole 0 (files m [] EB EB) [] := ⟨[[]], rfl, ⟨trivial, trivial⟩, rfl⟩
    have e3 : Ev (fun k => keep_New_l1 (S6 m EB EB m EB EB, 0, ()) (H6 m EB EB m EB EB, 0, ()) (SL m 0 [] EB EB, 0, ()) k (0, IntKind.i64.wrap (IntKind.i64.wrap (IntKind.i64.wrap (0 + 1) + 1) + 1), KZ, ())) (.exit 0, 0, IntKind.i64.wrap (IntKind.i64.wrap (IntKind.i64.wrap (0 + 1) + 1) + 1), KZ, ()) := Ev.step (Ev.f rfl (Ev.now _))
    have e2 : Ev (fun k => keep_New_l1 (S6 m EB EB m EB EB, 0, ()) (H6 m EB EB m EB EB, 0, ()) (SL m 0 [] EB EB, 0, ()) k (0, IntKind.i64.wrap (IntKind.i64.wrap (0 + 1) + 1), KZ, ())) (.exit 0, 0, IntKind.i64.wrap (IntKind.i64.wrap (IntKind.i64.wrap (0 + 1) + 1) + 1), KZ, ()) := Ev.step (Ev.t rfl (Ev.t rfl (Ev.t rfl (Ev.f rfl e3))))
    have e1 : Ev (fun k => keep_New_l1 (S6 m EB EB m EB EB, 0, ()) (H6 m EB EB m EB EB, 0, ()) (SL m 0 [] EB EB, 0, ()) k (0, IntKind.i64.wrap (0 + 1), KZ, ())) (.exit 0, 0, IntKind.i64.wrap (IntKind.i64.wrap (IntKind.i64.wrap (0 + 1) + 1) + 1), KZ, ()) := Ev.step (Ev.t rfl (Ev.t rfl (Ev.t rfl (Ev.f rfl e2))))
    have e0 : Ev (fun k => keep_New_l1 (S6 m EB EB m EB EB, 0, ()) (H6 m EB EB m EB EB, 0, ()) (SL m 0 [] EB EB, 0, ()) k (0, 0, KZ, ())) (.exit 0, 0, IntKind.i64.wrap (IntKind.i64.wrap (IntKind.i64.wrap (0 + 1) + 1) + 1), KZ, ()) := Ev.step (Ev.t rfl (Ev.t rfl (Ev.t rfl (Ev.f rfl e1))))
    exact .inr ⟨KM (S6 m EB EB m EB EB) (H6 m EB EB m EB EB) (SL m 0 [] EB EB), _, Ev.bind h1 (Ev.bind h2 (Ev.bind h3 (Ev.bind e0 (Ev.t rfl (Ev.now _))))), m, EB, EB, m, EB, EB, [], EB, rfl, sm, okS0, small_Z, okH0, ⟨⟨_, l1⟩, ⟨_, l2⟩, ok, .inl w, by simp, Int.le_refl _, by simp⟩, w⟩
  · left
    cases g : decide (1 ≤ m ∧ m ≤ 4000) with
    | true =>
      unfold newS at h1
      unfold newH at h2
      rw [g] at h1 h2
      have e2 : Ev (fun k => keep_New_l1 (S6 m EB EB m EB EB, 0, ()) (H6 m EB EB m EB EB, 0, ()) (RB, 1, ()) k (0, IntKind.i64.wrap (IntKind.i64.wrap (0 + 1) + 1), KZ, ())) (.ret, 1, IntKind.i64.wrap (IntKind.i64.wrap (0 + 1) + 1), KZ, ()) := Ev.step (Ev.t rfl (Ev.t rfl (Ev.t rfl (Ev.t rfl (Ev.now _)))))
      have e1 : Ev (fun k => keep_New_l1 (S6 m EB EB m EB EB, 0, ()) (H6 m EB EB m EB EB, 0, ()) (RB, 1, ()) k (0, IntKind.i64.wrap (0 + 1), KZ, ())) (.ret, 1, IntKind.i64.wrap (IntKind.i64.wrap (0 + 1) + 1), KZ, ()) := Ev.step (Ev.t rfl (Ev.t rfl (Ev.t rfl (Ev.f rfl e2))))
      have e0 : Ev (fun k => keep_New_l1 (S6 m EB EB m EB EB, 0, ()) (H6 m EB EB m EB EB, 0, ()) (RB, 1, ()) k (0, 0, KZ, ())) (.ret, 1, IntKind.i64.wrap (IntKind.i64.wrap (0 + 1) + 1), KZ, ()) := Ev.step (Ev.t rfl (Ev.t rfl (Ev.t rfl (Ev.f rfl e1))))
      exact ⟨_, 1, by decide, Ev.bind h1 (Ev.bind h2 (Ev.bind h3 (Ev.bind e0 (Ev.now _))))⟩
    | false =>
      unfold newS at h1
      unfold newH at h2
      rw [g] at h1 h2
      have e0 : Ev (fun k => keep_New_l1 (ZS, 1, ()) (HZ, 1, ()) (RB, 1, ()) k (0, 0, KZ, ())) (.ret, 1, 0, KZ, ()) := Ev.step (Ev.t rfl (Ev.t rfl (Ev.t rfl (Ev.t rfl (Ev.now _)))))
      exact ⟨_, 1, by decide, Ev.bind h1 (Ev.bind h2 (Ev.bind h3 (Ev.bind e0 (Ev.now _))))⟩
theorem kr_loop (a1 : List JT) (h25 : a1.length ≤ 25) (hb : ∀ o ∈ a1, (o.2.2.1 : List ByteArray).length ≤ maxLen) {z : Int} (d : Nat) : ∀ i : Nat, i + d = a1.length → ∀ fl rows syn K, Inv z (20 * i) rows syn K → ∃ R, Fine R ∧ Ev (fun k => law17_KeepRow_l1 a1 k (fl, rows, syn, (i : Int), K, ())) R := by
  induction d with
  | zero =>
    intro i hi fl rows syn K _
    exact ⟨_, .inl ⟨_, rfl⟩, Ev.step (Ev.df (by show ¬ (i : Int) < (a1.length : Int); omega) (Ev.now _))⟩
  | succ d ih =>
    intro i hi fl rows syn K ⟨tx, base, P, n, T, g, h1, h2, h3, h4⟩
    have c0 : (i : Int) < (a1.length : Int) := by omega
    have c1 : (0 : Int) ≤ (i : Int) := by omega
    obtain ⟨o, ho⟩ : ∃ o, a1.getD (Int.toNat (i : Int)) ((Ty.int IntKind.i64).cons (Ty.str.cons (Ty.str.sl.cons ((Ty.int IntKind.i64).cons ((Ty.int IntKind.i64).cons ((Ty.int IntKind.i64).cons Ty.nil)))))).zero = o := ⟨_, rfl⟩
    have hg : ∀ zz : JT, a1.getD i zz ∈ a1 := fun zz => by
      rw [List.getD_eq_getElem?_getD, List.getElem?_eq_getElem (by omega)]
      exact List.getElem_mem _
    have hom : o ∈ a1 := by rw [← ho]; exact hg _
    have hlen := hb o hom
    have wi := wrap_succ (i := i) (by omega)
    obtain ⟨m, a, b, m', c, dd, hm, ha, hbb, hm', hc, hd, fs, eK, hfs⟩ := g.far
    obtain ⟨x, hx, sx⟩ := kfar_ok m a b m' c dd hm ha hbb hm' hc hd z n fs o.2.2.1 (by unfold maxLen; omega) hlen
    rw [← eK] at hx
    have fin : ∀ v : Bool, (v = false → x = false ∧ (o.2.2.1 : List ByteArray).length ≤ 20) → Ev (fun k => (((law17_far k K o.2.2.1).bind fun r5 => (bif r5.1 then some (true, ()) else (bif decide (((List.length o.2.2.1 : Nat) : Int) > 20) then some (true, ()) else some (decide (((ByteArray.size o.2.1 : Nat) : Int) > 100), ())))) : Option (Bool × Unit))) (v, ()) →
        ∃ R, Fine R ∧ Ev (fun k => law17_KeepRow_l1 a1 k (fl, rows, syn, (i : Int), K, ())) R := by
      intro v hv hE
      cases v with
      | true =>
        refine ⟨(.ret, true, rows, syn, (i : Int), K, ()), .inr ⟨_, rfl⟩, Ev.step (Ev.dt c0 (Ev.dt c1 (Ev.dt c0 ?_)))⟩
        rw [← ho] at hE
        exact Ev.bind hE (Ev.t rfl (Ev.bind kept17_ok (Ev.now _)))
      | false =>
        obtain ⟨_, hl20⟩ := hv rfl
        obtain ⟨L, hL⟩ := all_texts o.2.2.1
        have hlL : L.length ≤ 20 := by rw [hL, List.length_map] at hl20; exact hl20
        obtain ⟨r8, hj, R, hF, hR⟩ := krD_ev (again := fun k => law17_KeepRow_l1 a1 k) (l7 := (T.drop (base - n).toNat).map mkB) (e7 := 0) (N := 20 * (i + 1)) fl rows syn (i : Int) K o hL hlL g h1 h2 h3 (by omega) (by omega) (fun rows' syn' K' hI => by
          obtain ⟨R, hF, hR⟩ := ih (i + 1) (by omega) fl rows' syn' K' hI
          rw [← wi] at hR
          exact ⟨R, hF, hR⟩)
        refine ⟨R, hF, Ev.step (Ev.dt c0 (Ev.dt c1 (Ev.dt c0 ?_)))⟩
        rw [← ho] at hE hj hR
        exact Ev.bind hE (Ev.f rfl (Ev.bind g.open (Ev.bind hj hR)))
    cases x with
    | true => exact fin true (fun q => by cases q) (Ev.bind hx (Ev.t rfl (Ev.now _)))
    | false =>
      by_cases c20 : ((List.length o.2.2.1 : Nat) : Int) > 20
      · exact fin true (fun q => by cases q) (Ev.bind hx (Ev.f rfl (Ev.dt c20 (Ev.now _))))
      · exact fin _ (fun _ => ⟨rfl, by omega⟩) (Ev.bind hx (Ev.f rfl (Ev.df c20 (Ev.now _))))
theorem KeepRow : ∀ (a0 : Int) (a1 : (List (Int × (ByteArray × ((List ByteArray) × (Int × (Int × (Int × Unit)))))))), (Lit.int .i64 a0).wf = true → bnd (.sl (.cons (.int .i64) (.cons .str (.cons (.sl .str) (.cons (.int .i64) (.cons (.int .i64) (.cons (.int .i64) .nil))))))) a1 → ∃ k, law17_KeepRow k a0 a1 = some (true, ()) := by
  intro m a1 _ hb
  refine Ev.get ?_
  rcases new_ok m with ⟨X, e, he, hN⟩ | ⟨K, tx, hN, g⟩
  · exact Ev.bind hN (Ev.t (nbne_i he) (Ev.bind kept17_ok (Ev.now _)))
  · refine Ev.bind hN (Ev.f (nbeq_i rfl) ?_)
    by_cases c : ((List.length a1 : Nat) : Int) > 25
    · exact Ev.dt c (Ev.bind kept17_ok (Ev.now _))
    · obtain ⟨R, hF, hR⟩ := kr_loop a1 (by omega) (fun o ho => (hb.2 o ho).2.2.1.1) a1.length 0 (by omega) false [] 0 K ⟨tx, 0, [], 0, [], g, rfl, rfl, Int.le_refl _, Nat.le_refl _⟩
      refine Ev.df c (Ev.bind hR ?_)
      rcases hF with ⟨s, rfl⟩ | ⟨s, rfl⟩
      · exact Ev.t rfl (Ev.bind kept17_ok (Ev.now _))
      · exact Ev.now _
end Go.Proofs.YtohlhliifeeokaaGreat.Pure
