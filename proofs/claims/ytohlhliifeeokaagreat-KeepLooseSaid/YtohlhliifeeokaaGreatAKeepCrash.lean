/- Keeps: what a crash leaves, mended. -/
import Derived.Test.YtohlhliifeeokaaGreatAT3
namespace Go.Proofs.YtohlhliifeeokaaGreat.A
open Go Go.Proofs.YtohlhliifeeokaaGreat.Ab
set_option linter.unusedVariables false
set_option linter.unusedSimpArgs false

/-- A log that is mended: whole, and it tells what it told. -/
theorem Mend_tells {z n : Int} {pre : List ByteArray} {s t : ByteArray} {T : List Txt} (h : okL z n pre s t) (hT : Whole n (files z pre s t) T ∨ Broken n (files z pre s t) T) :
    ∃ pre' s' t', okL z n pre' s' t' ∧ Ev (fun k => segment_Mend k (SL z n pre s t)) (SL z n pre' s' t', 0, ()) ∧ Whole n (files z pre' s' t') T ∧ (t = EB → t' = EB) := by
  rcases hT with hw | hb
  · obtain ⟨x, y, sc⟩ := hw.scan h
    exact ⟨pre, s, t, h, Mend_good h sc, hw, id⟩
  · obtain ⟨p, f, q, ps, ts, rest, h1, h2, h3, h4, h5, rfl⟩ := hb
    obtain ⟨pre', W, g1, g2, g3, g4, _⟩ := Mend_bad h h1 h2 h3 h4 h5
    exact ⟨pre', W, EB, g1, g2, ⟨ps ++ [ts], g3, g4, by rw [flat_last]⟩, fun _ => rfl⟩
theorem leftN_big {a : Int} {k : Nat} (h : (k : Int) ≤ a) : leftN a k = k := by
  have h1 := leftN_eq a k
  have h2 := imax_cases a 0
  have h3 : imin (imax a 0) (k : Int) = (k : Int) := by
    have : imax a 0 = a := by
      rcases h2 with ⟨_, e⟩ | ⟨h3, e⟩
      · exact e
      · rw [e]; omega
    rw [this]
    unfold imin
    by_cases g : (k : Int) < a
    · rw [decide_eq_true g]; rfl
    · rw [decide_eq_false g]; show a = k; omega
  omega
/-- What a keep is that crashed, and was mended. -/
structure Crashed (m : Int) (a b c d : ByteArray) (hm : Int) (ha hb hc hd : ByteArray) (z n : Int) (pre : List ByteArray) (s t : ByteArray) (v : Int) (a' c' ha' hc' : ByteArray) (pre' : List ByteArray) (s' : ByteArray) (T' : List Txt) : Prop where
  ev : Ev (fun k => keep_Crash k (KM (S6 m a b m c d) (H6 hm ha hb hm hc hd) (SL z n pre s t)) v) (KM (S6 m a' EB m c' EB) (H6 hm ha' EB hm hc' EB) (SL z n pre' s' EB), 0, ())
  ok : okS m a' EB m c' EB = true
  sm : smallS a' EB c' EB
  hok : okH hm ha' EB hm hc' EB = true
  hsm : smallH ha' EB hc' EB
  lok : okL z n pre' s' EB
  w : Whole n (files z pre' s' EB) T'
  ea : a' = a ++ b.extract 0 (leftN v b.size)
  ec : c' = c ++ d.extract 0 (leftN v d.size)
  eh : ha' = ha ++ hb.extract 0 (leftN v hb.size)
  et : leftN v t.size = t.size → ∀ T, (Whole n (files z pre s t) T ∨ Broken n (files z pre s t) T) → T' = T
  same : b = EB → d = EB → hb = EB → hd = EB → t = EB → (∃ T, Whole n (files z pre s t) T) → a' = a ∧ c' = c ∧ ha' = ha ∧ hc' = hc ∧ pre' = pre ∧ s' = s
theorem ext_E (k : Nat) : EB.extract 0 k = EB := bytes_inj (by rw [bytes_extract]; simp)
theorem tells_one {z n : Int} {pre : List ByteArray} {s t : ByteArray} {T T' : List Txt} (hok : okL z n pre s t) (h : Whole n (files z pre s t) T ∨ Broken n (files z pre s t) T) (h' : Whole n (files z pre s t) T' ∨ Broken n (files z pre s t) T') : T = T' := by
  obtain ⟨x, y, w, e⟩ := tells_scan h hok
  obtain ⟨x', y', w', e'⟩ := tells_scan h' hok
  have := congrArg (fun r : TL => r.1.1) (e.one e')
  have this : T.map mkB = T'.map mkB := this
  have inj : ∀ (a b : List Txt), a.map mkB = b.map mkB → a = b := by
    intro a
    induction a with
    | nil => intro b h; cases b with | nil => rfl | cons _ _ => cases h
    | cons x a ih =>
      intro b h
      cases b with
      | nil => cases h
      | cons y b =>
        rw [List.map_cons, List.map_cons] at h
        injection h with h1 h2
        rw [ih b h2, show x = y from congrArg (fun q : ByteArray => q.data.toList) h1]
  exact inj _ _ this
theorem crashed {m : Int} {a b c d : ByteArray} {hm : Int} {ha hb hc hd : ByteArray} {z n : Int} {pre : List ByteArray} {s t : ByteArray} (sm : smallS a b c d) (ok : okS m a b m c d = true) (hsm : smallH ha hb hc hd) (hok : okH hm ha hb hm hc hd = true) (lok : okL z n pre s t) (v : Int) :
    ∃ a' c' ha' hc' pre' s' T', Crashed m a b c d hm ha hb hc hd z n pre s t v a' c' ha' hc' pre' s' T' := by
  have hE := EB_size
  obtain ⟨o, ho⟩ := tell_ex (ha ++ hb).data.toList (by rw [size_toList, ByteArray.size_append]; have := hsm.a; have := hsm.b; omega)
  have h1 := Load_ok m a b m c d sm
  rw [loadS_ok m a b m c d ok] at h1
  have h2 := (Load_both (m := hm) (m' := hm) hsm ho).1
  rw [hok] at h2
  have h2 : ∃ base P w, Ev (fun k => snap_Load k (H6 hm ha hb hm hc hd)) (base, P, w, 0, ()) := by
    cases o with
    | none => exact ⟨_, _, _, h2⟩
    | some p => exact ⟨_, _, _, h2⟩
  obtain ⟨base, P, w, h2⟩ := h2
  have may := may_ev h1 h2 (Is_true lok)
  have c1 := NCrash_ok m a b m c d sm v
  have e1 : crashS m a b m c d v = (S6 m (a ++ b.extract 0 (leftN v b.size)) EB m (c ++ d.extract 0 (leftN v d.size)) EB, 0, ()) := by unfold crashS; rw [ok]; rfl
  rw [e1] at c1
  have c2 := (CrashH_both (m := hm) (m' := hm) hsm v).1
  have e2 : crashH hm ha hb hm hc hd v = (H6 hm (ha ++ hb.extract 0 (leftN v hb.size)) EB hm (hc ++ hd.extract 0 (leftN v hd.size)) EB, 0, ()) := by unfold crashH; rw [hok]; rfl
  rw [e2] at c2
  have c3 := SCrash_ok lok v
  obtain ⟨T0, hT0⟩ := tells_or (lok.crash v)
  obtain ⟨pre', s', t', k1, k2, k3, k4⟩ := Mend_tells (lok.crash v) hT0
  obtain rfl := k4 rfl
  obtain ⟨f1, f2, _⟩ := okS_bd ok
  have b1 := okF_bd f1
  have b2 := okF_bd f2
  have l1 := leftN_le v b.size
  have l2 := leftN_le v d.size
  have ok1 : okS m (a ++ b.extract 0 (leftN v b.size)) EB m (c ++ d.extract 0 (leftN v d.size)) EB = true := by
    unfold okS
    rw [show okF m (a ++ b.extract 0 (leftN v b.size)) EB = true from decide_eq_true ⟨b1.1, b1.2.1, by have := b1.2.2; rw [ByteArray.size_append, ByteArray.size_extract]; omega⟩, show okF m (c ++ d.extract 0 (leftN v d.size)) EB = true from decide_eq_true ⟨b1.1, b1.2.1, by have := b2.2.2; rw [ByteArray.size_append, ByteArray.size_extract]; omega⟩]
    simp
  have sm1 : smallS (a ++ b.extract 0 (leftN v b.size)) EB (c ++ d.extract 0 (leftN v d.size)) EB := by
    have := b1.2.1; have := b1.2.2; have := b2.2.2
    refine ⟨?_, by omega, ?_, by omega⟩ <;> rw [ByteArray.size_append, ByteArray.size_extract] <;> omega
  obtain ⟨x', z', g1, g2, g3, g4⟩ := crash_ok hok v
  rw [e2] at g1
  have g1 : H6 hm (ha ++ hb.extract 0 (leftN v hb.size)) EB hm (hc ++ hd.extract 0 (leftN v hd.size)) EB = H6 hm x' EB hm z' EB := congrArg Prod.fst g1
  have ex : ha ++ hb.extract 0 (leftN v hb.size) = x' := congrArg (fun q : HT => q.2.1) g1
  have ez : hc ++ hd.extract 0 (leftN v hd.size) = z' := congrArg (fun q : HT => q.2.2.2.2.1) g1
  rw [ex, ez] at c2
  refine ⟨_, _, x', z', pre', s', T0, ⟨?_, ok1, sm1, g2, g3, k1, k3, rfl, rfl, ex.symm, fun q T hT => ?_, ?_⟩⟩
  · exact Ev.bind may (Ev.f rfl (Ev.bind c1 (Ev.bind c2 (Ev.bind c3 (Ev.bind k2 (Ev.now _))))))
  · have hs := tells_syn hT
    rw [q, ext_all] at hT0
    exact tells_one lok.sync hT0 hs
  · rintro rfl rfl rfl rfl rfl ⟨T, hT⟩
    rw [ext_E, app_E] at k2
    obtain ⟨x, y, sc⟩ := hT.scan lok
    have := (Mend_good lok sc).one k2
    have this : SL z n pre s EB = SL z n pre' s' EB := congrArg Prod.fst this
    have e3 : files z pre s EB = files z pre' s' EB := congrArg (fun q : SegT => q.2.2.1) this
    obtain ⟨q1, q2, _⟩ := files_inj e3
    exact ⟨by rw [ext_E, app_E], by rw [ext_E, app_E], by rw [← ex, ext_E, app_E], by rw [← ez, ext_E, app_E], q1.symm, q2.symm⟩
/-- A keep whose parts are not right. -/
theorem Crash_no {K : KT} (h : Ev (fun k => keep_parts_may k K) (false, ())) (v : Int) : Ev (fun k => keep_Crash k K v) (KZ, 1, ()) := Ev.bind h (Ev.t rfl (Ev.now _))
theorem right_or {m : Int} {a b : ByteArray} {m' : Int} {c d : ByteArray} {hm : Int} {ha hb : ByteArray} {hm' : Int} {hc hd : ByteArray} {z n : Int} {fs : List FT} (sS : smallS a b c d) (sH : smallH ha hb hc hd) (hl : fs.length ≤ 1000) (hf : ∀ f ∈ fs, bdF f) :
    (m = m' ∧ hm = hm' ∧ okS m a b m c d = true ∧ okH hm ha hb hm hc hd = true ∧ ∃ pre s t, fs = files z pre s t ∧ okL z n pre s t) ∨ Ev (fun k => keep_parts_may k (KM (S6 m a b m' c d) (H6 hm ha hb hm' hc hd) (SG z n fs))) (false, ()) := by
  have h1 := Load_ok m a b m' c d sS
  obtain ⟨o, ho⟩ := tell_ex (ha ++ hb).data.toList (by rw [size_toList, ByteArray.size_append]; have := sH.a; have := sH.b; omega)
  have h2 := (Load_both (m := hm) (m' := hm') sH ho).1
  have key : ∀ {v : Bool}, Ev (fun k => segment_Is k (SG z n fs)) (v, ()) → (okS m a b m' c d = false ∨ okH hm ha hb hm' hc hd = false ∨ v = false) → Ev (fun k => keep_parts_may k (KM (S6 m a b m' c d) (H6 hm ha hb hm' hc hd) (SG z n fs))) (false, ()) := by
    intro v hi hv
    obtain ⟨A, hA⟩ : ∃ A, loadS m a b m' c d = A := ⟨_, rfl⟩
    obtain ⟨B, hB⟩ : ∃ B, loadH (okH hm ha hb hm' hc hd) o = B := ⟨_, rfl⟩
    have eA : okS m a b m' c d = false → A.2.2.1 = 1 := fun g => by rw [← hA, loadS_no m a b m' c d g]
    have eB : okH hm ha hb hm' hc hd = false → B.2.2.2.1 = 1 := fun g => by rw [← hB, g]; rfl
    rw [hA] at h1
    rw [hB] at h2
    obtain ⟨x, y, e, ⟨⟩⟩ := A
    obtain ⟨base, P, w, e', ⟨⟩⟩ := B
    have := may_ev h1 h2 hi
    have e0 : ((e == 0) && ((e' == 0) && v)) = false := by
      rcases hv with g | g | g
      · rw [show e = 1 from eA g]; rfl
      · rw [show e' = 1 from eB g]; simp
      · rw [g]; simp
    rw [e0] at this
    exact this
  rcases Is_cases z n fs hl hf with ⟨pre, s, t, hfs, hok, hi⟩ | hi
  · cases g1 : okS m a b m' c d with
    | false => exact .inr (key hi (.inl g1))
    | true =>
      cases g2 : okH hm ha hb hm' hc hd with
      | false => exact .inr (key hi (.inr (.inl g2)))
      | true =>
        obtain ⟨_, _, e1⟩ := okS_bd g1
        obtain ⟨_, _, e2⟩ := okH_bd g2
        subst e1 e2
        exact .inl ⟨rfl, rfl, g1, g2, pre, s, t, hfs, hok⟩
  · exact .inr (key hi (.inr (.inr rfl)))
theorem mayZ : Ev (fun k => keep_parts_may k KZ) (false, ()) := by
  have hE := EB_size
  rcases right_or (m := 0) (m' := 0) (hm := 0) (hm' := 0) (z := 0) (n := 0) (fs := []) (show smallS EB EB EB EB from ⟨by omega, by omega, by omega, by omega⟩) small_Z (by simp) (by simp) with ⟨_, _, h, _⟩ | h
  · unfold okS okF at h; simp at h
  · exact h
/-- What was opened is opened behind a crash that loses nothing. -/
theorem Crashed.open {m : Int} {a b c d : ByteArray} {hm : Int} {ha hb hc hd : ByteArray} {z n : Int} {pre : List ByteArray} {s t : ByteArray} {a' c' ha' hc' : ByteArray} {pre' : List ByteArray} {s' : ByteArray} {T' : List Txt} {tx : ByteArray} {base : Int} {P : List ByteArray} {T : List Txt} (h : Crashed m a b c d hm ha hb hc hd z n pre s t 1000000 a' c' ha' hc' pre' s' T') (sm : smallS a b c d) (ok : okS m a b m c d = true) (hsm : smallH ha hb hc hd) (hok : okH hm ha hb hm hc hd = true) (ho : Opn (S6 m a b m c d) (H6 hm ha hb hm hc hd) z n pre s t tx base P T) :
    Opn (S6 m a' EB m c' EB) (H6 hm ha' EB hm hc' EB) z n pre' s' EB tx base P T := by
  have l1 : leftN 1000000 b.size = b.size := leftN_big (by have := sm.2.1; omega)
  have l2 : leftN 1000000 d.size = d.size := leftN_big (by have := sm.2.2.2; omega)
  have l3 : leftN 1000000 hb.size = hb.size := leftN_big (by have := hsm.b; omega)
  have l4 : leftN 1000000 t.size = t.size := leftN_big (by have := ho.lok.sz.2; omega)
  have ea : a' = a ++ b := by rw [h.ea, l1, ext_all]
  have ec : c' = c ++ d := by rw [h.ec, l2, ext_all]
  have eh : ha' = ha ++ hb := by rw [h.eh, l3, ext_all]
  have eT := h.et l4 T ho.tells
  have hw := h.w
  rw [eT] at hw
  refine ⟨?_, ?_, h.lok, .inl hw, ho.pl, ho.b0, ho.b1⟩
  · obtain ⟨y, hy⟩ := ho.note
    have k1 := Load_ok m a b m c d sm
    rw [loadS_ok m a b m c d ok] at k1
    have e1 := hy.one k1
    have k2 := Load_ok m a' EB m c' EB h.sm
    rw [loadS_ok m a' EB m c' EB h.ok, show bestS a' EB c' EB = bestS a b c d by unfold bestS; rw [app_E, app_E, ea, ec], ← e1] at k2
    exact ⟨y, k2⟩
  · obtain ⟨w, hw⟩ := ho.pic
    obtain ⟨o, hto⟩ := tell_ex (ha ++ hb).data.toList (by rw [size_toList, ByteArray.size_append]; have := hsm.a; have := hsm.b; omega)
    have k1 := (Load_both (m := hm) (m' := hm) hsm hto).1
    rw [hok] at k1
    have e1 := hw.one k1
    have k2 := (Load_both (m := hm) (m' := hm) h.hsm (o := o) (by rw [app_E, eh]; exact hto)).1
    rw [h.hok, ← e1] at k2
    exact ⟨w, k2⟩
end Go.Proofs.YtohlhliifeeokaaGreat.A
