import Derived.Test.YtfhphiedbdinmaaGreatDoorAT3
set_option linter.all false
namespace Go.Proofs.YtfhphiedbdinmaaGreatDoor.A
open Go Ab
section
theorem Mend_tells {z n : Int} {pre : List ByteArray} {s t : ByteArray} {T : List Txt} (h : okL z n pre s t) (hT : Whole n (files z pre s t) T \/ Broken n (files z pre s t) T) :
 ∃ pre' s' t', okL z n pre' s' t' /\ Ev (fun k => segment_Mend k (SL z n pre s t)) (SL z n pre' s' t', 0, ()) /\ Whole n (files z pre' s' t') T /\ (t = EB -> t' = EB) := by
 rcases hT with hw | hb
 . obtain ⟨x, y, sc⟩ := hw.scan h
   exact ⟨pre, s, t, h, Mend_good h sc, hw, id⟩
 . obtain ⟨p, f, q, ps, ts, rest, h1, h2, h3, h4, h5, rfl⟩ := hb
   obtain ⟨pre', W, g1, g2, g3, g4, _⟩ := Mend_bad h h1 h2 h3 h4 h5
   exact ⟨pre', W, EB, g1, g2, ⟨ps ++ [ts], g3, g4, by rw [flat_last]⟩, fun _ => rfl⟩
structure Crashed (m : Int) (a b c d : ByteArray) (hm : Int) (ha hb hc hd : ByteArray) (z n : Int) (pre : List ByteArray) (s t : ByteArray) (v : Int) (a' c' ha' hc' : ByteArray) (pre' : List ByteArray) (s' : ByteArray) (T' : List Txt) : Prop where
 ev : Ev (fun k => keep_Crash k (KM (S6 m a b m c d) (H6 hm ha hb hm hc hd) (SL z n pre s t)) v) (KM (S6 m a' EB m c' EB) (H6 hm ha' EB hm hc' EB) (SL z n pre' s' EB), 0, ())
 ok : okS m a' EB m c' EB = true
 sm : smallS a' EB c' EB
 hok : okH hm ha' EB hm hc' EB = true
 hsm : smallH ha' EB hc' EB
 lok : okL z n pre' s' EB
 w : Whole n (files z pre' s' EB) T'
 ea : a' = a ++ b.extract 0 (leftN v b.size)
 ec : c' = c ++ d.extract 0 (leftN v d.size)
 eh : ha' = ha ++ hb.extract 0 (leftN v hb.size)
 tl : Whole n (files z pre (s ++ t.extract 0 (leftN v t.size)) EB) T' \/ Broken n (files z pre (s ++ t.extract 0 (leftN v t.size)) EB) T'
 et : leftN v t.size = t.size -> ∀ T, (Whole n (files z pre s t) T \/ Broken n (files z pre s t) T) -> T' = T
 same : b = EB -> d = EB -> hb = EB -> hd = EB -> t = EB -> (∃ T, Whole n (files z pre s t) T) -> a' = a /\ c' = c /\ ha' = ha /\ hc' = hc /\ pre' = pre /\ s' = s
theorem ext_E (k : Nat) : EB.extract 0 k = EB := bytes_inj (by rw [bytes_extract]; simp)
theorem tells_one {z n : Int} {pre : List ByteArray} {s t : ByteArray} {T T' : List Txt} (hok : okL z n pre s t) (h : Whole n (files z pre s t) T \/ Broken n (files z pre s t) T) (h' : Whole n (files z pre s t) T' \/ Broken n (files z pre s t) T') : T = T' := by
 obtain ⟨x, y, w, e⟩ := tells_scan h hok
 obtain ⟨x', y', w', e'⟩ := tells_scan h' hok
 have := congrArg (fun r : TL => r.1.1) (e.one e')
 have this : T.map mkB = T'.map mkB := this
 have inj : ∀ (a b : List Txt), a.map mkB = b.map mkB -> a = b := by
  intro a
  induction a with
  | nil => intro b h; cases b with | nil => rfl | cons _ _ => cases h
  | cons x a ih =>
    intro b h
    cases b with
    | nil => cases h
    | cons y b =>
      rw [List.map_cons, List.map_cons] at h
      injection h with h1 h2
      rw [ih b h2, show x = y from congrArg (fun q : ByteArray => q.data.toList) h1]
 exact inj _ _ this
theorem crashed {m : Int} {a b c d : ByteArray} {hm : Int} {ha hb hc hd : ByteArray} {z n : Int} {pre : List ByteArray} {s t : ByteArray} (sm : smallS a b c d) (ok : okS m a b m c d = true) (hsm : smallH ha hb hc hd) (hok : okH hm ha hb hm hc hd = true) (lok : okL z n pre s t) (v : Int) :
 ∃ a' c' ha' hc' pre' s' T', Crashed m a b c d hm ha hb hc hd z n pre s t v a' c' ha' hc' pre' s' T' := by
 have hE := EB_size
 obtain ⟨o, ho⟩ := tell_ex (ha ++ hb).data.toList (by rw [size_toList, ByteArray.size_append]; have := hsm.a; have := hsm.b; omega)
 have h1 := Load_ok m a b m c d sm
 rw [loadS_ok m a b m c d ok] at h1
 have h2 := Load1 (m := hm) (m' := hm) hsm ho
 rw [hok] at h2
 have h2 : ∃ base P w, Ev (fun k => snap_Load k (H6 hm ha hb hm hc hd)) (base, P, w, 0, ()) := by
  cases o with
  | none => exact ⟨_, _, _, h2⟩
  | some p => exact ⟨_, _, _, h2⟩
 obtain ⟨base, P, w, h2⟩ := h2
 have may := may_ev h1 h2 (Is_true lok)
 have c1 := NCrash_ok m a b m c d sm v
 have e1 : crashS m a b m c d v = (S6 m (a ++ b.extract 0 (leftN v b.size)) EB m (c ++ d.extract 0 (leftN v d.size)) EB, 0, ()) := by unfold crashS; rw [ok]; rfl
 rw [e1] at c1
 have c2 := CrashH1 (m := hm) (m' := hm) hsm v
 have e2 : crashH hm ha hb hm hc hd v = (H6 hm (ha ++ hb.extract 0 (leftN v hb.size)) EB hm (hc ++ hd.extract 0 (leftN v hd.size)) EB, 0, ()) := by unfold crashH; rw [hok]; rfl
 rw [e2] at c2
 have c3 := SCrash_ok lok v
 obtain ⟨T0, hT0⟩ := tells_or (lok.crash v)
 obtain ⟨pre', s', t', k1, k2, k3, k4⟩ := Mend_tells (lok.crash v) hT0
 obtain rfl := k4 rfl
 obtain ⟨f1, f2, _⟩ := okS_bd ok
 have b1 := okF_bd f1
 have b2 := okF_bd f2
 have l1 := leftN_le v b.size
 have l2 := leftN_le v d.size
 have ok1 : okS m (a ++ b.extract 0 (leftN v b.size)) EB m (c ++ d.extract 0 (leftN v d.size)) EB = true := by
  unfold okS
  rw [show okF m (a ++ b.extract 0 (leftN v b.size)) EB = true from decide_eq_true ⟨b1.1, b1.2.1, by have := b1.2.2; rw [ByteArray.size_append, ByteArray.size_extract]; omega⟩, show okF m (c ++ d.extract 0 (leftN v d.size)) EB = true from decide_eq_true ⟨b1.1, b1.2.1, by have := b2.2.2; rw [ByteArray.size_append, ByteArray.size_extract]; omega⟩]
  simp
 have sm1 : smallS (a ++ b.extract 0 (leftN v b.size)) EB (c ++ d.extract 0 (leftN v d.size)) EB := by
  have := b1.2.1; have := b1.2.2; have := b2.2.2
  refine ⟨?_, by omega, ?_, by omega⟩ <;> rw [ByteArray.size_append, ByteArray.size_extract] <;> omega
 obtain ⟨x', z', g1, g2, g3, g4⟩ := crash_ok hok v
 rw [e2] at g1
 have g1 : H6 hm (ha ++ hb.extract 0 (leftN v hb.size)) EB hm (hc ++ hd.extract 0 (leftN v hd.size)) EB = H6 hm x' EB hm z' EB := congrArg Prod.fst g1
 have ex : ha ++ hb.extract 0 (leftN v hb.size) = x' := congrArg (fun q : HT => q.2.1) g1
 have ez : hc ++ hd.extract 0 (leftN v hd.size) = z' := congrArg (fun q : HT => q.2.2.2.2.1) g1
 rw [ex, ez] at c2
 refine ⟨_, _, x', z', pre', s', T0, ⟨?_, ok1, sm1, g2, g3, k1, k3, rfl, rfl, ex.symm, hT0, fun q T hT => ?_, ?_⟩⟩
 . exact Ev.bind may (Ev.f rfl (Ev.bind c1 (Ev.bind c2 (Ev.bind c3 (Ev.bind k2 (Ev.now _))))))
 . have hs := tells_syn hT
   rw [q, ext_all] at hT0
   exact tells_one lok.sync hT0 hs
 . rintro rfl rfl rfl rfl rfl ⟨T, hT⟩
   rw [ext_E, app_E] at k2
   obtain ⟨x, y, sc⟩ := hT.scan lok
   have := (Mend_good lok sc).one k2
   have this : SL z n pre s EB = SL z n pre' s' EB := congrArg Prod.fst this
   have e3 : files z pre s EB = files z pre' s' EB := congrArg (fun q : SegT => q.2.2.1) this
   obtain ⟨q1, q2, _⟩ := files_inj e3
   exact ⟨by rw [ext_E, app_E], by rw [ext_E, app_E], by rw [<- ex, ext_E, app_E], by rw [<- ez, ext_E, app_E], q1.symm, q2.symm⟩
end
section
def Gd (K : KT) (tx : ByteArray) (base : Int) (P : List ByteArray) (z n : Int) (T : List Txt) : Prop :=
 ∃ m a c hm ha hc pre s, K = KM (S6 m a EB m c EB) (H6 hm ha EB hm hc EB) (SL z n pre s EB) /\ smallS a EB c EB /\ okS m a EB m c EB = true /\ smallH ha EB hc EB /\ okH hm ha EB hm hc EB = true /\
  Opn (S6 m a EB m c EB) (H6 hm ha EB hm hc EB) z n pre s EB tx base P T /\ Whole n (files z pre s EB) T
theorem Gd.open {K : KT} {tx : ByteArray} {base : Int} {P : List ByteArray} {z n : Int} {T : List Txt} (h : Gd K tx base P z n T) : Ev (fun k => keep_Open k K) (tx, base, P, (T.drop (base - n).toNat).map mkB, 0, ()) := by
 obtain ⟨m, a, c, hm, ha, hc, pre, s, rfl, _, _, _, _, ho, _⟩ := h
 exact ho.open
theorem Gd.bd {K : KT} {tx : ByteArray} {base : Int} {P : List ByteArray} {z n : Int} {T : List Txt} (h : Gd K tx base P z n T) : 0 <= n /\ n <= 900000000 /\ n <= base /\ base <= n + T.length /\ T.length <= 160000 /\ P.length <= 1000000 := by
 obtain ⟨m, a, c, hm, ha, hc, pre, s, rfl, _, _, _, _, ho, _⟩ := h
 exact ⟨ho.lok.n0, ho.lok.n1, ho.b0, ho.b1, ho.tl, ho.pl⟩
theorem Gd.crash {K : KT} {tx : ByteArray} {base : Int} {P : List ByteArray} {z n : Int} {T : List Txt} (h : Gd K tx base P z n T) (v : Int) : Ev (fun k => keep_Crash k K v) (K, 0, ()) := by
 obtain ⟨m, a, c, hm, ha, hc, pre, s, rfl, sm, ok, hsm, hok, ho, hw⟩ := h
 obtain ⟨a', c', ha', hc', pre', s', T', hC⟩ := crashed sm ok hsm hok ho.lok v
 obtain ⟨rfl, rfl, rfl, rfl, rfl, rfl⟩ := hC.same rfl rfl rfl rfl rfl ⟨_, hw⟩
 exact hC.ev
theorem pic_same {hm : Int} {ha hb hc hd ha' hc' : ByteArray} {R : Int × (List ByteArray × (Bool × (Int × Unit)))} (hsm : smallH ha hb hc hd) (hok : okH hm ha hb hm hc hd = true) (hsm' : smallH ha' EB hc' EB) (hok' : okH hm ha' EB hm hc' EB = true) (eh : ha' = ha ++ hb) (h : Ev (fun k => snap_Load k (H6 hm ha hb hm hc hd)) R) : Ev (fun k => snap_Load k (H6 hm ha' EB hm hc' EB)) R := by
 obtain ⟨o, hto⟩ := tell_ex (ha ++ hb).data.toList (by rw [size_toList, ByteArray.size_append]; have := hsm.a; have := hsm.b; omega)
 have k1 := Load1 (m := hm) (m' := hm) hsm hto
 rw [hok] at k1
 have e1 := h.one k1
 have k2 := Load1 (m := hm) (m' := hm) hsm' (o := o) (by rw [app_E, eh]; exact hto)
 rw [hok', <- e1] at k2
 exact k2
theorem Crashed.gd {m : Int} {a b c d : ByteArray} {hm : Int} {ha hb hc hd : ByteArray} {z n : Int} {pre : List ByteArray} {s t : ByteArray} {v : Int} {a' c' ha' hc' : ByteArray} {pre' : List ByteArray} {s' : ByteArray} {T' : List Txt} {tx : ByteArray} {base : Int} {P : List ByteArray} (h : Crashed m a b c d hm ha hb hc hd z n pre s t v a' c' ha' hc' pre' s' T')
 (hn : ∃ y, Ev (fun k => slots_Load k (S6 m a' EB m c' EB)) (tx, y, 0, ())) (hp : ∃ w, Ev (fun k => snap_Load k (H6 hm ha' EB hm hc' EB)) (base, P, w, 0, ())) (pl : P.length <= 1000000) (b0 : n <= base) (b1 : base <= n + T'.length) :
 Gd (KM (S6 m a' EB m c' EB) (H6 hm ha' EB hm hc' EB) (SL z n pre' s' EB)) tx base P z n T' :=
 ⟨m, a', c', hm, ha', hc', pre', s', rfl, h.sm, h.ok, h.hsm, h.hok, ⟨hn, hp, h.lok, .inl h.w, pl, b0, b1⟩, h.w⟩
def Job (z : Int) (x : KT) (done : Bool) (R : ByteArray -> Int -> List ByteArray -> Int -> List Txt -> Prop) : Prop :=
 (done = true /\ ∃ tx base P n T, Gd x tx base P z n T /\ R tx base P n T) \/ (done = false /\ ∀ v, ∃ K' tx base P n T, Ev (fun k => keep_Crash k x v) (K', 0, ()) /\ Gd K' tx base P z n T /\ R tx base P n T)
section
variable {K : KT} {tx : ByteArray} {base : Int} {P : List ByteArray} {z n : Int} {T : List Txt} (h : Gd K tx base P z n T)
include h
end
section
variable {S : ST} {H : HT} {z n : Int} {pre : List ByteArray} {s t tx : ByteArray} {base : Int} {P : List ByteArray} {T : List Txt} (h : Opn S H z n pre s t tx base P T) (l : List ByteArray) {A A' : SegT} {e : Int}
include h
theorem Opn.push_all {D : Int} (hD : D < 0 \/ 2 <= D) (hA : Ev (fun k => segment_Add k (SL z n pre s t) l) (A, 0, ())) (hS : Ev (fun k => segment_Sync k A) (A', 0, ())) : Ev (fun k => keep_Push k (KM S H (SL z n pre s t)) l D) (KM S H A', true, 0, ()) := by
 have end3 : Ev (fun k => keep_Push_l1 l 2 k (false, 0, J2, KZ, KM S H A', ())) (.exit 0, false, 0, J2, KZ, KM S H A', ()) := Ev.step (Ev.f rfl (Ev.now _))
 have l2 : Ev (fun k => keep_Push_l1 l 2 k (false, 0, J1, KZ, KM S H A, ())) (.exit 0, false, 0, J2, KZ, KM S H A', ()) := Ev.step (Ev.t rfl (Ev.t rfl (Ev.t rfl (Ev.f rfl (Ev.t rfl (Ev.bind hS (Ev.f rfl end3)))))))
 have l1 : Ev (fun k => keep_Push_l1 l 2 k (false, 0, 0, KZ, KM S H (SL z n pre s t), ())) _ := Ev.step (Ev.t rfl (Ev.t rfl (Ev.t rfl (Ev.t rfl (Ev.bind hA (Ev.f rfl l2))))))
 by_cases c1 : D < 0
 . exact h.go (Ev.bind (cloneF_ev h.lok.len) (Ev.dt c1 (Ev.bind l1 (Ev.t rfl (Ev.now _)))))
 . by_cases c2 : D > 2
   . exact h.go (Ev.bind (cloneF_ev h.lok.len) (Ev.df c1 (Ev.dt c2 (Ev.bind l1 (Ev.t rfl (Ev.now _))))))
   . obtain rfl : D = 2 := by omega
     exact h.go (Ev.bind (cloneF_ev h.lok.len) (Ev.f rfl (Ev.f rfl (Ev.t rfl (Ev.t rfl (Ev.bind l1 (Ev.t rfl (Ev.now _))))))))
theorem Opn.push_err {D : Int} (hD : D ≠ 0) (hA : Ev (fun k => segment_Add k (SL z n pre s t) l) (A, e, ())) (he : e ≠ 0) : Ev (fun k => keep_Push k (KM S H (SL z n pre s t)) l D) (KZ, false, e, ()) := by
 have l1 : Ev (fun k => keep_Push_l1 l 2 k (false, 0, 0, KZ, KM S H (SL z n pre s t), ())) (.ret, false, e, 0, KZ, KM S H A, ()) := Ev.step (Ev.t rfl (Ev.t rfl (Ev.t rfl (Ev.t rfl (Ev.bind hA (Ev.t (nbne_i he) (Ev.now _)))))))
 by_cases c1 : D < 0
 . exact h.go (Ev.bind (cloneF_ev h.lok.len) (Ev.dt c1 (Ev.bind l1 (Ev.now _))))
 . by_cases c2 : D > 2
   . exact h.go (Ev.bind (cloneF_ev h.lok.len) (Ev.df c1 (Ev.dt c2 (Ev.bind l1 (Ev.now _)))))
   . by_cases c3 : D = 2
     . subst c3
       exact h.go (Ev.bind (cloneF_ev h.lok.len) (Ev.f rfl (Ev.f rfl (Ev.t rfl (Ev.t rfl (Ev.bind l1 (Ev.now _)))))))
     . obtain rfl : D = 1 := by omega
       have l1 : Ev (fun k => keep_Push_l1 l 1 k (false, 0, 0, KZ, KM S H (SL z n pre s t), ())) (.ret, false, e, 0, KZ, KM S H A, ()) := Ev.step (Ev.t rfl (Ev.t rfl (Ev.t rfl (Ev.t rfl (Ev.bind hA (Ev.t (nbne_i he) (Ev.now _)))))))
       exact h.go (Ev.bind (cloneF_ev h.lok.len) (Ev.f rfl (Ev.f rfl (Ev.t rfl (Ev.t rfl (Ev.bind l1 (Ev.now _)))))))
end
section
variable {K : KT} {tx : ByteArray} {base : Int} {P : List ByteArray} {z n : Int} {T : List Txt} (h : Gd K tx base P z n T)
include h
end
abbrev snL (K0 : KT) (u : Int) (l : List ByteArray) (D i : Int) (K : KT) (k : Nat) := keep_Snap_l1 K0 u l D k (false, 0, i, KZ, K, ())
section
variable {S : ST} {H : HT} {z n : Int} {pre : List ByteArray} {s t tx : ByteArray} {base : Int} {P : List ByteArray} {T : List Txt} (h : Opn S H z n pre s t tx base P T) {u : Int} {l : List ByteArray} (hu : base <= u /\ u <= n + T.length) {X X1 X2 X3 : HT} {w w1 w2 w3 : Bool} (hs : Ev (fun k => snap_Save k H u l (-1)) (X, w, 0, ())) (hs1 : Ev (fun k => snap_Save k H u l 1) (X1, w1, 0, ())) (hs2 : Ev (fun k => snap_Save k H u l 2) (X2, w2, 0, ())) (hs3 : Ev (fun k => snap_Save k H u l 3) (X3, w3, 0, ()))
include h hu hs
include hs1 hs2 hs3 in
theorem Opn.snaps {G : SegT} (hd : Ev (fun k => segment_Drop k (SL z n pre (s ++ t) EB) u) (G, 0, ())) : Ev (fun k => keep_Snap k (KM S H (SL z n pre s t)) u l 0) (KM S H (SL z n pre s t), false, 0, ()) /\ Ev (fun k => keep_Snap k (KM S H (SL z n pre s t)) u l 1) (KM S H (SL z n pre (s ++ t) EB), false, 0, ()) /\
 Ev (fun k => keep_Snap k (KM S H (SL z n pre s t)) u l 2) (KM S X1 (SL z n pre (s ++ t) EB), false, 0, ()) /\ Ev (fun k => keep_Snap k (KM S H (SL z n pre s t)) u l 3) (KM S X2 (SL z n pre (s ++ t) EB), false, 0, ()) /\
 Ev (fun k => keep_Snap k (KM S H (SL z n pre s t)) u l 4) (KM S X3 (SL z n pre (s ++ t) EB), false, 0, ()) /\ ∀ D, D < 0 \/ 5 <= D -> Ev (fun k => keep_Snap k (KM S H (SL z n pre s t)) u l D) (KM S X3 G, true, 0, ()) := by
 obtain ⟨w1, h2⟩ := h.pic
 obtain ⟨K1, hK1⟩ : ∃ G1, SL z n pre (s ++ t) EB = G1 := ⟨_, rfl⟩
 have hy := SSync_ok h.lok
 rw [hK1] at hd hy ⊢
 have e : ∀ {D i : Int} {K : KT}, ¬ i < (D.toNat : Int) -> Ev (snL (KM S H (SL z n pre s t)) u l D i K) (.exit 0, false, 0, i, KZ, K, ()) := fun c => Ev.step (Ev.df c (Ev.now _))
 have s0 : ∀ {D : Int} {R}, (0 : Int) < (D.toNat : Int) -> Ev (snL (KM S H (SL z n pre s t)) u l D J1 (KM S H K1)) R -> Ev (snL (KM S H (SL z n pre s t)) u l D 0 (KM S H (SL z n pre s t))) R := fun c r => Ev.step (Ev.dt c (Ev.t rfl (Ev.dt c (Ev.t rfl (Ev.bind hy (Ev.f rfl r))))))
 have s1 : ∀ {D : Int} {R}, J1 < (D.toNat : Int) -> Ev (snL (KM S H (SL z n pre s t)) u l D J2 (KM S X1 K1)) R -> Ev (snL (KM S H (SL z n pre s t)) u l D J1 (KM S H K1)) R := fun c r => Ev.step (Ev.dt c (Ev.t rfl (Ev.dt c (Ev.f rfl (Ev.t rfl (Ev.bind hs1 (Ev.f rfl r)))))))
 have s2 : ∀ {D : Int} {R}, J2 < (D.toNat : Int) -> Ev (snL (KM S H (SL z n pre s t)) u l D J3 (KM S X2 K1)) R -> Ev (snL (KM S H (SL z n pre s t)) u l D J2 (KM S X1 K1)) R := fun c r => Ev.step (Ev.dt c (Ev.t rfl (Ev.dt c (Ev.f rfl (Ev.f rfl (Ev.t rfl (Ev.bind hs2 (Ev.f rfl r))))))))
 have s3 : ∀ {D : Int} {R}, J3 < (D.toNat : Int) -> Ev (snL (KM S H (SL z n pre s t)) u l D J4 (KM S X3 K1)) R -> Ev (snL (KM S H (SL z n pre s t)) u l D J3 (KM S X2 K1)) R := fun c r => Ev.step (Ev.dt c (Ev.t rfl (Ev.dt c (Ev.f rfl (Ev.f rfl (Ev.f rfl (Ev.t rfl (Ev.bind hs3 (Ev.f rfl r)))))))))
 have s4 : ∀ {D : Int} {R}, J4 < (D.toNat : Int) -> Ev (snL (KM S H (SL z n pre s t)) u l D J5 (KM S X3 G)) R -> Ev (snL (KM S H (SL z n pre s t)) u l D J4 (KM S X3 K1)) R := fun c r => Ev.step (Ev.dt c (Ev.t rfl (Ev.dt c (Ev.f rfl (Ev.f rfl (Ev.f rfl (Ev.f rfl (Ev.t rfl (Ev.bind hd (Ev.f rfl r))))))))))
 have g : ∀ {D i : Int} {K : KT}, 0 <= D -> D <= 5 -> Ev (snL (KM S H (SL z n pre s t)) u l D 0 (KM S H (SL z n pre s t))) (.exit 0, false, 0, i, KZ, K, ()) -> Ev (fun k => keep_Snap k (KM S H (SL z n pre s t)) u l D) (K, D == 5, 0, ()) := fun {D i K} d0 d5 r => h.go (Ev.bind (cloneF_ev h.lok.len) (Ev.bind (base_ev h2) (Ev.df (by show ¬ u < base; omega) (Ev.bind (end_ev h.lok h.tells) (Ev.df (by show ¬ u > n + (T.length : Int); omega) (Ev.bind hs (Ev.f rfl (Ev.df (by omega) (Ev.df (by show ¬ D > 5; omega) (Ev.dt d0 (Ev.dt (by show D <= 5; omega) (Ev.bind r (Ev.t rfl (Ev.now _))))))))))))))
 have f : ∀ {D : Int}, D.toNat = 5 -> Ev (snL (KM S H (SL z n pre s t)) u l D 0 (KM S H (SL z n pre s t))) (.exit 0, false, 0, J5, KZ, KM S X3 G, ()) := fun q => s0 (by rw [q]; decide) (s1 (by rw [q]; decide) (s2 (by rw [q]; decide) (s3 (by rw [q]; decide) (s4 (by rw [q]; decide) (e (by rw [q]; decide))))))
 refine ⟨g (by decide) (by decide) (e (by decide)), g (by decide) (by decide) (s0 (by decide) (e (by decide))), g (by decide) (by decide) (s0 (by decide) (s1 (by decide) (e (by decide)))), g (by decide) (by decide) (s0 (by decide) (s1 (by decide) (s2 (by decide) (e (by decide))))), g (by decide) (by decide) (s0 (by decide) (s1 (by decide) (s2 (by decide) (s3 (by decide) (e (by decide)))))), fun D hD => ?_⟩
 by_cases c1 : D < 0
 . exact h.go (Ev.bind (cloneF_ev h.lok.len) (Ev.bind (base_ev h2) (Ev.df (by show ¬ u < base; omega) (Ev.bind (end_ev h.lok h.tells) (Ev.df (by show ¬ u > n + (T.length : Int); omega) (Ev.bind hs (Ev.f rfl (Ev.dt c1 (Ev.bind (f rfl) (Ev.t rfl (Ev.now _)))))))))))
 . by_cases c2 : D > 5
   . exact h.go (Ev.bind (cloneF_ev h.lok.len) (Ev.bind (base_ev h2) (Ev.df (by show ¬ u < base; omega) (Ev.bind (end_ev h.lok h.tells) (Ev.df (by show ¬ u > n + (T.length : Int); omega) (Ev.bind hs (Ev.f rfl (Ev.df c1 (Ev.dt c2 (Ev.bind (f rfl) (Ev.t rfl (Ev.now _))))))))))))
   . obtain rfl : D = 5 := by omega
     exact g (by decide) (by decide) (f rfl)
end
section
variable {K : KT} {tx : ByteArray} {base : Int} {P : List ByteArray} {z n : Int} {T : List Txt} (h : Gd K tx base P z n T)
include h
theorem snap_job (u : Int) (L : List Txt) (hL : L.length <= 1000) (D : Int) : (∃ x d e, e ≠ 0 /\ Ev (fun k => keep_Snap k K u (L.map mkB) D) (x, d, e, ())) \/ ∃ x d, Ev (fun k => keep_Snap k K u (L.map mkB) D) (x, d, 0, ()) /\
 Job z x d (fun tx' base' P' n' T' => tx' = tx /\ (∃ dd, T = dd ++ T' /\ n' = n + (dd.length : Int)) /\ (base' = u /\ P' = L.map mkB \/ d = false /\ base' = base /\ P' = P)) := by
 have hg := h
 obtain ⟨m, a, c, hm, ha, hc, pre, s, rfl, sm, ok, hsm, hok, ho, hw⟩ := h
 by_cases hu : base <= u /\ u <= n + T.length
 case neg => exact .inl ⟨_, _, 80, by decide, ho.snap_no (by omega)⟩
 have sv := fun D => Save1 (m := hm) (m' := hm) hsm u L (by omega) D
 rcases saveA_all hm ha EB hm hc EB u L with ⟨g, p, hp, hsz, hD⟩ | ⟨e, he, hD⟩
 case inr =>
  have := sv (-1)
  rw [hD] at this
  exact .inl ⟨_, _, e, he, ho.snap_err hu this he⟩
 have sv := fun D => hD D ▸ sv D
 right
 obtain ⟨w0, hp0⟩ := ho.pic
 have nr : nrm 1 = 1 /\ nrm 2 = 2 /\ nrm 3 = 3 := ⟨by decide, by decide, by decide⟩
 have sv1 := sv 1
 have sv2 := sv 2
 have sv3 := sv 3
 rw [nr.1] at sv1
 rw [nr.2.1] at sv2
 rw [nr.2.2] at sv3
 have hpz : (((mkB p).size : Nat) : Int) <= hm := by rw [mkB_size]; exact hsz
 -- stopped at a deed: the picture is what it was, or the new one
 have stop : ∀ J : Int, 0 <= J -> J <= 3 -> ∀ v, ∃ K' tx' base' P' n' T', Ev (fun k => keep_Crash k (KM (S6 m a EB m c EB) (saveJ hm ha EB hm hc EB (mkB p) J) (SL z n pre (s ++ EB) EB)) v) (K', 0, ()) /\ Gd K' tx' base' P' z n' T' /\ tx' = tx /\ (∃ dd, T = dd ++ T' /\ n' = n + (dd.length : Int)) /\ (base' = u /\ P' = L.map mkB \/ false = false /\ base' = base /\ P' = P) := by
  intro J j0 j3 v
  obtain ⟨x, y, zz, ww, e1, e2, e3, _, _, _, _, e8, e9⟩ := saveJ_ok g hpz j0 j3
  rw [e1, app_E]
  obtain ⟨a', c', ha', hc', pre', s', T', hC⟩ := crashed sm ok e3 e2 ho.lok v
  have ea : a' = a := by rw [hC.ea, ext_E, app_E]
  have ec : c' = c := by rw [hC.ec, ext_E, app_E]
  have eT : T' = T := hC.et (by have := leftN_le v EB.size; have := EB_size; omega) T (.inl hw)
  subst ea ec eT
  by_cases hJ : J = 3
  . obtain ⟨rfl, rfl, rfl, rfl⟩ := e9 hJ
    have eh : ha' = mkB p := by rw [hC.eh, ext_E, app_E]
    subst eh
    have hto : TellIs (mkB p ++ EB).data.toList (some (u, L)) := by rw [app_E]; show PicIs (mkB p).data.toList u L; exact hp
    have hld := Load1 (m := hm) (m' := hm) hC.hsm hto
    rw [hC.hok] at hld
    have b0 := ho.b0
    have gd := hC.gd ho.note ⟨_, hld⟩ (by rw [List.length_map]; omega) (by omega) (by omega)
    exact ⟨_, _, _, _, _, _, hC.ev, gd, rfl, ⟨[], rfl, by simp⟩, .inl ⟨rfl, rfl⟩⟩
  . obtain ⟨rfl, rfl⟩ := e8 hJ
    have eh : ha' = x ++ EB := by rw [hC.eh, ext_E]
    have hq := pic_same hsm hok hC.hsm hC.hok eh hp0
    exact ⟨_, _, _, _, _, _, hC.ev, hC.gd ho.note ⟨_, hq⟩ ho.pl ho.b0 ho.b1, rfl, ⟨[], rfl, by simp⟩, .inr ⟨rfl, rfl, rfl⟩⟩
 have s0 := stop 0 (by decide) (by decide)
 rw [show saveJ hm ha EB hm hc EB (mkB p) 0 = H6 hm ha EB hm hc EB from rfl] at s0
 obtain ⟨n', pre', dd, T', k1, k2, k3, k4, k5, k6, k7⟩ := Drop_tells ho.lok.sync (tells_syn ho.tells) u
 obtain ⟨o0, o1, o2, o3, o4, o5⟩ := ho.snaps hu (sv (-1)) sv1 sv2 sv3 k1
 by_cases hfull : D < 0 \/ 5 <= D
 . have ev := o5 D hfull
   obtain ⟨x, y, zz, ww, e1, e2, e3, _, _, _, _, e8, e9⟩ := saveJ_ok g hpz (J := 3) (by decide) (by decide)
   obtain ⟨rfl, rfl, rfl, rfl⟩ := e9 rfl
   rw [e1] at ev
   have hto : TellIs (mkB p ++ EB).data.toList (some (u, L)) := by rw [app_E]; show PicIs (mkB p).data.toList u L; exact hp
   have hld := Load1 (m := hm) (m' := hm) e3 hto
   rw [e2] at hld
   have b0 := ho.b0
   have b1 := ho.b1
   have hlen := congrArg List.length k4
   rw [List.length_append] at hlen
   refine ⟨_, _, ev, .inl ⟨rfl, tx, u, L.map mkB, n', T', ⟨m, a, c, hm, _, _, pre', _, rfl, sm, ok, e3, e2, ⟨ho.note, ⟨_, hld⟩, k2, k3, by rw [List.length_map]; omega, by omega, by omega⟩, k7 hw.syn⟩, rfl, ⟨dd, k4, k5⟩, .inl ⟨rfl, rfl⟩⟩⟩
 . obtain c0 | c0 | c0 | c0 | c0 : D = 0 \/ D = 1 \/ D = 2 \/ D = 3 \/ D = 4 := by omega
   . subst c0; exact ⟨_, _, o0, .inr ⟨rfl, fun v => ⟨_, _, _, _, _, _, hg.crash v, hg, rfl, ⟨[], rfl, by simp⟩, .inr ⟨rfl, rfl, rfl⟩⟩⟩⟩
   . subst c0; exact ⟨_, _, o1, .inr ⟨rfl, s0⟩⟩
   . subst c0; exact ⟨_, _, o2, .inr ⟨rfl, stop 1 (by decide) (by decide)⟩⟩
   . subst c0; exact ⟨_, _, o3, .inr ⟨rfl, stop 2 (by decide) (by decide)⟩⟩
   . subst c0; exact ⟨_, _, o4, .inr ⟨rfl, stop 3 (by decide) (by decide)⟩⟩
end
end
section
set_option maxRecDepth 4000
theorem tell_none : TellIs [] none := by
 rintro n L ⟨_, _, _, _, _, h⟩
 have hd : (1 : Nat) <= (hdB 3 (rowB (intB n :: L))).length := by
  have : intB 3 ≠ [] := by decide
  have := List.length_pos_iff.2 this
  unfold hdB
  rw [List.length_append]; omega
 have := congrArg List.length h
 simp [frB] at this
 omega
theorem new_ok (m : Int) : (∃ e, e ≠ 0 /\ Ev (fun k => keep_New k m) (KZ, e, ())) \/ ∃ K tx, Ev (fun k => keep_New k m) (K, 0, ()) /\ Gd K tx 0 [] m 0 [] := by
 have h1 := NNew_ok m
 have h2 := NewH1 m
 have hE := EB_size
 rcases SNew_cases m 0 with ⟨ok, h3⟩ | h3
 . have b0 := ok.z0
   have b1 := ok.z1
   have g : decide (1 <= m /\ m <= 4000) = true := decide_eq_true ⟨by omega, b1⟩
   unfold newS at h1
   unfold newH at h2
   rw [g] at h1 h2
   have f0 : okF m EB EB = true := decide_eq_true ⟨by omega, b1, by omega⟩
   have okS0 : okS m EB EB m EB EB = true := by unfold okS; rw [f0]; simp
   have okH0 : okH m EB EB m EB EB = true := by unfold okH; rw [f0]; simp
   have sm : smallS EB EB EB EB := ⟨by omega, by omega, by omega, by omega⟩
   have l1 := Load_ok m EB EB m EB EB sm
   rw [loadS_ok _ _ _ _ _ _ okS0] at l1
   have l2 := Load1 (m := m) (m' := m) small_Z (o := none) (by rw [app_E]; exact tell_none)
   rw [okH0] at l2
   have w : Whole 0 (files m [] EB EB) [] := ⟨[[]], rfl, ⟨trivial, trivial⟩, rfl⟩
   have e3 : Ev (fun k => keep_New_l1 (S6 m EB EB m EB EB, 0, ()) (H6 m EB EB m EB EB, 0, ()) (SL m 0 [] EB EB, 0, ()) k (0, J3, KZ, ())) (.exit 0, 0, J3, KZ, ()) := Ev.step (Ev.f rfl (Ev.now _))
   have e2 : Ev (fun k => keep_New_l1 (S6 m EB EB m EB EB, 0, ()) (H6 m EB EB m EB EB, 0, ()) (SL m 0 [] EB EB, 0, ()) k (0, J2, KZ, ())) _ := Ev.step (Ev.t rfl (Ev.t rfl (Ev.t rfl (Ev.f rfl e3))))
   have e1 : Ev (fun k => keep_New_l1 (S6 m EB EB m EB EB, 0, ()) (H6 m EB EB m EB EB, 0, ()) (SL m 0 [] EB EB, 0, ()) k (0, J1, KZ, ())) _ := Ev.step (Ev.t rfl (Ev.t rfl (Ev.t rfl (Ev.f rfl e2))))
   have e0 : Ev (fun k => keep_New_l1 (S6 m EB EB m EB EB, 0, ()) (H6 m EB EB m EB EB, 0, ()) (SL m 0 [] EB EB, 0, ()) k (0, 0, KZ, ())) _ := Ev.step (Ev.t rfl (Ev.t rfl (Ev.t rfl (Ev.f rfl e1))))
   exact .inr ⟨KM (S6 m EB EB m EB EB) (H6 m EB EB m EB EB) (SL m 0 [] EB EB), _, Ev.bind h1 (Ev.bind h2 (Ev.bind h3 (Ev.bind e0 (Ev.t rfl (Ev.now _))))), m, EB, EB, m, EB, EB, [], EB, rfl, sm, okS0, small_Z, okH0, ⟨⟨_, l1⟩, ⟨_, l2⟩, ok, .inl w, by simp, Int.le_refl _, by simp⟩, w⟩
 . left
   cases g : decide (1 <= m /\ m <= 4000) with
   | true =>
     unfold newS at h1
     unfold newH at h2
     rw [g] at h1 h2
     have e2 : Ev (fun k => keep_New_l1 (S6 m EB EB m EB EB, 0, ()) (H6 m EB EB m EB EB, 0, ()) (RB, 1, ()) k (0, J2, KZ, ())) (.ret, 1, J2, KZ, ()) := Ev.step (Ev.t rfl (Ev.t rfl (Ev.t rfl (Ev.t rfl (Ev.now _)))))
     have e1 : Ev (fun k => keep_New_l1 (S6 m EB EB m EB EB, 0, ()) (H6 m EB EB m EB EB, 0, ()) (RB, 1, ()) k (0, J1, KZ, ())) _ := Ev.step (Ev.t rfl (Ev.t rfl (Ev.t rfl (Ev.f rfl e2))))
     have e0 : Ev (fun k => keep_New_l1 (S6 m EB EB m EB EB, 0, ()) (H6 m EB EB m EB EB, 0, ()) (RB, 1, ()) k (0, 0, KZ, ())) _ := Ev.step (Ev.t rfl (Ev.t rfl (Ev.t rfl (Ev.f rfl e1))))
     exact ⟨1, by decide, Ev.bind h1 (Ev.bind h2 (Ev.bind h3 (Ev.bind e0 (Ev.now _))))⟩
   | false =>
     unfold newS at h1
     unfold newH at h2
     rw [g] at h1 h2
     have e0 : Ev (fun k => keep_New_l1 (ZS, 1, ()) (HZ, 1, ()) (RB, 1, ()) k (0, 0, KZ, ())) (.ret, 1, 0, KZ, ()) := Ev.step (Ev.t rfl (Ev.t rfl (Ev.t rfl (Ev.t rfl (Ev.now _)))))
     exact ⟨1, by decide, Ev.bind h1 (Ev.bind h2 (Ev.bind h3 (Ev.bind e0 (Ev.now _))))⟩
section
variable {K : KT} {tx : ByteArray} {base : Int} {P : List ByteArray} {z n : Int} {T : List Txt}
theorem Gd.push (h : Gd K tx base P z n T) (L : List Txt) {D : Int} (hD : D < 0 \/ 2 <= D) : (∃ x d e, e ≠ 0 /\ Ev (fun k => keep_Push k K (L.map mkB) D) (x, d, e, ())) \/ ∃ x, Ev (fun k => keep_Push k K (L.map mkB) D) (x, true, 0, ()) /\ Gd x tx base P z n (T ++ L) := by
 obtain ⟨m, a, c, hm, ha, hc, pre, s, rfl, sm, ok, hsm, hok, ho, hw⟩ := h
 obtain ⟨x, y, sc⟩ := hw.scan ho.lok
 have hl := ho.tl
 have n1 := ho.lok.n1
 have add := Add_good ho.lok sc (by rw [List.length_map]; omega) L
 rw [List.length_map] at add
 by_cases q : (runA z (n + T.length) L (pre, s, EB)).1 = 0
 case neg => exact .inl ⟨_, _, _, q, ho.push_err _ (by omega) (add.2 q) q⟩
 right
 have p := (ho.pushed hw L).2 q
 obtain ⟨_, p2, p3⟩ := p
 obtain ⟨σ, hσ⟩ : ∃ σ, (runA z (n + T.length) L (pre, s, EB)).2 = σ := ⟨_, rfl⟩
 have hA := add.1 q
 obtain ⟨ps, c1, c2, e0⟩ := hw
 have hL := runA_tot L _ (pre, s, EB) ho.lok q
 have kk := runA_whole L (pre, s, EB) ps ho.lok c1 c2 (by rw [<- e0]; omega) (by rw [<- e0]; exact q)
 rw [<- e0] at kk
 obtain ⟨k1, k2⟩ := kk
 rw [hσ] at hA p2 p3 k1
 exact ⟨_, ho.push_all _ hD hA (SSync_ok k1), m, a, c, hm, ha, hc, _, _, rfl, sm, ok, hsm, hok, p2, p3⟩
end
end
end Go.Proofs.YtfhphiedbdinmaaGreatDoor.A
