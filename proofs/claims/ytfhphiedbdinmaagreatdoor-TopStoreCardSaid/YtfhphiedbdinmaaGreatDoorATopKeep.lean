import Derived.Test.YtfhphiedbdinmaaGreatDoorAT3
set_option linter.all false
namespace Go.Proofs.YtfhphiedbdinmaaGreatDoor.A
open Go Ab
section
theorem Mend_tells {z n : Int} {pre : List ByteArray} {s t : ByteArray} {T : List Txt} (h : okL z n pre s t) (hT : Whole n (files z pre s t) T \/ Broken n (files z pre s t) T) :
 ∃ pre' s' t', okL z n pre' s' t' /\ Ev (fun k => segment_Mend k (SL z n pre s t)) (SL z n pre' s' t', 0, ()) /\ Whole n (files z pre' s' t') T /\ (t = EB -> t' = EB) := by
 rcases hT with hw | hb
 . obtain ⟨x, y, sc⟩ := hw.scan h
   exact ⟨pre, s, t, h, Mend_good h sc, hw, id⟩
 . obtain ⟨p, f, q, ps, ts, rest, h1, h2, h3, h4, h5, rfl⟩ := hb
   obtain ⟨pre', W, g1, g2, g3, g4, _⟩ := Mend_bad h h1 h2 h3 h4 h5
   exact ⟨pre', W, EB, g1, g2, ⟨ps ++ [ts], g3, g4, by rw [flat_last]⟩, fun _ => rfl⟩
structure Crashed (m : Int) (a b c d : ByteArray) (hm : Int) (ha hb hc hd : ByteArray) (z n : Int) (pre : List ByteArray) (s t : ByteArray) (v : Int) (a' c' ha' hc' : ByteArray) (pre' : List ByteArray) (s' : ByteArray) (T' : List Txt) : Prop where
 ev : Ev (fun k => keep_Crash k (KM (S6 m a b m c d) (H6 hm ha hb hm hc hd) (SL z n pre s t)) v) (KM (S6 m a' EB m c' EB) (H6 hm ha' EB hm hc' EB) (SL z n pre' s' EB), 0, ())
 ok : okS m a' EB m c' EB = true
 sm : smallS a' EB c' EB
 hok : okH hm ha' EB hm hc' EB = true
 hsm : smallH ha' EB hc' EB
 lok : okL z n pre' s' EB
 w : Whole n (files z pre' s' EB) T'
 ea : a' = a ++ b.extract 0 (leftN v b.size)
 ec : c' = c ++ d.extract 0 (leftN v d.size)
 eh : ha' = ha ++ hb.extract 0 (leftN v hb.size)
 tl : Whole n (files z pre (s ++ t.extract 0 (leftN v t.size)) EB) T' \/ Broken n (files z pre (s ++ t.extract 0 (leftN v t.size)) EB) T'
 et : leftN v t.size = t.size -> ∀ T, (Whole n (files z pre s t) T \/ Broken n (files z pre s t) T) -> T' = T
 same : b = EB -> d = EB -> hb = EB -> hd = EB -> t = EB -> (∃ T, Whole n (files z pre s t) T) -> a' = a /\ c' = c /\ ha' = ha /\ hc' = hc /\ pre' = pre /\ s' = s
theorem ext_E (k : Nat) : EB.extract 0 k = EB := bytes_inj (by rw [bytes_extract]; simp)
theorem tells_one {z n : Int} {pre : List ByteArray} {s t : ByteArray} {T T' : List Txt} (hok : okL z n pre s t) (h : Whole n (files z pre s t) T \/ Broken n (files z pre s t) T) (h' : Whole n (files z pre s t) T' \/ Broken n (files z pre s t) T') : T = T' := by
 obtain ⟨x, y, w, e⟩ := tells_scan h hok
 obtain ⟨x', y', w', e'⟩ := tells_scan h' hok
 have := congrArg (fun r : TL => r.1.1) (e.one e')
 have this : T.map mkB = T'.map mkB := this
 have inj : ∀ (a b : List Txt), a.map mkB = b.map mkB -> a = b := by
  intro a
  induction a with
  | nil => intro b h; cases b with | nil => rfl | cons _ _ => cases h
  | cons x a ih =>
    intro b h
    cases b with
    | nil => cases h
    | cons y b =>
      rw [List.map_cons, List.map_cons] at h
      injection h with h1 h2
      rw [ih b h2, show x = y from congrArg (fun q : ByteArray => q.data.toList) h1]
 exact inj _ _ this
theorem crashed {m : Int} {a b c d : ByteArray} {hm : Int} {ha hb hc hd : ByteArray} {z n : Int} {pre : List ByteArray} {s t : ByteArray} (sm : smallS a b c d) (ok : okS m a b m c d = true) (hsm : smallH ha hb hc hd) (hok : okH hm ha hb hm hc hd = true) (lok : okL z n pre s t) (v : Int) :
 ∃ a' c' ha' hc' pre' s' T', Crashed m a b c d hm ha hb hc hd z n pre s t v a' c' ha' hc' pre' s' T' := by
 have hE := EB_size
 obtain ⟨o, ho⟩ := tell_ex (ha ++ hb).data.toList (by rw [size_toList, ByteArray.size_append]; have := hsm.a; have := hsm.b; omega)
 have h1 := Load_ok m a b m c d sm
 rw [loadS_ok m a b m c d ok] at h1
 have h2 := (Load_both (m := hm) (m' := hm) hsm ho).1
 rw [hok] at h2
 have h2 : ∃ base P w, Ev (fun k => snap_Load k (H6 hm ha hb hm hc hd)) (base, P, w, 0, ()) := by
  cases o with
  | none => exact ⟨_, _, _, h2⟩
  | some p => exact ⟨_, _, _, h2⟩
 obtain ⟨base, P, w, h2⟩ := h2
 have may := may_ev h1 h2 (Is_true lok)
 have c1 := NCrash_ok m a b m c d sm v
 have e1 : crashS m a b m c d v = (S6 m (a ++ b.extract 0 (leftN v b.size)) EB m (c ++ d.extract 0 (leftN v d.size)) EB, 0, ()) := by unfold crashS; rw [ok]; rfl
 rw [e1] at c1
 have c2 := (CrashH_both (m := hm) (m' := hm) hsm v).1
 have e2 : crashH hm ha hb hm hc hd v = (H6 hm (ha ++ hb.extract 0 (leftN v hb.size)) EB hm (hc ++ hd.extract 0 (leftN v hd.size)) EB, 0, ()) := by unfold crashH; rw [hok]; rfl
 rw [e2] at c2
 have c3 := SCrash_ok lok v
 obtain ⟨T0, hT0⟩ := tells_or (lok.crash v)
 obtain ⟨pre', s', t', k1, k2, k3, k4⟩ := Mend_tells (lok.crash v) hT0
 obtain rfl := k4 rfl
 obtain ⟨f1, f2, _⟩ := okS_bd ok
 have b1 := okF_bd f1
 have b2 := okF_bd f2
 have l1 := leftN_le v b.size
 have l2 := leftN_le v d.size
 have ok1 : okS m (a ++ b.extract 0 (leftN v b.size)) EB m (c ++ d.extract 0 (leftN v d.size)) EB = true := by
  unfold okS
  rw [show okF m (a ++ b.extract 0 (leftN v b.size)) EB = true from decide_eq_true ⟨b1.1, b1.2.1, by have := b1.2.2; rw [ByteArray.size_append, ByteArray.size_extract]; omega⟩, show okF m (c ++ d.extract 0 (leftN v d.size)) EB = true from decide_eq_true ⟨b1.1, b1.2.1, by have := b2.2.2; rw [ByteArray.size_append, ByteArray.size_extract]; omega⟩]
  simp
 have sm1 : smallS (a ++ b.extract 0 (leftN v b.size)) EB (c ++ d.extract 0 (leftN v d.size)) EB := by
  have := b1.2.1; have := b1.2.2; have := b2.2.2
  refine ⟨?_, by omega, ?_, by omega⟩ <;> rw [ByteArray.size_append, ByteArray.size_extract] <;> omega
 obtain ⟨x', z', g1, g2, g3, g4⟩ := crash_ok hok v
 rw [e2] at g1
 have g1 : H6 hm (ha ++ hb.extract 0 (leftN v hb.size)) EB hm (hc ++ hd.extract 0 (leftN v hd.size)) EB = H6 hm x' EB hm z' EB := congrArg Prod.fst g1
 have ex : ha ++ hb.extract 0 (leftN v hb.size) = x' := congrArg (fun q : HT => q.2.1) g1
 have ez : hc ++ hd.extract 0 (leftN v hd.size) = z' := congrArg (fun q : HT => q.2.2.2.2.1) g1
 rw [ex, ez] at c2
 refine ⟨_, _, x', z', pre', s', T0, ⟨?_, ok1, sm1, g2, g3, k1, k3, rfl, rfl, ex.symm, hT0, fun q T hT => ?_, ?_⟩⟩
 . exact Ev.bind may (Ev.f rfl (Ev.bind c1 (Ev.bind c2 (Ev.bind c3 (Ev.bind k2 (Ev.now _))))))
 . have hs := tells_syn hT
   rw [q, ext_all] at hT0
   exact tells_one lok.sync hT0 hs
 . rintro rfl rfl rfl rfl rfl ⟨T, hT⟩
   rw [ext_E, app_E] at k2
   obtain ⟨x, y, sc⟩ := hT.scan lok
   have := (Mend_good lok sc).one k2
   have this : SL z n pre s EB = SL z n pre' s' EB := congrArg Prod.fst this
   have e3 : files z pre s EB = files z pre' s' EB := congrArg (fun q : SegT => q.2.2.1) this
   obtain ⟨q1, q2, _⟩ := files_inj e3
   exact ⟨by rw [ext_E, app_E], by rw [ext_E, app_E], by rw [<- ex, ext_E, app_E], by rw [<- ez, ext_E, app_E], q1.symm, q2.symm⟩
end
section
def Gd (K : KT) (tx : ByteArray) (base : Int) (P : List ByteArray) (z n : Int) (T : List Txt) : Prop :=
 ∃ m a c hm ha hc pre s, K = KM (S6 m a EB m c EB) (H6 hm ha EB hm hc EB) (SL z n pre s EB) /\ smallS a EB c EB /\ okS m a EB m c EB = true /\ smallH ha EB hc EB /\ okH hm ha EB hm hc EB = true /\
  Opn (S6 m a EB m c EB) (H6 hm ha EB hm hc EB) z n pre s EB tx base P T /\ Whole n (files z pre s EB) T
theorem Gd.open {K : KT} {tx : ByteArray} {base : Int} {P : List ByteArray} {z n : Int} {T : List Txt} (h : Gd K tx base P z n T) : Ev (fun k => keep_Open k K) (tx, base, P, (T.drop (base - n).toNat).map mkB, 0, ()) := by
 obtain ⟨m, a, c, hm, ha, hc, pre, s, rfl, _, _, _, _, ho, _⟩ := h
 exact ho.open
theorem pic_same {hm : Int} {ha hb hc hd ha' hc' : ByteArray} {R : Int × (List ByteArray × (Bool × (Int × Unit)))} (hsm : smallH ha hb hc hd) (hok : okH hm ha hb hm hc hd = true) (hsm' : smallH ha' EB hc' EB) (hok' : okH hm ha' EB hm hc' EB = true) (eh : ha' = ha ++ hb) (h : Ev (fun k => snap_Load k (H6 hm ha hb hm hc hd)) R) : Ev (fun k => snap_Load k (H6 hm ha' EB hm hc' EB)) R := by
 obtain ⟨o, hto⟩ := tell_ex (ha ++ hb).data.toList (by rw [size_toList, ByteArray.size_append]; have := hsm.a; have := hsm.b; omega)
 have k1 := (Load_both (m := hm) (m' := hm) hsm hto).1
 rw [hok] at k1
 have e1 := h.one k1
 have k2 := (Load_both (m := hm) (m' := hm) hsm' (o := o) (by rw [app_E, eh]; exact hto)).1
 rw [hok', <- e1] at k2
 exact k2
theorem Crashed.gd {m : Int} {a b c d : ByteArray} {hm : Int} {ha hb hc hd : ByteArray} {z n : Int} {pre : List ByteArray} {s t : ByteArray} {v : Int} {a' c' ha' hc' : ByteArray} {pre' : List ByteArray} {s' : ByteArray} {T' : List Txt} {tx : ByteArray} {base : Int} {P : List ByteArray} (h : Crashed m a b c d hm ha hb hc hd z n pre s t v a' c' ha' hc' pre' s' T')
 (hn : ∃ y, Ev (fun k => slots_Load k (S6 m a' EB m c' EB)) (tx, y, 0, ())) (hp : ∃ w, Ev (fun k => snap_Load k (H6 hm ha' EB hm hc' EB)) (base, P, w, 0, ())) (pl : P.length <= 1000000) (b0 : n <= base) (b1 : base <= n + T'.length) :
 Gd (KM (S6 m a' EB m c' EB) (H6 hm ha' EB hm hc' EB) (SL z n pre' s' EB)) tx base P z n T' :=
 ⟨m, a', c', hm, ha', hc', pre', s', rfl, h.sm, h.ok, h.hsm, h.hok, ⟨hn, hp, h.lok, .inl h.w, pl, b0, b1⟩, h.w⟩
section
variable {K : KT} {tx : ByteArray} {base : Int} {P : List ByteArray} {z n : Int} {T : List Txt} (h : Gd K tx base P z n T)
include h
end
theorem push_eq2 (l : List ByteArray) : keep_Push_l2 l = keep_Push_l3 l := rfl
theorem push_eq1 (l : List ByteArray) : keep_Push_l1 l 2 = keep_Push_l3 l := rfl
section
variable {S : ST} {H : HT} {z n : Int} {pre : List ByteArray} {s t tx : ByteArray} {base : Int} {P : List ByteArray} {T : List Txt} (h : Opn S H z n pre s t tx base P T) (l : List ByteArray) {A A' : SegT} {e : Int}
include h
theorem Opn.push1 (hA : Ev (fun k => segment_Add k (SL z n pre s t) l) (A, 0, ())) : Ev (fun k => keep_Push k (KM S H (SL z n pre s t)) l 1) (KM S H A, false, 0, ()) := by
 have l2 : Ev (fun k => keep_Push_l1 l 1 k (false, 0, IntKind.i64.wrap (0 + 1), KZ, KM S H A, ())) (.exit 0, false, 0, IntKind.i64.wrap (0 + 1), KZ, KM S H A, ()) := Ev.step (Ev.f rfl (Ev.now _))
 have l1 : Ev (fun k => keep_Push_l1 l 1 k (false, 0, 0, KZ, KM S H (SL z n pre s t), ())) (.exit 0, false, 0, IntKind.i64.wrap (0 + 1), KZ, KM S H A, ()) := Ev.step (Ev.t rfl (Ev.t rfl (Ev.t rfl (Ev.t rfl (Ev.bind hA (Ev.f rfl l2))))))
 exact h.go (Ev.bind (cloneF_ev h.lok.len) (Ev.f rfl (Ev.f rfl (Ev.t rfl (Ev.t rfl (Ev.bind l1 (Ev.t rfl (Ev.now _))))))))
theorem Opn.push_all {D : Int} (hD : D < 0 \/ 2 <= D) (hA : Ev (fun k => segment_Add k (SL z n pre s t) l) (A, 0, ())) (hS : Ev (fun k => segment_Sync k A) (A', 0, ())) : Ev (fun k => keep_Push k (KM S H (SL z n pre s t)) l D) (KM S H A', true, 0, ()) := by
 have end3 : Ev (fun k => keep_Push_l3 l k (false, 0, IntKind.i64.wrap (IntKind.i64.wrap (0 + 1) + 1), KZ, KM S H A', ())) (.exit 0, false, 0, IntKind.i64.wrap (IntKind.i64.wrap (0 + 1) + 1), KZ, KM S H A', ()) := Ev.step (Ev.f rfl (Ev.now _))
 have l2 : Ev (fun k => keep_Push_l3 l k (false, 0, IntKind.i64.wrap (0 + 1), KZ, KM S H A, ())) (.exit 0, false, 0, IntKind.i64.wrap (IntKind.i64.wrap (0 + 1) + 1), KZ, KM S H A', ()) := Ev.step (Ev.t rfl (Ev.t rfl (Ev.t rfl (Ev.f rfl (Ev.t rfl (Ev.bind hS (Ev.f rfl end3)))))))
 have l1 : Ev (fun k => keep_Push_l3 l k (false, 0, 0, KZ, KM S H (SL z n pre s t), ())) (.exit 0, false, 0, IntKind.i64.wrap (IntKind.i64.wrap (0 + 1) + 1), KZ, KM S H A', ()) := Ev.step (Ev.t rfl (Ev.t rfl (Ev.t rfl (Ev.t rfl (Ev.bind hA (Ev.f rfl l2))))))
 by_cases c1 : D < 0
 . exact h.go (Ev.bind (cloneF_ev h.lok.len) (Ev.dt c1 (Ev.bind l1 (Ev.t rfl (Ev.now _)))))
 . by_cases c2 : D > 2
   . rw [<- push_eq2] at l1
     exact h.go (Ev.bind (cloneF_ev h.lok.len) (Ev.df c1 (Ev.dt c2 (Ev.bind l1 (Ev.t rfl (Ev.now _))))))
   . obtain rfl : D = 2 := by omega
     rw [<- push_eq1] at l1
     exact h.go (Ev.bind (cloneF_ev h.lok.len) (Ev.f rfl (Ev.f rfl (Ev.t rfl (Ev.t rfl (Ev.bind l1 (Ev.t rfl (Ev.now _))))))))
theorem Opn.push_err {D : Int} (hD : D ≠ 0) (hA : Ev (fun k => segment_Add k (SL z n pre s t) l) (A, e, ())) (he : e ≠ 0) : Ev (fun k => keep_Push k (KM S H (SL z n pre s t)) l D) (KZ, false, e, ()) := by
 have l1 : Ev (fun k => keep_Push_l3 l k (false, 0, 0, KZ, KM S H (SL z n pre s t), ())) (.ret, false, e, 0, KZ, KM S H A, ()) := Ev.step (Ev.t rfl (Ev.t rfl (Ev.t rfl (Ev.t rfl (Ev.bind hA (Ev.t (nbne_i he) (Ev.now _)))))))
 by_cases c1 : D < 0
 . exact h.go (Ev.bind (cloneF_ev h.lok.len) (Ev.dt c1 (Ev.bind l1 (Ev.now _))))
 . by_cases c2 : D > 2
   . rw [<- push_eq2] at l1
     exact h.go (Ev.bind (cloneF_ev h.lok.len) (Ev.df c1 (Ev.dt c2 (Ev.bind l1 (Ev.now _)))))
   . by_cases c3 : D = 2
     . subst c3
       rw [<- push_eq1] at l1
       exact h.go (Ev.bind (cloneF_ev h.lok.len) (Ev.f rfl (Ev.f rfl (Ev.t rfl (Ev.t rfl (Ev.bind l1 (Ev.now _)))))))
     . obtain rfl : D = 1 := by omega
       have l1 : Ev (fun k => keep_Push_l1 l 1 k (false, 0, 0, KZ, KM S H (SL z n pre s t), ())) (.ret, false, e, 0, KZ, KM S H A, ()) := Ev.step (Ev.t rfl (Ev.t rfl (Ev.t rfl (Ev.t rfl (Ev.bind hA (Ev.t (nbne_i he) (Ev.now _)))))))
       exact h.go (Ev.bind (cloneF_ev h.lok.len) (Ev.f rfl (Ev.f rfl (Ev.t rfl (Ev.t rfl (Ev.bind l1 (Ev.now _)))))))
end
theorem Whole.str {z n : Int} {pre : List ByteArray} {s : ByteArray} {T : List Txt} (h : Whole n (files z pre s EB) T) : ∃ ps B0, Str n pre s EB ps B0 [] /\ T = ps.flatten ++ (B0 ++ []) := by
 obtain ⟨ps, hc, ho, rfl⟩ := h
 have hne : ps ≠ [] := by rintro rfl; rw [files_cont] at hc; simp [filesB] at hc
 obtain ⟨qs, l, rfl⟩ : ∃ qs l, ps = qs ++ [l] := ⟨ps.dropLast, ps.getLast hne, (List.dropLast_concat_getLast hne).symm⟩
 obtain ⟨p1, p2, _⟩ := (partsOk_app n qs [l]).1 ho
 rw [files_cont, filesB_app] at hc
 obtain ⟨c1, c2⟩ := List.append_inj' hc rfl
 rw [app_E] at c2
 have c2 : s.data.toList = recsB (n + qs.flatten.length) l := by
  have : [s.data.toList] = [recsB (n + qs.flatten.length) l] := c2
  injection this
 exact ⟨qs, l, ⟨c1, p1, by rw [<- c2, mkB_of], p2, rfl, trivial⟩, by rw [flat_last, List.append_nil]⟩
theorem Str.cut {z n : Int} {pre : List ByteArray} {s u : ByteArray} {ps : List (List Txt)} {C0 C1 : List Txt} (SC : Str n pre s u ps C0 C1) (j : Nat) :
 ∃ i, i <= C1.length /\ (Whole n (files z pre (s ++ u.extract 0 j) EB) (ps.flatten ++ (C0 ++ C1.take i)) \/ Broken n (files z pre (s ++ u.extract 0 j) EB) (ps.flatten ++ (C0 ++ C1.take i))) := by
 obtain ⟨i, rest, hi, hs⟩ := scan_part SC.ou j
 obtain ⟨Y, hY⟩ : ∃ Y, s ++ u.extract 0 j = Y := ⟨_, rfl⟩
 rw [hY]
 have eY : contF (F z Y EB) = recsB (n + ps.flatten.length) C0 ++ (recsB (n + ps.flatten.length + C0.length) C1).take j := by
  rw [contF_pre, <- hY, bytes_append, SC.s, SC.u, bytes_extract, List.drop_zero]; rfl
 have hsc : ScanIs (contF (F z Y EB)) (n + ps.flatten.length) (C0 ++ C1.take i) rest := by rw [eY]; exact scan_behind SC.os hs
 refine ⟨i, hi, ?_⟩
 by_cases hr : rest = []
 . subst hr
   left
   refine ⟨ps ++ [C0 ++ C1.take i], ?_, (partsOk_app n ps _).2 ⟨SC.o, hsc.1, trivial⟩, by rw [flat_last]⟩
   rw [files_cont, SC.p, filesB_app]
   have := hsc.2.1
   rw [List.append_nil, contF_pre] at this
   rw [app_E, this]; rfl
 . right
   refine ⟨pre.map (fun x => F z x EB), F z Y EB, [], ps, C0 ++ C1.take i, rest, rfl, ?_, SC.o, hsc, hr, rfl⟩
   rw [<- SC.p, pre_cont]
section
variable {K : KT} {tx : ByteArray} {base : Int} {P : List ByteArray} {z n : Int} {T : List Txt} (h : Gd K tx base P z n T)
include h
end
section
variable {S : ST} {H : HT} {z n : Int} {pre : List ByteArray} {s t tx : ByteArray} {base : Int} {P : List ByteArray} {T : List Txt} (h : Opn S H z n pre s t tx base P T) {u : Int} {l : List ByteArray} (hu : base <= u /\ u <= n + T.length) {X X1 X2 X3 : HT} {w w1 w2 w3 : Bool} (hs : Ev (fun k => snap_Save k H u l (-1)) (X, w, 0, ())) (hs1 : Ev (fun k => snap_Save k H u l 1) (X1, w1, 0, ())) (hs2 : Ev (fun k => snap_Save k H u l 2) (X2, w2, 0, ())) (hs3 : Ev (fun k => snap_Save k H u l 3) (X3, w3, 0, ()))
include h hu hs
end
section
variable {K : KT} {tx : ByteArray} {base : Int} {P : List ByteArray} {z n : Int} {T : List Txt} (h : Gd K tx base P z n T)
include h
end
end
section
set_option maxRecDepth 4000
theorem tell_none : TellIs [] none := by
 rintro n L ⟨_, _, _, _, _, h⟩
 have hd : (1 : Nat) <= (hdB 3 (rowB (intB n :: L))).length := by
  have : intB 3 ≠ [] := by decide
  have := List.length_pos_iff.2 this
  unfold hdB
  rw [List.length_append]; omega
 have := congrArg List.length h
 simp [frB] at this
 omega
theorem new_ok (m : Int) : (∃ X e, e ≠ 0 /\ Ev (fun k => keep_New k m) (X, e, ())) \/ ∃ K tx, Ev (fun k => keep_New k m) (K, 0, ()) /\ Gd K tx 0 [] m 0 [] := by
 have h1 := NNew_ok m
 have h2 := (NewH_both m).1
 have hE := EB_size
 rcases SNew_cases m 0 with ⟨ok, h3⟩ | h3
 . have b0 := ok.z0
   have b1 := ok.z1
   have g : decide (1 <= m /\ m <= 4000) = true := decide_eq_true ⟨by omega, b1⟩
   unfold newS at h1
   unfold newH at h2
   rw [g] at h1 h2
   have f0 : okF m EB EB = true := decide_eq_true ⟨by omega, b1, by omega⟩
   have okS0 : okS m EB EB m EB EB = true := by unfold okS; rw [f0]; simp
   have okH0 : okH m EB EB m EB EB = true := by unfold okH; rw [f0]; simp
   have sm : smallS EB EB EB EB := ⟨by omega, by omega, by omega, by omega⟩
   have l1 := Load_ok m EB EB m EB EB sm
   rw [loadS_ok _ _ _ _ _ _ okS0] at l1
   have l2 := (Load_both (m := m) (m' := m) small_Z (o := none) (by rw [app_E]; exact tell_none)).1
   rw [okH0] at l2
   have w : Whole 0 (files m [] EB EB) [] := ⟨[[]], rfl, ⟨trivial, trivial⟩, rfl⟩
   have e3 : Ev (fun k => keep_New_l1 (S6 m EB EB m EB EB, 0, ()) (H6 m EB EB m EB EB, 0, ()) (SL m 0 [] EB EB, 0, ()) k (0, IntKind.i64.wrap (IntKind.i64.wrap (IntKind.i64.wrap (0 + 1) + 1) + 1), KZ, ())) (.exit 0, 0, IntKind.i64.wrap (IntKind.i64.wrap (IntKind.i64.wrap (0 + 1) + 1) + 1), KZ, ()) := Ev.step (Ev.f rfl (Ev.now _))
   have e2 : Ev (fun k => keep_New_l1 (S6 m EB EB m EB EB, 0, ()) (H6 m EB EB m EB EB, 0, ()) (SL m 0 [] EB EB, 0, ()) k (0, IntKind.i64.wrap (IntKind.i64.wrap (0 + 1) + 1), KZ, ())) (.exit 0, 0, IntKind.i64.wrap (IntKind.i64.wrap (IntKind.i64.wrap (0 + 1) + 1) + 1), KZ, ()) := Ev.step (Ev.t rfl (Ev.t rfl (Ev.t rfl (Ev.f rfl e3))))
   have e1 : Ev (fun k => keep_New_l1 (S6 m EB EB m EB EB, 0, ()) (H6 m EB EB m EB EB, 0, ()) (SL m 0 [] EB EB, 0, ()) k (0, IntKind.i64.wrap (0 + 1), KZ, ())) (.exit 0, 0, IntKind.i64.wrap (IntKind.i64.wrap (IntKind.i64.wrap (0 + 1) + 1) + 1), KZ, ()) := Ev.step (Ev.t rfl (Ev.t rfl (Ev.t rfl (Ev.f rfl e2))))
   have e0 : Ev (fun k => keep_New_l1 (S6 m EB EB m EB EB, 0, ()) (H6 m EB EB m EB EB, 0, ()) (SL m 0 [] EB EB, 0, ()) k (0, 0, KZ, ())) (.exit 0, 0, IntKind.i64.wrap (IntKind.i64.wrap (IntKind.i64.wrap (0 + 1) + 1) + 1), KZ, ()) := Ev.step (Ev.t rfl (Ev.t rfl (Ev.t rfl (Ev.f rfl e1))))
   exact .inr ⟨KM (S6 m EB EB m EB EB) (H6 m EB EB m EB EB) (SL m 0 [] EB EB), _, Ev.bind h1 (Ev.bind h2 (Ev.bind h3 (Ev.bind e0 (Ev.t rfl (Ev.now _))))), m, EB, EB, m, EB, EB, [], EB, rfl, sm, okS0, small_Z, okH0, ⟨⟨_, l1⟩, ⟨_, l2⟩, ok, .inl w, by simp, Int.le_refl _, by simp⟩, w⟩
 . left
   cases g : decide (1 <= m /\ m <= 4000) with
   | true =>
     unfold newS at h1
     unfold newH at h2
     rw [g] at h1 h2
     have e2 : Ev (fun k => keep_New_l1 (S6 m EB EB m EB EB, 0, ()) (H6 m EB EB m EB EB, 0, ()) (RB, 1, ()) k (0, IntKind.i64.wrap (IntKind.i64.wrap (0 + 1) + 1), KZ, ())) (.ret, 1, IntKind.i64.wrap (IntKind.i64.wrap (0 + 1) + 1), KZ, ()) := Ev.step (Ev.t rfl (Ev.t rfl (Ev.t rfl (Ev.t rfl (Ev.now _)))))
     have e1 : Ev (fun k => keep_New_l1 (S6 m EB EB m EB EB, 0, ()) (H6 m EB EB m EB EB, 0, ()) (RB, 1, ()) k (0, IntKind.i64.wrap (0 + 1), KZ, ())) (.ret, 1, IntKind.i64.wrap (IntKind.i64.wrap (0 + 1) + 1), KZ, ()) := Ev.step (Ev.t rfl (Ev.t rfl (Ev.t rfl (Ev.f rfl e2))))
     have e0 : Ev (fun k => keep_New_l1 (S6 m EB EB m EB EB, 0, ()) (H6 m EB EB m EB EB, 0, ()) (RB, 1, ()) k (0, 0, KZ, ())) (.ret, 1, IntKind.i64.wrap (IntKind.i64.wrap (0 + 1) + 1), KZ, ()) := Ev.step (Ev.t rfl (Ev.t rfl (Ev.t rfl (Ev.f rfl e1))))
     exact ⟨_, 1, by decide, Ev.bind h1 (Ev.bind h2 (Ev.bind h3 (Ev.bind e0 (Ev.now _))))⟩
   | false =>
     unfold newS at h1
     unfold newH at h2
     rw [g] at h1 h2
     have e0 : Ev (fun k => keep_New_l1 (ZS, 1, ()) (HZ, 1, ()) (RB, 1, ()) k (0, 0, KZ, ())) (.ret, 1, 0, KZ, ()) := Ev.step (Ev.t rfl (Ev.t rfl (Ev.t rfl (Ev.t rfl (Ev.now _)))))
     exact ⟨_, 1, by decide, Ev.bind h1 (Ev.bind h2 (Ev.bind h3 (Ev.bind e0 (Ev.now _))))⟩
def Ld (K : KT) (tx : ByteArray) (base : Int) (P : List ByteArray) (z n : Int) (T : List Txt) (m0 : Nat) : Prop :=
 ∃ m a c hm ha hc pre s u ps C0 C1, K = KM (S6 m a EB m c EB) (H6 hm ha EB hm hc EB) (SL z n pre s u) /\ smallS a EB c EB /\ okS m a EB m c EB = true /\ smallH ha EB hc EB /\ okH hm ha EB hm hc EB = true /\
  Opn (S6 m a EB m c EB) (H6 hm ha EB hm hc EB) z n pre s u tx base P T /\ Str n pre s u ps C0 C1 /\ ps.flatten ++ (C0 ++ C1) = T /\ m0 <= ps.flatten.length + C0.length
section
variable {K : KT} {tx : ByteArray} {base : Int} {P : List ByteArray} {z n : Int} {T : List Txt}
theorem Gd.ld (h : Gd K tx base P z n T) : Ld K tx base P z n T T.length := by
 obtain ⟨m, a, c, hm, ha, hc, pre, s, rfl, sm, ok, hsm, hok, ho, hw⟩ := h
 obtain ⟨ps, B0, st, eT⟩ := hw.str
 exact ⟨m, a, c, hm, ha, hc, pre, s, EB, ps, B0, [], rfl, sm, ok, hsm, hok, ho, st, eT.symm, by rw [eT]; simp⟩
theorem Gd.push (h : Gd K tx base P z n T) (L : List Txt) (hL : L.length <= 1000) {D : Int} (hD : D < 0 \/ 2 <= D) : (∃ x d e, e ≠ 0 /\ Ev (fun k => keep_Push k K (L.map mkB) D) (x, d, e, ())) \/ ∃ x, Ev (fun k => keep_Push k K (L.map mkB) D) (x, true, 0, ()) /\ Gd x tx base P z n (T ++ L) := by
 obtain ⟨m, a, c, hm, ha, hc, pre, s, rfl, sm, ok, hsm, hok, ho, hw⟩ := h
 obtain ⟨x, y, sc⟩ := hw.scan ho.lok
 have hl := ho.tl
 have n1 := ho.lok.n1
 have add := Add_good ho.lok sc (by rw [List.length_map]; omega) L hL
 rw [List.length_map] at add
 by_cases q : (runA z (n + T.length) L (pre, s, EB)).1 = 0
 case neg => exact .inl ⟨_, _, _, q, ho.push_err _ (by omega) (add.2 q) q⟩
 right
 have p := (ho.pushed hw L hL).2 q
 obtain ⟨_, p2, p3⟩ := p
 obtain ⟨σ, hσ⟩ : ∃ σ, (runA z (n + T.length) L (pre, s, EB)).2 = σ := ⟨_, rfl⟩
 have hA := add.1 q
 obtain ⟨ps, c1, c2, e0⟩ := hw
 have kk := runA_whole L (pre, s, EB) ps ho.lok c1 c2 (by rw [<- e0]; omega) (by rw [<- e0]; exact q)
 rw [<- e0] at kk
 obtain ⟨k1, k2⟩ := kk
 rw [hσ] at hA p2 p3 k1
 exact ⟨_, ho.push_all _ hD hA (SSync_ok k1), m, a, c, hm, ha, hc, _, _, rfl, sm, ok, hsm, hok, p2, p3⟩
theorem Ld.push {m0 : Nat} (h : Ld K tx base P z n T m0) (L : List Txt) (hL : L.length <= 1000) : (∃ x d e, e ≠ 0 /\ Ev (fun k => keep_Push k K (L.map mkB) 1) (x, d, e, ())) \/ ∃ x, Ev (fun k => keep_Push k K (L.map mkB) 1) (x, false, 0, ()) /\ Ld x tx base P z n (T ++ L) m0 := by
 obtain ⟨m, a, c, hm, ha, hc, pre, s, u, ps, C0, C1, rfl, sm, ok, hsm, hok, ho, st, eT, hm0⟩ := h
 obtain ⟨x, y, sc⟩ := st.scan ho.lok
 have hl := ho.tl
 have n1 := ho.lok.n1
 rw [eT] at sc
 have add := Add_good ho.lok sc (by rw [List.length_map]; omega) L hL
 rw [List.length_map] at add
 by_cases q : (runA z (n + T.length) L (pre, s, u)).1 = 0
 case neg => exact .inl ⟨_, _, _, q, ho.push_err _ (by decide) (add.2 q) q⟩
 right
 refine ⟨_, ho.push1 _ (add.1 q), ?_⟩
 have run := Str.run (z := z) (n := n) L (pre, s, u) ps C0 C1 ho.lok st (by rw [eT]; omega)
 rw [eT] at run
 obtain ⟨qs, D0, D1, okC, SC, TC, hge⟩ := run q
 obtain ⟨σ, hσ⟩ : ∃ σ, (runA z (n + T.length) L (pre, s, u)).2 = σ := ⟨_, rfl⟩
 rw [hσ] at okC SC ⊢
 obtain ⟨pre3, s3, u3⟩ := σ
 have okC : okL z n pre3 s3 u3 := okC
 have SC : Str n pre3 s3 u3 qs D0 D1 := SC
 obtain ⟨w1, w2⟩ := SC.cont z
 have b1 := ho.b1
 refine ⟨m, a, c, hm, ha, hc, pre3, s3, u3, qs, D0, D1, rfl, sm, ok, hsm, hok, ⟨ho.note, ho.pic, okC, .inl ⟨_, w1, w2, by rw [flat_last]; exact TC.symm⟩, ho.pl, ho.b0, by rw [List.length_append]; omega⟩, SC, TC, by omega⟩
theorem Ld.crash {m0 : Nat} (h : Ld K tx base P z n T m0) (hb : base = n) (v : Int) : ∃ K' j, Ev (fun k => keep_Crash k K v) (K', 0, ()) /\ Gd K' tx base P z n (T.take j) /\ m0 <= (T.take j).length := by
 obtain ⟨m, a, c, hm, ha, hc, pre, s, u, ps, C0, C1, rfl, sm, ok, hsm, hok, ho, SC, eT, hm0⟩ := h
 obtain ⟨a', c', ha', hc', pre', s', T', hC⟩ := crashed sm ok hsm hok ho.lok v
 obtain ⟨i, hi0, hi⟩ := SC.cut (z := z) (leftN v u.size)
 have eT' := tells_one (ho.lok.crash v) hC.tl hi
 have ea : a' = a := by rw [hC.ea, ext_E, app_E]
 have ec : c' = c := by rw [hC.ec, ext_E, app_E]
 have eh : ha' = ha ++ EB := by rw [hC.eh, ext_E]
 obtain ⟨w0, hp0⟩ := ho.pic
 have hp := pic_same hsm hok hC.hsm hC.hok eh hp0
 subst ea ec
 have hU : T' = T.take T'.length := by
  rw [<- eT, eT', List.take_append, List.take_append]
  rw [List.take_of_length_le (l := ps.flatten) (by simp), List.take_of_length_le (l := C0) (by simp)]
  congr 2
  simp only [List.length_append, List.length_take]
  congr 1
  omega
 have lo : m0 <= T'.length := by rw [eT']; simp only [List.length_append]; omega
 have g := hC.gd ho.note ⟨_, hp⟩ ho.pl ho.b0 (by omega)
 refine ⟨_, T'.length, hC.ev, ?_, ?_⟩
 . rw [<- hU]; exact g
 . rw [<- hU]; exact lo
end
end
end Go.Proofs.YtfhphiedbdinmaaGreatDoor.A
