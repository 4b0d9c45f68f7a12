/- KeepBack, of data alone. -/
import Derived.Test.YtohlhliifeeokaaAKeepFar
import Derived.Test.YtohlhliifeeokaaAT3
import Derived.Test.YtohlhliifeeokaaAbB
namespace Go.Proofs.Ytohlhliifeeokaa.Pure
open Go Go.Proofs.Ytohlhliifeeokaa.Ab Go.Proofs.Ytohlhliifeeokaa.A
set_option linter.unusedVariables false

abbrev OR := ByteArray × (Int × (List ByteArray × (List ByteArray × (Int × Unit))))
def kbSnap (k : Nat) (K : KT) (R : OR) (u : Int) (l : List ByteArray) : Option (Bool × Unit) := (keep_Snap k K u l (-1)).bind fun r33 => (keep_Open k r33.1).bind fun r34 => (law17_kept k).bind fun r35 => (bif r35.1 then (bif r33.2.2.1 != 0 then some (true, ()) else (bif r34.2.2.2.2.1 == r33.2.2.1 then (bif r34.1.toList == R.1.toList then (bif r34.2.1 == u then ((ref01_Texts k r34.2.2.1 l).bind fun r36 => (bif r36.1 then (bif decide (IntKind.i64.wrap (u - R.2.1) ≥ 0) then (bif decide (IntKind.i64.wrap (u - R.2.1) ≤ ((List.length R.2.2.2.1 : Nat) : Int)) then (bif decide (0 ≤ IntKind.i64.wrap (u - R.2.1)) then (bif decide (IntKind.i64.wrap (u - R.2.1) ≤ ((List.length R.2.2.2.1 : Nat) : Int)) then ((ref01_Texts k r34.2.2.2.1 (List.drop (IntKind.i64.wrap (u - R.2.1)).toNat (List.take (List.length R.2.2.2.1) R.2.2.2.1))).bind fun r37 => some (r37.1, ())) else none) else none) else some (false, ())) else some (false, ())) else some (false, ()))) else some (false, ())) else some (false, ())) else some (false, ()))) else some (false, ()))
def kbPush (k : Nat) (K : KT) (R : OR) (u : Int) (l : List ByteArray) : Option (Bool × Unit) := (keep_Push k K l (-1)).bind fun r23 => (keep_Open k r23.1).bind fun r24 => (bif r23.2.2.1 == 0 then (bif r24.2.2.2.2.1 != r23.2.2.1 then some (false, ()) else (bif !(r24.1.toList == R.1.toList) then some (false, ()) else (bif r24.2.1 != R.2.1 then some (false, ()) else ((ref01_Texts k r24.2.2.1 R.2.2.1).bind fun r30 => (bif !r30.1 then some (false, ()) else (bif ((List.length r24.2.2.2.1 : Nat) : Int) != IntKind.i64.wrap (((List.length R.2.2.2.1 : Nat) : Int) + ((l.length : Nat) : Int)) then some (false, ()) else ((law17_front k R.2.2.2.1 r24.2.2.2.1).bind fun r31 => (bif !r31.1 then some (false, ()) else (bif decide (((List.length R.2.2.2.1 : Nat) : Int) ≤ ((List.length r24.2.2.2.1 : Nat) : Int)) then ((ref01_Texts k (List.drop (((List.length R.2.2.2.1 : Nat) : Int)).toNat (List.take (List.length r24.2.2.2.1) r24.2.2.2.1)) l).bind fun r32 => (bif !r32.1 then some (false, ()) else kbSnap k K R u l)) else none))))))))) else kbSnap k K R u l)
section
variable {S : ST} {m : Int} {a b : ByteArray} {m' : Int} {c d : ByteArray} {z n : Int} {pre : List ByteArray} {s t tx : ByteArray} {base : Int} {P : List ByteArray} {T : List Txt} (h : Opn S (H6 m a b m' c d) z n pre s t tx base P T) (sm : smallH a b c d)
include h sm
theorem kbSnap_ev (u : Int) (L : List Txt) (hL : L.length ≤ 1000) : Ev (fun k => kbSnap k (KM S (H6 m a b m' c d) (SL z n pre s t)) (tx, base, P, (T.drop (base - n).toNat).map mkB, 0, ()) u (L.map mkB)) (true, ()) := by
  rcases snap_all h sm u L hL with ⟨e, he, hs⟩ | ⟨H', n', pre', dd, T', hu, hs, ho, e1, e2⟩
  · exact Ev.bind hs (Ev.bind shutZ.open (Ev.bind kept17_ok (Ev.t rfl (Ev.t (nbne_i he) (Ev.now _)))))
  · have hl := h.tl
    have b0 := h.b0
    have b1 := h.b1
    have n0 := h.lok.n0
    have n1 := h.lok.n1
    have b2 := ho.b0
    have hw : IntKind.i64.wrap (u - base) = u - base := wrap_id (by omega) (by omega)
    have len : (((T.drop (base - n).toNat).map mkB).length : Int) = T.length - (base - n) := by rw [List.length_map, List.length_drop]; omega
    have hT' : T'.length ≤ T.length := by rw [e1, List.length_append]; omega
    have eX : (T'.drop (u - n').toNat).map mkB = List.drop (IntKind.i64.wrap (u - base)).toNat (List.take ((T.drop (base - n).toNat).map mkB).length ((T.drop (base - n).toNat).map mkB)) := by
      rw [hw, List.take_length, ← List.map_drop, List.drop_drop, e1, show (base - n).toNat + (u - base).toNat = dd.length + (u - n').toNat by omega, ← List.drop_drop, List.drop_left]
    have t1 := Texts_ok (L.map mkB) (by rw [List.length_map]; omega)
    have t2 := Texts_big ((T'.drop (u - n').toNat).map mkB) (by rw [List.length_map, List.length_drop]; omega)
    have t3 : Ev (fun k => ref01_Texts k ((T'.drop (u - n').toNat).map mkB) (List.drop (IntKind.i64.wrap (u - base)).toNat (List.take ((T.drop (base - n).toNat).map mkB).length ((T.drop (base - n).toNat).map mkB)))) (true, ()) := by rw [← eX]; exact t2
    have c0 : IntKind.i64.wrap (u - base) ≥ 0 := by rw [hw]; omega
    have c1 : IntKind.i64.wrap (u - base) ≤ (((T.drop (base - n).toNat).map mkB).length : Int) := by rw [hw, len]; omega
    exact Ev.bind hs (Ev.bind ho.open (Ev.bind kept17_ok (Ev.t rfl (Ev.f rfl (Ev.t rfl (Ev.t (beq_self_eq_true _) (Ev.t (beq_self_eq_true _) (Ev.bind t1 (Ev.t rfl (Ev.dt c0 (Ev.dt c1 (Ev.dt c0 (Ev.dt c1 (Ev.bind t3 (Ev.now _)))))))))))))))
theorem kbPush_ev (u : Int) (L : List Txt) (hL : L.length ≤ 1000) : Ev (fun k => kbPush k (KM S (H6 m a b m' c d) (SL z n pre s t)) (tx, base, P, (T.drop (base - n).toNat).map mkB, 0, ()) u (L.map mkB)) (true, ()) := by
  have last := kbSnap_ev h sm u L hL
  have no : ∀ e, e ≠ 0 → Ev (fun k => keep_Push k (KM S (H6 m a b m' c d) (SL z n pre s t)) (L.map mkB) (-1)) (KZ, false, e, ()) → Ev (fun k => kbPush k (KM S (H6 m a b m' c d) (SL z n pre s t)) (tx, base, P, (T.drop (base - n).toNat).map mkB, 0, ()) u (L.map mkB)) (true, ()) := fun e he hs =>
    Ev.bind hs (Ev.bind shutZ.open (Ev.f (bne_i he) last))
  rcases h.tells with hw | hb
  · have hp := h.pushed hw L hL
    by_cases q : (runA z (n + T.length) L (pre, s, t)).1 = 0
    · obtain ⟨g1, g2, g3⟩ := hp.2 q
      have hl := h.tl
      have b0 := h.b0
      have b1 := h.b1
      have eD : ((T ++ L).drop (base - n).toNat).map mkB = (T.drop (base - n).toNat).map mkB ++ L.map mkB := by rw [List.drop_append_of_le_length (by omega), List.map_append]
      have g4 := g2.open
      rw [eD] at g4
      obtain ⟨X, hX⟩ : ∃ X, (T.drop (base - n).toNat).map mkB = X := ⟨_, rfl⟩
      have hXl : X.length ≤ 160000 := by rw [← hX, List.length_map, List.length_drop]; omega
      rw [hX] at g4 last ⊢
      have lm : (L.map mkB).length = L.length := List.length_map ..
      have t1 := Texts_big P (by have := h.pl; omega)
      have c1 : (((X ++ L.map mkB).length : Nat) : Int) = IntKind.i64.wrap ((X.length : Int) + ((L.map mkB).length : Int)) := by rw [List.length_append, wrap_id (by omega) (by omega)]; omega
      have c2 : (X.length : Int) ≤ ((X ++ L.map mkB).length : Int) := by rw [List.length_append]; omega
      have tX : Ev (fun k => ref01_Texts k X (List.drop 0 (List.take (X.length : Int).toNat (X ++ L.map mkB)))) (true, ()) := by
        rw [Int.toNat_natCast, List.take_left, List.drop_zero]; exact Texts_big X (by omega)
      have fr : Ev (fun k => law17_front k X (X ++ L.map mkB)) (true, ()) := Ev.dt c2 (Ev.dt c2 (Ev.bind tX (Ev.now _)))
      have tL : Ev (fun k => ref01_Texts k (List.drop (X.length : Int).toNat (List.take (X ++ L.map mkB).length (X ++ L.map mkB))) (L.map mkB)) (true, ()) := by
        rw [Int.toNat_natCast, List.take_length, List.drop_left]; exact Texts_ok (L.map mkB) (by omega)
      exact Ev.bind g1 (Ev.bind g4 (Ev.t rfl (Ev.f rfl (Ev.f (by show (!(tx.toList == tx.toList)) = false; simp) (Ev.f (nbeq_i rfl) (Ev.bind t1 (Ev.f rfl (Ev.f (nbeq_i c1) (Ev.bind fr (Ev.f rfl (Ev.dt c2 (Ev.bind tL (Ev.f rfl last)))))))))))))
    · exact no _ q (hp.1 q)
  · exact no 1 (by decide) (h.push_no (Add_broken h.lok hb _) (by decide))
end
theorem KeepBack : ∀ (a0 : KT) (a1 : ByteArray) (a2 : (List ByteArray)) (a3 : Int), bnd (.cons (.int .i64) (.cons .str (.cons .str (.cons (.int .i64) (.cons .str (.cons .str (.cons (.int .i64) (.cons .str (.cons .str (.cons (.int .i64) (.cons .str (.cons .str (.cons (.int .i64) (.cons (.int .i64) (.cons (.sl (.cons (.int .i64) (.cons .str (.cons .str .nil)))) .nil))))))))))))))) a0 → a1.size ≤ 140737488351232 → bnd (.sl .str) a2 → (Lit.int .i64 a3).wf = true → ∃ k, law17_KeepBack k a0 a1 a2 a3 = some (true, ()) := by
  intro K x l u h1 hx h2 _
  refine Ev.get ?_
  have h2 : l.length ≤ maxLen := h2.1
  obtain ⟨nm, a, b, nm', c, d, hm, ha, hb, hm', hc, hd, z, n, fs, ⟨⟩⟩ := K
  have hf : fs.length ≤ maxLen := h1.2.2.2.2.2.2.2.2.2.2.2.2.2.2.1.1
  obtain ⟨x2, hx2, s2⟩ := kfar_ok nm a b nm' c d hm ha hb hm' hc hd z n fs l hf h2
  cases x2 with
  | true => exact Ev.bind hx2 (Ev.t rfl (Ev.now _))
  | false =>
  refine Ev.bind hx2 (Ev.f rfl ?_)
  obtain ⟨x3, hx3, s3⟩ := kfar_ok nm a b nm' c d hm ha hb hm' hc hd z n fs [x] hf (by simp [maxLen])
  cases x3 with
  | true => exact Ev.bind hx3 (Ev.t rfl (Ev.now _))
  | false =>
  refine Ev.bind hx3 (Ev.f rfl ?_)
  obtain ⟨p1, p2, ⟨p3, p4⟩, p5, _⟩ := s2 rfl
  obtain ⟨L, rfl⟩ := all_texts l
  have mL : (L.map mkB).length = L.length := List.length_map ..
  have sS : smallS a b c d := ⟨by omega, by omega, by omega, by omega⟩
  have sH : smallH ha hb hc hd := ⟨by omega, by omega, by omega, by omega⟩
  rcases keep_or (m := nm) (m' := nm') (hm := hm) (hm' := hm') (z := z) (n := n) sS sH (by omega : fs.length ≤ 1000) p4 with ⟨pre, s, t, tx, base, P, T, rfl, ho, _, _⟩ | hs
  · refine Ev.bind ho.open (Ev.f rfl ?_)
    have last := kbPush_ev ho sH u L (by omega)
    rcases save_all (m := nm) (m' := nm') sS x with ⟨S', done, e, he, hsv⟩ | ⟨m2, a2, b2, m2', c2, d2, _, hsv, _, y, hld⟩
    · exact Ev.bind ((ho.noted hsv).1 he) (Ev.bind shutZ.open (Ev.f (bne_i he) last))
    · have ho2 : Opn (S6 m2 a2 b2 m2' c2 d2) (H6 hm ha hb hm' hc hd) z n pre s t x base P T := ⟨⟨y, hld⟩, ho.pic, ho.lok, ho.tells, ho.pl, ho.b0, ho.b1⟩
      have hl := ho.tl
      have t1 := Texts_big P (by have := ho.pl; omega)
      have t2 := Texts_big ((T.drop (base - n).toNat).map mkB) (by rw [List.length_map, List.length_drop]; omega)
      exact Ev.bind ((ho.noted hsv).2 rfl) (Ev.bind ho2.open (Ev.t rfl (Ev.f rfl (Ev.f (by show (!(x.toList == x.toList)) = false; simp) (Ev.f (nbeq_i rfl) (Ev.bind t1 (Ev.f rfl (Ev.bind t2 (Ev.f rfl last)))))))))
  · exact Ev.bind hs.open (Ev.t rfl (Ev.bind kept17_ok (Ev.t rfl (Ev.now _))))
end Go.Proofs.Ytohlhliifeeokaa.Pure
