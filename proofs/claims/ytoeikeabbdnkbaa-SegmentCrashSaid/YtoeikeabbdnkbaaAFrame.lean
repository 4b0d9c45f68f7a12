/- Frames: what is put, and what bytes begin with. -/
import Derived.Test.YtoeikeabbdnkbaaATextGet
namespace Go.Proofs.Ytoeikeabbdnkbaa.A
open Go Go.Proofs.Ytoeikeabbdnkbaa.Ab
set_option linter.unusedVariables false
set_option linter.unusedSimpArgs false

def hdB (k : Int) (t : List UInt8) : List UInt8 := intB k ++ txB t
def frB (k : Int) (t : List UInt8) : List UInt8 := hdB k t ++ intB (sumI (hdB k t))
theorem sum_intOk (s : List UInt8) : intOk (sumI s) = true := by have := sumI_lt s; rw [intOk_iff]; omega
theorem kind_intOk {k : Int} (h0 : 0 ≤ k) (h1 : k ≤ 99) : intOk k = true := by rw [intOk_iff]; omega
theorem hdB_len (k : Int) (t : List UInt8) : (hdB k t).length ≤ t.length + 12 := by
  have := intB_len k; have := txB_len t
  unfold hdB; rw [List.length_append]; omega
theorem frB_len (k : Int) (t : List UInt8) : (frB k t).length ≤ t.length + 18 := by
  have := hdB_len k t; have := intB_len (sumI (hdB k t))
  unfold frB; rw [List.length_append]; omega
theorem len_frB (k : Int) (t : List UInt8) : t.length + 3 ≤ (frB k t).length := by
  have one : ∀ n : Int, 1 ≤ (intB n).length := fun n => by rw [intB_eq, List.length_append]; simp
  have h1 := one k; have h2 := one (t.length : Int); have h3 := one (sumI (hdB k t))
  unfold frB; rw [List.length_append]; unfold hdB txB at *; rw [List.length_append, List.length_append]; omega
def PutA (k : Int) (s : List UInt8) : ByteArray × Int × Unit :=
  if k < 0 ∨ k > 99 then (EB, 1, ()) else if (s.length : Int) > 3000 then (EB, 2, ()) else (mkB (frB k s), 0, ())
theorem Put_ok (q : Nat) (k : Int) (s : List UInt8) : frame_Put q k (mkB s) = some (PutA k s) := by
  unfold frame_Put PutA
  by_cases h0 : k < 0
  · rw [bif_t h0, if_pos (.inl h0)]
  · by_cases h1 : k > 99
    · rw [bif_f h0, bif_t h1, if_pos (.inr h1)]
    · rw [bif_f h0, bif_f h1, if_neg (by omega), Text_ok]
      unfold TextA
      by_cases h2 : (s.length : Int) > 3000
      · rw [if_pos h2, if_pos h2]; rfl
      · rw [if_neg h2, if_neg h2]
        show (wire_Int q k).bind _ = _
        rw [Int_ok, IntA_ok (kind_intOk (by omega) (by omega))]
        show (sum_Over q [mkB (intB k), mkB (txB s)]).bind _ = _
        have l1 := intB_len k
        have l2 := txB_len s
        rw [Over_two q _ _ (by omega) (by omega)]
        show (wire_Int q (sumI (intB k ++ txB s))).bind _ = _
        have l3 := intB_len (sumI (intB k ++ txB s))
        rw [Int_ok, IntA_ok (sum_intOk _)]
        refine (bif_t (p := (mkB (intB k)).size + (mkB (txB s)).size ≤ 9223372036854775807) (by rw [mkB_size, mkB_size]; omega) _ _).trans ?_
        refine (bif_t (p := (mkB (intB k) ++ mkB (txB s)).size + (mkB (intB (sumI (intB k ++ txB s)))).size ≤ 9223372036854775807) (by rw [mkB_append, mkB_size, mkB_size, List.length_append]; omega) _ _).trans ?_
        show some (mkB (intB k) ++ mkB (txB s) ++ mkB (intB (sumI (intB k ++ txB s))), (0 : Int), ()) = _
        rw [mkB_append, mkB_append]; rfl

/-- What bytes begin with, out of what their parts begin with. -/
def FrA (l : List UInt8) (k e1 : Int) (t r2 : List UInt8) (e2 n : Int) (r3 : List UInt8) (e3 : Int) : Int × List UInt8 × List UInt8 × Int :=
  if e1 ≠ 0 then (0, [], [], e1) else if e2 ≠ 0 then (0, [], [], e2) else if e3 ≠ 0 then (0, [], [], e3) else
  if k < 0 ∨ k > 99 ∨ n < 0 ∨ n > 65535 then (0, [], [], 20) else if sumI (l.take (l.length - r2.length)) ≠ n then (0, [], [], 21) else (k, t, r3, 0)
abbrev FrV (x : Int × List UInt8 × List UInt8 × Int) : Int × (ByteArray × (ByteArray × (Int × Unit))) := (x.1, mkB x.2.1, mkB x.2.2.1, x.2.2.2, ())
section
variable {l r1 t r2 r3 : List UInt8} {k e1 e2 n e3 : Int}
theorem cut_len {a b : Nat} (h : b ≤ a) (ha : a ≤ 1000000) : (IntKind.i64.wrap ((a : Int) - (b : Int))).toNat = a - b := by rw [wrap_id (by omega) (by omega)]; omega
theorem frame_Get_of (hl : l.length ≤ 1000000) (hr : r2.length ≤ l.length) (h1 : Ev (fun q => wire_GetInt q (mkB l)) (k, mkB r1, e1, ())) (h2 : Ev (fun q => wire_GetText q (mkB r1)) (mkB t, mkB r2, e2, ())) (h3 : Ev (fun q => wire_GetInt q (mkB r2)) (n, mkB r3, e3, ())) :
    Ev (fun q => frame_Get q (mkB l)) (FrV (FrA l k e1 t r2 e2 n r3 e3)) := by
  have hsz := mkB_size l
  have hsz2 := mkB_size r2
  unfold FrA
  refine Ev.bind h1 ?_
  by_cases c1 : e1 = 0
  · rw [if_neg (by omega)]
    refine Ev.t (beq_i c1) (Ev.t (beq_i c1) (Ev.bind h2 ?_))
    by_cases c2 : e2 = 0
    · rw [if_neg (by omega)]
      refine Ev.t (beq_i c2) (Ev.t (beq_i c2) (Ev.bind h3 ?_))
      by_cases c3 : e3 = 0
      · rw [if_neg (by omega)]
        refine Ev.t (beq_i c3) (Ev.f (nbeq_i c3) ?_)
        by_cases d1 : k < 0
        · rw [if_pos (by omega)]; exact Ev.dt d1 (Ev.now _)
        by_cases d2 : k > 99
        · rw [if_pos (by omega)]; exact Ev.df d1 (Ev.dt d2 (Ev.now _))
        by_cases d3 : n < 0
        · rw [if_pos (by omega)]; exact Ev.df d1 (Ev.df d2 (Ev.dt d3 (Ev.now _)))
        by_cases d4 : n > 65535
        · rw [if_pos (by omega)]; exact Ev.df d1 (Ev.df d2 (Ev.df d3 (Ev.dt d4 (Ev.now _))))
        rw [if_neg (by omega)]
        have w := cut_len (a := l.length) (b := r2.length) hr hl
        have e0 : IntKind.i64.wrap (((mkB l).size : Int) - ((mkB r2).size : Int)) = ((l.length - r2.length : Nat) : Int) := by rw [hsz, hsz2, wrap_id (by omega) (by omega)]; omega
        have ex : (mkB l).extract 0 (IntKind.i64.wrap (((mkB l).size : Int) - ((mkB r2).size : Int))).toNat = mkB (l.take (l.length - r2.length)) := by rw [e0, Int.toNat_natCast, mkB_extract, List.drop_zero]
        refine Ev.df d1 (Ev.df d2 (Ev.df d3 (Ev.df d4 (Ev.dt (by show (0 : Int) ≤ IntKind.i64.wrap (((mkB l).size : Int) - ((mkB r2).size : Int)); omega) (Ev.dt (by show IntKind.i64.wrap (((mkB l).size : Int) - ((mkB r2).size : Int)) ≤ ((mkB l).size : Int); omega) ?_)))))
        have hs : Ev (fun q => sum_Of q ((mkB l).extract 0 (IntKind.i64.wrap (((mkB l).size : Int) - ((mkB r2).size : Int))).toNat)) (sumI (l.take (l.length - r2.length)), ()) := by
          rw [ex]
          exact Ev.all (fun q => Of_ok q _ (by rw [List.length_take]; omega))
        refine Ev.bind hs ?_
        by_cases d5 : sumI (l.take (l.length - r2.length)) = n
        · rw [if_neg (by simpa using d5)]; exact Ev.f (nbeq_i d5) (Ev.now _)
        · rw [if_pos d5]; exact Ev.t (nbne_i d5) (Ev.now _)
      · rw [if_pos c3]; exact Ev.f (bne_i c3) (Ev.t (nbne_i c3) (Ev.now _))
    · rw [if_pos c2]; exact Ev.f (bne_i c2) (Ev.f (bne_i c2) (Ev.t (nbne_i c2) (Ev.now _)))
  · rw [if_pos c1]; exact Ev.f (bne_i c1) (Ev.f (bne_i c1) (Ev.f (bne_i c1) (Ev.t (nbne_i c1) (Ev.now _))))
theorem ref03_Get_of (hl : l.length ≤ 1000000) (hr : r2.length ≤ l.length) (h1 : Ev (fun q => ref01_GetInt q (mkB l)) (k, mkB r1, e1, ())) (h2 : Ev (fun q => ref01_GetText q (mkB r1)) (mkB t, mkB r2, e2, ())) (h3 : Ev (fun q => ref01_GetInt q (mkB r2)) (n, mkB r3, e3, ())) :
    Ev (fun q => ref03_Get q (mkB l)) (FrV (FrA l k e1 t r2 e2 n r3 e3)) := by
  have hsz := mkB_size l
  have hsz2 := mkB_size r2
  unfold FrA
  refine Ev.bind h1 ?_
  by_cases c1 : e1 = 0
  · rw [if_neg (by omega)]
    refine Ev.f (nbeq_i c1) (Ev.bind h2 ?_)
    by_cases c2 : e2 = 0
    · rw [if_neg (by omega)]
      refine Ev.f (nbeq_i c2) (Ev.bind h3 ?_)
      by_cases c3 : e3 = 0
      · rw [if_neg (by omega)]
        refine Ev.f (nbeq_i c3) ?_
        by_cases d1 : k < 0
        · rw [if_pos (by omega)]; exact Ev.dt d1 (Ev.now _)
        by_cases d2 : k > 99
        · rw [if_pos (by omega)]; exact Ev.df d1 (Ev.dt d2 (Ev.now _))
        by_cases d3 : n < 0
        · rw [if_pos (by omega)]; exact Ev.df d1 (Ev.df d2 (Ev.dt d3 (Ev.now _)))
        by_cases d4 : n > 65535
        · rw [if_pos (by omega)]; exact Ev.df d1 (Ev.df d2 (Ev.df d3 (Ev.dt d4 (Ev.now _))))
        rw [if_neg (by omega)]
        have e0 : IntKind.i64.wrap (((mkB l).size : Int) - ((mkB r2).size : Int)) = ((l.length - r2.length : Nat) : Int) := by rw [hsz, hsz2, wrap_id (by omega) (by omega)]; omega
        have ex : (mkB l).extract 0 (IntKind.i64.wrap (((mkB l).size : Int) - ((mkB r2).size : Int))).toNat = mkB (l.take (l.length - r2.length)) := by rw [e0, Int.toNat_natCast, mkB_extract, List.drop_zero]
        refine Ev.df d1 (Ev.df d2 (Ev.df d3 (Ev.df d4 (Ev.dt (by show (0 : Int) ≤ IntKind.i64.wrap (((mkB l).size : Int) - ((mkB r2).size : Int)); omega) (Ev.dt (by show IntKind.i64.wrap (((mkB l).size : Int) - ((mkB r2).size : Int)) ≤ ((mkB l).size : Int); omega) ?_)))))
        have hs : Ev (fun q => ref02_Of q ((mkB l).extract 0 (IntKind.i64.wrap (((mkB l).size : Int) - ((mkB r2).size : Int))).toNat)) (sumI (l.take (l.length - r2.length)), ()) := by
          rw [ex]
          exact ref_Of _ (by rw [List.length_take]; omega)
        refine Ev.bind hs ?_
        by_cases d5 : sumI (l.take (l.length - r2.length)) = n
        · rw [if_neg (by simpa using d5)]; exact Ev.f (nbeq_i d5) (Ev.now _)
        · rw [if_pos d5]; exact Ev.t (nbne_i d5) (Ev.now _)
      · rw [if_pos c3]; exact Ev.t (nbne_i c3) (Ev.now _)
    · rw [if_pos c2]; exact Ev.t (nbne_i c2) (Ev.now _)
  · rw [if_pos c1]; exact Ev.t (nbne_i c1) (Ev.now _)
end
/-- What bytes begin with: a frame, or there is none. -/
def FrIs (l : List UInt8) (k : Int) (t rest : List UInt8) (e : Int) : Prop :=
  (e = 0 ∧ 0 ≤ k ∧ k ≤ 99 ∧ t.length ≤ 3000 ∧ l = frB k t ++ rest) ∨
  (e ≠ 0 ∧ k = 0 ∧ t = [] ∧ rest = [] ∧ ∀ k' t' q, 0 ≤ k' → k' ≤ 99 → t'.length ≤ 3000 → l ≠ frB k' t' ++ q)
theorem frB_app (k : Int) (t q : List UInt8) : frB k t ++ q = intB k ++ (txB t ++ (intB (sumI (hdB k t)) ++ q)) := by unfold frB hdB; simp only [List.append_assoc]
theorem FrA_is {l r1 t r2 r3 : List UInt8} {k e1 e2 n e3 : Int} (h1 : GetIs l k r1 e1) (h2 : TxIs r1 t r2 e2) (h3 : GetIs r2 n r3 e3) : FrIs l (FrA l k e1 t r2 e2 n r3 e3).1 (FrA l k e1 t r2 e2 n r3 e3).2.1 (FrA l k e1 t r2 e2 n r3 e3).2.2.1 (FrA l k e1 t r2 e2 n r3 e3).2.2.2 := by
  have no : ∀ {f : Int}, f ≠ 0 → (e1 = 0 → e2 = 0 → e3 = 0 → k < 0 ∨ k > 99 ∨ n < 0 ∨ n > 65535 ∨ sumI (l.take (l.length - r2.length)) ≠ n) → FrIs l 0 [] [] f := fun hf hb => by
    refine .inr ⟨hf, rfl, rfl, rfl, fun k' t' q hk0 hk1 ht e => ?_⟩
    have e0 := e
    rw [frB_app] at e
    rw [e] at h1
    obtain ⟨a1, a2, a3⟩ := h1.back (kind_intOk hk0 hk1)
    rw [a2] at h2
    obtain ⟨b1, b2, b3⟩ := h2.back ht
    rw [b2] at h3
    obtain ⟨d1, d2, d3⟩ := h3.back (sum_intOk _)
    have hs := sumI_lt (hdB k' t')
    have ex : l.take (l.length - r2.length) = hdB k' t' := by
      rw [e0, b2]
      unfold frB
      rw [List.append_assoc, List.length_append, List.length_append, Nat.add_sub_cancel, List.take_left]
    have := hb a3 b3 d3
    rw [ex, a1, d1] at this
    omega
  unfold FrA
  by_cases c1 : e1 = 0
  · rw [if_neg (by omega)]
    by_cases c2 : e2 = 0
    · rw [if_neg (by omega)]
      by_cases c3 : e3 = 0
      · rw [if_neg (by omega)]
        by_cases d : k < 0 ∨ k > 99 ∨ n < 0 ∨ n > 65535
        · rw [if_pos d]; exact no (by decide) (fun _ _ _ => by omega)
        · rw [if_neg d]
          by_cases d5 : sumI (l.take (l.length - r2.length)) = n
          · rw [if_neg (by simpa using d5)]
            rcases h1 with ⟨_, _, h1⟩ | ⟨h, _⟩ | ⟨h, _⟩
            · rcases h2 with ⟨_, ht, h2⟩ | ⟨h, _⟩
              · rcases h3 with ⟨_, _, h3⟩ | ⟨h, _⟩ | ⟨h, _⟩
                · have ex : l.take (l.length - r2.length) = hdB k t := by
                    rw [h1, h2, ← List.append_assoc, List.length_append, Nat.add_sub_cancel, List.take_left]; rfl
                  refine .inl ⟨rfl, by show 0 ≤ k; omega, by show k ≤ 99; omega, ht, ?_⟩
                  show l = frB k t ++ r3
                  rw [frB_app, ← ex, d5, ← h3, ← h2, ← h1]
                · omega
                · omega
              · omega
            · omega
            · omega
          · rw [if_pos d5]; exact no (by decide) (fun _ _ _ => by omega)
      · rw [if_pos c3]; exact no c3 (fun _ _ h => absurd h c3)
    · rw [if_pos c2]; exact no c2 (fun _ h _ => absurd h c2)
  · rw [if_pos c1]; exact no c1 (fun h _ _ => absurd h c1)
theorem Fr_both (l : List UInt8) (hl : l.length ≤ 1000000) : ∃ k t rest e, FrIs l k t rest e ∧ Ev (fun q => frame_Get q (mkB l)) (k, mkB t, mkB rest, e, ()) ∧ Ev (fun q => ref03_Get q (mkB l)) (k, mkB t, mkB rest, e, ()) := by
  obtain ⟨k, r1, e1, a0, a1, a2⟩ := Get_both l (by omega)
  have n1 := a0.len
  obtain ⟨t, r2, e2, b0, b1, b2⟩ := Tx_both r1 (by omega)
  have n2 := b0.len
  obtain ⟨n, r3, e3, d0, d1, d2⟩ := Get_both r2 (by omega)
  exact ⟨_, _, _, _, FrA_is a0 b0 d0, frame_Get_of hl (by omega) a1 b1 d1, ref03_Get_of hl (by omega) a2 b2 d2⟩
theorem FrIs.back {k : Int} {t q : List UInt8} (h0 : 0 ≤ k) (h1 : k ≤ 99) (ht : t.length ≤ 3000) {k' : Int} {t' q' : List UInt8} {e : Int} (h : FrIs (frB k t ++ q) k' t' q' e) : k' = k ∧ t' = t ∧ q' = q ∧ e = 0 := by
  rcases h with ⟨h2, h3, h4, h5, h6⟩ | ⟨_, _, _, _, h⟩
  · rw [frB_app, frB_app] at h6
    obtain ⟨a1, a2⟩ := intB_one (kind_intOk h0 h1) (kind_intOk h3 h4) h6
    have b : TxIs (txB t ++ (intB (sumI (hdB k t)) ++ q)) t' (intB (sumI (hdB k' t')) ++ q') 0 := .inl ⟨rfl, h5, a2⟩
    obtain ⟨b1, b2, b3⟩ := b.back ht
    obtain ⟨d1, d2⟩ := intB_one (sum_intOk _) (sum_intOk _) b2
    exact ⟨a1.symm, b1, d2, h2⟩
  · exact absurd rfl (h k t q h0 h1 ht)
theorem Fr_back {k : Int} {t q : List UInt8} (h0 : 0 ≤ k) (h1 : k ≤ 99) (ht : t.length ≤ 3000) (hl : (frB k t ++ q).length ≤ 1000000) : Ev (fun j => frame_Get j (mkB (frB k t ++ q))) (k, mkB t, mkB q, 0, ()) := by
  obtain ⟨k', t', q', e, h, hp, _⟩ := Fr_both _ hl
  obtain ⟨rfl, rfl, rfl, rfl⟩ := h.back h0 h1 ht
  exact hp
theorem app_split {a b p q : List UInt8} (h : p ++ q = a ++ b) (hq : q ≠ []) : (∃ x, p ++ x = a ∧ x ≠ []) ∨ ∃ x, p = a ++ x ∧ x ++ q = b := by
  rcases List.append_eq_append_iff.1 h with ⟨x, h1, h2⟩ | ⟨x, h1, h2⟩
  · by_cases hx : x = []
    · subst hx; exact .inr ⟨[], by simpa using h1.symm, by simpa using h2⟩
    · exact .inl ⟨x, h1.symm, hx⟩
  · exact .inr ⟨x, h1, h2.symm⟩
/-- A strict beginning of a frame asks for more. -/
theorem Fr_more {k : Int} {t p q : List UInt8} (h0 : 0 ≤ k) (h1 : k ≤ 99) (ht : t.length ≤ 3000) (h : p ++ q = frB k t) (hq : q ≠ []) : Ev (fun j => frame_Get j (mkB p)) (0, EB, EB, 22, ()) := by
  have hl := frB_len k t
  rw [← h, List.length_append] at hl
  obtain ⟨k1, r1, e1, a0, a1, a2⟩ := Get_both p (by omega)
  have n1 := a0.len
  obtain ⟨n2, q2, f2, b00, b01, b02⟩ := Get_both r1 (by omega)
  have b1 := wire_GetText_of b01
  have b0 := TxA_is b00
  have m2 := b0.len
  obtain ⟨n, r3, e3, d0, d1, d2⟩ := Get_both (TxA n2 q2 f2).2.1 (by omega)
  have main := frame_Get_of (by omega) (by omega) a1 b1 d1
  have e : FrA p k1 e1 (TxA n2 q2 f2).1 (TxA n2 q2 f2).2.1 (TxA n2 q2 f2).2.2 n r3 e3 = (0, [], [], 22) := by
    have h2 : p ++ q = intB k ++ (txB t ++ intB (sumI (hdB k t))) := by rw [h]; unfold frB hdB; rw [List.append_assoc]
    rcases app_split h2 hq with ⟨x, x1, x2⟩ | ⟨x, x1, x2⟩
    · obtain ⟨_, _, g⟩ := a0.more (cut_intB x1 x2)
      unfold FrA; rw [if_pos (by omega), g]
    · rw [x1] at a0
      obtain ⟨_, g1, g⟩ := a0.back (kind_intOk h0 h1)
      subst g1
      rcases app_split x2 hq with ⟨y, y1, y2⟩ | ⟨y, y1, y2⟩
      · have g2 := TxA_more ht y1 y2 b00
        rw [g2]
        unfold FrA; rw [if_neg (by omega), if_pos (by decide)]
      · rw [y1] at b0
        obtain ⟨g3, g4, g5⟩ := b0.back ht
        rw [g4] at d0
        obtain ⟨_, _, g6⟩ := d0.more (cut_intB y2 hq)
        unfold FrA; rw [if_neg (by omega), if_neg (by omega), if_pos (by omega), g6]
  rw [e] at main
  exact main
end Go.Proofs.Ytoeikeabbdnkbaa.A
