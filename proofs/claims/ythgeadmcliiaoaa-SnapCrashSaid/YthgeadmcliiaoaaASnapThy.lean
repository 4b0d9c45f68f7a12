/- Shelves: what is told, saved and crashed. -/
import Derived.Test.YthgeadmcliiaoaaFnSnap
import Derived.Test.YthgeadmcliiaoaaARows
import Derived.Test.YthgeadmcliiaoaaAPutRef
import Derived.Test.YthgeadmcliiaoaaAFileThy
import Derived.KernelRfl
namespace Go.Proofs.Ythgeadmcliiaoaa.A
open Go Go.Proofs.Ythgeadmcliiaoaa.Ab
set_option linter.unusedVariables false
set_option linter.unusedSimpArgs false

theorem all_texts (l : List ByteArray) : ∃ L : List (List UInt8), l = L.map mkB := by
  induction l with
  | nil => exact ⟨[], rfl⟩
  | cons x l ih => obtain ⟨L, rfl⟩ := ih; obtain ⟨t, rfl⟩ := all_text x; exact ⟨t :: L, rfl⟩
theorem Texts_l (l : List ByteArray) (hl : l.length ≤ 1000000) (d : Nat) : ∀ i : Nat, i + d = l.length → Ev (fun k => ref01_Texts_l1 l l k (false, (i : Int), ())) (.exit 0, false, (l.length : Int), ()) := by
  induction d with
  | zero =>
    intro i hi
    obtain rfl : i = l.length := by omega
    exact Ev.step (Ev.df (by show ¬ (l.length : Int) < l.length; omega) (Ev.now _))
  | succ d ih =>
    intro i hi
    have c0 : (i : Int) < (l.length : Int) := by omega
    have c1 : (0 : Int) ≤ (i : Int) := by omega
    have ih := ih (i + 1) (by omega)
    rw [← wrap_succ (by omega)] at ih
    exact Ev.step (Ev.dt c0 (Ev.dt c1 (Ev.dt c0 (Ev.dt c1 (Ev.dt c0 (Ev.f (by simp) ih))))))
theorem Texts_ok (l : List ByteArray) (hl : l.length ≤ 1000000) : Ev (fun k => ref01_Texts k l l) (true, ()) :=
  Ev.f (nbeq_i rfl) (Ev.bind (Texts_l l hl l.length 0 (by omega)) (Ev.t rfl (Ev.now _)))
theorem getD_mid (p : List (List UInt8)) (t : List UInt8) (q : List (List UInt8)) : ((p ++ t :: q).map mkB).getD (Int.toNat (p.length : Int)) Ty.str.zero = mkB t := by
  rw [getD_z _ p.length (by simp)]
  simp
/-! ### Rows, by the document -/
theorem refRow_l (ts : List (List UInt8)) (h100 : ts.length ≤ 100) : ∀ (q p : List (List UInt8)) (acc : List UInt8), ts = p ++ q → acc.length ≤ 3006 * p.length + 6 →
    ((∀ t ∈ q, t.length ≤ 3000) ∧ Ev (fun k => ref03_Row_l1 (ts.map mkB) k (EB, 0, mkB acc, (p.length : Int), ())) (.exit 0, EB, 0, mkB (acc ++ txsB q), (ts.length : Int), ())) ∨
    ((∃ t ∈ q, ¬ t.length ≤ 3000) ∧ ∃ u v, Ev (fun k => ref03_Row_l1 (ts.map mkB) k (EB, 0, mkB acc, (p.length : Int), ())) (.ret, EB, 2, u, v, ())) := by
  intro q
  have hm : (ts.map mkB).length = ts.length := List.length_map ..
  induction q with
  | nil =>
    intro p acc hp ha
    obtain rfl : ts = p := by rw [hp, List.append_nil]
    refine .inl ⟨fun t h => by simp at h, Ev.step (Ev.df (by show ¬ (ts.length : Int) < ((ts.map mkB).length : Int); omega) ?_)⟩
    rw [show txsB [] = [] from rfl, List.append_nil]; exact Ev.now _
  | cons t q ih =>
    intro p acc hp ha
    have hlen : ts.length = p.length + (q.length + 1) := by rw [hp, List.length_append, List.length_cons]
    have c0 : (p.length : Int) < ((ts.map mkB).length : Int) := by omega
    have c1 : (0 : Int) ≤ (p.length : Int) := by omega
    have w2 := wrap_succ (i := p.length) (by omega)
    have ht1 := txB_len t
    have hput : Ev (fun k => ref01_Text k ((ts.map mkB).getD (Int.toNat (p.length : Int)) Ty.str.zero)) (TextA t) := by
      rw [hp, getD_mid]; exact refText_ok t
    unfold TextA at hput
    by_cases ht : t.length ≤ 3000
    · rw [if_neg (by omega)] at hput
      have hsz : (mkB acc).size + (mkB (txB t)).size ≤ 9223372036854775807 := by rw [mkB_size, mkB_size]; omega
      have on : ∀ {R}, Ev (fun k => ref03_Row_l1 (ts.map mkB) k (EB, 0, mkB (acc ++ txB t), (((p ++ [t]).length : Nat) : Int), ())) R → Ev (fun k => ref03_Row_l1 (ts.map mkB) k (EB, 0, mkB acc, (p.length : Int), ())) R := by
        intro R h
        rw [show (((p ++ [t]).length : Nat) : Int) = IntKind.i64.wrap ((p.length : Int) + 1) by rw [w2]; simp, ← mkB_append] at h
        exact Ev.step (Ev.dt c0 (Ev.dt c1 (Ev.dt c0 (Ev.bind hput (Ev.f rfl (Ev.dt hsz h))))))
      rcases ih (p ++ [t]) (acc ++ txB t) (by rw [hp]; simp) (by rw [List.length_append, List.length_append, List.length_singleton]; omega) with ⟨h, k⟩ | ⟨⟨u, hu, h⟩, x, y, k⟩
      · refine .inl ⟨fun u hu => ?_, ?_⟩
        · rcases List.mem_cons.1 hu with rfl | hu
          · exact ht
          · exact h u hu
        · have := on k
          rw [List.append_assoc] at this
          exact this
      · exact .inr ⟨⟨u, by simp [hu], h⟩, x, y, on k⟩
    · rw [if_pos (by omega)] at hput
      exact .inr ⟨⟨t, by simp, ht⟩, _, _, Ev.step (Ev.dt c0 (Ev.dt c1 (Ev.dt c0 (Ev.bind hput (Ev.t rfl (Ev.now _))))))⟩
theorem refRow_ok (a : Int) (ts : List (List UInt8)) : Ev (fun k => ref03_Row k a (ts.map mkB)) (RowA a ts) := by
  have hm : (ts.map mkB).length = ts.length := List.length_map ..
  unfold RowA
  by_cases h0 : a < 0
  · rw [if_pos (.inl h0)]; exact Ev.dt h0 (Ev.now _)
  by_cases h1 : a > 99
  · rw [if_pos (.inr h1)]; exact Ev.df h0 (Ev.dt h1 (Ev.now _))
  rw [if_neg (by omega)]
  by_cases h2 : ts.length > 100
  · rw [if_pos h2]; exact Ev.df h0 (Ev.df h1 (Ev.dt (by omega) (Ev.now _)))
  rw [if_neg h2]
  have hi : Ev (fun k => ref01_Int k ((ts.map mkB).length : Int)) (mkB (intB (ts.length : Int)), 0, ()) := by
    have := refInt_ok ((ts.map mkB).length : Int)
    rw [hm] at this ⊢
    rwa [IntA_ok (small_ok _ (by omega))] at this
  have hil := intB_len (ts.length : Int)
  rcases refRow_l ts (by omega) ts [] (intB (ts.length : Int)) rfl (by simp; omega) with ⟨h, k⟩ | ⟨h, u, v, k⟩
  · rw [if_pos h]
    exact Ev.df h0 (Ev.df h1 (Ev.df (by omega) (Ev.bind hi (Ev.bind k (Ev.t rfl (Ev.bind (refPut_ok a (rowB ts)) (Ev.now _)))))))
  · rw [if_neg (by intro q; obtain ⟨t, ht, ht'⟩ := h; exact ht' (q t ht))]
    exact Ev.df h0 (Ev.df h1 (Ev.df (by omega) (Ev.bind hi (Ev.bind k (Ev.now _)))))

/-! ### Pictures -/
def PicA (n : Int) (L : List (List UInt8)) : ByteArray × Int × Unit :=
  if n < 0 ∨ n > 1000000000 then (EB, 1, ()) else if (RowA 3 (intB n :: L)).2.1 ≠ 0 then (EB, 2, ()) else ((RowA 3 (intB n :: L)).1, 0, ())
theorem n_ok {n : Int} (h : ¬ (n < 0 ∨ n > 1000000000)) : intOk n = true := by rw [intOk_iff]; omega
theorem Pic_ok (q : Nat) (n : Int) (L : List (List UInt8)) (hL : L.length ≤ 1000000) : snap_picture q n (L.map mkB) = some (PicA n L) := by
  have hm : (L.map mkB).length = L.length := List.length_map ..
  unfold snap_picture PicA
  by_cases h0 : n < 0
  · rw [bif_t h0, if_pos (.inl h0)]
  by_cases h1 : n > 1000000000
  · rw [bif_f h0, bif_t h1, if_pos (.inr h1)]
  rw [bif_f h0, bif_f h1, if_neg (by omega), bif_t (by omega), Int_ok, IntA_ok (n_ok (by omega))]
  show (frame_Row q 3 ((intB n :: L).map mkB)).bind _ = _
  rw [Row_ok]
  show (bif (RowA 3 (intB n :: L)).2.1 != 0 then _ else _) = _
  by_cases h2 : (RowA 3 (intB n :: L)).2.1 = 0
  · rw [nbeq_i h2, if_neg (by omega)]; rfl
  · rw [nbne_i h2, if_pos h2]; rfl
theorem rPic_ok (n : Int) (L : List (List UInt8)) (hL : L.length ≤ 1000000) : Ev (fun k => ref16_Picture k n (L.map mkB)) (PicA n L) := by
  have hm : (L.map mkB).length = L.length := List.length_map ..
  unfold PicA
  by_cases h0 : n < 0
  · rw [if_pos (.inl h0)]; exact Ev.dt h0 (Ev.now _)
  by_cases h1 : n > 1000000000
  · rw [if_pos (.inr h1)]; exact Ev.df h0 (Ev.dt h1 (Ev.now _))
  rw [if_neg (by omega)]
  have hi : Ev (fun k => ref01_Int k n) (mkB (intB n), 0, ()) := by have := refInt_ok n; rwa [IntA_ok (n_ok (by omega))] at this
  have hr := refRow_ok 3 (intB n :: L)
  have tail : ∀ (T : List ByteArray), T = (intB n :: L).map mkB → Ev (fun k => (ref03_Row k 3 T).bind fun r3 => bif r3.2.1 != 0 then some ((EB, 2, ()) : ByteArray × Int × Unit) else some (r3.1, 0, ())) (if (RowA 3 (intB n :: L)).2.1 ≠ 0 then (EB, 2, ()) else ((RowA 3 (intB n :: L)).1, 0, ())) := by
    rintro T rfl
    refine Ev.bind hr ?_
    by_cases h2 : (RowA 3 (intB n :: L)).2.1 = 0
    · rw [if_neg (by omega)]; exact Ev.f (nbeq_i h2) (Ev.now _)
    · rw [if_pos h2]; exact Ev.t (nbne_i h2) (Ev.now _)
  cases L with
  | nil => exact Ev.df h0 (Ev.df h1 (Ev.bind hi (Ev.t rfl (tail _ rfl))))
  | cons t L => exact Ev.df h0 (Ev.df h1 (Ev.bind hi (Ev.f rfl (Ev.dt (by show ([mkB (intB n)].length + ((t :: L).map mkB).length) * 16 ≤ _; simp at hm hL ⊢; omega) (tail _ rfl)))))
/-- Bytes are just the picture of n and L. -/
def PicIs (l : List UInt8) (n : Int) (L : List (List UInt8)) : Prop := 0 ≤ n ∧ n ≤ 1000000000 ∧ L.length ≤ 99 ∧ shortL L ∧ (rowB (intB n :: L)).length ≤ 3000 ∧ l = frB 3 (rowB (intB n :: L))
theorem PicIs.short {l : List UInt8} {n : Int} {L : List (List UInt8)} (h : PicIs l n L) : shortL (intB n :: L) := by
  intro t ht
  rcases List.mem_cons.1 ht with rfl | ht
  · have := intB_len n; omega
  · exact h.2.2.2.1 t ht
theorem PicA_is {n : Int} {L : List (List UInt8)} (h : (PicA n L).2.1 = 0) : ∃ l, (PicA n L).1 = mkB l ∧ PicIs l n L := by
  unfold PicA at h ⊢
  by_cases h0 : n < 0 ∨ n > 1000000000
  · rw [if_pos h0] at h; exact absurd h (by decide)
  rw [if_neg h0] at h ⊢
  by_cases h1 : (RowA 3 (intB n :: L)).2.1 ≠ 0
  · rw [if_pos h1] at h; exact absurd h (by decide)
  rw [if_neg h1]
  have h1 : (RowA 3 (intB n :: L)).2.1 = 0 := by omega
  unfold RowA at h1 ⊢
  rw [if_neg (by decide)] at h1 ⊢
  by_cases h2 : (intB n :: L).length > 100
  · rw [if_pos h2] at h1; exact absurd h1 (by decide)
  rw [if_neg h2] at h1 ⊢
  by_cases h3 : ∀ t ∈ intB n :: L, t.length ≤ 3000
  · rw [if_pos h3] at h1 ⊢
    unfold PutA at h1 ⊢
    rw [if_neg (by decide)] at h1 ⊢
    by_cases h4 : ((rowB (intB n :: L)).length : Int) > 3000
    · rw [if_pos h4] at h1; exact absurd h1 (by decide)
    rw [if_neg h4]
    refine ⟨_, rfl, by omega, by omega, ?_, fun t ht => h3 t (by simp [ht]), by omega, rfl⟩
    rw [List.length_cons] at h2; omega
  · rw [if_neg h3] at h1; exact absurd h1 (by decide)
theorem PicIs.len {l : List UInt8} {n : Int} {L : List (List UInt8)} (h : PicIs l n L) : l.length ≤ 3018 := by
  have := frB_len 3 (rowB (intB n :: L))
  rw [h.2.2.2.2.2]; have := h.2.2.2.2.1; omega

/-! ### What is told -/
def loadO : Option (Int × List (List UInt8)) → Int × (List ByteArray) × Bool × Int × Unit
  | some (n, L) => (n, L.map mkB, true, 0, ())
  | none => (0, [], false, 0, ())
def TellIs (l : List UInt8) : Option (Int × List (List UInt8)) → Prop
  | some (n, L) => PicIs l n L
  | none => ∀ n L, ¬ PicIs l n L
abbrev HT := Int × (ByteArray × (ByteArray × (Int × (ByteArray × (ByteArray × Unit)))))
abbrev H6 (m : Int) (a b : ByteArray) (m' : Int) (c d : ByteArray) : HT := (m, a, b, m', c, d, ())
def okH (m : Int) (a b : ByteArray) (m' : Int) (c d : ByteArray) : Bool := bif okF m a b then (bif okF m' c d then m == m' else false) else false
def loadH (ok : Bool) (o : Option (Int × List (List UInt8))) : Int × (List ByteArray) × Bool × Int × Unit := bif ok then loadO o else (0, [], false, 1, ())
structure smallH (a b c d : ByteArray) : Prop where
  a : a.size ≤ 100000
  b : b.size ≤ 100000
  c : c.size ≤ 100000
  d : d.size ≤ 100000
section
variable {m : Int} {a b : ByteArray} {m' : Int} {c d : ByteArray}
theorem isH_ok (sm : smallH a b c d) (k : Nat) : snap_is k (H6 m a b m' c d) = some (okH m a b m' c d, ()) := by
  have s1 := sm.a; have s2 := sm.b; have s3 := sm.c; have s4 := sm.d
  unfold snap_is okH
  show (file_Is k (F m a b)).bind _ = _
  rw [Is_ok k m a b (by omega) (by omega)]
  cases okF m a b
  · rfl
  · show (file_Is k (F m' c d)).bind _ = _
    rw [Is_ok k m' c d (by omega) (by omega)]
    cases okF m' c d <;> rfl
theorem risH_ok (sm : smallH a b c d) (k : Nat) : ref16_Is k (H6 m a b m' c d) = some (okH m a b m' c d, ()) := by
  have s1 := sm.a; have s2 := sm.b; have s3 := sm.c; have s4 := sm.d
  unfold ref16_Is okH
  show (ref12_Is k (F m a b)).bind _ = _
  rw [rIs_ok k m a b (by omega) (by omega)]
  cases okF m a b
  · rfl
  · show (ref12_Is k (F m' c d)).bind _ = _
    rw [rIs_ok k m' c d (by omega) (by omega)]
    cases okF m' c d <;> rfl
/-- What is told of the bytes alone. -/
theorem tell_both (l : List UInt8) (hl : l.length ≤ 1000000) : ∃ o, TellIs l o ∧
    (∀ (k0 : HT) , True → Ev (fun k => (frame_GetRow k (mkB l)).bind fun r3 => (bif r3.2.2.2.1 != 0 then some ((0, [], false, 0, ()) : Int × (List ByteArray) × Bool × Int × Unit) else bif !(r3.2.2.1.toList == EB.toList) then some (0, [], false, 0, ()) else bif r3.1 != 3 then some (0, [], false, 0, ()) else bif ((List.length r3.2.1 : Nat) : Int) == 0 then some (0, [], false, 0, ()) else bif decide ((0 : Int) < ((List.length r3.2.1 : Nat) : Int)) then ((wire_GetInt k (List.getD r3.2.1 (Int.toNat 0) Ty.str.zero)).bind fun r4 => bif r4.2.2.1 != 0 then some (0, [], false, 0, ()) else bif !(r4.2.1.toList == EB.toList) then some (0, [], false, 0, ()) else bif decide (r4.1 < 0) then some (0, [], false, 0, ()) else bif decide (r4.1 > 1000000000) then some (0, [], false, 0, ()) else bif decide ((1 : Int) ≤ ((List.length r3.2.1 : Nat) : Int)) then ((slices_Clone_string_string k (List.drop (Int.toNat 1) (List.take (List.length r3.2.1) r3.2.1))).bind fun r5 => some (r4.1, r5.1, true, 0, ())) else none) else none)) (loadO o)) ∧
    Ev (fun k => (ref03_GetRow k (mkB l)).bind fun r3 => (bif r3.2.2.2.1 != 0 then some ((0, [], false, 0, ()) : Int × (List ByteArray) × Bool × Int × Unit) else bif !(r3.2.2.1.toList == EB.toList) then some (0, [], false, 0, ()) else bif r3.1 != 3 then some (0, [], false, 0, ()) else bif ((List.length r3.2.1 : Nat) : Int) == 0 then some (0, [], false, 0, ()) else bif decide ((0 : Int) < ((List.length r3.2.1 : Nat) : Int)) then ((ref01_GetInt k (List.getD r3.2.1 (Int.toNat 0) Ty.str.zero)).bind fun r4 => bif r4.2.2.1 != 0 then some (0, [], false, 0, ()) else bif !(r4.2.1.toList == EB.toList) then some (0, [], false, 0, ()) else bif decide (r4.1 < 0) then some (0, [], false, 0, ()) else bif decide (r4.1 > 1000000000) then some (0, [], false, 0, ()) else bif decide ((1 : Int) ≤ ((List.length r3.2.1 : Nat) : Int)) then ((ref01_OwnTexts k (List.drop (Int.toNat 1) (List.take (List.length r3.2.1) r3.2.1))).bind fun r5 => some (r4.1, r5.1, true, 0, ())) else none) else none)) (loadO o) := by
  obtain ⟨kd, ts, rest, e, hr, f1, f2⟩ := Row_both l hl
  -- what stands against a picture
  have none_of : ∀ (h : ∀ n L, PicIs l n L → False), TellIs l none := fun h n L p => h n L p
  have back : ∀ n L, PicIs l n L → kd = 3 ∧ ts = intB n :: L ∧ rest = [] ∧ e = 0 := fun n L p => by
    have hl2 := p.2.2.2.2.2
    have hr2 := hr
    rw [hl2, ← List.append_nil (frB 3 _)] at hr2
    exact hr2.back (by decide) (by decide) (by rw [List.length_cons]; have := p.2.2.1; omega) p.short p.2.2.2.2.1
  by_cases he : e = 0
  · by_cases hrest : rest = []
    · subst hrest
      by_cases hk : kd = 3
      · cases ts with
        | nil =>
          refine ⟨none, none_of (fun n L p => by have := (back n L p).2.1; simp at this), fun _ _ => ?_, ?_⟩
          · exact Ev.bind f1 (Ev.f (nbeq_i he) (Ev.f text_eq (Ev.f (nbeq_i hk) (Ev.t rfl (Ev.now _)))))
          · exact Ev.bind f2 (Ev.f (nbeq_i he) (Ev.f text_eq (Ev.f (nbeq_i hk) (Ev.t rfl (Ev.now _)))))
        | cons x L =>
          obtain ⟨_, _, _, hlen, hsh, hrow, hl2⟩ : e = 0 ∧ 0 ≤ kd ∧ kd ≤ 99 ∧ (x :: L).length ≤ 100 ∧ shortL (x :: L) ∧ (rowB (x :: L)).length ≤ 3000 ∧ l = frB kd (rowB (x :: L)) ++ [] := by
            rcases hr with h | ⟨h, _⟩
            · exact h
            · exact absurd he h
          have hx := hsh x (by simp)
          obtain ⟨n, more, f, hg, g1, g2⟩ := Get_both x (by omega)
          have hm : (((x :: L).map mkB).length : Int) = (L.length : Int) + 1 := by simp
          have c1 : (((((x :: L).map mkB).length : Nat) : Int) == 0) = false := bne_i (by rw [hm]; omega)
          have c2 : (0 : Int) < ((((x :: L).map mkB).length : Nat) : Int) := by rw [hm]; omega
          have c3 : (1 : Int) ≤ ((((x :: L).map mkB).length : Nat) : Int) := by rw [hm]; omega
          have hd : List.drop (Int.toNat 1) (List.take ((x :: L).map mkB).length ((x :: L).map mkB)) = L.map mkB := by rw [List.take_length]; rfl
          rw [List.length_cons] at hlen
          have hcl : Ev (fun k => slices_Clone_string_string k (List.drop (Int.toNat 1) (List.take ((x :: L).map mkB).length ((x :: L).map mkB)))) (L.map mkB, ()) := by
            rw [hd]; exact Ev.dt (by rw [List.length_map]; omega) (Ev.now _)
          have hcl2 : Ev (fun k => ref01_OwnTexts k (List.drop (Int.toNat 1) (List.take ((x :: L).map mkB).length ((x :: L).map mkB)))) (L.map mkB, ()) := by
            rw [hd]
            cases L with
            | nil => exact Ev.t rfl (Ev.now _)
            | cons y L => exact Ev.f rfl (Ev.dt (by show ((y :: L).map mkB).length * 16 ≤ _; rw [List.length_map]; omega) (Ev.now _))
          have no : ¬ (f = 0 ∧ more = [] ∧ 0 ≤ n ∧ n ≤ 1000000000) → TellIs l none := fun hno => none_of (fun n' L' p => by
            obtain ⟨_, b2, _, _⟩ := back n' L' p
            have hx' : x = intB n' := by simpa using congrArg List.head? b2
            rw [hx', ← List.append_nil (intB n')] at hg
            obtain ⟨d1, d2, d3⟩ := hg.back (n_ok (by have := p.1; have := p.2.1; omega))
            exact hno ⟨d3, d2, by rw [d1]; exact p.1, by rw [d1]; exact p.2.1⟩)
          by_cases h1 : f = 0
          · by_cases h2 : more = []
            · subst h2
              by_cases h3 : n < 0
              · refine ⟨none, no (by omega), fun _ _ => ?_, ?_⟩
                · exact Ev.bind f1 (Ev.f (nbeq_i he) (Ev.f text_eq (Ev.f (nbeq_i hk) (Ev.f c1 (Ev.dt c2 (Ev.bind g1 (Ev.f (nbeq_i h1) (Ev.f text_eq (Ev.dt h3 (Ev.now _))))))))))
                · exact Ev.bind f2 (Ev.f (nbeq_i he) (Ev.f text_eq (Ev.f (nbeq_i hk) (Ev.f c1 (Ev.dt c2 (Ev.bind g2 (Ev.f (nbeq_i h1) (Ev.f text_eq (Ev.dt h3 (Ev.now _))))))))))
              · by_cases h4 : n > 1000000000
                · refine ⟨none, no (by omega), fun _ _ => ?_, ?_⟩
                  · exact Ev.bind f1 (Ev.f (nbeq_i he) (Ev.f text_eq (Ev.f (nbeq_i hk) (Ev.f c1 (Ev.dt c2 (Ev.bind g1 (Ev.f (nbeq_i h1) (Ev.f text_eq (Ev.df h3 (Ev.dt h4 (Ev.now _)))))))))))
                  · exact Ev.bind f2 (Ev.f (nbeq_i he) (Ev.f text_eq (Ev.f (nbeq_i hk) (Ev.f c1 (Ev.dt c2 (Ev.bind g2 (Ev.f (nbeq_i h1) (Ev.f text_eq (Ev.df h3 (Ev.dt h4 (Ev.now _)))))))))))
                · have hx' : x = intB n := by
                    rcases hg with ⟨_, _, h⟩ | ⟨h, _⟩ | ⟨h, _⟩
                    · rw [h, List.append_nil]
                    · omega
                    · omega
                  refine ⟨some (n, L), ⟨by omega, by omega, by omega, fun t ht => hsh t (by simp [ht]), by rw [← hx']; exact hrow, by rw [hl2, List.append_nil, hk, hx']⟩, fun _ _ => ?_, ?_⟩
                  · exact Ev.bind f1 (Ev.f (nbeq_i he) (Ev.f text_eq (Ev.f (nbeq_i hk) (Ev.f c1 (Ev.dt c2 (Ev.bind g1 (Ev.f (nbeq_i h1) (Ev.f text_eq (Ev.df h3 (Ev.df h4 (Ev.dt c3 (Ev.bind hcl (Ev.now _)))))))))))))
                  · exact Ev.bind f2 (Ev.f (nbeq_i he) (Ev.f text_eq (Ev.f (nbeq_i hk) (Ev.f c1 (Ev.dt c2 (Ev.bind g2 (Ev.f (nbeq_i h1) (Ev.f text_eq (Ev.df h3 (Ev.df h4 (Ev.dt c3 (Ev.bind hcl2 (Ev.now _)))))))))))))
            · refine ⟨none, no (fun q => h2 q.2.1), fun _ _ => ?_, ?_⟩
              · exact Ev.bind f1 (Ev.f (nbeq_i he) (Ev.f text_eq (Ev.f (nbeq_i hk) (Ev.f c1 (Ev.dt c2 (Ev.bind g1 (Ev.f (nbeq_i h1) (Ev.t (text_ne h2) (Ev.now _)))))))))
              · exact Ev.bind f2 (Ev.f (nbeq_i he) (Ev.f text_eq (Ev.f (nbeq_i hk) (Ev.f c1 (Ev.dt c2 (Ev.bind g2 (Ev.f (nbeq_i h1) (Ev.t (text_ne h2) (Ev.now _)))))))))
          · refine ⟨none, no (fun q => h1 q.1), fun _ _ => ?_, ?_⟩
            · exact Ev.bind f1 (Ev.f (nbeq_i he) (Ev.f text_eq (Ev.f (nbeq_i hk) (Ev.f c1 (Ev.dt c2 (Ev.bind g1 (Ev.t (nbne_i h1) (Ev.now _))))))))
            · exact Ev.bind f2 (Ev.f (nbeq_i he) (Ev.f text_eq (Ev.f (nbeq_i hk) (Ev.f c1 (Ev.dt c2 (Ev.bind g2 (Ev.t (nbne_i h1) (Ev.now _))))))))
      · refine ⟨none, none_of (fun n L p => hk (back n L p).1), fun _ _ => ?_, ?_⟩
        · exact Ev.bind f1 (Ev.f (nbeq_i he) (Ev.f text_eq (Ev.t (nbne_i hk) (Ev.now _))))
        · exact Ev.bind f2 (Ev.f (nbeq_i he) (Ev.f text_eq (Ev.t (nbne_i hk) (Ev.now _))))
    · refine ⟨none, none_of (fun n L p => hrest (back n L p).2.2.1), fun _ _ => ?_, ?_⟩
      · exact Ev.bind f1 (Ev.f (nbeq_i he) (Ev.t (text_ne hrest) (Ev.now _)))
      · exact Ev.bind f2 (Ev.f (nbeq_i he) (Ev.t (text_ne hrest) (Ev.now _)))
  · refine ⟨none, none_of (fun n L p => he (back n L p).2.2.2), fun _ _ => ?_, ?_⟩
    · exact Ev.bind f1 (Ev.t (nbne_i he) (Ev.now _))
    · exact Ev.bind f2 (Ev.t (nbne_i he) (Ev.now _))
theorem Tell.one {l : List UInt8} {o o' : Option (Int × List (List UInt8))} (h : TellIs l o) (h' : TellIs l o') : o = o' := by
  have key : ∀ {n L n' L'}, PicIs l n L → PicIs l n' L' → n = n' ∧ L = L' := fun {n L n' L'} p p' => by
    have hr : RowIs l 3 (intB n' :: L') [] 0 := .inl ⟨rfl, by decide, by decide, by rw [List.length_cons]; have := p'.2.2.1; omega, p'.short, p'.2.2.2.2.1, by rw [List.append_nil]; exact p'.2.2.2.2.2⟩
    rw [p.2.2.2.2.2, ← List.append_nil (frB 3 (rowB (intB n :: L)))] at hr
    obtain ⟨_, b2, _, _⟩ := hr.back (by decide) (by decide) (by rw [List.length_cons]; have := p.2.2.1; omega) p.short p.2.2.2.2.1
    have e1 : intB n' = intB n := by simpa using congrArg List.head? b2
    have e2 : L' = L := by simpa using congrArg List.tail b2
    obtain ⟨d1, _⟩ := intB_one (n := n) (m := n') (r := []) (q := []) (n_ok (by have := p.1; have := p.2.1; omega)) (n_ok (by have := p'.1; have := p'.2.1; omega)) (by rw [e1])
    exact ⟨d1, e2.symm⟩
  cases o with
  | none => cases o' with
    | none => rfl
    | some q => exact absurd h' (h q.1 q.2)
  | some p => cases o' with
    | none => exact absurd h (h' p.1 p.2)
    | some q => obtain ⟨e1, e2⟩ := key (n := p.1) (L := p.2) (n' := q.1) (L' := q.2) h h'; exact congrArg some (Prod.ext e1 e2)
theorem Load_both (sm : smallH a b c d) {o : Option (Int × List (List UInt8))} (ho : TellIs (a ++ b).data.toList o) :
    Ev (fun k => snap_Load k (H6 m a b m' c d)) (loadH (okH m a b m' c d) o) ∧ Ev (fun k => ref16_Load k (H6 m a b m' c d)) (loadH (okH m a b m' c d) o) := by
  have s1 := sm.a; have s2 := sm.b
  have i1 : Ev (fun k => snap_is k (H6 m a b m' c d)) (okH m a b m' c d, ()) := Ev.all fun k => isH_ok sm k
  have i2 : Ev (fun k => ref16_Is k (H6 m a b m' c d)) (okH m a b m' c d, ()) := Ev.all fun k => risH_ok sm k
  cases g : okH m a b m' c d with
  | false =>
    rw [g] at i1 i2
    exact ⟨Ev.bind i1 (Ev.t rfl (Ev.now _)), Ev.bind i2 (Ev.t rfl (Ev.now _))⟩
  | true =>
    rw [g] at i1 i2
    obtain ⟨o', h0, h1, h2⟩ := tell_both (a ++ b).data.toList (by rw [size_toList, ByteArray.size_append]; omega)
    obtain rfl := Tell.one ho h0
    rw [mkB_of] at h1 h2
    have r1 : Ev (fun k => file_Read k (F m a b)) (a ++ b, ()) := Ev.all fun k => read_ok k m a b (by omega) (by omega)
    have r2 : Ev (fun k => ref12_Read k (F m a b)) (a ++ b, ()) := Ev.all fun k => rread_ok k m a b (by omega) (by omega)
    exact ⟨Ev.bind i1 (Ev.f rfl (Ev.bind r1 (h1 (H6 m a b m' c d) trivial))), Ev.bind i2 (Ev.f rfl (Ev.bind r2 h2))⟩
end
set_option maxRecDepth 100000 in
theorem snapped_all (q : Nat) : law16_snapped (q + 60) = some (true, ()) := by kernel_rfl
theorem snapped_ok : Ev (fun k => law16_snapped k) (true, ()) := ⟨60, fun k hk => by
  obtain ⟨q, rfl⟩ : ∃ q, k = q + 60 := ⟨k - 60, by omega⟩
  exact snapped_all q⟩
end Go.Proofs.Ythgeadmcliiaoaa.A
