/- Rows of texts in a frame. -/
import Derived.Test.YthgeadmcliiaoaaAFrame
namespace Go.Proofs.Ythgeadmcliiaoaa.A
open Go Go.Proofs.Ythgeadmcliiaoaa.Ab
set_option linter.unusedVariables false
set_option linter.unusedSimpArgs false

theorem text_ne {l : List UInt8} (h : l ≠ []) : (!((mkB l).toList == EB.toList)) = true := by
  rw [mkB_toList, E_toList]; simpa using h
theorem text_eq : (!((mkB []).toList == EB.toList)) = false := by
  rw [mkB_toList, E_toList]; rfl
def txsB (ts : List (List UInt8)) : List UInt8 := ts.flatMap txB
theorem txsB_cons (t : List UInt8) (ts : List (List UInt8)) : txsB (t :: ts) = txB t ++ txsB ts := rfl
def rowB (ts : List (List UInt8)) : List UInt8 := intB (ts.length : Int) ++ txsB ts
def shortL (ts : List (List UInt8)) : Prop := ∀ t ∈ ts, t.length ≤ 3000
theorem txsB_len (ts : List (List UInt8)) (h : shortL ts) : (txsB ts).length ≤ 3006 * ts.length := by
  induction ts with
  | nil => simp [txsB]
  | cons t ts ih =>
    have := ih (fun x hx => h x (by simp [hx]))
    have := h t (by simp)
    have := txB_len t
    rw [txsB_cons, List.length_append, List.length_cons]; omega
theorem txsB_one : ∀ (ts us : List (List UInt8)) (p q : List UInt8), shortL ts → shortL us → ts.length = us.length → txsB ts ++ p = txsB us ++ q → ts = us ∧ p = q := by
  intro ts
  induction ts with
  | nil =>
    intro us p q _ _ hl h
    cases us with
    | nil => exact ⟨rfl, by simpa [txsB] using h⟩
    | cons u us => simp at hl
  | cons t ts ih =>
    intro us p q hs hu hl h
    cases us with
    | nil => simp at hl
    | cons u us =>
      rw [txsB_cons, txsB_cons, List.append_assoc, List.append_assoc] at h
      have ht := hs t (by simp)
      have b : TxIs (txB u ++ (txsB us ++ q)) t (txsB ts ++ p) 0 := .inl ⟨rfl, ht, h.symm⟩
      obtain ⟨b1, b2, _⟩ := b.back (hu u (by simp))
      obtain ⟨d1, d2⟩ := ih us p q (fun x hx => hs x (by simp [hx])) (fun x hx => hu x (by simp [hx])) (by simpa using hl) b2
      exact ⟨by rw [b1, d1], d2⟩

/-- A row's rounds: all texts, or one that is none. -/
theorem Row_l (r2 : Int × (ByteArray × (Int × Unit))) (hm : r2.1 ≤ 100) (d : Nat) : ∀ (i : Nat) (l : List UInt8) (acc : List ByteArray), (i : Int) + d = r2.1 → acc.length = i → l.length ≤ 1000000 →
    (∃ ts l', ts.length = d ∧ shortL ts ∧ l = txsB ts ++ l' ∧ Ev (fun k => frame_GetRow_l2 r2 k (acc, (i : Int), 0, mkB l, ())) (.exit 0, acc ++ ts.map mkB, r2.1, 0, mkB l', ()) ∧
      Ev (fun k => ref03_GetRow_l1 r2 k (0, [], EB, 0, acc, mkB l, (i : Int), ())) (.exit 0, 0, [], EB, 0, acc ++ ts.map mkB, mkB l', r2.1, ())) ∨
    (∃ lst e l' u v w, e ≠ 0 ∧ Ev (fun k => frame_GetRow_l2 r2 k (acc, (i : Int), 0, mkB l, ())) (.exit 0, lst, r2.1, e, l', ()) ∧
      Ev (fun k => ref03_GetRow_l1 r2 k (0, [], EB, 0, acc, mkB l, (i : Int), ())) (.ret, 0, [], EB, 20, u, v, w, ()) ∧ ∀ ts q, ts.length = d → shortL ts → l ≠ txsB ts ++ q) := by
  -- behind an error nothing is read any more
  have dull : ∀ (e : Int), e ≠ 0 → ∀ (b : ByteArray) (d i : Nat) (acc : List ByteArray), (i : Int) + d = r2.1 → acc.length = i → ∃ lst, Ev (fun k => frame_GetRow_l2 r2 k (acc, (i : Int), e, b, ())) (.exit 0, lst, r2.1, e, b, ()) := by
    intro e he b d
    induction d with
    | zero =>
      intro i acc hi _
      refine ⟨acc, Ev.step (Ev.df (by show ¬ (i : Int) < r2.1; omega) ?_)⟩
      rw [show r2.1 = (i : Int) by omega]
      exact Ev.now _
    | succ d ih =>
      intro i acc hi ha
      obtain ⟨lst, h⟩ := ih (i + 1) (acc ++ [EB]) (by omega) (by simp [ha])
      rw [← wrap_succ (by omega)] at h
      exact ⟨lst, Ev.step (Ev.dt (by show (i : Int) < r2.1; omega) (Ev.f (bne_i he) (Ev.dt (by show (acc.length + [EB].length) * 16 ≤ 140737488355328; simp; omega) h)))⟩
  induction d with
  | zero =>
    intro i l acc hi ha hl
    refine .inl ⟨[], l, rfl, fun t h => by simp at h, by simp [txsB], ?_, ?_⟩
    · refine Ev.step (Ev.df (by show ¬ (i : Int) < r2.1; omega) ?_)
      rw [show r2.1 = (i : Int) by omega, List.map_nil, List.append_nil]
      exact Ev.now _
    · refine Ev.step (Ev.df (by show ¬ (i : Int) < r2.1; omega) ?_)
      rw [show r2.1 = (i : Int) by omega, List.map_nil, List.append_nil]
      exact Ev.now _
  | succ d ih =>
    intro i l acc hi ha hl
    have c0 : (i : Int) < r2.1 := by omega
    have hcap : ∀ t : ByteArray, (acc.length + [t].length) * 16 ≤ 140737488355328 := fun t => by simp; omega
    obtain ⟨t, r, e, h0, h1, h2⟩ := Tx_both l (by omega)
    have hlen := h0.len
    by_cases he : e = 0
    · subst he
      have h0' := h0
      rcases h0 with ⟨_, ht, hl2⟩ | ⟨h, _⟩
      · have go1 : ∀ {R}, Ev (fun k => frame_GetRow_l2 r2 k (acc ++ [mkB t], ((i + 1 : Nat) : Int), 0, mkB r, ())) R → Ev (fun k => frame_GetRow_l2 r2 k (acc, (i : Int), 0, mkB l, ())) R := fun {R} h => by
          rw [← wrap_succ (by omega)] at h
          exact Ev.step (Ev.dt c0 (Ev.t (beq_i rfl) (Ev.bind h1 (Ev.t (beq_i rfl) (Ev.dt (hcap _) h)))))
        have go2 : ∀ {R}, Ev (fun k => ref03_GetRow_l1 r2 k (0, [], EB, 0, acc ++ [mkB t], mkB r, ((i + 1 : Nat) : Int), ())) R → Ev (fun k => ref03_GetRow_l1 r2 k (0, [], EB, 0, acc, mkB l, (i : Int), ())) R := fun {R} h => by
          rw [← wrap_succ (by omega)] at h
          exact Ev.step (Ev.dt c0 (Ev.bind h2 (Ev.f (nbeq_i rfl) (Ev.dt (hcap _) h))))
        rcases ih (i + 1) r (acc ++ [mkB t]) (by omega) (by simp [ha]) (by omega) with ⟨ts, l', k1, k2, k3, k4, k5⟩ | ⟨lst, e, l', u, v, w, k1, k2, k3, k4⟩
        · refine .inl ⟨t :: ts, l', by simp [k1], fun x hx => ?_, by rw [hl2, k3, txsB_cons, List.append_assoc], ?_, ?_⟩
          · rcases List.mem_cons.1 hx with rfl | hx
            · exact ht
            · exact k2 x hx
          · have := go1 k4; simpa using this
          · have := go2 k5; simpa using this
        · refine .inr ⟨lst, e, l', u, v, w, k1, go1 k2, go2 k3, fun ts q hts hsh e2 => ?_⟩
          cases ts with
          | nil => simp at hts
          | cons x ts =>
            rw [txsB_cons, List.append_assoc] at e2
            rw [e2] at h0'
            obtain ⟨b1, b2, _⟩ := h0'.back (hsh x (by simp))
            exact k4 ts q (by simpa using hts) (fun y hy => hsh y (by simp [hy])) b2
      · exact absurd rfl h
    · obtain ⟨lst, hd⟩ := dull e he (mkB l) d (i + 1) (acc ++ [mkB t]) (by omega) (by simp [ha])
      rw [← wrap_succ (by omega)] at hd
      refine .inr ⟨lst, e, mkB l, acc, mkB l, (i : Int), he, Ev.step (Ev.dt c0 (Ev.t (beq_i rfl) (Ev.bind h1 (Ev.f (bne_i he) (Ev.dt (hcap _) hd))))), Ev.step (Ev.dt c0 (Ev.bind h2 (Ev.t (nbne_i he) (Ev.now _)))), fun ts q hts hsh e2 => ?_⟩
      cases ts with
      | nil => simp at hts
      | cons x ts =>
        rw [txsB_cons, List.append_assoc] at e2
        rw [e2] at h0
        obtain ⟨_, _, b3⟩ := h0.back (hsh x (by simp))
        exact he b3
/-- What bytes begin with: a row's frame, or there is none. -/
def RowIs (l : List UInt8) (k : Int) (ts : List (List UInt8)) (rest : List UInt8) (e : Int) : Prop :=
  (e = 0 ∧ 0 ≤ k ∧ k ≤ 99 ∧ ts.length ≤ 100 ∧ shortL ts ∧ (rowB ts).length ≤ 3000 ∧ l = frB k (rowB ts) ++ rest) ∨
  (e ≠ 0 ∧ k = 0 ∧ ts = [] ∧ rest = [] ∧ ∀ k' ts' q, 0 ≤ k' → k' ≤ 99 → ts'.length ≤ 100 → shortL ts' → (rowB ts').length ≤ 3000 → l ≠ frB k' (rowB ts') ++ q)
theorem Row_both (l : List UInt8) (hl : l.length ≤ 1000000) : ∃ k ts rest e, RowIs l k ts rest e ∧ Ev (fun q => frame_GetRow q (mkB l)) (k, ts.map mkB, mkB rest, e, ()) ∧ Ev (fun q => ref03_GetRow q (mkB l)) (k, ts.map mkB, mkB rest, e, ()) := by
  obtain ⟨k, t, rest, e, h0, h1, h2⟩ := Fr_both l hl
  by_cases he : e = 0
  · subst he
    have h0' := h0
    rcases h0 with ⟨_, hk0, hk1, ht, hl2⟩ | ⟨h, _⟩
    · obtain ⟨m, r, f, g0, g1, g2⟩ := Get_both t (by omega)
      have no : ∀ {P : Prop}, (f = 0 → m < 0 ∨ m > 100 ∨ ∀ ts q, (ts.length : Int) = m → shortL ts → r = txsB ts ++ q → q ≠ []) → RowIs l 0 [] [] 20 := fun {_} hb => by
        refine .inr ⟨by decide, rfl, rfl, rfl, fun k' ts' q a1 a2 a3 a4 a5 e => ?_⟩
        rw [e] at h0'
        obtain ⟨_, b2, b3, _⟩ := h0'.back a1 a2 a5
        have g0' := g0
        rw [b2] at g0'
        unfold rowB at g0'
        obtain ⟨d1, d2, d3⟩ := g0'.back (small_ok _ (by omega))
        rcases hb d3 with h | h | h
        · omega
        · omega
        · exact h ts' [] d1.symm a4 (by rw [d2, List.append_nil]) rfl
      by_cases hf : f = 0
      · subst hf
        by_cases m0 : m < 0
        · exact ⟨0, [], [], 20, no (P := True) (fun _ => .inl m0), Ev.bind h1 (Ev.f (nbeq_i rfl) (Ev.bind g1 (Ev.t (beq_i rfl) (Ev.dt m0 (Ev.now _))))), Ev.bind h2 (Ev.f (nbeq_i rfl) (Ev.bind g2 (Ev.f (nbeq_i rfl) (Ev.dt m0 (Ev.now _)))))⟩
        by_cases m1 : m > 100
        · exact ⟨0, [], [], 20, no (P := True) (fun _ => .inr (.inl m1)), Ev.bind h1 (Ev.f (nbeq_i rfl) (Ev.bind g1 (Ev.t (beq_i rfl) (Ev.df m0 (Ev.dt m1 (Ev.now _)))))), Ev.bind h2 (Ev.f (nbeq_i rfl) (Ev.bind g2 (Ev.f (nbeq_i rfl) (Ev.df m0 (Ev.dt m1 (Ev.now _))))))⟩
        have hr := g0.len
        rcases Row_l (m, mkB r, 0, ()) (by show m ≤ 100; omega) m.toNat 0 r [] (by show ((0 : Nat) : Int) + m.toNat = m; omega) rfl (by omega) with ⟨ts, l', a1, a2, a3, a4, a5⟩ | ⟨lst, e, l', u, v, w, a1, a2, a3, a4⟩
        · by_cases hl' : l' = []
          · subst hl'
            have et : t = rowB ts := by
              rcases g0 with ⟨_, _, g0⟩ | ⟨g0, _⟩ | ⟨g0, _⟩
              · unfold rowB; rw [show ((ts.length : Nat) : Int) = m by omega, g0, a3, List.append_nil]
              · omega
              · omega
            refine ⟨k, ts, rest, 0, .inl ⟨rfl, hk0, hk1, by omega, a2, by rw [← et]; exact ht, by rw [← et]; exact hl2⟩, ?_, ?_⟩
            · exact Ev.bind h1 (Ev.f (nbeq_i rfl) (Ev.bind g1 (Ev.t (beq_i rfl) (Ev.df m0 (Ev.df m1 (Ev.bind a4 (Ev.t rfl (Ev.f (nbeq_i rfl) (Ev.f text_eq (Ev.now _))))))))))
            · exact Ev.bind h2 (Ev.f (nbeq_i rfl) (Ev.bind g2 (Ev.f (nbeq_i rfl) (Ev.df m0 (Ev.df m1 (Ev.bind a5 (Ev.t rfl (Ev.f text_eq (Ev.now _)))))))))
          · refine ⟨0, [], [], 20, no (P := True) (fun _ => .inr (.inr (fun us q u1 u2 u3 => ?_))), ?_, ?_⟩
            · rw [a3] at u3
              obtain ⟨_, b2⟩ := txsB_one ts us l' q a2 u2 (by omega) u3
              rw [← b2]; exact hl'
            · exact Ev.bind h1 (Ev.f (nbeq_i rfl) (Ev.bind g1 (Ev.t (beq_i rfl) (Ev.df m0 (Ev.df m1 (Ev.bind a4 (Ev.t rfl (Ev.f (nbeq_i rfl) (Ev.t (text_ne hl') (Ev.now _))))))))))
            · exact Ev.bind h2 (Ev.f (nbeq_i rfl) (Ev.bind g2 (Ev.f (nbeq_i rfl) (Ev.df m0 (Ev.df m1 (Ev.bind a5 (Ev.t rfl (Ev.t (text_ne hl') (Ev.now _)))))))))
        · refine ⟨0, [], [], 20, no (P := True) (fun _ => .inr (.inr (fun us q u1 u2 u3 => absurd u3 (a4 us q (by omega) u2)))), ?_, ?_⟩
          · exact Ev.bind h1 (Ev.f (nbeq_i rfl) (Ev.bind g1 (Ev.t (beq_i rfl) (Ev.df m0 (Ev.df m1 (Ev.bind a2 (Ev.t rfl (Ev.t (nbne_i a1) (Ev.now _)))))))))
          · exact Ev.bind h2 (Ev.f (nbeq_i rfl) (Ev.bind g2 (Ev.f (nbeq_i rfl) (Ev.df m0 (Ev.df m1 (Ev.bind a3 (Ev.now _)))))))
      · have hm : m = 0 := by
          rcases g0 with ⟨g0, _⟩ | ⟨_, g0, _⟩ | ⟨_, g0, _⟩
          · exact absurd g0 hf
          · exact g0
          · exact g0
        subst hm
        refine ⟨0, [], [], 20, no (P := True) (fun h => absurd h hf), ?_, ?_⟩
        · have hl1 : Ev (fun q => frame_GetRow_l1 (0, mkB r, f, ()) q ([], 0, f, mkB t, ())) (.exit 0, [], 0, f, mkB t, ()) := Ev.step (Ev.df (by show ¬ (0 : Int) < 0; omega) (Ev.now _))
          exact Ev.bind h1 (Ev.f (nbeq_i rfl) (Ev.bind g1 (Ev.f (bne_i hf) (Ev.df (by show ¬ (0 : Int) < 0; omega) (Ev.df (by show ¬ (0 : Int) > 100; omega) (Ev.bind hl1 (Ev.t rfl (Ev.t (nbne_i hf) (Ev.now _)))))))))
        · exact Ev.bind h2 (Ev.f (nbeq_i rfl) (Ev.bind g2 (Ev.t (nbne_i hf) (Ev.now _))))
    · exact absurd rfl h
  · rcases h0 with ⟨h, _⟩ | ⟨_, hk, ht, hr, hno⟩
    · exact absurd h he
    · exact ⟨0, [], [], e, .inr ⟨he, rfl, rfl, rfl, fun k' ts' q a1 a2 a3 a4 a5 => hno k' (rowB ts') q a1 a2 a5⟩, Ev.bind h1 (Ev.t (nbne_i he) (Ev.now _)), Ev.bind h2 (Ev.t (nbne_i he) (Ev.now _))⟩
theorem RowIs.back {k : Int} {ts : List (List UInt8)} {q : List UInt8} (h0 : 0 ≤ k) (h1 : k ≤ 99) (h2 : ts.length ≤ 100) (h3 : shortL ts) (h4 : (rowB ts).length ≤ 3000) {k' : Int} {ts' : List (List UInt8)} {q' : List UInt8} {e : Int} (h : RowIs (frB k (rowB ts) ++ q) k' ts' q' e) : k' = k ∧ ts' = ts ∧ q' = q ∧ e = 0 := by
  rcases h with ⟨a0, a1, a2, a3, a4, a5, a6⟩ | ⟨_, _, _, _, h⟩
  · have b : FrIs (frB k (rowB ts) ++ q) k' (rowB ts') q' 0 := .inl ⟨rfl, a1, a2, a5, a6⟩
    obtain ⟨b1, b2, b3, _⟩ := b.back h0 h1 h4
    unfold rowB at b2
    obtain ⟨d1, d2⟩ := intB_one (small_ok _ (by omega)) (small_ok _ (by omega)) b2
    obtain ⟨d3, _⟩ := txsB_one ts' ts [] [] a4 h3 (by omega) (by rw [d2])
    exact ⟨b1, d3, b3, a0⟩
  · exact absurd rfl (h k ts q h0 h1 h2 h3 h4)
/-- What a row is put as. -/
theorem Row_put_l (q : Nat) (ts : List (List UInt8)) : ∀ (b : List UInt8), b.length + 3006 * ts.length ≤ 100000000 →
    frame_Row_l q (ts.map mkB) (mkB b) = some (if ∀ t ∈ ts, t.length ≤ 3000 then (mkB (b ++ txsB ts), 0) else (EB, 2)) := by
  induction ts with
  | nil => intro b _; rw [if_pos (by simp)]; simp [frame_Row_l, txsB]
  | cons t ts ih =>
    intro b hb
    rw [List.length_cons] at hb
    rw [List.map_cons]
    unfold frame_Row_l
    rw [Text_ok]
    unfold TextA
    by_cases h : (t.length : Int) > 3000
    · rw [if_pos h, if_neg (fun hh => by have := hh t (by simp); omega)]; rfl
    · rw [if_neg h]
      have hl := txB_len t
      have hg : (mkB b).size + (mkB (txB t)).size ≤ 100000000 := by rw [mkB_size, mkB_size]; omega
      refine (bif_t hg _ _).trans ?_
      show frame_Row_l q (ts.map mkB) (mkB b ++ mkB (txB t)) = _
      rw [mkB_append, ih (b ++ txB t) (by rw [List.length_append]; omega), txsB_cons, List.append_assoc]
      have e : (∀ x ∈ ts, x.length ≤ 3000) ↔ ∀ x ∈ t :: ts, x.length ≤ 3000 := by
        constructor
        · intro h2 x hx
          rcases List.mem_cons.1 hx with rfl | hx
          · omega
          · exact h2 x hx
        · intro h2 x hx; exact h2 x (by simp [hx])
      by_cases h3 : ∀ x ∈ ts, x.length ≤ 3000
      · rw [if_pos h3, if_pos (e.1 h3)]
      · rw [if_neg h3, if_neg (fun h4 => h3 (e.2 h4))]
def RowA (k : Int) (ts : List (List UInt8)) : ByteArray × Int × Unit :=
  if k < 0 ∨ k > 99 then (EB, 1, ()) else if ts.length > 100 then (EB, 2, ()) else if ∀ t ∈ ts, t.length ≤ 3000 then PutA k (rowB ts) else (EB, 2, ())
theorem Row_ok (q : Nat) (k : Int) (ts : List (List UInt8)) : frame_Row q k (ts.map mkB) = some (RowA k ts) := by
  unfold frame_Row RowA
  by_cases h0 : k < 0
  · rw [bif_t h0, if_pos (.inl h0)]
  · by_cases h1 : k > 99
    · rw [bif_f h0, bif_t h1, if_pos (.inr h1)]
    · rw [bif_f h0, bif_f h1, if_neg (by omega), List.length_map]
      by_cases h2 : (ts.length : Int) > 100
      · rw [bif_t h2, if_pos (by omega)]
      · rw [bif_f h2, if_neg (by omega), Int_ok, IntA_ok (small_ok _ (by omega))]
        have hl := intB_len (ts.length : Int)
        have hg : (mkB (intB (ts.length : Int))).size ≤ 100000000 := by rw [mkB_size]; omega
        refine (bif_t hg _ _).trans ?_
        show (frame_Row_l q (ts.map mkB) (mkB (intB (ts.length : Int)))).bind _ = _
        rw [Row_put_l q ts _ (by omega)]
        by_cases h3 : ∀ t ∈ ts, t.length ≤ 3000
        · rw [if_pos h3, if_pos h3]
          show frame_Put q k (mkB (rowB ts)) = _
          rw [Put_ok]
        · rw [if_neg h3, if_neg h3]; rfl
end Go.Proofs.Ythgeadmcliiaoaa.A
