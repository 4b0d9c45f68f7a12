/- Texts with their length ahead, and frames: what is laid, and what bytes begin with. -/
import Derived.Test.YtoeikeabbdnkbaaAWireRef
import Derived.Test.YtoeikeabbdnkbaaASumRef
namespace Go.Proofs.Ytoeikeabbdnkbaa.A
open Go Go.Proofs.Ytoeikeabbdnkbaa.Ab
set_option linter.unusedVariables false
set_option linter.unusedSimpArgs false

def txB (t : List UInt8) : List UInt8 := intB (t.length : Int) ++ t
theorem small_ok (n : Nat) (h : n ≤ 2000000000) : intOk (n : Int) = true := by rw [intOk_iff]; omega
theorem txB_len (t : List UInt8) : (txB t).length ≤ t.length + 6 := by
  have := intB_len (t.length : Int)
  unfold txB; rw [List.length_append]; omega
theorem len_txB (t : List UInt8) : t.length ≤ (txB t).length := by unfold txB; rw [List.length_append]; omega
def TextA (s : List UInt8) : ByteArray × Int × Unit := if (s.length : Int) > 3000 then (EB, 2, ()) else (mkB (txB s), 0, ())
theorem Text_ok (k : Nat) (s : List UInt8) : wire_Text k (mkB s) = some (TextA s) := by
  unfold wire_Text TextA
  rw [mkB_size]
  by_cases h : (s.length : Int) > 3000
  · rw [bif_t h, if_pos h]
  · rw [bif_f h, if_neg h]
    have hn : intOk (s.length : Int) = true := small_ok _ (by omega)
    rw [Int_ok, IntA_ok hn]
    have := intB_len (s.length : Int)
    have e : (mkB (intB (s.length : Int))).size + s.length ≤ 9223372036854775807 := by rw [mkB_size]; omega
    refine (bif_t e _ _).trans ?_
    show some (mkB (intB (s.length : Int)) ++ mkB s, (0 : Int), ()) = _
    rw [mkB_append]; rfl

/-- A strict beginning of a number's bytes holds no end. -/
theorem cut_intB {n : Int} {p q : List UInt8} (h : p ++ q = intB n) (hq : q ≠ []) : ∀ c ∈ p, c.toNat < 254 := by
  rw [intB_eq] at h
  obtain ⟨q', e, rfl⟩ : ∃ q' e, q = q' ++ [e] := ⟨_, _, (List.dropLast_concat_getLast hq).symm⟩
  rw [← List.append_assoc] at h
  obtain ⟨h1, h2⟩ := List.append_inj' h rfl
  intro c hc
  exact digB_lt (absI n) c (by rw [← h1]; exact List.mem_append_left _ hc)
theorem GetIs.back {n : Int} {rest : List UInt8} (hn : intOk n = true) {m : Int} {q : List UInt8} {e : Int} (h : GetIs (intB n ++ rest) m q e) : m = n ∧ q = rest ∧ e = 0 := by
  obtain ⟨h1, h2, h3⟩ := GetIs.one h (.inl ⟨rfl, hn, rfl⟩)
  exact ⟨h1, h2, h3⟩
theorem GetIs.more {l : List UInt8} (hl : ∀ c ∈ l, c.toNat < 254) {m : Int} {q : List UInt8} {e : Int} (h : GetIs l m q e) : m = 0 ∧ q = [] ∧ e = 22 := by
  obtain ⟨h1, h2, h3⟩ := GetIs.one h (.inr (.inl ⟨rfl, rfl, rfl, hl⟩))
  exact ⟨h1, h2, h3⟩
theorem GetIs.len {l : List UInt8} {m : Int} {q : List UInt8} {e : Int} (h : GetIs l m q e) : q.length ≤ l.length := by
  rcases h with ⟨_, _, h⟩ | ⟨_, _, h, _⟩ | ⟨_, _, h, _⟩
  · rw [h, List.length_append]; omega
  · rw [h]; simp
  · rw [h]; simp

/-- What bytes begin with: a text, or why there is none. -/
def TxA (n : Int) (r : List UInt8) (e : Int) : List UInt8 × List UInt8 × Int :=
  if e ≠ 0 then ([], [], e) else if n < 0 ∨ n > 3000 then ([], [], 20) else if n > (r.length : Int) then ([], [], 22) else (r.take n.toNat, r.drop n.toNat, 0)
def TxIs (l t rest : List UInt8) (e : Int) : Prop :=
  (e = 0 ∧ t.length ≤ 3000 ∧ l = txB t ++ rest) ∨ (e ≠ 0 ∧ t = [] ∧ rest = [] ∧ ∀ t' q, t'.length ≤ 3000 → l ≠ txB t' ++ q)
theorem TxA_is {l r : List UInt8} {n e : Int} (h : GetIs l n r e) : TxIs l (TxA n r e).1 (TxA n r e).2.1 (TxA n r e).2.2 := by
  have no : ∀ {f : Int}, f ≠ 0 → (e = 0 → n < 0 ∨ n > 3000 ∨ n > (r.length : Int)) → TxIs l [] [] f := fun hf hb => by
    refine .inr ⟨hf, rfl, rfl, fun t' q ht e2 => ?_⟩
    have h2 : l = intB (t'.length : Int) ++ (t' ++ q) := by rw [e2]; unfold txB; rw [List.append_assoc]
    rw [h2] at h
    obtain ⟨h3, h4, h5⟩ := h.back (small_ok _ (by omega))
    have h6 := hb h5
    rw [h3, h4, List.length_append] at h6
    omega
  unfold TxA
  by_cases h0 : e ≠ 0
  · rw [if_pos h0]; exact no h0 (fun h => absurd h h0)
  · rw [if_neg h0]
    have h0 : e = 0 := by omega
    by_cases h1 : n < 0 ∨ n > 3000
    · rw [if_pos h1]; exact no (by decide) (fun _ => by omega)
    · rw [if_neg h1]
      by_cases h2 : n > (r.length : Int)
      · rw [if_pos h2]; exact no (by decide) (fun _ => by omega)
      · rw [if_neg h2]
        have ht : ((r.take n.toNat).length : Int) = n := by rw [List.length_take]; omega
        refine .inl ⟨rfl, by show (r.take n.toNat).length ≤ 3000; omega, ?_⟩
        rcases h with ⟨_, _, h⟩ | ⟨h, _⟩ | ⟨h, _⟩
        · unfold txB; rw [ht, h, List.append_assoc, List.take_append_drop]
        · omega
        · omega
theorem TxIs.len {l t q : List UInt8} {e : Int} (h : TxIs l t q e) : t.length + q.length ≤ l.length := by
  rcases h with ⟨_, _, h⟩ | ⟨_, h1, h, _⟩
  · have := len_txB t; rw [h, List.length_append]; omega
  · rw [h, h1]; simp
theorem TxIs.back {t rest : List UInt8} (ht : t.length ≤ 3000) {u q : List UInt8} {e : Int} (h : TxIs (txB t ++ rest) u q e) : u = t ∧ q = rest ∧ e = 0 := by
  rcases h with ⟨h0, h1, h2⟩ | ⟨_, _, _, h⟩
  · unfold txB at h2
    rw [List.append_assoc, List.append_assoc] at h2
    obtain ⟨h3, h4⟩ := intB_one (small_ok _ (by omega)) (small_ok _ (by omega)) h2
    obtain ⟨h5, h6⟩ := List.append_inj h4 (by omega)
    exact ⟨h5.symm, h6.symm, h0⟩
  · exact absurd rfl (h t rest ht)
theorem TxA_more {t p q : List UInt8} (ht : t.length ≤ 3000) (h : p ++ q = txB t) (hq : q ≠ []) {n e : Int} {r : List UInt8} (hg : GetIs p n r e) : TxA n r e = ([], [], 22) := by
  unfold txB at h
  by_cases hl : p.length < (intB (t.length : Int)).length
  · obtain ⟨q', h1, h2⟩ : ∃ q', p ++ q' = intB (t.length : Int) ∧ q' ≠ [] := by
      rcases List.append_eq_append_iff.1 h with ⟨x, h1, h2⟩ | ⟨x, h1, h2⟩
      · exact ⟨x, h1.symm, fun e => by rw [h1, e] at hl; simp at hl⟩
      · rw [h1, List.length_append] at hl; omega
    obtain ⟨h3, h4, h5⟩ := hg.more (cut_intB h1 h2)
    unfold TxA; rw [if_pos (by omega), h5]
  · obtain ⟨x, h1, h2⟩ : ∃ x, p = intB (t.length : Int) ++ x ∧ t = x ++ q := by
      rcases List.append_eq_append_iff.1 h with ⟨x, h1, h2⟩ | ⟨x, h1, h2⟩
      · have : x = [] := by
          have := congrArg List.length h1
          rw [List.length_append] at this
          exact List.length_eq_zero_iff.1 (by omega)
        subst this
        exact ⟨[], by rw [List.append_nil] at h1 ⊢; exact h1.symm, by simpa using h2.symm⟩
      · exact ⟨x, h1, h2⟩
    rw [h1] at hg
    obtain ⟨h3, h4, h5⟩ := hg.back (small_ok _ (by omega))
    have hq2 : 0 < q.length := List.length_pos_iff.2 hq
    have ht2 : t.length = x.length + q.length := by rw [h2, List.length_append]
    unfold TxA
    rw [if_neg (by omega), if_neg (by omega), if_pos (by rw [h3, h4]; omega)]

theorem wire_GetText_of {l r : List UInt8} {n e : Int} (h : Ev (fun k => wire_GetInt k (mkB l)) (n, mkB r, e, ())) : Ev (fun k => wire_GetText k (mkB l)) (mkB (TxA n r e).1, mkB (TxA n r e).2.1, (TxA n r e).2.2, ()) := by
  unfold TxA
  refine Ev.bind h ?_
  by_cases h0 : e ≠ 0
  · rw [if_pos h0]; exact Ev.t (nbne_i h0) (Ev.now _)
  · rw [if_neg h0]
    refine Ev.f (nbeq_i (show e = 0 by omega)) ?_
    by_cases h1 : n < 0
    · rw [if_pos (.inl h1)]; exact Ev.dt h1 (Ev.now _)
    · by_cases h2 : n > 3000
      · rw [if_pos (.inr h2)]; exact Ev.df h1 (Ev.dt h2 (Ev.now _))
      · rw [if_neg (by omega)]
        have hsz := mkB_size r
        by_cases h3 : n > (r.length : Int)
        · rw [if_pos h3]; exact Ev.df h1 (Ev.df h2 (Ev.dt (by show n > ((mkB r).size : Int); omega) (Ev.now _)))
        · rw [if_neg h3]
          have c0 : (0 : Int) ≤ n := by omega
          have c1 : n ≤ ((mkB r).size : Int) := by omega
          have e1 : mkB (r.take n.toNat) = (mkB r).extract 0 n.toNat := by rw [mkB_extract, List.drop_zero]
          have e2 : mkB (r.drop n.toNat) = (mkB r).extract n.toNat (mkB r).size := by rw [mkB_extract, mkB_size, List.take_length]
          show Ev _ (mkB (r.take n.toNat), mkB (r.drop n.toNat), (0 : Int), ())
          rw [e1, e2]
          exact Ev.df h1 (Ev.df h2 (Ev.df (by show ¬ n > ((mkB r).size : Int); omega) (Ev.dt c0 (Ev.dt c1 (Ev.dt c0 (Ev.dt c1 (Ev.now _)))))))

theorem ref01_GetText_of {l r : List UInt8} {n e : Int} (h : Ev (fun k => ref01_GetInt k (mkB l)) (n, mkB r, e, ())) : Ev (fun k => ref01_GetText k (mkB l)) (mkB (TxA n r e).1, mkB (TxA n r e).2.1, (TxA n r e).2.2, ()) := by
  unfold TxA
  refine Ev.bind h ?_
  by_cases h0 : e ≠ 0
  · rw [if_pos h0]; exact Ev.t (nbne_i h0) (Ev.now _)
  · rw [if_neg h0]
    refine Ev.f (nbeq_i (show e = 0 by omega)) ?_
    by_cases h1 : n < 0
    · rw [if_pos (.inl h1)]; exact Ev.dt h1 (Ev.now _)
    · by_cases h2 : n > 3000
      · rw [if_pos (.inr h2)]; exact Ev.df h1 (Ev.dt h2 (Ev.now _))
      · rw [if_neg (by omega)]
        have hsz := mkB_size r
        by_cases h3 : n > (r.length : Int)
        · rw [if_pos h3]; exact Ev.df h1 (Ev.df h2 (Ev.dt (by show n > ((mkB r).size : Int); omega) (Ev.now _)))
        · rw [if_neg h3]
          have c0 : (0 : Int) ≤ n := by omega
          have c1 : n ≤ ((mkB r).size : Int) := by omega
          have e1 : mkB (r.take n.toNat) = (mkB r).extract 0 n.toNat := by rw [mkB_extract, List.drop_zero]
          have e2 : mkB (r.drop n.toNat) = (mkB r).extract n.toNat (mkB r).size := by rw [mkB_extract, mkB_size, List.take_length]
          show Ev _ (mkB (r.take n.toNat), mkB (r.drop n.toNat), (0 : Int), ())
          rw [e1, e2]
          exact Ev.df h1 (Ev.df h2 (Ev.df (by show ¬ n > ((mkB r).size : Int); omega) (Ev.dt c0 (Ev.dt c1 (Ev.dt c0 (Ev.dt c1 (Ev.now _)))))))

theorem Tx_both (l : List UInt8) (hs : l.length ≤ 140737488351232) : ∃ t rest e, TxIs l t rest e ∧ Ev (fun k => wire_GetText k (mkB l)) (mkB t, mkB rest, e, ()) ∧ Ev (fun k => ref01_GetText k (mkB l)) (mkB t, mkB rest, e, ()) := by
  obtain ⟨n, r, e, h, h1, h2⟩ := Get_both l hs
  exact ⟨_, _, _, TxA_is h, wire_GetText_of h1, ref01_GetText_of h2⟩
theorem Tx_more {t p q : List UInt8} (ht : t.length ≤ 3000) (h : p ++ q = txB t) (hq : q ≠ []) : Ev (fun k => wire_GetText k (mkB p)) (EB, EB, 22, ()) := by
  have hl := txB_len t
  rw [← h, List.length_append] at hl
  obtain ⟨n, r, e, h0, h1, h2⟩ := Get_both p (by omega)
  have := wire_GetText_of h1
  rw [TxA_more ht h hq h0] at this
  exact this
end Go.Proofs.Ytoeikeabbdnkbaa.A
