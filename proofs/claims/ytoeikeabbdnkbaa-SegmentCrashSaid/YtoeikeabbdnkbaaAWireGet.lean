/- What wire's and its document's functions answer: numbers laid, and read. -/
import Derived.Test.YtoeikeabbdnkbaaFnSegR
import Derived.Test.YtoeikeabbdnkbaaAWireThy
namespace Go.Proofs.Ytoeikeabbdnkbaa.A
open Go Go.Proofs.Ytoeikeabbdnkbaa.Ab
set_option linter.unusedVariables false
set_option linter.unusedSimpArgs false

def IntsA (l : List Int) : ByteArray × Int × Unit := if l.all intOk = true then (mkB (intsB l), 0, ()) else (EB, 1, ())
def IntA (n : Int) : ByteArray × Int × Unit := if intOk n = true then (mkB (intB n), 0, ()) else (EB, 1, ())
theorem Ints_ok (k : Nat) (l : List Int) (h : l.length ≤ 1000000000000) : wire_Ints k l = some (IntsA l) := by
  unfold wire_Ints IntsA
  rw [bif_t h]
  cases l.all intOk <;> rfl
theorem intsB_one (n : Int) : intsB [n] = intB n := by simp [intsB]
theorem IntsA_one (n : Int) : IntsA [n] = IntA n := by
  unfold IntsA IntA
  rw [intsB_one]
  simp only [List.all_cons, List.all_nil, Bool.and_true]
theorem Int_ok (k : Nat) (n : Int) : wire_Int k n = some (IntA n) := by
  unfold wire_Int
  rw [Ints_ok k [n] (by simp), IntsA_one]
  rfl
theorem IntA_ok {n : Int} (h : intOk n = true) : IntA n = (mkB (intB n), 0, ()) := if_pos h
theorem IntA_no {n : Int} (h : ¬ intOk n = true) : IntA n = (EB, 1, ()) := if_neg h

theorem bt_app (a post : List UInt8) (i : Nat) (h : i < a.length) : byteAt (mkB (a ++ post)) (i : Int) = ((a[i]).toNat : Int) := by
  have h2 : i < (a ++ post).length := by rw [List.length_append]; omega
  rw [byteAt_mk _ i h2, List.getElem_append_left h]
theorem bt_mid (a r : List UInt8) (c : UInt8) : byteAt (mkB (a ++ c :: r)) (a.length : Int) = (c.toNat : Int) := by
  rw [byteAt_mk _ a.length (by simp)]
  simp

/-- Digits that a number's own bytes can't have. -/
theorem bad_digits {a : List UInt8} {c : UInt8} {r : List UInt8} (ha : ∀ x ∈ a, x.toNat < 254) (hc : 254 ≤ c.toNat) (h : ¬ (canonB a ∧ a.length ≤ 5)) : GetIs (a ++ c :: r) 0 [] 20 :=
  GetIs.bad ha hc (fun m hm e1 e2 => h (by
    have hb := absI_bd hm
    have hk := digB_canon (absI m) hb.1 (by omega)
    rw [e1] at hk
    refine ⟨hk, ?_⟩
    rw [← e1]
    unfold digB
    rw [List.length_map]
    exact (digsF_bd 5 (absI m)).1))
theorem bad_value {a : List UInt8} {c : UInt8} {r : List UInt8} (ha : ∀ x ∈ a, x.toNat < 254) (hc : 254 ≤ c.toNat) (h : 2147483647 < valB a ∨ (c = 254 ∧ valB a = 0)) : GetIs (a ++ c :: r) 0 [] 20 :=
  GetIs.bad ha hc (fun m hm e1 e2 => by
    have hb := absI_bd hm
    have hv := digB_val (absI m) hb.1 (by omega)
    rw [e1] at hv
    rcases h with h | ⟨rfl, h⟩
    · omega
    · unfold endB at e2
      unfold absI at hv
      split at e2
      · rw [if_pos (by assumption)] at hv; omega
      · exact absurd e2 (by decide))
theorem pow5 (n : Nat) (h : n ≤ 5) : (250 : Int) ^ n ≤ 976562500000 := by
  rcases (show n = 0 ∨ n = 1 ∨ n = 2 ∨ n = 3 ∨ n = 4 ∨ n = 5 by omega) with e | e | e | e | e | e <;> rw [e] <;> decide

/-! ### The program's -/
theorem gi_scan {l a post : List UInt8} (hl : l = a ++ post) (hs : l.length ≤ 140737488351232) (ha : ∀ x ∈ a, x.toNat < 254) {R : AExit × (Int × (Int × Unit))} (d : Nat) : ∀ i : Nat, i + d = a.length →
    Ev (fun k => wire_GetInt_l1 (mkB l) k (-1, (a.length : Int), ())) R → Ev (fun k => wire_GetInt_l1 (mkB l) k (-1, (i : Int), ())) R := by
  have hle : a.length ≤ l.length := by rw [hl, List.length_append]; omega
  induction d with
  | zero => intro i hi h; rw [show i = a.length by omega]; exact h
  | succ d ih =>
    intro i hi h
    have hlt : i < a.length := by omega
    have hb : byteAt (mkB l) (i : Int) = ((a[i]).toNat : Int) := by rw [hl]; exact bt_app a post i hlt
    have := ha a[i] (List.getElem_mem hlt)
    have hsz := mkB_size l
    refine Ev.step ?_
    refine Ev.dt (by show (i : Int) < _; omega) (Ev.dt (by show (0 : Int) ≤ i; omega) (Ev.dt (by show (i : Int) < _; omega) (Ev.df (by show ¬ byteAt (mkB l) (i : Int) ≥ 254; omega) ?_)))
    have h2 := ih (i + 1) (by omega) h
    rw [← wrap_succ (by omega)] at h2
    exact h2
theorem gi_none {l : List UInt8} (hs : l.length ≤ 140737488351232) (ha : ∀ x ∈ l, x.toNat < 254) : Ev (fun k => wire_GetInt_l1 (mkB l) k (-1, 0, ())) (.exit 0, -1, (l.length : Int), ()) := by
  refine gi_scan (l := l) (a := l) (post := []) (by simp) hs ha l.length 0 (by omega) (Ev.step (Ev.df ?_ (Ev.now _)))
  show ¬ (l.length : Int) < _
  rw [mkB_size]; omega
theorem gi_found {a r : List UInt8} {c : UInt8} (hs : (a ++ c :: r).length ≤ 140737488351232) (ha : ∀ x ∈ a, x.toNat < 254) (hc : 254 ≤ c.toNat) : Ev (fun k => wire_GetInt_l1 (mkB (a ++ c :: r)) k (-1, 0, ())) (.exit 0, (a.length : Int), (a.length : Int), ()) := by
  have hlen : (a ++ c :: r).length = a.length + 1 + r.length := by simp; omega
  have hsz := mkB_size (a ++ c :: r)
  have hbc := bt_mid a r c
  refine gi_scan (l := a ++ c :: r) (a := a) (post := c :: r) rfl hs ha a.length 0 (by omega) (Ev.step ?_)
  exact Ev.dt (by show (a.length : Int) < _; omega) (Ev.dt (by show (0 : Int) ≤ a.length; omega) (Ev.dt (by show (a.length : Int) < _; omega) (Ev.dt (by show byteAt _ _ ≥ 254; rw [hbc]; omega) (Ev.now _))))
abbrev gi_r4 (n : Nat) : AExit × (Int × (Int × Unit)) := (.exit 0, (n : Int), (n : Int), ())
theorem gi_digits {a r : List UInt8} {c : UInt8} (hs : (a ++ c :: r).length ≤ 140737488351232) (ha : ∀ x ∈ a, x.toNat < 254) (hc : 254 ≤ c.toNat) (hl5 : a.length ≤ 5) (j : Nat) : j ≤ a.length → canonB (a.drop j) →
    (∃ u v, Ev (fun k => wire_GetInt_l2 (mkB (a ++ c :: r)) (gi_r4 a.length) k (0, EB, 0, valB (a.drop j), (j : Int) - 1, ())) (.ret, 0, EB, 20, u, v, ()) ∧ GetIs (a ++ c :: r) 0 [] 20) ∨
    (Ev (fun k => wire_GetInt_l2 (mkB (a ++ c :: r)) (gi_r4 a.length) k (0, EB, 0, valB (a.drop j), (j : Int) - 1, ())) (.exit 3, 0, EB, 0, valB a, -1, ()) ∧ canonB a) := by
  have hlen : (a ++ c :: r).length = a.length + 1 + r.length := by simp; omega
  have hsz := mkB_size (a ++ c :: r)
  have w2 : IntKind.i64.wrap ((a.length : Int) - 1) = (a.length : Int) - 1 := wrap_id (by omega) (by omega)
  induction j with
  | zero =>
    intro _ hk
    rw [List.drop_zero] at hk ⊢
    exact .inr ⟨Ev.step (Ev.df (by show ¬ ((0 : Nat) : Int) - 1 ≥ 0; omega) (Ev.now _)), hk⟩
  | succ j ih =>
    intro hj hk
    have hlt : j < a.length := by omega
    have hb : byteAt (mkB (a ++ c :: r)) (j : Int) = ((a[j]).toNat : Int) := bt_app a (c :: r) j hlt
    have hd : a.drop j = a[j] :: a.drop (j + 1) := List.drop_eq_getElem_cons hlt
    have hvl := valB_lt _ hk.1
    have hnn := valB_nonneg (a.drop (j + 1))
    have hv2 : valB (a.drop (j + 1)) < 976562500000 := Int.lt_of_lt_of_le hvl (pow5 _ (by rw [List.length_drop]; omega))
    have hx8 : ((j + 1 : Nat) : Int) - 1 = (j : Int) := by omega
    have hlow := (a[j]).toNat_lt
    rw [hx8]
    have c1 : (j : Int) ≥ 0 := by omega
    have c2 : (j : Int) < ((mkB (a ++ c :: r)).size : Int) := by omega
    by_cases h1 : 250 ≤ (a[j]).toNat
    · refine .inl ⟨_, _, Ev.step (Ev.dt c1 (Ev.dt c1 (Ev.dt c2 (Ev.dt (by show byteAt _ _ ≥ 250; rw [hb]; omega) (Ev.now _))))), bad_digits ha hc (fun h => ?_)⟩
      have := h.1.1 a[j] (List.getElem_mem hlt); omega
    · by_cases h2 : j + 1 = a.length ∧ (a[j]).toNat = 0
      · refine .inl ⟨_, _, Ev.step (Ev.dt c1 (Ev.dt c1 (Ev.dt c2 (Ev.df (by show ¬ byteAt _ _ ≥ 250; rw [hb]; omega) (Ev.t (beq_i (by show (j : Int) = IntKind.i64.wrap ((a.length : Int) - 1); rw [w2]; omega)) (Ev.dt c1 (Ev.dt c2 (Ev.t (beq_i (by show byteAt _ _ = 0; rw [hb]; omega)) (Ev.now _))))))))), bad_digits ha hc (fun h => ?_)⟩
        have h3 := h.1.2
        have e : a.getLast? = some a[j] := by
          rw [List.getLast?_eq_getElem?, List.getElem?_eq_getElem (by omega)]
          congr 2; omega
        rw [e] at h3
        exact h3 (by rw [show a[j] = 0 from UInt8.toNat_inj.1 (by simpa using h2.2)])
      · have hk2 : canonB (a.drop j) := by
          rw [hd]
          refine ⟨fun x hx => ?_, ?_⟩
          · rcases List.mem_cons.1 hx with rfl | hx
            · omega
            · exact hk.1 x hx
          · by_cases e : j + 1 = a.length
            · rw [List.drop_of_length_le (by omega)]
              simp only [List.getLast?_singleton, ne_eq, Option.some.injEq]
              intro e2
              exact h2 ⟨e, by rw [e2]; rfl⟩
            · cases hc2 : a.drop (j + 1) with
              | nil => have : (a.drop (j + 1)).length = 0 := by rw [hc2]; rfl
                       rw [List.length_drop] at this; omega
              | cons y ys =>
                rw [List.getLast?_cons_cons, ← hc2]
                exact hk.2
        have hval : IntKind.i64.wrap (IntKind.i64.wrap (valB (a.drop (j + 1)) * 250) + IntKind.i64.wrap (byteAt (mkB (a ++ c :: r)) (j : Int))) = valB (a.drop j) := by
          rw [hd, hb]
          simp only [valB]
          rw [wrap_id (n := valB (a.drop (j + 1)) * 250) (by omega) (by omega), wrap_id (n := ((a[j]).toNat : Int)) (by omega) (by omega), wrap_id (by omega) (by omega)]
          omega
        have w3 : IntKind.i64.wrap ((j : Int) - 1) = (j : Int) - 1 := wrap_id (by omega) (by omega)
        have go : ∀ {R}, Ev (fun k => wire_GetInt_l2 (mkB (a ++ c :: r)) (gi_r4 a.length) k (0, EB, 0, valB (a.drop j), (j : Int) - 1, ())) R → Ev (fun k => wire_GetInt_l2 (mkB (a ++ c :: r)) (gi_r4 a.length) k (0, EB, 0, valB (a.drop (j + 1)), (j : Int), ())) R := by
          intro R hR
          rw [← hval, ← w3] at hR
          refine Ev.step (Ev.dt c1 (Ev.dt c1 (Ev.dt c2 (Ev.df (by show ¬ byteAt _ _ ≥ 250; rw [hb]; omega) ?_))))
          by_cases h3 : (j : Int) = (a.length : Int) - 1
          · exact Ev.t (beq_i (by show (j : Int) = IntKind.i64.wrap ((a.length : Int) - 1); rw [w2]; exact h3)) (Ev.dt c1 (Ev.dt c2 (Ev.f (bne_i (by show ¬ byteAt _ _ = 0; rw [hb]; intro e; exact h2 ⟨by omega, by omega⟩)) (Ev.dt c1 (Ev.dt c2 hR)))))
          · exact Ev.f (bne_i (by show ¬ (j : Int) = IntKind.i64.wrap ((a.length : Int) - 1); rw [w2]; exact h3)) (Ev.dt c1 (Ev.dt c2 hR))
        rcases ih (by omega) hk2 with ⟨u, v, h4, h5⟩ | ⟨h4, h5⟩
        · exact .inl ⟨u, v, go h4, h5⟩
        · exact .inr ⟨go h4, h5⟩
theorem rest_of (a r : List UInt8) (c : UInt8) (hs : (a ++ c :: r).length ≤ 140737488351232) : (mkB (a ++ c :: r)).extract (IntKind.i64.wrap ((a.length : Int) + 1)).toNat (mkB (a ++ c :: r)).size = mkB r := by
  have hlen : (a ++ c :: r).length = a.length + 1 + r.length := by simp; omega
  rw [wrap_succ (by omega), mkB_size, Int.toNat_natCast, mkB_extract, List.take_length]
  congr 1
  rw [show a ++ c :: r = (a ++ [c]) ++ r by simp, List.drop_append_of_le_length (by simp)]
  simp
theorem GetInt_ok (l : List UInt8) (hs : l.length ≤ 140737488351232) : ∃ n rest e, GetIs l n rest e ∧ Ev (fun k => wire_GetInt k (mkB l)) (n, mkB rest, e, ()) := by
  rcases part_of l with h | ⟨a, c, r, rfl, ha, hc⟩
  · exact ⟨0, [], 22, .inr (.inl ⟨rfl, rfl, rfl, h⟩), Ev.bind (gi_none hs h) (Ev.t rfl <| Ev.dt (by show (-1 : Int) < 0; omega) (Ev.now _))⟩
  · have hlen : (a ++ c :: r).length = a.length + 1 + r.length := by simp; omega
    have hsz := mkB_size (a ++ c :: r)
    have hbc := bt_mid a r c
    have hrest := rest_of a r c hs
    by_cases h5 : a.length ≤ 5
    · have d1 : ¬ (a.length : Int) < 0 := by omega
      have d2 : ¬ (a.length : Int) > 5 := by omega
      have c1 : (0 : Int) ≤ (a.length : Int) := by omega
      have c2 : (a.length : Int) < ((mkB (a ++ c :: r)).size : Int) := by omega
      have w1 := wrap_succ (i := a.length) (by omega)
      have w2 : IntKind.i64.wrap ((a.length : Int) - 1) = (a.length : Int) - 1 := wrap_id (by omega) (by omega)
      have c3 : (0 : Int) ≤ IntKind.i64.wrap ((a.length : Int) + 1) := by rw [w1]; omega
      have c4 : IntKind.i64.wrap ((a.length : Int) + 1) ≤ ((mkB (a ++ c :: r)).size : Int) := by rw [w1]; omega
      have hst := gi_digits hs ha hc h5 a.length (Nat.le_refl _) (by rw [List.drop_length]; exact ⟨fun x hx => by simp at hx, by simp⟩)
      rw [List.drop_length, ← w2] at hst
      rcases hst with ⟨u, v, h1, h2⟩ | ⟨h1, h2⟩
      · exact ⟨0, [], 20, h2, Ev.bind (gi_found hs ha hc) (Ev.t rfl <| Ev.df d1 (Ev.df d2 (Ev.bind h1 (Ev.now _))))⟩
      · have hv := valB_lt a h2.1
        have hnn := valB_nonneg a
        have hv2 : valB a < 976562500000 := Int.lt_of_lt_of_le hv (pow5 _ h5)
        by_cases h3 : valB a > 2147483647
        · exact ⟨0, [], 20, bad_value ha hc (.inl h3), Ev.bind (gi_found hs ha hc) (Ev.t rfl <| Ev.df d1 (Ev.df d2 (Ev.bind h1 (Ev.t rfl <| Ev.dt h3 (Ev.now _)))))⟩
        · by_cases h4 : c = 254
          · have e4 : byteAt (mkB (a ++ c :: r)) (a.length : Int) = 254 := by rw [hbc, h4]; rfl
            by_cases h0 : valB a = 0
            · exact ⟨0, [], 20, bad_value ha hc (.inr ⟨h4, h0⟩), Ev.bind (gi_found hs ha hc) (Ev.t rfl <| Ev.df d1 (Ev.df d2 (Ev.bind h1 (Ev.t rfl <| Ev.df h3 (Ev.dt c1 (Ev.dt c2 (Ev.t (beq_i e4) (Ev.t (beq_i h0) (Ev.now _)))))))))⟩
            · refine ⟨_, r, 0, GetIs.good hc h2 h5 (by omega) (fun h => h0 h.2), ?_⟩
              rw [if_pos h4, show -valB a = IntKind.i64.wrap (0 - valB a) by rw [wrap_id (by omega) (by omega)]; omega, ← hrest]
              exact Ev.bind (gi_found hs ha hc) (Ev.t rfl <| Ev.df d1 (Ev.df d2 (Ev.bind h1 (Ev.t rfl <| Ev.df h3 (Ev.dt c1 (Ev.dt c2 (Ev.t (beq_i e4) (Ev.f (bne_i h0) (Ev.dt c1 (Ev.dt c2 (Ev.t (beq_i e4) (Ev.dt c3 (Ev.dt c4 (Ev.now _))))))))))))))
          · have e4 : byteAt (mkB (a ++ c :: r)) (a.length : Int) ≠ 254 := by rw [hbc]; exact fun e => h4 (UInt8.toNat_inj.1 (by simpa using (show c.toNat = 254 by omega)))
            refine ⟨_, r, 0, GetIs.good hc h2 h5 (by omega) (fun h => h4 h.1), ?_⟩
            rw [if_neg h4, ← hrest]
            exact Ev.bind (gi_found hs ha hc) (Ev.t rfl <| Ev.df d1 (Ev.df d2 (Ev.bind h1 (Ev.t rfl <| Ev.df h3 (Ev.dt c1 (Ev.dt c2 (Ev.f (bne_i e4) (Ev.dt c1 (Ev.dt c2 (Ev.f (bne_i e4) (Ev.dt c3 (Ev.dt c4 (Ev.now _)))))))))))))
    · exact ⟨0, [], 20, bad_digits ha hc (fun h => h5 h.2), Ev.bind (gi_found hs ha hc) (Ev.t rfl <| Ev.df (by show ¬ (a.length : Int) < 0; omega) (Ev.dt (by show (a.length : Int) > 5; omega) (Ev.now _)))⟩
end Go.Proofs.Ytoeikeabbdnkbaa.A
