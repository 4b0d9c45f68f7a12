/- What the document's functions on numbers answer: the same. -/
import Derived.Test.YtoeikeabbdnkbaaAWireGet
namespace Go.Proofs.Ytoeikeabbdnkbaa.A
open Go Go.Proofs.Ytoeikeabbdnkbaa.Ab
set_option linter.unusedVariables false
set_option linter.unusedSimpArgs false

theorem wrap8 {n : Int} (h0 : 0 ≤ n) (h1 : n < 256) : IntKind.u8.wrap n = n := by
  have e1 : IntKind.u8.bits = 8 := rfl
  have e2 : IntKind.u8.signed = false := rfl
  unfold IntKind.wrap
  simp only [e1, e2, Bool.false_and, Bool.false_eq_true, if_false]
  omega
theorem ref_digits (f : Nat) : ∀ (n : Int) (acc : List Int), 0 ≤ n → n < 250 ^ f → n ≤ 2147483647 → acc.length + f ≤ 100 →
    Ev (fun k => ref01_Int_l1 k (acc, n, ())) (.exit 0, acc ++ digsF f n, 0, ()) := by
  induction f with
  | zero =>
    intro n acc h0 h1 h2 hl
    simp at h1
    obtain rfl : n = 0 := by omega
    refine Ev.step (Ev.df (by show ¬ (0 : Int) > 0; omega) ?_)
    simp only [digsF, List.append_nil]
    exact Ev.now _
  | succ f ih =>
    intro n acc h0 h1 h2 hl
    rw [Int.pow_succ] at h1
    by_cases hp : 0 < n
    · have hq : Int.tdiv n 250 = n / 250 := Int.tdiv_eq_ediv_of_nonneg h0
      have hr : Int.tmod n 250 = n % 250 := Int.tmod_eq_emod_of_nonneg h0
      have ih := ih (n / 250) (acc ++ [n % 250]) (by omega) (by omega) (by omega) (by simp; omega)
      have e2 : acc ++ digsF (f + 1) n = acc ++ [n % 250] ++ digsF f (n / 250) := by rw [digsF, if_pos hp]; simp
      rw [e2]
      have w1 : IntKind.u8.wrap (Int.tmod n 250) = n % 250 := by rw [hr, wrap8 (by omega) (by omega)]
      have w2 : IntKind.i64.wrap (Int.tdiv n 250) = n / 250 := by rw [hq, wrap_id (by omega) (by omega)]
      rw [← w1, ← w2] at ih
      refine Ev.step (Ev.dt hp (Ev.dt ?_ ?_))
      · show (acc.length + [IntKind.u8.wrap (Int.tmod n 250)].length) * 1 ≤ 140737488355328
        simp; omega
      · rw [← w1, ← w2]; exact ih
    · obtain rfl : n = 0 := by omega
      refine Ev.step (Ev.df (by show ¬ (0 : Int) > 0; omega) ?_)
      simp only [digsF, Int.lt_irrefl, if_false, List.append_nil]
      exact Ev.now _
theorem ref_bytes (f : Nat) (n e : Int) (he : IntKind.u8.wrap e = e) : strOfNums (digsF 5 n ++ [IntKind.u8.wrap e]) = mkB (digB n ++ [UInt8.ofNat e.toNat]) := by
  rw [nums_mk, List.map_append, he]; rfl
theorem refInt_ok (n : Int) : Ev (fun k => ref01_Int k n) (IntA n) := by
  by_cases h1 : n < -2147483647
  · rw [IntA_no (by rw [intOk_iff]; omega)]
    exact Ev.dt h1 (Ev.now _)
  by_cases h2 : n > 2147483647
  · rw [IntA_no (by rw [intOk_iff]; omega)]
    exact Ev.df h1 (Ev.dt h2 (Ev.now _))
  have hok : intOk n = true := by rw [intOk_iff]; omega
  rw [IntA_ok hok]
  by_cases h3 : n < 0
  · have w0 : IntKind.i64.wrap (0 - n) = -n := by rw [wrap_id (by omega) (by omega)]; omega
    have hd := ref_digits 5 (-n) [] (by omega) (by omega) (by omega) (by simp)
    have hlen := (digsF_bd 5 (-n)).1
    refine Ev.df h1 (Ev.df h2 (Ev.dt h3 ?_))
    rw [w0]
    refine Ev.bind (f := fun k => ref01_Int_l1 k ([], -n, ())) hd (Ev.t rfl (Ev.dt ?_ ?_))
    · show (([] ++ digsF 5 (-n) : List Int).length + [IntKind.u8.wrap 254].length) * 1 ≤ 140737488355328
      simp; omega
    · have e1 : mkB (intB n) = strOfNums ([] ++ digsF 5 (-n) ++ [IntKind.u8.wrap 254]) := by
        rw [List.nil_append, ref_bytes 5 _ 254 (by decide)]
        unfold intB digB
        rw [if_pos h3, if_pos h3]; rfl
      rw [e1]
      exact Ev.now _
  · have hd := ref_digits 5 n [] (by omega) (by omega) (by omega) (by simp)
    have hlen := (digsF_bd 5 n).1
    refine Ev.df h1 (Ev.df h2 (Ev.df h3 (Ev.bind hd (Ev.t rfl (Ev.dt ?_ ?_)))))
    · show (([] ++ digsF 5 n : List Int).length + [IntKind.u8.wrap 255].length) * 1 ≤ 140737488355328
      simp; omega
    · have e1 : mkB (intB n) = strOfNums ([] ++ digsF 5 n ++ [IntKind.u8.wrap 255]) := by
        rw [List.nil_append, ref_bytes 5 _ 255 (by decide)]
        unfold intB digB
        rw [if_neg h3, if_neg h3]; rfl
      rw [e1]
      exact Ev.now _

def bigB (a : List UInt8) : Bool := a.any fun x => decide (250 ≤ x.toNat)
theorem rg_scan {l a post : List UInt8} (hl : l = a ++ post) (hs : l.length ≤ 140737488351232) (ha : ∀ x ∈ a, x.toNat < 254) {R : AExit × (Bool × (Int × Unit))} (d : Nat) : ∀ i : Nat, i + d = a.length →
    Ev (fun k => ref01_GetInt_l1 (mkB l) k (bigB a, (a.length : Int), ())) R → Ev (fun k => ref01_GetInt_l1 (mkB l) k (bigB (a.take i), (i : Int), ())) R := by
  have hle : a.length ≤ l.length := by rw [hl, List.length_append]; omega
  induction d with
  | zero => intro i hi h; rw [show i = a.length by omega, List.take_length]; exact h
  | succ d ih =>
    intro i hi h
    have hlt : i < a.length := by omega
    have hb : byteAt (mkB l) (i : Int) = ((a[i]).toNat : Int) := by rw [hl]; exact bt_app a post i hlt
    have := ha a[i] (List.getElem_mem hlt)
    have hsz := mkB_size l
    have h2 := ih (i + 1) (by omega) h
    rw [← wrap_succ (by omega), List.take_succ_eq_append_getElem hlt] at h2
    have e : bigB (a.take i ++ [a[i]]) = (bigB (a.take i) || decide (250 ≤ (a[i]).toNat)) := by unfold bigB; rw [List.any_append]; simp only [List.any_cons, List.any_nil, Bool.or_false]
    rw [e] at h2
    have c1 : (i : Int) < ((mkB l).size : Int) := by omega
    have c0 : (0 : Int) ≤ (i : Int) := by omega
    refine Ev.step (Ev.dt c1 (Ev.dt c0 (Ev.dt c1 (Ev.dt (by show byteAt _ _ < 254; rw [hb]; omega) ?_))))
    cases hbg : bigB (a.take i) with
    | true => rw [hbg, Bool.true_or] at h2; exact Ev.t rfl h2
    | false =>
      rw [hbg, Bool.false_or] at h2
      refine Ev.f rfl (Ev.dt c0 (Ev.dt c1 ?_))
      have e3 : decide (byteAt (mkB l) (i : Int) ≥ 250) = decide (250 ≤ (a[i]).toNat) := by rw [hb, decide_eq_decide]; constructor <;> intro h <;> omega
      rw [← e3] at h2
      exact h2
theorem rg_none {l : List UInt8} (hs : l.length ≤ 140737488351232) (ha : ∀ x ∈ l, x.toNat < 254) : Ev (fun k => ref01_GetInt_l1 (mkB l) k (false, 0, ())) (.exit 0, bigB l, (l.length : Int), ()) := by
  refine rg_scan (l := l) (a := l) (post := []) (by simp) hs ha l.length 0 (by omega) (Ev.step (Ev.df ?_ (Ev.now _)))
  show ¬ (l.length : Int) < _
  rw [mkB_size]; omega
theorem rg_found {a r : List UInt8} {c : UInt8} (hs : (a ++ c :: r).length ≤ 140737488351232) (ha : ∀ x ∈ a, x.toNat < 254) (hc : 254 ≤ c.toNat) : Ev (fun k => ref01_GetInt_l1 (mkB (a ++ c :: r)) k (false, 0, ())) (.exit 0, bigB a, (a.length : Int), ()) := by
  have hlen : (a ++ c :: r).length = a.length + 1 + r.length := by simp; omega
  have hsz := mkB_size (a ++ c :: r)
  have hbc := bt_mid a r c
  refine rg_scan (l := a ++ c :: r) (a := a) (post := c :: r) rfl hs ha a.length 0 (by omega) (Ev.step ?_)
  exact Ev.dt (by show (a.length : Int) < _; omega) (Ev.dt (by show (0 : Int) ≤ a.length; omega) (Ev.dt (by show (a.length : Int) < _; omega) (Ev.df (by show ¬ byteAt _ _ < 254; rw [hbc]; omega) (Ev.now _))))
theorem rg_digits {a r : List UInt8} {c : UInt8} (hs : (a ++ c :: r).length ≤ 140737488351232) (hl5 : a.length ≤ 5) (hsm : smallB a) (j : Nat) : j ≤ a.length →
    Ev (fun k => ref01_GetInt_l2 (mkB (a ++ c :: r)) k (valB (a.drop j), (j : Int) - 1, ())) (.exit 2, valB a, -1, ()) := by
  have hlen : (a ++ c :: r).length = a.length + 1 + r.length := by simp; omega
  have hsz := mkB_size (a ++ c :: r)
  induction j with
  | zero =>
    intro _
    rw [List.drop_zero]
    exact Ev.step (Ev.df (by show ¬ ((0 : Nat) : Int) - 1 ≥ 0; omega) (Ev.now _))
  | succ j ih =>
    intro hj
    have hlt : j < a.length := by omega
    have hb : byteAt (mkB (a ++ c :: r)) (j : Int) = ((a[j]).toNat : Int) := bt_app a (c :: r) j hlt
    have hd : a.drop j = a[j] :: a.drop (j + 1) := List.drop_eq_getElem_cons hlt
    have hsm2 : smallB (a.drop (j + 1)) := fun x hx => hsm x (List.mem_of_mem_drop hx)
    have hvl := valB_lt _ hsm2
    have hnn := valB_nonneg (a.drop (j + 1))
    have hv2 : valB (a.drop (j + 1)) < 976562500000 := Int.lt_of_lt_of_le hvl (pow5 _ (by rw [List.length_drop]; omega))
    have hlow := (a[j]).toNat_lt
    have hval : IntKind.i64.wrap (IntKind.i64.wrap (250 * valB (a.drop (j + 1))) + IntKind.i64.wrap (byteAt (mkB (a ++ c :: r)) (j : Int))) = valB (a.drop j) := by
      rw [hd, hb]
      simp only [valB]
      rw [wrap_id (n := 250 * valB (a.drop (j + 1))) (by omega) (by omega), wrap_id (n := ((a[j]).toNat : Int)) (by omega) (by omega), wrap_id (by omega) (by omega)]
      omega
    have w3 : IntKind.i64.wrap ((j : Int) - 1) = (j : Int) - 1 := wrap_id (by omega) (by omega)
    have h2 := ih (by omega)
    rw [← hval, ← w3] at h2
    rw [show ((j + 1 : Nat) : Int) - 1 = (j : Int) by omega]
    have c0 : (j : Int) ≥ 0 := by omega
    exact Ev.step (Ev.dt c0 (Ev.dt c0 (Ev.dt (by show (j : Int) < _; omega) h2)))
/-- The number of the sign that a last byte tells. -/
theorem sign_of {m : Int} {c : UInt8} {v : Int} (h : endB m = c) (hv : absI m = v) : m = if c = 254 then -v else v := by
  unfold endB at h
  unfold absI at hv
  split at h
  · rw [if_pos (by assumption)] at hv; rw [if_pos h.symm]; omega
  · rw [if_neg (by assumption)] at hv; rw [if_neg (by rw [← h]; decide)]; omega
theorem rg_end {a r : List UInt8} {c : UInt8} (hs : (a ++ c :: r).length ≤ 140737488351232) (ha : ∀ x ∈ a, x.toNat < 254) (hc : 254 ≤ c.toNat) (n : Int) (hn : n = if c = 254 then -valB a else valB a) :
    ∃ rest e m, GetIs (a ++ c :: r) m rest e ∧ Ev (fun k => (ref01_Int k n).bind fun x => bif x.2.1 != 0 then some ((0 : Int), ByteArray.mk #[], (20 : Int), ()) else bif decide (0 ≤ IntKind.i64.wrap ((a.length : Int) + 1)) then bif decide (IntKind.i64.wrap ((a.length : Int) + 1) ≤ ((mkB (a ++ c :: r)).size : Int)) then bif !(x.1.toList == ((mkB (a ++ c :: r)).extract 0 (IntKind.i64.wrap ((a.length : Int) + 1)).toNat).toList) then some ((0 : Int), ByteArray.mk #[], (20 : Int), ()) else bif decide (0 ≤ IntKind.i64.wrap ((a.length : Int) + 1)) then bif decide (IntKind.i64.wrap ((a.length : Int) + 1) ≤ ((mkB (a ++ c :: r)).size : Int)) then some (n, (mkB (a ++ c :: r)).extract (IntKind.i64.wrap ((a.length : Int) + 1)).toNat (mkB (a ++ c :: r)).size, (0 : Int), ()) else none else none else none else none) (m, mkB rest, e, ()) := by
  have hlen : (a ++ c :: r).length = a.length + 1 + r.length := by simp; omega
  have hsz := mkB_size (a ++ c :: r)
  have w1 := wrap_succ (i := a.length) (by omega)
  have c3 : (0 : Int) ≤ IntKind.i64.wrap ((a.length : Int) + 1) := by rw [w1]; omega
  have c4 : IntKind.i64.wrap ((a.length : Int) + 1) ≤ ((mkB (a ++ c :: r)).size : Int) := by rw [w1]; omega
  have hhead : ((mkB (a ++ c :: r)).extract 0 (IntKind.i64.wrap ((a.length : Int) + 1)).toNat).toList = a ++ [c] := by
    rw [w1, Int.toNat_natCast, mkB_extract, mkB_toList, List.drop_zero, show a ++ c :: r = (a ++ [c]) ++ r by simp, List.take_append_of_le_length (by simp), List.take_of_length_le (by simp)]
  have hrest := rest_of a r c hs
  have hr := refInt_ok n
  have own : ∀ m, intOk m = true → digB (absI m) = a → endB m = c → m = n := fun m hm e1 e2 => by
    have hb := absI_bd hm
    have hv := digB_val (absI m) hb.1 (by omega)
    rw [e1] at hv
    rw [hn]; exact sign_of e2 hv.symm
  by_cases hok : intOk n = true
  · rw [IntA_ok hok] at hr
    by_cases he : intB n = a ++ [c]
    · refine ⟨r, 0, n, .inl ⟨rfl, hok, by rw [he]; simp⟩, ?_⟩
      rw [← hrest]
      refine Ev.bind hr (Ev.f rfl (Ev.dt c3 (Ev.dt c4 (Ev.f ?_ (Ev.dt c3 (Ev.dt c4 (Ev.now _)))))))
      rw [hhead, mkB_toList, he]; simp
    · refine ⟨[], 20, 0, GetIs.bad ha hc (fun m hm e1 e2 => ?_), ?_⟩
      · have hmn := own m hm e1 e2
        exact he (by rw [← hmn, intB_eq, e1, e2])
      · refine Ev.bind hr (Ev.f rfl (Ev.dt c3 (Ev.dt c4 (Ev.t ?_ (Ev.now _)))))
        rw [hhead, mkB_toList]; simpa using he
  · rw [IntA_no hok] at hr
    refine ⟨[], 20, 0, GetIs.bad ha hc (fun m hm e1 e2 => ?_), Ev.bind hr (Ev.t rfl (Ev.now _))⟩
    have hmn := own m hm e1 e2
    exact hok (by rw [← hmn]; exact hm)
theorem refGetInt_ok (l : List UInt8) (hs : l.length ≤ 140737488351232) : ∃ n rest e, GetIs l n rest e ∧ Ev (fun k => ref01_GetInt k (mkB l)) (n, mkB rest, e, ()) := by
  have hsz := mkB_size l
  rcases part_of l with h | ⟨a, c, r, rfl, ha, hc⟩
  · exact ⟨0, [], 22, .inr (.inl ⟨rfl, rfl, rfl, h⟩), Ev.bind (rg_none hs h) (Ev.t rfl (Ev.t (beq_i (by show (l.length : Int) = _; omega)) (Ev.now _)))⟩
  · have hlen : (a ++ c :: r).length = a.length + 1 + r.length := by simp; omega
    have hbc := bt_mid a r c
    have d0 : (a.length : Int) ≠ ((mkB (a ++ c :: r)).size : Int) := by omega
    cases hbg : bigB a with
    | true =>
      have hf := rg_found hs ha hc
      rw [hbg] at hf
      refine ⟨0, [], 20, bad_digits ha hc (fun h => ?_), Ev.bind hf (Ev.t rfl (Ev.f (bne_i d0) (Ev.t rfl (Ev.now _))))⟩
      obtain ⟨x, hx, hx2⟩ := List.any_eq_true.1 hbg
      have := h.1.1 x hx
      have := of_decide_eq_true hx2
      omega
    | false =>
      have hf := rg_found hs ha hc
      rw [hbg] at hf
      have hsm : smallB a := fun x hx => by
        have := List.any_eq_false.1 hbg x hx
        simpa using this
      by_cases h5 : a.length ≤ 5
      · have d2 : ¬ (a.length : Int) > 5 := by omega
        have c1 : (0 : Int) ≤ (a.length : Int) := by omega
        have c2 : (a.length : Int) < ((mkB (a ++ c :: r)).size : Int) := by omega
        have w2 : IntKind.i64.wrap ((a.length : Int) - 1) = (a.length : Int) - 1 := wrap_id (by omega) (by omega)
        have h1 := rg_digits (c := c) (r := r) hs h5 hsm a.length (Nat.le_refl _)
        rw [List.drop_length, ← w2] at h1
        have hv := valB_lt a hsm
        have hnn := valB_nonneg a
        have hv2 : valB a < 976562500000 := Int.lt_of_lt_of_le hv (pow5 _ h5)
        by_cases h4 : c = 254
        · have e4 : byteAt (mkB (a ++ c :: r)) (a.length : Int) = 254 := by rw [hbc, h4]; rfl
          obtain ⟨rest, e, m, hg, he⟩ := rg_end hs ha hc (IntKind.i64.wrap (0 - valB a)) (by rw [if_pos h4, wrap_id (by omega) (by omega)]; omega)
          exact ⟨m, rest, e, hg, Ev.bind hf (Ev.t rfl (Ev.f (bne_i d0) (Ev.f rfl (Ev.df d2 (Ev.bind h1 (Ev.t rfl (Ev.dt c1 (Ev.dt c2 (Ev.t (beq_i e4) he)))))))))⟩
        · have e4 : byteAt (mkB (a ++ c :: r)) (a.length : Int) ≠ 254 := by rw [hbc]; exact fun e => h4 (UInt8.toNat_inj.1 (by simpa using (show c.toNat = 254 by omega)))
          obtain ⟨rest, e, m, hg, he⟩ := rg_end hs ha hc (valB a) (by rw [if_neg h4])
          exact ⟨m, rest, e, hg, Ev.bind hf (Ev.t rfl (Ev.f (bne_i d0) (Ev.f rfl (Ev.df d2 (Ev.bind h1 (Ev.t rfl (Ev.dt c1 (Ev.dt c2 (Ev.f (bne_i e4) he)))))))))⟩
      · exact ⟨0, [], 20, bad_digits ha hc (fun h => h5 h.2), Ev.bind hf (Ev.t rfl (Ev.f (bne_i d0) (Ev.f rfl (Ev.dt (by show (a.length : Int) > 5; omega) (Ev.now _)))))⟩
theorem Get_both (l : List UInt8) (hs : l.length ≤ 140737488351232) : ∃ n rest e, GetIs l n rest e ∧ Ev (fun k => wire_GetInt k (mkB l)) (n, mkB rest, e, ()) ∧ Ev (fun k => ref01_GetInt k (mkB l)) (n, mkB rest, e, ()) := by
  obtain ⟨n, r, e, h, h1⟩ := GetInt_ok l hs
  obtain ⟨m, q, f, k, k1⟩ := refGetInt_ok l hs
  obtain ⟨rfl, rfl, rfl⟩ := GetIs.one h k
  exact ⟨n, r, e, h, h1, k1⟩
end Go.Proofs.Ytoeikeabbdnkbaa.A
