/- What the printed functions that read wire's numbers and texts, and its reference's, answer. -/
import Derived.Test.YtbfmdedjkmfabaaWireLaw
import Derived.Test.YtbfmdedjkmfabaaQx11
namespace Go.Proofs.Ytbfmdedjkmfabaa.Q
open Go.RowKit Go.Proofs.YtbfmdedjkmfabaaW.PrintWords Go.Proofs.YtbfmdedjkmfabaaW.PrintLast Go.Proofs.YtbfmdedjkmfabaaW.PrintMore
set_option linter.unusedVariables false
set_option linter.unusedSimpArgs false

theorem getD_app (a post : List UInt8) (i : Nat) (h : i < a.length) : ∀ h2 : i < (a ++ post).length, (a ++ post)[i] = a[i] := fun h2 => List.getElem_append_left h
theorem bt_app (a post : List UInt8) (i : Nat) (h : i < a.length) : bt (mkB (a ++ post)) (i : Int) = ((a[i]).toNat : Int) := by
  have h2 : i < (a ++ post).length := by rw [List.length_append]; omega
  rw [bt_mk _ i h2, getD_app a post i h h2]
theorem bt_mid (a r : List UInt8) (c : UInt8) : bt (mkB (a ++ c :: r)) (a.length : Int) = (c.toNat : Int) := by
  rw [bt_mk _ a.length (by simp)]
  simp

/-- Digits that a number's own bytes can't have. -/
theorem bad_digits {a : List UInt8} {c : UInt8} {r : List UInt8} (ha : ∀ x ∈ a, x.toNat < 254) (hc : 254 ≤ c.toNat) (h : ¬ (canonB a ∧ a.length ≤ 5)) : GetIs (a ++ c :: r) 0 [] 20 :=
  GetIs.bad ha hc (fun m hm e1 e2 => h (by
    have hb := absI_bd hm
    have hk := digB_canon (absI m) hb.1 (by omega)
    rw [e1] at hk
    refine ⟨hk, ?_⟩
    rw [← e1]
    unfold digB
    rw [List.length_map]
    exact (digsF_bd 5 (absI m)).1))
theorem bad_value {a : List UInt8} {c : UInt8} {r : List UInt8} (ha : ∀ x ∈ a, x.toNat < 254) (hc : 254 ≤ c.toNat) (h : 2147483647 < valB a ∨ (c = 254 ∧ valB a = 0)) : GetIs (a ++ c :: r) 0 [] 20 :=
  GetIs.bad ha hc (fun m hm e1 e2 => by
    have hb := absI_bd hm
    have hv := digB_val (absI m) hb.1 (by omega)
    rw [e1] at hv
    rcases h with h | ⟨rfl, h⟩
    · omega
    · unfold endB at e2
      unfold absI at hv
      split at e2
      · rw [if_pos (by assumption)] at hv; omega
      · exact absurd e2 (by decide))

theorem get_l0_to {l a post : List UInt8} (hl : l = a ++ post) (hs : l.length ≤ 140737488351232) (ha : ∀ x ∈ a, x.toNat < 254) {R : Int × ByteArray × Int} (d : Nat) : ∀ i : Nat, i + d = a.length →
    Ev (fun k => wire_GetInt.l0 k (mkB l) (-1) (l.length : Int) (a.length : Int)) R → Ev (fun k => wire_GetInt.l0 k (mkB l) (-1) (l.length : Int) (i : Int)) R := by
  have hle : a.length ≤ l.length := by rw [hl, List.length_append]; omega
  induction d with
  | zero => intro i hi h; rw [show i = a.length by omega]; exact h
  | succ d ih =>
    intro i hi h
    refine Ev.step (fun k => ?_) (ih (i + 1) (by omega) h)
    have hlt : i < a.length := by omega
    have hb : bt (mkB l) (i : Int) = ((a[i]).toNat : Int) := by rw [hl]; exact bt_app a post i hlt
    have := ha a[i] (List.getElem_mem hlt)
    rw [wire_GetInt.l0, if_pos (by omega), if_pos (by omega), if_pos (by rw [mkB_size]; omega), hb, if_neg (by omega), wrap64_succ (by omega)]

theorem get_l1 {a r : List UInt8} {c : UInt8} (hs : (a ++ c :: r).length ≤ 140737488351232) (ha : ∀ x ∈ a, x.toNat < 254) (hc : 254 ≤ c.toNat) (hl5 : a.length ≤ 5) (j : Nat) : j ≤ a.length → canonB (a.drop j) →
    ∃ n rest e, GetIs (a ++ c :: r) n rest e ∧ Ev (fun k => wire_GetInt.l1 k (mkB (a ++ c :: r)) (a.length : Int) (valB (a.drop j)) ((j : Int) - 1)) (n, mkB rest, e) := by
  have hlen : (a ++ c :: r).length = a.length + 1 + r.length := by simp; omega
  have w1 : wrap64 ((a.length : Int) + 1) = ((a.length + 1 : Nat) : Int) := wrap64_succ (by omega)
  have w2 : wrap64 ((a.length : Int) - 1) = (a.length : Int) - 1 := wrap64_id (by omega) (by omega)
  have hbc := bt_mid a r c
  have hrest : (mkB (a ++ c :: r)).extract (a.length + 1) (a ++ c :: r).length = mkB r := by
    rw [mkB_extract, List.take_length]
    congr 1
    rw [show a ++ c :: r = (a ++ [c]) ++ r by simp, List.drop_append_of_le_length (by simp)]
    simp
  have yes : Ev (fun k => wire_GetInt.j3 k (mkB (a ++ c :: r)) (a.length : Int) (valB a) true) ((0 : Int), mkB [], (20 : Int)) := by
    refine Ev.step (fun k => ?_) (Ev.now _)
    rw [wire_GetInt.j3, if_pos rfl]; rfl
  induction j with
  | zero =>
    intro _ hk
    rw [List.drop_zero] at hk ⊢
    have hvl := valB_lt a hk.1
    have hnn := valB_nonneg a
    by_cases hv : valB a > 2147483647
    · refine ⟨0, [], 20, bad_value ha hc (.inl hv), Ev.step (fun k => ?_) yes⟩
      rw [wire_GetInt.l1, if_neg (by omega), if_pos hv]
    · have go : ∀ b : Bool, (Ev (fun k => wire_GetInt.j3 k (mkB (a ++ c :: r)) (a.length : Int) (valB a) false) (if c = 254 then -valB a else valB a, mkB r, (0 : Int))) := fun b => by
        refine Ev.step (fun k => ?_) (Ev.now _)
        rw [wire_GetInt.j3, if_neg (by simp), if_pos (by omega), if_pos (by rw [mkB_size]; omega), hbc]
        by_cases h4 : c = 254
        · rw [if_pos (by rw [h4]; rfl), w1, if_pos (by omega), if_pos (by rw [mkB_size]; omega), wrap64_id (by omega) (by omega), if_pos h4, mkB_size, Int.toNat_natCast, hrest]
        · have h5 : ¬ ((c.toNat : Int) = 254) := fun e => h4 (UInt8.toNat_inj.1 (by simpa using (show c.toNat = 254 by omega)))
          rw [if_neg h5, w1, if_pos (by omega), if_pos (by rw [mkB_size]; omega), if_neg h4, mkB_size, Int.toNat_natCast, hrest]
      by_cases h4 : c = 254
      · by_cases h0 : valB a = 0
        · refine ⟨0, [], 20, bad_value ha hc (.inr ⟨h4, h0⟩), Ev.step (fun k => ?_) yes⟩
          rw [wire_GetInt.l1, if_neg (by omega), if_neg hv, if_pos (by omega), if_pos (by rw [mkB_size]; omega), hbc, if_pos (by rw [h4]; rfl), h0]
          rfl
        · refine ⟨_, r, 0, GetIs.good hc hk hl5 (by omega) (fun h => h0 h.2), Ev.step (fun k => ?_) (go true)⟩
          rw [wire_GetInt.l1, if_neg (by omega), if_neg hv, if_pos (by omega), if_pos (by rw [mkB_size]; omega), hbc, if_pos (by rw [h4]; rfl), beq_eq_false_iff_ne.2 h0]
      · have h5 : ¬ ((c.toNat : Int) = 254) := fun e => h4 (UInt8.toNat_inj.1 (by simpa using (show c.toNat = 254 by omega)))
        refine ⟨_, r, 0, GetIs.good hc hk hl5 (by omega) (fun h => h4 h.1), Ev.step (fun k => ?_) (go true)⟩
        rw [wire_GetInt.l1, if_neg (by omega), if_neg hv, if_pos (by omega), if_pos (by rw [mkB_size]; omega), hbc, if_neg h5]
  | succ j ih =>
    intro hj hk
    have hlt : j < a.length := by omega
    have hb : bt (mkB (a ++ c :: r)) (j : Int) = ((a[j]).toNat : Int) := bt_app a (c :: r) j hlt
    have hd : a.drop j = a[j] :: a.drop (j + 1) := List.drop_eq_getElem_cons hlt
    have hvl := valB_lt _ hk.1
    have hnn := valB_nonneg (a.drop (j + 1))
    have hpw : (250 : Int) ^ (a.drop (j + 1)).length ≤ 250 ^ 5 := by
      have : (a.drop (j + 1)).length ≤ 5 := by rw [List.length_drop]; omega
      rcases (show (a.drop (j + 1)).length = 0 ∨ (a.drop (j + 1)).length = 1 ∨ (a.drop (j + 1)).length = 2 ∨ (a.drop (j + 1)).length = 3 ∨ (a.drop (j + 1)).length = 4 ∨ (a.drop (j + 1)).length = 5 by omega) with e | e | e | e | e | e <;> rw [e] <;> decide
    have hv2 : valB (a.drop (j + 1)) < 976562500000 := Int.lt_of_lt_of_le hvl hpw
    have hx8 : ((j + 1 : Nat) : Int) - 1 = (j : Int) := by omega
    have hlow := (a[j]).toNat_lt
    by_cases h1 : 250 ≤ (a[j]).toNat
    · refine ⟨0, [], 20, bad_digits ha hc (fun h => ?_), Ev.step (fun k => ?_) (Ev.now _)⟩
      · have := h.1.1 a[j] (List.getElem_mem hlt); omega
      · rw [hx8, wire_GetInt.l1, if_pos (by omega), if_pos (by omega), if_pos (by rw [mkB_size]; omega), hb, if_pos (by omega)]; rfl
    · by_cases h2 : j + 1 = a.length ∧ (a[j]).toNat = 0
      · refine ⟨0, [], 20, bad_digits ha hc (fun h => ?_), Ev.step (fun k => ?_) (Ev.now _)⟩
        · have h3 := h.1.2
          have e : a.getLast? = some a[j] := by
            rw [List.getLast?_eq_getElem?, List.getElem?_eq_getElem (by omega)]
            congr 2; omega
          rw [e] at h3
          exact h3 (by rw [show a[j] = 0 from UInt8.toNat_inj.1 (by simpa using h2.2)])
        · rw [hx8, wire_GetInt.l1, if_pos (by omega), if_pos (by omega), if_pos (by rw [mkB_size]; omega), hb, if_neg (by omega), w2, if_pos (by omega), if_pos (by omega)]; rfl
      · have hk2 : canonB (a.drop j) := by
          rw [hd]
          refine ⟨fun x hx => ?_, ?_⟩
          · rcases List.mem_cons.1 hx with rfl | hx
            · omega
            · exact hk.1 x hx
          · by_cases e : j + 1 = a.length
            · rw [List.drop_of_length_le (by omega)]
              simp only [List.getLast?_singleton, ne_eq, Option.some.injEq]
              intro e2
              exact h2 ⟨e, by rw [e2]; rfl⟩
            · cases hc2 : a.drop (j + 1) with
              | nil => have : (a.drop (j + 1)).length = 0 := by rw [hc2]; rfl
                       rw [List.length_drop] at this; omega
              | cons y ys =>
                rw [List.getLast?_cons_cons, ← hc2]
                exact hk.2
        obtain ⟨n, rest, e, hg, he⟩ := ih (by omega) hk2
        refine ⟨n, rest, e, hg, Ev.step (fun k => ?_) he⟩
        have hval : wrap64 (wrap64 (valB (a.drop (j + 1)) * 250) + wrap64 ((a[j]).toNat : Int)) = valB (a.drop j) := by
          rw [hd]
          simp only [valB]
          rw [wrap64_id (n := valB (a.drop (j + 1)) * 250) (by omega) (by omega), wrap64_id (n := ((a[j]).toNat : Int)) (by omega) (by omega), wrap64_id (by omega) (by omega)]
          omega
        rw [hx8, wire_GetInt.l1, if_pos (by omega), if_pos (by omega), if_pos (by rw [mkB_size]; omega), hb, if_neg (by omega), hval, w2, wrap64_id (by omega) (by omega)]
        by_cases h3 : (j : Int) = (a.length : Int) - 1
        · rw [if_pos h3, if_neg (fun e => h2 ⟨by omega, by omega⟩)]
        · rw [if_neg h3]

theorem GetInt_ok (l : List UInt8) (hs : l.length ≤ 140737488351232) : ∃ n rest e, GetIs l n rest e ∧ Ev (fun k => wire_GetInt.f k (mkB l)) (n, mkB rest, e) := by
  rcases part_of l with h | ⟨a, c, r, rfl, ha, hc⟩
  · refine ⟨0, [], 22, .inr (.inl ⟨rfl, rfl, rfl, h⟩), ?_⟩
    have h1 : Ev (fun k => wire_GetInt.l0 k (mkB l) (-1) (l.length : Int) (l.length : Int)) ((0 : Int), mkB [], (22 : Int)) := by
      refine Ev.step (f := fun k => wire_GetInt.j1 k (mkB l) (-1)) (fun k => ?_) (Ev.step (fun k => ?_) (Ev.now _))
      · rw [wire_GetInt.l0, if_neg (by omega)]
      · rw [wire_GetInt.j1, if_pos (by omega)]; rfl
    refine Ev.congr (fun k => ?_) (get_l0_to (l := l) (a := l) (post := []) (by simp) hs h l.length 0 (by omega) h1)
    unfold wire_GetInt.f
    rw [mkB_size]; rfl
  · have hlen : (a ++ c :: r).length = a.length + 1 + r.length := by simp; omega
    have step : ∀ {R}, Ev (fun k => wire_GetInt.j1 k (mkB (a ++ c :: r)) (a.length : Int)) R → Ev (fun k => wire_GetInt.f k (mkB (a ++ c :: r))) R := fun {R} h => by
      refine Ev.congr (fun k => ?_) (get_l0_to (l := a ++ c :: r) (a := a) (post := c :: r) rfl hs ha a.length 0 (by omega) (Ev.step (fun k => ?_) h))
      · unfold wire_GetInt.f
        rw [mkB_size]; rfl
      · rw [wire_GetInt.l0, if_pos (by omega), if_pos (by omega), if_pos (by rw [mkB_size]; omega), bt_mid, if_pos (by omega)]
    by_cases h5 : a.length ≤ 5
    · obtain ⟨n, rest, e, hg, he⟩ := get_l1 hs ha hc h5 a.length (Nat.le_refl _) (by rw [List.drop_length]; exact ⟨fun x hx => by simp at hx, by simp⟩)
      refine ⟨n, rest, e, hg, step (Ev.step (fun k => ?_) he)⟩
      rw [wire_GetInt.j1, if_neg (by omega), if_neg (by omega), List.drop_length, wrap64_id (by omega) (by omega)]
      rfl
    · refine ⟨0, [], 20, bad_digits ha hc (fun h => h5 h.2), step (Ev.step (fun k => ?_) (Ev.now _))⟩
      rw [wire_GetInt.j1, if_neg (by omega), if_pos (by omega)]
      rfl

/-! ### The reference -/
theorem ref_l1 {a r : List UInt8} {c : UInt8} (hs : (a ++ c :: r).length ≤ 140737488351232) (hl5 : a.length ≤ 5) (hsm : smallB a) {R : Int × ByteArray × Int} (j : Nat) : j ≤ a.length →
    Ev (fun k => watchmanref01_GetInt.l1 k (mkB (a ++ c :: r)) (a.length : Int) (valB a) (-1)) R → Ev (fun k => watchmanref01_GetInt.l1 k (mkB (a ++ c :: r)) (a.length : Int) (valB (a.drop j)) ((j : Int) - 1)) R := by
  have hlen : (a ++ c :: r).length = a.length + 1 + r.length := by simp; omega
  induction j with
  | zero => intro _ h; rw [List.drop_zero]; exact h
  | succ j ih =>
    intro hj h
    have hlt : j < a.length := by omega
    have hb : bt (mkB (a ++ c :: r)) (j : Int) = ((a[j]).toNat : Int) := bt_app a (c :: r) j hlt
    have hd : a.drop j = a[j] :: a.drop (j + 1) := List.drop_eq_getElem_cons hlt
    have hsm2 : smallB (a.drop (j + 1)) := fun x hx => hsm x (List.mem_of_mem_drop hx)
    have hvl := valB_lt _ hsm2
    have hnn := valB_nonneg (a.drop (j + 1))
    have hpw : (250 : Int) ^ (a.drop (j + 1)).length ≤ 250 ^ 5 := by
      have : (a.drop (j + 1)).length ≤ 5 := by rw [List.length_drop]; omega
      rcases (show (a.drop (j + 1)).length = 0 ∨ (a.drop (j + 1)).length = 1 ∨ (a.drop (j + 1)).length = 2 ∨ (a.drop (j + 1)).length = 3 ∨ (a.drop (j + 1)).length = 4 ∨ (a.drop (j + 1)).length = 5 by omega) with e | e | e | e | e | e <;> rw [e] <;> decide
    have hv2 : valB (a.drop (j + 1)) < 976562500000 := Int.lt_of_lt_of_le hvl hpw
    have hlow := (a[j]).toNat_lt
    refine Ev.step (fun k => ?_) (ih (by omega) h)
    have hval : wrap64 (wrap64 (250 * valB (a.drop (j + 1))) + wrap64 ((a[j]).toNat : Int)) = valB (a.drop j) := by
      rw [hd]
      simp only [valB]
      rw [wrap64_id (n := 250 * valB (a.drop (j + 1))) (by omega) (by omega), wrap64_id (n := ((a[j]).toNat : Int)) (by omega) (by omega), wrap64_id (by omega) (by omega)]
      omega
    rw [show ((j + 1 : Nat) : Int) - 1 = (j : Int) by omega, watchmanref01_GetInt.l1, if_pos (by omega), if_pos (by omega), if_pos (by rw [mkB_size]; omega), hb, hval, wrap64_id (by omega) (by omega)]

/-- The number of the sign that a last byte tells. -/
theorem sign_of {m : Int} {c : UInt8} {v : Int} (h : endB m = c) (hv : absI m = v) : m = if c = 254 then -v else v := by
  unfold endB at h
  unfold absI at hv
  split at h
  · rw [if_pos (by assumption)] at hv; rw [if_pos h.symm]; omega
  · rw [if_neg (by assumption)] at hv; rw [if_neg (by rw [← h]; decide)]; omega

theorem ref_end {a r : List UInt8} {c : UInt8} (hs : (a ++ c :: r).length ≤ 140737488351232) (ha : ∀ x ∈ a, x.toNat < 254) (hc : 254 ≤ c.toNat) (hl5 : a.length ≤ 5) (hsm : smallB a) :
    ∃ n rest e, GetIs (a ++ c :: r) n rest e ∧ Ev (fun k => watchmanref01_GetInt.l1 k (mkB (a ++ c :: r)) (a.length : Int) (valB a) (-1)) (n, mkB rest, e) := by
  have hlen : (a ++ c :: r).length = a.length + 1 + r.length := by simp; omega
  have w1 : wrap64 ((a.length : Int) + 1) = ((a.length + 1 : Nat) : Int) := wrap64_succ (by omega)
  have hbc := bt_mid a r c
  have hrest : (mkB (a ++ c :: r)).extract (a.length + 1) (a ++ c :: r).length = mkB r := by
    rw [mkB_extract, List.take_length]
    congr 1
    rw [show a ++ c :: r = (a ++ [c]) ++ r by simp, List.drop_append_of_le_length (by simp)]
    simp
  have hhead : ((mkB (a ++ c :: r)).extract 0 (a.length + 1)).toList = a ++ [c] := by
    rw [mkB_extract, mkB_toList, List.drop_zero, show a ++ c :: r = (a ++ [c]) ++ r by simp, List.take_append_of_le_length (by simp), List.take_of_length_le (by simp)]
  have hvl := valB_lt a hsm
  have hnn := valB_nonneg a
  have hpw : (250 : Int) ^ a.length ≤ 250 ^ 5 := by
    rcases (show a.length = 0 ∨ a.length = 1 ∨ a.length = 2 ∨ a.length = 3 ∨ a.length = 4 ∨ a.length = 5 by omega) with e | e | e | e | e | e <;> rw [e] <;> decide
  have hv2 : valB a < 976562500000 := Int.lt_of_lt_of_le hvl hpw
  obtain ⟨n, hn⟩ : ∃ n, (if c = 254 then -valB a else valB a) = n := ⟨_, rfl⟩
  have hwn : wrap64 (-valB a) = -valB a := wrap64_id (by omega) (by omega)
  have hr := refInt_ok n
  have body : ∀ k, watchmanref01_GetInt.l1 (k + 1) (mkB (a ++ c :: r)) (a.length : Int) (valB a) (-1) =
      ((watchmanref01_Int.f k n).bind fun x => if x.2 = 0 then (if x.1.toList = a ++ [c] then some (n, mkB r, (0 : Int)) else some ((0 : Int), (⟨#[]⟩ : ByteArray), (20 : Int))) else some ((0 : Int), (⟨#[]⟩ : ByteArray), (20 : Int))) := by
    intro k
    rw [watchmanref01_GetInt.l1, if_neg (by omega), if_pos (by omega), if_pos (by rw [mkB_size]; omega), hbc, w1]
    by_cases h4 : c = 254
    · rw [if_pos (by rw [h4]; rfl), hwn]
      rw [if_pos h4] at hn
      simp only [if_pos (show (0 : Int) ≤ ((a.length + 1 : Nat) : Int) by omega), if_pos (show ((a.length + 1 : Nat) : Int) ≤ ((a ++ c :: r).length : Int) by omega), Int.toNat_natCast, hhead, mkB_size, hrest, hn]
    · have h5 : ¬ ((c.toNat : Int) = 254) := fun e => h4 (UInt8.toNat_inj.1 (by simpa using (show c.toNat = 254 by omega)))
      rw [if_neg h5]
      rw [if_neg h4] at hn
      simp only [if_pos (show (0 : Int) ≤ ((a.length + 1 : Nat) : Int) by omega), if_pos (show ((a.length + 1 : Nat) : Int) ≤ ((a ++ c :: r).length : Int) by omega), Int.toNat_natCast, hhead, mkB_size, hrest, hn]
  by_cases hok : intOk n = true
  · by_cases he : intB n = a ++ [c]
    · refine ⟨n, r, 0, .inl ⟨rfl, hok, by rw [he]; simp⟩, Ev.step body (Ev.bind (f := fun _ (x : ByteArray × Int) => if x.2 = 0 then (if x.1.toList = a ++ [c] then some (n, mkB r, (0 : Int)) else some ((0 : Int), (⟨#[]⟩ : ByteArray), (20 : Int))) else some ((0 : Int), (⟨#[]⟩ : ByteArray), (20 : Int))) hr (Ev.congr (fun k => ?_) (Ev.now _)))⟩
      unfold IntA
      rw [if_pos hok, if_pos rfl, if_pos (by rw [mkB_toList]; exact he)]
    · refine ⟨0, [], 20, GetIs.bad ha hc (fun m hm e1 e2 => ?_), Ev.step body (Ev.bind (f := fun _ (x : ByteArray × Int) => if x.2 = 0 then (if x.1.toList = a ++ [c] then some (n, mkB r, (0 : Int)) else some ((0 : Int), (⟨#[]⟩ : ByteArray), (20 : Int))) else some ((0 : Int), (⟨#[]⟩ : ByteArray), (20 : Int))) hr (Ev.congr (fun k => ?_) (Ev.now _)))⟩
      · have hb := absI_bd hm
        have hv := digB_val (absI m) hb.1 (by omega)
        rw [e1] at hv
        have hmn : m = n := by rw [← hn]; exact sign_of e2 hv.symm
        exact he (by rw [← hmn, intB_eq, e1, e2])
      · unfold IntA
        rw [if_pos hok, if_pos rfl, if_neg (by rw [mkB_toList]; exact he)]; rfl
  · refine ⟨0, [], 20, GetIs.bad ha hc (fun m hm e1 e2 => ?_), Ev.step body (Ev.bind (f := fun _ (x : ByteArray × Int) => if x.2 = 0 then (if x.1.toList = a ++ [c] then some (n, mkB r, (0 : Int)) else some ((0 : Int), (⟨#[]⟩ : ByteArray), (20 : Int))) else some ((0 : Int), (⟨#[]⟩ : ByteArray), (20 : Int))) hr (Ev.congr (fun k => ?_) (Ev.now _)))⟩
    · have hb := absI_bd hm
      have hv := digB_val (absI m) hb.1 (by omega)
      rw [e1] at hv
      have hmn : m = n := by rw [← hn]; exact sign_of e2 hv.symm
      exact hok (by rw [← hmn]; exact hm)
    · unfold IntA
      rw [if_neg hok, if_neg (by decide)]; rfl

theorem ref_l0_to {l a post : List UInt8} (hl : l = a ++ post) (hs : l.length ≤ 140737488351232) (ha : ∀ x ∈ a, x.toNat < 254) {R : Int × ByteArray × Int} (d : Nat) : ∀ i : Nat, i + d = a.length →
    Ev (fun k => watchmanref01_GetInt.l0 k (mkB l) (a.length : Int) (a.any (fun x => decide (250 ≤ x.toNat)))) R → Ev (fun k => watchmanref01_GetInt.l0 k (mkB l) (i : Int) ((a.take i).any (fun x => decide (250 ≤ x.toNat)))) R := by
  have hle : a.length ≤ l.length := by rw [hl, List.length_append]; omega
  induction d with
  | zero => intro i hi h; rw [show i = a.length by omega, List.take_length]; exact h
  | succ d ih =>
    intro i hi h
    refine Ev.step (fun k => ?_) (ih (i + 1) (by omega) h)
    have hlt : i < a.length := by omega
    have hb : bt (mkB l) (i : Int) = ((a[i]).toNat : Int) := by rw [hl]; exact bt_app a post i hlt
    have h1 := ha a[i] (List.getElem_mem hlt)
    have ht : (a.take (i + 1)).any (fun x => decide (250 ≤ x.toNat)) = ((a.take i).any (fun x => decide (250 ≤ x.toNat)) || decide (250 ≤ (a[i]).toNat)) := by
      rw [List.take_succ_eq_append_getElem hlt, List.any_append]; simp
    rw [watchmanref01_GetInt.l0, if_pos (by rw [mkB_size]; omega), if_pos (by omega), hb, if_pos (by omega), wrap64_succ (by omega), ht]
    cases hx : (a.take i).any (fun x => decide (250 ≤ x.toNat)) with
    | true => rw [if_pos rfl, Bool.true_or]
    | false =>
      rw [if_neg (by simp), Bool.false_or]
      congr 1
      by_cases h2 : 250 ≤ (a[i]).toNat
      · rw [decide_eq_true h2, decide_eq_true (by omega)]
      · rw [decide_eq_false h2, decide_eq_false (by omega)]

theorem refGetInt_ok (l : List UInt8) (hs : l.length ≤ 140737488351232) : ∃ n rest e, GetIs l n rest e ∧ Ev (fun k => watchmanref01_GetInt.f k (mkB l)) (n, mkB rest, e) := by
  rcases part_of l with h | ⟨a, c, r, rfl, ha, hc⟩
  · refine ⟨0, [], 22, .inr (.inl ⟨rfl, rfl, rfl, h⟩), ?_⟩
    have h1 : Ev (fun k => watchmanref01_GetInt.l0 k (mkB l) (l.length : Int) (l.any (fun x => decide (250 ≤ x.toNat)))) ((0 : Int), mkB [], (22 : Int)) := by
      refine Ev.step (f := fun k => watchmanref01_GetInt.j1 k (mkB l) (l.length : Int) (l.any (fun x => decide (250 ≤ x.toNat)))) (fun k => ?_) (Ev.step (fun k => ?_) (Ev.now _))
      · rw [watchmanref01_GetInt.l0, if_neg (by rw [mkB_size]; omega)]
      · rw [watchmanref01_GetInt.j1, if_pos (by rw [mkB_size])]; rfl
    exact Ev.congr (fun k => rfl) (ref_l0_to (l := l) (a := l) (post := []) (by simp) hs h l.length 0 (by omega) h1)
  · have hlen : (a ++ c :: r).length = a.length + 1 + r.length := by simp; omega
    have step : ∀ {R}, Ev (fun k => watchmanref01_GetInt.j1 k (mkB (a ++ c :: r)) (a.length : Int) (a.any (fun x => decide (250 ≤ x.toNat)))) R → Ev (fun k => watchmanref01_GetInt.f k (mkB (a ++ c :: r))) R := fun {R} h => by
      refine Ev.congr (fun k => rfl) (ref_l0_to (l := a ++ c :: r) (a := a) (post := c :: r) rfl hs ha a.length 0 (by omega) (Ev.step (fun k => ?_) h))
      rw [watchmanref01_GetInt.l0, if_pos (by rw [mkB_size]; omega), if_pos (by omega), bt_mid, if_neg (by omega)]
    have j2t : Ev (fun k => watchmanref01_GetInt.j2 k (mkB (a ++ c :: r)) (a.length : Int) true) ((0 : Int), mkB [], (20 : Int)) := by
      refine Ev.step (fun k => ?_) (Ev.now _)
      rw [watchmanref01_GetInt.j2, if_pos rfl]; rfl
    by_cases hsm : smallB a
    · have hany : a.any (fun x => decide (250 ≤ x.toNat)) = false := by
        rw [List.any_eq_false]
        intro x hx
        have := hsm x hx
        simp; omega
      by_cases h5 : a.length ≤ 5
      · obtain ⟨n, rest, e, hg, he⟩ := ref_end (r := r) hs ha hc h5 hsm
        refine ⟨n, rest, e, hg, step (Ev.step (f := fun k => watchmanref01_GetInt.j2 k (mkB (a ++ c :: r)) (a.length : Int) false) (fun k => ?_) (Ev.step (fun k => ?_) (ref_l1 hs h5 hsm a.length (Nat.le_refl _) he)))⟩
        · rw [watchmanref01_GetInt.j1, if_neg (by rw [mkB_size]; omega), hany, if_neg (by simp), decide_eq_false (by omega)]
        · rw [watchmanref01_GetInt.j2, if_neg (by simp), List.drop_length, wrap64_id (by omega) (by omega)]
          rfl
      · refine ⟨0, [], 20, bad_digits ha hc (fun h => h5 h.2), step (Ev.step (fun k => ?_) j2t)⟩
        rw [watchmanref01_GetInt.j1, if_neg (by rw [mkB_size]; omega), hany, if_neg (by simp), decide_eq_true (by omega)]
    · have hany : a.any (fun x => decide (250 ≤ x.toNat)) = true := by
        rw [List.any_eq_true]
        by_cases hx : ∃ x ∈ a, 250 ≤ x.toNat
        · obtain ⟨x, hx, h2⟩ := hx
          exact ⟨x, hx, by simpa using h2⟩
        · exact absurd (fun x hx' => by
            by_cases h3 : x.toNat < 250
            · exact h3
            · exact absurd ⟨x, hx', by omega⟩ hx) hsm
      refine ⟨0, [], 20, bad_digits ha hc (fun h => hsm h.1.1), step (Ev.step (fun k => ?_) j2t)⟩
      rw [watchmanref01_GetInt.j1, if_neg (by rw [mkB_size]; omega), hany, if_pos rfl]
end Go.Proofs.Ytbfmdedjkmfabaa.Q
