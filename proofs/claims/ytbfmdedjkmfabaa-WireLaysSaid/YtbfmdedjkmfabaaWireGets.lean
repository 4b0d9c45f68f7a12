/- What the printed functions that read rows of numbers and texts answer, the program's and the reference's alike. -/
import Derived.Test.YtbfmdedjkmfabaaWireGet
namespace Go.Proofs.Ytbfmdedjkmfabaa.Q
open Go.RowKit Go.Proofs.YtbfmdedjkmfabaaW.PrintWords Go.Proofs.YtbfmdedjkmfabaaW.PrintLast Go.Proofs.YtbfmdedjkmfabaaW.PrintMore
set_option linter.unusedVariables false
set_option linter.unusedSimpArgs false

theorem Get_both (l : List UInt8) (hs : l.length ≤ 140737488351232) : ∃ n rest e, GetIs l n rest e ∧ Ev (fun k => wire_GetInt.f k (mkB l)) (n, mkB rest, e) ∧ Ev (fun k => watchmanref01_GetInt.f k (mkB l)) (n, mkB rest, e) := by
  obtain ⟨n, rest, e, hg, he⟩ := GetInt_ok l hs
  obtain ⟨m, q, f, kg, ke⟩ := refGetInt_ok l hs
  obtain ⟨rfl, rfl, rfl⟩ := GetIs.one hg kg
  exact ⟨n, rest, e, hg, he, ke⟩
theorem Get_back (n : Int) (rest : List UInt8) (hn : intOk n = true) (hs : (intB n ++ rest).length ≤ 140737488351232) : Ev (fun k => wire_GetInt.f k (mkB (intB n ++ rest))) (n, mkB rest, 0) := by
  obtain ⟨m, q, e, hg, he⟩ := GetInt_ok _ hs
  obtain ⟨rfl, rfl, rfl⟩ := GetIs.one hg (.inl ⟨rfl, hn, rfl⟩)
  exact he
theorem intsB_cons (n : Int) (l : List Int) : intsB (n :: l) = intB n ++ intsB l := rfl

/-- What rows of numbers come to. -/
def GetsIs (l : List UInt8) (d : Nat) (acc xs : List Int) (rest : List UInt8) (e : Int) : Prop :=
  (e = 0 ∧ ∃ ys, xs = acc ++ ys ∧ ys.length = d ∧ ys.all intOk = true ∧ l = intsB ys ++ rest) ∨ (e ≠ 0 ∧ xs = [] ∧ rest = [])

theorem Gets_both (many : Int) (hm : many ≤ 100) (d : Nat) : ∀ (i : Nat) (l : List UInt8) (acc : List Int), (i : Int) + d = many → l.length ≤ 140737488351232 → acc.length ≤ i →
    ∃ xs rest e, GetsIs l d acc xs rest e ∧ Ev (fun k => wire_GetInts.l0 k (mkB l) acc many (i : Int)) (xs, mkB rest, e) ∧ Ev (fun k => watchmanref01_GetInts.l0 k (mkB l) many acc (i : Int)) (xs, mkB rest, e) := by
  induction d with
  | zero =>
    intro i l acc hi hs ha
    refine ⟨acc, l, 0, .inl ⟨rfl, [], by simp, rfl, rfl, by simp [intsB]⟩, Ev.step (fun k => ?_) (Ev.now _), Ev.step (fun k => ?_) (Ev.now _)⟩
    · rw [wire_GetInts.l0, if_neg (by omega)]
    · rw [watchmanref01_GetInts.l0, if_neg (by omega)]
  | succ d ih =>
    intro i l acc hi hs ha
    obtain ⟨n, rest, e, hg, he, hr⟩ := Get_both l hs
    have hw := wrap64_succ (i := i) (by omega)
    rcases hg with ⟨rfl, h1, h2⟩ | ⟨rfl, rfl, rfl, h1⟩ | ⟨rfl, rfl, rfl, h1, h2⟩
    · obtain ⟨xs, q, f, hgs, k1, k2⟩ := ih (i + 1) rest (acc ++ [n]) (by omega) (by rw [h2, List.length_append] at hs; omega) (by simp; omega)
      refine ⟨xs, q, f, ?_, Ev.step (fun k => ?_) (Ev.bind (f := fun k (x : Int × ByteArray × Int) => if x.2.2 = 0 then (if acc.length < 17592186044416 then wire_GetInts.l0 k x.2.1 (acc ++ [x.1]) many ((i + 1 : Nat) : Int) else none) else some (([] : List Int), (⟨#[]⟩ : ByteArray), x.2.2)) he (Ev.congr (fun k => ?_) k1)),
        Ev.step (fun k => ?_) (Ev.bind (f := fun k (x : Int × ByteArray × Int) => if x.2.2 = 0 then (if acc.length < 17592186044416 then watchmanref01_GetInts.l0 k x.2.1 many (acc ++ [x.1]) ((i + 1 : Nat) : Int) else none) else some (([] : List Int), (⟨#[]⟩ : ByteArray), x.2.2)) hr (Ev.congr (fun k => ?_) k2))⟩
      · rcases hgs with ⟨rfl, ys, g1, g2, g3, g4⟩ | hgs
        · refine .inl ⟨rfl, n :: ys, by rw [g1]; simp, by simp [g2], by rw [List.all_cons, h1, g3]; rfl, ?_⟩
          rw [h2, g4, intsB_cons, List.append_assoc]
        · exact .inr hgs
      · rw [wire_GetInts.l0, if_pos (by omega), hw]
      · rw [if_pos rfl, if_pos (by omega)]
      · rw [watchmanref01_GetInts.l0, if_pos (by omega), hw]
      · rw [if_pos rfl, if_pos (by omega)]
    · refine ⟨[], [], 22, .inr ⟨by decide, rfl, rfl⟩, Ev.step (fun k => ?_) (Ev.bind (f := fun k (x : Int × ByteArray × Int) => if x.2.2 = 0 then (if acc.length < 17592186044416 then wire_GetInts.l0 k x.2.1 (acc ++ [x.1]) many ((i + 1 : Nat) : Int) else none) else some (([] : List Int), (⟨#[]⟩ : ByteArray), x.2.2)) he (Ev.congr (fun k => ?_) (Ev.now _))),
        Ev.step (fun k => ?_) (Ev.bind (f := fun k (x : Int × ByteArray × Int) => if x.2.2 = 0 then (if acc.length < 17592186044416 then watchmanref01_GetInts.l0 k x.2.1 many (acc ++ [x.1]) ((i + 1 : Nat) : Int) else none) else some (([] : List Int), (⟨#[]⟩ : ByteArray), x.2.2)) hr (Ev.congr (fun k => ?_) (Ev.now _)))⟩
      · rw [wire_GetInts.l0, if_pos (by omega), hw]
      · rw [if_neg (by decide)]; rfl
      · rw [watchmanref01_GetInts.l0, if_pos (by omega), hw]
      · rw [if_neg (by decide)]; rfl
    · refine ⟨[], [], 20, .inr ⟨by decide, rfl, rfl⟩, Ev.step (fun k => ?_) (Ev.bind (f := fun k (x : Int × ByteArray × Int) => if x.2.2 = 0 then (if acc.length < 17592186044416 then wire_GetInts.l0 k x.2.1 (acc ++ [x.1]) many ((i + 1 : Nat) : Int) else none) else some (([] : List Int), (⟨#[]⟩ : ByteArray), x.2.2)) he (Ev.congr (fun k => ?_) (Ev.now _))),
        Ev.step (fun k => ?_) (Ev.bind (f := fun k (x : Int × ByteArray × Int) => if x.2.2 = 0 then (if acc.length < 17592186044416 then watchmanref01_GetInts.l0 k x.2.1 many (acc ++ [x.1]) ((i + 1 : Nat) : Int) else none) else some (([] : List Int), (⟨#[]⟩ : ByteArray), x.2.2)) hr (Ev.congr (fun k => ?_) (Ev.now _)))⟩
      · rw [wire_GetInts.l0, if_pos (by omega), hw]
      · rw [if_neg (by decide)]; rfl
      · rw [watchmanref01_GetInts.l0, if_pos (by omega), hw]
      · rw [if_neg (by decide)]; rfl

theorem GetInts_both (l : List UInt8) (many : Int) (hs : l.length ≤ 140737488351232) :
    ∃ xs rest e, ((e = 0 ∧ (xs.length : Int) = many ∧ xs.all intOk = true ∧ l = intsB xs ++ rest) ∨ (e ≠ 0 ∧ xs = [] ∧ rest = [])) ∧ Ev (fun k => wire_GetInts.f k (mkB l) many) (xs, mkB rest, e) ∧ Ev (fun k => watchmanref01_GetInts.f k (mkB l) many) (xs, mkB rest, e) := by
  have no : Ev (fun k => wire_GetInts.j0 k (mkB l) many true) (([] : List Int), mkB [], (1 : Int)) := Ev.step (fun k => by rw [wire_GetInts.j0, if_pos rfl]; rfl) (Ev.now _)
  have no2 : Ev (fun k => watchmanref01_GetInts.j0 k (mkB l) many true) (([] : List Int), mkB [], (1 : Int)) := Ev.step (fun k => by rw [watchmanref01_GetInts.j0, if_pos rfl]; rfl) (Ev.now _)
  by_cases h1 : many < 0
  · exact ⟨[], [], 1, .inr ⟨by decide, rfl, rfl⟩, Ev.congr (fun k => by unfold wire_GetInts.f; rw [if_pos h1]) no, Ev.congr (fun k => by unfold watchmanref01_GetInts.f; rw [if_pos h1]) no2⟩
  by_cases h2 : many > 100
  · exact ⟨[], [], 1, .inr ⟨by decide, rfl, rfl⟩, Ev.congr (fun k => by unfold wire_GetInts.f; rw [if_neg h1, decide_eq_true h2]) no, Ev.congr (fun k => by unfold watchmanref01_GetInts.f; rw [if_neg h1, decide_eq_true h2]) no2⟩
  obtain ⟨d, rfl⟩ := Int.eq_ofNat_of_zero_le (show 0 ≤ many by omega)
  obtain ⟨xs, rest, e, hg, k1, k2⟩ := Gets_both (d : Int) (by omega) d 0 l [] (by omega) hs (by simp)
  refine ⟨xs, rest, e, ?_, Ev.congr (f := fun k => wire_GetInts.j0 k (mkB l) (d : Int) false) (fun k => by unfold wire_GetInts.f; rw [if_neg h1, decide_eq_false h2]) (Ev.step (fun k => ?_) k1),
    Ev.congr (f := fun k => watchmanref01_GetInts.j0 k (mkB l) (d : Int) false) (fun k => by unfold watchmanref01_GetInts.f; rw [if_neg h1, decide_eq_false h2]) (Ev.step (fun k => ?_) k2)⟩
  · rcases hg with ⟨rfl, ys, g1, g2, g3, g4⟩ | hg
    · rw [List.nil_append] at g1
      subst g1
      exact .inl ⟨rfl, by omega, g3, g4⟩
    · exact .inr hg
  · rw [wire_GetInts.j0, if_neg (by simp)]; rfl
  · rw [watchmanref01_GetInts.j0, if_neg (by simp)]; rfl

theorem Gets_back (many : Int) (hm : many ≤ 100) (rest : List UInt8) (xs : List Int) : ∀ (i : Nat) (acc : List Int), (i : Int) + xs.length = many → (intsB xs ++ rest).length ≤ 140737488351232 → acc.length ≤ i → xs.all intOk = true →
    Ev (fun k => wire_GetInts.l0 k (mkB (intsB xs ++ rest)) acc many (i : Int)) (acc ++ xs, mkB rest, 0) := by
  induction xs with
  | nil =>
    intro i acc hi hs ha hok
    simp at hi
    refine Ev.step (fun k => ?_) (Ev.now _)
    rw [wire_GetInts.l0, if_neg (by omega)]
    simp [intsB]
  | cons n xs ih =>
    intro i acc hi hs ha hok
    rw [List.all_cons, Bool.and_eq_true] at hok
    have hw := wrap64_succ (i := i) (by simp at hi; omega)
    have e1 : intsB (n :: xs) ++ rest = intB n ++ (intsB xs ++ rest) := by rw [intsB_cons, List.append_assoc]
    rw [e1] at hs ⊢
    have he := Get_back n (intsB xs ++ rest) hok.1 hs
    have ih := ih (i + 1) (acc ++ [n]) (by simp at hi; omega) (by rw [List.length_append] at hs; omega) (by simp; omega) hok.2
    rw [show acc ++ n :: xs = acc ++ [n] ++ xs by simp]
    refine Ev.step (fun k => ?_) (Ev.bind (f := fun k (x : Int × ByteArray × Int) => if x.2.2 = 0 then (if acc.length < 17592186044416 then wire_GetInts.l0 k x.2.1 (acc ++ [x.1]) many ((i + 1 : Nat) : Int) else none) else some (([] : List Int), (⟨#[]⟩ : ByteArray), x.2.2)) he (Ev.congr (fun k => ?_) ih))
    · rw [wire_GetInts.l0, if_pos (by simp at hi; omega), hw]
    · rw [if_pos rfl, if_pos (by simp at hi; omega)]
theorem GetInts_back (xs : List Int) (rest : List UInt8) (hl : xs.length ≤ 100) (hs : (intsB xs ++ rest).length ≤ 140737488351232) (hok : xs.all intOk = true) :
    Ev (fun k => wire_GetInts.f k (mkB (intsB xs ++ rest)) (xs.length : Int)) (xs, mkB rest, 0) := by
  refine Ev.congr (f := fun k => wire_GetInts.j0 k (mkB (intsB xs ++ rest)) (xs.length : Int) false) (fun k => by unfold wire_GetInts.f; rw [if_neg (by omega), decide_eq_false (by omega)]) (Ev.step (fun k => ?_) (Gets_back (xs.length : Int) (by omega) rest xs 0 [] (by omega) hs (by simp) hok))
  rw [wire_GetInts.j0, if_neg (by simp)]
  rfl

/-- What texts come to. -/
theorem GetText_both (l : List UInt8) (hs : l.length ≤ 140737488351232) :
    ∃ t rest e, ((e = 0 ∧ t.length ≤ 3000 ∧ l = intB (t.length : Int) ++ (t ++ rest)) ∨ (e ≠ 0 ∧ t = [] ∧ rest = [])) ∧ Ev (fun k => wire_GetText.f k (mkB l)) (mkB t, mkB rest, e) ∧ Ev (fun k => watchmanref01_GetText.f k (mkB l)) (mkB t, mkB rest, e) := by
  obtain ⟨n, rest, e, hg, he, hr⟩ := Get_both l hs
  have top : ∀ {R : ByteArray × ByteArray × Int}, (∀ k, (if e = 0 then (if n < 0 then wire_GetText.j0 (k + 1) n (mkB rest) true else wire_GetText.j0 (k + 1) n (mkB rest) (decide (n > 3000))) else some ((⟨#[]⟩ : ByteArray), (⟨#[]⟩ : ByteArray), e)) = some R) → Ev (fun k => wire_GetText.f k (mkB l)) R := fun {R} h =>
    Ev.congr (fun k => rfl) (Ev.bind (f := fun k (x : Int × ByteArray × Int) => if x.2.2 = 0 then (if x.1 < 0 then wire_GetText.j0 k x.1 x.2.1 true else wire_GetText.j0 k x.1 x.2.1 (decide (x.1 > 3000))) else some ((⟨#[]⟩ : ByteArray), (⟨#[]⟩ : ByteArray), x.2.2)) he ⟨1, fun k hk => by
      obtain ⟨m, rfl⟩ : ∃ m, k = m + 1 := ⟨k - 1, by omega⟩
      exact h m⟩)
  have top2 : ∀ {R : ByteArray × ByteArray × Int}, (∀ k, (if e = 0 then (if n < 0 then watchmanref01_GetText.j0 (k + 1) n (mkB rest) true else watchmanref01_GetText.j0 (k + 1) n (mkB rest) (decide (n > 3000))) else some ((⟨#[]⟩ : ByteArray), (⟨#[]⟩ : ByteArray), e)) = some R) → Ev (fun k => watchmanref01_GetText.f k (mkB l)) R := fun {R} h =>
    Ev.congr (fun k => rfl) (Ev.bind (f := fun k (x : Int × ByteArray × Int) => if x.2.2 = 0 then (if x.1 < 0 then watchmanref01_GetText.j0 k x.1 x.2.1 true else watchmanref01_GetText.j0 k x.1 x.2.1 (decide (x.1 > 3000))) else some ((⟨#[]⟩ : ByteArray), (⟨#[]⟩ : ByteArray), x.2.2)) hr ⟨1, fun k hk => by
      obtain ⟨m, rfl⟩ : ∃ m, k = m + 1 := ⟨k - 1, by omega⟩
      exact h m⟩)
  by_cases h0 : e = 0
  · rcases hg with ⟨_, h1, h2⟩ | ⟨rfl, _⟩ | ⟨rfl, _⟩
    · by_cases hneg : n < 0
      · refine ⟨[], [], 20, .inr ⟨by decide, rfl, rfl⟩, top (fun k => ?_), top2 (fun k => ?_)⟩
        · rw [if_pos h0, if_pos hneg, wire_GetText.j0, if_pos rfl]; rfl
        · rw [if_pos h0, if_pos hneg, watchmanref01_GetText.j0, if_pos rfl]; rfl
      · by_cases hbig : n > 3000
        · refine ⟨[], [], 20, .inr ⟨by decide, rfl, rfl⟩, top (fun k => ?_), top2 (fun k => ?_)⟩
          · rw [if_pos h0, if_neg hneg, decide_eq_true hbig, wire_GetText.j0, if_pos rfl]; rfl
          · rw [if_pos h0, if_neg hneg, decide_eq_true hbig, watchmanref01_GetText.j0, if_pos rfl]; rfl
        · by_cases hlong : n > (rest.length : Int)
          · refine ⟨[], [], 22, .inr ⟨by decide, rfl, rfl⟩, top (fun k => ?_), top2 (fun k => ?_)⟩
            · rw [if_pos h0, if_neg hneg, decide_eq_false hbig, wire_GetText.j0, if_neg (by simp), if_pos (by rw [mkB_size]; exact hlong)]; rfl
            · rw [if_pos h0, if_neg hneg, decide_eq_false hbig, watchmanref01_GetText.j0, if_neg (by simp), if_pos (by rw [mkB_size]; exact hlong)]; rfl
          · obtain ⟨m, rfl⟩ := Int.eq_ofNat_of_zero_le (show 0 ≤ n by omega)
            have hml : m ≤ rest.length := by omega
            refine ⟨rest.take m, rest.drop m, 0, .inl ⟨rfl, by rw [List.length_take]; omega, ?_⟩, top (fun k => ?_), top2 (fun k => ?_)⟩
            · rw [List.take_append_drop, List.length_take, Nat.min_eq_left hml]; exact h2
            · rw [if_pos h0, if_neg hneg, decide_eq_false hbig, wire_GetText.j0, if_neg (by simp), if_neg (by rw [mkB_size]; exact hlong), if_pos (by omega), if_pos (by rw [mkB_size]; omega)]
              rw [Int.toNat_natCast, mkB_size, mkB_extract, mkB_extract, List.take_length, List.drop_zero]
            · rw [if_pos h0, if_neg hneg, decide_eq_false hbig, watchmanref01_GetText.j0, if_neg (by simp), if_neg (by rw [mkB_size]; exact hlong), if_pos (by omega), if_pos (by rw [mkB_size]; omega)]
              rw [Int.toNat_natCast, mkB_size, mkB_extract, mkB_extract, List.take_length, List.drop_zero]
    · exact absurd h0 (by decide)
    · exact absurd h0 (by decide)
  · refine ⟨[], [], e, .inr ⟨h0, rfl, rfl⟩, top (fun k => ?_), top2 (fun k => ?_)⟩
    · rw [if_neg h0]; rfl
    · rw [if_neg h0]; rfl
theorem GetText_back (t rest : List UInt8) (hl : t.length ≤ 3000) (hs : (intB (t.length : Int) ++ (t ++ rest)).length ≤ 140737488351232) : Ev (fun k => wire_GetText.f k (mkB (intB (t.length : Int) ++ (t ++ rest)))) (mkB t, mkB rest, 0) := by
  have he := Get_back (t.length : Int) (t ++ rest) (by rw [intOk_iff]; omega) hs
  refine Ev.congr (fun k => rfl) (Ev.bind (f := fun k (x : Int × ByteArray × Int) => if x.2.2 = 0 then (if x.1 < 0 then wire_GetText.j0 k x.1 x.2.1 true else wire_GetText.j0 k x.1 x.2.1 (decide (x.1 > 3000))) else some ((⟨#[]⟩ : ByteArray), (⟨#[]⟩ : ByteArray), x.2.2)) he ⟨1, fun k hk => ?_⟩)
  obtain ⟨m, rfl⟩ : ∃ m, k = m + 1 := ⟨k - 1, by omega⟩
  show (if (0 : Int) = 0 then (if (t.length : Int) < 0 then wire_GetText.j0 (m + 1) (t.length : Int) (mkB (t ++ rest)) true else wire_GetText.j0 (m + 1) (t.length : Int) (mkB (t ++ rest)) (decide ((t.length : Int) > 3000))) else some ((⟨#[]⟩ : ByteArray), (⟨#[]⟩ : ByteArray), (0 : Int))) = some (mkB t, mkB rest, (0 : Int))
  rw [if_pos rfl, if_neg (by omega), decide_eq_false (by omega), wire_GetText.j0, if_neg (by simp), if_neg (by rw [mkB_size, List.length_append]; omega), if_pos (by omega), if_pos (by rw [mkB_size, List.length_append]; omega)]
  rw [Int.toNat_natCast, mkB_size, mkB_extract, mkB_extract, List.take_length, List.drop_zero, List.take_left', List.drop_left']
  · rfl
  · rfl
theorem ints_len_le (xs : List Int) : xs.length ≤ (intsB xs).length := by
  induction xs with
  | nil => simp
  | cons x xs ih => rw [intsB_cons, List.length_append, List.length_cons, intB_eq, List.length_append]; simp; omega
end Go.Proofs.Ytbfmdedjkmfabaa.Q
