/- What the printed functions of wire, and its reference's, answer. -/
import Derived.Test.YtbfmdedjkmfabaaWireThy
import Derived.Test.YtbfmdedjkmfabaaPlain
import Derived.Test.YtbfmdedjkmfabaaQx8
import Derived.Test.YtbfmdedjkmfabaaQx7
import Derived.Test.YtbfmdedjkmfabaaQx10
import Derived.Test.YtbfmdedjkmfabaaQx11
import Derived.Test.YtbfmdedjkmfabaaQx9
namespace Go.Proofs.Ytbfmdedjkmfabaa.Q
open Go.RowKit Go.Proofs.YtbfmdedjkmfabaaW.PrintWords Go.Proofs.YtbfmdedjkmfabaaW.PrintLast Go.Proofs.YtbfmdedjkmfabaaW.PrintMore
set_option linter.unusedVariables false
set_option linter.unusedSimpArgs false

/-- A row of numbers: its bytes, or refused. -/
def IntsA (l : List Int) : ByteArray × Int := if l.all intOk = true then (mkB (intsB l), 0) else (mkB [], 1)
def IntA (n : Int) : ByteArray × Int := if intOk n = true then (mkB (intB n), 0) else (mkB [], 1)
theorem Ints_ok (l : List Int) (h : l.length ≤ 1000000000000) : wire_Ints.f l = some (IntsA l) := by
  unfold wire_Ints.f IntsA
  rw [if_pos h]
  split <;> rfl
theorem intsB_one (n : Int) : intsB [n] = intB n := by simp [intsB]
theorem IntsA_one (n : Int) : IntsA [n] = IntA n := by
  unfold IntsA IntA
  rw [intsB_one]
  simp only [List.all_cons, List.all_nil, Bool.and_true]
theorem Int_ok (n : Int) : wire_Int.f n = some (IntA n) := by
  unfold wire_Int.f
  rw [Ints_ok [n] (by simp), IntsA_one]
  rfl
theorem intB_small (n : Int) : (intB n).length ≤ 6 := intB_len n

theorem ref_digits (e : Int) (f : Nat) : ∀ (n : Int) (acc : List Int), 0 ≤ n → n < 250 ^ f → n ≤ 2147483647 → acc.length + f ≤ 100 →
    Ev (fun k => watchmanref01_Int.l0 k n e acc) (strOfNums (acc ++ digsF f n ++ [e % 256]), 0) := by
  induction f with
  | zero =>
    intro n acc h0 h1 h2 hl
    simp at h1
    refine Ev.step (fun k => ?_) (Ev.now _)
    rw [watchmanref01_Int.l0, if_neg (by omega), if_pos (by omega)]
    simp [digsF]
  | succ f ih =>
    intro n acc h0 h1 h2 hl
    rw [Int.pow_succ] at h1
    by_cases hp : 0 < n
    · have hq : Int.tdiv n 250 = n / 250 := Int.tdiv_eq_ediv_of_nonneg h0
      have hr : Int.tmod n 250 = n % 250 := Int.tmod_eq_emod_of_nonneg h0
      have ih := ih (n / 250) (acc ++ [n % 250]) (by omega) (by omega) (by omega) (by simp; omega)
      have e2 : acc ++ digsF (f + 1) n ++ [e % 256] = acc ++ [n % 250] ++ digsF f (n / 250) ++ [e % 256] := by rw [digsF, if_pos hp]; simp
      rw [e2]
      refine Ev.step (fun k => ?_) ih
      rw [watchmanref01_Int.l0, if_pos (by omega), if_pos (by omega), hq, hr, wrap64_id (by omega) (by omega), Int.emod_eq_of_lt (by omega) (by omega)]
    · refine Ev.step (fun k => ?_) (Ev.now _)
      rw [watchmanref01_Int.l0, if_neg (by omega), if_pos (by omega), digsF, if_neg hp]
      simp
theorem refInt_ok (n : Int) : Ev (fun k => watchmanref01_Int.f k n) (IntA n) := by
  have no : ¬ intOk n = true → Ev (fun k => watchmanref01_Int.j0 k n true) (IntA n) := fun h => by
    unfold IntA
    rw [if_neg h]
    refine Ev.step (fun k => ?_) (Ev.now _)
    rw [watchmanref01_Int.j0, if_pos rfl]
    rfl
  by_cases h1 : n < -2147483647
  · exact Ev.congr (fun k => by unfold watchmanref01_Int.f; rw [if_pos h1]) (no (by rw [intOk_iff]; omega))
  by_cases h2 : n > 2147483647
  · exact Ev.congr (fun k => by unfold watchmanref01_Int.f; rw [if_neg h1, decide_eq_true h2]) (no (by rw [intOk_iff]; omega))
  have hok : intOk n = true := by rw [intOk_iff]; omega
  refine Ev.congr (f := fun k => watchmanref01_Int.j0 k n false) (fun k => by unfold watchmanref01_Int.f; rw [if_neg h1, decide_eq_false h2]) ?_
  unfold IntA
  rw [if_pos hok]
  by_cases h3 : n < 0
  · have hd := ref_digits 254 5 (-n) [] (by omega) (by simp; omega) (by omega) (by simp)
    have e : strOfNums ([] ++ digsF 5 (-n) ++ [254 % 256]) = mkB (intB n) := by
      rw [nums_mk, intB, if_pos h3, if_pos h3]
      simp
    rw [e] at hd
    refine Ev.step (f := fun k => watchmanref01_Int.j1 k (-n) 254) (fun k => ?_) (Ev.step (f := fun k => watchmanref01_Int.l0 k (-n) 254 []) (fun k => ?_) hd)
    · rw [watchmanref01_Int.j0, if_neg (by simp), if_pos h3, wrap64_id (by omega) (by omega)]
    · rw [watchmanref01_Int.j1]
  · have hd := ref_digits 255 5 n [] (by omega) (by simp; omega) (by omega) (by simp)
    have e : strOfNums ([] ++ digsF 5 n ++ [255 % 256]) = mkB (intB n) := by
      rw [nums_mk, intB, if_neg h3, if_neg h3]
      simp
    rw [e] at hd
    refine Ev.step (f := fun k => watchmanref01_Int.j1 k n 255) (fun k => ?_) (Ev.step (f := fun k => watchmanref01_Int.l0 k n 255 []) (fun k => ?_) hd)
    · rw [watchmanref01_Int.j0, if_neg (by simp), if_neg h3]
    · rw [watchmanref01_Int.j1]

theorem rd_at (l : List Int) (i : Nat) (h : i < l.length) : rd l (i : Int) = l[i] := by simp [rd, List.getD_eq_getElem?_getD, List.getElem?_eq_getElem h]

theorem refInts_loop (l : List Int) (hl : l.length ≤ 1000000) (d : Nat) : ∀ i : Nat, i + d = l.length → (l.take i).all intOk = true →
    Ev (fun k => watchmanref01_Ints.l0 k l (mkB (intsB (l.take i))) (i : Int)) (IntsA l) := by
  induction d with
  | zero =>
    intro i hi ha
    rw [List.take_of_length_le (by omega)] at ha ⊢
    unfold IntsA
    rw [if_pos ha]
    refine Ev.step (fun k => ?_) (Ev.now _)
    rw [watchmanref01_Ints.l0, if_neg (by omega)]
  | succ d ih =>
    intro i hi ha
    have hlt : i < l.length := by omega
    have hw := wrap64_succ (i := i) (by omega)
    have hr := refInt_ok l[i]
    by_cases hok : intOk l[i] = true
    · have ht : l.take (i + 1) = l.take i ++ [l[i]] := List.take_succ_eq_append_getElem hlt
      have ih := ih (i + 1) (by omega) (by rw [ht, List.all_append, ha]; simpa using hok)
      rw [ht, intsB_snoc, ← mkB_append] at ih
      unfold IntA at hr
      rw [if_pos hok] at hr
      have hb := intsB_len (l.take i)
      have hb2 : (l.take i).length ≤ l.length := by rw [List.length_take]; omega
      have hb3 := intB_small l[i]
      refine Ev.step (fun k => ?_) (Ev.bind (f := fun k (x : ByteArray × Int) => if x.2 = 0 then (if (mkB (intsB (l.take i))).size + x.1.size ≤ 9223372036854775807 then watchmanref01_Ints.l0 k l (mkB (intsB (l.take i)) ++ x.1) ((i + 1 : Nat) : Int) else none) else some ((⟨#[]⟩ : ByteArray), x.2)) hr (Ev.congr (fun k => ?_) ih))
      · rw [watchmanref01_Ints.l0, if_pos (by omega), if_pos (by omega), hw, rd_at l i hlt]
      · rw [if_pos rfl, if_pos (by rw [mkB_size, mkB_size]; omega)]
    · have hno : ¬ l.all intOk = true := fun h => hok (List.all_eq_true.1 h _ (List.getElem_mem hlt))
      unfold IntA at hr
      rw [if_neg hok] at hr
      unfold IntsA
      rw [if_neg hno]
      refine Ev.step (fun k => ?_) (Ev.bind (f := fun k (x : ByteArray × Int) => if x.2 = 0 then (if (mkB (intsB (l.take i))).size + x.1.size ≤ 9223372036854775807 then watchmanref01_Ints.l0 k l (mkB (intsB (l.take i)) ++ x.1) ((i + 1 : Nat) : Int) else none) else some ((⟨#[]⟩ : ByteArray), x.2)) hr (Ev.congr (fun k => ?_) (Ev.now _)))
      · rw [watchmanref01_Ints.l0, if_pos (by omega), if_pos (by omega), hw, rd_at l i hlt]
      · rw [if_neg (by decide)]
        rfl
theorem refInts_ok (l : List Int) (hl : l.length ≤ 1000000) : Ev (fun k => watchmanref01_Ints.f k l) (IntsA l) :=
  Ev.congr (fun k => rfl) (refInts_loop l hl l.length 0 (by omega) (by simp))

/-- A text's bytes, or refused. -/
def TextA (s : List UInt8) : ByteArray × Int := if (s.length : Int) > 3000 then (mkB [], 2) else (mkB (intB (s.length : Int) ++ s), 0)
theorem Text_ok (s : List UInt8) : wire_Text.f (mkB s) = some (TextA s) := by
  unfold wire_Text.f TextA
  rw [mkB_size]
  by_cases h : (s.length : Int) > 3000
  · rw [if_pos h, if_pos h]; rfl
  · have hok : intOk (s.length : Int) = true := by rw [intOk_iff]; omega
    have hb := intB_small (s.length : Int)
    rw [if_neg h, if_neg h, Int_ok]
    unfold IntA
    rw [if_pos hok]
    simp only [Option.bind_some]
    rw [if_pos (by rw [mkB_size]; omega), mkB_append]
theorem refText_ok (s : List UInt8) : Ev (fun k => watchmanref01_Text.f k (mkB s)) (TextA s) := by
  unfold TextA
  by_cases h : (s.length : Int) > 3000
  · rw [if_pos h]
    refine Ev.congr (fun k => ?_) (Ev.now _)
    unfold watchmanref01_Text.f
    rw [mkB_size, if_pos h]; rfl
  · have hok : intOk (s.length : Int) = true := by rw [intOk_iff]; omega
    have hb := intB_small (s.length : Int)
    have hr := refInt_ok (s.length : Int)
    unfold IntA at hr
    rw [if_pos hok] at hr
    rw [if_neg h]
    refine Ev.congr (fun k => ?_) (Ev.bind (f := fun k (x : ByteArray × Int) => if x.1.size + (mkB s).size ≤ 9223372036854775807 then some (x.1 ++ mkB s, (0 : Int)) else none) hr (Ev.congr (fun k => ?_) (Ev.now _)))
    · unfold watchmanref01_Text.f
      rw [mkB_size, if_neg h]
    · rw [if_pos (by rw [mkB_size, mkB_size]; omega), mkB_append]

theorem wired_ok : Ev (fun k => watchmanlaw01_wired.f k) true := Ev.of (fun k => watchmanlaw01_wired.mono k) (k := 20) (by decide +kernel)

theorem Same_refl (l : List Int) (hl : l.length ≤ 9223372036854775800) : Ev (fun k => watchmanref01_Same.f k l l) true := by
  have loop : ∀ d i : Nat, i + d = l.length → Ev (fun k => watchmanref01_Same.l0 k l l (i : Int)) true := by
    intro d
    induction d with
    | zero =>
      intro i hi
      refine Ev.step (fun k => ?_) (Ev.now _)
      rw [watchmanref01_Same.l0, if_neg (by omega)]
    | succ d ih =>
      intro i hi
      refine Ev.step (fun k => ?_) (ih (i + 1) (by omega))
      rw [watchmanref01_Same.l0, if_pos (by omega), if_pos (by omega), if_pos (by omega), if_pos rfl, wrap64_succ (by omega)]
  refine Ev.congr (fun k => ?_) (loop l.length 0 (by omega))
  unfold watchmanref01_Same.f
  rw [if_pos rfl]
  rfl
end Go.Proofs.Ytbfmdedjkmfabaa.Q
