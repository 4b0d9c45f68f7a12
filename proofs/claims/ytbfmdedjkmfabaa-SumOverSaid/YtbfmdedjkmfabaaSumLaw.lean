/- What the printed functions of the sum answer: Of, Over, Step, Find and the document's rows. -/
import Derived.Test.YtbfmdedjkmfabaaSumThy
import Derived.Test.YtbfmdedjkmfabaaHStep
import Derived.Test.YtbfmdedjkmfabaaQx2
namespace Go.Proofs.Ytbfmdedjkmfabaa.Q
open Go.RowKit Go.Proofs.YtbfmdedjkmfabaaW.PrintWords Go.Proofs.YtbfmdedjkmfabaaW.PrintLast Go.Proofs.YtbfmdedjkmfabaaW.PrintMore
set_option linter.unusedSimpArgs false

/-- The sum of bytes, as sixteen bits. -/
def sumB (s : List UInt8) : BitVec 16 := strB 65535#16 s
theorem sumB_append (s t : List UInt8) : sumB (s ++ t) = strB (sumB s) t := by simp [sumB, strB, List.foldl_append]
def sumI (s : List UInt8) : Int := ((sumB s).toNat : Int)
theorem sumI_lt (s : List UInt8) : 0 ≤ sumI s ∧ sumI s < 65536 := by
  have := (sumB s).isLt
  unfold sumI; omega
theorem sumI_inj {s t : List UInt8} : sumI s = sumI t ↔ sumB s = sumB t := by
  unfold sumI
  constructor
  · intro h; exact BitVec.eq_of_toNat_eq (by omega)
  · intro h; rw [h]

theorem bytes_append (a b : ByteArray) : (a ++ b).data.toList = a.data.toList ++ b.data.toList := by rw [ByteArray.data_append, Array.toList_append]
theorem bytes_extract (a : ByteArray) (i j : Nat) : (a.extract i j).data.toList = (a.data.toList.take j).drop i := by
  rw [ByteArray.data_extract, Array.toList_extract]; rw [List.extract_eq_take_drop, List.drop_take]
theorem size_toList (a : ByteArray) : a.data.toList.length = a.size := by rw [Array.length_toList]; rfl
theorem bytes_inj {a b : ByteArray} (h : a.data.toList = b.data.toList) : a = b := by
  cases a; cases b; simp only [ByteArray.mk.injEq]; exact Array.toList_inj.1 h

theorem crcRow_row (v : BitVec 16) (l : List ByteArray) : crcRow (v.toNat : Int) l = ((strB v (l.flatMap (·.data.toList))).toNat : Int) := by
  induction l generalizing v with
  | nil => rfl
  | cons a l ih =>
    show crcRow (crcStr (v.toNat : Int) a.data.toList) l = _
    rw [crcStr_strB, ih]
    simp [strB, List.foldl_append]

theorem read_ok (v : BitVec 16) (l : List ByteArray) (h : ∀ s ∈ l, s.size ≤ 9223372036854775807) :
    sum_reader_read.f (v.toNat : Int) l = some (((strB v (l.flatMap (·.data.toList))).toNat : Int), ((strB v (l.flatMap (·.data.toList))).toNat : Int)) := by
  unfold sum_reader_read.f
  rw [if_pos (List.all_eq_true.2 fun s hs => decide_eq_true (h s hs)), crcRow_row]

theorem Over_ok (l : List ByteArray) (h : ∀ s ∈ l, s.size ≤ 9223372036854775807) : sum_Over.f l = some (sumI (l.flatMap (·.data.toList))) := by
  have h1 := read_ok 65535#16 l h
  rw [show (((65535#16 : BitVec 16).toNat : Nat) : Int) = 65535 from rfl] at h1
  unfold sum_Over.f sum_open.f
  simp only [Option.bind_some, h1]
  rfl
theorem Of_ok (s : ByteArray) (h : s.size ≤ 9223372036854775807) : sum_Of.f s = some (sumI s.data.toList) := by
  have h1 := read_ok 65535#16 [s] (by simpa using h)
  rw [show (((65535#16 : BitVec 16).toNat : Nat) : Int) = 65535 from rfl] at h1
  unfold sum_Of.f sum_open.f
  simp only [Option.bind_some, h1]
  simp [sumI, sumB]

/-- The place that Find tells, in plain words. -/
def FindIs (s : List UInt8) (c most : Int) (i : Nat) (r : Int) (b : Bool) : Prop :=
  (b = true ∧ ∃ j : Nat, r = (j : Int) ∧ i ≤ j ∧ j ≤ s.length ∧ (j : Int) ≤ most ∧ sumI (s.take j) = c ∧ ∀ m : Nat, i ≤ m → m < j → sumI (s.take m) ≠ c) ∨
  (b = false ∧ r = 0 ∧ ∀ m : Nat, i ≤ m → m ≤ s.length → (m : Int) ≤ most → sumI (s.take m) ≠ c)

theorem FindIs.next {s : List UInt8} {c most : Int} {i : Nat} {r : Int} {b : Bool} (h : FindIs s c most (i + 1) r b) (hne : sumI (s.take i) ≠ c) : FindIs s c most i r b := by
  rcases h with ⟨hb, j, hr, h1, h2, h3, h4, h5⟩ | ⟨hb, hr, h1⟩
  · refine .inl ⟨hb, j, hr, by omega, h2, h3, h4, fun m hm hj => ?_⟩
    by_cases e : m = i
    · rw [e]; exact hne
    · exact h5 m (by omega) hj
  · refine .inr ⟨hb, hr, fun m hm h2 h3 => ?_⟩
    by_cases e : m = i
    · rw [e]; exact hne
    · exact h1 m (by omega) h2 h3

theorem mn_eq (a b : Int) : mn a b = if b < a then b else a := rfl

theorem Find_loop (s : ByteArray) (c most : Int) (hs : s.size ≤ 140737488351232) (d : Nat) : ∀ (i : Nat), s.size + 1 - i = d → i ≤ s.size + 1 →
    ∃ r b, FindIs s.data.toList c most i r b ∧ Ev (fun k => sum_Find.l0 k s c most (i : Int) (sumI (s.data.toList.take i))) (r, b) := by
  induction d with
  | zero =>
    intro i hd hi
    refine ⟨0, false, .inr ⟨rfl, rfl, fun m h1 h2 h3 => by rw [size_toList] at h2; omega⟩, ?_⟩
    refine Ev.step (f := fun _ => some (0, false)) (fun k => ?_) (Ev.now _)
    have hm : ¬ ((i : Int) ≤ mn most (s.size : Int)) := by rw [mn_eq]; split <;> omega
    simp only [sum_Find.l0]
    rw [if_neg hm]
  | succ d ih =>
    intro i hd hi
    by_cases hm : (i : Int) ≤ mn most (s.size : Int)
    · have hm' : (i : Int) ≤ most ∧ (i : Int) ≤ s.size := by rw [mn_eq] at hm; split at hm <;> omega
      by_cases hc : sumI (s.data.toList.take i) = c
      · refine ⟨i, true, .inl ⟨rfl, i, rfl, Nat.le_refl _, by rw [size_toList]; omega, hm'.1, hc, fun m h1 h2 => by omega⟩, ?_⟩
        refine Ev.step (f := fun _ => some ((i : Int), true)) (fun k => ?_) (Ev.now _)
        simp only [sum_Find.l0]
        rw [if_pos hm, if_pos hc]
      · obtain ⟨r, b, hf, he⟩ := ih (i + 1) (by omega) (by omega)
        refine ⟨r, b, hf.next hc, ?_⟩
        refine Ev.step (fun k => ?_) he
        simp only [sum_Find.l0]
        have hw : wrap64 ((i : Int) + 1) = ((i + 1 : Nat) : Int) := by rw [wrap64_of (by omega) (by omega)]; omega
        have hmn : mn ((i + 1 : Nat) : Int) (s.size : Int) = ((min (i + 1) s.size : Nat) : Int) := by rw [mn_eq]; split <;> omega
        rw [if_pos hm, if_neg hc, if_pos (by omega), hw, hmn, if_pos (by omega), if_pos (by omega)]
        have hx := read_ok (sumB (s.data.toList.take i)) [s.extract i (min (i + 1) s.size)] (by simp [ByteArray.size_extract]; omega)
        have e : strB (sumB (s.data.toList.take i)) ([s.extract i (min (i + 1) s.size)].flatMap (·.data.toList)) = sumB (s.data.toList.take (i + 1)) := by
          rw [← sumB_append]
          congr 1
          simp only [List.flatMap_cons, List.flatMap_nil, List.append_nil, bytes_extract]
          by_cases hi2 : i + 1 ≤ s.size
          · rw [Nat.min_eq_left hi2]
            rw [List.take_succ_eq_append_getElem (by rw [size_toList]; omega), List.drop_append]
            have hl : (s.data.toList.take i).length = i := by rw [List.length_take, size_toList]; omega
            rw [List.drop_of_length_le (by omega), hl]; simp
          · rw [Nat.min_eq_right (by omega), List.take_of_length_le (i := i + 1) (by rw [size_toList]; omega), List.take_of_length_le (i := s.size) (by rw [size_toList]; omega), List.take_append_drop]
        rw [e] at hx
        simp only [Int.toNat_natCast]
        unfold sumI
        rw [hx]
        rfl
    · have hm' : ¬ ((i : Int) ≤ most ∧ (i : Int) ≤ s.size) := fun h => hm (by rw [mn_eq]; split <;> omega)
      refine ⟨0, false, .inr ⟨rfl, rfl, fun m h1 h2 h3 => by rw [size_toList] at h2; omega⟩, ?_⟩
      refine Ev.step (f := fun _ => some (0, false)) (fun k => ?_) (Ev.now _)
      simp only [sum_Find.l0]
      rw [if_neg hm]

theorem Find_ok (s : ByteArray) (c most : Int) (hs : s.size ≤ 140737488351232) : ∃ r b, FindIs s.data.toList c most 0 r b ∧ Ev (fun k => sum_Find.f k s c most) (r, b) := by
  obtain ⟨r, b, hf, he⟩ := Find_loop s c most hs _ 0 rfl (by omega)
  refine ⟨r, b, hf, Ev.congr (fun k => ?_) he⟩
  unfold sum_Find.f sum_open.f
  rfl

theorem u8_wf {a : Int} (h : (Lit.int .u8 a).wf = true) : 0 ≤ a ∧ a ≤ 255 := by
  have h2 := h
  simp only [Lit.wf, Bool.and_eq_true, decide_eq_true_eq] at h2
  have e1 : IntKind.u8.min = 0 := rfl
  have e2 : IntKind.u8.max = 255 := rfl
  omega
theorem i64_wf {a : Int} (h : (Lit.int .i64 a).wf = true) : -9223372036854775808 ≤ a ∧ a ≤ 9223372036854775807 := by
  have h2 := h
  simp only [Lit.wf, Bool.and_eq_true, decide_eq_true_eq] at h2
  have e1 : IntKind.i64.min = -9223372036854775808 := rfl
  have e2 : IntKind.i64.max = 9223372036854775807 := rfl
  omega
theorem u8_of {a : Int} (h0 : 0 ≤ a) (h1 : a ≤ 255) : ((UInt8.ofNat a.toNat).toNat : Int) = a := by
  rw [UInt8.toNat_ofNat_of_lt' (by simp [UInt8.size]; omega)]
  omega
theorem Step_sum (v : BitVec 16) {a : Int} (h0 : 0 ≤ a) (h1 : a ≤ 255) : sum_Step.f (v.toNat : Int) a = some (((byteB v (UInt8.ofNat a.toNat)).toNat : Int), true) := by
  have hv := v.isLt
  have e := crcByte_byteB v (UInt8.ofNat a.toNat)
  rw [u8_of h0 h1] at e
  unfold sum_Step.f
  rw [if_neg (by omega), if_neg (by omega), e]
theorem bytes_one (a : Int) : (strOfNums [a]).data.toList = [UInt8.ofNat a.toNat] := rfl
theorem bytes_two (a b : Int) : (strOfNums [a, b]).data.toList = [UInt8.ofNat a.toNat, UInt8.ofNat b.toNat] := rfl
theorem size_one (a : Int) : (strOfNums [a]).size = 1 := rfl
theorem size_two (a b : Int) : (strOfNums [a, b]).size = 2 := rfl

theorem summed_ok : Ev (fun k => watchmanlaw02_summed.f k) true := Ev.of (fun k => watchmanlaw02_summed.mono k) (k := 12) (by decide +kernel)
end Go.Proofs.Ytbfmdedjkmfabaa.Q
