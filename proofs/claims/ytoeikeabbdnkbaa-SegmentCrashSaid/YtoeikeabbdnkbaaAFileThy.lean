/- Files: what the program's and the document's functions on them answer. -/
import Derived.Test.YtoeikeabbdnkbaaFnSegR
import Derived.Test.YtoeikeabbdnkbaaATxt
namespace Go.Proofs.Ytoeikeabbdnkbaa.A
open Go Go.Proofs.Ytoeikeabbdnkbaa.Ab
set_option linter.unusedVariables false
set_option linter.unusedSimpArgs false

abbrev FT := Int × (ByteArray × (ByteArray × Unit))
abbrev F (m : Int) (s t : ByteArray) : FT := (m, s, t, ())
def okF (m : Int) (s t : ByteArray) : Bool := decide (1 ≤ m ∧ m ≤ 4000 ∧ ((s.size + t.size : Nat) : Int) ≤ m)
theorem okF_bd {m : Int} {s t : ByteArray} (h : okF m s t = true) : 1 ≤ m ∧ m ≤ 4000 ∧ ((s.size + t.size : Nat) : Int) ≤ m := of_decide_eq_true h
theorem ext_all (a : ByteArray) : a.extract 0 a.size = a := bytes_inj (by rw [bytes_extract, List.drop_zero, List.take_of_length_le (by rw [size_toList]; omega)])
theorem mid (a : Int) (n : Nat) : 0 ≤ imin (imax a 0) (n : Int) ∧ imin (imax a 0) (n : Int) ≤ n := by
  unfold imin imax
  by_cases h1 : (0 : Int) > a
  · rw [bif_t h1]
    by_cases h2 : (n : Int) < 0
    · omega
    · rw [bif_f h2]; omega
  · rw [bif_f h1]
    by_cases h2 : (n : Int) < a
    · rw [bif_t h2]; omega
    · rw [bif_f h2]; omega
theorem ext_app (a b : ByteArray) (n : Nat) : (a ++ b).extract 0 (a.size + n) = a ++ b.extract 0 n := bytes_inj (by
  rw [bytes_append, bytes_extract, bytes_extract, bytes_append, List.drop_zero, List.drop_zero, List.take_append, List.take_of_length_le (by rw [size_toList]; omega), size_toList, Nat.add_sub_cancel_left])
/-- How much of a text a crash leaves. -/
def leftN (a : Int) (n : Nat) : Nat := (imin (imax a 0) (n : Int)).toNat
theorem leftN_le (a : Int) (n : Nat) : leftN a n ≤ n := by have := mid a n; unfold leftN; omega
theorem leftN_eq (a : Int) (n : Nat) : imin (imax a 0) (n : Int) = ((leftN a n : Nat) : Int) := by have := mid a n; unfold leftN; omega
section
variable (k : Nat) (m : Int) (s t : ByteArray)
theorem all_ok (hs : s.size ≤ 1000000) (ht : t.size ≤ 1000000) : file_bytes_all k (F m s t) = some (s ++ t, ()) := by
  unfold file_bytes_all; exact bif_t (by show s.size + t.size ≤ _; omega) _ _
theorem read_ok (hs : s.size ≤ 1000000) (ht : t.size ≤ 1000000) : file_Read k (F m s t) = some (s ++ t, ()) := by
  unfold file_Read
  show (file_bytes_all k (F m s t)).bind _ = _
  rw [all_ok k m s t hs ht]; rfl
theorem rread_ok (hs : s.size ≤ 1000000) (ht : t.size ≤ 1000000) : ref12_Read k (F m s t) = some (s ++ t, ()) := by
  unfold ref12_Read; exact bif_t (by show s.size + t.size ≤ _; omega) _ _
theorem may_ok (hs : s.size ≤ 1000000) (ht : t.size ≤ 1000000) : file_bytes_may k (F m s t) = some (okF m s t, ()) := by
  unfold file_bytes_may okF
  show (bif decide (m ≥ 1) then bif decide (m ≤ 4000) then (file_bytes_all k (F m s t)).bind _ else _ else _) = _
  rw [all_ok k m s t hs ht]
  by_cases h1 : m ≥ 1
  · rw [bif_t h1]
    by_cases h2 : m ≤ 4000
    · rw [bif_t h2]
      show some (decide (((s ++ t).size : Int) ≤ m), ()) = _
      rw [ByteArray.size_append]
      congr 2
      rw [decide_eq_decide]; constructor <;> intro h <;> omega
    · rw [bif_f h2, decide_eq_false (by omega)]
  · rw [bif_f h1, decide_eq_false (by omega)]
theorem Is_ok (hs : s.size ≤ 1000000) (ht : t.size ≤ 1000000) : file_Is k (F m s t) = some (okF m s t, ()) := by
  unfold file_Is
  show (file_bytes_may k (F m s t)).bind _ = _
  rw [may_ok k m s t hs ht]; rfl
theorem rIs_ok (hs : s.size ≤ 1000000) (ht : t.size ≤ 1000000) : ref12_Is k (F m s t) = some (okF m s t, ()) := by
  unfold ref12_Is okF
  show (bif decide (m ≥ 1) then bif decide (m ≤ 4000) then some (decide (IntKind.i64.wrap ((s.size : Int) + (t.size : Int)) ≤ m), ()) else _ else _) = _
  rw [wrap_id (by omega) (by omega)]
  by_cases h1 : m ≥ 1
  · rw [bif_t h1]
    by_cases h2 : m ≤ 4000
    · rw [bif_t h2]
      congr 2
      rw [decide_eq_decide]; constructor <;> intro h <;> omega
    · rw [bif_f h2, decide_eq_false (by omega)]
  · rw [bif_f h1, decide_eq_false (by omega)]
theorem right_ok (hs : s.size ≤ 1000000) (ht : t.size ≤ 1000000) : file_right k (F m s t) = some (bif okF m s t then (F m s t, 0, ()) else (F 0 EB EB, 1, ())) := by
  unfold file_right
  show (file_bytes_may k (F m s t)).bind _ = _
  rw [may_ok k m s t hs ht]
  cases okF m s t <;> rfl
theorem kept_ok (hs : s.size ≤ 1000000) (ht : t.size ≤ 1000000) (n : Nat) (hn : n ≤ s.size + t.size) : file_bytes_kept k (F m s t) (n : Int) = some (F m ((s ++ t).extract 0 n) EB, ()) := by
  unfold file_bytes_kept
  show (file_bytes_all k (F m s t)).bind _ = _
  rw [all_ok k m s t hs ht]
  show (bif decide ((0 : Int) ≤ (n : Int)) then (bif decide ((n : Int) ≤ ((s ++ t).size : Int)) then _ else none) else none) = _
  rw [bif_t (by omega), bif_t (by rw [ByteArray.size_append]; omega)]
  rfl
theorem Sync_ok (hs : s.size ≤ 1000000) (ht : t.size ≤ 1000000) : file_Sync k (F m s t) = some (bif okF m s t then (F m (s ++ t) EB, 0, ()) else (F 0 EB EB, 1, ())) := by
  unfold file_Sync
  show (file_right k (F m s t)).bind _ = _
  rw [right_ok k m s t hs ht]
  cases h : okF m s t
  · rfl
  · show (file_bytes_all k (F m s t)).bind _ = _
    rw [all_ok k m s t hs ht]
    show (file_bytes_kept k (F m s t) ((s ++ t).size : Int)).bind _ = _
    rw [kept_ok k m s t hs ht _ (by rw [ByteArray.size_append]; omega), ext_all]
    rfl
/-- What a crash makes of a file. -/
def crashF (m : Int) (s t : ByteArray) (a : Int) : FT × Int × Unit := bif okF m s t then (F m (s ++ t.extract 0 (leftN a t.size)) EB, 0, ()) else (F 0 EB EB, 1, ())
theorem Crash_ok (hs : s.size ≤ 1000000) (ht : t.size ≤ 1000000) (a : Int) : file_Crash k (F m s t) a = some (crashF m s t a) := by
  unfold file_Crash crashF
  show (file_right k (F m s t)).bind _ = _
  rw [right_ok k m s t hs ht]
  cases h : okF m s t
  · rfl
  · have hc := leftN_eq a t.size
    have hl := leftN_le a t.size
    show (file_bytes_kept k (F m s t) (IntKind.i64.wrap ((s.size : Int) + imin (imax a 0) (t.size : Int)))).bind _ = _
    rw [hc, wrap_id (by omega) (by omega)]
    show (file_bytes_kept k (F m s t) ((s.size + leftN a t.size : Nat) : Int)).bind _ = _
    rw [kept_ok k m s t hs ht _ (by omega), ext_app]
    rfl
theorem rCrash_ok (hs : s.size ≤ 1000000) (ht : t.size ≤ 1000000) (a : Int) : ref12_Crash k (F m s t) a = some (crashF m s t a) := by
  unfold ref12_Crash crashF
  show (ref12_Is k (F m s t)).bind _ = _
  rw [rIs_ok k m s t hs ht]
  cases h : okF m s t
  · rfl
  · have hc := leftN_eq a t.size
    have hl := leftN_le a t.size
    show (bif decide (0 ≤ imin (imax a 0) (t.size : Int)) then (bif decide (imin (imax a 0) (t.size : Int) ≤ (t.size : Int)) then (bif decide (s.size + (ByteArray.extract t 0 (imin (imax a 0) (t.size : Int)).toNat).size ≤ 9223372036854775807) then some (F m (s ++ ByteArray.extract t 0 (imin (imax a 0) (t.size : Int)).toNat) EB, (0 : Int), ()) else none) else none) else none) = _
    rw [hc, bif_t (by omega), bif_t (by omega), Int.toNat_natCast, bif_t (by rw [ByteArray.size_extract]; omega)]
    rfl
end
end Go.Proofs.Ytoeikeabbdnkbaa.A
