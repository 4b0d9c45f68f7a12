/- Files: what the program's and the document's functions on them answer. -/
import Derived.Test.YtoeikeabbdnkbaaFnSD
import Derived.Test.YtoeikeabbdnkbaaATxt
import Derived.Test.YtoeikeabbdnkbaaAD1
import Derived.KernelRfl
namespace Go.Proofs.Ytoeikeabbdnkbaa.A
open Go Go.Proofs.Ytoeikeabbdnkbaa.Ab
set_option linter.unusedVariables false
set_option linter.unusedSimpArgs false

abbrev FT := Int × (ByteArray × (ByteArray × Unit))
abbrev F (m : Int) (s t : ByteArray) : FT := (m, s, t, ())
def okF (m : Int) (s t : ByteArray) : Bool := decide (1 ≤ m ∧ m ≤ 4000 ∧ ((s.size + t.size : Nat) : Int) ≤ m)
theorem okF_bd {m : Int} {s t : ByteArray} (h : okF m s t = true) : 1 ≤ m ∧ m ≤ 4000 ∧ ((s.size + t.size : Nat) : Int) ≤ m := of_decide_eq_true h
theorem ext_all (a : ByteArray) : a.extract 0 a.size = a := bytes_inj (by rw [bytes_extract, List.drop_zero, List.take_of_length_le (by rw [size_toList]; omega)])
theorem mid (a : Int) (n : Nat) : 0 ≤ imin (imax a 0) (n : Int) ∧ imin (imax a 0) (n : Int) ≤ n := by
  unfold imin imax
  by_cases h1 : (0 : Int) > a
  · rw [bif_t h1]
    by_cases h2 : (n : Int) < 0
    · omega
    · rw [bif_f h2]; omega
  · rw [bif_f h1]
    by_cases h2 : (n : Int) < a
    · rw [bif_t h2]; omega
    · rw [bif_f h2]; omega
theorem ext_app (a b : ByteArray) (n : Nat) : (a ++ b).extract 0 (a.size + n) = a ++ b.extract 0 n := bytes_inj (by
  rw [bytes_append, bytes_extract, bytes_extract, bytes_append, List.drop_zero, List.drop_zero, List.take_append, List.take_of_length_le (by rw [size_toList]; omega), size_toList, Nat.add_sub_cancel_left])
/-- How much of a text a crash leaves. -/
def leftN (a : Int) (n : Nat) : Nat := (imin (imax a 0) (n : Int)).toNat
theorem leftN_le (a : Int) (n : Nat) : leftN a n ≤ n := by have := mid a n; unfold leftN; omega
theorem leftN_eq (a : Int) (n : Nat) : imin (imax a 0) (n : Int) = ((leftN a n : Nat) : Int) := by have := mid a n; unfold leftN; omega
section
variable (k : Nat) (m : Int) (s t : ByteArray)
theorem all_ok (hs : s.size ≤ 1000000) (ht : t.size ≤ 1000000) : file_bytes_all k (F m s t) = some (s ++ t, ()) := by
  unfold file_bytes_all; exact bif_t (by show s.size + t.size ≤ _; omega) _ _
theorem read_ok (hs : s.size ≤ 1000000) (ht : t.size ≤ 1000000) : file_Read k (F m s t) = some (s ++ t, ()) := by
  unfold file_Read
  show (file_bytes_all k (F m s t)).bind _ = _
  rw [all_ok k m s t hs ht]; rfl
theorem rread_ok (hs : s.size ≤ 1000000) (ht : t.size ≤ 1000000) : ref12_Read k (F m s t) = some (s ++ t, ()) := by
  unfold ref12_Read; exact bif_t (by show s.size + t.size ≤ _; omega) _ _
theorem may_ok (hs : s.size ≤ 1000000) (ht : t.size ≤ 1000000) : file_bytes_may k (F m s t) = some (okF m s t, ()) := by
  unfold file_bytes_may okF
  show (bif decide (m ≥ 1) then bif decide (m ≤ 4000) then (file_bytes_all k (F m s t)).bind _ else _ else _) = _
  rw [all_ok k m s t hs ht]
  by_cases h1 : m ≥ 1
  · rw [bif_t h1]
    by_cases h2 : m ≤ 4000
    · rw [bif_t h2]
      show some (decide (((s ++ t).size : Int) ≤ m), ()) = _
      rw [ByteArray.size_append]
      congr 2
      rw [decide_eq_decide]; constructor <;> intro h <;> omega
    · rw [bif_f h2, decide_eq_false (by omega)]
  · rw [bif_f h1, decide_eq_false (by omega)]
theorem Is_ok (hs : s.size ≤ 1000000) (ht : t.size ≤ 1000000) : file_Is k (F m s t) = some (okF m s t, ()) := by
  unfold file_Is
  show (file_bytes_may k (F m s t)).bind _ = _
  rw [may_ok k m s t hs ht]; rfl
theorem rIs_ok (hs : s.size ≤ 1000000) (ht : t.size ≤ 1000000) : ref12_Is k (F m s t) = some (okF m s t, ()) := by
  unfold ref12_Is okF
  show (bif decide (m ≥ 1) then bif decide (m ≤ 4000) then some (decide (IntKind.i64.wrap ((s.size : Int) + (t.size : Int)) ≤ m), ()) else _ else _) = _
  rw [wrap_id (by omega) (by omega)]
  by_cases h1 : m ≥ 1
  · rw [bif_t h1]
    by_cases h2 : m ≤ 4000
    · rw [bif_t h2]
      congr 2
      rw [decide_eq_decide]; constructor <;> intro h <;> omega
    · rw [bif_f h2, decide_eq_false (by omega)]
  · rw [bif_f h1, decide_eq_false (by omega)]
theorem right_ok (hs : s.size ≤ 1000000) (ht : t.size ≤ 1000000) : file_right k (F m s t) = some (bif okF m s t then (F m s t, 0, ()) else (F 0 EB EB, 1, ())) := by
  unfold file_right
  show (file_bytes_may k (F m s t)).bind _ = _
  rw [may_ok k m s t hs ht]
  cases okF m s t <;> rfl
theorem kept_ok (hs : s.size ≤ 1000000) (ht : t.size ≤ 1000000) (n : Nat) (hn : n ≤ s.size + t.size) : file_bytes_kept k (F m s t) (n : Int) = some (F m ((s ++ t).extract 0 n) EB, ()) := by
  unfold file_bytes_kept
  show (file_bytes_all k (F m s t)).bind _ = _
  rw [all_ok k m s t hs ht]
  show (bif decide ((0 : Int) ≤ (n : Int)) then (bif decide ((n : Int) ≤ ((s ++ t).size : Int)) then _ else none) else none) = _
  rw [bif_t (by omega), bif_t (by rw [ByteArray.size_append]; omega)]
  rfl
theorem Sync_ok (hs : s.size ≤ 1000000) (ht : t.size ≤ 1000000) : file_Sync k (F m s t) = some (bif okF m s t then (F m (s ++ t) EB, 0, ()) else (F 0 EB EB, 1, ())) := by
  unfold file_Sync
  show (file_right k (F m s t)).bind _ = _
  rw [right_ok k m s t hs ht]
  cases h : okF m s t
  · rfl
  · show (file_bytes_all k (F m s t)).bind _ = _
    rw [all_ok k m s t hs ht]
    show (file_bytes_kept k (F m s t) ((s ++ t).size : Int)).bind _ = _
    rw [kept_ok k m s t hs ht _ (by rw [ByteArray.size_append]; omega), ext_all]
    rfl
/-- What a crash makes of a file. -/
def crashF (m : Int) (s t : ByteArray) (a : Int) : FT × Int × Unit := bif okF m s t then (F m (s ++ t.extract 0 (leftN a t.size)) EB, 0, ()) else (F 0 EB EB, 1, ())
theorem Crash_ok (hs : s.size ≤ 1000000) (ht : t.size ≤ 1000000) (a : Int) : file_Crash k (F m s t) a = some (crashF m s t a) := by
  unfold file_Crash crashF
  show (file_right k (F m s t)).bind _ = _
  rw [right_ok k m s t hs ht]
  cases h : okF m s t
  · rfl
  · have hc := leftN_eq a t.size
    have hl := leftN_le a t.size
    show (file_bytes_kept k (F m s t) (IntKind.i64.wrap ((s.size : Int) + imin (imax a 0) (t.size : Int)))).bind _ = _
    rw [hc, wrap_id (by omega) (by omega)]
    show (file_bytes_kept k (F m s t) ((s.size + leftN a t.size : Nat) : Int)).bind _ = _
    rw [kept_ok k m s t hs ht _ (by omega), ext_app]
    rfl
theorem rCrash_ok (hs : s.size ≤ 1000000) (ht : t.size ≤ 1000000) (a : Int) : ref12_Crash k (F m s t) a = some (crashF m s t a) := by
  unfold ref12_Crash crashF
  show (ref12_Is k (F m s t)).bind _ = _
  rw [rIs_ok k m s t hs ht]
  cases h : okF m s t
  · rfl
  · have hc := leftN_eq a t.size
    have hl := leftN_le a t.size
    show (bif decide (0 ≤ imin (imax a 0) (t.size : Int)) then (bif decide (imin (imax a 0) (t.size : Int) ≤ (t.size : Int)) then (bif decide (s.size + (ByteArray.extract t 0 (imin (imax a 0) (t.size : Int)).toNat).size ≤ 9223372036854775807) then some (F m (s ++ ByteArray.extract t 0 (imin (imax a 0) (t.size : Int)).toNat) EB, (0 : Int), ()) else none) else none) else none) = _
    rw [hc, bif_t (by omega), bif_t (by omega), Int.toNat_natCast, bif_t (by rw [ByteArray.size_extract]; omega)]
    rfl
end
end Go.Proofs.Ytoeikeabbdnkbaa.A
/- Files: what is added, and cut. -/
namespace Go.Proofs.Ytoeikeabbdnkbaa.A
open Go Go.Proofs.Ytoeikeabbdnkbaa.Ab
set_option linter.unusedVariables false
set_option linter.unusedSimpArgs false

/-- What a file becomes with more behind it. -/
def addF (m : Int) (s t c : ByteArray) : FT × Int × Unit := bif okF m s t then (bif okF m s (t ++ c) then (F m s (t ++ c), 0, ()) else (F 0 EB EB, 81, ())) else (F 0 EB EB, 1, ())
/-- What a file becomes that is cut. -/
def cutF (m : Int) (s t : ByteArray) (a : Int) : FT × Int × Unit := bif okF m s t then (if a < 0 ∨ a > ((s.size + t.size : Nat) : Int) then (F 0 EB EB, 1, ()) else (F m ((s ++ t).extract 0 a.toNat) EB, 0, ())) else (F 0 EB EB, 1, ())
section
variable (k : Nat) (m : Int) (s t : ByteArray)
theorem Add_ok (hs : s.size ≤ 1000000) (ht : t.size ≤ 1000000) (l : List ByteArray) (h0 : l.length ≤ 100) (h1 : (cat l).size ≤ 900000) : file_Add k (F m s t) l = some (addF m s t (cat l)) := by
  unfold file_Add addF
  show (file_right k (F m s t)).bind _ = _
  rw [right_ok k m s t hs ht]
  cases h : okF m s t
  · rfl
  · have hb := okF_bd h
    show (strings_Join k l EB).bind _ = _
    rw [Join_ok k l (by omega) (by omega)]
    have g : t.size + (cat l).size ≤ 9223372036854775807 := by omega
    refine (bif_t g _ _).trans ?_
    show (file_bytes_may k (F m s (t ++ cat l))).bind _ = _
    rw [may_ok k m s _ hs (by rw [ByteArray.size_append]; omega)]
    cases okF m s (t ++ cat l) <;> rfl
theorem add_loop (l : List ByteArray) (hl : l.length ≤ 100) (hx : ∀ x ∈ l, x.size ≤ 2000) (hs : s.size ≤ 1000000) : ∀ (d i kk : Nat) (p : ByteArray), l.length - i = d → i ≤ l.length → d < kk → okF m s p = true →
    ∃ j X, ref12_Add_l1 l kk (0, (i : Int), F 0 EB EB, F m s p, ()) = some (bif okF m s (p ++ cat (l.drop i)) then (AExit.exit 0, 0, (l.length : Int), F 0 EB EB, F m s (p ++ cat (l.drop i)), ()) else (AExit.ret, 81, j, F 0 EB EB, X, ())) := by
  intro d
  induction d with
  | zero =>
    intro i kk p hd hi hk hp
    obtain ⟨kk, rfl⟩ : ∃ q, kk = q + 1 := ⟨kk - 1, by omega⟩
    have e : i = l.length := by omega
    subst e
    refine ⟨0, F 0 EB EB, ?_⟩
    unfold ref12_Add_l1
    rw [rec1_succ]
    dsimp only
    rw [bif_f (by omega), List.drop_length, cat_nil, app_E, hp]
    rfl
  | succ d ih =>
    intro i kk p hd hi hk hp
    obtain ⟨kk, rfl⟩ : ∃ q, kk = q + 1 := ⟨kk - 1, by omega⟩
    have hlt : i < l.length := by omega
    have hb := okF_bd hp
    have hxi := hx _ (List.getElem_mem hlt)
    have hdrop : cat (l.drop i) = l[i] ++ cat (l.drop (i + 1)) := by rw [List.drop_eq_getElem_cons hlt, cat_cons]
    have step : ∀ (g : okF m s (p ++ l[i]) = true), ref12_Add_l1 l (kk + 1) (0, (i : Int), F 0 EB EB, F m s p, ()) = ref12_Add_l1 l kk (0, ((i + 1 : Nat) : Int), F 0 EB EB, F m s (p ++ l[i]), ()) := by
      intro g
      have gb := okF_bd g
      rw [ByteArray.size_append] at gb
      unfold ref12_Add_l1
      rw [rec1_succ]
      dsimp only
      rw [getD_z l i hlt]
      rw [bif_t (by omega), bif_t (by omega), bif_t (by omega), wrap_id (n := ((s.size : Nat) : Int) + ((p.size : Nat) : Int)) (by omega) (by omega), wrap_id (n := _ + ((l[i].size : Nat) : Int)) (by omega) (by omega), bif_f (by omega), bif_t (by omega), bif_t (by omega), bif_t (by omega), wrap_id (by omega) (by omega)]
      rfl
    cases g : okF m s (p ++ l[i])
    · have hno : okF m s (p ++ cat (l.drop i)) = false := by
        have g' := of_decide_eq_false g
        refine decide_eq_false ?_
        rw [hdrop, ByteArray.size_append, ByteArray.size_append]
        rw [ByteArray.size_append] at g'
        omega
      have g' := of_decide_eq_false g
      rw [ByteArray.size_append] at g'
      refine ⟨(i : Int), F m s p, ?_⟩
      rw [hno]
      unfold ref12_Add_l1
      rw [rec1_succ]
      dsimp only
      rw [getD_z l i hlt]
      rw [bif_t (by omega), bif_t (by omega), bif_t (by omega), wrap_id (n := ((s.size : Nat) : Int) + ((p.size : Nat) : Int)) (by omega) (by omega), wrap_id (n := _ + ((l[i].size : Nat) : Int)) (by omega) (by omega), bif_t (by omega)]
      rfl
    · rw [step g, hdrop, ← app_assoc]
      exact ih (i + 1) kk _ (by omega) (by omega) (by omega) g
theorem rAdd_ok (hs : s.size ≤ 1000000) (ht : t.size ≤ 1000000) (l : List ByteArray) (hl : l.length ≤ 100) (hx : ∀ x ∈ l, x.size ≤ 2000) (hk : l.length < k) : ref12_Add k (F m s t) l = some (addF m s t (cat l)) := by
  unfold ref12_Add addF
  show (ref12_Is k (F m s t)).bind _ = _
  rw [rIs_ok k m s t hs ht]
  cases h : okF m s t
  · rfl
  · obtain ⟨j, X, he⟩ := add_loop m s l hl hx hs l.length 0 k t (by omega) (by omega) hk h
    rw [List.drop_zero] at he
    show (ref12_Add_l1 l k (0, ((0 : Nat) : Int), F 0 EB EB, F m s t, ())).bind _ = _
    rw [he]
    cases okF m s (t ++ cat l) <;> rfl
theorem Cut_ok (hs : s.size ≤ 1000000) (ht : t.size ≤ 1000000) (a : Int) : file_Cut k (F m s t) a = some (cutF m s t a) := by
  unfold file_Cut cutF
  show (file_right k (F m s t)).bind _ = _
  rw [right_ok k m s t hs ht]
  cases h : okF m s t
  · rfl
  · show (bif decide (a < 0) then _ else (file_bytes_all k (F m s t)).bind _) = some (if a < 0 ∨ a > ((s.size + t.size : Nat) : Int) then _ else _)
    rw [all_ok k m s t hs ht]
    by_cases h1 : a < 0
    · rw [bif_t h1, if_pos (.inl h1)]
    · rw [bif_f h1]
      have hz := ByteArray.size_append (a := s) (b := t)
      show (bif decide (a > ((s ++ t).size : Int)) then _ else (file_bytes_kept k (F m s t) a).bind _) = _
      by_cases h2 : a > ((s ++ t).size : Int)
      · rw [bif_t h2, if_pos (by omega)]
      · rw [bif_f h2, if_neg (by omega)]
        obtain ⟨c, rfl⟩ : ∃ c : Nat, a = (c : Int) := ⟨_, (Int.toNat_of_nonneg (by omega)).symm⟩
        rw [kept_ok k m s t hs ht _ (by omega)]
        rfl
theorem rCut_ok (hs : s.size ≤ 1000000) (ht : t.size ≤ 1000000) (a : Int) : ref12_Cut k (F m s t) a = some (cutF m s t a) := by
  unfold ref12_Cut cutF
  show (ref12_Is k (F m s t)).bind _ = _
  rw [rIs_ok k m s t hs ht]
  cases h : okF m s t
  · rfl
  · show (bif decide (a < 0) then _ else (ref12_Read k (F m s t)).bind _) = some (if a < 0 ∨ a > ((s.size + t.size : Nat) : Int) then _ else _)
    rw [rread_ok k m s t hs ht]
    by_cases h1 : a < 0
    · rw [bif_t h1, if_pos (.inl h1)]
    · rw [bif_f h1]
      have hz := ByteArray.size_append (a := s) (b := t)
      show (bif decide (a > ((s ++ t).size : Int)) then _ else (some (s ++ t, ())).bind _) = _
      by_cases h2 : a > ((s ++ t).size : Int)
      · rw [bif_t h2, if_pos (by omega)]
      · rw [bif_f h2, if_neg (by omega)]
        obtain ⟨c, rfl⟩ : ∃ c : Nat, a = (c : Int) := ⟨_, (Int.toNat_of_nonneg (by omega)).symm⟩
        show (bif decide ((0 : Int) ≤ (c : Int)) then (bif decide ((c : Int) ≤ ((s ++ t).size : Int)) then _ else none) else none) = _
        rw [bif_t (by omega), bif_t (by omega)]
end
end Go.Proofs.Ytoeikeabbdnkbaa.A
/- Records: what is put, and which records bytes begin with. -/
namespace Go.Proofs.Ytoeikeabbdnkbaa.A
open Go Go.Proofs.Ytoeikeabbdnkbaa.Ab
set_option linter.unusedVariables false
set_option linter.unusedSimpArgs false

/-- A record's bytes. -/
def recB (n : Int) (s : List UInt8) : List UInt8 := frB 1 (intB n ++ s)
def recOk (n : Int) (s : List UInt8) : Prop := 0 ≤ n ∧ n ≤ 1000000000 ∧ s.length ≤ 1000
theorem recOk.int {n : Int} {s : List UInt8} (h : recOk n s) : intOk n = true := by have := h.1; have := h.2.1; rw [intOk_iff]; omega
theorem recOk.short {n : Int} {s : List UInt8} (h : recOk n s) : (intB n ++ s).length ≤ 3000 := by have := intB_len n; have := h.2.2; rw [List.length_append]; omega
theorem recB_len (n : Int) (s : List UInt8) : (recB n s).length ≤ s.length + 24 ∧ s.length + 4 ≤ (recB n s).length := by
  have h1 := frB_len 1 (intB n ++ s)
  have h2 := len_frB 1 (intB n ++ s)
  have h3 := intB_len n
  have h4 : 1 ≤ (intB n).length := by rw [intB_eq, List.length_append]; simp
  rw [List.length_append] at h1 h2
  unfold recB; omega
theorem rec_one {n m : Int} {s u p q : List UInt8} (h1 : recOk n s) (h2 : recOk m u) (h : recB n s ++ p = recB m u ++ q) : n = m ∧ s = u ∧ p = q := by
  have b : FrIs (recB n s ++ p) 1 (intB m ++ u) q 0 := .inl ⟨rfl, by decide, by decide, h2.short, h⟩
  obtain ⟨_, b2, b3, _⟩ := b.back (by decide) (by decide) h1.short
  obtain ⟨d1, d2⟩ := intB_one h2.int h1.int b2
  exact ⟨d1.symm, d2.symm, b3.symm⟩
def RecPutA (n : Int) (s : List UInt8) : ByteArray × Int × Unit := if n < 0 ∨ n > 1000000000 then (EB, 1, ()) else if (s.length : Int) > 1000 then (EB, 2, ()) else (mkB (recB n s), 0, ())
theorem RecPut_ok (n : Int) (s : List UInt8) : Ev (fun k => record_Put k n (mkB s)) (RecPutA n s) := by
  have hsz := mkB_size s
  unfold RecPutA
  by_cases h0 : n < 0
  · rw [if_pos (.inl h0)]; exact Ev.dt h0 (Ev.now _)
  by_cases h1 : n > 1000000000
  · rw [if_pos (.inr h1)]; exact Ev.df h0 (Ev.dt h1 (Ev.now _))
  rw [if_neg (by omega)]
  by_cases h2 : (s.length : Int) > 1000
  · rw [if_pos h2]; exact Ev.df h0 (Ev.df h1 (Ev.dt (by omega) (Ev.now _)))
  rw [if_neg h2]
  have hok : recOk n s := ⟨by omega, by omega, by omega⟩
  have hi : Ev (fun k => wire_Int k n) (mkB (intB n), 0, ()) := Ev.all fun k => by rw [Int_ok, IntA_ok hok.int]
  have hl := intB_len n
  have hp : Ev (fun k => frame_Put k 1 (mkB (intB n) ++ mkB s)) (mkB (recB n s), 0, ()) := by
    refine Ev.all fun k => ?_
    rw [mkB_append, Put_ok]; unfold PutA
    rw [if_neg (by decide), if_neg (by have := hok.short; omega)]; rfl
  exact Ev.df h0 (Ev.df h1 (Ev.df (by omega) (Ev.bind hi (Ev.dt (by show (mkB (intB n)).size + (mkB s).size ≤ _; rw [mkB_size]; omega) (Ev.bind hp (Ev.now _))))))
theorem rRecPut_ok (n : Int) (s : List UInt8) : Ev (fun k => ref13_Put k n (mkB s)) (RecPutA n s) := by
  have hsz := mkB_size s
  unfold RecPutA
  by_cases h0 : n < 0
  · rw [if_pos (.inl h0)]; exact Ev.dt h0 (Ev.now _)
  by_cases h1 : n > 1000000000
  · rw [if_pos (.inr h1)]; exact Ev.df h0 (Ev.dt h1 (Ev.now _))
  rw [if_neg (by omega)]
  by_cases h2 : (s.length : Int) > 1000
  · rw [if_pos h2]; exact Ev.df h0 (Ev.df h1 (Ev.dt (by omega) (Ev.now _)))
  rw [if_neg h2]
  have hok : recOk n s := ⟨by omega, by omega, by omega⟩
  have hi : Ev (fun k => ref01_Int k n) (mkB (intB n), 0, ()) := by have := refInt_ok n; rwa [IntA_ok hok.int] at this
  have hl := intB_len n
  have hp : Ev (fun k => ref03_Put k 1 (mkB (intB n) ++ mkB s)) (mkB (recB n s), 0, ()) := by
    have := refPut_ok 1 (intB n ++ s)
    unfold PutA at this
    rw [if_neg (by decide), if_neg (by have := hok.short; omega), ← mkB_append] at this
    exact this
  exact Ev.df h0 (Ev.df h1 (Ev.df (by omega) (Ev.bind hi (Ev.dt (by show (mkB (intB n)).size + (mkB s).size ≤ _; rw [mkB_size]; omega) (Ev.bind hp (Ev.now _))))))

/-! ### Records one behind the other -/
def recsB : Int → List (List UInt8) → List UInt8
  | _, [] => []
  | n, t :: ts => recB n t ++ recsB (n + 1) ts
def recsOk : Int → List (List UInt8) → Prop
  | _, [] => True
  | n, t :: ts => recOk n t ∧ recsOk (n + 1) ts
/-- No record of n stands at the beginning. -/
def NoRec (l : List UInt8) (n : Int) : Prop := ∀ s q, recOk n s → l ≠ recB n s ++ q
def ScanIs (l : List UInt8) (n : Int) (ts : List (List UInt8)) (rest : List UInt8) : Prop := recsOk n ts ∧ l = recsB n ts ++ rest ∧ NoRec rest (n + ts.length)
theorem ScanIs.one : ∀ {l : List UInt8} {n : Int} {ts us : List (List UInt8)} {p q : List UInt8}, ScanIs l n ts p → ScanIs l n us q → ts = us ∧ p = q
  | l, n, [], [], p, q, h, k => ⟨rfl, by have h1 := h.2.1; have k1 := k.2.1; simp only [recsB, List.nil_append] at h1 k1; exact h1.symm.trans k1⟩
  | l, n, [], u :: us, p, q, h, k => by
    exfalso
    have h1 := h.2.1
    have k1 := k.2.1
    simp only [recsB, List.nil_append, List.append_assoc] at h1 k1
    have := h.2.2 u (recsB (n + 1) us ++ q)
    simp only [List.length_nil, Int.add_zero, Int.ofNat_zero] at this
    exact this (by simpa using k.1.1) (by rw [← h1, k1])
  | l, n, t :: ts, [], p, q, h, k => by
    exfalso
    have h1 := h.2.1
    have k1 := k.2.1
    simp only [recsB, List.nil_append, List.append_assoc] at h1 k1
    have := k.2.2 t (recsB (n + 1) ts ++ p)
    exact this (by simpa using h.1.1) (by rw [← k1, h1]; simp)
  | l, n, t :: ts, u :: us, p, q, h, k => by
    have h1 := h.2.1
    have k1 := k.2.1
    simp only [recsB, List.append_assoc] at h1 k1
    obtain ⟨_, e1, e2⟩ := rec_one h.1.1 k.1.1 (h1.symm.trans k1)
    have e3 : ∀ x : List (List UInt8), n + ((x.length + 1 : Nat) : Int) = n + 1 + x.length := fun x => by omega
    obtain ⟨e4, e5⟩ := ScanIs.one (l := recsB (n + 1) ts ++ p) ⟨h.1.2, rfl, by have := h.2.2; rw [List.length_cons, e3] at this; exact this⟩ ⟨k.1.2, e2, by have := k.2.2; rw [List.length_cons, e3] at this; exact this⟩
    exact ⟨by rw [e1, e4], e5⟩
theorem recsB_app (n : Int) (a b : List (List UInt8)) : recsB n (a ++ b) = recsB n a ++ recsB (n + a.length) b := by
  induction a generalizing n with
  | nil => simp [recsB]
  | cons t a ih =>
    rw [List.cons_append, recsB, recsB, ih, List.append_assoc, List.length_cons]
    rw [show n + 1 + (a.length : Int) = n + ((a.length + 1 : Nat) : Int) by omega]
theorem recsOk_app (n : Int) (a b : List (List UInt8)) : recsOk n (a ++ b) ↔ recsOk n a ∧ recsOk (n + a.length) b := by
  induction a generalizing n with
  | nil => simp [recsOk]
  | cons t a ih =>
    rw [List.cons_append, recsOk, recsOk, ih, and_assoc, List.length_cons]
    rw [show n + 1 + (a.length : Int) = n + ((a.length + 1 : Nat) : Int) by omega]
theorem recsOk_of {n : Int} {ts : List (List UInt8)} (h : ts ≠ [] → 0 ≤ n ∧ n + ts.length ≤ 1000000001) (hs : ∀ t ∈ ts, t.length ≤ 1000) : recsOk n ts := by
  induction ts generalizing n with
  | nil => trivial
  | cons t ts ih =>
    have h1 := h (by simp)
    rw [List.length_cons] at h1
    refine ⟨⟨h1.1, by omega, hs t (by simp)⟩, ih (fun _ => by omega) (fun x hx => hs x (by simp [hx]))⟩
theorem recsOk.bd {n : Int} {ts : List (List UInt8)} (h : recsOk n ts) : (ts ≠ [] → 0 ≤ n ∧ n + ts.length ≤ 1000000001) ∧ ∀ t ∈ ts, t.length ≤ 1000 := by
  induction ts generalizing n with
  | nil => exact ⟨fun h => absurd rfl h, fun t h => by simp at h⟩
  | cons t ts ih =>
    obtain ⟨⟨h1, h2, h3⟩, h4⟩ := h
    obtain ⟨h5, h6⟩ := ih h4
    refine ⟨fun _ => ⟨h1, ?_⟩, fun x hx => ?_⟩
    · rw [List.length_cons]
      cases ts with
      | nil => simp; omega
      | cons u ts => have := (h5 (by simp)).2; omega
    · rcases List.mem_cons.1 hx with rfl | hx
      · exact h3
      · exact h6 x hx
theorem recsB_len (n : Int) (ts : List (List UInt8)) (m : Nat) (h : ∀ t ∈ ts, t.length ≤ m) : (recsB n ts).length ≤ (m + 24) * ts.length ∧ ts.length ≤ (recsB n ts).length := by
  induction ts generalizing n with
  | nil => simp [recsB]
  | cons t ts ih =>
    have h1 := ih (n + 1) (fun x hx => h x (by simp [hx]))
    have h2 := recB_len n t
    have h3 := h t (by simp)
    rw [recsB, List.length_append, List.length_cons, Nat.mul_succ]
    omega

/-! ### Scans -/
def Ev2 {β : Type} (f : Nat → Nat → Option β) (y : β) : Prop := ∃ k0, ∀ k q, k0 ≤ k → k0 ≤ q → f k q = some y
theorem Ev2.bind {α β : Type} {f : Nat → Option α} {g : Nat → Nat → α → Option β} {x : α} {y : β} (hf : Ev f x) (hg : Ev2 (fun k q => g k q x) y) : Ev2 (fun k q => (f k).bind (g k q)) y := by
  obtain ⟨k0, h0⟩ := hf
  obtain ⟨k1, h1⟩ := hg
  refine ⟨max k0 k1, fun k q hk hq => ?_⟩
  show (f k).bind (g k q) = _
  rw [h0 k (by omega)]
  exact h1 k q (by omega) (by omega)
theorem Ev2.now {β : Type} (y : β) : Ev2 (fun _ _ => some y) y := ⟨0, fun _ _ _ _ => rfl⟩
theorem Ev2.f {β : Type} {c : Bool} {a b : Nat → Nat → Option β} {y : β} (h : c = false) (hb : Ev2 b y) : Ev2 (fun k q => bif c then a k q else b k q) y := by subst h; exact hb
theorem Ev2.t {β : Type} {c : Bool} {a b : Nat → Nat → Option β} {y : β} (h : c = true) (ha : Ev2 a y) : Ev2 (fun k q => bif c then a k q else b k q) y := by subst h; exact ha
theorem Ev2.step {b : ByteArray} {n : Int} {y : List (ByteArray × ByteArray)} (h : Ev2 (fun k q => scanL k (q + 1) b n) y) : Ev2 (fun k q => scanL k q b n) y := by
  obtain ⟨k0, h0⟩ := h
  refine ⟨k0 + 1, fun k q hk hq => ?_⟩
  obtain ⟨p, rfl⟩ : ∃ p, q = p + 1 := ⟨q - 1, by omega⟩
  exact h0 k p (by omega) (by omega)
abbrev RS (u1 : List ByteArray) (u2 : Int) (acc : List ByteArray) (left : ByteArray) (n : Int) : (List ByteArray) × (Int × ((List ByteArray) × (ByteArray × (Int × Unit)))) := (u1, u2, acc, left, n, ())
theorem scan_on {l rest s : List UInt8} {n : Int} (hl : l.length ≤ 1000000) (hok : recOk n s) (he : l = recB n s ++ rest) :
    (∀ {xs}, Ev2 (fun k q => scanL k q (mkB rest) (n + 1)) xs → Ev2 (fun k q => scanL k q (mkB l) n) ((mkB s, mkB rest) :: xs)) ∧
    (∀ (a : ByteArray) (u1 : List ByteArray) (u2 : Int) (acc : List ByteArray) {R}, acc.length ≤ 1000000 → Ev (fun k => ref13_Scan_l1 a k (RS u1 u2 (acc ++ [mkB s]) (mkB rest) (n + 1))) R → Ev (fun k => ref13_Scan_l1 a k (RS u1 u2 acc (mkB l) n)) R) := by
  obtain ⟨kd, t, r, e, hf, f1, f2⟩ := Fr_both l hl
  have hf' : FrIs (frB 1 (intB n ++ s) ++ rest) kd t r e := by rw [he] at hf; exact hf
  obtain ⟨rfl, rfl, rfl, rfl⟩ := hf'.back (by decide) (by decide) hok.short
  obtain ⟨m, u, f, hg, g1, g2⟩ := Get_both (intB n ++ s) (by have := hok.short; omega)
  obtain ⟨rfl, rfl, rfl⟩ := hg.back hok.int
  obtain ⟨o1, o2, o3⟩ := hok
  have hsz := mkB_size u
  constructor
  · intro xs h
    refine Ev2.step (Ev2.bind f1 (Ev2.bind g1 (Ev2.f rfl (Ev2.f rfl (Ev2.f rfl (Ev2.f (nbeq_i rfl) (Ev2.f (decide_eq_false (by omega)) (Ev2.f (decide_eq_false (by omega)) (Ev2.f (decide_eq_false (by show ¬ ((mkB u).size : Int) > 1000; omega)) ?_)))))))))
    obtain ⟨k0, h0⟩ := h
    refine ⟨k0, fun k q hk hq => ?_⟩
    show (scanL k q (mkB r) (m + 1)).bind _ = _
    have h2 : scanL k q (mkB r) (m + 1) = some xs := h0 k q hk hq
    rw [h2]; rfl
  · intro a u1 u2 acc R hacc h
    have hp := rRecPut_ok m u
    have hpa : RecPutA m u = (mkB (recB m u), 0, ()) := by unfold RecPutA; rw [if_neg (by omega), if_neg (by omega)]
    rw [hpa] at hp
    have hll : l.length = (recB m u).length + r.length := by rw [he, List.length_append]
    have e0 : IntKind.i64.wrap (((mkB l).size : Int) - ((mkB r).size : Int)) = (((recB m u).length : Nat) : Int) := by rw [mkB_size, mkB_size, wrap_id (by omega) (by omega)]; omega
    have ex : (mkB l).extract 0 (IntKind.i64.wrap (((mkB l).size : Int) - ((mkB r).size : Int))).toNat = mkB (recB m u) := by
      rw [e0, Int.toNat_natCast, mkB_extract, List.drop_zero, he, List.take_left]
    rw [show m + 1 = IntKind.i64.wrap (m + 1) by rw [wrap_id (by omega) (by omega)]] at h
    refine Ev.step (Ev.bind f2 (Ev.f rfl (Ev.bind g2 (Ev.bind hp (Ev.f rfl (Ev.f rfl (Ev.dt ?_ (Ev.dt ?_ (Ev.f ?_ (Ev.dt ?_ h))))))))))
    · show (0 : Int) ≤ IntKind.i64.wrap (((mkB l).size : Int) - ((mkB r).size : Int)); omega
    · show IntKind.i64.wrap (((mkB l).size : Int) - ((mkB r).size : Int)) ≤ ((mkB l).size : Int); rw [e0, mkB_size]; omega
    · show (!((mkB (recB m u)).toList == ((mkB l).extract 0 (IntKind.i64.wrap (((mkB l).size : Int) - ((mkB r).size : Int))).toNat).toList)) = false
      rw [ex, beq_self_eq_true]; rfl
    · show (acc.length + [mkB u].length) * 16 ≤ 140737488355328; simp; omega
theorem scan_off {l : List UInt8} {n : Int} (hl : l.length ≤ 1000000) (hno : NoRec l n) :
    Ev2 (fun k q => scanL k q (mkB l) n) [] ∧
    (∀ (a : ByteArray) (u1 : List ByteArray) (u2 : Int) (acc : List ByteArray), Ev (fun k => ref13_Scan_l1 a k (RS u1 u2 acc (mkB l) n)) (.ret, RS acc (IntKind.i64.wrap ((a.size : Int) - ((mkB l).size : Int))) acc (mkB l) n)) := by
  obtain ⟨kd, t, r, e, hf, f1, f2⟩ := Fr_both l hl
  have hlt : t.length ≤ 3000 := by
    rcases hf with ⟨_, _, _, h, _⟩ | ⟨_, _, h, _⟩
    · exact h
    · rw [h]; simp
  obtain ⟨m, s, f, hg, g1, g2⟩ := Get_both t (by omega)
  have hsl := hg.len
  have hsz := mkB_size s
  have no : ¬ (e = 0 ∧ f = 0 ∧ kd = 1 ∧ m = n ∧ 0 ≤ n ∧ n ≤ 1000000000 ∧ s.length ≤ 1000) := by
    rintro ⟨rfl, rfl, rfl, rfl, c1, c2, c3⟩
    rcases hf with ⟨_, _, _, _, hl2⟩ | ⟨h, _⟩
    · rcases hg with ⟨_, _, g⟩ | ⟨g, _⟩ | ⟨g, _⟩
      · exact hno s r ⟨c1, c2, c3⟩ (by rw [hl2, g]; rfl)
      · omega
      · omega
    · exact absurd rfl h
  constructor
  · refine Ev2.step (Ev2.bind f1 (Ev2.bind g1 ?_))
    by_cases c1 : e = 0
    · refine Ev2.f (nbeq_i c1) ?_
      by_cases c2 : f = 0
      · refine Ev2.f (nbeq_i c2) ?_
        by_cases c3 : kd = 1
        · refine Ev2.f (nbeq_i c3) ?_
          by_cases c4 : m = n
          · refine Ev2.f (nbeq_i c4) ?_
            by_cases c5 : n < 0
            · exact Ev2.t (decide_eq_true c5) (Ev2.now _)
            · refine Ev2.f (decide_eq_false c5) ?_
              by_cases c6 : n > 1000000000
              · exact Ev2.t (decide_eq_true c6) (Ev2.now _)
              · exact Ev2.f (decide_eq_false c6) (Ev2.t (decide_eq_true (by show ((mkB s).size : Int) > 1000; rw [hsz]; have : ¬ s.length ≤ 1000 := fun h => no ⟨c1, c2, c3, c4, by omega, by omega, h⟩; omega)) (Ev2.now _))
          · exact Ev2.t (nbne_i c4) (Ev2.now _)
        · exact Ev2.t (nbne_i c3) (Ev2.now _)
      · exact Ev2.t (nbne_i c2) (Ev2.now _)
    · exact Ev2.t (nbne_i c1) (Ev2.now _)
  · intro a u1 u2 acc
    by_cases c1 : e = 0
    · have hp := rRecPut_ok n s
      refine Ev.step (Ev.bind f2 (Ev.f (nbeq_i c1) (Ev.bind g2 (Ev.bind hp ?_))))
      by_cases c2 : f = 0
      · refine Ev.f (nbeq_i c2) ?_
        unfold RecPutA
        by_cases c5 : n < 0 ∨ n > 1000000000
        · rw [if_pos c5]; exact Ev.t (nbne_i (show (1 : Int) ≠ 0 by decide)) (Ev.now _)
        · rw [if_neg c5]
          by_cases c6 : (s.length : Int) > 1000
          · rw [if_pos c6]; exact Ev.t (nbne_i (show (2 : Int) ≠ 0 by decide)) (Ev.now _)
          · rw [if_neg c6]
            subst c1 c2
            have hrl : r.length ≤ l.length ∧ l = frB kd t ++ r ∧ 0 ≤ kd ∧ kd ≤ 99 := by
              rcases hf with ⟨_, q1, q2, _, hl2⟩ | ⟨h, _⟩
              · exact ⟨by rw [hl2, List.length_append]; omega, hl2, q1, q2⟩
              · exact absurd rfl h
            have e0 : IntKind.i64.wrap (((mkB l).size : Int) - ((mkB r).size : Int)) = ((l.length - r.length : Nat) : Int) := by rw [mkB_size, mkB_size, wrap_id (by omega) (by omega)]; omega
            have ex : (mkB l).extract 0 (IntKind.i64.wrap (((mkB l).size : Int) - ((mkB r).size : Int))).toNat = mkB (frB kd t) := by
              rw [e0, Int.toNat_natCast, mkB_extract, List.drop_zero]
              congr 1
              have : l.length - r.length = (frB kd t).length := by rw [hrl.2.1, List.length_append]; omega
              rw [this, hrl.2.1, List.take_left]
            refine Ev.f rfl (Ev.dt ?_ (Ev.dt ?_ (Ev.t ?_ (Ev.now _))))
            · show (0 : Int) ≤ IntKind.i64.wrap (((mkB l).size : Int) - ((mkB r).size : Int)); omega
            · show IntKind.i64.wrap (((mkB l).size : Int) - ((mkB r).size : Int)) ≤ ((mkB l).size : Int); rw [e0, mkB_size]; omega
            · show (!((mkB (recB n s)).toList == ((mkB l).extract 0 (IntKind.i64.wrap (((mkB l).size : Int) - ((mkB r).size : Int))).toNat).toList)) = true
              rw [ex, mkB_toList, mkB_toList]
              have hne : recB n s ≠ frB kd t := fun e2 => by
                have hok : recOk n s := ⟨by omega, by omega, by omega⟩
                have hts : FrIs (frB 1 (intB n ++ s) ++ []) kd t [] 0 := .inl ⟨rfl, hrl.2.2.1, hrl.2.2.2, hlt, by rw [List.append_nil, List.append_nil]; exact e2⟩
                obtain ⟨b1, b2, _, _⟩ := hts.back (by decide) (by decide) hok.short
                rw [b2] at hg
                obtain ⟨d1, _, _⟩ := hg.back hok.int
                exact no ⟨rfl, rfl, b1, d1, by omega, by omega, by omega⟩
              simpa using hne
      · exact Ev.t (nbne_i c2) (Ev.now _)
    · exact Ev.step (Ev.bind f2 (Ev.t (nbne_i c1) (Ev.now _)))
/-- Every text has a scan. -/
theorem scan_all (N : Nat) : ∀ (l : List UInt8) (n : Int), l.length ≤ N → l.length ≤ 1000000 → ∃ ts rest, ScanIs l n ts rest := by
  induction N with
  | zero =>
    intro l n h _
    obtain rfl : l = [] := List.length_eq_zero_iff.1 (by omega)
    exact ⟨[], [], trivial, rfl, fun s q hok e => by have := (recB_len (n + ([] : List (List UInt8)).length) s).2; have h2 := congrArg List.length e; rw [List.length_append] at h2; simp only [List.length_nil] at *; omega⟩
  | succ N ih =>
    intro l n h hb
    by_cases hr : ∃ s q, recOk n s ∧ l = recB n s ++ q
    · obtain ⟨s, q, hok, he⟩ := hr
      have h1 := (recB_len n s).2
      have h2 := congrArg List.length he
      rw [List.length_append] at h2
      obtain ⟨ts, rest, k1, k2, k3⟩ := ih q (n + 1) (by omega) (by omega)
      refine ⟨s :: ts, rest, ⟨hok, k1⟩, by rw [he, k2, recsB, List.append_assoc], ?_⟩
      rw [List.length_cons, show n + ((ts.length + 1 : Nat) : Int) = n + 1 + ts.length by omega]
      exact k3
    · refine ⟨[], l, trivial, rfl, fun s q hok e => ?_⟩
      have e0 : n + ((([] : List (List UInt8)).length : Nat) : Int) = n := by simp
      rw [e0] at hok e
      exact hr ⟨s, q, hok, e⟩
/-- What a scan answers. -/
def scanA (l : List UInt8) (ts : List (List UInt8)) (rest : List UInt8) : (List ByteArray) × (Int × Unit) := (ts.map mkB, ((l.length - rest.length : Nat) : Int), ())
theorem scan_runs (a : ByteArray) (L : List UInt8) (hL : L.length ≤ 1000000) (ha : a = mkB L) : ∀ (ts : List (List UInt8)) (l : List UInt8) (n : Int) (rest : List UInt8) (acc : List ByteArray), l.length ≤ L.length → acc.length + l.length ≤ 1000000 → ScanIs l n ts rest →
    (∃ xs, Ev2 (fun k q => scanL k q (mkB l) n) xs ∧ xs.map (·.1) = ts.map mkB ∧ ∀ t0 : Int, (xs ≠ [] ∨ t0 = ((L.length - l.length : Nat) : Int)) → xs.foldl (fun _ p => IntKind.i64.wrap ((a.size : Int) - (p.2.size : Int))) t0 = ((L.length - rest.length : Nat) : Int)) ∧
    (∃ u v, Ev (fun k => ref13_Scan_l1 a k (RS [] 0 acc (mkB l) n)) (.ret, acc ++ ts.map mkB, ((L.length - rest.length : Nat) : Int), u, v)) := by
  intro ts
  induction ts with
  | nil =>
    intro l n rest acc hl hacc h
    obtain ⟨_, h1, h2⟩ := h
    simp only [recsB, List.nil_append] at h1
    subst h1
    have e0 : n + ((([] : List (List UInt8)).length : Nat) : Int) = n := by simp
    rw [e0] at h2
    obtain ⟨s1, s2⟩ := scan_off (by omega) h2
    refine ⟨⟨[], s1, rfl, fun t0 ht => ?_⟩, ?_⟩
    · rcases ht with ht | ht
      · exact absurd rfl ht
      · exact ht
    · have := s2 a [] 0 acc
      have ew : IntKind.i64.wrap ((a.size : Int) - ((mkB l).size : Int)) = ((L.length - l.length : Nat) : Int) := by rw [ha, mkB_size, mkB_size, wrap_id (by omega) (by omega)]; omega
      rw [ew] at this
      rw [List.map_nil, List.append_nil]
      exact ⟨_, _, this⟩
  | cons t ts ih =>
    intro l n rest acc hl hacc h
    obtain ⟨⟨hok, h0⟩, h1, h2⟩ := h
    rw [recsB, List.append_assoc] at h1
    have g1 := (recB_len n t).2
    have g2 := congrArg List.length h1
    rw [List.length_append] at g2
    have h2' : NoRec rest (n + 1 + ts.length) := by rw [List.length_cons, show n + ((ts.length + 1 : Nat) : Int) = n + 1 + ts.length by omega] at h2; exact h2
    obtain ⟨⟨xs, a1, a2, a3⟩, u, v, a4⟩ := ih (recsB (n + 1) ts ++ rest) (n + 1) rest (acc ++ [mkB t]) (by omega) (by rw [List.length_append, List.length_singleton]; omega) ⟨h0, rfl, h2'⟩
    obtain ⟨s1, s2⟩ := scan_on (by omega) hok h1
    refine ⟨⟨_, s1 a1, by rw [List.map_cons, a2]; rfl, fun t0 _ => ?_⟩, ?_⟩
    · rw [List.foldl_cons]
      refine a3 _ (.inr ?_)
      show IntKind.i64.wrap ((a.size : Int) - ((mkB (recsB (n + 1) ts ++ rest)).size : Int)) = _
      rw [ha, mkB_size, mkB_size, wrap_id (by omega) (by omega)]; omega
    · refine ⟨u, v, s2 a [] 0 acc (by omega) ?_⟩
      rw [List.map_cons, show acc ++ mkB t :: ts.map mkB = acc ++ [mkB t] ++ ts.map mkB by simp]
      exact a4
theorem Scan_both {l : List UInt8} {n : Int} {ts : List (List UInt8)} {rest : List UInt8} (hl : l.length ≤ 1000000) (h : ScanIs l n ts rest) : Ev (fun k => record_Scan k (mkB l) n) (scanA l ts rest) ∧ Ev (fun k => ref13_Scan k (mkB l) n) (scanA l ts rest) := by
  obtain ⟨⟨xs, a1, a2, a3⟩, u, v, a4⟩ := scan_runs (mkB l) l hl rfl ts l n rest [] (Nat.le_refl _) (by simpa using hl) h
  constructor
  · obtain ⟨k0, h0⟩ := a1
    have hx : xs.length ≤ 1000000000 := by
      have h1 := congrArg List.length a2
      rw [List.length_map, List.length_map] at h1
      have h2 := (recsB_len n ts 1000 h.1.bd.2).2
      have h3 := congrArg List.length h.2.1
      rw [List.length_append] at h3
      omega
    refine ⟨k0, fun k hk => ?_⟩
    show (scanL k k (mkB l) n).bind _ = _
    have h2 : scanL k k (mkB l) n = some xs := h0 k k hk hk
    rw [h2]
    show (bif decide (xs.length ≤ 1000000000) then some (xs.map (·.1), takenOf (mkB l) xs, ()) else none) = _
    rw [bif_t hx, a2]
    unfold takenOf scanA
    rw [a3 0 (.inr (by omega))]
  · exact Ev.bind a4 (Ev.now _)
end Go.Proofs.Ytoeikeabbdnkbaa.A
/- Of scans and records: what laws above the records need. -/
namespace Go.Proofs.Ytoeikeabbdnkbaa.A
open Go Go.Proofs.Ytoeikeabbdnkbaa.Ab
set_option linter.unusedVariables false
set_option linter.unusedSimpArgs false

theorem all_texts (l : List ByteArray) : ∃ L : List (List UInt8), l = L.map mkB := by
  induction l with
  | nil => exact ⟨[], rfl⟩
  | cons x l ih => obtain ⟨L, rfl⟩ := ih; obtain ⟨t, rfl⟩ := all_text x; exact ⟨t :: L, rfl⟩
theorem Texts_l (l : List ByteArray) (hl : l.length ≤ 1000000) (d : Nat) : ∀ i : Nat, i + d = l.length → Ev (fun k => ref01_Texts_l1 l l k (false, (i : Int), ())) (.exit 0, false, (l.length : Int), ()) := by
  induction d with
  | zero =>
    intro i hi
    obtain rfl : i = l.length := by omega
    exact Ev.step (Ev.df (by show ¬ (l.length : Int) < l.length; omega) (Ev.now _))
  | succ d ih =>
    intro i hi
    have c0 : (i : Int) < (l.length : Int) := by omega
    have c1 : (0 : Int) ≤ (i : Int) := by omega
    have ih := ih (i + 1) (by omega)
    rw [← wrap_succ (by omega)] at ih
    exact Ev.step (Ev.dt c0 (Ev.dt c1 (Ev.dt c0 (Ev.dt c1 (Ev.dt c0 (Ev.f (by simp) ih))))))
theorem Texts_ok (l : List ByteArray) (hl : l.length ≤ 1000000) : Ev (fun k => ref01_Texts k l l) (true, ()) :=
  Ev.f (nbeq_i rfl) (Ev.bind (Texts_l l hl l.length 0 (by omega)) (Ev.t rfl (Ev.now _)))
theorem getD_mid (p : List (List UInt8)) (t : List UInt8) (q : List (List UInt8)) : ((p ++ t :: q).map mkB).getD (Int.toNat (p.length : Int)) Ty.str.zero = mkB t := by
  rw [getD_z _ p.length (by simp)]
  simp
theorem put_good {n : Int} {t : List UInt8} (h0 : 0 ≤ n) (h1 : n ≤ 1000000000) (h2 : t.length ≤ 1000) : RecPutA n t = (mkB (recB n t), 0, ()) := by
  unfold RecPutA; rw [if_neg (by omega), if_neg (by omega)]
theorem put_long {n : Int} {t : List UInt8} (h0 : 0 ≤ n) (h1 : n ≤ 1000000000) (h2 : ¬ t.length ≤ 1000) : RecPutA n t = (EB, 2, ()) := by
  unfold RecPutA; rw [if_neg (by omega), if_pos (by omega)]
section
variable {m : Int} {s t : ByteArray} {n : Int} {ts : List (List UInt8)} {rest : List UInt8}
theorem scan_len {l : List UInt8} (h : ScanIs l n ts rest) : l.length = (recsB n ts).length + rest.length ∧ (recsB n ts).length = l.length - rest.length ∧ ts.length ≤ l.length := by
  have h1 := congrArg List.length h.2.1
  rw [List.length_append] at h1
  have := (recsB_len n ts 1000 h.1.bd.2).2
  omega
theorem scan_of (hs : s.size ≤ 100000) (ht : t.size ≤ 100000) (h : ScanIs (s ++ t).data.toList n ts rest) :
    Ev (fun k => record_Scan k (s ++ t) n) (ts.map mkB, (((recsB n ts).length : Nat) : Int), ()) ∧ Ev (fun k => ref13_Scan k (s ++ t) n) (ts.map mkB, (((recsB n ts).length : Nat) : Int), ()) := by
  have hz : (s ++ t).data.toList.length ≤ 1000000 := by rw [size_toList, ByteArray.size_append]; omega
  have := Scan_both hz h
  unfold scanA at this
  rwa [mkB_of, ← (scan_len h).2.1] at this
end
theorem scan_ex (l : ByteArray) (n : Int) (h : l.size ≤ 1000000) : ∃ ts rest, ScanIs l.data.toList n ts rest := scan_all l.size l.data.toList n (by rw [size_toList]; omega) (by rw [size_toList]; exact h)
theorem noRec_nil (n : Int) : NoRec [] n := fun s q _ e => by
  have := (recB_len n s).2
  have h2 := congrArg List.length e
  rw [List.length_append] at h2; simp at h2; omega
theorem scan_whole {n : Int} {ts : List (List UInt8)} (h : recsOk n ts) : ScanIs (recsB n ts) n ts [] := ⟨h, (List.append_nil _).symm, noRec_nil _⟩
theorem scan_behind {n : Int} {a ts : List (List UInt8)} {l rest : List UInt8} (h : recsOk n a) (k : ScanIs l (n + a.length) ts rest) : ScanIs (recsB n a ++ l) n (a ++ ts) rest := by
  refine ⟨(recsOk_app n a ts).2 ⟨h, k.1⟩, by rw [k.2.1, recsB_app, List.append_assoc], ?_⟩
  rw [List.length_append, show n + ((a.length + ts.length : Nat) : Int) = n + a.length + ts.length by omega]
  exact k.2.2
theorem scan_part {n : Int} {L : List (List UInt8)} (h : recsOk n L) (j : Nat) : ∃ i rest, i ≤ L.length ∧ ScanIs ((recsB n L).take j) n (L.take i) rest := by
  induction L generalizing n j with
  | nil => exact ⟨0, [], Nat.le_refl _, by rw [recsB, List.take_nil, List.take_nil]; exact ⟨trivial, rfl, noRec_nil _⟩⟩
  | cons t L ih =>
    rw [recsB, List.take_append]
    rcases Nat.lt_or_ge j (recB n t).length with hj | hj
    · refine ⟨0, _, Nat.zero_le _, trivial, rfl, ?_⟩
      intro s q hs e
      have e0 : n + (((List.take 0 (t :: L)).length : Nat) : Int) = n := by simp
      rw [e0] at hs e
      rw [Nat.sub_eq_zero_of_le (by omega), List.take_zero] at e
      have e : (recB n t).take j ++ [] = recB n s ++ q := e
      rw [List.append_nil] at e
      have e1 : recB n t ++ [] = recB n s ++ (q ++ (recB n t).drop j) := by rw [← List.append_assoc, ← e, List.take_append_drop, List.append_nil]
      obtain ⟨_, _, e2⟩ := rec_one h.1 hs e1
      have := congrArg List.length e2
      rw [List.length_append, List.length_drop] at this
      simp at this; omega
    · obtain ⟨i, rest, hi, k1, k2, k3⟩ := ih h.2 (j - (recB n t).length)
      refine ⟨i + 1, rest, by simp; omega, ⟨h.1, k1⟩, ?_, ?_⟩
      · rw [List.take_of_length_le hj, List.take_succ_cons, recsB, List.append_assoc, ← k2]
      · rw [List.take_succ_cons, List.length_cons, show n + (((L.take i).length + 1 : Nat) : Int) = n + 1 + (L.take i).length by omega]
        exact k3
theorem same3 (x : FT) : (x.1 == x.1 && (x.2.1.toList == x.2.1.toList && (x.2.2.1.toList == x.2.2.1.toList && true))) = true := by simp
theorem two_app (a b : List UInt8) : (mkB a ++ mkB b).data.toList = a ++ b := by rw [mkB_append]; rfl

end Go.Proofs.Ytoeikeabbdnkbaa.A
