/- The law FileDoes, of data alone: what the file answers is what the document answers. -/
import Derived.Test.YtaadndikbecdbaaFnFileDoes
import Derived.Test.YtaadndikbecdbaaAPlain
import Derived.KernelRfl
namespace Go.Proofs.Ytaadndikbecdbaa.Pure
open Go Go.Proofs.Ytaadndikbecdbaa.Ab Go.Proofs.Ytaadndikbecdbaa.A
set_option linter.unusedVariables false
set_option linter.unusedSimpArgs false

abbrev FT := Int × (ByteArray × (ByteArray × Unit))
abbrev F (m : Int) (s t : ByteArray) : FT := (m, s, t, ())
def okF (m : Int) (s t : ByteArray) : Bool := decide (1 ≤ m ∧ m ≤ 4000 ∧ ((s.size + t.size : Nat) : Int) ≤ m)
section
variable (k : Nat) (m : Int) (s t : ByteArray)
theorem all_ok (hs : s.size ≤ 1000000) (ht : t.size ≤ 1000000) : file_bytes_all k (F m s t) = some (s ++ t, ()) := by
  unfold file_bytes_all; exact bif_t (by show s.size + t.size ≤ _; omega) _ _
theorem read_ok (hs : s.size ≤ 1000000) (ht : t.size ≤ 1000000) : ref12_Read k (F m s t) = some (s ++ t, ()) := by
  unfold ref12_Read; exact bif_t (by show s.size + t.size ≤ _; omega) _ _
theorem may_ok (hs : s.size ≤ 1000000) (ht : t.size ≤ 1000000) : file_bytes_may k (F m s t) = some (okF m s t, ()) := by
  unfold file_bytes_may okF
  show (bif decide (m ≥ 1) then bif decide (m ≤ 4000) then (file_bytes_all k (F m s t)).bind _ else _ else _) = _
  rw [all_ok k m s t hs ht]
  by_cases h1 : m ≥ 1
  · rw [bif_t h1]
    by_cases h2 : m ≤ 4000
    · rw [bif_t h2]
      show some (decide (((s ++ t).size : Int) ≤ m), ()) = _
      rw [ByteArray.size_append]
      congr 2
      rw [decide_eq_decide]; constructor <;> intro h <;> omega
    · rw [bif_f h2, decide_eq_false (by omega)]
  · rw [bif_f h1, decide_eq_false (by omega)]
theorem is_ok (hs : s.size ≤ 1000000) (ht : t.size ≤ 1000000) : ref12_Is k (F m s t) = some (okF m s t, ()) := by
  unfold ref12_Is okF
  show (bif decide (m ≥ 1) then bif decide (m ≤ 4000) then some (decide (IntKind.i64.wrap ((s.size : Int) + (t.size : Int)) ≤ m), ()) else _ else _) = _
  rw [wrap_id (by omega) (by omega)]
  by_cases h1 : m ≥ 1
  · rw [bif_t h1]
    by_cases h2 : m ≤ 4000
    · rw [bif_t h2]
      congr 2
      rw [decide_eq_decide]; constructor <;> intro h <;> omega
    · rw [bif_f h2, decide_eq_false (by omega)]
  · rw [bif_f h1, decide_eq_false (by omega)]
theorem right_ok (hs : s.size ≤ 1000000) (ht : t.size ≤ 1000000) : file_right k (F m s t) = some (bif okF m s t then (F m s t, 0, ()) else (F 0 EB EB, 1, ())) := by
  unfold file_right
  show (file_bytes_may k (F m s t)).bind _ = _
  rw [may_ok k m s t hs ht]
  cases okF m s t <;> rfl
theorem okF_bd {m : Int} {s t : ByteArray} (h : okF m s t = true) : 1 ≤ m ∧ m ≤ 4000 ∧ ((s.size + t.size : Nat) : Int) ≤ m := of_decide_eq_true h
theorem Add_ok (hs : s.size ≤ 1000000) (ht : t.size ≤ 1000000) (l : List ByteArray) (h0 : l.length ≤ 60) (h1 : (cat l).size ≤ 20000) :
    file_Add k (F m s t) l = some (bif okF m s t then (bif okF m s (t ++ cat l) then (F m s (t ++ cat l), 0, ()) else (F 0 EB EB, 81, ())) else (F 0 EB EB, 1, ())) := by
  unfold file_Add
  show (file_right k (F m s t)).bind _ = _
  rw [right_ok k m s t hs ht]
  cases h : okF m s t
  · rfl
  · have hb := okF_bd h
    show (strings_Join k l EB).bind _ = _
    rw [Join_ok k l (by omega) (by omega)]
    show (bif decide (t.size + (cat l).size ≤ 9223372036854775807) then (file_bytes_may k (F m s (t ++ cat l))).bind _ else none) = _
    rw [bif_t (by omega), may_ok k m s _ hs (by rw [ByteArray.size_append]; omega)]
    cases okF m s (t ++ cat l) <;> rfl
theorem add_loop (l : List ByteArray) (hl : l.length ≤ 60) (hx : ∀ x ∈ l, x.size ≤ 300) (hs : s.size ≤ 1000000) : ∀ (d i kk : Nat) (p : ByteArray), l.length - i = d → i ≤ l.length → d < kk → okF m s p = true →
    ∃ j X, ref12_Add_l1 l kk (0, (i : Int), F 0 EB EB, F m s p, ()) = some (bif okF m s (p ++ cat (l.drop i)) then (AExit.exit 0, 0, (l.length : Int), F 0 EB EB, F m s (p ++ cat (l.drop i)), ()) else (AExit.ret, 81, j, F 0 EB EB, X, ())) := by
  intro d
  induction d with
  | zero =>
    intro i kk p hd hi hk hp
    obtain ⟨kk, rfl⟩ : ∃ q, kk = q + 1 := ⟨kk - 1, by omega⟩
    have e : i = l.length := by omega
    subst e
    refine ⟨0, F 0 EB EB, ?_⟩
    unfold ref12_Add_l1
    rw [rec1_succ]
    dsimp only
    rw [bif_f (by omega), List.drop_length, cat_nil, app_E, hp]
    rfl
  | succ d ih =>
    intro i kk p hd hi hk hp
    obtain ⟨kk, rfl⟩ : ∃ q, kk = q + 1 := ⟨kk - 1, by omega⟩
    have hlt : i < l.length := by omega
    have hb := okF_bd hp
    have hxi := hx _ (List.getElem_mem hlt)
    have hdrop : cat (l.drop i) = l[i] ++ cat (l.drop (i + 1)) := by rw [List.drop_eq_getElem_cons hlt, cat_cons]
    have step : ∀ (g : okF m s (p ++ l[i]) = true), ref12_Add_l1 l (kk + 1) (0, (i : Int), F 0 EB EB, F m s p, ()) = ref12_Add_l1 l kk (0, ((i + 1 : Nat) : Int), F 0 EB EB, F m s (p ++ l[i]), ()) := by
      intro g
      have gb := okF_bd g
      rw [ByteArray.size_append] at gb
      unfold ref12_Add_l1
      rw [rec1_succ]
      dsimp only
      rw [getD_z l i hlt]
      rw [bif_t (by omega), bif_t (by omega), bif_t (by omega), wrap_id (n := ((s.size : Nat) : Int) + ((p.size : Nat) : Int)) (by omega) (by omega), wrap_id (n := _ + ((l[i].size : Nat) : Int)) (by omega) (by omega), bif_f (by omega), bif_t (by omega), bif_t (by omega), bif_t (by omega), wrap_id (by omega) (by omega)]
      rfl
    cases g : okF m s (p ++ l[i])
    · have hno : okF m s (p ++ cat (l.drop i)) = false := by
        have g' := of_decide_eq_false g
        refine decide_eq_false ?_
        rw [hdrop, ByteArray.size_append, ByteArray.size_append]
        rw [ByteArray.size_append] at g'
        omega
      have g' := of_decide_eq_false g
      rw [ByteArray.size_append] at g'
      refine ⟨(i : Int), F m s p, ?_⟩
      rw [hno]
      unfold ref12_Add_l1
      rw [rec1_succ]
      dsimp only
      rw [getD_z l i hlt]
      rw [bif_t (by omega), bif_t (by omega), bif_t (by omega), wrap_id (n := ((s.size : Nat) : Int) + ((p.size : Nat) : Int)) (by omega) (by omega), wrap_id (n := _ + ((l[i].size : Nat) : Int)) (by omega) (by omega), bif_t (by omega)]
      rfl
    · rw [step g, hdrop, ← app_assoc]
      exact ih (i + 1) kk _ (by omega) (by omega) (by omega) g
theorem refAdd_ok (hs : s.size ≤ 1000000) (ht : t.size ≤ 1000000) (l : List ByteArray) (hl : l.length ≤ 60) (hx : ∀ x ∈ l, x.size ≤ 300) (hk : l.length < k) :
    ref12_Add k (F m s t) l = some (bif okF m s t then (bif okF m s (t ++ cat l) then (F m s (t ++ cat l), 0, ()) else (F 0 EB EB, 81, ())) else (F 0 EB EB, 1, ())) := by
  unfold ref12_Add
  show (ref12_Is k (F m s t)).bind _ = _
  rw [is_ok k m s t hs ht]
  cases h : okF m s t
  · rfl
  · obtain ⟨j, X, he⟩ := add_loop m s l hl hx hs l.length 0 k t (by omega) (by omega) hk h
    rw [List.drop_zero] at he
    show (ref12_Add_l1 l k (0, ((0 : Nat) : Int), F 0 EB EB, F m s t, ())).bind _ = _
    rw [he]
    cases okF m s (t ++ cat l) <;> rfl
theorem kept_ok (hs : s.size ≤ 1000000) (ht : t.size ≤ 1000000) (n : Nat) (hn : n ≤ s.size + t.size) : file_bytes_kept k (F m s t) (n : Int) = some (F m ((s ++ t).extract 0 n) EB, ()) := by
  unfold file_bytes_kept
  show (file_bytes_all k (F m s t)).bind _ = _
  rw [all_ok k m s t hs ht]
  show (bif decide ((0 : Int) ≤ (n : Int)) then (bif decide ((n : Int) ≤ ((s ++ t).size : Int)) then _ else none) else none) = _
  rw [bif_t (by omega), bif_t (by rw [ByteArray.size_append]; omega)]
  rfl
theorem ext_all (a : ByteArray) : a.extract 0 a.size = a := bytes_inj (by rw [bytes_extract, List.drop_zero, List.take_of_length_le (by rw [size_toList]; omega)])
theorem Sync_ok (hs : s.size ≤ 1000000) (ht : t.size ≤ 1000000) : ∃ v, file_Sync k (F m s t) = some v ∧ ref12_Sync k (F m s t) = some v := by
  unfold file_Sync ref12_Sync
  show ∃ v, (file_right k (F m s t)).bind _ = _ ∧ (ref12_Is k (F m s t)).bind _ = _
  rw [right_ok k m s t hs ht, is_ok k m s t hs ht]
  cases h : okF m s t
  · exact ⟨(F 0 EB EB, 1, ()), rfl, rfl⟩
  · refine ⟨(F m (s ++ t) EB, 0, ()), ?_, ?_⟩
    · show (file_bytes_all k (F m s t)).bind _ = _
      rw [all_ok k m s t hs ht]
      show (file_bytes_kept k (F m s t) ((s ++ t).size : Int)).bind _ = _
      rw [kept_ok k m s t hs ht _ (by rw [ByteArray.size_append]; omega), ext_all]
      rfl
    · show (ref12_Read k (F m s t)).bind _ = _
      rw [read_ok k m s t hs ht]
      rfl
theorem mid (a : Int) (n : Nat) : 0 ≤ imin (imax a 0) (n : Int) ∧ imin (imax a 0) (n : Int) ≤ n := by
  unfold imin imax
  by_cases h1 : (0 : Int) > a
  · rw [bif_t h1]
    by_cases h2 : (n : Int) < 0
    · omega
    · rw [bif_f h2]; omega
  · rw [bif_f h1]
    by_cases h2 : (n : Int) < a
    · rw [bif_t h2]; omega
    · rw [bif_f h2]; omega
theorem ext_app (a b : ByteArray) (n : Nat) : (a ++ b).extract 0 (a.size + n) = a ++ b.extract 0 n := bytes_inj (by
  rw [bytes_append, bytes_extract, bytes_extract, bytes_append, List.drop_zero, List.drop_zero, List.take_append, List.take_of_length_le (by rw [size_toList]; omega), size_toList, Nat.add_sub_cancel_left])
theorem Crash_ok (hs : s.size ≤ 1000000) (ht : t.size ≤ 1000000) (a : Int) : ∃ v, file_Crash k (F m s t) a = some v ∧ ref12_Crash k (F m s t) a = some v := by
  unfold file_Crash ref12_Crash
  show ∃ v, (file_right k (F m s t)).bind _ = _ ∧ (ref12_Is k (F m s t)).bind _ = _
  rw [right_ok k m s t hs ht, is_ok k m s t hs ht]
  cases h : okF m s t
  · exact ⟨(F 0 EB EB, 1, ()), rfl, rfl⟩
  · obtain ⟨c0, c1⟩ := mid a t.size
    obtain ⟨c, hc⟩ : ∃ c : Nat, imin (imax a 0) (t.size : Int) = (c : Int) := ⟨_, (Int.toNat_of_nonneg c0).symm⟩
    refine ⟨(F m (s ++ t.extract 0 c) EB, 0, ()), ?_, ?_⟩
    · show (file_bytes_kept k (F m s t) (IntKind.i64.wrap ((s.size : Int) + imin (imax a 0) (t.size : Int)))).bind _ = _
      rw [hc, wrap_id (by omega) (by omega)]
      show (file_bytes_kept k (F m s t) ((s.size + c : Nat) : Int)).bind _ = _
      rw [kept_ok k m s t hs ht _ (by omega), ext_app]
      rfl
    · show (bif decide (0 ≤ imin (imax a 0) (t.size : Int)) then (bif decide (imin (imax a 0) (t.size : Int) ≤ (t.size : Int)) then (bif decide (s.size + (ByteArray.extract t 0 (imin (imax a 0) (t.size : Int)).toNat).size ≤ 9223372036854775807) then some (F m (s ++ ByteArray.extract t 0 (imin (imax a 0) (t.size : Int)).toNat) EB, (0 : Int), ()) else none) else none) else none) = _
      rw [bif_t c0, bif_t c1, hc, Int.toNat_natCast, bif_t (by rw [ByteArray.size_extract]; omega)]
theorem Cut_ok (hs : s.size ≤ 1000000) (ht : t.size ≤ 1000000) (a : Int) : ∃ v, file_Cut k (F m s t) a = some v ∧ ref12_Cut k (F m s t) a = some v := by
  unfold file_Cut ref12_Cut
  show ∃ v, (file_right k (F m s t)).bind _ = _ ∧ (ref12_Is k (F m s t)).bind _ = _
  rw [right_ok k m s t hs ht, is_ok k m s t hs ht]
  cases h : okF m s t
  · exact ⟨(F 0 EB EB, 1, ()), rfl, rfl⟩
  · show ∃ v, (bif decide (a < 0) then _ else (file_bytes_all k (F m s t)).bind _) = _ ∧ (bif decide (a < 0) then _ else (ref12_Read k (F m s t)).bind _) = _
    rw [all_ok k m s t hs ht, read_ok k m s t hs ht]
    by_cases h1 : a < 0
    · rw [bif_t h1, bif_t h1]; exact ⟨_, rfl, rfl⟩
    · rw [bif_f h1, bif_f h1]
      show ∃ v, (bif decide (a > ((s ++ t).size : Int)) then _ else (file_bytes_kept k (F m s t) a).bind _) = _ ∧ (bif decide (a > ((s ++ t).size : Int)) then _ else (some (s ++ t, ())).bind _) = _
      by_cases h2 : a > ((s ++ t).size : Int)
      · rw [bif_t h2, bif_t h2]; exact ⟨_, rfl, rfl⟩
      · rw [bif_f h2, bif_f h2]
        obtain ⟨c, rfl⟩ : ∃ c : Nat, a = (c : Int) := ⟨_, (Int.toNat_of_nonneg (by omega)).symm⟩
        have hz := ByteArray.size_append (a := s) (b := t)
        rw [kept_ok k m s t hs ht _ (by omega)]
        refine ⟨(F m ((s ++ t).extract 0 c) EB, 0, ()), rfl, ?_⟩
        show (bif decide ((0 : Int) ≤ (c : Int)) then (bif decide ((c : Int) ≤ ((s ++ t).size : Int)) then _ else none) else none) = _
        rw [bif_t (by omega), bif_t (by omega)]
        rfl
theorem New_ok (a : Int) : ∃ v, file_New k a = some v ∧ ref12_New k a = some v := by
  have e : file_New k a = ref12_New k a := rfl
  rw [e]
  unfold ref12_New
  by_cases h1 : a < 1
  · rw [bif_t h1]; exact ⟨_, rfl, rfl⟩
  · rw [bif_f h1]
    by_cases h2 : a > 4000
    · rw [bif_t h2]; exact ⟨_, rfl, rfl⟩
    · rw [bif_f h2]; exact ⟨_, rfl, rfl⟩
theorem Is_ok (hs : s.size ≤ 1000000) (ht : t.size ≤ 1000000) : file_Is k (F m s t) = some (okF m s t, ()) := by
  unfold file_Is
  show (file_bytes_may k (F m s t)).bind _ = _
  rw [may_ok k m s t hs ht]; rfl
theorem Read_ok (hs : s.size ≤ 1000000) (ht : t.size ≤ 1000000) : file_Read k (F m s t) = some (s ++ t, ()) := by
  unfold file_Read
  show (file_bytes_all k (F m s t)).bind _ = _
  rw [all_ok k m s t hs ht]; rfl
theorem Own_ok (l : List ByteArray) (h : l.length ≤ 1000000) : ref01_OwnTexts k l = some (l, ()) := by
  unfold ref01_OwnTexts
  cases l with
  | nil => rfl
  | cons x l => exact bif_t (by show (x :: l).length * 16 ≤ _; omega) _ _
theorem texts_loop (l : List ByteArray) (hl : l.length ≤ 1000000) : ∀ (d i kk : Nat), l.length - i = d → i ≤ l.length → d < kk → ref01_Texts_l1 l l kk (false, (i : Int), ()) = some (AExit.exit 0, false, (l.length : Int), ()) := by
  intro d
  induction d with
  | zero =>
    intro i kk hd hi hk
    obtain ⟨kk, rfl⟩ : ∃ q, kk = q + 1 := ⟨kk - 1, by omega⟩
    have e : i = l.length := by omega
    subst e
    unfold ref01_Texts_l1
    rw [rec1_succ]
    dsimp only
    rw [bif_f (by omega)]
  | succ d ih =>
    intro i kk hd hi hk
    obtain ⟨kk, rfl⟩ : ∃ q, kk = q + 1 := ⟨kk - 1, by omega⟩
    have hlt : i < l.length := by omega
    rw [← ih (i + 1) kk (by omega) (by omega) (by omega)]
    unfold ref01_Texts_l1
    rw [rec1_succ]
    dsimp only
    rw [beq_self_eq_true, bif_t (by omega), bif_t (by omega), bif_t (by omega), bif_t (by omega), bif_t (by omega), wrap_id (by omega) (by omega)]
    rfl
theorem Texts_ok (l : List ByteArray) (hl : l.length ≤ 1000000) (hk : l.length < k) : ref01_Texts k l l = some (true, ()) := by
  unfold ref01_Texts
  rw [bne_self_eq_false]
  show (ref01_Texts_l1 l l k (false, ((0 : Nat) : Int), ())).bind _ = _
  rw [texts_loop l hl l.length 0 k (by omega) (by omega) hk]
  rfl
theorem short_loop (l : List ByteArray) (hl : l.length ≤ 9223372036854775807) : ∀ (d i kk : Nat), l.length - i = d → i ≤ l.length → d < kk →
    (ref01_Short_l1 l kk (false, (i : Int), ()) = some (AExit.exit 0, false, (l.length : Int), ()) ∧ ∀ x ∈ l.drop i, x.size ≤ 300) ∨ ∃ j, ref01_Short_l1 l kk (false, (i : Int), ()) = some (AExit.ret, false, j, ()) := by
  intro d
  induction d with
  | zero =>
    intro i kk hd hi hk
    obtain ⟨kk, rfl⟩ : ∃ q, kk = q + 1 := ⟨kk - 1, by omega⟩
    have e : i = l.length := by omega
    subst e
    refine .inl ⟨?_, by rw [List.drop_length]; simp⟩
    unfold ref01_Short_l1
    rw [rec1_succ]
    dsimp only
    rw [bif_f (by omega)]
  | succ d ih =>
    intro i kk hd hi hk
    obtain ⟨kk, rfl⟩ : ∃ q, kk = q + 1 := ⟨kk - 1, by omega⟩
    have hlt : i < l.length := by omega
    by_cases hx : ((l[i].size : Nat) : Int) > 300
    · refine .inr ⟨(i : Int), ?_⟩
      unfold ref01_Short_l1
      rw [rec1_succ]
      dsimp only
      rw [getD_z l i hlt, bif_t (by omega), bif_t (by omega), bif_t (by omega), bif_t hx]
    · have step : ref01_Short_l1 l (kk + 1) (false, (i : Int), ()) = ref01_Short_l1 l kk (false, ((i + 1 : Nat) : Int), ()) := by
        unfold ref01_Short_l1
        rw [rec1_succ]
        dsimp only
        rw [getD_z l i hlt, bif_t (by omega), bif_t (by omega), bif_t (by omega), bif_f hx, wrap_id (by omega) (by omega)]
        rfl
      rw [step]
      rcases ih (i + 1) kk (by omega) (by omega) (by omega) with ⟨h1, h2⟩ | h1
      · refine .inl ⟨h1, fun x hm => ?_⟩
        rw [List.drop_eq_getElem_cons hlt] at hm
        rcases List.mem_cons.1 hm with rfl | hm
        · omega
        · exact h2 x hm
      · exact .inr h1
theorem far_ok (l : List ByteArray) (hl : l.length ≤ 9223372036854775807) (hk : l.length < k) : ∃ b, law12_far k l = some (b, ()) ∧ (b = false → l.length ≤ 60 ∧ ∀ x ∈ l, x.size ≤ 300) := by
  unfold law12_far ref01_Short
  show ∃ b, ((ref01_Short_l1 l k (false, ((0 : Nat) : Int), ())).bind _).bind _ = _ ∧ _
  rcases short_loop l hl l.length 0 k (by omega) (by omega) hk with ⟨h1, h2⟩ | ⟨j, h1⟩
  · rw [h1]
    refine ⟨!decide ((l.length : Int) ≤ 60), rfl, fun h => ?_⟩
    have : (l.length : Int) ≤ 60 := of_decide_eq_true (by simpa using h)
    exact ⟨by omega, by rw [List.drop_zero] at h2; exact h2⟩
  · rw [h1]
    exact ⟨true, rfl, fun h => by cases h⟩
theorem big_ok : ∃ b, ref12_Big k (F m s t) = some (b, ()) ∧ (b = false → s.size ≤ 2000 ∧ t.size ≤ 2000) := by
  unfold ref12_Big
  show ∃ b, (bif decide ((s.size : Int) > 2000) then some (true, ()) else some (decide ((t.size : Int) > 2000), ())) = _ ∧ _
  by_cases h : (s.size : Int) > 2000
  · rw [bif_t h]; exact ⟨true, rfl, fun h => by cases h⟩
  · rw [bif_f h]; exact ⟨_, rfl, fun g => by have := of_decide_eq_false g; omega⟩
theorem filed_ok : law12_filed k = some (true, ()) := by kernel_rfl
end
/-- The law. -/
theorem FileDoes : ∀ (a0 : (Int × (ByteArray × (ByteArray × Unit)))) (a1 : (List ByteArray)) (a2 : Int), bnd (.cons (.int .i64) (.cons .str (.cons .str .nil))) a0 → bnd (.sl .str) a1 → (Lit.int .i64 a2).wf = true → ∃ k, law12_FileDoes k a0 a1 a2 = some (true, ()) := by
  rintro ⟨m, s, t, _⟩ l a _ hb1 _
  have hlen : l.length ≤ 9223372036854775807 := Nat.le_trans hb1.1 (by decide)
  refine ⟨l.length + 1, ?_⟩
  generalize hk : l.length + 1 = k
  unfold law12_FileDoes
  show (ref12_Big k (F m s t)).bind _ = _
  obtain ⟨b, h1, hB⟩ := big_ok k m s t
  rw [h1]
  cases b with
  | true => rfl
  | false =>
    obtain ⟨hs', ht'⟩ := hB rfl
    have hs : s.size ≤ 1000000 := by omega
    have ht : t.size ≤ 1000000 := by omega
    show (law12_far k l).bind _ = _
    obtain ⟨b, h2, hF⟩ := far_ok k l hlen (by omega)
    rw [h2]
    cases b with
    | true => rfl
    | false =>
      obtain ⟨hl, hx⟩ := hF rfl
      have hcat : (cat l).size ≤ 20000 := by have := cat_size_le l 300 hx; omega
      obtain ⟨v1, c1, c2⟩ := Sync_ok k m s t hs ht
      obtain ⟨v2, c3, c4⟩ := Crash_ok k m s t hs ht a
      obtain ⟨v3, c5, c6⟩ := Cut_ok k m s t hs ht a
      obtain ⟨v4, c7, c8⟩ := New_ok k a
      show (ref01_OwnTexts k l).bind _ = _
      simp only [Own_ok k l (by omega), Add_ok k m s t hs ht l hl hcat, refAdd_ok k m s t hs ht l hl hx (by omega), c1, c2, c3, c4, c5, c6, c7, c8, filed_ok, Is_ok k m s t hs ht, is_ok k m s t hs ht, Read_ok k m s t hs ht, read_ok k m s t hs ht, Texts_ok k l (by omega) (by omega), Option.bind_some, beq_self_eq_true, Bool.and_self, cond_true, cond_false]
end Go.Proofs.Ytaadndikbecdbaa.Pure
