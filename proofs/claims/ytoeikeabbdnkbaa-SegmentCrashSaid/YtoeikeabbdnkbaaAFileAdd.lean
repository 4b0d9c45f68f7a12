/- Files: what is added, and cut. -/
import Derived.Test.YtoeikeabbdnkbaaFnSegR
import Derived.Test.YtoeikeabbdnkbaaAFileThy
namespace Go.Proofs.Ytoeikeabbdnkbaa.A
open Go Go.Proofs.Ytoeikeabbdnkbaa.Ab
set_option linter.unusedVariables false
set_option linter.unusedSimpArgs false

/-- What a file becomes with more behind it. -/
def addF (m : Int) (s t c : ByteArray) : FT × Int × Unit := bif okF m s t then (bif okF m s (t ++ c) then (F m s (t ++ c), 0, ()) else (F 0 EB EB, 81, ())) else (F 0 EB EB, 1, ())
/-- What a file becomes that is cut. -/
def cutF (m : Int) (s t : ByteArray) (a : Int) : FT × Int × Unit := bif okF m s t then (if a < 0 ∨ a > ((s.size + t.size : Nat) : Int) then (F 0 EB EB, 1, ()) else (F m ((s ++ t).extract 0 a.toNat) EB, 0, ())) else (F 0 EB EB, 1, ())
section
variable (k : Nat) (m : Int) (s t : ByteArray)
theorem Add_ok (hs : s.size ≤ 1000000) (ht : t.size ≤ 1000000) (l : List ByteArray) (h0 : l.length ≤ 100) (h1 : (cat l).size ≤ 900000) : file_Add k (F m s t) l = some (addF m s t (cat l)) := by
  unfold file_Add addF
  show (file_right k (F m s t)).bind _ = _
  rw [right_ok k m s t hs ht]
  cases h : okF m s t
  · rfl
  · have hb := okF_bd h
    show (strings_Join k l EB).bind _ = _
    rw [Join_ok k l (by omega) (by omega)]
    have g : t.size + (cat l).size ≤ 9223372036854775807 := by omega
    refine (bif_t g _ _).trans ?_
    show (file_bytes_may k (F m s (t ++ cat l))).bind _ = _
    rw [may_ok k m s _ hs (by rw [ByteArray.size_append]; omega)]
    cases okF m s (t ++ cat l) <;> rfl
theorem add_loop (l : List ByteArray) (hl : l.length ≤ 100) (hx : ∀ x ∈ l, x.size ≤ 2000) (hs : s.size ≤ 1000000) : ∀ (d i kk : Nat) (p : ByteArray), l.length - i = d → i ≤ l.length → d < kk → okF m s p = true →
    ∃ j X, ref12_Add_l1 l kk (0, (i : Int), F 0 EB EB, F m s p, ()) = some (bif okF m s (p ++ cat (l.drop i)) then (AExit.exit 0, 0, (l.length : Int), F 0 EB EB, F m s (p ++ cat (l.drop i)), ()) else (AExit.ret, 81, j, F 0 EB EB, X, ())) := by
  intro d
  induction d with
  | zero =>
    intro i kk p hd hi hk hp
    obtain ⟨kk, rfl⟩ : ∃ q, kk = q + 1 := ⟨kk - 1, by omega⟩
    have e : i = l.length := by omega
    subst e
    refine ⟨0, F 0 EB EB, ?_⟩
    unfold ref12_Add_l1
    rw [rec1_succ]
    dsimp only
    rw [bif_f (by omega), List.drop_length, cat_nil, app_E, hp]
    rfl
  | succ d ih =>
    intro i kk p hd hi hk hp
    obtain ⟨kk, rfl⟩ : ∃ q, kk = q + 1 := ⟨kk - 1, by omega⟩
    have hlt : i < l.length := by omega
    have hb := okF_bd hp
    have hxi := hx _ (List.getElem_mem hlt)
    have hdrop : cat (l.drop i) = l[i] ++ cat (l.drop (i + 1)) := by rw [List.drop_eq_getElem_cons hlt, cat_cons]
    have step : ∀ (g : okF m s (p ++ l[i]) = true), ref12_Add_l1 l (kk + 1) (0, (i : Int), F 0 EB EB, F m s p, ()) = ref12_Add_l1 l kk (0, ((i + 1 : Nat) : Int), F 0 EB EB, F m s (p ++ l[i]), ()) := by
      intro g
      have gb := okF_bd g
      rw [ByteArray.size_append] at gb
      unfold ref12_Add_l1
      rw [rec1_succ]
      dsimp only
      rw [getD_z l i hlt]
      rw [bif_t (by omega), bif_t (by omega), bif_t (by omega), wrap_id (n := ((s.size : Nat) : Int) + ((p.size : Nat) : Int)) (by omega) (by omega), wrap_id (n := _ + ((l[i].size : Nat) : Int)) (by omega) (by omega), bif_f (by omega), bif_t (by omega), bif_t (by omega), bif_t (by omega), wrap_id (by omega) (by omega)]
      rfl
    cases g : okF m s (p ++ l[i])
    · have hno : okF m s (p ++ cat (l.drop i)) = false := by
        have g' := of_decide_eq_false g
        refine decide_eq_false ?_
        rw [hdrop, ByteArray.size_append, ByteArray.size_append]
        rw [ByteArray.size_append] at g'
        omega
      have g' := of_decide_eq_false g
      rw [ByteArray.size_append] at g'
      refine ⟨(i : Int), F m s p, ?_⟩
      rw [hno]
      unfold ref12_Add_l1
      rw [rec1_succ]
      dsimp only
      rw [getD_z l i hlt]
      rw [bif_t (by omega), bif_t (by omega), bif_t (by omega), wrap_id (n := ((s.size : Nat) : Int) + ((p.size : Nat) : Int)) (by omega) (by omega), wrap_id (n := _ + ((l[i].size : Nat) : Int)) (by omega) (by omega), bif_t (by omega)]
      rfl
    · rw [step g, hdrop, ← app_assoc]
      exact ih (i + 1) kk _ (by omega) (by omega) (by omega) g
theorem rAdd_ok (hs : s.size ≤ 1000000) (ht : t.size ≤ 1000000) (l : List ByteArray) (hl : l.length ≤ 100) (hx : ∀ x ∈ l, x.size ≤ 2000) (hk : l.length < k) : ref12_Add k (F m s t) l = some (addF m s t (cat l)) := by
  unfold ref12_Add addF
  show (ref12_Is k (F m s t)).bind _ = _
  rw [rIs_ok k m s t hs ht]
  cases h : okF m s t
  · rfl
  · obtain ⟨j, X, he⟩ := add_loop m s l hl hx hs l.length 0 k t (by omega) (by omega) hk h
    rw [List.drop_zero] at he
    show (ref12_Add_l1 l k (0, ((0 : Nat) : Int), F 0 EB EB, F m s t, ())).bind _ = _
    rw [he]
    cases okF m s (t ++ cat l) <;> rfl
theorem Cut_ok (hs : s.size ≤ 1000000) (ht : t.size ≤ 1000000) (a : Int) : file_Cut k (F m s t) a = some (cutF m s t a) := by
  unfold file_Cut cutF
  show (file_right k (F m s t)).bind _ = _
  rw [right_ok k m s t hs ht]
  cases h : okF m s t
  · rfl
  · show (bif decide (a < 0) then _ else (file_bytes_all k (F m s t)).bind _) = some (if a < 0 ∨ a > ((s.size + t.size : Nat) : Int) then _ else _)
    rw [all_ok k m s t hs ht]
    by_cases h1 : a < 0
    · rw [bif_t h1, if_pos (.inl h1)]
    · rw [bif_f h1]
      have hz := ByteArray.size_append (a := s) (b := t)
      show (bif decide (a > ((s ++ t).size : Int)) then _ else (file_bytes_kept k (F m s t) a).bind _) = _
      by_cases h2 : a > ((s ++ t).size : Int)
      · rw [bif_t h2, if_pos (by omega)]
      · rw [bif_f h2, if_neg (by omega)]
        obtain ⟨c, rfl⟩ : ∃ c : Nat, a = (c : Int) := ⟨_, (Int.toNat_of_nonneg (by omega)).symm⟩
        rw [kept_ok k m s t hs ht _ (by omega)]
        rfl
theorem rCut_ok (hs : s.size ≤ 1000000) (ht : t.size ≤ 1000000) (a : Int) : ref12_Cut k (F m s t) a = some (cutF m s t a) := by
  unfold ref12_Cut cutF
  show (ref12_Is k (F m s t)).bind _ = _
  rw [rIs_ok k m s t hs ht]
  cases h : okF m s t
  · rfl
  · show (bif decide (a < 0) then _ else (ref12_Read k (F m s t)).bind _) = some (if a < 0 ∨ a > ((s.size + t.size : Nat) : Int) then _ else _)
    rw [rread_ok k m s t hs ht]
    by_cases h1 : a < 0
    · rw [bif_t h1, if_pos (.inl h1)]
    · rw [bif_f h1]
      have hz := ByteArray.size_append (a := s) (b := t)
      show (bif decide (a > ((s ++ t).size : Int)) then _ else (some (s ++ t, ())).bind _) = _
      by_cases h2 : a > ((s ++ t).size : Int)
      · rw [bif_t h2, if_pos (by omega)]
      · rw [bif_f h2, if_neg (by omega)]
        obtain ⟨c, rfl⟩ : ∃ c : Nat, a = (c : Int) := ⟨_, (Int.toNat_of_nonneg (by omega)).symm⟩
        show (bif decide ((0 : Int) ≤ (c : Int)) then (bif decide ((c : Int) ≤ ((s ++ t).size : Int)) then _ else none) else none) = _
        rw [bif_t (by omega), bif_t (by omega)]
end
end Go.Proofs.Ytoeikeabbdnkbaa.A
