/- Plain words for the pure laws: whole numbers, texts, texts joined. -/
import Derived.Test.YtohlhliifeeokaaGreatAHDef
import Derived.Test.YtohlhliifeeokaaGreatAbB
namespace Go.Proofs.YtohlhliifeeokaaGreat.A
open Go Go.Proofs.YtohlhliifeeokaaGreat.Ab
set_option linter.unusedVariables false
theorem wrap_id {n : Int} (h0 : -9223372036854775808 ≤ n) (h1 : n ≤ 9223372036854775807) : IntKind.i64.wrap n = n := by
  have e1 : IntKind.i64.bits = 64 := rfl
  have e2 : IntKind.i64.signed = true := rfl
  unfold IntKind.wrap
  simp only [e1, e2, Bool.true_and]
  split
  · rename_i h; have := of_decide_eq_true h; omega
  · rename_i h
    have : ¬ _ := fun g => h (decide_eq_true g)
    omega
theorem bytes_append (a b : ByteArray) : (a ++ b).data.toList = a.data.toList ++ b.data.toList := by rw [ByteArray.data_append, Array.toList_append]
theorem bytes_extract (a : ByteArray) (i j : Nat) : (a.extract i j).data.toList = (a.data.toList.take j).drop i := by
  rw [ByteArray.data_extract, Array.toList_extract, List.extract_eq_take_drop, List.drop_take]
theorem size_toList (a : ByteArray) : a.data.toList.length = a.size := by rw [Array.length_toList]; rfl
theorem bytes_inj {a b : ByteArray} (h : a.data.toList = b.data.toList) : a = b := by
  cases a; cases b; congr 1; exact Array.toList_inj.1 h
abbrev EB : ByteArray := ByteArray.mk #[]
theorem EB_size : EB.size = 0 := rfl
theorem app_E (s : ByteArray) : s ++ EB = s := bytes_inj (by rw [bytes_append]; simp)
theorem E_app (s : ByteArray) : EB ++ s = s := bytes_inj (by rw [bytes_append]; simp)
theorem app_assoc (a b c : ByteArray) : a ++ b ++ c = a ++ (b ++ c) := bytes_inj (by simp only [bytes_append, List.append_assoc])
def cat (l : List ByteArray) : ByteArray := ⟨(l.flatMap (·.data.toList)).toArray⟩
theorem cat_bytes (l : List ByteArray) : (cat l).data.toList = l.flatMap (·.data.toList) := by simp [cat]
theorem cat_nil : cat [] = EB := rfl
theorem cat_cons (a : ByteArray) (l : List ByteArray) : cat (a :: l) = a ++ cat l := bytes_inj (by rw [bytes_append, cat_bytes, cat_bytes]; rfl)
theorem join_bytes (l : List ByteArray) : Lib.join (l.map (·.data.toList)) (EB).data.toList = l.flatMap (·.data.toList) := by
  unfold Lib.join
  show List.intercalate [] _ = _
  have : ∀ xs : List (List UInt8), List.intercalate [] xs = xs.flatten := by
    intro xs
    induction xs with
    | nil => rfl
    | cons a xs ih => cases xs <;> simp_all [List.intercalate, List.intersperse]
  rw [this, List.flatMap_def]
theorem Join_ok (k : Nat) (l : List ByteArray) (h0 : l.length ≤ 140737488355328) (h1 : (cat l).size ≤ 140737488355328) : strings_Join k l EB = some (cat l, ()) := by
  unfold strings_Join joinOf
  rw [join_bytes, decide_eq_true h0, decide_eq_true (by rw [← cat_bytes, size_toList]; exact h1)]
  rfl
theorem getD_at (l : List ByteArray) (i : Nat) (h : i < l.length) (z : ByteArray) : l.getD (Int.toNat (i : Int)) z = l[i] := by
  rw [Int.toNat_natCast, List.getD_eq_getElem?_getD, List.getElem?_eq_getElem h]; rfl
theorem getD_z (l : List ByteArray) (i : Nat) (h : i < l.length) : l.getD (Int.toNat (i : Int)) Ty.str.zero = l[i] := getD_at l i h _
theorem bif_t {α : Type} {p : Prop} [Decidable p] (h : p) (a b : α) : (bif decide p then a else b) = a := by rw [decide_eq_true h]; rfl
theorem bif_f {α : Type} {p : Prop} [Decidable p] (h : ¬ p) (a b : α) : (bif decide p then a else b) = b := by rw [decide_eq_false h]; rfl
end Go.Proofs.YtohlhliifeeokaaGreat.A
