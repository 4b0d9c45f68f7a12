/- Plain words on texts: a text made of bytes, a text's bytes, what is cut and joined. -/
import Derived.Test.YtaadndikbecdbaaWMore
namespace Go.Proofs.Ytaadndikbecdbaa.Q
open Go.RowKit Go.Proofs.YtaadndikbecdbaaW.PrintWords Go.Proofs.YtaadndikbecdbaaW.PrintLast Go.Proofs.YtaadndikbecdbaaW.PrintMore
set_option linter.unusedVariables false

theorem wrap64_id {n : Int} (h0 : -9223372036854775808 ≤ n) (h1 : n ≤ 9223372036854775807) : wrap64 n = n := by unfold wrap64; omega
theorem wrap64_succ {i : Nat} (h : i < 9223372036854775807) : wrap64 ((i : Int) + 1) = ((i + 1 : Nat) : Int) := by rw [wrap64_id (by omega) (by omega)]; omega
theorem loop_eq (bs : ByteArray) (d : Nat) : ∀ (i : Nat) (r : List UInt8), bs.size - i = d → ByteArray.toList.loop bs i r = r.reverse ++ bs.data.toList.drop i := by
  induction d with
  | zero =>
    intro i r h
    unfold ByteArray.toList.loop
    have hs : bs.data.toList.length = bs.size := by rw [Array.length_toList]; rfl
    rw [if_neg (by omega), List.drop_of_length_le (by omega)]
    simp
  | succ d ih =>
    intro i r h
    unfold ByteArray.toList.loop
    have hs : bs.data.toList.length = bs.size := by rw [Array.length_toList]; rfl
    rw [if_pos (by omega), ih (i + 1) _ (by omega), List.drop_eq_getElem_cons (by omega : i < bs.data.toList.length)]
    have e : bs.get! i = bs.data.toList[i]'(by omega) := by
      show bs.data[i]! = _
      rw [getElem!_pos bs.data i (by show i < bs.size; omega)]
      simp
    rw [e]
    simp
theorem toList_data (bs : ByteArray) : bs.toList = bs.data.toList := by
  unfold ByteArray.toList
  rw [loop_eq bs _ 0 [] rfl]
  simp
/-- A text of bytes. -/
def mkB (l : List UInt8) : ByteArray := ⟨l.toArray⟩
theorem mkB_data (l : List UInt8) : (mkB l).data.toList = l := rfl
theorem mkB_toList (l : List UInt8) : (mkB l).toList = l := by rw [toList_data]; rfl
theorem mkB_of (s : ByteArray) : mkB s.data.toList = s := by cases s; simp [mkB]
theorem mkB_size (l : List UInt8) : (mkB l).size = l.length := by show l.toArray.size = _; simp
theorem size_list (a : ByteArray) : a.size = a.data.toList.length := by rw [Array.length_toList]; rfl
theorem mkB_append (a b : List UInt8) : mkB a ++ mkB b = mkB (a ++ b) := by
  have h : (mkB a ++ mkB b).data.toList = (mkB (a ++ b)).data.toList := by rw [ByteArray.data_append, Array.toList_append]; rfl
  rw [← mkB_of (mkB a ++ mkB b), h]; rfl
theorem mkB_extract (l : List UInt8) (i j : Nat) : (mkB l).extract i j = mkB ((l.take j).drop i) := by
  have h : ((mkB l).extract i j).data.toList = (l.take j).drop i := by
    rw [ByteArray.data_extract, Array.toList_extract]
    show l.extract i j = _
    rw [List.extract_eq_take_drop, List.drop_take]
  rw [← mkB_of ((mkB l).extract i j), h]
theorem mkB_inj {a b : List UInt8} : mkB a = mkB b ↔ a = b := ⟨fun h => by have := congrArg (fun s : ByteArray => s.data.toList) h; exact this, fun h => by rw [h]⟩
theorem mkB_nil : mkB [] = (⟨#[]⟩ : ByteArray) := rfl
theorem all_text (s : ByteArray) : ∃ l, s = mkB l := ⟨_, (mkB_of s).symm⟩
theorem bt_mk (l : List UInt8) (i : Nat) (h : i < l.length) : bt (mkB l) (i : Int) = ((l[i]).toNat : Int) := by
  unfold bt
  rw [dif_pos (by rw [mkB_size]; simpa using h)]
  simp
  rfl
theorem nums_mk (xs : List Int) : strOfNums xs = mkB (xs.map (fun n => UInt8.ofNat n.toNat)) := rfl
theorem mn_le {a b : Int} (h : a ≤ b) : mn a b = a := by unfold mn; split <;> omega
theorem mn_ge {a b : Int} (h : b ≤ a) : mn a b = b := by unfold mn; split <;> omega
theorem i64_bd {a : Int} (h : (Lit.int .i64 a).wf = true) : -9223372036854775808 ≤ a ∧ a ≤ 9223372036854775807 := by
  have h2 := h
  simp only [Lit.wf, Bool.and_eq_true, decide_eq_true_eq] at h2
  have e1 : IntKind.i64.min = -9223372036854775808 := rfl
  have e2 : IntKind.i64.max = 9223372036854775807 := rfl
  omega
end Go.Proofs.Ytaadndikbecdbaa.Q
