/- SumSees: for every text, place and byte the law holds of the printed functions. -/
import Derived.Test.YtbfmdedjkmfabaaSumLaw
import Derived.Test.YtbfmdedjkmfabaaQx3
set_option linter.unusedVariables false
set_option linter.unusedSimpArgs false
namespace Go.Proofs.Ytbfmdedjkmfabaa.Pure
open Go.RowKit Go.Proofs.Ytbfmdedjkmfabaa.Q Go.Proofs.YtbfmdedjkmfabaaW.PrintWords Go.Proofs.YtbfmdedjkmfabaaW.PrintLast

theorem sum_one (p q : List UInt8) (x y : UInt8) : sumI (p ++ [x] ++ q) = sumI (p ++ [y] ++ q) ↔ x = y := by
  rw [sumI_inj, sumB_append, sumB_append, sumB_append, sumB_append, strB_sum]
  exact byteB_byte
theorem sum_two (p q : List UInt8) (x y : UInt8) : sumI (p ++ [y, x] ++ q) = sumI (p ++ [x, y] ++ q) ↔ x = y := by
  rw [sumI_inj, sumB_append, sumB_append, sumB_append, sumB_append, strB_sum]
  show byteB (byteB _ y) x = byteB (byteB _ x) y ↔ _
  rw [byteB_swap]
  exact ⟨fun h => h.symm, fun h => h.symm⟩
theorem bt_byte (s : ByteArray) (i : Nat) (h : i < s.data.toList.length) : bt s (i : Int) = ((s.data.toList[i]).toNat : Int) := by
  have h' : i < s.size := by rw [size_toList] at h; exact h
  unfold bt
  rw [dif_pos (by simpa using h')]
  simp
  rfl
theorem byte_eq {x : UInt8} {b : Int} (h0 : 0 ≤ b) (h1 : b ≤ 255) : x = UInt8.ofNat b.toNat ↔ (x.toNat : Int) = b := by
  constructor
  · rintro rfl; exact u8_of h0 h1
  · intro h
    apply UInt8.toNat_inj.1
    have := u8_of h0 h1
    omega

theorem sees_done (s : ByteArray) (i b : Int) : Ev (fun k => watchmanlaw02_SumSees.j0 k s i b true) true := by
  refine Ev.step (f := fun k => (watchmanlaw02_summed.f k).bind fun t => some t) (fun k => ?_) (Ev.bind summed_ok (Ev.now true))
  rw [watchmanlaw02_SumSees.j0, if_pos rfl]

theorem SumSees : watchmanlaw02_SumSees.Pure := by
  intro s at_ b hs ha hb
  have ⟨b0, b1⟩ := u8_wf hb
  by_cases h0 : (s.size : Int) > 400
  · exact (Ev.congr (fun k => by unfold watchmanlaw02_SumSees.f; rw [if_pos h0]) (sees_done s at_ b)).rounds
  by_cases h1 : at_ < 0
  · exact (Ev.congr (fun k => by unfold watchmanlaw02_SumSees.f; rw [if_neg h0, if_pos h1]) (sees_done s at_ b)).rounds
  by_cases h2 : at_ ≥ (s.size : Int)
  · exact (Ev.congr (fun k => by unfold watchmanlaw02_SumSees.f; rw [if_neg h0, if_neg h1, decide_eq_true h2]) (sees_done s at_ b)).rounds
  obtain ⟨i, rfl⟩ := Int.eq_ofNat_of_zero_le (show 0 ≤ at_ by omega)
  have hi : i < s.data.toList.length := by rw [size_toList]; omega
  have hi' : i < s.size := by omega
  have w1 : wrap64 ((i : Int) + 1) = ((i + 1 : Nat) : Int) := by rw [wrap64_of (by omega) (by omega)]; omega
  have w2 : wrap64 ((i : Int) + 2) = ((i + 2 : Nat) : Int) := by rw [wrap64_of (by omega) (by omega)]; omega
  have es : s.data.toList = s.data.toList.take i ++ [s.data.toList[i]] ++ s.data.toList.drop (i + 1) := by
    rw [← List.take_succ_eq_append_getElem hi, List.take_append_drop]
  have ho : sum_Of.f s = some (sumI (s.data.toList.take i ++ [s.data.toList[i]] ++ s.data.toList.drop (i + 1))) := by rw [← es]; exact Of_ok s (by omega)
  refine (Ev.congr (fun k => by unfold watchmanlaw02_SumSees.f; rw [if_neg h0, if_neg h1, decide_eq_false h2]) ?_ : Ev (fun k => watchmanlaw02_SumSees.f k s (i : Int) b) true).rounds
  have z1 : (s.extract 0 i).size = i := by rw [ByteArray.size_extract]; omega
  have z2 : (s.extract (i + 1) s.size).size = s.size - (i + 1) := by rw [ByteArray.size_extract]; omega
  have z3 : (s.extract (i + 2) s.size).size = s.size - (i + 2) := by rw [ByteArray.size_extract]; omega
  have ht : sum_Of.f (s.extract 0 i ++ strOfNums [b] ++ s.extract (i + 1) s.size) = some (sumI (s.data.toList.take i ++ [UInt8.ofNat b.toNat] ++ s.data.toList.drop (i + 1))) := by
    rw [Of_ok _ (by rw [ByteArray.size_append, ByteArray.size_append, size_one, z1, z2]; omega), bytes_append, bytes_append, bytes_one, bytes_extract, bytes_extract, List.drop_zero, List.take_of_length_le (i := s.size) (by rw [size_toList]; omega)]
  have e1 : (sumI (s.data.toList.take i ++ [UInt8.ofNat b.toNat] ++ s.data.toList.drop (i + 1)) == sumI (s.data.toList.take i ++ [s.data.toList[i]] ++ s.data.toList.drop (i + 1))) = (bt s (i : Int) == b) := by
    rw [Bool.eq_iff_iff, beq_iff_eq, beq_iff_eq, sum_one, eq_comm, byte_eq b0 b1, bt_byte s i hi]
  by_cases h3 : i + 1 < s.size
  · have hi3 : i + 1 < s.data.toList.length := by rw [size_toList]; omega
    have es2 : s.data.toList = s.data.toList.take i ++ [s.data.toList[i], s.data.toList[i + 1]] ++ s.data.toList.drop (i + 2) := by
      have := List.drop_eq_getElem_cons hi3
      rw [show (s.data.toList.take i ++ [s.data.toList[i], s.data.toList[i + 1]] ++ s.data.toList.drop (i + 2)) = s.data.toList.take i ++ [s.data.toList[i]] ++ (s.data.toList[i + 1] :: s.data.toList.drop (i + 1 + 1)) by simp, ← this]
      exact es
    have ho2 : sum_Of.f s = some (sumI (s.data.toList.take i ++ [s.data.toList[i], s.data.toList[i + 1]] ++ s.data.toList.drop (i + 2))) := by rw [← es2]; exact Of_ok s (by omega)
    have hu : sum_Of.f (s.extract 0 i ++ strOfNums [bt s ((i + 1 : Nat) : Int), bt s (i : Int)] ++ s.extract (i + 2) s.size) = some (sumI (s.data.toList.take i ++ [s.data.toList[i + 1], s.data.toList[i]] ++ s.data.toList.drop (i + 2))) := by
      rw [Of_ok _ (by rw [ByteArray.size_append, ByteArray.size_append, size_two, z1, z3]; omega), bytes_append, bytes_append, bytes_two, bytes_extract, bytes_extract, List.drop_zero, List.take_of_length_le (i := s.size) (by rw [size_toList]; omega), bt_byte s i hi, bt_byte s (i + 1) hi3]
      simp
    have e2 : (sumI (s.data.toList.take i ++ [s.data.toList[i + 1], s.data.toList[i]] ++ s.data.toList.drop (i + 2)) == sumI (s.data.toList.take i ++ [s.data.toList[i], s.data.toList[i + 1]] ++ s.data.toList.drop (i + 2))) = (bt s (i : Int) == bt s ((i + 1 : Nat) : Int)) := by
      rw [Bool.eq_iff_iff, beq_iff_eq, beq_iff_eq, sum_two, bt_byte s i hi, bt_byte s (i + 1) hi3]
      constructor
      · intro h; rw [h]
      · intro h; exact UInt8.toNat_inj.1 (by omega)
    refine Ev.step (f := fun k => (watchmanlaw02_summed.f k).bind fun t => if t = true then some true else some false) (fun k => ?_) (Ev.bind summed_ok (Ev.congr (fun k => if_pos rfl) (Ev.now true)))
    rw [watchmanlaw02_SumSees.j0, if_neg (by simp), if_pos (by omega), if_pos (by omega)]
    simp only [Option.bind_some, w1, w2, Int.toNat_natCast]
    rw [if_pos (by rw [z1, size_one]; omega), if_pos (by omega), if_pos (by omega), if_pos (by rw [ByteArray.size_append, z1, size_one, z2]; omega), ht, ho]
    simp only [Option.bind_some, e1]
    rw [if_pos (by omega), if_neg (by simp), if_neg (by omega), if_pos (by omega), if_pos (by rw [z1, size_two]; omega), if_pos (by omega), if_pos (by omega), if_pos (by rw [ByteArray.size_append, z1, size_two, z3]; omega), hu]
    have eS : sumI (s.data.toList.take i ++ [s.data.toList[i]] ++ s.data.toList.drop (i + 1)) = sumI (s.data.toList.take i ++ [s.data.toList[i], s.data.toList[i + 1]] ++ s.data.toList.drop (i + 2)) := by rw [← es, ← es2]
    simp only [Option.bind_some]
    rw [eS, e2]
    simp only [beq_self_eq_true]
  · refine Ev.step (f := fun k => (watchmanlaw02_summed.f k).bind fun t => some t) (fun k => ?_) (Ev.bind summed_ok (Ev.now true))
    rw [watchmanlaw02_SumSees.j0, if_neg (by simp), if_pos (by omega), if_pos (by omega)]
    simp only [Option.bind_some, w1, w2, Int.toNat_natCast]
    rw [if_pos (by rw [z1, size_one]; omega), if_pos (by omega), if_pos (by omega), if_pos (by rw [ByteArray.size_append, z1, size_one, z2]; omega), ht, ho]
    simp only [Option.bind_some, e1]
    rw [if_pos (by omega), if_neg (by simp), if_pos (by omega)]
end Go.Proofs.Ytbfmdedjkmfabaa.Pure
