/- Of scans and records: what laws above the records need. -/
import Derived.Test.YtoeikeabbdnkbaaARecThy
namespace Go.Proofs.Ytoeikeabbdnkbaa.A
open Go Go.Proofs.Ytoeikeabbdnkbaa.Ab
set_option linter.unusedVariables false
set_option linter.unusedSimpArgs false

theorem all_texts (l : List ByteArray) : ∃ L : List (List UInt8), l = L.map mkB := by
  induction l with
  | nil => exact ⟨[], rfl⟩
  | cons x l ih => obtain ⟨L, rfl⟩ := ih; obtain ⟨t, rfl⟩ := all_text x; exact ⟨t :: L, rfl⟩
theorem Texts_l (l : List ByteArray) (hl : l.length ≤ 1000000) (d : Nat) : ∀ i : Nat, i + d = l.length → Ev (fun k => ref01_Texts_l1 l l k (false, (i : Int), ())) (.exit 0, false, (l.length : Int), ()) := by
  induction d with
  | zero =>
    intro i hi
    obtain rfl : i = l.length := by omega
    exact Ev.step (Ev.df (by show ¬ (l.length : Int) < l.length; omega) (Ev.now _))
  | succ d ih =>
    intro i hi
    have c0 : (i : Int) < (l.length : Int) := by omega
    have c1 : (0 : Int) ≤ (i : Int) := by omega
    have ih := ih (i + 1) (by omega)
    rw [← wrap_succ (by omega)] at ih
    exact Ev.step (Ev.dt c0 (Ev.dt c1 (Ev.dt c0 (Ev.dt c1 (Ev.dt c0 (Ev.f (by simp) ih))))))
theorem Texts_ok (l : List ByteArray) (hl : l.length ≤ 1000000) : Ev (fun k => ref01_Texts k l l) (true, ()) :=
  Ev.f (nbeq_i rfl) (Ev.bind (Texts_l l hl l.length 0 (by omega)) (Ev.t rfl (Ev.now _)))
theorem getD_mid (p : List (List UInt8)) (t : List UInt8) (q : List (List UInt8)) : ((p ++ t :: q).map mkB).getD (Int.toNat (p.length : Int)) Ty.str.zero = mkB t := by
  rw [getD_z _ p.length (by simp)]
  simp
theorem put_good {n : Int} {t : List UInt8} (h0 : 0 ≤ n) (h1 : n ≤ 1000000000) (h2 : t.length ≤ 1000) : RecPutA n t = (mkB (recB n t), 0, ()) := by
  unfold RecPutA; rw [if_neg (by omega), if_neg (by omega)]
theorem put_long {n : Int} {t : List UInt8} (h0 : 0 ≤ n) (h1 : n ≤ 1000000000) (h2 : ¬ t.length ≤ 1000) : RecPutA n t = (EB, 2, ()) := by
  unfold RecPutA; rw [if_neg (by omega), if_pos (by omega)]
section
variable {m : Int} {s t : ByteArray} {n : Int} {ts : List (List UInt8)} {rest : List UInt8}
theorem scan_len {l : List UInt8} (h : ScanIs l n ts rest) : l.length = (recsB n ts).length + rest.length ∧ (recsB n ts).length = l.length - rest.length ∧ ts.length ≤ l.length := by
  have h1 := congrArg List.length h.2.1
  rw [List.length_append] at h1
  have := (recsB_len n ts 1000 h.1.bd.2).2
  omega
theorem scan_of (hs : s.size ≤ 100000) (ht : t.size ≤ 100000) (h : ScanIs (s ++ t).data.toList n ts rest) :
    Ev (fun k => record_Scan k (s ++ t) n) (ts.map mkB, (((recsB n ts).length : Nat) : Int), ()) ∧ Ev (fun k => ref13_Scan k (s ++ t) n) (ts.map mkB, (((recsB n ts).length : Nat) : Int), ()) := by
  have hz : (s ++ t).data.toList.length ≤ 1000000 := by rw [size_toList, ByteArray.size_append]; omega
  have := Scan_both hz h
  unfold scanA at this
  rwa [mkB_of, ← (scan_len h).2.1] at this
end
theorem scan_ex (l : ByteArray) (n : Int) (h : l.size ≤ 1000000) : ∃ ts rest, ScanIs l.data.toList n ts rest := scan_all l.size l.data.toList n (by rw [size_toList]; omega) (by rw [size_toList]; exact h)
theorem noRec_nil (n : Int) : NoRec [] n := fun s q _ e => by
  have := (recB_len n s).2
  have h2 := congrArg List.length e
  rw [List.length_append] at h2; simp at h2; omega
theorem scan_whole {n : Int} {ts : List (List UInt8)} (h : recsOk n ts) : ScanIs (recsB n ts) n ts [] := ⟨h, (List.append_nil _).symm, noRec_nil _⟩
theorem scan_behind {n : Int} {a ts : List (List UInt8)} {l rest : List UInt8} (h : recsOk n a) (k : ScanIs l (n + a.length) ts rest) : ScanIs (recsB n a ++ l) n (a ++ ts) rest := by
  refine ⟨(recsOk_app n a ts).2 ⟨h, k.1⟩, by rw [k.2.1, recsB_app, List.append_assoc], ?_⟩
  rw [List.length_append, show n + ((a.length + ts.length : Nat) : Int) = n + a.length + ts.length by omega]
  exact k.2.2
theorem scan_part {n : Int} {L : List (List UInt8)} (h : recsOk n L) (j : Nat) : ∃ i rest, i ≤ L.length ∧ ScanIs ((recsB n L).take j) n (L.take i) rest := by
  induction L generalizing n j with
  | nil => exact ⟨0, [], Nat.le_refl _, by rw [recsB, List.take_nil, List.take_nil]; exact ⟨trivial, rfl, noRec_nil _⟩⟩
  | cons t L ih =>
    rw [recsB, List.take_append]
    rcases Nat.lt_or_ge j (recB n t).length with hj | hj
    · refine ⟨0, _, Nat.zero_le _, trivial, rfl, ?_⟩
      intro s q hs e
      have e0 : n + (((List.take 0 (t :: L)).length : Nat) : Int) = n := by simp
      rw [e0] at hs e
      rw [Nat.sub_eq_zero_of_le (by omega), List.take_zero] at e
      have e : (recB n t).take j ++ [] = recB n s ++ q := e
      rw [List.append_nil] at e
      have e1 : recB n t ++ [] = recB n s ++ (q ++ (recB n t).drop j) := by rw [← List.append_assoc, ← e, List.take_append_drop, List.append_nil]
      obtain ⟨_, _, e2⟩ := rec_one h.1 hs e1
      have := congrArg List.length e2
      rw [List.length_append, List.length_drop] at this
      simp at this; omega
    · obtain ⟨i, rest, hi, k1, k2, k3⟩ := ih h.2 (j - (recB n t).length)
      refine ⟨i + 1, rest, by simp; omega, ⟨h.1, k1⟩, ?_, ?_⟩
      · rw [List.take_of_length_le hj, List.take_succ_cons, recsB, List.append_assoc, ← k2]
      · rw [List.take_succ_cons, List.length_cons, show n + (((L.take i).length + 1 : Nat) : Int) = n + 1 + (L.take i).length by omega]
        exact k3
theorem same3 (x : FT) : (x.1 == x.1 && (x.2.1.toList == x.2.1.toList && (x.2.2.1.toList == x.2.2.1.toList && true))) = true := by simp
theorem two_app (a b : List UInt8) : (mkB a ++ mkB b).data.toList = a ++ b := by rw [mkB_append]; rfl

end Go.Proofs.Ytoeikeabbdnkbaa.A
