/- SegmentBack, of data alone. -/
import Derived.Test.YtoeikeabbdnkbaaASegStr
import Derived.Test.YtoeikeabbdnkbaaAbB
namespace Go.Proofs.Ytoeikeabbdnkbaa.Pure
open Go Go.Proofs.Ytoeikeabbdnkbaa.Ab Go.Proofs.Ytoeikeabbdnkbaa.A
set_option linter.unusedVariables false

theorem SegmentBack : ∀ (a0 : Int) (a1 : Int) (a2 : (List ByteArray)) (a3 : (List ByteArray)), (Lit.int .i64 a0).wf = true → (Lit.int .i64 a1).wf = true → bnd (.sl .str) a2 → bnd (.sl .str) a3 → ∃ k, law14_SegmentBack k a0 a1 a2 a3 = some (true, ()) := by
  intro z n l m _ _ h2 h3
  refine Ev.get ?_
  have h2 : l.length ≤ maxLen := h2.1
  have h3 : m.length ≤ maxLen := h3.1
  rcases SNew_cases z n with ⟨ok0, hN⟩ | hN
  case inr => exact Ev.bind hN (Ev.t rfl (Ev.bind parted_ok (Ev.now _)))
  refine Ev.bind hN (Ev.f rfl ?_)
  obtain ⟨x2, hx2, s2⟩ := sfar_ok z n (files z [] EB EB) l (by have := ok0.len; unfold maxLen; omega) h2
  cases x2 with
  | true => exact Ev.bind hx2 (Ev.t rfl (Ev.bind parted_ok (Ev.now _)))
  | false =>
  refine Ev.bind hx2 (Ev.f rfl ?_)
  obtain ⟨x3, hx3, s3⟩ := sfar_ok z n (files z [] EB EB) m (by have := ok0.len; unfold maxLen; omega) h3
  cases x3 with
  | true => exact Ev.bind hx3 (Ev.t rfl (Ev.bind parted_ok (Ev.now _)))
  | false =>
  refine Ev.bind hx3 (Ev.f rfl ?_)
  obtain ⟨_, _, s2, _⟩ := s2 rfl
  obtain ⟨_, _, s3, _⟩ := s3 rfl
  obtain ⟨L, rfl⟩ := all_texts l
  obtain ⟨M, rfl⟩ := all_texts m
  have mL : (L.map mkB).length = L.length := List.length_map ..
  have mM : (M.map mkB).length = M.length := List.length_map ..
  have b3 := ok0.n1
  obtain ⟨x0, y0, sc0⟩ := (Str.new n).scan ok0
  have sc0 : Ev (fun k => segment_scan k (SL z n [] EB EB)) (([], x0, y0, true, ()), ()) := sc0
  have add0 := fun (K : List Txt) (hK : K.length ≤ 1000) => Add_good ok0 sc0 (by simp) K hK
  have e0 : n + ((([] : List ByteArray).length : Nat) : Int) = n := by simp
  rw [e0] at add0
  -- what the parts come to, and what the whole
  obtain ⟨A, hA, hA0⟩ : ∃ A : SegT × Int × Unit, Ev (fun k => segment_Add k (SL z n [] EB EB) (L.map mkB)) A ∧ ((runA z n L ([], EB, EB)).1 = 0 ∧ A = (SL z n (runA z n L ([], EB, EB)).2.1 (runA z n L ([], EB, EB)).2.2.1 (runA z n L ([], EB, EB)).2.2.2, 0, ()) ∨ (runA z n L ([], EB, EB)).1 ≠ 0 ∧ A = (RB, (runA z n L ([], EB, EB)).1, ())) := by
    by_cases h : (runA z n L ([], EB, EB)).1 = 0
    · exact ⟨_, (add0 L (by omega)).1 h, .inl ⟨h, rfl⟩⟩
    · exact ⟨_, (add0 L (by omega)).2 h, .inr ⟨h, rfl⟩⟩
  have key : ∃ (B C : SegT × Int × Unit), Ev (fun k => segment_Add k A.1 (M.map mkB)) B ∧ Ev (fun k => segment_Add k (SL z n [] EB EB) ((L ++ M).map mkB)) C ∧
      ((A.2.1 ≠ 0 ∧ C.2.1 ≠ 0) ∨ (A.2.1 = 0 ∧ B.2.1 ≠ 0 ∧ C.2.1 ≠ 0) ∨ (A.2.1 = 0 ∧ B = C ∧ C.2.1 = 0 ∧ ∃ pre s u, C.1 = SL z n pre s u ∧ okL z n pre s u ∧ Ev (fun k => segment_Read k C.1) ((L ++ M).map mkB, 0, ()))) := by
    have hall := add0 (L ++ M) (by rw [List.length_append]; omega)
    rw [runA_app] at hall
    rcases hA0 with ⟨h, rfl⟩ | ⟨h, rfl⟩
    · rw [if_pos h] at hall
      have st := Str.run (z := z) (n := n) L ([], EB, EB) [] [] [] ok0 (Str.new n) (by simp; omega)
      have e1 : n + (((([] : List (List Txt)).flatten ++ (([] : List Txt) ++ ([] : List Txt))).length : Nat) : Int) = n := by simp
      rw [e1] at st
      obtain ⟨ps, B0, B1, ok1, S1, T1, _⟩ := st h
      have T1 : ps.flatten ++ (B0 ++ B1) = L := by simpa using T1
      obtain ⟨x1, y1, sc1⟩ := S1.scan ok1
      rw [T1] at sc1
      have add1 := Add_good ok1 sc1 (by omega) M (by omega)
      rw [mL] at add1
      by_cases h' : (runA z (n + L.length) M (runA z n L ([], EB, EB)).2).1 = 0
      · have hB := add1.1 h'
        have hC := hall.1 h'
        have st2 := Str.run (z := z) (n := n) M (runA z n L ([], EB, EB)).2 ps B0 B1 ok1 S1 (by rw [T1]; omega)
        rw [T1] at st2
        obtain ⟨ps2, C0, C1, ok2, S2, T2, _⟩ := st2 h'
        obtain ⟨x2, y2, sc2⟩ := S2.scan ok2
        rw [T2] at sc2
        exact ⟨_, _, hB, hC, .inr (.inr ⟨rfl, rfl, rfl, _, _, _, rfl, ok2, Read_scan ok2 sc2⟩)⟩
      · exact ⟨_, _, add1.2 h', hall.2 h', .inr (.inl ⟨rfl, h', h'⟩)⟩
    · rw [if_neg h] at hall
      exact ⟨_, _, Add_bad _, hall.2 h, .inl ⟨h, h⟩⟩
  obtain ⟨B, C, hB, hC, hcase⟩ := key
  have tail : ∀ (X : List ByteArray), X = (L ++ M).map mkB → Ev (fun k => (bif A.2.1 != 0 then ((law14_parted k).bind fun r13 => (bif r13.1 then some (C.2.1 != 0, ()) else some (false, ()))) else (bif B.2.1 != 0 then ((law14_parted k).bind fun r12 => (bif r12.1 then some (C.2.1 != 0, ()) else some (false, ()))) else ((segment_Read k (B.1.1, B.1.2.1, B.1.2.2.1, ())).bind fun r7 => ((law14_parted k).bind fun r8 => (bif r8.1 then (bif C.2.1 == 0 then ((ref14_Same k (B.1.1, B.1.2.1, B.1.2.2.1, ()) (C.1.1, C.1.2.1, C.1.2.2.1, ())).bind fun r9 => (bif r9.1 then (bif r7.2.1 == 0 then ((ref01_Texts k r7.1 X).bind fun r10 => (bif r10.1 then ((segment_Is k (B.1.1, B.1.2.1, B.1.2.2.1, ())).bind fun r11 => (bif r11.1 then some (B.1.2.1 == n, ()) else some (false, ()))) else some (false, ()))) else some (false, ())) else some (false, ()))) else some (false, ())) else some (false, ()))))))) (true, ()) := by
    rintro X rfl
    rcases hcase with ⟨q1, q2⟩ | ⟨q1, q2, q3⟩ | ⟨q1, rfl, q2, pre, s, u, q3, q4, q5⟩
    · refine Ev.t (nbne_i q1) (Ev.bind parted_ok (Ev.t rfl ?_))
      rw [nbne_i q2]; exact Ev.now _
    · refine Ev.f (nbeq_i q1) (Ev.t (nbne_i q2) (Ev.bind parted_ok (Ev.t rfl ?_)))
      rw [nbne_i q3]; exact Ev.now _
    · obtain ⟨c, e, ⟨⟩⟩ := B
      have q2 : e = 0 := q2
      have q3 : c = SL z n pre s u := q3
      subst q2; subst q3
      have tx := Texts_ok ((L ++ M).map mkB) (by rw [List.length_map, List.length_append]; omega)
      refine Ev.f (nbeq_i q1) (Ev.f rfl (Ev.bind q5 (Ev.bind parted_ok (Ev.t rfl (Ev.t rfl (Ev.bind (Same_ok z n _ (Nat.le_trans q4.len (by decide))) (Ev.t rfl (Ev.t rfl (Ev.bind tx (Ev.t rfl (Ev.bind (Is_true q4) (Ev.t rfl ?_))))))))))))
      exact Ev.of (g := fun _ => some (true, ())) (fun k => congrArg (fun z : Bool => some (z, ())) (beq_i rfl)) (Ev.now _)
  refine Ev.bind hA (Ev.bind hB ?_)
  cases L with
  | nil =>
    refine Ev.t rfl ?_
    cases M with
    | nil => exact Ev.t rfl (Ev.bind hC (tail _ rfl))
    | cons u M => exact Ev.f rfl (Ev.dt (by rw [mM]; omega) (Ev.bind hC (tail _ rfl)))
  | cons t L =>
    refine Ev.f rfl (Ev.dt (by rw [mL]; omega) ?_)
    cases M with
    | nil =>
      have e1 : (t :: L).map mkB = ((t :: L) ++ []).map mkB := by rw [List.append_nil]
      rw [← e1] at hC
      exact Ev.t rfl (Ev.bind hC (tail _ e1))
    | cons u M =>
      have e1 : (t :: L).map mkB ++ (u :: M).map mkB = ((t :: L) ++ (u :: M)).map mkB := by rw [List.map_append]
      rw [← e1] at hC
      exact Ev.f rfl (Ev.dt (by rw [mL, mM]; omega) (Ev.bind hC (tail _ e1)))
end Go.Proofs.Ytoeikeabbdnkbaa.Pure
