/- KeepParts, of data alone. -/
import Derived.Test.YtohlhliifeeokaaAKeepFar
import Derived.Test.YtohlhliifeeokaaAbB
namespace Go.Proofs.Ytohlhliifeeokaa.Pure
open Go Go.Proofs.Ytohlhliifeeokaa.Ab Go.Proofs.Ytohlhliifeeokaa.A
set_option linter.unusedVariables false

abbrev KR := KT × (Bool × (Int × Unit))
def kp (k : Nat) (A B C : KR) : Option (Bool × Unit) := (bif A.2.2.1 != 0 then ((law17_kept k).bind fun r12 => (bif r12.1 then some (C.2.2.1 != 0, ()) else some (false, ()))) else (bif B.2.2.1 != 0 then ((law17_kept k).bind fun r11 => (bif r11.1 then some (C.2.2.1 != 0, ()) else some (false, ()))) else ((keep_Open k B.1).bind fun r6 => ((keep_Open k C.1).bind fun r7 => ((law17_kept k).bind fun r8 => (bif r8.1 then (bif C.2.1 then (bif C.2.2.1 == 0 then (bif r6.2.2.2.2.1 == C.2.2.1 then (bif r7.2.2.2.2.1 == C.2.2.1 then (bif r6.1.toList == r7.1.toList then (bif r6.2.1 == r7.2.1 then ((ref01_Texts k r6.2.2.1 r7.2.2.1).bind fun r9 => (bif r9.1 then ((ref01_Texts k r6.2.2.2.1 r7.2.2.2.1).bind fun r10 => some (r10.1, ())) else some (false, ()))) else some (false, ())) else some (false, ())) else some (false, ())) else some (false, ())) else some (false, ())) else some (false, ())) else some (false, ()))))))) 
theorem kp_ev {A B C : KR} (h : (A.2.2.1 ≠ 0 ∧ C.2.2.1 ≠ 0) ∨ (A.2.2.1 = 0 ∧ B.2.2.1 ≠ 0 ∧ C.2.2.1 ≠ 0) ∨ (A.2.2.1 = 0 ∧ ∃ S H z n pre s t tx base P T, B = (KM S H (SL z n pre s t), true, 0, ()) ∧ C = (KM S H (SL z n pre s t), true, 0, ()) ∧ Opn S H z n pre s t tx base P T)) : Ev (fun k => kp k A B C) (true, ()) := by
  rcases h with ⟨q1, q2⟩ | ⟨q1, q2, q3⟩ | ⟨q1, S, H, z, n, pre, s, t, tx, base, P, T, rfl, rfl, ho⟩
  · refine Ev.t (nbne_i q1) (Ev.bind kept17_ok (Ev.t rfl ?_))
    rw [nbne_i q2]; exact Ev.now _
  · refine Ev.f (nbeq_i q1) (Ev.t (nbne_i q2) (Ev.bind kept17_ok (Ev.t rfl ?_)))
    rw [nbne_i q3]; exact Ev.now _
  · have hl := ho.tl
    have t1 := Texts_big P (by have := ho.pl; omega)
    have t2 := Texts_big ((T.drop (base - n).toNat).map mkB) (by rw [List.length_map, List.length_drop]; omega)
    exact Ev.f (nbeq_i q1) (Ev.f rfl (Ev.bind ho.open (Ev.bind ho.open (Ev.bind kept17_ok (Ev.t rfl (Ev.t rfl (Ev.t rfl (Ev.t rfl (Ev.t rfl (Ev.t (beq_self_eq_true _) (Ev.t (beq_self_eq_true _) (Ev.bind t1 (Ev.t rfl (Ev.bind t2 (Ev.now _)))))))))))))))
theorem KeepParts : ∀ (a0 : KT) (a1 : (List ByteArray)) (a2 : (List ByteArray)), bnd (.cons (.int .i64) (.cons .str (.cons .str (.cons (.int .i64) (.cons .str (.cons .str (.cons (.int .i64) (.cons .str (.cons .str (.cons (.int .i64) (.cons .str (.cons .str (.cons (.int .i64) (.cons (.int .i64) (.cons (.sl (.cons (.int .i64) (.cons .str (.cons .str .nil)))) .nil))))))))))))))) a0 → bnd (.sl .str) a1 → bnd (.sl .str) a2 → ∃ k, law17_KeepParts k a0 a1 a2 = some (true, ()) := by
  intro K l m h1 h2 h3
  refine Ev.get ?_
  have h2 : l.length ≤ maxLen := h2.1
  have h3 : m.length ≤ maxLen := h3.1
  obtain ⟨nm, a, b, nm', c, d, hm, ha, hb, hm', hc, hd, z, n, fs, ⟨⟩⟩ := K
  have hf : fs.length ≤ maxLen := h1.2.2.2.2.2.2.2.2.2.2.2.2.2.2.1.1
  obtain ⟨x2, hx2, s2⟩ := kfar_ok nm a b nm' c d hm ha hb hm' hc hd z n fs l hf h2
  cases x2 with
  | true => exact Ev.bind hx2 (Ev.t rfl (Ev.now _))
  | false =>
  refine Ev.bind hx2 (Ev.f rfl ?_)
  obtain ⟨x3, hx3, s3⟩ := kfar_ok nm a b nm' c d hm ha hb hm' hc hd z n fs m hf h3
  cases x3 with
  | true => exact Ev.bind hx3 (Ev.t rfl (Ev.now _))
  | false =>
  refine Ev.bind hx3 (Ev.f rfl ?_)
  obtain ⟨p1, p2, ⟨p3, p4⟩, p5, _⟩ := s2 rfl
  obtain ⟨_, _, _, p6, _⟩ := s3 rfl
  obtain ⟨L, rfl⟩ := all_texts l
  obtain ⟨M, rfl⟩ := all_texts m
  have mL : (L.map mkB).length = L.length := List.length_map ..
  have mM : (M.map mkB).length = M.length := List.length_map ..
  by_cases c25 : IntKind.i64.wrap (((L.map mkB).length : Int) + ((M.map mkB).length : Int)) > 25
  · exact Ev.dt c25 (Ev.now _)
  refine Ev.df c25 ?_
  have key : ∃ A B C : KR, Ev (fun k => keep_Push k (KM (S6 nm a b nm' c d) (H6 hm ha hb hm' hc hd) (SG z n fs)) (L.map mkB) (-1)) A ∧ Ev (fun k => keep_Push k A.1 (M.map mkB) (-1)) B ∧ Ev (fun k => keep_Push k (KM (S6 nm a b nm' c d) (H6 hm ha hb hm' hc hd) (SG z n fs)) ((L ++ M).map mkB) (-1)) C ∧
      ((A.2.2.1 ≠ 0 ∧ C.2.2.1 ≠ 0) ∨ (A.2.2.1 = 0 ∧ B.2.2.1 ≠ 0 ∧ C.2.2.1 ≠ 0) ∨ (A.2.2.1 = 0 ∧ ∃ S H z n pre s t tx base P T, B = (KM S H (SL z n pre s t), true, 0, ()) ∧ C = (KM S H (SL z n pre s t), true, 0, ()) ∧ Opn S H z n pre s t tx base P T)) := by
    rcases keep_or (m := nm) (m' := nm') (hm := hm) (hm' := hm') (z := z) (n := n) (show smallS a b c d from ⟨by omega, by omega, by omega, by omega⟩) (show smallH ha hb hc hd from ⟨by omega, by omega, by omega, by omega⟩) (by omega : fs.length ≤ 1000) p4 with ⟨pre, s, t, tx, base, P, T, rfl, ho, _, _⟩ | hs
    · rcases ho.tells with hw | hb
      · have e1 := ho.pushed hw L (by omega)
        have e2 := ho.pushed hw (L ++ M) (by rw [List.length_append]; omega)
        rw [runA_app] at e2
        by_cases q1 : (runA z (n + T.length) L (pre, s, t)).1 = 0
        · rw [if_pos q1] at e2
          obtain ⟨g1, g2, g3⟩ := e1.2 q1
          have e3 := g2.pushed g3 M (by omega)
          have eq := runA_syn (z := z) M (n + T.length + L.length) (syn (runA z (n + T.length) L (pre, s, t)).2) (runA z (n + T.length) L (pre, s, t)).2 (syn_syn _)
          have en : n + ((T ++ L).length : Int) = n + T.length + L.length := by rw [List.length_append]; omega
          rw [en] at e3
          have eta : ((syn (runA z (n + T.length) L (pre, s, t)).2).1, (syn (runA z (n + T.length) L (pre, s, t)).2).2.1, EB) = syn (runA z (n + T.length) L (pre, s, t)).2 := rfl
          rw [eta, eq.1] at e3
          by_cases q2 : (runA z (n + T.length + L.length) M (runA z (n + T.length) L (pre, s, t)).2).1 = 0
          · obtain ⟨g4, g5, g6⟩ := e3.2 q2
            obtain ⟨g7, _, _⟩ := e2.2 q2
            rw [eq.2] at g4 g5
            exact ⟨_, _, _, g1, g4, g7, .inr (.inr ⟨rfl, _, _, _, _, _, _, _, _, _, _, _, rfl, rfl, g5⟩)⟩
          · exact ⟨_, _, _, g1, e3.1 q2, e2.1 q2, .inr (.inl ⟨rfl, q2, q2⟩)⟩
        · rw [if_neg q1] at e2
          exact ⟨_, _, _, e1.1 q1, shutZ.push _ _, e2.1 q1, .inl ⟨q1, q1⟩⟩
      · exact ⟨_, _, _, ho.push_no (Add_broken ho.lok hb _) (by decide), shutZ.push _ _, ho.push_no (Add_broken ho.lok hb _) (by decide), .inl ⟨by show (1 : Int) ≠ 0; decide, by show (1 : Int) ≠ 0; decide⟩⟩
    · exact ⟨_, _, _, hs.push _ _, shutZ.push _ _, hs.push _ _, .inl ⟨by show (1 : Int) ≠ 0; decide, by show (1 : Int) ≠ 0; decide⟩⟩
  obtain ⟨A, B, C, hA, hB, hC, hcase⟩ := key
  have fin := kp_ev hcase
  refine Ev.bind hA (Ev.bind hB ?_)
  cases L with
  | nil =>
    refine Ev.t rfl ?_
    cases M with
    | nil => exact Ev.t rfl (Ev.bind hC fin)
    | cons u M => exact Ev.f rfl (Ev.dt (by rw [mM]; omega) (Ev.bind hC fin))
  | cons t L =>
    refine Ev.f rfl (Ev.dt (by rw [mL]; omega) ?_)
    cases M with
    | nil =>
      have e1 : (t :: L).map mkB = ((t :: L) ++ []).map mkB := by rw [List.append_nil]
      rw [← e1] at hC
      exact Ev.t rfl (Ev.bind hC fin)
    | cons u M =>
      have e1 : (t :: L).map mkB ++ (u :: M).map mkB = ((t :: L) ++ (u :: M)).map mkB := by rw [List.map_append]
      rw [← e1] at hC
      exact Ev.f rfl (Ev.dt (by rw [mL, mM]; omega) (Ev.bind hC fin))
end Go.Proofs.Ytohlhliifeeokaa.Pure
