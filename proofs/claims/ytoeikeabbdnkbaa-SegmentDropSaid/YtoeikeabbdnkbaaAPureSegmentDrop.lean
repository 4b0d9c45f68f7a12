/- SegmentDrop, of data alone. -/
import Derived.Test.YtoeikeabbdnkbaaASegDrop
import Derived.Test.YtoeikeabbdnkbaaAbB
namespace Go.Proofs.Ytoeikeabbdnkbaa.Pure
open Go Go.Proofs.Ytoeikeabbdnkbaa.Ab Go.Proofs.Ytoeikeabbdnkbaa.A
set_option linter.unusedVariables false

theorem SegmentDrop : ∀ (a0 : Int) (a1 : Int) (a2 : (List ByteArray)) (a3 : Int) (a4 : Int) (a5 : ByteArray), (Lit.int .i64 a0).wf = true → (Lit.int .i64 a1).wf = true → bnd (.sl .str) a2 → (Lit.int .i64 a3).wf = true → (Lit.int .i64 a4).wf = true → a5.size ≤ 140737488351232 → ∃ k, law14_SegmentDrop k a0 a1 a2 a3 a4 a5 = some (true, ()) := by
  intro z n l u v w _ _ h2 _ _ _
  refine Ev.get ?_
  have h2 : l.length ≤ maxLen := h2.1
  rcases SNew_cases z n with ⟨ok0, hN⟩ | hN
  case inr => exact Ev.bind hN (Ev.t rfl (Ev.bind parted_ok (Ev.now _)))
  refine Ev.bind hN (Ev.f rfl ?_)
  obtain ⟨x2, hx2, s2⟩ := sfar_ok z n (files z [] EB EB) l (by have := ok0.len; unfold maxLen; omega) h2
  cases x2 with
  | true => exact Ev.bind hx2 (Ev.t rfl (Ev.bind parted_ok (Ev.now _)))
  | false =>
  refine Ev.bind hx2 (Ev.f rfl ?_)
  by_cases hw : (w.size : Int) > 100
  · exact Ev.dt hw (Ev.bind parted_ok (Ev.now _))
  refine Ev.df hw ?_
  by_cases hn : n > 800000000
  · exact Ev.dt hn (Ev.bind parted_ok (Ev.now _))
  refine Ev.df hn ?_
  obtain ⟨_, _, s2, _⟩ := s2 rfl
  obtain ⟨L, rfl⟩ := all_texts l
  obtain ⟨t, rfl⟩ := all_text w
  have mL : (L.map mkB).length = L.length := List.length_map ..
  have n0 := ok0.n0
  obtain ⟨x0, y0, sc0⟩ := (Str.new n).scan ok0
  have sc0 : Ev (fun k => segment_scan k (SL z n [] EB EB)) (([], x0, y0, true, ()), ()) := sc0
  have add0 := Add_good ok0 sc0 (by simp) L (by omega)
  have e0 : n + ((([] : List ByteArray).length : Nat) : Int) = n := by simp
  rw [e0] at add0
  by_cases h : (runA z n L ([], EB, EB)).1 = 0
  case neg =>
    have hA := add0.2 h
    refine Ev.bind hA (Ev.bind (Drop_bad _) (Ev.bind (Drop_bad _) (Ev.bind (Drop_bad _) (Ev.t (nbne_i h) (Ev.bind parted_ok (Ev.t rfl ?_))))))
    exact Ev.of (g := fun _ => some (true, ())) (fun k => congrArg (fun z : Bool => some (z, ())) (nbne_i h)) (Ev.now _)
  have hA := add0.1 h
  have st := Str.run (z := z) (n := n) L ([], EB, EB) [] [] [] ok0 (Str.new n) (by simp; omega)
  have e1 : n + (((([] : List (List Txt)).flatten ++ (([] : List Txt) ++ ([] : List Txt))).length : Nat) : Int) = n := by simp
  rw [e1] at st
  obtain ⟨ps, B0, B1, okA, SA, TA, _⟩ := st h
  have TA : ps.flatten ++ (B0 ++ B1) = L := by simpa using TA
  generalize hσ : (runA z n L ([], EB, EB)).2 = σ at hA okA SA
  obtain ⟨pre, s, b⟩ := σ
  have okA : okL z n pre s b := okA
  have SA : Str n pre s b ps B0 B1 := SA
  obtain ⟨cA, oA⟩ := SA.cont z
  obtain ⟨hB, okB⟩ := Drop_ok okA SA.p SA.o u
  obtain ⟨cB, oB, ⟨d, dB, nB⟩, mB, lB, pB⟩ := dropQ_spec u pre ps n SA.p SA.o
  have hmax := dropQ_max u v pre ps n
  obtain ⟨hD, okD⟩ := Drop_ok okA SA.p SA.o (imax u v)
  rw [hmax] at hD okD
  generalize hr : dropQ u n pre ps = r at hB okB cB oB dB nB mB lB pB hD okD
  obtain ⟨n1, pre1, ps1⟩ := r
  have hB : Ev (fun k => segment_Drop k (SL z n pre s b) u) (SL z n1 pre1 s b, 0, ()) := hB
  have okB : okL z n1 pre1 s b := okB
  have cB : pre1.map (fun x => x.data.toList) = filesB n1 ps1 := cB
  have oB : partsOk n1 ps1 := oB
  have dB : ps.flatten = d ++ ps1.flatten := dB
  have nB : n1 = n + d.length := nB
  have mB : n1 = n ∨ n1 ≤ imin u 900000000 := mB
  obtain ⟨hC, okC⟩ := Drop_ok okB cB oB v
  have eN : n + (ps.flatten.length : Int) = n1 + ps1.flatten.length := by rw [dB, List.length_append, nB]; omega
  have SB : Str n1 pre1 s b ps1 B0 B1 := ⟨cB, oB, by rw [SA.s, eN], by rw [← eN]; exact SA.os, by rw [SA.u, eN], by rw [← eN]; exact SA.ou⟩
  have TB : L = d ++ (ps1.flatten ++ (B0 ++ B1)) := by rw [← TA, dB, List.append_assoc]
  obtain ⟨cB2, oB2⟩ := SB.cont z
  obtain ⟨xB, yB, scB⟩ := SB.scan okB
  have hRB := Read_scan okB scB
  have hdl : d.length ≤ L.length := by rw [TB]; simp
  have wd : IntKind.i64.wrap (n1 - n) = d.length := by rw [nB, wrap_id (by omega) (by omega)]; omega
  have wL : IntKind.i64.wrap (((L.map mkB).length : Int) + 1) = ((L.length + 1 : Nat) : Int) := by rw [mL]; exact wrap_succ (by omega)
  have c1 : ¬ IntKind.i64.wrap (n1 - n) < 0 := by rw [wd]; omega
  have c2 : ¬ IntKind.i64.wrap (n1 - n) > ((L.map mkB).length : Int) := by rw [wd]; omega
  have c3 : (0 : Int) ≤ IntKind.i64.wrap (n1 - n) := by rw [wd]; omega
  have c4 : IntKind.i64.wrap (n1 - n) ≤ ((L.map mkB).length : Int) := by rw [wd]; omega
  have eX : List.drop (IntKind.i64.wrap (n1 - n)).toNat (List.take (L.map mkB).length (L.map mkB)) = (ps1.flatten ++ (B0 ++ B1)).map mkB := by
    rw [wd, Int.toNat_natCast, List.take_length, ← List.map_drop, TB, List.drop_left]
  have tx : Ev (fun k => ref01_Texts k ((ps1.flatten ++ (B0 ++ B1)).map mkB) (List.drop (IntKind.i64.wrap (n1 - n)).toNat (List.take (L.map mkB).length (L.map mkB)))) (true, ()) := by
    rw [eX]
    refine Texts_big _ ?_
    have := congrArg List.length TB
    rw [List.length_append] at this
    rw [List.length_map]; omega
  have hsm := Same_ok z (dropQ v n1 pre1 ps1).1 (files z (dropQ v n1 pre1 ps1).2.1 s b) (Nat.le_trans okC.len (by decide))
  have tail : Ev (fun k => ((segment_Add k (SL z n pre s b) [mkB t]).bind fun r10 => ((segment_Add k (SL z n1 pre1 s b) [mkB t]).bind fun r11 => (bif r10.2.1 != 0 then ((law14_parted k).bind fun r17 => some (r17.1, ())) else (bif r11.2.1 != 0 then ((law14_parted k).bind fun r16 => some (r16.1, ())) else ((segment_Read k (r10.1.1, r10.1.2.1, r10.1.2.2.1, ())).bind fun r12 => ((segment_Read k (r11.1.1, r11.1.2.1, r11.1.2.2.1, ())).bind fun r13 => ((law14_parted k).bind fun r14 => (bif r14.1 then (bif r12.2.1 == 0 then (bif r13.2.1 == 0 then (bif ((List.length r12.1) : Int) == IntKind.i64.wrap (((L.map mkB).length : Int) + 1) then (bif decide (0 ≤ IntKind.i64.wrap (n1 - n)) then (bif decide (IntKind.i64.wrap (n1 - n) ≤ ((List.length r12.1) : Int)) then ((ref01_Texts k (List.drop (IntKind.i64.wrap (n1 - n)).toNat (List.take (List.length r12.1) r12.1)) r13.1).bind fun r15 => some (r15.1, ())) else none) else none) else some (false, ())) else some (false, ())) else some (false, ())) else some (false, ())))))))))) (true, ()) := by
    rcases Add_one okA cA oA t with ⟨p1, s1, u1, g1, g2, g3⟩ | ⟨e, he, g2⟩
    case inr =>
      have he0 : e ≠ 0 := by rcases he with rfl | rfl <;> decide
      rcases Add_one okB cB2 oB2 t with ⟨p1, s1, u1, f1, f2, f3⟩ | ⟨e', he', f2⟩
      · exact Ev.bind g2 (Ev.bind f2 (Ev.t (nbne_i he0) (Ev.bind parted_ok (Ev.now _))))
      · exact Ev.bind g2 (Ev.bind f2 (Ev.t (nbne_i he0) (Ev.bind parted_ok (Ev.now _))))
    rcases Add_one okB cB2 oB2 t with ⟨p2, s2, u2, f1, f2, f3⟩ | ⟨e', he', f2⟩
    case inr =>
      have he0 : e' ≠ 0 := by rcases he' with rfl | rfl <;> decide
      exact Ev.bind g2 (Ev.bind f2 (Ev.f rfl (Ev.t (nbne_i he0) (Ev.bind parted_ok (Ev.now _)))))
    rw [flat_last, TA] at g3
    rw [flat_last] at f3
    have mR : ((L ++ [t]).map mkB).length = L.length + 1 := by simp
    have c6 : ((((L ++ [t]).map mkB).length : Nat) : Int) == IntKind.i64.wrap (((L.map mkB).length : Int) + 1) := by rw [wL, mR]; exact beq_self_eq_true _
    have c7 : IntKind.i64.wrap (n1 - n) ≤ ((((L ++ [t]).map mkB).length : Nat) : Int) := by rw [wd, mR]; omega
    have eY : List.drop (IntKind.i64.wrap (n1 - n)).toNat (List.take ((L ++ [t]).map mkB).length ((L ++ [t]).map mkB)) = (ps1.flatten ++ (B0 ++ B1) ++ [t]).map mkB := by
      rw [wd, Int.toNat_natCast, List.take_length, ← List.map_drop, TB, List.append_assoc, List.drop_left]
    have ty : Ev (fun k => ref01_Texts k (List.drop (IntKind.i64.wrap (n1 - n)).toNat (List.take ((L ++ [t]).map mkB).length ((L ++ [t]).map mkB))) ((ps1.flatten ++ (B0 ++ B1) ++ [t]).map mkB)) (true, ()) := by
      rw [eY]
      refine Texts_big _ ?_
      have := congrArg List.length TB
      rw [List.length_append] at this
      rw [List.length_map, List.length_append]; simp at this ⊢; omega
    exact Ev.bind g2 (Ev.bind f2 (Ev.f rfl (Ev.f rfl (Ev.bind g3 (Ev.bind f3 (Ev.bind parted_ok (Ev.t rfl (Ev.t rfl (Ev.t rfl (Ev.t c6 (Ev.dt c3 (Ev.dt c7 (Ev.bind ty (Ev.now _))))))))))))))
  refine Ev.bind hA (Ev.bind hB (Ev.bind hC (Ev.bind hD (Ev.f rfl (Ev.f rfl (Ev.f rfl (Ev.f rfl (Ev.bind hRB (Ev.f rfl (Ev.df c1 (Ev.df c2 ?_)))))))))))
  by_cases hp : IntKind.i64.wrap (n1 - n) > 0
  · have c5 : ¬ n1 > u := by
      rw [wd] at hp
      have := (imin_le u 900000000).1
      rcases mB with q | q <;> omega
    exact Ev.dt hp (Ev.df c5 (Ev.dt c3 (Ev.dt c4 (Ev.bind tx (Ev.f rfl (Ev.bind hsm (Ev.f rfl tail)))))))
  · exact Ev.df hp (Ev.dt c3 (Ev.dt c4 (Ev.bind tx (Ev.f rfl (Ev.bind hsm (Ev.f rfl tail))))))
end Go.Proofs.Ytoeikeabbdnkbaa.Pure
