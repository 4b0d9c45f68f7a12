/- SegmentCrash, of data alone. -/
import Derived.Test.YtoeikeabbdnkbaaASegDrop
import Derived.Test.YtoeikeabbdnkbaaAbB
namespace Go.Proofs.Ytoeikeabbdnkbaa.Pure
open Go Go.Proofs.Ytoeikeabbdnkbaa.Ab Go.Proofs.Ytoeikeabbdnkbaa.A
set_option linter.unusedVariables false

theorem Str.sync {n : Int} {pre : List ByteArray} {s u : ByteArray} {ps : List (List Txt)} {B0 B1 : List Txt} (h : Str n pre s u ps B0 B1) : Str n pre (s ++ u) EB ps (B0 ++ B1) [] :=
  ⟨h.p, h.o, by rw [h.s, h.u, mkB_append, ← recsB_app], (recsOk_app _ B0 B1).2 ⟨h.os, h.ou⟩, rfl, trivial⟩
theorem SegmentCrash : ∀ (a0 : Int) (a1 : Int) (a2 : (List ByteArray)) (a3 : (List ByteArray)) (a4 : Int) (a5 : ByteArray), (Lit.int .i64 a0).wf = true → (Lit.int .i64 a1).wf = true → bnd (.sl .str) a2 → bnd (.sl .str) a3 → (Lit.int .i64 a4).wf = true → a5.size ≤ 140737488351232 → ∃ k, law14_SegmentCrash k a0 a1 a2 a3 a4 a5 = some (true, ()) := by
  intro z n l m cr w _ _ h2 h3 _ _
  refine Ev.get ?_
  have h2 : l.length ≤ maxLen := h2.1
  have h3 : m.length ≤ maxLen := h3.1
  rcases SNew_cases z n with ⟨ok0, hN⟩ | hN
  case inr => exact Ev.bind hN (Ev.t rfl (Ev.bind parted_ok (Ev.now _)))
  refine Ev.bind hN (Ev.f rfl ?_)
  obtain ⟨x2, hx2, s2⟩ := sfar_ok z n (files z [] EB EB) l (by have := ok0.len; unfold maxLen; omega) h2
  cases x2 with
  | true => exact Ev.bind hx2 (Ev.t rfl (Ev.bind parted_ok (Ev.now _)))
  | false =>
  refine Ev.bind hx2 (Ev.f rfl ?_)
  obtain ⟨x3, hx3, s3⟩ := sfar_ok z n (files z [] EB EB) m (by have := ok0.len; unfold maxLen; omega) h3
  cases x3 with
  | true => exact Ev.bind hx3 (Ev.t rfl (Ev.bind parted_ok (Ev.now _)))
  | false =>
  refine Ev.bind hx3 (Ev.f rfl ?_)
  by_cases hw : (w.size : Int) > 100
  · exact Ev.dt hw (Ev.bind parted_ok (Ev.now _))
  refine Ev.df hw ?_
  obtain ⟨_, _, s2, _⟩ := s2 rfl
  obtain ⟨_, _, s3, _⟩ := s3 rfl
  obtain ⟨L, rfl⟩ := all_texts l
  obtain ⟨M, rfl⟩ := all_texts m
  obtain ⟨t, rfl⟩ := all_text w
  have mL : (L.map mkB).length = L.length := List.length_map ..
  have mM : (M.map mkB).length = M.length := List.length_map ..
  have n0 := ok0.n0
  have n1 := ok0.n1
  obtain ⟨x0, y0, sc0⟩ := (Str.new n).scan ok0
  have sc0 : Ev (fun k => segment_scan k (SL z n [] EB EB)) (([], x0, y0, true, ()), ()) := sc0
  have add0 := Add_good ok0 sc0 (by simp) L (by omega)
  have e0 : n + ((([] : List ByteArray).length : Nat) : Int) = n := by simp
  rw [e0] at add0
  by_cases h : (runA z n L ([], EB, EB)).1 = 0
  case neg => exact Ev.bind (add0.2 h) (Ev.bind Sync_bad (Ev.bind (Add_bad _) (Ev.t (nbne_i h) (Ev.bind parted_ok (Ev.now _)))))
  have hA := add0.1 h
  have st := Str.run (z := z) (n := n) L ([], EB, EB) [] [] [] ok0 (Str.new n) (by simp; omega)
  have e1 : n + (((([] : List (List Txt)).flatten ++ (([] : List Txt) ++ ([] : List Txt))).length : Nat) : Int) = n := by simp
  rw [e1] at st
  obtain ⟨ps, B0, B1, okA, SA, TA, _⟩ := st h
  have TA : ps.flatten ++ (B0 ++ B1) = L := by simpa using TA
  generalize hσ : (runA z n L ([], EB, EB)).2 = σ at hA okA SA
  obtain ⟨pre, s, b⟩ := σ
  have okA : okL z n pre s b := okA
  have SA : Str n pre s b ps B0 B1 := SA
  have hB := SSync_ok okA
  have okB := okA.sync
  have SB := Str.sync SA
  obtain ⟨x1, y1, sc1⟩ := SB.scan okB
  rw [List.append_nil, TA] at sc1
  have add1 := Add_good okB sc1 (by omega) M (by omega)
  rw [mL] at add1
  by_cases h' : (runA z (n + L.length) M (pre, s ++ b, EB)).1 = 0
  case neg => exact Ev.bind hA (Ev.bind hB (Ev.bind (add1.2 h') (Ev.f rfl (Ev.f rfl (Ev.t (nbne_i h') (Ev.bind parted_ok (Ev.now _)))))))
  have hC := add1.1 h'
  have st2 := Str.run (z := z) (n := n) M (pre, s ++ b, EB) ps (B0 ++ B1) [] okB SB (by rw [List.append_nil, TA]; omega)
  rw [List.append_nil, TA] at st2
  obtain ⟨qs, C0, C1, okC, SC, TC, hge⟩ := st2 h'
  generalize hσ : (runA z (n + L.length) M (pre, s ++ b, EB)).2 = σ at hC okC SC
  obtain ⟨pre3, s3', u3⟩ := σ
  have okC : okL z n pre3 s3' u3 := okC
  have SC : Str n pre3 s3' u3 qs C0 C1 := SC
  have hLC : L.length ≤ qs.flatten.length + C0.length := by
    have := congrArg List.length TA
    simp only [List.length_append] at this hge
    omega
  refine Ev.bind hA (Ev.bind hB (Ev.bind hC (Ev.f rfl (Ev.f rfl (Ev.f rfl ?_)))))
  -- the crash
  have hD := SCrash_ok okC cr
  have okD := okC.crash cr
  obtain ⟨j, hj⟩ : ∃ j, leftN cr u3.size = j := ⟨_, rfl⟩
  rw [hj] at hD okD
  obtain ⟨i, rest, hi, hs⟩ := scan_part SC.ou j
  obtain ⟨Y, hY⟩ : ∃ Y, s3' ++ u3.extract 0 j = Y := ⟨_, rfl⟩
  rw [hY] at hD okD
  have eY : contF (F z Y EB) = recsB (n + qs.flatten.length) C0 ++ (recsB (n + qs.flatten.length + C0.length) C1).take j := by
    rw [contF_pre, ← hY, bytes_append, SC.s, SC.u, bytes_extract, List.drop_zero]; rfl
  have hsc : ScanIs (contF (F z Y EB)) (n + qs.flatten.length) (C0 ++ C1.take i) rest := by rw [eY]; exact scan_behind SC.os hs
  have key : ∃ pre4 s4 u4, okL z n pre4 s4 u4 ∧ Ev (fun k => segment_Mend k (SL z n pre3 Y EB)) (SL z n pre4 s4 u4, 0, ()) ∧ (files z pre4 s4 u4).map contF = filesB n (qs ++ [C0 ++ C1.take i]) ∧ partsOk n (qs ++ [C0 ++ C1.take i]) := by
    by_cases hr : rest = []
    · subst hr
      have hc : (files z pre3 Y EB).map contF = filesB n (qs ++ [C0 ++ C1.take i]) := by
        rw [files_cont, SC.p, filesB_app]
        have := hsc.2.1
        rw [List.append_nil, contF_pre] at this
        rw [app_E, this]; rfl
      have hp : partsOk n (qs ++ [C0 ++ C1.take i]) := (partsOk_app n qs _).2 ⟨SC.o, hsc.1, trivial⟩
      obtain ⟨x, y, sc⟩ := scan_good z n _ okD.len okD.bd okD.n0 okD.n1 hc hp
      exact ⟨pre3, Y, EB, okD, Mend_good okD sc, hc, hp⟩
    · have hpc : (pre3.map (fun x => F z x EB)).map contF = filesB n qs := by
        rw [← SC.p, List.map_map]
        apply List.map_congr_left
        intro x _
        exact contF_pre z x
      obtain ⟨pre4, W, k1, k2, k3, k4, _⟩ := Mend_bad okD (p := pre3.map (fun x => F z x EB)) (f := F z Y EB) (q := []) rfl hpc SC.o hsc hr
      exact ⟨pre4, W, EB, k1, k2, k3, k4⟩
  obtain ⟨pre4, s4, u4, okE, hE, cE, oE⟩ := key
  obtain ⟨xE, yE, scE⟩ := scan_good z n _ okE.len okE.bd okE.n0 okE.n1 cE oE
  have hRE := Read_scan okE scE
  have one := Add_one okE cE oE t
  rw [flat_last] at hRE one
  obtain ⟨U, hU⟩ : ∃ U, qs.flatten ++ (C0 ++ C1.take i) = U := ⟨_, rfl⟩
  rw [hU] at hRE one
  have mU : (U.map mkB).length = U.length := List.length_map ..
  have hTC := congrArg List.length TC
  have hU2 := congrArg List.length hU
  simp only [List.length_append, List.length_take] at hTC hU2
  have lo : L.length ≤ U.length := by omega
  have hi2 : U.length ≤ L.length + M.length := by omega
  have pfx : U = (L ++ M).take U.length := by
    rw [← TC, ← hU, List.take_append, List.take_append]
    rw [List.take_of_length_le (l := qs.flatten) (by simp), List.take_of_length_le (l := C0) (by simp)]
    congr 2
    simp only [List.length_append, List.length_take]
    congr 1
    omega
  have wU : IntKind.i64.wrap (((U.map mkB).length : Int) + 1) = ((U.length + 1 : Nat) : Int) := by rw [mU]; exact wrap_succ (by omega)
  have tail : ∀ (XL : Int) (XT : List ByteArray), (U.length : Int) ≤ XL → XT = U.map mkB → Ev (fun k => (bif decide (((U.map mkB).length : Int) < ((L.map mkB).length : Int)) then some (false, ()) else (bif decide (((U.map mkB).length : Int) > XL) then some (false, ()) else (bif decide (((U.map mkB).length : Int) ≤ XL) then ((ref01_Texts k (U.map mkB) XT).bind fun r10 => (bif !r10.1 then some (false, ()) else ((segment_Add k (SL z n pre4 s4 u4) [mkB t]).bind fun r11 => ((segment_Read k (r11.1.1, r11.1.2.1, r11.1.2.2.1, ())).bind fun r12 => (bif r11.2.1 != 0 then ((law14_parted k).bind fun r15 => (bif r15.1 then (bif r11.2.1 == 2 then some (true, ()) else some (r11.2.1 == 81, ())) else some (false, ()))) else ((law14_parted k).bind fun r13 => (bif r13.1 then (bif r12.2.1 == 0 then (bif ((List.length r12.1) : Int) == IntKind.i64.wrap (((U.map mkB).length : Int) + 1) then (bif decide (((U.map mkB).length : Int) < ((List.length r12.1) : Int)) then (bif ByteArray.toList (List.getD r12.1 ((U.map mkB).length : Int).toNat Ty.str.zero) == (mkB t).toList then (bif decide (((U.map mkB).length : Int) ≤ ((List.length r12.1) : Int)) then ((ref01_Texts k (List.drop 0 (List.take ((U.map mkB).length : Int).toNat r12.1)) (U.map mkB)).bind fun r14 => some (r14.1, ())) else none) else some (false, ())) else none) else some (false, ())) else some (false, ())) else some (false, ())))))))) else none)))) (true, ()) := by
    rintro XL XT hX rfl
    have c1 : ¬ ((U.map mkB).length : Int) < ((L.map mkB).length : Int) := by omega
    have c2 : ¬ ((U.map mkB).length : Int) > XL := by omega
    have c3 : ((U.map mkB).length : Int) ≤ XL := by omega
    have tx := Texts_ok (U.map mkB) (by omega)
    refine Ev.df c1 (Ev.df c2 (Ev.dt c3 (Ev.bind tx (Ev.f rfl ?_))))
    rcases one with ⟨p5, s5, u5, g1, g2, g3⟩ | ⟨e, he, g2⟩
    · have mR : ((U ++ [t]).map mkB).length = U.length + 1 := by simp
      have c6 : ((((U ++ [t]).map mkB).length : Nat) : Int) == IntKind.i64.wrap (((U.map mkB).length : Int) + 1) := by rw [wU, mR]; exact beq_self_eq_true _
      have c7 : ((U.map mkB).length : Int) < ((((U ++ [t]).map mkB).length : Nat) : Int) := by rw [mR, mU]; omega
      have c8 : (ByteArray.toList (List.getD ((U ++ [t]).map mkB) ((U.map mkB).length : Int).toNat Ty.str.zero) == (mkB t).toList) = true := by
        have : List.getD ((U ++ [t]).map mkB) ((U.map mkB).length : Int).toNat Ty.str.zero = mkB t := by rw [mU]; exact getD_mid U t []
        rw [this]; exact beq_self_eq_true _
      have c9 : ((U.map mkB).length : Int) ≤ ((((U ++ [t]).map mkB).length : Nat) : Int) := by omega
      have eZ : List.drop 0 (List.take ((U.map mkB).length : Int).toNat ((U ++ [t]).map mkB)) = U.map mkB := by
        rw [List.drop_zero, List.map_append, Int.toNat_natCast, List.take_left]
      have ty : Ev (fun k => ref01_Texts k (List.drop 0 (List.take ((U.map mkB).length : Int).toNat ((U ++ [t]).map mkB))) (U.map mkB)) (true, ()) := by rw [eZ]; exact tx
      exact Ev.bind g2 (Ev.bind g3 (Ev.f rfl (Ev.bind parted_ok (Ev.t rfl (Ev.t rfl (Ev.t c6 (Ev.dt c7 (Ev.t c8 (Ev.dt c9 (Ev.bind ty (Ev.now _)))))))))))
    · refine Ev.bind g2 (Ev.bind Read_bad ?_)
      rcases he with rfl | rfl
      · exact Ev.t rfl (Ev.bind parted_ok (Ev.t rfl (Ev.t rfl (Ev.now _))))
      · exact Ev.t rfl (Ev.bind parted_ok (Ev.t rfl (Ev.f rfl (Ev.now _))))
  refine Ev.bind hD (Ev.bind hE (Ev.bind hRE ?_))
  have cut : ∀ X : List ByteArray, X = (L ++ M).map mkB → List.drop 0 (List.take ((U.map mkB).length : Int).toNat X) = U.map mkB := by
    rintro X rfl
    rw [List.drop_zero, Int.toNat_natCast, mU, ← List.map_take, ← pfx]
  cases L with
  | nil =>
    refine Ev.t rfl ?_
    cases M with
    | nil =>
      have hU0 : U.length = 0 := by simp at hi2; simp [hi2]
      exact Ev.t rfl (Ev.f rfl (Ev.f rfl (Ev.f rfl (tail 0 [] (by omega) (by rw [List.length_eq_zero_iff.1 hU0]; rfl)))))
    | cons a M => exact Ev.f rfl (Ev.dt (by rw [mM]; omega) (Ev.f rfl (Ev.f rfl (Ev.f rfl (tail _ _ (by rw [mM]; simp at hi2 ⊢; omega) (cut _ rfl))))))
  | cons a L =>
    refine Ev.f rfl (Ev.dt (by rw [mL]; omega) ?_)
    cases M with
    | nil =>
      refine Ev.t rfl (Ev.f rfl (Ev.f rfl (Ev.f rfl (tail _ _ (by rw [mL]; simp at hi2 ⊢; omega) (cut _ (by rw [List.append_nil]))))))
    | cons c M =>
      refine Ev.f rfl (Ev.dt (by rw [mL, mM]; omega) (Ev.f rfl (Ev.f rfl (Ev.f rfl (tail _ _ (by rw [List.length_append, mL, mM]; omega) (cut _ (by rw [List.map_append])))))))
end Go.Proofs.Ytoeikeabbdnkbaa.Pure
