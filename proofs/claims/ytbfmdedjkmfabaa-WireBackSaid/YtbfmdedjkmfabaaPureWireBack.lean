/- WireBack: for every row, text and bytes within the law's bounds the law holds of the printed functions. -/
import Derived.Test.YtbfmdedjkmfabaaWireGets
import Derived.Test.YtbfmdedjkmfabaaQx12
set_option linter.unusedVariables false
set_option linter.unusedSimpArgs false
namespace Go.Proofs.Ytbfmdedjkmfabaa.Pure
open Go.RowKit Go.Proofs.Ytbfmdedjkmfabaa.Q Go.Proofs.YtbfmdedjkmfabaaW.PrintWords Go.Proofs.YtbfmdedjkmfabaaW.PrintLast

theorem Short_two (a b : ByteArray) : Ev (fun k => watchmanref01_Short.f k [a, b]) (decide (a.size ≤ 300 ∧ b.size ≤ 300)) := by
  have r0 : rdOf ByteArray.empty [a, b] 0 = a := rfl
  have r1 : rdOf ByteArray.empty [a, b] 1 = b := rfl
  have w0 : wrap64 (0 + 1) = 1 := by decide +kernel
  have w1 : wrap64 (1 + 1) = 2 := by decide +kernel
  by_cases h0 : (a.size : Int) > 300
  · rw [decide_eq_false (by omega)]
    refine Ev.congr (fun k => rfl) (Ev.step (g := fun k => watchmanref01_Short.l0 k [a, b] 0) (fun k => ?_) (Ev.now _))
    rw [watchmanref01_Short.l0, if_pos (by simp), if_pos (by omega), r0, if_pos h0]
  by_cases h1 : (b.size : Int) > 300
  · rw [decide_eq_false (by omega)]
    refine Ev.congr (fun k => rfl) (Ev.step (g := fun k => watchmanref01_Short.l0 k [a, b] 0) (f := fun k => watchmanref01_Short.l0 k [a, b] 1) (fun k => ?_) (Ev.step (fun k => ?_) (Ev.now _)))
    · rw [watchmanref01_Short.l0, if_pos (by simp), if_pos (by omega), r0, if_neg h0, w0]
    · rw [watchmanref01_Short.l0, if_pos (by simp), if_pos (by omega), r1, if_pos h1]
  rw [decide_eq_true (by omega)]
  refine Ev.congr (fun k => rfl) (Ev.step (g := fun k => watchmanref01_Short.l0 k [a, b] 0) (f := fun k => watchmanref01_Short.l0 k [a, b] 1) (fun k => ?_) (Ev.step (f := fun k => watchmanref01_Short.l0 k [a, b] 2) (fun k => ?_) (Ev.step (fun k => ?_) (Ev.now _))))
  · rw [watchmanref01_Short.l0, if_pos (by simp), if_pos (by omega), r0, if_neg h0, w0]
  · rw [watchmanref01_Short.l0, if_pos (by simp), if_pos (by omega), r1, if_neg h1, w1]
  · rw [watchmanref01_Short.l0, if_neg (by simp)]
    simp

theorem WireBack : watchmanlaw01_WireBack.Pure := by
  intro l s q hl hl8 hw hs hq
  have yes : Ev (fun k => watchmanlaw01_WireBack.j0 k l s q true) true := Ev.step (fun k => by rw [watchmanlaw01_WireBack.j0, if_pos rfl]) (Ev.now _)
  by_cases h1 : (l.length : Int) > 100
  · exact (Ev.congr (fun k => by unfold watchmanlaw01_WireBack.f; rw [if_pos h1]) yes).rounds
  refine (Ev.congr (f := fun k => (watchmanref01_Short.f k [s, q]).bind fun t => watchmanlaw01_WireBack.j0 k l s q (!t)) (fun k => by unfold watchmanlaw01_WireBack.f; rw [if_neg h1]) (Ev.bind (Short_two s q) ?_) : Ev (fun k => watchmanlaw01_WireBack.f k l s q) true).rounds
  by_cases h2 : s.size ≤ 300 ∧ q.size ≤ 300
  · rw [decide_eq_true h2]
    obtain ⟨s, rfl⟩ := all_text s
    obtain ⟨q, rfl⟩ := all_text q
    rw [mkB_size, mkB_size] at h2
    have tail : Ev (fun k => watchmanlaw01_WireBack.j1 k (mkB s) (mkB q) false) true := by
      have hi := intB_small (s.length : Int)
      have ht := GetText_back s q (by omega) (by simp only [List.length_append]; omega)
      refine Ev.step (fun k => ?_) (Ev.bind (f := fun k (x : ByteArray × ByteArray × Int) => (watchmanlaw01_wired.f k).bind fun t => (if t = true then (if x.2.2 = 0 then (if x.1.toList = (mkB s).toList then (some (x.2.1.toList == (mkB q).toList)) else (some false)) else (some false)) else (some false))) ht (Ev.bind wired_ok (Ev.congr (fun k => ?_) (Ev.now true))))
      · rw [watchmanlaw01_WireBack.j1, if_neg (by simp), Text_ok]
        unfold TextA
        rw [if_neg (by omega)]
        simp only [Option.bind_some]
        rw [if_pos (by rw [mkB_size, mkB_size]; simp only [List.length_append]; omega), mkB_append, List.append_assoc]
        rfl
      · simp
    have hb := intsB_len l
    by_cases hok : l.all intOk = true
    · have hg := GetInts_back l q (by omega) (by rw [List.length_append]; omega) hok
      refine Ev.step (fun k => ?_) (Ev.bind (f := fun k (x : List Int × ByteArray × Int) => (if x.2.2 = 0 then ((watchmanref01_Same.f k x.1 l).bind fun t310 => (if t310 = true then (watchmanlaw01_WireBack.j1 k (mkB s) (mkB q) (x.2.1.toList != (mkB q).toList)) else (watchmanlaw01_WireBack.j1 k (mkB s) (mkB q) true))) else (watchmanlaw01_WireBack.j1 k (mkB s) (mkB q) true))) hg
        (Ev.congr (fun k => if_pos rfl) (Ev.bind (f := fun k (t310 : Bool) => if t310 = true then (watchmanlaw01_WireBack.j1 k (mkB s) (mkB q) ((mkB q).toList != (mkB q).toList)) else (watchmanlaw01_WireBack.j1 k (mkB s) (mkB q) true)) (Same_refl l (by omega)) (Ev.congr (fun k => ?_) tail))))
      · rw [watchmanlaw01_WireBack.j0, if_neg (by simp), Ints_ok l (by omega)]
        unfold IntsA
        rw [if_pos hok]
        simp only [Option.bind_some]
        rw [if_pos (by rw [mkB_size, mkB_size]; omega), mkB_append]
        rfl
      · rw [if_pos rfl, bne_self_eq_false]
    · obtain ⟨xs, r, e, _, hg, _⟩ := GetInts_both (q) (l.length : Int) (by omega)
      refine Ev.step (fun k => ?_) (Ev.bind (f := fun k (x : List Int × ByteArray × Int) => watchmanlaw01_WireBack.j1 k (mkB s) (mkB q) false) hg tail)
      rw [watchmanlaw01_WireBack.j0, if_neg (by simp), Ints_ok l (by omega)]
      unfold IntsA
      rw [if_neg hok]
      simp only [Option.bind_some]
      rw [if_pos (by rw [mkB_size, mkB_size]; simp; omega), mkB_append, List.nil_append]
      rfl
  · rw [decide_eq_false h2]
    exact yes
end Go.Proofs.Ytbfmdedjkmfabaa.Pure
