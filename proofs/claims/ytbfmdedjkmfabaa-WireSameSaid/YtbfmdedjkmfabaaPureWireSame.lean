/- WireSame: for every text within the law's bound and every number the law holds of the printed functions. -/
import Derived.Test.YtbfmdedjkmfabaaWireGets
import Derived.Test.YtbfmdedjkmfabaaQx12
set_option linter.unusedVariables false
set_option linter.unusedSimpArgs false
namespace Go.Proofs.Ytbfmdedjkmfabaa.Pure
open Go.RowKit Go.Proofs.Ytbfmdedjkmfabaa.Q Go.Proofs.YtbfmdedjkmfabaaW.PrintWords Go.Proofs.YtbfmdedjkmfabaaW.PrintLast

theorem same_text (l : List UInt8) (hl : l.length ≤ 1000) : Ev (fun k => watchmanlaw01_WireSame.j0 k (mkB l) false) true := by
  obtain ⟨t, r, g, hx, c1, _⟩ := GetText_both l (by omega)
  refine Ev.step (fun k => ?_) (Ev.bind (f := fun k (x : ByteArray × ByteArray × Int) => (wire_Text.f x.1).bind fun bt327 => ((watchmanlaw01_wired.f k).bind fun t329 => (if t329 = true then (if x.2.2 = 0 then (if bt327.2 = 0 then (if bt327.1.size + x.2.1.size ≤ 9223372036854775807 then (some ((bt327.1 ++ x.2.1).toList == (mkB l).toList)) else (none)) else (some false)) else (some true)) else (some false)))) c1 (Ev.congr (fun k => ?_) (Ev.bind (f := fun _ (t : Bool) => if t = true then some true else some false) wired_ok (Ev.congr (fun k => if_pos rfl) (Ev.now true)))))
  · rw [watchmanlaw01_WireSame.j0, if_neg (by simp)]
  · simp only [Text_ok, Option.bind_some]
    rcases hx with ⟨rfl, h1, h2⟩ | ⟨h1, rfl, rfl⟩
    · unfold TextA
      rw [if_neg (show ¬ (t.length : Int) > 3000 by omega)]
      have hsz : (mkB (intB (t.length : Int) ++ t)).size + (mkB r).size ≤ 9223372036854775807 := by
        have h3 : (intB (t.length : Int) ++ (t ++ r)).length = l.length := by rw [← h2]
        simp only [List.length_append] at h3
        rw [mkB_size, mkB_size, List.length_append]; omega
      simp only [if_pos, if_pos hsz, mkB_append, List.append_assoc, ← h2, beq_self_eq_true]
    · simp only [if_neg h1]

theorem WireSame : watchmanlaw01_WireSame.Pure := by
  intro s many hs hm
  by_cases h : (s.size : Int) > 1000
  · exact ⟨0, by unfold watchmanlaw01_WireSame.f; rw [if_pos h]⟩
  obtain ⟨l, rfl⟩ := all_text s
  rw [mkB_size] at h
  obtain ⟨xs, q, f, hx, b1, _⟩ := GetInts_both l many (by omega)
  refine (Ev.congr (fun k => ?_) (Ev.bind (f := fun k (bt317 : List Int × ByteArray × Int) => (wire_Ints.f bt317.1).bind fun bt322 => (if bt317.2.2 = 0 then (if bt322.2 = 0 then (if bt322.1.size + bt317.2.1.size ≤ 9223372036854775807 then (if (bt322.1 ++ bt317.2.1).toList = (mkB l).toList then (watchmanlaw01_WireSame.j0 k (mkB l) ((bt317.1.length : Int) != many)) else (watchmanlaw01_WireSame.j0 k (mkB l) true)) else (none)) else (watchmanlaw01_WireSame.j0 k (mkB l) true)) else (watchmanlaw01_WireSame.j0 k (mkB l) false))) b1 (Ev.congr (fun k => ?_) (same_text l (by omega)))) : Ev (fun k => watchmanlaw01_WireSame.f k (mkB l) many) true).rounds
  · unfold watchmanlaw01_WireSame.f
    rw [mkB_size, if_neg h]
  · rcases hx with ⟨rfl, h1, h2, h3⟩ | ⟨h1, rfl, rfl⟩
    · have hlen := ints_len_le xs
      have hl2 : (intsB xs).length + q.length = l.length := by rw [h3, List.length_append]
      rw [Ints_ok xs (by omega)]
      unfold IntsA
      rw [if_pos h2]
      simp only [Option.bind_some, if_pos]
      rw [if_pos (by rw [mkB_size, mkB_size]; omega), mkB_append, ← h3, if_pos rfl, h1, bne_self_eq_false]
    · rw [Ints_ok [] (by simp)]
      simp only [Option.bind_some, if_neg h1]
end Go.Proofs.Ytbfmdedjkmfabaa.Pure
