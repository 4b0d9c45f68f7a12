/- WireReads: for every text within the law's bound and every number the printed functions answer as the document's. -/
import Derived.Test.YtbfmdedjkmfabaaWireGets
import Derived.Test.YtbfmdedjkmfabaaQx11
set_option linter.unusedVariables false
set_option linter.unusedSimpArgs false
namespace Go.Proofs.Ytbfmdedjkmfabaa.Pure
open Go.RowKit Go.Proofs.Ytbfmdedjkmfabaa.Q Go.Proofs.YtbfmdedjkmfabaaW.PrintWords Go.Proofs.YtbfmdedjkmfabaaW.PrintLast

theorem WireReads : watchmanlaw01_WireReads.Pure := by
  intro s many hs hm
  by_cases h : (s.size : Int) > 1000
  · exact ⟨0, by unfold watchmanlaw01_WireReads.f; rw [if_pos h]⟩
  obtain ⟨l, rfl⟩ := all_text s
  rw [mkB_size] at h
  obtain ⟨n, rest, e, _, a1, a2⟩ := Get_both l (by omega)
  obtain ⟨xs, q, f, hx, b1, b2⟩ := GetInts_both l many (by omega)
  obtain ⟨t, r, g, _, c1, c2⟩ := GetText_both l (by omega)
  have hxl : xs.length ≤ 9223372036854775800 := by
    rcases hx with ⟨_, h1, h2, h3⟩ | ⟨_, rfl, _⟩
    · have := ints_len_le xs
      rw [h3, List.length_append] at h
      omega
    · simp
  have all := Ev.bind (f := fun k (x : Int × ByteArray × Int) => (watchmanref01_GetInt.f k (mkB l)).bind fun bt277 => ((wire_GetInts.f k (mkB l) many).bind fun bt280 => ((watchmanref01_GetInts.f k (mkB l) many).bind fun bt285 => ((wire_GetText.f k (mkB l)).bind fun bt290 => ((watchmanref01_GetText.f k (mkB l)).bind fun bt293 => ((watchmanlaw01_wired.f k).bind fun t296 => (if t296 = true then (if x.1 = bt277.1 then (if x.2.1.toList = bt277.2.1.toList then (if x.2.2 = bt277.2.2 then ((watchmanref01_Same.f k bt280.1 bt285.1).bind fun t297 => (if t297 = true then (if bt280.2.1.toList = bt285.2.1.toList then (if bt280.2.2 = bt285.2.2 then (if bt290.1.toList = bt293.1.toList then (if bt290.2.1.toList = bt293.2.1.toList then (some (bt290.2.2 == bt293.2.2)) else (some false)) else (some false)) else (some false)) else (some false)) else (some false))) else (some false)) else (some false)) else (some false)) else (some false))))))))
    a1 (Ev.bind a2 (Ev.bind b1 (Ev.bind b2 (Ev.bind c1 (Ev.bind c2 (Ev.bind wired_ok (r := true) (Ev.congr (fun k => by simp only [if_pos, beq_self_eq_true]) (Ev.bind (f := fun _ (t297 : Bool) => if t297 = true then some true else some false) (Same_refl xs hxl) (Ev.congr (fun k => if_pos rfl) (Ev.now true))))))))))
  refine (Ev.congr (fun k => ?_) all).rounds
  unfold watchmanlaw01_WireReads.f
  rw [mkB_size, if_neg h]
end Go.Proofs.Ytbfmdedjkmfabaa.Pure
