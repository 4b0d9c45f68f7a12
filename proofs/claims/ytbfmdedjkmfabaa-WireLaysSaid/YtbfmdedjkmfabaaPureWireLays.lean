/- WireLays: for every number, row and text within the law's bounds the printed functions answer as the document's. -/
import Derived.Test.YtbfmdedjkmfabaaWireGets
import Derived.Test.YtbfmdedjkmfabaaQx9
set_option linter.unusedVariables false
set_option linter.unusedSimpArgs false
namespace Go.Proofs.Ytbfmdedjkmfabaa.Pure
open Go.RowKit Go.Proofs.Ytbfmdedjkmfabaa.Q Go.Proofs.YtbfmdedjkmfabaaW.PrintWords Go.Proofs.YtbfmdedjkmfabaaW.PrintLast

theorem WireLays : watchmanlaw01_WireLays.Pure := by
  intro n l s hn hl hl8 hw hs
  have yes : Ev (fun k => watchmanlaw01_WireLays.j0 k n l s true) true := Ev.step (fun k => by rw [watchmanlaw01_WireLays.j0, if_pos rfl]) (Ev.now _)
  by_cases h1 : (l.length : Int) > 200
  · exact (Ev.congr (fun k => by unfold watchmanlaw01_WireLays.f; rw [if_pos h1]) yes).rounds
  by_cases h2 : (s.size : Int) > 3500
  · exact (Ev.congr (fun k => by unfold watchmanlaw01_WireLays.f; rw [if_neg h1, decide_eq_true h2]) yes).rounds
  refine (Ev.congr (f := fun k => watchmanlaw01_WireLays.j0 k n l s false) (fun k => by unfold watchmanlaw01_WireLays.f; rw [if_neg h1, decide_eq_false h2]) ?_ : Ev (fun k => watchmanlaw01_WireLays.f k n l s) true).rounds
  obtain ⟨b, rfl⟩ := all_text s
  have hown : watchmanref01_Own.f l = some l := by unfold watchmanref01_Own.f; rw [if_pos (by simp; omega)]; simp
  refine Ev.step (f := fun k => (watchmanref01_Int.f k n).bind fun x => (watchmanref01_Ints.f k l).bind fun y => (watchmanref01_Text.f k (mkB b)).bind fun z => (watchmanlaw01_wired.f k).bind fun t => (if t = true then (if (IntA n).1.toList = x.1.toList then (if (IntA n).2 = x.2 then (if (IntsA l).1.toList = y.1.toList then (if (IntsA l).2 = y.2 then (if (TextA b).1.toList = z.1.toList then (if (TextA b).2 = z.2 then ((watchmanref01_Same.f k l l).bind fun t243 => (some t243)) else (some false)) else (some false)) else (some false)) else (some false)) else (some false)) else (some false)) else (some false))) (fun k => ?_) ?_
  · rw [watchmanlaw01_WireLays.j0, if_neg (by simp), hown, Int_ok, Ints_ok l (by omega), Text_ok]
    rfl
  · refine Ev.bind (refInt_ok n) (Ev.bind (refInts_ok l (by omega)) (Ev.bind (refText_ok b) (Ev.bind wired_ok ?_)))
    refine Ev.congr (fun k => ?_) (Ev.bind (f := fun _ (t : Bool) => some t) (Same_refl l (by omega)) (Ev.now true))
    simp only [if_pos]
end Go.Proofs.Ytbfmdedjkmfabaa.Pure
