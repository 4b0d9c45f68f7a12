/- SumOver: for every list of texts within the law's bounds the law holds of the printed functions. -/
import Derived.Test.YtbfmdedjkmfabaaSumLaw
import Derived.Test.YtbfmdedjkmfabaaQx2
set_option linter.unusedVariables false
set_option linter.unusedSimpArgs false
namespace Go.Proofs.Ytbfmdedjkmfabaa.Q
open Go.RowKit
/-- THE ONE PURE STATEMENT of SumOver. -/
def watchmanlaw02_SumOver.Pure : Prop := ∀ (l0 : List ByteArray), (l0.length ≤ maxLen ∧ ∀ x_ ∈ l0, x_.size ≤ maxLen) → ∃ k, watchmanlaw02_SumOver.f k l0 = some true
end Go.Proofs.Ytbfmdedjkmfabaa.Q
namespace Go.Proofs.Ytbfmdedjkmfabaa.Pure
open Go.RowKit Go.Proofs.Ytbfmdedjkmfabaa.Q Go.Proofs.YtbfmdedjkmfabaaW.PrintWords Go.Proofs.YtbfmdedjkmfabaaW.PrintLast

theorem over_loop (l : List ByteArray) (hl : l.length ≤ 30) (hm : ∀ x ∈ l, x.size ≤ maxLen) (d : Nat) : ∀ (i : Nat) (s : ByteArray), l.length - i = d → i ≤ l.length → s.size ≤ 100 * i → s.data.toList = (l.take i).flatMap (·.data.toList) →
    Ev (fun k => watchmanlaw02_SumOver.l0 k l s (i : Int)) true := by
  have hmax : maxLen = 9223372036854775807 := by unfold maxLen; omega
  induction d with
  | zero =>
    intro i s hd hi hs he
    have e : i = l.length := by omega
    subst e
    rw [List.take_length] at he
    refine Ev.step (f := fun k => (watchmanlaw02_summed.f k).bind fun t => if t = true then some true else some false) (fun k => ?_) (Ev.bind summed_ok (Ev.congr (fun k => if_pos rfl) (Ev.now true)))
    rw [watchmanlaw02_SumOver.l0, if_neg (by omega), Over_ok l (fun x hx => by have := hm x hx; omega), Of_ok s (by omega), Over_ok [s, ⟨#[]⟩] (by
      intro x hx
      rcases List.mem_cons.1 hx with rfl | hx
      · omega
      · rw [List.mem_singleton.1 hx]; decide)]
    congr 1
    funext t
    have e1 : ([s, (⟨#[]⟩ : ByteArray)] : List ByteArray).flatMap (·.data.toList) = s.data.toList := by simp
    simp only [Option.bind_some, e1]
    rw [← he]
    simp
  | succ d ih =>
    intro i s hd hi hs he
    have hlt : i < l.length := by omega
    have e0 : rdOf ByteArray.empty l (i : Int) = l[i] := by unfold rdOf; rw [Int.toNat_natCast, List.getD_eq_getElem?_getD, List.getElem?_eq_getElem hlt]; rfl
    by_cases hb : ((l[i].size : Nat) : Int) > 100
    · refine Ev.step (f := fun k => some true) (fun k => ?_) (Ev.now true)
      rw [watchmanlaw02_SumOver.l0, e0, if_pos (by omega), if_pos (by omega), if_pos hb]
    · refine Ev.step (fun k => ?_) (ih (i + 1) (s ++ l[i]) (by omega) (by omega) (by rw [ByteArray.size_append]; omega) ?_)
      · rw [watchmanlaw02_SumOver.l0, e0, if_pos (by omega), if_pos (by omega), if_neg hb, if_pos (by omega), wrap64_of (by omega) (by omega)]
        rfl
      · rw [bytes_append, he, List.take_succ_eq_append_getElem hlt, List.flatMap_append]
        simp

theorem SumOver : watchmanlaw02_SumOver.Pure := by
  intro l ⟨_, hm⟩
  by_cases h : (l.length : Int) > 30
  · exact ⟨0, by unfold watchmanlaw02_SumOver.f; rw [if_pos h]⟩
  · refine (Ev.congr (fun k => by unfold watchmanlaw02_SumOver.f; rw [if_neg h]; rfl) (over_loop l (by omega) hm l.length 0 ⟨#[]⟩ (by omega) (by omega) (by decide) (by simp))).rounds
end Go.Proofs.Ytbfmdedjkmfabaa.Pure
