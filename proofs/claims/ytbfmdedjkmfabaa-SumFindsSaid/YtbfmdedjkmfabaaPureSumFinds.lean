/- SumFinds: for every text of at most 200 bytes and any two numbers the law holds of the printed functions. -/
import Derived.Test.YtbfmdedjkmfabaaSumLaw
import Derived.Test.YtbfmdedjkmfabaaQx4
set_option linter.unusedVariables false
set_option linter.unusedSimpArgs false
namespace Go.Proofs.Ytbfmdedjkmfabaa.Pure
open Go.RowKit Go.Proofs.Ytbfmdedjkmfabaa.Q Go.Proofs.YtbfmdedjkmfabaaW.PrintWords Go.Proofs.YtbfmdedjkmfabaaW.PrintLast

theorem finds_end {s : ByteArray} {c most : Int} {r : Int} {b : Bool} (h : FindIs s.data.toList c most 0 r b) :
    Ev (fun k => (watchmanlaw02_summed.f k).bind fun t156 => (if t156 = true then (if b = true then (if r ≥ 0 then (if r ≤ (s.size : Int) then (some (decide (r ≤ most))) else (some false)) else (some false)) else (if r = 0 then (some true) else (some false))) else (some false))) true := by
  refine Ev.bind summed_ok ?_
  refine Ev.congr (fun k => ?_) (Ev.now true)
  rw [if_pos rfl]
  rcases h with ⟨rfl, j, rfl, h1, h2, h3, h4, h5⟩ | ⟨rfl, rfl, h1⟩
  · rw [size_toList] at h2
    rw [if_pos rfl, if_pos (by omega), if_pos (by omega), decide_eq_true h3]
  · rw [if_neg (by simp), if_pos rfl]

theorem finds_loop (s : ByteArray) (c most : Int) (hs : s.size ≤ 200) (r : Int) (b : Bool) (h : FindIs s.data.toList c most 0 r b) (d : Nat) : ∀ (i : Nat), s.size + 1 - i = d → i ≤ s.size + 1 →
    Ev (fun k => watchmanlaw02_SumFinds.l0 k s c most r b (i : Int)) true := by
  have fin : ∀ i : Nat, Ev (fun k => watchmanlaw02_SumFinds.j1 k s c most r b (i : Int) false) true := fun i => by
    refine Ev.step (fun k => ?_) (finds_end h)
    rw [watchmanlaw02_SumFinds.j1]
    rw [if_neg (by simp)]
  induction d with
  | zero =>
    intro i hd hi
    refine Ev.step (fun k => ?_) (fin i)
    rw [watchmanlaw02_SumFinds.l0]
    rw [if_neg (by omega)]
  | succ d ih =>
    intro i hd hi
    have ih := ih (i + 1) (by omega) (by omega)
    have hw : wrap64 ((i : Int) + 1) = ((i + 1 : Nat) : Int) := by rw [wrap64_of (by omega) (by omega)]; omega
    refine Ev.step (f := fun k => watchmanlaw02_SumFinds.j1 k s c most r b (i : Int) (decide ((i : Int) ≤ most))) (fun k => ?_) ?_
    · rw [watchmanlaw02_SumFinds.l0]
      rw [if_pos (by omega)]
    by_cases hm : (i : Int) ≤ most
    · rw [show decide ((i : Int) ≤ most) = true from decide_eq_true hm]
      refine Ev.step (fun k => ?_) ih
      have ho := Of_ok (s.extract 0 i) (by rw [ByteArray.size_extract]; omega)
      rw [bytes_extract, List.drop_zero] at ho
      rw [watchmanlaw02_SumFinds.j1]
      rw [if_pos rfl, if_pos (by omega), if_pos (by omega)]
      simp only [Int.toNat_natCast, ho, Option.bind_some, hw]
      rcases h with ⟨rfl, j, rfl, h1, h2, h3, h4, h5⟩ | ⟨rfl, rfl, h1⟩
      · by_cases e : sumI (s.data.toList.take i) = c
        · have hj : ¬ (i : Int) < (j : Int) := fun hlt => h5 i (by omega) (by omega) e
          rw [if_pos e, if_pos rfl, if_neg hj]
          split <;> rfl
        · have hj : ¬ (i : Int) = (j : Int) := fun he => e (by rw [show i = j by omega]; exact h4)
          rw [if_neg e, if_pos rfl, if_neg hj]
      · have e : ¬ sumI (s.data.toList.take i) = c := h1 i (by omega) (by rw [size_toList]; omega) hm
        rw [if_neg e, if_neg (by simp)]
    · rw [show decide ((i : Int) ≤ most) = false from decide_eq_false hm]
      exact fin i

theorem SumFinds : watchmanlaw02_SumFinds.Pure := by
  intro s c most hs hc hm
  by_cases h : (s.size : Int) > 200
  · exact ⟨0, by unfold watchmanlaw02_SumFinds.f; rw [if_pos h]⟩
  · obtain ⟨r, b, hf, he⟩ := Find_ok s c most hs
    have hl := finds_loop s c most (by omega) r b hf _ 0 rfl (by omega)
    refine Ev.rounds (Ev.congr (fun k => ?_) (Ev.bind (f := fun k (x : Int × Bool) => watchmanlaw02_SumFinds.l0 k s c most x.1 x.2 0) he hl))
    unfold watchmanlaw02_SumFinds.f
    rw [if_neg h]
end Go.Proofs.Ytbfmdedjkmfabaa.Pure
