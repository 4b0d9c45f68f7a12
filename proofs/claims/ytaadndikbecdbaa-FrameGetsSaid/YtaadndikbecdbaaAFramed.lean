/- The document's rows of frames. -/
import Derived.Test.YtaadndikbecdbaaAFrameRow
import Derived.KernelRfl
namespace Go.Proofs.Ytaadndikbecdbaa.A
open Go Go.Proofs.Ytaadndikbecdbaa.Ab
set_option linter.unusedVariables false
set_option linter.unusedSimpArgs false

set_option maxRecDepth 100000 in
theorem framed_all (q : Nat) : law03_framed (q + 40) = some (true, ()) := by kernel_rfl
theorem framed_ok : Ev (fun k => law03_framed k) (true, ()) := ⟨40, fun k hk => by
  obtain ⟨q, rfl⟩ : ∃ q, k = q + 40 := ⟨k - 40, by omega⟩
  exact framed_all q⟩
theorem Short_l (l : List ByteArray) (hl : l.length ≤ 9223372036854775807) (d : Nat) : ∀ i : Nat, i + d = l.length → (∀ j (h : j < l.length), j < i → (l[j]).size ≤ 300) →
    (Ev (fun k => ref01_Short_l1 l k (false, (i : Int), ())) (.exit 0, false, (l.length : Int), ()) ∧ ∀ x ∈ l, x.size ≤ 300) ∨ (∃ u, Ev (fun k => ref01_Short_l1 l k (false, (i : Int), ())) (.ret, false, u, ()) ∧ ¬ ∀ x ∈ l, x.size ≤ 300) := by
  induction d with
  | zero =>
    intro i hi h
    obtain rfl : i = l.length := by omega
    refine .inl ⟨Ev.step (Ev.df (by show ¬ (l.length : Int) < l.length; omega) (Ev.now _)), fun x hx => ?_⟩
    obtain ⟨j, hj, rfl⟩ := List.mem_iff_getElem.1 hx
    exact h j hj hj
  | succ d ih =>
    intro i hi h
    have hlt : i < l.length := by omega
    have c0 : (i : Int) < (l.length : Int) := by omega
    have c1 : (0 : Int) ≤ (i : Int) := by omega
    have e := getD_z l i hlt
    by_cases hb : ((l[i]).size : Int) > 300
    · refine .inr ⟨(i : Int), Ev.step (Ev.dt c0 (Ev.dt c1 (Ev.dt c0 (Ev.dt (by show ((l.getD (Int.toNat (i : Int)) Ty.str.zero).size : Int) > 300; rw [e]; exact hb) (Ev.now _))))), fun hh => ?_⟩
      have := hh _ (List.getElem_mem hlt); omega
    · have go : ∀ {R}, Ev (fun k => ref01_Short_l1 l k (false, ((i + 1 : Nat) : Int), ())) R → Ev (fun k => ref01_Short_l1 l k (false, (i : Int), ())) R := fun {R} h => by
        rw [← wrap_succ (by omega)] at h
        exact Ev.step (Ev.dt c0 (Ev.dt c1 (Ev.dt c0 (Ev.df (by show ¬ ((l.getD (Int.toNat (i : Int)) Ty.str.zero).size : Int) > 300; rw [e]; exact hb) h))))
      rcases ih (i + 1) (by omega) (fun j hj hji => by
        by_cases e2 : j = i
        · subst e2; omega
        · exact h j hj (by omega)) with ⟨k1, k2⟩ | ⟨u, k1, k2⟩
      · exact .inl ⟨go k1, k2⟩
      · exact .inr ⟨u, go k1, k2⟩
/-- Are texts few, and short? -/
def shortB (l : List ByteArray) : Bool := decide (l.length ≤ 60 ∧ ∀ x ∈ l, x.size ≤ 300)
theorem Short_ok (l : List ByteArray) (hl : l.length ≤ 9223372036854775807) : Ev (fun k => ref01_Short k l) (shortB l, ()) := by
  rcases Short_l l hl l.length 0 (by omega) (fun j _ h => absurd h (by omega)) with ⟨h1, h2⟩ | ⟨u, h1, h2⟩
  · refine Ev.bind h1 (Ev.t rfl ?_)
    have : shortB l = decide ((l.length : Int) ≤ 60) := by unfold shortB; rw [decide_eq_decide]; exact ⟨fun h => by have := h.1; omega, fun h => ⟨by omega, h2⟩⟩
    rw [this]; exact Ev.now _
  · have : shortB l = false := decide_eq_false (fun h => h2 h.2)
    rw [this]; exact Ev.bind h1 (Ev.now _)
theorem list_mk (l : List ByteArray) : ∃ ts : List (List UInt8), l = ts.map mkB := ⟨l.map (·.data.toList), by rw [List.map_map]; exact (List.map_id l).symm.trans (List.map_congr_left fun x _ => (mkB_of x).symm)⟩
end Go.Proofs.Ytaadndikbecdbaa.A
