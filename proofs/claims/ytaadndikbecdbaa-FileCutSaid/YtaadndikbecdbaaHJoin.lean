/- strings.Join, out of the shelf's contract, for a slice that is read. -/
import Derived.Test.YtaadndikbecdbaaQx0
import Derived.Test.YtaadndikbecdbaaShelf
namespace Go.Proofs.Ytaadndikbecdbaa.Q
open Go.RowKit Go.Proofs.YtaadndikbecdbaaW.PrintWords Go.Proofs.YtaadndikbecdbaaW.PrintLast Go.Proofs.YtaadndikbecdbaaW.PrintMore
set_option linter.unusedVariables false
set_option linter.unusedSimpArgs false

def joinOf (l : List ByteArray) (sep : ByteArray) : ByteArray := ⟨(Lib.join (l.map (·.data.toList)) sep.data.toList).toArray⟩
def strings_Join.f (l : List ByteArray) (sep : ByteArray) : Option ByteArray :=
  if l.length ≤ 140737488355328 ∧ (Lib.join (l.map (·.data.toList)) sep.data.toList).length ≤ 140737488355328 then some (joinOf l sep) else none

theorem strings_Join.calls (A0 : Option Addr) (c0 : Nat) (l0 : List ByteArray) (a1 : ByteArray) (r : ByteArray) (w : World) (hr0 : Kd.C Kd.string w A0 l0.length l0) (hc0 : l0.length ≤ c0) (h : strings_Join.f l0 a1 = some r) :
    Calls Try.prog 42 #[.slice A0 l0.length c0, .string a1] w fun e w' => e = .returned (.string r) ∧ Below w.heap.size w w' := by
  unfold strings_Join.f at h
  by_cases hg : l0.length ≤ 140737488355328 ∧ (Lib.join (l0.map (·.data.toList)) a1.data.toList).length ≤ 140737488355328
  · rw [if_pos hg] at h
    obtain rfl := Option.some.inj h
    cases l0 with
    | nil =>
      refine (Try.strings_Join_none A0 c0 a1 w).mono fun e w' ⟨he, hw⟩ => ⟨he, hw ▸ Below.refl _ _⟩
    | cons x xs =>
      have hget : ∀ (j : Nat) (y : ByteArray), (x :: xs)[j]? = some y → ∃ ad, A0 = some ad ∧ w.cell? (ad.add j) = some (.string y) := by
        intro j y hj
        have hlt : j < (x :: xs).length := (List.getElem?_eq_some_iff.1 hj).1
        obtain ⟨ad, c, e, _, hK, hc⟩ := Kd.C_get hr0 (⟨#[]⟩ : ByteArray) (j : Int) (by omega) (by omega)
        have hc' : ∀ i u, c[i]? = some u → w.cell? (ad.add ((j : Int).toNat * 1 + i)) = some u := hc
        have hK' : c = [.string ((x :: xs).getD (j : Int).toNat ⟨#[]⟩)] := hK
        subst hK'
        have := hc' 0 _ rfl
        rw [Int.toNat_natCast, Nat.mul_one, Nat.add_zero, List.getD_eq_getElem?_getD, hj] at this
        exact ⟨ad, e, this⟩
      obtain ⟨ad, rfl, h0⟩ := hget 0 x rfl
      have e0 : ad.add 0 = ad := rfl
      rw [e0] at h0
      obtain ⟨b, o, s⟩ := ad
      have hs : s = none := by
        cases s with
        | none => rfl
        | some z =>
          exfalso
          unfold World.cell? at h0
          dsimp only at h0
          split at h0 <;> simp_all
      subst hs
      refine Try.strings_Join b o c0 (x :: xs) a1 w (fun j y hj => ?_) (World.block_lt_of_cell? w _ h0) hg.1 hc0 hg.2
      obtain ⟨ad', e, hy⟩ := hget j y hj
      obtain rfl := Option.some.inj e
      by_cases hj0 : j = 0
      · subst hj0; exact hy
      · have : (Addr.add ⟨b, o, none⟩ j) = ⟨b, o + j, none⟩ := by unfold Addr.add; rw [if_neg hj0]
        rw [this] at hy; exact hy
  · rw [if_neg hg] at h; exact absurd h (by simp)
end Go.Proofs.Ytaadndikbecdbaa.Q
