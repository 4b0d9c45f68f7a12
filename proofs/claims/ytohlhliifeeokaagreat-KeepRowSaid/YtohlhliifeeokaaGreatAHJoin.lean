/- strings.Join keeps its contract, by the shelf. -/
import Derived.Test.YtohlhliifeeokaaGreatAHDef
import Derived.Test.YtohlhliifeeokaaGreatAbG
import Derived.Test.YtohlhliifeeokaaGreatShelf
namespace Go.Proofs.YtohlhliifeeokaaGreat.A
open Go Go.RowKit Go.Proofs.YtohlhliifeeokaaGreat.Ab
set_option linter.unusedVariables false
set_option linter.unusedSimpArgs false
theorem comes_below {res : List Ty} {y : (res.foldr Ty.cons .nil).den} {S : Mem} {w w' : World} {e : Ending} {u : Value} (he : e = .returned u) (hS : ∀ p v, S p = some v → w.cell? p = some v) (hb : Below w.heap.size w w') (hr : ResRep S res y u) : Comes1 res y S w e w' :=
  ⟨u, S, he, Mem.le_refl S, fun p v h => (hb.cell (World.block_lt_of_cell? w _ (hS p v h))).trans (hS p v h), fun p v h h0 => (by rw [h] at h0; cases h0), hr, hb⟩
theorem row_get {S : Mem} {w : World} (hS : ∀ p v, S p = some v → w.cell? p = some v) {l : List ByteArray} {A : Option Addr} (h : ∀ (i : Nat) (x : ByteArray), l[i]? = some x → ∃ a us, A = some a ∧ Reps S .str x us ∧ ∀ j u, us[j]? = some u → S (a.add (i * Ty.str.width + j)) = some u) :
    ∀ (j : Nat) (y : ByteArray), l[j]? = some y → ∃ ad, A = some ad ∧ w.cell? (ad.add j) = some (.string y) := by
  intro j y hj
  obtain ⟨a, us, h1, h2, h3⟩ := h j y hj
  have h2' : us = [.string y] := h2
  subst h2'
  refine ⟨a, h1, ?_⟩
  have := hS _ _ (h3 0 _ rfl)
  simpa [Ty.width] using this
def strings_Join_sig (k : Nat) : Sig := ⟨[(.sl .str), .str], [.str], fun x => strings_Join k x.1 x.2.1⟩
theorem strings_Join_ok (k : Nat) : FnOk Go.Proofs.Tryz.prog 82 (strings_Join_sig k) := by
  refine ⟨entersAb (by kernel_rfl), ?_⟩
  rintro ⟨l, a1, _⟩ ⟨r, _⟩ hy S w vs hS ha
  change ByteArray at r
  match vs, ha with
  | [v0, v1], ⟨h0, h1, _⟩ =>
  have h1 : [v1] = [.string a1] := h1
  obtain rfl : v1 = .string a1 := by simpa using h1
  obtain ⟨A, c, hv, hc, hcells⟩ := (h0 : Reps S (.sl .str) l [v0])
  obtain rfl : v0 = .slice A (lst (t := .str) l).length c := by simpa using hv
  replace hy : strings_Join k l a1 = some (r, ()) := hy
  obtain ⟨g1, g2, hr⟩ := strings_Join_some hy
  have hget := row_get hS hcells
  have fin : ∀ e w', (e = .returned (.string r) ∧ Below w.heap.size w w') → Comes1 [.str] (r, ()) S w e w' := fun e w' ⟨he, hb⟩ => comes_below he hS hb (show Reps S .str r [.string r] from rfl)
  refine Calls.mono ?_ fun e w' h => fin e w' h
  subst hr
  cases l with
  | nil => exact (Tryz.strings_Join_none A c a1 w).mono fun e w' ⟨he, hw⟩ => ⟨he, hw ▸ Below.refl _ _⟩
  | cons x xs =>
    obtain ⟨ad, rfl, h0⟩ := hget 0 x rfl
    have e0 : ad.add 0 = ad := rfl
    rw [e0] at h0
    obtain ⟨b, o, s⟩ := ad
    have hs : s = none := by
      cases s with
      | none => rfl
      | some z =>
        exfalso
        unfold World.cell? at h0
        dsimp only at h0
        split at h0 <;> simp_all
    subst hs
    refine Tryz.strings_Join b o c (x :: xs) a1 w (fun j y hj => ?_) (World.block_lt_of_cell? w _ h0) g1 hc g2
    obtain ⟨ad', e, hy⟩ := hget j y hj
    obtain rfl := Option.some.inj e
    by_cases hj0 : j = 0
    · subst hj0; exact hy
    · have : (Addr.add ⟨b, o, none⟩ j) = ⟨b, o + j, none⟩ := by unfold Addr.add; rw [if_neg hj0]
      rw [this] at hy; exact hy
end Go.Proofs.YtohlhliifeeokaaGreat.A
