/- Abstract runs: evOp does in the world what it does to the state. -/
import Derived.Test.YtohlhliifeeokaaGreatAbO
namespace Go.Proofs.YtohlhliifeeokaaGreat.Ab
open Go Go.RowKit
set_option linter.unusedVariables false
set_option linter.unusedSimpArgs false
section
variable {P : Program} {base : Nat} {w0 : World} {S0 : Mem} {φ : Nat → Nat} {ψ : Nat → Value} {S : Mem} {s : St} {a : Act} {w : World}
variable {α : Type} {K : AV → St → Option α} {r : α}
theorem parts_rel (hR : Rl base w0 S0 φ ψ S s a w) : ∀ (l : List (Nat × Operand)), All2 (fun p q => p.1 = q.1 ∧ ARel φ ψ S s.n p.2 q.2) (l.map fun p => (p.1, aval s p.2)) (l.map fun p => (p.1, a.eval p.2))
  | [] => trivial
  | p :: l => ⟨⟨rfl, hR.val p.2⟩, parts_rel hR l⟩
theorem cond_some {b : Bool} {x y : Option α} (h : cond b x y = some r) : (b = true ∧ x = some r) ∨ (b = false ∧ y = some r) := by cases b <;> simp_all
theorem byte_at {v : ByteArray} {i : Int} (h0 : 0 ≤ i) (h1 : i < v.size) : ∃ b : UInt8, (if 0 ≤ i then v[i.toNat]? else none) = some b ∧ byteAt v i = b.toNat := by
  have hlt : i.toNat < v.size := by omega
  refine ⟨v[i.toNat], ?_, ?_⟩
  · rw [if_pos h0, getElem?_pos v i.toNat hlt]
  · unfold byteAt
    have : v.data.toList.getD i.toNat 0 = v[i.toNat] := by
      rw [List.getD_eq_getElem?_getD, Array.getElem?_toList]
      have h2 : i.toNat < v.data.size := hlt
      rw [Array.getElem?_eq_getElem h2]; rfl
    rw [this]
theorem sliceBound_run {k : IntKind} {i : Int} {y : Nat} {c : BoundsCode} (h0 : 0 ≤ i) (h1 : i ≤ (y : Int)) (w : World) : (Instr.sliceBound (.int k i) y c).run P w = .ok i.toNat w := by
  simp [Instr.sliceBound, asIntOf, h0, h1]
theorem optVal (hR : Rl base w0 S0 φ ψ S s a w) : ∀ {lo : Option Operand} {k : IntKind} {i : Int}, lo.map (aval s) = some (.one (.val (.int k i))) → lo.map a.eval = some (.int k i)
  | none, _, _, h => by simp at h
  | some x, _, _, h => by simp at h ⊢; exact hR.valEq h
theorem optNone {lo : Option Operand} (h : lo.map (aval s) = none) : lo.map a.eval = none := by cases lo <;> simp_all
theorem cutHigh_some {hi : Option AV} {n : Nat} {K : Int → Nat → Option α} (h : cutHigh hi n K = some r) :
    ∃ (i : Int) (m : Nat), K i m = some r ∧ i = m ∧ m ≤ n ∧ (hi = none ∧ m = n ∨ ∃ k, hi = some (.one (.val (.int k i)))) := by
  unfold cutHigh at h
  split at h
  · exact ⟨_, _, h, rfl, Nat.le_refl _, .inl ⟨rfl, rfl⟩⟩
  · rename_i k i
    rcases cond_some h with ⟨b1, h⟩ | ⟨_, h⟩
    · rcases cond_some h with ⟨b2, h⟩ | ⟨_, h⟩
      · have b1 := of_decide_eq_true b1
        have b2 := of_decide_eq_true b2
        exact ⟨_, _, h, by omega, by omega, .inr ⟨k, rfl⟩⟩
      · cases h
    · cases h
  · cases h
theorem cutLow_some {lo : Option AV} {m : Nat} {K : Nat → Option α} (h : cutLow lo m K = some r) :
    ∃ (l : Nat), K l = some r ∧ l ≤ m ∧ (lo = none ∧ l = 0 ∨ ∃ k, lo = some (.one (.val (.int k l)))) := by
  unfold cutLow at h
  split at h
  · exact ⟨_, h, Nat.zero_le _, .inl ⟨rfl, rfl⟩⟩
  · rename_i k i
    rcases cond_some h with ⟨b1, h⟩ | ⟨_, h⟩
    · rcases cond_some h with ⟨b2, h⟩ | ⟨_, h⟩
      · have b1 := of_decide_eq_true b1
        have b2 := of_decide_eq_true b2
        exact ⟨_, h, by omega, .inr ⟨k, by rw [show ((i.toNat : Nat) : Int) = i by omega]⟩⟩
      · cases h
    · cases h
  · cases h
theorem bounds_run (hR : Rl base w0 S0 φ ψ S s a w) {isSlice : Bool} {lo hi : Option Operand} {len cap m l : Nat} (hm : m ≤ cap) (hl : l ≤ m) (hhi : hi.map (aval s) = none ∧ m = len ∨ ∃ k, hi.map (aval s) = some (.one (.val (.int k m))))
    (hlo : lo.map (aval s) = none ∧ l = 0 ∨ ∃ k, lo.map (aval s) = some (.one (.val (.int k l)))) :
    (Instr.sliceBounds isSlice len cap (lo.map a.eval) (hi.map a.eval) none).run P w = .ok (l, m, cap) w := by
  unfold Instr.sliceBounds
  rcases hhi with ⟨e, rfl⟩ | ⟨k, e⟩ <;> rcases hlo with ⟨e2, rfl⟩ | ⟨k2, e2⟩
  · rw [optNone (a := a) e, optNone (a := a) e2]; simp
  · rw [optNone (a := a) e, optVal hR e2]; simp [sliceBound_run (i := (l : Int)) (by omega) (by omega : (l : Int) ≤ ((m : Nat) : Int))]
  · rw [optVal hR e, optNone (a := a) e2]; simp [sliceBound_run (i := (m : Int)) (by omega) (by omega : (m : Int) ≤ ((cap : Nat) : Int))]
  · rw [optVal hR e, optVal hR e2]; simp [sliceBound_run (i := (m : Int)) (by omega) (by omega : (m : Int) ≤ ((cap : Nat) : Int)), sliceBound_run (i := (l : Int)) (by omega) (by omega : (l : Int) ≤ ((m : Nat) : Int))]
theorem sliceAt_str {t : TypeId} {lo hi : Option Value} {v : ByteArray} {l m c : Nat} (ht : P.underlying t = some .string) (hb : ∀ b, (Instr.sliceBounds b v.size v.size lo hi none).run P w = .ok (l, m, c) w) : (Instr.sliceAt t (.string v) lo hi none).run P w = .ok (.string (v.extract l m)) w := by
  unfold Instr.sliceAt
  simp only [Sem.run_bind, run_underlying ht, Result.andThen_ok]
  unfold Instr.slice
  simp [run_underlying ht, hb]
theorem sliceAt_sl {t e : TypeId} {lo hi : Option Value} {A : Option Addr} {len cap l m c : Nat} (ht : P.underlying t = some (.slice e)) (hb : ∀ b, (Instr.sliceBounds b len cap lo hi none).run P w = .ok (l, m, c) w) (he : ∃ i, P.info? e = some i) :
    ∃ sz, szOf P e = some sz ∧ (Instr.sliceAt t (.slice A len cap) lo hi none).run P w = .ok (.slice (if c = l then A else A.map (·.add (l * sz))) (m - l) (c - l)) w := by
  obtain ⟨i, hi'⟩ := he
  refine ⟨i.size, by simp [szOf, hi'], ?_⟩
  unfold Instr.sliceAt
  simp only [Sem.run_bind, run_underlying ht, Result.andThen_ok]
  unfold Instr.slice
  simp [run_underlying ht, hb, sizeOf, run_typeInfo _ hi']
end
end Go.Proofs.YtohlhliifeeokaaGreat.Ab
