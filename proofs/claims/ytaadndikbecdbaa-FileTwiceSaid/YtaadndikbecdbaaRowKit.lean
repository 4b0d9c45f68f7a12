/- How a parameter of any told kind reads as a Lean value: whole numbers, bools, strings, slices of these, structs of these. -/
import Derived.Test.YtaadndikbecdbaaWMore
import Derived.Test.YtaadndikbecdbaaWSized
import Derived.ProofKit
import Derived.ChangeArms
import Derived.Deep.Slices
namespace Go.Proofs.Ytaadndikbecdbaa.Q
open Go.RowKit Go.ChangeShapes Go.WideShapes Go.Proofs.YtaadndikbecdbaaW.PrintWords
set_option linter.unusedVariables false

/-- Whatever of type t can be read is a value of kind d, within the bounds B. -/
def Rd {α : Type} (P : Program) (W : World) (t : TypeId) (d : Kd α) (B : α → Prop) : Prop :=
  ∀ (H : Type) (enc : TypeId × Value → H) (n : Nat) (cs : List Value) (y : DataW H × List MemPlace), DataW.trod enc P W 0 (fun _ => true) true n t cs = some y → ∃ a, d.K W a cs ∧ B a

variable {P : Program} {W : World}

theorem Rd.int {t : TypeId} {k : IntKind} (ht : P.underlying t = some (.int k)) : Rd P W t (Kd.int k) (fun a => (Lit.int k a).wf = true) := fun H enc n cs y h => by
  obtain ⟨a, rfl, _, hw⟩ := DataW.trod_int ht h
  exact ⟨a, rfl, hw⟩
theorem Rd.bool {t : TypeId} (ht : P.underlying t = some .bool) : Rd P W t Kd.bool (fun _ => True) := fun H enc n cs y h => by
  obtain ⟨a, rfl, _⟩ := DataW.trod_bool ht h
  exact ⟨a, rfl, trivial⟩
theorem Rd.string {t : TypeId} (ht : P.underlying t = some .string) : Rd P W t Kd.string (fun s => s.size ≤ maxLen) := fun H enc n cs y h => by
  obtain ⟨a, rfl, _, hw⟩ := DataW.trod_string ht h
  exact ⟨a, rfl, hw⟩

theorem Rd.slice {α : Type} {t e : TypeId} {d : Kd α} {B : α → Prop} (z : α) (ht : P.underlying t = some (.slice e)) (hc : P.cellsOf e = d.sz) (h : Rd P W e d B) :
    Rd P W t (Kd.slice e d) (fun l => l.length ≤ maxLen ∧ ∀ x ∈ l, B x) := fun H enc n cs y hy => by
  rcases Go.Deep.open_slice ht hy with ⟨rfl, _⟩ | ⟨a, len, cap, m, n', D, Pl, rfl, hb, hl, hm, hmm, _, hx⟩
  · exact ⟨[], ⟨none, 0, rfl, Nat.le_refl _, rfl, by simp, fun h => absurd h (by simp)⟩, by simp [maxLen], fun x hx => by simp at hx⟩
  · haveI : Inhabited α := ⟨z⟩
    have hlm : len ≤ m := by rw [hmm]; split <;> omega
    obtain ⟨f, hf⟩ := Go.Deep.choose_lt (α := α) (n := len) (p := fun i x => ∃ cs', W.cells? 0 (a.add (i * P.cellsOf e)) (P.cellsOf e) = some cs' ∧ d.K W x cs' ∧ B x) (fun i hi => by
      obtain ⟨cs', h1, h2⟩ := hx i (by omega)
      obtain ⟨x, h3, h4⟩ := h H enc n' cs' _ h2
      exact ⟨x, cs', h1, h3, h4⟩)
    have hlen : ((List.range len).map f).length = len := by simp
    refine ⟨(List.range len).map f, ⟨some a, cap, by rw [hlen], by rw [hlen]; exact hl, hlen.trans hlen.symm, ?_, fun _ => ⟨a, rfl, fun j p hp => ?_⟩⟩, ?_, ?_⟩
    · rw [hlen]; unfold maxLen at hm; omega
    · have hj : j < len := by have := (List.getElem?_eq_some_iff.1 hp).1; simpa using this
      obtain ⟨cs', h1, h2, h3⟩ := hf j hj
      have e : p = f j := by
        rw [List.getElem?_map, List.getElem?_range hj] at hp
        simpa using hp.symm
      subst e
      obtain ⟨_, hlc, hcell⟩ := World.cells?_some h1
      refine ⟨cs', by rw [← hc]; exact hlc, h2, fun i u hi => ?_⟩
      have hi' : i < P.cellsOf e := by have := (List.getElem?_eq_some_iff.1 hi).1; omega
      have := hcell i hi'
      rw [Go.Deep.add_add, hc] at this
      rw [this]; exact hi
    · rw [hlen]; omega
    · intro x hx'
      obtain ⟨i, hi, rfl⟩ := List.mem_map.1 hx'
      exact (hf i (by simpa using hi)).choose_spec.2.2

/-- The fields of a struct from the cell o on. -/
def RdF {α : Type} (P : Program) (W : World) (fs : List Field) (o : Nat) (d : Kd α) (B : α → Prop) : Prop :=
  ∀ (H : Type) (enc : TypeId × Value → H) (n : Nat) (cs : List Value),
    (∀ f ∈ fs, ∃ y, DataW.trod enc P W 0 (fun _ => true) true n f.type ((cs.drop f.offset).take (P.cellsOf f.type)) = some y) → cs.length = o + d.sz → ∃ a, d.K W a (cs.drop o) ∧ B a
theorem RdF.last {α : Type} {f : Field} {o : Nat} {d : Kd α} {B : α → Prop} (ho : f.offset = o) (hc : P.cellsOf f.type = d.sz) (h : Rd P W f.type d B) : RdF P W [f] o d B := fun H enc n cs hf hl => by
  obtain ⟨y, hy⟩ := hf f (by simp)
  rw [ho, hc, List.take_of_length_le (by rw [List.length_drop]; omega)] at hy
  exact h H enc n _ y hy
theorem RdF.cons {α β : Type} {f : Field} {fs : List Field} {o : Nat} {d : Kd α} {e : Kd β} {B : α → Prop} {C : β → Prop} (ho : f.offset = o) (hc : P.cellsOf f.type = d.sz) (h : Rd P W f.type d B) (hs : RdF P W fs (o + d.sz) e C) :
    RdF P W (f :: fs) o (Kd.pair d e) (fun x => B x.1 ∧ C x.2) := fun H enc n cs hf hl => by
  obtain ⟨y, hy⟩ := hf f (by simp)
  rw [ho, hc] at hy
  obtain ⟨a, ha, hB⟩ := h H enc n _ y hy
  obtain ⟨b, hb, hC⟩ := hs H enc n cs (fun g hg => hf g (List.mem_cons_of_mem _ hg)) (by rw [hl]; show o + (d.sz + e.sz) = _; omega)
  refine ⟨(a, b), ⟨_, _, ?_, ha, hb⟩, hB, hC⟩
  rw [← List.drop_drop, List.take_append_drop]
theorem Rd.tuple {α : Type} {t : TypeId} {fs : Array Field} {D : Kd α} {C : α → Prop} (ht : P.underlying t = some (.struct fs)) (hc : P.cellsOf t = D.sz) (h : RdF P W fs.toList 0 D C) :
    Rd P W t D C := fun H enc n cs y hy => by
  obtain ⟨xs, m, _, _, hl, hxs, hf⟩ := DataW.trod_struct ht hy
  obtain ⟨a, ha, hC⟩ := h H enc m cs (fun f hfm => by
    obtain ⟨i, hi, e⟩ := List.getElem_of_mem hfm
    have hi2 : i < fs.size := by simpa using hi
    have := hf i f (by rw [Array.getElem?_eq_getElem hi2, ← e]; simp)
    rw [List.getElem?_eq_getElem (by omega)] at this
    exact ⟨_, this⟩) (by rw [hl, hc]; omega)
  exact ⟨a, ha, hC⟩
theorem Rd.struct {α β : Type} {t : TypeId} {fs : Array Field} {D : Kd α} {proj : β → α} {C : α → Prop} (ht : P.underlying t = some (.struct fs)) (hc : P.cellsOf t = D.sz) (hp : ∀ x, ∃ y, proj y = x) (h : RdF P W fs.toList 0 D C) :
    Rd P W t (Kd.iso D proj) (fun y => C (proj y)) := fun H enc n cs y hy => by
  obtain ⟨xs, m, _, _, hl, hxs, hf⟩ := DataW.trod_struct ht hy
  obtain ⟨a, ha, hC⟩ := h H enc m cs (fun f hfm => by
    obtain ⟨i, hi, e⟩ := List.getElem_of_mem hfm
    have hi2 : i < fs.size := by simpa using hi
    have := hf i f (by rw [Array.getElem?_eq_getElem hi2, ← e]; simp)
    rw [List.getElem?_eq_getElem (by omega)] at this
    exact ⟨_, this⟩) (by rw [hl, hc]; omega)
  obtain ⟨b, rfl⟩ := hp a
  rw [List.drop_zero] at ha
  exact ⟨b, ha, hC⟩
end Go.Proofs.Ytaadndikbecdbaa.Q
