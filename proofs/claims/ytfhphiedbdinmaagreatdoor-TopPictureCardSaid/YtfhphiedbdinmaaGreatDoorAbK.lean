import Derived.Test.YtfhphiedbdinmaaGreatDoorARange
import Derived.Test.YtfhphiedbdinmaaGreatDoorAbI
import Derived.ChangeArms
set_option linter.all false
namespace Go.Proofs.YtfhphiedbdinmaaGreatDoor.Ab
open Go Go.RowKit Go.ChangeShapes Go.WideShapes
def RdT (P : Program) (W : World) (t : TypeId) (ty : Ty) : Prop :=
 ∀ (H : Type) (enc : TypeId × Value -> H) (n : Nat) (cs : List Value) (y : DataW H × List MemPlace), DataW.trod enc P W 0 (fun _ => true) true n t cs = some y -> ∃ x : ty.den, Reps W.cell? ty x cs /\ bnd ty x
variable {P : Program} {W : World}
theorem RdT.int {t : TypeId} {k : IntKind} (ht : P.underlying t = some (.int k)) : RdT P W t (.int k) := fun H enc n cs y h => by
 obtain ⟨a, rfl, _, hw⟩ := DataW.trod_int ht h
 exact ⟨a, rfl, hw⟩
theorem RdT.sl {t e : TypeId} {ty : Ty} (ht : P.underlying t = some (.slice e)) (hc : P.cellsOf e = ty.width) (h : RdT P W e ty) : RdT P W t (.sl ty) := fun H enc n cs y hy => by
 rcases Go.Deep.open_slice ht hy with ⟨rfl, _⟩ | ⟨a, len, cap, m, n', D, Pl, rfl, hb, hl, hm, hmm, _, hx⟩
 . exact ⟨[], ⟨none, 0, rfl, Nat.le_refl _, fun i x hi => by simp [lst] at hi⟩, Nat.zero_le _, fun x hx => by cases hx⟩
 . haveI : Inhabited ty.den := ⟨ty.zero⟩
   have hlm : len <= m := by rw [hmm]; split <;> omega
   obtain ⟨f, hf⟩ := Go.Deep.choose_lt (α := ty.den) (n := len) (p := fun i x => ∃ cs', W.cells? 0 (a.add (i * P.cellsOf e)) (P.cellsOf e) = some cs' /\ Reps W.cell? ty x cs' /\ bnd ty x) (fun i hi => by
    obtain ⟨cs', h1, h2⟩ := hx i (by omega)
    obtain ⟨x, h3, h4⟩ := h H enc n' cs' _ h2
    exact ⟨x, cs', h1, h3, h4⟩)
   have hlen : ((List.range len).map f).length = len := by simp
   refine ⟨(List.range len).map f, ⟨some a, cap, ?_, ?_, fun j p hp => ?_⟩, ?_, ?_⟩
   . show _ = [Value.slice (some a) ((List.range len).map f).length cap]
     rw [hlen]
   . show ((List.range len).map f).length <= cap
     rw [hlen]; exact hl
   . replace hp : ((List.range len).map f)[j]? = some p := hp
     have hj : j < len := by have := (List.getElem?_eq_some_iff.1 hp).1; rw [hlen] at this; exact this
     obtain ⟨cs', h1, h2, h3⟩ := hf j hj
     have e : p = f j := by
      rw [List.getElem?_map, List.getElem?_range hj] at hp
      simpa using hp.symm
     subst e
     obtain ⟨_, hlc, hcell⟩ := World.cells?_some h1
     refine ⟨a, cs', rfl, h2, fun i u hi => ?_⟩
     have hi' : i < P.cellsOf e := by have := (List.getElem?_eq_some_iff.1 hi).1; omega
     have := hcell i hi'
     rw [Go.Deep.add_add, hc] at this
     rw [this]; exact hi
   . show ((List.range len).map f).length <= maxLen
     rw [hlen]; unfold maxLen at hm ⊢; omega
   . intro x hx'
     obtain ⟨i, hi, rfl⟩ := List.mem_map.1 (show x ∈ (List.range len).map f from hx')
     exact (hf i (by simpa using hi)).choose_spec.2.2
def RdS (P : Program) (W : World) (fs : List Field) (o : Nat) (ty : Ty) : Prop :=
 ∀ (H : Type) (enc : TypeId × Value -> H) (n : Nat) (cs : List Value),
  (∀ f ∈ fs, ∃ y, DataW.trod enc P W 0 (fun _ => true) true n f.type ((cs.drop f.offset).take (P.cellsOf f.type)) = some y) -> cs.length = o + ty.width -> ∃ x : ty.den, Reps W.cell? ty x (cs.drop o) /\ bnd ty x
theorem RdS.nil {o : Nat} : RdS P W [] o .nil := fun H enc n cs _ hl => ⟨(), by
 have : cs.length = o := hl
 show cs.drop o = []
 rw [List.drop_eq_nil_iff]; omega, trivial⟩
theorem RdS.cons {f : Field} {fs : List Field} {o : Nat} {a b : Ty} (ho : f.offset = o) (hc : P.cellsOf f.type = a.width) (h : RdT P W f.type a) (hs : RdS P W fs (o + a.width) b) : RdS P W (f :: fs) o (.cons a b) := fun H enc n cs hf hl => by
 obtain ⟨y, hy⟩ := hf f (by simp)
 rw [ho, hc] at hy
 obtain ⟨x, hx, hB⟩ := h H enc n _ y hy
 obtain ⟨z, hz, hC⟩ := hs H enc n cs (fun g hg => hf g (List.mem_cons_of_mem _ hg)) (by rw [hl]; show o + (a.width + b.width) = _; omega)
 refine ⟨(x, z), ⟨_, _, ?_, hx, hz⟩, hB, hC⟩
 rw [<- List.drop_drop, List.take_append_drop]
theorem Reps.app {S : Mem} : ∀ {a b : Ty}, isAggT a = true -> ∀ {x : a.den} {z : b.den} {us ws : List Value}, Reps S a x us -> Reps S b z ws -> bnd a x -> bnd b z -> ∃ q : (Ty.app a b).den, Reps S (Ty.app a b) q (us ++ ws) /\ bnd (Ty.app a b) q
 | .nil, b, _, x, z, us, ws, h, k, _, c2 => by
   have : us = [] := h
   subst this
   exact ⟨z, k, c2⟩
 | .cons a c, b, _, x, z, us, ws, ⟨u1, u2, e, h1, h2⟩, k, c1, c2 => by
   by_cases hc : isAggT c = true
   . obtain ⟨q, g1, g2⟩ := Reps.app hc h2 k c1.2 c2
     refine ⟨(x.1, q), ⟨u1, u2 ++ ws, by rw [e, List.append_assoc], h1, g1⟩, c1.1, g2⟩
   . have e2 : Ty.app c b = .cons c b := by cases c <;> first | rfl | exact absurd rfl hc
     refine ⟨(x.1, (e2 ▸ (x.2, z) : (Ty.app c b).den)), ⟨u1, u2 ++ ws, by rw [e, List.append_assoc], h1, ?_⟩, c1.1, ?_⟩
     . generalize hd : Ty.app c b = d at e2
       subst e2
       exact ⟨u2, ws, rfl, h2, k⟩
     . generalize hd : Ty.app c b = d at e2
       subst e2
       exact ⟨c1.2, c2⟩
theorem Ty.app_width : ∀ {a b : Ty}, (Ty.app a b).width = a.width + b.width
 | .nil, b => (Nat.zero_add _).symm
 | .cons a c, b => by show a.width + (Ty.app c b).width = a.width + c.width + b.width; rw [Ty.app_width, Nat.add_assoc]
 | .int _, _ | .bool, _ | .str, _ | .sl _, _ => rfl
theorem RdS.struct {f : Field} {fs : List Field} {o : Nat} {a b : Ty} (hg : isAggT a = true) (ho : f.offset = o) (hc : P.cellsOf f.type = a.width) (h : RdT P W f.type a) (hs : RdS P W fs (o + a.width) b) : RdS P W (f :: fs) o (Ty.app a b) := fun H enc n cs hf hl => by
 obtain ⟨y, hy⟩ := hf f (by simp)
 rw [ho, hc] at hy
 obtain ⟨x, hx, hB⟩ := h H enc n _ y hy
 obtain ⟨z, hz, hC⟩ := hs H enc n cs (fun g hg => hf g (List.mem_cons_of_mem _ hg)) (by rw [hl, Ty.app_width]; omega)
 obtain ⟨q, g1, g2⟩ := Reps.app hg hx hz hB hC
 refine ⟨q, ?_, g2⟩
 rw [<- List.drop_drop, List.take_append_drop] at g1
 exact g1
theorem RdT.struct {t : TypeId} {fs : Array Field} {ty : Ty} (ht : P.underlying t = some (.struct fs)) (hc : P.cellsOf t = ty.width) (h : RdS P W fs.toList 0 ty) : RdT P W t ty := fun H enc n cs y hy => by
 obtain ⟨xs, m, _, _, hl, hxs, hf⟩ := DataW.trod_struct ht hy
 obtain ⟨a, ha, hC⟩ := h H enc m cs (fun f hfm => by
  obtain ⟨i, hi, e⟩ := List.getElem_of_mem hfm
  have hi2 : i < fs.size := by simpa using hi
  have := hf i f (by rw [Array.getElem?_eq_getElem hi2, <- e]; simp)
  rw [List.getElem?_eq_getElem (by omega)] at this
  exact ⟨_, this⟩) (by rw [hl, hc]; omega)
 exact ⟨a, ha, hC⟩
end Go.Proofs.YtfhphiedbdinmaaGreatDoor.Ab
