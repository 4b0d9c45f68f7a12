/- Small facts for walks by hand. -/
import Derived.WalkKit
import Derived.WalkSpells
import Derived.StillTailTactics
import Derived.Below
namespace Go.Proofs.YtohlhliifeeokaaGreat.Q
open Go Go.RowKit
structure Sd (p : Prop) : Prop where mk :: (out : p)
variable {w W : World} {g i B : Nat} {t : TypeId} {cs cs' : Array Value}
theorem bk_cell (h : w.heap[g]? = some (.cells cs t (0, 0))) (i : Nat) : w.cell? ⟨g, i, none⟩ = cs[i]? := cell_of_row w g i cs t (0, 0) h
theorem bk_frozen (h : w.heap[g]? = some (.cells cs t (0, 0))) (i : Nat) : w.frozen? ⟨g, i, none⟩ = false := by simp [World.frozen?, h]
theorem bk_put (h : w.heap[g]? = some (.cells cs t (0, 0))) (i : Nat) (u : Value) (e : cs.setIfInBounds i u = cs') : (w.setCell ⟨g, i, none⟩ u).heap[g]? = some (.cells cs' t (0, 0)) := by
  subst e; simp [World.setCell, Array.getElem?_modify, h]
theorem bw_alloc (h : Below w.heap.size w W) (o : Obj) : Below w.heap.size w (W.alloc o) := h.alloc h.size o
theorem bw_drew (h : Below B w W) : Below B w W.drew := ⟨h.os, h.tape, h.output, h.size, h.block⟩
end Go.Proofs.YtohlhliifeeokaaGreat.Q
