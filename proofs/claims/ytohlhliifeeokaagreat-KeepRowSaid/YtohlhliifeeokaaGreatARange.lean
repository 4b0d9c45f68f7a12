/- A range over a function whose iterator reads what stood ahead of the range. -/
import Derived.Test.YtohlhliifeeokaaGreatRange
namespace Go.Proofs.YtohlhliifeeokaaGreat.Q
open Go.RowKit Go.Shelf
set_option linter.unusedVariables false
theorem range_all2 {α : Type} {P : Program} {g : Operand} {ps : Array Tmp} {assign body : Code} {Q : Exit → Act → World → Prop} {a : Act} {w : World} {gf : Nat} {lb : Array Value}
    (hg : a.eval g = .func (.func gf) #[] lb) (eg : ∀ args w, (callFunc gf args).run P w = .ok (.enter gf args) w)
    {encs : α → Array Value} {Bn tB : Nat} {xs : List α} (hBn : Bn < w.heap.size) (hseq : ∀ W, (∀ k, k < w.heap.size → W.heap[k]? = w.heap[k]?) → SeqAll P gf lb encs Bn tB xs W) (hps : ∀ x, (encs x).size = ps.size)
    (I : List α → World → Prop)
    (hI : ∀ pre W W' row, I pre W → W.grownBy W' row → (∀ r, row = some r → r = Bn ∨ (w.heap.size ≤ r ∧ ∃ o : Obj, W.heap[r]? = some o ∧ o.isCells = false)) → I pre W')
    (h0 : I [] w) (a₁ : α → Act)
    (hassign : ∀ (l : Nat) (x : α) (W : World) (K : Act → World → Prop), K (a₁ x) W →
      assign.wpIn (Fence.wide.inRound l) 0 P (Exit.then K (fun _ _ _ => False)) { tmps := (ps.zip (encs x)).foldl (fun t (p, v) => t.setIfInBounds p v) a.tmps, defers := [] } W)
    (hbody : ∀ (l : Nat) (pre : List α) (x : α) (post : List α) (W : World), xs = pre ++ x :: post → I pre W → (∃ cs, W.heap[Bn]? = some (.cells cs tB (0, 0))) → body.wpIn (Fence.wide.inRound l) 0 P (roundGoes I Bn (pre ++ [x]) W) (a₁ x) W)
    (hdone : ∀ (D : Nat) (W : World), w.heap.size ≤ D → I xs W → W.heap[D]? = some (.deferred (some [])) → Q .normal { a with defers := { target := .collected D, args := #[] } :: a.defers } W) :
    (Code.rangeFunc g ps assign body).wpIn Fence.wide 0 P Q a w := by
  refine wpIn_rangeFunc ?_
  intro fn hfn
  obtain ⟨rec, hrec⟩ : ∃ rec : LoopState → Option Code → Loop, rec = fun st pe => { state := st, pending := pe, fn, tmps := a.tmps, params := ps, assign, body, defers := w.heap.size } := ⟨_, rfl⟩
  obtain ⟨W1, hW1⟩ : ∃ W1, (w.alloc (.deferred (some []))).alloc (.loop (rec .ready none)) = W1 := ⟨_, rfl⟩
  have hL1 : W1.heap[w.heap.size + 1]? = some (.loop (rec .ready none)) := by
    rw [← hW1]; have := World.alloc_heap_new (w.alloc (.deferred (some []))) (.loop (rec .ready none)); rwa [World.size_alloc] at this
  have hK1 : W1.heap[w.heap.size]? = some (.deferred (some [])) := by
    rw [← hW1]; exact (Below.heap_alloc _ _ _ (by simp)).trans (World.alloc_heap_new w _)
  have hB1 : ∀ k, k < w.heap.size → W1.heap[k]? = w.heap[k]? := fun k hk => by
    rw [← hW1, Below.heap_alloc _ _ _ (by simp; omega), Below.heap_alloc _ _ _ hk]
  have hI1 : I [] W1 := by
    rw [← hW1]
    exact hI _ _ _ none (hI _ _ _ none h0 (World.grownBy_alloc _ _ _) (fun r e => by cases e)) (World.grownBy_alloc _ _ _) (fun r e => by cases e)
  have turnL : ∀ {pre W o} (o' : Obj), I pre W → W.heap[w.heap.size + 1]? = some o → o.isCells = false → I pre (W.putObj (w.heap.size + 1) o') := fun o' hi hl ho =>
    hI _ _ _ (some (w.heap.size + 1)) hi (grownBy_putObj' _ _ o') (fun r e => by cases e; exact .inr ⟨by omega, _, hl, ho⟩)
  refine ⟨w.heap.size + 1, [{ target := .collected w.heap.size, args := #[] }], W1, { target := .fn (.func gf) lb, args := #[.func (.yield (w.heap.size + 1)) #[] #[]] }, W1, gf,
    #[.func (.yield (w.heap.size + 1)) #[] #[]] ++ lb, W1, ?_, ?_, fun _ _ => trivial, ?_, fun h => by simp [Fence.wide] at h, ?_⟩
  · rw [← hW1, hrec]; exact run_enterLoop_outer _ _ _ _ _
  · simp only [resolve, hg]
    simp [go_sem]
  · simp [invoke, go_sem, eg]
  · refine (hseq W1 hB1 (w.heap.size + 1)
      (fun pre W => I pre W ∧ W.heap[w.heap.size + 1]? = some (.loop (rec .ready none)) ∧ W.heap[w.heap.size]? = some (.deferred (some [])))
      (fun pre A B row hs hg' hr => ⟨hI pre A B row hs.1 hg' (fun r e => .inl (hr r e)),
        (hg'.block _ (Array.getElem?_eq_some_iff.1 hs.2.1).1 (fun e => by have := hr _ e.symm; omega)).trans hs.2.1,
        (hg'.block _ (Array.getElem?_eq_some_iff.1 hs.2.2).1 (fun e => by have := hr _ e.symm; omega)).trans hs.2.2⟩)
      ?_ ⟨hI1, hL1, hK1⟩).mono ?_
    · rintro pre x post W hxs ⟨hi, hl, hk⟩ hcs
      have hlt : w.heap.size + 1 < W.heap.size := (Array.getElem?_eq_some_iff.1 hl).1
      have hy := run_yield (P := P) (args := encs x) hl (by rw [hrec]; exact hps x)
      rw [hrec] at hy
      refine ⟨fn, _, assign, body, hy, roundIn_of_wpIn hfn (hassign _ x W _ ⟨_, run_beginRound hl (by rw [hrec]), ?_⟩)⟩
      have hl2 : (W.putObj (w.heap.size + 1) (.loop { rec .ready none with state := .busy })).heap[w.heap.size + 1]? = some (.loop { rec .ready none with state := .busy }) := World.putObj_heap_same hlt
      have hk2 : (W.putObj (w.heap.size + 1) (.loop { rec .ready none with state := .busy })).heap[w.heap.size]? = some (.deferred (some [])) := (World.putObj_heap_other (by omega)).trans hk
      have hb2 : (W.putObj (w.heap.size + 1) (.loop { rec .ready none with state := .busy })).heap[Bn]? = W.heap[Bn]? := World.putObj_heap_other (by omega)
      refine wpIn_mono (hbody _ pre x post _ hxs (turnL _ hi hl rfl) (by rw [hb2]; exact hcs)) ?_
      rintro e a3 W3 hp
      cases e with
      | normal =>
        obtain ⟨hk3, hb3, hi3⟩ := hp
        have hl3 := hk3.same _ _ hl2 rfl
        have hr := run_endRound (P := P) none hl3
        have hlt3 := (Array.getElem?_eq_some_iff.1 hl3).1
        rw [hrec] at hr hl3 ⊢
        exact ⟨_, _, hr, rfl, ⟨turnL _ hi3 hl3 rfl, World.putObj_heap_same hlt3, (World.putObj_heap_other (by omega)).trans (hk3.same _ _ hk2 rfl)⟩, (World.putObj_heap_other (by omega)).trans (hb3.trans hb2)⟩
      | ret => exact hp.elim
      | exit id => exact hp.elim
      | goto t => exact hp.elim
      | panic ch => exact hp.elim
      | outgrown => exact hp.elim
    · rintro e W2 ⟨⟨v, rfl⟩, hi, hl, hk⟩
      have he := run_endLoop (P := P) hl (by rw [hrec]; simp)
      rw [hrec] at he
      exact ⟨none, _, he, hdone _ _ (Nat.le_refl _) (turnL _ hi hl rfl) ((World.putObj_heap_other (by omega)).trans hk)⟩
theorem leaves_one {P : Program} {fn : Func} {tmps : Array Value} {R : Ending → World → Prop} {D : Nat} {W : World} (hD : W.heap[D]? = some (.deferred (some [])))
    (h : ∀ W', (∀ k, k ≠ D → W'.heap[k]? = W.heap[k]?) → W.grownBy W' (some D) → LeavesIn Fence.wide 0 P fn tmps R [] .returning W') : LeavesInM Fence.wide 0 P fn tmps R (marksOf [D]) .returning W :=
  ⟨by simp, .inl ⟨D, _, rfl, run_takeDeferred hD, h _ (fun k hk => World.putObj_heap_other (fun e => hk e)) (grownBy_putObj' W D _)⟩⟩
end Go.Proofs.YtohlhliifeeokaaGreat.Q
