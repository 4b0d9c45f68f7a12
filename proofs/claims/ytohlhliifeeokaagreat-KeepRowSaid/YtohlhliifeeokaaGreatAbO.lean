/- Abstract runs: each operation does in the world what it does to the state. -/
import Derived.Test.YtohlhliifeeokaaGreatAbS
namespace Go.Proofs.YtohlhliifeeokaaGreat.Ab
open Go Go.RowKit
set_option linter.unusedVariables false
set_option linter.unusedSimpArgs false
section
variable {P : Program} {base : Nat} {w0 : World} {S0 : Mem} {φ : Nat → Nat} {ψ : Nat → Value} {S : Mem} {s : St} {a : Act} {w : World}
theorem runPure_run {α : Type} : ∀ {e : Sem α} {x : α}, runPure P e = some x → ∀ w, e.run P w = .ok x w
  | .pure a, x, h, w => by simp [runPure] at h; subst h; rfl
  | .program k, x, h, w => by simp only [runPure] at h; exact runPure_run h w
  | .load .., _, h, _ | .store .., _, h, _ | .new .., _, h, _ | .shape .., _, h, _ | .freeze .., _, h, _ | .frozen .., _, h, _ | .getObj .., _, h, _ | .setObj .., _, h, _
  | .choose .., _, h, _ | .sys .., _, h, _ | .mark .., _, h, _ | .halt .., _, h, _ => by simp [runPure] at h
def Does (P : Program) (base : Nat) (w0 : World) (S0 : Mem) (o : Oper) (φ : Nat → Nat) (ψ : Nat → Value) (S : Mem) (s : St) (a : Act) (w : World) (v : AV) (s' : St) : Prop :=
  ∃ φ' ψ' S' u w', ((execOp a.eval o).run P w = .ok (.value u) w' ∨ (execOp a.eval o).run P w = .ok .skip w' ∧ u = undef) ∧
    Rl base w0 S0 φ' ψ' S' s' a w' ∧ ARel φ' ψ' S' s'.n v u ∧ Evo φ ψ S s.n φ' ψ' S' s'.n ∧ s'.tm = s.tm ∧ (∃ pre, s'.st = pre ++ s.st) ∧ s'.nt = s.nt
theorem Does.pure {o : Oper} {v : AV} (hR : Rl base w0 S0 φ ψ S s a w) {u : Value} (h : (execOp a.eval o).run P w = .ok (.value u) w) (k : ARel φ ψ S s.n v u) : Does P base w0 S0 o φ ψ S s a w v s :=
  ⟨φ, ψ, S, u, w, .inl h, hR, k, Evo.refl _ _ _ _, rfl, ⟨[], rfl⟩, rfl⟩
theorem isAggB_run {t : TypeId} {b : Bool} (h : isAggB P t = some b) (w : World) : (isAgg t).run P w = .ok b w := by
  unfold isAggB at h
  split at h
  · rename_i hu; simp at h; subst h; simp [isAgg, run_underlying hu, go_sem]
  · rename_i hu; simp at h; subst h; simp [isAgg, run_underlying hu, go_sem]
  · rename_i d h1 h2 hu
    simp at h; subst h
    unfold isAgg
    rw [Sem.run_bind, run_underlying hu]
    simp only [Result.andThen]
    rfl
  · simp at h
theorem szOf_info {t : TypeId} {n : Nat} (h : szOf P t = some n) : ∃ i, P.info? t = some i ∧ i.size = n := by
  unfold szOf at h
  split at h
  · rename_i i e; simp at h; exact ⟨i, e, h⟩
  · simp at h
theorem szOf_run {t : TypeId} {n : Nat} (h : szOf P t = some n) (w : World) : (sizeOf t).run P w = .ok n w := by
  obtain ⟨i, h1, h2⟩ := szOf_info h
  simp [sizeOf, run_typeInfo _ h1, h2, go_sem]
theorem zeroOf_run {t : TypeId} {z : Value} (h : zeroOf P t = some z) (w : World) : (zeroValue t).run P w = .ok z w := by
  unfold zeroOf at h
  split at h
  · rename_i i e; simp [zeroValue, run_typeInfo _ e, h, go_sem]
  · simp at h
theorem loadVar_rel {n : Nat} {t : TypeId} {ad : Addr} {l : List CV} {us : List Value} {v : AV} (hm : mkAV P t l = some v) (hl : All2 (CRel φ ψ S n) l us) (hc : ∀ j u, us[j]? = some u → w.cell? (ad.add j) = some u) :
    ∃ u, (loadVar t ad).run P w = .ok u w ∧ ARel φ ψ S n v u := by
  unfold mkAV at hm
  split at hm
  · rename_i hb
    split at hm
    · rename_i k hk
      split at hm
      · rename_i hle
        simp at hm; subst hm
        have hlen := hl.length
        have hk2 : k ≤ l.length := Nat.le_of_ble_eq_true hle
        refine ⟨.agg (us.take k).toArray, ?_, us.take k, rfl, hl.take k⟩
        have h2 := run_loadCells_list (P := P) (w := w) ad (us.take k) (fun j v hj => hc j v (by
          rw [List.getElem?_take] at hj
          split at hj
          · exact hj
          · simp at hj))
        rw [List.length_take, Nat.min_eq_left (by omega)] at h2
        unfold loadVar
        simp [isAggB_run hb, szOf_run hk, h2]
      · simp at hm
    · simp at hm
  · rename_i hb
    split at hm
    · rename_i c cs
      simp at hm; subst hm
      obtain ⟨u, us', rfl, h1, h2⟩ := All2.cons_inv hl
      refine ⟨u, ?_, ARel.of_one h1⟩
      unfold loadVar
      have := hc 0 u rfl
      simp only [Addr.add, if_true] at this
      simp [isAggB_run hb, this]
    · simp at hm
  · simp at hm
theorem add_at (b off j : Nat) : (Addr.mk b off none).add j = ⟨b, off + j, none⟩ := by
  unfold Addr.add; split
  · subst j; rfl
  · rfl
theorem heap_cell {g : Nat} {vs : List Value} {t : TypeId} {fz : Nat × Nat} (h : w.heap[g]? = some (.cells vs.toArray t fz)) (off : Nat) : w.cell? ⟨g, off, none⟩ = vs[off]? := by
  simp [World.cell?, h]
theorem ptr_cells {b off : Nat} {l : List CV} {e : TypeId} (hR : Rl base w0 S0 φ ψ S s a w) (hk : look s.st b = some (.cells l e)) : ∃ vs : List Value, w.heap[φ b]? = some (.cells vs.toArray e (0, 0)) ∧ All2 (CRel φ ψ S s.n) l vs ∧ ∀ j u, (vs.drop off)[j]? = some u → w.cell? ((Addr.mk (φ b) off none).add j) = some u := by
  obtain ⟨h1, h2, vs, h3, h4, h5⟩ := hR.st b _ hk
  refine ⟨vs, h3, h4, fun j u hj => ?_⟩
  rw [add_at, heap_cell h3]
  rw [List.getElem?_drop] at hj
  exact hj
theorem Reps.all2 : ∀ {t : Ty} {x : t.den} {vs : List Value}, Reps S t x vs → ∀ n, All2 (CRel φ ψ S n) (cellsCV t x) vs
  | .int _, _, _, h, _ => by simp only [Reps] at h; subst h; exact ⟨⟨rfl, rfl⟩, trivial⟩
  | .bool, _, _, h, _ => by simp only [Reps] at h; subst h; exact ⟨⟨rfl, rfl⟩, trivial⟩
  | .str, _, _, h, _ => by simp only [Reps] at h; subst h; exact ⟨⟨rfl, rfl⟩, trivial⟩
  | .nil, _, _, h, _ => by simp only [Reps] at h; subst h; trivial
  | .cons a b, x, _, ⟨us, ws, e, h1, h2⟩, n => by subst e; exact All2.append (h1.all2 n) (h2.all2 n)
  | .sl t, x, _, h, n => by
    have h' := h
    obtain ⟨A, c, e, _⟩ := h
    subst e
    exact ⟨h', trivial⟩
theorem Rl.valEq (hR : Rl base w0 S0 φ ψ S s a w) {x : Operand} {v : Value} (e : aval s x = .one (.val v)) : a.eval x = v := by
  have := hR.val x; rw [e] at this; exact this
theorem store_rel {b off : Nat} {l c : List CV} {e : TypeId} {us : List Value} (hR : Rl base w0 S0 φ ψ S s a w) (hk : look s.st b = some (.cells l e)) (hc : All2 (CRel φ ψ S s.n) c us) (hn : off + c.length ≤ l.length) :
    ∃ w', (storeCells ⟨φ b, off, none⟩ us).run P w = .ok () w' ∧ Rl base w0 S0 φ ψ S { s with st := (b, .cells (l.take off ++ c ++ l.drop (off + c.length)) e) :: s.st } a w' := by
  obtain ⟨h1, h2, vs, h3, h4, h5⟩ := hR.st b _ hk
  have hlen := h4.length
  have hclen := hc.length
  have hone : ∀ v ∈ us, v.oneCell' = true := by
    intro v hv
    obtain ⟨i, hi, rfl⟩ := List.getElem_of_mem hv
    have hci : i < c.length := by omega
    obtain ⟨b', hb', hr⟩ := hc.get (i := i) (a := c[i]) (by simp [hci])
    rw [List.getElem?_eq_getElem hi] at hb'
    obtain rfl := Option.some.inj hb'
    exact hr.one
  have hst := run_storeCells_at (P := P) (φ b) off e us 0 vs.toArray w h3 (by simp; omega) hone
  simp only [Nat.add_zero, List.toList_toArray] at hst
  refine ⟨_, hst, ?_⟩
  obtain ⟨nv, hnv⟩ : ∃ nv, vs.take off ++ us ++ vs.drop (off + us.length) = nv := ⟨_, rfl⟩
  rw [hnv]
  have hrow : (w.setRow (φ b) nv.toArray).heap[φ b]? = some (.cells nv.toArray e (0, 0)) := by
    simp only [World.setRow]
    rw [Array.getElem?_modify, if_pos rfl, h3]; rfl
  have hoth : ∀ k, k ≠ φ b → (w.setRow (φ b) nv.toArray).heap[k]? = w.heap[k]? := by
    intro k hk
    simp only [World.setRow, Array.getElem?_modify]
    rw [if_neg (fun e => hk e.symm)]
  have hsz : (w.setRow (φ b) nv.toArray).heap.size = w.heap.size := by simp [World.setRow]
  refine hR.upd (Evo.refl _ _ _ _) rfl rfl (fun p v e e0 => by rw [e] at e0; cases e0) (fun p v hp => ?_) ⟨rfl, rfl, rfl, by rw [hsz]; exact Nat.le_refl _, fun k hk => hoth k (by omega)⟩ (fun b' k' e' => ?_) (fun b1 k1 b2 k2 g e1 e2 n1 n2 f1 f2 => ?_) (fun g _ ⟨cur, e', q⟩ => by
    by_cases hg : g = φ b
    · subst hg; exact ⟨_, _, hrow⟩
    · exact ⟨cur, e', (hoth g hg).trans q⟩)
  · have hne : p.block ≠ φ b := by
      intro e
      obtain ⟨pb, po, ps⟩ := p
      simp only at e
      subst e
      rw [h5 po ps] at hp; cases hp
    rw [World.cell?_of_block (w := w) (hoth _ hne)]
    exact hR.sw p v hp
  · by_cases hb : b = b'
    · subst hb
      rw [look_cons_eq] at e'
      obtain rfl := Option.some.inj e'
      refine .inr ⟨h1, ⟨h2, nv, hrow, ?_, h5⟩, fun g f b2 k2 e2 e3 hne f2 => ?_⟩
      · rw [← hnv, ← hclen]
        exact ((h4.take off).append hc).append (h4.drop _)
      · exact hne (hR.apart b2 b _ _ g e3 hk f2 f)
    · rw [look_cons_ne _ _ hb] at e'
      refine .inl ⟨e', fun g f => ⟨hoth g (fun e => hb (hR.apart b b' _ _ (φ b) hk e' rfl (by rw [f, e]))), fun _ _ => rfl⟩⟩
  · have hb : ∀ b1 k, look ((b, Blk.cells (l.take off ++ c ++ l.drop (off + c.length)) e) :: s.st) b1 = some k → look s.st b1 ≠ some k → b = b1 := by
      intro b1 k e n
      by_cases hb : b = b1
      · exact hb
      · rw [look_cons_ne _ _ hb] at e; exact absurd e n
    rw [← hb b1 k1 e1 n1, ← hb b2 k2 e2 n2]
theorem places_run : ∀ {fs : List Field} {pl : List (Nat × Nat)}, placesOf P fs = some pl → ∀ w, (fs.mapM (m := Sem) fun f => Prod.mk f.offset <$> sizeOf f.type).run P w = .ok pl w
  | [], pl, h, w => by simp [placesOf] at h; subst h; rfl
  | f :: fs, pl, h, w => by
    unfold placesOf at h
    split at h
    · rename_i n hn
      split at h
      · rename_i l hl
        simp at h; subst h
        rw [List.mapM_cons]
        simp [szOf_run hn, places_run hl]
      · simp at h
    · simp at h
theorem setAll : ∀ (us : List Value) (k off : Nat) (cs : Array Value), off + k + us.length ≤ cs.size →
    ((us.zipIdx k).foldl (fun cs p => cs.setIfInBounds (off + p.2) p.1) cs).toList = cs.toList.take (off + k) ++ us ++ cs.toList.drop (off + k + us.length)
  | [], k, off, cs, h => by simp
  | u :: us, k, off, cs, h => by
    simp only [List.length_cons] at h
    rw [List.zipIdx_cons, List.foldl_cons, setAll us (k + 1) off _ (by simp; omega)]
    simp only [Array.toList_setIfInBounds, List.length_cons]
    have e1 : (cs.toList.set (off + k) u).take (off + (k + 1)) = cs.toList.take (off + k) ++ [u] := by
      apply List.ext_getElem?
      intro i
      simp only [List.getElem?_take, List.getElem?_set, List.getElem?_append, List.length_take, Array.length_toList]
      by_cases h1 : i < off + k
      · rw [if_pos (by omega), if_neg (by omega), if_pos (by omega), if_pos h1]
      · by_cases h2 : i = off + k
        · subst h2; rw [if_pos (by omega), if_pos rfl, if_pos (by omega), if_neg (by omega), show off + k - min (off + k) cs.size = 0 by omega]; rfl
        · rw [if_neg (by omega), if_neg (by omega), List.getElem?_eq_none (by simp; omega)]
    have e2 : (cs.toList.set (off + k) u).drop (off + (k + 1) + us.length) = cs.toList.drop (off + k + (us.length + 1)) := by
      rw [List.drop_set_of_lt (by omega)]; congr 1; omega
    rw [e1, e2]; simp
theorem fill_rel {n : Nat} {place : Nat → Option (Nat × Nat)} : ∀ {ps : List (Nat × AV)} {qs : List (Nat × Value)} {l l' : List CV} {vs : List Value}, fillCV place l ps = some l' →
    All2 (fun p q => p.1 = q.1 ∧ ARel φ ψ S n p.2 q.2) ps qs → All2 (CRel φ ψ S n) l vs → ∃ vs', Instr.fill place vs.toArray qs = some vs'.toArray ∧ All2 (CRel φ ψ S n) l' vs'
  | [], qs, l, l', vs, h, hp, hl => by
    obtain rfl := All2.nil_inv hp
    simp [fillCV] at h; subst h
    exact ⟨vs, rfl, hl⟩
  | (i, v) :: ps, qs, l, l', vs, h, hp, hl => by
    obtain ⟨⟨j, u⟩, qs, rfl, ⟨e, hv⟩, hp2⟩ := All2.cons_inv hp
    simp only at e hv; subst e
    unfold fillCV at h
    unfold Instr.fill
    split at h
    · rename_i off size hpl
      rw [hpl]
      split at h
      · rename_i c hc
        split at h
        · rename_i hb
          rw [Bool.and_eq_true] at hb
          have h1 := Nat.eq_of_beq_eq_true hb.1
          have h2 := Nat.le_of_ble_eq_true hb.2
          obtain ⟨us, hu, hcu⟩ := hv.cells hc
          have hlen := hl.length
          have hcl := hcu.length
          simp only [hu, List.size_toArray]
          rw [if_neg (by simp; omega)]
          have hset : ((us.toArray.zipIdx).foldl (fun cs p => cs.setIfInBounds (off + p.2) p.1) vs.toArray) = (vs.take off ++ us ++ vs.drop (off + size)).toArray := by
            apply Array.ext'
            have := setAll us 0 off vs.toArray (by simp; omega)
            rw [← Array.foldl_toList, Array.toList_zipIdx]
            simp only [List.toList_toArray] at this ⊢
            rw [this]
            simp only [Nat.add_zero]
            rw [show off + us.length = off + size by omega]
          have e : (us.toArray.zipIdx.foldl (fun cs x => match x with | (c, j) => cs.setIfInBounds (off + j) c) vs.toArray) = (vs.take off ++ us ++ vs.drop (off + size)).toArray := hset
          rw [e]
          exact fill_rel h hp2 (((hl.take off).append hcu).append (hl.drop _))
        · simp at h
      · simp at h
    · simp at h
end
end Go.Proofs.YtohlhliifeeokaaGreat.Ab
