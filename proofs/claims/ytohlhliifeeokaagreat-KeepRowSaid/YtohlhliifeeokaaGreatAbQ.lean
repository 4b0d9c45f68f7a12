/- Abstract runs: evOp does in the world what it does to the state. -/
import Derived.Test.YtohlhliifeeokaaGreatAbP
import Derived.Deep.Slices
import Derived.Laws.StructEq
namespace Go.Proofs.YtohlhliifeeokaaGreat.Ab
open Go Go.RowKit
set_option linter.unusedVariables false
set_option linter.unusedSimpArgs false
section
variable {P : Program} {base : Nat} {w0 : World} {S0 : Mem} {φ : Nat → Nat} {ψ : Nat → Value} {S : Mem} {s : St} {a : Act} {w : World}
variable {α : Type} {K : AV → St → Option α} {r : α} {dst : Option Tmp} {ty : TypeId} {pos : String} {after : Array Edge} {guard : Option (Nat × Bool)}
theorem run_v (x : Sem Value) (u : Value) (w' : World) (h : x.run P w = .ok u w') : (do Pure.pure (Next.value (← x)) : Sem Next).run P w = .ok (.value u) w' := by
  simp [h]
def Sound (P : Program) (base : Nat) (w0 : World) (S0 : Mem) (φ : Nat → Nat) (ψ : Nat → Value) (S : Mem) (s : St) (a : Act) (w : World) (K : AV → St → Option α) (r : α) (o : Oper) : Prop :=
  ∃ v s', K v s' = some r ∧ Does P base w0 S0 o φ ψ S s a w v s'
theorem pick_sound {c x y : Operand} (hR : Rl base w0 S0 φ ψ S s a w) (h : evPick c x y s K = some r) : Sound P base w0 S0 φ ψ S s a w K r ⟨dst, .pick c x y, ty, pos, after, guard⟩ := by
  unfold evPick at h
  split at h
  · rename_i v e
    have hc := hR.valEq e
    rcases cond_some h with ⟨rfl, h⟩ | ⟨rfl, h⟩
    · exact ⟨_, _, h, Does.pure hR (u := a.eval x) (by simp [execOp, hc, asBool]) (hR.val x)⟩
    · exact ⟨_, _, h, Does.pure hR (u := a.eval y) (by simp [execOp, hc, asBool]) (hR.val y)⟩
  · cases h
theorem box_sound {elem : TypeId} {x : Operand} (hR : Rl base w0 S0 φ ψ S s a w) (h : evBox elem x s K = some r) : Sound P base w0 S0 φ ψ S s a w K r ⟨dst, .box elem x, ty, pos, after, guard⟩ := by
  unfold evBox at h
  split at h
  · rename_i l e
    obtain ⟨vs, h1, h2⟩ := (hR.val x).cells e
    obtain ⟨φ', h3, h4, h5⟩ := hR.new h2 elem
    refine ⟨_, _, h, φ', ψ, S, .pointer (some ⟨w.heap.size, 0, none⟩), _, .inl ?_, h3, ⟨Nat.lt_succ_self _, by rw [h4]⟩, h5, rfl, ⟨[_], rfl⟩, rfl⟩
    simp [execOp, Instr.box, newVar, Go.newRow, h1]
  · cases h
theorem alloc_sound {elem : TypeId} (hR : Rl base w0 S0 φ ψ S s a w) (h : evAlloc P elem s K = some r) : Sound P base w0 S0 φ ψ S s a w K r ⟨dst, .alloc elem, ty, pos, after, guard⟩ := by
  unfold evAlloc at h
  split at h
  · rename_i z hz
    split at h
    · rename_i l e
      obtain ⟨vs, h1, h2⟩ := (ofVal_rel (φ := φ) (ψ := ψ) (S := S) (s := s) z).cells e
      obtain ⟨φ', h3, h4, h5⟩ := hR.new h2 elem
      refine ⟨_, _, h, φ', ψ, S, .pointer (some ⟨w.heap.size, 0, none⟩), _, .inl ?_, h3, ⟨Nat.lt_succ_self _, by rw [h4]⟩, h5, rfl, ⟨[_], rfl⟩, rfl⟩
      simp [execOp, Instr.alloc, newVar, Go.newRow, h1, zeroOf_run hz]
    · cases h
  · cases h
theorem fill_sound {place : Nat → Option (Nat × Nat)} {z : Array Value} {parts : Array (Nat × Operand)} (hR : Rl base w0 S0 φ ψ S s a w) (hone : z.toList.all (·.oneCell') = true) (h : evFill place z parts s K = some r) :
    ∃ l vs, K (.agg l) s = some r ∧ Instr.fill place z (parts.map fun p => (p.1, a.eval p.2)).toList = some vs ∧ ARel φ ψ S s.n (.agg l) (.agg vs) := by
  unfold evFill at h
  have hz2 : All2 (CRel φ ψ S s.n) (z.toList.map .val) z.toList := All2.map_l (All2.refl_of fun b hb => ⟨rfl, List.all_eq_true.1 hone b hb⟩)
  split at h
  · rename_i l e
    obtain ⟨vs, h1, h2⟩ := fill_rel e (parts_rel hR parts.toList) hz2
    refine ⟨l, vs.toArray, h, ?_, vs, rfl, h2⟩
    rw [Array.toList_map]
    simpa using h1
  · cases h
theorem build_sound {t : TypeId} {parts : Array (Nat × Operand)} (hR : Rl base w0 S0 φ ψ S s a w) (h : evBuild P t parts s K = some r) : Sound P base w0 S0 φ ψ S s a w K r ⟨dst, .build t parts, ty, pos, after, guard⟩ := by
  unfold evBuild at h
  split at h
  · rename_i z hz
    split at h
    · rename_i hone
      split at h
      · rename_i fs hfs
        split at h
        · rename_i pl hpl
          obtain ⟨l, vs, h1, h2, h3⟩ := fill_sound hR hone h
          refine ⟨_, _, h1, Does.pure hR (u := .agg vs) ?_ h3⟩
          have hpr := places_run hpl w
          have e : (fun x : Nat => (List.toArray pl)[x]?) = fun i => pl[i]? := by funext i; simp
          have hb : (Instr.build t (parts.map fun p => (p.1, a.eval p.2))).run P w = .ok (.agg vs) w := by
            unfold Instr.build
            rw [Sem.run_bind, zeroOf_run hz]; simp only [Result.andThen_ok]
            rw [Sem.run_bind, run_underlying hfs]; simp only [Result.andThen_ok]
            rw [Sem.run_bind, Array.mapM_eq_mapM_toList]
            simp only [bind_pure_comp, Sem.run_map, hpr, Result.andThen_ok, e, Value.cells, h2]
            rfl
          exact run_v _ _ _ hb
        · cases h
      · rename_i ln e hfs
        split at h
        · rename_i n hn
          obtain ⟨l, vs, h1, h2, h3⟩ := fill_sound hR hone h
          refine ⟨_, _, h1, Does.pure hR (u := .agg vs) ?_ h3⟩
          have hb : (Instr.build t (parts.map fun p => (p.1, a.eval p.2))).run P w = .ok (.agg vs) w := by
            unfold Instr.build
            rw [Sem.run_bind, zeroOf_run hz]; simp only [Result.andThen_ok]
            rw [Sem.run_bind, run_underlying hfs]; simp only [Result.andThen_ok]
            rw [Sem.run_bind, szOf_run hn]
            simp only [Result.andThen_ok, Value.cells, h2]
            rfl
          exact run_v _ _ _ hb
        · cases h
      · cases h
    · cases h
  · cases h
theorem ty_int {k k' : IntKind} (h : Ty.beq (.int k) (.int k') = true) : k = k' := by have := Ty.eq_of_beq h; injection this
theorem castL_reps {t u : Ty} (h : Ty.beq u t = true) {l : List u.den} {vs : List Value} (k : Reps S (.sl u) l vs) : Reps S (.sl t) (castL h l) vs := by
  obtain rfl := Ty.eq_of_beq h
  exact k
theorem castL_self {t : Ty} (h : Ty.beq t t = true) (l : List t.den) : castL h l = l := rfl
theorem unCV_rel {n : Nat} : ∀ {t : Ty} {l l' : List CV} {x : t.den} {vs : List Value}, unCV t l = some (x, l') → All2 (CRel φ ψ S n) l vs → ∃ us ws, vs = us ++ ws ∧ Reps S t x us ∧ All2 (CRel φ ψ S n) l' ws
  | .int k, l, l', x, vs, h, hl => by
    simp only [unCV] at h
    split at h
    · rename_i c l1
      split at h
      · rename_i y hy
        simp at h; obtain ⟨rfl, rfl⟩ := h
        obtain ⟨u, vs', rfl, h1, h2⟩ := All2.cons_inv hl
        refine ⟨[u], vs', rfl, ?_, h2⟩
        unfold unInt at hy
        split at hy
        · split at hy
          · rename_i hk
            obtain rfl := ty_int hk
            obtain rfl := Option.some.inj hy
            simp only [Reps]; rw [h1.1]
          · cases hy
        · cases hy
      · cases h
    · cases h
  | .bool, l, l', x, vs, h, hl => by
    simp only [unCV] at h
    split at h
    · rename_i c l1
      split at h
      · rename_i y hy
        simp at h; obtain ⟨rfl, rfl⟩ := h
        obtain ⟨u, vs', rfl, h1, h2⟩ := All2.cons_inv hl
        refine ⟨[u], vs', rfl, ?_, h2⟩
        unfold unBool at hy
        split at hy
        · obtain rfl := Option.some.inj hy
          simp only [Reps]; rw [h1.1]
        · cases hy
      · cases h
    · cases h
  | .str, l, l', x, vs, h, hl => by
    simp only [unCV] at h
    split at h
    · rename_i c l1
      split at h
      · rename_i y hy
        simp at h; obtain ⟨rfl, rfl⟩ := h
        obtain ⟨u, vs', rfl, h1, h2⟩ := All2.cons_inv hl
        refine ⟨[u], vs', rfl, ?_, h2⟩
        unfold unStr at hy
        split at hy
        · obtain rfl := Option.some.inj hy
          simp only [Reps]; rw [h1.1]
        · cases hy
      · cases h
    · cases h
  | .nil, l, l', x, vs, h, hl => by
    simp only [unCV] at h
    simp at h; obtain ⟨_, rfl⟩ := h
    exact ⟨[], vs, rfl, rfl, hl⟩
  | .cons a b, l, l', x, vs, h, hl => by
    simp only [unCV] at h
    split at h
    · rename_i x1 l1 h1
      split at h
      · rename_i y1 l2 h2
        simp at h; obtain ⟨rfl, rfl⟩ := h
        obtain ⟨us, ws, rfl, g1, g2⟩ := unCV_rel h1 hl
        obtain ⟨us2, ws2, rfl, g3, g4⟩ := unCV_rel h2 g2
        exact ⟨us ++ us2, ws2, by simp, ⟨us, us2, rfl, g1, g3⟩, g4⟩
      · cases h
    · cases h
  | .sl t, l, l', x, vs, h, hl => by
    simp only [unCV] at h
    split at h
    · rename_i c l1
      split at h
      · rename_i y hy
        simp at h; obtain ⟨rfl, rfl⟩ := h
        obtain ⟨u, vs', rfl, h1, h2⟩ := All2.cons_inv hl
        refine ⟨[u], vs', rfl, ?_, h2⟩
        unfold unSl at hy
        split at hy
        · split at hy
          · rename_i hk
            obtain rfl := Option.some.inj hy
            exact castL_reps hk h1
          · cases hy
        · obtain rfl := Option.some.inj hy
          obtain ⟨rfl, _⟩ := h1
          exact ⟨none, 0, rfl, Nat.le_refl _, fun i x hx => by simp [lst] at hx⟩
        · cases hy
      · cases h
    · cases h
theorem unRow_rel {n : Nat} {t : Ty} : ∀ {m : Nat} {c : List CV} {l : List t.den} {vs : List Value}, unRow t m c = some l → All2 (CRel φ ψ S n) c vs → l.length = m ∧ RowList S t l vs
  | 0, [], l, vs, h, hl => by
    simp [unRow] at h; subst h
    obtain rfl := All2.nil_inv hl
    exact ⟨rfl, RowList.nil S t⟩
  | 0, _ :: _, l, vs, h, hl => by simp [unRow] at h
  | m + 1, c, l, vs, h, hl => by
    unfold unRow at h
    split at h
    · rename_i x c' hx
      split at h
      · rename_i xs hxs
        simp at h; subst h
        obtain ⟨us, ws, rfl, h1, h2⟩ := unCV_rel hx hl
        obtain ⟨h3, h4⟩ := unRow_rel hxs h2
        exact ⟨by simp [h3], (RowList.one h1).append h4⟩
      · cases h
    · cases h
theorem mrowOf_some {b : Nat} {e : TypeId} {t : Ty} {l : List t.den} (h : s.mrowOf b = some (e, ⟨t, l⟩)) : look s.st b = some (.mrow e t l) := by
  unfold St.mrowOf at h
  split at h
  · rename_i e' t' l' hk
    have h := Option.some.inj h
    cases h
    exact hk
  · cases h
theorem mrow_at (hR : Rl base w0 S0 φ ψ S s a w) {b : Nat} {e : TypeId} {t : Ty} {l : List t.den} (hk : look s.st b = some (.mrow e t l)) {g len cap : Nat} (hψ : ψ b = .slice (some ⟨g, 0, none⟩) len cap) :
    ∃ cur, base ≤ g ∧ w.heap[g]? = some (.cells cur e (0, 0)) ∧ l.length ≤ cap ∧ cap ≤ maxLen ∧ cur.size = cap * t.width ∧ len = l.length ∧ RowList S t l (cur.toList.take (l.length * t.width)) ∧ ∀ off sp, S ⟨g, off, sp⟩ = none := by
  rcases (hR.st b _ hk).2.2 with ⟨q, _⟩ | ⟨g', cap', cur, xs, q1, q2, q3, q4, q5, q6, q7, q8, q9⟩
  · rw [hψ] at q; cases q
  · rw [hψ] at q1
    cases q1
    exact ⟨cur, q2, q3, q4, q5, q6, rfl, by rw [q7]; exact q8, q9⟩
theorem RowList.put {t : Ty} {l : List t.den} {xs : List Value} (h : RowList S t l xs) {i : Nat} {x' : t.den} {us' : List Value} (h' : Reps S t x' us') {nv : List Value} (hlen : nv.length = xs.length)
    (hin : ∀ j u, us'[j]? = some u → nv[i * t.width + j]? = some u) (hout : ∀ k, (k < i * t.width ∨ (i + 1) * t.width ≤ k) → nv[k]? = xs[k]?) : RowList S t (l.set i x') nv := by
  refine ⟨by rw [hlen, h.1, List.length_set], fun k y hy => ?_⟩
  rw [List.getElem?_set] at hy
  split at hy
  · rename_i e
    subst e
    split at hy
    · obtain rfl := Option.some.inj hy
      exact ⟨us', h', hin⟩
    · cases hy
  · rename_i hne
    obtain ⟨us, h1, h2⟩ := h.2 k y hy
    refine ⟨us, h1, fun j u hj => ?_⟩
    have hjw : j < t.width := by rw [← h1.width]; exact (List.getElem?_eq_some_iff.1 hj).1
    rw [hout _ ?_]
    · exact h2 j u hj
    · rcases Nat.lt_or_gt_of_ne hne with q | q
      · right
        have := Nat.mul_le_mul_right t.width (show i + 1 ≤ k by omega)
        omega
      · left
        have := Nat.mul_le_mul_right t.width (show k + 1 ≤ i by omega)
        rw [Nat.add_mul, Nat.one_mul] at this
        omega
theorem mrow_put (hR : Rl base w0 S0 φ ψ S s a w) {b : Nat} {e : TypeId} {t : Ty} {l l' : List t.den} (hk : look s.st b = some (.mrow e t l)) {g len cap : Nat} (hψ : ψ b = .slice (some ⟨g, 0, none⟩) len cap) {cur : Array Value} (hcur : w.heap[g]? = some (.cells cur e (0, 0)))
    {nv : List Value} (hsz : nv.length = cur.size) (hlen : l'.length = l.length) (hrow : RowList S t l' (nv.take (l'.length * t.width))) :
    Rl base w0 S0 φ ψ S { s with st := (b, .mrow e t l') :: s.st } a (w.setRow g nv.toArray) := by
  obtain ⟨cur', q2, q3, q4, q5, q6, q7, q8, q9⟩ := mrow_at hR hk hψ
  rw [hcur] at q3; cases q3
  obtain ⟨h1, h2, _⟩ := hR.st b _ hk
  have hat : (Blk.mrow e t l).at φ ψ b = some g := by simp only [Blk.at, hψ]; rfl
  have hrow' : (w.setRow g nv.toArray).heap[g]? = some (.cells nv.toArray e (0, 0)) := by
    simp only [World.setRow]
    rw [Array.getElem?_modify, if_pos rfl, hcur]; rfl
  have hoth : ∀ k, k ≠ g → (w.setRow g nv.toArray).heap[k]? = w.heap[k]? := by
    intro k hk
    simp only [World.setRow, Array.getElem?_modify]
    rw [if_neg (fun e => hk e.symm)]
  have hsz' : (w.setRow g nv.toArray).heap.size = w.heap.size := by simp [World.setRow]
  refine hR.upd (Evo.refl _ _ _ _) rfl rfl (fun p v e e0 => by rw [e] at e0; cases e0) (fun p v hp => ?_) ⟨rfl, rfl, rfl, by rw [hsz']; exact Nat.le_refl _, fun k hk => hoth k (by omega)⟩ (fun b' k' e' => ?_) (fun b1 k1 b2 k2 g' e1 e2 n1 n2 f1 f2 => ?_) (fun g' _ ⟨cur', e', q⟩ => by
    by_cases hg : g' = g
    · subst hg; exact ⟨_, _, hrow'⟩
    · exact ⟨cur', e', (hoth g' hg).trans q⟩)
  · have hne : p.block ≠ g := by
      intro e
      obtain ⟨pb, po, ps⟩ := p
      simp only at e
      subst e
      rw [q9 po ps] at hp; cases hp
    rw [World.cell?_of_block (w := w) (hoth _ hne)]
    exact hR.sw p v hp
  · by_cases hb : b = b'
    · subst hb
      rw [look_cons_eq] at e'
      obtain rfl := Option.some.inj e'
      refine .inr ⟨h1, ⟨h2, .inr ⟨g, cap, nv.toArray, _, by rw [hψ, q7, hlen], q2, hrow', by rw [hlen]; exact q4, q5, by rw [List.size_toArray, hsz]; exact q6, rfl, hrow, q9⟩⟩, fun g' f b2 k2 e2 e3 hne f2 => ?_⟩
      have f : (Blk.mrow e t l).at φ ψ b = some g' := f
      exact hne (hR.apart b2 b _ _ g' e3 hk f2 f)
    · rw [look_cons_ne _ _ hb] at e'
      refine .inl ⟨e', fun g' f => ⟨hoth g' (fun e => hb (hR.apart b b' _ _ g hk e' hat (by rw [f, e]))), fun _ _ => rfl⟩⟩
  · have hb : ∀ b1 k, look ((b, Blk.mrow e t l') :: s.st) b1 = some k → look s.st b1 ≠ some k → b = b1 := by
      intro b1 k e n
      by_cases hb : b = b1
      · exact hb
      · rw [look_cons_ne _ _ hb] at e; exact absurd e n
    rw [← hb b1 k1 e1 n1, ← hb b2 k2 e2 n2]
theorem load_sound {t : TypeId} {x : Operand} (hR : Rl base w0 S0 φ ψ S s a w) (h : evLoad P t x s K = some r) : Sound P base w0 S0 φ ψ S s a w K r ⟨dst, .load t x, ty, pos, after, guard⟩ := by
  unfold evLoad at h
  split at h
  · rename_i b off e
    have hx := hR.val x; rw [e] at hx
    obtain ⟨hb, hx⟩ := hx
    split at h
    · rename_i l e' hk
      split at h
      · rename_i v hm
        obtain ⟨vs, h1, h2, h3⟩ := ptr_cells (off := off) hR hk
        obtain ⟨u, h4, h5⟩ := loadVar_rel (P := P) (w := w) hm (h2.drop off) h3
        exact ⟨_, _, h, Does.pure hR (u := u) (by simp [execOp, hx, Instr.loadAt, Instr.sureAddr, h4]) h5⟩
      · cases h
    · cases h
  · rename_i tt y off e
    have hx := hR.val x; rw [e] at hx
    obtain ⟨ad, vs, hx, h1, h2⟩ := hx
    split at h
    · rename_i v hm
      obtain ⟨u, h4, h5⟩ := loadVar_rel (P := P) (w := w) hm ((h1.all2 (φ := φ) (ψ := ψ) s.n).drop off) (fun j u hj => hR.sw _ _ (h2 j u hj))
      exact ⟨_, _, h, Does.pure hR (u := u) (by simp [execOp, hx, Instr.loadAt, Instr.sureAddr, h4]) h5⟩
    · cases h
  · rename_i b wd i off e
    have hx := hR.val x; rw [e] at hx
    obtain ⟨hb, g, len, cap, hψ, hx⟩ := hx
    split at h
    · rename_i e' tt l hk
      have hk := mrowOf_some hk
      obtain ⟨cur, q2, q3, q4, q5, q6, q7, q8, q9⟩ := mrow_at hR hk hψ
      split at h
      · rename_i v hw hm
        have hw := Nat.eq_of_beq_eq_true hw
        rcases cond_some h with ⟨hi, h⟩ | ⟨_, h⟩
        · have hi := of_decide_eq_true hi
          have hg : l.getD i tt.zero = l[i] := by simp [List.getD_eq_getElem?_getD, hi]
          obtain ⟨us, h1, h2⟩ := q8.2 i l[i] (by simp [hi])
          rw [hg] at hm
          obtain ⟨u, h4, h5⟩ := loadVar_rel (P := P) (w := w) (ad := ⟨g, i * wd + off, none⟩) hm ((h1.all2 (φ := φ) (ψ := ψ) s.n).drop off) (fun j u hj => by
            rw [List.getElem?_drop] at hj
            have h3 := h2 _ u hj
            rw [List.getElem?_take] at h3
            split at h3
            · rw [add_at, heap_cell (vs := cur.toList) (by simpa using q3), hw, show i * tt.width + off + j = i * tt.width + (off + j) by omega]
              exact h3
            · cases h3)
          exact ⟨_, _, h, Does.pure hR (u := u) (by simp [execOp, hx, Instr.loadAt, Instr.sureAddr, h4]) h5⟩
        · cases h
      · cases h
    · cases h
  · cases h
theorem store_sound {t : TypeId} {x y : Operand} (hR : Rl base w0 S0 φ ψ S s a w) (h : evStore P t x y s K = some r) : Sound P base w0 S0 φ ψ S s a w K r ⟨dst, .store t x y, ty, pos, after, guard⟩ := by
  unfold evStore at h
  split at h
  · rename_i b off e
    have hx := hR.val x; rw [e] at hx
    obtain ⟨hb, hx⟩ := hx
    split at h
    · rename_i l e' hk
      split at h
      · rename_i c hc
        split at h
        · rename_i n hn
          split at h
          · rename_i hbb
            rw [Bool.and_eq_true] at hbb
            have h1 := Nat.eq_of_beq_eq_true hbb.1
            have h2 := Nat.le_of_ble_eq_true hbb.2
            obtain ⟨us, h3, h4⟩ := (hR.val y).cells hc
            obtain ⟨w', h5, h6⟩ := store_rel (P := P) hR hk h4 h2
            have hlen := h4.length
            refine ⟨_, _, h, φ, ψ, S, undef, w', .inr ⟨?_, rfl⟩, h6, rfl, Evo.refl _ _ _ _, rfl, ⟨[_], rfl⟩, rfl⟩
            have e1 : (a.eval y).cells.size = n := by rw [h3]; simp; omega
            have e2 : (a.eval y).cells.toList = us := by rw [h3]
            simp only [execOp, hx, Instr.storeAt, Instr.sureAddr, storeVar, Sem.run_bind, Sem.run_pure, Result.andThen_ok, szOf_run hn, e1, ne_eq, not_true_eq_false, if_false, e2, h5]
          · cases h
        · cases h
      · cases h
    · cases h
  · rename_i b wd i off ex
    have hx := hR.val x; rw [ex] at hx
    obtain ⟨hb, g, len, cap, hψ, hx⟩ := hx
    split at h
    · rename_i e' tt l hk
      have hk := mrowOf_some hk
      obtain ⟨cur, q2, q3, q4, q5, q6, q7, q8, q9⟩ := mrow_at hR hk hψ
      split at h
      · rename_i c n hc hn
        split at h
        · rename_i hbb
          simp only [Bool.and_eq_true] at hbb
          have hw := Nat.eq_of_beq_eq_true hbb.1.1
          have h1 := Nat.eq_of_beq_eq_true hbb.1.2
          have h2 := Nat.le_of_ble_eq_true hbb.2
          split at h
          · rename_i x' hun
            rcases cond_some h with ⟨hi, h⟩ | ⟨_, h⟩
            · have hi := of_decide_eq_true hi
              have hg : l.getD i tt.zero = l[i] := by simp [List.getD_eq_getElem?_getD, hi]
              obtain ⟨os, o1, o2⟩ := q8.2 i l[i] (by simp [hi])
              rw [hg] at hun
              obtain ⟨us, h3, h4⟩ := (hR.val y).cells hc
              have hul := h4.length
              have hol := o1.width
              have hcells := o1.all2 (φ := φ) (ψ := ψ) s.n
              have hall : All2 (CRel φ ψ S s.n) (((cellsCV tt l[i]).take off ++ c ++ (cellsCV tt l[i]).drop (off + c.length)).map s.derefC) (os.take off ++ us ++ os.drop (off + us.length)) := by
                refine All2.map_l (All2.mono (fun c u hc => hR.derefC hc) ?_)
                rw [← hul]
                exact ((hcells.take off).append h4).append (hcells.drop _)
              obtain ⟨us', ws, e1, r1, r2⟩ := unCV_rel hun hall
              obtain rfl := All2.nil_inv r2
              rw [List.append_nil] at e1
              have hone : ∀ v ∈ us, v.oneCell' = true := by
                intro v hv
                obtain ⟨j, hj, rfl⟩ := List.getElem_of_mem hv
                obtain ⟨b', hb', hr⟩ := h4.get (i := j) (a := c[j]'(by omega)) (by simp)
                rw [List.getElem?_eq_getElem hj] at hb'
                obtain rfl := Option.some.inj hb'
                exact hr.one
              have hiw : (i + 1) * tt.width ≤ l.length * tt.width := Nat.mul_le_mul_right _ hi
              have hlw : l.length * tt.width ≤ cap * tt.width := Nat.mul_le_mul_right _ q4
              rw [Nat.add_mul, Nat.one_mul] at hiw
              have hst := run_storeCells_at (P := P) g (i * wd + off) e' us 0 cur w q3 (by rw [hw] at h2 ⊢; omega) hone
              simp only [Nat.add_zero] at hst
              obtain ⟨nv, hnv⟩ : ∃ nv, cur.toList.take (i * wd + off) ++ us ++ cur.toList.drop (i * wd + off + us.length) = nv := ⟨_, rfl⟩
              rw [hnv] at hst
              have hcl : cur.toList.length = cur.size := Array.length_toList
              have hnl : nv.length = cur.size := by
                rw [← hnv]; simp only [List.length_append, List.length_take, List.length_drop, hcl]; rw [hw] at h2 ⊢; omega
              have hget : ∀ k, nv[k]? = if k < i * wd + off then cur.toList[k]? else if k < i * wd + off + us.length then us[k - (i * wd + off)]? else cur.toList[k]? := by
                intro k
                have htl : (cur.toList.take (i * wd + off)).length = i * wd + off := by rw [List.length_take, hcl]; rw [hw] at h2 ⊢; omega
                rw [← hnv, List.append_assoc, List.getElem?_append, htl]
                split
                · rename_i hk; rw [List.getElem?_take_of_lt hk]
                · rw [List.getElem?_append]
                  split
                  · rename_i hk; rw [if_pos (by omega)]
                  · rename_i hk
                    rw [if_neg (by omega), List.getElem?_drop]
                    congr 1; omega
              have hrow : RowList S tt (l.set i x') (nv.take ((l.set i x').length * tt.width)) := by
                rw [List.length_set]
                refine q8.put r1 (by simp only [List.length_take, hnl, hcl]) (fun j u hj => ?_) (fun k hk => ?_)
                · rw [← e1] at hj
                  have hjw : j < tt.width := by
                    have := (List.getElem?_eq_some_iff.1 hj).1
                    simp only [List.length_append, List.length_take, List.length_drop] at this
                    rw [hw] at h2; omega
                  rw [List.getElem?_take_of_lt (by omega), hget, hw]
                  rw [List.append_assoc, List.getElem?_append, List.length_take, hol, Nat.min_eq_left (by rw [hw] at h2; omega)] at hj
                  split at hj
                  · rename_i hjo
                    rw [if_pos (by omega)]
                    rw [List.getElem?_take_of_lt hjo] at hj
                    have := o2 j u hj
                    rwa [List.getElem?_take_of_lt (by omega)] at this
                  · rename_i hjo
                    rw [if_neg (by omega)]
                    rw [List.getElem?_append] at hj
                    split at hj
                    · rename_i hju
                      rw [if_pos (by omega), show i * tt.width + j - (i * tt.width + off) = j - off by omega]
                      exact hj
                    · rename_i hju
                      rw [if_neg (by omega)]
                      rw [List.getElem?_drop] at hj
                      have := o2 _ u hj
                      rw [List.getElem?_take_of_lt (by omega)] at this
                      rwa [show off + us.length + (j - off - us.length) = j by omega] at this
                · rw [List.getElem?_take, List.getElem?_take]
                  split
                  · rw [hget, hw]
                    rcases hk with hk | hk
                    · rw [if_pos (by omega)]
                    · rw [Nat.add_mul, Nat.one_mul] at hk
                      rw [hw] at h2
                      rw [if_neg (by omega), if_neg (by omega)]
                  · rfl
              have h6 := mrow_put hR hk hψ q3 hnl (List.length_set ..) hrow
              refine ⟨_, _, h, φ, ψ, S, undef, _, .inr ⟨?_, rfl⟩, h6, rfl, Evo.refl _ _ _ _, rfl, ⟨[_], rfl⟩, rfl⟩
              have e1 : (a.eval y).cells.size = n := by rw [h3]; simp; omega
              have e2 : (a.eval y).cells.toList = us := by rw [h3]
              simp only [execOp, hx, Instr.storeAt, Instr.sureAddr, storeVar, Sem.run_bind, Sem.run_pure, Result.andThen_ok, szOf_run hn, e1, ne_eq, not_true_eq_false, if_false, e2, hst]
            · cases h
          · cases h
        · cases h
      · cases h
    · cases h
  · cases h
theorem nil_sound {x : Operand} (hR : Rl base w0 S0 φ ψ S s a w) (h : evNil x s K = some r) : Sound P base w0 S0 φ ψ S s a w K r ⟨dst, .nilCheck x, ty, pos, after, guard⟩ := by
  unfold evNil at h
  split at h
  · rename_i b o e
    have hx := hR.val x; rw [e] at hx
    have hx' := hx.2
    exact ⟨_, _, h, Does.pure hR (u := a.eval x) (by simp [execOp, hx']) hx⟩
  · rename_i f c e
    have hx := hR.val x; rw [e] at hx
    have hx' := hx.2
    exact ⟨_, _, h, Does.pure hR (u := a.eval x) (by simp [execOp, hx']) hx⟩
  · rename_i t y o e
    have hx := hR.val x; rw [e] at hx
    obtain ⟨ad, vs, hx', h1, h2⟩ := id hx
    exact ⟨_, _, h, Does.pure hR (u := a.eval x) (by simp [execOp, hx']) hx⟩
  · rename_i b wd i o e
    have hx := hR.val x; rw [e] at hx
    obtain ⟨_, g, len, cap, _, hx'⟩ := id hx
    exact ⟨_, _, h, Does.pure hR (u := a.eval x) (by simp [execOp, hx']) hx⟩
  · cases h
theorem evVal_some {v : Option Value} (h : evVal v s K = some r) : ∃ u, v = some u ∧ K (.one (.val u)) s = some r := by
  unfold evVal at h
  split at h
  · exact ⟨_, rfl, h⟩
  · cases h
theorem un_sound {op : UnOp} {xt : TypeId} {x : Operand} (hR : Rl base w0 S0 φ ψ S s a w) (h : evUn P op x s K = some r) : Sound P base w0 S0 φ ψ S s a w K r ⟨dst, .unOp op xt x, ty, pos, after, guard⟩ := by
  unfold evUn at h
  split at h
  · rename_i v e
    obtain ⟨u, h1, h2⟩ := evVal_some h
    exact ⟨_, _, h2, Does.pure hR (u := u) (by simp [execOp, hR.valEq e, runPure_run h1 w]) rfl⟩
  · cases h
theorem convert_bytes {src dt e : TypeId} (hs : P.underlying src = some (.slice e)) (hd : P.underlying dt = some .string) (he : P.underlying e = some (.int .u8)) {l : List Int} {v : Value} (hSw : ∀ p v, S p = some v → w.cell? p = some v) (hv : Reps S (.sl (.int .u8)) l [v]) :
    (convert src dt v).run P w = .ok (.string (strOfNums l)) w := by
  obtain ⟨A, c, e1, hc, hcell⟩ := hv
  obtain rfl : v = .slice A (lst (t := .int .u8) l).length c := by simpa using e1
  cases A with
  | none =>
    have : l = [] := by
      cases l with
      | nil => rfl
      | cons x l => obtain ⟨a, us, e2, _⟩ := hcell 0 x rfl; cases e2
    subst this
    exact run_convert_bytes_nil w src e hs he _ _ dt hd
  | some a =>
    have hl : (loadCells a (lst (t := .int .u8) l).length).run P w = .ok (l.map (Value.int .u8)).toArray w := by
      have := run_loadCells_list (P := P) w a (l.map (Value.int .u8)) (fun j u hj => by
        rw [List.getElem?_map] at hj
        cases hx : l[j]? with
        | none => rw [hx] at hj; cases hj
        | some x =>
          rw [hx] at hj
          obtain rfl : Value.int .u8 x = u := by simpa using hj
          obtain ⟨a', us, e2, h2, h3⟩ := hcell j x hx
          obtain rfl := Option.some.inj e2
          have h2' : us = [Value.int .u8 x] := h2
          subst h2'
          have := hSw _ _ (h3 0 _ rfl)
          simpa [Ty.width] using this)
      have h0 : (loadCells a (List.length (α := Int) l)).run P w = .ok (l.map (Value.int .u8)).toArray w := by simpa using this
      exact h0
    rw [run_convert_bytes_string w src dt e _ _ c hs he hd, run_bytesToString w _ _ c l hl, foldl_push_bytes]
    simp [strOfNums, ByteArray.empty, ByteArray.emptyWithCapacity]
    rfl
theorem conv_sound {src dt : TypeId} {x : Operand} (hR : Rl base w0 S0 φ ψ S s a w) (h : evConv P src dt x s K = some r) : Sound P base w0 S0 φ ψ S s a w K r ⟨dst, .convert src dt x, ty, pos, after, guard⟩ := by
  unfold evConv at h
  split at h
  · rename_i v e
    have hx : a.eval x = v := by have := hR.valR x; rw [e] at this; exact this
    obtain ⟨u, h1, h2⟩ := evVal_some h
    exact ⟨_, _, h2, Does.pure hR (u := u) (by simp [execOp, hx, runPure_run h1 w]) rfl⟩
  · rename_i l e
    have hx := hR.valR x; rw [e] at hx
    split at h
    · rename_i el hs hd
      split at h
      · rename_i he
        exact ⟨_, _, h, Does.pure hR (u := .string (strOfNums l)) (by simp [execOp, convert_bytes hs hd he hR.sw hx]) rfl⟩
      · cases h
    · cases h
  · cases h
theorem ptrs_rel (hR : Rl base w0 S0 φ ψ S s a w) : ∀ {l : List Operand} {ps : List (Nat × Nat)}, ptrsOf s l = some ps → (∀ p ∈ ps, p.1 < s.n) ∧ l.map a.eval = ps.map fun p => Value.pointer (some ⟨φ p.1, p.2, none⟩)
  | [], ps, h => by simp [ptrsOf] at h; subst h; simp
  | c :: l, ps, h => by
    unfold ptrsOf at h
    split at h
    · rename_i b o e
      have hx := hR.val c; rw [e] at hx
      split at h
      · rename_i l' hl
        simp at h; subst h
        obtain ⟨h1, h2⟩ := ptrs_rel hR hl
        exact ⟨by simpa using ⟨hx.1, fun a b hm => h1 _ hm⟩, by simp [h2, hx.2]⟩
      · cases h
    · cases h
theorem fn_sound {fn : Fn} {first caps : Array Operand} (hR : Rl base w0 S0 φ ψ S s a w) (h : evFn fn first caps s K = some r) : Sound P base w0 S0 φ ψ S s a w K r ⟨dst, .makeFunc fn first caps, ty, pos, after, guard⟩ := by
  unfold evFn at h
  split at h
  · rename_i f hf
    split at h
    · rename_i l hl
      obtain ⟨h1, h2⟩ := ptrs_rel hR hl
      have hfirst : first = #[] := by apply Array.ext'; simpa using hf
      refine ⟨_, _, h, Does.pure hR (u := .func (.func f) #[] (l.map fun p => Value.pointer (some ⟨φ p.1, p.2, none⟩)).toArray) ?_ ⟨h1, rfl⟩⟩
      have : caps.map a.eval = (l.map fun p => Value.pointer (some ⟨φ p.1, p.2, none⟩)).toArray := by apply Array.ext'; rw [Array.toList_map, h2]
      subst hfirst
      simp [execOp, Instr.makeFunc, this]
    · cases h
  · cases h
theorem extract_sound {t : Operand} {ix : Nat} (hR : Rl base w0 S0 φ ψ S s a w) (h : evExtract t ix s K = some r) : Sound P base w0 S0 φ ψ S s a w K r ⟨dst, .extract t ix, ty, pos, after, guard⟩ := by
  unfold evExtract at h
  split at h
  · rename_i l e
    have hx := hR.val t; rw [e] at hx
    obtain ⟨us, hx, h2⟩ := hx
    split at h
    · rename_i cs hi
      obtain ⟨u, h3, h4⟩ := h2.get hi
      exact ⟨_, _, h, Does.pure hR (u := u) (by simp [execOp, hx, Instr.extract, h3]) h4⟩
    · rename_i c hi
      obtain ⟨u, h3, h4⟩ := h2.get hi
      exact ⟨_, _, h, Does.pure hR (u := u) (by simp [execOp, hx, Instr.extract, h3]) (ARel.of_one h4)⟩
    · cases h
  · cases h
theorem eqGuard_int (op : BinOp) (t : TypeId) (x y x' y' : Operand) (k k' : IntKind) (m n : Int) : eqGuard op t x y (.int k m) (.int k' n) = eqGuard op t x' y' (.int k m) (.int k' n) := rfl
theorem eqGuard_str (op : BinOp) (t : TypeId) (x y x' y' : Operand) (m n : ByteArray) : eqGuard op t x y (.string m) (.string n) = eqGuard op t x' y' (.string m) (.string n) := rfl
theorem eqGuard_run_int (op : BinOp) (t : TypeId) (x y : Operand) (k k' : IntKind) (m n : Int) (w : World) : (eqGuard op t x y (.int k m) (.int k' n)).run P w = .ok () w := by
  unfold eqGuard; split <;> rfl
theorem eqGuard_run_str (op : BinOp) (t : TypeId) (x y : Operand) (m n : ByteArray) (w : World) : (eqGuard op t x y (.string m) (.string n)).run P w = .ok () w := by
  unfold eqGuard; split <;> rfl
theorem eqGuard_run_bool (op : BinOp) (t : TypeId) (x y : Operand) (m n : Bool) (w : World) : (eqGuard op t x y (.bool m) (.bool n)).run P w = .ok () w := by
  unfold eqGuard; split <;> rfl
theorem part_rel {n : Nat} {t : TypeId} {o : Nat} {l : List CV} {vs : List Value} {v : AV} (h2 : All2 (CRel φ ψ S n) l vs) (hm : mkAV P t (l.drop o) = some v) (w : World) : ∃ u, (part t vs.toArray o).run P w = .ok u w ∧ ARel φ ψ S n v u := by
  have hd := h2.drop o
  unfold mkAV at hm
  unfold part
  split at hm
  · rename_i hb
    split at hm
    · rename_i k hk
      split at hm
      · rename_i hle
        simp at hm; subst hm
        refine ⟨.agg ((vs.drop o).take k).toArray, ?_, _, rfl, hd.take k⟩
        simp [isAggB_run hb, szOf_run hk, List.extract_toArray, List.extract_eq_take_drop]
      · cases hm
    · cases hm
  · rename_i hb
    split at hm
    · rename_i c cs hcs
      simp at hm; subst hm
      rw [hcs] at hd
      obtain ⟨u, us', e', h3, h4⟩ := All2.cons_inv hd
      refine ⟨u, ?_, ARel.of_one h3⟩
      have hu : vs[o]? = some u := by
        have := congrArg (fun l => l[0]?) e'
        simpa using this
      simp [isAggB_run hb, hu]
    · cases hm
  · cases hm
theorem aeqFs_sound {n d : Nat} {e : TypeId → AV → AV → Option Bool} (he : ∀ (t : TypeId) (x y : AV) (u v : Value) (b : Bool), e t x y = some b → ARel φ ψ S n x u → ARel φ ψ S n y v → (Op.equalIn d t u v).run P w = .ok b w) {l m : List CV} {us vs : List Value} (hl : All2 (CRel φ ψ S n) l us) (hm : All2 (CRel φ ψ S n) m vs) :
    ∀ {fs : List Field} {b : Bool}, aeqFs P e l m fs = some b → (Op.eqFields d us.toArray vs.toArray fs).run P w = .ok b w
  | [], b, h => by simp [aeqFs] at h; subst h; simp [Op.eqFields]
  | f :: fs, b, h => by
    unfold aeqFs at h
    split at h
    · rename_i hn
      have hn' : ¬ (f.name ≠ "_") := by simpa using hn
      rw [Op.eqFields, if_neg hn']
      exact aeqFs_sound he hl hm h
    · rename_i hn
      have hn' : f.name ≠ "_" := by simpa using hn
      split at h
      · rename_i p q hp hq
        split at h
        · rename_i b1 hb1
          split at h
          · rename_i c hc
            simp at h; subst h
            obtain ⟨u1, g1, g2⟩ := part_rel hl hp w
            obtain ⟨u2, g3, g4⟩ := part_rel hm hq w
            have g5 := he _ _ _ _ _ _ hb1 g2 g4
            rw [Op.eqFields]
            simp only [if_pos hn', Sem.run_bind, g1, g3, g5, Result.andThen_ok]
            cases b1
            · simp
            · simpa using aeqFs_sound he hl hm hc
          · cases h
        · cases h
      · cases h
theorem aeq_run {n : Nat} : ∀ (d D : Nat) (t : TypeId) (x y : AV) (u v : Value) (b : Bool), d ≤ D → aeq P d t x y = some b → ARel φ ψ S n x u → ARel φ ψ S n y v → (Op.equalIn D t u v).run P w = .ok b w
  | 0, _, _, _, _, _, _, _, _, h, _, _ => by simp [aeq] at h
  | d + 1, D, t, x, y, u, v, b, hD, h, hx, hy => by
    obtain ⟨D, rfl⟩ : ∃ k, D = k + 1 := ⟨D - 1, by omega⟩
    unfold aeq at h
    split at h
    · rename_i fs hfs
      split at h
      · cases h
      · rename_i hp
        split at h
        · rename_i l m
          obtain ⟨us, rfl, hu⟩ := hx
          obtain ⟨vs, rfl, hv⟩ := hy
          have hf : P.fieldsOf t = fs := by simp [Program.fieldsOf, hfs]
          rw [run_equalIn_struct (P := P) w D t us.toArray vs.toArray (by rw [hf]; exact hfs) hp, hf]
          exact aeqFs_sound (fun t x y u v b h h1 h2 => aeq_run d D t x y u v b (by omega) h h1 h2) hu hv h
        · cases h
    · rename_i k hk
      split at h
      · rename_i k1 m k2 n
        split at h
        · rename_i e
          obtain rfl := ty_int e
          simp at h; subst h
          obtain rfl : u = _ := hx
          obtain rfl : v = _ := hy
          unfold Op.equalIn
          simp [run_underlying hk]
        · cases h
      · cases h
    · rename_i hk
      split at h
      · rename_i m n
        simp at h; subst h
        obtain rfl : u = _ := hx
        obtain rfl : v = _ := hy
        unfold Op.equalIn
        simp only [Sem.run_bind, run_underlying hk, Result.andThen_ok]
        show Result.ok (m == n) w = _
        rw [beq_toListBytes]
      · cases h
    · rename_i hk
      split at h
      · rename_i m n
        simp at h; subst h
        obtain rfl : u = _ := hx
        obtain rfl : v = _ := hy
        unfold Op.equalIn
        simp [run_underlying hk]
      · cases h
    · cases h
theorem aeq_sound {t : TypeId} {xs ys : List Value} {l m : List CV} {b : Bool} {n : Nat} (hg : P.eqGuardType P.depth t = false) (h : aeq P 20 t (.agg l) (.agg m) = some b) (hx : All2 (CRel φ ψ S n) l xs) (hy : All2 (CRel φ ψ S n) m ys) (w : World) :
    (Op.equal t (.agg xs.toArray) (.agg ys.toArray)).run P w = .ok b w ∧ ∀ op x y, (eqGuard op t x y (.agg xs.toArray) (.agg ys.toArray)).run P w = .ok () w := by
  refine ⟨aeq_run 20 Op.maxDepth t _ _ _ _ b (by decide) h ⟨xs, rfl, hx⟩ ⟨ys, rfl, hy⟩, fun op x y => ?_⟩
  cases op <;> simp [eqGuard, hg]
theorem evBool_some {op : BinOp} {b : Bool} (h : evBool op b s K = some r) : ∃ c, K (.one (.val (.bool c))) s = some r ∧ ((op = .eql ∧ c = b) ∨ (op = .neq ∧ c = !b)) := by
  unfold evBool at h
  split at h
  · exact ⟨_, h, .inl ⟨rfl, rfl⟩⟩
  · exact ⟨_, h, .inr ⟨rfl, rfl⟩⟩
  · cases h
theorem bin_sound {op : BinOp} {t yt : TypeId} {x y : Operand} (hR : Rl base w0 S0 φ ψ S s a w) (h : evBin P op t x y s K = some r) : Sound P base w0 S0 φ ψ S s a w K r ⟨dst, .binOp op t x y yt, ty, pos, after, guard⟩ := by
  unfold evBin at h
  split at h
  · rename_i m n e1 e2
    have h1 := hR.valEq e1
    have h2 := hR.valEq e2
    unfold evText at h
    split at h
    · rcases cond_some h with ⟨hb, h⟩ | ⟨_, h⟩
      · have hb := of_decide_eq_true hb
        refine ⟨_, _, h, Does.pure hR (u := .string (m ++ n)) (run_v _ _ _ ?_) rfl⟩
        rw [h1, h2, Sem.run_bind, eqGuard_run_str]
        simp only [Result.andThen_ok, binOp, Op.stringOp]
        rw [if_neg (by have : IntKind.i64.max = 9223372036854775807 := rfl; omega)]
        rfl
      · cases h
    · obtain ⟨u, h3, h4⟩ := evVal_some h
      refine ⟨_, _, h4, Does.pure hR (u := u) (run_v _ _ _ ?_) rfl⟩
      rw [h1, h2, eqGuard_str op t x y (.const undef) (.const undef)]
      exact runPure_run h3 w
  · rename_i k m k' n e1 e2
    have h1 := hR.valEq e1
    have h2 := hR.valEq e2
    unfold evInt at h
    split at h
    · split at h
      · rename_i hk
        obtain rfl := ty_int hk
        rcases cond_some h with ⟨_, h⟩ | ⟨hb, h⟩
        · cases h
        · have hb : n ≠ 0 := by simpa using hb
          refine ⟨_, _, h, Does.pure hR (u := .int k (k.wrap (m.tdiv n))) (run_v _ _ _ ?_) rfl⟩
          rw [h1, h2, Sem.run_bind, eqGuard_run_int]
          simp [binOp, Op.intDiv, hb]
      · cases h
    · split at h
      · rename_i hk
        obtain rfl := ty_int hk
        rcases cond_some h with ⟨_, h⟩ | ⟨hb, h⟩
        · cases h
        · have hb : n ≠ 0 := by simpa using hb
          refine ⟨_, _, h, Does.pure hR (u := .int k (m.tmod n)) (run_v _ _ _ ?_) rfl⟩
          rw [h1, h2, Sem.run_bind, eqGuard_run_int]
          simp [binOp, Op.intDiv, hb]
      · cases h
    · obtain ⟨u, h3, h4⟩ := evVal_some h
      refine ⟨_, _, h4, Does.pure hR (u := u) (run_v _ _ _ ?_) rfl⟩
      rw [h1, h2, eqGuard_int op t x y (.const undef) (.const undef)]
      exact runPure_run h3 w
  · rename_i m n e1 e2
    have h1 := hR.valEq e1
    have h2 := hR.valEq e2
    split at h
    · rename_i ht
      obtain ⟨c, h3, h4⟩ := evBool_some h
      refine ⟨_, _, h3, Does.pure hR (u := .bool c) (run_v _ _ _ ?_) rfl⟩
      have he : (Op.equal t (.bool m) (.bool n)).run P w = .ok (m == n) w := by
        unfold Op.equal Op.maxDepth Op.equalIn
        simp [run_underlying ht]
      rw [h1, h2, Sem.run_bind, eqGuard_run_bool]
      rcases h4 with ⟨rfl, rfl⟩ | ⟨rfl, rfl⟩ <;> simp [binOp, he]
    · cases h
  · rename_i l m e1 e2
    have h1 := hR.val x; rw [e1] at h1
    have h2 := hR.val y; rw [e2] at h2
    obtain ⟨us, h1, hu⟩ := h1
    obtain ⟨vs, h2, hv⟩ := h2
    split at h
    · cases h
    · rename_i hg
      split at h
      · rename_i b he
        obtain ⟨c, h3, h4⟩ := evBool_some h
        obtain ⟨h5, h6⟩ := aeq_sound hg he hu hv w
        refine ⟨_, _, h3, Does.pure hR (u := .bool c) (run_v _ _ _ ?_) rfl⟩
        rw [h1, h2, Sem.run_bind, h6]
        rcases h4 with ⟨rfl, rfl⟩ | ⟨rfl, rfl⟩ <;> simp [binOp, h5]
      · cases h
  · cases h
theorem field_sound {t : TypeId} {x : Operand} {f : Nat} (hR : Rl base w0 S0 φ ψ S s a w) (h : evField P t x f s K = some r) : Sound P base w0 S0 φ ψ S s a w K r ⟨dst, .field t x f, ty, pos, after, guard⟩ := by
  unfold evField at h
  split at h
  · rename_i fs l hfs e
    have hx := hR.val x; rw [e] at hx
    obtain ⟨vs, hx, h2⟩ := hx
    split at h
    · rename_i fd hfd
      split at h
      · rename_i v hm
        have key : ∃ u, (part fd.type vs.toArray fd.offset).run P w = .ok u w ∧ ARel φ ψ S s.n v u := by
          have hd := h2.drop fd.offset
          unfold mkAV at hm
          unfold part
          split at hm
          · rename_i hb
            split at hm
            · rename_i k hk
              split at hm
              · rename_i hle
                simp at hm; subst hm
                refine ⟨.agg ((vs.drop fd.offset).take k).toArray, ?_, _, rfl, hd.take k⟩
                simp [isAggB_run hb, szOf_run hk, List.extract_toArray, List.extract_eq_take_drop]
              · cases hm
            · cases hm
          · rename_i hb
            split at hm
            · rename_i c cs hcs
              simp at hm; subst hm
              rw [hcs] at hd
              obtain ⟨u, us', e', h3, h4⟩ := All2.cons_inv hd
              refine ⟨u, ?_, ARel.of_one h3⟩
              have hu : vs[fd.offset]? = some u := by
                have := congrArg (fun l => l[0]?) e'
                simpa using this
              simp [isAggB_run hb, hu]
            · cases hm
          · cases hm
        obtain ⟨u, h3, h4⟩ := key
        refine ⟨_, _, h, Does.pure hR (u := u) (run_v _ _ _ ?_) h4⟩
        simp [Instr.field, run_underlying hfs, hfd, hx, asAgg, h3]
      · cases h
    · cases h
  · cases h
theorem fieldAddr_sound {t : TypeId} {x : Operand} {f : Nat} (hR : Rl base w0 S0 φ ψ S s a w) (h : evFieldAddr P t x f s K = some r) : Sound P base w0 S0 φ ψ S s a w K r ⟨dst, .fieldAddr t x f, ty, pos, after, guard⟩ := by
  unfold evFieldAddr at h
  split at h
  · rename_i fs hfs
    split at h
    · rename_i fd hfd
      split at h
      · rename_i n hn
        have key : ∀ ad, a.eval x = .pointer (some ad) → (Instr.fieldAt t (a.eval x) f).run P w = .ok (.pointer (some (ad.add fd.offset))) w := by
          intro ad e
          simp [Instr.fieldAt, run_underlying hfs, hfd, e, Instr.sureAddr, fieldPlace, szOf_run hn]
        split at h
        · rename_i b off e
          have hx := hR.val x; rw [e] at hx
          refine ⟨_, _, h, Does.pure hR (run_v _ _ _ (key _ hx.2)) ⟨hx.1, by rw [add_at]⟩⟩
        · rename_i tt z off e
          have hx := hR.val x; rw [e] at hx
          obtain ⟨ad, vs, hx, h1, h2⟩ := hx
          refine ⟨_, _, h, Does.pure hR (run_v _ _ _ (key _ hx)) ⟨_, vs, rfl, h1, fun j v hj => ?_⟩⟩
          rw [Go.Deep.add_add]
          refine h2 _ _ ?_
          rw [List.getElem?_drop] at hj ⊢
          rw [← hj]; congr 1; omega
        · rename_i b wd i off e
          have hx := hR.val x; rw [e] at hx
          obtain ⟨hb, g, len, cap, hψ, hx⟩ := hx
          exact ⟨_, _, h, Does.pure hR (run_v _ _ _ (key _ hx)) ⟨hb, g, len, cap, hψ, by rw [add_at, Nat.add_assoc]⟩⟩
        · cases h
      · cases h
    · cases h
  · cases h
theorem evCase_some {i : Int} {pick : Nat → Option AV} : ∀ {m j : Nat}, evCase i pick s K m j = some r → ∃ q v, j ≤ q ∧ q < j + m ∧ i = (q : Int) ∧ pick q = some v ∧ K v s = some r := by
  intro m
  induction m with
  | zero => intro j h; cases h
  | succ m ih =>
    intro j h
    unfold evCase at h
    split at h
    · rename_i v hv
      rcases cond_some h with ⟨b, h⟩ | ⟨_, h⟩
      · exact ⟨j, v, Nat.le_refl _, by omega, by simpa using b, hv, h⟩
      · obtain ⟨q, v, h1, h2, h3, h4, h5⟩ := ih h
        exact ⟨q, v, by omega, by omega, h3, h4, h5⟩
    · cases h
theorem indexAddr_sound {t : TypeId} {x i : Operand} (hR : Rl base w0 S0 φ ψ S s a w) (h : evIndexAddr P t x i s K = some r) : Sound P base w0 S0 φ ψ S s a w K r ⟨dst, .indexAddr t x i, ty, pos, after, guard⟩ := by
  unfold evIndexAddr at h
  split at h
  · rename_i e ht
    split at h
    · rename_i n hn
      split at h
      · rename_i tt l k j e1 e2
        have hx := hR.valR x; rw [e1] at hx
        have hj := hR.valEq e2
        split at h
        · rename_i hw
          have hw := Nat.eq_of_beq_eq_true hw
          rcases cond_some h with ⟨b1, h⟩ | ⟨_, h⟩
          · rcases cond_some h with ⟨b2, h⟩ | ⟨_, h⟩
            · have b1 := of_decide_eq_true b1
              have b2 := of_decide_eq_true b2
              obtain ⟨A, c, hx, hc, hel⟩ := hx
              simp at hx
              have hlt : j.toNat < l.length := by omega
              obtain ⟨ad, us, rfl, h1, h2⟩ := hel j.toNat l[j.toNat] (by simp [hlt])
              have hg : l.getD j.toNat tt.zero = l[j.toNat] := by simp [List.getD_eq_getElem?_getD, hlt]
              refine ⟨_, _, h, Does.pure hR (u := .pointer (some (ad.add (j.toNat * n)))) (run_v _ _ _ ?_) ⟨_, us, rfl, by rw [hg]; exact h1, fun q v hq => ?_⟩⟩
              · have b2' : j < ((lst l).length : Int) := b2
                simp [Instr.indexAt, hj, hx, asIntOf, run_underlying ht, b1, b2', szOf_run hn]
              · rw [Go.Deep.add_add, hw]
                exact h2 q v (by simpa using hq)
            · cases h
          · cases h
        · cases h
      · rename_i b k j e1 e2
        have hx := hR.valR x; rw [e1] at hx
        obtain ⟨hb, hx, hone⟩ := hx
        have hj := hR.valEq e2
        split at h
        · rename_i e' tt l hk
          have hk := mrowOf_some hk
          split at h
          · rename_i hw
            have hw := Nat.eq_of_beq_eq_true hw
            rcases cond_some h with ⟨b1, h⟩ | ⟨_, h⟩
            · rcases cond_some h with ⟨b2, h⟩ | ⟨_, h⟩
              · have b1 := of_decide_eq_true b1
                have b2 := of_decide_eq_true b2
                rcases (hR.st b _ hk).2.2 with ⟨_, q⟩ | ⟨g, cap, cur, xs, q1, _⟩
                · subst q; simp at b2; omega
                refine ⟨_, _, h, Does.pure hR (u := .pointer (some ⟨g, j.toNat * n + 0, none⟩)) (run_v _ _ _ ?_) ⟨hb, g, _, cap, q1, rfl⟩⟩
                have hx' : a.eval x = .slice (some ⟨g, 0, none⟩) l.length cap := hx.trans q1
                have b2' : j < ((lst l).length : Int) := b2
                simp [Instr.indexAt, hj, hx', asIntOf, run_underlying ht, b1, b2', szOf_run hn, add_at]
              · cases h
            · cases h
          · cases h
        · cases h
      · rename_i b m c k j e1 e2
        have hx := hR.valR x; rw [e1] at hx
        obtain ⟨hb, hmc, hx⟩ := hx
        have hj := hR.valEq e2
        rcases cond_some h with ⟨b1, h⟩ | ⟨_, h⟩
        · rcases cond_some h with ⟨b2, h⟩ | ⟨_, h⟩
          · have b1 := of_decide_eq_true b1
            have b2 := of_decide_eq_true b2
            obtain ⟨q, v, h1, h2, rfl, h4, h5⟩ := evCase_some h
            obtain rfl := Option.some.inj h4
            refine ⟨_, _, h5, Does.pure hR (u := .pointer (some ⟨φ b, q * n, none⟩)) (run_v _ _ _ ?_) ⟨hb, rfl⟩⟩
            simp [Instr.indexAt, hj, hx, asIntOf, run_underlying ht, b1, b2, szOf_run hn, add_at]
            intro h; omega
          · cases h
        · cases h
      · cases h
    · cases h
  · rename_i len e ht
    split at h
    · rename_i n hn hle
      split at h
      · rename_i b off k j e1 e2
        have hx := hR.val x; rw [e1] at hx
        have hj := hR.valEq e2
        obtain ⟨q, v, h1, h2, rfl, h4, h5⟩ := evCase_some h
        obtain rfl := Option.some.inj h4
        refine ⟨_, _, h5, Does.pure hR (u := .pointer (some ⟨φ b, off + q * n, none⟩)) (run_v _ _ _ ?_) ⟨hx.1, rfl⟩⟩
        have h3 : (q : Int) < (len : Int) := by omega
        have h0 : (0 : Int) ≤ (q : Int) := by omega
        simp [Instr.indexAt, hj, hx.2, asIntOf, run_underlying ht, h3, h0, szOf_run hn, Instr.sureAddr, add_at]
        intro h; omega
      · cases h
    · cases h
  · cases h
theorem index_sound {t : TypeId} {x i : Operand} (hR : Rl base w0 S0 φ ψ S s a w) (h : evIndex P t x i s K = some r) : Sound P base w0 S0 φ ψ S s a w K r ⟨dst, .index t x i, ty, pos, after, guard⟩ := by
  unfold evIndex at h
  split at h
  · rename_i ht
    split at h
    · rename_i v k j e1 e2
      have hx := hR.valEq e1
      have hj := hR.valEq e2
      rcases cond_some h with ⟨b1, h⟩ | ⟨_, h⟩
      · rcases cond_some h with ⟨b2, h⟩ | ⟨_, h⟩
        · have b1 := of_decide_eq_true b1
          have b2 := of_decide_eq_true b2
          obtain ⟨b, h1, h2⟩ := byte_at b1 b2
          refine ⟨_, _, h, Does.pure hR (u := .int .u8 (byteAt v j)) (run_v _ _ _ ?_) rfl⟩
          rw [h2]
          simp [Instr.index, hj, hx, asIntOf, run_underlying ht, h1]
        · cases h
      · cases h
    · cases h
  · rename_i len e ht
    split at h
    · rename_i n hn hle
      split at h
      · rename_i l k j e1 e2
        have hx := hR.val x; rw [e1] at hx
        obtain ⟨vs, hx, hl⟩ := hx
        have hj := hR.valEq e2
        obtain ⟨q, v, h1, h2, rfl, h4, h5⟩ := evCase_some h
        obtain ⟨u, hu, hv⟩ := part_rel hl h4 w
        refine ⟨_, _, h5, Does.pure hR (run_v _ _ _ ?_) hv⟩
        have h3 : (q : Int) < (len : Int) := by omega
        have h0 : (0 : Int) ≤ (q : Int) := by omega
        simp [Instr.index, hj, hx, asIntOf, run_underlying ht, h3, h0, szOf_run hn, hu]
        intro h; omega
      · cases h
    · cases h
  · cases h
theorem shareIf_eq {α β : Type} (b : Bool) (x : α) (f : α → Option β) : shareIf b x f = f x := by cases b <;> rfl
theorem slice_sound {t : TypeId} {x : Operand} {lo hi mx : Option Operand} (hR : Rl base w0 S0 φ ψ S s a w) (h : evSlice P t x lo hi mx s K = some r) : Sound P base w0 S0 φ ψ S s a w K r ⟨dst, .slice t x lo hi mx, ty, pos, after, guard⟩ := by
  unfold evSlice at h
  split at h
  · cases h
  · split at h
    · rename_i v ht e
      obtain ⟨i, m, h, rfl, h1, h2⟩ := cutHigh_some h
      obtain ⟨l, h, h3, h4⟩ := cutLow_some h
      refine ⟨_, _, h, Does.pure hR (u := .string (v.extract l m)) (run_v _ _ _ ?_) rfl⟩
      have hx := hR.valR x; rw [e] at hx
      have hx : a.eval x = .string v := hx
      rw [hx]
      exact sliceAt_str ht (fun b => bounds_run hR h1 h3 h2 h4)
    · rename_i e tt l ht e1
      have hx := hR.valR x; rw [e1] at hx
      obtain ⟨A, c, hx, hc, hel⟩ := hx
      simp at hx
      split at h
      · rename_i n hn
        split at h
        · rename_i hw
          have hw := Nat.eq_of_beq_eq_true hw
          obtain ⟨i, m, h, rfl, h1, h2⟩ := cutHigh_some h
          obtain ⟨q, h, h3, h4⟩ := cutLow_some h
          rw [shareIf_eq] at h
          have h1' : m ≤ (lst l).length := h1
          obtain ⟨sz, hsz, hrun⟩ := sliceAt_sl (A := A) (w := w) ht (fun b => bounds_run (isSlice := b) (len := (lst l).length) (cap := c) hR (Nat.le_trans h1 hc) h3 h2 h4) (by obtain ⟨i, hi, _⟩ := szOf_info hn; exact ⟨i, hi⟩)
          rw [hn] at hsz
          obtain rfl := Option.some.inj hsz
          have hlen : ((l.take m).drop q).length = m - q := by simp; omega
          refine ⟨_, _, h, Does.pure hR (run_v _ _ _ (by rw [hx]; exact hrun)) ?_⟩
          refine ⟨if c = q then A else A.map (·.add (q * n)), c - q, by simp only [lst, hlen], by simp only [lst, hlen]; omega, fun j y hj => ?_⟩
          have hjlt : j < m - q := by have := (List.getElem?_eq_some_iff.1 hj).1; simp only [lst] at this; omega
          have hy : (lst l)[q + j]? = some y := by
            simp only [lst] at hj ⊢
            rw [List.getElem?_drop, List.getElem?_take] at hj
            split at hj
            · exact hj
            · cases hj
          obtain ⟨ad, us, rfl, g1, g2⟩ := hel _ _ hy
          rw [if_neg (by omega)]
          refine ⟨ad.add (q * n), us, rfl, g1, fun z u hz => ?_⟩
          rw [Go.Deep.add_add]
          have := g2 z u hz
          rw [hw]
          rw [show q * tt.width + (j * tt.width + z) = (q + j) * tt.width + z by rw [Nat.add_mul]; omega]
          exact this
        · cases h
      · cases h
    · rename_i e b n c ht e1
      have hx := hR.valR x; rw [e1] at hx
      obtain ⟨hb, hnc, hx⟩ := hx
      split at h
      · rename_i sz0 hn
        obtain ⟨i, m, hq, rfl, h1, h2⟩ := cutHigh_some (K := fun _ hn => K (.one (.vw b hn c)) s) h
        obtain ⟨sz, hsz, hrun⟩ := sliceAt_sl (A := some ⟨φ b, 0, none⟩) (w := w) (lo := none) (hi := hi.map a.eval) ht (fun bb => bounds_run (lo := none) (isSlice := bb) (len := n) (cap := c) (l := 0) hR (Nat.le_trans h1 hnc) (Nat.zero_le _) h2 (.inl ⟨rfl, rfl⟩)) (by obtain ⟨i, hi, _⟩ := szOf_info hn; exact ⟨i, hi⟩)
        refine ⟨_, _, hq, Does.pure hR (u := .slice (some ⟨φ b, 0, none⟩) m c) (run_v _ _ _ ?_) ⟨hb, Nat.le_trans h1 hnc, rfl⟩⟩
        have hrun' : (Instr.sliceAt t (a.eval x) none (hi.map a.eval) none).run P w = .ok (.slice (if c = 0 then some ⟨φ b, 0, none⟩ else (some ⟨φ b, 0, none⟩ : Option Addr).map (·.add (0 * sz))) (m - 0) (c - 0)) w := by rw [hx]; exact hrun
        refine hrun'.trans ?_
        simp [add_at]
      · cases h
    · rename_i e ht e1
      have hx := hR.valR x; rw [e1] at hx
      have hx : a.eval x = .slice none 0 0 := hx
      split at h
      · rename_i n hn
        obtain ⟨i, m, hq, rfl, h1, h2⟩ := cutHigh_some (K := fun h _ => cutLow (lo.map (aval s)) h fun _ => K (.one (.val (.slice none 0 0))) s) h
        obtain ⟨q, hr, h3, h4⟩ := cutLow_some (K := fun _ => K (.one (.val (.slice none 0 0))) s) hq
        obtain rfl : m = 0 := by omega
        obtain rfl : q = 0 := by omega
        obtain ⟨sz, hsz, hrun⟩ := sliceAt_sl (A := none) (w := w) ht (fun b => bounds_run (isSlice := b) (len := 0) (cap := 0) hR (Nat.le_refl _) h3 h2 h4) (by obtain ⟨i, hi, _⟩ := szOf_info hn; exact ⟨i, hi⟩)
        exact ⟨_, _, hr, Does.pure hR (u := .slice none 0 0) (run_v _ _ _ (by rw [hx]; exact hrun)) rfl⟩
      · cases h
    · cases h
end
end Go.Proofs.YtohlhliifeeokaaGreat.Ab
