/- Abstract runs: rows that grow: a literal, and append. -/
import Derived.Test.YthgeadmcliiaoaaAbQ
import Derived.Deep.AppendLies
import Derived.Deep.Upon
import Derived.Room.Entries
namespace Go.Proofs.Ythgeadmcliiaoaa.Ab
open Go Go.RowKit
set_option linter.unusedVariables false
set_option linter.unusedSimpArgs false

def memAdd (S : Mem) (g : Nat) (xs : List Value) : Mem := fun p => if p.block = g then (match p.spot with | none => xs[p.off]? | some _ => none) else S p

section
variable {P : Program} {base : Nat} {w0 : World} {S0 : Mem} {φ : Nat → Nat} {ψ : Nat → Value} {S : Mem} {s : St} {a : Act} {w : World}
variable {α : Type} {K : AV → St → Option α} {r : α} {dst : Option Tmp} {ty : TypeId} {pos : String} {after : Array Edge} {guard : Option (Nat × Bool)}

theorem castL_reps {t u : Ty} (h : Ty.beq u t = true) {l : List u.den} {vs : List Value} (k : Reps S (.sl u) l vs) : Reps S (.sl t) (castL h l) vs := by
  obtain rfl := Ty.eq_of_beq h
  exact k
theorem castL_self {t : Ty} (h : Ty.beq t t = true) (l : List t.den) : castL h l = l := rfl
theorem unCV_rel {n : Nat} : ∀ {t : Ty} {l l' : List CV} {x : t.den} {vs : List Value}, unCV t l = some (x, l') → All2 (CRel φ ψ S n) l vs → ∃ us ws, vs = us ++ ws ∧ Reps S t x us ∧ All2 (CRel φ ψ S n) l' ws
  | .int k, l, l', x, vs, h, hl => by
    simp only [unCV] at h
    split at h
    · rename_i c l1
      split at h
      · rename_i y hy
        simp at h; obtain ⟨rfl, rfl⟩ := h
        obtain ⟨u, vs', rfl, h1, h2⟩ := All2.cons_inv hl
        refine ⟨[u], vs', rfl, ?_, h2⟩
        unfold unInt at hy
        split at hy
        · split at hy
          · rename_i hk
            obtain rfl := ty_int hk
            obtain rfl := Option.some.inj hy
            simp only [Reps]; rw [h1.1]
          · cases hy
        · cases hy
      · cases h
    · cases h
  | .bool, l, l', x, vs, h, hl => by
    simp only [unCV] at h
    split at h
    · rename_i c l1
      split at h
      · rename_i y hy
        simp at h; obtain ⟨rfl, rfl⟩ := h
        obtain ⟨u, vs', rfl, h1, h2⟩ := All2.cons_inv hl
        refine ⟨[u], vs', rfl, ?_, h2⟩
        unfold unBool at hy
        split at hy
        · obtain rfl := Option.some.inj hy
          simp only [Reps]; rw [h1.1]
        · cases hy
      · cases h
    · cases h
  | .str, l, l', x, vs, h, hl => by
    simp only [unCV] at h
    split at h
    · rename_i c l1
      split at h
      · rename_i y hy
        simp at h; obtain ⟨rfl, rfl⟩ := h
        obtain ⟨u, vs', rfl, h1, h2⟩ := All2.cons_inv hl
        refine ⟨[u], vs', rfl, ?_, h2⟩
        unfold unStr at hy
        split at hy
        · obtain rfl := Option.some.inj hy
          simp only [Reps]; rw [h1.1]
        · cases hy
      · cases h
    · cases h
  | .nil, l, l', x, vs, h, hl => by
    simp only [unCV] at h
    simp at h; obtain ⟨_, rfl⟩ := h
    exact ⟨[], vs, rfl, rfl, hl⟩
  | .cons a b, l, l', x, vs, h, hl => by
    simp only [unCV] at h
    split at h
    · rename_i x1 l1 h1
      split at h
      · rename_i y1 l2 h2
        simp at h; obtain ⟨rfl, rfl⟩ := h
        obtain ⟨us, ws, rfl, g1, g2⟩ := unCV_rel h1 hl
        obtain ⟨us2, ws2, rfl, g3, g4⟩ := unCV_rel h2 g2
        exact ⟨us ++ us2, ws2, by simp, ⟨us, us2, rfl, g1, g3⟩, g4⟩
      · cases h
    · cases h
  | .sl t, l, l', x, vs, h, hl => by
    simp only [unCV] at h
    split at h
    · rename_i c l1
      split at h
      · rename_i y hy
        simp at h; obtain ⟨rfl, rfl⟩ := h
        obtain ⟨u, vs', rfl, h1, h2⟩ := All2.cons_inv hl
        refine ⟨[u], vs', rfl, ?_, h2⟩
        unfold unSl at hy
        split at hy
        · split at hy
          · rename_i hk
            obtain rfl := Option.some.inj hy
            exact castL_reps hk h1
          · cases hy
        · obtain rfl := Option.some.inj hy
          obtain ⟨rfl, _⟩ := h1
          exact ⟨none, 0, rfl, Nat.le_refl _, fun i x hx => by simp [lst] at hx⟩
        · cases hy
      · cases h
    · cases h
theorem unRow_rel {n : Nat} {t : Ty} : ∀ {m : Nat} {c : List CV} {l : List t.den} {vs : List Value}, unRow t m c = some l → All2 (CRel φ ψ S n) c vs → l.length = m ∧ RowList S t l vs
  | 0, [], l, vs, h, hl => by
    simp [unRow] at h; subst h
    obtain rfl := All2.nil_inv hl
    exact ⟨rfl, RowList.nil S t⟩
  | 0, _ :: _, l, vs, h, hl => by simp [unRow] at h
  | m + 1, c, l, vs, h, hl => by
    unfold unRow at h
    split at h
    · rename_i x c' hx
      split at h
      · rename_i xs hxs
        simp at h; subst h
        obtain ⟨us, ws, rfl, h1, h2⟩ := unCV_rel hx hl
        obtain ⟨h3, h4⟩ := unRow_rel hxs h2
        exact ⟨by simp [h3], (RowList.one h1).append h4⟩
      · cases h
    · cases h
/-- A block is forgotten. -/
theorem Rl.dead (h : Rl base w0 S0 φ ψ S s a w) {b : Nat} {k : Blk} (hk : look s.st b = some k) : Rl base w0 S0 φ ψ S { s with st := (b, .dead) :: s.st } a w := by
  refine h.upd (Evo.refl _ _ _ _) rfl rfl (fun p v e e0 => by rw [e] at e0; cases e0) h.sw (Below.refl _ _) (fun b' k' e => ?_) (fun b1 k1 b2 k2 g e1 e2 n1 n2 f1 f2 => ?_)
  · by_cases hb : b = b'
    · subst hb
      rw [look_cons_eq] at e
      obtain rfl := Option.some.inj e
      exact .inr ⟨(h.st b k hk).1, trivial, fun g f => by cases f⟩
    · rw [look_cons_ne _ _ hb] at e
      exact .inl ⟨e, fun g _ => ⟨rfl, fun _ _ => rfl⟩⟩
  · have hb : ∀ b1 k, look ((b, Blk.dead) :: s.st) b1 = some k → look s.st b1 ≠ some k → b = b1 := by
      intro b1 k e n
      by_cases hb : b = b1
      · exact hb
      · rw [look_cons_ne _ _ hb] at e; exact absurd e n
    rw [← hb b1 k1 e1 n1, ← hb b2 k2 e2 n2]
/-- A new row. -/
theorem Rl.addRow (h : Rl base w0 S0 φ ψ S s a w) {g cap : Nat} {cur : Array Value} {e : TypeId} {t : Ty} {l : List t.den} {xs : List Value} {w' : World} (hw : Below base w w')
    (hoth : ∀ k, k < w.heap.size → k ≠ g → w'.heap[k]? = w.heap[k]?) (hg : base ≤ g) (hheap : w'.heap[g]? = some (.cells cur e (0, 0))) (hlen : l.length ≤ cap) (hcap : cap ≤ maxLen) (hsz : cur.size = cap * t.width)
    (htake : cur.toList.take (l.length * t.width) = xs) (hrow : RowList S t l xs) (hS : ∀ off sp v, S ⟨g, off, sp⟩ = some v → sp = none ∧ xs[off]? = some v) (hfree : ∀ b k, look s.st b = some k → k.at φ ψ b ≠ some g) :
    ∃ ψ' S', Rl base w0 S0 φ ψ' S' (rowBlk s e t l) a w' ∧ ARel φ ψ' S' (s.n + 1) (.one (.row s.n)) (.slice (some ⟨g, 0, none⟩) l.length cap) ∧ Evo φ ψ S s.n φ ψ' S' (s.n + 1) := by
  have hle : S.le (memAdd S g xs) := by
    intro p v e
    unfold memAdd
    split
    · rename_i hb
      obtain ⟨pb, po, ps⟩ := p
      simp only at hb; subst hb
      obtain ⟨rfl, h2⟩ := hS _ _ _ e
      exact h2
    · exact e
  have ev : Evo φ ψ S s.n φ (fun b => if b = s.n then .slice (some ⟨g, 0, none⟩) l.length cap else ψ b) (memAdd S g xs) (s.n + 1) :=
    ⟨Nat.le_succ _, fun _ _ => rfl, fun b hb => if_neg (by omega), hle⟩
  refine ⟨_, _, ?_, ?_, ev⟩
  · refine h.upd ev rfl rfl (fun p v e e0 => ?_) (fun p v hp => ?_) hw (fun b k' e' => ?_) (fun b k1 b2 k2 g' e1 e2 n1 n2 f1 f2 => ?_)
    · unfold memAdd at e
      split at e
      · rename_i hb; rw [hb]; exact hg
      · rw [e] at e0; cases e0
    · unfold memAdd at hp
      split at hp
      · rename_i hb
        obtain ⟨pb, po, ps⟩ := p
        simp only at hb; subst hb
        cases ps with
        | some z => cases hp
        | none =>
          simp only at hp
          rw [← htake, List.getElem?_take] at hp
          split at hp
          · simpa [World.cell?, hheap] using hp
          · cases hp
      · rename_i hb
        have h1 := h.sw p v hp
        rw [World.cell?_of_block (w := w) (hoth _ (World.block_lt_of_cell? w _ h1) hb)]; exact h1
    · by_cases hb : s.n = b
      · subst hb
        have e' : look ((s.n, Blk.row e t l) :: s.st) s.n = some k' := e'
        rw [look_cons_eq] at e'
        obtain rfl := Option.some.inj e'
        refine .inr ⟨Nat.lt_succ_self _, ⟨by simp [Value.oneCell'], .inr ⟨g, cap, cur, xs, by simp, hg, hheap, hlen, hcap, hsz, htake, hrow.mono hle, fun off sp => ?_⟩⟩, fun g' f b2 k2 e2 e3 hne f2 => ?_⟩
        · unfold memAdd; simp only [if_true]; cases sp <;> rfl
        · simp [Blk.at, Value.ownBlock] at f
          subst f
          exact hfree b2 k2 e3 f2
      · have e' : look ((s.n, Blk.row e t l) :: s.st) b = some k' := e'
        rw [look_cons_ne _ _ hb] at e'
        refine .inl ⟨e', fun g' f => ?_⟩
        have hne : g' ≠ g := fun q => hfree b k' e' (q ▸ f)
        refine ⟨hoth g' ((h.st b k' e').2.lt f).1 hne, fun off sp => ?_⟩
        unfold memAdd; rw [if_neg hne]
    · have hb : ∀ b k, look ((s.n, Blk.row e t l) :: s.st) b = some k → look s.st b ≠ some k → s.n = b := by
        intro b k e n
        by_cases hb : s.n = b
        · exact hb
        · rw [look_cons_ne _ _ hb] at e; exact absurd e n
      rw [← hb b k1 e1 n1, ← hb b2 k2 e2 n2]
  · exact ⟨Nat.lt_succ_self _, by simp, rfl⟩
theorem mem_fresh (hR : Rl base w0 S0 φ ψ S s a w) (xs : List Value) : ∀ off sp v, S ⟨w.heap.size, off, sp⟩ = some v → sp = none ∧ xs[off]? = some v := by
  intro off sp v e; rw [fresh_mem hR] at e; cases e
theorem free_fresh (hR : Rl base w0 S0 φ ψ S s a w) : ∀ b k, look s.st b = some k → k.at φ ψ b ≠ some w.heap.size := by
  intro b k e f
  have := ((hR.st b k e).2.lt f).1
  omega
theorem any_zero {n : Nat} : ∀ {vs : List Value}, (∀ v ∈ vs, v.oneCell' = true) → All2 (CRel φ ψ S n) (List.replicate vs.length .any) vs
  | [], _ => trivial
  | v :: vs, h => ⟨h v (by simp), any_zero (fun u hu => h u (by simp [hu]))⟩
theorem partsR_rel (hR : Rl base w0 S0 φ ψ S s a w) : ∀ (l : List (Nat × Operand)), All2 (fun p q => p.1 = q.1 ∧ ARel φ ψ S s.n p.2 q.2) (l.map fun p => (p.1, avalR s p.2)) (l.map fun p => (p.1, a.eval p.2))
  | [] => trivial
  | p :: l => ⟨⟨rfl, hR.valR p.2⟩, partsR_rel hR l⟩
theorem buildSlice_sound {t : TypeId} {len : Nat} {parts : Array (Nat × Operand)} (hR : Rl base w0 S0 φ ψ S s a w) (h : evBuildSlice P t len parts s K = some r) : Sound P base w0 S0 φ ψ S s a w K r ⟨dst, .buildSlice t len parts, ty, pos, after, guard⟩ := by
  unfold evBuildSlice at h
  split at h
  · rename_i e ht
    split at h
    · rename_i n z tt hn hz htt
      split at h
      · rename_i hb
        simp only [Bool.and_eq_true] at hb
        obtain ⟨⟨⟨h1, h2⟩, h3⟩, h4⟩ := hb
        have h1 := Nat.eq_of_beq_eq_true h1
        have h2 := Nat.eq_of_beq_eq_true h2
        have h3 := Nat.le_of_ble_eq_true h3
        split at h
        · rename_i c hc
          split at h
          · rename_i l hl
            obtain ⟨zs, hzs⟩ : ∃ zs : List Value, ((Array.range (len * (n + 1))).map (z.cells[· % z.cells.size]!)) = zs.toArray := ⟨_, Array.toArray_toList.symm⟩
            have hzl : zs.length = len * (n + 1) := by have := congrArg Array.size hzs; simpa using this.symm
            have hzo : ∀ v ∈ zs, v.oneCell' = true := by
              intro v hv
              have hv : v ∈ ((Array.range (len * (n + 1))).map (z.cells[· % z.cells.size]!)) := by rw [hzs]; simpa using hv
              obtain ⟨j, hj, rfl⟩ := Array.mem_map.1 hv
              have hlt : j % z.cells.size < z.cells.size := Nat.mod_lt _ (by omega)
              rw [getElem!_pos z.cells _ hlt]
              exact List.all_eq_true.1 h4 _ (by simp)
            have hza := any_zero (φ := φ) (ψ := ψ) (S := S) (n := s.n) hzo
            rw [hzl] at hza
            obtain ⟨vs, g1, g2⟩ := fill_rel hc (partsR_rel hR parts.toList) hza
            obtain ⟨g3, g4⟩ := unRow_rel hl g2
            have hvl : vs.length = len * (n + 1) := by rw [g4.1, g3, h1]
            have hnew : (w.alloc (.cells vs.toArray e)).heap[w.heap.size]? = some (.cells vs.toArray e (0, 0)) := by
              show (w.heap.push _)[w.heap.size]? = _; simp
            obtain ⟨ψ', S', k1, k2, k3⟩ := hR.addRow (g := w.heap.size) (cap := l.length) (cur := vs.toArray) (e := e) (t := tt) (l := l) (xs := vs) (w' := w.alloc (.cells vs.toArray e)) ((Below.refl base w).alloc hR.bsz _)
              (fun k hk _ => Below.heap_alloc w _ _ hk) hR.bsz hnew (Nat.le_refl _) (by rw [g3]; unfold maxLen; have := Nat.le_mul_of_pos_right len (show 0 < n + 1 by omega); omega) (by simp [g4.1])
              (by simp; rw [← g4.1]; exact List.take_length) g4 (mem_fresh hR _) (free_fresh hR)
            refine ⟨_, _, h, φ, ψ', S', _, _, .inl (run_v _ _ _ ?_), k1, k2, k3, rfl, ⟨[_], rfl⟩, rfl⟩
            have hle : ¬ (len * (n + 1) > 2 ^ 24) := by omega
            have g1' : Instr.fill (fun i => some (i * (n + 1), n + 1)) zs.toArray (List.map (fun x => (x.1, a.eval x.2)) parts.toList) = some vs.toArray := g1
            unfold Instr.buildSlice
            rw [Sem.run_bind, run_underlying ht]; simp only [Result.andThen_ok]
            rw [Sem.run_bind, szOf_run hn]; simp only [Result.andThen_ok]
            rw [if_neg hle]
            by_cases h0 : len * n.succ = 0
            · rw [if_pos h0]
              have hq : ((Array.range (len * n.succ)).map fun x => (#[] : Array Value)[x % (#[] : Array Value).size]!) = zs.toArray := by
                rw [← hzs, show len * n.succ = 0 from h0]; simp
              simp only [Sem.run_bind, Sem.run_pure, Result.andThen_ok, hq, Array.toList_map, g1', g3]
              rfl
            · rw [if_neg h0]
              have hq : ((Array.range (len * n.succ)).map fun x => z.cells[x % z.cells.size]!) = zs.toArray := hzs
              simp only [Sem.run_bind, zeroOf_run hz, Sem.run_pure, Result.andThen_ok, hq, Array.toList_map, g1', g3]
              rfl
          · cases h
        · cases h
      · cases h
    · rename_i z hn hz htt
      split at h
      · rename_i hb
        simp only [Bool.and_eq_true] at hb
        obtain ⟨⟨h2, h3⟩, h4⟩ := hb
        have h2 := Nat.eq_of_beq_eq_true h2
        have h3 := Nat.le_of_ble_eq_true h3
        split at h
        · rename_i c hc
          obtain ⟨zs, hzs⟩ : ∃ zs : List Value, ((Array.range len).map (z.cells[· % z.cells.size]!)) = zs.toArray := ⟨_, Array.toArray_toList.symm⟩
          have hzl : zs.length = len := by have := congrArg Array.size hzs; simpa using this.symm
          have hzo : ∀ v ∈ zs, v.oneCell' = true := by
            intro v hv
            have hv : v ∈ ((Array.range len).map (z.cells[· % z.cells.size]!)) := by rw [hzs]; simpa using hv
            obtain ⟨j, hj, rfl⟩ := Array.mem_map.1 hv
            have hlt : j % z.cells.size < z.cells.size := Nat.mod_lt _ (by omega)
            rw [getElem!_pos z.cells _ hlt]
            exact List.all_eq_true.1 h4 _ (by simp)
          have hza := any_zero (φ := φ) (ψ := ψ) (S := S) (n := s.n) hzo
          rw [hzl] at hza
          obtain ⟨vs, g1, g2⟩ := fill_rel hc (partsR_rel hR parts.toList) hza
          obtain ⟨φ', k1, k2, k3⟩ := hR.new g2 e
          refine ⟨_, _, h, φ', ψ, S, _, _, .inl (run_v _ _ _ ?_), k1, ⟨Nat.lt_succ_self _, Nat.le_refl _, rfl⟩, k3, rfl, ⟨[_], rfl⟩, rfl⟩
          rw [k2]
          have hle : ¬ (len * 1 > 2 ^ 24) := by omega
          have g1' : Instr.fill (fun i => some (i * 1, 1)) zs.toArray (List.map (fun x => (x.1, a.eval x.2)) parts.toList) = some vs.toArray := by
            simp only [Nat.mul_one]; exact g1
          unfold Instr.buildSlice
          rw [Sem.run_bind, run_underlying ht]; simp only [Result.andThen_ok]
          rw [Sem.run_bind, szOf_run hn]; simp only [Result.andThen_ok]
          rw [if_neg hle]
          by_cases h0 : len * 1 = 0
          · rw [if_pos h0]
            have hq : ((Array.range (len * 1)).map fun x => (#[] : Array Value)[x % (#[] : Array Value).size]!) = zs.toArray := by
              rw [← hzs, show len = 0 by omega]; simp
            simp only [Sem.run_bind, Sem.run_pure, Result.andThen_ok, hq, Array.toList_map, g1']
            rfl
          · rw [if_neg h0]
            have hq : ((Array.range (len * 1)).map fun x => z.cells[x % z.cells.size]!) = zs.toArray := by rw [Nat.mul_one]; exact hzs
            simp only [Sem.run_bind, zeroOf_run hz, Sem.run_pure, Result.andThen_ok, hq, Array.toList_map, g1']
            rfl
        · cases h
      · cases h
    · cases h
  · cases h
theorem sl_inv {t : Ty} {l : List t.den} {v : Value} (h : Reps S (.sl t) l [v]) (hw : ∀ p v, S p = some v → w.cell? p = some v) : ∃ A c news, v = .slice A l.length c ∧ RowList S t l news ∧ (l ≠ [] → ∃ ad, A = some ad ∧ ∀ j u, news[j]? = some u → w.cell? (ad.add j) = some u) := by
  obtain ⟨A, c, e, hc, hel⟩ := h
  simp at e
  cases l with
  | nil => exact ⟨A, c, [], by rw [e], RowList.nil S t, fun h => absurd rfl h⟩
  | cons x l =>
    obtain ⟨ad, us, rfl, _, _⟩ := hel 0 x rfl
    obtain ⟨xs, h1, h2⟩ := reps_row (S := S) (t := t) (ad := ad) (x :: l) 0 (fun i y hy => by
      obtain ⟨ad', us, e', k1, k2⟩ := hel i y hy
      cases e'
      exact ⟨us, k1, fun j u hj => by have := k2 j u hj; simpa using this⟩)
    exact ⟨some ad, c, xs, by rw [e], h1, fun _ => ⟨ad, rfl, fun j u hj => hw _ _ (by have := h2 j u hj; simpa using this)⟩⟩
theorem src_of {t e : TypeId} {n : Nat} {sz : Nat} {v : Value} {l : Nat} {A : Option Addr} {c : Nat} {news : List Value} (ht : P.underlying t = some (.slice e)) (hv : v = .slice A l c) (hlen : news.length = l * sz) (h1 : ∀ u ∈ news, u.oneCell' = true)
    (hA : 0 < l → ∃ ad, A = some ad ∧ ∀ j u, news[j]? = some u → w.cell? (ad.add j) = some u) : Src P sz t v l news w := by
  subst hv
  have key : ∀ w' : World, (∀ p, w'.cell? p = w.cell? p) → (Builtin.firstCells sz l (.slice A l c)).run P w' = .ok news.toArray w' := by
    intro w' hw
    by_cases hl : l = 0
    · subst hl
      have : news = [] := List.length_eq_zero_iff.1 (by rw [hlen]; simp)
      subst this
      cases A <;> simp [Builtin.firstCells, loadCells, loadCellsFrom]
    · obtain ⟨ad, rfl, hc⟩ := hA (by omega)
      have := run_loadCells_list (P := P) (w := w') ad news (fun j u hj => by rw [hw]; exact hc j u hj)
      rw [hlen] at this
      simpa [Builtin.firstCells] using this
  exact ⟨.inl ⟨e, ht⟩, fun w' => rfl, key w (fun _ => rfl), key w.drew (fun _ => rfl), hlen, h1⟩
theorem append_room {t rt e : TypeId} {i : TypeInfo} (ht : P.underlying t = some (.slice e)) (hi : P.info? e = some i) {g n cap m : Nat} {cur : Array Value} {y : Value} {news : List Value} (hs : Src P i.size t y m news w)
    (hg : w.heap[g]? = some (.cells cur e (0, 0))) (hroom : n + m ≤ cap) (hsz : cur.size = cap * i.size) :
    (Builtin.append_ #[t, t] rt #[.slice (some ⟨g, 0, none⟩) n cap, y]).run P w = .ok (.slice (some ⟨g, 0, none⟩) (n + m) cap) (w.setRow g (cur.toList.take (n * i.size) ++ news ++ cur.toList.drop (n * i.size + news.length)).toArray) := by
  have hle : n * i.size + news.length ≤ cur.size := by rw [hs.newsLen, hsz, ← Nat.add_mul]; exact Nat.mul_le_mul_right _ hroom
  have hst := run_storeCells_at (P := P) g (n * i.size) e news 0 cur w hg (by omega) hs.one
  simp only [Nat.add_zero] at hst
  simp [Builtin.append_, run_underlying ht, sizeOf, typeInfo, hi, hs.len, hroom, hs.cells, add_at, hst]
theorem append_sound {t : TypeId} {x y : Operand} {rt : TypeId} (hR : Rl base w0 S0 φ ψ S s a w) (h : evAppend P t x y s K = some r) :
    ∃ v s' φ' ψ' S' u w', K v s' = some r ∧ (Builtin.append_ #[t, t] rt #[a.eval x, a.eval y]).run P w = .ok u w' ∧ Rl base w0 S0 φ' ψ' S' s' a w' ∧ ARel φ' ψ' S' s'.n v u ∧ Evo φ ψ S s.n φ' ψ' S' s'.n ∧ s'.tm = s.tm ∧ (∃ pre, s'.st = pre ++ s.st) ∧ s'.nt = s.nt := by
  unfold evAppend at h
  split at h
  · rename_i e ht
    split at h
    · rename_i i hi
      split at h
      · rename_i z hz
        have stay : ∀ (A : Option Addr) (c : Nat), a.eval y = .slice A 0 c → ∀ (B : Option Addr) (n cap : Nat), n ≤ cap → a.eval x = .slice B n cap → (Builtin.append_ #[t, t] rt #[a.eval x, a.eval y]).run P w = .ok (a.eval x) w := by
          intro A c hy B n cap hn hx
          rw [hx]
          exact run_append_nothing w t t rt e i ht hi B n cap hn _ (src_of (news := []) (A := A) (c := c) (n := 0) ht hy (by simp) (by simp) (fun h => absurd h (by omega)))
        split at h
        · rename_i tt ys hy
          split at h
          · rename_i hb
            simp only [Bool.and_eq_true] at hb
            obtain ⟨⟨⟨b1, b2⟩, b3⟩, b4⟩ := hb
            have b1 := Nat.eq_of_beq_eq_true b1
            have b2 := Nat.eq_of_beq_eq_true b2
            have b3 : 0 < i.size := Nat.le_of_ble_eq_true b3
            have b4 : 0 < i.bytes := Nat.le_of_ble_eq_true b4
            have hyr := hR.valR y; rw [hy] at hyr
            obtain ⟨A, c, news, hyv, hnews, hnA⟩ := sl_inv hyr hR.sw
            have hsrc : Src P i.size t (a.eval y) ys.length news w := src_of (n := 0) ht hyv (by rw [hnews.1, b1]) hnews.oneCell (fun hp => hnA (fun q => by rw [q] at hp; simp at hp))
            -- a new row, its elements out of an old one and the others
            have grow : ∀ (B : Option Addr) (n cap : Nat) (xs : List Value) (l : List tt.den), a.eval x = .slice B n cap → n = l.length → n ≤ cap → RowList S tt l xs → (∀ w' : World, (∀ p, w'.cell? p = w.cell? p) → (Builtin.firstCells i.size n (.slice B n cap)).run P w' = .ok xs.toArray w') →
                cap < n + ys.length → (n + ys.length) * i.bytes ≤ 140737488355328 → ∀ s1 : St, Rl base w0 S0 φ ψ S s1 a w → s1.n = s.n →
                ∃ ψ' S' u w', (Builtin.append_ #[t, t] rt #[a.eval x, a.eval y]).run P w = .ok u w' ∧ Rl base w0 S0 φ ψ' S' (rowBlk s1 e tt (l ++ ys)) a w' ∧ ARel φ ψ' S' (s1.n + 1) (.one (.row s1.n)) u ∧ Evo φ ψ S s1.n φ ψ' S' (s1.n + 1) := by
              intro B n cap xs l hx hn hnc hl hfirst hgt hbd s1 hR1 hsn
              have hmul := Nat.le_mul_of_pos_right (n + ys.length) b4
              have hmax : n + ys.length ≤ maxLen := by unfold maxLen; omega
              have hns := Go.Room.nextslicecap_le' hgt
              have hns2 := Nat.mul_le_mul_right i.bytes hns
              have hrun := run_append_grow_src (P := P) (w := w) t t rt e i z ht hi hz B n cap xs (hfirst w.drew (fun _ => rfl)) (a.eval y) ys.length news hsrc hgt (by omega) (by rw [Nat.mul_assoc] at hns2; omega)
              have hge := grownCap_ge w (n + ys.length) cap e
              have hmx := grownCap_le_maxLen w (n + ys.length) cap e hmax
              have hll : (l ++ ys).length = n + ys.length := by rw [List.length_append, hn]
              have hxl : (xs ++ news).length = (n + ys.length) * i.size := by rw [List.length_append, hl.1, hnews.1, ← hn, b1, Nat.add_mul]
              have hnew : (w.drew.alloc (.cells ((xs ++ news).toArray ++ Builtin.zeroCells z.cells (grownCap w (n + ys.length) cap e - (n + ys.length))) e)).heap[w.heap.size]? = some (.cells ((xs ++ news).toArray ++ Builtin.zeroCells z.cells (grownCap w (n + ys.length) cap e - (n + ys.length))) e (0, 0)) := by
                show (w.heap.push _)[w.heap.size]? = _; simp
              obtain ⟨ψ', S', m1, m2, m3⟩ := hR1.addRow (g := w.heap.size) (cap := grownCap w (n + ys.length) cap e) (e := e) (t := tt) (l := l ++ ys) (xs := xs ++ news) ((Below.refl base w).drew.alloc (w := w.drew) hR.bsz _)
                (fun k hk _ => Below.heap_alloc w.drew _ _ hk) hR.bsz hnew (by rw [hll]; exact hge) hmx (by
                  simp only [Array.size_append, List.size_toArray, size_zeroCells, hxl, b1, b2, ← Nat.add_mul]
                  congr 1; omega) (by
                  rw [hll, b1, ← hxl, Array.toList_append]
                  exact List.take_left) (hl.append hnews) (mem_fresh hR _) (free_fresh hR1)
              rw [hll] at m2
              exact ⟨ψ', S', _, _, by rw [hx]; exact hrun, m1, m2, m3⟩
            split at h
            · rename_i hx
              have hxv := hR.valEq hx
              rcases cond_some h with ⟨h0, h⟩ | ⟨h0, h⟩
              · have h0 := Nat.eq_of_beq_eq_true h0
                have hl0 : (lst ys).length = 0 := h0
                rw [hl0] at hyv
                exact ⟨_, _, φ, ψ, S, _, w, h, stay _ _ hyv none 0 0 (Nat.le_refl _) hxv, hR, hxv, Evo.refl _ _ _ _, rfl, ⟨[], rfl⟩, rfl⟩
              · have h0 : ys.length ≠ 0 := fun q => by rw [q] at h0; cases h0
                rcases cond_some h with ⟨h1, h⟩ | ⟨_, h⟩
                · have h1 := of_decide_eq_true h1
                  obtain ⟨ψ', S', u, w', k1, k2, k3, k4⟩ := grow none 0 0 [] [] hxv rfl (Nat.le_refl _) (RowList.nil S tt) (fun w' _ => rfl) (by omega) (by rw [Nat.zero_add]; exact h1) s hR rfl
                  exact ⟨_, _, φ, ψ', S', u, w', h, k1, k2, k3, k4, rfl, ⟨[_], rfl⟩, rfl⟩
                · cases h
            · rename_i b hx
              have hxr := hR.val x; rw [hx] at hxr
              obtain ⟨hbn, hxv, hone⟩ := hxr
              split at h
              · rename_i e' tt' l hk
                split at h
                · rename_i hee
                  obtain rfl := Nat.eq_of_beq_eq_true hee
                  split at h
                  · rename_i htt
                    obtain rfl := Ty.eq_of_beq htt
                    rw [castL_self] at h
                    rcases hR.st b _ hk with ⟨_, hone', ⟨q1, rfl⟩ | ⟨g, cap, cur, xs, q1, q2, q3, q4, q5, q6, q7, q8, q9⟩⟩
                    · rw [q1] at hxv
                      rcases cond_some h with ⟨h0, h⟩ | ⟨h0, h⟩
                      · have h0 := Nat.eq_of_beq_eq_true h0
                        have hl0 : (lst ys).length = 0 := h0
                        rw [hl0] at hyv
                        exact ⟨_, _, φ, ψ, S, _, w, h, stay _ _ hyv none 0 0 (Nat.le_refl _) hxv, hR, ⟨hbn, hxv.trans q1.symm, by rw [hxv]; rfl⟩, Evo.refl _ _ _ _, rfl, ⟨[], rfl⟩, rfl⟩
                      · have h0 : ys.length ≠ 0 := fun q => by rw [q] at h0; cases h0
                        rcases cond_some h with ⟨h1, h⟩ | ⟨_, h⟩
                        · have h1 := of_decide_eq_true h1
                          obtain ⟨ψ', S', u, w', k1, k2, k3, k4⟩ := grow none 0 0 [] [] hxv rfl (Nat.le_refl _) (RowList.nil S tt) (fun w' _ => rfl) (by omega) (by simpa using h1) { s with st := (b, .dead) :: s.st } (hR.dead hk) rfl
                          exact ⟨_, _, φ, ψ', S', u, w', h, k1, k2, k3, k4, rfl, ⟨[_, _], rfl⟩, rfl⟩
                        · cases h
                    rw [q1] at hxv
                    rcases cond_some h with ⟨h0, h⟩ | ⟨h0, h⟩
                    · have h0 := Nat.eq_of_beq_eq_true h0
                      have hl0 : (lst ys).length = 0 := h0
                      rw [hl0] at hyv
                      exact ⟨_, _, φ, ψ, S, _, w, h, stay _ _ hyv _ _ _ q4 hxv, hR, ⟨hbn, hxv.trans q1.symm, by rw [hxv]; rfl⟩, Evo.refl _ _ _ _, rfl, ⟨[], rfl⟩, rfl⟩
                    · have h0 : ys.length ≠ 0 := fun q => by rw [q] at h0; cases h0
                      rcases cond_some h with ⟨h1, h⟩ | ⟨_, h⟩
                      · have h1 := of_decide_eq_true h1
                        have hRd := hR.dead hk
                        have hdead : ∀ b2 k2, look ((b, Blk.dead) :: s.st) b2 = some k2 → k2.at φ ψ b2 ≠ some g := by
                          intro b2 k2 hk2 f
                          by_cases hb2 : b = b2
                          · subst hb2; rw [look_cons_eq] at hk2; cases hk2; cases f
                          · rw [look_cons_ne _ _ hb2] at hk2
                            exact hb2 (hR.apart b b2 _ _ g hk hk2 (by simp [Blk.at, q1, Value.ownBlock]) f)
                        have hxl : xs.length = l.length * i.size := by rw [q8.1, b1]
                        by_cases hroom : l.length + ys.length ≤ cap
                        · have hrun := append_room (rt := rt) (n := l.length) ht hi hsrc q3 hroom (by rw [q6, b1])
                          rw [← b1, q7] at hrun
                          have hllen : (l ++ ys).length = l.length + ys.length := List.length_append
                          have hcl : l.length * tt.width + news.length ≤ cur.size := by rw [hnews.1, q6, ← Nat.add_mul]; exact Nat.mul_le_mul_right _ hroom
                          have hoth : ∀ (nv : Array Value) k, k ≠ g → (w.setRow g nv).heap[k]? = w.heap[k]? := by
                            intro nv k hk
                            simp only [World.setRow, Array.getElem?_modify]
                            rw [if_neg (fun e => hk e.symm)]
                          have hrow : ∀ nv : Array Value, (w.setRow g nv).heap[g]? = some (.cells nv e (0, 0)) := by
                            intro nv
                            simp only [World.setRow]
                            rw [Array.getElem?_modify, if_pos rfl, q3]; rfl
                          have hszw : ∀ nv : Array Value, (w.setRow g nv).heap.size = w.heap.size := by intro nv; simp [World.setRow]
                          obtain ⟨ψ', S', m1, m2, m3⟩ := hRd.addRow (g := g) (cap := cap) (e := e) (t := tt) (l := l ++ ys) (xs := xs ++ news) (w' := w.setRow g (xs ++ news ++ cur.toList.drop (l.length * tt.width + news.length)).toArray)
                            ⟨rfl, rfl, rfl, by rw [hszw]; exact Nat.le_refl _, fun k hk => hoth _ k (by omega)⟩ (fun k _ hk => hoth _ k hk) q2 (hrow _) (by rw [hllen]; exact hroom) q5 (by
                              have : xs.length = l.length * tt.width := q8.1
                              simp only [List.size_toArray, List.length_append, List.length_drop, Array.length_toList, this]
                              omega) (by
                              rw [hllen, Nat.add_mul, ← q8.1, ← hnews.1, ← List.length_append]
                              exact List.take_left) (q8.append hnews) (fun off sp u hu => by
                              rw [q9] at hu
                              cases sp with
                              | some _ => cases hu
                              | none => exact ⟨rfl, by rw [List.getElem?_append_left (List.getElem?_eq_some_iff.1 hu).1]; exact hu⟩) hdead
                          rw [hllen] at m2
                          exact ⟨_, _, φ, ψ', S', _, _, h, by rw [hxv]; exact hrun, m1, m2, m3, rfl, ⟨[_, _], rfl⟩, rfl⟩
                        · obtain ⟨ψ', S', u, w', k1, k2, k3, k4⟩ := grow (some ⟨g, 0, none⟩) l.length cap xs l hxv rfl q4 q8 (fun w' hw => by
                            have := run_loadCells_list (P := P) (w := w') ⟨g, 0, none⟩ xs (fun j u hj => by
                              rw [hw, add_at, Nat.zero_add]
                              have := hR.sw ⟨g, j, none⟩ u (by rw [q9]; exact hj)
                              exact this)
                            rw [hxl] at this
                            simpa [Builtin.firstCells] using this) (by omega) h1 { s with st := (b, .dead) :: s.st } hRd rfl
                          exact ⟨_, _, φ, ψ', S', u, w', h, k1, k2, k3, k4, rfl, ⟨[_, _], rfl⟩, rfl⟩
                      · cases h
                  · cases h
                · cases h
              · cases h
            · cases h
          · cases h
        · cases h
      · cases h
    · cases h
  · cases h
theorem evOp_sound {o : Oper} (hR : Rl base w0 S0 φ ψ S s a w) (h : evOp P o.op s K = some r) : Sound P base w0 S0 φ ψ S s a w K r o := by
  obtain ⟨dst, op, ty, pos, after, guard⟩ := o
  simp only at h
  cases op <;> simp only [evOp] at h
  case move x => exact ⟨_, _, h, Does.pure hR (u := a.eval x) rfl (hR.val x)⟩
  case assign x => exact ⟨_, _, h, Does.pure hR (u := a.eval x) rfl (hR.val x)⟩
  case pick => exact pick_sound hR h
  case box => exact box_sound hR h
  case alloc => exact alloc_sound hR h
  case build => exact build_sound hR h
  case load => exact load_sound hR h
  case store => exact store_sound hR h
  case nilCheck => exact nil_sound hR h
  case binOp => exact bin_sound hR h
  case unOp => exact un_sound hR h
  case convert => exact conv_sound hR h
  case makeFunc => exact fn_sound hR h
  case slice => exact slice_sound hR h
  case fieldAddr => exact fieldAddr_sound hR h
  case field => exact field_sound hR h
  case indexAddr => exact indexAddr_sound hR h
  case index => exact index_sound hR h
  case extract => exact extract_sound hR h
  case buildSlice => exact buildSlice_sound hR h
  all_goals cases h
end
end Go.Proofs.Ythgeadmcliiaoaa.Ab
