/- Abstract runs: rows that grow: a literal, and append. -/
import Derived.Test.YtohlhliifeeokaaGreatAbQ
import Derived.Deep.AppendLies
import Derived.Deep.Upon
import Derived.Room.Entries
namespace Go.Proofs.YtohlhliifeeokaaGreat.Ab
open Go Go.RowKit
set_option linter.unusedVariables false
set_option linter.unusedSimpArgs false
def memAdd (S : Mem) (g : Nat) (xs : List Value) : Mem := fun p => if p.block = g then (match p.spot with | none => xs[p.off]? | some _ => none) else S p
section
variable {P : Program} {base : Nat} {w0 : World} {S0 : Mem} {φ : Nat → Nat} {ψ : Nat → Value} {S : Mem} {s : St} {a : Act} {w : World}
variable {α : Type} {K : AV → St → Option α} {r : α} {dst : Option Tmp} {ty : TypeId} {pos : String} {after : Array Edge} {guard : Option (Nat × Bool)}
theorem Rl.dead (h : Rl base w0 S0 φ ψ S s a w) {b : Nat} {k : Blk} (hk : look s.st b = some k) : Rl base w0 S0 φ ψ S { s with st := (b, .dead) :: s.st } a w := by
  refine h.upd (Evo.refl _ _ _ _) rfl rfl (fun p v e e0 => by rw [e] at e0; cases e0) h.sw (Below.refl _ _) (fun b' k' e => ?_) (fun b1 k1 b2 k2 g e1 e2 n1 n2 f1 f2 => ?_)
  · by_cases hb : b = b'
    · subst hb
      rw [look_cons_eq] at e
      obtain rfl := Option.some.inj e
      exact .inr ⟨(h.st b k hk).1, trivial, fun g f => by cases f⟩
    · rw [look_cons_ne _ _ hb] at e
      exact .inl ⟨e, fun g _ => ⟨rfl, fun _ _ => rfl⟩⟩
  · have hb : ∀ b1 k, look ((b, Blk.dead) :: s.st) b1 = some k → look s.st b1 ≠ some k → b = b1 := by
      intro b1 k e n
      by_cases hb : b = b1
      · exact hb
      · rw [look_cons_ne _ _ hb] at e; exact absurd e n
    rw [← hb b1 k1 e1 n1, ← hb b2 k2 e2 n2]
theorem Rl.addRow (h : Rl base w0 S0 φ ψ S s a w) {g cap : Nat} {cur : Array Value} {e : TypeId} {t : Ty} {l : List t.den} {xs : List Value} {w' : World} (hw : Below base w w')
    (hoth : ∀ k, k < w.heap.size → k ≠ g → w'.heap[k]? = w.heap[k]?) (hg : base ≤ g) (hheap : w'.heap[g]? = some (.cells cur e (0, 0))) (hlen : l.length ≤ cap) (hcap : cap ≤ maxLen) (hsz : cur.size = cap * t.width)
    (htake : cur.toList.take (l.length * t.width) = xs) (hrow : RowList S t l xs) (hS : ∀ off sp v, S ⟨g, off, sp⟩ = some v → sp = none ∧ xs[off]? = some v) (hfree : ∀ b k, look s.st b = some k → k.at φ ψ b ≠ some g) :
    ∃ ψ' S', Rl base w0 S0 φ ψ' S' (rowBlk s e t l) a w' ∧ ARel φ ψ' S' (s.n + 1) (.one (.row s.n)) (.slice (some ⟨g, 0, none⟩) l.length cap) ∧ Evo φ ψ S s.n φ ψ' S' (s.n + 1) := by
  have hle : S.le (memAdd S g xs) := by
    intro p v e
    unfold memAdd
    split
    · rename_i hb
      obtain ⟨pb, po, ps⟩ := p
      simp only at hb; subst hb
      obtain ⟨rfl, h2⟩ := hS _ _ _ e
      exact h2
    · exact e
  have ev : Evo φ ψ S s.n φ (fun b => if b = s.n then .slice (some ⟨g, 0, none⟩) l.length cap else ψ b) (memAdd S g xs) (s.n + 1) :=
    ⟨Nat.le_succ _, fun _ _ => rfl, fun b hb => if_neg (by omega), hle⟩
  refine ⟨_, _, ?_, ?_, ev⟩
  · refine h.upd ev rfl rfl (fun p v e e0 => ?_) (fun p v hp => ?_) hw (fun b k' e' => ?_) (fun b k1 b2 k2 g' e1 e2 n1 n2 f1 f2 => ?_) (fun g' _ ⟨cur', e', q⟩ => by
      by_cases hgg : g' = g
      · subst hgg; exact ⟨_, _, hheap⟩
      · exact ⟨cur', e', (hoth g' (Array.getElem?_eq_some_iff.1 q).1 hgg).trans q⟩)
    · unfold memAdd at e
      split at e
      · rename_i hb; rw [hb]; exact ⟨hg, _, _, hheap⟩
      · rw [e] at e0; cases e0
    · unfold memAdd at hp
      split at hp
      · rename_i hb
        obtain ⟨pb, po, ps⟩ := p
        simp only at hb; subst hb
        cases ps with
        | some z => cases hp
        | none =>
          simp only at hp
          rw [← htake, List.getElem?_take] at hp
          split at hp
          · simpa [World.cell?, hheap] using hp
          · cases hp
      · rename_i hb
        have h1 := h.sw p v hp
        rw [World.cell?_of_block (w := w) (hoth _ (World.block_lt_of_cell? w _ h1) hb)]; exact h1
    · by_cases hb : s.n = b
      · subst hb
        have e' : look ((s.n, Blk.row e t l) :: s.st) s.n = some k' := e'
        rw [look_cons_eq] at e'
        obtain rfl := Option.some.inj e'
        refine .inr ⟨Nat.lt_succ_self _, ⟨by simp [Value.oneCell'], .inr ⟨g, cap, cur, xs, by simp, hg, hheap, hlen, hcap, hsz, htake, hrow.mono hle, fun off sp => ?_⟩⟩, fun g' f b2 k2 e2 e3 hne f2 => ?_⟩
        · unfold memAdd; simp only [if_true]; cases sp <;> rfl
        · simp [Blk.at, Value.ownBlock] at f
          subst f
          exact hfree b2 k2 e3 f2
      · have e' : look ((s.n, Blk.row e t l) :: s.st) b = some k' := e'
        rw [look_cons_ne _ _ hb] at e'
        refine .inl ⟨e', fun g' f => ?_⟩
        have hne : g' ≠ g := fun q => hfree b k' e' (q ▸ f)
        refine ⟨hoth g' ((h.st b k' e').2.lt f).1 hne, fun off sp => ?_⟩
        unfold memAdd; rw [if_neg hne]
    · have hb : ∀ b k, look ((s.n, Blk.row e t l) :: s.st) b = some k → look s.st b ≠ some k → s.n = b := by
        intro b k e n
        by_cases hb : s.n = b
        · exact hb
        · rw [look_cons_ne _ _ hb] at e; exact absurd e n
      rw [← hb b k1 e1 n1, ← hb b2 k2 e2 n2]
  · exact ⟨Nat.lt_succ_self _, by simp, rfl⟩
theorem Rl.addMrow (h : Rl base w0 S0 φ ψ S s a w) {g cap : Nat} {cur : Array Value} {e : TypeId} {t : Ty} {l : List t.den} {xs : List Value} {w' : World} (hw : Below base w w')
    (hoth : ∀ k, k < w.heap.size → k ≠ g → w'.heap[k]? = w.heap[k]?) (hg : base ≤ g) (hheap : w'.heap[g]? = some (.cells cur e (0, 0))) (hlen : l.length ≤ cap) (hcap : cap ≤ maxLen) (hsz : cur.size = cap * t.width)
    (htake : cur.toList.take (l.length * t.width) = xs) (hrow : RowList S t l xs) (hS : ∀ off sp, S ⟨g, off, sp⟩ = none) (hfree : ∀ b k, look s.st b = some k → k.at φ ψ b ≠ some g) :
    ∃ ψ', Rl base w0 S0 φ ψ' S (mrowBlk s e t l) a w' ∧ ARel φ ψ' S (s.n + 1) (.one (.row s.n)) (.slice (some ⟨g, 0, none⟩) l.length cap) ∧ Evo φ ψ S s.n φ ψ' S (s.n + 1) := by
  have ev : Evo φ ψ S s.n φ (fun b => if b = s.n then .slice (some ⟨g, 0, none⟩) l.length cap else ψ b) S (s.n + 1) :=
    ⟨Nat.le_succ _, fun _ _ => rfl, fun b hb => if_neg (by omega), Mem.le_refl _⟩
  refine ⟨_, ?_, ?_, ev⟩
  · refine h.upd ev rfl rfl (fun p v e e0 => by rw [e] at e0; cases e0) (fun p v hp => ?_) hw (fun b k' e' => ?_) (fun b k1 b2 k2 g' e1 e2 n1 n2 f1 f2 => ?_) (fun g' _ ⟨cur', e', q⟩ => by
      by_cases hgg : g' = g
      · subst hgg; exact ⟨_, _, hheap⟩
      · exact ⟨cur', e', (hoth g' (Array.getElem?_eq_some_iff.1 q).1 hgg).trans q⟩)
    · have hb : p.block ≠ g := by
        intro q
        obtain ⟨pb, po, ps⟩ := p
        simp only at q; subst q
        rw [hS] at hp; cases hp
      have h1 := h.sw p v hp
      rw [World.cell?_of_block (w := w) (hoth _ (World.block_lt_of_cell? w _ h1) hb)]; exact h1
    · by_cases hb : s.n = b
      · subst hb
        have e' : look ((s.n, Blk.mrow e t l) :: s.st) s.n = some k' := e'
        rw [look_cons_eq] at e'
        obtain rfl := Option.some.inj e'
        refine .inr ⟨Nat.lt_succ_self _, ⟨by simp [Value.oneCell'], .inr ⟨g, cap, cur, xs, by simp, hg, hheap, hlen, hcap, hsz, htake, hrow, hS⟩⟩, fun g' f b2 k2 e2 e3 hne f2 => ?_⟩
        simp [Blk.at, Value.ownBlock] at f
        subst f
        exact hfree b2 k2 e3 f2
      · have e' : look ((s.n, Blk.mrow e t l) :: s.st) b = some k' := e'
        rw [look_cons_ne _ _ hb] at e'
        refine .inl ⟨e', fun g' f => ?_⟩
        have hne : g' ≠ g := fun q => hfree b k' e' (q ▸ f)
        exact ⟨hoth g' ((h.st b k' e').2.lt f).1 hne, fun off sp => rfl⟩
    · have hb : ∀ b k, look ((s.n, Blk.mrow e t l) :: s.st) b = some k → look s.st b ≠ some k → s.n = b := by
        intro b k e n
        by_cases hb : s.n = b
        · exact hb
        · rw [look_cons_ne _ _ hb] at e; exact absurd e n
      rw [← hb b k1 e1 n1, ← hb b2 k2 e2 n2]
  · exact ⟨Nat.lt_succ_self _, by simp, rfl⟩
theorem Rl.addM (h : Rl base w0 S0 φ ψ S s a w) {e : TypeId} {t : Ty} {l : List t.den} {v : Value} (h1 : v.oneCell' = true) (hm : MRel S base w v e t l) (hfree : ∀ g, v.ownBlock = some g → ∀ b k, look s.st b = some k → k.at φ ψ b ≠ some g) :
    ∃ ψ', Rl base w0 S0 φ ψ' S (mrowBlk s e t l) a w ∧ CRel φ ψ' S (s.n + 1) (.row s.n) v ∧ Evo φ ψ S s.n φ ψ' S (s.n + 1) := by
  have ev : Evo φ ψ S s.n φ (fun b => if b = s.n then v else ψ b) S (s.n + 1) := ⟨Nat.le_succ _, fun _ _ => rfl, fun b hb => if_neg (by omega), Mem.le_refl _⟩
  refine ⟨_, ?_, ?_, ev⟩
  · refine h.upd ev rfl rfl (fun p v e e0 => by rw [e] at e0; cases e0) h.sw (Below.refl _ _) (fun b k' e' => ?_) (fun b k1 b2 k2 g' e1 e2 n1 n2 f1 f2 => ?_)
    · by_cases hb : s.n = b
      · subst hb
        have e' : look ((s.n, Blk.mrow e t l) :: s.st) s.n = some k' := e'
        rw [look_cons_eq] at e'
        obtain rfl := Option.some.inj e'
        refine .inr ⟨Nat.lt_succ_self _, ⟨by simp [h1], by simpa using hm⟩, fun g' f b2 k2 e2 e3 hne f2 => ?_⟩
        refine hfree g' ?_ b2 k2 e3 f2
        simpa only [Blk.at, if_true] using f
      · have e' : look ((s.n, Blk.mrow e t l) :: s.st) b = some k' := e'
        rw [look_cons_ne _ _ hb] at e'
        exact .inl ⟨e', fun g' f => ⟨rfl, fun off sp => rfl⟩⟩
    · have hb : ∀ b k, look ((s.n, Blk.mrow e t l) :: s.st) b = some k → look s.st b ≠ some k → s.n = b := by
        intro b k e n
        by_cases hb : s.n = b
        · exact hb
        · rw [look_cons_ne _ _ hb] at e; exact absurd e n
      rw [← hb b k1 e1 n1, ← hb b2 k2 e2 n2]
  · exact ⟨Nat.lt_succ_self _, by simp, h1⟩
def SFree (m : Bool) (S : Mem) (g : Nat) (xs : List Value) : Prop := match m with
  | true => ∀ off sp, S ⟨g, off, sp⟩ = none
  | false => ∀ off sp v, S ⟨g, off, sp⟩ = some v → sp = none ∧ xs[off]? = some v
theorem Rl.addBlk (m : Bool) (h : Rl base w0 S0 φ ψ S s a w) {g cap : Nat} {cur : Array Value} {e : TypeId} {t : Ty} {l : List t.den} {xs : List Value} {w' : World} (hw : Below base w w')
    (hoth : ∀ k, k < w.heap.size → k ≠ g → w'.heap[k]? = w.heap[k]?) (hg : base ≤ g) (hheap : w'.heap[g]? = some (.cells cur e (0, 0))) (hlen : l.length ≤ cap) (hcap : cap ≤ maxLen) (hsz : cur.size = cap * t.width)
    (htake : cur.toList.take (l.length * t.width) = xs) (hrow : RowList S t l xs) (hS : SFree m S g xs) (hfree : ∀ b k, look s.st b = some k → k.at φ ψ b ≠ some g) :
    ∃ ψ' S', Rl base w0 S0 φ ψ' S' (blkM m s e t l) a w' ∧ ARel φ ψ' S' (s.n + 1) (.one (.row s.n)) (.slice (some ⟨g, 0, none⟩) l.length cap) ∧ Evo φ ψ S s.n φ ψ' S' (s.n + 1) := by
  cases m with
  | true =>
    obtain ⟨ψ', h1⟩ := h.addMrow hw hoth hg hheap hlen hcap hsz htake hrow hS hfree
    exact ⟨ψ', S, h1⟩
  | false => exact h.addRow hw hoth hg hheap hlen hcap hsz htake hrow hS hfree
theorem fresh_blk (m : Bool) (hR : Rl base w0 S0 φ ψ S s a w) (xs : List Value) : SFree m S w.heap.size xs := by
  cases m with
  | true => exact fresh_mem hR
  | false => intro off sp v e; rw [fresh_mem hR] at e; cases e
theorem blkM_n (m : Bool) (s : St) (e : TypeId) (t : Ty) (l : List t.den) : (blkM m s e t l).n = s.n + 1 := by cases m <;> rfl
theorem blkM_tm (m : Bool) (s : St) (e : TypeId) (t : Ty) (l : List t.den) : (blkM m s e t l).tm = s.tm := by cases m <;> rfl
theorem blkM_nt (m : Bool) (s : St) (e : TypeId) (t : Ty) (l : List t.den) : (blkM m s e t l).nt = s.nt := by cases m <;> rfl
theorem blkM_st (m : Bool) (s : St) (e : TypeId) (t : Ty) (l : List t.den) : ∃ k, (blkM m s e t l).st = (s.n, k) :: s.st := by cases m <;> exact ⟨_, rfl⟩
theorem mem_fresh (hR : Rl base w0 S0 φ ψ S s a w) (xs : List Value) : ∀ off sp v, S ⟨w.heap.size, off, sp⟩ = some v → sp = none ∧ xs[off]? = some v := by
  intro off sp v e; rw [fresh_mem hR] at e; cases e
theorem free_fresh (hR : Rl base w0 S0 φ ψ S s a w) : ∀ b k, look s.st b = some k → k.at φ ψ b ≠ some w.heap.size := by
  intro b k e f
  have := ((hR.st b k e).2.lt f).1
  omega
theorem any_zero {n : Nat} : ∀ {vs : List Value}, (∀ v ∈ vs, v.oneCell' = true) → All2 (CRel φ ψ S n) (List.replicate vs.length .any) vs
  | [], _ => trivial
  | v :: vs, h => ⟨h v (by simp), any_zero (fun u hu => h u (by simp [hu]))⟩
theorem partsR_rel (hR : Rl base w0 S0 φ ψ S s a w) : ∀ (l : List (Nat × Operand)), All2 (fun p q => p.1 = q.1 ∧ ARel φ ψ S s.n p.2 q.2) (l.map fun p => (p.1, avalR s p.2)) (l.map fun p => (p.1, a.eval p.2))
  | [] => trivial
  | p :: l => ⟨⟨rfl, hR.valR p.2⟩, partsR_rel hR l⟩
theorem buildSlice_sound {t : TypeId} {len : Nat} {parts : Array (Nat × Operand)} (hR : Rl base w0 S0 φ ψ S s a w) (h : evBuildSlice P t len parts s K = some r) : Sound P base w0 S0 φ ψ S s a w K r ⟨dst, .buildSlice t len parts, ty, pos, after, guard⟩ := by
  unfold evBuildSlice at h
  split at h
  · rename_i e ht
    split at h
    · rename_i n z tt hn hz htt
      split at h
      · rename_i hb
        simp only [Bool.and_eq_true] at hb
        obtain ⟨⟨⟨h1, h2⟩, h3⟩, h4⟩ := hb
        have h1 := Nat.eq_of_beq_eq_true h1
        have h2 := Nat.eq_of_beq_eq_true h2
        have h3 := Nat.le_of_ble_eq_true h3
        split at h
        · rename_i c hc
          split at h
          · rename_i l hl
            obtain ⟨zs, hzs⟩ : ∃ zs : List Value, ((Array.range (len * (n + 1))).map (z.cells[· % z.cells.size]!)) = zs.toArray := ⟨_, Array.toArray_toList.symm⟩
            have hzl : zs.length = len * (n + 1) := by have := congrArg Array.size hzs; simpa using this.symm
            have hzo : ∀ v ∈ zs, v.oneCell' = true := by
              intro v hv
              have hv : v ∈ ((Array.range (len * (n + 1))).map (z.cells[· % z.cells.size]!)) := by rw [hzs]; simpa using hv
              obtain ⟨j, hj, rfl⟩ := Array.mem_map.1 hv
              have hlt : j % z.cells.size < z.cells.size := Nat.mod_lt _ (by omega)
              rw [getElem!_pos z.cells _ hlt]
              exact List.all_eq_true.1 h4 _ (by simp)
            have hza := any_zero (φ := φ) (ψ := ψ) (S := S) (n := s.n) hzo
            rw [hzl] at hza
            obtain ⟨vs, g1, g2⟩ := fill_rel hc (partsR_rel hR parts.toList) hza
            obtain ⟨g3, g4⟩ := unRow_rel hl g2
            have hvl : vs.length = len * (n + 1) := by rw [g4.1, g3, h1]
            have hnew : (w.alloc (.cells vs.toArray e)).heap[w.heap.size]? = some (.cells vs.toArray e (0, 0)) := by
              show (w.heap.push _)[w.heap.size]? = _; simp
            obtain ⟨ψ', S', k1, k2, k3⟩ := hR.addRow (g := w.heap.size) (cap := l.length) (cur := vs.toArray) (e := e) (t := tt) (l := l) (xs := vs) (w' := w.alloc (.cells vs.toArray e)) ((Below.refl base w).alloc hR.bsz _)
              (fun k hk _ => Below.heap_alloc w _ _ hk) hR.bsz hnew (Nat.le_refl _) (by rw [g3]; unfold maxLen; have := Nat.le_mul_of_pos_right len (show 0 < n + 1 by omega); omega) (by simp [g4.1])
              (by simp; rw [← g4.1]; exact List.take_length) g4 (mem_fresh hR _) (free_fresh hR)
            refine ⟨_, _, h, φ, ψ', S', _, _, .inl (run_v _ _ _ ?_), k1, k2, k3, rfl, ⟨[_], rfl⟩, rfl⟩
            have hle : ¬ (len * (n + 1) > 2 ^ 24) := by omega
            have g1' : Instr.fill (fun i => some (i * (n + 1), n + 1)) zs.toArray (List.map (fun x => (x.1, a.eval x.2)) parts.toList) = some vs.toArray := g1
            unfold Instr.buildSlice
            rw [Sem.run_bind, run_underlying ht]; simp only [Result.andThen_ok]
            rw [Sem.run_bind, szOf_run hn]; simp only [Result.andThen_ok]
            rw [if_neg hle]
            by_cases h0 : len * n.succ = 0
            · rw [if_pos h0]
              have hq : ((Array.range (len * n.succ)).map fun x => (#[] : Array Value)[x % (#[] : Array Value).size]!) = zs.toArray := by
                rw [← hzs, show len * n.succ = 0 from h0]; simp
              simp only [Sem.run_bind, Sem.run_pure, Result.andThen_ok, hq, Array.toList_map, g1', g3]
              rfl
            · rw [if_neg h0]
              have hq : ((Array.range (len * n.succ)).map fun x => z.cells[x % z.cells.size]!) = zs.toArray := hzs
              simp only [Sem.run_bind, zeroOf_run hz, Sem.run_pure, Result.andThen_ok, hq, Array.toList_map, g1', g3]
              rfl
          · cases h
        · cases h
      · cases h
    · rename_i z hn hz htt
      split at h
      · rename_i hb
        simp only [Bool.and_eq_true] at hb
        obtain ⟨⟨h2, h3⟩, h4⟩ := hb
        have h2 := Nat.eq_of_beq_eq_true h2
        have h3 := Nat.le_of_ble_eq_true h3
        split at h
        · rename_i c hc
          obtain ⟨zs, hzs⟩ : ∃ zs : List Value, ((Array.range len).map (z.cells[· % z.cells.size]!)) = zs.toArray := ⟨_, Array.toArray_toList.symm⟩
          have hzl : zs.length = len := by have := congrArg Array.size hzs; simpa using this.symm
          have hzo : ∀ v ∈ zs, v.oneCell' = true := by
            intro v hv
            have hv : v ∈ ((Array.range len).map (z.cells[· % z.cells.size]!)) := by rw [hzs]; simpa using hv
            obtain ⟨j, hj, rfl⟩ := Array.mem_map.1 hv
            have hlt : j % z.cells.size < z.cells.size := Nat.mod_lt _ (by omega)
            rw [getElem!_pos z.cells _ hlt]
            exact List.all_eq_true.1 h4 _ (by simp)
          have hza := any_zero (φ := φ) (ψ := ψ) (S := S) (n := s.n) hzo
          rw [hzl] at hza
          obtain ⟨vs, g1, g2⟩ := fill_rel hc (partsR_rel hR parts.toList) hza
          obtain ⟨φ', k1, k2, k3⟩ := hR.new g2 e
          refine ⟨_, _, h, φ', ψ, S, _, _, .inl (run_v _ _ _ ?_), k1, ⟨Nat.lt_succ_self _, Nat.le_refl _, rfl⟩, k3, rfl, ⟨[_], rfl⟩, rfl⟩
          rw [k2]
          have hle : ¬ (len * 1 > 2 ^ 24) := by omega
          have g1' : Instr.fill (fun i => some (i * 1, 1)) zs.toArray (List.map (fun x => (x.1, a.eval x.2)) parts.toList) = some vs.toArray := by
            simp only [Nat.mul_one]; exact g1
          unfold Instr.buildSlice
          rw [Sem.run_bind, run_underlying ht]; simp only [Result.andThen_ok]
          rw [Sem.run_bind, szOf_run hn]; simp only [Result.andThen_ok]
          rw [if_neg hle]
          by_cases h0 : len * 1 = 0
          · rw [if_pos h0]
            have hq : ((Array.range (len * 1)).map fun x => (#[] : Array Value)[x % (#[] : Array Value).size]!) = zs.toArray := by
              rw [← hzs, show len = 0 by omega]; simp
            simp only [Sem.run_bind, Sem.run_pure, Result.andThen_ok, hq, Array.toList_map, g1']
            rfl
          · rw [if_neg h0]
            have hq : ((Array.range (len * 1)).map fun x => z.cells[x % z.cells.size]!) = zs.toArray := by rw [Nat.mul_one]; exact hzs
            simp only [Sem.run_bind, zeroOf_run hz, Sem.run_pure, Result.andThen_ok, hq, Array.toList_map, g1']
            rfl
        · cases h
      · cases h
    · cases h
  · cases h
theorem sl_inv {t : Ty} {l : List t.den} {v : Value} (h : Reps S (.sl t) l [v]) (hw : ∀ p v, S p = some v → w.cell? p = some v) : ∃ A c news, v = .slice A l.length c ∧ RowList S t l news ∧ (l ≠ [] → ∃ ad, A = some ad ∧ ∀ j u, news[j]? = some u → w.cell? (ad.add j) = some u) := by
  obtain ⟨A, c, e, hc, hel⟩ := h
  simp at e
  cases l with
  | nil => exact ⟨A, c, [], by rw [e], RowList.nil S t, fun h => absurd rfl h⟩
  | cons x l =>
    obtain ⟨ad, us, rfl, _, _⟩ := hel 0 x rfl
    obtain ⟨xs, h1, h2⟩ := reps_row (S := S) (t := t) (ad := ad) (x :: l) 0 (fun i y hy => by
      obtain ⟨ad', us, e', k1, k2⟩ := hel i y hy
      cases e'
      exact ⟨us, k1, fun j u hj => by have := k2 j u hj; simpa using this⟩)
    exact ⟨some ad, c, xs, by rw [e], h1, fun _ => ⟨ad, rfl, fun j u hj => hw _ _ (by have := h2 j u hj; simpa using this)⟩⟩
theorem src_of {t e : TypeId} {n : Nat} {sz : Nat} {v : Value} {l : Nat} {A : Option Addr} {c : Nat} {news : List Value} (ht : P.underlying t = some (.slice e)) (hv : v = .slice A l c) (hlen : news.length = l * sz) (h1 : ∀ u ∈ news, u.oneCell' = true)
    (hA : 0 < l → ∃ ad, A = some ad ∧ ∀ j u, news[j]? = some u → w.cell? (ad.add j) = some u) : Src P sz t v l news w := by
  subst hv
  have key : ∀ w' : World, (∀ p, w'.cell? p = w.cell? p) → (Builtin.firstCells sz l (.slice A l c)).run P w' = .ok news.toArray w' := by
    intro w' hw
    by_cases hl : l = 0
    · subst hl
      have : news = [] := List.length_eq_zero_iff.1 (by rw [hlen]; simp)
      subst this
      cases A <;> simp [Builtin.firstCells, loadCells, loadCellsFrom]
    · obtain ⟨ad, rfl, hc⟩ := hA (by omega)
      have := run_loadCells_list (P := P) (w := w') ad news (fun j u hj => by rw [hw]; exact hc j u hj)
      rw [hlen] at this
      simpa [Builtin.firstCells] using this
  exact ⟨.inl ⟨e, ht⟩, fun w' => rfl, key w (fun _ => rfl), key w.drew (fun _ => rfl), hlen, h1⟩
theorem append_room {t rt e : TypeId} {i : TypeInfo} (ht : P.underlying t = some (.slice e)) (hi : P.info? e = some i) {g n cap m : Nat} {cur : Array Value} {y : Value} {news : List Value} (hs : Src P i.size t y m news w)
    (hg : w.heap[g]? = some (.cells cur e (0, 0))) (hroom : n + m ≤ cap) (hsz : cur.size = cap * i.size) :
    (Builtin.append_ #[t, t] rt #[.slice (some ⟨g, 0, none⟩) n cap, y]).run P w = .ok (.slice (some ⟨g, 0, none⟩) (n + m) cap) (w.setRow g (cur.toList.take (n * i.size) ++ news ++ cur.toList.drop (n * i.size + news.length)).toArray) := by
  have hle : n * i.size + news.length ≤ cur.size := by rw [hs.newsLen, hsz, ← Nat.add_mul]; exact Nat.mul_le_mul_right _ hroom
  have hst := run_storeCells_at (P := P) g (n * i.size) e news 0 cur w hg (by omega) hs.one
  simp only [Nat.add_zero] at hst
  simp [Builtin.append_, run_underlying ht, sizeOf, typeInfo, hi, hs.len, hroom, hs.cells, add_at, hst]
theorem softL_reps {u : Value} {ys : List ByteArray} (h : Reps S (.sl .str) ys [u]) : Reps S (.sl (.cons .str .nil)) (List.map (fun z => (z, ())) ys) [u] := by
  obtain ⟨A, c, e, hc, hel⟩ := h
  have hl : (lst (t := .cons .str .nil) (List.map (fun z => (z, ())) ys)).length = (lst (t := .str) ys).length := List.length_map ..
  refine ⟨A, c, by rw [hl]; exact e, by rw [hl]; exact hc, fun i x hx => ?_⟩
  have hx : (List.map (fun z => (z, ())) ys)[i]? = some x := hx
  rw [List.getElem?_map] at hx
  cases hy : ys[i]? with
  | none => rw [hy] at hx; cases hx
  | some y =>
    rw [hy] at hx
    obtain rfl := Option.some.inj hx
    obtain ⟨ad, us, e1, g1, g2⟩ := hel i y hy
    exact ⟨ad, us, e1, ⟨us, [], by simp, g1, rfl⟩, g2⟩
theorem softArg_rel (x : Operand) {v : AV} {u : Value} (h : ARel φ ψ S s.n v u) : ARel φ ψ S s.n (softArg s x v) u := by
  unfold softArg
  split
  · split
    · exact softL_reps h
    · exact h
  · exact h
theorem append_sound {t : TypeId} {x y : Operand} {rt : TypeId} (hR : Rl base w0 S0 φ ψ S s a w) (h : evAppend P t x y s K = some r) :
    ∃ v s' φ' ψ' S' u w', K v s' = some r ∧ (Builtin.append_ #[t, t] rt #[a.eval x, a.eval y]).run P w = .ok u w' ∧ Rl base w0 S0 φ' ψ' S' s' a w' ∧ ARel φ' ψ' S' s'.n v u ∧ Evo φ ψ S s.n φ' ψ' S' s'.n ∧ s'.tm = s.tm ∧ (∃ pre, s'.st = pre ++ s.st) ∧ s'.nt = s.nt := by
  unfold evAppend at h
  split at h
  · rename_i e ht
    split at h
    · rename_i i hi
      split at h
      · rename_i z hz
        have stay : ∀ (A : Option Addr) (c : Nat), a.eval y = .slice A 0 c → ∀ (B : Option Addr) (n cap : Nat), n ≤ cap → a.eval x = .slice B n cap → (Builtin.append_ #[t, t] rt #[a.eval x, a.eval y]).run P w = .ok (a.eval x) w := by
          intro A c hy B n cap hn hx
          rw [hx]
          exact run_append_nothing w t t rt e i ht hi B n cap hn _ (src_of (news := []) (A := A) (c := c) (n := 0) ht hy (by simp) (by simp) (fun h => absurd h (by omega)))
        split at h
        · rename_i tt ys hy
          split at h
          · rename_i hb
            simp only [Bool.and_eq_true] at hb
            obtain ⟨⟨⟨b1, b2⟩, b3⟩, b4⟩ := hb
            have b1 := Nat.eq_of_beq_eq_true b1
            have b2 := Nat.eq_of_beq_eq_true b2
            have b3 : 0 < i.size := Nat.le_of_ble_eq_true b3
            have b4 : 0 < i.bytes := Nat.le_of_ble_eq_true b4
            have hyr := softArg_rel x (hR.valR y); rw [hy] at hyr
            obtain ⟨A, c, news, hyv, hnews, hnA⟩ := sl_inv hyr hR.sw
            have hsrc : Src P i.size t (a.eval y) ys.length news w := src_of (n := 0) ht hyv (by rw [hnews.1, b1]) hnews.oneCell (fun hp => hnA (fun q => by rw [q] at hp; simp at hp))
            -- a new row, its elements out of an old one and the others
            have grow : ∀ (m : Bool) (B : Option Addr) (n cap : Nat) (xs : List Value) (l : List tt.den), a.eval x = .slice B n cap → n = l.length → n ≤ cap → RowList S tt l xs → (∀ w' : World, (∀ p, w'.cell? p = w.cell? p) → (Builtin.firstCells i.size n (.slice B n cap)).run P w' = .ok xs.toArray w') →
                cap < n + ys.length → (n + ys.length) * i.bytes ≤ 140737488355328 → ∀ s1 : St, Rl base w0 S0 φ ψ S s1 a w → s1.n = s.n →
                ∃ ψ' S' u w', (Builtin.append_ #[t, t] rt #[a.eval x, a.eval y]).run P w = .ok u w' ∧ Rl base w0 S0 φ ψ' S' (blkM m s1 e tt (l ++ ys)) a w' ∧ ARel φ ψ' S' (s1.n + 1) (.one (.row s1.n)) u ∧ Evo φ ψ S s1.n φ ψ' S' (s1.n + 1) := by
              intro m B n cap xs l hx hn hnc hl hfirst hgt hbd s1 hR1 hsn
              have hmul := Nat.le_mul_of_pos_right (n + ys.length) b4
              have hmax : n + ys.length ≤ maxLen := by unfold maxLen; omega
              have hns := Go.Room.nextslicecap_le' hgt
              have hns2 := Nat.mul_le_mul_right i.bytes hns
              have hrun := run_append_grow_src (P := P) (w := w) t t rt e i z ht hi hz B n cap xs (hfirst w.drew (fun _ => rfl)) (a.eval y) ys.length news hsrc hgt (by omega) (by rw [Nat.mul_assoc] at hns2; omega)
              have hge := grownCap_ge w (n + ys.length) cap e
              have hmx := grownCap_le_maxLen w (n + ys.length) cap e hmax
              have hll : (l ++ ys).length = n + ys.length := by rw [List.length_append, hn]
              have hxl : (xs ++ news).length = (n + ys.length) * i.size := by rw [List.length_append, hl.1, hnews.1, ← hn, b1, Nat.add_mul]
              have hnew : (w.drew.alloc (.cells ((xs ++ news).toArray ++ Builtin.zeroCells z.cells (grownCap w (n + ys.length) cap e - (n + ys.length))) e)).heap[w.heap.size]? = some (.cells ((xs ++ news).toArray ++ Builtin.zeroCells z.cells (grownCap w (n + ys.length) cap e - (n + ys.length))) e (0, 0)) := by
                show (w.heap.push _)[w.heap.size]? = _; simp
              obtain ⟨ψ', S', m1, m2, m3⟩ := hR1.addBlk m (g := w.heap.size) (cap := grownCap w (n + ys.length) cap e) (e := e) (t := tt) (l := l ++ ys) (xs := xs ++ news) ((Below.refl base w).drew.alloc (w := w.drew) hR.bsz _)
                (fun k hk _ => Below.heap_alloc w.drew _ _ hk) hR.bsz hnew (by rw [hll]; exact hge) hmx (by
                  simp only [Array.size_append, List.size_toArray, size_zeroCells, hxl, b1, b2, ← Nat.add_mul]
                  congr 1; omega) (by
                  rw [hll, b1, ← hxl, Array.toList_append]
                  exact List.take_left) (hl.append hnews) (fresh_blk m hR _) (free_fresh hR1)
              rw [hll] at m2
              exact ⟨ψ', S', _, _, by rw [hx]; exact hrun, m1, m2, m3⟩
            have ownRow : ∀ (m : Bool) (b : Nat) (l : List tt.den), a.eval x = ψ b → b < s.n → look s.st b = some (match m with | true => .mrow e tt l | false => .row e tt l) →
                cond (Nat.beq ys.length 0) (K (.one (.row b)) s) (cond (decide ((l.length + ys.length) * i.bytes ≤ 140737488355328)) (K (.one (.row s.n)) (blkM m { s with st := (b, .dead) :: s.st } e tt (l ++ ys))) none) = some r →
                ∃ v s' φ' ψ' S' u w', K v s' = some r ∧ (Builtin.append_ #[t, t] rt #[a.eval x, a.eval y]).run P w = .ok u w' ∧ Rl base w0 S0 φ' ψ' S' s' a w' ∧ ARel φ' ψ' S' s'.n v u ∧ Evo φ ψ S s.n φ' ψ' S' s'.n ∧ s'.tm = s.tm ∧ (∃ pre, s'.st = pre ++ s.st) ∧ s'.nt = s.nt := by
              intro m b l hxv hbn hk h
              have hst : ∀ s1 : St, s1.st = (b, .dead) :: s.st → ∃ pre, (blkM m s1 e tt (l ++ ys)).st = pre ++ s.st := by
                intro s1 h1
                obtain ⟨k, hk⟩ := blkM_st m s1 e tt (l ++ ys)
                exact ⟨[_, _], by rw [hk, h1]; rfl⟩
              have hdat : (ψ b = .slice none 0 0 ∧ l = []) ∨ ∃ g cap cur xs, ψ b = .slice (some ⟨g, 0, none⟩) l.length cap ∧ base ≤ g ∧ w.heap[g]? = some (.cells cur e (0, 0)) ∧ l.length ≤ cap ∧ cap ≤ maxLen ∧ cur.size = cap * tt.width ∧
                  cur.toList.take (l.length * tt.width) = xs ∧ RowList S tt l xs ∧ (∀ news : List Value, SFree m S g (xs ++ news)) ∧ (match m with | true => Blk.mrow e tt l | false => Blk.row e tt l).at φ ψ b = some g := by
                have hB := (hR.st b _ hk).2
                cases m with
                | true =>
                  rcases hB with ⟨_, ⟨q1, q2⟩ | ⟨g, cap, cur, xs, q1, q2, q3, q4, q5, q6, q7, q8, q9⟩⟩
                  · exact .inl ⟨q1, q2⟩
                  · exact .inr ⟨g, cap, cur, xs, q1, q2, q3, q4, q5, q6, q7, q8, fun _ => q9, by simp [Blk.at, q1, Value.ownBlock]⟩
                | false =>
                  rcases hB with ⟨_, ⟨q1, q2⟩ | ⟨g, cap, cur, xs, q1, q2, q3, q4, q5, q6, q7, q8, q9⟩⟩
                  · exact .inl ⟨q1, q2⟩
                  · refine .inr ⟨g, cap, cur, xs, q1, q2, q3, q4, q5, q6, q7, q8, fun news off sp u hu => ?_, by simp [Blk.at, q1, Value.ownBlock]⟩
                    rw [q9] at hu
                    cases sp with
                    | some _ => cases hu
                    | none => exact ⟨rfl, by rw [List.getElem?_append_left (List.getElem?_eq_some_iff.1 hu).1]; exact hu⟩
              rcases hdat with ⟨q1, rfl⟩ | ⟨g, cap, cur, xs, q1, q2, q3, q4, q5, q6, q7, q8, q9, q10⟩
              · have hxv' := hxv.trans q1
                rcases cond_some h with ⟨h0, h⟩ | ⟨h0, h⟩
                · have h0 := Nat.eq_of_beq_eq_true h0
                  have hl0 : (lst ys).length = 0 := h0
                  rw [hl0] at hyv
                  exact ⟨_, _, φ, ψ, S, _, w, h, stay _ _ hyv none 0 0 (Nat.le_refl _) hxv', hR, ⟨hbn, hxv, by rw [hxv']; rfl⟩, Evo.refl _ _ _ _, rfl, ⟨[], rfl⟩, rfl⟩
                · have h0 : ys.length ≠ 0 := fun q => by rw [q] at h0; cases h0
                  rcases cond_some h with ⟨h1, h⟩ | ⟨_, h⟩
                  · have h1 := of_decide_eq_true h1
                    obtain ⟨ψ', S', u, w', k1, k2, k3, k4⟩ := grow m none 0 0 [] [] hxv' rfl (Nat.le_refl _) (RowList.nil S tt) (fun w' _ => rfl) (by omega) (by simpa using h1) { s with st := (b, .dead) :: s.st } (hR.dead hk) rfl
                    exact ⟨_, _, φ, ψ', S', u, w', h, k1, k2, by rw [blkM_n]; exact k3, by rw [blkM_n]; exact k4, blkM_tm .., hst _ rfl, blkM_nt ..⟩
                  · cases h
              have hxv' := hxv.trans q1
              rcases cond_some h with ⟨h0, h⟩ | ⟨h0, h⟩
              · have h0 := Nat.eq_of_beq_eq_true h0
                have hl0 : (lst ys).length = 0 := h0
                rw [hl0] at hyv
                exact ⟨_, _, φ, ψ, S, _, w, h, stay _ _ hyv _ _ _ q4 hxv', hR, ⟨hbn, hxv, by rw [hxv']; rfl⟩, Evo.refl _ _ _ _, rfl, ⟨[], rfl⟩, rfl⟩
              · have h0 : ys.length ≠ 0 := fun q => by rw [q] at h0; cases h0
                rcases cond_some h with ⟨h1, h⟩ | ⟨_, h⟩
                · have h1 := of_decide_eq_true h1
                  have hRd := hR.dead hk
                  have hdead : ∀ b2 k2, look ((b, Blk.dead) :: s.st) b2 = some k2 → k2.at φ ψ b2 ≠ some g := by
                    intro b2 k2 hk2 f
                    by_cases hb2 : b = b2
                    · subst hb2; rw [look_cons_eq] at hk2; cases hk2; cases f
                    · rw [look_cons_ne _ _ hb2] at hk2
                      exact hb2 (hR.apart b b2 _ _ g hk hk2 q10 f)
                  have hxl : xs.length = l.length * i.size := by rw [q8.1, b1]
                  have hcell : ∀ j u, xs[j]? = some u → w.cell? ⟨g, j, none⟩ = some u := by
                    intro j u hj
                    rw [← q7, List.getElem?_take] at hj
                    split at hj
                    · simpa [World.cell?, q3] using hj
                    · cases hj
                  by_cases hroom : l.length + ys.length ≤ cap
                  · have hrun := append_room (rt := rt) (n := l.length) ht hi hsrc q3 hroom (by rw [q6, b1])
                    rw [← b1, q7] at hrun
                    have hllen : (l ++ ys).length = l.length + ys.length := List.length_append
                    have hcl : l.length * tt.width + news.length ≤ cur.size := by rw [hnews.1, q6, ← Nat.add_mul]; exact Nat.mul_le_mul_right _ hroom
                    have hoth : ∀ (nv : Array Value) k, k ≠ g → (w.setRow g nv).heap[k]? = w.heap[k]? := by
                      intro nv k hk
                      simp only [World.setRow, Array.getElem?_modify]
                      rw [if_neg (fun e => hk e.symm)]
                    have hrow : ∀ nv : Array Value, (w.setRow g nv).heap[g]? = some (.cells nv e (0, 0)) := by
                      intro nv
                      simp only [World.setRow]
                      rw [Array.getElem?_modify, if_pos rfl, q3]; rfl
                    have hszw : ∀ nv : Array Value, (w.setRow g nv).heap.size = w.heap.size := by intro nv; simp [World.setRow]
                    obtain ⟨ψ', S', m1, m2, m3⟩ := hRd.addBlk m (g := g) (cap := cap) (e := e) (t := tt) (l := l ++ ys) (xs := xs ++ news) (w' := w.setRow g (xs ++ news ++ cur.toList.drop (l.length * tt.width + news.length)).toArray)
                      ⟨rfl, rfl, rfl, by rw [hszw]; exact Nat.le_refl _, fun k hk => hoth _ k (by omega)⟩ (fun k _ hk => hoth _ k hk) q2 (hrow _) (by rw [hllen]; exact hroom) q5 (by
                        have : xs.length = l.length * tt.width := q8.1
                        simp only [List.size_toArray, List.length_append, List.length_drop, Array.length_toList, this]
                        omega) (by
                        rw [hllen, Nat.add_mul, ← q8.1, ← hnews.1, ← List.length_append]
                        exact List.take_left) (q8.append hnews) (q9 news) hdead
                    rw [hllen] at m2
                    exact ⟨_, _, φ, ψ', S', _, _, h, by rw [hxv']; exact hrun, m1, by rw [blkM_n]; exact m2, by rw [blkM_n]; exact m3, blkM_tm .., hst _ rfl, blkM_nt ..⟩
                  · obtain ⟨ψ', S', u, w', k1, k2, k3, k4⟩ := grow m (some ⟨g, 0, none⟩) l.length cap xs l hxv' rfl q4 q8 (fun w' hw => by
                      have := run_loadCells_list (P := P) (w := w') ⟨g, 0, none⟩ xs (fun j u hj => by
                        rw [hw, add_at, Nat.zero_add]
                        exact hcell j u hj)
                      rw [hxl] at this
                      simpa [Builtin.firstCells] using this) (by omega) h1 { s with st := (b, .dead) :: s.st } hRd rfl
                    exact ⟨_, _, φ, ψ', S', u, w', h, k1, k2, by rw [blkM_n]; exact k3, by rw [blkM_n]; exact k4, blkM_tm .., hst _ rfl, blkM_nt ..⟩
                · cases h
            split at h
            · rename_i hx
              have hxv := hR.valEq hx
              rcases cond_some h with ⟨h0, h⟩ | ⟨h0, h⟩
              · have h0 := Nat.eq_of_beq_eq_true h0
                have hl0 : (lst ys).length = 0 := h0
                rw [hl0] at hyv
                exact ⟨_, _, φ, ψ, S, _, w, h, stay _ _ hyv none 0 0 (Nat.le_refl _) hxv, hR, hxv, Evo.refl _ _ _ _, rfl, ⟨[], rfl⟩, rfl⟩
              · have h0 : ys.length ≠ 0 := fun q => by rw [q] at h0; cases h0
                rcases cond_some h with ⟨h1, h⟩ | ⟨_, h⟩
                · have h1 := of_decide_eq_true h1
                  obtain ⟨ψ', S', u, w', k1, k2, k3, k4⟩ := grow (wideT tt) none 0 0 [] [] hxv rfl (Nat.le_refl _) (RowList.nil S tt) (fun w' _ => rfl) (by omega) (by rw [Nat.zero_add]; exact h1) s hR rfl
                  obtain ⟨kk, hkk⟩ := blkM_st (wideT tt) s e tt ys
                  refine ⟨_, _, φ, ψ', S', u, w', h, k1, k2, ?_, ?_, blkM_tm .., ⟨[_], hkk⟩, blkM_nt ..⟩
                  · show ARel φ ψ' S' (blkM (wideT tt) s e tt ys).n _ u
                    rw [blkM_n]; exact k3
                  · show Evo φ ψ S s.n φ ψ' S' (blkM (wideT tt) s e tt ys).n
                    rw [blkM_n]; exact k4
                · cases h
            · rename_i b hx
              have hxr := hR.val x; rw [hx] at hxr
              obtain ⟨hbn, hxv, hone⟩ := hxr
              split at h
              · rename_i e' tt' l hk
                split at h
                · rename_i hee
                  obtain rfl := Nat.eq_of_beq_eq_true hee
                  split at h
                  · rename_i htt
                    obtain rfl := Ty.eq_of_beq htt
                    rw [castL_self] at h
                    exact ownRow false b l hxv hbn hk h
                  · cases h
                · cases h
              · rename_i e' tt' l hk
                split at h
                · rename_i hee
                  obtain rfl := Nat.eq_of_beq_eq_true hee
                  split at h
                  · rename_i htt
                    obtain rfl := Ty.eq_of_beq htt
                    rw [castL_self] at h
                    exact ownRow true b l hxv hbn hk h
                  · cases h
                · cases h
              · cases h
            · cases h
          · cases h
        · cases h
      · cases h
    · cases h
  · cases h
theorem cutV_zero (m : Nat) (A : Option Addr) (n c : Nat) : cutV 0 m (.slice A n c) = .slice A m c := by
  simp only [cutV, Nat.sub_zero]
  congr 1
  split
  · rfl
  · cases A with
    | none => rfl
    | some ad => simp [Addr.add]
theorem RowList.take {t : Ty} {l : List t.den} {xs : List Value} (h : RowList S t l xs) (k : Nat) : RowList S t (l.take k) (xs.take (k * t.width)) := by
  refine ⟨by rw [List.length_take, List.length_take, h.1, Nat.mul_min_mul_right], fun i x hx => ?_⟩
  rw [List.getElem?_take] at hx
  split at hx
  · rename_i hi
    obtain ⟨us, h1, h2⟩ := h.2 i x hx
    refine ⟨us, h1, fun j u hj => ?_⟩
    have hjw : j < t.width := by rw [← h1.width]; exact (List.getElem?_eq_some_iff.1 hj).1
    have := Nat.mul_le_mul_right t.width (show i + 1 ≤ k by omega)
    rw [Nat.add_mul, Nat.one_mul] at this
    rw [List.getElem?_take_of_lt (by omega)]
    exact h2 j u hj
  · cases hx
theorem RowList.drop {t : Ty} {l : List t.den} {xs : List Value} (h : RowList S t l xs) (k : Nat) : RowList S t (l.drop k) (xs.drop (k * t.width)) := by
  refine ⟨by rw [List.length_drop, List.length_drop, h.1, Nat.sub_mul], fun i x hx => ?_⟩
  rw [List.getElem?_drop] at hx
  obtain ⟨us, h1, h2⟩ := h.2 _ x hx
  refine ⟨us, h1, fun j u hj => ?_⟩
  rw [List.getElem?_drop, ← Nat.add_assoc, ← Nat.add_mul]
  exact h2 j u hj
theorem vals_rel {n : Nat} : ∀ {vs : List Value}, (∀ v ∈ vs, v.oneCell' = true) → All2 (CRel φ ψ S n) (vs.map .val) vs
  | [], _ => trivial
  | v :: vs, h => ⟨⟨rfl, h v (by simp)⟩, vals_rel (fun u hu => h u (by simp [hu]))⟩
theorem make_sound {t : TypeId} {x y : Operand} (hR : Rl base w0 S0 φ ψ S s a w) (h : evMake P t x y s K = some r) : Sound P base w0 S0 φ ψ S s a w K r ⟨dst, .makeSlice t x y, ty, pos, after, guard⟩ := by
  unfold evMake at h
  split at h
  · rename_i e x' y' ht
    split at h
    · rename_i k n i tt hab hn hi htt
      obtain rfl := Nat.eq_of_beq_eq_true hab
      split at h
      · rename_i z hz
        split at h
        · rename_i x0 hun hb
          simp only [Bool.and_eq_true] at hb
          obtain ⟨⟨⟨b1, b2⟩, b3⟩, b4⟩ := hb
          have b1 := Nat.eq_of_beq_eq_true b1
          have b2 := Nat.eq_of_beq_eq_true b2
          have b3 : 0 < i.bytes := Nat.le_of_ble_eq_true b3
          rcases cond_some h with ⟨h0, h⟩ | ⟨_, h⟩
          · rcases cond_some h with ⟨h1, h⟩ | ⟨_, h⟩
            · have h0 := of_decide_eq_true h0
              have h1 := of_decide_eq_true h1
              have hv := hR.get x'; rw [hn] at hv
              have hv : a.tmps.getD x' undef = .int k n := hv
              obtain ⟨m, rfl⟩ : ∃ m : Nat, n = m := ⟨n.toNat, by omega⟩
              rw [Int.toNat_natCast] at h h1
              have hmul := Nat.le_mul_of_pos_right m b3
              have hrun := run_make (P := P) w t e i z ht hi hz k k m m (by omega) (Int.le_refl _) (by
                have : ((i.bytes * m : Nat) : Int) ≤ 281474976710656 := by rw [Nat.mul_comm]; omega
                rwa [Int.natCast_mul] at this) (by omega)
              rw [Int.toNat_natCast] at hrun
              obtain ⟨us, ws, e1, r1, r2⟩ := unCV_rel hun (vals_rel (φ := φ) (ψ := ψ) (S := S) (n := s.n) (fun v hv => List.all_eq_true.1 b4 v hv))
              obtain rfl := All2.nil_inv r2
              rw [List.append_nil] at e1
              have hzl : z.cells.size = tt.width := by rw [b2, b1]
              have hrow : RowList S tt (List.replicate m x0) (madeCells z.cells (m * i.size)).toList := by
                refine ⟨by rw [Array.length_toList, size_madeCells, List.length_replicate, b1], fun q y hy => ?_⟩
                rw [List.getElem?_replicate] at hy
                split at hy
                · rename_i hq
                  obtain rfl := Option.some.inj hy
                  refine ⟨us, r1, fun j u hj => ?_⟩
                  rw [← e1] at hj
                  have hjl := (List.getElem?_eq_some_iff.1 hj).1
                  rw [Array.length_toList, hzl] at hjl
                  have hle := Nat.mul_le_mul_right tt.width (show q + 1 ≤ m by omega)
                  rw [Nat.add_mul, Nat.one_mul] at hle
                  have hlt : q * tt.width + j < m * i.size := by rw [← b1]; omega
                  have hmod : (q * tt.width + j) % z.cells.size = j := by
                    rw [hzl, Nat.mul_comm, Nat.mul_add_mod]; exact Nat.mod_eq_of_lt hjl
                  rw [Array.getElem?_toList]
                  simp only [madeCells, Array.getElem?_map, Array.getElem?_range, hlt, if_true, Option.map_some, hmod]
                  rw [Array.getElem?_toList] at hj
                  rw [getElem!_pos z.cells j (by omega), ← hj, Array.getElem?_eq_getElem (by omega)]
                · cases hy
              have hnew : (w.alloc (.cells (madeCells z.cells (m * i.size)) e)).heap[w.heap.size]? = some (.cells (madeCells z.cells (m * i.size)) e (0, 0)) := by
                show (w.heap.push _)[w.heap.size]? = _; simp
              have hll : (List.replicate m x0).length = m := List.length_replicate
              obtain ⟨ψ', k1, k2, k3⟩ := hR.addMrow (g := w.heap.size) (cap := m) (cur := madeCells z.cells (m * i.size)) (e := e) (t := tt) (l := List.replicate m x0) (xs := (madeCells z.cells (m * i.size)).toList) ((Below.refl base w).alloc hR.bsz _)
                (fun k hk _ => Below.heap_alloc w _ _ hk) hR.bsz hnew (by rw [hll]; exact Nat.le_refl _) (by unfold maxLen; omega) (by rw [size_madeCells, b1])
                (by rw [hll, b1]; exact List.take_of_length_le (by rw [Array.length_toList, size_madeCells]; exact Nat.le_refl _)) hrow (fresh_mem hR) (free_fresh hR)
              rw [hll] at k2
              refine ⟨_, _, h, φ, ψ', S, _, _, .inl (run_v _ _ _ ?_), k1, k2, k3, rfl, ⟨[_], rfl⟩, rfl⟩
              have : a.eval (.tmp x') = .int k m := hv
              rw [this]; exact hrun
            · cases h
          · cases h
        · cases h
      · cases h
    · cases h
  · cases h
theorem copy_sound {t : TypeId} {x y : Operand} {rt : TypeId} (hR : Rl base w0 S0 φ ψ S s a w) (h : evCopy P t x y s K = some r) :
    ∃ v s' φ' ψ' S' u w', K v s' = some r ∧ (Builtin.copy_ #[t, t] rt #[a.eval x, a.eval y]).run P w = .ok u w' ∧ Rl base w0 S0 φ' ψ' S' s' a w' ∧ ARel φ' ψ' S' s'.n v u ∧ Evo φ ψ S s.n φ' ψ' S' s'.n ∧ s'.tm = s.tm ∧ (∃ pre, s'.st = pre ++ s.st) ∧ s'.nt = s.nt := by
  unfold evCopy at h
  split at h
  · rename_i e ht
    split at h
    · rename_i b tt ys hx hy
      have hxr := hR.val x; rw [hx] at hxr
      obtain ⟨hbn, hxv, hone⟩ := hxr
      have hyr := hR.valR y; rw [hy] at hyr
      obtain ⟨A, c, news, hyv, hnews, hnA⟩ := sl_inv hyr hR.sw
      split at h
      · rename_i e' tt' l n hk hn
        have hk := mrowOf_some hk
        split at h
        · rename_i hw htt
          obtain rfl := Ty.eq_of_beq htt
          rw [castL_self] at h
          have hw := Nat.eq_of_beq_eq_true hw
          obtain ⟨i, hi, hin⟩ := szOf_info hn
          obtain ⟨mm, hmm⟩ : ∃ mm, Nat.min ys.length l.length = mm := ⟨_, rfl⟩
          have hml : mm ≤ l.length := by rw [← hmm]; exact Nat.min_le_right _ _
          have hmy : mm ≤ ys.length := by rw [← hmm]; exact Nat.min_le_left _ _
          have hfirst : (Builtin.firstCells n mm (a.eval y)).run P w = .ok (news.take (mm * tt.width)).toArray w := by
            rw [hyv]
            by_cases h0 : mm = 0
            · subst h0
              cases A <;> simp [Builtin.firstCells, loadCells, loadCellsFrom]
            · have hne : ys ≠ [] := by intro q; rw [q] at hmy; simp at hmy; exact h0 hmy
              obtain ⟨ad, rfl, hc⟩ := hnA hne
              have := run_loadCells_list (P := P) (w := w) ad (news.take (mm * tt.width)) (fun j u hj => hc j u (by
                rw [List.getElem?_take] at hj
                split at hj
                · exact hj
                · cases hj))
              have hl : (news.take (mm * tt.width)).length = mm * n := by
                rw [List.length_take, hnews.1, hw, Nat.min_eq_left (Nat.mul_le_mul_right _ hmy)]
              rw [hl] at this
              simpa [Builtin.firstCells] using this
          have hlen : (Builtin.lenOf (a.eval y)).run P w = .ok ys.length w := by rw [hyv]; rfl
          have hrowN := hnews.take mm
          have hcl : (news.take (mm * tt.width)).length = mm * tt.width := by rw [List.length_take, hnews.1, Nat.min_eq_left (Nat.mul_le_mul_right _ hmy)]
          rcases hR.st b _ hk with ⟨_, hone', ⟨q1, rfl⟩ | ⟨g, cap, cur, xs, q1, q2, q3, q4, q5, q6, q7, q8, q9⟩⟩
          · have hm0 : mm = 0 := by simpa using hml
            subst hm0
            refine ⟨_, _, φ, ψ, S, .int .i64 (0 : Nat), w, h, ?_, ?_, ?_, Evo.refl _ _ _ _, rfl, ⟨[_], rfl⟩, rfl⟩
            · have hxv' := hxv.trans q1
              have e1 : Nat.min ys.length 0 = 0 := hmm
              simp [Builtin.copy_, run_underlying ht, hxv', hlen, e1, szOf_run hn, hfirst, goInt]
            · have : (lst ys).take ([] : List tt.den).length ++ ([] : List tt.den).drop ys.length = [] := by simp
              have e2 : (List.take ([] : List tt.den).length ys ++ List.drop ys.length ([] : List tt.den)) = [] := this
              rw [e2]
              refine hR.upd (Evo.refl _ _ _ _) rfl rfl (fun p v e e0 => by rw [e] at e0; cases e0) hR.sw (Below.refl _ _) (fun b' k' e' => ?_) (fun b1 k1 b2 k2 g e1 e2 n1 n2 f1 f2 => ?_)
              · by_cases hb : b = b'
                · subst hb
                  rw [look_cons_eq] at e'
                  obtain rfl := Option.some.inj e'
                  exact .inl ⟨hk, fun g f => ⟨rfl, fun _ _ => rfl⟩⟩
                · rw [look_cons_ne _ _ hb] at e'
                  exact .inl ⟨e', fun g _ => ⟨rfl, fun _ _ => rfl⟩⟩
              · have hb : ∀ b1 k, look ((b, Blk.mrow e' tt []) :: s.st) b1 = some k → look s.st b1 ≠ some k → b = b1 := by
                  intro b1 k e n
                  by_cases hb : b = b1
                  · exact hb
                  · rw [look_cons_ne _ _ hb] at e; exact absurd e n
                rw [← hb b1 k1 e1 n1, ← hb b2 k2 e2 n2]
            · show ARel φ ψ S _ (i64 (Nat.min ys.length ([] : List tt.den).length)) _
              have e1 : Nat.min ys.length ([] : List tt.den).length = 0 := hmm
              rw [e1]; rfl
          · have hxv' := hxv.trans q1
            have hcap := Nat.mul_le_mul_right tt.width q4
            have hmw := Nat.mul_le_mul_right tt.width hml
            have hstore := run_storeCells_at (P := P) g 0 e' (news.take (mm * tt.width)) 0 cur w q3 (by rw [hcl, q6]; omega) hrowN.oneCell
            simp only [Nat.add_zero, Nat.zero_add, List.take_zero, List.nil_append] at hstore
            have hl' : ((lst ys).take l.length ++ l.drop ys.length).length = l.length := by
              have hlst : (lst ys).length = ys.length := rfl
              simp only [List.length_append, List.length_take, List.length_drop]; omega
            have hput := mrow_put hR hk (l' := (lst ys).take l.length ++ l.drop ys.length) q1 q3 (nv := news.take (mm * tt.width) ++ cur.toList.drop (news.take (mm * tt.width)).length) (by
                rw [List.length_append, List.length_drop, hcl, Array.length_toList, q6]; omega) hl' (by
                have e1 : (lst ys).take l.length ++ l.drop ys.length = (lst ys).take mm ++ l.drop mm := by
                  rw [← hmm]
                  rcases Nat.le_total ys.length l.length with q | q
                  · have : Nat.min ys.length l.length = ys.length := Nat.min_eq_left q
                    rw [this, List.take_of_length_le q, List.take_of_length_le (Nat.le_refl _)]
                  · have : Nat.min ys.length l.length = l.length := Nat.min_eq_right q
                    rw [this, List.drop_of_length_le q, List.drop_of_length_le (Nat.le_refl _)]
                have e2 : (news.take (mm * tt.width) ++ cur.toList.drop (news.take (mm * tt.width)).length).take (((lst ys).take l.length ++ l.drop ys.length).length * tt.width) = news.take (mm * tt.width) ++ xs.drop (mm * tt.width) := by
                  rw [hl', List.take_append, hcl, List.take_of_length_le (by rw [hcl]; exact hmw), ← q7, List.drop_take]
                rw [e2, e1]
                exact hrowN.append (q8.drop mm))
            refine ⟨_, _, φ, ψ, S, .int .i64 (mm : Nat), _, h, ?_, hput, ?_, Evo.refl _ _ _ _, rfl, ⟨[_], rfl⟩, rfl⟩
            · have e1 : Nat.min ys.length l.length = mm := hmm
              simp [Builtin.copy_, run_underlying ht, hxv', hlen, e1, szOf_run hn, hfirst, goInt, hstore]
            · show ARel φ ψ S _ (i64 (Nat.min ys.length l.length)) _
              rw [hmm]; rfl
        · cases h
      · cases h
    · cases h
  · cases h
def Stays (base : Nat) (w0 : World) (S0 : Mem) (φ : Nat → Nat) (ψ : Nat → Value) (S : Mem) (s : St) (a : Act) (w : World) (s' : St) : Prop :=
  ∃ S', Rl base w0 S0 φ ψ S' s' a w ∧ Evo φ ψ S s.n φ ψ S' s'.n ∧ s'.tm = s.tm ∧ (∃ pre, s'.st = pre ++ s.st) ∧ s'.nt = s.nt ∧ s'.n = s.n
theorem Stays.refl (hR : Rl base w0 S0 φ ψ S s a w) : Stays base w0 S0 φ ψ S s a w s := ⟨S, hR, Evo.refl _ _ _ _, rfl, ⟨[], rfl⟩, rfl, rfl⟩
theorem Stays.trans {s' s'' : St} (h : Stays base w0 S0 φ ψ S s a w s') (k : ∀ S', Rl base w0 S0 φ ψ S' s' a w → Stays base w0 S0 φ ψ S' s' a w s'') : Stays base w0 S0 φ ψ S s a w s'' := by
  obtain ⟨S', h1, h2, h3, ⟨p, h4⟩, h5, h6⟩ := h
  obtain ⟨S2, k1, k2, k3, ⟨q, k4⟩, k5, k6⟩ := k S' h1
  exact ⟨S2, k1, h2.trans k2, k3.trans h3, ⟨q ++ p, by rw [k4, h4, List.append_assoc]⟩, k5.trans h5, k6.trans h6⟩
theorem frzC_sound (hR : Rl base w0 S0 φ ψ S s a w) (c : CV) : Stays base w0 S0 φ ψ S s a w (s.frzC c) := by
  have key : ∀ b, Stays base w0 S0 φ ψ S s a w (match look s.st b with
      | some (.mrow e t l) => { s with st := (b, .row e t l) :: s.st }
      | _ => s) := by
    intro b
    split
    · rename_i e t l hk
      obtain ⟨h1, h2, h3⟩ := hR.st b _ hk
      have hb : ∀ (k0 : Blk) b1 k, look ((b, k0) :: s.st) b1 = some k → look s.st b1 ≠ some k → b = b1 := by
        intro k0 b1 k e n
        by_cases hb : b = b1
        · exact hb
        · rw [look_cons_ne _ _ hb] at e; exact absurd e n
      rcases h3 with ⟨q1, rfl⟩ | ⟨g, cap, cur, xs, q1, q2, q3, q4, q5, q6, q7, q8, q9⟩
      · refine ⟨S, hR.upd (Evo.refl _ _ _ _) rfl rfl (fun p v e e0 => by rw [e] at e0; cases e0) hR.sw (Below.refl _ _) (fun b' k' e' => ?_) (fun b1 k1 b2 k2 g e1 e2 n1 n2 f1 f2 => ?_), Evo.refl _ _ _ _, rfl, ⟨[_], rfl⟩, rfl, rfl⟩
        · by_cases hb : b = b'
          · subst hb
            rw [look_cons_eq] at e'
            obtain rfl := Option.some.inj e'
            exact .inr ⟨h1, ⟨h2, .inl ⟨q1, rfl⟩⟩, fun g f => by simp [Blk.at, q1, Value.ownBlock] at f⟩
          · rw [look_cons_ne _ _ hb] at e'
            exact .inl ⟨e', fun g _ => ⟨rfl, fun _ _ => rfl⟩⟩
        · rw [← hb _ b1 k1 e1 n1, ← hb _ b2 k2 e2 n2]
      · have hat : (Blk.mrow e t l).at φ ψ b = some g := by simp [Blk.at, q1, Value.ownBlock]
        have hle : S.le (memAdd S g xs) := by
          intro p v e
          unfold memAdd
          split
          · rename_i hb
            obtain ⟨pb, po, ps⟩ := p
            simp only at hb; subst hb
            rw [q9] at e; cases e
          · exact e
        have ev : Evo φ ψ S s.n φ ψ (memAdd S g xs) s.n := ⟨Nat.le_refl _, fun _ _ => rfl, fun _ _ => rfl, hle⟩
        refine ⟨memAdd S g xs, hR.upd ev rfl rfl (fun p v e e0 => ?_) (fun p v hp => ?_) (Below.refl _ _) (fun b' k' e' => ?_) (fun b1 k1 b2 k2 g e1 e2 n1 n2 f1 f2 => ?_), ev, rfl, ⟨[_], rfl⟩, rfl, rfl⟩
        · unfold memAdd at e
          split at e
          · rename_i hb; rw [hb]; exact ⟨q2, _, _, q3⟩
          · rw [e] at e0; cases e0
        · unfold memAdd at hp
          split at hp
          · rename_i hb
            obtain ⟨pb, po, ps⟩ := p
            simp only at hb; subst hb
            cases ps with
            | some z => cases hp
            | none =>
              simp only at hp
              rw [← q7, List.getElem?_take] at hp
              split at hp
              · simpa [World.cell?, q3] using hp
              · cases hp
          · exact hR.sw p v hp
        · by_cases hb : b = b'
          · subst hb
            rw [look_cons_eq] at e'
            obtain rfl := Option.some.inj e'
            refine .inr ⟨h1, ⟨h2, .inr ⟨g, cap, cur, xs, q1, q2, q3, q4, q5, q6, q7, q8.mono hle, fun off sp => ?_⟩⟩, fun g' f b2 k2 e2 e3 hne f2 => ?_⟩
            · unfold memAdd; simp only [if_true]; cases sp <;> rfl
            · have f : (Blk.mrow e t l).at φ ψ b = some g' := f
              exact hne (hR.apart b2 b _ _ g' e3 hk f2 f)
          · rw [look_cons_ne _ _ hb] at e'
            refine .inl ⟨e', fun g' f => ⟨rfl, fun off sp => ?_⟩⟩
            have hne : g' ≠ g := fun q => hb (hR.apart b b' _ _ g hk e' hat (by rw [f, q]))
            unfold memAdd; rw [if_neg hne]
        · rw [← hb _ b1 k1 e1 n1, ← hb _ b2 k2 e2 n2]
    · exact Stays.refl hR
  unfold St.frzC
  split
  · exact key _
  · exact key _
  · exact Stays.refl hR
theorem frzL_sound : ∀ (l : List CV) {S : Mem} {s : St}, Rl base w0 S0 φ ψ S s a w → Stays base w0 S0 φ ψ S s a w (s.frzL l)
  | [], _, _, hR => Stays.refl hR
  | c :: l, _, _, hR => (frzC_sound hR c).trans fun _ hR' => frzL_sound l hR'
theorem frz_sound (hR : Rl base w0 S0 φ ψ S s a w) (v : AV) : Stays base w0 S0 φ ψ S s a w (s.frz v) := by
  cases v with
  | one c => exact frzC_sound hR c
  | agg l => exact frzL_sound l hR
  | tup l =>
    show Stays base w0 S0 φ ψ S s a w (l.foldl (fun s p => s.frzL p.2) s)
    induction l generalizing S s with
    | nil => exact Stays.refl hR
    | cons p l ih => exact (frzL_sound p.2 hR).trans fun _ hR' => ih hR'
theorem frzArgs_sound : ∀ (l : List Operand) (s0 : St) {S : Mem} {s : St}, Rl base w0 S0 φ ψ S s a w → Stays base w0 S0 φ ψ S s a w (l.foldl (fun s x => s.frz (aval s x)) s)
  | [], _, _, _, hR => Stays.refl hR
  | x :: l, s0, _, s, hR => (frz_sound hR (aval s x)).trans fun _ hR' => frzArgs_sound l s0 hR'
theorem frzOp_sound {Γ : FuncId → Option Sig} (o : Op) (hR : Rl base w0 S0 φ ψ S s a w) : Stays base w0 S0 φ ψ S s a w (frzOp Γ o s) := by
  unfold frzOp
  split
  · split
    · exact Stays.refl hR
    · exact frz_sound hR _
  · split
    · split
      · exact frz_sound hR _
      · exact Stays.refl hR
    · split
      · exact frz_sound hR _
      · exact Stays.refl hR
    · split
      · split
        · exact frzArgs_sound _ s hR
        · exact Stays.refl hR
      · exact Stays.refl hR
    · exact Stays.refl hR
  · exact Stays.refl hR
theorem frzPl_sound : ∀ (l : List Place) {S : Mem} {s : St}, Rl base w0 S0 φ ψ S s a w → Stays base w0 S0 φ ψ S s a w (frzPl s l)
  | [], _, _, hR => Stays.refl hR
  | p :: l, S, s, hR => by
    have h1 : Stays base w0 S0 φ ψ S s a w (p.frz s) := by
      unfold Place.frz
      split
      · exact frz_sound hR _
      · split
        · exact frzL_sound _ hR
        · exact Stays.refl hR
      · exact frz_sound hR _
      · split
        · exact frzL_sound _ hR
        · exact Stays.refl hR
      · exact Stays.refl hR
    exact h1.trans fun _ hR' => frzPl_sound l hR'
theorem evOp_sound {o : Oper} (hR : Rl base w0 S0 φ ψ S s a w) (h : evOp P o.op s K = some r) : Sound P base w0 S0 φ ψ S s a w K r o := by
  obtain ⟨dst, op, ty, pos, after, guard⟩ := o
  simp only at h
  cases op <;> simp only [evOp] at h
  case move x => exact ⟨_, _, h, Does.pure hR (u := a.eval x) rfl (hR.val x)⟩
  case assign x => exact ⟨_, _, h, Does.pure hR (u := a.eval x) rfl (hR.val x)⟩
  case pick => exact pick_sound hR h
  case box => exact box_sound hR h
  case alloc => exact alloc_sound hR h
  case build => exact build_sound hR h
  case load => exact load_sound hR h
  case store => exact store_sound hR h
  case nilCheck => exact nil_sound hR h
  case binOp => exact bin_sound hR h
  case unOp => exact un_sound hR h
  case convert => exact conv_sound hR h
  case makeFunc => exact fn_sound hR h
  case slice => exact slice_sound hR h
  case fieldAddr => exact fieldAddr_sound hR h
  case field => exact field_sound hR h
  case indexAddr => exact indexAddr_sound hR h
  case index => exact index_sound hR h
  case extract => exact extract_sound hR h
  case buildSlice => exact buildSlice_sound hR h
  case makeSlice => exact make_sound hR h
  all_goals cases h
end
end Go.Proofs.YtohlhliifeeokaaGreat.Ab
