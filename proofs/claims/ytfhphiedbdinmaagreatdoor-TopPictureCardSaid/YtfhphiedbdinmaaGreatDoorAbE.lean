import Derived.Test.YtfhphiedbdinmaaGreatDoorAbM
import Derived.Deep.AppendLies
import Derived.Deep.Upon
import Derived.Room.Entries
import Derived.Lib.AppendZerosOnto
set_option linter.all false
namespace Go.Proofs.YtfhphiedbdinmaaGreatDoor.Ab
open Go Go.RowKit
section
def memAdd (S : Mem) (g : Nat) (xs : List Value) : Mem := fun p => if p.block = g then (match p.spot with | none => xs[p.off]? | some _ => none) else S p
section
variable {P : Program} {base : Nat} {w0 : World} {S0 : Mem} {O : Nat -> Nat} {Z : Nat -> Value} {S : Mem} {s : St} {a : Act} {w : World}
variable {α : Type} {K : AV -> St -> Option α} {r : α} {dst : Option Tmp} {ty : TypeId} {pos : String} {after : Array Edge} {guard : Option (Nat × Bool)}
theorem Rl.dead (h : Rl base w0 S0 O Z S s a w) {b : Nat} {k : Blk} (hk : look s.st b = some k) : Rl base w0 S0 O Z S { s with st := (b, .dead) :: s.st } a w := by
 refine h.upd (Evo.refl _ _ _ _) rfl rfl (fun p v e e0 => by rw [e] at e0; cases e0) h.sw (Below.refl _ _) (fun b' k' e => ?_) (fun b1 k1 b2 k2 g e1 e2 n1 n2 f1 f2 => ?_)
 . by_cases hb : b = b'
   . subst hb
     rw [look_cons_eq] at e
     obtain rfl := Option.some.inj e
     exact .inr ⟨(h.st b k hk).1, trivial, fun g f => by cases f⟩
   . rw [look_cons_ne _ _ hb] at e
     exact .inl ⟨e, fun g _ => ⟨rfl, fun _ _ => rfl⟩⟩
 . have hb : ∀ b1 k, look ((b, Blk.dead) :: s.st) b1 = some k -> look s.st b1 ≠ some k -> b = b1 := by
    intro b1 k e n
    by_cases hb : b = b1
    . exact hb
    . rw [look_cons_ne _ _ hb] at e; exact absurd e n
   rw [<- hb b1 k1 e1 n1, <- hb b2 k2 e2 n2]
theorem Rl.addRow (h : Rl base w0 S0 O Z S s a w) {g cap : Nat} {cur : Array Value} {e : TypeId} {t : Ty} {l : List t.den} {xs : List Value} {w' : World} (hw : Below base w w')
 (hoth : ∀ k, k < w.heap.size -> k ≠ g -> w'.heap[k]? = w.heap[k]?) (hg : base <= g) (hheap : w'.heap[g]? = some (.cells cur e (0, 0))) (hlen : l.length <= cap) (hcap : cap <= maxLen) (hsz : cur.size = cap * t.width)
 (htake : cur.toList.take (l.length * t.width) = xs) (hrow : RowList S t l xs) (hS : ∀ off sp v, S ⟨g, off, sp⟩ = some v -> sp = none /\ xs[off]? = some v) (hfree : ∀ b k, look s.st b = some k -> k.at O Z b ≠ some g) :
 ∃ Z' S', Rl base w0 S0 O Z' S' (rowBlk s e t l) a w' /\ ARel O Z' S' (s.n + 1) (.one (.row s.n)) (.slice (some ⟨g, 0, none⟩) l.length cap) /\ Evo O Z S s.n O Z' S' (s.n + 1) := by
 have hle : S.le (memAdd S g xs) := by
  intro p v e
  unfold memAdd
  split
  . rename_i hb
    obtain ⟨pb, po, ps⟩ := p
    simp only at hb; subst hb
    obtain ⟨rfl, h2⟩ := hS _ _ _ e
    exact h2
  . exact e
 have ev : Evo O Z S s.n O (fun b => if b = s.n then .slice (some ⟨g, 0, none⟩) l.length cap else Z b) (memAdd S g xs) (s.n + 1) :=
  ⟨Nat.le_succ _, fun _ _ => rfl, fun b hb => if_neg (by omega), hle⟩
 refine ⟨_, _, ?_, ?_, ev⟩
 . refine h.upd ev rfl rfl (fun p v e e0 => ?_) (fun p v hp => ?_) hw (fun b k' e' => ?_) (fun b k1 b2 k2 g' e1 e2 n1 n2 f1 f2 => ?_)
   . unfold memAdd at e
     split at e
     . rename_i hb; rw [hb]; exact hg
     . rw [e] at e0; cases e0
   . unfold memAdd at hp
     split at hp
     . rename_i hb
       obtain ⟨pb, po, ps⟩ := p
       simp only at hb; subst hb
       cases ps with
       | some z => cases hp
       | none =>
         simp only at hp
         rw [<- htake, List.getElem?_take] at hp
         split at hp
         . simpa [World.cell?, hheap] using hp
         . cases hp
     . rename_i hb
       have h1 := h.sw p v hp
       rw [World.cell?_of_block (w := w) (hoth _ (World.block_lt_of_cell? w _ h1) hb)]; exact h1
   . by_cases hb : s.n = b
     . subst hb
       have e' : look ((s.n, Blk.row e t l) :: s.st) s.n = some k' := e'
       rw [look_cons_eq] at e'
       obtain rfl := Option.some.inj e'
       refine .inr ⟨Nat.lt_succ_self _, ⟨by simp [Value.oneCell'], .inr ⟨g, cap, cur, xs, by simp, hg, hheap, hlen, hcap, hsz, htake, hrow.mono hle, fun off sp => ?_⟩⟩, fun g' f b2 k2 e2 e3 hne f2 => ?_⟩
       . unfold memAdd; simp only [if_true]; cases sp <;> rfl
       . simp [Blk.at, Value.ownBlock] at f
         subst f
         exact hfree b2 k2 e3 f2
     . have e' : look ((s.n, Blk.row e t l) :: s.st) b = some k' := e'
       rw [look_cons_ne _ _ hb] at e'
       refine .inl ⟨e', fun g' f => ?_⟩
       have hne : g' ≠ g := fun q => hfree b k' e' (q ▸ f)
       refine ⟨hoth g' ((h.st b k' e').2.lt f).1 hne, fun off sp => ?_⟩
       unfold memAdd; rw [if_neg hne]
   . have hb : ∀ b k, look ((s.n, Blk.row e t l) :: s.st) b = some k -> look s.st b ≠ some k -> s.n = b := by
      intro b k e n
      by_cases hb : s.n = b
      . exact hb
      . rw [look_cons_ne _ _ hb] at e; exact absurd e n
     rw [<- hb b k1 e1 n1, <- hb b2 k2 e2 n2]
 . exact ⟨Nat.lt_succ_self _, by simp, rfl⟩
theorem Rl.addMrow (h : Rl base w0 S0 O Z S s a w) {g cap : Nat} {cur : Array Value} {e : TypeId} {t : Ty} {l : List t.den} {xs : List Value} {w' : World} (hw : Below base w w')
 (hoth : ∀ k, k < w.heap.size -> k ≠ g -> w'.heap[k]? = w.heap[k]?) (hg : base <= g) (hheap : w'.heap[g]? = some (.cells cur e (0, 0))) (hlen : l.length <= cap) (hcap : cap <= maxLen) (hsz : cur.size = cap * t.width)
 (htake : cur.toList.take (l.length * t.width) = xs) (hrow : RowList S t l xs) (hS : ∀ off sp, S ⟨g, off, sp⟩ = none) (hfree : ∀ b k, look s.st b = some k -> k.at O Z b ≠ some g) :
 ∃ Z', Rl base w0 S0 O Z' S (mrowBlk s e t l) a w' /\ ARel O Z' S (s.n + 1) (.one (.row s.n)) (.slice (some ⟨g, 0, none⟩) l.length cap) /\ Evo O Z S s.n O Z' S (s.n + 1) := by
 have ev : Evo O Z S s.n O (fun b => if b = s.n then .slice (some ⟨g, 0, none⟩) l.length cap else Z b) S (s.n + 1) :=
  ⟨Nat.le_succ _, fun _ _ => rfl, fun b hb => if_neg (by omega), Mem.le_refl _⟩
 refine ⟨_, ?_, ?_, ev⟩
 . refine h.upd ev rfl rfl (fun p v e e0 => by rw [e] at e0; cases e0) (fun p v hp => ?_) hw (fun b k' e' => ?_) (fun b k1 b2 k2 g' e1 e2 n1 n2 f1 f2 => ?_)
   . have hb : p.block ≠ g := by
      intro q
      obtain ⟨pb, po, ps⟩ := p
      simp only at q; subst q
      rw [hS] at hp; cases hp
     have h1 := h.sw p v hp
     rw [World.cell?_of_block (w := w) (hoth _ (World.block_lt_of_cell? w _ h1) hb)]; exact h1
   . by_cases hb : s.n = b
     . subst hb
       have e' : look ((s.n, Blk.mrow e t l) :: s.st) s.n = some k' := e'
       rw [look_cons_eq] at e'
       obtain rfl := Option.some.inj e'
       refine .inr ⟨Nat.lt_succ_self _, ⟨by simp [Value.oneCell'], .inr ⟨g, cap, cur, xs, by simp, hg, hheap, hlen, hcap, hsz, htake, hrow, hS⟩⟩, fun g' f b2 k2 e2 e3 hne f2 => ?_⟩
       simp [Blk.at, Value.ownBlock] at f
       subst f
       exact hfree b2 k2 e3 f2
     . have e' : look ((s.n, Blk.mrow e t l) :: s.st) b = some k' := e'
       rw [look_cons_ne _ _ hb] at e'
       refine .inl ⟨e', fun g' f => ?_⟩
       have hne : g' ≠ g := fun q => hfree b k' e' (q ▸ f)
       exact ⟨hoth g' ((h.st b k' e').2.lt f).1 hne, fun off sp => rfl⟩
   . have hb : ∀ b k, look ((s.n, Blk.mrow e t l) :: s.st) b = some k -> look s.st b ≠ some k -> s.n = b := by
      intro b k e n
      by_cases hb : s.n = b
      . exact hb
      . rw [look_cons_ne _ _ hb] at e; exact absurd e n
     rw [<- hb b k1 e1 n1, <- hb b2 k2 e2 n2]
 . exact ⟨Nat.lt_succ_self _, by simp, rfl⟩
theorem Rl.addM (h : Rl base w0 S0 O Z S s a w) {e : TypeId} {t : Ty} {l : List t.den} {v : Value} (h1 : v.oneCell' = true) (hm : MRel S base w v e t l) (hfree : ∀ g, v.ownBlock = some g -> ∀ b k, look s.st b = some k -> k.at O Z b ≠ some g) :
 ∃ Z', Rl base w0 S0 O Z' S (mrowBlk s e t l) a w /\ CRel O Z' S (s.n + 1) (.row s.n) v /\ Evo O Z S s.n O Z' S (s.n + 1) := by
 have ev : Evo O Z S s.n O (fun b => if b = s.n then v else Z b) S (s.n + 1) := ⟨Nat.le_succ _, fun _ _ => rfl, fun b hb => if_neg (by omega), Mem.le_refl _⟩
 refine ⟨_, ?_, ?_, ev⟩
 . refine h.upd ev rfl rfl (fun p v e e0 => by rw [e] at e0; cases e0) h.sw (Below.refl _ _) (fun b k' e' => ?_) (fun b k1 b2 k2 g' e1 e2 n1 n2 f1 f2 => ?_)
   . by_cases hb : s.n = b
     . subst hb
       have e' : look ((s.n, Blk.mrow e t l) :: s.st) s.n = some k' := e'
       rw [look_cons_eq] at e'
       obtain rfl := Option.some.inj e'
       refine .inr ⟨Nat.lt_succ_self _, ⟨by simp [h1], by simpa using hm⟩, fun g' f b2 k2 e2 e3 hne f2 => ?_⟩
       refine hfree g' ?_ b2 k2 e3 f2
       simpa only [Blk.at, if_true] using f
     . have e' : look ((s.n, Blk.mrow e t l) :: s.st) b = some k' := e'
       rw [look_cons_ne _ _ hb] at e'
       exact .inl ⟨e', fun g' f => ⟨rfl, fun off sp => rfl⟩⟩
   . have hb : ∀ b k, look ((s.n, Blk.mrow e t l) :: s.st) b = some k -> look s.st b ≠ some k -> s.n = b := by
      intro b k e n
      by_cases hb : s.n = b
      . exact hb
      . rw [look_cons_ne _ _ hb] at e; exact absurd e n
     rw [<- hb b k1 e1 n1, <- hb b2 k2 e2 n2]
 . exact ⟨Nat.lt_succ_self _, by simp, h1⟩
def SFree (m : Bool) (S : Mem) (g : Nat) (xs : List Value) : Prop := match m with
 | true => ∀ off sp, S ⟨g, off, sp⟩ = none
 | false => ∀ off sp v, S ⟨g, off, sp⟩ = some v -> sp = none /\ xs[off]? = some v
theorem Rl.addBlk (m : Bool) (h : Rl base w0 S0 O Z S s a w) {g cap : Nat} {cur : Array Value} {e : TypeId} {t : Ty} {l : List t.den} {xs : List Value} {w' : World} (hw : Below base w w')
 (hoth : ∀ k, k < w.heap.size -> k ≠ g -> w'.heap[k]? = w.heap[k]?) (hg : base <= g) (hheap : w'.heap[g]? = some (.cells cur e (0, 0))) (hlen : l.length <= cap) (hcap : cap <= maxLen) (hsz : cur.size = cap * t.width)
 (htake : cur.toList.take (l.length * t.width) = xs) (hrow : RowList S t l xs) (hS : SFree m S g xs) (hfree : ∀ b k, look s.st b = some k -> k.at O Z b ≠ some g) :
 ∃ Z' S', Rl base w0 S0 O Z' S' (blkM m s e t l) a w' /\ ARel O Z' S' (s.n + 1) (.one (.row s.n)) (.slice (some ⟨g, 0, none⟩) l.length cap) /\ Evo O Z S s.n O Z' S' (s.n + 1) := by
 cases m with
 | true =>
   obtain ⟨Z', h1⟩ := h.addMrow hw hoth hg hheap hlen hcap hsz htake hrow hS hfree
   exact ⟨Z', S, h1⟩
 | false => exact h.addRow hw hoth hg hheap hlen hcap hsz htake hrow hS hfree
theorem fresh_blk (m : Bool) (hR : Rl base w0 S0 O Z S s a w) (xs : List Value) : SFree m S w.heap.size xs := by
 cases m with
 | true => exact fresh_mem hR
 | false => intro off sp v e; rw [fresh_mem hR] at e; cases e
theorem blkM_n (m : Bool) (s : St) (e : TypeId) (t : Ty) (l : List t.den) : (blkM m s e t l).n = s.n + 1 := by cases m <;> rfl
theorem blkM_tm (m : Bool) (s : St) (e : TypeId) (t : Ty) (l : List t.den) : (blkM m s e t l).tm = s.tm := by cases m <;> rfl
theorem blkM_nt (m : Bool) (s : St) (e : TypeId) (t : Ty) (l : List t.den) : (blkM m s e t l).nt = s.nt := by cases m <;> rfl
theorem blkM_st (m : Bool) (s : St) (e : TypeId) (t : Ty) (l : List t.den) : ∃ k, (blkM m s e t l).st = (s.n, k) :: s.st := by cases m <;> exact ⟨_, rfl⟩
theorem mem_fresh (hR : Rl base w0 S0 O Z S s a w) (xs : List Value) : ∀ off sp v, S ⟨w.heap.size, off, sp⟩ = some v -> sp = none /\ xs[off]? = some v := by
 intro off sp v e; rw [fresh_mem hR] at e; cases e
theorem free_fresh (hR : Rl base w0 S0 O Z S s a w) : ∀ b k, look s.st b = some k -> k.at O Z b ≠ some w.heap.size := by
 intro b k e f
 have := ((hR.st b k e).2.lt f).1
 omega
theorem any_zero {n : Nat} : ∀ {vs : List Value}, (∀ v ∈ vs, v.oneCell' = true) -> All2 (CRel O Z S n) (List.replicate vs.length .any) vs
 | [], _ => trivial
 | v :: vs, h => ⟨h v (by simp), any_zero (fun u hu => h u (by simp [hu]))⟩
theorem partsR_rel (hR : Rl base w0 S0 O Z S s a w) : ∀ (l : List (Nat × Operand)), All2 (fun p q => p.1 = q.1 /\ ARel O Z S s.n p.2 q.2) (l.map fun p => (p.1, avalR s p.2)) (l.map fun p => (p.1, a.eval p.2))
 | [] => trivial
 | p :: l => ⟨⟨rfl, hR.valR p.2⟩, partsR_rel hR l⟩
theorem buildSlice_sound {t : TypeId} {len : Nat} {parts : Array (Nat × Operand)} (hR : Rl base w0 S0 O Z S s a w) (h : evBuildSlice P t len parts s K = some r) : Sound P base w0 S0 O Z S s a w K r ⟨dst, .buildSlice t len parts, ty, pos, after, guard⟩ := by
 unfold evBuildSlice at h
 split at h
 . rename_i e ht
   split at h
   . rename_i n z tt hn hz htt
     split at h
     . rename_i hb
       simp only [Bool.and_eq_true] at hb
       obtain ⟨⟨⟨h1, h2⟩, h3⟩, h4⟩ := hb
       have h1 := Nat.eq_of_beq_eq_true h1
       have h2 := Nat.eq_of_beq_eq_true h2
       have h3 := Nat.le_of_ble_eq_true h3
       split at h
       . rename_i c hc
         split at h
         . rename_i l hl
           obtain ⟨zs, hzs⟩ : ∃ zs : List Value, ((Array.range (len * (n + 1))).map (z.cells[· % z.cells.size]!)) = zs.toArray := ⟨_, Array.toArray_toList.symm⟩
           have hzl : zs.length = len * (n + 1) := by have := congrArg Array.size hzs; simpa using this.symm
           have hzo : ∀ v ∈ zs, v.oneCell' = true := by
            intro v hv
            have hv : v ∈ ((Array.range (len * (n + 1))).map (z.cells[· % z.cells.size]!)) := by rw [hzs]; simpa using hv
            obtain ⟨j, hj, rfl⟩ := Array.mem_map.1 hv
            have hlt : j % z.cells.size < z.cells.size := Nat.mod_lt _ (by omega)
            rw [getElem!_pos z.cells _ hlt]
            exact List.all_eq_true.1 h4 _ (by simp)
           have hza := any_zero (O := O) (Z := Z) (S := S) (n := s.n) hzo
           rw [hzl] at hza
           obtain ⟨vs, g1, g2⟩ := fill_rel hc (partsR_rel hR parts.toList) hza
           obtain ⟨g3, g4⟩ := unRow_rel hl g2
           have hvl : vs.length = len * (n + 1) := by rw [g4.1, g3, h1]
           have hnew : (w.alloc (.cells vs.toArray e)).heap[w.heap.size]? = some (.cells vs.toArray e (0, 0)) := by
            show (w.heap.push _)[w.heap.size]? = _; simp
           obtain ⟨Z', S', k1, k2, k3⟩ := hR.addRow (g := w.heap.size) (cap := l.length) (cur := vs.toArray) (e := e) (t := tt) (l := l) (xs := vs) (w' := w.alloc (.cells vs.toArray e)) ((Below.refl base w).alloc hR.bsz _)
            (fun k hk _ => Below.heap_alloc w _ _ hk) hR.bsz hnew (Nat.le_refl _) (by rw [g3]; unfold maxLen; have := Nat.le_mul_of_pos_right len (show 0 < n + 1 by omega); omega) (by simp [g4.1])
            (by simp; rw [<- g4.1]; exact List.take_length) g4 (mem_fresh hR _) (free_fresh hR)
           refine ⟨_, _, h, O, Z', S', _, _, .inl (run_v _ _ _ ?_), k1, k2, k3, rfl, ⟨[_], rfl⟩, rfl⟩
           have hle : ¬ (len * (n + 1) > 2 ^ 24) := by omega
           have g1' : Instr.fill (fun i => some (i * (n + 1), n + 1)) zs.toArray (List.map (fun x => (x.1, a.eval x.2)) parts.toList) = some vs.toArray := g1
           unfold Instr.buildSlice
           rw [Sem.run_bind, run_underlying ht]; simp only [Result.andThen_ok]
           rw [Sem.run_bind, szOf_run hn]; simp only [Result.andThen_ok]
           rw [if_neg hle]
           by_cases h0 : len * n.succ = 0
           . rw [if_pos h0]
             have hq : ((Array.range (len * n.succ)).map fun x => (#[] : Array Value)[x % (#[] : Array Value).size]!) = zs.toArray := by
              rw [<- hzs, show len * n.succ = 0 from h0]; simp
             simp only [Sem.run_bind, Sem.run_pure, Result.andThen_ok, hq, Array.toList_map, g1', g3]
             rfl
           . rw [if_neg h0]
             have hq : ((Array.range (len * n.succ)).map fun x => z.cells[x % z.cells.size]!) = zs.toArray := hzs
             simp only [Sem.run_bind, zeroOf_run hz, Sem.run_pure, Result.andThen_ok, hq, Array.toList_map, g1', g3]
             rfl
         . cases h
       . cases h
     . cases h
   . rename_i z hn hz htt
     split at h
     . rename_i hb
       simp only [Bool.and_eq_true] at hb
       obtain ⟨⟨h2, h3⟩, h4⟩ := hb
       have h2 := Nat.eq_of_beq_eq_true h2
       have h3 := Nat.le_of_ble_eq_true h3
       split at h
       . rename_i c hc
         obtain ⟨zs, hzs⟩ : ∃ zs : List Value, ((Array.range len).map (z.cells[· % z.cells.size]!)) = zs.toArray := ⟨_, Array.toArray_toList.symm⟩
         have hzl : zs.length = len := by have := congrArg Array.size hzs; simpa using this.symm
         have hzo : ∀ v ∈ zs, v.oneCell' = true := by
          intro v hv
          have hv : v ∈ ((Array.range len).map (z.cells[· % z.cells.size]!)) := by rw [hzs]; simpa using hv
          obtain ⟨j, hj, rfl⟩ := Array.mem_map.1 hv
          have hlt : j % z.cells.size < z.cells.size := Nat.mod_lt _ (by omega)
          rw [getElem!_pos z.cells _ hlt]
          exact List.all_eq_true.1 h4 _ (by simp)
         have hza := any_zero (O := O) (Z := Z) (S := S) (n := s.n) hzo
         rw [hzl] at hza
         obtain ⟨vs, g1, g2⟩ := fill_rel hc (partsR_rel hR parts.toList) hza
         obtain ⟨O', k1, k2, k3⟩ := hR.new g2 e
         refine ⟨_, _, h, O', Z, S, _, _, .inl (run_v _ _ _ ?_), k1, ⟨Nat.lt_succ_self _, Nat.le_refl _, rfl⟩, k3, rfl, ⟨[_], rfl⟩, rfl⟩
         rw [k2]
         have hle : ¬ (len * 1 > 2 ^ 24) := by omega
         have g1' : Instr.fill (fun i => some (i * 1, 1)) zs.toArray (List.map (fun x => (x.1, a.eval x.2)) parts.toList) = some vs.toArray := by
          simp only [Nat.mul_one]; exact g1
         unfold Instr.buildSlice
         rw [Sem.run_bind, run_underlying ht]; simp only [Result.andThen_ok]
         rw [Sem.run_bind, szOf_run hn]; simp only [Result.andThen_ok]
         rw [if_neg hle]
         by_cases h0 : len * 1 = 0
         . rw [if_pos h0]
           have hq : ((Array.range (len * 1)).map fun x => (#[] : Array Value)[x % (#[] : Array Value).size]!) = zs.toArray := by
            rw [<- hzs, show len = 0 by omega]; simp
           simp only [Sem.run_bind, Sem.run_pure, Result.andThen_ok, hq, Array.toList_map, g1']
           rfl
         . rw [if_neg h0]
           have hq : ((Array.range (len * 1)).map fun x => z.cells[x % z.cells.size]!) = zs.toArray := by rw [Nat.mul_one]; exact hzs
           simp only [Sem.run_bind, zeroOf_run hz, Sem.run_pure, Result.andThen_ok, hq, Array.toList_map, g1']
           rfl
       . cases h
     . cases h
   . cases h
 . cases h
theorem sl_inv {t : Ty} {l : List t.den} {v : Value} (h : Reps S (.sl t) l [v]) (hw : ∀ p v, S p = some v -> w.cell? p = some v) : ∃ A c news, v = .slice A l.length c /\ RowList S t l news /\ (l ≠ [] -> ∃ ad, A = some ad /\ ∀ j u, news[j]? = some u -> w.cell? (ad.add j) = some u) := by
 obtain ⟨A, c, e, hc, hel⟩ := h
 simp at e
 cases l with
 | nil => exact ⟨A, c, [], by rw [e], RowList.nil S t, fun h => absurd rfl h⟩
 | cons x l =>
   obtain ⟨ad, us, rfl, _, _⟩ := hel 0 x rfl
   obtain ⟨xs, h1, h2⟩ := reps_row (S := S) (t := t) (ad := ad) (x :: l) 0 (fun i y hy => by
    obtain ⟨ad', us, e', k1, k2⟩ := hel i y hy
    cases e'
    exact ⟨us, k1, fun j u hj => by have := k2 j u hj; simpa using this⟩)
   exact ⟨some ad, c, xs, by rw [e], h1, fun _ => ⟨ad, rfl, fun j u hj => hw _ _ (by have := h2 j u hj; simpa using this)⟩⟩
theorem src_of {t e : TypeId} {n : Nat} {sz : Nat} {v : Value} {l : Nat} {A : Option Addr} {c : Nat} {news : List Value} (ht : P.underlying t = some (.slice e)) (hv : v = .slice A l c) (hlen : news.length = l * sz) (h1 : ∀ u ∈ news, u.oneCell' = true)
 (hA : 0 < l -> ∃ ad, A = some ad /\ ∀ j u, news[j]? = some u -> w.cell? (ad.add j) = some u) : Src P sz t v l news w := by
 subst hv
 have key : ∀ w' : World, (∀ p, w'.cell? p = w.cell? p) -> (Builtin.firstCells sz l (.slice A l c)).run P w' = .ok news.toArray w' := by
  intro w' hw
  by_cases hl : l = 0
  . subst hl
    have : news = [] := List.length_eq_zero_iff.1 (by rw [hlen]; simp)
    subst this
    cases A <;> simp [Builtin.firstCells, loadCells, loadCellsFrom]
  . obtain ⟨ad, rfl, hc⟩ := hA (by omega)
    have := run_loadCells_list (P := P) (w := w') ad news (fun j u hj => by rw [hw]; exact hc j u hj)
    rw [hlen] at this
    simpa [Builtin.firstCells] using this
 exact ⟨.inl ⟨e, ht⟩, fun w' => rfl, key w (fun _ => rfl), key w.drew (fun _ => rfl), hlen, h1⟩
theorem append_room {t rt e : TypeId} {i : TypeInfo} (ht : P.underlying t = some (.slice e)) (hi : P.info? e = some i) {g n cap m : Nat} {cur : Array Value} {y : Value} {news : List Value} (hs : Src P i.size t y m news w)
 (hg : w.heap[g]? = some (.cells cur e (0, 0))) (hroom : n + m <= cap) (hsz : cur.size = cap * i.size) :
 (Builtin.append_ #[t, t] rt #[.slice (some ⟨g, 0, none⟩) n cap, y]).run P w = .ok (.slice (some ⟨g, 0, none⟩) (n + m) cap) (w.setRow g (cur.toList.take (n * i.size) ++ news ++ cur.toList.drop (n * i.size + news.length)).toArray) := by
 have hle : n * i.size + news.length <= cur.size := by rw [hs.newsLen, hsz, <- Nat.add_mul]; exact Nat.mul_le_mul_right _ hroom
 have hst := run_storeCells_at (P := P) g (n * i.size) e news 0 cur w hg (by omega) hs.one
 simp only [Nat.add_zero] at hst
 simp [Builtin.append_, run_underlying ht, sizeOf, typeInfo, hi, hs.len, hroom, hs.cells, add_at, hst]
theorem softL_reps {u : Value} {ys : List ByteArray} (h : Reps S (.sl .str) ys [u]) : Reps S (.sl (.cons .str .nil)) (List.map (fun z => (z, ())) ys) [u] := by
 obtain ⟨A, c, e, hc, hel⟩ := h
 have hl : (lst (t := .cons .str .nil) (List.map (fun z => (z, ())) ys)).length = (lst (t := .str) ys).length := List.length_map ..
 refine ⟨A, c, by rw [hl]; exact e, by rw [hl]; exact hc, fun i x hx => ?_⟩
 have hx : (List.map (fun z => (z, ())) ys)[i]? = some x := hx
 rw [List.getElem?_map] at hx
 cases hy : ys[i]? with
 | none => rw [hy] at hx; cases hx
 | some y =>
   rw [hy] at hx
   obtain rfl := Option.some.inj hx
   obtain ⟨ad, us, e1, g1, g2⟩ := hel i y hy
   exact ⟨ad, us, e1, ⟨us, [], by simp, g1, rfl⟩, g2⟩
theorem softArg_rel (x : Operand) {v : AV} {u : Value} (h : ARel O Z S s.n v u) : ARel O Z S s.n (softArg s x v) u := by
 unfold softArg
 split
 . split
   . exact softL_reps h
   . exact h
 . exact h
theorem append_sound {t : TypeId} {x y : Operand} {rt : TypeId} (hR : Rl base w0 S0 O Z S s a w) (h : evAppend P t x y s K = some r) :
 ∃ v s' O' Z' S' u w', K v s' = some r /\ (Builtin.append_ #[t, t] rt #[a.eval x, a.eval y]).run P w = .ok u w' /\ Rl base w0 S0 O' Z' S' s' a w' /\ ARel O' Z' S' s'.n v u /\ Evo O Z S s.n O' Z' S' s'.n /\ s'.tm = s.tm /\ (∃ pre, s'.st = pre ++ s.st) /\ s'.nt = s.nt := by
 unfold evAppend at h
 split at h
 . rename_i e ht
   split at h
   . rename_i i hi
     split at h
     . rename_i z hz
       have stay : ∀ (A : Option Addr) (c : Nat), a.eval y = .slice A 0 c -> ∀ (B : Option Addr) (n cap : Nat), n <= cap -> a.eval x = .slice B n cap -> (Builtin.append_ #[t, t] rt #[a.eval x, a.eval y]).run P w = .ok (a.eval x) w := by
        intro A c hy B n cap hn hx
        rw [hx]
        exact run_append_nothing w t t rt e i ht hi B n cap hn _ (src_of (news := []) (A := A) (c := c) (n := 0) ht hy (by simp) (by simp) (fun h => absurd h (by omega)))
       split at h
       . rename_i tt ys hy
         split at h
         . rename_i hb
           simp only [Bool.and_eq_true] at hb
           obtain ⟨⟨⟨b1, b2⟩, b3⟩, b4⟩ := hb
           have b1 := Nat.eq_of_beq_eq_true b1
           have b2 := Nat.eq_of_beq_eq_true b2
           have b3 : 0 < i.size := Nat.le_of_ble_eq_true b3
           have b4 : 0 < i.bytes := Nat.le_of_ble_eq_true b4
           have hyr := softArg_rel x (hR.valR y); rw [hy] at hyr
           obtain ⟨A, c, news, hyv, hnews, hnA⟩ := sl_inv hyr hR.sw
           have hsrc : Src P i.size t (a.eval y) ys.length news w := src_of (n := 0) ht hyv (by rw [hnews.1, b1]) hnews.oneCell (fun hp => hnA (fun q => by rw [q] at hp; simp at hp))
           -- a new row, its elements out of an old one and the others
           have grow : ∀ (m : Bool) (B : Option Addr) (n cap : Nat) (xs : List Value) (l : List tt.den), a.eval x = .slice B n cap -> n = l.length -> n <= cap -> RowList S tt l xs -> (∀ w' : World, (∀ p, w'.cell? p = w.cell? p) -> (Builtin.firstCells i.size n (.slice B n cap)).run P w' = .ok xs.toArray w') ->
            cap < n + ys.length -> (n + ys.length) * i.bytes <= 140737488355328 -> ∀ s1 : St, Rl base w0 S0 O Z S s1 a w -> s1.n = s.n ->
            ∃ Z' S' u w', (Builtin.append_ #[t, t] rt #[a.eval x, a.eval y]).run P w = .ok u w' /\ Rl base w0 S0 O Z' S' (blkM m s1 e tt (l ++ ys)) a w' /\ ARel O Z' S' (s1.n + 1) (.one (.row s1.n)) u /\ Evo O Z S s1.n O Z' S' (s1.n + 1) := by
            intro m B n cap xs l hx hn hnc hl hfirst hgt hbd s1 hR1 hsn
            have hmul := Nat.le_mul_of_pos_right (n + ys.length) b4
            have hmax : n + ys.length <= maxLen := by unfold maxLen; omega
            have hns := Go.Room.nextslicecap_le' hgt
            have hns2 := Nat.mul_le_mul_right i.bytes hns
            have hrun := run_append_grow_src (P := P) (w := w) t t rt e i z ht hi hz B n cap xs (hfirst w.drew (fun _ => rfl)) (a.eval y) ys.length news hsrc hgt (by omega) (by rw [Nat.mul_assoc] at hns2; omega)
            have hge := grownCap_ge w (n + ys.length) cap e
            have hmx := grownCap_le_maxLen w (n + ys.length) cap e hmax
            have hll : (l ++ ys).length = n + ys.length := by rw [List.length_append, hn]
            have hxl : (xs ++ news).length = (n + ys.length) * i.size := by rw [List.length_append, hl.1, hnews.1, <- hn, b1, Nat.add_mul]
            have hnew : (w.drew.alloc (.cells ((xs ++ news).toArray ++ Builtin.zeroCells z.cells (grownCap w (n + ys.length) cap e - (n + ys.length))) e)).heap[w.heap.size]? = some (.cells ((xs ++ news).toArray ++ Builtin.zeroCells z.cells (grownCap w (n + ys.length) cap e - (n + ys.length))) e (0, 0)) := by
             show (w.heap.push _)[w.heap.size]? = _; simp
            obtain ⟨Z', S', m1, m2, m3⟩ := hR1.addBlk m (g := w.heap.size) (cap := grownCap w (n + ys.length) cap e) (e := e) (t := tt) (l := l ++ ys) (xs := xs ++ news) ((Below.refl base w).drew.alloc (w := w.drew) hR.bsz _)
             (fun k hk _ => Below.heap_alloc w.drew _ _ hk) hR.bsz hnew (by rw [hll]; exact hge) hmx (by
              simp only [Array.size_append, List.size_toArray, size_zeroCells, hxl, b1, b2, <- Nat.add_mul]
              congr 1; omega) (by
              rw [hll, b1, <- hxl, Array.toList_append]
              exact List.take_left) (hl.append hnews) (fresh_blk m hR _) (free_fresh hR1)
            rw [hll] at m2
            exact ⟨Z', S', _, _, by rw [hx]; exact hrun, m1, m2, m3⟩
           have ownRow : ∀ (m : Bool) (b : Nat) (l : List tt.den), a.eval x = Z b -> b < s.n -> look s.st b = some (match m with | true => .mrow e tt l | false => .row e tt l) ->
            cond (Nat.beq ys.length 0) (K (.one (.row b)) s) (cond (decide ((l.length + ys.length) * i.bytes <= 140737488355328)) (K (.one (.row s.n)) (blkM m { s with st := (b, .dead) :: s.st } e tt (l ++ ys))) none) = some r ->
            ∃ v s' O' Z' S' u w', K v s' = some r /\ (Builtin.append_ #[t, t] rt #[a.eval x, a.eval y]).run P w = .ok u w' /\ Rl base w0 S0 O' Z' S' s' a w' /\ ARel O' Z' S' s'.n v u /\ Evo O Z S s.n O' Z' S' s'.n /\ s'.tm = s.tm /\ (∃ pre, s'.st = pre ++ s.st) /\ s'.nt = s.nt := by
            intro m b l hxv hbn hk h
            have hst : ∀ s1 : St, s1.st = (b, .dead) :: s.st -> ∃ pre, (blkM m s1 e tt (l ++ ys)).st = pre ++ s.st := by
             intro s1 h1
             obtain ⟨k, hk⟩ := blkM_st m s1 e tt (l ++ ys)
             exact ⟨[_, _], by rw [hk, h1]; rfl⟩
            have hdat : (Z b = .slice none 0 0 /\ l = []) \/ ∃ g cap cur xs, Z b = .slice (some ⟨g, 0, none⟩) l.length cap /\ base <= g /\ w.heap[g]? = some (.cells cur e (0, 0)) /\ l.length <= cap /\ cap <= maxLen /\ cur.size = cap * tt.width /\
             cur.toList.take (l.length * tt.width) = xs /\ RowList S tt l xs /\ (∀ news : List Value, SFree m S g (xs ++ news)) /\ (match m with | true => Blk.mrow e tt l | false => Blk.row e tt l).at O Z b = some g := by
             have hB := (hR.st b _ hk).2
             cases m with
             | true =>
               rcases hB with ⟨_, ⟨q1, q2⟩ | ⟨g, cap, cur, xs, q1, q2, q3, q4, q5, q6, q7, q8, q9⟩⟩
               . exact .inl ⟨q1, q2⟩
               . exact .inr ⟨g, cap, cur, xs, q1, q2, q3, q4, q5, q6, q7, q8, fun _ => q9, by simp [Blk.at, q1, Value.ownBlock]⟩
             | false =>
               rcases hB with ⟨_, ⟨q1, q2⟩ | ⟨g, cap, cur, xs, q1, q2, q3, q4, q5, q6, q7, q8, q9⟩⟩
               . exact .inl ⟨q1, q2⟩
               . refine .inr ⟨g, cap, cur, xs, q1, q2, q3, q4, q5, q6, q7, q8, fun news off sp u hu => ?_, by simp [Blk.at, q1, Value.ownBlock]⟩
                 rw [q9] at hu
                 cases sp with
                 | some _ => cases hu
                 | none => exact ⟨rfl, by rw [List.getElem?_append_left (List.getElem?_eq_some_iff.1 hu).1]; exact hu⟩
            rcases hdat with ⟨q1, rfl⟩ | ⟨g, cap, cur, xs, q1, q2, q3, q4, q5, q6, q7, q8, q9, q10⟩
            . have hxv' := hxv.trans q1
              rcases cond_some h with ⟨h0, h⟩ | ⟨h0, h⟩
              . have h0 := Nat.eq_of_beq_eq_true h0
                have hl0 : (lst ys).length = 0 := h0
                rw [hl0] at hyv
                exact ⟨_, _, O, Z, S, _, w, h, stay _ _ hyv none 0 0 (Nat.le_refl _) hxv', hR, ⟨hbn, hxv, by rw [hxv']; rfl⟩, Evo.refl _ _ _ _, rfl, ⟨[], rfl⟩, rfl⟩
              . have h0 : ys.length ≠ 0 := fun q => by rw [q] at h0; cases h0
                rcases cond_some h with ⟨h1, h⟩ | ⟨_, h⟩
                . have h1 := of_decide_eq_true h1
                  obtain ⟨Z', S', u, w', k1, k2, k3, k4⟩ := grow m none 0 0 [] [] hxv' rfl (Nat.le_refl _) (RowList.nil S tt) (fun w' _ => rfl) (by omega) (by simpa using h1) { s with st := (b, .dead) :: s.st } (hR.dead hk) rfl
                  exact ⟨_, _, O, Z', S', u, w', h, k1, k2, by rw [blkM_n]; exact k3, by rw [blkM_n]; exact k4, blkM_tm .., hst _ rfl, blkM_nt ..⟩
                . cases h
            have hxv' := hxv.trans q1
            rcases cond_some h with ⟨h0, h⟩ | ⟨h0, h⟩
            . have h0 := Nat.eq_of_beq_eq_true h0
              have hl0 : (lst ys).length = 0 := h0
              rw [hl0] at hyv
              exact ⟨_, _, O, Z, S, _, w, h, stay _ _ hyv _ _ _ q4 hxv', hR, ⟨hbn, hxv, by rw [hxv']; rfl⟩, Evo.refl _ _ _ _, rfl, ⟨[], rfl⟩, rfl⟩
            . have h0 : ys.length ≠ 0 := fun q => by rw [q] at h0; cases h0
              rcases cond_some h with ⟨h1, h⟩ | ⟨_, h⟩
              . have h1 := of_decide_eq_true h1
                have hRd := hR.dead hk
                have hdead : ∀ b2 k2, look ((b, Blk.dead) :: s.st) b2 = some k2 -> k2.at O Z b2 ≠ some g := by
                 intro b2 k2 hk2 f
                 by_cases hb2 : b = b2
                 . subst hb2; rw [look_cons_eq] at hk2; cases hk2; cases f
                 . rw [look_cons_ne _ _ hb2] at hk2
                   exact hb2 (hR.apart b b2 _ _ g hk hk2 q10 f)
                have hxl : xs.length = l.length * i.size := by rw [q8.1, b1]
                have hcell : ∀ j u, xs[j]? = some u -> w.cell? ⟨g, j, none⟩ = some u := by
                 intro j u hj
                 rw [<- q7, List.getElem?_take] at hj
                 split at hj
                 . simpa [World.cell?, q3] using hj
                 . cases hj
                by_cases hroom : l.length + ys.length <= cap
                . have hrun := append_room (rt := rt) (n := l.length) ht hi hsrc q3 hroom (by rw [q6, b1])
                  rw [<- b1, q7] at hrun
                  have hllen : (l ++ ys).length = l.length + ys.length := List.length_append
                  have hcl : l.length * tt.width + news.length <= cur.size := by rw [hnews.1, q6, <- Nat.add_mul]; exact Nat.mul_le_mul_right _ hroom
                  have hoth : ∀ (nv : Array Value) k, k ≠ g -> (w.setRow g nv).heap[k]? = w.heap[k]? := by
                   intro nv k hk
                   simp only [World.setRow, Array.getElem?_modify]
                   rw [if_neg (fun e => hk e.symm)]
                  have hrow : ∀ nv : Array Value, (w.setRow g nv).heap[g]? = some (.cells nv e (0, 0)) := by
                   intro nv
                   simp only [World.setRow]
                   rw [Array.getElem?_modify, if_pos rfl, q3]; rfl
                  have hszw : ∀ nv : Array Value, (w.setRow g nv).heap.size = w.heap.size := by intro nv; simp [World.setRow]
                  obtain ⟨Z', S', m1, m2, m3⟩ := hRd.addBlk m (g := g) (cap := cap) (e := e) (t := tt) (l := l ++ ys) (xs := xs ++ news) (w' := w.setRow g (xs ++ news ++ cur.toList.drop (l.length * tt.width + news.length)).toArray)
                   ⟨rfl, rfl, rfl, by rw [hszw]; exact Nat.le_refl _, fun k hk => hoth _ k (by omega)⟩ (fun k _ hk => hoth _ k hk) q2 (hrow _) (by rw [hllen]; exact hroom) q5 (by
                    have : xs.length = l.length * tt.width := q8.1
                    simp only [List.size_toArray, List.length_append, List.length_drop, Array.length_toList, this]
                    omega) (by
                    rw [hllen, Nat.add_mul, <- q8.1, <- hnews.1, <- List.length_append]
                    exact List.take_left) (q8.append hnews) (q9 news) hdead
                  rw [hllen] at m2
                  exact ⟨_, _, O, Z', S', _, _, h, by rw [hxv']; exact hrun, m1, by rw [blkM_n]; exact m2, by rw [blkM_n]; exact m3, blkM_tm .., hst _ rfl, blkM_nt ..⟩
                . obtain ⟨Z', S', u, w', k1, k2, k3, k4⟩ := grow m (some ⟨g, 0, none⟩) l.length cap xs l hxv' rfl q4 q8 (fun w' hw => by
                   have := run_loadCells_list (P := P) (w := w') ⟨g, 0, none⟩ xs (fun j u hj => by
                    rw [hw, add_at, Nat.zero_add]
                    exact hcell j u hj)
                   rw [hxl] at this
                   simpa [Builtin.firstCells] using this) (by omega) h1 { s with st := (b, .dead) :: s.st } hRd rfl
                  exact ⟨_, _, O, Z', S', u, w', h, k1, k2, by rw [blkM_n]; exact k3, by rw [blkM_n]; exact k4, blkM_tm .., hst _ rfl, blkM_nt ..⟩
              . cases h
           split at h
           . rename_i hx
             have hxv := hR.valEq hx
             rcases cond_some h with ⟨h0, h⟩ | ⟨h0, h⟩
             . have h0 := Nat.eq_of_beq_eq_true h0
               have hl0 : (lst ys).length = 0 := h0
               rw [hl0] at hyv
               exact ⟨_, _, O, Z, S, _, w, h, stay _ _ hyv none 0 0 (Nat.le_refl _) hxv, hR, hxv, Evo.refl _ _ _ _, rfl, ⟨[], rfl⟩, rfl⟩
             . have h0 : ys.length ≠ 0 := fun q => by rw [q] at h0; cases h0
               rcases cond_some h with ⟨h1, h⟩ | ⟨_, h⟩
               . have h1 := of_decide_eq_true h1
                 obtain ⟨Z', S', u, w', k1, k2, k3, k4⟩ := grow (wideT tt) none 0 0 [] [] hxv rfl (Nat.le_refl _) (RowList.nil S tt) (fun w' _ => rfl) (by omega) (by rw [Nat.zero_add]; exact h1) s hR rfl
                 obtain ⟨kk, hkk⟩ := blkM_st (wideT tt) s e tt ys
                 refine ⟨_, _, O, Z', S', u, w', h, k1, k2, ?_, ?_, blkM_tm .., ⟨[_], hkk⟩, blkM_nt ..⟩
                 . show ARel O Z' S' (blkM (wideT tt) s e tt ys).n _ u
                   rw [blkM_n]; exact k3
                 . show Evo O Z S s.n O Z' S' (blkM (wideT tt) s e tt ys).n
                   rw [blkM_n]; exact k4
               . cases h
           . rename_i b hx
             have hxr := hR.val x; rw [hx] at hxr
             obtain ⟨hbn, hxv, hone⟩ := hxr
             split at h
             . rename_i e' tt' l hk
               split at h
               . rename_i hee
                 obtain rfl := Nat.eq_of_beq_eq_true hee
                 split at h
                 . rename_i htt
                   obtain rfl := Ty.eq_of_beq htt
                   rw [castL_self] at h
                   exact ownRow false b l hxv hbn hk h
                 . cases h
               . cases h
             . rename_i e' tt' l hk
               split at h
               . rename_i hee
                 obtain rfl := Nat.eq_of_beq_eq_true hee
                 split at h
                 . rename_i htt
                   obtain rfl := Ty.eq_of_beq htt
                   rw [castL_self] at h
                   exact ownRow true b l hxv hbn hk h
                 . cases h
               . cases h
             . cases h
           . cases h
         . cases h
       . cases h
     . cases h
   . cases h
 . cases h
theorem cutV_zero (z m : Nat) (A : Option Addr) (n c : Nat) : cutV z 0 m (.slice A n c) = .slice A m c := by
 simp only [cutV, Nat.sub_zero]
 congr 1
 split
 . rfl
 . cases A with
   | none => rfl
   | some ad => simp [Addr.add]
theorem RowList.take {t : Ty} {l : List t.den} {xs : List Value} (h : RowList S t l xs) (k : Nat) : RowList S t (l.take k) (xs.take (k * t.width)) := by
 refine ⟨by rw [List.length_take, List.length_take, h.1, Nat.mul_min_mul_right], fun i x hx => ?_⟩
 rw [List.getElem?_take] at hx
 split at hx
 . rename_i hi
   obtain ⟨us, h1, h2⟩ := h.2 i x hx
   refine ⟨us, h1, fun j u hj => ?_⟩
   have hjw : j < t.width := by rw [<- h1.width]; exact (List.getElem?_eq_some_iff.1 hj).1
   have := Nat.mul_le_mul_right t.width (show i + 1 <= k by omega)
   rw [Nat.add_mul, Nat.one_mul] at this
   rw [List.getElem?_take_of_lt (by omega)]
   exact h2 j u hj
 . cases hx
theorem RowList.drop {t : Ty} {l : List t.den} {xs : List Value} (h : RowList S t l xs) (k : Nat) : RowList S t (l.drop k) (xs.drop (k * t.width)) := by
 refine ⟨by rw [List.length_drop, List.length_drop, h.1, Nat.sub_mul], fun i x hx => ?_⟩
 rw [List.getElem?_drop] at hx
 obtain ⟨us, h1, h2⟩ := h.2 _ x hx
 refine ⟨us, h1, fun j u hj => ?_⟩
 rw [List.getElem?_drop, <- Nat.add_assoc, <- Nat.add_mul]
 exact h2 j u hj
theorem vals_rel {n : Nat} : ∀ {vs : List Value}, (∀ v ∈ vs, v.oneCell' = true) -> All2 (CRel O Z S n) (vs.map .val) vs
 | [], _ => trivial
 | v :: vs, h => ⟨⟨rfl, h v (by simp)⟩, vals_rel (fun u hu => h u (by simp [hu]))⟩
theorem make_sound {t : TypeId} {x y : Operand} (hR : Rl base w0 S0 O Z S s a w) (h : evMake P t x y s K = some r) : Sound P base w0 S0 O Z S s a w K r ⟨dst, .makeSlice t x y, ty, pos, after, guard⟩ := by
 unfold evMake at h
 split at h
 . rename_i e x' y' ht
   split at h
   . rename_i k n i tt hab hn hi htt
     obtain rfl := Nat.eq_of_beq_eq_true hab
     split at h
     . rename_i z hz
       split at h
       . rename_i x0 hun hb
         simp only [Bool.and_eq_true] at hb
         obtain ⟨⟨⟨b1, b2⟩, b3⟩, b4⟩ := hb
         have b1 := Nat.eq_of_beq_eq_true b1
         have b2 := Nat.eq_of_beq_eq_true b2
         have b3 : 0 < i.bytes := Nat.le_of_ble_eq_true b3
         rcases cond_some h with ⟨h0, h⟩ | ⟨_, h⟩
         . rcases cond_some h with ⟨h1, h⟩ | ⟨_, h⟩
           . have h0 := of_decide_eq_true h0
             have h1 := of_decide_eq_true h1
             have hv := hR.get x'; rw [hn] at hv
             have hv : a.tmps.getD x' undef = .int k n := hv
             obtain ⟨m, rfl⟩ : ∃ m : Nat, n = m := ⟨n.toNat, by omega⟩
             rw [Int.toNat_natCast] at h h1
             have hmul := Nat.le_mul_of_pos_right m b3
             have hrun := run_make (P := P) w t e i z ht hi hz k k m m (by omega) (Int.le_refl _) (by
              have : ((i.bytes * m : Nat) : Int) <= 281474976710656 := by rw [Nat.mul_comm]; omega
              rwa [Int.natCast_mul] at this) (by omega)
             rw [Int.toNat_natCast] at hrun
             obtain ⟨us, ws, e1, r1, r2⟩ := unCV_rel hun (vals_rel (O := O) (Z := Z) (S := S) (n := s.n) (fun v hv => List.all_eq_true.1 b4 v hv))
             obtain rfl := All2.nil_inv r2
             rw [List.append_nil] at e1
             have hzl : z.cells.size = tt.width := by rw [b2, b1]
             have hrow : RowList S tt (List.replicate m x0) (madeCells z.cells (m * i.size)).toList := by
              refine ⟨by rw [Array.length_toList, size_madeCells, List.length_replicate, b1], fun q y hy => ?_⟩
              rw [List.getElem?_replicate] at hy
              split at hy
              . rename_i hq
                obtain rfl := Option.some.inj hy
                refine ⟨us, r1, fun j u hj => ?_⟩
                rw [<- e1] at hj
                have hjl := (List.getElem?_eq_some_iff.1 hj).1
                rw [Array.length_toList, hzl] at hjl
                have hle := Nat.mul_le_mul_right tt.width (show q + 1 <= m by omega)
                rw [Nat.add_mul, Nat.one_mul] at hle
                have hlt : q * tt.width + j < m * i.size := by rw [<- b1]; omega
                have hmod : (q * tt.width + j) % z.cells.size = j := by
                 rw [hzl, Nat.mul_comm, Nat.mul_add_mod]; exact Nat.mod_eq_of_lt hjl
                rw [Array.getElem?_toList]
                simp only [madeCells, Array.getElem?_map, Array.getElem?_range, hlt, if_true, Option.map_some, hmod]
                rw [Array.getElem?_toList] at hj
                rw [getElem!_pos z.cells j (by omega), <- hj, Array.getElem?_eq_getElem (by omega)]
              . cases hy
             have hnew : (w.alloc (.cells (madeCells z.cells (m * i.size)) e)).heap[w.heap.size]? = some (.cells (madeCells z.cells (m * i.size)) e (0, 0)) := by
              show (w.heap.push _)[w.heap.size]? = _; simp
             have hll : (List.replicate m x0).length = m := List.length_replicate
             obtain ⟨Z', k1, k2, k3⟩ := hR.addMrow (g := w.heap.size) (cap := m) (cur := madeCells z.cells (m * i.size)) (e := e) (t := tt) (l := List.replicate m x0) (xs := (madeCells z.cells (m * i.size)).toList) ((Below.refl base w).alloc hR.bsz _)
              (fun k hk _ => Below.heap_alloc w _ _ hk) hR.bsz hnew (by rw [hll]; exact Nat.le_refl _) (by unfold maxLen; omega) (by rw [size_madeCells, b1])
              (by rw [hll, b1]; exact List.take_of_length_le (by rw [Array.length_toList, size_madeCells]; exact Nat.le_refl _)) hrow (fresh_mem hR) (free_fresh hR)
             rw [hll] at k2
             refine ⟨_, _, h, O, Z', S, _, _, .inl (run_v _ _ _ ?_), k1, k2, k3, rfl, ⟨[_], rfl⟩, rfl⟩
             have : a.eval (.tmp x') = .int k m := hv
             rw [this]; exact hrun
           . cases h
         . cases h
       . cases h
     . cases h
   . cases h
 . cases h
theorem copy_sound {t : TypeId} {x y : Operand} {rt : TypeId} (hR : Rl base w0 S0 O Z S s a w) (h : evCopy P t x y s K = some r) :
 ∃ v s' O' Z' S' u w', K v s' = some r /\ (Builtin.copy_ #[t, t] rt #[a.eval x, a.eval y]).run P w = .ok u w' /\ Rl base w0 S0 O' Z' S' s' a w' /\ ARel O' Z' S' s'.n v u /\ Evo O Z S s.n O' Z' S' s'.n /\ s'.tm = s.tm /\ (∃ pre, s'.st = pre ++ s.st) /\ s'.nt = s.nt := by
 unfold evCopy at h
 split at h
 . rename_i e ht
   split at h
   . rename_i b tt ys hx hy
     have hxr := hR.val x; rw [hx] at hxr
     obtain ⟨hbn, hxv, hone⟩ := hxr
     have hyr := hR.valR y; rw [hy] at hyr
     obtain ⟨A, c, news, hyv, hnews, hnA⟩ := sl_inv hyr hR.sw
     split at h
     . rename_i e' tt' l n hk hn
       have hk := mrowOf_some hk
       split at h
       . rename_i hw htt
         obtain rfl := Ty.eq_of_beq htt
         rw [castL_self] at h
         have hw := Nat.eq_of_beq_eq_true hw
         obtain ⟨i, hi, hin⟩ := szOf_info hn
         obtain ⟨mm, hmm⟩ : ∃ mm, Nat.min ys.length l.length = mm := ⟨_, rfl⟩
         have hml : mm <= l.length := by rw [<- hmm]; exact Nat.min_le_right _ _
         have hmy : mm <= ys.length := by rw [<- hmm]; exact Nat.min_le_left _ _
         have hfirst : (Builtin.firstCells n mm (a.eval y)).run P w = .ok (news.take (mm * tt.width)).toArray w := by
          rw [hyv]
          by_cases h0 : mm = 0
          . subst h0
            cases A <;> simp [Builtin.firstCells, loadCells, loadCellsFrom]
          . have hne : ys ≠ [] := by intro q; rw [q] at hmy; simp at hmy; exact h0 hmy
            obtain ⟨ad, rfl, hc⟩ := hnA hne
            have := run_loadCells_list (P := P) (w := w) ad (news.take (mm * tt.width)) (fun j u hj => hc j u (by
             rw [List.getElem?_take] at hj
             split at hj
             . exact hj
             . cases hj))
            have hl : (news.take (mm * tt.width)).length = mm * n := by
             rw [List.length_take, hnews.1, hw, Nat.min_eq_left (Nat.mul_le_mul_right _ hmy)]
            rw [hl] at this
            simpa [Builtin.firstCells] using this
         have hlen : (Builtin.lenOf (a.eval y)).run P w = .ok ys.length w := by rw [hyv]; rfl
         have hrowN := hnews.take mm
         have hcl : (news.take (mm * tt.width)).length = mm * tt.width := by rw [List.length_take, hnews.1, Nat.min_eq_left (Nat.mul_le_mul_right _ hmy)]
         rcases hR.st b _ hk with ⟨_, hone', ⟨q1, rfl⟩ | ⟨g, cap, cur, xs, q1, q2, q3, q4, q5, q6, q7, q8, q9⟩⟩
         . have hm0 : mm = 0 := by simpa using hml
           subst hm0
           refine ⟨_, _, O, Z, S, .int .i64 (0 : Nat), w, h, ?_, ?_, ?_, Evo.refl _ _ _ _, rfl, ⟨[_], rfl⟩, rfl⟩
           . have hxv' := hxv.trans q1
             have e1 : Nat.min ys.length 0 = 0 := hmm
             simp [Builtin.copy_, run_underlying ht, hxv', hlen, e1, szOf_run hn, hfirst, goInt]
           . have : (lst ys).take ([] : List tt.den).length ++ ([] : List tt.den).drop ys.length = [] := by simp
             have e2 : (List.take ([] : List tt.den).length ys ++ List.drop ys.length ([] : List tt.den)) = [] := this
             rw [e2]
             refine hR.upd (Evo.refl _ _ _ _) rfl rfl (fun p v e e0 => by rw [e] at e0; cases e0) hR.sw (Below.refl _ _) (fun b' k' e' => ?_) (fun b1 k1 b2 k2 g e1 e2 n1 n2 f1 f2 => ?_)
             . by_cases hb : b = b'
               . subst hb
                 rw [look_cons_eq] at e'
                 obtain rfl := Option.some.inj e'
                 exact .inl ⟨hk, fun g f => ⟨rfl, fun _ _ => rfl⟩⟩
               . rw [look_cons_ne _ _ hb] at e'
                 exact .inl ⟨e', fun g _ => ⟨rfl, fun _ _ => rfl⟩⟩
             . have hb : ∀ b1 k, look ((b, Blk.mrow e' tt []) :: s.st) b1 = some k -> look s.st b1 ≠ some k -> b = b1 := by
                intro b1 k e n
                by_cases hb : b = b1
                . exact hb
                . rw [look_cons_ne _ _ hb] at e; exact absurd e n
               rw [<- hb b1 k1 e1 n1, <- hb b2 k2 e2 n2]
           . show ARel O Z S _ (i64 (Nat.min ys.length ([] : List tt.den).length)) _
             have e1 : Nat.min ys.length ([] : List tt.den).length = 0 := hmm
             rw [e1]; rfl
         . have hxv' := hxv.trans q1
           have hcap := Nat.mul_le_mul_right tt.width q4
           have hmw := Nat.mul_le_mul_right tt.width hml
           have hstore := run_storeCells_at (P := P) g 0 e' (news.take (mm * tt.width)) 0 cur w q3 (by rw [hcl, q6]; omega) hrowN.oneCell
           simp only [Nat.add_zero, Nat.zero_add, List.take_zero, List.nil_append] at hstore
           have hl' : ((lst ys).take l.length ++ l.drop ys.length).length = l.length := by
            have hlst : (lst ys).length = ys.length := rfl
            simp only [List.length_append, List.length_take, List.length_drop]; omega
           have hput := mrow_put hR hk (l' := (lst ys).take l.length ++ l.drop ys.length) q1 q3 (nv := news.take (mm * tt.width) ++ cur.toList.drop (news.take (mm * tt.width)).length) (by
            rw [List.length_append, List.length_drop, hcl, Array.length_toList, q6]; omega) hl' (by
            have e1 : (lst ys).take l.length ++ l.drop ys.length = (lst ys).take mm ++ l.drop mm := by
             rw [<- hmm]
             rcases Nat.le_total ys.length l.length with q | q
             . have : Nat.min ys.length l.length = ys.length := Nat.min_eq_left q
               rw [this, List.take_of_length_le q, List.take_of_length_le (Nat.le_refl _)]
             . have : Nat.min ys.length l.length = l.length := Nat.min_eq_right q
               rw [this, List.drop_of_length_le q, List.drop_of_length_le (Nat.le_refl _)]
            have e2 : (news.take (mm * tt.width) ++ cur.toList.drop (news.take (mm * tt.width)).length).take (((lst ys).take l.length ++ l.drop ys.length).length * tt.width) = news.take (mm * tt.width) ++ xs.drop (mm * tt.width) := by
             rw [hl', List.take_append, hcl, List.take_of_length_le (by rw [hcl]; exact hmw), <- q7, List.drop_take]
            rw [e2, e1]
            exact hrowN.append (q8.drop mm))
           refine ⟨_, _, O, Z, S, .int .i64 (mm : Nat), _, h, ?_, hput, ?_, Evo.refl _ _ _ _, rfl, ⟨[_], rfl⟩, rfl⟩
           . have e1 : Nat.min ys.length l.length = mm := hmm
             simp [Builtin.copy_, run_underlying ht, hxv', hlen, e1, szOf_run hn, hfirst, goInt, hstore]
           . show ARel O Z S _ (i64 (Nat.min ys.length l.length)) _
             rw [hmm]; rfl
       . cases h
     . cases h
   . cases h
 . cases h
def Stays (base : Nat) (w0 : World) (S0 : Mem) (O : Nat -> Nat) (Z : Nat -> Value) (S : Mem) (s : St) (a : Act) (w : World) (s' : St) : Prop :=
 ∃ S', Rl base w0 S0 O Z S' s' a w /\ Evo O Z S s.n O Z S' s'.n /\ s'.tm = s.tm /\ (∃ pre, s'.st = pre ++ s.st) /\ s'.nt = s.nt /\ s'.n = s.n
theorem Stays.refl (hR : Rl base w0 S0 O Z S s a w) : Stays base w0 S0 O Z S s a w s := ⟨S, hR, Evo.refl _ _ _ _, rfl, ⟨[], rfl⟩, rfl, rfl⟩
theorem Stays.trans {s' s'' : St} (h : Stays base w0 S0 O Z S s a w s') (k : ∀ S', Rl base w0 S0 O Z S' s' a w -> Stays base w0 S0 O Z S' s' a w s'') : Stays base w0 S0 O Z S s a w s'' := by
 obtain ⟨S', h1, h2, h3, ⟨p, h4⟩, h5, h6⟩ := h
 obtain ⟨S2, k1, k2, k3, ⟨q, k4⟩, k5, k6⟩ := k S' h1
 exact ⟨S2, k1, h2.trans k2, k3.trans h3, ⟨q ++ p, by rw [k4, h4, List.append_assoc]⟩, k5.trans h5, k6.trans h6⟩
theorem frzC_sound (hR : Rl base w0 S0 O Z S s a w) (c : CV) : Stays base w0 S0 O Z S s a w (s.frzC c) := by
 have key : ∀ b, Stays base w0 S0 O Z S s a w (match look s.st b with
  | some (.mrow e t l) => { s with st := (b, .row e t l) :: s.st }
  | _ => s) := by
  intro b
  split
  . rename_i e t l hk
    obtain ⟨h1, h2, h3⟩ := hR.st b _ hk
    have hb : ∀ (k0 : Blk) b1 k, look ((b, k0) :: s.st) b1 = some k -> look s.st b1 ≠ some k -> b = b1 := by
     intro k0 b1 k e n
     by_cases hb : b = b1
     . exact hb
     . rw [look_cons_ne _ _ hb] at e; exact absurd e n
    rcases h3 with ⟨q1, rfl⟩ | ⟨g, cap, cur, xs, q1, q2, q3, q4, q5, q6, q7, q8, q9⟩
    . refine ⟨S, hR.upd (Evo.refl _ _ _ _) rfl rfl (fun p v e e0 => by rw [e] at e0; cases e0) hR.sw (Below.refl _ _) (fun b' k' e' => ?_) (fun b1 k1 b2 k2 g e1 e2 n1 n2 f1 f2 => ?_), Evo.refl _ _ _ _, rfl, ⟨[_], rfl⟩, rfl, rfl⟩
      . by_cases hb : b = b'
        . subst hb
          rw [look_cons_eq] at e'
          obtain rfl := Option.some.inj e'
          exact .inr ⟨h1, ⟨h2, .inl ⟨q1, rfl⟩⟩, fun g f => by simp [Blk.at, q1, Value.ownBlock] at f⟩
        . rw [look_cons_ne _ _ hb] at e'
          exact .inl ⟨e', fun g _ => ⟨rfl, fun _ _ => rfl⟩⟩
      . rw [<- hb _ b1 k1 e1 n1, <- hb _ b2 k2 e2 n2]
    . have hat : (Blk.mrow e t l).at O Z b = some g := by simp [Blk.at, q1, Value.ownBlock]
      have hle : S.le (memAdd S g xs) := by
       intro p v e
       unfold memAdd
       split
       . rename_i hb
         obtain ⟨pb, po, ps⟩ := p
         simp only at hb; subst hb
         rw [q9] at e; cases e
       . exact e
      have ev : Evo O Z S s.n O Z (memAdd S g xs) s.n := ⟨Nat.le_refl _, fun _ _ => rfl, fun _ _ => rfl, hle⟩
      refine ⟨memAdd S g xs, hR.upd ev rfl rfl (fun p v e e0 => ?_) (fun p v hp => ?_) (Below.refl _ _) (fun b' k' e' => ?_) (fun b1 k1 b2 k2 g e1 e2 n1 n2 f1 f2 => ?_), ev, rfl, ⟨[_], rfl⟩, rfl, rfl⟩
      . unfold memAdd at e
        split at e
        . rename_i hb; rw [hb]; exact q2
        . rw [e] at e0; cases e0
      . unfold memAdd at hp
        split at hp
        . rename_i hb
          obtain ⟨pb, po, ps⟩ := p
          simp only at hb; subst hb
          cases ps with
          | some z => cases hp
          | none =>
            simp only at hp
            rw [<- q7, List.getElem?_take] at hp
            split at hp
            . simpa [World.cell?, q3] using hp
            . cases hp
        . exact hR.sw p v hp
      . by_cases hb : b = b'
        . subst hb
          rw [look_cons_eq] at e'
          obtain rfl := Option.some.inj e'
          refine .inr ⟨h1, ⟨h2, .inr ⟨g, cap, cur, xs, q1, q2, q3, q4, q5, q6, q7, q8.mono hle, fun off sp => ?_⟩⟩, fun g' f b2 k2 e2 e3 hne f2 => ?_⟩
          . unfold memAdd; simp only [if_true]; cases sp <;> rfl
          . have f : (Blk.mrow e t l).at O Z b = some g' := f
            exact hne (hR.apart b2 b _ _ g' e3 hk f2 f)
        . rw [look_cons_ne _ _ hb] at e'
          refine .inl ⟨e', fun g' f => ⟨rfl, fun off sp => ?_⟩⟩
          have hne : g' ≠ g := fun q => hb (hR.apart b b' _ _ g hk e' hat (by rw [f, q]))
          unfold memAdd; rw [if_neg hne]
      . rw [<- hb _ b1 k1 e1 n1, <- hb _ b2 k2 e2 n2]
  . exact Stays.refl hR
 unfold St.frzC
 split
 . exact key _
 . exact key _
 . exact Stays.refl hR
theorem frzL_sound : ∀ (l : List CV) {S : Mem} {s : St}, Rl base w0 S0 O Z S s a w -> Stays base w0 S0 O Z S s a w (s.frzL l)
 | [], _, _, hR => Stays.refl hR
 | c :: l, _, _, hR => (frzC_sound hR c).trans fun _ hR' => frzL_sound l hR'
theorem frz_sound (hR : Rl base w0 S0 O Z S s a w) (v : AV) : Stays base w0 S0 O Z S s a w (s.frz v) := by
 cases v with
 | one c => exact frzC_sound hR c
 | agg l => exact frzL_sound l hR
 | tup l =>
   show Stays base w0 S0 O Z S s a w (l.foldl (fun s p => s.frzL p.2) s)
   induction l generalizing S s with
   | nil => exact Stays.refl hR
   | cons p l ih => exact (frzL_sound p.2 hR).trans fun _ hR' => ih hR'
theorem frzArgs_sound : ∀ (l : List Operand) (s0 : St) {S : Mem} {s : St}, Rl base w0 S0 O Z S s a w -> Stays base w0 S0 O Z S s a w (l.foldl (fun s x => s.frz (aval s x)) s)
 | [], _, _, _, hR => Stays.refl hR
 | x :: l, s0, _, s, hR => (frz_sound hR (aval s x)).trans fun _ hR' => frzArgs_sound l s0 hR'
theorem frzOp_sound {Γ : FuncId -> Option Sig} (o : Op) (hR : Rl base w0 S0 O Z S s a w) : Stays base w0 S0 O Z S s a w (frzOp Γ o s) := by
 unfold frzOp
 split
 . split
   . exact Stays.refl hR
   . split
     . exact Stays.refl hR
     . exact frz_sound hR _
 . split
   . split
     . split
       . split
         . exact Stays.refl hR
         . exact frz_sound hR _
       . exact frz_sound hR _
     . exact Stays.refl hR
   . split
     . exact frz_sound hR _
     . exact Stays.refl hR
   . split
     . split
       . exact frzArgs_sound _ s hR
       . exact Stays.refl hR
     . exact Stays.refl hR
   . exact Stays.refl hR
 . exact Stays.refl hR
theorem frzPl_sound : ∀ (l : List Place) {S : Mem} {s : St}, Rl base w0 S0 O Z S s a w -> Stays base w0 S0 O Z S s a w (frzPl s l)
 | [], _, _, hR => Stays.refl hR
 | p :: l, S, s, hR => by
   have h1 : Stays base w0 S0 O Z S s a w (p.frz s) := by
    unfold Place.frz
    split
    . exact frz_sound hR _
    . split
      . exact frzL_sound _ hR
      . exact Stays.refl hR
    . exact frz_sound hR _
    . split
      . exact frzL_sound _ hR
      . exact Stays.refl hR
    . exact Stays.refl hR
   exact h1.trans fun _ hR' => frzPl_sound l hR'
theorem evOp_sound {o : Oper} (hR : Rl base w0 S0 O Z S s a w) (h : evOp P o.op s K = some r) : Sound P base w0 S0 O Z S s a w K r o := by
 obtain ⟨dst, op, ty, pos, after, guard⟩ := o
 simp only at h
 cases op <;> simp only [evOp] at h
 case move x => exact ⟨_, _, h, Does.pure hR (u := a.eval x) rfl (hR.val x)⟩
 case assign x => exact ⟨_, _, h, Does.pure hR (u := a.eval x) rfl (hR.val x)⟩
 case pick => exact pick_sound hR h
 case box => exact box_sound hR h
 case alloc => exact alloc_sound hR h
 case build => exact build_sound hR h
 case load => exact load_sound hR h
 case store => exact store_sound hR h
 case nilCheck => exact nil_sound hR h
 case binOp => exact bin_sound hR h
 case unOp => exact un_sound hR h
 case convert => exact conv_sound hR h
 case makeFunc => exact fn_sound hR h
 case slice => exact slice_sound hR h
 case fieldAddr => exact fieldAddr_sound hR h
 case field => exact field_sound hR h
 case indexAddr => exact indexAddr_sound hR h
 case index => exact index_sound hR h
 case extract => exact extract_sound hR h
 case buildSlice => exact buildSlice_sound hR h
 case makeSlice => exact make_sound hR h
 case makeMap => exact makeMap_sound hR h
 case insert => exact insert_sound hR h
 case lookup => exact lookup_sound hR h
 case makeInterface => exact iface_sound hR h
 case typeAssert => exact assert_sound hR h
 all_goals cases h
end
end
section
section
variable {P : Program} {base : Nat} {w0 : World} {S0 : Mem} {O : Nat -> Nat} {Z : Nat -> Value} {S : Mem} {s : St} {a : Act} {w : World}
variable {α : Type} {K : AV -> St -> Option α} {r : α}
theorem viewRow_rel (hR : Rl base w0 S0 O Z S s a w) {x : Operand} {b z n m : Nat} (h : viewRow s x = some (b, z, n, m)) :
 b < s.n /\ n <= m /\ ∃ e t l A cap, look s.st b = some (.mrow e t l) /\ l.length = m /\ t.width = z /\ Z b = .slice A m cap /\ m <= cap /\ a.eval x = .slice A n cap := by
 unfold viewRow at h
 have hx := hR.val x
 have key : ∀ {b e t l}, look s.st b = some (.mrow e t l) -> ∃ A cap, Z b = .slice A l.length cap /\ l.length <= cap := fun {b e t l} hk => by
  rcases (hR.st b _ hk).2.2 with ⟨q, rfl⟩ | ⟨g, cap, cur, xs, q1, _, _, q4, _⟩
  . exact ⟨none, 0, q, Nat.le_refl _⟩
  . exact ⟨_, cap, q1, q4⟩
 split at h
 . rename_i b' e1
   rw [e1] at hx
   obtain ⟨hb, hx, _⟩ := hx
   split at h
   . rename_i e t l hk
     have hk := mrowOf_some hk
     split at h
     . simp only [Option.some.injEq, Prod.mk.injEq] at h
       obtain ⟨rfl, rfl, rfl, rfl⟩ := h
       obtain ⟨A, cap, h1, h2⟩ := key hk
       exact ⟨hb, Nat.le_refl _, e, t, l, A, cap, hk, rfl, rfl, h1, h2, by rw [hx, h1]⟩
     . cases h
   . cases h
 . rename_i b' w' hi e1
   rw [e1] at hx
   obtain ⟨hb, _, ⟨A', len', cap', h3, h4, _⟩, hx⟩ := hx
   split at h
   . rename_i e t l hk
     have hk := mrowOf_some hk
     split at h
     . rename_i hw
       simp only [Option.some.injEq, Prod.mk.injEq] at h
       obtain ⟨rfl, rfl, rfl, rfl⟩ := h
       obtain ⟨A, cap, h1, h2⟩ := key hk
       rw [h1] at h3
       cases h3
       exact ⟨hb, h4, e, t, l, _, _, hk, rfl, (Nat.eq_of_beq_eq_true hw).symm, h1, h2, by rw [hx, h1, cutV_zero]⟩
     . cases h
   . cases h
 . cases h
theorem app_sound {t : TypeId} {x y : Operand} {rt : TypeId} {b z i m : Nat} (hR : Rl base w0 S0 O Z S s a w) (hv : viewRow s x = some (b, z, i, m)) (h : evApp P t b z i m (aval s y) s K = some r) :
 ∃ v s' O' Z' S' u w', K v s' = some r /\ (Builtin.append_ #[t, t] rt #[a.eval x, a.eval y]).run P w = .ok u w' /\ Rl base w0 S0 O' Z' S' s' a w' /\ ARel O' Z' S' s'.n v u /\ Evo O Z S s.n O' Z' S' s'.n /\ s'.tm = s.tm /\ (∃ pre, s'.st = pre ++ s.st) /\ s'.nt = s.nt := by
 obtain ⟨hb, him, e2, tt, l, A, cap, hk, hl, hw, hZ, hcap, hx⟩ := viewRow_rel hR hv
 unfold evApp at h
 split at h
 . rename_i b' w' j n e hy ht
   have hyr := hR.val y; rw [hy] at hyr
   obtain ⟨_, hjn, _, hyv⟩ := hyr
   split at h
   . rename_i e' ty l0 z0 hk0 hz
     have hk0 := mrowOf_some hk0
     rw [hk] at hk0
     cases hk0
     split at h
     . rename_i hbb
       simp only [Bool.and_eq_true] at hbb
       obtain ⟨⟨⟨q1, q2⟩, q3⟩, q4⟩ := hbb
       obtain rfl := Nat.eq_of_beq_eq_true q1
       obtain rfl := Nat.eq_of_beq_eq_true q2
       obtain rfl := Nat.eq_of_beq_eq_true q3
       obtain rfl := Nat.eq_of_beq_eq_true q4
       rcases cond_some h with ⟨hij, h⟩ | ⟨_, h⟩
       case inr => cases h
       rcases cond_some h with ⟨hnm, h⟩ | ⟨_, h⟩
       case inr => cases h
       have hij := Nat.le_of_ble_eq_true hij
       have hnm := Nat.le_of_ble_eq_true hnm
       obtain ⟨i0, hi0, his⟩ := szOf_info hz
       subst his
       have hl' : (l.take i ++ ((l.take n).drop j ++ l.drop (i + (n - j)))).length = l.length := by
        simp only [List.length_append, List.length_take, List.length_drop]; omega
       rw [hZ] at hyv
       rcases hR.st b _ hk with ⟨_, hone', ⟨p1, rfl⟩ | ⟨g, cap', cur, xs, p1, p2, p3, p4, p5, p6, p7, p8, p9⟩⟩
       . -- an empty row
         rw [hZ] at p1
         obtain ⟨rfl, rfl, rfl⟩ : A = none /\ m = 0 /\ cap = 0 := by injection p1 with a b c; exact ⟨a, b, c⟩
         obtain rfl : i = 0 := by omega
         obtain rfl : n = 0 := by omega
         obtain rfl : j = 0 := by omega
         refine ⟨_, _, O, Z, S, .slice none 0 0, w, h, ?_, ?_, ⟨hb, Nat.le_refl _, ⟨none, 0, 0, hZ, Nat.le_refl _, Nat.le_refl _⟩, by rw [hZ]; rfl⟩, Evo.refl _ _ _ _, rfl, ⟨[_], rfl⟩, rfl⟩
         . rw [hx, hyv, show cutV i0.size 0 0 (.slice none 0 0) = .slice none 0 0 from rfl]
           have hs : Src P i0.size t (.slice none 0 0) 0 [] w := src_of (n := 0) ht (A := none) (c := 0) rfl (by simp) (by simp) (fun q => by omega)
           simp [Builtin.append_, run_underlying ht, sizeOf, typeInfo, hi0, hs.len, hs.cells]
         . have e0 : (List.take 0 ([] : List tt.den) ++ (List.drop 0 (List.take 0 ([] : List tt.den)) ++ List.drop (0 + (0 - 0)) ([] : List tt.den))) = [] := by simp
           rw [e0]
           refine hR.upd (Evo.refl _ _ _ _) rfl rfl (fun p v e e0 => by rw [e] at e0; cases e0) hR.sw (Below.refl _ _) (fun b' k' e' => ?_) (fun b1 k1 b2 k2 g e1 e2 n1 n2 f1 f2 => ?_)
           . by_cases hb : b = b'
             . subst hb
               rw [look_cons_eq] at e'
               obtain rfl := Option.some.inj e'
               exact .inl ⟨hk, fun g f => ⟨rfl, fun _ _ => rfl⟩⟩
             . rw [look_cons_ne _ _ hb] at e'
               exact .inl ⟨e', fun g _ => ⟨rfl, fun _ _ => rfl⟩⟩
           . have hb : ∀ b1 k, look ((b, Blk.mrow e tt []) :: s.st) b1 = some k -> look s.st b1 ≠ some k -> b = b1 := by
              intro b1 k e n
              by_cases hb : b = b1
              . exact hb
              . rw [look_cons_ne _ _ hb] at e; exact absurd e n
             rw [<- hb b1 k1 e1 n1, <- hb b2 k2 e2 n2]
       . have p1' := p1
         rw [hZ] at p1'
         obtain ⟨rfl, hm, rfl⟩ : A = some ⟨g, 0, none⟩ /\ m = l.length /\ cap = cap' := by injection p1' with a b c; exact ⟨a, b, c⟩
         have hnl : n <= l.length := by omega
         have hxsl : xs.length = l.length * tt.width := p8.1
         have hnews : RowList S tt ((l.take n).drop j) ((xs.take (n * tt.width)).drop (j * tt.width)) := (p8.take n).drop j
         have hnl2 : ((l.take n).drop j).length = n - j := by simp only [List.length_drop, List.length_take]; omega
         have hsrc : Src P i0.size t (a.eval y) (n - j) ((xs.take (n * tt.width)).drop (j * tt.width)) w := by
          refine src_of (n := 0) ht (A := if cap = j then some ⟨g, 0, none⟩ else some ((⟨g, 0, none⟩ : Addr).add (j * tt.width))) (c := cap - j) ?_ (by rw [hnews.1, hnl2, hw]) hnews.oneCell (fun hp => ?_)
          . rw [hyv, <- hw]; simp only [cutV]; split <;> rfl
          . rw [if_neg (by omega)]
            refine ⟨_, rfl, fun q u hq => ?_⟩
            rw [addr_add, add_at, Nat.zero_add]
            rw [List.getElem?_drop] at hq
            rw [World.cell?]
            simp only [p3]
            rw [List.getElem?_take] at hq
            split at hq
            . rw [<- p7, List.getElem?_take] at hq
              split at hq
              . simpa using hq
              . cases hq
            . cases hq
         obtain ⟨N, hN⟩ : ∃ N, (xs.take (n * tt.width)).drop (j * tt.width) = N := ⟨_, rfl⟩
         rw [hN] at hnews hsrc
         have hrun := append_room (rt := rt) ht hi0 (n := i) (cap := cap) (cur := cur) hsrc p3 (by omega) (by rw [p6, hw])
         have hclen : cur.toList.length = cap * tt.width := by rw [Array.length_toList, p6]
         have hnw : N.length = (n - j) * tt.width := by rw [hnews.1, hnl2]
         have hmul : (i + (n - j)) * tt.width <= l.length * tt.width := Nat.mul_le_mul_right _ (by omega)
         have hmulc : l.length * tt.width <= cap * tt.width := Nat.mul_le_mul_right _ p4
         have hadd : (i + (n - j)) * tt.width = i * tt.width + (n - j) * tt.width := Nat.add_mul _ _ _
         have e1 : cur.toList.take (i * tt.width) = xs.take (i * tt.width) := by
          rw [<- p7, List.take_take, Nat.min_eq_left (by omega)]
         have e2 : (cur.toList.drop ((i + (n - j)) * tt.width)).take (l.length * tt.width - (i + (n - j)) * tt.width) = xs.drop ((i + (n - j)) * tt.width) := by
          rw [<- p7, List.drop_take]
         have e3 : (xs.take (i * tt.width)).length = i * tt.width := by rw [List.length_take, hxsl]; omega
         have e4 : (cur.toList.take (i * tt.width) ++ N ++ cur.toList.drop ((i + (n - j)) * tt.width)).take (l.length * tt.width) = xs.take (i * tt.width) ++ (N ++ xs.drop ((i + (n - j)) * tt.width)) := by
          have q1 : l.length * tt.width = (xs.take (i * tt.width) ++ N).length + (l.length * tt.width - (i + (n - j)) * tt.width) := by
           rw [List.length_append, e3, hnw]; omega
          rw [e1, q1, List.take_length_add_append, e2, List.append_assoc]
         have e5 : i * i0.size + N.length = (i + (n - j)) * tt.width := by rw [hnw, hadd, hw]
         rw [<- hw] at e5
         have hput := mrow_put hR hk p1 p3 (l' := l.take i ++ ((l.take n).drop j ++ l.drop (i + (n - j)))) (nv := cur.toList.take (i * tt.width) ++ N ++ cur.toList.drop ((i + (n - j)) * tt.width)) (by
          rw [List.length_append, List.length_append, List.length_take, List.length_drop, hnw, hclen, p6]; omega) hl' (by
          rw [hl', e4]
          exact (p8.take i).append (hnews.append (p8.drop (i + (n - j)))))
         rw [<- hw, e5] at hrun
         refine ⟨_, _, O, Z, S, _, _, h, by rw [hx]; exact hrun, hput, ⟨hb, Nat.zero_le _, ⟨_, _, _, p1, by omega, p4⟩, ?_⟩, Evo.refl _ _ _ _, rfl, ⟨[_], rfl⟩, rfl⟩
         rw [p1, cutV_zero]
     . cases h
   . cases h
 . cases h
theorem back_sound {v : AV} {u : Value} (hR : Rl base w0 S0 O Z S s a w) (hv : ARel O Z S s.n v u) (h : backK v s K = some r) :
 ∃ v' s' Z', K v' s' = some r /\ Rl base w0 S0 O Z' S s' a w /\ ARel O Z' S s'.n v' u /\ Evo O Z S s.n O Z' S s'.n /\ s'.tm = s.tm /\ (∃ pre, s'.st = pre ++ s.st) /\ s'.nt = s.nt := by
 unfold backK at h
 split at h
 . rename_i b z m
   split at h
   . rename_i e t l hk0
     split at h
     . rename_i hw
       simp only [Bool.and_eq_true] at hw
       obtain rfl := Nat.eq_of_beq_eq_true hw.2
       have hk := mrowOf_some hk0
       obtain ⟨hb, _, ⟨A, len, cap, hZ, hml, hlc⟩, rfl⟩ := hv
       have hmr := (hR.st b _ hk).2.2
       have hcm : MRel S base w (cutV t.width 0 m (Z b)) e t (l.take m) := by
        rcases hmr with ⟨q, rfl⟩ | ⟨g, cap', cur, xs, q1, q2, q3, q4, q5, q6, q7, q8, q9⟩
        . rw [q] at hZ
          have : m = 0 := by injection hZ with _ h2 _; omega
          subst this
          rw [q]; exact .inl ⟨by rw [cutV_zero], by simp⟩
        . have hm : m <= l.length := by rw [q1] at hZ; injection hZ with _ h2 _; omega
          have hl : (l.take m).length = m := by rw [List.length_take]; omega
          refine .inr ⟨g, cap', cur, xs.take (m * t.width), by rw [q1, cutV_zero, hl], q2, q3, by rw [hl]; omega, q5, q6, ?_, q8.take m, q9⟩
          rw [hl, <- q7, List.take_take, Nat.min_eq_left (Nat.mul_le_mul_right _ hm)]
       have hdead := hR.dead hk
       obtain ⟨Z', k1, k2, k3⟩ := hdead.addM (v := cutV t.width 0 m (Z b)) (by rw [hZ, cutV_zero]; rfl) hcm (fun g hg b3 k3 e3 f3 => by
        have hat : (Blk.mrow e t l).at O Z b = some g := by
         rw [hZ, cutV_zero] at hg
         simp only [Blk.at, hZ]
         cases A with
         | none => cases hg
         | some ad => obtain ⟨ab, ao, asp⟩ := ad; simpa [Value.ownBlock] using hg
        by_cases hbb : b = b3
        . subst hbb
          have e3 : look ((b, Blk.dead) :: s.st) b = some k3 := e3
          rw [look_cons_eq] at e3
          obtain rfl := Option.some.inj e3
          cases f3
        . have e3 : look ((b, Blk.dead) :: s.st) b3 = some k3 := e3
          rw [look_cons_ne _ _ hbb] at e3
          exact hbb (hR.apart b b3 _ _ g hk e3 hat f3))
       exact ⟨_, _, Z', h, k1, ARel.of_one k2, k3, rfl, ⟨[_, _], rfl⟩, rfl⟩
     . exact ⟨_, _, Z, h, hR, hv, Evo.refl _ _ _ _, rfl, ⟨[], rfl⟩, rfl⟩
   . exact ⟨_, _, Z, h, hR, hv, Evo.refl _ _ _ _, rfl, ⟨[], rfl⟩, rfl⟩
 . exact ⟨_, _, Z, h, hR, hv, Evo.refl _ _ _ _, rfl, ⟨[], rfl⟩, rfl⟩
theorem Rl.again (hR : Rl base w0 S0 O Z S s a w) {b : Nat} {kb : Blk} (hk : look s.st b = some kb) : Rl base w0 S0 O Z S { s with st := (b, kb) :: s.st } a w := by
 refine hR.upd (Evo.refl _ _ _ _) rfl rfl (fun p v e e0 => by rw [e] at e0; cases e0) hR.sw (Below.refl _ _) (fun b' k' e' => ?_) (fun b1 k1 b2 k2 g e1 e2 n1 n2 f1 f2 => ?_)
 . by_cases hb : b = b'
   . subst hb
     have e' : look ((b, kb) :: s.st) b = some k' := e'
     rw [look_cons_eq] at e'
     obtain rfl := Option.some.inj e'
     exact .inl ⟨hk, fun g f => ⟨rfl, fun _ _ => rfl⟩⟩
   . have e' : look ((b, kb) :: s.st) b' = some k' := e'
     rw [look_cons_ne _ _ hb] at e'
     exact .inl ⟨e', fun g _ => ⟨rfl, fun _ _ => rfl⟩⟩
 . have hb : ∀ b1 k, look ((b, kb) :: s.st) b1 = some k -> look s.st b1 ≠ some k -> b = b1 := by
    intro b1 k e n
    by_cases hb : b = b1
    . exact hb
    . rw [look_cons_ne _ _ hb] at e; exact absurd e n
   rw [<- hb b1 k1 e1 n1, <- hb b2 k2 e2 n2]
theorem zeros_row {tt : Ty} {x0 : tt.den} {z : Value} (hun : unCV tt (z.cells.toList.map .val) = some (x0, [])) (hzl : z.cells.size = tt.width) (b4 : z.cells.toList.all (·.oneCell') = true) (m : Nat) : RowList S tt (List.replicate m x0) (madeCells z.cells (m * tt.width)).toList := by
 obtain ⟨us, ws, e1, r1, r2⟩ := unCV_rel hun (vals_rel (O := fun _ => 0) (Z := fun _ => undef) (S := S) (n := 0) (fun v hv => List.all_eq_true.1 b4 v hv))
 obtain rfl := All2.nil_inv r2
 rw [List.append_nil] at e1
 refine ⟨by rw [Array.length_toList, size_madeCells, List.length_replicate], fun q y hy => ?_⟩
 rw [List.getElem?_replicate] at hy
 split at hy
 . rename_i hq
   obtain rfl := Option.some.inj hy
   refine ⟨us, r1, fun j u hj => ?_⟩
   rw [<- e1] at hj
   have hjl := (List.getElem?_eq_some_iff.1 hj).1
   rw [Array.length_toList, hzl] at hjl
   have hle := Nat.mul_le_mul_right tt.width (show q + 1 <= m by omega)
   rw [Nat.add_mul, Nat.one_mul] at hle
   have hlt : q * tt.width + j < m * tt.width := by omega
   have hmod : (q * tt.width + j) % z.cells.size = j := by
    rw [hzl, Nat.mul_comm, Nat.mul_add_mod]; exact Nat.mod_eq_of_lt hjl
   rw [Array.getElem?_toList]
   simp only [madeCells, Array.getElem?_map, Array.getElem?_range, hlt, if_true, Option.map_some, hmod]
   rw [Array.getElem?_toList] at hj
   rw [getElem!_pos z.cells j (by omega), <- hj, Array.getElem?_eq_getElem (by omega)]
 . cases hy
theorem appMake_sound {t u : TypeId} {x y : Operand} {rt : TypeId} (hR : Rl base w0 S0 O Z S s a w) (h : evAppMake P t u (aval s x) (aval s y) s K = some r) :
 ∃ v s' O' Z' S' u' w', K v s' = some r /\ (Builtin.append_ #[t, u] rt #[a.eval x, a.eval y]).run P w = .ok u' w' /\ Rl base w0 S0 O' Z' S' s' a w' /\ ARel O' Z' S' s'.n v u' /\ Evo O Z S s.n O' Z' S' s'.n /\ s'.tm = s.tm /\ (∃ pre, s'.st = pre ++ s.st) /\ s'.nt = s.nt := by
 unfold evAppMake at h
 split at h
 . rename_i k n e kn hx hy ht hu
   have hxv := hR.valEq hx
   have hyv := hR.valEq hy
   split at h
   . rename_i i tt hi htt
     split at h
     . rename_i z hz
       split at h
       . rename_i x0 hun hb
         simp only [Bool.and_eq_true] at hb
         obtain ⟨⟨⟨⟨b1, b2⟩, b5⟩, b3⟩, b4⟩ := hb
         have b1 := Nat.eq_of_beq_eq_true b1
         have b2 := Nat.eq_of_beq_eq_true b2
         have b3 : 0 < i.bytes := Nat.le_of_ble_eq_true b3
         have b5 : 0 < i.size := Nat.le_of_ble_eq_true b5
         rcases cond_some h with ⟨h0, h⟩ | ⟨_, h⟩
         case inr => cases h
         rcases cond_some h with ⟨h1, h⟩ | ⟨_, h⟩
         case inr => cases h
         have h0 := of_decide_eq_true h0
         have h1 := of_decide_eq_true h1
         obtain ⟨m, rfl⟩ : ∃ m : Nat, n = m := ⟨n.toNat, by omega⟩
         rw [Int.toNat_natCast] at h h1
         have hm0 : 0 < m := by omega
         have hmul := Nat.le_mul_of_pos_right m b3
         have hns := Go.Room.nextslicecap_le' (need := m) (old := 0) hm0
         have hns2 := Nat.mul_le_mul_right i.bytes hns
         have hrun := Lib.run_append_grow_zeros (P := P) w t u rt e i z k kn ht hu hi hz none 0 0 [] (run_firstCells_none (w := w.drew) i.size 0 0 0) m hm0 b5 (by omega) (by omega) (by omega) (by rw [Nat.zero_add]; rw [Nat.mul_assoc] at hns2; omega)
         rw [Nat.zero_add] at hrun
         have hge := grownCap_ge w m 0 e
         have hmx := grownCap_le_maxLen w m 0 e (by unfold maxLen; omega)
         have hzr := zeros_row (S := S) hun (by rw [b2, b1]) b4 m
         obtain ⟨N, hN⟩ : ∃ N, (madeCells z.cells (m * tt.width)).toList = N := ⟨_, rfl⟩
         rw [hN] at hzr
         have hzc : Builtin.zeroCells z.cells m = N.toArray := by rw [<- hN, Array.toArray_toList]; unfold Builtin.zeroCells madeCells; rw [b2, b1]
         have hll : (List.replicate m x0).length = m := List.length_replicate
         have hNl : N.length = m * tt.width := by rw [hzr.1, hll]
         have hnew : (w.drew.alloc (.cells ((#[] : Array Value) ++ Builtin.zeroCells z.cells m ++ Builtin.zeroCells z.cells (grownCap w m 0 e - m)) e)).heap[w.heap.size]? = some (.cells ((#[] : Array Value) ++ Builtin.zeroCells z.cells m ++ Builtin.zeroCells z.cells (grownCap w m 0 e - m)) e (0, 0)) := by
          show (w.heap.push _)[w.heap.size]? = _; simp
         obtain ⟨Z', k1, k2, k3⟩ := hR.addMrow (g := w.heap.size) (cap := grownCap w m 0 e) (e := e) (t := tt) (l := List.replicate m x0) (xs := N) ((Below.refl base w).drew.alloc (w := w.drew) hR.bsz _)
          (fun k hk _ => Below.heap_alloc w.drew _ _ hk) hR.bsz hnew (by rw [hll]; exact hge) hmx (by
           simp only [Array.size_append, size_zeroCells, b1, b2, Array.size_empty, Nat.zero_add, <- Nat.add_mul]
           congr 1; omega)
          (by rw [hll, hzc, <- hNl]; simp) hzr (fresh_mem hR) (free_fresh hR)
         rw [hll] at k2
         exact ⟨_, _, O, Z', S, _, _, h, by rw [hxv, hyv]; exact hrun, k1, k2, k3, rfl, ⟨[_], rfl⟩, rfl⟩
       . cases h
     . cases h
   . cases h
 . cases h
theorem clear_sound {t : TypeId} {x : Operand} {rt : TypeId} (hR : Rl base w0 S0 O Z S s a w) (h : evClear P t (aval s x) s K = some r) :
 ∃ v s' O' Z' S' u w', K v s' = some r /\ (Builtin.clear_ #[t] rt #[a.eval x]).run P w = .ok u w' /\ Rl base w0 S0 O' Z' S' s' a w' /\ ARel O' Z' S' s'.n v u /\ Evo O Z S s.n O' Z' S' s'.n /\ s'.tm = s.tm /\ (∃ pre, s'.st = pre ++ s.st) /\ s'.nt = s.nt := by
 unfold evClear at h
 split at h
 . rename_i b z' lo hi e hv ht
   have hxr := hR.val x; rw [hv] at hxr
   obtain ⟨hb, hlh, ⟨A, len, cap, hZ, hhl, hlc⟩, hxv⟩ := hxr
   split at h
   . rename_i e' tt l n z hk hn hz
     have hk := mrowOf_some hk
     split at h
     . rename_i x0 hun hb5
       simp only [Bool.and_eq_true] at hb5
       obtain ⟨⟨⟨⟨c1, c2⟩, c3⟩, c4⟩, c5⟩ := hb5
       obtain rfl := Nat.eq_of_beq_eq_true c1
       have c2 := Nat.eq_of_beq_eq_true c2
       have c3 := Nat.eq_of_beq_eq_true c3
       obtain rfl := Nat.eq_of_beq_eq_true c5
       have hlen : len = l.length := by
        rcases (hR.st b _ hk).2.2 with ⟨q, rfl⟩ | ⟨g, cap', cur, xs, q1, _⟩
        . rw [hZ] at q; injection q
        . rw [hZ] at q1; injection q1
       rw [hZ] at hxv
       rcases Nat.lt_or_ge lo hi with hlt | hge
       . rcases hR.st b _ hk with ⟨_, _, ⟨p1, rfl⟩ | ⟨g, cap', cur, xs, p1, p2, p3, p4, p5, p6, p7, p8, p9⟩⟩
         . have : len = 0 := by simpa using hlen
           omega
         . have p1' := p1
           rw [hZ] at p1'
           obtain ⟨rfl, _, rfl⟩ : A = some ⟨g, 0, none⟩ /\ len = l.length /\ cap = cap' := by injection p1' with a b c; exact ⟨a, b, c⟩
           have hzr := zeros_row (S := S) hun c3 c4 (hi - lo)
           obtain ⟨N, hN⟩ : ∃ N, (madeCells z.cells ((hi - lo) * tt.width)).toList = N := ⟨_, rfl⟩
           rw [hN] at hzr
           have hNl : N.length = (hi - lo) * tt.width := by rw [hzr.1, List.length_replicate]
           have hxsl : xs.length = l.length * tt.width := p8.1
           have hclen : cur.toList.length = cap * tt.width := by rw [Array.length_toList, p6]
           have hmulc : l.length * tt.width <= cap * tt.width := Nat.mul_le_mul_right _ p4
           have hmh : hi * tt.width <= l.length * tt.width := Nat.mul_le_mul_right _ (by omega)
           have hadd : hi * tt.width = lo * tt.width + (hi - lo) * tt.width := by rw [<- Nat.add_mul]; congr 1; omega
           have hst := run_storeCells_at (P := P) g (lo * tt.width) e N 0 cur w p3 (by rw [hNl]; omega) hzr.oneCell
           simp only [Nat.add_zero] at hst
           rw [hNl, <- hadd] at hst
           have e1 : cur.toList.take (lo * tt.width) = xs.take (lo * tt.width) := by
            rw [<- p7, List.take_take, Nat.min_eq_left (by omega)]
           have e2 : (cur.toList.drop (hi * tt.width)).take (l.length * tt.width - hi * tt.width) = xs.drop (hi * tt.width) := by
            rw [<- p7, List.drop_take]
           have e3 : (xs.take (lo * tt.width)).length = lo * tt.width := by rw [List.length_take, hxsl]; omega
           have e4 : (cur.toList.take (lo * tt.width) ++ N ++ cur.toList.drop (hi * tt.width)).take (l.length * tt.width) = xs.take (lo * tt.width) ++ (N ++ xs.drop (hi * tt.width)) := by
            have q1 : l.length * tt.width = (xs.take (lo * tt.width) ++ N).length + (l.length * tt.width - hi * tt.width) := by
             rw [List.length_append, e3, hNl]; omega
            rw [e1, q1, List.take_length_add_append, e2, List.append_assoc]
           have hl' : (l.take lo ++ (List.replicate (hi - lo) x0 ++ l.drop hi)).length = l.length := by
            simp only [List.length_append, List.length_take, List.length_drop, List.length_replicate]; omega
           have hput := mrow_put hR hk p1 p3 (l' := l.take lo ++ (List.replicate (hi - lo) x0 ++ l.drop hi)) (nv := cur.toList.take (lo * tt.width) ++ N ++ cur.toList.drop (hi * tt.width)) (by
            rw [List.length_append, List.length_append, List.length_take, List.length_drop, hNl, hclen, p6]; omega) hl' (by
            rw [hl', e4]
            exact (p8.take lo).append (hzr.append (p8.drop hi)))
           refine ⟨_, _, O, Z, S, .tuple #[], _, h, ?_, hput, ⟨[], rfl, trivial⟩, Evo.refl _ _ _ _, rfl, ⟨[_], rfl⟩, rfl⟩
           have hx2 : a.eval x = .slice (some ((⟨g, 0, none⟩ : Addr).add (lo * tt.width))) (hi - lo) (cap - lo) := by
            rw [hxv]; simp only [cutV]; rw [if_neg (by omega)]; rfl
           rw [hx2]
           obtain ⟨d, hd⟩ : ∃ d, hi - lo = d + 1 := ⟨hi - lo - 1, by omega⟩
           have hzc : (Builtin.zeroCells z.cells (d + 1)).toList = N := by rw [<- hN, <- hd]; unfold Builtin.zeroCells madeCells; rw [c3]
           rw [hd, add_at, Nat.zero_add]
           simp [Builtin.clear_, run_underlying ht, zeroOf_run hz, hzc, hst]
       . obtain rfl : lo = hi := by omega
         have e0 : l.take lo ++ (List.replicate (lo - lo) x0 ++ l.drop lo) = l := by simp
         rw [e0] at h
         refine ⟨_, _, O, Z, S, .tuple #[], w, h, ?_, hR.again hk, ⟨[], rfl, trivial⟩, Evo.refl _ _ _ _, rfl, ⟨[_], rfl⟩, rfl⟩
         rw [hxv]; simp only [cutV, Nat.sub_self]
         generalize (if cap = lo then A else A.map (·.add (lo * tt.width))) = B
         cases B <;> simp [Builtin.clear_, run_underlying ht]
     . cases h
   . cases h
 . cases h
end
end
section
def Rep1 (S : Mem) (t : Ty) (x : t.den) (v : Value) : Prop := match isAggT t with
 | true => ∃ us : List Value, v = .agg us.toArray /\ Reps S t x us
 | false => Reps S t x [v]
def ArgsRep (S : Mem) : (ts : List Ty) -> (ts.foldr Ty.cons .nil).den -> List Value -> Prop
 | [], _, [] => True
 | t :: ts, x, v :: vs => Rep1 S t x.1 v /\ ArgsRep S ts x.2 vs
 | _, _, _ => False
def ResRep (S : Mem) : (ts : List Ty) -> (ts.foldr Ty.cons .nil).den -> Value -> Prop
 | [t], y, u => Rep1 S t y.1 u
 | ts, y, u => ∃ us : List Value, u = .tuple us.toArray /\ ArgsRep S ts y us
def Comes1 (ts : List Ty) (y : (ts.foldr Ty.cons .nil).den) (S : Mem) (w : World) (e : Ending) (w' : World) : Prop :=
 ∃ u S', e = .returned u /\ S.le S' /\ (∀ p v, S' p = some v -> w'.cell? p = some v) /\ (∀ p v, S' p = some v -> S p = none -> w.heap.size <= p.block) /\ ResRep S' ts y u /\ Below w.heap.size w w'
structure FnC (G : World -> Prop) (P : Program) (f : FuncId) (g : Sig) : Prop where
 enters : ∀ args w, (callFunc f args).run P w = .ok (.enter f args) w
 calls : ∀ x y, g.den x = some y -> ∀ (S : Mem) (w : World) (vs : List Value), G w -> (∀ p v, S p = some v -> w.cell? p = some v) -> ArgsRep S g.args x vs -> Calls P f vs.toArray w (Comes1 g.res y S w)
abbrev FnOk (P : Program) := FnC (fun _ => True) P
abbrev FnOkT (P : Program) := FnC (GT P) P
theorem FnC.tab {G : World -> Prop} {P : Program} {f : FuncId} {g : Sig} (h : FnOk P f g) : FnC G P f g := ⟨h.enters, fun x y hy S w vs _ => h.calls x y hy S w vs trivial⟩
section
variable {P : Program} {base : Nat} {w0 : World} {S0 : Mem} {O : Nat -> Nat} {Z : Nat -> Value} {S : Mem} {s : St} {a : Act} {w : World}
variable {α : Type} {K : AV -> St -> Option α} {r : α} {dst : Option Tmp} {ty : TypeId} {pos : String} {after : Array Edge} {guard : Option (Nat × Bool)}
theorem unAV_rel {n : Nat} {t : Ty} {v : AV} {x : t.den} {u : Value} (h : unAV t v = some x) (hv : ARel O Z S n v u) : Rep1 S t x u := by
 unfold unAV at h
 unfold Rep1
 split at h
 . rename_i l ht
   rw [ht]
   split at h
   . rename_i y hy
     obtain rfl := Option.some.inj h
     obtain ⟨vs, rfl, hl⟩ := hv
     obtain ⟨us, ws, rfl, h1, h2⟩ := unCV_rel hy hl
     obtain rfl := All2.nil_inv h2
     exact ⟨us, by simp, h1⟩
   . cases h
 . rename_i c ht
   rw [ht]
   split at h
   . rename_i y hy
     obtain rfl := Option.some.inj h
     have hc : CRel O Z S n c u := by
      cases c with
      | any => cases t <;> simp [unCV, unInt, unBool, unStr, unSl, isAggT] at hy ht
      | val v =>
        refine ⟨hv, ?_⟩
        have : ¬ ((∃ z, v = .agg z) \/ ∃ z, v = .tuple z) := by
         rintro (⟨z, rfl⟩ | ⟨z, rfl⟩) <;> cases t <;> simp [unCV, unInt, unBool, unStr, unSl, isAggT] at hy ht
        cases v <;> first | rfl | (exfalso; exact this (.inl ⟨_, rfl⟩)) | (exfalso; exact this (.inr ⟨_, rfl⟩))
      | _ => exact hv
     obtain ⟨us, ws, e, h1, h2⟩ := unCV_rel hy (show All2 (CRel O Z S n) [c] [u] from ⟨hc, trivial⟩)
     obtain rfl := All2.nil_inv h2
     rw [List.append_nil] at e
     show Reps S t _ [u]
     rw [e]; exact h1
   . cases h
 . cases h
theorem argsOf_rel {n : Nat} : ∀ {ts : List Ty} {vs : List AV} {x : (ts.foldr Ty.cons .nil).den} {us : List Value}, argsOf ts vs = some x -> All2 (ARel O Z S n) vs us -> ArgsRep S ts x us
 | [], vs, x, us, h, hl => by
   cases vs with
   | nil => obtain rfl := All2.nil_inv hl; trivial
   | cons v vs => simp [argsOf] at h
 | t :: ts, vs, x, us, h, hl => by
   cases vs with
   | nil => simp [argsOf] at h
   | cons v vs =>
     simp only [argsOf] at h
     split at h
     . rename_i y hy
       split at h
       . rename_i z hz
         obtain rfl := Option.some.inj h
         obtain ⟨u, us', rfl, h1, h2⟩ := All2.cons_inv hl
         exact ⟨unAV_rel hy h1, argsOf_rel hz h2⟩
       . cases h
     . cases h
theorem toAV_rel (n : Nat) {t : Ty} {x : t.den} {u : Value} (h : Rep1 S t x u) : ARel O Z S n (toAV t x) u := by
 cases t with
 | nil => obtain ⟨us, rfl, h⟩ := h; exact ⟨us, rfl, h.all2 n⟩
 | cons a b => obtain ⟨us, rfl, h⟩ := h; exact ⟨us, rfl, h.all2 n⟩
 | int k => simp only [Rep1, isAggT, Reps] at h; exact List.cons.inj h |>.1
 | bool => simp only [Rep1, isAggT, Reps] at h; exact List.cons.inj h |>.1
 | str => simp only [Rep1, isAggT, Reps] at h; exact List.cons.inj h |>.1
 | sl t => exact h
theorem tupOf_rel (n : Nat) : ∀ {ts : List Ty} {x : (ts.foldr Ty.cons .nil).den} {us : List Value}, ArgsRep S ts x us -> All2 (TRel O Z S n) (tupOf ts x) us
 | [], x, [], h => trivial
 | [], x, _ :: _, h => h.elim
 | t :: ts, x, [], h => h.elim
 | t :: ts, x, u :: us, h => by
   refine ⟨?_, tupOf_rel n h.2⟩
   have h1 := h.1
   unfold Rep1 at h1
   split at h1
   . rename_i ht
     obtain ⟨vs, rfl, h1⟩ := h1
     show TRel O Z S n (isAggT t, cellsCV t x.1) _
     rw [ht]; exact ⟨vs, rfl, h1.all2 n⟩
   . rename_i ht
     show TRel O Z S n (isAggT t, cellsCV t x.1) u
     rw [ht]
     have h2 := h1.all2 (O := O) (Z := Z) n
     obtain ⟨c, hc⟩ : ∃ c, cellsCV t x.1 = [c] := by
      have := h2.length
      match hcc : cellsCV t x.1, this with
      | [c], _ => exact ⟨c, rfl⟩
     rw [hc] at h2 ⊢
     exact h2.1
theorem resOf_rel (n : Nat) {ts : List Ty} {y : (ts.foldr Ty.cons .nil).den} {u : Value} (h : ResRep S ts y u) : ARel O Z S n (resOf ts y) u := by
 match ts, y, h with
 | [], y, ⟨us, e, h⟩ => exact ⟨us, e, tupOf_rel n h⟩
 | [t], y, h => exact toAV_rel n h
 | t :: t' :: ts, y, ⟨us, e, h⟩ => exact ⟨us, e, tupOf_rel (ts := t :: t' :: ts) n h⟩
def Next1 (base : Nat) (w0 : World) (S0 : Mem) (K : AV -> St -> Option α) (r : α) (O : Nat -> Nat) (Z : Nat -> Value) (S : Mem) (s : St) (a : Act) (N : Value -> World -> Prop) : Prop :=
 ∀ v s' O' Z' S' u w', K v s' = some r -> Rl base w0 S0 O' Z' S' s' a w' -> ARel O' Z' S' s'.n v u -> Evo O Z S s.n O' Z' S' s'.n -> s'.tm = s.tm -> (∃ pre, s'.st = pre ++ s.st) -> s'.nt = s.nt -> N u w'
def NextT (base : Nat) (w0 : World) (S0 : Mem) (T : Value -> St -> Option α) (r : α) (O : Nat -> Nat) (Z : Nat -> Value) (S : Mem) (s : St) (X : Value -> World -> Prop) : Prop :=
 ∀ v t O' Z' S' a' w', T v t = some r -> Rl base w0 S0 O' Z' S' t a' w' -> Evo O Z S s.n O' Z' S' t.n -> (∃ pre, t.st = pre ++ s.st) -> X v w'
theorem NextT.trans {T : Value -> St -> Option α} {X : Value -> World -> Prop} {s' : St} {O' : Nat -> Nat} {Z' : Nat -> Value} {S' : Mem} (h : NextT base w0 S0 T r O Z S s X) (ev : Evo O Z S s.n O' Z' S' s'.n) (h2 : ∃ pre, s'.st = pre ++ s.st) : NextT base w0 S0 T r O' Z' S' s' X := by
 intro v t O2 Z2 S2 a2 w2 ht hR he ⟨pre, e⟩
 obtain ⟨pre2, h2⟩ := h2
 exact h v t O2 Z2 S2 a2 w2 ht hR (ev.trans he) ⟨pre ++ pre2, by rw [e, h2, List.append_assoc]⟩
def BackOr (N X : Value -> World -> Prop) (e : Ending) (w' : World) : Prop := (∃ u, e = .returned u /\ N u w') \/ ∃ v, e = .panicked [{ v := v, recovered := false }] /\ X v w'
def InlOk (P : Program) (base : Nat) (w0 : World) (S0 : Mem) (T : Value -> St -> Option α) (inl : FuncId -> List AV -> St -> (AV -> St -> Option α) -> Option α) : Prop :=
 ∀ f args s K r O Z S a w vs N X, inl f args s K = some r -> Rl base w0 S0 O Z S s a w -> All2 (ARel O Z S s.n) args vs -> Next1 base w0 S0 K r O Z S s a N -> NextT base w0 S0 T r O Z S s X ->
  (∀ args w, (callFunc f args).run P w = .ok (.enter f args) w) /\ Calls P f vs.toArray w (BackOr N X)
def GOk (G : World -> Prop) (P : Program) (Γ : FuncId -> Option Sig) : Prop := ∀ f g, Γ f = some g -> FnC G P f g
def GOW (P : Program) (base : Nat) (w0 : World) (Γ : FuncId -> Option Sig) : Prop := ∃ G, GOk G P Γ /\ ∀ w, Below base w0 w -> G w
theorem Rl.called (h : Rl base w0 S0 O Z S s a w) {S' : Mem} {w' : World} (hS : S.le S') (hw : ∀ p v, S' p = some v -> w'.cell? p = some v) (hn : ∀ p v, S' p = some v -> S p = none -> w.heap.size <= p.block) (hb : Below w.heap.size w w') :
 Rl base w0 S0 O Z S' s a w' /\ Evo O Z S s.n O Z S' s.n := by
 have ev : Evo O Z S s.n O Z S' s.n := ⟨Nat.le_refl _, fun _ _ => rfl, fun _ _ => rfl, hS⟩
 refine ⟨h.upd ev rfl rfl (fun p v e e0 => Nat.le_trans h.bsz (hn p v e e0)) hw (hb.mono h.bsz) (fun b k e => .inl ⟨e, fun g f => ?_⟩) (fun b k _ _ _ e _ n _ _ _ => absurd e n), ev⟩
 have hlt := ((h.st b k e).2.lt f).1
 refine ⟨hb.block g hlt, fun off sp => ?_⟩
 cases hs : S ⟨g, off, sp⟩ with
 | some v => exact hS _ _ hs
 | none =>
   cases hs' : S' ⟨g, off, sp⟩ with
   | none => rfl
   | some v => have := hn _ _ hs' hs; simp at this; omega
theorem args_rel (hR : Rl base w0 S0 O Z S s a w) : ∀ (l : List Operand), All2 (ARel O Z S s.n) (l.map (aval s)) (l.map a.eval)
 | [] => trivial
 | x :: l => ⟨hR.val x, args_rel hR l⟩
theorem argsR_rel (hR : Rl base w0 S0 O Z S s a w) : ∀ (l : List Operand), All2 (ARel O Z S s.n) (l.map (avalR s)) (l.map a.eval)
 | [] => trivial
 | x :: l => ⟨hR.valR x, argsR_rel hR l⟩
theorem builtin_sound {b : Builtin} {ts : Array TypeId} {xs : Array Operand} {rt : TypeId} {cs : Array Bool} (hR : Rl base w0 S0 O Z S s a w) (h : evBuiltin P b ts.toList xs.toList s K = some r) :
 ∃ v s' O' Z' S' u w', K v s' = some r /\ (builtin b ts rt cs (xs.map a.eval)).run P w = .ok (.value u) w' /\ Rl base w0 S0 O' Z' S' s' a w' /\ ARel O' Z' S' s'.n v u /\ Evo O Z S s.n O' Z' S' s'.n /\ s'.tm = s.tm /\ (∃ pre, s'.st = pre ++ s.st) /\ s'.nt = s.nt := by
 unfold evBuiltin at h
 have two : ∀ {α : Type} {xs : Array α} {l : List α}, xs.toList = l -> xs = l.toArray := fun h => by rw [<- h]
 split at h
 . rename_i t x h1 h2
   rw [two h1, two h2]
   split at h
   . rename_i v ht hx
     have hx' := hR.valR x; rw [hx] at hx'
     have hx' : a.eval x = .string v := hx'
     refine ⟨_, _, O, Z, S, .int .i64 v.size, w, h, ?_, hR, rfl, Evo.refl _ _ _ _, rfl, ⟨[], rfl⟩, rfl⟩
     simp [builtin, Builtin.len_, run_underlying ht, hx', goInt]
   . rename_i e tt l ht hx
     have hx' := hR.valR x; rw [hx] at hx'
     obtain ⟨A, c, hx', _⟩ := hx'
     simp at hx'
     refine ⟨_, _, O, Z, S, .int .i64 (l.length : Int), w, h, ?_, hR, rfl, Evo.refl _ _ _ _, rfl, ⟨[], rfl⟩, rfl⟩
     simp [builtin, Builtin.len_, run_underlying ht, hx', goInt]
   . rename_i e b n c ht hx
     have hx' := hR.valR x; rw [hx] at hx'
     obtain ⟨_, _, hx'⟩ := hx'
     refine ⟨_, _, O, Z, S, .int .i64 (n : Int), w, h, ?_, hR, rfl, Evo.refl _ _ _ _, rfl, ⟨[], rfl⟩, rfl⟩
     simp [builtin, Builtin.len_, run_underlying ht, hx', goInt]
   . rename_i e b ht hx
     have hx' := hR.valR x; rw [hx] at hx'
     obtain ⟨_, hx', _⟩ := hx'
     split at h
     . rename_i e' tt l hk
       have hk := mrowOf_some hk
       refine ⟨_, _, O, Z, S, .int .i64 (l.length : Int), w, h, ?_, hR, rfl, Evo.refl _ _ _ _, rfl, ⟨[], rfl⟩, rfl⟩
       rcases (hR.st b _ hk).2.2 with ⟨q, rfl⟩ | ⟨g, cap, cur, xs, q, _⟩
       . simp [builtin, Builtin.len_, run_underlying ht, hx', q, goInt]
       . simp [builtin, Builtin.len_, run_underlying ht, hx', q, goInt]
     . cases h
   . rename_i e ht hx
     have hx' := hR.valR x; rw [hx] at hx'
     have hx' : a.eval x = .slice none 0 0 := hx'
     refine ⟨_, _, O, Z, S, .int .i64 0, w, h, ?_, hR, rfl, Evo.refl _ _ _ _, rfl, ⟨[], rfl⟩, rfl⟩
     simp [builtin, Builtin.len_, run_underlying ht, hx', goInt]
   . rename_i e b z lo hi ht hx
     have hx' := hR.valR x; rw [hx] at hx'
     obtain ⟨_, _, ⟨A, len, cap, hZ, _⟩, hx'⟩ := hx'
     rw [hZ] at hx'
     refine ⟨_, _, O, Z, S, .int .i64 ((hi - lo : Nat) : Int), w, h, ?_, hR, rfl, Evo.refl _ _ _ _, rfl, ⟨[], rfl⟩, rfl⟩
     simp [builtin, Builtin.len_, run_underlying ht, hx', goInt, cutV]
   . cases h
 . rename_i t x h1 h2
   rw [two h1, two h2]
   split at h
   . rename_i e ht hx
     have hx' := hR.val x; rw [hx] at hx'
     have hx' : a.eval x = .slice none 0 0 := hx'
     refine ⟨_, _, O, Z, S, .int .i64 0, w, h, ?_, hR, rfl, Evo.refl _ _ _ _, rfl, ⟨[], rfl⟩, rfl⟩
     simp [builtin, Builtin.cap_, run_underlying ht, hx', goInt]
   . cases h
 . rename_i x y h2
   rw [two h2]
   split at h
   . rename_i m n hx hy
     refine ⟨_, _, O, Z, S, .int .i64 (cond (decide (n < m)) n m), w, h, ?_, hR, rfl, Evo.refl _ _ _ _, rfl, ⟨[], rfl⟩, rfl⟩
     simp [builtin, Builtin.min_, Builtin.min2, hR.valEq hx, hR.valEq hy, List.foldlM]
   . cases h
 . rename_i x y h2
   rw [two h2]
   split at h
   . rename_i m n hx hy
     refine ⟨_, _, O, Z, S, .int .i64 (cond (decide (n > m)) n m), w, h, ?_, hR, rfl, Evo.refl _ _ _ _, rfl, ⟨[], rfl⟩, rfl⟩
     simp [builtin, Builtin.max_, Builtin.max2, hR.valEq hx, hR.valEq hy, List.foldlM]
   . cases h
 . rename_i t u x y h1 h2
   rw [two h1, two h2]
   split at h
   . rename_i htu
     obtain rfl := Nat.eq_of_beq_eq_true htu
     have h : (match viewRow s x, aval s y with
      | some (b, w, i, m), .one (.mv ..) => evApp P t b w i m (aval s y) s K
      | _, _ => evAppend P t x y s K) = some r := h
     obtain ⟨v, s', O', Z', S', u, w', g1, g2, g3⟩ : ∃ v s' O' Z' S' u w', K v s' = some r /\ (Builtin.append_ #[t, t] rt #[a.eval x, a.eval y]).run P w = .ok u w' /\ Rl base w0 S0 O' Z' S' s' a w' /\ ARel O' Z' S' s'.n v u /\ Evo O Z S s.n O' Z' S' s'.n /\ s'.tm = s.tm /\ (∃ pre, s'.st = pre ++ s.st) /\ s'.nt = s.nt := by
      split at h
      . rename_i hv _; exact app_sound hR hv h
      . exact append_sound (rt := rt) hR h
     refine ⟨v, s', O', Z', S', u, w', g1, ?_, g3⟩
     simp [builtin, g2]
   . obtain ⟨v, s', O', Z', S', u, w', g1, g2, g3⟩ := appMake_sound (rt := rt) hR h
     refine ⟨v, s', O', Z', S', u, w', g1, ?_, g3⟩
     simp [builtin, g2]
 . rename_i t u x y h1 h2
   rw [two h1, two h2]
   split at h
   . rename_i htu
     obtain rfl := Nat.eq_of_beq_eq_true htu
     obtain ⟨v, s', O', Z', S', u, w', g1, g2, g3⟩ := copy_sound (rt := rt) hR h
     refine ⟨v, s', O', Z', S', u, w', g1, ?_, g3⟩
     simp [builtin, g2]
   . cases h
 . rename_i t x h1 h2
   rw [two h1, two h2]
   obtain ⟨v, s', O', Z', S', u, w', g1, g2, g3⟩ := clear_sound (rt := rt) hR h
   refine ⟨v, s', O', Z', S', u, w', g1, ?_, g3⟩
   simp [builtin, g2]
 . cases h
theorem resolve_run {c : Call} {f : Operand} (hc : c.callee = .value f) {rt : TypeId} {fn : FuncId} {cap : Array Value} (hf : a.eval f = .func (.func fn) #[] cap) (he : ∀ args w, (callFunc fn args).run P w = .ok (.enter fn args) w) :
 (do let d <- resolve a.eval c rt; invoke d.target d.args).run P w = .ok (.enter fn (c.args.map a.eval ++ cap)) w := by
 simp [resolve, hc, hf, Deferred.ofValue, invoke, he]
theorem call_sound {T : Value -> St -> Option α} {X : Value -> World -> Prop} {inl : FuncId -> List AV -> St -> (AV -> St -> Option α) -> Option α} {Γ : FuncId -> Option Sig} {c : Call} (hR : Rl base w0 S0 O Z S s a w) (hΓ : GOW P base w0 Γ) (hinl : InlOk P base w0 S0 T inl) (h : evCall P Γ inl c s K = some r)
 {next : Act -> World -> Prop} {Q : Exit -> Act -> World -> Prop} (hN : Next1 base w0 S0 K r O Z S s a (fun u w' => next (a.put dst u) w')) (hT : NextT base w0 S0 T r O Z S s X) (hX : ∀ v w', X v w' -> Q (.panic [{ v := v, recovered := false }]) a w') : Oper.wp P ⟨dst, .call c, ty, pos, after, guard⟩ a w next Q := by
 unfold evCall at h
 unfold Oper.wp
 split at h
 . rename_i b hc
   obtain ⟨v, s', O', Z', S', u, w', g1, g2, g3, g4, g5, g6, g7, g8⟩ := builtin_sound (rt := ty) (cs := c.args.map fun | .const _ => true | _ => false) hR h
   have hrun : (execOp a.eval ⟨dst, .call c, ty, pos, after, guard⟩).run P w = .ok (.value u) w' := by
    simp only [execOp, resolve, hc, Sem.run_bind, Sem.run_pure, Result.andThen_ok, invoke]
    exact g2
   rw [hrun]
   exact hN v s' O' Z' S' u w' g1 g3 g4 g5 g6 g7 g8
 . rename_i f hc
   split at h
   . rename_i fn caps hf
     have hfv := hR.val f; rw [hf] at hfv
     obtain ⟨hcap, hfv⟩ := hfv
     split at h
     . rename_i g hg
       split at h
       . split at h
         . rename_i x hx
           obtain ⟨y, hy, h⟩ := Option.bind_eq_some_iff.1 h
           obtain ⟨G, hΓ1, hΓ2⟩ := hΓ
           have hok := hΓ1 _ _ hg
           have hrun : (execOp a.eval ⟨dst, .call c, ty, pos, after, guard⟩).run P w = .ok (.enter fn ((c.args.toList.map a.eval).toArray)) w := by
            simp only [execOp]
            rw [resolve_run hc hfv hok.enters]
            congr 2
            apply Array.ext'
            simp
           rw [hrun]
           refine (hok.calls x y hy S w _ (hΓ2 w hR.below) hR.sw (argsOf_rel hx (argsR_rel hR _))).mono ?_
           rintro e w' ⟨u, S', rfl, h1, h2, h3, h4, h5⟩
           obtain ⟨k1, k2⟩ := hR.called h1 h2 h3 h5
           exact hN _ _ O Z S' u w' h k1 (resOf_rel _ h4) k2 rfl ⟨[], rfl⟩ rfl
         . obtain ⟨h1, h2⟩ := hinl _ _ _ _ _ _ _ _ _ _ _ _ _ h hR (args_rel hR _) hN hT
           have hrun : (execOp a.eval ⟨dst, .call c, ty, pos, after, guard⟩).run P w = .ok (.enter fn ((c.args.toList.map a.eval).toArray)) w := by
            simp only [execOp]
            rw [resolve_run hc hfv h1]
            congr 2
            apply Array.ext'
            simp
           rw [hrun]
           refine h2.mono ?_
           rintro e w' (⟨u, rfl, h3⟩ | ⟨v, rfl, h3⟩)
           . exact h3
           . exact hX v w' h3
       . cases h
     . have hargs : All2 (ARel O Z S s.n) (c.args.toList.map (aval s) ++ caps.map fun p => .one (.ptr p.1 p.2)) (c.args.toList.map a.eval ++ caps.map fun p => Value.pointer (some ⟨O p.1, p.2, none⟩)) := by
        refine (args_rel hR _).append ?_
        clear h hf hfv
        induction caps with
        | nil => trivial
        | cons p l ih => exact ⟨⟨hcap p (by simp), rfl⟩, ih (fun q hq => hcap q (by simp [hq]))⟩
       obtain ⟨h1, h2⟩ := hinl _ _ _ _ _ _ _ _ _ _ _ _ _ h hR hargs hN hT
       have hrun : (execOp a.eval ⟨dst, .call c, ty, pos, after, guard⟩).run P w = .ok (.enter fn ((c.args.toList.map a.eval ++ caps.map fun p => Value.pointer (some ⟨O p.1, p.2, none⟩)).toArray)) w := by
        simp only [execOp]
        rw [resolve_run hc hfv h1]
        congr 2
        apply Array.ext'
        simp
       rw [hrun]
       refine h2.mono ?_
       rintro e w' (⟨u, rfl, h3⟩ | ⟨v, rfl, h3⟩)
       . exact h3
       . exact hX v w' h3
   . cases h
 . cases h
def NextS (base : Nat) (w0 : World) (S0 : Mem) (K : St -> Option α) (r : α) (O : Nat -> Nat) (Z : Nat -> Value) (S : Mem) (s : St) (N : Act -> World -> Prop) : Prop :=
 ∀ s' O' Z' S' a' w', K s' = some r -> Rl base w0 S0 O' Z' S' s' a' w' -> Evo O Z S s.n O' Z' S' s'.n -> (∃ pre, s'.tm = pre ++ s.tm) -> (∃ pre, s'.st = pre ++ s.st) -> s'.nt = s.nt -> N a' w'
theorem put_sound {K : St -> Option α} {d : Option Nat} {v : AV} {u : Value} (hR : Rl base w0 S0 O Z S s a w) (hv : ARel O Z S s.n v u) (h : s.put d v K = some r) {N : Act -> World -> Prop} (hN : NextS base w0 S0 K r O Z S s N) : N (a.put d u) w := by
 unfold St.put at h
 split at h
 . exact hN s O Z S a w h hR (Evo.refl _ _ _ _) ⟨[], rfl⟩ ⟨[], rfl⟩ rfl
 . rename_i d
   split at h
   . rename_i hd
     have hd : d < s.nt := Nat.le_of_ble_eq_true hd
     exact hN _ O Z S _ w h (hR.put hv hd) (Evo.refl _ _ _ _) ⟨[_], rfl⟩ ⟨[], rfl⟩ rfl
   . cases h
theorem NextS.trans {K : St -> Option α} {K' : St -> Option α} {s' : St} {O' : Nat -> Nat} {Z' : Nat -> Value} {S' : Mem} {N : Act -> World -> Prop} (hN : NextS base w0 S0 K r O Z S s N) (hK : ∀ t, K' t = some r -> K t = some r) (ev : Evo O Z S s.n O' Z' S' s'.n)
 (h1 : ∃ pre, s'.tm = pre ++ s.tm) (h2 : ∃ pre, s'.st = pre ++ s.st) (h3 : s'.nt = s.nt) : NextS base w0 S0 K' r O' Z' S' s' N := by
 intro t O2 Z2 S2 a2 w2 hk hR he ⟨p1, e1⟩ ⟨p2, e2⟩ e3
 obtain ⟨q1, f1⟩ := h1
 obtain ⟨q2, f2⟩ := h2
 exact hN t O2 Z2 S2 a2 w2 (hK t hk) hR (ev.trans he) ⟨p1 ++ q1, by rw [e1, f1, List.append_assoc]⟩ ⟨p2 ++ q2, by rw [e2, f2, List.append_assoc]⟩ (e3.trans h3)
theorem wanted_none {ops : Array Oper} {o : Oper} {y : Nat -> Option Bool} (hg : o.guard = none) : Region.wanted o y = true := by simp [Region.wanted, hg]
theorem yielded_at {ops : Array Oper} {j d : Nat} (hd : (ops[j]?).bind (·.dst) = some d) (hs : d < a.tmps.size) : yielded ops a.tmps j = match a.tmps.getD d undef with | .bool b => some b | _ => none := by
 unfold yielded
 rw [hd]
 simp [Array.getD_eq_getD_getElem?, hs]
 split <;> simp_all
def FzOk (base : Nat) (w0 : World) (S0 : Mem) (fz : Op -> St -> St) : Prop := ∀ (o : Op) (O : Nat -> Nat) (Z : Nat -> Value) (S : Mem) (s : St) (a : Act) (w : World), Rl base w0 S0 O Z S s a w -> Stays base w0 S0 O Z S s a w (fz o s)
theorem FzOk.op {Γ : FuncId -> Option Sig} : FzOk base w0 S0 (frzOp Γ) := fun o _ _ _ _ _ _ hR => frzOp_sound o hR
theorem bounds3_run {isSlice : Bool} {len cap : Nat} {k1 k2 k3 : IntKind} {i j k : Int} (h0 : 0 <= i) (h1 : i <= j) (h2 : j <= k) (h3 : k <= cap) :
 (Instr.sliceBounds isSlice len cap (some (.int k1 i)) (some (.int k2 j)) (some (.int k3 k))).run P w = .ok (i.toNat, j.toNat, k.toNat) w := by
 unfold Instr.sliceBounds
 simp [sliceBound_run (i := k) (by omega) h3, sliceBound_run (i := j) (by omega) (by omega : j <= ((k.toNat : Nat) : Int)), sliceBound_run (i := i) (by omega) (by omega : i <= ((j.toNat : Nat) : Int))]
theorem evCut_sound {o : Oper} (hR : Rl base w0 S0 O Z S s a w) (h : evCut P o.op s K = some r) : Sound P base w0 S0 O Z S s a w K r o := by
 unfold evCut at h
 have inv : ∀ {b z n m lo hi mx}, viewCut P o.op s = some (b, z, n, m, lo, hi, mx) -> ∃ t x e, o.op = .slice t x lo hi mx /\ viewRow s x = some (b, z, n, m) /\ P.underlying t = some (.slice e) /\ szOf P e = some z := fun {b z n m lo hi mx} hc => by
  unfold viewCut at hc
  split at hc
  . rename_i t x lo' hi' mx' ho
    split at hc
    . rename_i b' w' n' m' e hv ht
      split at hc
      . rename_i z' hz
        split at hc
        . rename_i hzw
          simp only [Option.some.injEq, Prod.mk.injEq] at hc
          obtain ⟨rfl, rfl, rfl, rfl, rfl, rfl, rfl⟩ := hc
          exact ⟨t, x, e, ho, hv, ht, by rw [hz, Nat.eq_of_beq_eq_true hzw]⟩
        . cases hc
      . cases hc
    . cases hc
  . cases hc
 obtain ⟨dst, op, ty, pos, after, guard⟩ := o
 have main : ∀ {b z n m lo hi}, viewCut P op s = some (b, z, n, m, lo, hi, none) -> (cutHigh (hi.map (aval s)) (Option.elim hi n fun _ => m) fun h hn => cutLow (lo.map (aval s)) h fun lo => K (.one (.mv b z lo hn)) s) = some r -> Sound P base w0 S0 O Z S s a w K r ⟨dst, op, ty, pos, after, guard⟩ := fun {b z n m lo hi} hc hh => by
  clear h
  have h := hh
  clear hh
  obtain ⟨t, x, e, rfl, hv, ht, hz⟩ := inv hc
  obtain ⟨hb, hnm, e2, tt, l, A, cap, hk, hl, hw, hZ, hcap, hx⟩ := viewRow_rel hR hv
  obtain ⟨i, q, h, rfl, h1, h2⟩ := cutHigh_some h
  obtain ⟨p, h, h3, h4⟩ := cutLow_some h
  have h1' : q <= m := by cases hi with
   | none => exact Nat.le_trans h1 hnm
   | some _ => exact h1
  have h2' : hi.map (aval s) = none /\ q = n \/ ∃ k, hi.map (aval s) = some (.one (.val (.int k q))) := by
   rcases h2 with ⟨g1, g2⟩ | g
   . cases hi with
     | none => exact .inl ⟨rfl, g2⟩
     | some _ => cases g1
   . exact .inr g
  obtain ⟨sz, hsz, hrun⟩ := sliceAt_sl (A := A) (w := w) ht (fun b => bounds_run (isSlice := b) (len := n) (cap := cap) hR (Nat.le_trans h1' hcap) h3 h2' h4) (by obtain ⟨i, hi, _⟩ := szOf_info hz; exact ⟨i, hi⟩)
  rw [hz] at hsz
  obtain rfl := Option.some.inj hsz
  exact ⟨_, _, h, Does.pure hR (u := cutV z p q (Z b)) (run_v _ _ _ (by rw [hx, hZ]; exact hrun)) ⟨hb, h3, ⟨A, _, cap, hZ, h1', hcap⟩, rfl⟩⟩
 split at h
 . rename_i b z n m lo hc; exact main hc h
 . rename_i b z n m lo hi hc; exact main hc h
 . rename_i b z n m lo hi mx hc
   obtain ⟨t, x, e, rfl, hv, ht, hz⟩ := inv hc
   obtain ⟨hb, hnm, e2, tt, l, A, cap, hk, hl, hw, hZ, hcap, hx⟩ := viewRow_rel hR hv
   split at h
   . rename_i k1 i k2 j k3 k g1 g2 g3
     rcases cond_some h with ⟨b1, h⟩ | ⟨_, h⟩
     case inr => cases h
     rcases cond_some h with ⟨b2, h⟩ | ⟨_, h⟩
     case inr => cases h
     rcases cond_some h with ⟨b3, h⟩ | ⟨_, h⟩
     case inr => cases h
     rcases cond_some h with ⟨b4, h⟩ | ⟨_, h⟩
     case inr => cases h
     have b1 := of_decide_eq_true b1
     have b2 := of_decide_eq_true b2
     have b3 := of_decide_eq_true b3
     have b4 := of_decide_eq_true b4
     obtain ⟨i0, hi0, _⟩ := szOf_info hz
     refine ⟨_, _, h, Does.pure hR (u := .slice (if k.toNat = i.toNat then A else A.map (·.add (i.toNat * i0.size))) (j.toNat - i.toNat) (k.toNat - i.toNat)) (run_v _ _ _ ?_) trivial⟩
     show (Instr.sliceAt t (a.eval x) (some (a.eval lo)) (some (a.eval hi)) (some (a.eval mx))).run P w = _
     rw [hx, hR.valEq g1, hR.valEq g2, hR.valEq g3]
     unfold Instr.sliceAt
     simp only [Sem.run_bind, run_underlying ht, Result.andThen_ok]
     unfold Instr.slice
     simp [run_underlying ht, bounds3_run b1 b2 b3 (by omega : k <= ((cap : Nat) : Int)), sizeOf, run_typeInfo _ hi0]
   . cases h
 . cases h
 . exact evOp_sound hR h
theorem evOpS_sound {o : Oper} {sf : Bool} (hR : Rl base w0 S0 O Z S s a w) (h : evOpS P sf o.op s K = some r) : Sound P base w0 S0 O Z S s a w K r o := by
 unfold evOpS at h
 split at h
 . exact evOp_sound hR h
 . split at h
   . rename_i b n lo hi hc
     replace h : (cutHigh (hi.map (aval s)) n fun h hn => cutLow ((some lo : Option Operand).map (aval s)) h fun lo => K (.one (.mv b 1 lo hn)) s) = some r := h
     generalize (some lo : Option Operand) = lo at h hc
     obtain ⟨dst, op, ty, pos, after, guard⟩ := o
     simp only [softCut] at hc
     split at hc
     . rename_i t x lo' hi'
       split at hc
       . rename_i b' n' e hs ht
         split at hc
         . rename_i hn
           simp only [Option.some.injEq, Prod.mk.injEq] at hc
           obtain ⟨rfl, rfl, rfl, rfl⟩ := hc
           unfold softRow at hs
           split at hs
           . rename_i b2 e1
             split at hs
             . rename_i e2 tt l hk
               split at hs
               . simp only [Option.some.injEq, Prod.mk.injEq] at hs
                 obtain ⟨rfl, rfl⟩ := hs
                 have hx := hR.val x; rw [e1] at hx
                 obtain ⟨hb, hx, ho⟩ := hx
                 have hk := mrowOf_some hk
                 have hv : ∃ A cap, Z b2 = .slice A l.length cap /\ l.length <= cap := by
                  rcases (hR.st b2 _ hk).2.2 with ⟨q, rfl⟩ | ⟨g, cap, cur, xs, q1, _, _, q4, _⟩
                  . exact ⟨none, 0, q, Nat.le_refl _⟩
                  . exact ⟨_, cap, q1, q4⟩
                 obtain ⟨A, cap, hZ, hcap⟩ := hv
                 obtain ⟨i, m, h, rfl, h1, h2⟩ := cutHigh_some h
                 obtain ⟨q, h, h3, h4⟩ := cutLow_some h
                 obtain ⟨sz, hsz, hrun⟩ := sliceAt_sl (A := A) (w := w) ht (fun b => bounds_run (isSlice := b) (len := l.length) (cap := cap) hR (Nat.le_trans h1 hcap) h3 h2 h4) (by obtain ⟨i, hi, _⟩ := szOf_info hn; exact ⟨i, hi⟩)
                 rw [hn] at hsz
                 obtain rfl := Option.some.inj hsz
                 refine ⟨_, _, h, Does.pure hR (u := cutV 1 q m (Z b2)) (run_v _ _ _ (by rw [hx, hZ]; exact hrun)) ⟨hb, h3, ⟨A, _, cap, hZ, h1, hcap⟩, rfl⟩⟩
               . cases hs
             . cases hs
           . cases hs
         . cases hc
       . cases hc
     . cases hc
   . rename_i b n hi hc
     obtain ⟨i, m, hq, hmi, h1, h2⟩ := cutHigh_some (K := fun _ hn => match s.mrowOf b with
      | some (e, ⟨t, l⟩) => K (.one (.row s.n)) (mrowBlk { s with st := (b, .dead) :: s.st } e t (l.take hn))
      | none => none) h
     subst hmi
     obtain ⟨dst, op, ty, pos, after, guard⟩ := o
     simp only [softCut] at hc
     split at hc
     . rename_i t x lo' hi'
       split at hc
       . rename_i b' n' e hs ht
         split at hc
         . rename_i hn
           simp only [Option.some.injEq, Prod.mk.injEq] at hc
           obtain ⟨rfl, rfl, rfl, rfl⟩ := hc
           unfold softRow at hs
           split at hs
           . rename_i b2 e1
             split at hs
             . rename_i e2 tt l hk
               split at hs
               . simp only [Option.some.injEq, Prod.mk.injEq] at hs
                 obtain ⟨rfl, rfl⟩ := hs
                 rw [hk] at hq
                 simp only at hq
                 have hx := hR.val x; rw [e1] at hx
                 obtain ⟨hb, hx, ho⟩ := hx
                 have hk := mrowOf_some hk
                 have hmr := (hR.st b2 _ hk).2.2
                 have hv : ∃ A cap, Z b2 = .slice A l.length cap /\ l.length <= cap := by
                  rcases hmr with ⟨q, rfl⟩ | ⟨g, cap, cur, xs, q1, _, _, q4, _⟩
                  . exact ⟨none, 0, q, Nat.le_refl _⟩
                  . exact ⟨_, cap, q1, q4⟩
                 obtain ⟨A, cap, hZ, hcap⟩ := hv
                 obtain ⟨sz, hsz, hrun⟩ := sliceAt_sl (A := A) (w := w) (lo := none) (hi := hi'.map a.eval) ht (fun bb => bounds_run (lo := none) (isSlice := bb) (len := l.length) (cap := cap) (l := 0) hR (Nat.le_trans h1 hcap) (Nat.zero_le _) h2 (.inl ⟨rfl, rfl⟩)) (by obtain ⟨i, hi, _⟩ := szOf_info hn; exact ⟨i, hi⟩)
                 rw [hn] at hsz
                 obtain rfl := Option.some.inj hsz
                 have hcm : MRel S base w (cutV 1 0 m (Z b2)) e2 tt (l.take m) := by
                  rcases hmr with ⟨q, rfl⟩ | ⟨g, cap', cur, xs, q1, q2, q3, q4, q5, q6, q7, q8, q9⟩
                  . have : m = 0 := by simpa using h1
                    subst this
                    rw [q]; exact .inl ⟨by rw [cutV_zero], by simp⟩
                  . have hl : (l.take m).length = m := by rw [List.length_take]; omega
                    refine .inr ⟨g, cap', cur, xs.take (m * tt.width), by rw [q1, cutV_zero, hl], q2, q3, by rw [hl]; omega, q5, q6, ?_, q8.take m, q9⟩
                    rw [hl, <- q7, List.take_take, Nat.min_eq_left (Nat.mul_le_mul_right _ h1)]
                 have hdead := hR.dead hk
                 obtain ⟨Z', k1, k2, k3⟩ := hdead.addM (v := cutV 1 0 m (Z b2)) (by rw [hZ, cutV_zero]; rfl) hcm (fun g hg b3 k3 e3 f3 => by
                  have hat : (Blk.mrow e2 tt l).at O Z b2 = some g := by
                   rw [hZ, cutV_zero] at hg
                   simp only [Blk.at, hZ]
                   cases A with
                   | none => cases hg
                   | some ad => obtain ⟨ab, ao, asp⟩ := ad; simpa [Value.ownBlock] using hg
                  by_cases hbb : b2 = b3
                  . subst hbb
                    have e3 : look ((b2, Blk.dead) :: s.st) b2 = some k3 := e3
                    rw [look_cons_eq] at e3
                    obtain rfl := Option.some.inj e3
                    cases f3
                  . have e3 : look ((b2, Blk.dead) :: s.st) b3 = some k3 := e3
                    rw [look_cons_ne _ _ hbb] at e3
                    exact hbb (hR.apart b2 b3 _ _ g hk e3 hat f3))
                 have hrun' : (Instr.sliceAt t (a.eval x) none (hi'.map a.eval) none).run P w = .ok (cutV 1 0 m (Z b2)) w := by rw [hx, hZ]; exact hrun
                 exact ⟨_, _, hq, O, Z', S, _, w, .inl (run_v _ _ _ hrun'), k1, ARel.of_one k2, k3, rfl, ⟨[_, _], rfl⟩, rfl⟩
               . cases hs
             . cases hs
           . cases hs
         . cases hc
       . cases hc
     . cases hc
   . exact evCut_sound hR h
theorem ops_sound {T : Value -> St -> Option α} {X : Value -> World -> Prop} {inl : FuncId -> List AV -> St -> (AV -> St -> Option α) -> Option α} {Γ : FuncId -> Option Sig} {sf : Bool} {fz : Op -> St -> St} (hfz : FzOk base w0 S0 fz) (hΓ : GOW P base w0 Γ) (hinl : InlOk P base w0 S0 T inl) {ops : Array Oper} {Q : Exit -> Act -> World -> Prop} (hX : ∀ v a w', a.defers = [] -> X v w' -> Q (.panic [{ v := v, recovered := false }]) a w') :
 ∀ (l : List Oper) (i : Nat) (s : St) (O : Nat -> Nat) (Z : Nat -> Value) (S : Mem) (a : Act) (w : World) (K : St -> Option α), (∀ j, l[j]? = ops[i + j]?) -> evOps P Γ inl sf fz ops l s K = some r -> Rl base w0 S0 O Z S s a w -> NextS base w0 S0 K r O Z S s (Q .normal) -> NextT base w0 S0 T r O Z S s X ->
  wpOps P ops Q (List.range' i l.length) a w
 | [], i, s, O, Z, S, a, w, K, hl, h, hR, hN, hT => by
   simp only [evOps] at h
   exact hN s O Z S a w h hR (Evo.refl _ _ _ _) ⟨[], rfl⟩ ⟨[], rfl⟩ rfl
 | o :: rest, i, s, O, Z, S, a, w, K, hl, h, hR, hN, hT => by
   have h0 : ops[i]? = some o := by simpa using (hl 0).symm
   have hl' : ∀ j, rest[j]? = ops[i + 1 + j]? := fun j => by have := hl (j + 1); simpa [Nat.add_assoc, Nat.add_comm 1 j] using this
   rw [List.length_cons, List.range'_succ]
   simp only [wpOps, h0]
   -- carried out
   have go : ∀ (s1 : St), Rl base w0 S0 O Z S s1 a w -> (∃ pre, s1.tm = pre ++ s.tm) -> s1.st = s.st -> s1.n = s.n -> s1.nt = s.nt -> Region.wanted o (yielded ops a.tmps) = true ->
    (match o.op with
     | .call c => evCall P Γ inl c (fz o.op s1) fun v s => s.put o.dst v fun s => evOps P Γ inl sf fz ops rest s K
     | op => evOpS P sf op (fz op s1) fun v s => s.put o.dst v fun s => evOps P Γ inl sf fz ops rest s K) = some r ->
    (if Region.wanted o (yielded ops a.tmps) = true then o.wp P a w (wpOps P ops Q (List.range' (i + 1) rest.length)) Q \/ o.asks P a w /\ LetsOut Q else wpOps P ops Q (List.range' (i + 1) rest.length) (a.put o.dst undef) w) := by
    intro s1 hR1 htm hst hn hnt hw h
    rw [if_pos hw]
    refine .inl ?_
    obtain ⟨S1, hR1, hevF, htmF, ⟨preF, hstF⟩, hntF, hnF⟩ := hfz o.op O Z S s1 a w hR1
    have hev : Evo O Z S s.n O Z S1 (fz o.op s1).n := by rw [<- hn]; exact hevF
    have hN1 : NextS base w0 S0 K r O Z S1 (fz o.op s1) (Q .normal) := hN.trans (fun t ht => ht) hev (by rw [htmF]; exact htm) ⟨preF, by rw [hstF, hst]⟩ (hntF.trans hnt)
    have hT1 : NextT base w0 S0 T r O Z S1 (fz o.op s1) X := hT.trans hev ⟨preF, by rw [hstF, hst]⟩
    have next : Next1 base w0 S0 (fun v s => s.put o.dst v fun s => evOps P Γ inl sf fz ops rest s K) r O Z S1 (fz o.op s1) a (fun u w' => wpOps P ops Q (List.range' (i + 1) rest.length) (a.put o.dst u) w') := by
     intro v s' O' Z' S' u w' hk hR' hv ev htm' hst' hnt'
     have hN2 : NextS base w0 S0 K r O' Z' S' s' (Q .normal) := hN1.trans (fun t ht => ht) ev ⟨[], by rw [htm']; rfl⟩ hst' hnt'
     refine put_sound hR' hv hk (N := fun a w => wpOps P ops Q (List.range' (i + 1) rest.length) a w) (fun t O2 Z2 S2 a2 w2 hk2 hR2 ev2 e1 e2 e3 => ?_)
     exact ops_sound hfz hΓ hinl hX rest (i + 1) t O2 Z2 S2 a2 w2 K hl' hk2 hR2 (hN2.trans (fun t ht => ht) ev2 e1 e2 e3) ((hT1.trans ev hst').trans ev2 e2)
    obtain ⟨dst, op, ty, pos, after, guard⟩ := o
    split at h
    . rename_i c hc
      simp only at hc; subst hc
      exact call_sound hR1 hΓ hinl h next hT1 (fun v w' => hX v a w' hR.defers)
    . rename_i hc
      obtain ⟨v, s', hk, O', Z', S', u, w', hrun, g1, g2, g3, g4, g5, g6⟩ := evOpS_sound hR1 h
      have := next v s' O' Z' S' u w' hk g1 g2 g3 g4 g5 g6
      unfold Oper.wp
      rcases hrun with hrun | ⟨hrun, rfl⟩
      . rw [hrun]; exact this
      . rw [hrun]; exact this
   have no : ∀ (s1 : St), Rl base w0 S0 O Z S s1 a w -> (∃ pre, s1.tm = pre ++ s.tm) -> s1.st = s.st -> s1.n = s.n -> s1.nt = s.nt -> Region.wanted o (yielded ops a.tmps) = false ->
    (s1.put o.dst (.one (.val undef)) fun s => evOps P Γ inl sf fz ops rest s K) = some r ->
    (if Region.wanted o (yielded ops a.tmps) = true then o.wp P a w (wpOps P ops Q (List.range' (i + 1) rest.length)) Q \/ o.asks P a w /\ LetsOut Q else wpOps P ops Q (List.range' (i + 1) rest.length) (a.put o.dst undef) w) := by
    intro s1 hR1 htm hst hn hnt hw h
    rw [if_neg (by rw [hw]; decide)]
    have hev : Evo O Z S s.n O Z S s1.n := by rw [hn]; exact Evo.refl _ _ _ _
    have hN1 : NextS base w0 S0 K r O Z S s1 (Q .normal) := hN.trans (fun t ht => ht) hev htm ⟨[], by rw [hst]; rfl⟩ hnt
    refine put_sound hR1 (v := .one (.val undef)) (u := undef) rfl h (N := fun a w => wpOps P ops Q (List.range' (i + 1) rest.length) a w) (fun t O2 Z2 S2 a2 w2 hk2 hR2 ev2 e1 e2 e3 => ?_)
    exact ops_sound hfz hΓ hinl hX rest (i + 1) t O2 Z2 S2 a2 w2 K hl' hk2 hR2 (hN1.trans (fun t ht => ht) ev2 e1 e2 e3) ((hT.trans hev ⟨[], by rw [hst]; rfl⟩).trans ev2 e2)
   have same : ∀ (d : Nat) (b : Bool), s.get d = .one (.val (.bool b)) -> d < s.nt -> ∀ {K' : St -> Option α}, s.put (some d) (.one (.val (.bool b))) K' = some r ->
    ∃ s1, K' s1 = some r /\ Rl base w0 S0 O Z S s1 a w /\ (∃ pre, s1.tm = pre ++ s.tm) /\ s1.st = s.st /\ s1.n = s.n /\ s1.nt = s.nt := by
    intro d b hg hd K' hp
    have hv := hR.get d; rw [hg] at hv
    unfold St.put at hp
    simp only at hp
    split at hp
    . refine ⟨_, hp, ?_, ⟨[_], rfl⟩, rfl, rfl, rfl⟩
      have := hR.put (v := .one (.val (.bool b))) (u := a.tmps.getD d undef) hv hd
      have e : a.put (some d) (a.tmps.getD d undef) = a := by
       have hs := hR.size
       have : a.tmps.setIfInBounds d (a.tmps.getD d undef) = a.tmps := by
        apply Array.ext
        . simp
        . intro k h1 h2
          rw [Array.getElem_setIfInBounds]
          split
          . rename_i e; subst e; simp [Array.getD_eq_getD_getElem?, h2]
          . rfl
       show ({ a with tmps := a.tmps.setIfInBounds d (a.tmps.getD d undef) } : Act) = a
       rw [this]
      rw [e] at this; exact this
    . cases hp
   unfold evOps at h
   simp only at h
   split at h
   . rename_i hg
     exact go s hR ⟨[], rfl⟩ rfl rfl rfl (wanted_none (ops := ops) hg) h
   . rename_i j want hg
     split at h
     . rename_i d hd
       split at h
       . rename_i b hb
         have hdn : d < s.nt := by
          unfold St.get at hb
          split at hb
          . rename_i v e; exact (hR.tm d v e).1
          . cases hb
         have hbv := hR.get d; rw [hb] at hbv
         have hbv : a.tmps.getD d undef = .bool b := hbv
         have hy : yielded ops a.tmps j = some b := by rw [yielded_at hd (by rw [hR.size]; exact hdn), hbv]
         have hw : Region.wanted o (yielded ops a.tmps) = (b == want) := by simp [Region.wanted, hg, hy]
         split at h
         . rcases cond_some h with ⟨hb2, h⟩ | ⟨hb2, h⟩
           . rw [hb2] at hb hw
             obtain ⟨s1, h1, h2, h3, h4, h5, h6⟩ := same d true hb hdn h
             exact go s1 h2 h3 h4 h5 h6 (by rw [hw]; rfl) h1
           . rw [hb2] at hb hw
             obtain ⟨s1, h1, h2, h3, h4, h5, h6⟩ := same d false hb hdn h
             exact no s1 h2 h3 h4 h5 h6 (by rw [hw]; rfl) h1
         . rcases cond_some h with ⟨hb2, h⟩ | ⟨hb2, h⟩
           . rw [hb2] at hb hw
             obtain ⟨s1, h1, h2, h3, h4, h5, h6⟩ := same d true hb hdn h
             exact no s1 h2 h3 h4 h5 h6 (by rw [hw]; rfl) h1
           . rw [hb2] at hb hw
             obtain ⟨s1, h1, h2, h3, h4, h5, h6⟩ := same d false hb hdn h
             exact go s1 h2 h3 h4 h5 h6 (by rw [hw]; rfl) h1
       . rename_i vs hb
         have hdn : d < s.nt := by
          unfold St.get at hb
          split at hb
          . rename_i v e; exact (hR.tm d v e).1
          . cases hb
         have hbv := hR.get d; rw [hb] at hbv
         have hbv : a.tmps.getD d undef = .tuple vs := hbv
         have hy : yielded ops a.tmps j = none := by rw [yielded_at hd (by rw [hR.size]; exact hdn), hbv]
         exact no s hR ⟨[], rfl⟩ rfl rfl rfl (by simp [Region.wanted, hg, hy]) h
       . cases h
     . cases h
end
end
end Go.Proofs.YtfhphiedbdinmaaGreatDoor.Ab
