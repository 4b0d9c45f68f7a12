/- Abstract runs: what an abstract state says of a world, and that it goes on saying it. -/
import Derived.Test.YtohlhliifeeokaaGreatAb
namespace Go.Proofs.YtohlhliifeeokaaGreat.Ab
open Go Go.RowKit
set_option linter.unusedVariables false
def All2 {α β : Type} (R : α → β → Prop) : List α → List β → Prop
  | [], [] => True
  | a :: l, b :: m => R a b ∧ All2 R l m
  | _, _ => False
section
variable {α β : Type} {R R' : α → β → Prop}
theorem All2.length : ∀ {l : List α} {m : List β}, All2 R l m → l.length = m.length
  | [], [], _ => rfl
  | _ :: _, _ :: _, h => by simp [All2.length h.2]
  | [], _ :: _, h => h.elim
  | _ :: _, [], h => h.elim
theorem All2.mono (hr : ∀ a b, R a b → R' a b) : ∀ {l : List α} {m : List β}, All2 R l m → All2 R' l m
  | [], [], _ => trivial
  | _ :: _, _ :: _, h => ⟨hr _ _ h.1, All2.mono hr h.2⟩
  | [], _ :: _, h => h.elim
  | _ :: _, [], h => h.elim
theorem All2.append : ∀ {l : List α} {m : List β} {l' : List α} {m' : List β}, All2 R l m → All2 R l' m' → All2 R (l ++ l') (m ++ m')
  | [], [], _, _, _, h => h
  | _ :: _, _ :: _, _, _, h, h' => ⟨h.1, All2.append h.2 h'⟩
  | [], _ :: _, _, _, h, _ => h.elim
  | _ :: _, [], _, _, h, _ => h.elim
theorem All2.take : ∀ (n : Nat) {l : List α} {m : List β}, All2 R l m → All2 R (l.take n) (m.take n)
  | 0, _, _, _ => trivial
  | _ + 1, [], [], _ => trivial
  | n + 1, _ :: _, _ :: _, h => ⟨h.1, All2.take n h.2⟩
  | _ + 1, [], _ :: _, h => h.elim
  | _ + 1, _ :: _, [], h => h.elim
theorem All2.drop : ∀ (n : Nat) {l : List α} {m : List β}, All2 R l m → All2 R (l.drop n) (m.drop n)
  | 0, _, _, h => h
  | _ + 1, [], [], _ => trivial
  | n + 1, _ :: _, _ :: _, h => All2.drop n h.2
  | _ + 1, [], _ :: _, h => h.elim
  | _ + 1, _ :: _, [], h => h.elim
theorem All2.get : ∀ {l : List α} {m : List β}, All2 R l m → ∀ {i : Nat} {a : α}, l[i]? = some a → ∃ b, m[i]? = some b ∧ R a b
  | _ :: _, b :: _, h, 0, a, e => ⟨b, rfl, by simp at e; rw [← e]; exact h.1⟩
  | _ :: _, _ :: _, h, i + 1, a, e => All2.get h.2 (i := i) (by simpa using e)
  | [], _, _, _, _, e => by simp at e
  | _ :: _, [], h, _, _, _ => h.elim
theorem All2.cons_inv {a : α} {l : List α} {m : List β} (h : All2 R (a :: l) m) : ∃ b m', m = b :: m' ∧ R a b ∧ All2 R l m' := by
  cases m with
  | nil => exact h.elim
  | cons b m' => exact ⟨b, m', rfl, h.1, h.2⟩
theorem All2.nil_inv {m : List β} (h : All2 R [] m) : m = [] := by
  cases m with
  | nil => rfl
  | cons b m' => exact h.elim
theorem All2.map_l {γ : Type} {f : γ → α} : ∀ {l : List γ} {m : List β}, All2 (fun c b => R (f c) b) l m → All2 R (l.map f) m
  | [], [], _ => trivial
  | _ :: _, _ :: _, h => ⟨h.1, All2.map_l h.2⟩
  | [], _ :: _, h => h.elim
  | _ :: _, [], h => h.elim
theorem All2.refl_of {S : α → α → Prop} : ∀ {l : List α}, (∀ a ∈ l, S a a) → All2 S l l
  | [], _ => trivial
  | a :: l, h => ⟨h a (by simp), All2.refl_of (fun b hb => h b (by simp [hb]))⟩
end
abbrev Mem := Addr → Option Value
def Mem.le (S S' : Mem) : Prop := ∀ p v, S p = some v → S' p = some v
theorem Mem.le_refl (S : Mem) : S.le S := fun _ _ h => h
theorem Mem.le_trans {A B C : Mem} (h : A.le B) (k : B.le C) : A.le C := fun p v e => k p v (h p v e)
abbrev lst {t : Ty} (l : (Ty.sl t).den) : List t.den := l
def Reps (S : Mem) : (t : Ty) → t.den → List Value → Prop
  | .int k, x, vs => vs = [.int k x]
  | .bool, x, vs => vs = [.bool x]
  | .str, x, vs => vs = [.string x]
  | .nil, _, vs => vs = []
  | .cons a b, x, vs => ∃ us ws, vs = us ++ ws ∧ Reps S a x.1 us ∧ Reps S b x.2 ws
  | .sl t, l, vs => ∃ A c, vs = [.slice A (lst l).length c] ∧ (lst l).length ≤ c ∧ ∀ (i : Nat) (x : t.den), (lst l)[i]? = some x → ∃ a us, A = some a ∧ Reps S t x us ∧ ∀ j u, us[j]? = some u → S (a.add (i * t.width + j)) = some u
theorem Reps.mono {S S' : Mem} (hS : S.le S') : ∀ {t : Ty} {x : t.den} {vs : List Value}, Reps S t x vs → Reps S' t x vs
  | .int _, _, _, h | .bool, _, _, h | .str, _, _, h | .nil, _, _, h => h
  | .cons a b, _, _, ⟨us, ws, e, h1, h2⟩ => ⟨us, ws, e, h1.mono hS, h2.mono hS⟩
  | .sl t, _, _, ⟨A, c, e, hc, h⟩ => ⟨A, c, e, hc, fun i x hi => let ⟨a, us, h1, h2, h3⟩ := h i x hi; ⟨a, us, h1, h2.mono hS, fun j u hj => hS _ _ (h3 j u hj)⟩⟩
theorem Reps.width {S : Mem} : ∀ {t : Ty} {x : t.den} {vs : List Value}, Reps S t x vs → vs.length = t.width
  | .int _, _, _, h | .bool, _, _, h | .str, _, _, h | .nil, _, _, h => by simp only [Reps] at h; subst h; rfl
  | .cons a b, _, _, ⟨us, ws, e, h1, h2⟩ => by subst e; rw [List.length_append, h1.width, h2.width]; rfl
  | .sl t, _, _, ⟨A, c, e, _⟩ => by subst e; rfl
theorem Reps.one {S : Mem} : ∀ {t : Ty} {x : t.den} {vs : List Value}, Reps S t x vs → ∀ v ∈ vs, v.oneCell' = true
  | .int _, _, _, h | .bool, _, _, h | .str, _, _, h | .nil, _, _, h => by simp only [Reps] at h; subst h; intro v hv; simp at hv; try (subst hv; rfl)
  | .cons a b, _, _, ⟨us, ws, e, h1, h2⟩ => by
    subst e; intro v hv
    rcases List.mem_append.1 hv with hv | hv
    · exact h1.one v hv
    · exact h2.one v hv
  | .sl t, _, _, ⟨A, c, e, _⟩ => by subst e; intro v hv; simp at hv; subst hv; rfl
def RowList (S : Mem) (t : Ty) (l : List t.den) (xs : List Value) : Prop :=
  xs.length = l.length * t.width ∧ ∀ i x, l[i]? = some x → ∃ us, Reps S t x us ∧ ∀ j u, us[j]? = some u → xs[i * t.width + j]? = some u
theorem RowList.mono {S S' : Mem} (hS : S.le S') {t : Ty} {l : List t.den} {xs : List Value} (h : RowList S t l xs) : RowList S' t l xs :=
  ⟨h.1, fun i x hx => let ⟨us, h1, h2⟩ := h.2 i x hx; ⟨us, h1.mono hS, h2⟩⟩
theorem RowList.nil (S : Mem) (t : Ty) : RowList S t [] [] := ⟨by simp, fun i x h => by simp at h⟩
theorem RowList.append {S : Mem} {t : Ty} {l m : List t.den} {xs ys : List Value} (h : RowList S t l xs) (k : RowList S t m ys) : RowList S t (l ++ m) (xs ++ ys) := by
  refine ⟨by simp [h.1, k.1, Nat.add_mul], fun i x hx => ?_⟩
  rw [List.getElem?_append] at hx
  split at hx
  · rename_i hi
    obtain ⟨us, h1, h2⟩ := h.2 i x hx
    refine ⟨us, h1, fun j u hj => ?_⟩
    have := h2 j u hj
    rw [List.getElem?_append_left (List.getElem?_eq_some_iff.1 this).1]; exact this
  · rename_i hi
    obtain ⟨us, h1, h2⟩ := k.2 _ x hx
    refine ⟨us, h1, fun j u hj => ?_⟩
    have := h2 j u hj
    have e : i * t.width = l.length * t.width + (i - l.length) * t.width := by rw [← Nat.add_mul]; congr 1; omega
    rw [List.getElem?_append_right (by rw [h.1, e]; omega), h.1, e, show l.length * t.width + (i - l.length) * t.width + j - l.length * t.width = (i - l.length) * t.width + j by omega]
    exact this
theorem RowList.one {S : Mem} {t : Ty} {x : t.den} {us : List Value} (h : Reps S t x us) : RowList S t [x] us := by
  refine ⟨by simp [h.width], fun i y hy => ?_⟩
  match i, hy with
  | 0, hy => simp at hy; subst hy; exact ⟨us, h, fun j u hj => by simpa using hj⟩
  | i + 1, hy => simp at hy
theorem RowList.oneCell {S : Mem} {t : Ty} {l : List t.den} {xs : List Value} (h : RowList S t l xs) : ∀ u ∈ xs, u.oneCell' = true := by
  intro u hu
  obtain ⟨j, hj, rfl⟩ := List.getElem_of_mem hu
  have hl := h.1
  by_cases hw : t.width = 0
  · rw [hw] at hl; omega
  · have hd := Nat.div_add_mod j t.width
    have hm := Nat.mod_lt j (Nat.pos_of_ne_zero hw)
    have hi : j / t.width < l.length := Nat.div_lt_of_lt_mul (by rw [Nat.mul_comm]; omega)
    obtain ⟨us, h1, h2⟩ := h.2 (j / t.width) l[j / t.width] (by simp [hi])
    have h3 := h1.width
    have h4 := h2 (j % t.width) us[j % t.width] (by simp [h3, hm])
    rw [Nat.mul_comm, hd] at h4
    rw [List.getElem?_eq_getElem hj] at h4
    rw [Option.some.inj h4]
    exact h1.one _ (List.getElem_mem _)
theorem reps_row {S : Mem} {t : Ty} {ad : Addr} : ∀ (l : List t.den) (k : Nat), (∀ i x, l[i]? = some x → ∃ us, Reps S t x us ∧ ∀ j u, us[j]? = some u → S (ad.add ((k + i) * t.width + j)) = some u) →
    ∃ xs, RowList S t l xs ∧ ∀ j u, xs[j]? = some u → S (ad.add (k * t.width + j)) = some u
  | [], k, h => ⟨[], RowList.nil S t, fun j u hj => by simp at hj⟩
  | x :: l, k, h => by
    obtain ⟨us, h1, h2⟩ := h 0 x rfl
    obtain ⟨xs, h3, h4⟩ := reps_row l (k + 1) (fun i y hy => by
      obtain ⟨us, g1, g2⟩ := h (i + 1) y hy
      exact ⟨us, g1, fun j u hj => by have := g2 j u hj; rwa [show k + (i + 1) = k + 1 + i by omega] at this⟩)
    refine ⟨us ++ xs, (RowList.one h1).append h3, fun j u hj => ?_⟩
    rw [List.getElem?_append] at hj
    split at hj
    · have := h2 j u hj; simpa using this
    · rename_i hlt
      have := h4 _ u hj
      rw [h1.width] at this hlt
      rwa [show (k + 1) * t.width + (j - t.width) = k * t.width + j by rw [Nat.add_mul, Nat.one_mul]; omega] at this
theorem addr_add (a : Addr) (i j : Nat) : (a.add i).add j = a.add (i + j) := by
  unfold Addr.add
  by_cases hi : i = 0
  · subst hi; simp
  · by_cases hj : j = 0
    · subst hj; simp
    · simp [hi, hj, Nat.add_assoc]
def cutV (lo hi : Nat) : Value → Value
  | .slice A _ cap => .slice (if cap = lo then A else A.map (·.add (lo * 1))) (hi - lo) (cap - lo)
  | v => v
theorem cut_reps {S : Mem} {v : Value} {l : List (Ty.cons .str .nil).den} {lo hi : Nat} (h : Reps S (.sl (.cons .str .nil)) l [v]) (hlo : lo ≤ hi) (hhi : hi ≤ l.length) : Reps S (.sl .str) (((l.map fun x => x.1).take hi).drop lo) [cutV lo hi v] := by
  obtain ⟨A, c, e, hc, hel⟩ := h
  simp at e
  subst e
  have hc : l.length ≤ c := hc
  have hlen : (((l.map fun x => x.1).take hi).drop lo).length = hi - lo := by simp; omega
  refine ⟨if c = lo then A else A.map (·.add (lo * 1)), c - lo, by simp only [cutV]; rw [show (lst (t := Ty.str) (((l.map fun x => x.1).take hi).drop lo)).length = hi - lo from hlen], by rw [show (lst (t := Ty.str) (((l.map fun x => x.1).take hi).drop lo)).length = hi - lo from hlen]; omega, fun i x hx => ?_⟩
  have hx : (((l.map fun x => x.1).take hi).drop lo)[i]? = some x := hx
  rw [List.getElem?_drop, List.getElem?_take] at hx
  split at hx
  · rename_i hlt
    rw [List.getElem?_map] at hx
    cases hy : l[lo + i]? with
    | none => rw [hy] at hx; cases hx
    | some y =>
      rw [hy] at hx
      obtain rfl : y.1 = x := Option.some.inj hx
      obtain ⟨ad, us, rfl, g1, g2⟩ := hel _ _ hy
      obtain ⟨us1, ws, rfl, g3, g4⟩ := g1
      have g4 : ws = [] := g4
      subst g4
      rw [if_neg (by omega)]
      refine ⟨ad.add (lo * 1), us1, rfl, g3, fun z u hz => ?_⟩
      rw [addr_add]
      have := g2 z u (by rw [List.append_nil]; exact hz)
      have e1 : (lo + i) * (Ty.cons Ty.str Ty.nil).width + z = lo * 1 + (i * Ty.str.width + z) := by
        show (lo + i) * 1 + z = lo * 1 + (i * 1 + z); omega
      rw [e1] at this; exact this
  · cases hx
theorem texts_reps {S : Mem} {v : Value} {t : Ty} {l : List t.den} {l' : List ByteArray} {lo hi : Nat} (hl : texts t l = some l') (h : Reps S (.sl t) l [v]) (hlo : lo ≤ hi) (hhi : hi ≤ l.length) : Reps S (.sl .str) ((l'.take hi).drop lo) [cutV lo hi v] := by
  unfold texts at hl
  split at hl
  · obtain rfl := Option.some.inj hl
    exact cut_reps h hlo hhi
  · cases hl
section
variable (φ : Nat → Nat) (ψ : Nat → Value) (S : Mem) (n : Nat)
def CRel : CV → Value → Prop
  | .val v, u => u = v ∧ v.oneCell' = true
  | .sl t l, u => Reps S (.sl t) l [u]
  | .ptr b off, u => b < n ∧ u = .pointer (some ⟨φ b, off, none⟩)
  | .row b, u => b < n ∧ u = ψ b ∧ u.oneCell' = true
  | .fn f caps, u => (∀ p ∈ caps, p.1 < n) ∧ u = .func (.func f) #[] (caps.map fun p => Value.pointer (some ⟨φ p.1, p.2, none⟩)).toArray
  | .rp t x off, u => ∃ a vs, u = .pointer (some a) ∧ Reps S t x vs ∧ ∀ j v, (vs.drop off)[j]? = some v → S (a.add j) = some v
  | .vw b m c, u => b < n ∧ m ≤ c ∧ u = .slice (some ⟨φ b, 0, none⟩) m c
  | .mp b w i off, u => b < n ∧ ∃ g len cap, ψ b = .slice (some ⟨g, 0, none⟩) len cap ∧ u = .pointer (some ⟨g, i * w + off, none⟩)
  | .mv b lo hi, u => b < n ∧ lo ≤ hi ∧ (∃ A len cap, ψ b = .slice A len cap ∧ hi ≤ len ∧ len ≤ cap) ∧ u = cutV lo hi (ψ b)
  | .any, u => u.oneCell' = true
def TRel : (Bool × List CV) → Value → Prop
  | (true, l), u => ∃ vs : List Value, u = .agg vs.toArray ∧ All2 (CRel φ ψ S n) l vs
  | (false, [c]), u => CRel φ ψ S n c u
  | _, _ => False
def ARel : AV → Value → Prop
  | .one .any, _ => True
  | .one (.val v), u => u = v
  | .one c, u => CRel φ ψ S n c u
  | .agg l, u => ∃ vs : List Value, u = .agg vs.toArray ∧ All2 (CRel φ ψ S n) l vs
  | .tup l, u => ∃ us : List Value, u = .tuple us.toArray ∧ All2 (TRel φ ψ S n) l us
def RowRel (base : Nat) (w : World) (v : Value) (e : TypeId) (t : Ty) (l : List t.den) : Prop :=
  (v = .slice none 0 0 ∧ l = []) ∨ ∃ g cap cur xs, v = .slice (some ⟨g, 0, none⟩) l.length cap ∧ base ≤ g ∧ w.heap[g]? = some (.cells cur e (0, 0)) ∧ l.length ≤ cap ∧ cap ≤ maxLen ∧ cur.size = cap * t.width ∧
    cur.toList.take (l.length * t.width) = xs ∧ RowList S t l xs ∧ ∀ off sp, S ⟨g, off, sp⟩ = match sp with | none => xs[off]? | some _ => none
def MRel (base : Nat) (w : World) (v : Value) (e : TypeId) (t : Ty) (l : List t.den) : Prop :=
  (v = .slice none 0 0 ∧ l = []) ∨ ∃ g cap cur xs, v = .slice (some ⟨g, 0, none⟩) l.length cap ∧ base ≤ g ∧ w.heap[g]? = some (.cells cur e (0, 0)) ∧ l.length ≤ cap ∧ cap ≤ maxLen ∧ cur.size = cap * t.width ∧
    cur.toList.take (l.length * t.width) = xs ∧ RowList S t l xs ∧ ∀ off sp, S ⟨g, off, sp⟩ = none
def Unfz (w : World) (g : Nat) : Prop := ∃ cur e, w.heap[g]? = some (.cells cur e (0, 0))
def LRel (base : Nat) (w : World) (v : Value) (t : Ty) (l : List t.den) : Prop :=
  (l = [] ∧ Reps S (.sl t) l [v]) ∨ ∃ ad len c Sf, v = .slice (some ad) len c ∧ base ≤ ad.block ∧ ad.block < w.heap.size ∧ (∀ off sp, S ⟨ad.block, off, sp⟩ = none) ∧ Unfz w ad.block ∧ (∀ p u, Sf p = some u → p.block = ad.block ∧ w.cell? p = some u) ∧ Reps Sf (.sl t) l [v]
def BRel (base : Nat) (w : World) (b : Nat) : Blk → Prop
  | .cells l t => base ≤ φ b ∧ ∃ vs : List Value, w.heap[φ b]? = some (.cells vs.toArray t (0, 0)) ∧ All2 (CRel φ ψ S n) l vs ∧ ∀ off sp, S ⟨φ b, off, sp⟩ = none
  | .row e t l => (ψ b).oneCell' = true ∧ RowRel S base w (ψ b) e t l
  | .mrow e t l => (ψ b).oneCell' = true ∧ MRel S base w (ψ b) e t l
  | .lrow t l => (ψ b).oneCell' = true ∧ LRel S base w (ψ b) t l
  | .dead => True
end
def sliceBlk : Value → Option Nat
  | .slice (some a) _ _ => some a.block
  | _ => none
def Blk.at (φ : Nat → Nat) (ψ : Nat → Value) (b : Nat) : Blk → Option Nat
  | .cells _ _ => some (φ b)
  | .row _ _ _ => (ψ b).ownBlock
  | .mrow _ _ _ => (ψ b).ownBlock
  | .lrow _ l => match l with | [] => none | _ :: _ => sliceBlk (ψ b)
  | .dead => none
structure Evo (φ : Nat → Nat) (ψ : Nat → Value) (S : Mem) (n : Nat) (φ' : Nat → Nat) (ψ' : Nat → Value) (S' : Mem) (n' : Nat) : Prop where
  hn : n ≤ n'
  hφ : ∀ b, b < n → φ' b = φ b
  hψ : ∀ b, b < n → ψ' b = ψ b
  hS : S.le S'
theorem Evo.refl (φ ψ S n) : Evo φ ψ S n φ ψ S n := ⟨Nat.le_refl _, fun _ _ => rfl, fun _ _ => rfl, Mem.le_refl _⟩
theorem Evo.trans {φ ψ S n φ' ψ' S' n' φ2 ψ2 S2 n2} (h : Evo φ ψ S n φ' ψ' S' n') (k : Evo φ' ψ' S' n' φ2 ψ2 S2 n2) : Evo φ ψ S n φ2 ψ2 S2 n2 :=
  ⟨Nat.le_trans h.hn k.hn, fun b hb => (k.hφ b (Nat.lt_of_lt_of_le hb h.hn)).trans (h.hφ b hb), fun b hb => (k.hψ b (Nat.lt_of_lt_of_le hb h.hn)).trans (h.hψ b hb), Mem.le_trans h.hS k.hS⟩
section
variable {φ φ' : Nat → Nat} {ψ ψ' : Nat → Value} {S S' : Mem} {n n' : Nat}
theorem CRel.evo (h : Evo φ ψ S n φ' ψ' S' n') : ∀ {c : CV} {u : Value}, CRel φ ψ S n c u → CRel φ' ψ' S' n' c u
  | .val _, _, k => k
  | .sl _ _, _, k => Reps.mono h.hS k
  | .ptr b off, _, ⟨k, e⟩ => ⟨Nat.lt_of_lt_of_le k h.hn, by rw [h.hφ b k]; exact e⟩
  | .row b, _, ⟨k, e, o⟩ => ⟨Nat.lt_of_lt_of_le k h.hn, by rw [h.hψ b k]; exact e, o⟩
  | .fn f caps, _, ⟨k, e⟩ => ⟨fun p hp => Nat.lt_of_lt_of_le (k p hp) h.hn, by
      rw [e]; congr 2
      exact List.map_congr_left fun p hp => by rw [h.hφ _ (k p hp)]⟩
  | .rp t x off, _, ⟨a, vs, e, k1, k2⟩ => ⟨a, vs, e, k1.mono h.hS, fun j v hj => h.hS _ _ (k2 j v hj)⟩
  | .vw b m c, _, ⟨k, l, e⟩ => ⟨Nat.lt_of_lt_of_le k h.hn, l, by rw [h.hφ b k]; exact e⟩
  | .mp b w i off, _, ⟨k, e⟩ => ⟨Nat.lt_of_lt_of_le k h.hn, by rw [h.hψ b k]; exact e⟩
  | .mv b lo hi, _, ⟨k, l, e⟩ => ⟨Nat.lt_of_lt_of_le k h.hn, l, by rw [h.hψ b k]; exact e⟩
  | .any, _, k => k
theorem TRel.evo (h : Evo φ ψ S n φ' ψ' S' n') : ∀ {c : Bool × List CV} {u : Value}, TRel φ ψ S n c u → TRel φ' ψ' S' n' c u
  | (true, _), _, ⟨vs, e, k⟩ => ⟨vs, e, k.mono fun _ _ => CRel.evo h⟩
  | (false, [_]), _, k => CRel.evo h k
  | (false, []), _, k => k.elim
  | (false, _ :: _ :: _), _, k => k.elim
theorem ARel.evo (h : Evo φ ψ S n φ' ψ' S' n') {v : AV} {u : Value} (k : ARel φ ψ S n v u) : ARel φ' ψ' S' n' v u := by
  cases v with
  | one c => cases c with
    | any => trivial
    | val _ => exact k
    | sl _ _ => exact CRel.evo h (c := .sl _ _) k
    | ptr _ _ => exact CRel.evo h (c := .ptr _ _) k
    | row _ => exact CRel.evo h (c := .row _) k
    | fn _ _ => exact CRel.evo h (c := .fn _ _) k
    | rp _ _ _ => exact CRel.evo h (c := .rp _ _ _) k
    | vw _ _ _ => exact CRel.evo h (c := .vw _ _ _) k
    | mp _ _ _ _ => exact CRel.evo h (c := .mp _ _ _ _) k
    | mv _ _ _ => exact CRel.evo h (c := .mv _ _ _) k
  | agg l => obtain ⟨vs, e, k⟩ := k; exact ⟨vs, e, k.mono fun _ _ => CRel.evo h⟩
  | tup l => obtain ⟨us, e, k⟩ := k; exact ⟨us, e, k.mono fun _ _ => TRel.evo h⟩
theorem CRel.one {c : CV} {u : Value} (k : CRel φ ψ S n c u) : u.oneCell' = true := by
  cases c with
  | val v => rw [k.1]; exact k.2
  | sl t l => obtain ⟨A, c, e, _⟩ := k; simp at e; subst e; rfl
  | ptr b off => rw [k.2]; rfl
  | row b => exact k.2.2
  | fn f caps => rw [k.2]; rfl
  | rp t x off => obtain ⟨a, vs, e, _⟩ := k; rw [e]; rfl
  | vw b m c => rw [k.2.2]; rfl
  | mp b w i off => obtain ⟨_, g, len, cap, _, e⟩ := k; rw [e]; rfl
  | mv b lo hi => obtain ⟨_, _, ⟨A, len, cap, e, _⟩, e'⟩ := k; rw [e', e]; rfl
  | any => exact k
theorem ARel.of_one {c : CV} {u : Value} (k : CRel φ ψ S n c u) : ARel φ ψ S n (.one c) u := by
  cases c with
  | any => trivial
  | val v => exact k.1
  | _ => exact k
theorem ARel.cells {v : AV} {l : List CV} {u : Value} (hc : v.cells = some l) (k : ARel φ ψ S n v u) : ∃ vs : List Value, u.cells = vs.toArray ∧ All2 (CRel φ ψ S n) l vs := by
  have one : ∀ {c : CV}, CRel φ ψ S n c u → l = [c] → ∃ vs : List Value, u.cells = vs.toArray ∧ All2 (CRel φ ψ S n) l vs := by
    intro c k e
    subst e
    refine ⟨[u], ?_, k, trivial⟩
    have := k.one
    cases u <;> first | rfl | (simp [Value.oneCell'] at this)
  cases v with
  | tup l => simp [AV.cells] at hc
  | agg l' =>
    simp [AV.cells] at hc; subst hc
    obtain ⟨vs, rfl, k⟩ := k
    exact ⟨vs, rfl, k⟩
  | one c =>
    cases c with
    | any => simp [AV.cells] at hc
    | val v =>
      have e : l = [.val v] := by cases v <;> simp [AV.cells] at hc <;> exact hc.symm
      refine one (c := .val v) ⟨k, ?_⟩ e
      cases v <;> simp [AV.cells] at hc <;> rfl
    | sl t x => exact one (c := .sl t x) k (by simpa [AV.cells] using hc.symm)
    | ptr b off => exact one (c := .ptr b off) k (by simpa [AV.cells] using hc.symm)
    | row b => exact one (c := .row b) k (by simpa [AV.cells] using hc.symm)
    | fn f caps => exact one (c := .fn f caps) k (by simpa [AV.cells] using hc.symm)
    | rp t x off => exact one (c := .rp t x off) k (by simpa [AV.cells] using hc.symm)
    | vw b m c => exact one (c := .vw b m c) k (by simpa [AV.cells] using hc.symm)
    | mp b w i off => exact one (c := .mp b w i off) k (by simpa [AV.cells] using hc.symm)
    | mv b lo hi => exact one (c := .mv b lo hi) k (by simpa [AV.cells] using hc.symm)
end
structure Rl (base : Nat) (w0 : World) (S0 : Mem) (φ : Nat → Nat) (ψ : Nat → Value) (S : Mem) (s : St) (a : Act) (w : World) : Prop where
  s0 : S0.le S
  snew : ∀ p v, S p = some v → S0 p = none → base ≤ p.block ∧ Unfz w p.block
  sw : ∀ p v, S p = some v → w.cell? p = some v
  below : Below base w0 w
  bsz : base ≤ w.heap.size
  defers : a.defers = []
  size : a.tmps.size = s.nt
  tm : ∀ d v, look s.tm d = some v → d < s.nt ∧ ARel φ ψ S s.n v (a.tmps.getD d undef)
  st : ∀ b k, look s.st b = some k → b < s.n ∧ BRel φ ψ S s.n base w b k
  apart : ∀ b b' k k' g, look s.st b = some k → look s.st b' = some k' → k.at φ ψ b = some g → k'.at φ ψ b' = some g → b = b'
theorem look_cons_eq {α : Type} (l : List (Nat × α)) (d : Nat) (v : α) : look ((d, v) :: l) d = some v := by simp [look]
theorem look_cons_ne {α : Type} (l : List (Nat × α)) {d e : Nat} (v : α) (h : d ≠ e) : look ((d, v) :: l) e = look l e := by
  simp only [look]
  have : Nat.beq d e = false := by
    cases hb : Nat.beq d e
    · rfl
    · exact absurd (Nat.eq_of_beq_eq_true hb) h
  rw [this]
section
variable {base : Nat} {w0 : World} {S0 : Mem} {φ : Nat → Nat} {ψ : Nat → Value} {S : Mem} {s : St} {a : Act} {w : World}
theorem Rl.get (h : Rl base w0 S0 φ ψ S s a w) (d : Nat) : ARel φ ψ S s.n (s.get d) (a.tmps.getD d undef) := by
  unfold St.get
  split
  · rename_i v e; exact (h.tm d v e).2
  · trivial
theorem ofVal_rel (v : Value) : ARel φ ψ S s.n (ofVal v) v := by
  unfold ofVal
  split
  · rename_i cs
    split
    · rename_i h
      refine ⟨cs.toList, by simp, All2.map_l (All2.refl_of fun b hb => ⟨rfl, ?_⟩)⟩
      exact List.all_eq_true.1 h b hb
    · trivial
  · rfl
theorem Rl.val (h : Rl base w0 S0 φ ψ S s a w) (x : Operand) : ARel φ ψ S s.n (aval s x) (a.eval x) := by
  cases x with
  | tmp t => exact h.get t
  | const v => exact ofVal_rel v
  | global g => trivial
  | func f => exact ⟨by simp, rfl⟩
theorem Rl.put (h : Rl base w0 S0 φ ψ S s a w) {v : AV} {u : Value} (k : ARel φ ψ S s.n v u) {d : Nat} (hd : d < s.nt) :
    Rl base w0 S0 φ ψ S { s with tm := (d, v) :: s.tm } (a.put (some d) u) w := by
  refine ⟨h.s0, h.snew, h.sw, h.below, h.bsz, h.defers, by simp [Act.put, h.size], fun e v' he => ?_, h.st, h.apart⟩
  by_cases hde : d = e
  · subst hde
    rw [look_cons_eq] at he
    obtain rfl := Option.some.inj he
    refine ⟨hd, ?_⟩
    have : (a.put (some d) u).tmps.getD d undef = u := by
      have hs := h.size
      simp [Act.put, Array.getD_eq_getD_getElem?, hs, hd]
    rw [this]; exact k
  · rw [look_cons_ne _ _ hde] at he
    obtain ⟨h1, h2⟩ := h.tm e v' he
    refine ⟨h1, ?_⟩
    have : (a.put (some d) u).tmps.getD e undef = a.tmps.getD e undef := by
      simp [Act.put, Array.getD_eq_getD_getElem?, Array.getElem?_setIfInBounds_ne hde]
    rw [this]; exact h2
theorem RowRel.lt {v : Value} {e : TypeId} {t : Ty} {l : List t.den} (h : RowRel S base w v e t l) {g : Nat} (hg : v.ownBlock = some g) : g < w.heap.size ∧ base ≤ g := by
  rcases h with ⟨rfl, _⟩ | ⟨g', cap, cur, xs, rfl, hb, h1, _⟩
  · cases hg
  · cases hg; exact ⟨(Array.getElem?_eq_some_iff.1 h1).1, hb⟩
theorem MRel.lt {v : Value} {e : TypeId} {t : Ty} {l : List t.den} (h : MRel S base w v e t l) {g : Nat} (hg : v.ownBlock = some g) : g < w.heap.size ∧ base ≤ g := by
  rcases h with ⟨rfl, _⟩ | ⟨g', cap, cur, xs, rfl, hb, h1, _⟩
  · cases hg
  · cases hg; exact ⟨(Array.getElem?_eq_some_iff.1 h1).1, hb⟩
theorem RowRel.reps {v : Value} {e : TypeId} {t : Ty} {l : List t.den} (h : RowRel S base w v e t l) : Reps S (.sl t) l [v] := by
  rcases h with ⟨rfl, rfl⟩ | ⟨g, cap, cur, xs, rfl, hb, h1, h2, h3, h4, h5, h6, h7⟩
  · exact ⟨none, 0, rfl, Nat.le_refl _, fun i x hx => by simp [lst] at hx⟩
  refine ⟨some ⟨g, 0, none⟩, cap, rfl, h2, fun i x hx => ?_⟩
  obtain ⟨us, k1, k2⟩ := h6.2 i x hx
  refine ⟨_, us, rfl, k1, fun j u hj => ?_⟩
  have : (Addr.mk g 0 none).add (i * t.width + j) = ⟨g, i * t.width + j, none⟩ := by
    unfold Addr.add; split
    · rename_i h; rw [h]
    · simp
  rw [this, h7]
  exact k2 j u hj
theorem Rl.derefC (h : Rl base w0 S0 φ ψ S s a w) {c : CV} {u : Value} (k : CRel φ ψ S s.n c u) : CRel φ ψ S s.n (s.derefC c) u := by
  unfold St.derefC
  split
  · rename_i b
    split
    · rename_i e t l hk
      obtain ⟨_, rfl, _⟩ := k
      exact (h.st b _ hk).2.2.reps
    · exact k
  · rename_i b lo hi
    split
    · rename_i e t l hk
      split
      · rename_i l' hl
        obtain ⟨_, hlo, ⟨A, len, cap, e1, h1, h2⟩, rfl⟩ := k
        have hr := (h.st b _ hk).2.2.reps
        refine texts_reps hl hr hlo ?_
        obtain ⟨A', c', e2, _⟩ := hr
        rw [e1] at e2
        simp at e2
        have : len = List.length l := e2.2.1
        omega
      · exact k
    · exact k
  · exact k
theorem Rl.deref (h : Rl base w0 S0 φ ψ S s a w) {v : AV} {u : Value} (k : ARel φ ψ S s.n v u) : ARel φ ψ S s.n (s.deref v) u := by
  cases v with
  | one c =>
    cases c with
    | row b => exact ARel.of_one (h.derefC (c := .row b) k)
    | mv b lo hi => exact ARel.of_one (h.derefC (c := .mv b lo hi) k)
    | _ => exact k
  | agg l =>
    obtain ⟨vs, rfl, k⟩ := k
    exact ⟨vs, rfl, All2.map_l (k.mono fun c u hc => h.derefC hc)⟩
  | tup l =>
    obtain ⟨us, rfl, k⟩ := k
    refine ⟨us, rfl, All2.map_l (k.mono fun c u hc => ?_)⟩
    obtain ⟨b, cs⟩ := c
    cases b with
    | true =>
      obtain ⟨vs, rfl, k⟩ := hc
      exact ⟨vs, rfl, All2.map_l (k.mono fun c u hc => h.derefC hc)⟩
    | false =>
      match cs, hc with
      | [c], hc => exact h.derefC hc
theorem Rl.valR (h : Rl base w0 S0 φ ψ S s a w) (x : Operand) : ARel φ ψ S s.n (avalR s x) (a.eval x) := h.deref (h.val x)
theorem BRel.lt {n b g : Nat} {k : Blk} (h : BRel φ ψ S n base w b k) (e : k.at φ ψ b = some g) : g < w.heap.size ∧ base ≤ g := by
  cases k with
  | dead => cases e
  | row e t l =>
    exact h.2.lt e
  | mrow e t l =>
    exact h.2.lt e
  | lrow t l =>
    cases l with
    | nil => cases e
    | cons x l =>
      rcases h.2 with ⟨q, _⟩ | ⟨ad, len, c, Sf, h1, h2, h3, _⟩
      · cases q
      · simp only [Blk.at, h1, sliceBlk] at e
        cases e
        exact ⟨h3, h2⟩
  | cells l t =>
    obtain ⟨h1, vs, h2, _⟩ := h
    simp only [Blk.at] at e
    cases e
    exact ⟨(Array.getElem?_eq_some_iff.1 h2).1, h1⟩
theorem BRel.keep {φ' : Nat → Nat} {ψ' : Nat → Value} {S' : Mem} {n n' b : Nat} {w' : World} {k : Blk} (h : BRel φ ψ S n base w b k) (hb : b < n) (ev : Evo φ ψ S n φ' ψ' S' n')
    (hw : ∀ g, k.at φ ψ b = some g → w'.heap[g]? = w.heap[g]? ∧ ∀ off sp, S' ⟨g, off, sp⟩ = S ⟨g, off, sp⟩) : BRel φ' ψ' S' n' base w' b k ∧ k.at φ' ψ' b = k.at φ ψ b := by
  cases k with
  | dead => exact ⟨trivial, rfl⟩
  | row e t l =>
    have hψ := ev.hψ b hb
    rcases h with ⟨h0, ⟨h1, h2⟩ | ⟨g, cap, cur, xs, h1, h2, h3, h4, h5, h6, h7, h8, h9⟩⟩
    · exact ⟨⟨by rw [hψ]; exact h0, .inl ⟨by rw [hψ]; exact h1, h2⟩⟩, by simp only [Blk.at, hψ]⟩
    have hg : (Blk.row e t l).at φ ψ b = some g := by simp only [Blk.at, h1]; rfl
    obtain ⟨k1, k2⟩ := hw g hg
    exact ⟨⟨by rw [hψ]; exact h0, .inr ⟨g, cap, cur, xs, by rw [hψ]; exact h1, h2, k1.trans h3, h4, h5, h6, h7, h8.mono ev.hS, fun off sp => by rw [k2]; exact h9 off sp⟩⟩, by simp only [Blk.at, hψ]⟩
  | mrow e t l =>
    have hψ := ev.hψ b hb
    rcases h with ⟨h0, ⟨h1, h2⟩ | ⟨g, cap, cur, xs, h1, h2, h3, h4, h5, h6, h7, h8, h9⟩⟩
    · exact ⟨⟨by rw [hψ]; exact h0, .inl ⟨by rw [hψ]; exact h1, h2⟩⟩, by simp only [Blk.at, hψ]⟩
    have hg : (Blk.mrow e t l).at φ ψ b = some g := by simp only [Blk.at, h1]; rfl
    obtain ⟨k1, k2⟩ := hw g hg
    exact ⟨⟨by rw [hψ]; exact h0, .inr ⟨g, cap, cur, xs, by rw [hψ]; exact h1, h2, k1.trans h3, h4, h5, h6, h7, h8.mono ev.hS, fun off sp => by rw [k2]; exact h9 off sp⟩⟩, by simp only [Blk.at, hψ]⟩
  | lrow t l =>
    have hψ := ev.hψ b hb
    obtain ⟨h0, h⟩ := h
    cases l with
    | nil =>
      refine ⟨⟨by rw [hψ]; exact h0, .inl ⟨rfl, ?_⟩⟩, rfl⟩
      rw [hψ]
      rcases h with ⟨_, h⟩ | ⟨ad, len, c, Sf, h1, _, _, _, _, _, A, c', e, h5, h6⟩
      · exact Reps.mono ev.hS h
      · exact ⟨A, c', e, h5, fun i x hi => by simp [lst] at hi⟩
    | cons x l =>
      rcases h with ⟨q, _⟩ | ⟨ad, len, c, Sf, h1, h2, h3, h4, hz, h5, h6⟩
      · cases q
      · have hg : (Blk.lrow t (x :: l)).at φ ψ b = some ad.block := by simp only [Blk.at, h1, sliceBlk]
        obtain ⟨k1, k2⟩ := hw ad.block hg
        have hlt : ad.block < w'.heap.size := by
          rcases Nat.lt_or_ge ad.block w'.heap.size with q | q
          · exact q
          · rw [Array.getElem?_eq_none q, Array.getElem?_eq_getElem h3] at k1; cases k1
        refine ⟨⟨by rw [hψ]; exact h0, .inr ⟨ad, len, c, Sf, by rw [hψ]; exact h1, h2, hlt, fun off sp => by rw [k2]; exact h4 off sp, (let ⟨cur, e, q⟩ := hz; ⟨cur, e, k1.trans q⟩), fun p u hp => ?_, by rw [hψ]; exact h6⟩⟩, by simp only [Blk.at, hψ]⟩
        obtain ⟨g1, g2⟩ := h5 p u hp
        exact ⟨g1, (World.cell?_of_block (by rw [g1]; exact k1)).trans g2⟩
  | cells l t =>
    have hφ := ev.hφ b hb
    obtain ⟨h1, vs, h2, h3, h4⟩ := h
    obtain ⟨k1, k2⟩ := hw (φ b) rfl
    refine ⟨⟨by rw [hφ]; exact h1, vs, by rw [hφ]; exact k1.trans h2, h3.mono fun _ _ => CRel.evo ev, fun off sp => by rw [hφ, k2]; exact h4 off sp⟩, by simp only [Blk.at, hφ]⟩
theorem Rl.upd {s' : St} {φ' : Nat → Nat} {ψ' : Nat → Value} {S' : Mem} {w' : World} (h : Rl base w0 S0 φ ψ S s a w) (ev : Evo φ ψ S s.n φ' ψ' S' s'.n) (htm : s'.tm = s.tm) (hnt : s'.nt = s.nt)
    (snew : ∀ p v, S' p = some v → S p = none → base ≤ p.block ∧ Unfz w' p.block) (sw : ∀ p v, S' p = some v → w'.cell? p = some v) (hb : Below base w w')
    (hst : ∀ b k, look s'.st b = some k → (look s.st b = some k ∧ ∀ g, k.at φ ψ b = some g → w'.heap[g]? = w.heap[g]? ∧ ∀ off sp, S' ⟨g, off, sp⟩ = S ⟨g, off, sp⟩) ∨
      (b < s'.n ∧ BRel φ' ψ' S' s'.n base w' b k ∧ ∀ g, k.at φ' ψ' b = some g → ∀ b2 k2, look s'.st b2 = some k2 → look s.st b2 = some k2 → b2 ≠ b → k2.at φ ψ b2 ≠ some g))
    (hone : ∀ b k b2 k2 g, look s'.st b = some k → look s'.st b2 = some k2 → look s.st b ≠ some k → look s.st b2 ≠ some k2 → k.at φ' ψ' b = some g → k2.at φ' ψ' b2 = some g → b = b2) (hu : ∀ g, base ≤ g → Unfz w g → Unfz w' g := by exact fun _ _ h => h) :
    Rl base w0 S0 φ' ψ' S' s' a w' := by
  have key : ∀ b k, look s'.st b = some k → look s.st b = some k → (∀ g, k.at φ ψ b = some g → w'.heap[g]? = w.heap[g]? ∧ ∀ off sp, S' ⟨g, off, sp⟩ = S ⟨g, off, sp⟩) → b < s'.n ∧ BRel φ' ψ' S' s'.n base w' b k ∧ k.at φ' ψ' b = k.at φ ψ b := by
    intro b k _ e hk
    obtain ⟨h1, h2⟩ := h.st b k e
    obtain ⟨h3, h4⟩ := h2.keep h1 ev hk
    exact ⟨Nat.lt_of_lt_of_le h1 ev.hn, h3, h4⟩
  refine ⟨fun p v e => ev.hS _ _ (h.s0 p v e), fun p v e e0 => ?_, sw, h.below.trans hb, Nat.le_trans h.bsz hb.size, h.defers, h.size.trans hnt.symm, fun d v e => ?_, fun b k e => ?_, fun b b' k k' g e e' f f' => ?_⟩
  · cases hS : S p with
    | none => exact snew p v e hS
    | some u => exact ⟨(h.snew p u hS e0).1, hu _ (h.snew p u hS e0).1 (h.snew p u hS e0).2⟩
  · rw [htm] at e
    obtain ⟨h1, h2⟩ := h.tm d v e
    exact ⟨by rw [hnt]; exact h1, h2.evo ev⟩
  · rcases hst b k e with ⟨h1, h2⟩ | ⟨h1, h2, _⟩
    · exact ⟨(key b k e h1 h2).1, (key b k e h1 h2).2.1⟩
    · exact ⟨h1, h2⟩
  · by_cases hbb : b = b'
    · exact hbb
    · rcases hst b k e with ⟨h1, h2⟩ | ⟨h1, h2, h3⟩ <;> rcases hst b' k' e' with ⟨h4, h5⟩ | ⟨h4, h5, h6⟩
      · rw [(key b k e h1 h2).2.2] at f
        rw [(key b' k' e' h4 h5).2.2] at f'
        exact h.apart b b' k k' g h1 h4 f f'
      · rw [(key b k e h1 h2).2.2] at f
        exact absurd f (h6 g f' b k e h1 hbb)
      · rw [(key b' k' e' h4 h5).2.2] at f'
        exact absurd f' (h3 g f b' k' e' h4 (Ne.symm hbb))
      · by_cases o1 : look s.st b = some k
        · have := h.st b k o1
          exfalso
          by_cases o2 : look s.st b' = some k'
          · -- both old and told anew
            exact hbb (by
              by_cases q : k.at φ ψ b = some g
              · exact absurd q (h6 g f' b k e o1 hbb)
              · by_cases q' : k'.at φ ψ b' = some g
                · exact absurd q' (h3 g f b' k' e' o2 (Ne.symm hbb))
                · exact absurd (hone' h ev o1 f) q)
          · exact absurd (hone' h ev o1 f) (h6 g f' b k e o1 hbb)
        · by_cases o2 : look s.st b' = some k'
          · exact absurd (hone' h ev o2 f') (h3 g f b' k' e' o2 (Ne.symm hbb))
          · exact hone b k b' k' g e e' o1 o2 f f'
where
  hone' {s' : St} {φ' : Nat → Nat} {ψ' : Nat → Value} {S' : Mem} (h : Rl base w0 S0 φ ψ S s a w) (ev : Evo φ ψ S s.n φ' ψ' S' s'.n) {b : Nat} {k : Blk} {g : Nat} (e : look s.st b = some k) (f : k.at φ' ψ' b = some g) : k.at φ ψ b = some g := by
    have hb := (h.st b k e).1
    cases k with
    | dead => exact f
    | row e t l => simp only [Blk.at, ev.hψ b hb] at f ⊢; exact f
    | mrow e t l => simp only [Blk.at, ev.hψ b hb] at f ⊢; exact f
    | lrow t l => simp only [Blk.at, ev.hψ b hb] at f ⊢; exact f
    | cells l t => simp only [Blk.at, ev.hφ b hb] at f ⊢; exact f
theorem Rl.drew (h : Rl base w0 S0 φ ψ S s a w) : Rl base w0 S0 φ ψ S s a { w with drawn := w.drawn + 1 } :=
  h.upd (Evo.refl _ _ _ _) rfl rfl (fun p v e e0 => by rw [e] at e0; cases e0) h.sw (Below.refl base w).drew (fun b k e => .inl ⟨e, fun g _ => ⟨rfl, fun _ _ => rfl⟩⟩) (fun b k _ _ _ e _ n _ _ _ => absurd e n)
theorem fresh_mem (hR : Rl base w0 S0 φ ψ S s a w) : ∀ off sp, S ⟨w.heap.size, off, sp⟩ = none := by
  intro off sp
  cases h : S ⟨w.heap.size, off, sp⟩ with
  | none => rfl
  | some v =>
    have := World.block_lt_of_cell? w _ (hR.sw _ _ h)
    simp at this
theorem Rl.new (h : Rl base w0 S0 φ ψ S s a w) {l : List CV} {vs : List Value} (k : All2 (CRel φ ψ S s.n) l vs) (t : TypeId) :
    ∃ φ', Rl base w0 S0 φ' ψ S { s with st := (s.n, .cells l t) :: s.st, n := s.n + 1 } a (w.alloc (.cells vs.toArray t)) ∧ φ' s.n = w.heap.size ∧ Evo φ ψ S s.n φ' ψ S (s.n + 1) := by
  have ev : Evo φ ψ S s.n (fun b => if b = s.n then w.heap.size else φ b) ψ S (s.n + 1) := ⟨Nat.le_succ _, fun b hb => if_neg (by omega), fun _ _ => rfl, Mem.le_refl _⟩
  refine ⟨fun b => if b = s.n then w.heap.size else φ b, ?_, by simp, ev⟩
  have hnew : (w.alloc (.cells vs.toArray t)).heap[w.heap.size]? = some (.cells vs.toArray t (0, 0)) := by
    show (w.heap.push _)[w.heap.size]? = _; simp
  refine h.upd ev rfl rfl (fun p v e e0 => by rw [e] at e0; cases e0) (fun p v hp => ?_) ((Below.refl base w).alloc h.bsz _) (fun b k' e => ?_) (fun b k1 b2 k2 g e1 e2 n1 n2 f1 f2 => ?_) (fun g _ ⟨cur, e, q⟩ => ⟨cur, e, (Below.heap_alloc w _ _ (Array.getElem?_eq_some_iff.1 q).1).trans q⟩)
  · have h1 := h.sw p v hp
    have hlt := World.block_lt_of_cell? w _ h1
    rw [World.cell?_of_block (w := w) (Below.heap_alloc w _ _ hlt)]; exact h1
  · by_cases hb : s.n = b
    · subst hb
      rw [look_cons_eq] at e
      obtain rfl := Option.some.inj e
      refine .inr ⟨Nat.lt_succ_self _, ?_, fun g f b2 k2 e2 e3 hne f2 => ?_⟩
      · simp only [BRel, if_true]
        exact ⟨h.bsz, vs, hnew, k.mono fun _ _ => CRel.evo ev, fresh_mem h⟩
      · simp [Blk.at] at f
        have := ((h.st b2 k2 e3).2.lt f2).1
        omega
    · rw [look_cons_ne _ _ hb] at e
      refine .inl ⟨e, fun g f => ⟨Below.heap_alloc w _ _ ((h.st b k' e).2.lt f).1, fun _ _ => rfl⟩⟩
  · have hb : ∀ b k, look ((s.n, Blk.cells l t) :: s.st) b = some k → look s.st b ≠ some k → s.n = b := by
      intro b k e n
      by_cases hb : s.n = b
      · exact hb
      · rw [look_cons_ne _ _ hb] at e; exact absurd e n
    rw [← hb b k1 e1 n1, ← hb b2 k2 e2 n2]
end
end Go.Proofs.YtohlhliifeeokaaGreat.Ab
