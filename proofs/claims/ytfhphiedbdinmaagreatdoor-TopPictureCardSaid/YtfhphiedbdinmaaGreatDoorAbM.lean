import Derived.Test.YtfhphiedbdinmaaGreatDoorAb
import Derived.Lib.LaidTab
import Derived.Lib.ItoaNum
import Derived.Deep.Slices
import Derived.Laws.StructEq
import Derived.MapKept
set_option linter.all false
namespace Go.Proofs.YtfhphiedbdinmaaGreatDoor.Ab
open Go Go.RowKit
section
def All2 {α β : Type} (R : α -> β -> Prop) : List α -> List β -> Prop
 | [], [] => True
 | a :: l, b :: m => R a b /\ All2 R l m
 | _, _ => False
section
variable {α β : Type} {R R' : α -> β -> Prop}
theorem All2.length : ∀ {l : List α} {m : List β}, All2 R l m -> l.length = m.length
 | [], [], _ => rfl
 | _ :: _, _ :: _, h => by simp [All2.length h.2]
 | [], _ :: _, h => h.elim
 | _ :: _, [], h => h.elim
theorem All2.mono (hr : ∀ a b, R a b -> R' a b) : ∀ {l : List α} {m : List β}, All2 R l m -> All2 R' l m
 | [], [], _ => trivial
 | _ :: _, _ :: _, h => ⟨hr _ _ h.1, All2.mono hr h.2⟩
 | [], _ :: _, h => h.elim
 | _ :: _, [], h => h.elim
theorem All2.append : ∀ {l : List α} {m : List β} {l' : List α} {m' : List β}, All2 R l m -> All2 R l' m' -> All2 R (l ++ l') (m ++ m')
 | [], [], _, _, _, h => h
 | _ :: _, _ :: _, _, _, h, h' => ⟨h.1, All2.append h.2 h'⟩
 | [], _ :: _, _, _, h, _ => h.elim
 | _ :: _, [], _, _, h, _ => h.elim
theorem All2.take : ∀ (n : Nat) {l : List α} {m : List β}, All2 R l m -> All2 R (l.take n) (m.take n)
 | 0, _, _, _ => trivial
 | _ + 1, [], [], _ => trivial
 | n + 1, _ :: _, _ :: _, h => ⟨h.1, All2.take n h.2⟩
 | _ + 1, [], _ :: _, h => h.elim
 | _ + 1, _ :: _, [], h => h.elim
theorem All2.drop : ∀ (n : Nat) {l : List α} {m : List β}, All2 R l m -> All2 R (l.drop n) (m.drop n)
 | 0, _, _, h => h
 | _ + 1, [], [], _ => trivial
 | n + 1, _ :: _, _ :: _, h => All2.drop n h.2
 | _ + 1, [], _ :: _, h => h.elim
 | _ + 1, _ :: _, [], h => h.elim
theorem All2.get : ∀ {l : List α} {m : List β}, All2 R l m -> ∀ {i : Nat} {a : α}, l[i]? = some a -> ∃ b, m[i]? = some b /\ R a b
 | _ :: _, b :: _, h, 0, a, e => ⟨b, rfl, by simp at e; rw [<- e]; exact h.1⟩
 | _ :: _, _ :: _, h, i + 1, a, e => All2.get h.2 (i := i) (by simpa using e)
 | [], _, _, _, _, e => by simp at e
 | _ :: _, [], h, _, _, _ => h.elim
theorem All2.cons_inv {a : α} {l : List α} {m : List β} (h : All2 R (a :: l) m) : ∃ b m', m = b :: m' /\ R a b /\ All2 R l m' := by
 cases m with
 | nil => exact h.elim
 | cons b m' => exact ⟨b, m', rfl, h.1, h.2⟩
theorem All2.nil_inv {m : List β} (h : All2 R [] m) : m = [] := by
 cases m with
 | nil => rfl
 | cons b m' => exact h.elim
theorem All2.map_l {γ : Type} {f : γ -> α} : ∀ {l : List γ} {m : List β}, All2 (fun c b => R (f c) b) l m -> All2 R (l.map f) m
 | [], [], _ => trivial
 | _ :: _, _ :: _, h => ⟨h.1, All2.map_l h.2⟩
 | [], _ :: _, h => h.elim
 | _ :: _, [], h => h.elim
theorem All2.refl_of {S : α -> α -> Prop} : ∀ {l : List α}, (∀ a ∈ l, S a a) -> All2 S l l
 | [], _ => trivial
 | a :: l, h => ⟨h a (by simp), All2.refl_of (fun b hb => h b (by simp [hb]))⟩
end
abbrev Mem := Addr -> Option Value
def Mem.le (S S' : Mem) : Prop := ∀ p v, S p = some v -> S' p = some v
theorem Mem.le_refl (S : Mem) : S.le S := fun _ _ h => h
theorem Mem.le_trans {A B C : Mem} (h : A.le B) (k : B.le C) : A.le C := fun p v e => k p v (h p v e)
def GT (P : Program) (w : World) : Prop := Lib.TabIs P w "internal/strconv.uint64pow10" .u64 Lib.pow10Tab
def GB (P : Program) (base : Nat) (w0 : World) : Prop := ∀ w, Below base w0 w -> GT P w
theorem GB.of {P : Program} {w : World} (h : GT P w) : GB P w.heap.size w := fun w' hb => by
 unfold GT Lib.TabIs World.var? at *
 cases hg : P.globalNamed "internal/strconv.uint64pow10" with
 | none => rw [hg] at h; simp at h
 | some g =>
   rw [hg] at h
   simp only [Option.bind_some] at h ⊢
   have hlt : g < w.heap.size := by
    rcases Nat.lt_or_ge g w.heap.size with h' | h'
    . exact h'
    . rw [Array.getElem?_eq_none h'] at h; cases h
   rw [hb.block g hlt]
   exact h
abbrev lst {t : Ty} (l : (Ty.sl t).den) : List t.den := l
def Reps (S : Mem) : (t : Ty) -> t.den -> List Value -> Prop
 | .int k, x, vs => vs = [.int k x]
 | .bool, x, vs => vs = [.bool x]
 | .str, x, vs => vs = [.string x]
 | .nil, _, vs => vs = []
 | .cons a b, x, vs => ∃ us ws, vs = us ++ ws /\ Reps S a x.1 us /\ Reps S b x.2 ws
 | .sl t, l, vs => ∃ A c, vs = [.slice A (lst l).length c] /\ (lst l).length <= c /\ ∀ (i : Nat) (x : t.den), (lst l)[i]? = some x -> ∃ a us, A = some a /\ Reps S t x us /\ ∀ j u, us[j]? = some u -> S (a.add (i * t.width + j)) = some u
theorem Reps.mono {S S' : Mem} (hS : S.le S') : ∀ {t : Ty} {x : t.den} {vs : List Value}, Reps S t x vs -> Reps S' t x vs
 | .int _, _, _, h | .bool, _, _, h | .str, _, _, h | .nil, _, _, h => h
 | .cons a b, _, _, ⟨us, ws, e, h1, h2⟩ => ⟨us, ws, e, h1.mono hS, h2.mono hS⟩
 | .sl t, _, _, ⟨A, c, e, hc, h⟩ => ⟨A, c, e, hc, fun i x hi => let ⟨a, us, h1, h2, h3⟩ := h i x hi; ⟨a, us, h1, h2.mono hS, fun j u hj => hS _ _ (h3 j u hj)⟩⟩
theorem Reps.width {S : Mem} : ∀ {t : Ty} {x : t.den} {vs : List Value}, Reps S t x vs -> vs.length = t.width
 | .int _, _, _, h | .bool, _, _, h | .str, _, _, h | .nil, _, _, h => by simp only [Reps] at h; subst h; rfl
 | .cons a b, _, _, ⟨us, ws, e, h1, h2⟩ => by subst e; rw [List.length_append, h1.width, h2.width]; rfl
 | .sl t, _, _, ⟨A, c, e, _⟩ => by subst e; rfl
theorem Reps.one {S : Mem} : ∀ {t : Ty} {x : t.den} {vs : List Value}, Reps S t x vs -> ∀ v ∈ vs, v.oneCell' = true
 | .int _, _, _, h | .bool, _, _, h | .str, _, _, h | .nil, _, _, h => by simp only [Reps] at h; subst h; intro v hv; simp at hv; try (subst hv; rfl)
 | .cons a b, _, _, ⟨us, ws, e, h1, h2⟩ => by
   subst e; intro v hv
   rcases List.mem_append.1 hv with hv | hv
   . exact h1.one v hv
   . exact h2.one v hv
 | .sl t, _, _, ⟨A, c, e, _⟩ => by subst e; intro v hv; simp at hv; subst hv; rfl
def RowList (S : Mem) (t : Ty) (l : List t.den) (xs : List Value) : Prop :=
 xs.length = l.length * t.width /\ ∀ i x, l[i]? = some x -> ∃ us, Reps S t x us /\ ∀ j u, us[j]? = some u -> xs[i * t.width + j]? = some u
theorem RowList.mono {S S' : Mem} (hS : S.le S') {t : Ty} {l : List t.den} {xs : List Value} (h : RowList S t l xs) : RowList S' t l xs :=
 ⟨h.1, fun i x hx => let ⟨us, h1, h2⟩ := h.2 i x hx; ⟨us, h1.mono hS, h2⟩⟩
theorem RowList.nil (S : Mem) (t : Ty) : RowList S t [] [] := ⟨by simp, fun i x h => by simp at h⟩
theorem RowList.append {S : Mem} {t : Ty} {l m : List t.den} {xs ys : List Value} (h : RowList S t l xs) (k : RowList S t m ys) : RowList S t (l ++ m) (xs ++ ys) := by
 refine ⟨by simp [h.1, k.1, Nat.add_mul], fun i x hx => ?_⟩
 rw [List.getElem?_append] at hx
 split at hx
 . rename_i hi
   obtain ⟨us, h1, h2⟩ := h.2 i x hx
   refine ⟨us, h1, fun j u hj => ?_⟩
   have := h2 j u hj
   rw [List.getElem?_append_left (List.getElem?_eq_some_iff.1 this).1]; exact this
 . rename_i hi
   obtain ⟨us, h1, h2⟩ := k.2 _ x hx
   refine ⟨us, h1, fun j u hj => ?_⟩
   have := h2 j u hj
   have e : i * t.width = l.length * t.width + (i - l.length) * t.width := by rw [<- Nat.add_mul]; congr 1; omega
   rw [List.getElem?_append_right (by rw [h.1, e]; omega), h.1, e, show l.length * t.width + (i - l.length) * t.width + j - l.length * t.width = (i - l.length) * t.width + j by omega]
   exact this
theorem RowList.one {S : Mem} {t : Ty} {x : t.den} {us : List Value} (h : Reps S t x us) : RowList S t [x] us := by
 refine ⟨by simp [h.width], fun i y hy => ?_⟩
 match i, hy with
 | 0, hy => simp at hy; subst hy; exact ⟨us, h, fun j u hj => by simpa using hj⟩
 | i + 1, hy => simp at hy
theorem RowList.oneCell {S : Mem} {t : Ty} {l : List t.den} {xs : List Value} (h : RowList S t l xs) : ∀ u ∈ xs, u.oneCell' = true := by
 intro u hu
 obtain ⟨j, hj, rfl⟩ := List.getElem_of_mem hu
 have hl := h.1
 by_cases hw : t.width = 0
 . rw [hw] at hl; omega
 . have hd := Nat.div_add_mod j t.width
   have hm := Nat.mod_lt j (Nat.pos_of_ne_zero hw)
   have hi : j / t.width < l.length := Nat.div_lt_of_lt_mul (by rw [Nat.mul_comm]; omega)
   obtain ⟨us, h1, h2⟩ := h.2 (j / t.width) l[j / t.width] (by simp [hi])
   have h3 := h1.width
   have h4 := h2 (j % t.width) us[j % t.width] (by simp [h3, hm])
   rw [Nat.mul_comm, hd] at h4
   rw [List.getElem?_eq_getElem hj] at h4
   rw [Option.some.inj h4]
   exact h1.one _ (List.getElem_mem _)
theorem reps_row {S : Mem} {t : Ty} {ad : Addr} : ∀ (l : List t.den) (k : Nat), (∀ i x, l[i]? = some x -> ∃ us, Reps S t x us /\ ∀ j u, us[j]? = some u -> S (ad.add ((k + i) * t.width + j)) = some u) ->
 ∃ xs, RowList S t l xs /\ ∀ j u, xs[j]? = some u -> S (ad.add (k * t.width + j)) = some u
 | [], k, h => ⟨[], RowList.nil S t, fun j u hj => by simp at hj⟩
 | x :: l, k, h => by
   obtain ⟨us, h1, h2⟩ := h 0 x rfl
   obtain ⟨xs, h3, h4⟩ := reps_row l (k + 1) (fun i y hy => by
    obtain ⟨us, g1, g2⟩ := h (i + 1) y hy
    exact ⟨us, g1, fun j u hj => by have := g2 j u hj; rwa [show k + (i + 1) = k + 1 + i by omega] at this⟩)
   refine ⟨us ++ xs, (RowList.one h1).append h3, fun j u hj => ?_⟩
   rw [List.getElem?_append] at hj
   split at hj
   . have := h2 j u hj; simpa using this
   . rename_i hlt
     have := h4 _ u hj
     rw [h1.width] at this hlt
     rwa [show (k + 1) * t.width + (j - t.width) = k * t.width + j by rw [Nat.add_mul, Nat.one_mul]; omega] at this
theorem addr_add (a : Addr) (i j : Nat) : (a.add i).add j = a.add (i + j) := by
 unfold Addr.add
 by_cases hi : i = 0
 . subst hi; simp
 . by_cases hj : j = 0
   . subst hj; simp
   . simp [hi, hj, Nat.add_assoc]
def cutV (w lo hi : Nat) : Value -> Value
 | .slice A _ cap => .slice (if cap = lo then A else A.map (·.add (lo * w))) (hi - lo) (cap - lo)
 | v => v
theorem cut_at {S : Mem} {v : Value} {t u : Ty} {l : List t.den} {l' : List u.den} {lo hi : Nat} (hw : u.width = t.width) (hll : l'.length = l.length) (hel' : ∀ (i : Nat) (x : u.den), l'[i]? = some x -> ∃ y : t.den, l[i]? = some y /\ ∀ us, Reps S t y us -> Reps S u x us) (h : Reps S (.sl t) l [v]) (hlo : lo <= hi) (hhi : hi <= l.length) : Reps S (.sl u) ((l'.take hi).drop lo) [cutV t.width lo hi v] := by
 obtain ⟨A, c, e, hc, hel⟩ := h
 simp at e
 subst e
 have hc : l.length <= c := hc
 have hlen : ((l'.take hi).drop lo).length = hi - lo := by simp; omega
 refine ⟨if c = lo then A else A.map (·.add (lo * t.width)), c - lo, by simp only [cutV]; rw [show (lst (t := u) ((l'.take hi).drop lo)).length = hi - lo from hlen], by rw [show (lst (t := u) ((l'.take hi).drop lo)).length = hi - lo from hlen]; omega, fun i x hx => ?_⟩
 have hx : ((l'.take hi).drop lo)[i]? = some x := hx
 rw [List.getElem?_drop, List.getElem?_take] at hx
 split at hx
 . rename_i hlt
   obtain ⟨y, hy, hr⟩ := hel' _ _ hx
   obtain ⟨ad, us, rfl, g1, g2⟩ := hel _ _ hy
   rw [if_neg (by omega)]
   refine ⟨ad.add (lo * t.width), us, rfl, hr us g1, fun z u' hz => ?_⟩
   rw [addr_add]
   have := g2 z u' hz
   have e1 : (lo + i) * t.width + z = lo * t.width + (i * u.width + z) := by
    rw [hw, Nat.add_mul, Nat.add_assoc]
   rw [e1] at this; exact this
 . cases hx
theorem view_reps {S : Mem} {v : Value} {w : Nat} {t u : Ty} {l : List t.den} {l' : List u.den} {lo hi : Nat} (hl : viewOf w t l = some ⟨u, l'⟩) (h : Reps S (.sl t) l [v]) (hlo : lo <= hi) (hhi : hi <= l.length) : Reps S (.sl u) ((l'.take hi).drop lo) [cutV w lo hi v] := by
 unfold viewOf at hl
 split at hl
 . rename_i l
   split at hl
   . rename_i hw
     obtain rfl := Nat.eq_of_beq_eq_true hw
     cases hl
     exact cut_at (t := .cons .str .nil) (u := .str) rfl (by simp) (fun i x hx => by
      rw [List.getElem?_map] at hx
      cases hy : l[i]? with
      | none => rw [hy] at hx; cases hx
      | some y =>
        rw [hy] at hx
        obtain rfl : y.1 = x := Option.some.inj hx
        refine ⟨y, rfl, fun us ⟨us1, ws, e, g3, g4⟩ => ?_⟩
        have g4 : ws = [] := g4
        subst g4
        rw [e, List.append_nil]; exact g3) h hlo hhi
   . cases hl
 . split at hl
   . rename_i hw
     obtain rfl := Nat.eq_of_beq_eq_true hw
     cases hl
     exact cut_at rfl rfl (fun i x hx => ⟨x, hx, fun us g => g⟩) h hlo hhi
   . cases hl
section
variable (O : Nat -> Nat) (Z : Nat -> Value) (S : Mem) (n : Nat)
def CRel : CV -> Value -> Prop
 | .val v, u => u = v /\ v.oneCell' = true
 | .sl t l, u => Reps S (.sl t) l [u]
 | .ptr b off, u => b < n /\ u = .pointer (some ⟨O b, off, none⟩)
 | .row b, u => b < n /\ u = Z b /\ u.oneCell' = true
 | .fn f caps, u => (∀ p ∈ caps, p.1 < n) /\ u = .func (.func f) #[] (caps.map fun p => Value.pointer (some ⟨O p.1, p.2, none⟩)).toArray
 | .rp t x off, u => ∃ a vs, u = .pointer (some a) /\ Reps S t x vs /\ ∀ j v, (vs.drop off)[j]? = some v -> S (a.add j) = some v
 | .vw b m c, u => b < n /\ m <= c /\ u = .slice (some ⟨O b, 0, none⟩) m c
 | .mp b w i off, u => b < n /\ ∃ g len cap, Z b = .slice (some ⟨g, 0, none⟩) len cap /\ u = .pointer (some ⟨g, i * w + off, none⟩)
 | .mv b w lo hi, u => b < n /\ lo <= hi /\ (∃ A len cap, Z b = .slice A len cap /\ hi <= len /\ len <= cap) /\ u = cutV w lo hi (Z b)
 | .mpr b, u => b < n /\ u = .map (some (O b))
 | .any, u => u.oneCell' = true
def TRel : (Bool × List CV) -> Value -> Prop
 | (true, l), u => ∃ vs : List Value, u = .agg vs.toArray /\ All2 (CRel O Z S n) l vs
 | (false, [c]), u => CRel O Z S n c u
 | _, _ => False
def ARel : AV -> Value -> Prop
 | .one .any, _ => True
 | .one (.val v), u => u = v
 | .one c, u => CRel O Z S n c u
 | .agg l, u => ∃ vs : List Value, u = .agg vs.toArray /\ All2 (CRel O Z S n) l vs
 | .tup l, u => ∃ us : List Value, u = .tuple us.toArray /\ All2 (TRel O Z S n) l us
def RowRel (base : Nat) (w : World) (v : Value) (e : TypeId) (t : Ty) (l : List t.den) : Prop :=
 (v = .slice none 0 0 /\ l = []) \/ ∃ g cap cur xs, v = .slice (some ⟨g, 0, none⟩) l.length cap /\ base <= g /\ w.heap[g]? = some (.cells cur e (0, 0)) /\ l.length <= cap /\ cap <= maxLen /\ cur.size = cap * t.width /\
  cur.toList.take (l.length * t.width) = xs /\ RowList S t l xs /\ ∀ off sp, S ⟨g, off, sp⟩ = match sp with | none => xs[off]? | some _ => none
def MRel (base : Nat) (w : World) (v : Value) (e : TypeId) (t : Ty) (l : List t.den) : Prop :=
 (v = .slice none 0 0 /\ l = []) \/ ∃ g cap cur xs, v = .slice (some ⟨g, 0, none⟩) l.length cap /\ base <= g /\ w.heap[g]? = some (.cells cur e (0, 0)) /\ l.length <= cap /\ cap <= maxLen /\ cur.size = cap * t.width /\
  cur.toList.take (l.length * t.width) = xs /\ RowList S t l xs /\ ∀ off sp, S ⟨g, off, sp⟩ = none
def FEnts (l : List (Int × FuncId)) (es : List MapEntry) : Prop := All2 (fun p e => e.key = .int .i64 p.1 /\ e.val = .func (.func p.2) #[] #[]) l es
def BRel (base : Nat) (w : World) (b : Nat) : Blk -> Prop
 | .cells l t => base <= O b /\ ∃ vs : List Value, w.heap[O b]? = some (.cells vs.toArray t (0, 0)) /\ All2 (CRel O Z S n) l vs /\ ∀ off sp, S ⟨O b, off, sp⟩ = none
 | .row e t l => (Z b).oneCell' = true /\ RowRel S base w (Z b) e t l
 | .mrow e t l => (Z b).oneCell' = true /\ MRel S base w (Z b) e t l
 | .fmap l => base <= O b /\ ∃ es ck, w.heap[O b]? = some (.map es ck) /\ FEnts l es.toList /\ ∀ off sp, S ⟨O b, off, sp⟩ = none
 | .dead => True
end
def Blk.at (O : Nat -> Nat) (Z : Nat -> Value) (b : Nat) : Blk -> Option Nat
 | .cells _ _ => some (O b)
 | .row _ _ _ => (Z b).ownBlock
 | .mrow _ _ _ => (Z b).ownBlock
 | .fmap _ => some (O b)
 | .dead => none
structure Evo (O : Nat -> Nat) (Z : Nat -> Value) (S : Mem) (n : Nat) (O' : Nat -> Nat) (Z' : Nat -> Value) (S' : Mem) (n' : Nat) : Prop where
 hn : n <= n'
 hO : ∀ b, b < n -> O' b = O b
 hZ : ∀ b, b < n -> Z' b = Z b
 hS : S.le S'
theorem Evo.refl (O Z S n) : Evo O Z S n O Z S n := ⟨Nat.le_refl _, fun _ _ => rfl, fun _ _ => rfl, Mem.le_refl _⟩
theorem Evo.trans {O Z S n O' Z' S' n' O2 Z2 S2 n2} (h : Evo O Z S n O' Z' S' n') (k : Evo O' Z' S' n' O2 Z2 S2 n2) : Evo O Z S n O2 Z2 S2 n2 :=
 ⟨Nat.le_trans h.hn k.hn, fun b hb => (k.hO b (Nat.lt_of_lt_of_le hb h.hn)).trans (h.hO b hb), fun b hb => (k.hZ b (Nat.lt_of_lt_of_le hb h.hn)).trans (h.hZ b hb), Mem.le_trans h.hS k.hS⟩
section
variable {O O' : Nat -> Nat} {Z Z' : Nat -> Value} {S S' : Mem} {n n' : Nat}
theorem CRel.evo (h : Evo O Z S n O' Z' S' n') : ∀ {c : CV} {u : Value}, CRel O Z S n c u -> CRel O' Z' S' n' c u
 | .val _, _, k => k
 | .sl _ _, _, k => Reps.mono h.hS k
 | .ptr b off, _, ⟨k, e⟩ => ⟨Nat.lt_of_lt_of_le k h.hn, by rw [h.hO b k]; exact e⟩
 | .row b, _, ⟨k, e, o⟩ => ⟨Nat.lt_of_lt_of_le k h.hn, by rw [h.hZ b k]; exact e, o⟩
 | .fn f caps, _, ⟨k, e⟩ => ⟨fun p hp => Nat.lt_of_lt_of_le (k p hp) h.hn, by
  rw [e]; congr 2
  exact List.map_congr_left fun p hp => by rw [h.hO _ (k p hp)]⟩
 | .rp t x off, _, ⟨a, vs, e, k1, k2⟩ => ⟨a, vs, e, k1.mono h.hS, fun j v hj => h.hS _ _ (k2 j v hj)⟩
 | .vw b m c, _, ⟨k, l, e⟩ => ⟨Nat.lt_of_lt_of_le k h.hn, l, by rw [h.hO b k]; exact e⟩
 | .mp b w i off, _, ⟨k, e⟩ => ⟨Nat.lt_of_lt_of_le k h.hn, by rw [h.hZ b k]; exact e⟩
 | .mv b w lo hi, _, ⟨k, l, e⟩ => ⟨Nat.lt_of_lt_of_le k h.hn, l, by rw [h.hZ b k]; exact e⟩
 | .mpr b, _, ⟨k, e⟩ => ⟨Nat.lt_of_lt_of_le k h.hn, by rw [h.hO b k]; exact e⟩
 | .any, _, k => k
theorem TRel.evo (h : Evo O Z S n O' Z' S' n') : ∀ {c : Bool × List CV} {u : Value}, TRel O Z S n c u -> TRel O' Z' S' n' c u
 | (true, _), _, ⟨vs, e, k⟩ => ⟨vs, e, k.mono fun _ _ => CRel.evo h⟩
 | (false, [_]), _, k => CRel.evo h k
 | (false, []), _, k => k.elim
 | (false, _ :: _ :: _), _, k => k.elim
theorem ARel.evo (h : Evo O Z S n O' Z' S' n') {v : AV} {u : Value} (k : ARel O Z S n v u) : ARel O' Z' S' n' v u := by
 cases v with
 | one c => cases c with
   | any => trivial
   | val _ => exact k
   | sl _ _ => exact CRel.evo h (c := .sl _ _) k
   | ptr _ _ => exact CRel.evo h (c := .ptr _ _) k
   | row _ => exact CRel.evo h (c := .row _) k
   | fn _ _ => exact CRel.evo h (c := .fn _ _) k
   | rp _ _ _ => exact CRel.evo h (c := .rp _ _ _) k
   | vw _ _ _ => exact CRel.evo h (c := .vw _ _ _) k
   | mp _ _ _ _ => exact CRel.evo h (c := .mp _ _ _ _) k
   | mv _ _ _ _ => exact CRel.evo h (c := .mv _ _ _ _) k
   | mpr _ => exact CRel.evo h (c := .mpr _) k
 | agg l => obtain ⟨vs, e, k⟩ := k; exact ⟨vs, e, k.mono fun _ _ => CRel.evo h⟩
 | tup l => obtain ⟨us, e, k⟩ := k; exact ⟨us, e, k.mono fun _ _ => TRel.evo h⟩
theorem CRel.one {c : CV} {u : Value} (k : CRel O Z S n c u) : u.oneCell' = true := by
 cases c with
 | val v => rw [k.1]; exact k.2
 | sl t l => obtain ⟨A, c, e, _⟩ := k; simp at e; subst e; rfl
 | ptr b off => rw [k.2]; rfl
 | row b => exact k.2.2
 | fn f caps => rw [k.2]; rfl
 | rp t x off => obtain ⟨a, vs, e, _⟩ := k; rw [e]; rfl
 | vw b m c => rw [k.2.2]; rfl
 | mp b w i off => obtain ⟨_, g, len, cap, _, e⟩ := k; rw [e]; rfl
 | mv b w lo hi => obtain ⟨_, _, ⟨A, len, cap, e, _⟩, e'⟩ := k; rw [e', e]; rfl
 | mpr b => rw [k.2]; rfl
 | any => exact k
theorem ARel.of_one {c : CV} {u : Value} (k : CRel O Z S n c u) : ARel O Z S n (.one c) u := by
 cases c with
 | any => trivial
 | val v => exact k.1
 | _ => exact k
theorem ARel.cells {v : AV} {l : List CV} {u : Value} (hc : v.cells = some l) (k : ARel O Z S n v u) : ∃ vs : List Value, u.cells = vs.toArray /\ All2 (CRel O Z S n) l vs := by
 have one : ∀ {c : CV}, CRel O Z S n c u -> l = [c] -> ∃ vs : List Value, u.cells = vs.toArray /\ All2 (CRel O Z S n) l vs := by
  intro c k e
  subst e
  refine ⟨[u], ?_, k, trivial⟩
  have := k.one
  cases u <;> first | rfl | (simp [Value.oneCell'] at this)
 cases v with
 | tup l => simp [AV.cells] at hc
 | agg l' =>
   simp [AV.cells] at hc; subst hc
   obtain ⟨vs, rfl, k⟩ := k
   exact ⟨vs, rfl, k⟩
 | one c =>
   cases c with
   | any => simp [AV.cells] at hc
   | val v =>
     have e : l = [.val v] := by cases v <;> simp [AV.cells] at hc <;> exact hc.symm
     refine one (c := .val v) ⟨k, ?_⟩ e
     cases v <;> simp [AV.cells] at hc <;> rfl
   | sl t x => exact one (c := .sl t x) k (by simpa [AV.cells] using hc.symm)
   | ptr b off => exact one (c := .ptr b off) k (by simpa [AV.cells] using hc.symm)
   | row b => exact one (c := .row b) k (by simpa [AV.cells] using hc.symm)
   | fn f caps => exact one (c := .fn f caps) k (by simpa [AV.cells] using hc.symm)
   | rp t x off => exact one (c := .rp t x off) k (by simpa [AV.cells] using hc.symm)
   | vw b m c => exact one (c := .vw b m c) k (by simpa [AV.cells] using hc.symm)
   | mp b w i off => exact one (c := .mp b w i off) k (by simpa [AV.cells] using hc.symm)
   | mv b w lo hi => exact one (c := .mv b w lo hi) k (by simpa [AV.cells] using hc.symm)
   | mpr b => exact one (c := .mpr b) k (by simpa [AV.cells] using hc.symm)
end
structure Rl (base : Nat) (w0 : World) (S0 : Mem) (O : Nat -> Nat) (Z : Nat -> Value) (S : Mem) (s : St) (a : Act) (w : World) : Prop where
 s0 : S0.le S
 snew : ∀ p v, S p = some v -> S0 p = none -> base <= p.block
 sw : ∀ p v, S p = some v -> w.cell? p = some v
 below : Below base w0 w
 bsz : base <= w.heap.size
 defers : a.defers = []
 size : a.tmps.size = s.nt
 tm : ∀ d v, look s.tm d = some v -> d < s.nt /\ ARel O Z S s.n v (a.tmps.getD d undef)
 st : ∀ b k, look s.st b = some k -> b < s.n /\ BRel O Z S s.n base w b k
 apart : ∀ b b' k k' g, look s.st b = some k -> look s.st b' = some k' -> k.at O Z b = some g -> k'.at O Z b' = some g -> b = b'
theorem look_cons_eq {α : Type} (l : List (Nat × α)) (d : Nat) (v : α) : look ((d, v) :: l) d = some v := by simp [look]
theorem look_cons_ne {α : Type} (l : List (Nat × α)) {d e : Nat} (v : α) (h : d ≠ e) : look ((d, v) :: l) e = look l e := by
 simp only [look]
 have : Nat.beq d e = false := by
  cases hb : Nat.beq d e
  . rfl
  . exact absurd (Nat.eq_of_beq_eq_true hb) h
 rw [this]
section
variable {base : Nat} {w0 : World} {S0 : Mem} {O : Nat -> Nat} {Z : Nat -> Value} {S : Mem} {s : St} {a : Act} {w : World}
theorem Rl.get (h : Rl base w0 S0 O Z S s a w) (d : Nat) : ARel O Z S s.n (s.get d) (a.tmps.getD d undef) := by
 unfold St.get
 split
 . rename_i v e; exact (h.tm d v e).2
 . trivial
theorem ofVal_rel (v : Value) : ARel O Z S s.n (ofVal v) v := by
 unfold ofVal
 split
 . rename_i cs
   split
   . rename_i h
     refine ⟨cs.toList, by simp, All2.map_l (All2.refl_of fun b hb => ⟨rfl, ?_⟩)⟩
     exact List.all_eq_true.1 h b hb
   . trivial
 . rfl
theorem Rl.val (h : Rl base w0 S0 O Z S s a w) (x : Operand) : ARel O Z S s.n (aval s x) (a.eval x) := by
 cases x with
 | tmp t => exact h.get t
 | const v => exact ofVal_rel v
 | global g => trivial
 | func f => exact ⟨by simp, rfl⟩
theorem Rl.put (h : Rl base w0 S0 O Z S s a w) {v : AV} {u : Value} (k : ARel O Z S s.n v u) {d : Nat} (hd : d < s.nt) :
 Rl base w0 S0 O Z S { s with tm := (d, v) :: s.tm } (a.put (some d) u) w := by
 refine ⟨h.s0, h.snew, h.sw, h.below, h.bsz, h.defers, by simp [Act.put, h.size], fun e v' he => ?_, h.st, h.apart⟩
 by_cases hde : d = e
 . subst hde
   rw [look_cons_eq] at he
   obtain rfl := Option.some.inj he
   refine ⟨hd, ?_⟩
   have : (a.put (some d) u).tmps.getD d undef = u := by
    have hs := h.size
    simp [Act.put, Array.getD_eq_getD_getElem?, hs, hd]
   rw [this]; exact k
 . rw [look_cons_ne _ _ hde] at he
   obtain ⟨h1, h2⟩ := h.tm e v' he
   refine ⟨h1, ?_⟩
   have : (a.put (some d) u).tmps.getD e undef = a.tmps.getD e undef := by
    simp [Act.put, Array.getD_eq_getD_getElem?, Array.getElem?_setIfInBounds_ne hde]
   rw [this]; exact h2
theorem RowRel.lt {v : Value} {e : TypeId} {t : Ty} {l : List t.den} (h : RowRel S base w v e t l) {g : Nat} (hg : v.ownBlock = some g) : g < w.heap.size /\ base <= g := by
 rcases h with ⟨rfl, _⟩ | ⟨g', cap, cur, xs, rfl, hb, h1, _⟩
 . cases hg
 . cases hg; exact ⟨(Array.getElem?_eq_some_iff.1 h1).1, hb⟩
theorem MRel.lt {v : Value} {e : TypeId} {t : Ty} {l : List t.den} (h : MRel S base w v e t l) {g : Nat} (hg : v.ownBlock = some g) : g < w.heap.size /\ base <= g := by
 rcases h with ⟨rfl, _⟩ | ⟨g', cap, cur, xs, rfl, hb, h1, _⟩
 . cases hg
 . cases hg; exact ⟨(Array.getElem?_eq_some_iff.1 h1).1, hb⟩
theorem RowRel.reps {v : Value} {e : TypeId} {t : Ty} {l : List t.den} (h : RowRel S base w v e t l) : Reps S (.sl t) l [v] := by
 rcases h with ⟨rfl, rfl⟩ | ⟨g, cap, cur, xs, rfl, hb, h1, h2, h3, h4, h5, h6, h7⟩
 . exact ⟨none, 0, rfl, Nat.le_refl _, fun i x hx => by simp [lst] at hx⟩
 refine ⟨some ⟨g, 0, none⟩, cap, rfl, h2, fun i x hx => ?_⟩
 obtain ⟨us, k1, k2⟩ := h6.2 i x hx
 refine ⟨_, us, rfl, k1, fun j u hj => ?_⟩
 have : (Addr.mk g 0 none).add (i * t.width + j) = ⟨g, i * t.width + j, none⟩ := by
  unfold Addr.add; split
  . rename_i h; rw [h]
  . simp
 rw [this, h7]
 exact k2 j u hj
theorem Rl.derefC (h : Rl base w0 S0 O Z S s a w) {c : CV} {u : Value} (k : CRel O Z S s.n c u) : CRel O Z S s.n (s.derefC c) u := by
 unfold St.derefC
 split
 . rename_i b
   split
   . rename_i e t l hk
     obtain ⟨_, rfl, _⟩ := k
     exact (h.st b _ hk).2.2.reps
   . exact k
 . rename_i b w' lo hi
   split
   . rename_i e t l hk
     split
     . rename_i u' l' hl
       obtain ⟨_, hlo, ⟨A, len, cap, e1, h1, h2⟩, rfl⟩ := k
       have hr := (h.st b _ hk).2.2.reps
       refine view_reps hl hr hlo ?_
       obtain ⟨A', c', e2, _⟩ := hr
       rw [e1] at e2
       simp at e2
       have : len = List.length l := e2.2.1
       omega
     . exact k
   . exact k
 . exact k
theorem Rl.deref (h : Rl base w0 S0 O Z S s a w) {v : AV} {u : Value} (k : ARel O Z S s.n v u) : ARel O Z S s.n (s.deref v) u := by
 cases v with
 | one c =>
   cases c with
   | row b => exact ARel.of_one (h.derefC (c := .row b) k)
   | mv b w lo hi => exact ARel.of_one (h.derefC (c := .mv b w lo hi) k)
   | _ => exact k
 | agg l =>
   obtain ⟨vs, rfl, k⟩ := k
   exact ⟨vs, rfl, All2.map_l (k.mono fun c u hc => h.derefC hc)⟩
 | tup l =>
   obtain ⟨us, rfl, k⟩ := k
   refine ⟨us, rfl, All2.map_l (k.mono fun c u hc => ?_)⟩
   obtain ⟨b, cs⟩ := c
   cases b with
   | true =>
     obtain ⟨vs, rfl, k⟩ := hc
     exact ⟨vs, rfl, All2.map_l (k.mono fun c u hc => h.derefC hc)⟩
   | false =>
     match cs, hc with
     | [c], hc => exact h.derefC hc
theorem Rl.valR (h : Rl base w0 S0 O Z S s a w) (x : Operand) : ARel O Z S s.n (avalR s x) (a.eval x) := h.deref (h.val x)
theorem BRel.lt {n b g : Nat} {k : Blk} (h : BRel O Z S n base w b k) (e : k.at O Z b = some g) : g < w.heap.size /\ base <= g := by
 cases k with
 | dead => cases e
 | row e t l =>
   exact h.2.lt e
 | mrow e t l =>
   exact h.2.lt e
 | cells l t =>
   obtain ⟨h1, vs, h2, _⟩ := h
   simp only [Blk.at] at e
   cases e
   exact ⟨(Array.getElem?_eq_some_iff.1 h2).1, h1⟩
 | fmap l =>
   obtain ⟨h1, es, ck, h2, _⟩ := h
   simp only [Blk.at] at e
   cases e
   exact ⟨(Array.getElem?_eq_some_iff.1 h2).1, h1⟩
theorem BRel.keep {O' : Nat -> Nat} {Z' : Nat -> Value} {S' : Mem} {n n' b : Nat} {w' : World} {k : Blk} (h : BRel O Z S n base w b k) (hb : b < n) (ev : Evo O Z S n O' Z' S' n')
 (hw : ∀ g, k.at O Z b = some g -> w'.heap[g]? = w.heap[g]? /\ ∀ off sp, S' ⟨g, off, sp⟩ = S ⟨g, off, sp⟩) : BRel O' Z' S' n' base w' b k /\ k.at O' Z' b = k.at O Z b := by
 cases k with
 | dead => exact ⟨trivial, rfl⟩
 | row e t l =>
   have hZ := ev.hZ b hb
   rcases h with ⟨h0, ⟨h1, h2⟩ | ⟨g, cap, cur, xs, h1, h2, h3, h4, h5, h6, h7, h8, h9⟩⟩
   . exact ⟨⟨by rw [hZ]; exact h0, .inl ⟨by rw [hZ]; exact h1, h2⟩⟩, by simp only [Blk.at, hZ]⟩
   have hg : (Blk.row e t l).at O Z b = some g := by simp only [Blk.at, h1]; rfl
   obtain ⟨k1, k2⟩ := hw g hg
   exact ⟨⟨by rw [hZ]; exact h0, .inr ⟨g, cap, cur, xs, by rw [hZ]; exact h1, h2, k1.trans h3, h4, h5, h6, h7, h8.mono ev.hS, fun off sp => by rw [k2]; exact h9 off sp⟩⟩, by simp only [Blk.at, hZ]⟩
 | mrow e t l =>
   have hZ := ev.hZ b hb
   rcases h with ⟨h0, ⟨h1, h2⟩ | ⟨g, cap, cur, xs, h1, h2, h3, h4, h5, h6, h7, h8, h9⟩⟩
   . exact ⟨⟨by rw [hZ]; exact h0, .inl ⟨by rw [hZ]; exact h1, h2⟩⟩, by simp only [Blk.at, hZ]⟩
   have hg : (Blk.mrow e t l).at O Z b = some g := by simp only [Blk.at, h1]; rfl
   obtain ⟨k1, k2⟩ := hw g hg
   exact ⟨⟨by rw [hZ]; exact h0, .inr ⟨g, cap, cur, xs, by rw [hZ]; exact h1, h2, k1.trans h3, h4, h5, h6, h7, h8.mono ev.hS, fun off sp => by rw [k2]; exact h9 off sp⟩⟩, by simp only [Blk.at, hZ]⟩
 | cells l t =>
   have hO := ev.hO b hb
   obtain ⟨h1, vs, h2, h3, h4⟩ := h
   obtain ⟨k1, k2⟩ := hw (O b) rfl
   refine ⟨⟨by rw [hO]; exact h1, vs, by rw [hO]; exact k1.trans h2, h3.mono fun _ _ => CRel.evo ev, fun off sp => by rw [hO, k2]; exact h4 off sp⟩, by simp only [Blk.at, hO]⟩
 | fmap l =>
   have hO := ev.hO b hb
   obtain ⟨h1, es, ck, h2, h3, h4⟩ := h
   obtain ⟨k1, k2⟩ := hw (O b) rfl
   refine ⟨⟨by rw [hO]; exact h1, es, ck, by rw [hO]; exact k1.trans h2, h3, fun off sp => by rw [hO, k2]; exact h4 off sp⟩, by simp only [Blk.at, hO]⟩
theorem Rl.upd {s' : St} {O' : Nat -> Nat} {Z' : Nat -> Value} {S' : Mem} {w' : World} (h : Rl base w0 S0 O Z S s a w) (ev : Evo O Z S s.n O' Z' S' s'.n) (htm : s'.tm = s.tm) (hnt : s'.nt = s.nt)
 (snew : ∀ p v, S' p = some v -> S p = none -> base <= p.block) (sw : ∀ p v, S' p = some v -> w'.cell? p = some v) (hb : Below base w w')
 (hst : ∀ b k, look s'.st b = some k -> (look s.st b = some k /\ ∀ g, k.at O Z b = some g -> w'.heap[g]? = w.heap[g]? /\ ∀ off sp, S' ⟨g, off, sp⟩ = S ⟨g, off, sp⟩) \/
  (b < s'.n /\ BRel O' Z' S' s'.n base w' b k /\ ∀ g, k.at O' Z' b = some g -> ∀ b2 k2, look s'.st b2 = some k2 -> look s.st b2 = some k2 -> b2 ≠ b -> k2.at O Z b2 ≠ some g))
 (hone : ∀ b k b2 k2 g, look s'.st b = some k -> look s'.st b2 = some k2 -> look s.st b ≠ some k -> look s.st b2 ≠ some k2 -> k.at O' Z' b = some g -> k2.at O' Z' b2 = some g -> b = b2) :
 Rl base w0 S0 O' Z' S' s' a w' := by
 have key : ∀ b k, look s'.st b = some k -> look s.st b = some k -> (∀ g, k.at O Z b = some g -> w'.heap[g]? = w.heap[g]? /\ ∀ off sp, S' ⟨g, off, sp⟩ = S ⟨g, off, sp⟩) -> b < s'.n /\ BRel O' Z' S' s'.n base w' b k /\ k.at O' Z' b = k.at O Z b := by
  intro b k _ e hk
  obtain ⟨h1, h2⟩ := h.st b k e
  obtain ⟨h3, h4⟩ := h2.keep h1 ev hk
  exact ⟨Nat.lt_of_lt_of_le h1 ev.hn, h3, h4⟩
 refine ⟨fun p v e => ev.hS _ _ (h.s0 p v e), fun p v e e0 => ?_, sw, h.below.trans hb, Nat.le_trans h.bsz hb.size, h.defers, h.size.trans hnt.symm, fun d v e => ?_, fun b k e => ?_, fun b b' k k' g e e' f f' => ?_⟩
 . cases hS : S p with
   | none => exact snew p v e hS
   | some u => exact h.snew p u hS e0
 . rw [htm] at e
   obtain ⟨h1, h2⟩ := h.tm d v e
   exact ⟨by rw [hnt]; exact h1, h2.evo ev⟩
 . rcases hst b k e with ⟨h1, h2⟩ | ⟨h1, h2, _⟩
   . exact ⟨(key b k e h1 h2).1, (key b k e h1 h2).2.1⟩
   . exact ⟨h1, h2⟩
 . by_cases hbb : b = b'
   . exact hbb
   . rcases hst b k e with ⟨h1, h2⟩ | ⟨h1, h2, h3⟩ <;> rcases hst b' k' e' with ⟨h4, h5⟩ | ⟨h4, h5, h6⟩
     . rw [(key b k e h1 h2).2.2] at f
       rw [(key b' k' e' h4 h5).2.2] at f'
       exact h.apart b b' k k' g h1 h4 f f'
     . rw [(key b k e h1 h2).2.2] at f
       exact absurd f (h6 g f' b k e h1 hbb)
     . rw [(key b' k' e' h4 h5).2.2] at f'
       exact absurd f' (h3 g f b' k' e' h4 (Ne.symm hbb))
     . by_cases o1 : look s.st b = some k
       . have := h.st b k o1
         exfalso
         by_cases o2 : look s.st b' = some k'
         . -- both old and told anew
           exact hbb (by
            by_cases q : k.at O Z b = some g
            . exact absurd q (h6 g f' b k e o1 hbb)
            . by_cases q' : k'.at O Z b' = some g
              . exact absurd q' (h3 g f b' k' e' o2 (Ne.symm hbb))
              . exact absurd (hone' h ev o1 f) q)
         . exact absurd (hone' h ev o1 f) (h6 g f' b k e o1 hbb)
       . by_cases o2 : look s.st b' = some k'
         . exact absurd (hone' h ev o2 f') (h3 g f b' k' e' o2 (Ne.symm hbb))
         . exact hone b k b' k' g e e' o1 o2 f f'
where
 hone' {s' : St} {O' : Nat -> Nat} {Z' : Nat -> Value} {S' : Mem} (h : Rl base w0 S0 O Z S s a w) (ev : Evo O Z S s.n O' Z' S' s'.n) {b : Nat} {k : Blk} {g : Nat} (e : look s.st b = some k) (f : k.at O' Z' b = some g) : k.at O Z b = some g := by
  have hb := (h.st b k e).1
  cases k with
  | dead => exact f
  | row e t l => simp only [Blk.at, ev.hZ b hb] at f ⊢; exact f
  | mrow e t l => simp only [Blk.at, ev.hZ b hb] at f ⊢; exact f
  | cells l t => simp only [Blk.at, ev.hO b hb] at f ⊢; exact f
  | fmap l => simp only [Blk.at, ev.hO b hb] at f ⊢; exact f
theorem Rl.drew (h : Rl base w0 S0 O Z S s a w) : Rl base w0 S0 O Z S s a { w with drawn := w.drawn + 1 } :=
 h.upd (Evo.refl _ _ _ _) rfl rfl (fun p v e e0 => by rw [e] at e0; cases e0) h.sw (Below.refl base w).drew (fun b k e => .inl ⟨e, fun g _ => ⟨rfl, fun _ _ => rfl⟩⟩) (fun b k _ _ _ e _ n _ _ _ => absurd e n)
theorem fresh_mem (hR : Rl base w0 S0 O Z S s a w) : ∀ off sp, S ⟨w.heap.size, off, sp⟩ = none := by
 intro off sp
 cases h : S ⟨w.heap.size, off, sp⟩ with
 | none => rfl
 | some v =>
   have := World.block_lt_of_cell? w _ (hR.sw _ _ h)
   simp at this
theorem Rl.new (h : Rl base w0 S0 O Z S s a w) {l : List CV} {vs : List Value} (k : All2 (CRel O Z S s.n) l vs) (t : TypeId) :
 ∃ O', Rl base w0 S0 O' Z S { s with st := (s.n, .cells l t) :: s.st, n := s.n + 1 } a (w.alloc (.cells vs.toArray t)) /\ O' s.n = w.heap.size /\ Evo O Z S s.n O' Z S (s.n + 1) := by
 have ev : Evo O Z S s.n (fun b => if b = s.n then w.heap.size else O b) Z S (s.n + 1) := ⟨Nat.le_succ _, fun b hb => if_neg (by omega), fun _ _ => rfl, Mem.le_refl _⟩
 refine ⟨fun b => if b = s.n then w.heap.size else O b, ?_, by simp, ev⟩
 have hnew : (w.alloc (.cells vs.toArray t)).heap[w.heap.size]? = some (.cells vs.toArray t (0, 0)) := by
  show (w.heap.push _)[w.heap.size]? = _; simp
 refine h.upd ev rfl rfl (fun p v e e0 => by rw [e] at e0; cases e0) (fun p v hp => ?_) ((Below.refl base w).alloc h.bsz _) (fun b k' e => ?_) (fun b k1 b2 k2 g e1 e2 n1 n2 f1 f2 => ?_)
 . have h1 := h.sw p v hp
   have hlt := World.block_lt_of_cell? w _ h1
   rw [World.cell?_of_block (w := w) (Below.heap_alloc w _ _ hlt)]; exact h1
 . by_cases hb : s.n = b
   . subst hb
     rw [look_cons_eq] at e
     obtain rfl := Option.some.inj e
     refine .inr ⟨Nat.lt_succ_self _, ?_, fun g f b2 k2 e2 e3 hne f2 => ?_⟩
     . simp only [BRel, if_true]
       exact ⟨h.bsz, vs, hnew, k.mono fun _ _ => CRel.evo ev, fresh_mem h⟩
     . simp [Blk.at] at f
       have := ((h.st b2 k2 e3).2.lt f2).1
       omega
   . rw [look_cons_ne _ _ hb] at e
     refine .inl ⟨e, fun g f => ⟨Below.heap_alloc w _ _ ((h.st b k' e).2.lt f).1, fun _ _ => rfl⟩⟩
 . have hb : ∀ b k, look ((s.n, Blk.cells l t) :: s.st) b = some k -> look s.st b ≠ some k -> s.n = b := by
    intro b k e n
    by_cases hb : s.n = b
    . exact hb
    . rw [look_cons_ne _ _ hb] at e; exact absurd e n
   rw [<- hb b k1 e1 n1, <- hb b2 k2 e2 n2]
end
end
section
section
variable {P : Program} {base : Nat} {w0 : World} {S0 : Mem} {O : Nat -> Nat} {Z : Nat -> Value} {S : Mem} {s : St} {a : Act} {w : World}
theorem runPure_run {α : Type} : ∀ {e : Sem α} {x : α}, runPure P e = some x -> ∀ w, e.run P w = .ok x w
 | .pure a, x, h, w => by simp [runPure] at h; subst h; rfl
 | .program k, x, h, w => by simp only [runPure] at h; exact runPure_run h w
 | .load .., _, h, _ | .store .., _, h, _ | .new .., _, h, _ | .shape .., _, h, _ | .freeze .., _, h, _ | .frozen .., _, h, _ | .getObj .., _, h, _ | .setObj .., _, h, _
 | .choose .., _, h, _ | .sys .., _, h, _ | .mark .., _, h, _ | .halt .., _, h, _ => by simp [runPure] at h
def Does (P : Program) (base : Nat) (w0 : World) (S0 : Mem) (o : Oper) (O : Nat -> Nat) (Z : Nat -> Value) (S : Mem) (s : St) (a : Act) (w : World) (v : AV) (s' : St) : Prop :=
 ∃ O' Z' S' u w', ((execOp a.eval o).run P w = .ok (.value u) w' \/ (execOp a.eval o).run P w = .ok .skip w' /\ u = undef) /\
  Rl base w0 S0 O' Z' S' s' a w' /\ ARel O' Z' S' s'.n v u /\ Evo O Z S s.n O' Z' S' s'.n /\ s'.tm = s.tm /\ (∃ pre, s'.st = pre ++ s.st) /\ s'.nt = s.nt
theorem Does.pure {o : Oper} {v : AV} (hR : Rl base w0 S0 O Z S s a w) {u : Value} (h : (execOp a.eval o).run P w = .ok (.value u) w) (k : ARel O Z S s.n v u) : Does P base w0 S0 o O Z S s a w v s :=
 ⟨O, Z, S, u, w, .inl h, hR, k, Evo.refl _ _ _ _, rfl, ⟨[], rfl⟩, rfl⟩
theorem isAggB_run {t : TypeId} {b : Bool} (h : isAggB P t = some b) (w : World) : (isAgg t).run P w = .ok b w := by
 unfold isAggB at h
 split at h
 . rename_i hu; simp at h; subst h; simp [isAgg, run_underlying hu, go_sem]
 . rename_i hu; simp at h; subst h; simp [isAgg, run_underlying hu, go_sem]
 . rename_i d h1 h2 hu
   simp at h; subst h
   unfold isAgg
   rw [Sem.run_bind, run_underlying hu]
   simp only [Result.andThen]
   rfl
 . simp at h
theorem szOf_info {t : TypeId} {n : Nat} (h : szOf P t = some n) : ∃ i, P.info? t = some i /\ i.size = n := by
 unfold szOf at h
 split at h
 . rename_i i e; simp at h; exact ⟨i, e, h⟩
 . simp at h
theorem szOf_run {t : TypeId} {n : Nat} (h : szOf P t = some n) (w : World) : (sizeOf t).run P w = .ok n w := by
 obtain ⟨i, h1, h2⟩ := szOf_info h
 simp [sizeOf, run_typeInfo _ h1, h2, go_sem]
theorem zeroOf_run {t : TypeId} {z : Value} (h : zeroOf P t = some z) (w : World) : (zeroValue t).run P w = .ok z w := by
 unfold zeroOf at h
 split at h
 . rename_i i e; simp [zeroValue, run_typeInfo _ e, h, go_sem]
 . simp at h
theorem loadVar_rel {n : Nat} {t : TypeId} {ad : Addr} {l : List CV} {us : List Value} {v : AV} (hm : mkAV P t l = some v) (hl : All2 (CRel O Z S n) l us) (hc : ∀ j u, us[j]? = some u -> w.cell? (ad.add j) = some u) :
 ∃ u, (loadVar t ad).run P w = .ok u w /\ ARel O Z S n v u := by
 unfold mkAV at hm
 split at hm
 . rename_i hb
   split at hm
   . rename_i k hk
     split at hm
     . rename_i hle
       simp at hm; subst hm
       have hlen := hl.length
       have hk2 : k <= l.length := Nat.le_of_ble_eq_true hle
       refine ⟨.agg (us.take k).toArray, ?_, us.take k, rfl, hl.take k⟩
       have h2 := run_loadCells_list (P := P) (w := w) ad (us.take k) (fun j v hj => hc j v (by
        rw [List.getElem?_take] at hj
        split at hj
        . exact hj
        . simp at hj))
       rw [List.length_take, Nat.min_eq_left (by omega)] at h2
       unfold loadVar
       simp [isAggB_run hb, szOf_run hk, h2]
     . simp at hm
   . simp at hm
 . rename_i hb
   split at hm
   . rename_i c cs
     simp at hm; subst hm
     obtain ⟨u, us', rfl, h1, h2⟩ := All2.cons_inv hl
     refine ⟨u, ?_, ARel.of_one h1⟩
     unfold loadVar
     have := hc 0 u rfl
     simp only [Addr.add, if_true] at this
     simp [isAggB_run hb, this]
   . simp at hm
 . simp at hm
theorem add_at (b off j : Nat) : (Addr.mk b off none).add j = ⟨b, off + j, none⟩ := by
 unfold Addr.add; split
 . subst j; rfl
 . rfl
theorem heap_cell {g : Nat} {vs : List Value} {t : TypeId} {fz : Nat × Nat} (h : w.heap[g]? = some (.cells vs.toArray t fz)) (off : Nat) : w.cell? ⟨g, off, none⟩ = vs[off]? := by
 simp [World.cell?, h]
theorem ptr_cells {b off : Nat} {l : List CV} {e : TypeId} (hR : Rl base w0 S0 O Z S s a w) (hk : look s.st b = some (.cells l e)) : ∃ vs : List Value, w.heap[O b]? = some (.cells vs.toArray e (0, 0)) /\ All2 (CRel O Z S s.n) l vs /\ ∀ j u, (vs.drop off)[j]? = some u -> w.cell? ((Addr.mk (O b) off none).add j) = some u := by
 obtain ⟨h1, h2, vs, h3, h4, h5⟩ := hR.st b _ hk
 refine ⟨vs, h3, h4, fun j u hj => ?_⟩
 rw [add_at, heap_cell h3]
 rw [List.getElem?_drop] at hj
 exact hj
theorem Reps.all2 : ∀ {t : Ty} {x : t.den} {vs : List Value}, Reps S t x vs -> ∀ n, All2 (CRel O Z S n) (cellsCV t x) vs
 | .int _, _, _, h, _ => by simp only [Reps] at h; subst h; exact ⟨⟨rfl, rfl⟩, trivial⟩
 | .bool, _, _, h, _ => by simp only [Reps] at h; subst h; exact ⟨⟨rfl, rfl⟩, trivial⟩
 | .str, _, _, h, _ => by simp only [Reps] at h; subst h; exact ⟨⟨rfl, rfl⟩, trivial⟩
 | .nil, _, _, h, _ => by simp only [Reps] at h; subst h; trivial
 | .cons a b, x, _, ⟨us, ws, e, h1, h2⟩, n => by subst e; exact All2.append (h1.all2 n) (h2.all2 n)
 | .sl t, x, _, h, n => by
   have h' := h
   obtain ⟨A, c, e, _⟩ := h
   subst e
   exact ⟨h', trivial⟩
theorem Rl.valEq (hR : Rl base w0 S0 O Z S s a w) {x : Operand} {v : Value} (e : aval s x = .one (.val v)) : a.eval x = v := by
 have := hR.val x; rw [e] at this; exact this
theorem store_rel {b off : Nat} {l c : List CV} {e : TypeId} {us : List Value} (hR : Rl base w0 S0 O Z S s a w) (hk : look s.st b = some (.cells l e)) (hc : All2 (CRel O Z S s.n) c us) (hn : off + c.length <= l.length) :
 ∃ w', (storeCells ⟨O b, off, none⟩ us).run P w = .ok () w' /\ Rl base w0 S0 O Z S { s with st := (b, .cells (l.take off ++ c ++ l.drop (off + c.length)) e) :: s.st } a w' := by
 obtain ⟨h1, h2, vs, h3, h4, h5⟩ := hR.st b _ hk
 have hlen := h4.length
 have hclen := hc.length
 have hone : ∀ v ∈ us, v.oneCell' = true := by
  intro v hv
  obtain ⟨i, hi, rfl⟩ := List.getElem_of_mem hv
  have hci : i < c.length := by omega
  obtain ⟨b', hb', hr⟩ := hc.get (i := i) (a := c[i]) (by simp [hci])
  rw [List.getElem?_eq_getElem hi] at hb'
  obtain rfl := Option.some.inj hb'
  exact hr.one
 have hst := run_storeCells_at (P := P) (O b) off e us 0 vs.toArray w h3 (by simp; omega) hone
 simp only [Nat.add_zero, List.toList_toArray] at hst
 refine ⟨_, hst, ?_⟩
 obtain ⟨nv, hnv⟩ : ∃ nv, vs.take off ++ us ++ vs.drop (off + us.length) = nv := ⟨_, rfl⟩
 rw [hnv]
 have hrow : (w.setRow (O b) nv.toArray).heap[O b]? = some (.cells nv.toArray e (0, 0)) := by
  simp only [World.setRow]
  rw [Array.getElem?_modify, if_pos rfl, h3]; rfl
 have hoth : ∀ k, k ≠ O b -> (w.setRow (O b) nv.toArray).heap[k]? = w.heap[k]? := by
  intro k hk
  simp only [World.setRow, Array.getElem?_modify]
  rw [if_neg (fun e => hk e.symm)]
 have hsz : (w.setRow (O b) nv.toArray).heap.size = w.heap.size := by simp [World.setRow]
 refine hR.upd (Evo.refl _ _ _ _) rfl rfl (fun p v e e0 => by rw [e] at e0; cases e0) (fun p v hp => ?_) ⟨rfl, rfl, rfl, by rw [hsz]; exact Nat.le_refl _, fun k hk => hoth k (by omega)⟩ (fun b' k' e' => ?_) (fun b1 k1 b2 k2 g e1 e2 n1 n2 f1 f2 => ?_)
 . have hne : p.block ≠ O b := by
    intro e
    obtain ⟨pb, po, ps⟩ := p
    simp only at e
    subst e
    rw [h5 po ps] at hp; cases hp
   rw [World.cell?_of_block (w := w) (hoth _ hne)]
   exact hR.sw p v hp
 . by_cases hb : b = b'
   . subst hb
     rw [look_cons_eq] at e'
     obtain rfl := Option.some.inj e'
     refine .inr ⟨h1, ⟨h2, nv, hrow, ?_, h5⟩, fun g f b2 k2 e2 e3 hne f2 => ?_⟩
     . rw [<- hnv, <- hclen]
       exact ((h4.take off).append hc).append (h4.drop _)
     . exact hne (hR.apart b2 b _ _ g e3 hk f2 f)
   . rw [look_cons_ne _ _ hb] at e'
     refine .inl ⟨e', fun g f => ⟨hoth g (fun e => hb (hR.apart b b' _ _ (O b) hk e' rfl (by rw [f, e]))), fun _ _ => rfl⟩⟩
 . have hb : ∀ b1 k, look ((b, Blk.cells (l.take off ++ c ++ l.drop (off + c.length)) e) :: s.st) b1 = some k -> look s.st b1 ≠ some k -> b = b1 := by
    intro b1 k e n
    by_cases hb : b = b1
    . exact hb
    . rw [look_cons_ne _ _ hb] at e; exact absurd e n
   rw [<- hb b1 k1 e1 n1, <- hb b2 k2 e2 n2]
theorem places_run : ∀ {fs : List Field} {pl : List (Nat × Nat)}, placesOf P fs = some pl -> ∀ w, (fs.mapM (m := Sem) fun f => Prod.mk f.offset <$> sizeOf f.type).run P w = .ok pl w
 | [], pl, h, w => by simp [placesOf] at h; subst h; rfl
 | f :: fs, pl, h, w => by
   unfold placesOf at h
   split at h
   . rename_i n hn
     split at h
     . rename_i l hl
       simp at h; subst h
       rw [List.mapM_cons]
       simp [szOf_run hn, places_run hl]
     . simp at h
   . simp at h
theorem setAll : ∀ (us : List Value) (k off : Nat) (cs : Array Value), off + k + us.length <= cs.size ->
 ((us.zipIdx k).foldl (fun cs p => cs.setIfInBounds (off + p.2) p.1) cs).toList = cs.toList.take (off + k) ++ us ++ cs.toList.drop (off + k + us.length)
 | [], k, off, cs, h => by simp
 | u :: us, k, off, cs, h => by
   simp only [List.length_cons] at h
   rw [List.zipIdx_cons, List.foldl_cons, setAll us (k + 1) off _ (by simp; omega)]
   simp only [Array.toList_setIfInBounds, List.length_cons]
   have e1 : (cs.toList.set (off + k) u).take (off + (k + 1)) = cs.toList.take (off + k) ++ [u] := by
    apply List.ext_getElem?
    intro i
    simp only [List.getElem?_take, List.getElem?_set, List.getElem?_append, List.length_take, Array.length_toList]
    by_cases h1 : i < off + k
    . rw [if_pos (by omega), if_neg (by omega), if_pos (by omega), if_pos h1]
    . by_cases h2 : i = off + k
      . subst h2; rw [if_pos (by omega), if_pos rfl, if_pos (by omega), if_neg (by omega), show off + k - min (off + k) cs.size = 0 by omega]; rfl
      . rw [if_neg (by omega), if_neg (by omega), List.getElem?_eq_none (by simp; omega)]
   have e2 : (cs.toList.set (off + k) u).drop (off + (k + 1) + us.length) = cs.toList.drop (off + k + (us.length + 1)) := by
    rw [List.drop_set_of_lt (by omega)]; congr 1; omega
   rw [e1, e2]; simp
theorem fill_rel {n : Nat} {place : Nat -> Option (Nat × Nat)} : ∀ {ps : List (Nat × AV)} {qs : List (Nat × Value)} {l l' : List CV} {vs : List Value}, fillCV place l ps = some l' ->
 All2 (fun p q => p.1 = q.1 /\ ARel O Z S n p.2 q.2) ps qs -> All2 (CRel O Z S n) l vs -> ∃ vs', Instr.fill place vs.toArray qs = some vs'.toArray /\ All2 (CRel O Z S n) l' vs'
 | [], qs, l, l', vs, h, hp, hl => by
   obtain rfl := All2.nil_inv hp
   simp [fillCV] at h; subst h
   exact ⟨vs, rfl, hl⟩
 | (i, v) :: ps, qs, l, l', vs, h, hp, hl => by
   obtain ⟨⟨j, u⟩, qs, rfl, ⟨e, hv⟩, hp2⟩ := All2.cons_inv hp
   simp only at e hv; subst e
   unfold fillCV at h
   unfold Instr.fill
   split at h
   . rename_i off size hpl
     rw [hpl]
     split at h
     . rename_i c hc
       split at h
       . rename_i hb
         rw [Bool.and_eq_true] at hb
         have h1 := Nat.eq_of_beq_eq_true hb.1
         have h2 := Nat.le_of_ble_eq_true hb.2
         obtain ⟨us, hu, hcu⟩ := hv.cells hc
         have hlen := hl.length
         have hcl := hcu.length
         simp only [hu, List.size_toArray]
         rw [if_neg (by simp; omega)]
         have hset : ((us.toArray.zipIdx).foldl (fun cs p => cs.setIfInBounds (off + p.2) p.1) vs.toArray) = (vs.take off ++ us ++ vs.drop (off + size)).toArray := by
          apply Array.ext'
          have := setAll us 0 off vs.toArray (by simp; omega)
          rw [<- Array.foldl_toList, Array.toList_zipIdx]
          simp only [List.toList_toArray] at this ⊢
          rw [this]
          simp only [Nat.add_zero]
          rw [show off + us.length = off + size by omega]
         have e : (us.toArray.zipIdx.foldl (fun cs x => match x with | (c, j) => cs.setIfInBounds (off + j) c) vs.toArray) = (vs.take off ++ us ++ vs.drop (off + size)).toArray := hset
         rw [e]
         exact fill_rel h hp2 (((hl.take off).append hcu).append (hl.drop _))
       . simp at h
     . simp at h
   . simp at h
end
end
section
section
variable {P : Program} {base : Nat} {w0 : World} {S0 : Mem} {O : Nat -> Nat} {Z : Nat -> Value} {S : Mem} {s : St} {a : Act} {w : World}
variable {α : Type} {K : AV -> St -> Option α} {r : α}
theorem parts_rel (hR : Rl base w0 S0 O Z S s a w) : ∀ (l : List (Nat × Operand)), All2 (fun p q => p.1 = q.1 /\ ARel O Z S s.n p.2 q.2) (l.map fun p => (p.1, aval s p.2)) (l.map fun p => (p.1, a.eval p.2))
 | [] => trivial
 | p :: l => ⟨⟨rfl, hR.val p.2⟩, parts_rel hR l⟩
theorem cond_some {b : Bool} {x y : Option α} (h : cond b x y = some r) : (b = true /\ x = some r) \/ (b = false /\ y = some r) := by cases b <;> simp_all
theorem byte_at {v : ByteArray} {i : Int} (h0 : 0 <= i) (h1 : i < v.size) : ∃ b : UInt8, (if 0 <= i then v[i.toNat]? else none) = some b /\ byteAt v i = b.toNat := by
 have hlt : i.toNat < v.size := by omega
 refine ⟨v[i.toNat], ?_, ?_⟩
 . rw [if_pos h0, getElem?_pos v i.toNat hlt]
 . unfold byteAt
   have : v.data.toList.getD i.toNat 0 = v[i.toNat] := by
    rw [List.getD_eq_getElem?_getD, Array.getElem?_toList]
    have h2 : i.toNat < v.data.size := hlt
    rw [Array.getElem?_eq_getElem h2]; rfl
   rw [this]
theorem sliceBound_run {k : IntKind} {i : Int} {y : Nat} {c : BoundsCode} (h0 : 0 <= i) (h1 : i <= (y : Int)) (w : World) : (Instr.sliceBound (.int k i) y c).run P w = .ok i.toNat w := by
 simp [Instr.sliceBound, asIntOf, h0, h1]
theorem optVal (hR : Rl base w0 S0 O Z S s a w) : ∀ {lo : Option Operand} {k : IntKind} {i : Int}, lo.map (aval s) = some (.one (.val (.int k i))) -> lo.map a.eval = some (.int k i)
 | none, _, _, h => by simp at h
 | some x, _, _, h => by simp at h ⊢; exact hR.valEq h
theorem optNone {lo : Option Operand} (h : lo.map (aval s) = none) : lo.map a.eval = none := by cases lo <;> simp_all
theorem cutHigh_some {hi : Option AV} {n : Nat} {K : Int -> Nat -> Option α} (h : cutHigh hi n K = some r) :
 ∃ (i : Int) (m : Nat), K i m = some r /\ i = m /\ m <= n /\ (hi = none /\ m = n \/ ∃ k, hi = some (.one (.val (.int k i)))) := by
 unfold cutHigh at h
 split at h
 . exact ⟨_, _, h, rfl, Nat.le_refl _, .inl ⟨rfl, rfl⟩⟩
 . rename_i k i
   rcases cond_some h with ⟨b1, h⟩ | ⟨_, h⟩
   . rcases cond_some h with ⟨b2, h⟩ | ⟨_, h⟩
     . have b1 := of_decide_eq_true b1
       have b2 := of_decide_eq_true b2
       exact ⟨_, _, h, by omega, by omega, .inr ⟨k, rfl⟩⟩
     . cases h
   . cases h
 . cases h
theorem cutLow_some {lo : Option AV} {m : Nat} {K : Nat -> Option α} (h : cutLow lo m K = some r) :
 ∃ (l : Nat), K l = some r /\ l <= m /\ (lo = none /\ l = 0 \/ ∃ k, lo = some (.one (.val (.int k l)))) := by
 unfold cutLow at h
 split at h
 . exact ⟨_, h, Nat.zero_le _, .inl ⟨rfl, rfl⟩⟩
 . rename_i k i
   rcases cond_some h with ⟨b1, h⟩ | ⟨_, h⟩
   . rcases cond_some h with ⟨b2, h⟩ | ⟨_, h⟩
     . have b1 := of_decide_eq_true b1
       have b2 := of_decide_eq_true b2
       exact ⟨_, h, by omega, .inr ⟨k, by rw [show ((i.toNat : Nat) : Int) = i by omega]⟩⟩
     . cases h
   . cases h
 . cases h
theorem bounds_run (hR : Rl base w0 S0 O Z S s a w) {isSlice : Bool} {lo hi : Option Operand} {len cap m l : Nat} (hm : m <= cap) (hl : l <= m) (hhi : hi.map (aval s) = none /\ m = len \/ ∃ k, hi.map (aval s) = some (.one (.val (.int k m))))
 (hlo : lo.map (aval s) = none /\ l = 0 \/ ∃ k, lo.map (aval s) = some (.one (.val (.int k l)))) :
 (Instr.sliceBounds isSlice len cap (lo.map a.eval) (hi.map a.eval) none).run P w = .ok (l, m, cap) w := by
 unfold Instr.sliceBounds
 rcases hhi with ⟨e, rfl⟩ | ⟨k, e⟩ <;> rcases hlo with ⟨e2, rfl⟩ | ⟨k2, e2⟩
 . rw [optNone (a := a) e, optNone (a := a) e2]; simp
 . rw [optNone (a := a) e, optVal hR e2]; simp [sliceBound_run (i := (l : Int)) (by omega) (by omega : (l : Int) <= ((m : Nat) : Int))]
 . rw [optVal hR e, optNone (a := a) e2]; simp [sliceBound_run (i := (m : Int)) (by omega) (by omega : (m : Int) <= ((cap : Nat) : Int))]
 . rw [optVal hR e, optVal hR e2]; simp [sliceBound_run (i := (m : Int)) (by omega) (by omega : (m : Int) <= ((cap : Nat) : Int)), sliceBound_run (i := (l : Int)) (by omega) (by omega : (l : Int) <= ((m : Nat) : Int))]
theorem sliceAt_str {t : TypeId} {lo hi : Option Value} {v : ByteArray} {l m c : Nat} (ht : P.underlying t = some .string) (hb : ∀ b, (Instr.sliceBounds b v.size v.size lo hi none).run P w = .ok (l, m, c) w) : (Instr.sliceAt t (.string v) lo hi none).run P w = .ok (.string (v.extract l m)) w := by
 unfold Instr.sliceAt
 simp only [Sem.run_bind, run_underlying ht, Result.andThen_ok]
 unfold Instr.slice
 simp [run_underlying ht, hb]
theorem sliceAt_sl {t e : TypeId} {lo hi : Option Value} {A : Option Addr} {len cap l m c : Nat} (ht : P.underlying t = some (.slice e)) (hb : ∀ b, (Instr.sliceBounds b len cap lo hi none).run P w = .ok (l, m, c) w) (he : ∃ i, P.info? e = some i) :
 ∃ sz, szOf P e = some sz /\ (Instr.sliceAt t (.slice A len cap) lo hi none).run P w = .ok (.slice (if c = l then A else A.map (·.add (l * sz))) (m - l) (c - l)) w := by
 obtain ⟨i, hi'⟩ := he
 refine ⟨i.size, by simp [szOf, hi'], ?_⟩
 unfold Instr.sliceAt
 simp only [Sem.run_bind, run_underlying ht, Result.andThen_ok]
 unfold Instr.slice
 simp [run_underlying ht, hb, sizeOf, run_typeInfo _ hi']
end
end
section
section
variable {P : Program} {base : Nat} {w0 : World} {S0 : Mem} {O : Nat -> Nat} {Z : Nat -> Value} {S : Mem} {s : St} {a : Act} {w : World}
variable {α : Type} {K : AV -> St -> Option α} {r : α} {dst : Option Tmp} {ty : TypeId} {pos : String} {after : Array Edge} {guard : Option (Nat × Bool)}
theorem run_v (x : Sem Value) (u : Value) (w' : World) (h : x.run P w = .ok u w') : (do Pure.pure (Next.value (<- x)) : Sem Next).run P w = .ok (.value u) w' := by
 simp [h]
def Sound (P : Program) (base : Nat) (w0 : World) (S0 : Mem) (O : Nat -> Nat) (Z : Nat -> Value) (S : Mem) (s : St) (a : Act) (w : World) (K : AV -> St -> Option α) (r : α) (o : Oper) : Prop :=
 ∃ v s', K v s' = some r /\ Does P base w0 S0 o O Z S s a w v s'
theorem pick_sound {c x y : Operand} (hR : Rl base w0 S0 O Z S s a w) (h : evPick c x y s K = some r) : Sound P base w0 S0 O Z S s a w K r ⟨dst, .pick c x y, ty, pos, after, guard⟩ := by
 unfold evPick at h
 split at h
 . rename_i v e
   have hc := hR.valEq e
   rcases cond_some h with ⟨rfl, h⟩ | ⟨rfl, h⟩
   . exact ⟨_, _, h, Does.pure hR (u := a.eval x) (by simp [execOp, hc, asBool]) (hR.val x)⟩
   . exact ⟨_, _, h, Does.pure hR (u := a.eval y) (by simp [execOp, hc, asBool]) (hR.val y)⟩
 . cases h
theorem box_sound {elem : TypeId} {x : Operand} (hR : Rl base w0 S0 O Z S s a w) (h : evBox elem x s K = some r) : Sound P base w0 S0 O Z S s a w K r ⟨dst, .box elem x, ty, pos, after, guard⟩ := by
 unfold evBox at h
 split at h
 . rename_i l e
   obtain ⟨vs, h1, h2⟩ := (hR.val x).cells e
   obtain ⟨O', h3, h4, h5⟩ := hR.new h2 elem
   refine ⟨_, _, h, O', Z, S, .pointer (some ⟨w.heap.size, 0, none⟩), _, .inl ?_, h3, ⟨Nat.lt_succ_self _, by rw [h4]⟩, h5, rfl, ⟨[_], rfl⟩, rfl⟩
   simp [execOp, Instr.box, newVar, Go.newRow, h1]
 . cases h
theorem alloc_sound {elem : TypeId} (hR : Rl base w0 S0 O Z S s a w) (h : evAlloc P elem s K = some r) : Sound P base w0 S0 O Z S s a w K r ⟨dst, .alloc elem, ty, pos, after, guard⟩ := by
 unfold evAlloc at h
 split at h
 . rename_i z hz
   split at h
   . rename_i l e
     obtain ⟨vs, h1, h2⟩ := (ofVal_rel (O := O) (Z := Z) (S := S) (s := s) z).cells e
     obtain ⟨O', h3, h4, h5⟩ := hR.new h2 elem
     refine ⟨_, _, h, O', Z, S, .pointer (some ⟨w.heap.size, 0, none⟩), _, .inl ?_, h3, ⟨Nat.lt_succ_self _, by rw [h4]⟩, h5, rfl, ⟨[_], rfl⟩, rfl⟩
     simp [execOp, Instr.alloc, newVar, Go.newRow, h1, zeroOf_run hz]
   . cases h
 . cases h
theorem fill_sound {place : Nat -> Option (Nat × Nat)} {z : Array Value} {parts : Array (Nat × Operand)} (hR : Rl base w0 S0 O Z S s a w) (hone : z.toList.all (·.oneCell') = true) (h : evFill place z parts s K = some r) :
 ∃ l vs, K (.agg l) s = some r /\ Instr.fill place z (parts.map fun p => (p.1, a.eval p.2)).toList = some vs /\ ARel O Z S s.n (.agg l) (.agg vs) := by
 unfold evFill at h
 have hz2 : All2 (CRel O Z S s.n) (z.toList.map .val) z.toList := All2.map_l (All2.refl_of fun b hb => ⟨rfl, List.all_eq_true.1 hone b hb⟩)
 split at h
 . rename_i l e
   obtain ⟨vs, h1, h2⟩ := fill_rel e (parts_rel hR parts.toList) hz2
   refine ⟨l, vs.toArray, h, ?_, vs, rfl, h2⟩
   rw [Array.toList_map]
   simpa using h1
 . cases h
theorem build_sound {t : TypeId} {parts : Array (Nat × Operand)} (hR : Rl base w0 S0 O Z S s a w) (h : evBuild P t parts s K = some r) : Sound P base w0 S0 O Z S s a w K r ⟨dst, .build t parts, ty, pos, after, guard⟩ := by
 unfold evBuild at h
 split at h
 . rename_i z hz
   split at h
   . rename_i hone
     split at h
     . rename_i fs hfs
       split at h
       . rename_i pl hpl
         obtain ⟨l, vs, h1, h2, h3⟩ := fill_sound hR hone h
         refine ⟨_, _, h1, Does.pure hR (u := .agg vs) ?_ h3⟩
         have hpr := places_run hpl w
         have e : (fun x : Nat => (List.toArray pl)[x]?) = fun i => pl[i]? := by funext i; simp
         have hb : (Instr.build t (parts.map fun p => (p.1, a.eval p.2))).run P w = .ok (.agg vs) w := by
          unfold Instr.build
          rw [Sem.run_bind, zeroOf_run hz]; simp only [Result.andThen_ok]
          rw [Sem.run_bind, run_underlying hfs]; simp only [Result.andThen_ok]
          rw [Sem.run_bind, Array.mapM_eq_mapM_toList]
          simp only [bind_pure_comp, Sem.run_map, hpr, Result.andThen_ok, e, Value.cells, h2]
          rfl
         exact run_v _ _ _ hb
       . cases h
     . rename_i ln e hfs
       split at h
       . rename_i n hn
         obtain ⟨l, vs, h1, h2, h3⟩ := fill_sound hR hone h
         refine ⟨_, _, h1, Does.pure hR (u := .agg vs) ?_ h3⟩
         have hb : (Instr.build t (parts.map fun p => (p.1, a.eval p.2))).run P w = .ok (.agg vs) w := by
          unfold Instr.build
          rw [Sem.run_bind, zeroOf_run hz]; simp only [Result.andThen_ok]
          rw [Sem.run_bind, run_underlying hfs]; simp only [Result.andThen_ok]
          rw [Sem.run_bind, szOf_run hn]
          simp only [Result.andThen_ok, Value.cells, h2]
          rfl
         exact run_v _ _ _ hb
       . cases h
     . cases h
   . cases h
 . cases h
theorem ty_int {k k' : IntKind} (h : Ty.beq (.int k) (.int k') = true) : k = k' := by have := Ty.eq_of_beq h; injection this
theorem castL_reps {t u : Ty} (h : Ty.beq u t = true) {l : List u.den} {vs : List Value} (k : Reps S (.sl u) l vs) : Reps S (.sl t) (castL h l) vs := by
 obtain rfl := Ty.eq_of_beq h
 exact k
theorem castL_self {t : Ty} (h : Ty.beq t t = true) (l : List t.den) : castL h l = l := rfl
theorem unCV_rel {n : Nat} : ∀ {t : Ty} {l l' : List CV} {x : t.den} {vs : List Value}, unCV t l = some (x, l') -> All2 (CRel O Z S n) l vs -> ∃ us ws, vs = us ++ ws /\ Reps S t x us /\ All2 (CRel O Z S n) l' ws
 | .int k, l, l', x, vs, h, hl => by
   simp only [unCV] at h
   split at h
   . rename_i c l1
     split at h
     . rename_i y hy
       simp at h; obtain ⟨rfl, rfl⟩ := h
       obtain ⟨u, vs', rfl, h1, h2⟩ := All2.cons_inv hl
       refine ⟨[u], vs', rfl, ?_, h2⟩
       unfold unInt at hy
       split at hy
       . split at hy
         . rename_i hk
           obtain rfl := ty_int hk
           obtain rfl := Option.some.inj hy
           simp only [Reps]; rw [h1.1]
         . cases hy
       . cases hy
     . cases h
   . cases h
 | .bool, l, l', x, vs, h, hl => by
   simp only [unCV] at h
   split at h
   . rename_i c l1
     split at h
     . rename_i y hy
       simp at h; obtain ⟨rfl, rfl⟩ := h
       obtain ⟨u, vs', rfl, h1, h2⟩ := All2.cons_inv hl
       refine ⟨[u], vs', rfl, ?_, h2⟩
       unfold unBool at hy
       split at hy
       . obtain rfl := Option.some.inj hy
         simp only [Reps]; rw [h1.1]
       . cases hy
     . cases h
   . cases h
 | .str, l, l', x, vs, h, hl => by
   simp only [unCV] at h
   split at h
   . rename_i c l1
     split at h
     . rename_i y hy
       simp at h; obtain ⟨rfl, rfl⟩ := h
       obtain ⟨u, vs', rfl, h1, h2⟩ := All2.cons_inv hl
       refine ⟨[u], vs', rfl, ?_, h2⟩
       unfold unStr at hy
       split at hy
       . obtain rfl := Option.some.inj hy
         simp only [Reps]; rw [h1.1]
       . cases hy
     . cases h
   . cases h
 | .nil, l, l', x, vs, h, hl => by
   simp only [unCV] at h
   simp at h; obtain ⟨_, rfl⟩ := h
   exact ⟨[], vs, rfl, rfl, hl⟩
 | .cons a b, l, l', x, vs, h, hl => by
   simp only [unCV] at h
   split at h
   . rename_i x1 l1 h1
     split at h
     . rename_i y1 l2 h2
       simp at h; obtain ⟨rfl, rfl⟩ := h
       obtain ⟨us, ws, rfl, g1, g2⟩ := unCV_rel h1 hl
       obtain ⟨us2, ws2, rfl, g3, g4⟩ := unCV_rel h2 g2
       exact ⟨us ++ us2, ws2, by simp, ⟨us, us2, rfl, g1, g3⟩, g4⟩
     . cases h
   . cases h
 | .sl t, l, l', x, vs, h, hl => by
   simp only [unCV] at h
   split at h
   . rename_i c l1
     split at h
     . rename_i y hy
       simp at h; obtain ⟨rfl, rfl⟩ := h
       obtain ⟨u, vs', rfl, h1, h2⟩ := All2.cons_inv hl
       refine ⟨[u], vs', rfl, ?_, h2⟩
       unfold unSl at hy
       split at hy
       . split at hy
         . rename_i hk
           obtain rfl := Option.some.inj hy
           exact castL_reps hk h1
         . cases hy
       . obtain rfl := Option.some.inj hy
         obtain ⟨rfl, _⟩ := h1
         exact ⟨none, 0, rfl, Nat.le_refl _, fun i x hx => by simp [lst] at hx⟩
       . cases hy
     . cases h
   . cases h
theorem unRow_rel {n : Nat} {t : Ty} : ∀ {m : Nat} {c : List CV} {l : List t.den} {vs : List Value}, unRow t m c = some l -> All2 (CRel O Z S n) c vs -> l.length = m /\ RowList S t l vs
 | 0, [], l, vs, h, hl => by
   simp [unRow] at h; subst h
   obtain rfl := All2.nil_inv hl
   exact ⟨rfl, RowList.nil S t⟩
 | 0, _ :: _, l, vs, h, hl => by simp [unRow] at h
 | m + 1, c, l, vs, h, hl => by
   unfold unRow at h
   split at h
   . rename_i x c' hx
     split at h
     . rename_i xs hxs
       simp at h; subst h
       obtain ⟨us, ws, rfl, h1, h2⟩ := unCV_rel hx hl
       obtain ⟨h3, h4⟩ := unRow_rel hxs h2
       exact ⟨by simp [h3], (RowList.one h1).append h4⟩
     . cases h
   . cases h
theorem mrowOf_some {b : Nat} {e : TypeId} {t : Ty} {l : List t.den} (h : s.mrowOf b = some (e, ⟨t, l⟩)) : look s.st b = some (.mrow e t l) := by
 unfold St.mrowOf at h
 split at h
 . rename_i e' t' l' hk
   have h := Option.some.inj h
   cases h
   exact hk
 . cases h
theorem mrow_at (hR : Rl base w0 S0 O Z S s a w) {b : Nat} {e : TypeId} {t : Ty} {l : List t.den} (hk : look s.st b = some (.mrow e t l)) {g len cap : Nat} (hZ : Z b = .slice (some ⟨g, 0, none⟩) len cap) :
 ∃ cur, base <= g /\ w.heap[g]? = some (.cells cur e (0, 0)) /\ l.length <= cap /\ cap <= maxLen /\ cur.size = cap * t.width /\ len = l.length /\ RowList S t l (cur.toList.take (l.length * t.width)) /\ ∀ off sp, S ⟨g, off, sp⟩ = none := by
 rcases (hR.st b _ hk).2.2 with ⟨q, _⟩ | ⟨g', cap', cur, xs, q1, q2, q3, q4, q5, q6, q7, q8, q9⟩
 . rw [hZ] at q; cases q
 . rw [hZ] at q1
   cases q1
   exact ⟨cur, q2, q3, q4, q5, q6, rfl, by rw [q7]; exact q8, q9⟩
theorem RowList.put {t : Ty} {l : List t.den} {xs : List Value} (h : RowList S t l xs) {i : Nat} {x' : t.den} {us' : List Value} (h' : Reps S t x' us') {nv : List Value} (hlen : nv.length = xs.length)
 (hin : ∀ j u, us'[j]? = some u -> nv[i * t.width + j]? = some u) (hout : ∀ k, (k < i * t.width \/ (i + 1) * t.width <= k) -> nv[k]? = xs[k]?) : RowList S t (l.set i x') nv := by
 refine ⟨by rw [hlen, h.1, List.length_set], fun k y hy => ?_⟩
 rw [List.getElem?_set] at hy
 split at hy
 . rename_i e
   subst e
   split at hy
   . obtain rfl := Option.some.inj hy
     exact ⟨us', h', hin⟩
   . cases hy
 . rename_i hne
   obtain ⟨us, h1, h2⟩ := h.2 k y hy
   refine ⟨us, h1, fun j u hj => ?_⟩
   have hjw : j < t.width := by rw [<- h1.width]; exact (List.getElem?_eq_some_iff.1 hj).1
   rw [hout _ ?_]
   . exact h2 j u hj
   . rcases Nat.lt_or_gt_of_ne hne with q | q
     . right
       have := Nat.mul_le_mul_right t.width (show i + 1 <= k by omega)
       omega
     . left
       have := Nat.mul_le_mul_right t.width (show k + 1 <= i by omega)
       rw [Nat.add_mul, Nat.one_mul] at this
       omega
theorem mrow_put (hR : Rl base w0 S0 O Z S s a w) {b : Nat} {e : TypeId} {t : Ty} {l l' : List t.den} (hk : look s.st b = some (.mrow e t l)) {g len cap : Nat} (hZ : Z b = .slice (some ⟨g, 0, none⟩) len cap) {cur : Array Value} (hcur : w.heap[g]? = some (.cells cur e (0, 0)))
 {nv : List Value} (hsz : nv.length = cur.size) (hlen : l'.length = l.length) (hrow : RowList S t l' (nv.take (l'.length * t.width))) :
 Rl base w0 S0 O Z S { s with st := (b, .mrow e t l') :: s.st } a (w.setRow g nv.toArray) := by
 obtain ⟨cur', q2, q3, q4, q5, q6, q7, q8, q9⟩ := mrow_at hR hk hZ
 rw [hcur] at q3; cases q3
 obtain ⟨h1, h2, _⟩ := hR.st b _ hk
 have hat : (Blk.mrow e t l).at O Z b = some g := by simp only [Blk.at, hZ]; rfl
 have hrow' : (w.setRow g nv.toArray).heap[g]? = some (.cells nv.toArray e (0, 0)) := by
  simp only [World.setRow]
  rw [Array.getElem?_modify, if_pos rfl, hcur]; rfl
 have hoth : ∀ k, k ≠ g -> (w.setRow g nv.toArray).heap[k]? = w.heap[k]? := by
  intro k hk
  simp only [World.setRow, Array.getElem?_modify]
  rw [if_neg (fun e => hk e.symm)]
 have hsz' : (w.setRow g nv.toArray).heap.size = w.heap.size := by simp [World.setRow]
 refine hR.upd (Evo.refl _ _ _ _) rfl rfl (fun p v e e0 => by rw [e] at e0; cases e0) (fun p v hp => ?_) ⟨rfl, rfl, rfl, by rw [hsz']; exact Nat.le_refl _, fun k hk => hoth k (by omega)⟩ (fun b' k' e' => ?_) (fun b1 k1 b2 k2 g' e1 e2 n1 n2 f1 f2 => ?_)
 . have hne : p.block ≠ g := by
    intro e
    obtain ⟨pb, po, ps⟩ := p
    simp only at e
    subst e
    rw [q9 po ps] at hp; cases hp
   rw [World.cell?_of_block (w := w) (hoth _ hne)]
   exact hR.sw p v hp
 . by_cases hb : b = b'
   . subst hb
     rw [look_cons_eq] at e'
     obtain rfl := Option.some.inj e'
     refine .inr ⟨h1, ⟨h2, .inr ⟨g, cap, nv.toArray, _, by rw [hZ, q7, hlen], q2, hrow', by rw [hlen]; exact q4, q5, by rw [List.size_toArray, hsz]; exact q6, rfl, hrow, q9⟩⟩, fun g' f b2 k2 e2 e3 hne f2 => ?_⟩
     have f : (Blk.mrow e t l).at O Z b = some g' := f
     exact hne (hR.apart b2 b _ _ g' e3 hk f2 f)
   . rw [look_cons_ne _ _ hb] at e'
     refine .inl ⟨e', fun g' f => ⟨hoth g' (fun e => hb (hR.apart b b' _ _ g hk e' hat (by rw [f, e]))), fun _ _ => rfl⟩⟩
 . have hb : ∀ b1 k, look ((b, Blk.mrow e t l') :: s.st) b1 = some k -> look s.st b1 ≠ some k -> b = b1 := by
    intro b1 k e n
    by_cases hb : b = b1
    . exact hb
    . rw [look_cons_ne _ _ hb] at e; exact absurd e n
   rw [<- hb b1 k1 e1 n1, <- hb b2 k2 e2 n2]
theorem load_sound {t : TypeId} {x : Operand} (hR : Rl base w0 S0 O Z S s a w) (h : evLoad P t x s K = some r) : Sound P base w0 S0 O Z S s a w K r ⟨dst, .load t x, ty, pos, after, guard⟩ := by
 unfold evLoad at h
 split at h
 . rename_i b off e
   have hx := hR.val x; rw [e] at hx
   obtain ⟨hb, hx⟩ := hx
   split at h
   . rename_i l e' hk
     split at h
     . rename_i v hm
       obtain ⟨vs, h1, h2, h3⟩ := ptr_cells (off := off) hR hk
       obtain ⟨u, h4, h5⟩ := loadVar_rel (P := P) (w := w) hm (h2.drop off) h3
       exact ⟨_, _, h, Does.pure hR (u := u) (by simp [execOp, hx, Instr.loadAt, Instr.sureAddr, h4]) h5⟩
     . cases h
   . cases h
 . rename_i tt y off e
   have hx := hR.val x; rw [e] at hx
   obtain ⟨ad, vs, hx, h1, h2⟩ := hx
   split at h
   . rename_i v hm
     obtain ⟨u, h4, h5⟩ := loadVar_rel (P := P) (w := w) hm ((h1.all2 (O := O) (Z := Z) s.n).drop off) (fun j u hj => hR.sw _ _ (h2 j u hj))
     exact ⟨_, _, h, Does.pure hR (u := u) (by simp [execOp, hx, Instr.loadAt, Instr.sureAddr, h4]) h5⟩
   . cases h
 . rename_i b wd i off e
   have hx := hR.val x; rw [e] at hx
   obtain ⟨hb, g, len, cap, hZ, hx⟩ := hx
   split at h
   . rename_i e' tt l hk
     have hk := mrowOf_some hk
     obtain ⟨cur, q2, q3, q4, q5, q6, q7, q8, q9⟩ := mrow_at hR hk hZ
     split at h
     . rename_i v hw hm
       have hw := Nat.eq_of_beq_eq_true hw
       rcases cond_some h with ⟨hi, h⟩ | ⟨_, h⟩
       . have hi := of_decide_eq_true hi
         have hg : l.getD i tt.zero = l[i] := by simp [List.getD_eq_getElem?_getD, hi]
         obtain ⟨us, h1, h2⟩ := q8.2 i l[i] (by simp [hi])
         rw [hg] at hm
         obtain ⟨u, h4, h5⟩ := loadVar_rel (P := P) (w := w) (ad := ⟨g, i * wd + off, none⟩) hm ((h1.all2 (O := O) (Z := Z) s.n).drop off) (fun j u hj => by
          rw [List.getElem?_drop] at hj
          have h3 := h2 _ u hj
          rw [List.getElem?_take] at h3
          split at h3
          . rw [add_at, heap_cell (vs := cur.toList) (by simpa using q3), hw, show i * tt.width + off + j = i * tt.width + (off + j) by omega]
            exact h3
          . cases h3)
         exact ⟨_, _, h, Does.pure hR (u := u) (by simp [execOp, hx, Instr.loadAt, Instr.sureAddr, h4]) h5⟩
       . cases h
     . cases h
   . cases h
 . cases h
theorem store_sound {t : TypeId} {x y : Operand} (hR : Rl base w0 S0 O Z S s a w) (h : evStore P t x y s K = some r) : Sound P base w0 S0 O Z S s a w K r ⟨dst, .store t x y, ty, pos, after, guard⟩ := by
 unfold evStore at h
 split at h
 . rename_i b off e
   have hx := hR.val x; rw [e] at hx
   obtain ⟨hb, hx⟩ := hx
   split at h
   . rename_i l e' hk
     split at h
     . rename_i c hc
       split at h
       . rename_i n hn
         split at h
         . rename_i hbb
           rw [Bool.and_eq_true] at hbb
           have h1 := Nat.eq_of_beq_eq_true hbb.1
           have h2 := Nat.le_of_ble_eq_true hbb.2
           obtain ⟨us, h3, h4⟩ := (hR.val y).cells hc
           obtain ⟨w', h5, h6⟩ := store_rel (P := P) hR hk h4 h2
           have hlen := h4.length
           refine ⟨_, _, h, O, Z, S, undef, w', .inr ⟨?_, rfl⟩, h6, rfl, Evo.refl _ _ _ _, rfl, ⟨[_], rfl⟩, rfl⟩
           have e1 : (a.eval y).cells.size = n := by rw [h3]; simp; omega
           have e2 : (a.eval y).cells.toList = us := by rw [h3]
           simp only [execOp, hx, Instr.storeAt, Instr.sureAddr, storeVar, Sem.run_bind, Sem.run_pure, Result.andThen_ok, szOf_run hn, e1, ne_eq, not_true_eq_false, if_false, e2, h5]
         . cases h
       . cases h
     . cases h
   . cases h
 . rename_i b wd i off ex
   have hx := hR.val x; rw [ex] at hx
   obtain ⟨hb, g, len, cap, hZ, hx⟩ := hx
   split at h
   . rename_i e' tt l hk
     have hk := mrowOf_some hk
     obtain ⟨cur, q2, q3, q4, q5, q6, q7, q8, q9⟩ := mrow_at hR hk hZ
     split at h
     . rename_i c n hc hn
       split at h
       . rename_i hbb
         simp only [Bool.and_eq_true] at hbb
         have hw := Nat.eq_of_beq_eq_true hbb.1.1
         have h1 := Nat.eq_of_beq_eq_true hbb.1.2
         have h2 := Nat.le_of_ble_eq_true hbb.2
         split at h
         . rename_i x' hun
           rcases cond_some h with ⟨hi, h⟩ | ⟨_, h⟩
           . have hi := of_decide_eq_true hi
             have hg : l.getD i tt.zero = l[i] := by simp [List.getD_eq_getElem?_getD, hi]
             obtain ⟨os, o1, o2⟩ := q8.2 i l[i] (by simp [hi])
             rw [hg] at hun
             obtain ⟨us, h3, h4⟩ := (hR.val y).cells hc
             have hul := h4.length
             have hol := o1.width
             have hcells := o1.all2 (O := O) (Z := Z) s.n
             have hall : All2 (CRel O Z S s.n) (((cellsCV tt l[i]).take off ++ c ++ (cellsCV tt l[i]).drop (off + c.length)).map s.derefC) (os.take off ++ us ++ os.drop (off + us.length)) := by
              refine All2.map_l (All2.mono (fun c u hc => hR.derefC hc) ?_)
              rw [<- hul]
              exact ((hcells.take off).append h4).append (hcells.drop _)
             obtain ⟨us', ws, e1, r1, r2⟩ := unCV_rel hun hall
             obtain rfl := All2.nil_inv r2
             rw [List.append_nil] at e1
             have hone : ∀ v ∈ us, v.oneCell' = true := by
              intro v hv
              obtain ⟨j, hj, rfl⟩ := List.getElem_of_mem hv
              obtain ⟨b', hb', hr⟩ := h4.get (i := j) (a := c[j]'(by omega)) (by simp)
              rw [List.getElem?_eq_getElem hj] at hb'
              obtain rfl := Option.some.inj hb'
              exact hr.one
             have hiw : (i + 1) * tt.width <= l.length * tt.width := Nat.mul_le_mul_right _ hi
             have hlw : l.length * tt.width <= cap * tt.width := Nat.mul_le_mul_right _ q4
             rw [Nat.add_mul, Nat.one_mul] at hiw
             have hst := run_storeCells_at (P := P) g (i * wd + off) e' us 0 cur w q3 (by rw [hw] at h2 ⊢; omega) hone
             simp only [Nat.add_zero] at hst
             obtain ⟨nv, hnv⟩ : ∃ nv, cur.toList.take (i * wd + off) ++ us ++ cur.toList.drop (i * wd + off + us.length) = nv := ⟨_, rfl⟩
             rw [hnv] at hst
             have hcl : cur.toList.length = cur.size := Array.length_toList
             have hnl : nv.length = cur.size := by
              rw [<- hnv]; simp only [List.length_append, List.length_take, List.length_drop, hcl]; rw [hw] at h2 ⊢; omega
             have hget : ∀ k, nv[k]? = if k < i * wd + off then cur.toList[k]? else if k < i * wd + off + us.length then us[k - (i * wd + off)]? else cur.toList[k]? := by
              intro k
              have htl : (cur.toList.take (i * wd + off)).length = i * wd + off := by rw [List.length_take, hcl]; rw [hw] at h2 ⊢; omega
              rw [<- hnv, List.append_assoc, List.getElem?_append, htl]
              split
              . rename_i hk; rw [List.getElem?_take_of_lt hk]
              . rw [List.getElem?_append]
                split
                . rename_i hk; rw [if_pos (by omega)]
                . rename_i hk
                  rw [if_neg (by omega), List.getElem?_drop]
                  congr 1; omega
             have hrow : RowList S tt (l.set i x') (nv.take ((l.set i x').length * tt.width)) := by
              rw [List.length_set]
              refine q8.put r1 (by simp only [List.length_take, hnl, hcl]) (fun j u hj => ?_) (fun k hk => ?_)
              . rw [<- e1] at hj
                have hjw : j < tt.width := by
                 have := (List.getElem?_eq_some_iff.1 hj).1
                 simp only [List.length_append, List.length_take, List.length_drop] at this
                 rw [hw] at h2; omega
                rw [List.getElem?_take_of_lt (by omega), hget, hw]
                rw [List.append_assoc, List.getElem?_append, List.length_take, hol, Nat.min_eq_left (by rw [hw] at h2; omega)] at hj
                split at hj
                . rename_i hjo
                  rw [if_pos (by omega)]
                  rw [List.getElem?_take_of_lt hjo] at hj
                  have := o2 j u hj
                  rwa [List.getElem?_take_of_lt (by omega)] at this
                . rename_i hjo
                  rw [if_neg (by omega)]
                  rw [List.getElem?_append] at hj
                  split at hj
                  . rename_i hju
                    rw [if_pos (by omega), show i * tt.width + j - (i * tt.width + off) = j - off by omega]
                    exact hj
                  . rename_i hju
                    rw [if_neg (by omega)]
                    rw [List.getElem?_drop] at hj
                    have := o2 _ u hj
                    rw [List.getElem?_take_of_lt (by omega)] at this
                    rwa [show off + us.length + (j - off - us.length) = j by omega] at this
              . rw [List.getElem?_take, List.getElem?_take]
                split
                . rw [hget, hw]
                  rcases hk with hk | hk
                  . rw [if_pos (by omega)]
                  . rw [Nat.add_mul, Nat.one_mul] at hk
                    rw [hw] at h2
                    rw [if_neg (by omega), if_neg (by omega)]
                . rfl
             have h6 := mrow_put hR hk hZ q3 hnl (List.length_set ..) hrow
             refine ⟨_, _, h, O, Z, S, undef, _, .inr ⟨?_, rfl⟩, h6, rfl, Evo.refl _ _ _ _, rfl, ⟨[_], rfl⟩, rfl⟩
             have e1 : (a.eval y).cells.size = n := by rw [h3]; simp; omega
             have e2 : (a.eval y).cells.toList = us := by rw [h3]
             simp only [execOp, hx, Instr.storeAt, Instr.sureAddr, storeVar, Sem.run_bind, Sem.run_pure, Result.andThen_ok, szOf_run hn, e1, ne_eq, not_true_eq_false, if_false, e2, hst]
           . cases h
         . cases h
       . cases h
     . cases h
   . cases h
 . cases h
theorem nil_sound {x : Operand} (hR : Rl base w0 S0 O Z S s a w) (h : evNil x s K = some r) : Sound P base w0 S0 O Z S s a w K r ⟨dst, .nilCheck x, ty, pos, after, guard⟩ := by
 unfold evNil at h
 split at h
 . rename_i b o e
   have hx := hR.val x; rw [e] at hx
   have hx' := hx.2
   exact ⟨_, _, h, Does.pure hR (u := a.eval x) (by simp [execOp, hx']) hx⟩
 . rename_i f c e
   have hx := hR.val x; rw [e] at hx
   have hx' := hx.2
   exact ⟨_, _, h, Does.pure hR (u := a.eval x) (by simp [execOp, hx']) hx⟩
 . rename_i t y o e
   have hx := hR.val x; rw [e] at hx
   obtain ⟨ad, vs, hx', h1, h2⟩ := id hx
   exact ⟨_, _, h, Does.pure hR (u := a.eval x) (by simp [execOp, hx']) hx⟩
 . rename_i b wd i o e
   have hx := hR.val x; rw [e] at hx
   obtain ⟨_, g, len, cap, _, hx'⟩ := id hx
   exact ⟨_, _, h, Does.pure hR (u := a.eval x) (by simp [execOp, hx']) hx⟩
 . cases h
theorem evVal_some {v : Option Value} (h : evVal v s K = some r) : ∃ u, v = some u /\ K (.one (.val u)) s = some r := by
 unfold evVal at h
 split at h
 . exact ⟨_, rfl, h⟩
 . cases h
theorem un_sound {op : UnOp} {xt : TypeId} {x : Operand} (hR : Rl base w0 S0 O Z S s a w) (h : evUn P op x s K = some r) : Sound P base w0 S0 O Z S s a w K r ⟨dst, .unOp op xt x, ty, pos, after, guard⟩ := by
 unfold evUn at h
 split at h
 . rename_i v e
   obtain ⟨u, h1, h2⟩ := evVal_some h
   exact ⟨_, _, h2, Does.pure hR (u := u) (by simp [execOp, hR.valEq e, runPure_run h1 w]) rfl⟩
 . cases h
theorem convert_bytes {src dt e : TypeId} (hs : P.underlying src = some (.slice e)) (hd : P.underlying dt = some .string) (he : P.underlying e = some (.int .u8)) {l : List Int} {v : Value} (hSw : ∀ p v, S p = some v -> w.cell? p = some v) (hv : Reps S (.sl (.int .u8)) l [v]) :
 (convert src dt v).run P w = .ok (.string (strOfNums l)) w := by
 obtain ⟨A, c, e1, hc, hcell⟩ := hv
 obtain rfl : v = .slice A (lst (t := .int .u8) l).length c := by simpa using e1
 cases A with
 | none =>
   have : l = [] := by
    cases l with
    | nil => rfl
    | cons x l => obtain ⟨a, us, e2, _⟩ := hcell 0 x rfl; cases e2
   subst this
   exact run_convert_bytes_nil w src e hs he _ _ dt hd
 | some a =>
   have hl : (loadCells a (lst (t := .int .u8) l).length).run P w = .ok (l.map (Value.int .u8)).toArray w := by
    have := run_loadCells_list (P := P) w a (l.map (Value.int .u8)) (fun j u hj => by
     rw [List.getElem?_map] at hj
     cases hx : l[j]? with
     | none => rw [hx] at hj; cases hj
     | some x =>
       rw [hx] at hj
       obtain rfl : Value.int .u8 x = u := by simpa using hj
       obtain ⟨a', us, e2, h2, h3⟩ := hcell j x hx
       obtain rfl := Option.some.inj e2
       have h2' : us = [Value.int .u8 x] := h2
       subst h2'
       have := hSw _ _ (h3 0 _ rfl)
       simpa [Ty.width] using this)
    have h0 : (loadCells a (List.length (α := Int) l)).run P w = .ok (l.map (Value.int .u8)).toArray w := by simpa using this
    exact h0
   rw [run_convert_bytes_string w src dt e _ _ c hs he hd, run_bytesToString w _ _ c l hl, foldl_push_bytes]
   simp [strOfNums, ByteArray.empty, ByteArray.emptyWithCapacity]
   rfl
theorem conv_sound {src dt : TypeId} {x : Operand} (hR : Rl base w0 S0 O Z S s a w) (h : evConv P src dt x s K = some r) : Sound P base w0 S0 O Z S s a w K r ⟨dst, .convert src dt x, ty, pos, after, guard⟩ := by
 unfold evConv at h
 split at h
 . rename_i v e
   have hx : a.eval x = v := by have := hR.valR x; rw [e] at this; exact this
   obtain ⟨u, h1, h2⟩ := evVal_some h
   exact ⟨_, _, h2, Does.pure hR (u := u) (by simp [execOp, hx, runPure_run h1 w]) rfl⟩
 . rename_i l e
   have hx := hR.valR x; rw [e] at hx
   split at h
   . rename_i el hs hd
     split at h
     . rename_i he
       exact ⟨_, _, h, Does.pure hR (u := .string (strOfNums l)) (by simp [execOp, convert_bytes hs hd he hR.sw hx]) rfl⟩
     . cases h
   . cases h
 . cases h
theorem ptrs_rel (hR : Rl base w0 S0 O Z S s a w) : ∀ {l : List Operand} {ps : List (Nat × Nat)}, ptrsOf s l = some ps -> (∀ p ∈ ps, p.1 < s.n) /\ l.map a.eval = ps.map fun p => Value.pointer (some ⟨O p.1, p.2, none⟩)
 | [], ps, h => by simp [ptrsOf] at h; subst h; simp
 | c :: l, ps, h => by
   unfold ptrsOf at h
   split at h
   . rename_i b o e
     have hx := hR.val c; rw [e] at hx
     split at h
     . rename_i l' hl
       simp at h; subst h
       obtain ⟨h1, h2⟩ := ptrs_rel hR hl
       exact ⟨by simpa using ⟨hx.1, fun a b hm => h1 _ hm⟩, by simp [h2, hx.2]⟩
     . cases h
   . cases h
theorem fn_sound {fn : Fn} {first caps : Array Operand} (hR : Rl base w0 S0 O Z S s a w) (h : evFn fn first caps s K = some r) : Sound P base w0 S0 O Z S s a w K r ⟨dst, .makeFunc fn first caps, ty, pos, after, guard⟩ := by
 unfold evFn at h
 split at h
 . rename_i f hf
   split at h
   . rename_i l hl
     obtain ⟨h1, h2⟩ := ptrs_rel hR hl
     have hfirst : first = #[] := by apply Array.ext'; simpa using hf
     refine ⟨_, _, h, Does.pure hR (u := .func (.func f) #[] (l.map fun p => Value.pointer (some ⟨O p.1, p.2, none⟩)).toArray) ?_ ⟨h1, rfl⟩⟩
     have : caps.map a.eval = (l.map fun p => Value.pointer (some ⟨O p.1, p.2, none⟩)).toArray := by apply Array.ext'; rw [Array.toList_map, h2]
     subst hfirst
     simp [execOp, Instr.makeFunc, this]
   . cases h
 . cases h
theorem extract_sound {t : Operand} {ix : Nat} (hR : Rl base w0 S0 O Z S s a w) (h : evExtract t ix s K = some r) : Sound P base w0 S0 O Z S s a w K r ⟨dst, .extract t ix, ty, pos, after, guard⟩ := by
 unfold evExtract at h
 split at h
 . rename_i l e
   have hx := hR.val t; rw [e] at hx
   obtain ⟨us, hx, h2⟩ := hx
   split at h
   . rename_i cs hi
     obtain ⟨u, h3, h4⟩ := h2.get hi
     exact ⟨_, _, h, Does.pure hR (u := u) (by simp [execOp, hx, Instr.extract, h3]) h4⟩
   . rename_i c hi
     obtain ⟨u, h3, h4⟩ := h2.get hi
     exact ⟨_, _, h, Does.pure hR (u := u) (by simp [execOp, hx, Instr.extract, h3]) (ARel.of_one h4)⟩
   . cases h
 . cases h
theorem eqGuard_int (op : BinOp) (t : TypeId) (x y x' y' : Operand) (k k' : IntKind) (m n : Int) : eqGuard op t x y (.int k m) (.int k' n) = eqGuard op t x' y' (.int k m) (.int k' n) := rfl
theorem eqGuard_str (op : BinOp) (t : TypeId) (x y x' y' : Operand) (m n : ByteArray) : eqGuard op t x y (.string m) (.string n) = eqGuard op t x' y' (.string m) (.string n) := rfl
theorem eqGuard_run_int (op : BinOp) (t : TypeId) (x y : Operand) (k k' : IntKind) (m n : Int) (w : World) : (eqGuard op t x y (.int k m) (.int k' n)).run P w = .ok () w := by
 unfold eqGuard; split <;> rfl
theorem eqGuard_run_str (op : BinOp) (t : TypeId) (x y : Operand) (m n : ByteArray) (w : World) : (eqGuard op t x y (.string m) (.string n)).run P w = .ok () w := by
 unfold eqGuard; split <;> rfl
theorem eqGuard_run_bool (op : BinOp) (t : TypeId) (x y : Operand) (m n : Bool) (w : World) : (eqGuard op t x y (.bool m) (.bool n)).run P w = .ok () w := by
 unfold eqGuard; split <;> rfl
theorem part_rel {n : Nat} {t : TypeId} {o : Nat} {l : List CV} {vs : List Value} {v : AV} (h2 : All2 (CRel O Z S n) l vs) (hm : mkAV P t (l.drop o) = some v) (w : World) : ∃ u, (part t vs.toArray o).run P w = .ok u w /\ ARel O Z S n v u := by
 have hd := h2.drop o
 unfold mkAV at hm
 unfold part
 split at hm
 . rename_i hb
   split at hm
   . rename_i k hk
     split at hm
     . rename_i hle
       simp at hm; subst hm
       refine ⟨.agg ((vs.drop o).take k).toArray, ?_, _, rfl, hd.take k⟩
       simp [isAggB_run hb, szOf_run hk, List.extract_toArray, List.extract_eq_take_drop]
     . cases hm
   . cases hm
 . rename_i hb
   split at hm
   . rename_i c cs hcs
     simp at hm; subst hm
     rw [hcs] at hd
     obtain ⟨u, us', e', h3, h4⟩ := All2.cons_inv hd
     refine ⟨u, ?_, ARel.of_one h3⟩
     have hu : vs[o]? = some u := by
      have := congrArg (fun l => l[0]?) e'
      simpa using this
     simp [isAggB_run hb, hu]
   . cases hm
 . cases hm
theorem aeqFs_sound {n d : Nat} {e : TypeId -> AV -> AV -> Option Bool} (he : ∀ (t : TypeId) (x y : AV) (u v : Value) (b : Bool), e t x y = some b -> ARel O Z S n x u -> ARel O Z S n y v -> (Op.equalIn d t u v).run P w = .ok b w) {l m : List CV} {us vs : List Value} (hl : All2 (CRel O Z S n) l us) (hm : All2 (CRel O Z S n) m vs) :
 ∀ {fs : List Field} {b : Bool}, aeqFs P e l m fs = some b -> (Op.eqFields d us.toArray vs.toArray fs).run P w = .ok b w
 | [], b, h => by simp [aeqFs] at h; subst h; simp [Op.eqFields]
 | f :: fs, b, h => by
   unfold aeqFs at h
   split at h
   . rename_i hn
     have hn' : ¬ (f.name ≠ "_") := by simpa using hn
     rw [Op.eqFields, if_neg hn']
     exact aeqFs_sound he hl hm h
   . rename_i hn
     have hn' : f.name ≠ "_" := by simpa using hn
     split at h
     . rename_i p q hp hq
       split at h
       . rename_i b1 hb1
         split at h
         . rename_i c hc
           simp at h; subst h
           obtain ⟨u1, g1, g2⟩ := part_rel hl hp w
           obtain ⟨u2, g3, g4⟩ := part_rel hm hq w
           have g5 := he _ _ _ _ _ _ hb1 g2 g4
           rw [Op.eqFields]
           simp only [if_pos hn', Sem.run_bind, g1, g3, g5, Result.andThen_ok]
           cases b1
           . simp
           . simpa using aeqFs_sound he hl hm hc
         . cases h
       . cases h
     . cases h
theorem aeq_run {n : Nat} : ∀ (d D : Nat) (t : TypeId) (x y : AV) (u v : Value) (b : Bool), d <= D -> aeq P d t x y = some b -> ARel O Z S n x u -> ARel O Z S n y v -> (Op.equalIn D t u v).run P w = .ok b w
 | 0, _, _, _, _, _, _, _, _, h, _, _ => by simp [aeq] at h
 | d + 1, D, t, x, y, u, v, b, hD, h, hx, hy => by
   obtain ⟨D, rfl⟩ : ∃ k, D = k + 1 := ⟨D - 1, by omega⟩
   unfold aeq at h
   split at h
   . rename_i fs hfs
     split at h
     . cases h
     . rename_i hp
       split at h
       . rename_i l m
         obtain ⟨us, rfl, hu⟩ := hx
         obtain ⟨vs, rfl, hv⟩ := hy
         have hf : P.fieldsOf t = fs := by simp [Program.fieldsOf, hfs]
         rw [run_equalIn_struct (P := P) w D t us.toArray vs.toArray (by rw [hf]; exact hfs) hp, hf]
         exact aeqFs_sound (fun t x y u v b h h1 h2 => aeq_run d D t x y u v b (by omega) h h1 h2) hu hv h
       . cases h
   . rename_i k hk
     split at h
     . rename_i k1 m k2 n
       split at h
       . rename_i e
         obtain rfl := ty_int e
         simp at h; subst h
         obtain rfl : u = _ := hx
         obtain rfl : v = _ := hy
         unfold Op.equalIn
         simp [run_underlying hk]
       . cases h
     . cases h
   . rename_i hk
     split at h
     . rename_i m n
       simp at h; subst h
       obtain rfl : u = _ := hx
       obtain rfl : v = _ := hy
       unfold Op.equalIn
       simp only [Sem.run_bind, run_underlying hk, Result.andThen_ok]
       show Result.ok (m == n) w = _
       rw [beq_toListBytes]
     . cases h
   . rename_i hk
     split at h
     . rename_i m n
       simp at h; subst h
       obtain rfl : u = _ := hx
       obtain rfl : v = _ := hy
       unfold Op.equalIn
       simp [run_underlying hk]
     . cases h
   . cases h
theorem aeq_sound {t : TypeId} {xs ys : List Value} {l m : List CV} {b : Bool} {n : Nat} (hg : P.eqGuardType P.depth t = false) (h : aeq P 20 t (.agg l) (.agg m) = some b) (hx : All2 (CRel O Z S n) l xs) (hy : All2 (CRel O Z S n) m ys) (w : World) :
 (Op.equal t (.agg xs.toArray) (.agg ys.toArray)).run P w = .ok b w /\ ∀ op x y, (eqGuard op t x y (.agg xs.toArray) (.agg ys.toArray)).run P w = .ok () w := by
 refine ⟨aeq_run 20 Op.maxDepth t _ _ _ _ b (by decide) h ⟨xs, rfl, hx⟩ ⟨ys, rfl, hy⟩, fun op x y => ?_⟩
 cases op <;> simp [eqGuard, hg]
theorem evBool_some {op : BinOp} {b : Bool} (h : evBool op b s K = some r) : ∃ c, K (.one (.val (.bool c))) s = some r /\ ((op = .eql /\ c = b) \/ (op = .neq /\ c = !b)) := by
 unfold evBool at h
 split at h
 . exact ⟨_, h, .inl ⟨rfl, rfl⟩⟩
 . exact ⟨_, h, .inr ⟨rfl, rfl⟩⟩
 . cases h
theorem bin_sound {op : BinOp} {t yt : TypeId} {x y : Operand} (hR : Rl base w0 S0 O Z S s a w) (h : evBin P op t x y s K = some r) : Sound P base w0 S0 O Z S s a w K r ⟨dst, .binOp op t x y yt, ty, pos, after, guard⟩ := by
 unfold evBin at h
 split at h
 . rename_i m n e1 e2
   have h1 := hR.valEq e1
   have h2 := hR.valEq e2
   unfold evText at h
   split at h
   . rcases cond_some h with ⟨hb, h⟩ | ⟨_, h⟩
     . have hb := of_decide_eq_true hb
       refine ⟨_, _, h, Does.pure hR (u := .string (m ++ n)) (run_v _ _ _ ?_) rfl⟩
       rw [h1, h2, Sem.run_bind, eqGuard_run_str]
       simp only [Result.andThen_ok, binOp, Op.stringOp]
       rw [if_neg (by have : IntKind.i64.max = 9223372036854775807 := rfl; omega)]
       rfl
     . cases h
   . obtain ⟨u, h3, h4⟩ := evVal_some h
     refine ⟨_, _, h4, Does.pure hR (u := u) (run_v _ _ _ ?_) rfl⟩
     rw [h1, h2, eqGuard_str op t x y (.const undef) (.const undef)]
     exact runPure_run h3 w
 . rename_i k m k' n e1 e2
   have h1 := hR.valEq e1
   have h2 := hR.valEq e2
   unfold evInt at h
   split at h
   . split at h
     . rename_i hk
       obtain rfl := ty_int hk
       rcases cond_some h with ⟨_, h⟩ | ⟨hb, h⟩
       . cases h
       . have hb : n ≠ 0 := by simpa using hb
         refine ⟨_, _, h, Does.pure hR (u := .int k (k.wrap (m.tdiv n))) (run_v _ _ _ ?_) rfl⟩
         rw [h1, h2, Sem.run_bind, eqGuard_run_int]
         simp [binOp, Op.intDiv, hb]
     . cases h
   . split at h
     . rename_i hk
       obtain rfl := ty_int hk
       rcases cond_some h with ⟨_, h⟩ | ⟨hb, h⟩
       . cases h
       . have hb : n ≠ 0 := by simpa using hb
         refine ⟨_, _, h, Does.pure hR (u := .int k (m.tmod n)) (run_v _ _ _ ?_) rfl⟩
         rw [h1, h2, Sem.run_bind, eqGuard_run_int]
         simp [binOp, Op.intDiv, hb]
     . cases h
   . obtain ⟨u, h3, h4⟩ := evVal_some h
     refine ⟨_, _, h4, Does.pure hR (u := u) (run_v _ _ _ ?_) rfl⟩
     rw [h1, h2, eqGuard_int op t x y (.const undef) (.const undef)]
     exact runPure_run h3 w
 . rename_i m n e1 e2
   have h1 := hR.valEq e1
   have h2 := hR.valEq e2
   split at h
   . rename_i ht
     obtain ⟨c, h3, h4⟩ := evBool_some h
     refine ⟨_, _, h3, Does.pure hR (u := .bool c) (run_v _ _ _ ?_) rfl⟩
     have he : (Op.equal t (.bool m) (.bool n)).run P w = .ok (m == n) w := by
      unfold Op.equal Op.maxDepth Op.equalIn
      simp [run_underlying ht]
     rw [h1, h2, Sem.run_bind, eqGuard_run_bool]
     rcases h4 with ⟨rfl, rfl⟩ | ⟨rfl, rfl⟩ <;> simp [binOp, he]
   . cases h
 . rename_i l m e1 e2
   have h1 := hR.val x; rw [e1] at h1
   have h2 := hR.val y; rw [e2] at h2
   obtain ⟨us, h1, hu⟩ := h1
   obtain ⟨vs, h2, hv⟩ := h2
   split at h
   . cases h
   . rename_i hg
     split at h
     . rename_i b he
       obtain ⟨c, h3, h4⟩ := evBool_some h
       obtain ⟨h5, h6⟩ := aeq_sound hg he hu hv w
       refine ⟨_, _, h3, Does.pure hR (u := .bool c) (run_v _ _ _ ?_) rfl⟩
       rw [h1, h2, Sem.run_bind, h6]
       rcases h4 with ⟨rfl, rfl⟩ | ⟨rfl, rfl⟩ <;> simp [binOp, h5]
     . cases h
 . cases h
theorem field_sound {t : TypeId} {x : Operand} {f : Nat} (hR : Rl base w0 S0 O Z S s a w) (h : evField P t x f s K = some r) : Sound P base w0 S0 O Z S s a w K r ⟨dst, .field t x f, ty, pos, after, guard⟩ := by
 unfold evField at h
 split at h
 . rename_i fs l hfs e
   have hx := hR.val x; rw [e] at hx
   obtain ⟨vs, hx, h2⟩ := hx
   split at h
   . rename_i fd hfd
     split at h
     . rename_i v hm
       have key : ∃ u, (part fd.type vs.toArray fd.offset).run P w = .ok u w /\ ARel O Z S s.n v u := by
        have hd := h2.drop fd.offset
        unfold mkAV at hm
        unfold part
        split at hm
        . rename_i hb
          split at hm
          . rename_i k hk
            split at hm
            . rename_i hle
              simp at hm; subst hm
              refine ⟨.agg ((vs.drop fd.offset).take k).toArray, ?_, _, rfl, hd.take k⟩
              simp [isAggB_run hb, szOf_run hk, List.extract_toArray, List.extract_eq_take_drop]
            . cases hm
          . cases hm
        . rename_i hb
          split at hm
          . rename_i c cs hcs
            simp at hm; subst hm
            rw [hcs] at hd
            obtain ⟨u, us', e', h3, h4⟩ := All2.cons_inv hd
            refine ⟨u, ?_, ARel.of_one h3⟩
            have hu : vs[fd.offset]? = some u := by
             have := congrArg (fun l => l[0]?) e'
             simpa using this
            simp [isAggB_run hb, hu]
          . cases hm
        . cases hm
       obtain ⟨u, h3, h4⟩ := key
       refine ⟨_, _, h, Does.pure hR (u := u) (run_v _ _ _ ?_) h4⟩
       simp [Instr.field, run_underlying hfs, hfd, hx, asAgg, h3]
     . cases h
   . cases h
 . cases h
theorem fieldAddr_sound {t : TypeId} {x : Operand} {f : Nat} (hR : Rl base w0 S0 O Z S s a w) (h : evFieldAddr P t x f s K = some r) : Sound P base w0 S0 O Z S s a w K r ⟨dst, .fieldAddr t x f, ty, pos, after, guard⟩ := by
 unfold evFieldAddr at h
 split at h
 . rename_i fs hfs
   split at h
   . rename_i fd hfd
     split at h
     . rename_i n hn
       have key : ∀ ad, a.eval x = .pointer (some ad) -> (Instr.fieldAt t (a.eval x) f).run P w = .ok (.pointer (some (ad.add fd.offset))) w := by
        intro ad e
        simp [Instr.fieldAt, run_underlying hfs, hfd, e, Instr.sureAddr, fieldPlace, szOf_run hn]
       split at h
       . rename_i b off e
         have hx := hR.val x; rw [e] at hx
         refine ⟨_, _, h, Does.pure hR (run_v _ _ _ (key _ hx.2)) ⟨hx.1, by rw [add_at]⟩⟩
       . rename_i tt z off e
         have hx := hR.val x; rw [e] at hx
         obtain ⟨ad, vs, hx, h1, h2⟩ := hx
         refine ⟨_, _, h, Does.pure hR (run_v _ _ _ (key _ hx)) ⟨_, vs, rfl, h1, fun j v hj => ?_⟩⟩
         rw [Go.Deep.add_add]
         refine h2 _ _ ?_
         rw [List.getElem?_drop] at hj ⊢
         rw [<- hj]; congr 1; omega
       . rename_i b wd i off e
         have hx := hR.val x; rw [e] at hx
         obtain ⟨hb, g, len, cap, hZ, hx⟩ := hx
         exact ⟨_, _, h, Does.pure hR (run_v _ _ _ (key _ hx)) ⟨hb, g, len, cap, hZ, by rw [add_at, Nat.add_assoc]⟩⟩
       . cases h
     . cases h
   . cases h
 . cases h
theorem evCase_some {i : Int} {pick : Nat -> Option AV} : ∀ {m j : Nat}, evCase i pick s K m j = some r -> ∃ q v, j <= q /\ q < j + m /\ i = (q : Int) /\ pick q = some v /\ K v s = some r := by
 intro m
 induction m with
 | zero => intro j h; cases h
 | succ m ih =>
   intro j h
   unfold evCase at h
   split at h
   . rename_i v hv
     rcases cond_some h with ⟨b, h⟩ | ⟨_, h⟩
     . exact ⟨j, v, Nat.le_refl _, by omega, by simpa using b, hv, h⟩
     . obtain ⟨q, v, h1, h2, h3, h4, h5⟩ := ih h
       exact ⟨q, v, by omega, by omega, h3, h4, h5⟩
   . cases h
theorem indexAddr_sound {t : TypeId} {x i : Operand} (hR : Rl base w0 S0 O Z S s a w) (h : evIndexAddr P t x i s K = some r) : Sound P base w0 S0 O Z S s a w K r ⟨dst, .indexAddr t x i, ty, pos, after, guard⟩ := by
 unfold evIndexAddr at h
 split at h
 . rename_i e ht
   split at h
   . rename_i n hn
     split at h
     . rename_i tt l k j e1 e2
       have hx := hR.valR x; rw [e1] at hx
       have hj := hR.valEq e2
       split at h
       . rename_i hw
         have hw := Nat.eq_of_beq_eq_true hw
         rcases cond_some h with ⟨b1, h⟩ | ⟨_, h⟩
         . rcases cond_some h with ⟨b2, h⟩ | ⟨_, h⟩
           . have b1 := of_decide_eq_true b1
             have b2 := of_decide_eq_true b2
             obtain ⟨A, c, hx, hc, hel⟩ := hx
             simp at hx
             have hlt : j.toNat < l.length := by omega
             obtain ⟨ad, us, rfl, h1, h2⟩ := hel j.toNat l[j.toNat] (by simp [hlt])
             have hg : l.getD j.toNat tt.zero = l[j.toNat] := by simp [List.getD_eq_getElem?_getD, hlt]
             refine ⟨_, _, h, Does.pure hR (u := .pointer (some (ad.add (j.toNat * n)))) (run_v _ _ _ ?_) ⟨_, us, rfl, by rw [hg]; exact h1, fun q v hq => ?_⟩⟩
             . have b2' : j < ((lst l).length : Int) := b2
               simp [Instr.indexAt, hj, hx, asIntOf, run_underlying ht, b1, b2', szOf_run hn]
             . rw [Go.Deep.add_add, hw]
               exact h2 q v (by simpa using hq)
           . cases h
         . cases h
       . cases h
     . rename_i b k j e1 e2
       have hx := hR.valR x; rw [e1] at hx
       obtain ⟨hb, hx, hone⟩ := hx
       have hj := hR.valEq e2
       split at h
       . rename_i e' tt l hk
         have hk := mrowOf_some hk
         split at h
         . rename_i hw
           have hw := Nat.eq_of_beq_eq_true hw
           rcases cond_some h with ⟨b1, h⟩ | ⟨_, h⟩
           . rcases cond_some h with ⟨b2, h⟩ | ⟨_, h⟩
             . have b1 := of_decide_eq_true b1
               have b2 := of_decide_eq_true b2
               rcases (hR.st b _ hk).2.2 with ⟨_, q⟩ | ⟨g, cap, cur, xs, q1, _⟩
               . subst q; simp at b2; omega
               refine ⟨_, _, h, Does.pure hR (u := .pointer (some ⟨g, j.toNat * n + 0, none⟩)) (run_v _ _ _ ?_) ⟨hb, g, _, cap, q1, rfl⟩⟩
               have hx' : a.eval x = .slice (some ⟨g, 0, none⟩) l.length cap := hx.trans q1
               have b2' : j < ((lst l).length : Int) := b2
               simp [Instr.indexAt, hj, hx', asIntOf, run_underlying ht, b1, b2', szOf_run hn, add_at]
             . cases h
           . cases h
         . cases h
       . cases h
     . rename_i b z lo hi k j e1 e2
       have hx := hR.valR x; rw [e1] at hx
       obtain ⟨hb, hlh, ⟨A, len, cap, hZ, hhl, hlc⟩, hx⟩ := hx
       have hj := hR.valEq e2
       split at h
       . rename_i e' tt l hk
         have hk := mrowOf_some hk
         split at h
         . rename_i hw
           simp only [Bool.and_eq_true] at hw
           obtain rfl := Nat.eq_of_beq_eq_true hw.2
           rcases cond_some h with ⟨b1, h⟩ | ⟨_, h⟩
           . rcases cond_some h with ⟨b2, h⟩ | ⟨_, h⟩
             . have b1 := of_decide_eq_true b1
               have b2 := of_decide_eq_true b2
               obtain ⟨g, rfl⟩ : ∃ g, A = some ⟨g, 0, none⟩ := by
                rcases (hR.st b _ hk).2.2 with ⟨q, _⟩ | ⟨g, cap', cur, xs, q1, _⟩
                . rw [hZ] at q; injection q with _ q2 _; omega
                . rw [hZ] at q1; injection q1 with q1 _ _; exact ⟨g, q1⟩
               refine ⟨_, _, h, Does.pure hR (u := .pointer (some ⟨g, (lo + j.toNat) * z + 0, none⟩)) (run_v _ _ _ ?_) ⟨hb, g, _, _, hZ, rfl⟩⟩
               have hx' : a.eval x = .slice (some ⟨g, lo * z, none⟩) (hi - lo) (cap - lo) := by
                rw [hx, hZ]; simp only [cutV]; rw [if_neg (by omega)]; simp [add_at]
               simp [Instr.indexAt, hj, hx', asIntOf, run_underlying ht, b1, b2, szOf_run hn, add_at, Nat.add_mul]
             . cases h
           . cases h
         . cases h
       . cases h
     . rename_i b m c k j e1 e2
       have hx := hR.valR x; rw [e1] at hx
       obtain ⟨hb, hmc, hx⟩ := hx
       have hj := hR.valEq e2
       rcases cond_some h with ⟨b1, h⟩ | ⟨_, h⟩
       . rcases cond_some h with ⟨b2, h⟩ | ⟨_, h⟩
         . have b1 := of_decide_eq_true b1
           have b2 := of_decide_eq_true b2
           obtain ⟨q, v, h1, h2, rfl, h4, h5⟩ := evCase_some h
           obtain rfl := Option.some.inj h4
           refine ⟨_, _, h5, Does.pure hR (u := .pointer (some ⟨O b, q * n, none⟩)) (run_v _ _ _ ?_) ⟨hb, rfl⟩⟩
           simp [Instr.indexAt, hj, hx, asIntOf, run_underlying ht, b1, b2, szOf_run hn, add_at]
           intro h; omega
         . cases h
       . cases h
     . cases h
   . cases h
 . rename_i len e ht
   split at h
   . rename_i n hn hle
     split at h
     . rename_i b off k j e1 e2
       have hx := hR.val x; rw [e1] at hx
       have hj := hR.valEq e2
       obtain ⟨q, v, h1, h2, rfl, h4, h5⟩ := evCase_some h
       obtain rfl := Option.some.inj h4
       refine ⟨_, _, h5, Does.pure hR (u := .pointer (some ⟨O b, off + q * n, none⟩)) (run_v _ _ _ ?_) ⟨hx.1, rfl⟩⟩
       have h3 : (q : Int) < (len : Int) := by omega
       have h0 : (0 : Int) <= (q : Int) := by omega
       simp [Instr.indexAt, hj, hx.2, asIntOf, run_underlying ht, h3, h0, szOf_run hn, Instr.sureAddr, add_at]
       intro h; omega
     . cases h
   . cases h
 . cases h
theorem index_sound {t : TypeId} {x i : Operand} (hR : Rl base w0 S0 O Z S s a w) (h : evIndex P t x i s K = some r) : Sound P base w0 S0 O Z S s a w K r ⟨dst, .index t x i, ty, pos, after, guard⟩ := by
 unfold evIndex at h
 split at h
 . rename_i ht
   split at h
   . rename_i v k j e1 e2
     have hx := hR.valEq e1
     have hj := hR.valEq e2
     rcases cond_some h with ⟨b1, h⟩ | ⟨_, h⟩
     . rcases cond_some h with ⟨b2, h⟩ | ⟨_, h⟩
       . have b1 := of_decide_eq_true b1
         have b2 := of_decide_eq_true b2
         obtain ⟨b, h1, h2⟩ := byte_at b1 b2
         refine ⟨_, _, h, Does.pure hR (u := .int .u8 (byteAt v j)) (run_v _ _ _ ?_) rfl⟩
         rw [h2]
         simp [Instr.index, hj, hx, asIntOf, run_underlying ht, h1]
       . cases h
     . cases h
   . cases h
 . rename_i len e ht
   split at h
   . rename_i n hn hle
     split at h
     . rename_i l k j e1 e2
       have hx := hR.val x; rw [e1] at hx
       obtain ⟨vs, hx, hl⟩ := hx
       have hj := hR.valEq e2
       obtain ⟨q, v, h1, h2, rfl, h4, h5⟩ := evCase_some h
       obtain ⟨u, hu, hv⟩ := part_rel hl h4 w
       refine ⟨_, _, h5, Does.pure hR (run_v _ _ _ ?_) hv⟩
       have h3 : (q : Int) < (len : Int) := by omega
       have h0 : (0 : Int) <= (q : Int) := by omega
       simp [Instr.index, hj, hx, asIntOf, run_underlying ht, h3, h0, szOf_run hn, hu]
       intro h; omega
     . cases h
   . cases h
 . cases h
theorem shareIf_eq {α β : Type} (b : Bool) (x : α) (f : α -> Option β) : shareIf b x f = f x := by cases b <;> rfl
theorem slice_sound {t : TypeId} {x : Operand} {lo hi mx : Option Operand} (hR : Rl base w0 S0 O Z S s a w) (h : evSlice P t x lo hi mx s K = some r) : Sound P base w0 S0 O Z S s a w K r ⟨dst, .slice t x lo hi mx, ty, pos, after, guard⟩ := by
 unfold evSlice at h
 split at h
 . cases h
 . split at h
   . rename_i v ht e
     obtain ⟨i, m, h, rfl, h1, h2⟩ := cutHigh_some h
     obtain ⟨l, h, h3, h4⟩ := cutLow_some h
     refine ⟨_, _, h, Does.pure hR (u := .string (v.extract l m)) (run_v _ _ _ ?_) rfl⟩
     have hx := hR.valR x; rw [e] at hx
     have hx : a.eval x = .string v := hx
     rw [hx]
     exact sliceAt_str ht (fun b => bounds_run hR h1 h3 h2 h4)
   . rename_i e tt l ht e1
     have hx := hR.valR x; rw [e1] at hx
     obtain ⟨A, c, hx, hc, hel⟩ := hx
     simp at hx
     split at h
     . rename_i n hn
       split at h
       . rename_i hw
         have hw := Nat.eq_of_beq_eq_true hw
         obtain ⟨i, m, h, rfl, h1, h2⟩ := cutHigh_some h
         obtain ⟨q, h, h3, h4⟩ := cutLow_some h
         rw [shareIf_eq] at h
         have h1' : m <= (lst l).length := h1
         obtain ⟨sz, hsz, hrun⟩ := sliceAt_sl (A := A) (w := w) ht (fun b => bounds_run (isSlice := b) (len := (lst l).length) (cap := c) hR (Nat.le_trans h1 hc) h3 h2 h4) (by obtain ⟨i, hi, _⟩ := szOf_info hn; exact ⟨i, hi⟩)
         rw [hn] at hsz
         obtain rfl := Option.some.inj hsz
         have hlen : ((l.take m).drop q).length = m - q := by simp; omega
         refine ⟨_, _, h, Does.pure hR (run_v _ _ _ (by rw [hx]; exact hrun)) ?_⟩
         refine ⟨if c = q then A else A.map (·.add (q * n)), c - q, by simp only [lst, hlen], by simp only [lst, hlen]; omega, fun j y hj => ?_⟩
         have hjlt : j < m - q := by have := (List.getElem?_eq_some_iff.1 hj).1; simp only [lst] at this; omega
         have hy : (lst l)[q + j]? = some y := by
          simp only [lst] at hj ⊢
          rw [List.getElem?_drop, List.getElem?_take] at hj
          split at hj
          . exact hj
          . cases hj
         obtain ⟨ad, us, rfl, g1, g2⟩ := hel _ _ hy
         rw [if_neg (by omega)]
         refine ⟨ad.add (q * n), us, rfl, g1, fun z u hz => ?_⟩
         rw [Go.Deep.add_add]
         have := g2 z u hz
         rw [hw]
         rw [show q * tt.width + (j * tt.width + z) = (q + j) * tt.width + z by rw [Nat.add_mul]; omega]
         exact this
       . cases h
     . cases h
   . rename_i e b n c ht e1
     have hx := hR.valR x; rw [e1] at hx
     obtain ⟨hb, hnc, hx⟩ := hx
     split at h
     . rename_i sz0 hn
       obtain ⟨i, m, hq, rfl, h1, h2⟩ := cutHigh_some (K := fun _ hn => K (.one (.vw b hn c)) s) h
       obtain ⟨sz, hsz, hrun⟩ := sliceAt_sl (A := some ⟨O b, 0, none⟩) (w := w) (lo := none) (hi := hi.map a.eval) ht (fun bb => bounds_run (lo := none) (isSlice := bb) (len := n) (cap := c) (l := 0) hR (Nat.le_trans h1 hnc) (Nat.zero_le _) h2 (.inl ⟨rfl, rfl⟩)) (by obtain ⟨i, hi, _⟩ := szOf_info hn; exact ⟨i, hi⟩)
       refine ⟨_, _, hq, Does.pure hR (u := .slice (some ⟨O b, 0, none⟩) m c) (run_v _ _ _ ?_) ⟨hb, Nat.le_trans h1 hnc, rfl⟩⟩
       have hrun' : (Instr.sliceAt t (a.eval x) none (hi.map a.eval) none).run P w = .ok (.slice (if c = 0 then some ⟨O b, 0, none⟩ else (some ⟨O b, 0, none⟩ : Option Addr).map (·.add (0 * sz))) (m - 0) (c - 0)) w := by rw [hx]; exact hrun
       refine hrun'.trans ?_
       simp [add_at]
     . cases h
   . rename_i e ht e1
     have hx := hR.valR x; rw [e1] at hx
     have hx : a.eval x = .slice none 0 0 := hx
     split at h
     . rename_i n hn
       obtain ⟨i, m, hq, rfl, h1, h2⟩ := cutHigh_some (K := fun h _ => cutLow (lo.map (aval s)) h fun _ => K (.one (.val (.slice none 0 0))) s) h
       obtain ⟨q, hr, h3, h4⟩ := cutLow_some (K := fun _ => K (.one (.val (.slice none 0 0))) s) hq
       obtain rfl : m = 0 := by omega
       obtain rfl : q = 0 := by omega
       obtain ⟨sz, hsz, hrun⟩ := sliceAt_sl (A := none) (w := w) ht (fun b => bounds_run (isSlice := b) (len := 0) (cap := 0) hR (Nat.le_refl _) h3 h2 h4) (by obtain ⟨i, hi, _⟩ := szOf_info hn; exact ⟨i, hi⟩)
       exact ⟨_, _, hr, Does.pure hR (u := .slice none 0 0) (run_v _ _ _ (by rw [hx]; exact hrun)) rfl⟩
     . cases h
   . cases h
end
end
section
open Go Go.RowKit Go.MapKept
section
variable {P : Program} {base : Nat} {w0 : World} {S0 : Mem} {O : Nat -> Nat} {Z : Nat -> Value} {S : Mem} {s : St} {a : Act} {w : World}
variable {α : Type} {K : AV -> St -> Option α} {r : α} {dst : Option Tmp} {ty : TypeId} {pos : String} {after : Array Edge} {guard : Option (Nat × Bool)}
theorem mapKey_some {t vt : TypeId} (h : mapKey P t = some vt) : ∃ kt, P.underlying t = some (.map kt vt) /\ P.underlying kt = some (.int .i64) := by
 unfold mapKey at h
 split at h
 . rename_i kt vt' hu
   split at h
   . rename_i hk
     injection h with h; subst h
     exact ⟨kt, hu, hk⟩
   . cases h
 . cases h
theorem isKey_int (n : Int) : IsKey (.int .i64) (.int .i64 n) := by simp [IsKey]
theorem Rl.newMap (h : Rl base w0 S0 O Z S s a w) :
 ∃ O', Rl base w0 S0 O' Z S { s with st := (s.n, .fmap []) :: s.st, n := s.n + 1 } a (w.alloc (.map #[] 0)) /\ O' s.n = w.heap.size /\ Evo O Z S s.n O' Z S (s.n + 1) := by
 have ev : Evo O Z S s.n (fun b => if b = s.n then w.heap.size else O b) Z S (s.n + 1) := ⟨Nat.le_succ _, fun b hb => if_neg (by omega), fun _ _ => rfl, Mem.le_refl _⟩
 refine ⟨fun b => if b = s.n then w.heap.size else O b, ?_, by simp, ev⟩
 have hnew : (w.alloc (.map #[] 0)).heap[w.heap.size]? = some (.map #[] 0) := by
  show (w.heap.push _)[w.heap.size]? = _; simp
 refine h.upd ev rfl rfl (fun p v e e0 => by rw [e] at e0; cases e0) (fun p v hp => ?_) ((Below.refl base w).alloc h.bsz _) (fun b k' e => ?_) (fun b k1 b2 k2 g e1 e2 n1 n2 f1 f2 => ?_)
 . have h1 := h.sw p v hp
   have hlt := World.block_lt_of_cell? w _ h1
   rw [World.cell?_of_block (w := w) (Below.heap_alloc w _ _ hlt)]; exact h1
 . by_cases hb : s.n = b
   . subst hb
     rw [look_cons_eq] at e
     obtain rfl := Option.some.inj e
     refine .inr ⟨Nat.lt_succ_self _, ?_, fun g f b2 k2 e2 e3 hne f2 => ?_⟩
     . simp only [BRel, if_true]
       exact ⟨h.bsz, #[], 0, hnew, trivial, fresh_mem h⟩
     . simp [Blk.at] at f
       have := ((h.st b2 k2 e3).2.lt f2).1
       omega
   . rw [look_cons_ne _ _ hb] at e
     refine .inl ⟨e, fun g f => ⟨Below.heap_alloc w _ _ ((h.st b k' e).2.lt f).1, fun _ _ => rfl⟩⟩
 . have hb : ∀ b k, look ((s.n, Blk.fmap []) :: s.st) b = some k -> look s.st b ≠ some k -> s.n = b := by
    intro b k e n
    by_cases hb : s.n = b
    . exact hb
    . rw [look_cons_ne _ _ hb] at e; exact absurd e n
   rw [<- hb b k1 e1 n1, <- hb b2 k2 e2 n2]
theorem Rl.setMap {b : Nat} {l l' : List (Int × FuncId)} {es : Array MapEntry} {ck : Nat} {es' : Array MapEntry} {ck' : Nat} (hR : Rl base w0 S0 O Z S s a w) (hk : look s.st b = some (.fmap l)) (hw : w.heap[O b]? = some (.map es ck)) (he : FEnts l' es'.toList) :
 Rl base w0 S0 O Z S { s with st := (b, .fmap l') :: s.st } a { w with heap := w.heap.setIfInBounds (O b) (.map es' ck') } := by
 obtain ⟨h1, h2, _, _, _, _, h5⟩ := hR.st b _ hk
 have hlt := (Array.getElem?_eq_some_iff.1 hw).1
 have hrow : (w.heap.setIfInBounds (O b) (.map es' ck'))[O b]? = some (.map es' ck') := by simp [hlt]
 have hoth : ∀ k, k ≠ O b -> (w.heap.setIfInBounds (O b) (.map es' ck'))[k]? = w.heap[k]? := by
  intro k hk
  rw [Array.getElem?_setIfInBounds_ne (fun e => hk e.symm)]
 have hsz : (w.heap.setIfInBounds (O b) (Obj.map es' ck')).size = w.heap.size := by simp
 refine hR.upd (Evo.refl _ _ _ _) rfl rfl (fun p v e e0 => by rw [e] at e0; cases e0) (fun p v hp => ?_) ⟨rfl, rfl, rfl, by show w.heap.size <= (w.heap.setIfInBounds (O b) (Obj.map es' ck')).size; rw [hsz]; exact Nat.le_refl _, fun k hk => hoth k (by omega)⟩ (fun b' k' e' => ?_) (fun b1 k1 b2 k2 g e1 e2 n1 n2 f1 f2 => ?_)
 . have hne : p.block ≠ O b := by
    intro e
    obtain ⟨pb, po, ps⟩ := p
    simp only at e
    subst e
    rw [h5 po ps] at hp; cases hp
   rw [World.cell?_of_block (w := w) (hoth _ hne)]
   exact hR.sw p v hp
 . by_cases hb : b = b'
   . subst hb
     have e' : look ((b, Blk.fmap l') :: s.st) b = some k' := e'
     rw [look_cons_eq] at e'
     obtain rfl := Option.some.inj e'
     exact .inr ⟨h1, ⟨h2, es', ck', hrow, he, h5⟩, fun g f b2 k2 e2 e3 hne f2 => hne (hR.apart b2 b _ _ g e3 hk f2 f)⟩
   . have e' : look ((b, Blk.fmap l') :: s.st) b' = some k' := e'
     rw [look_cons_ne _ _ hb] at e'
     refine .inl ⟨e', fun g f => ⟨hoth g fun q => hb (hR.apart b b' _ _ (O b) hk e' rfl (q ▸ f)), fun _ _ => rfl⟩⟩
 . have hb : ∀ b1 k, look ((b, Blk.fmap l') :: s.st) b1 = some k -> look s.st b1 ≠ some k -> b = b1 := by
    intro b1 k e n
    by_cases hb : b = b1
    . exact hb
    . rw [look_cons_ne _ _ hb] at e; exact absurd e n
   rw [<- hb b1 k1 e1 n1, <- hb b2 k2 e2 n2]
theorem makeMap_sound {t : TypeId} {rv : Option Operand} (hR : Rl base w0 S0 O Z S s a w) (h : evMakeMap P t rv s K = some r) : Sound P base w0 S0 O Z S s a w K r ⟨dst, .makeMap t rv, ty, pos, after, guard⟩ := by
 unfold evMakeMap at h
 split at h
 . rename_i vt hm
   obtain ⟨O', h1, h2, h3⟩ := hR.newMap
   exact ⟨_, _, h, O', Z, S, .map (some w.heap.size), _, .inl rfl, h1, ⟨Nat.lt_succ_self _, by rw [h2]⟩, h3, rfl, ⟨[_], rfl⟩, rfl⟩
 . cases h
theorem mapOf_some {x : Operand} {b : Nat} {l : List (Int × FuncId)} (hR : Rl base w0 S0 O Z S s a w) (h : mapOf s x = some (b, l)) : a.eval x = .map (some (O b)) /\ b < s.n /\ look s.st b = some (.fmap l) := by
 unfold mapOf at h
 split at h
 . rename_i b' e
   have hx := hR.val x; rw [e] at hx
   obtain ⟨hb, hx⟩ := hx
   split at h
   . rename_i l' hk
     injection h with h; injection h with q1 q2
     subst q1; subst q2
     exact ⟨hx, hb, hk⟩
   . cases h
 . cases h
theorem findNow_none {n : Int} : ∀ {l : List (Int × FuncId)} {es : List MapEntry} (i : Nat), FEnts l es -> l.all (fun p => !(n == p.1)) = true -> Instr.findNow (.int .i64) (.int .i64 n) es i = some none
 | [], [], _, _, _ => rfl
 | [], _ :: _, _, h, _ => h.elim
 | _ :: _, [], _, h, _ => h.elim
 | p :: l, e :: es, i, h, hn => by
   obtain ⟨⟨h1, _⟩, h2⟩ := h
   simp only [List.all_cons, Bool.and_eq_true] at hn
   have hne : (n == p.1) = false := by simpa using hn.1
   have hs : Instr.sameNow (.int .i64) (.int .i64 n) e.key = some false := by rw [h1]; simp [Instr.sameNow, hne]
   simp only [Instr.findNow, hs]
   exact findNow_none (i + 1) h2 hn.2
theorem insert_sound {t : TypeId} {m k v : Operand} (hR : Rl base w0 S0 O Z S s a w) (h : evInsert P t m k v s K = some r) : Sound P base w0 S0 O Z S s a w K r ⟨dst, .insert t m k v, ty, pos, after, guard⟩ := by
 unfold evInsert at h
 split at h
 . rename_i vt b l n f hm ho hk hv
   obtain ⟨kt, ht, hkt⟩ := mapKey_some hm
   obtain ⟨hx, hb, hl⟩ := mapOf_some hR ho
   have hk' := hR.val k; rw [hk] at hk'
   have hk' : a.eval k = .int .i64 n := hk'
   have hv' := hR.val v; rw [hv] at hv'
   obtain ⟨_, hv'⟩ := hv'
   have hv' : a.eval v = .func (.func f) #[] #[] := hv'
   split at h
   . rename_i hall
     obtain ⟨_, h2, es, ck, h3, h4, h5⟩ := hR.st b _ hl
     have he : FEnts (l ++ [(n, f)]) (es.push { key := .int .i64 n, val := .func (.func f) #[] #[], born := ck }).toList := by
      rw [Array.toList_push]
      exact All2.append h4 ⟨⟨rfl, rfl⟩, trivial⟩
     have hR' := hR.setMap (l' := l ++ [(n, f)]) (ck' := ck + 1) hl h3 he
     refine ⟨_, _, h, O, Z, S, undef, _, .inr ⟨?_, rfl⟩, hR', rfl, Evo.refl _ _ _ _, rfl, ⟨[_], rfl⟩, rfl⟩
     have hf := findNow_none 0 h4 hall
     simp only [execOp, hx, hk', hv', Instr.mapUpdate, Sem.run_bind, run_underlying ht, Result.andThen_ok, Go.MapKept.run_getObj_map h3, run_checkKey hkt (isKey_int n), run_findKey hkt hf, run_setObj_map _ h3, Sem.run_pure]
   . cases h
 . cases h
theorem okAV_rel {N : Nat} {ok : Bool} {c : CV} {b : Bool} {u : Value} (h : CRel O Z S N c u) : ARel O Z S N (okAV ok c b) (if ok then .tuple #[u, .bool b] else u) := by
 cases ok with
 | true => exact ⟨[u, .bool b], rfl, h, ⟨rfl, rfl⟩, trivial⟩
 | false => exact ARel.of_one h
theorem pickF_some {n : Int} {z : Value} {ok : Bool} (hz : z.oneCell' = true) : ∀ {l : List (Int × FuncId)} {es : List MapEntry} (i : Nat), FEnts l es -> pickF n z ok s K l = some r ->
 ∃ (o : Option (Nat × Value)) (c : CV) (u : Value) (b : Bool), Instr.findNow (.int .i64) (.int .i64 n) es i = some o /\ K (okAV ok c b) s = some r /\ CRel O Z S s.n c u /\ ((o = none /\ u = z /\ b = false) \/ ∃ j, o = some (j, u) /\ b = true)
 | [], [], i, _, h => ⟨none, .val z, z, false, rfl, h, ⟨rfl, hz⟩, .inl ⟨rfl, rfl, rfl⟩⟩
 | [], _ :: _, _, h, _ => h.elim
 | _ :: _, [], _, h, _ => h.elim
 | p :: l, e :: es, i, h, hp => by
   obtain ⟨⟨h1, h2⟩, h3⟩ := h
   simp only [pickF] at hp
   rcases cond_some hp with ⟨hn, hp⟩ | ⟨hn, hp⟩
   . have hs : Instr.sameNow (.int .i64) (.int .i64 n) e.key = some true := by rw [h1]; simp [Instr.sameNow, hn]
     exact ⟨some (i, e.val), .fn p.2 [], e.val, true, by simp only [Instr.findNow, hs], hp, ⟨(fun q hq => by cases hq), h2⟩, .inr ⟨i, rfl, rfl⟩⟩
   . have hs : Instr.sameNow (.int .i64) (.int .i64 n) e.key = some false := by rw [h1]; simp [Instr.sameNow, hn]
     obtain ⟨o, c, u, b, g1, g2, g3, g4⟩ := pickF_some hz (i + 1) h3 hp
     exact ⟨o, c, u, b, by simp only [Instr.findNow, hs]; exact g1, g2, g3, g4⟩
theorem lookup_sound {t : TypeId} {x i : Operand} {ok : Bool} (hR : Rl base w0 S0 O Z S s a w) (h : evLookup P t x i ok s K = some r) : Sound P base w0 S0 O Z S s a w K r ⟨dst, .lookup t x i ok, ty, pos, after, guard⟩ := by
 unfold evLookup at h
 split at h
 . rename_i vt b l n hm ho hi
   obtain ⟨kt, ht, hkt⟩ := mapKey_some hm
   obtain ⟨hx, hb, hl⟩ := mapOf_some hR ho
   have hi' := hR.val i; rw [hi] at hi'
   have hi' : a.eval i = .int .i64 n := hi'
   split at h
   . rename_i z hz
     split at h
     . rename_i hone
       obtain ⟨_, h2, es, ck, h3, h4, h5⟩ := hR.st b _ hl
       obtain ⟨o, c, u, bb, g1, g2, g3, g4⟩ := pickF_some (O := O) (Z := Z) (S := S) hone 0 h4 h
       refine ⟨_, _, g2, Does.pure hR (u := if ok then .tuple #[u, .bool bb] else u) ?_ (okAV_rel g3)⟩
       have e0 : (Instr.lookup t (.map (some (O b))) (.int .i64 n) ok).run P w = .ok (if ok then .tuple #[u, .bool bb] else u) w := by
        simp only [Instr.lookup, Sem.run_bind, run_underlying ht, Result.andThen_ok, Go.MapKept.run_getObj_map h3, Sem.run_pure, run_checkKey hkt (isKey_int n), run_findKey hkt g1]
        rcases g4 with ⟨rfl, rfl, rfl⟩ | ⟨j, rfl, rfl⟩
        . simp only [Sem.run_bind, zeroOf_run hz, Result.andThen_ok, Sem.run_pure]
        . simp
       show (execOp a.eval ⟨dst, .lookup t x i ok, ty, pos, after, guard⟩).run P w = _
       simp only [execOp, hx, hi']
       exact run_v _ _ _ e0
     . cases h
   . cases h
 . cases h
theorem iface_sound {t : TypeId} {x : Operand} (hR : Rl base w0 S0 O Z S s a w) (h : evIface P t x s K = some r) : Sound P base w0 S0 O Z S s a w K r ⟨dst, .makeInterface t x, ty, pos, after, guard⟩ := by
 unfold evIface at h
 split at h
 . cases h
 . rename_i d hni hu
   have run : ∀ v, (Instr.makeInterface t v).run P w = .ok (.iface t v) w := by
    intro v
    simp only [Instr.makeInterface, Sem.run_bind, run_underlying hu, Result.andThen_ok]
    cases d <;> first | exact absurd rfl (hni _) | simp
   split at h
   . rename_i v e
     have hx := hR.val x; rw [e] at hx
     have hx : a.eval x = v := hx
     split at h <;> first | (cases h; done) | skip
     all_goals
      refine ⟨_, _, h, Does.pure hR (u := .iface t (a.eval x)) ?_ (by rw [hx]; rfl)⟩
      simp only [execOp]
      exact run_v _ _ _ (run _)
   . cases h
 . cases h
theorem assert_sound {x : Operand} {xt u : TypeId} {ok : Bool} (hR : Rl base w0 S0 O Z S s a w) (h : evAssert P x u ok s K = some r) : Sound P base w0 S0 O Z S s a w K r ⟨dst, .typeAssert x xt u ok, ty, pos, after, guard⟩ := by
 unfold evAssert at h
 split at h
 . cases h
 . rename_i d hni hu
   split at h
   . rename_i t v e
     have hx := hR.val x; rw [e] at hx
     have hx : a.eval x = .iface t v := hx
     split at h
     . rename_i h1 h2
       have ht := Nat.eq_of_beq_eq_true h1
       refine ⟨_, _, h, Does.pure hR (u := if ok then .tuple #[v, .bool true] else v) ?_ (okAV_rel (c := .val v) ⟨rfl, h2⟩)⟩
       simp only [execOp, hx]
       refine run_v _ _ _ ?_
       simp only [Instr.typeAssert, Sem.run_bind, run_underlying hu, Result.andThen_ok]
       cases d <;> first | exact absurd rfl (hni _) | (simp only [if_pos ht]; cases ok <;> rfl)
     . rename_i h1 h2
       split at h
       . rename_i z hz
         split at h
         . rename_i hone
           have ht : t ≠ u := fun q => by rw [q, Nat.beq_refl] at h1; cases h1
           refine ⟨_, _, h, Does.pure hR (u := .tuple #[z, .bool false]) ?_ (okAV_rel (ok := true) (c := .val z) ⟨rfl, hone⟩)⟩
           simp only [execOp, hx]
           refine run_v _ _ _ ?_
           simp only [Instr.typeAssert, Sem.run_bind, run_underlying hu, Result.andThen_ok]
           cases d <;> first | exact absurd rfl (hni _) | (simp only [if_neg ht]; simp [zeroOf_run hz])
         . cases h
       . cases h
     . cases h
   . cases h
 . cases h
end
end
end Go.Proofs.YtfhphiedbdinmaaGreatDoor.Ab
