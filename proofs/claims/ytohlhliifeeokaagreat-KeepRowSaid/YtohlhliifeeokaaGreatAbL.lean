/- Abstract runs: at a loop's head a state is told anew. -/
import Derived.Test.YtohlhliifeeokaaGreatAbE
import Derived.Deep.LoopGhost
namespace Go.Proofs.YtohlhliifeeokaaGreat.Ab
open Go Go.RowKit
set_option linter.unusedVariables false
set_option linter.unusedSimpArgs false
def CV.below (n : Nat) : CV → Prop
  | .ptr b _ => b < n | .vw b _ _ => b < n | .row b => b < n | .fn _ caps => ∀ p ∈ caps, p.1 < n | .mp b _ _ _ => b < n | .mv b _ _ => b < n | _ => True
def AV.below (n : Nat) : AV → Prop
  | .one c => c.below n | .agg l => ∀ c ∈ l, c.below n | .tup l => ∀ p ∈ l, ∀ c ∈ p.2, c.below n
def Blk.below (n : Nat) : Blk → Prop
  | .cells l _ => ∀ c ∈ l, c.below n | _ => True
theorem All2.mono_mem {α β : Type} {R R' : α → β → Prop} : ∀ {l : List α} {m : List β}, (∀ a ∈ l, ∀ b, R a b → R' a b) → All2 R l m → All2 R' l m
  | [], [], _, _ => trivial
  | a :: l, b :: m, hr, h => ⟨hr a (by simp) b h.1, All2.mono_mem (fun c hc => hr c (by simp [hc])) h.2⟩
  | [], _ :: _, _, h => h.elim
  | _ :: _, [], _, h => h.elim
theorem All2.mem {α β : Type} {R : α → β → Prop} : ∀ {l : List α} {m : List β}, All2 R l m → ∀ a ∈ l, ∃ b, R a b
  | a :: l, b :: m, h, c, hc => by
    rcases List.mem_cons.1 hc with rfl | hc
    · exact ⟨b, h.1⟩
    · exact All2.mem h.2 c hc
  | _ :: _, [], h, _, _ => h.elim
section
variable {P : Program} {base : Nat} {w0 : World} {S0 : Mem} {φ : Nat → Nat} {ψ ψ' : Nat → Value} {S : Mem} {s : St} {a : Act} {w : World} {n m n' : Nat}
theorem CRel.bel {c : CV} {u : Value} (h : CRel φ ψ S n c u) : c.below n := by
  cases c <;> first | trivial | exact h.1
theorem CRel.lower {c : CV} {u : Value} (h : CRel φ ψ S n c u) (hb : c.below m) (hm : m ≤ n') (hψ : ∀ b, b < m → ψ' b = ψ b) : CRel φ ψ' S n' c u := by
  cases c with
  | ptr b off => exact ⟨Nat.lt_of_lt_of_le hb hm, h.2⟩
  | row b => exact ⟨Nat.lt_of_lt_of_le hb hm, by rw [hψ b hb]; exact h.2.1, h.2.2⟩
  | fn f caps => exact ⟨fun p hp => Nat.lt_of_lt_of_le (hb p hp) hm, h.2⟩
  | vw b m c => exact ⟨Nat.lt_of_lt_of_le hb hm, h.2⟩
  | mp b w i off => exact ⟨Nat.lt_of_lt_of_le hb hm, by rw [hψ b hb]; exact h.2⟩
  | mv b lo hi => exact ⟨Nat.lt_of_lt_of_le hb hm, by rw [hψ b hb]; exact h.2⟩
  | _ => exact h
theorem ARel.bel {v : AV} {u : Value} (h : ARel φ ψ S n v u) : v.below n := by
  cases v with
  | one c =>
    cases c with
    | any => trivial
    | val _ => trivial
    | sl _ _ => trivial
    | rp _ _ _ => trivial
    | ptr b off => exact h.1
    | row b => exact h.1
    | fn f caps => exact h.1
    | vw b _ _ => exact h.1
    | mp b _ _ _ => exact h.1
    | mv b _ _ => exact h.1
  | agg l => obtain ⟨vs, _, h⟩ := h; exact fun c hc => let ⟨b, hb⟩ := h.mem c hc; hb.bel
  | tup l =>
    obtain ⟨us, _, h⟩ := h
    intro p hp c hc
    obtain ⟨b, hb⟩ := h.mem p hp
    obtain ⟨q, cs⟩ := p
    cases q with
    | true => obtain ⟨vs, _, hb⟩ := hb; exact let ⟨b, hb⟩ := hb.mem c hc; hb.bel
    | false =>
      match cs, hb, hc with
      | [c'], hb, hc => simp at hc; subst hc; exact CRel.bel (c := c) hb
theorem ARel.lower {v : AV} {u : Value} (h : ARel φ ψ S n v u) (hb : v.below m) (hm : m ≤ n') (hψ : ∀ b, b < m → ψ' b = ψ b) : ARel φ ψ' S n' v u := by
  cases v with
  | one c =>
    cases c with
    | any => trivial
    | val _ => exact h
    | sl t l => exact (show Reps S (.sl t) l [u] from h)
    | rp t x o => exact h
    | ptr b off => exact CRel.lower (c := .ptr b off) (S := S) (φ := φ) h hb hm hψ
    | row b => exact CRel.lower (c := .row b) (S := S) (φ := φ) h hb hm hψ
    | fn f caps => exact CRel.lower (c := .fn f caps) (S := S) (φ := φ) h hb hm hψ
    | vw b m c => exact CRel.lower (c := .vw b m c) (S := S) (φ := φ) h hb hm hψ
    | mp b w i off => exact CRel.lower (c := .mp b w i off) (S := S) (φ := φ) h hb hm hψ
    | mv b lo hi => exact CRel.lower (c := .mv b lo hi) (S := S) (φ := φ) h hb hm hψ
  | agg l => obtain ⟨vs, e, h⟩ := h; exact ⟨vs, e, h.mono_mem fun c hc u hu => hu.lower (hb c hc) hm hψ⟩
  | tup l =>
    obtain ⟨us, e, h⟩ := h
    refine ⟨us, e, h.mono_mem fun p hp u hu => ?_⟩
    have hbp := hb p hp
    obtain ⟨q, cs⟩ := p
    cases q with
    | true => obtain ⟨vs, e, hu⟩ := hu; exact ⟨vs, e, hu.mono_mem fun c hc u hu => hu.lower (hbp c hc) hm hψ⟩
    | false =>
      match cs, hu, hbp with
      | [c], hu, hbp => exact CRel.lower (c := c) hu (hbp c (by simp)) hm hψ
theorem BRel.bel {k : Blk} {b : Nat} (h : BRel φ ψ S n base w b k) : k.below n := by
  cases k with
  | cells l t => obtain ⟨_, vs, _, h, _⟩ := h; exact fun c hc => let ⟨b, hb⟩ := h.mem c hc; hb.bel
  | _ => trivial
theorem BRel.lower {k : Blk} {b : Nat} (h : BRel φ ψ S n base w b k) (hb : k.below m) (hbm : b < m) (hm : m ≤ n') (hψ : ∀ b, b < m → ψ' b = ψ b) : BRel φ ψ' S n' base w b k ∧ k.at φ ψ' b = k.at φ ψ b := by
  cases k with
  | cells l t => obtain ⟨h1, vs, h2, h, h3⟩ := h; exact ⟨⟨h1, vs, h2, h.mono_mem fun c hc u hu => hu.lower (hb c hc) hm hψ, h3⟩, rfl⟩
  | row e t l => simp only [BRel, Blk.at, hψ b hbm]; exact ⟨h, trivial⟩
  | mrow e t l => simp only [BRel, Blk.at, hψ b hbm]; exact ⟨h, trivial⟩
  | lrow t l => simp only [BRel, Blk.at, hψ b hbm]; exact ⟨h, trivial⟩
  | dead => exact ⟨trivial, rfl⟩
theorem look_skip {α : Type} : ∀ {pre l : List (Nat × α)} {d : Nat}, (∀ p ∈ pre, p.1 ≠ d) → look (pre ++ l) d = look l d
  | [], _, _, _ => rfl
  | (k, v) :: pre, l, d, h => by
    rw [List.cons_append, look_cons_ne _ _ (h (k, v) (by simp)), look_skip (fun p hp => h p (by simp [hp]))]
theorem look_mem {α : Type} : ∀ {l : List (Nat × α)} {d : Nat} {v : α}, look l d = some v → (d, v) ∈ l
  | [], _, _, h => by simp [look] at h
  | (k, u) :: l, d, v, h => by
    by_cases e : k = d
    · subst e; rw [look_cons_eq] at h; cases h; simp
    · rw [look_cons_ne _ _ e] at h; exact List.mem_cons_of_mem _ (look_mem h)
theorem look_app {α : Type} : ∀ {pre l : List (Nat × α)} {d : Nat} {v : α}, look (pre ++ l) d = some v → look pre d = some v ∨ ((∀ p ∈ pre, p.1 ≠ d) ∧ look l d = some v)
  | [], _, _, _, h => .inr ⟨by simp, h⟩
  | (k, u) :: pre, l, d, v, h => by
    rw [List.cons_append] at h
    by_cases e : k = d
    · subst e; rw [look_cons_eq] at h ⊢; exact .inl h
    · rw [look_cons_ne _ _ e] at h ⊢
      rcases look_app h with h | ⟨h1, h2⟩
      · exact .inl h
      · refine .inr ⟨fun p hp => ?_, h2⟩
        rcases List.mem_cons.1 hp with rfl | hp
        · exact e
        · exact h1 p hp
theorem inL_iff {l : List Nat} {d : Nat} : inL l d = true ↔ d ∈ l := by
  unfold inL
  rw [List.any_eq_true]
  constructor
  · rintro ⟨x, hx, h⟩; rw [Nat.eq_of_beq_eq_true h]; exact hx
  · intro h; exact ⟨d, h, Nat.beq_refl d⟩
theorem distinct_nodup : ∀ {l : List Nat}, distinct l = true → l.Nodup
  | [], _ => List.nodup_nil
  | a :: l, h => by
    simp only [distinct, Bool.and_eq_true, Bool.not_eq_true'] at h
    refine List.nodup_cons.2 ⟨fun hm => ?_, distinct_nodup h.2⟩
    have : inL l a = true := inL_iff.2 hm
    unfold inL at this
    rw [h.1] at this; cases this
structure Tells (base : Nat) (φ : Nat → Nat) (S : Mem) (s' : St) (ψ' : Nat → Value) (a : Act) (w : World) (n0 : Nat) (kill : Nat → Prop) (ψ : Nat → Value) (s : St) (D B : Nat → Prop) (U : List (Nat × Nat)) : Prop where
  n : n0 ≤ s.n
  nt : s.nt = s'.nt
  hψ : ∀ b, b < n0 → ψ b = ψ' b
  tm : ∀ d v, look s.tm d = some v → ¬ D d → d < s.nt ∧ ARel φ ψ S s.n v (a.tmps.getD d undef)
  st : ∀ b k, look s.st b = some k → b < s.n ∧ (¬ B b → BRel φ ψ S s.n base w b k ∧ ∀ g, k.at φ ψ b = some g → ∃ o k', look s'.st o = some k' ∧ k'.at φ ψ' o = some g ∧ ((b < n0 ∧ o = b ∧ ¬ kill b) ∨ (b, o) ∈ U))
  uni : ∀ b o, (b, o) ∈ U → n0 ≤ b ∧ (n0 ≤ o ∨ kill o) ∧ ∀ b', (b', o) ∈ U → b' = b
theorem Tells.done {s' : St} {U : List (Nat × Nat)} {kill : Nat → Prop} (hs : Rl base w0 S0 φ ψ' S s' a w) (h : Tells base φ S s' ψ' a w m kill ψ s (fun _ => False) (fun _ => False) U) : Rl base w0 S0 φ ψ S s a w := by
  refine ⟨hs.s0, hs.snew, hs.sw, hs.below, hs.bsz, hs.defers, by rw [h.nt]; exact hs.size, fun d v e => h.tm d v e id, fun b k e => ⟨(h.st b k e).1, ((h.st b k e).2 id).1⟩, fun b b' k k' g e e' f f' => ?_⟩
  obtain ⟨o, k1, h1, h2, h3⟩ := ((h.st b k e).2 id).2 g f
  obtain ⟨o', k1', h1', h2', h3'⟩ := ((h.st b' k' e').2 id).2 g f'
  obtain rfl := hs.apart o o' k1 k1' g h1 h1' h2 h2'
  rcases h3 with ⟨p1, p2, p3⟩ | p <;> rcases h3' with ⟨q1, q2, q3⟩ | q
  · rw [← p2, ← q2]
  · obtain ⟨r1, r2, r3⟩ := h.uni _ _ q
    subst p2
    rcases r2 with r2 | r2
    · omega
    · exact absurd r2 p3
  · obtain ⟨r1, r2, r3⟩ := h.uni _ _ p
    subst q2
    rcases r2 with r2 | r2
    · omega
    · exact absurd r2 q3
  · exact ((h.uni _ _ p).2.2 b' q).symm
theorem get_lt {s' : St} (hs : Rl base w0 S0 φ ψ' S s' a w) {d : Nat} {c : AV} (h : s'.get d = c) (hc : c ≠ .one .any) : d < s'.nt := by
  unfold St.get at h
  split at h
  · rename_i v e; exact (hs.tm d v e).1
  · exact absurd h.symm hc
theorem put_keys {α : Type} {d : Nat} {v : α} {l : List (Nat × α)} {e : Nat} {u : α} (h : look ((d, v) :: l) e = some u) : (e = d ∧ u = v) ∨ (e ≠ d ∧ look l e = some u) := by
  by_cases q : d = e
  · subst q; rw [look_cons_eq] at h; cases h; exact .inl ⟨rfl, rfl⟩
  · rw [look_cons_ne _ _ q] at h; exact .inr ⟨fun e => q e.symm, h⟩
theorem Tells.tmp {s' : St} {U : List (Nat × Nat)} {kill : Nat → Prop} {D B : Nat → Prop} (h : Tells base φ S s' ψ' a w m kill ψ s D B U) {d : Nat} {v : AV} (hv : ARel φ ψ S s.n v (a.tmps.getD d undef)) (hd : d < s.nt) :
    Tells base φ S s' ψ' a w m kill ψ { s with tm := (d, v) :: s.tm } (fun e => D e ∧ e ≠ d) B U := by
  refine ⟨h.n, h.nt, h.hψ, fun e u he hD => ?_, h.st, h.uni⟩
  rcases put_keys he with ⟨rfl, rfl⟩ | ⟨hne, he⟩
  · exact ⟨hd, hv⟩
  · exact h.tm e u he (fun hd => hD ⟨hd, hne⟩)
theorem Tells.rowK {s' : St} {U : List (Nat × Nat)} {kill : Nat → Prop} {D B : Nat → Prop} (hs : Rl base w0 S0 φ ψ' S s' a w) (h : Tells base φ S s' ψ' a w m kill ψ s D B U) {c : CV} {u : Value} (hu : u.oneCell' = true) (kb : Blk)
    (hB : ∀ ψ2 n', ψ2 s.n = u → BRel φ ψ2 S n' base w s.n kb ∧ kb.at φ ψ2 s.n = u.ownBlock)
    (key : ∀ g, u.ownBlock = some g → ∃ b, c = .row b ∧ ∃ k', look s'.st b = some k' ∧ k'.at φ ψ' b = some g)
    (hk : ∀ b, c = .row b → (m ≤ b ∨ kill b) ∧ ∀ b', (b', b) ∉ U) :
    ∃ ψ2 U2, Tells base φ S s' ψ' a w m kill ψ2 { s with st := (s.n, kb) :: s.st, n := s.n + 1 } D B U2 ∧ CRel φ ψ2 S (s.n + 1) (.row s.n) u ∧ (∀ b, b < s.n → ψ2 b = ψ b) ∧ (∀ p ∈ U2, p ∈ U ∨ c = .row p.2) := by
  have hψ2 : ∀ b, b < s.n → (if b = s.n then u else ψ b) = ψ b := fun b hb => if_neg (by omega)
  have ev : Evo φ ψ S s.n φ (fun b => if b = s.n then u else ψ b) S (s.n + 1) := ⟨Nat.le_succ _, fun _ _ => rfl, hψ2, Mem.le_refl _⟩
  refine ⟨fun b => if b = s.n then u else ψ b, (match c with | .row b => [(s.n, b)] | _ => []) ++ U, ⟨Nat.le_succ_of_le h.n, h.nt, fun b hb => (hψ2 b (Nat.lt_of_lt_of_le hb h.n)).trans (h.hψ b hb), fun d v e hD => ?_, fun b k e => ?_, fun b o hbo => ?_⟩, ⟨Nat.lt_succ_self _, by simp, hu⟩, hψ2, fun p hp => ?_⟩
  · obtain ⟨h1, h2⟩ := h.tm d v e hD
    exact ⟨h1, h2.evo ev⟩
  · rcases put_keys e with ⟨rfl, rfl⟩ | ⟨hne, e⟩
    · obtain ⟨hB1, hB2⟩ := hB (fun b => if b = s.n then u else ψ b) (s.n + 1) (by simp)
      refine ⟨Nat.lt_succ_self _, fun _ => ⟨hB1, fun g hg => ?_⟩⟩
      rw [hB2] at hg
      obtain ⟨b, rfl, k', h1, h2⟩ := key g hg
      exact ⟨b, k', h1, h2, .inr (by simp)⟩
    · obtain ⟨h1, h2⟩ := h.st b k e
      refine ⟨Nat.lt_succ_of_lt h1, fun hB => ?_⟩
      obtain ⟨h3, h4⟩ := h2 hB
      obtain ⟨h5, h6⟩ := h3.keep (w' := w) h1 ev (fun g _ => ⟨rfl, fun _ _ => rfl⟩)
      refine ⟨h5, fun g hg => ?_⟩
      rw [h6] at hg
      obtain ⟨o, k', q1, q2, q3⟩ := h4 g hg
      exact ⟨o, k', q1, q2, q3.imp id (fun q => List.mem_append_right _ q)⟩
  · rcases List.mem_append.1 hbo with q | q
    · cases c with
      | row b1 =>
        simp at q
        obtain ⟨rfl, rfl⟩ := q
        obtain ⟨r1, r2⟩ := hk o rfl
        refine ⟨h.n, r1, fun b' hb' => ?_⟩
        rcases List.mem_append.1 hb' with q | q
        · simpa using q
        · exact absurd q (r2 b')
      | _ => simp at q
    · obtain ⟨r1, r2, r3⟩ := h.uni b o q
      refine ⟨r1, r2, fun b' hb' => ?_⟩
      rcases List.mem_append.1 hb' with q' | q'
      · cases c with
        | row b1 =>
          simp at q'
          obtain ⟨rfl, rfl⟩ := q'
          exact absurd q ((hk _ rfl).2 b)
        | _ => simp at q'
      · exact r3 b' q'
  · rcases List.mem_append.1 hp with q | q
    · cases c with
      | row b1 => simp at q; subst q; exact .inr rfl
      | _ => simp at q
    · exact .inl q
theorem anyBlk_n (s : St) (e : TypeId) (t : Ty) (l : List t.den) : (anyBlk s e t l).n = s.n + 1 := blkM_n ..
theorem anyBlk_tm (s : St) (e : TypeId) (t : Ty) (l : List t.den) : (anyBlk s e t l).tm = s.tm := blkM_tm ..
theorem anyBlk_nt (s : St) (e : TypeId) (t : Ty) (l : List t.den) : (anyBlk s e t l).nt = s.nt := blkM_nt ..
theorem anyBlk_st (s : St) (e : TypeId) (t : Ty) (l : List t.den) : ∃ pre, (anyBlk s e t l).st = pre ++ s.st := by
  obtain ⟨k, hk⟩ := blkM_st (wideT t) s e t l
  exact ⟨[_], hk⟩
theorem Tells.row {s' : St} {U : List (Nat × Nat)} {kill : Nat → Prop} {D B : Nat → Prop} (hs : Rl base w0 S0 φ ψ' S s' a w) (h : Tells base φ S s' ψ' a w m kill ψ s D B U) {e : TypeId} {t : Ty} {l : List t.den} {c : CV} {u : Value} (hc : rowData s' e t c = some l) (hu : CRel φ ψ' S s'.n c u)
    (hk : ∀ b, c = .row b → (m ≤ b ∨ kill b) ∧ ∀ b', (b', b) ∉ U) :
    ∃ ψ2 U2, Tells base φ S s' ψ' a w m kill ψ2 (anyBlk s e t l) D B U2 ∧ CRel φ ψ2 S (s.n + 1) (.row s.n) u ∧ (∀ b, b < s.n → ψ2 b = ψ b) ∧ (∀ p ∈ U2, p ∈ U ∨ c = .row p.2) := by
  have key : (match wideT t with | true => MRel S base w u e t l | false => RowRel S base w u e t l) ∧ ∀ g, u.ownBlock = some g → ∃ b, c = .row b ∧ ∃ k', look s'.st b = some k' ∧ k'.at φ ψ' b = some g := by
    unfold rowData at hc
    split at hc
    · obtain rfl := Option.some.inj hc
      obtain rfl : u = _ := hu.1
      refine ⟨?_, fun g hg => by cases hg⟩
      cases wideT t <;> exact .inl ⟨rfl, rfl⟩
    · rename_i b
      obtain ⟨_, hub, _⟩ := hu
      split at hc
      · rename_i e' t' l' hb
        split at hc
        · rename_i he ht hw
          obtain rfl := Nat.eq_of_beq_eq_true he
          obtain rfl := Ty.eq_of_beq ht
          obtain rfl := Option.some.inj hc
          have := (hs.st b _ hb).2.2
          rw [← hub] at this
          rw [hw]
          exact ⟨this, fun g hg => ⟨b, rfl, _, hb, by simp only [Blk.at, ← hub]; exact hg⟩⟩
        · cases hc
      · rename_i e' t' l' hb
        split at hc
        · rename_i he ht hw
          obtain rfl := Nat.eq_of_beq_eq_true he
          obtain rfl := Ty.eq_of_beq ht
          obtain rfl := Option.some.inj hc
          have := (hs.st b _ hb).2.2
          rw [← hub] at this
          rw [hw]
          exact ⟨this, fun g hg => ⟨b, rfl, _, hb, by simp only [Blk.at, ← hub]; exact hg⟩⟩
        · cases hc
      · cases hc
    · cases hc
  unfold anyBlk
  cases hw : wideT t with
  | true =>
    rw [hw] at key
    exact h.rowK hs hu.one (.mrow e t l) (fun ψ2 n' hq => ⟨⟨by rw [hq]; exact hu.one, by rw [hq]; exact key.1⟩, by simp only [Blk.at, hq]⟩) key.2 hk
  | false =>
    rw [hw] at key
    exact h.rowK hs hu.one (.row e t l) (fun ψ2 n' hq => ⟨⟨by rw [hq]; exact hu.one, by rw [hq]; exact key.1⟩, by simp only [Blk.at, hq]⟩) key.2 hk
theorem rowsIn_mem : ∀ {ps : List Part} {l : List CV} {b : Nat}, b ∈ rowsIn ps l → .row b ∈ l
  | [], l, b, h => by simp [rowsIn] at h
  | .dat t :: ps, l, b, h => by
    simp only [rowsIn] at h
    exact List.mem_of_mem_drop (rowsIn_mem h)
  | .row e t :: ps, l, b, h => by
    cases l with
    | nil => simp [rowsIn] at h
    | cons c l =>
      cases c with
      | row b' =>
        simp only [rowsIn] at h
        rcases List.mem_cons.1 h with rfl | h
        · simp
        · exact List.mem_cons_of_mem _ (rowsIn_mem h)
      | _ =>
        simp only [rowsIn] at h
        exact List.mem_cons_of_mem _ (rowsIn_mem h)
theorem Tells.parts {s' : St} {kill : Nat → Prop} {D B : Nat → Prop} (hs : Rl base w0 S0 φ ψ' S s' a w) : ∀ (ps : List Part) (l : List CV) (vs : List Value) (x : (partsTy ps).den) (s : St) (ψ : Nat → Value) (U : List (Nat × Nat)), projParts s' ps l = some x → All2 (CRel φ ψ' S s'.n) l vs →
    Tells base φ S s' ψ' a w m kill ψ s D B U → (rowsIn ps l).Nodup → (∀ b ∈ rowsIn ps l, (m ≤ b ∨ kill b) ∧ ∀ b', (b', b) ∉ U) →
    ∃ ψ2 U2, Tells base φ S s' ψ' a w m kill ψ2 (tellParts s ps x).1 D B U2 ∧ All2 (CRel φ ψ2 S (tellParts s ps x).1.n) (tellParts s ps x).2 vs ∧ (∀ b, b < s.n → ψ2 b = ψ b) ∧ (∀ p ∈ U2, p ∈ U ∨ p.2 ∈ rowsIn ps l) ∧ s.n ≤ (tellParts s ps x).1.n ∧ (tellParts s ps x).1.tm = s.tm ∧
      (∃ pre, (tellParts s ps x).1.st = pre ++ s.st) ∧ (tellParts s ps x).1.nt = s.nt
  | [], l, vs, x, s, ψ, U, hp, hl, h, hnd, hk => by
    cases l with
    | cons c l => simp [projParts] at hp
    | nil =>
      obtain rfl := All2.nil_inv hl
      exact ⟨ψ, U, h, trivial, fun _ _ => rfl, fun p hp => .inl hp, Nat.le_refl _, rfl, ⟨[], rfl⟩, rfl⟩
  | .dat t :: ps, l, vs, x, s, ψ, U, hp, hl, h, hnd, hk => by
    simp only [projParts] at hp
    split at hp
    · rename_i x1 hx1
      split at hp
      · rename_i y hy
        obtain rfl := Option.some.inj hp
        have k6 : All2 (CRel φ ψ' S s'.n) ((l.take t.width).map s'.derefC) (vs.take t.width) := All2.map_l ((hl.take t.width).mono fun c u hc => hs.derefC hc)
        obtain ⟨us, ws, e1, k7, k8⟩ := unCV_rel hx1 k6
        obtain rfl := All2.nil_inv k8
        rw [List.append_nil] at e1
        obtain ⟨ψ2, U2, g1, g2, g3, g4, g5, g6, g7, g8⟩ := Tells.parts hs ps (l.drop t.width) (vs.drop t.width) y s ψ U hy (hl.drop _) h hnd hk
        refine ⟨ψ2, U2, g1, ?_, g3, g4, g5, g6, g7, g8⟩
        show All2 _ (cellsCV t x1 ++ (tellParts s ps y).2) vs
        rw [← List.take_append_drop t.width vs, e1]
        exact (k7.all2 _).append g2
      · cases hp
    · cases hp
  | .row e t :: ps, l, vs, x, s, ψ, U, hp, hl, h, hnd, hk => by
    simp only [projParts] at hp
    split at hp
    · rename_i c l
      split at hp
      · rename_i x1 hx1
        split at hp
        · rename_i y hy
          obtain rfl := Option.some.inj hp
          obtain ⟨u, vs, rfl, hu, hl⟩ := All2.cons_inv hl
          have hcb : ∀ b, c = .row b → rowsIn (.row e t :: ps) (c :: l) = b :: rowsIn ps l := by rintro b rfl; rfl
          have hsub : ∀ b, b ∈ rowsIn ps l → b ∈ rowsIn (.row e t :: ps) (c :: l) := by
            intro b hb
            cases c <;> simp only [rowsIn] <;> first | exact hb | exact List.mem_cons_of_mem _ hb
          obtain ⟨ψ1, U1, h1, h2, h3, h4⟩ := h.row hs hx1 hu (fun b hb => hk b (by rw [hcb b hb]; simp))
          have hnd2 : (rowsIn ps l).Nodup := by
            cases c <;> simp only [rowsIn] at hnd <;> first | exact hnd | exact (List.nodup_cons.1 hnd).2
          obtain ⟨ψ2, U2, g1, g2, g3, g4, g5, g6, g7, g8⟩ := Tells.parts hs ps l vs y (anyBlk s e t x1) ψ1 U1 hy hl h1 hnd2 (fun b hb => ⟨(hk b (hsub b hb)).1, fun b' hb' => by
            rcases h4 _ hb' with q | q
            · exact (hk b (hsub b hb)).2 b' q
            · have q : c = .row b := q
              rw [hcb b q] at hnd
              exact (List.nodup_cons.1 hnd).1 hb⟩)
          rw [anyBlk_n] at g3 g5
          rw [anyBlk_tm] at g6
          rw [anyBlk_nt] at g8
          obtain ⟨pre, g7⟩ := g7
          obtain ⟨pre0, e0⟩ := anyBlk_st s e t x1
          refine ⟨ψ2, U2, g1, ⟨⟨Nat.lt_of_lt_of_le (Nat.lt_succ_self _) g5, by rw [g3 _ (Nat.lt_succ_self _)]; exact h2.2.1, h2.2.2⟩, g2⟩, fun b hb => (g3 b (Nat.lt_succ_of_lt hb)).trans (h3 b hb), fun p hp => ?_, Nat.le_of_succ_le g5, g6, ⟨pre ++ pre0, ?_⟩, g8⟩
          · rcases g4 p hp with q | q
            · rcases h4 p q with q | q
              · exact .inl q
              · exact .inr (by rw [hcb _ q]; simp)
            · exact .inr (hsub _ q)
          · show (tellParts (anyBlk s e t x1) ps y).1.st = _
            rw [g7, e0, List.append_assoc]
        · cases hp
      · cases hp
    · cases hp
theorem Tells.box {s' : St} {U : List (Nat × Nat)} {kill : Nat → Prop} {D B : Nat → Prop} (h : Tells base φ S s' ψ' a w m kill ψ s D B U) {b : Nat} {l l' : List CV} {e : TypeId} (hk : look s'.st b = some (.cells l' e)) (hbm : b < m) (hnk : ¬ kill b) (hb : b < s.n)
    (hB : BRel φ ψ S s.n base w b (.cells l e)) : Tells base φ S s' ψ' a w m kill ψ { s with st := (b, .cells l e) :: s.st } D (fun c => B c ∧ c ≠ b) U := by
  refine ⟨h.n, h.nt, h.hψ, h.tm, fun c k he => ?_, h.uni⟩
  rcases put_keys he with ⟨rfl, rfl⟩ | ⟨hne, he⟩
  · exact ⟨hb, fun _ => ⟨hB, fun g hg => ⟨c, _, hk, hg, .inl ⟨hbm, rfl, hnk⟩⟩⟩⟩
  · obtain ⟨h1, h2⟩ := h.st c k he
    exact ⟨h1, fun hBc => h2 (fun q => hBc ⟨q, hne⟩)⟩
theorem unAV_any (t : Ty) : unAV t (.one .any) = none := by
  cases t <;> simp [unAV, isAggT, unCV, unInt, unBool, unStr, unSl]
theorem sameBox_some {s0 s' : St} {d : Nat} (h : sameBox s0 s' d = true) : ∃ b l e l', boxOf s0 d = some b ∧ boxOf s' d = some b ∧ look s0.st b = some (.cells l e) ∧ look s'.st b = some (.cells l' e) := by
  unfold sameBox at h
  split at h
  · rename_i b b' h1 h2
    split at h
    · rename_i l e l' e' h3 h4 h5
      obtain rfl := Nat.eq_of_beq_eq_true h3
      obtain rfl := Nat.eq_of_beq_eq_true h
      exact ⟨_, l, e, l', h1, h2, h4, h5⟩
    · cases h
  · cases h
theorem tellL_sound {s0 s' : St} {kill : Nat → Prop} (hs : Rl base w0 S0 φ ψ' S s' a w) (hbox : ∀ d b, boxOf s0 d = some b → b < s0.n) :
    ∀ (pl : List Place) (s s'' : St) (x : (pl.foldr (fun p t => Ty.cons p.ty t) .nil).den) (ψ : Nat → Value) (D B : Nat → Prop) (U : List (Nat × Nat)), projL s' pl = some x → tellL s0 s pl x = some s'' → Tells base φ S s' ψ' a w s0.n kill ψ s D B U →
      (∀ p ∈ pl, p.same s0 s' = true) → (pl.flatMap (rowAt s')).Nodup → (∀ b ∈ pl.flatMap (rowAt s'), s0.n ≤ b ∨ kill b) → (∀ p ∈ U, p.2 ∉ pl.flatMap (rowAt s')) → (∀ p ∈ pl, ∀ b ∈ p.boxIn s0, ¬ kill b) →
      ∃ ψ2 U2, Tells base φ S s' ψ' a w s0.n kill ψ2 s'' (fun d => D d ∧ d ∉ pl.flatMap Place.tmpOf) (fun b => B b ∧ b ∉ pl.flatMap (Place.boxIn s0)) U2 ∧ (∃ pre, s''.tm = pre ++ s.tm) ∧ ∃ pre, s''.st = pre ++ s.st
  | [], s, s'', x, ψ, D, B, U, hp, ht, hT, _, _, _, _, _ => by
    simp only [tellL] at ht
    obtain rfl := Option.some.inj ht
    exact ⟨ψ, U, by simpa using hT, ⟨[], rfl⟩, ⟨[], rfl⟩⟩
  | p :: pl, s, s'', x, ψ, D, B, U, hp, ht, hT, hsame, hnd, hge, hU, hkl => by
    simp only [projL] at hp
    split at hp
    · rename_i y hy
      split at hp
      · rename_i z hz
        obtain rfl := Option.some.inj hp
        simp only [tellL] at ht
        split at ht
        · rename_i s1 hs1
          rw [List.flatMap_cons] at hnd hge hU
          have hnd2 := (List.nodup_append.1 hnd)
          have key : ∃ ψ1 U1, Tells base φ S s' ψ' a w s0.n kill ψ1 s1 (fun d => D d ∧ d ∉ p.tmpOf) (fun b => B b ∧ b ∉ p.boxIn s0) U1 ∧ (∃ pre, s1.tm = pre ++ s.tm) ∧ (∃ pre, s1.st = pre ++ s.st) ∧ ∀ q ∈ U1, q ∈ U ∨ q.2 ∈ rowAt s' p := by
            have hsp := hsame p (by simp)
            have rowok : ∀ b, b ∈ rowAt s' p → (s0.n ≤ b ∨ kill b) ∧ ∀ b', (b', b) ∉ U := fun b hb =>
              ⟨hge b (List.mem_append_left _ hb), fun b' hb' => hU _ hb' (List.mem_append_left _ hb)⟩
            cases p with
            | tmp d t =>
              simp only [tellP] at hs1
              obtain rfl := Option.some.inj hs1
              have hd : d < s.nt := by
                rw [hT.nt]
                refine get_lt hs rfl (fun e => ?_)
                simp only [projP, projAV] at hy
                rw [e] at hy
                have : unAV t (s'.deref (.one .any)) = none := unAV_any t
                rw [this] at hy; cases hy
              have hv := unAV_rel hy (hs.deref (hs.get d))
              exact ⟨ψ, U, by simpa [Place.tmpOf, Place.boxIn] using hT.tmp (toAV_rel (φ := φ) (ψ := ψ) s.n hv) hd, ⟨[_], rfl⟩, ⟨[], rfl⟩, fun q hq => .inl hq⟩
            | row d e t =>
              simp only [tellP] at hs1
              obtain rfl := Option.some.inj hs1
              cases hc : s'.get d with
              | agg l => simp [projP, hc] at hy
              | tup l => simp [projP, hc] at hy
              | one c =>
                simp only [projP, hc] at hy
                have hd : d < s.nt := by
                  rw [hT.nt]
                  refine get_lt hs hc (fun e => ?_)
                  injection e with e; subst e; simp [rowData] at hy
                have hu := hs.get d; rw [hc] at hu
                have hu' : CRel φ ψ' S s'.n c (a.tmps.getD d undef) := by
                  cases c with
                  | row b => exact hu
                  | val v =>
                    have hu : a.tmps.getD d undef = v := hu
                    refine ⟨hu, ?_⟩
                    unfold rowData at hy
                    split at hy
                    · rename_i h; injection h with h; subst h; rfl
                    · rename_i h; cases h
                    · cases hy
                  | _ => simp [rowData] at hy
                obtain ⟨ψ2, U2, h1, h2, h3, h4⟩ := hT.row hs hy hu' (fun b hb => rowok b (by simp [rowAt, hc, hb]))
                refine ⟨ψ2, U2, ?_, ⟨[_], congrArg (List.cons _) (anyBlk_tm s e t y)⟩, anyBlk_st s e t y, fun q hq => (h4 q hq).imp id (fun e => by simp [rowAt, hc, e])⟩
                have := h1.tmp (d := d) (v := .one (.row s.n)) (by have h2' := h2; rw [← anyBlk_n s e t y] at h2'; exact h2') (by have hd' := hd; rw [← anyBlk_nt s e t y] at hd'; exact hd')
                simpa [Place.tmpOf, Place.boxIn] using this
            | box d t =>
              obtain ⟨b, l, e, l', g1, g2, g3, g4⟩ := sameBox_some hsp
              simp only [tellP, g1, g3] at hs1
              split at hs1
              · rename_i hw
                obtain rfl := Option.some.inj hs1
                simp only [projP, boxCells, g2, g4] at hy
                split at hy
                · rename_i y' hy'
                  obtain rfl := Option.some.inj hy
                  obtain ⟨k1, k2, vs, k3, k4, k5⟩ := hs.st b _ g4
                  have k6 : All2 (CRel φ ψ' S s'.n) (l'.map s'.derefC) vs := All2.map_l (k4.mono fun c u hc => hs.derefC hc)
                  obtain ⟨us, ws, rfl, k7, k8⟩ := unCV_rel hy' k6
                  obtain rfl := All2.nil_inv k8
                  rw [List.append_nil] at k3
                  have hbm := hbox d b g1
                  refine ⟨ψ, U, ?_, ⟨[], rfl⟩, ⟨[_], rfl⟩, fun q hq => .inl hq⟩
                  have := hT.box g4 hbm (hkl (.box d t) (by simp) b (by simp [Place.boxIn, g1])) (Nat.lt_of_lt_of_le hbm hT.n) (l := cellsCV t y') ⟨k2, us, k3, k7.all2 s.n, k5⟩
                  simpa [Place.tmpOf, Place.boxIn, g1] using this
                · cases hy
              · cases hs1
            | outT d t ps =>
              simp only [tellP] at hs1
              obtain rfl := Option.some.inj hs1
              have hd : d < s.nt := by
                rw [hT.nt]
                refine get_lt hs rfl (fun e => ?_)
                simp only [projP, projAV] at hy
                rw [e] at hy
                have : unAV t (s'.deref (.one .any)) = none := unAV_any t
                rw [this] at hy; cases hy
              have hv := unAV_rel hy (hs.deref (hs.get d))
              exact ⟨ψ, U, by simpa [Place.tmpOf, Place.boxIn] using hT.tmp (toAV_rel (φ := φ) (ψ := ψ) s.n hv) hd, ⟨[_], rfl⟩, ⟨[], rfl⟩, fun q hq => .inl hq⟩
            | outB d t ps =>
              obtain ⟨b, l, e, l', g1, g2, g3, g4⟩ := sameBox_some hsp
              simp only [tellP, g1, g3] at hs1
              split at hs1
              · rename_i hw
                obtain rfl := Option.some.inj hs1
                simp only [projP, boxCells, g2, g4] at hy
                split at hy
                · rename_i y' hy'
                  obtain rfl := Option.some.inj hy
                  obtain ⟨k1, k2, vs, k3, k4, k5⟩ := hs.st b _ g4
                  have k6 : All2 (CRel φ ψ' S s'.n) (l'.map s'.derefC) vs := All2.map_l (k4.mono fun c u hc => hs.derefC hc)
                  obtain ⟨us, ws, rfl, k7, k8⟩ := unCV_rel hy' k6
                  obtain rfl := All2.nil_inv k8
                  rw [List.append_nil] at k3
                  have hbm := hbox d b g1
                  refine ⟨ψ, U, ?_, ⟨[], rfl⟩, ⟨[_], rfl⟩, fun q hq => .inl hq⟩
                  have := hT.box g4 hbm (hkl (.outB d t ps) (by simp) b (by simp [Place.boxIn, g1])) (Nat.lt_of_lt_of_le hbm hT.n) (l := cellsCV t y') ⟨k2, us, k3, k7.all2 s.n, k5⟩
                  simpa [Place.tmpOf, Place.boxIn, g1] using this
                · cases hy
              · cases hs1
            | boxRow d e t =>
              obtain ⟨b, l, e2, l', g1, g2, g3, g4⟩ := sameBox_some hsp
              simp only [tellP, g1, g3] at hs1
              split at hs1
              · rename_i hl
                cases hl
                obtain rfl := Option.some.inj hs1
                obtain ⟨c, rfl, hy⟩ : ∃ c, l' = [c] ∧ rowData s' e t c = some y := by
                  rcases l' with _ | ⟨c, _ | ⟨c2, l2⟩⟩
                  · simp [projP, boxCells, g2, g4] at hy
                  · simp only [projP, boxCells, g2, g4] at hy; exact ⟨c, rfl, hy⟩
                  · simp [projP, boxCells, g2, g4] at hy
                · obtain ⟨k1, k2, vs, k3, k4, k5⟩ := hs.st b _ g4
                  obtain ⟨u, vs', rfl, hu, hnil⟩ := All2.cons_inv k4
                  obtain rfl := All2.nil_inv hnil
                  obtain ⟨ψ2, U2, h1, h2, h3, h4⟩ := hT.row hs hy hu (fun b' hb' => rowok b' (by simp [rowAt, boxCells, g2, g4, hb']))
                  have hbm := hbox d b g1
                  obtain ⟨pre0, e0⟩ := anyBlk_st s e t y
                  refine ⟨ψ2, U2, ?_, ⟨[], anyBlk_tm s e t y⟩, ⟨_ :: pre0, congrArg (List.cons _) e0⟩, fun q hq => (h4 q hq).imp id (fun e => by simp [rowAt, boxCells, g2, g4, e])⟩
                  have := h1.box g4 hbm (hkl (.boxRow d e t) (by simp) b (by simp [Place.boxIn, g1])) (by have q := Nat.lt_succ_of_lt (Nat.lt_of_lt_of_le hbm hT.n); rw [← Nat.add_one, ← anyBlk_n s e t y] at q; exact q) (l := [.row s.n]) ⟨k2, [u], k3, ⟨by have h2' := h2; rw [← anyBlk_n s e t y] at h2'; exact h2', trivial⟩, k5⟩
                  simpa [Place.tmpOf, Place.boxIn, g1] using this
              · cases hs1
            | mixT d ps =>
              simp only [tellP] at hs1
              obtain rfl := Option.some.inj hs1
              cases hc : s'.get d with
              | one c => simp [projP, hc] at hy
              | tup l => simp [projP, hc] at hy
              | agg l =>
                simp only [projP, hc] at hy
                have hd : d < s.nt := by rw [hT.nt]; exact get_lt hs hc (by simp)
                have hu := hs.get d; rw [hc] at hu
                obtain ⟨vs, hu, hl⟩ := hu
                have hra : rowAt s' (.mixT d ps) = rowsIn ps l := by simp [rowAt, hc]
                obtain ⟨ψ2, U2, h1, h2, h3, h4, h5, h6, h7, h8⟩ := hT.parts hs ps l vs y s ψ U hy hl (by rw [← hra]; exact hnd2.1) (fun b hb => rowok b (by rw [hra]; exact hb))
                refine ⟨ψ2, U2, ?_, ⟨[_], congrArg (List.cons _) h6⟩, h7, fun q hq => (h4 q hq).imp id (fun e => by rw [hra]; exact e)⟩
                have := h1.tmp (d := d) (v := .agg (tellParts s ps y).2) ⟨vs, hu, h2⟩ (by rw [h8]; exact hd)
                simpa [Place.tmpOf, Place.boxIn] using this
            | mixB d ps =>
              obtain ⟨b, l, e2, l', g1, g2, g3, g4⟩ := sameBox_some hsp
              simp only [tellP, g1, g3] at hs1
              split at hs1
              · rename_i sx lx hq1 hq2
                obtain rfl := Option.some.inj hs1
                simp only [projP, boxCells, g2, g4] at hy
                obtain ⟨k1, k2, vs, k3, k4, k5⟩ := hs.st b _ g4
                have hra : rowAt s' (.mixB d ps) = rowsIn ps l' := by simp [rowAt, boxCells, g2, g4]
                obtain ⟨ψ2, U2, h1, h2, h3, h4, h5, h6, ⟨pre0, h7⟩, h8⟩ := hT.parts hs ps l' vs y s ψ U hy k4 (by rw [← hra]; exact hnd2.1) (fun b hb => rowok b (by rw [hra]; exact hb))
                have hbm := hbox d b g1
                have hq2 : tellParts s ps y = (sx, lx) := hq2
                rw [hq2] at h1 h2 h5 h6 h7 h8
                refine ⟨ψ2, U2, ?_, ⟨[], h6⟩, ⟨_ :: pre0, congrArg (List.cons _) h7⟩, fun q hq => (h4 q hq).imp id (fun e => by rw [hra]; exact e)⟩
                have := h1.box g4 hbm (hkl (.mixB d ps) (by simp) b (by simp [Place.boxIn, g1])) (Nat.lt_of_lt_of_le (Nat.lt_of_lt_of_le hbm hT.n) h5) (l := lx) ⟨k2, vs, k3, h2, k5⟩
                simpa [Place.tmpOf, Place.boxIn, g1] using this
              · cases hs1
          obtain ⟨ψ1, U1, h1, ⟨pre1, e1⟩, ⟨pre2, e2⟩, h4⟩ := key
          obtain ⟨ψ2, U2, k1, ⟨pre3, e3⟩, ⟨pre4, e4⟩⟩ := tellL_sound hs hbox pl s1 s'' z ψ1 _ _ U1 hz ht h1 (fun q hq => hsame q (by simp [hq])) hnd2.2.1 (fun b hb => hge b (List.mem_append_right _ hb)) (fun q hq hm => by
            rcases h4 q hq with h | h
            · exact hU q h (List.mem_append_right _ hm)
            · exact hnd2.2.2 _ h _ hm rfl) (fun q hq => hkl q (by simp [hq]))
          refine ⟨ψ2, U2, ?_, ⟨pre3 ++ pre1, by rw [e3, e1, List.append_assoc]⟩, ⟨pre4 ++ pre2, by rw [e4, e2, List.append_assoc]⟩⟩
          have c1 : (fun d => (D d ∧ d ∉ p.tmpOf) ∧ d ∉ pl.flatMap Place.tmpOf) = fun d => D d ∧ d ∉ (p :: pl).flatMap Place.tmpOf := by
            funext d; simp only [List.flatMap_cons, List.mem_append, not_or, and_assoc]
          have c2 : (fun b => (B b ∧ b ∉ p.boxIn s0) ∧ b ∉ pl.flatMap (Place.boxIn s0)) = fun b => B b ∧ b ∉ (p :: pl).flatMap (Place.boxIn s0) := by
            funext d; simp only [List.flatMap_cons, List.mem_append, not_or, and_assoc]
          rw [← c1, ← c2]; exact k1
        · cases ht
      · cases hp
    · cases hp
theorem rebase {h : Hint} {s0 s' s'' : St} {x : h.ty.den} {a0 : Act} {w1 : World} {φ1 : Nat → Nat} {ψ1 : Nat → Value} {S1 : Mem} (hs0 : Rl base w0 S0 φ1 ψ1 S1 s0 a0 w1) (hs : Rl base w0 S0 φ ψ' S s' a w) (htm : ∃ pre, s'.tm = pre ++ s0.tm) (hst : ∃ pre, s'.st = pre ++ s0.st) (hnt : s'.nt = s0.nt) (hn : s0.n ≤ s'.n)
    (hw : h.within s0 s' = true) (hx : projL s' h.places = some x) (hh : h.head s0 x = some s'') :
    ∃ ψ2, Rl base w0 S0 φ ψ2 S s'' a w ∧ (∀ b, b < s0.n → ψ2 b = ψ' b) ∧ s0.n ≤ s''.n ∧ (∃ pre, s''.tm = pre ++ s0.tm) ∧ (∃ pre, s''.st = pre ++ s0.st) ∧ s''.nt = s0.nt := by
  obtain ⟨pre1, e1⟩ := htm
  obtain ⟨pre2, e2⟩ := hst
  simp only [Hint.within, Bool.and_eq_true] at hw
  obtain ⟨⟨⟨⟨⟨⟨q1, q2⟩, q3⟩, q4⟩, q5⟩, q6⟩, q7⟩ := hw
  have t1 : s'.tm.take (s'.tm.length - s0.tm.length) = pre1 := by rw [e1, List.length_append, Nat.add_sub_cancel]; exact List.take_left
  have t2 : s'.st.take (s'.st.length - s0.st.length) = pre2 := by rw [e2, List.length_append, Nat.add_sub_cancel]; exact List.take_left
  rw [t1] at q1
  rw [t2] at q2
  have hbox : ∀ d b, boxOf s0 d = some b → b < s0.n := by
    intro d b hb
    unfold boxOf at hb
    split at hb
    · rename_i b' hd hg
      obtain rfl := Option.some.inj hb
      have := hs0.get (Nat.mod d 1000000); rw [hg] at this
      exact this.1
    · rename_i i f caps hd hg
      split at hb
      · rename_i b' hi
        obtain rfl := Option.some.inj hb
        have := hs0.get (Nat.mod d 1000000); rw [hg] at this
        exact this.1 _ (List.mem_of_getElem? hi)
      · cases hb
    · cases hb
  have hkills : ∀ b, b ∈ h.kills s0 → b < s0.n := by
    intro b hb
    obtain ⟨p, hp, hb⟩ := List.mem_flatMap.1 hb
    cases p with
    | row d e t =>
      simp only [rowAt] at hb
      split at hb
      · rename_i b' hg
        simp at hb; subst hb
        have := hs0.get d; rw [hg] at this
        exact this.1
      · simp at hb
    | boxRow d e t =>
      simp only [rowAt] at hb
      split at hb
      · rename_i b' hg
        simp at hb; subst hb
        unfold boxCells at hg
        split at hg
        · split at hg
          · rename_i l e' hk
            injection hg with hg; subst hg
            have := (hs0.st _ _ hk).2.bel
            exact this (.row b) (by simp)
          · cases hg
        · cases hg
      · simp at hb
    | tmp d t => simp [rowAt] at hb
    | box d t => simp [rowAt] at hb
    | mixT d ps =>
      simp only [rowAt] at hb
      split at hb
      · rename_i l hg
        have := (hs0.get d).bel; rw [hg] at this
        exact this (.row b) (rowsIn_mem hb)
      · simp at hb
    | outT d t ps =>
      simp only [rowAt] at hb
      split at hb
      · rename_i l hg
        have := (hs0.get d).bel; rw [hg] at this
        exact this (.row b) (rowsIn_mem hb)
      · rename_i b' hg
        simp at hb; subst hb
        have := hs0.get d; rw [hg] at this
        exact this.1
      · simp at hb
    | outB d t ps =>
      simp only [rowAt] at hb
      split at hb
      · rename_i l hg
        unfold boxCells at hg
        split at hg
        · split at hg
          · rename_i l e' hk
            injection hg with hg; subst hg
            have := (hs0.st _ _ hk).2.bel
            exact this (.row b) (rowsIn_mem hb)
          · cases hg
        · cases hg
      · simp at hb
    | mixB d ps =>
      simp only [rowAt] at hb
      split at hb
      · rename_i l hg
        unfold boxCells at hg
        split at hg
        · split at hg
          · rename_i l e' hk
            injection hg with hg; subst hg
            have := (hs0.st _ _ hk).2.bel
            exact this (.row b) (rowsIn_mem hb)
          · cases hg
        · cases hg
      · simp at hb
  have hT : Tells base φ S s' ψ' a w s0.n (fun b => b ∈ h.kills s0) ψ' (h.mask0 s0) (fun d => d ∈ h.places.flatMap Place.tmpOf) (fun b => b ∈ h.places.flatMap (Place.boxIn s0)) [] := by
    refine ⟨Nat.le_refl _, hnt.symm, fun _ _ => rfl, fun d v hd hD => ?_, fun b k hb => ?_, fun b o hbo => by simp at hbo⟩
    · rcases look_app hd with hd | ⟨hnm, hd⟩
      · have hm := look_mem hd
        obtain ⟨d', hd', hdd⟩ := List.mem_map.1 hm
        injection hdd with hd1 hd2
        subst hd1; subst hd2
        have := List.all_eq_true.1 q4 _ hd'
        exact ⟨Nat.le_of_ble_eq_true this, trivial⟩
      · have hnk : ∀ p ∈ pre1, p.1 ≠ d := by
          intro p hp e
          have := List.all_eq_true.1 q1 p hp
          rw [e, Bool.or_eq_true] at this
          rcases this with this | this
          · exact hnm (d, .one .any) (List.mem_map.2 ⟨d, inL_iff.1 this, rfl⟩) rfl
          · exact hD (inL_iff.1 this)
        have hl : look s'.tm d = some v := by rw [e1, look_skip hnk]; exact hd
        obtain ⟨g1, g2⟩ := hs.tm d v hl
        have hb := (hs0.tm d v hd).2.bel
        refine ⟨by show d < s0.nt; rw [← hnt]; exact g1, g2.lower hb (Nat.le_refl _) (fun _ _ => rfl)⟩
    · rcases look_app hb with hb | ⟨hnm, hb⟩
      · have hm := look_mem hb
        obtain ⟨d', hd', hdd⟩ := List.mem_map.1 hm
        injection hdd with hd1 hd2
        subst hd1; subst hd2
        exact ⟨hkills _ hd', fun _ => ⟨trivial, fun g hg => by cases hg⟩⟩
      · obtain ⟨g1, g2⟩ := hs0.st b k hb
        refine ⟨g1, fun hB => ?_⟩
        have hnk : ∀ p ∈ pre2, p.1 ≠ b := by
          intro p hp e
          have := List.all_eq_true.1 q2 p hp
          rw [e, Bool.or_eq_true, Bool.or_eq_true] at this
          rcases this with (this | this) | this
          · have := Nat.le_of_ble_eq_true this; omega
          · exact hB (inL_iff.1 this)
          · exact hnm (b, .dead) (List.mem_map.2 ⟨b, inL_iff.1 this, rfl⟩) rfl
        have hl : look s'.st b = some k := by rw [e2, look_skip hnk]; exact hb
        obtain ⟨g3, g4⟩ := hs.st b k hl
        obtain ⟨g5, g6⟩ := g4.lower g2.bel g1 (Nat.le_refl _) (fun b _ => (rfl : ψ' b = ψ' b))
        refine ⟨g5, fun g hg => ⟨b, k, hl, hg, .inl ⟨g1, rfl, fun hk => hnm (b, .dead) (List.mem_map.2 ⟨b, hk, rfl⟩) rfl⟩⟩⟩
  obtain ⟨ψ2, U2, k1, ⟨pre3, e3⟩, ⟨pre4, e4⟩⟩ := tellL_sound hs hbox h.places _ s'' x ψ' _ _ [] hx hh hT (fun p hp => List.all_eq_true.1 q5 p hp) (distinct_nodup q6) (fun b hb => by
    have := List.all_eq_true.1 q7 b hb
    rw [Bool.or_eq_true] at this
    exact this.imp Nat.le_of_ble_eq_true inL_iff.1) (by simp) (fun p hp b hb hk => by
    have := List.all_eq_true.1 q3 b (List.mem_flatMap.2 ⟨p, hp, hb⟩)
    rw [inL_iff.2 hk] at this; cases this)
  have c1 : (fun d => d ∈ h.places.flatMap Place.tmpOf ∧ d ∉ h.places.flatMap Place.tmpOf) = fun _ => False := by funext d; simp
  have c2 : (fun b => b ∈ h.places.flatMap (Place.boxIn s0) ∧ b ∉ h.places.flatMap (Place.boxIn s0)) = fun _ => False := by funext d; simp
  rw [c1, c2] at k1
  refine ⟨ψ2, k1.done hs, k1.hψ, k1.n, ⟨pre3 ++ _, by rw [e3, List.append_assoc]; rfl⟩, ⟨pre4 ++ _, by rw [e4, List.append_assoc]; rfl⟩, k1.nt.trans hnt⟩
theorem projO_out (s : St) : ∀ (l : List Place) (x : (l.foldr (fun p t => Ty.cons p.ty t) .nil).den), projOL s l = some x → ∃ x' : ((l.map Place.out).foldr (fun p t => Ty.cons p.ty t) .nil).den, projL s (l.map Place.out) = some x' ∧ ∀ s0 s1, tellL s0 s1 (l.map Place.out) x' = tellOL s0 s1 l x
  | [], x, h => ⟨(), rfl, fun _ _ => rfl⟩
  | p :: l, x, h => by
    simp only [projOL] at h
    split at h
    · rename_i y hy
      split at h
      · rename_i z hz
        obtain rfl := Option.some.inj h
        obtain ⟨z', h1, h2⟩ := projO_out s l z hz
        have key : ∃ y' : p.out.ty.den, projP s p.out = some y' ∧ ∀ s0 s1, tellP s0 s1 p.out y' = tellOP s0 s1 p y := by
          cases p with
          | tmp d t => exact ⟨y, hy, fun _ _ => rfl⟩
          | box d t => exact ⟨y, hy, fun _ _ => rfl⟩
          | outT d t ps => exact ⟨y, hy, fun _ _ => rfl⟩
          | outB d t ps => exact ⟨y, hy, fun _ _ => rfl⟩
          | row d e t => simp only [Place.out, projOP, tellOP] at hy ⊢; cases hw : wideT t <;> rw [hw] at hy <;> exact ⟨y, hy, fun _ _ => rfl⟩
          | boxRow d e t => simp only [Place.out, projOP, tellOP] at hy ⊢; cases hw : wideT t <;> rw [hw] at hy <;> exact ⟨y, hy, fun _ _ => rfl⟩
          | mixT d ps => simp only [Place.out, projOP, tellOP] at hy ⊢; cases hw : ps.any Part.wide <;> rw [hw] at hy <;> exact ⟨y, hy, fun _ _ => rfl⟩
          | mixB d ps => simp only [Place.out, projOP, tellOP] at hy ⊢; cases hw : ps.any Part.wide <;> rw [hw] at hy <;> exact ⟨y, hy, fun _ _ => rfl⟩
        obtain ⟨y', k1, k2⟩ := key
        refine ⟨(y', z'), ?_, fun s0 s1 => ?_⟩
        · show projL s (p.out :: l.map Place.out) = _
          simp only [projL, k1, h1]
        · show tellL s0 s1 (p.out :: l.map Place.out) (y', z') = _
          simp only [tellL, tellOL, k2]
          split
          · exact h2 _ _
          · rfl
      · cases h
    · cases h
end
end Go.Proofs.YtohlhliifeeokaaGreat.Ab
