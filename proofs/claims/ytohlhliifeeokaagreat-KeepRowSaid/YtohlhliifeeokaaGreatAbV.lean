/- Abstract runs: calls that lend what is handed on, and calls that answer a new row. -/
import Derived.Test.YtohlhliifeeokaaGreatAbE
namespace Go.Proofs.YtohlhliifeeokaaGreat.Ab
open Go Go.RowKit
set_option linter.unusedVariables false
set_option linter.unusedSimpArgs false
section
variable {P : Program} {base : Nat} {w0 : World} {S0 : Mem} {φ : Nat → Nat} {ψ : Nat → Value} {S : Mem} {s : St} {a : Act} {w : World} {α : Type} {K : AV → St → Option α} {r : α}
theorem frzAll_sound : ∀ (l : List AV) {S : Mem} {s : St}, Rl base w0 S0 φ ψ S s a w → Stays base w0 S0 φ ψ S s a w (frzAll s l)
  | [], _, _, hR => Stays.refl hR
  | v :: l, _, s, hR => (frz_sound hR v).trans fun _ hR' => frzAll_sound l hR'
theorem derefs_rel (hR : Rl base w0 S0 φ ψ S s a w) : ∀ {args : List AV} {vs : List Value}, All2 (ARel φ ψ S s.n) args vs → All2 (ARel φ ψ S s.n) (args.map s.deref) vs
  | [], [], _ => trivial
  | _ :: _, [], h => h.elim
  | [], _ :: _, h => h.elim
  | v :: args, u :: vs, h => ⟨hR.deref h.1, derefs_rel hR h.2⟩
theorem scalar_rep {t : Ty} (h : scalarT t = true) {S S' : Mem} {x : t.den} {u : Value} (k : Rep1 S' t x u) : Rep1 S t x u := by
  cases t <;> first | exact k | cases h
theorem scalar_args : ∀ {ts : List Ty} {y : (ts.foldr Ty.cons .nil).den} {us : List Value}, ts.all scalarT = true → ∀ {S S' : Mem}, ArgsRep S' ts y us → ArgsRep S ts y us
  | [], _, [], _, _, _, _ => trivial
  | [], _, _ :: _, _, _, _, h => h.elim
  | _ :: _, _, [], _, _, _, h => h.elim
  | t :: ts, y, u :: us, hs, _, _, h => by
    rw [List.all_cons, Bool.and_eq_true] at hs
    exact ⟨scalar_rep hs.1 h.1, scalar_args hs.2 h.2⟩
theorem scalar_res : ∀ {ts : List Ty} {y : (ts.foldr Ty.cons .nil).den} {u : Value}, ts.all scalarT = true → ∀ {S S' : Mem}, ResRep S' ts y u → ResRep S ts y u
  | [], _, _, hs, _, _, ⟨us, e, h⟩ => ⟨us, e, scalar_args hs h⟩
  | [t], _, _, hs, _, _, h => by
    rw [List.all_cons, Bool.and_eq_true] at hs
    exact scalar_rep hs.1 h
  | t :: t' :: ts, _, _, hs, _, _, ⟨us, e, h⟩ => ⟨us, e, scalar_args (ts := t :: t' :: ts) hs h⟩
theorem Rl.calledS (h : Rl base w0 S0 φ ψ S s a w) {w' : World} (hb : Below w.heap.size w w') : Rl base w0 S0 φ ψ S s a w' :=
  (h.called (Mem.le_refl S) (fun p v e => (hb.cell (World.block_lt_of_cell? w _ (h.sw p v e))).trans (h.sw p v e)) (fun p v e e0 => by rw [e] at e0; cases e0) hb).1
theorem lendC_sound (hR : Rl base w0 S0 φ ψ S s a w) {c : CV} {u : Value} (hc : CRel φ ψ S s.n c u) :
    ∃ S', Rl base w0 S0 φ ψ S' (lendC s c).1 a w ∧ S.le S' ∧ (lendC s c).1.n = s.n ∧ CRel φ ψ S' s.n (lendC s c).2 u := by
  unfold lendC
  split
  · rename_i b
    obtain ⟨hb, hu, ho⟩ := hc
    split
    · rename_i t l hk
      have hbr := hR.st b _ hk
      obtain ⟨_, h0, hl⟩ := hbr
      rw [← hu] at hl
      have hdead := hR.dead hk
      rcases hl with ⟨rfl, h⟩ | ⟨ad, len, c', Sf, h1, h2, h3, h4, hz, h5, h6⟩
      · exact ⟨S, hdead, Mem.le_refl S, rfl, h⟩
      · cases l with
        | nil =>
          obtain ⟨A, c'', e, k5, _⟩ := h6
          exact ⟨S, hdead, Mem.le_refl S, rfl, A, c'', e, k5, fun i x hi => by simp [lst] at hi⟩
        | cons x0 l =>
          have hat : (Blk.lrow t (x0 :: l)).at φ ψ b = some ad.block := by simp only [Blk.at, ← hu, h1, sliceBlk]
          have hle : S.le fun p => if p.block = ad.block then Sf p else S p := fun p v e => by
            have : p.block ≠ ad.block := fun q => by
              obtain ⟨pb, po, ps⟩ := p
              simp only at q; subst q
              rw [h4] at e; cases e
            simp only [this, if_false]; exact e
          have hleF : Sf.le fun p => if p.block = ad.block then Sf p else S p := fun p v e => by
            simp only [(h5 p v e).1, if_true]; exact e
          have ev : Evo φ ψ S s.n φ ψ (fun p => if p.block = ad.block then Sf p else S p) s.n := ⟨Nat.le_refl _, fun _ _ => rfl, fun _ _ => rfl, hle⟩
          refine ⟨fun p => if p.block = ad.block then Sf p else S p, ?_, hle, rfl, Reps.mono hleF h6⟩
          refine hR.upd ev rfl rfl (fun p v e e0 => ?_) (fun p v e => ?_) (Below.refl _ _) (fun b' k' e => ?_) (fun b1 k1 b2 k2 g e1 e2 n1 n2 f1 f2 => ?_)
          · split at e
            · rename_i q; rw [q]; exact ⟨h2, hz⟩
            · rw [e] at e0; cases e0
          · split at e
            · exact (h5 p v e).2
            · exact hR.sw p v e
          · by_cases hbb : b = b'
            · subst hbb
              have e : look ((b, Blk.dead) :: s.st) b = some k' := e
              rw [look_cons_eq] at e
              obtain rfl := Option.some.inj e
              exact .inr ⟨hb, trivial, fun g f => by cases f⟩
            · have e : look ((b, Blk.dead) :: s.st) b' = some k' := e
              rw [look_cons_ne _ _ hbb] at e
              refine .inl ⟨e, fun g f => ⟨rfl, fun off sp => ?_⟩⟩
              have hne : g ≠ ad.block := fun q => hbb (hR.apart b b' _ _ ad.block hk e hat (q ▸ f))
              simp only [hne, if_false]
          · have hh : ∀ b1 k, look ((b, Blk.dead) :: s.st) b1 = some k → look s.st b1 ≠ some k → b = b1 := by
              intro b1 k e n
              by_cases hb : b = b1
              · exact hb
              · rw [look_cons_ne _ _ hb] at e; exact absurd e n
            rw [← hh b1 k1 e1 n1, ← hh b2 k2 e2 n2]
    · exact ⟨S, hR, Mem.le_refl S, rfl, hR.derefC (c := .row b) ⟨hb, hu, ho⟩⟩
  · exact ⟨S, hR, Mem.le_refl S, rfl, hR.derefC hc⟩
theorem lendL_sound : ∀ {l : List CV} {S : Mem} {s : St} {us : List Value}, Rl base w0 S0 φ ψ S s a w → All2 (CRel φ ψ S s.n) l us →
    ∃ S', Rl base w0 S0 φ ψ S' (lendL s l).1 a w ∧ S.le S' ∧ (lendL s l).1.n = s.n ∧ All2 (CRel φ ψ S' s.n) (lendL s l).2 us
  | [], S, s, us, hR, h => ⟨S, hR, Mem.le_refl S, rfl, h⟩
  | _ :: _, _, _, [], _, h => h.elim
  | c :: l, S, s, u :: us, hR, ⟨h1, h2⟩ => by
    obtain ⟨S1, r1, l1, n1, c1⟩ := lendC_sound hR h1
    have ev1 : Evo φ ψ S s.n φ ψ S1 s.n := ⟨Nat.le_refl _, fun _ _ => rfl, fun _ _ => rfl, l1⟩
    have h2' : All2 (CRel φ ψ S1 (lendC s c).1.n) l us := by rw [n1]; exact h2.mono fun _ _ k => k.evo ev1
    obtain ⟨S2, r2, l2, n2, c2⟩ := lendL_sound r1 h2'
    rw [n1] at n2 c2
    have ev2 : Evo φ ψ S1 s.n φ ψ S2 s.n := ⟨Nat.le_refl _, fun _ _ => rfl, fun _ _ => rfl, l2⟩
    exact ⟨S2, r2, Mem.le_trans l1 l2, n2, c1.evo ev2, c2⟩
theorem lendV_sound (hR : Rl base w0 S0 φ ψ S s a w) {v : AV} {u : Value} (hv : ARel φ ψ S s.n v u) :
    ∃ S', Rl base w0 S0 φ ψ S' (lendV s v).1 a w ∧ S.le S' ∧ (lendV s v).1.n = s.n ∧ ARel φ ψ S' s.n (lendV s v).2 u := by
  cases v with
  | one c =>
    cases c with
    | row b =>
      obtain ⟨S', h1, h2, h3, h4⟩ := lendC_sound (c := .row b) hR hv
      exact ⟨S', h1, h2, h3, ARel.of_one h4⟩
    | mv b lo hi => exact ⟨S, hR, Mem.le_refl S, rfl, ARel.of_one (hR.derefC (c := .mv b lo hi) hv)⟩
    | _ => exact ⟨S, hR, Mem.le_refl S, rfl, hv⟩
  | agg l =>
    obtain ⟨vs, e, hl⟩ := hv
    obtain ⟨S', h1, h2, h3, h4⟩ := lendL_sound hR hl
    exact ⟨S', h1, h2, h3, vs, e, h4⟩
  | tup l => exact ⟨S, hR, Mem.le_refl S, rfl, hv⟩
theorem lendAll_sound : ∀ {l : List AV} {S : Mem} {s : St} {us : List Value}, Rl base w0 S0 φ ψ S s a w → All2 (ARel φ ψ S s.n) l us →
    ∃ S', Rl base w0 S0 φ ψ S' (lendAll s l).1 a w ∧ S.le S' ∧ (lendAll s l).1.n = s.n ∧ All2 (ARel φ ψ S' s.n) (lendAll s l).2 us
  | [], S, s, us, hR, h => ⟨S, hR, Mem.le_refl S, rfl, h⟩
  | _ :: _, _, _, [], _, h => h.elim
  | v :: l, S, s, u :: us, hR, ⟨h1, h2⟩ => by
    obtain ⟨S1, r1, l1, n1, c1⟩ := lendV_sound hR h1
    have ev1 : Evo φ ψ S s.n φ ψ S1 s.n := ⟨Nat.le_refl _, fun _ _ => rfl, fun _ _ => rfl, l1⟩
    have h2' : All2 (ARel φ ψ S1 (lendV s v).1.n) l us := by rw [n1]; exact h2.mono fun _ _ k => k.evo ev1
    obtain ⟨S2, r2, l2, n2, c2⟩ := lendAll_sound r1 h2'
    rw [n1] at n2 c2
    have ev2 : Evo φ ψ S1 s.n φ ψ S2 s.n := ⟨Nat.le_refl _, fun _ _ => rfl, fun _ _ => rfl, l2⟩
    exact ⟨S2, r2, Mem.le_trans l1 l2, n2, c1.evo ev2, c2⟩
theorem lend_sound {f : FuncId} {g : Sig} (hok : FnOk P f g) {args : List AV} {vs : List Value} {N X : Value → World → Prop} (h : evLend g args s K = some r) (hR : Rl base w0 S0 φ ψ S s a w) (hargs : All2 (ARel φ ψ S s.n) args vs) (hN : Next1 base w0 S0 K r φ ψ S s a N) :
    (∀ args w, (callFunc f args).run P w = .ok (.enter f args) w) ∧ Calls P f vs.toArray w (BackOr N X) := by
  refine ⟨hok.enters, ?_⟩
  unfold evLend at h
  split at h
  · rename_i hs
    split at h
    · rename_i x hx
      obtain ⟨y, hy, h⟩ := Option.bind_eq_some_iff.1 h
      obtain ⟨S1, hR1, ev1, _, _, _, hn1⟩ := frzAll_sound args hR
      have ha1 : All2 (ARel φ ψ S1 (frzAll s args).n) args vs := hargs.mono fun v u k => k.evo ev1
      obtain ⟨S2, hR2, _, _, ha2⟩ := lendAll_sound hR1 ha1
      refine (hok.calls x y hy S2 w vs hR2.sw (argsOf_rel hx ha2)).mono ?_
      rintro e w' ⟨u, S', rfl, h1, h2, h3, h4, h5⟩
      exact .inl ⟨u, rfl, hN _ s φ ψ S u w' h (hR.calledS h5) (resOf_rel _ (scalar_res hs h4)) (Evo.refl _ _ _ _) rfl ⟨[], rfl⟩ rfl⟩
    · cases h
  · cases h
theorem flat_reps {S S' : Mem} : ∀ {t : Ty} {x : t.den} {us : List Value}, flatT t = true → Reps S t x us → Reps S' t x us
  | .int _, _, _, _, h | .bool, _, _, _, h | .str, _, _, _, h | .nil, _, _, _, h => h
  | .cons a b, _, _, hf, ⟨us, ws, e, h1, h2⟩ => by
    rw [flatT, Bool.and_eq_true] at hf
    exact ⟨us, ws, e, flat_reps hf.1 h1, flat_reps hf.2 h2⟩
  | .sl t, _, _, hf, _ => by cases hf
theorem Rl.addL (h : Rl base w0 S0 φ ψ S s a w) {t : Ty} {l : List t.den} {v : Value} (h1 : v.oneCell' = true) (hm : LRel S base w v t l) (hfree : ∀ g, (Blk.lrow t l).at (fun _ => 0) (fun _ => v) 0 = some g → ∀ b k, look s.st b = some k → k.at φ ψ b ≠ some g) :
    ∃ ψ', Rl base w0 S0 φ ψ' S (lrowBlk s t l) a w ∧ CRel φ ψ' S (s.n + 1) (.row s.n) v ∧ Evo φ ψ S s.n φ ψ' S (s.n + 1) := by
  have ev : Evo φ ψ S s.n φ (fun b => if b = s.n then v else ψ b) S (s.n + 1) := ⟨Nat.le_succ _, fun _ _ => rfl, fun b hb => if_neg (by omega), Mem.le_refl _⟩
  refine ⟨_, ?_, ?_, ev⟩
  · refine h.upd ev rfl rfl (fun p v e e0 => by rw [e] at e0; cases e0) h.sw (Below.refl _ _) (fun b k' e' => ?_) (fun b k1 b2 k2 g' e1 e2 n1 n2 f1 f2 => ?_)
    · by_cases hb : s.n = b
      · subst hb
        have e' : look ((s.n, Blk.lrow t l) :: s.st) s.n = some k' := e'
        rw [look_cons_eq] at e'
        obtain rfl := Option.some.inj e'
        refine .inr ⟨Nat.lt_succ_self _, ⟨by simp [h1], by simpa using hm⟩, fun g' f b2 k2 e2 e3 hne f2 => ?_⟩
        refine hfree g' ?_ b2 k2 e3 f2
        simpa only [Blk.at, if_true] using f
      · have e' : look ((s.n, Blk.lrow t l) :: s.st) b = some k' := e'
        rw [look_cons_ne _ _ hb] at e'
        exact .inl ⟨e', fun g' f => ⟨rfl, fun off sp => rfl⟩⟩
    · have hb : ∀ b k, look ((s.n, Blk.lrow t l) :: s.st) b = some k → look s.st b ≠ some k → s.n = b := by
        intro b k e n
        by_cases hb : s.n = b
        · exact hb
        · rw [look_cons_ne _ _ hb] at e; exact absurd e n
      rw [← hb b k1 e1 n1, ← hb b2 k2 e2 n2]
  · exact ⟨Nat.lt_succ_self _, by simp, h1⟩
def ComesF (ts : List Ty) (y : (ts.foldr Ty.cons .nil).den) (w : World) (en : Ending) (w' : World) : Prop :=
  ∃ q Sf x1 x2 x3 v, freshRes ts y = some q ∧ en = .returned (.tuple #[.agg #[x1, x2, v], x3]) ∧ Below w.heap.size w w' ∧ (∀ p u, Sf p = some u → w.heap.size ≤ p.block ∧ w'.cell? p = some u ∧ Unfz w' p.block) ∧
    q.a = .val x1 ∧ q.b = .val x2 ∧ q.c = .val x3 ∧ x1.oneCell' = true ∧ x2.oneCell' = true ∧ x3.oneCell' = true ∧ Reps Sf (.sl q.t) q.l [v]
structure FnOkF (P : Program) (f : FuncId) (g : Sig) : Prop where
  enters : ∀ args w, (callFunc f args).run P w = .ok (.enter f args) w
  calls : ∀ x y, g.den x = some y → ∀ (S : Mem) (w : World) (vs : List Value), (∀ p v, S p = some v → w.cell? p = some v) → ArgsRep S g.args x vs → Calls P f vs.toArray w (ComesF g.res y w)
theorem LRel.fresh {w' : World} {t : Ty} {l : List t.den} {v : Value} {Sf : Mem} {n : Nat} (hb : base ≤ n) (hS : ∀ p v, S p = some v → p.block < n) (hf : flatT t = true) (hw : 1 ≤ t.width) (h1 : ∀ p u, Sf p = some u → n ≤ p.block ∧ w'.cell? p = some u ∧ Unfz w' p.block) (h : Reps Sf (.sl t) l [v]) :
    LRel S base w' v t l ∧ ∀ g, (Blk.lrow t l).at (fun _ => 0) (fun _ => v) 0 = some g → n ≤ g := by
  cases l with
  | nil =>
    obtain ⟨A, c, e, k5, _⟩ := h
    exact ⟨.inl ⟨rfl, A, c, e, k5, fun i x hi => by simp [lst] at hi⟩, fun g f => by cases f⟩
  | cons x0 l =>
    obtain ⟨A, c, e, k5, k6⟩ := h
    obtain ⟨ad, us, rfl, k7, k8⟩ := k6 0 x0 rfl
    have hl : us.length = t.width := k7.width
    obtain ⟨u0, hu0⟩ : ∃ u0, us[0]? = some u0 := ⟨us[0], by simp [show 0 < us.length by omega]⟩
    have hc0 := h1 _ _ (k8 0 u0 hu0)
    have hblk : ∀ k, (ad.add k).block = ad.block := fun k => by unfold Addr.add; split <;> rfl
    have hlt := World.block_lt_of_cell? w' _ hc0.2.1
    rw [hblk] at hc0 hlt
    have hv : v = .slice (some ad) (lst (t := t) (x0 :: l)).length c := by simpa using e
    refine ⟨.inr ⟨ad, _, c, fun p => if p.block = ad.block then Sf p else none, hv, Nat.le_trans hb hc0.1, hlt, fun off sp => ?_, hc0.2.2, fun p u hp => ?_, some ad, c, e, k5, fun i x hi => ?_⟩, fun g f => ?_⟩
    · cases hs : S ⟨ad.block, off, sp⟩ with
      | none => rfl
      | some u => have := hS _ _ hs; simp only at this; omega
    · simp only at hp
      split at hp
      · rename_i q; exact ⟨q, (h1 p u hp).2.1⟩
      · cases hp
    · obtain ⟨a', us', e', k9, k10⟩ := k6 i x hi
      cases e'
      refine ⟨ad, us', rfl, flat_reps hf k9, fun j u hj => ?_⟩
      simp only [hblk, if_true]
      exact k10 j u hj
    · rw [hv] at f
      simp only [Blk.at, sliceBlk] at f
      cases f; exact hc0.1
theorem fresh_sound {f : FuncId} {g : Sig} (hok : FnOkF P f g) {args : List AV} {vs : List Value} {N X : Value → World → Prop} (h : evFresh g args s K = some r) (hR : Rl base w0 S0 φ ψ S s a w) (hargs : All2 (ARel φ ψ S s.n) args vs) (hN : Next1 base w0 S0 K r φ ψ S s a N) :
    (∀ args w, (callFunc f args).run P w = .ok (.enter f args) w) ∧ Calls P f vs.toArray w (BackOr N X) := by
  refine ⟨hok.enters, ?_⟩
  unfold evFresh at h
  split at h
  · rename_i x hx
    obtain ⟨y, hy, h⟩ := Option.bind_eq_some_iff.1 h
    split at h
    · rename_i q hq
      split at h
      · rename_i hf hw1
        obtain ⟨S1, hR1, ev1, htm1, ⟨pre, hst1⟩, hnt1, hn1⟩ := frzAll_sound args hR
        have ha1 : All2 (ARel φ ψ S1 (frzAll s args).n) args vs := hargs.mono fun v u k => k.evo ev1
        refine (hok.calls x y hy S1 w vs hR1.sw (argsOf_rel hx (derefs_rel hR1 ha1))).mono ?_
        rintro en w' ⟨q', Sf, x1, x2, x3, v, hq', rfl, h4, hSf, e1, e2, e3, o1, o2, o3, hrep⟩
        rw [hq] at hq'
        obtain rfl := Option.some.inj hq'
        have hR2 := hR1.calledS h4
        obtain ⟨hl, hfr⟩ := LRel.fresh (S := S1) hR.bsz (fun p v e => World.block_lt_of_cell? w _ (hR1.sw p v e)) hf (Nat.le_of_ble_eq_true hw1) hSf hrep
        have o4 : v.oneCell' = true := by
          obtain ⟨A, c, e, _⟩ := hrep
          have : v = .slice A (lst (t := q.t) q.l).length c := by simpa using e
          rw [this]; rfl
        obtain ⟨ψ', hR3, hc, ev3⟩ := hR2.addL o4 hl (fun g f b k e1 f2 => by
          have h5 := hfr g f
          have := ((hR1.st b k e1).2.lt f2).1
          omega)
        refine .inl ⟨_, rfl, hN _ _ φ ψ' S1 _ w' h hR3 ⟨[.agg #[x1, x2, v], x3], rfl, ⟨[x1, x2, v], rfl, ?_, ?_, hc, trivial⟩, ?_, trivial⟩ (ev1.trans ev3) htm1 ⟨(_, _) :: pre, by show (_ :: (frzAll s args).st) = _; rw [hst1]; rfl⟩ hnt1⟩
        · rw [e1]; exact ⟨rfl, o1⟩
        · rw [e2]; exact ⟨rfl, o2⟩
        · rw [e3]; exact ⟨rfl, o3⟩
      · cases h
    · cases h
  · cases h
structure SpoilOk (P : Program) (f : FuncId) (t : Ty) : Prop where
  enters : ∀ args w, (callFunc f args).run P w = .ok (.enter f args) w
  calls : ∀ (x1 x2 v : Value) (l : List t.den) (Sf : Mem) (w : World), l.length ≤ 1000000000000 → (∀ p u, Sf p = some u → w.cell? p = some u ∧ Unfz w p.block) → Reps Sf (.sl t) l [v] → Calls P f #[.agg #[x1, x2, v]] w fun e w' => e = .returned (.tuple #[]) ∧ w'.os = w.os ∧ w'.tape = w.tape ∧ w'.output = w.output ∧ w.heap.size ≤ w'.heap.size ∧ (∀ g, Unfz w g → Unfz w' g) ∧
    ∀ k, k < w.heap.size → (l = [] ∨ sliceBlk v ≠ some k) → w'.heap[k]? = w.heap[k]?
theorem spoil_sound {f : FuncId} {t : Ty} (hok : SpoilOk P f t) {args : List AV} {vs : List Value} {N X : Value → World → Prop} (h : evSpoil t args s K = some r) (hR : Rl base w0 S0 φ ψ S s a w) (hargs : All2 (ARel φ ψ S s.n) args vs) (hN : Next1 base w0 S0 K r φ ψ S s a N) :
    (∀ args w, (callFunc f args).run P w = .ok (.enter f args) w) ∧ Calls P f vs.toArray w (BackOr N X) := by
  refine ⟨hok.enters, ?_⟩
  unfold evSpoil at h
  split at h
  · rename_i c1 c2 b
    match vs, hargs with
    | [], hargs => exact hargs.elim
    | _ :: _ :: _, hargs => exact hargs.2.elim
    | [u], ⟨⟨vs3, hu, hvs⟩, _⟩ =>
    match vs3, hvs with
    | [x1, x2, v], ⟨g1, g2, g3, _⟩ =>
    obtain ⟨hb, hv, ho⟩ := g3
    split at h
    · rename_i t' l hk
      split at h
      · rename_i ht
        obtain rfl := Ty.eq_of_beq ht
        rcases cond_some h with ⟨hlen9, h⟩ | ⟨_, h⟩
        case inr => cases h
        have hlen9 := of_decide_eq_true hlen9
        obtain ⟨_, _, hl⟩ := hR.st b _ hk
        rw [← hv] at hl
        obtain ⟨Sf, hSf, hrep, hblk⟩ : ∃ Sf : Mem, (∀ p u, Sf p = some u → w.cell? p = some u ∧ Unfz w p.block) ∧ Reps Sf (.sl t') l [v] ∧ ∀ g, sliceBlk v = some g → l ≠ [] → base ≤ g ∧ (Blk.lrow t' l).at φ ψ b = some g ∧ ∀ off sp, S ⟨g, off, sp⟩ = none := by
          rcases hl with ⟨rfl, h⟩ | ⟨ad, len, c', Sf, h1, h2, h3, h4, hz, h5, h6⟩
          · obtain ⟨A, c, e, k5, _⟩ := h
            exact ⟨fun _ => none, (fun p u hp => by cases hp), ⟨A, c, e, k5, fun i x hi => by simp [lst] at hi⟩, fun g _ q => absurd rfl q⟩
          · refine ⟨Sf, fun p u hp => ⟨(h5 p u hp).2, by rw [(h5 p u hp).1]; exact hz⟩, h6, fun g hg hne => ?_⟩
            rw [h1] at hg
            simp only [sliceBlk] at hg
            cases hg
            refine ⟨h2, ?_, h4⟩
            cases l with
            | nil => exact absurd rfl hne
            | cons x l => simp only [Blk.at, ← hv, h1, sliceBlk]
        subst hu
        refine (hok.calls x1 x2 v l Sf w hlen9 hSf hrep).mono ?_
        rintro e w' ⟨rfl, q1, q2, q3, q4, qz, q5⟩
        have hoth : ∀ k, k < w.heap.size → (∀ g, sliceBlk v = some g → l ≠ [] → k ≠ g) → w'.heap[k]? = w.heap[k]? := fun k hk hne => q5 k hk (by
          by_cases hl : l = []
          · exact .inl hl
          · exact .inr fun e => hne k e hl rfl)
        have hbel : Below base w w' := ⟨q1, q2, q3, q4, fun k hk => hoth k (Nat.lt_of_lt_of_le hk hR.bsz) fun g hg hl => by have := (hblk g hg hl).1; omega⟩
        have hR2 : Rl base w0 S0 φ ψ S { s with st := (b, .dead) :: s.st } a w' := by
          refine hR.upd (Evo.refl _ _ _ _) rfl rfl (fun p v e e0 => by rw [e] at e0; cases e0) (fun p u hp => ?_) hbel (fun b' k' e => ?_) (fun b1 k1 b2 k2 g e1 e2 n1 n2 f1 f2 => ?_) (fun g _ hz => qz g hz)
          · have hc := hR.sw p u hp
            have hlt := World.block_lt_of_cell? w _ hc
            rw [World.cell?_of_block (w := w) (hoth _ hlt fun g hg hl q => by
              obtain ⟨pb, po, ps⟩ := p
              simp only at q; subst q
              rw [(hblk _ hg hl).2.2] at hp; cases hp)]
            exact hc
          · by_cases hbb : b = b'
            · subst hbb
              have e : look ((b, Blk.dead) :: s.st) b = some k' := e
              rw [look_cons_eq] at e
              obtain rfl := Option.some.inj e
              exact .inr ⟨hb, trivial, fun g f => by cases f⟩
            · have e : look ((b, Blk.dead) :: s.st) b' = some k' := e
              rw [look_cons_ne _ _ hbb] at e
              refine .inl ⟨e, fun g f => ⟨hoth g ((hR.st b' k' e).2.lt f).1 fun g' hg hl q => ?_, fun _ _ => rfl⟩⟩
              subst q
              exact hbb (hR.apart b b' _ _ _ hk e (hblk _ hg hl).2.1 f)
          · have hh : ∀ b1 k, look ((b, Blk.dead) :: s.st) b1 = some k → look s.st b1 ≠ some k → b = b1 := by
              intro b1 k e n
              by_cases hb : b = b1
              · exact hb
              · rw [look_cons_ne _ _ hb] at e; exact absurd e n
            rw [← hh b1 k1 e1 n1, ← hh b2 k2 e2 n2]
        exact .inl ⟨_, rfl, hN _ _ φ ψ S _ w' h hR2 ⟨[], rfl, trivial⟩ (Evo.refl _ _ _ _) rfl ⟨[(b, .dead)], rfl⟩ rfl⟩
      · cases h
    · cases h
  · cases h
def SpecOk (P : Program) (f : FuncId) : Special → Prop
  | .lend g => FnOk P f g
  | .fresh g => FnOkF P f g
  | .spoil t => SpoilOk P f t
def POk (P : Program) (Φ : FuncId → Option Special) : Prop := ∀ f x, Φ f = some x → SpecOk P f x
theorem POk.nil : POk P (look []) := fun f g h => by simp [look] at h
end
end Go.Proofs.YtohlhliifeeokaaGreat.Ab
