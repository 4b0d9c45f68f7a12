/- Abstract runs: answers whose rows are new ones. -/
import Derived.Test.YtoeikeabbdnkbaaAbF
namespace Go.Proofs.Ytoeikeabbdnkbaa.Ab
open Go Go.RowKit
set_option linter.unusedVariables false
set_option linter.unusedSimpArgs false
section
variable {P : Program} {base : Nat} {w0 : World} {S0 : Mem} {φ : Nat → Nat} {ψ : Nat → Value} {S : Mem} {s : St} {a : Act} {w : World}
theorem unInt_val {k : IntKind} {c : CV} {n : Int} (h : unInt k c = some n) : c = .val (.int k n) := by
  unfold unInt at h
  split at h
  · split at h
    · rename_i hb
      obtain rfl := Option.some.inj h
      have := Ty.eq_of_beq hb
      cases this; rfl
    · cases h
  · cases h
abbrev noMem : Mem := fun _ => none
theorem RowList.flat {S S' : Mem} {t : Ty} {l : List t.den} {xs : List Value} (hf : flatT t = true) (h : RowList S t l xs) : RowList S' t l xs :=
  ⟨h.1, fun i x hx => let ⟨us, h1, h2⟩ := h.2 i x hx; ⟨us, flat_reps hf h1, h2⟩⟩
theorem MRel.news {e : TypeId} {t : Ty} {l : List t.den} {v : Value} (hf : flatT t = true) (h : MRel S base w v e t l) : ∃ Sf : Mem, (∀ p u, Sf p = some u → base ≤ p.block ∧ w.cell? p = some u ∧ Unfz w p.block) ∧ Reps Sf (.sl t) l [v] := by
  rcases h with ⟨rfl, rfl⟩ | ⟨g, cap, cur, xs, rfl, h1, h2, h3, h4, h5, h6, h7, h8⟩
  · exact ⟨noMem, (fun p u h => by cases h), none, 0, rfl, Nat.le_refl _, fun i x hi => by simp [lst] at hi⟩
  · refine ⟨memAdd noMem g xs, fun p u hp => ?_, RowRel.reps (base := base) (w := w) (e := e) (.inr ⟨g, cap, cur, xs, rfl, h1, h2, h3, h4, h5, h6, h7.flat hf, fun off sp => ?_⟩)⟩
    · unfold memAdd at hp
      split at hp
      · rename_i hb
        obtain ⟨pb, po, ps⟩ := p
        simp only at hb hp
        subst hb
        cases ps with
        | some z => cases hp
        | none =>
          simp only at hp
          refine ⟨h1, ?_, _, _, h2⟩
          rw [← h6, List.getElem?_take] at hp
          split at hp
          · simpa [World.cell?, h2] using hp
          · cases hp
      · cases hp
    · unfold memAdd; rw [if_pos rfl]; cases sp <;> rfl
theorem freshOut_rel {w' : World} (hR : Rl base w0 S0 φ ψ S s a w') {t : Ty} {c : CV} {l : List t.den} {v : Value} (hf : flatT t = true) (h : freshOut s t c = some l) (hc : CRel φ ψ S s.n c v) : ∃ Sf : Mem, (∀ p u, Sf p = some u → base ≤ p.block ∧ w'.cell? p = some u ∧ Unfz w' p.block) ∧ Reps Sf (.sl t) l [v] := by
  unfold freshOut at h
  split at h
  · rename_i b
    split at h
    · rename_i e' u l' hb
      split at h
      · rename_i hu
        obtain rfl := Ty.eq_of_beq hu
        have hl : l' = l := Option.some.inj h
        subst hl
        obtain ⟨_, rfl, o⟩ := hc
        exact (hR.st b _ hb).2.2.news hf
      · cases h
    · cases h
  · obtain rfl := Option.some.inj h
    obtain ⟨rfl, o⟩ := hc
    exact ⟨noMem, (fun p u h => by cases h), none, 0, rfl, Nat.le_refl _, fun i x hi => by simp [lst] at hi⟩
  · cases h
theorem freshK_rel {w' : World} (hb : base = w0.heap.size) (hR : Rl base w0 S0 φ ψ S s a w') {ts : List Ty} {v : AV} {u : Value} {y : (ts.foldr Ty.cons .nil).den} (hk : freshK ts v s = some y) (hv : ARel φ ψ S s.n v u) : ComesF ts y w0 (.returned u) w' := by
  unfold freshK at hk
  split at hk
  · rename_i k1 k2 t k3 x y' z c _
    split at hk
    · rename_i a b l c' hf g1 g2 g3 g4
      obtain rfl := Option.some.inj hk
      obtain ⟨us, rfl, hus⟩ := hv
      match us, hus with
      | [u1, u2], ⟨hu1, hu2, _⟩ =>
      obtain ⟨vs3, rfl, hv3⟩ := hu1
      match vs3, hv3 with
      | [v1, v2, v3], ⟨q1, q2, q3, _⟩ =>
      obtain rfl := unInt_val g1
      obtain rfl := unInt_val g2
      obtain rfl := unInt_val g4
      obtain ⟨rfl, o1⟩ := q1
      obtain ⟨rfl, o2⟩ := q2
      obtain ⟨rfl, o3⟩ := hu2
      obtain ⟨Sf, s1, s2⟩ := freshOut_rel hR hf g3 q3
      subst hb
      exact ⟨_, Sf, _, _, _, v3, rfl, rfl, hR.below, s1, rfl, rfl, rfl, o1, o2, o3, s2⟩
    · cases hk
  · cases hk
theorem freshD_rel {w' : World} (hb : base = w0.heap.size) (hR : Rl base w0 noMem φ ψ S s a w') {ts : List Ty} {v : AV} {u : Value} {y : (ts.foldr Ty.cons .nil).den} (hk : freshD ts v = some y) (hv : ARel φ ψ S s.n v u) : ComesF ts y w0 (.returned u) w' := by
  unfold freshD at hk
  split at hk
  · rename_i k1 k2 t k3 x y' z c
    split at hk
    · rename_i a b l c' g1 g2 g3 g4
      obtain rfl := Option.some.inj hk
      obtain ⟨us, rfl, hus⟩ := hv
      match us, hus with
      | [u1, u2], ⟨hu1, hu2, _⟩ =>
      obtain ⟨vs3, rfl, hv3⟩ := hu1
      match vs3, hv3 with
      | [v1, v2, v3], ⟨q1, q2, q3, _⟩ =>
      obtain rfl := unInt_val g1
      obtain rfl := unInt_val g2
      obtain rfl := unInt_val g4
      obtain ⟨rfl, o1⟩ := q1
      obtain ⟨rfl, o2⟩ := q2
      obtain ⟨rfl, o3⟩ := hu2
      have hrep : Reps S (.sl t) l [v3] := by
        unfold unSl at g3
        split at g3
        · split at g3
          · rename_i hu
            obtain rfl := Ty.eq_of_beq hu
            have := Option.some.inj g3
            subst this
            exact q3
          · cases g3
        · obtain rfl := Option.some.inj g3
          obtain ⟨rfl, _⟩ := q3
          exact ⟨none, 0, rfl, Nat.le_refl _, fun i x hi => by simp [lst] at hi⟩
        · cases g3
      subst hb
      exact ⟨_, S, _, _, _, v3, rfl, rfl, hR.below, fun p u hp => ⟨(hR.snew p u hp rfl).1, hR.sw p u hp, (hR.snew p u hp rfl).2⟩, rfl, rfl, rfl, o1, o2, o3, hrep⟩
    · cases hk
  · cases hk
theorem topF_sound {Γ : Nat → FuncId → Option Sig} {Φ : Nat → FuncId → Option Special} {H : FuncId → Nat → Option Hint} (hΓ : ∀ k, GOk P (Γ k)) (hΦ : ∀ k, POk P (Φ k)) (hm : P.follows .mixedOrders = true) {D k : Nat} {f : FuncId} {ts res : List Ty} {x : (ts.foldr Ty.cons .nil).den} {y : (res.foldr Ty.cons .nil).den}
    (h : evTopF P Γ Φ H D k f (argAVs ts x) res = some y) {S : Mem} {w : World} {vs : List Value} (hS : ∀ p v, S p = some v → w.cell? p = some v) (ha : ArgsRep S ts x vs) : Calls P f vs.toArray w (ComesF res y w) := by
  have hR : Rl w.heap.size w S (fun _ => 0) (fun _ => undef) S { tm := [], st := [], n := 0, nt := 0 } { tmps := #[], defers := [] } w :=
    ⟨Mem.le_refl _, fun p v e e0 => (by rw [e] at e0; cases e0), hS, Below.refl _ _, Nat.le_refl _, rfl, rfl, fun d v e => (by simp [look] at e), fun d v e => (by simp [look] at e), fun b b' k k' g e => (by simp [look] at e)⟩
  unfold evTopF at h
  obtain ⟨h1, h2⟩ := evF_sound hΓ hΦ hm D _ k noT f _ _ _ _ _ _ _ _ _ vs (fun u w' => ComesF res y w (.returned u) w') (fun _ _ => False) h hR (argAVs_rel 0 ha) (by
    intro v s' φ' ψ' S' u w' hk hR' hv hev _ _ _
    exact freshK_rel rfl hR' hk hv) (fun v t φ' ψ' S' a' w' h => by cases h)
  refine h2.mono ?_
  rintro e w' (⟨u, rfl, hc⟩ | ⟨_, _, hx⟩)
  · exact hc
  · exact hx.elim
theorem look_map {α β : Type} (f : α → β) : ∀ (l : List (Nat × α)) (d : Nat), look (l.map fun p => (p.1, f p.2)) d = (look l d).map f
  | [], d => rfl
  | p :: l, d => by
    obtain ⟨e, v⟩ := p
    by_cases h : e = d
    · subst h
      show look ((e, f v) :: _) e = _
      rw [look_cons_eq, look_cons_eq]; rfl
    · show look ((e, f v) :: _) d = _
      rw [look_cons_ne _ _ h, look_cons_ne _ _ h, look_map f l d]
theorem maskC_rel {n : Nat} {c : CV} {u : Value} (h : CRel φ ψ S n c u) : CRel φ ψ noMem n (maskC c) u := by
  have o := h.one
  cases c <;> first | exact o | exact h
theorem maskV_rel {n : Nat} {v : AV} {u : Value} (h : ARel φ ψ S n v u) : ARel φ ψ noMem n (maskV v) u := by
  cases v with
  | one c => cases c <;> first | trivial | exact h
  | agg l =>
    obtain ⟨vs, e, hl⟩ := h
    exact ⟨vs, e, All2.map_l (hl.mono fun c u hc => maskC_rel hc)⟩
  | tup l => trivial
theorem maskS_rel (hR : Rl base w0 S0 φ ψ S s a w) : Rl base w0 noMem φ ψ noMem (maskS s) a w := by
  have inv : ∀ b k, look (maskS s).st b = some k → ∃ k0, look s.st b = some k0 ∧ k = maskB k0 := fun b k e => by
    have e : look (s.st.map fun p => (p.1, maskB p.2)) b = some k := e
    rw [look_map] at e
    cases q : look s.st b with
    | none => rw [q] at e; cases e
    | some k0 => rw [q] at e; exact ⟨k0, rfl, (Option.some.inj e).symm⟩
  have atm : ∀ {b : Nat} {k0 : Blk} {g : Nat}, (maskB k0).at φ ψ b = some g → k0.at φ ψ b = some g := fun {b k0 g} f => by
    cases k0 with
    | cells l t => exact f
    | mrow e t l =>
      cases hq : flatT t with
      | true => simpa only [maskB, hq] using f
      | false => simp only [maskB, hq] at f; cases f
    | _ => cases f
  refine ⟨Mem.le_refl _, fun p v e _ => (by cases e), fun p v e => (by cases e), hR.below, hR.bsz, hR.defers, hR.size, fun d v e => ?_, fun b k e => ?_, fun b b' k k' g e e' f f' => ?_⟩
  · have e : look (s.tm.map fun p => (p.1, maskV p.2)) d = some v := e
    rw [look_map] at e
    cases q : look s.tm d with
    | none => rw [q] at e; cases e
    | some v0 =>
      rw [q] at e
      obtain rfl := Option.some.inj e
      exact ⟨(hR.tm d v0 q).1, maskV_rel (hR.tm d v0 q).2⟩
  · obtain ⟨k0, q, rfl⟩ := inv b k e
    obtain ⟨h1, h2⟩ := hR.st b k0 q
    refine ⟨h1, ?_⟩
    cases k0 with
    | cells l t =>
      obtain ⟨g1, vs, g2, g3, _⟩ := h2
      exact ⟨g1, vs, g2, All2.map_l (g3.mono fun c u hc => maskC_rel hc), fun _ _ => rfl⟩
    | mrow e t l =>
      cases hq : flatT t with
      | true =>
        simp only [maskB, hq]
        obtain ⟨o, hm⟩ := h2
        refine ⟨o, ?_⟩
        rcases hm with h | ⟨g, cap, cur, xs, k1, k2, k3, k4, k5, k6, k7, k8, k9⟩
        · exact .inl h
        · exact .inr ⟨g, cap, cur, xs, k1, k2, k3, k4, k5, k6, k7, k8.flat hq, fun _ _ => rfl⟩
      | false => simp only [maskB, hq]; trivial
    | _ => trivial
  · obtain ⟨k0, q, rfl⟩ := inv b k e
    obtain ⟨k1, q1, rfl⟩ := inv b' k' e'
    exact hR.apart b b' k0 k1 g q q1 (atm f) (atm f')
theorem evR_sound {Γ : Nat → FuncId → Option Sig} {Φ : Nat → FuncId → Option Special} {H : FuncId → Nat → Option Hint} (hΓ : ∀ k, GOk P (Γ k)) (hΦ : ∀ k, POk P (Φ k)) (hm : P.follows .mixedOrders = true) (hb : base = w0.heap.size) {D : Nat} {f : FuncId} {fn : Func} {ts : List Ty} {y : (ts.foldr Ty.cons .nil).den} :
    ∀ (m : Nat) (c : Code) (s : St) (k : Nat) (φ : Nat → Nat) (ψ : Nat → Value) (S : Mem) (a : Act) (w : World) (Q : Exit → Act → World → Prop), evR P Γ Φ H D f fn ts m c s k = some y → Rl base w0 S0 φ ψ S s a w →
      (∀ a' w', (a'.defers = [] ∧ ∃ v, (results fn a'.tmps).run P w' = .ok v w' ∧ ComesF ts y w0 (.returned v) w') → Q .normal a' w' ∧ Q .ret a' w') → c.wp P Q a w
  | 0, c, s, k, φ, ψ, S, a, w, Q, h, hR, hQ => by
    simp only [evR] at h
    refine ev_sound hΓ (fun β k T => evF_sound hΓ hΦ hm D β k T) hm c _ y k noT (fun _ _ => False) _ φ ψ noMem a w _ Q h (maskS_rel hR) ?_ (fun v t φ' ψ' S' a' w' h => by cases h) (fun v a w' _ h => h.elim)
    intro e k' t φ2 ψ2 S2 a2 w2 hk hR2 hev c1 c2 c3
    have key : finD P fn ts t = some y → Q .normal a2 w2 ∧ Q .ret a2 w2 := fun hk => hQ a2 w2 (by
      unfold finD at hk
      split at hk
      · rename_i v hv
        obtain ⟨u, h3, h4⟩ := resultAV_run hR2 hv
        obtain ⟨Sf, hRf, hevf, _⟩ := frz_sound hR2 v
        exact ⟨hR2.defers, u, h3, freshD_rel hb hRf hk (hRf.deref (h4.evo hevf))⟩
      · cases hk)
    cases e with
    | exit id => cases hk
    | normal => exact (key hk).1
    | ret => exact (key hk).2
  | m + 1, .seq x z, s, k, φ, ψ, S, a, w, Q, h, hR, hQ => by
    simp only [evR] at h
    refine wp_seq (ev_sound hΓ (fun β k T => evF_sound hΓ hΦ hm D β k T) hm x _ y k noT (fun _ _ => False) _ φ ψ S a w _ _ h hR ?_ (fun v t φ' ψ' S' a' w' h => by cases h) (fun v a w' _ h => h.elim))
    intro e k' t φ2 ψ2 S2 a2 w2 hk hR2 hev c1 c2 c3
    cases e with
    | exit id => cases hk
    | normal => exact evR_sound hΓ hΦ hm hb m z t k' φ2 ψ2 S2 a2 w2 Q hk hR2 hQ
    | ret =>
      refine (hQ a2 w2 ?_).2
      have hk : finF P fn ts t = some y := hk
      unfold finF at hk
      split at hk
      · rename_i v hv
        obtain ⟨u, h3, h4⟩ := resultAV_run hR2 hv
        exact ⟨hR2.defers, u, h3, freshK_rel hb hR2 hk h4⟩
      · cases hk
  | m + 1, .scope c, s, k, φ, ψ, S, a, w, Q, h, hR, hQ => by
    simp only [evR] at h
    exact wp_scope_straight (evR_sound hΓ hΦ hm hb m c s k φ ψ S a w (Exit.noGoto Q) h hR hQ)
  | m + 1, .skip, s, k, φ, ψ, S, a, w, Q, h, hR, hQ => by simp [evR] at h
  | m + 1, .region .., s, k, φ, ψ, S, a, w, Q, h, hR, hQ => by simp [evR] at h
  | m + 1, .cond .., s, k, φ, ψ, S, a, w, Q, h, hR, hQ => by simp [evR] at h
  | m + 1, .block .., s, k, φ, ψ, S, a, w, Q, h, hR, hQ => by simp [evR] at h
  | m + 1, .loop .., s, k, φ, ψ, S, a, w, Q, h, hR, hQ => by simp [evR] at h
  | m + 1, .exit _, s, k, φ, ψ, S, a, w, Q, h, hR, hQ => by simp [evR] at h
  | m + 1, .ret, s, k, φ, ψ, S, a, w, Q, h, hR, hQ => by simp [evR] at h
  | m + 1, .rangeFunc .., s, k, φ, ψ, S, a, w, Q, h, hR, hQ => by simp [evR] at h
  | m + 1, .label _, s, k, φ, ψ, S, a, w, Q, h, hR, hQ => by simp [evR] at h
  | m + 1, .goto _, s, k, φ, ψ, S, a, w, Q, h, hR, hQ => by simp [evR] at h
  | m + 1, .refuse _, s, k, φ, ψ, S, a, w, Q, h, hR, hQ => by simp [evR] at h
theorem topR_sound {Γ : Nat → FuncId → Option Sig} {Φ : Nat → FuncId → Option Special} {H : FuncId → Nat → Option Hint} (hΓ : ∀ k, GOk P (Γ k)) (hΦ : ∀ k, POk P (Φ k)) (hm : P.follows .mixedOrders = true) {D m k : Nat} {f : FuncId} {ts res : List Ty} {x : (ts.foldr Ty.cons .nil).den} {y : (res.foldr Ty.cons .nil).den}
    (h : evTopR P Γ Φ H D m k f (argAVs ts x) res = some y) {S : Mem} {w : World} {vs : List Value} (hS : ∀ p v, S p = some v → w.cell? p = some v) (ha : ArgsRep S ts x vs) : Calls P f vs.toArray w (ComesF res y w) := by
  unfold evTopR at h
  split at h
  · rename_i fn hf
    split at h
    · rename_i c hb hnm hle
      have hle := Nat.le_of_ble_eq_true hle
      have hargs := argAVs_rel (φ := fun _ => 0) (ψ := fun _ => undef) 0 ha
      have hlen := hargs.length
      refine calls_of_wp hf hb ?_
      have hR1 : Rl w.heap.size w S (fun _ => 0) (fun _ => undef) S { tm := enumF 0 (argAVs ts x), st := [], n := 0, nt := fn.ntmps } { tmps := vs.toArray ++ Array.replicate (fn.ntmps - vs.toArray.size) undef, defers := [] } w := by
        refine ⟨Mem.le_refl _, fun p v e e0 => (by rw [e] at e0; cases e0), hS, Below.refl _ _, Nat.le_refl _, rfl, by simp; omega, fun d v hd => ?_, fun d v e => (by simp [look] at e), fun b b' k k' g e => (by simp [look] at e)⟩
        obtain ⟨_, h2⟩ := enumF_look hd
        rw [Nat.sub_zero] at h2
        obtain ⟨u, h3, h4⟩ := hargs.get h2
        have hlt := (List.getElem?_eq_some_iff.1 h2).1
        refine ⟨by show d < fn.ntmps; omega, ?_⟩
        have : (vs.toArray ++ Array.replicate (fn.ntmps - vs.toArray.size) undef).getD d undef = u := by
          rw [Array.getD_eq_getD_getElem?, Array.getElem?_append_left (by simp; omega)]
          simp [h3]
        rw [this]; exact h4
      exact evR_sound hΓ hΦ hm rfl m c _ k _ _ S _ w _ h hR1 (fun a' w' hp => ⟨hp, hp⟩)
    · cases h
  · cases h
theorem fn_okF {Γ : Nat → FuncId → Option Sig} {Φ : Nat → FuncId → Option Special} {H : FuncId → Nat → Option Hint} (hΓ : ∀ k, GOk P (Γ k)) (hΦ : ∀ k, POk P (Φ k)) (hm : P.follows .mixedOrders = true) {D : Nat} {f : FuncId} {g : Sig} (he : ∀ args w, (callFunc f args).run P w = .ok (.enter f args) w)
    (h : ∀ x y, g.den x = some y → ∃ k, evTopF P Γ Φ H D k f (argAVs g.args x) g.res = some y) : FnOkF P f g :=
  ⟨he, fun x y hy S w vs hS ha => by
    obtain ⟨k, hk⟩ := h x y hy
    exact topF_sound hΓ hΦ hm hk hS ha⟩
theorem fn_okR {Γ : Nat → FuncId → Option Sig} {Φ : Nat → FuncId → Option Special} {H : FuncId → Nat → Option Hint} (hΓ : ∀ k, GOk P (Γ k)) (hΦ : ∀ k, POk P (Φ k)) (hm : P.follows .mixedOrders = true) {D m : Nat} {f : FuncId} {g : Sig} (he : ∀ args w, (callFunc f args).run P w = .ok (.enter f args) w)
    (h : ∀ x y, g.den x = some y → ∃ k, evTopR P Γ Φ H D m k f (argAVs g.args x) g.res = some y) : FnOkF P f g :=
  ⟨he, fun x y hy S w vs hS ha => by
    obtain ⟨k, hk⟩ := h x y hy
    exact topR_sound hΓ hΦ hm hk hS ha⟩
end
end Go.Proofs.Ytoeikeabbdnkbaa.Ab
