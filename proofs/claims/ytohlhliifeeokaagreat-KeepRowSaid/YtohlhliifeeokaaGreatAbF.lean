/- Abstract runs: code, and functions. -/
import Derived.Test.YtohlhliifeeokaaGreatAbD
import Derived.Test.YtohlhliifeeokaaGreatAbH
import Derived.Test.YtohlhliifeeokaaGreatAbT
import Derived.Test.YtohlhliifeeokaaGreatAbV
import Derived.LoopN
import Derived.Scope
namespace Go.Proofs.YtohlhliifeeokaaGreat.Ab
open Go Go.RowKit
set_option linter.unusedVariables false
set_option linter.unusedSimpArgs false
def toExit : AExit → Exit
  | .normal => .normal | .exit id => .exit id | .ret => .ret
section
variable {P : Program} {base : Nat} {w0 : World} {S0 : Mem} {φ : Nat → Nat} {ψ ψ' : Nat → Value} {S : Mem} {s : St} {a : Act} {w : World}
variable {α : Type} {r : α}
def Good (base : Nat) (w0 : World) (S0 : Mem) (K : AExit → St → Nat → Option α) (r : α) (φ : Nat → Nat) (ψ : Nat → Value) (S : Mem) (s : St) (Q : Exit → Act → World → Prop) : Prop :=
  ∀ e k, NextS base w0 S0 (fun s' => K e s' k) r φ ψ S s (Q (toExit e))
theorem Good.trans {K K' : AExit → St → Nat → Option α} {s' : St} {φ' : Nat → Nat} {ψ' : Nat → Value} {S' : Mem} {Q : Exit → Act → World → Prop} (hN : Good base w0 S0 K r φ ψ S s Q) (hK : ∀ e k t, K' e t k = some r → ∃ k', K e t k' = some r) (ev : Evo φ ψ S s.n φ' ψ' S' s'.n)
    (h1 : ∃ pre, s'.tm = pre ++ s.tm) (h2 : ∃ pre, s'.st = pre ++ s.st) (h3 : s'.nt = s.nt) : Good base w0 S0 K' r φ' ψ' S' s' Q := by
  intro e k t φ2 ψ2 S2 a2 w2 hk hR he e1 e2 e3
  obtain ⟨k', hk'⟩ := hK e k t hk
  exact (hN e k').trans (K' := fun s' => K e s' k') (fun t ht => ht) ev h1 h2 h3 t φ2 ψ2 S2 a2 w2 hk' hR he e1 e2 e3
theorem loop_sound {h : Hint} {body : Nat → St → (AExit → St → Nat → Option (AExit × h.ty.den)) → Option (AExit × h.ty.den)} {c : Code} {Q : Exit → Act → World → Prop} {s0 s1 : St} {k0 : Nat} {x0 x1 : h.ty.den} {e1 : AExit} {K : AExit → St → Nat → Option α} {k1 : Nat}
    (hbody : ∀ k s φ ψ S a w K r Q, body k s K = some r → Rl base w0 S0 φ ψ S s a w → Good base w0 S0 K r φ ψ S s Q → c.wp P Q a w)
    (hR0 : Rl base w0 S0 φ ψ S s0 a w) (hG : Good base w0 S0 K r φ ψ S s0 Q) (hw : h.within s0 s0 = true) (hx : projL s0 h.places = some x0) (he : evLoop h body s0 k0 x0 = some (e1, x1)) (hh1 : h.headX s0 x1 = some s1) (hne : e1 ≠ .normal) (hK : K e1 s1 k1 = some r) : (Code.loop c).wp P Q a w := by
  refine wp_loop_ghost (fun k a' w' => ∃ x s' φ' ψ' S', evLoop h body s0 k x = some (e1, x1) ∧ Rl base w0 S0 φ' ψ' S' s' a' w' ∧ Evo φ ψ S s0.n φ' ψ' S' s'.n ∧ (∃ pre, s'.tm = pre ++ s0.tm) ∧ (∃ pre, s'.st = pre ++ s0.st) ∧ s'.nt = s0.nt ∧ h.within s0 s' = true ∧ projL s' h.places = some x) k0
    ⟨x0, s0, φ, ψ, S, he, hR0, Evo.refl _ _ _ _, ⟨[], rfl⟩, ⟨[], rfl⟩, rfl, hw, hx⟩ ?_
  rintro k a' w' ⟨x, s', φ', ψ', S', he, hR, hev, htm, hst, hnt, hw, hx⟩
  cases k with
  | zero => cases he
  | succ k =>
    simp only [evLoop, rec1_succ, evRound] at he
    split at he
    · rename_i s'' hh
      obtain ⟨ψ2, hR2, hψ2, hn2, ⟨p1, g1⟩, ⟨p2, g2⟩, g3⟩ := rebase hR0 hR htm hst hnt hev.hn hw hx hh
      have hev2 : Evo φ ψ S s0.n φ' ψ2 S' s''.n := ⟨hn2, hev.hφ, fun b hb => (hψ2 b hb).trans (hev.hψ b hb), hev.hS⟩
      refine hbody k s'' φ' ψ2 S' a' w' _ _ _ he hR2 ?_
      intro e k' t φ3 ψ3 S3 a3 w3 hk hR3 hev3 ⟨p3, g4⟩ ⟨p4, g5⟩ g6
      have c1 : ∃ pre, t.tm = pre ++ s0.tm := ⟨p3 ++ p1, by rw [g4, g1, List.append_assoc]⟩
      have c2 : ∃ pre, t.st = pre ++ s0.st := ⟨p4 ++ p2, by rw [g5, g2, List.append_assoc]⟩
      simp only at hk
      have outK : ∀ e, e = e1 → h.keep = true → (match h.within s0 t with
        | true => match projL t h.places with
          | some x' => some (e, x')
          | none => none
        | false => none) = some (e1, x1) → Q (toExit e) a3 w3 := by
        rintro e rfl hkp hk
        split at hk
        · rename_i hw'
          split at hk
          · rename_i x' hx'
            injection hk with hk; injection hk with q1 q2
            subst q2
            have hh := hh1
            simp only [Hint.headX, hkp] at hh
            have hev5 := hev2.trans hev3
            obtain ⟨ψ4, hR5, hψ4, hn5, d1, d2, d3⟩ := rebase hR0 hR3 c1 c2 (g6.trans g3) hev5.hn hw' hx' hh
            exact hG e k1 s1 φ3 ψ4 S3 a3 w3 hK hR5 ⟨hn5, hev5.hφ, fun b hb => (hψ4 b hb).trans (hev5.hψ b hb), hev5.hS⟩ d1 d2 d3
          · cases hk
        · cases hk
      have out : ∀ e, e = e1 → h.keep = false → (match frzPl t h.out.places with
        | s' => match h.out.within s0 s' with
          | true => match projOL s' h.places with
            | some x' => some (e, x')
            | none => none
          | false => none) = some (e1, x1) → Q (toExit e) a3 w3 := by
        rintro e rfl hkp hk
        have hh1 : h.headO s0 x1 = some s1 := by simpa only [Hint.headX, hkp] using hh1
        obtain ⟨S4, hR4, hev4, htm4, ⟨p5, hst4⟩, hnt4, hn4⟩ := frzPl_sound h.out.places hR3
        dsimp only at hk
        split at hk
        · rename_i hw'
          split at hk
          · rename_i x' hx'
            injection hk with hk; injection hk with q1 q2
            subst q2
            obtain ⟨x2, hx2, htell⟩ := projO_out _ h.places x' hx'
            have hh2 : h.out.head s0 x2 = some s1 := (htell s0 (h.out.mask0 s0)).trans hh1
            obtain ⟨p3', c1'⟩ := c1
            obtain ⟨p4', c2'⟩ := c2
            obtain ⟨ψ4, hR5, hψ4, hn5, d1, d2, d3⟩ := rebase hR0 hR4 ⟨p3', by rw [htm4, c1']⟩ ⟨p5 ++ p4', by rw [hst4, c2', List.append_assoc]⟩ (hnt4.trans (g6.trans g3)) ((hev2.trans hev3).trans hev4).hn hw' hx2 hh2
            have hev5 := (hev2.trans hev3).trans hev4
            exact hG e k1 s1 φ3 ψ4 S4 a3 w3 hK hR5 ⟨hn5, hev5.hφ, fun b hb => (hψ4 b hb).trans (hev5.hψ b hb), hev5.hS⟩ d1 d2 d3
          · cases hk
        · cases hk
      cases e with
      | normal =>
        simp only at hk
        split at hk
        · rename_i hw'
          split at hk
          · rename_i x' hx'
            exact ⟨k, Nat.lt_succ_self k, x', t, φ3, ψ3, S3, hk, hR3, hev2.trans hev3, c1, c2, g6.trans g3, hw', hx'⟩
          · cases hk
        · cases hk
      | exit id =>
        simp only at hk
        cases hkp : h.keep with
        | true =>
          rw [hkp] at hk
          exact outK (.exit id) (by
            simp only at hk
            split at hk
            · split at hk
              · injection hk with hk; injection hk
              · cases hk
            · cases hk) hkp hk
        | false =>
          rw [hkp] at hk
          exact out (.exit id) (by
            simp only at hk
            split at hk
            · split at hk
              · injection hk with hk; injection hk
              · cases hk
            · cases hk) hkp hk
      | ret =>
        simp only at hk
        cases hkp : h.keep with
        | true =>
          rw [hkp] at hk
          exact outK .ret (by
            simp only at hk
            split at hk
            · split at hk
              · injection hk with hk; injection hk
              · cases hk
            · cases hk) hkp hk
        | false =>
          rw [hkp] at hk
          exact out .ret (by
            simp only at hk
            split at hk
            · split at hk
              · injection hk with hk; injection hk
              · cases hk
            · cases hk) hkp hk
    · cases he
theorem rep_sound {T : Value → St → Option α} {X : Value → World → Prop} {body : St → (AExit → St → Nat → Option α) → Option α} {c : Code} {K : AExit → St → Nat → Option α} {Q : Exit → Act → World → Prop}
    (hX : ∀ v a w', a.defers = [] → X v w' → Q (.panic [{ v := v, recovered := false }]) a w')
    (hbody : ∀ s φ ψ S a w K Q, body s K = some r → Rl base w0 S0 φ ψ S s a w → Good base w0 S0 K r φ ψ S s Q → NextT base w0 S0 T r φ ψ S s X → (∀ v a w', a.defers = [] → X v w' → Q (.panic [{ v := v, recovered := false }]) a w') → c.wp P Q a w) :
    ∀ (m : Nat) (s : St) (φ : Nat → Nat) (ψ : Nat → Value) (S : Mem) (a : Act) (w : World), evRep body K m s = some r → Rl base w0 S0 φ ψ S s a w → Good base w0 S0 K r φ ψ S s Q → NextT base w0 S0 T r φ ψ S s X → Code.rounds P c Q m a w
  | 0, s, φ, ψ, S, a, w, h, _, _, _ => by simp [evRep] at h
  | m + 1, s, φ, ψ, S, a, w, h, hR, hG, hT => by
    simp only [evRep] at h
    refine hbody s φ ψ S a w _ _ h hR ?_ hT (fun v a w' hd hx => hX v a w' hd hx)
    intro e k' t φ2 ψ2 S2 a2 w2 hk hR2 hev c1 c2 c3
    cases e with
    | normal => exact rep_sound hX hbody m t φ2 ψ2 S2 a2 w2 hk hR2 (hG.trans (fun e k t ht => ⟨k, ht⟩) hev c1 c2 c3) (hT.trans hev c2)
    | exit id => exact hG (.exit id) k' t φ2 ψ2 S2 a2 w2 hk hR2 hev c1 c2 c3
    | ret => exact hG .ret k' t φ2 ψ2 S2 a2 w2 hk hR2 hev c1 c2 c3
theorem throws_sound {T : Value → St → Option α} {X : Value → World → Prop} {id : Nat} {ops : Array Oper} {draw : Bool} {v : Value} {Q : Exit → Act → World → Prop} (hv : throws P draw s.nt ops = some v) (h : T v s = some r) (hR : Rl base w0 S0 φ ψ S s a w) (hT : NextT base w0 S0 T r φ ψ S s X) (hX : ∀ v a w', a.defers = [] → X v w' → Q (.panic [{ v := v, recovered := false }]) a w') : (Code.region id ops draw).wp P Q a w := by
  unfold throws at hv
  cases draw with
  | true => cases hv
  | false =>
    simp only at hv
    unfold throwsOf at hv
    split at hv
    · rename_i o1 o2 ho
      split at hv
      · rename_i t u d d' h1 h2 h3 h4 h5
        split at hv
        · cases hv
        · rename_i k hni hd hlt hk
          obtain rfl := Option.some.inj hv
          obtain rfl := Nat.eq_of_beq_eq_true hd
          have hops : ops = #[o1, o2] := Array.ext' ho
          subst hops
          have hx : X (.iface t u) w := hT _ _ φ ψ S a w h hR (Evo.refl _ _ _ _) ⟨[], rfl⟩
          obtain ⟨dst1, op1, ty1, pos1, after1, guard1⟩ := o1
          obtain ⟨dst2, op2, ty2, pos2, after2, guard2⟩ := o2
          simp only at h1 h2 h3 h4 h5
          subst h1 h2 h3 h4 h5
          refine wp_region ?_
          have r1 : (execOp a.eval ⟨some d, .makeInterface t (.const u), ty1, pos1, after1, none⟩).run P w = .ok (.value (.iface t u)) w := by
            simp [execOp, Act.eval, Instr.makeInterface, run_underlying hk]
          have ht : d < a.tmps.size := by rw [hR.size]; exact Nat.le_of_ble_eq_true hlt
          have r2 : (execOp (a.put (some d) (.iface t u)).eval ⟨dst2, .panic (.tmp d), ty2, pos2, after2, none⟩).run P w = .halt (.panic (.iface t u)) w := by
            simp [execOp, Act.eval, Act.put, ht]
            rfl
          have s2 : Oper.wp P ⟨dst2, .panic (.tmp d), ty2, pos2, after2, none⟩ (a.put (some d) (.iface t u)) w (wpOps P #[⟨some d, .makeInterface t (.const u), ty1, pos1, after1, none⟩, ⟨dst2, .panic (.tmp d), ty2, pos2, after2, none⟩] Q []) Q := by
            unfold Oper.wp
            rw [r2, Oper.upon_panic]
            exact hX _ _ _ hR.defers hx
          have s1 : Oper.wp P ⟨some d, .makeInterface t (.const u), ty1, pos1, after1, none⟩ a w (wpOps P #[⟨some d, .makeInterface t (.const u), ty1, pos1, after1, none⟩, ⟨dst2, .panic (.tmp d), ty2, pos2, after2, none⟩] Q [1]) Q := by
            unfold Oper.wp
            rw [r1, Oper.upon_value]
            unfold wpOps
            show (if _ then _ ∨ _ else _)
            rw [if_pos (wanted_none (ops := #[⟨some d, .makeInterface t (.const u), ty1, pos1, after1, none⟩, ⟨dst2, .panic (.tmp d), ty2, pos2, after2, none⟩]) rfl)]
            exact .inl s2
          show wpOps P _ Q [0, 1] a w
          unfold wpOps
          show (if _ then _ ∨ _ else _)
          rw [if_pos (wanted_none (ops := #[⟨some d, .makeInterface t (.const u), ty1, pos1, after1, none⟩, ⟨dst2, .panic (.tmp d), ty2, pos2, after2, none⟩]) rfl)]
          exact .inl s1
        · cases hv
      · cases hv
    · cases hv
theorem endB_exit {e : AExit} {b : Bool} (h : endB e = some b) : e = exitB b := by
  cases e with
  | normal => injection h with h; subst h; rfl
  | ret => injection h with h; subst h; rfl
  | exit i => cases h
theorem join_goodN {h : Hint} {K : AExit → St → Nat → Option α} {e1 : AExit} {x1 : h.ty.den} {s1 : St} {k1 : Nat} {Q : Exit → Act → World → Prop}
    (hR0 : Rl base w0 S0 φ ψ S s a w) (hG : Good base w0 S0 K r φ ψ S s Q) (hh : h.head s x1 = some s1) (hK : K e1 s1 k1 = some r) : NextS base w0 S0 (fun s' => joinN h s s') x1 φ ψ S s (Q (toExit e1)) := by
  intro t φ3 ψ3 S3 a3 w3 hk hR3 hev3 c1 c2 c3
  simp only [joinN] at hk
  split at hk
  · rename_i hw'
    obtain ⟨ψ4, hR5, hψ4, hn5, d1, d2, d3⟩ := rebase hR0 hR3 c1 c2 c3 hev3.hn hw' hk hh
    exact hG e1 k1 s1 φ3 ψ4 S3 a3 w3 hK hR5 ⟨hn5, hev3.hφ, fun b hb => (hψ4 b hb).trans (hev3.hψ b hb), hev3.hS⟩ d1 d2 d3
  · cases hk
theorem join_good {h : Hint} {K : AExit → St → Nat → Option α} {b1 : Bool} {x1 : h.ty.den} {s1 : St} {k1 : Nat} {Q : Exit → Act → World → Prop}
    (hR0 : Rl base w0 S0 φ ψ S s a w) (hG : Good base w0 S0 K r φ ψ S s Q) (hh : h.head s x1 = some s1) (hK : K (exitB b1) s1 k1 = some r) : Good base w0 S0 (joinK h s) (b1, x1) φ ψ S s Q := by
  intro e k t φ3 ψ3 S3 a3 w3 hk hR3 hev3 c1 c2 c3
  simp only [joinK] at hk
  split at hk
  · rename_i b hb
    split at hk
    · rename_i x' hx'
      injection hk with hk; injection hk with q1 q2
      subst q1; subst q2
      rw [endB_exit hb]
      exact join_goodN hR0 hG hh hK t φ3 ψ3 S3 a3 w3 hx' hR3 hev3 c1 c2 c3
    · cases hk
  · cases hk
theorem ev_sound {Γ : Nat → FuncId → Option Sig} {H : Nat → Option Hint} {inl : Inl} (hΓ : ∀ k, GOk P (Γ k)) (hinl : ∀ β k T, InlOk P base w0 S0 T (inl β k T)) (hm : P.follows .mixedOrders = true) :
    ∀ (c : Code) (α : Type) (r : α) (k : Nat) (T : Value → St → Option α) (X : Value → World → Prop) (s : St) (φ : Nat → Nat) (ψ : Nat → Value) (S : Mem) (a : Act) (w : World) (K : AExit → St → Nat → Option α) (Q : Exit → Act → World → Prop), ev P Γ H inl c α k T s K = some r → Rl base w0 S0 φ ψ S s a w → Good base w0 S0 K r φ ψ S s Q → NextT base w0 S0 T r φ ψ S s X → (∀ v a w', a.defers = [] → X v w' → Q (.panic [{ v := v, recovered := false }]) a w') → c.wp P Q a w
  | .skip, α, r, k, T, X, s, φ, ψ, S, a, w, K, Q, h, hR, hG, hT, hX => by
    simp only [ev] at h
    exact wp_skip (hG .normal k s φ ψ S a w h hR (Evo.refl _ _ _ _) ⟨[], rfl⟩ ⟨[], rfl⟩ rfl)
  | .region id ops draw, α, r, k, T, X, s, φ, ψ, S, a, w, K, Q, h, hR, hG, hT, hX => by
    simp only [ev] at h
    split at h
    · rename_i v hv
      exact throws_sound hv h hR hT hX
    split at h
    · rename_i hh hj
      obtain ⟨x1, he, h⟩ := Option.bind_eq_some_iff.1 h
      cases draw with
      | true => cases hj
      | false =>
      split at h
      · rename_i s1 hs1
        have hG' := join_goodN hR hG hs1 h
        refine wp_region ?_
        have := ops_sound (T := noT) (X := X) FzOk.op (hΓ k) (hinl _ k noT) hX ops.toList 0 s φ ψ S a w (fun s' => joinN hh s s') (by simp) he hR hG' (fun v t φ' ψ' S' a' w' h => by cases h)
        rw [List.range_eq_range']
        simpa using this
      · cases h
    split at h
    · rename_i hd
      cases draw with
      | false =>
        refine wp_region ?_
        have := ops_sound (T := T) (X := X) FzOk.op (hΓ k) (hinl α k T) hX ops.toList 0 s φ ψ S a w (fun s => K .normal s k) (by simp) h hR (hG .normal k) hT
        rw [List.range_eq_range']
        simpa using this
      | true =>
        simp only [Bool.not_true, Bool.false_or, Bool.and_eq_true] at hd
        exact draw_sound (hΓ k) hm hd.1 h hR (hG .normal k)
    · rename_i hd
      split at h
      · rename_i hsel
        cases draw with
        | false => simp at hd
        | true => exact draw2_sound (hΓ k) (hinl α k noT) hm hsel h hR (hG .normal k)
      · cases h
  | .seq x y, α, r, k, T, X, s, φ, ψ, S, a, w, K, Q, h, hR, hG, hT, hX => by
    simp only [ev] at h
    refine wp_seq (ev_sound hΓ hinl hm x α r k T X s φ ψ S a w _ _ h hR ?_ hT (fun v a w' hd hx => hX v a w' hd hx))
    intro e k' t φ2 ψ2 S2 a2 w2 hk hR2 hev c1 c2 c3
    cases e with
    | normal => exact ev_sound hΓ hinl hm y α r k' T X t φ2 ψ2 S2 a2 w2 K Q hk hR2 (hG.trans (fun e k t ht => ⟨k, ht⟩) hev c1 c2 c3) (hT.trans hev c2) hX
    | exit id => exact hG (.exit id) k' t φ2 ψ2 S2 a2 w2 hk hR2 hev c1 c2 c3
    | ret => exact hG .ret k' t φ2 ψ2 S2 a2 w2 hk hR2 hev c1 c2 c3
  | .cond c x y, α, r, k, T, X, s, φ, ψ, S, a, w, K, Q, h, hR, hG, hT, hX => by
    simp only [ev] at h
    split at h
    · rename_i b hb
      have hc := hR.valEq hb
      split at h
      · rcases cond_some h with ⟨rfl, h⟩ | ⟨rfl, h⟩
        · exact wp_cond_true hc (ev_sound hΓ hinl hm x α r k T X s φ ψ S a w K Q h hR hG hT hX)
        · exact wp_cond_false hc (ev_sound hΓ hinl hm y α r k T X s φ ψ S a w K Q h hR hG hT hX)
      · rename_i hh _
        obtain ⟨⟨b1, x1⟩, he, h⟩ := Option.bind_eq_some_iff.1 h
        simp only at h
        split at h
        · rename_i s1 hs1
          have hK : K (exitB b1) s1 k = some r := by cases b1 <;> exact h
          have hG' : Good base w0 S0 (joinK hh s) (b1, x1) φ ψ S s Q := join_good hR hG hs1 hK
          have hT0 : NextT base w0 S0 noT (b1, x1) φ ψ S s X := fun v t φ' ψ' S' a' w' h => by cases h
          rcases cond_some he with ⟨rfl, he⟩ | ⟨rfl, he⟩
          · exact wp_cond_true hc (ev_sound hΓ hinl hm x _ _ k noT X s φ ψ S a w _ Q he hR hG' hT0 hX)
          · exact wp_cond_false hc (ev_sound hΓ hinl hm y _ _ k noT X s φ ψ S a w _ Q he hR hG' hT0 hX)
        · cases h
    · cases h
  | .block id c, α, r, k, T, X, s, φ, ψ, S, a, w, K, Q, h, hR, hG, hT, hX => by
    simp only [ev] at h
    refine wp_block (ev_sound hΓ hinl hm c α r k T X s φ ψ S a w _ _ h hR ?_ hT (fun v a w' hd hx => hX v a w' hd hx))
    intro e k' t φ2 ψ2 S2 a2 w2 hk hR2 hev c1 c2 c3
    cases e with
    | normal => exact hG .normal k' t φ2 ψ2 S2 a2 w2 hk hR2 hev c1 c2 c3
    | ret => exact hG .ret k' t φ2 ψ2 S2 a2 w2 hk hR2 hev c1 c2 c3
    | exit i =>
      simp only at hk
      show Exit.inBlock id Q (.exit i) a2 w2
      simp only [Exit.inBlock]
      split at hk
      · rename_i hi
        rw [if_pos (Nat.eq_of_beq_eq_true hi)]
        exact hG .normal k' t φ2 ψ2 S2 a2 w2 hk hR2 hev c1 c2 c3
      · rename_i hi
        rw [if_neg (fun e => by rw [e, Nat.beq_refl] at hi; cases hi)]
        exact hG (.exit i) k' t φ2 ψ2 S2 a2 w2 hk hR2 hev c1 c2 c3
  | .loop c, α, r, k, T, X, s, φ, ψ, S, a, w, K, Q, h, hR, hG, hT, hX => by
    simp only [ev] at h
    split at h
    · rename_i hh _
      obtain ⟨S1, hR1, hev1, htm1, ⟨pre1, hst1⟩, hnt1, hn1⟩ := frzPl_sound hh.places hR
      have hG1 : Good base w0 S0 K r φ ψ S1 (frzPl s hh.places) Q := hG.trans (fun e k t ht => ⟨k, ht⟩) hev1 ⟨[], by rw [htm1]; rfl⟩ ⟨pre1, hst1⟩ hnt1
      split at h
      · rename_i hw
        split at h
        · rename_i x hx
          obtain ⟨⟨e1, x1⟩, he, h⟩ := Option.bind_eq_some_iff.1 h
          simp only at h
          split at h
          · rename_i s1 hs1
            have hK : e1 ≠ .normal ∧ K e1 s1 k = some r := by
              split at h
              · cases h
              · exact ⟨by simp, h⟩
              · exact ⟨by simp, h⟩
            exact loop_sound (fun k s φ ψ S a w K r Q h hR hG => ev_sound hΓ hinl hm c _ r k noT (fun _ _ => False) s φ ψ S a w K Q h hR hG (fun v t φ' ψ' S' a' w' h => by cases h) (fun v a w' _ h => h.elim)) hR1 hG1 hw hx he hs1 hK.1 hK.2
          · cases h
        · cases h
      · cases h
    · exact wp_loop_rounds 9 (rep_sound (T := T) (X := X) hX (fun s φ ψ S a w K Q h hR hG hT hX => ev_sound hΓ hinl hm c _ r k T X s φ ψ S a w K Q h hR hG hT hX) 9 s φ ψ S a w h hR hG hT)
  | .exit id, α, r, k, T, X, s, φ, ψ, S, a, w, K, Q, h, hR, hG, hT, hX => by
    simp only [ev] at h
    exact wp_exit (hG (.exit id) k s φ ψ S a w h hR (Evo.refl _ _ _ _) ⟨[], rfl⟩ ⟨[], rfl⟩ rfl)
  | .ret, α, r, k, T, X, s, φ, ψ, S, a, w, K, Q, h, hR, hG, hT, hX => by
    simp only [ev] at h
    exact wp_ret (hG .ret k s φ ψ S a w h hR (Evo.refl _ _ _ _) ⟨[], rfl⟩ ⟨[], rfl⟩ rfl)
  | .rangeFunc .., α, r, k, T, X, s, φ, ψ, S, a, w, K, Q, h, hR, hG, hT, hX => by simp [ev] at h
  | .scope c, α, r, k, T, X, s, φ, ψ, S, a, w, K, Q, h, hR, hG, hT, hX => by
    simp only [ev] at h
    refine wp_scope_straight (ev_sound hΓ hinl hm c α r k T X s φ ψ S a w K _ h hR ?_ hT (fun v a w' hd hx => hX v a w' hd hx))
    intro e k' t φ2 ψ2 S2 a2 w2 hk hR2 hev c1 c2 c3
    have := hG e k' t φ2 ψ2 S2 a2 w2 hk hR2 hev c1 c2 c3
    cases e <;> exact this
  | .label _, α, r, k, T, X, s, φ, ψ, S, a, w, K, Q, h, hR, hG, hT, hX => by
    simp only [ev] at h
    exact wp_label (hG .normal k s φ ψ S a w h hR (Evo.refl _ _ _ _) ⟨[], rfl⟩ ⟨[], rfl⟩ rfl)
  | .goto _, α, r, k, T, X, s, φ, ψ, S, a, w, K, Q, h, hR, hG, hT, hX => by simp [ev] at h
  | .refuse _, α, r, k, T, X, s, φ, ψ, S, a, w, K, Q, h, hR, hG, hT, hX => by simp [ev] at h
theorem enumF_look : ∀ {args : List AV} {i d : Nat} {v : AV}, look (enumF i args) d = some v → i ≤ d ∧ args[d - i]? = some v
  | [], i, d, v, h => by simp [enumF, look] at h
  | x :: args, i, d, v, h => by
    simp only [enumF] at h
    rcases put_keys h with ⟨rfl, rfl⟩ | ⟨hne, h⟩
    · exact ⟨Nat.le_refl _, by simp⟩
    · obtain ⟨h1, h2⟩ := enumF_look h
      refine ⟨by omega, ?_⟩
      rw [show d - i = (d - (i + 1)) + 1 by omega, List.getElem?_cons_succ]; exact h2
def resSem (tmps : Array Value) : ResultVar → Sem Value
  | .tmp t => Pure.pure (tmps.getD t undef)
  | .cell x t => do loadVar t (← asAddr (tmps.getD x undef))
theorem results_eq (fn : Func) (tmps : Array Value) : results fn tmps = (fn.results.mapM (resSem tmps)) >>= fun vs => Pure.pure (if h : vs.size = 1 then vs[0] else .tuple vs) := by
  unfold results
  have : (fun x : ResultVar => match x with
      | .tmp t => (Pure.pure (tmps.getD t undef) : Sem Value)
      | .cell a t => do loadVar t (← asAddr (tmps.getD a undef))) = resSem tmps := by funext x; cases x <;> rfl
  rw [← this]
  rfl
theorem resAV_rel {s' : St} {l : ResultVar} {v : AV} (hR : Rl base w0 S0 φ ψ S s' a w) (h : resAV P s' l = some v) :
    ∃ u, (resSem a.tmps l).run P w = .ok u w ∧ ARel φ ψ S s'.n v u := by
  cases l with
  | tmp t =>
    simp only [resAV] at h
    obtain rfl := Option.some.inj h
    exact ⟨_, rfl, hR.get t⟩
  | cell x t =>
    simp only [resAV] at h
    split at h
    · rename_i b off hg
      split at h
      · rename_i l e hk
        have hx := hR.get x; rw [hg] at hx
        obtain ⟨_, hx⟩ := hx
        obtain ⟨vs, h1, h2, h3⟩ := ptr_cells (off := off) hR hk
        obtain ⟨u, h4, h5⟩ := loadVar_rel (P := P) (w := w) h (h2.drop off) h3
        exact ⟨u, by simp [resSem, hx, asAddr, h4], h5⟩
      · cases h
    · cases h
theorem tupAV_rel {n : Nat} {v : AV} {p : Bool × List CV} {u : Value} (h : tupAV v = some p) (hv : ARel φ ψ S n v u) : TRel φ ψ S n p u := by
  unfold tupAV at h
  split at h
  · rename_i c
    split at h
    · rename_i l hl
      obtain rfl := Option.some.inj h
      cases c with
      | any => simp [AV.cells] at hl
      | val z => exact ⟨hv, by cases z <;> simp [AV.cells] at hl <;> rfl⟩
      | _ => exact hv
    · cases h
  · obtain rfl := Option.some.inj h; exact hv
  · cases h
theorem resultsAV_rel {s' : St} (hR : Rl base w0 S0 φ ψ S s' a w) : ∀ {l : List ResultVar} {ps : List (Bool × List CV)}, resultsAV P s' l = some ps →
    ∃ us : List Value, (l.mapM (resSem a.tmps)).run P w = .ok us w ∧ All2 (TRel φ ψ S s'.n) ps us
  | [], ps, h => by
    simp [resultsAV] at h; subst h
    exact ⟨[], rfl, trivial⟩
  | r1 :: l, ps, h => by
    simp only [resultsAV] at h
    split at h
    · rename_i v hv
      split at h
      · rename_i p q hp hq
        obtain rfl := Option.some.inj h
        obtain ⟨u, h1, h2⟩ := resAV_rel hR hv
        obtain ⟨us, h3, h4⟩ := resultsAV_rel hR hq
        refine ⟨u :: us, ?_, tupAV_rel hp h2, h4⟩
        rw [List.mapM_cons, Sem.run_bind, h1]
        simp only [Result.andThen_ok]
        rw [Sem.run_bind, h3]
        rfl
      · cases h
    · cases h
theorem resultAV_run {s' : St} {fn : Func} {v : AV} (hR : Rl base w0 S0 φ ψ S s' a w) (h : resultAV P s' fn.results.toList = some v) : ∃ u, (results fn a.tmps).run P w = .ok u w ∧ ARel φ ψ S s'.n v u := by
  rw [results_eq, Sem.run_bind, Array.mapM_eq_mapM_toList]
  unfold resultAV at h
  split at h
  · rename_i r1 hr
    obtain ⟨u, h1, h2⟩ := resAV_rel hR h
    refine ⟨u, ?_, h2⟩
    rw [hr, Sem.run_map, List.mapM_cons, Sem.run_bind, h1]
    simp
  · rename_i hne
    split at h
    · rename_i ps hps
      obtain rfl := Option.some.inj h
      obtain ⟨us, h1, h2⟩ := resultsAV_rel hR hps
      refine ⟨.tuple us.toArray, ?_, us, rfl, h2⟩
      rw [Sem.run_map, h1]
      have hl : us.length ≠ 1 := by
        intro e
        have hl1 : ps.length = 1 := by rw [h2.length, e]
        cases hfr : fn.results.toList with
        | nil => rw [hfr] at hps; simp [resultsAV] at hps; subst hps; simp at hl1
        | cons r1 l =>
          cases l with
          | nil => exact hne r1 hfr
          | cons r2 l =>
            rw [hfr] at hps
            simp only [resultsAV] at hps
            split at hps
            · split at hps
              · rename_i p q _ hq
                obtain rfl := Option.some.inj hps
                split at hq
                · split at hq
                  · obtain rfl := Option.some.inj hq; simp at hl1
                  · cases hq
                · cases hq
              · cases hps
            · cases hps
      simp [hl]
    · cases h
theorem evF_sound {Γ : Nat → FuncId → Option Sig} {Φ : Nat → FuncId → Option Special} {H : FuncId → Nat → Option Hint} (hΓ : ∀ k, GOk P (Γ k)) (hΦ : ∀ k, POk P (Φ k)) (hm : P.follows .mixedOrders = true) : ∀ (D : Nat) (α : Type) (k : Nat) (T : Value → St → Option α), InlOk P base w0 S0 T (evF P Γ Φ H D α k T)
  | 0, α, k, T => fun f args s K r φ ψ S a w vs N X h => by simp [evF] at h
  | D + 1, α, k, T => fun f args s K r φ ψ S a w vs N X h hR hargs hN hT => by
    simp only [evF] at h
    split at h
    · rename_i i hi
      exact got_sound hi (fun T => evF_sound hΓ hΦ hm D α k T) h hR hargs hN
    split at h
    · rename_i g hg
      exact lend_sound (hΦ k _ _ hg) h hR hargs hN
    · rename_i g hg
      exact fresh_sound (hΦ k _ _ hg) h hR hargs hN
    · rename_i ty hg
      exact spoil_sound (hΦ k _ _ hg) h hR hargs hN
    split at h
    · rename_i fn hf
      split at h
      · rename_i c hb hnm hle
        have hle : args.length ≤ fn.ntmps := Nat.le_of_ble_eq_true hle
        have hlen := hargs.length
        refine ⟨fun args' w' => ?_, ?_⟩
        · have hnm' : (fn.name == "runtime.NumGoroutine") = false := hnm
          unfold callFunc
          rw [Sem.run_bind]
          simp only [run_program, Result.andThen_ok, hf, hnm', Bool.false_eq_true, if_false, hb, Option.isNone_some]
          rfl
        · refine calls_of_wp hf hb ?_
          have hR1 : Rl base w0 S0 φ ψ S { tm := enumF 0 args, st := s.st, n := s.n, nt := fn.ntmps } { tmps := vs.toArray ++ Array.replicate (fn.ntmps - vs.toArray.size) undef, defers := [] } w := by
            refine ⟨hR.s0, hR.snew, hR.sw, hR.below, hR.bsz, rfl, by simp; omega, fun d v hd => ?_, hR.st, hR.apart⟩
            obtain ⟨_, h2⟩ := enumF_look hd
            rw [Nat.sub_zero] at h2
            obtain ⟨u, h3, h4⟩ := hargs.get h2
            have hlt := (List.getElem?_eq_some_iff.1 h2).1
            refine ⟨by show d < fn.ntmps; omega, ?_⟩
            have : (vs.toArray ++ Array.replicate (fn.ntmps - vs.toArray.size) undef).getD d undef = u := by
              rw [Array.getD_eq_getD_getElem?, Array.getElem?_append_left (by simp; omega)]
              simp [h3]
            rw [this]; exact h4
          refine ev_sound hΓ (fun β k T => evF_sound hΓ hΦ hm D β k T) hm c α r k T X _ φ ψ S _ w _ _ h hR1 ?_ hT (fun v a w' hd hx => ⟨hd, .inr ⟨v, rfl, hx⟩⟩)
          intro e k' t φ2 ψ2 S2 a2 w2 hk hR2 hev c1 c2 c3
          have key : (∃ v, resultAV P t fn.results.toList = some v ∧ K v { s with st := t.st, n := t.n } = some r) → a2.defers = [] ∧ ∃ v, (results fn a2.tmps).run P w2 = .ok v w2 ∧ BackOr N X (Ending.returned v) w2 := by
            rintro ⟨v, h1, h2⟩
            obtain ⟨u, h3, h4⟩ := resultAV_run hR2 h1
            refine ⟨hR2.defers, u, h3, .inl ⟨u, rfl, ?_⟩⟩
            refine hN v _ φ2 ψ2 S2 u w2 h2 ⟨hR2.s0, hR2.snew, hR2.sw, hR2.below, hR2.bsz, hR.defers, hR.size, fun d v' hd => ?_, hR2.st, hR2.apart⟩ h4 hev rfl c2 rfl
            obtain ⟨g1, g2⟩ := hR.tm d v' hd
            exact ⟨g1, g2.evo hev⟩
          cases e with
          | exit id => cases hk
          | normal =>
            simp only at hk
            split at hk
            · rename_i v hv; exact key ⟨v, hv, hk⟩
            · cases hk
          | ret =>
            simp only at hk
            split at hk
            · rename_i v hv; exact key ⟨v, hv, hk⟩
            · cases hk
      · cases h
    · cases h
theorem argAVs_rel (n : Nat) : ∀ {ts : List Ty} {x : (ts.foldr Ty.cons .nil).den} {vs : List Value}, ArgsRep S ts x vs → All2 (ARel φ ψ S n) (argAVs ts x) vs
  | [], _, [], _ => trivial
  | [], _, _ :: _, h => h.elim
  | _ :: _, _, [], h => h.elim
  | t :: ts, x, v :: vs, h => ⟨toAV_rel n h.1, argAVs_rel n h.2⟩
theorem top_sound {Γ : Nat → FuncId → Option Sig} {Φ : Nat → FuncId → Option Special} {H : FuncId → Nat → Option Hint} (hΓ : ∀ k, GOk P (Γ k)) (hΦ : ∀ k, POk P (Φ k)) (hm : P.follows .mixedOrders = true) {D k : Nat} {f : FuncId} {ts res : List Ty} {x : (ts.foldr Ty.cons .nil).den} {y : (res.foldr Ty.cons .nil).den}
    (h : evTop P Γ Φ H D k f (argAVs ts x) res = some y) {S : Mem} {w : World} {vs : List Value} (hS : ∀ p v, S p = some v → w.cell? p = some v) (ha : ArgsRep S ts x vs) :
    (∀ args w, (callFunc f args).run P w = .ok (.enter f args) w) ∧ Calls P f vs.toArray w (Comes1 res y S w) := by
  have hR : Rl w.heap.size w S (fun _ => 0) (fun _ => undef) S { tm := [], st := [], n := 0, nt := 0 } { tmps := #[], defers := [] } w :=
    ⟨Mem.le_refl _, fun p v e e0 => (by rw [e] at e0; cases e0), hS, Below.refl _ _, Nat.le_refl _, rfl, rfl, fun d v e => (by simp [look] at e), fun d v e => (by simp [look] at e), fun b b' k k' g e => (by simp [look] at e)⟩
  unfold evTop at h
  obtain ⟨h1, h2⟩ := evF_sound hΓ hΦ hm D _ k noT f _ _ _ _ _ _ _ _ _ vs (fun u w' => Comes1 res y S w (.returned u) w') (fun _ _ => False) h hR (argAVs_rel 0 ha) (by
    intro v s' φ' ψ' S' u w' hk hR' hv hev _ _ _
    obtain ⟨Sf, hRf, hevf, _⟩ := frz_sound hR' v
    have hvf := hv.evo hevf
    obtain ⟨sf, hsf⟩ : ∃ sf, s'.frz v = sf := ⟨_, rfl⟩
    dsimp only at hk
    rw [hsf] at hk hRf hevf
    have hvf := hv.evo hevf
    clear hR' hv
    have hR' := hRf
    have hv' := hR'.deref hvf
    refine ⟨u, Sf, rfl, Mem.le_trans hev.hS hevf.hS, hR'.sw, hR'.snew, ?_, hR'.below⟩
    have many : ∀ (l : List (Bool × List CV)), sf.deref v = .tup l → argsOf res (l.map fun p => match p with | (true, l) => AV.agg l | (false, [c]) => .one c | _ => .one .any) = some y → ∃ us : List Value, u = .tuple us.toArray ∧ ArgsRep Sf res y us := by
      intro l e hk
      rw [e] at hv'
      obtain ⟨us, rfl, hl⟩ := hv'
      refine ⟨us, rfl, argsOf_rel (φ := φ') (ψ := ψ') (n := sf.n) hk (All2.map_l (hl.mono fun p u hp => ?_))⟩
      obtain ⟨q, cs⟩ := p
      cases q with
      | true => exact hp
      | false =>
        match cs, hp with
        | [c], hp => exact ARel.of_one hp
    match res, y, hk, many with
    | [t], y, hk, _ =>
      simp only at hk
      split at hk
      · rename_i z hz
        obtain rfl := Option.some.inj hk
        exact unAV_rel hz hv'
      · cases hk
    | [], y, hk, many =>
      cases hd : sf.deref v with
      | tup l => simp only [hd] at hk; exact many l hd hk
      | one c => simp only [hd] at hk; cases hk
      | agg l => simp only [hd] at hk; cases hk
    | t :: t' :: ts, y, hk, many =>
      cases hd : sf.deref v with
      | tup l => simp only [hd] at hk; exact many l hd hk
      | one c => simp only [hd] at hk; cases hk
      | agg l => simp only [hd] at hk; cases hk) (fun v t φ' ψ' S' a' w' h => by cases h)
  refine ⟨h1, h2.mono ?_⟩
  rintro e w' (⟨u, rfl, hc⟩ | ⟨_, _, hx⟩)
  · exact hc
  · exact hx.elim
theorem fn_ok {Γ : Nat → FuncId → Option Sig} {Φ : Nat → FuncId → Option Special} {H : FuncId → Nat → Option Hint} (hΓ : ∀ k, GOk P (Γ k)) (hΦ : ∀ k, POk P (Φ k)) (hm : P.follows .mixedOrders = true) {D : Nat} {f : FuncId} {g : Sig} (he : ∀ args w, (callFunc f args).run P w = .ok (.enter f args) w)
    (h : ∀ x y, g.den x = some y → ∃ k, evTop P Γ Φ H D k f (argAVs g.args x) g.res = some y) : FnOk P f g :=
  ⟨he, fun x y hy S w vs hS ha => by
    obtain ⟨k, hk⟩ := h x y hy
    exact (top_sound hΓ hΦ hm hk hS ha).2⟩
end
end Go.Proofs.YtohlhliifeeokaaGreat.Ab
