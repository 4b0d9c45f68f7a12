/- Abstract runs: calls, regions, code: what is answered is what a call comes to. -/
import Derived.Test.YtohlhliifeeokaaGreatAbR
namespace Go.Proofs.YtohlhliifeeokaaGreat.Ab
open Go Go.RowKit
set_option linter.unusedVariables false
set_option linter.unusedSimpArgs false
def Rep1 (S : Mem) (t : Ty) (x : t.den) (v : Value) : Prop := match isAggT t with
  | true => ∃ us : List Value, v = .agg us.toArray ∧ Reps S t x us
  | false => Reps S t x [v]
def ArgsRep (S : Mem) : (ts : List Ty) → (ts.foldr Ty.cons .nil).den → List Value → Prop
  | [], _, [] => True
  | t :: ts, x, v :: vs => Rep1 S t x.1 v ∧ ArgsRep S ts x.2 vs
  | _, _, _ => False
def ResRep (S : Mem) : (ts : List Ty) → (ts.foldr Ty.cons .nil).den → Value → Prop
  | [t], y, u => Rep1 S t y.1 u
  | ts, y, u => ∃ us : List Value, u = .tuple us.toArray ∧ ArgsRep S ts y us
def Comes1 (ts : List Ty) (y : (ts.foldr Ty.cons .nil).den) (S : Mem) (w : World) (e : Ending) (w' : World) : Prop :=
  ∃ u S', e = .returned u ∧ S.le S' ∧ (∀ p v, S' p = some v → w'.cell? p = some v) ∧ (∀ p v, S' p = some v → S p = none → w.heap.size ≤ p.block ∧ Unfz w' p.block) ∧ ResRep S' ts y u ∧ Below w.heap.size w w'
structure FnOk (P : Program) (f : FuncId) (g : Sig) : Prop where
  enters : ∀ args w, (callFunc f args).run P w = .ok (.enter f args) w
  calls : ∀ x y, g.den x = some y → ∀ (S : Mem) (w : World) (vs : List Value), (∀ p v, S p = some v → w.cell? p = some v) → ArgsRep S g.args x vs → Calls P f vs.toArray w (Comes1 g.res y S w)
section
variable {P : Program} {base : Nat} {w0 : World} {S0 : Mem} {φ : Nat → Nat} {ψ : Nat → Value} {S : Mem} {s : St} {a : Act} {w : World}
variable {α : Type} {K : AV → St → Option α} {r : α} {dst : Option Tmp} {ty : TypeId} {pos : String} {after : Array Edge} {guard : Option (Nat × Bool)}
theorem unAV_rel {n : Nat} {t : Ty} {v : AV} {x : t.den} {u : Value} (h : unAV t v = some x) (hv : ARel φ ψ S n v u) : Rep1 S t x u := by
  unfold unAV at h
  unfold Rep1
  split at h
  · rename_i l ht
    rw [ht]
    split at h
    · rename_i y hy
      obtain rfl := Option.some.inj h
      obtain ⟨vs, rfl, hl⟩ := hv
      obtain ⟨us, ws, rfl, h1, h2⟩ := unCV_rel hy hl
      obtain rfl := All2.nil_inv h2
      exact ⟨us, by simp, h1⟩
    · cases h
  · rename_i c ht
    rw [ht]
    split at h
    · rename_i y hy
      obtain rfl := Option.some.inj h
      have hc : CRel φ ψ S n c u := by
        cases c with
        | any => cases t <;> simp [unCV, unInt, unBool, unStr, unSl, isAggT] at hy ht
        | val v =>
          refine ⟨hv, ?_⟩
          have : ¬ ((∃ z, v = .agg z) ∨ ∃ z, v = .tuple z) := by
            rintro (⟨z, rfl⟩ | ⟨z, rfl⟩) <;> cases t <;> simp [unCV, unInt, unBool, unStr, unSl, isAggT] at hy ht
          cases v <;> first | rfl | (exfalso; exact this (.inl ⟨_, rfl⟩)) | (exfalso; exact this (.inr ⟨_, rfl⟩))
        | _ => exact hv
      obtain ⟨us, ws, e, h1, h2⟩ := unCV_rel hy (show All2 (CRel φ ψ S n) [c] [u] from ⟨hc, trivial⟩)
      obtain rfl := All2.nil_inv h2
      rw [List.append_nil] at e
      show Reps S t _ [u]
      rw [e]; exact h1
    · cases h
  · cases h
theorem argsOf_rel {n : Nat} : ∀ {ts : List Ty} {vs : List AV} {x : (ts.foldr Ty.cons .nil).den} {us : List Value}, argsOf ts vs = some x → All2 (ARel φ ψ S n) vs us → ArgsRep S ts x us
  | [], vs, x, us, h, hl => by
    cases vs with
    | nil => obtain rfl := All2.nil_inv hl; trivial
    | cons v vs => simp [argsOf] at h
  | t :: ts, vs, x, us, h, hl => by
    cases vs with
    | nil => simp [argsOf] at h
    | cons v vs =>
      simp only [argsOf] at h
      split at h
      · rename_i y hy
        split at h
        · rename_i z hz
          obtain rfl := Option.some.inj h
          obtain ⟨u, us', rfl, h1, h2⟩ := All2.cons_inv hl
          exact ⟨unAV_rel hy h1, argsOf_rel hz h2⟩
        · cases h
      · cases h
theorem toAV_rel (n : Nat) {t : Ty} {x : t.den} {u : Value} (h : Rep1 S t x u) : ARel φ ψ S n (toAV t x) u := by
  cases t with
  | nil => obtain ⟨us, rfl, h⟩ := h; exact ⟨us, rfl, h.all2 n⟩
  | cons a b => obtain ⟨us, rfl, h⟩ := h; exact ⟨us, rfl, h.all2 n⟩
  | int k => simp only [Rep1, isAggT, Reps] at h; exact List.cons.inj h |>.1
  | bool => simp only [Rep1, isAggT, Reps] at h; exact List.cons.inj h |>.1
  | str => simp only [Rep1, isAggT, Reps] at h; exact List.cons.inj h |>.1
  | sl t => exact h
theorem tupOf_rel (n : Nat) : ∀ {ts : List Ty} {x : (ts.foldr Ty.cons .nil).den} {us : List Value}, ArgsRep S ts x us → All2 (TRel φ ψ S n) (tupOf ts x) us
  | [], x, [], h => trivial
  | [], x, _ :: _, h => h.elim
  | t :: ts, x, [], h => h.elim
  | t :: ts, x, u :: us, h => by
    refine ⟨?_, tupOf_rel n h.2⟩
    have h1 := h.1
    unfold Rep1 at h1
    split at h1
    · rename_i ht
      obtain ⟨vs, rfl, h1⟩ := h1
      show TRel φ ψ S n (isAggT t, cellsCV t x.1) _
      rw [ht]; exact ⟨vs, rfl, h1.all2 n⟩
    · rename_i ht
      show TRel φ ψ S n (isAggT t, cellsCV t x.1) u
      rw [ht]
      have h2 := h1.all2 (φ := φ) (ψ := ψ) n
      obtain ⟨c, hc⟩ : ∃ c, cellsCV t x.1 = [c] := by
        have := h2.length
        match hcc : cellsCV t x.1, this with
        | [c], _ => exact ⟨c, rfl⟩
      rw [hc] at h2 ⊢
      exact h2.1
theorem resOf_rel (n : Nat) {ts : List Ty} {y : (ts.foldr Ty.cons .nil).den} {u : Value} (h : ResRep S ts y u) : ARel φ ψ S n (resOf ts y) u := by
  match ts, y, h with
  | [], y, ⟨us, e, h⟩ => exact ⟨us, e, tupOf_rel n h⟩
  | [t], y, h => exact toAV_rel n h
  | t :: t' :: ts, y, ⟨us, e, h⟩ => exact ⟨us, e, tupOf_rel (ts := t :: t' :: ts) n h⟩
def Next1 (base : Nat) (w0 : World) (S0 : Mem) (K : AV → St → Option α) (r : α) (φ : Nat → Nat) (ψ : Nat → Value) (S : Mem) (s : St) (a : Act) (N : Value → World → Prop) : Prop :=
  ∀ v s' φ' ψ' S' u w', K v s' = some r → Rl base w0 S0 φ' ψ' S' s' a w' → ARel φ' ψ' S' s'.n v u → Evo φ ψ S s.n φ' ψ' S' s'.n → s'.tm = s.tm → (∃ pre, s'.st = pre ++ s.st) → s'.nt = s.nt → N u w'
def NextT (base : Nat) (w0 : World) (S0 : Mem) (T : Value → St → Option α) (r : α) (φ : Nat → Nat) (ψ : Nat → Value) (S : Mem) (s : St) (X : Value → World → Prop) : Prop :=
  ∀ v t φ' ψ' S' a' w', T v t = some r → Rl base w0 S0 φ' ψ' S' t a' w' → Evo φ ψ S s.n φ' ψ' S' t.n → (∃ pre, t.st = pre ++ s.st) → X v w'
theorem NextT.trans {T : Value → St → Option α} {X : Value → World → Prop} {s' : St} {φ' : Nat → Nat} {ψ' : Nat → Value} {S' : Mem} (h : NextT base w0 S0 T r φ ψ S s X) (ev : Evo φ ψ S s.n φ' ψ' S' s'.n) (h2 : ∃ pre, s'.st = pre ++ s.st) : NextT base w0 S0 T r φ' ψ' S' s' X := by
  intro v t φ2 ψ2 S2 a2 w2 ht hR he ⟨pre, e⟩
  obtain ⟨pre2, h2⟩ := h2
  exact h v t φ2 ψ2 S2 a2 w2 ht hR (ev.trans he) ⟨pre ++ pre2, by rw [e, h2, List.append_assoc]⟩
def BackOr (N X : Value → World → Prop) (e : Ending) (w' : World) : Prop := (∃ u, e = .returned u ∧ N u w') ∨ ∃ v, e = .panicked [{ v := v, recovered := false }] ∧ X v w'
def InlOk (P : Program) (base : Nat) (w0 : World) (S0 : Mem) (T : Value → St → Option α) (inl : FuncId → List AV → St → (AV → St → Option α) → Option α) : Prop :=
  ∀ f args s K r φ ψ S a w vs N X, inl f args s K = some r → Rl base w0 S0 φ ψ S s a w → All2 (ARel φ ψ S s.n) args vs → Next1 base w0 S0 K r φ ψ S s a N → NextT base w0 S0 T r φ ψ S s X →
    (∀ args w, (callFunc f args).run P w = .ok (.enter f args) w) ∧ Calls P f vs.toArray w (BackOr N X)
def GOk (P : Program) (Γ : FuncId → Option Sig) : Prop := ∀ f g, Γ f = some g → FnOk P f g
theorem Rl.called (h : Rl base w0 S0 φ ψ S s a w) {S' : Mem} {w' : World} (hS : S.le S') (hw : ∀ p v, S' p = some v → w'.cell? p = some v) (hn : ∀ p v, S' p = some v → S p = none → w.heap.size ≤ p.block ∧ Unfz w' p.block) (hb : Below w.heap.size w w') :
    Rl base w0 S0 φ ψ S' s a w' ∧ Evo φ ψ S s.n φ ψ S' s.n := by
  have ev : Evo φ ψ S s.n φ ψ S' s.n := ⟨Nat.le_refl _, fun _ _ => rfl, fun _ _ => rfl, hS⟩
  refine ⟨h.upd ev rfl rfl (fun p v e e0 => ⟨Nat.le_trans h.bsz (hn p v e e0).1, (hn p v e e0).2⟩) hw (hb.mono h.bsz) (fun b k e => .inl ⟨e, fun g f => ?_⟩) (fun b k _ _ _ e _ n _ _ _ => absurd e n) (fun g _ ⟨cur, e, q⟩ => ⟨cur, e, (hb.block g (Array.getElem?_eq_some_iff.1 q).1).trans q⟩), ev⟩
  have hlt := ((h.st b k e).2.lt f).1
  refine ⟨hb.block g hlt, fun off sp => ?_⟩
  cases hs : S ⟨g, off, sp⟩ with
  | some v => exact hS _ _ hs
  | none =>
    cases hs' : S' ⟨g, off, sp⟩ with
    | none => rfl
    | some v => have := hn _ _ hs' hs; simp at this; omega
theorem args_rel (hR : Rl base w0 S0 φ ψ S s a w) : ∀ (l : List Operand), All2 (ARel φ ψ S s.n) (l.map (aval s)) (l.map a.eval)
  | [] => trivial
  | x :: l => ⟨hR.val x, args_rel hR l⟩
theorem argsR_rel (hR : Rl base w0 S0 φ ψ S s a w) : ∀ (l : List Operand), All2 (ARel φ ψ S s.n) (l.map (avalR s)) (l.map a.eval)
  | [] => trivial
  | x :: l => ⟨hR.valR x, argsR_rel hR l⟩
theorem builtin_sound {b : Builtin} {ts : Array TypeId} {xs : Array Operand} {rt : TypeId} {cs : Array Bool} (hR : Rl base w0 S0 φ ψ S s a w) (h : evBuiltin P b ts.toList xs.toList s K = some r) :
    ∃ v s' φ' ψ' S' u w', K v s' = some r ∧ (builtin b ts rt cs (xs.map a.eval)).run P w = .ok (.value u) w' ∧ Rl base w0 S0 φ' ψ' S' s' a w' ∧ ARel φ' ψ' S' s'.n v u ∧ Evo φ ψ S s.n φ' ψ' S' s'.n ∧ s'.tm = s.tm ∧ (∃ pre, s'.st = pre ++ s.st) ∧ s'.nt = s.nt := by
  unfold evBuiltin at h
  have two : ∀ {α : Type} {xs : Array α} {l : List α}, xs.toList = l → xs = l.toArray := fun h => by rw [← h]
  split at h
  · rename_i t x h1 h2
    rw [two h1, two h2]
    split at h
    · rename_i v ht hx
      have hx' := hR.valR x; rw [hx] at hx'
      have hx' : a.eval x = .string v := hx'
      refine ⟨_, _, φ, ψ, S, .int .i64 v.size, w, h, ?_, hR, rfl, Evo.refl _ _ _ _, rfl, ⟨[], rfl⟩, rfl⟩
      simp [builtin, Builtin.len_, run_underlying ht, hx', goInt]
    · rename_i e tt l ht hx
      have hx' := hR.valR x; rw [hx] at hx'
      obtain ⟨A, c, hx', _⟩ := hx'
      simp at hx'
      refine ⟨_, _, φ, ψ, S, .int .i64 (l.length : Int), w, h, ?_, hR, rfl, Evo.refl _ _ _ _, rfl, ⟨[], rfl⟩, rfl⟩
      simp [builtin, Builtin.len_, run_underlying ht, hx', goInt]
    · rename_i e b n c ht hx
      have hx' := hR.valR x; rw [hx] at hx'
      obtain ⟨_, _, hx'⟩ := hx'
      refine ⟨_, _, φ, ψ, S, .int .i64 (n : Int), w, h, ?_, hR, rfl, Evo.refl _ _ _ _, rfl, ⟨[], rfl⟩, rfl⟩
      simp [builtin, Builtin.len_, run_underlying ht, hx', goInt]
    · rename_i e b ht hx
      have hx' := hR.valR x; rw [hx] at hx'
      obtain ⟨_, hx', _⟩ := hx'
      split at h
      · rename_i e' tt l hk
        have hk := mrowOf_some hk
        refine ⟨_, _, φ, ψ, S, .int .i64 (l.length : Int), w, h, ?_, hR, rfl, Evo.refl _ _ _ _, rfl, ⟨[], rfl⟩, rfl⟩
        rcases (hR.st b _ hk).2.2 with ⟨q, rfl⟩ | ⟨g, cap, cur, xs, q, _⟩
        · simp [builtin, Builtin.len_, run_underlying ht, hx', q, goInt]
        · simp [builtin, Builtin.len_, run_underlying ht, hx', q, goInt]
      · cases h
    · rename_i e ht hx
      have hx' := hR.valR x; rw [hx] at hx'
      have hx' : a.eval x = .slice none 0 0 := hx'
      refine ⟨_, _, φ, ψ, S, .int .i64 0, w, h, ?_, hR, rfl, Evo.refl _ _ _ _, rfl, ⟨[], rfl⟩, rfl⟩
      simp [builtin, Builtin.len_, run_underlying ht, hx', goInt]
    · cases h
  · rename_i x y h2
    rw [two h2]
    split at h
    · rename_i m n hx hy
      refine ⟨_, _, φ, ψ, S, .int .i64 (cond (decide (n < m)) n m), w, h, ?_, hR, rfl, Evo.refl _ _ _ _, rfl, ⟨[], rfl⟩, rfl⟩
      simp [builtin, Builtin.min_, Builtin.min2, hR.valEq hx, hR.valEq hy, List.foldlM]
    · cases h
  · rename_i x y h2
    rw [two h2]
    split at h
    · rename_i m n hx hy
      refine ⟨_, _, φ, ψ, S, .int .i64 (cond (decide (n > m)) n m), w, h, ?_, hR, rfl, Evo.refl _ _ _ _, rfl, ⟨[], rfl⟩, rfl⟩
      simp [builtin, Builtin.max_, Builtin.max2, hR.valEq hx, hR.valEq hy, List.foldlM]
    · cases h
  · rename_i t u x y h1 h2
    rw [two h1, two h2]
    split at h
    · rename_i htu
      obtain rfl := Nat.eq_of_beq_eq_true htu
      obtain ⟨v, s', φ', ψ', S', u, w', g1, g2, g3⟩ := append_sound (rt := rt) hR h
      refine ⟨v, s', φ', ψ', S', u, w', g1, ?_, g3⟩
      simp [builtin, g2]
    · cases h
  · rename_i t u x y h1 h2
    rw [two h1, two h2]
    split at h
    · rename_i htu
      obtain rfl := Nat.eq_of_beq_eq_true htu
      obtain ⟨v, s', φ', ψ', S', u, w', g1, g2, g3⟩ := copy_sound (rt := rt) hR h
      refine ⟨v, s', φ', ψ', S', u, w', g1, ?_, g3⟩
      simp [builtin, g2]
    · cases h
  · cases h
theorem resolve_run {c : Call} {f : Operand} (hc : c.callee = .value f) {rt : TypeId} {fn : FuncId} {cap : Array Value} (hf : a.eval f = .func (.func fn) #[] cap) (he : ∀ args w, (callFunc fn args).run P w = .ok (.enter fn args) w) :
    (do let d ← resolve a.eval c rt; invoke d.target d.args).run P w = .ok (.enter fn (c.args.map a.eval ++ cap)) w := by
  simp [resolve, hc, hf, Deferred.ofValue, invoke, he]
theorem call_sound {T : Value → St → Option α} {X : Value → World → Prop} {inl : FuncId → List AV → St → (AV → St → Option α) → Option α} {Γ : FuncId → Option Sig} {c : Call} (hR : Rl base w0 S0 φ ψ S s a w) (hΓ : GOk P Γ) (hinl : InlOk P base w0 S0 T inl) (h : evCall P Γ inl c s K = some r)
    {next : Act → World → Prop} {Q : Exit → Act → World → Prop} (hN : Next1 base w0 S0 K r φ ψ S s a (fun u w' => next (a.put dst u) w')) (hT : NextT base w0 S0 T r φ ψ S s X) (hX : ∀ v w', X v w' → Q (.panic [{ v := v, recovered := false }]) a w') : Oper.wp P ⟨dst, .call c, ty, pos, after, guard⟩ a w next Q := by
  unfold evCall at h
  unfold Oper.wp
  split at h
  · rename_i b hc
    obtain ⟨v, s', φ', ψ', S', u, w', g1, g2, g3, g4, g5, g6, g7, g8⟩ := builtin_sound (rt := ty) (cs := c.args.map fun | .const _ => true | _ => false) hR h
    have hrun : (execOp a.eval ⟨dst, .call c, ty, pos, after, guard⟩).run P w = .ok (.value u) w' := by
      simp only [execOp, resolve, hc, Sem.run_bind, Sem.run_pure, Result.andThen_ok, invoke]
      exact g2
    rw [hrun]
    exact hN v s' φ' ψ' S' u w' g1 g3 g4 g5 g6 g7 g8
  · rename_i f hc
    split at h
    · rename_i fn caps hf
      have hfv := hR.val f; rw [hf] at hfv
      obtain ⟨hcap, hfv⟩ := hfv
      split at h
      · rename_i g hg
        split at h
        · split at h
          · rename_i x hx
            obtain ⟨y, hy, h⟩ := Option.bind_eq_some_iff.1 h
            have hok := hΓ _ _ hg
            have hrun : (execOp a.eval ⟨dst, .call c, ty, pos, after, guard⟩).run P w = .ok (.enter fn ((c.args.toList.map a.eval).toArray)) w := by
              simp only [execOp]
              rw [resolve_run hc hfv hok.enters]
              congr 2
              apply Array.ext'
              simp
            rw [hrun]
            refine (hok.calls x y hy S w _ hR.sw (argsOf_rel hx (argsR_rel hR _))).mono ?_
            rintro e w' ⟨u, S', rfl, h1, h2, h3, h4, h5⟩
            obtain ⟨k1, k2⟩ := hR.called h1 h2 h3 h5
            exact hN _ _ φ ψ S' u w' h k1 (resOf_rel _ h4) k2 rfl ⟨[], rfl⟩ rfl
          · obtain ⟨h1, h2⟩ := hinl _ _ _ _ _ _ _ _ _ _ _ _ _ h hR (args_rel hR _) hN hT
            have hrun : (execOp a.eval ⟨dst, .call c, ty, pos, after, guard⟩).run P w = .ok (.enter fn ((c.args.toList.map a.eval).toArray)) w := by
              simp only [execOp]
              rw [resolve_run hc hfv h1]
              congr 2
              apply Array.ext'
              simp
            rw [hrun]
            refine h2.mono ?_
            rintro e w' (⟨u, rfl, h3⟩ | ⟨v, rfl, h3⟩)
            · exact h3
            · exact hX v w' h3
        · cases h
      · have hargs : All2 (ARel φ ψ S s.n) (c.args.toList.map (aval s) ++ caps.map fun p => .one (.ptr p.1 p.2)) (c.args.toList.map a.eval ++ caps.map fun p => Value.pointer (some ⟨φ p.1, p.2, none⟩)) := by
          refine (args_rel hR _).append ?_
          clear h hf hfv
          induction caps with
          | nil => trivial
          | cons p l ih => exact ⟨⟨hcap p (by simp), rfl⟩, ih (fun q hq => hcap q (by simp [hq]))⟩
        obtain ⟨h1, h2⟩ := hinl _ _ _ _ _ _ _ _ _ _ _ _ _ h hR hargs hN hT
        have hrun : (execOp a.eval ⟨dst, .call c, ty, pos, after, guard⟩).run P w = .ok (.enter fn ((c.args.toList.map a.eval ++ caps.map fun p => Value.pointer (some ⟨φ p.1, p.2, none⟩)).toArray)) w := by
          simp only [execOp]
          rw [resolve_run hc hfv h1]
          congr 2
          apply Array.ext'
          simp
        rw [hrun]
        refine h2.mono ?_
        rintro e w' (⟨u, rfl, h3⟩ | ⟨v, rfl, h3⟩)
        · exact h3
        · exact hX v w' h3
    · cases h
  · cases h
def NextS (base : Nat) (w0 : World) (S0 : Mem) (K : St → Option α) (r : α) (φ : Nat → Nat) (ψ : Nat → Value) (S : Mem) (s : St) (N : Act → World → Prop) : Prop :=
  ∀ s' φ' ψ' S' a' w', K s' = some r → Rl base w0 S0 φ' ψ' S' s' a' w' → Evo φ ψ S s.n φ' ψ' S' s'.n → (∃ pre, s'.tm = pre ++ s.tm) → (∃ pre, s'.st = pre ++ s.st) → s'.nt = s.nt → N a' w'
theorem put_sound {K : St → Option α} {d : Option Nat} {v : AV} {u : Value} (hR : Rl base w0 S0 φ ψ S s a w) (hv : ARel φ ψ S s.n v u) (h : s.put d v K = some r) {N : Act → World → Prop} (hN : NextS base w0 S0 K r φ ψ S s N) : N (a.put d u) w := by
  unfold St.put at h
  split at h
  · exact hN s φ ψ S a w h hR (Evo.refl _ _ _ _) ⟨[], rfl⟩ ⟨[], rfl⟩ rfl
  · rename_i d
    split at h
    · rename_i hd
      have hd : d < s.nt := Nat.le_of_ble_eq_true hd
      exact hN _ φ ψ S _ w h (hR.put hv hd) (Evo.refl _ _ _ _) ⟨[_], rfl⟩ ⟨[], rfl⟩ rfl
    · cases h
theorem NextS.trans {K : St → Option α} {K' : St → Option α} {s' : St} {φ' : Nat → Nat} {ψ' : Nat → Value} {S' : Mem} {N : Act → World → Prop} (hN : NextS base w0 S0 K r φ ψ S s N) (hK : ∀ t, K' t = some r → K t = some r) (ev : Evo φ ψ S s.n φ' ψ' S' s'.n)
    (h1 : ∃ pre, s'.tm = pre ++ s.tm) (h2 : ∃ pre, s'.st = pre ++ s.st) (h3 : s'.nt = s.nt) : NextS base w0 S0 K' r φ' ψ' S' s' N := by
  intro t φ2 ψ2 S2 a2 w2 hk hR he ⟨p1, e1⟩ ⟨p2, e2⟩ e3
  obtain ⟨q1, f1⟩ := h1
  obtain ⟨q2, f2⟩ := h2
  exact hN t φ2 ψ2 S2 a2 w2 (hK t hk) hR (ev.trans he) ⟨p1 ++ q1, by rw [e1, f1, List.append_assoc]⟩ ⟨p2 ++ q2, by rw [e2, f2, List.append_assoc]⟩ (e3.trans h3)
theorem wanted_none {ops : Array Oper} {o : Oper} {y : Nat → Option Bool} (hg : o.guard = none) : Region.wanted o y = true := by simp [Region.wanted, hg]
theorem yielded_at {ops : Array Oper} {j d : Nat} (hd : (ops[j]?).bind (·.dst) = some d) (hs : d < a.tmps.size) : yielded ops a.tmps j = match a.tmps.getD d undef with | .bool b => some b | _ => none := by
  unfold yielded
  rw [hd]
  simp [Array.getD_eq_getD_getElem?, hs]
  split <;> simp_all
def FzOk (base : Nat) (w0 : World) (S0 : Mem) (fz : Op → St → St) : Prop := ∀ (o : Op) (φ : Nat → Nat) (ψ : Nat → Value) (S : Mem) (s : St) (a : Act) (w : World), Rl base w0 S0 φ ψ S s a w → Stays base w0 S0 φ ψ S s a w (fz o s)
theorem FzOk.op {Γ : FuncId → Option Sig} : FzOk base w0 S0 (frzOp Γ) := fun o _ _ _ _ _ _ hR => frzOp_sound o hR
theorem evOpS_sound {o : Oper} {sf : Bool} (hR : Rl base w0 S0 φ ψ S s a w) (h : evOpS P sf o.op s K = some r) : Sound P base w0 S0 φ ψ S s a w K r o := by
  unfold evOpS at h
  split at h
  · exact evOp_sound hR h
  · split at h
    · rename_i b n lo hi hc
      replace h : (cutHigh (hi.map (aval s)) n fun h hn => cutLow ((some lo : Option Operand).map (aval s)) h fun lo => K (.one (.mv b lo hn)) s) = some r := h
      generalize (some lo : Option Operand) = lo at h hc
      obtain ⟨dst, op, ty, pos, after, guard⟩ := o
      simp only [softCut] at hc
      split at hc
      · rename_i t x lo' hi'
        split at hc
        · rename_i b' n' e hs ht
          split at hc
          · rename_i hn
            simp only [Option.some.injEq, Prod.mk.injEq] at hc
            obtain ⟨rfl, rfl, rfl, rfl⟩ := hc
            unfold softRow at hs
            split at hs
            · rename_i b2 e1
              split at hs
              · rename_i e2 tt l hk
                split at hs
                · simp only [Option.some.injEq, Prod.mk.injEq] at hs
                  obtain ⟨rfl, rfl⟩ := hs
                  have hx := hR.val x; rw [e1] at hx
                  obtain ⟨hb, hx, ho⟩ := hx
                  have hk := mrowOf_some hk
                  have hv : ∃ A cap, ψ b2 = .slice A l.length cap ∧ l.length ≤ cap := by
                    rcases (hR.st b2 _ hk).2.2 with ⟨q, rfl⟩ | ⟨g, cap, cur, xs, q1, _, _, q4, _⟩
                    · exact ⟨none, 0, q, Nat.le_refl _⟩
                    · exact ⟨_, cap, q1, q4⟩
                  obtain ⟨A, cap, hψ, hcap⟩ := hv
                  obtain ⟨i, m, h, rfl, h1, h2⟩ := cutHigh_some h
                  obtain ⟨q, h, h3, h4⟩ := cutLow_some h
                  obtain ⟨sz, hsz, hrun⟩ := sliceAt_sl (A := A) (w := w) ht (fun b => bounds_run (isSlice := b) (len := l.length) (cap := cap) hR (Nat.le_trans h1 hcap) h3 h2 h4) (by obtain ⟨i, hi, _⟩ := szOf_info hn; exact ⟨i, hi⟩)
                  rw [hn] at hsz
                  obtain rfl := Option.some.inj hsz
                  refine ⟨_, _, h, Does.pure hR (u := cutV q m (ψ b2)) (run_v _ _ _ (by rw [hx, hψ]; exact hrun)) ⟨hb, h3, ⟨A, _, cap, hψ, h1, hcap⟩, rfl⟩⟩
                · cases hs
              · cases hs
            · cases hs
          · cases hc
        · cases hc
      · cases hc
    · rename_i b n hi hc
      obtain ⟨i, m, hq, hmi, h1, h2⟩ := cutHigh_some (K := fun _ hn => match s.mrowOf b with
        | some (e, ⟨t, l⟩) => K (.one (.row s.n)) (mrowBlk { s with st := (b, .dead) :: s.st } e t (l.take hn))
        | none => none) h
      subst hmi
      obtain ⟨dst, op, ty, pos, after, guard⟩ := o
      simp only [softCut] at hc
      split at hc
      · rename_i t x lo' hi'
        split at hc
        · rename_i b' n' e hs ht
          split at hc
          · rename_i hn
            simp only [Option.some.injEq, Prod.mk.injEq] at hc
            obtain ⟨rfl, rfl, rfl, rfl⟩ := hc
            unfold softRow at hs
            split at hs
            · rename_i b2 e1
              split at hs
              · rename_i e2 tt l hk
                split at hs
                · simp only [Option.some.injEq, Prod.mk.injEq] at hs
                  obtain ⟨rfl, rfl⟩ := hs
                  rw [hk] at hq
                  simp only at hq
                  have hx := hR.val x; rw [e1] at hx
                  obtain ⟨hb, hx, ho⟩ := hx
                  have hk := mrowOf_some hk
                  have hmr := (hR.st b2 _ hk).2.2
                  have hv : ∃ A cap, ψ b2 = .slice A l.length cap ∧ l.length ≤ cap := by
                    rcases hmr with ⟨q, rfl⟩ | ⟨g, cap, cur, xs, q1, _, _, q4, _⟩
                    · exact ⟨none, 0, q, Nat.le_refl _⟩
                    · exact ⟨_, cap, q1, q4⟩
                  obtain ⟨A, cap, hψ, hcap⟩ := hv
                  obtain ⟨sz, hsz, hrun⟩ := sliceAt_sl (A := A) (w := w) (lo := none) (hi := hi'.map a.eval) ht (fun bb => bounds_run (lo := none) (isSlice := bb) (len := l.length) (cap := cap) (l := 0) hR (Nat.le_trans h1 hcap) (Nat.zero_le _) h2 (.inl ⟨rfl, rfl⟩)) (by obtain ⟨i, hi, _⟩ := szOf_info hn; exact ⟨i, hi⟩)
                  rw [hn] at hsz
                  obtain rfl := Option.some.inj hsz
                  have hcm : MRel S base w (cutV 0 m (ψ b2)) e2 tt (l.take m) := by
                    rcases hmr with ⟨q, rfl⟩ | ⟨g, cap', cur, xs, q1, q2, q3, q4, q5, q6, q7, q8, q9⟩
                    · have : m = 0 := by simpa using h1
                      subst this
                      rw [q]; exact .inl ⟨by rw [cutV_zero], by simp⟩
                    · have hl : (l.take m).length = m := by rw [List.length_take]; omega
                      refine .inr ⟨g, cap', cur, xs.take (m * tt.width), by rw [q1, cutV_zero, hl], q2, q3, by rw [hl]; omega, q5, q6, ?_, q8.take m, q9⟩
                      rw [hl, ← q7, List.take_take, Nat.min_eq_left (Nat.mul_le_mul_right _ h1)]
                  have hdead := hR.dead hk
                  obtain ⟨ψ', k1, k2, k3⟩ := hdead.addM (v := cutV 0 m (ψ b2)) (by rw [hψ, cutV_zero]; rfl) hcm (fun g hg b3 k3 e3 f3 => by
                    have hat : (Blk.mrow e2 tt l).at φ ψ b2 = some g := by
                      rw [hψ, cutV_zero] at hg
                      simp only [Blk.at, hψ]
                      cases A with
                      | none => cases hg
                      | some ad => obtain ⟨ab, ao, asp⟩ := ad; simpa [Value.ownBlock] using hg
                    by_cases hbb : b2 = b3
                    · subst hbb
                      have e3 : look ((b2, Blk.dead) :: s.st) b2 = some k3 := e3
                      rw [look_cons_eq] at e3
                      obtain rfl := Option.some.inj e3
                      cases f3
                    · have e3 : look ((b2, Blk.dead) :: s.st) b3 = some k3 := e3
                      rw [look_cons_ne _ _ hbb] at e3
                      exact hbb (hR.apart b2 b3 _ _ g hk e3 hat f3))
                  have hrun' : (Instr.sliceAt t (a.eval x) none (hi'.map a.eval) none).run P w = .ok (cutV 0 m (ψ b2)) w := by rw [hx, hψ]; exact hrun
                  exact ⟨_, _, hq, φ, ψ', S, _, w, .inl (run_v _ _ _ hrun'), k1, ARel.of_one k2, k3, rfl, ⟨[_, _], rfl⟩, rfl⟩
                · cases hs
              · cases hs
            · cases hs
          · cases hc
        · cases hc
      · cases hc
    · exact evOp_sound hR h
theorem ops_sound {T : Value → St → Option α} {X : Value → World → Prop} {inl : FuncId → List AV → St → (AV → St → Option α) → Option α} {Γ : FuncId → Option Sig} {sf : Bool} {fz : Op → St → St} (hfz : FzOk base w0 S0 fz) (hΓ : GOk P Γ) (hinl : InlOk P base w0 S0 T inl) {ops : Array Oper} {Q : Exit → Act → World → Prop} (hX : ∀ v a w', a.defers = [] → X v w' → Q (.panic [{ v := v, recovered := false }]) a w') :
    ∀ (l : List Oper) (i : Nat) (s : St) (φ : Nat → Nat) (ψ : Nat → Value) (S : Mem) (a : Act) (w : World) (K : St → Option α), (∀ j, l[j]? = ops[i + j]?) → evOps P Γ inl sf fz ops l s K = some r → Rl base w0 S0 φ ψ S s a w → NextS base w0 S0 K r φ ψ S s (Q .normal) → NextT base w0 S0 T r φ ψ S s X →
      wpOps P ops Q (List.range' i l.length) a w
  | [], i, s, φ, ψ, S, a, w, K, hl, h, hR, hN, hT => by
    simp only [evOps] at h
    exact hN s φ ψ S a w h hR (Evo.refl _ _ _ _) ⟨[], rfl⟩ ⟨[], rfl⟩ rfl
  | o :: rest, i, s, φ, ψ, S, a, w, K, hl, h, hR, hN, hT => by
    have h0 : ops[i]? = some o := by simpa using (hl 0).symm
    have hl' : ∀ j, rest[j]? = ops[i + 1 + j]? := fun j => by have := hl (j + 1); simpa [Nat.add_assoc, Nat.add_comm 1 j] using this
    rw [List.length_cons, List.range'_succ]
    simp only [wpOps, h0]
    -- carried out
    have go : ∀ (s1 : St), Rl base w0 S0 φ ψ S s1 a w → (∃ pre, s1.tm = pre ++ s.tm) → s1.st = s.st → s1.n = s.n → s1.nt = s.nt → Region.wanted o (yielded ops a.tmps) = true →
        (match o.op with
          | .call c => evCall P Γ inl c (fz o.op s1) fun v s => s.put o.dst v fun s => evOps P Γ inl sf fz ops rest s K
          | op => evOpS P sf op (fz op s1) fun v s => s.put o.dst v fun s => evOps P Γ inl sf fz ops rest s K) = some r →
        (if Region.wanted o (yielded ops a.tmps) = true then o.wp P a w (wpOps P ops Q (List.range' (i + 1) rest.length)) Q ∨ o.asks P a w ∧ LetsOut Q else wpOps P ops Q (List.range' (i + 1) rest.length) (a.put o.dst undef) w) := by
      intro s1 hR1 htm hst hn hnt hw h
      rw [if_pos hw]
      refine .inl ?_
      obtain ⟨S1, hR1, hevF, htmF, ⟨preF, hstF⟩, hntF, hnF⟩ := hfz o.op φ ψ S s1 a w hR1
      have hev : Evo φ ψ S s.n φ ψ S1 (fz o.op s1).n := by rw [← hn]; exact hevF
      have hN1 : NextS base w0 S0 K r φ ψ S1 (fz o.op s1) (Q .normal) := hN.trans (fun t ht => ht) hev (by rw [htmF]; exact htm) ⟨preF, by rw [hstF, hst]⟩ (hntF.trans hnt)
      have hT1 : NextT base w0 S0 T r φ ψ S1 (fz o.op s1) X := hT.trans hev ⟨preF, by rw [hstF, hst]⟩
      have next : Next1 base w0 S0 (fun v s => s.put o.dst v fun s => evOps P Γ inl sf fz ops rest s K) r φ ψ S1 (fz o.op s1) a (fun u w' => wpOps P ops Q (List.range' (i + 1) rest.length) (a.put o.dst u) w') := by
        intro v s' φ' ψ' S' u w' hk hR' hv ev htm' hst' hnt'
        have hN2 : NextS base w0 S0 K r φ' ψ' S' s' (Q .normal) := hN1.trans (fun t ht => ht) ev ⟨[], by rw [htm']; rfl⟩ hst' hnt'
        refine put_sound hR' hv hk (N := fun a w => wpOps P ops Q (List.range' (i + 1) rest.length) a w) (fun t φ2 ψ2 S2 a2 w2 hk2 hR2 ev2 e1 e2 e3 => ?_)
        exact ops_sound hfz hΓ hinl hX rest (i + 1) t φ2 ψ2 S2 a2 w2 K hl' hk2 hR2 (hN2.trans (fun t ht => ht) ev2 e1 e2 e3) ((hT1.trans ev hst').trans ev2 e2)
      obtain ⟨dst, op, ty, pos, after, guard⟩ := o
      split at h
      · rename_i c hc
        simp only at hc; subst hc
        exact call_sound hR1 hΓ hinl h next hT1 (fun v w' => hX v a w' hR.defers)
      · rename_i hc
        obtain ⟨v, s', hk, φ', ψ', S', u, w', hrun, g1, g2, g3, g4, g5, g6⟩ := evOpS_sound hR1 h
        have := next v s' φ' ψ' S' u w' hk g1 g2 g3 g4 g5 g6
        unfold Oper.wp
        rcases hrun with hrun | ⟨hrun, rfl⟩
        · rw [hrun]; exact this
        · rw [hrun]; exact this
    have no : ∀ (s1 : St), Rl base w0 S0 φ ψ S s1 a w → (∃ pre, s1.tm = pre ++ s.tm) → s1.st = s.st → s1.n = s.n → s1.nt = s.nt → Region.wanted o (yielded ops a.tmps) = false →
        (s1.put o.dst (.one (.val undef)) fun s => evOps P Γ inl sf fz ops rest s K) = some r →
        (if Region.wanted o (yielded ops a.tmps) = true then o.wp P a w (wpOps P ops Q (List.range' (i + 1) rest.length)) Q ∨ o.asks P a w ∧ LetsOut Q else wpOps P ops Q (List.range' (i + 1) rest.length) (a.put o.dst undef) w) := by
      intro s1 hR1 htm hst hn hnt hw h
      rw [if_neg (by rw [hw]; decide)]
      have hev : Evo φ ψ S s.n φ ψ S s1.n := by rw [hn]; exact Evo.refl _ _ _ _
      have hN1 : NextS base w0 S0 K r φ ψ S s1 (Q .normal) := hN.trans (fun t ht => ht) hev htm ⟨[], by rw [hst]; rfl⟩ hnt
      refine put_sound hR1 (v := .one (.val undef)) (u := undef) rfl h (N := fun a w => wpOps P ops Q (List.range' (i + 1) rest.length) a w) (fun t φ2 ψ2 S2 a2 w2 hk2 hR2 ev2 e1 e2 e3 => ?_)
      exact ops_sound hfz hΓ hinl hX rest (i + 1) t φ2 ψ2 S2 a2 w2 K hl' hk2 hR2 (hN1.trans (fun t ht => ht) ev2 e1 e2 e3) ((hT.trans hev ⟨[], by rw [hst]; rfl⟩).trans ev2 e2)
    have same : ∀ (d : Nat) (b : Bool), s.get d = .one (.val (.bool b)) → d < s.nt → ∀ {K' : St → Option α}, s.put (some d) (.one (.val (.bool b))) K' = some r →
        ∃ s1, K' s1 = some r ∧ Rl base w0 S0 φ ψ S s1 a w ∧ (∃ pre, s1.tm = pre ++ s.tm) ∧ s1.st = s.st ∧ s1.n = s.n ∧ s1.nt = s.nt := by
      intro d b hg hd K' hp
      have hv := hR.get d; rw [hg] at hv
      unfold St.put at hp
      simp only at hp
      split at hp
      · refine ⟨_, hp, ?_, ⟨[_], rfl⟩, rfl, rfl, rfl⟩
        have := hR.put (v := .one (.val (.bool b))) (u := a.tmps.getD d undef) hv hd
        have e : a.put (some d) (a.tmps.getD d undef) = a := by
          have hs := hR.size
          have : a.tmps.setIfInBounds d (a.tmps.getD d undef) = a.tmps := by
            apply Array.ext
            · simp
            · intro k h1 h2
              rw [Array.getElem_setIfInBounds]
              split
              · rename_i e; subst e; simp [Array.getD_eq_getD_getElem?, h2]
              · rfl
          show ({ a with tmps := a.tmps.setIfInBounds d (a.tmps.getD d undef) } : Act) = a
          rw [this]
        rw [e] at this; exact this
      · cases hp
    unfold evOps at h
    simp only at h
    split at h
    · rename_i hg
      exact go s hR ⟨[], rfl⟩ rfl rfl rfl (wanted_none (ops := ops) hg) h
    · rename_i j want hg
      split at h
      · rename_i d hd
        split at h
        · rename_i b hb
          have hdn : d < s.nt := by
            unfold St.get at hb
            split at hb
            · rename_i v e; exact (hR.tm d v e).1
            · cases hb
          have hbv := hR.get d; rw [hb] at hbv
          have hbv : a.tmps.getD d undef = .bool b := hbv
          have hy : yielded ops a.tmps j = some b := by rw [yielded_at hd (by rw [hR.size]; exact hdn), hbv]
          have hw : Region.wanted o (yielded ops a.tmps) = (b == want) := by simp [Region.wanted, hg, hy]
          split at h
          · rcases cond_some h with ⟨hb2, h⟩ | ⟨hb2, h⟩
            · rw [hb2] at hb hw
              obtain ⟨s1, h1, h2, h3, h4, h5, h6⟩ := same d true hb hdn h
              exact go s1 h2 h3 h4 h5 h6 (by rw [hw]; rfl) h1
            · rw [hb2] at hb hw
              obtain ⟨s1, h1, h2, h3, h4, h5, h6⟩ := same d false hb hdn h
              exact no s1 h2 h3 h4 h5 h6 (by rw [hw]; rfl) h1
          · rcases cond_some h with ⟨hb2, h⟩ | ⟨hb2, h⟩
            · rw [hb2] at hb hw
              obtain ⟨s1, h1, h2, h3, h4, h5, h6⟩ := same d true hb hdn h
              exact no s1 h2 h3 h4 h5 h6 (by rw [hw]; rfl) h1
            · rw [hb2] at hb hw
              obtain ⟨s1, h1, h2, h3, h4, h5, h6⟩ := same d false hb hdn h
              exact go s1 h2 h3 h4 h5 h6 (by rw [hw]; rfl) h1
        · rename_i vs hb
          have hdn : d < s.nt := by
            unfold St.get at hb
            split at hb
            · rename_i v e; exact (hR.tm d v e).1
            · cases hb
          have hbv := hR.get d; rw [hb] at hbv
          have hbv : a.tmps.getD d undef = .tuple vs := hbv
          have hy : yielded ops a.tmps j = none := by rw [yielded_at hd (by rw [hR.size]; exact hdn), hbv]
          exact no s hR ⟨[], rfl⟩ rfl rfl rfl (by simp [Region.wanted, hg, hy]) h
        · cases h
      · cases h
end
end Go.Proofs.YtohlhliifeeokaaGreat.Ab
