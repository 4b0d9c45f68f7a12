/- Abstract runs: a region whose order is drawn comes to what its own order comes to. -/
import Derived.Test.YtbllbljligmglaaAbL
import Derived.Test.YtbllbljligmglaaAbN
namespace Go.Proofs.Ytbllbljligmglaa.Ab
open Go Go.RowKit
set_option linter.unusedVariables false
set_option linter.unusedSimpArgs false

abbrev noInl {α : Type} : FuncId → List AV → St → (AV → St → Option α) → Option α := fun _ _ _ _ => none
/-- What an operation yields in a state, and what it makes of the boxes. -/
def step1 (P : Program) (Γ : FuncId → Option Sig) (o : Oper) (s : St) : Option (AV × List (Nat × Blk)) := match o.op with
  | .call c => (evCall P Γ noInl c s K1).bind fun v => some (v, s.st)
  | .store t x y => evStore P t x y s K0
  | op => (evOp P op s K1).bind fun v => some (v, s.st)
/-- Is an operation carried out? -/
def wants1 (ops : Array Oper) (o : Oper) (s : St) : Option Bool := match o.guard with
  | none => some true
  | some (j, want) => match (ops[j]?).bind (·.dst) with
    | some d => match s.get d with
      | .one (.val (.bool b)) => some (b == want)
      | .one (.val (.tuple _)) => some false
      | _ => none
    | none => none
section
variable {P : Program} {Γ : FuncId → Option Sig} {ops : Array Oper} {α : Type} {s t : St} {r : α}
theorem step1_ev {o : Oper} {K : AV → St → Option α} (hc : calm o.op < 3) :
    (match o.op with
      | .call c => evCall P Γ noInl c s K
      | op => evOp P op s K) = (step1 P Γ o s).bind (Then s K) := by
  unfold step1
  obtain ⟨dst, op, ty, pos, after, guard⟩ := o
  simp only at hc ⊢
  cases op with
  | call c =>
    have hc2 : calm (.call c) < 2 := by
      simp only [calm] at hc ⊢
      split at hc <;> simp_all
    simp only
    rw [call_nc hc2 (fun _ _ => rfl) rfl, bind_bind']; rfl
  | store ty x y => exact store_nc rfl rfl rfl
  | _ =>
    simp only
    first
      | (exfalso; simp [calm] at hc; done)
      | (rw [op_nc (t := s) (by simp [calm]) (fun _ _ => rfl) (fun _ => rfl) (fun c => by simp), bind_bind']; rfl)
theorem step1_same {o : Oper} (hc : calm o.op < 3) (h2 : calm o.op ≠ 2) {v : AV} {st' : List (Nat × Blk)} (h : step1 P Γ o s = some (v, st')) : st' = s.st := by
  unfold step1 at h
  split at h
  · obtain ⟨u, _, h⟩ := Option.bind_eq_some_iff.1 h; cases h; rfl
  · rename_i e; rw [e] at h2; exact absurd rfl h2
  · obtain ⟨u, _, h⟩ := Option.bind_eq_some_iff.1 h; cases h; rfl
theorem step1_congr {o : Oper} (hc : calm o.op < 3) (hx : ∀ x ∈ o.op.operands.toList, aval t x = aval s x) (hst : calm o.op ≠ 0 → t.st = s.st) {v : AV} {st' : List (Nat × Blk)} (h : step1 P Γ o s = some (v, st')) :
    step1 P Γ o t = some (v, if calm o.op = 2 then st' else t.st) := by
  obtain ⟨dst, op, ty, pos, after, guard⟩ := o
  simp only at hc hx hst
  cases op with
  | call c =>
    have hc2 : calm (.call c) < 2 ∧ calm (.call c) ≠ 2 ∧ calm (.call c) ≠ 0 := by
      simp only [calm] at hc ⊢
      split at hc <;> simp_all
    simp only [step1] at h ⊢
    obtain ⟨u, h1, h2⟩ := Option.bind_eq_some_iff.1 h
    cases h2
    rw [call_nc (t := s) hc2.1 hx (hst hc2.2.2), h1, if_neg hc2.2.1]; rfl
  | store ty x y =>
    simp only [step1] at h ⊢
    simp only [Op.operands, List.toList_toArray, List.mem_cons, List.not_mem_nil, or_false, forall_eq_or_imp, forall_eq] at hx
    have hs := hst (by simp [calm])
    have := store_nc (P := P) (ty := ty) (K := K0) hx.1 hx.2 hs
    rw [this, h]
    simp [calm, Then, K0]
  | _ =>
    first
      | (exfalso; simp [calm] at hc; done)
      | (simp only [step1] at h ⊢
         obtain ⟨u, h1, h2⟩ := Option.bind_eq_some_iff.1 h
         cases h2
         rw [op_nc (t := s) (by simp [calm]) hx hst (fun c => by simp), h1]
         simp [calm, K1])
def dl (d : Option Nat) (v : AV) : List (Nat × AV) := match d with | some d => [(d, v)] | none => []
def putS (s : St) (d : Option Nat) (v : AV) (st : List (Nat × Blk)) : St := { s with tm := dl d v ++ s.tm, st := st }
def Sames (s s1 : St) : Prop := s1 = s ∨ ∃ d b, s.get d = .one (.val (.bool b)) ∧ s1 = { s with tm := (d, .one (.val (.bool b))) :: s.tm }
/-- One operation in its own place. -/
def One (P : Program) (Γ : FuncId → Option Sig) (ops : Array Oper) (o : Oper) (s1 : St) (v : AV) (st' : List (Nat × Blk)) : Prop :=
  wants1 ops o s1 = some true ∧ step1 P Γ o s1 = some (v, st') ∨ wants1 ops o s1 = some false ∧ v = .one (.val undef) ∧ st' = s1.st
inductive Lx (P : Program) (Γ : FuncId → Option Sig) (ops : Array Oper) : List Oper → St → List (AV × List (Nat × Blk)) → St → Prop
  | nil (s : St) : Lx P Γ ops [] s [] s
  | cons {o : Oper} {rest : List Oper} {s s1 : St} {v : AV} {st' : List (Nat × Blk)} {out : List (AV × List (Nat × Blk))} {e : St} (h1 : Sames s s1) (h2 : One P Γ ops o s1 v st') (h3 : ∀ d, o.dst = some d → d < s.nt)
      (h4 : Lx P Γ ops rest (putS s1 o.dst v st') out e) : Lx P Γ ops (o :: rest) s ((v, st') :: out) e
theorem put_some {d : Option Nat} {v : AV} {K : St → Option α} (h : s.put d v K = some r) : (∀ d', d = some d' → d' < s.nt) ∧ K (putS s d v s.st) = some r := by
  unfold St.put at h
  split at h
  · exact ⟨fun d' e => by simp at e, h⟩
  · rename_i d
    split at h
    · rename_i hd
      exact ⟨fun d' e => by simp at e; subst e; exact Nat.le_of_ble_eq_true hd, h⟩
    · cases h
theorem lex_of {K : St → Option α} : ∀ (l : List Oper) (s : St), (∀ o ∈ l, calm o.op < 3) → evOps P Γ noInl ops l s K = some r → ∃ out e, Lx P Γ ops l s out e ∧ K e = some r
  | [], s, _, h => by simp only [evOps] at h; exact ⟨[], s, .nil s, h⟩
  | o :: rest, s, hc, h => by
    have hco := hc o (by simp)
    have go : ∀ s1, Sames s s1 → wants1 ops o s1 = some true → (match o.op with
          | .call c => evCall P Γ noInl c s1 fun v s => s.put o.dst v fun s => evOps P Γ noInl ops rest s K
          | op => evOp P op s1 fun v s => s.put o.dst v fun s => evOps P Γ noInl ops rest s K) = some r → ∃ out e, Lx P Γ ops (o :: rest) s out e ∧ K e = some r := by
      intro s1 hs hw h
      rw [step1_ev hco] at h
      obtain ⟨⟨v, st'⟩, h1, h2⟩ := Option.bind_eq_some_iff.1 h
      obtain ⟨h3, h4⟩ := put_some h2
      obtain ⟨out, e, h5, h6⟩ := lex_of rest _ (fun o ho => hc o (by simp [ho])) h4
      refine ⟨_, e, .cons hs (.inl ⟨hw, h1⟩) (fun d hd => ?_) h5, h6⟩
      have := h3 d hd
      rcases hs with rfl | ⟨_, _, _, rfl⟩ <;> exact this
    have no : ∀ s1, Sames s s1 → wants1 ops o s1 = some false → (s1.put o.dst (.one (.val undef)) fun s => evOps P Γ noInl ops rest s K) = some r → ∃ out e, Lx P Γ ops (o :: rest) s out e ∧ K e = some r := by
      intro s1 hs hw h
      obtain ⟨h3, h4⟩ := put_some h
      obtain ⟨out, e, h5, h6⟩ := lex_of rest _ (fun o ho => hc o (by simp [ho])) h4
      refine ⟨_, e, .cons hs (.inr ⟨hw, rfl, rfl⟩) (fun d hd => ?_) h5, h6⟩
      have := h3 d hd
      rcases hs with rfl | ⟨_, _, _, rfl⟩ <;> exact this
    have lit : ∀ {d : Nat} {b : Bool} {K' : St → Option α}, s.get d = .one (.val (.bool b)) → s.put (some d) (.one (.val (.bool b))) K' = some r → ∃ s1, Sames s s1 ∧ s1.get d = .one (.val (.bool b)) ∧ K' s1 = some r := by
      intro d b K' hg hp
      obtain ⟨_, h2⟩ := put_some hp
      refine ⟨_, .inr ⟨d, b, hg, rfl⟩, ?_, h2⟩
      simp [St.get, look]
    unfold evOps at h
    simp only at h
    split at h
    · rename_i hg
      exact go s (.inl rfl) (by simp [wants1, hg]) h
    · rename_i j want hg
      split at h
      · rename_i d hd
        have hw : ∀ {s1 : St} {b : Bool}, s1.get d = .one (.val (.bool b)) → wants1 ops o s1 = some (b == want) := by
          intro s1 b hb
          simp only [wants1, hg, hd, hb]
        split at h
        · rename_i b hb
          split at h
          · rcases cond_some h with ⟨rfl, h5⟩ | ⟨rfl, h5⟩
            · obtain ⟨s1, h1, h2, h3⟩ := lit hb h5; exact go s1 h1 (by rw [hw h2]; rfl) h3
            · obtain ⟨s1, h1, h2, h3⟩ := lit hb h5; exact no s1 h1 (by rw [hw h2]; rfl) h3
          · rcases cond_some h with ⟨rfl, h5⟩ | ⟨rfl, h5⟩
            · obtain ⟨s1, h1, h2, h3⟩ := lit hb h5; exact no s1 h1 (by rw [hw h2]; rfl) h3
            · obtain ⟨s1, h1, h2, h3⟩ := lit hb h5; exact go s1 h1 (by rw [hw h2]; rfl) h3
        · rename_i vs hb
          exact no s (.inl rfl) (by simp only [wants1, hg, hd, hb]) h
        · cases h
      · cases h
theorem step1_ext {o : Oper} {v : AV} {st' : List (Nat × Blk)} (h : step1 P Γ o s = some (v, st')) : ∃ pre, st' = pre ++ s.st := by
  unfold step1 at h
  split at h
  · obtain ⟨u, _, h⟩ := Option.bind_eq_some_iff.1 h; cases h; exact ⟨[], rfl⟩
  · unfold evStore at h
    split at h
    · split at h
      · split at h
        · split at h
          · split at h
            · cases h; exact ⟨[_], rfl⟩
            · cases h
          · cases h
        · cases h
      · cases h
    · cases h
  · obtain ⟨u, _, h⟩ := Option.bind_eq_some_iff.1 h; cases h; exact ⟨[], rfl⟩
theorem Sames.look (h : Sames s t) : (∀ d, look t.tm d = look s.tm d) ∧ t.st = s.st ∧ t.n = s.n ∧ t.nt = s.nt ∧ ∃ pre, t.tm = pre ++ s.tm := by
  rcases h with rfl | ⟨d, b, hg, rfl⟩
  · exact ⟨fun _ => rfl, rfl, rfl, rfl, [], rfl⟩
  · refine ⟨fun e => ?_, rfl, rfl, rfl, [_], rfl⟩
    by_cases q : d = e
    · subst q
      show Ab.look ((d, _) :: s.tm) d = _
      rw [look_cons_eq]
      unfold St.get at hg
      split at hg
      · rename_i v e; rw [e, hg]
      · cases hg
    · show Ab.look ((d, _) :: s.tm) e = _
      rw [look_cons_ne _ _ q]
/-- Facts of the own order, by the operations' numbers. -/
structure At (P : Program) (Γ : FuncId → Option Sig) (ops : Array Oper) (s0 : St) (env : Nat → Nat → Option AV) (vv : Nat → AV) (stt : Nat → List (Nat × Blk)) (i : Nat) (o : Oper) : Prop where
  ex : ∃ s1 : St, s1.st = stt i ∧ s1.n = s0.n ∧ s1.nt = s0.nt ∧ (∀ d, look s1.tm d = env i d) ∧ One P Γ ops o s1 (vv i) (stt (i + 1))
  dst : ∀ d, o.dst = some d → d < s0.nt
  env : ∀ d, env (i + 1) d = if o.dst = some d then some (vv i) else env i d
theorem dl_look (d : Option Nat) (v : AV) (l : List (Nat × AV)) (e : Nat) : look (dl d v ++ l) e = if d = some e then some v else look l e := by
  cases d with
  | none => rfl
  | some d =>
    by_cases q : d = e
    · subst q; show look ((d, v) :: l) d = _; rw [look_cons_eq, if_pos rfl]
    · show look ((d, v) :: l) e = _; rw [look_cons_ne _ _ q, if_neg (by simpa using q)]
theorem lex_at {s0 : St} : ∀ (l : List Oper) (i : Nat) (s : St) (out : List (AV × List (Nat × Blk))) (e : St) (env : Nat → Nat → Option AV) (vv : Nat → AV) (stt : Nat → List (Nat × Blk)), Lx P Γ ops l s out e → s.n = s0.n → s.nt = s0.nt → (∃ pre, s.tm = pre ++ s0.tm) → (∃ pre, s.st = pre ++ s0.st) →
    (∀ d, look s.tm d = env i d) → s.st = stt i → ∃ env' vv' stt', (∀ j, j ≤ i → env' j = env j ∧ stt' j = stt j) ∧ (∀ j, j < i → vv' j = vv j) ∧ (∀ j o, l[j]? = some o → At P Γ ops s0 env' vv' stt' (i + j) o) ∧ (∀ d, look e.tm d = env' (i + l.length) d) ∧ e.st = stt' (i + l.length) ∧ e.n = s0.n ∧ e.nt = s0.nt ∧ (∃ pre, e.tm = pre ++ s0.tm) ∧ (∃ pre, e.st = pre ++ s0.st)
  | _, i, s, _, _, env, vv, stt, .nil _, hn, hnt, htm, hst, henv, hstt => ⟨env, vv, stt, fun _ _ => ⟨rfl, rfl⟩, fun _ _ => rfl, fun j o h => by simp at h, by simpa using henv, by simpa using hstt, hn, hnt, htm, hst⟩
  | _, i, s, _, e, env, vv, stt, .cons (o := o) (rest := rest) (s1 := s1) (v := v) (st' := st') h1 h2 h3 h4, hn, hnt, htm, hst, henv, hstt => by
    obtain ⟨g1, g2, g3, g4, pre0, g5⟩ := h1.look
    obtain ⟨pre1, htm⟩ := htm
    obtain ⟨pre2, hst⟩ := hst
    have hext : ∃ pre, st' = pre ++ s1.st := by
      rcases h2 with ⟨_, h2⟩ | ⟨_, _, h2⟩
      · exact step1_ext h2
      · exact ⟨[], h2⟩
    obtain ⟨pre3, hext⟩ := hext
    obtain ⟨env', vv', stt', k1, k2, k3, k4⟩ := lex_at (s0 := s0) rest (i + 1) (putS s1 o.dst v st') _ e (fun j => if j = i + 1 then fun d => if o.dst = some d then some v else env i d else env j) (fun j => if j = i then v else vv j) (fun j => if j = i + 1 then st' else stt j) h4 (g3.trans hn) (g4.trans hnt)
      ⟨dl o.dst v ++ (pre0 ++ pre1), by simp [putS, g5, htm]⟩ ⟨pre3 ++ pre2, by simp [putS, hext, g2, hst]⟩ (fun d => by simp only [putS, dl_look, if_true, g1, henv]) (by simp [putS])
    have e1 : ∀ j, j ≤ i → env' j = env j ∧ stt' j = stt j := fun j hj => by
      obtain ⟨q1, q2⟩ := k1 j (by omega)
      rw [q1, q2, if_neg (by omega), if_neg (by omega)]; exact ⟨rfl, rfl⟩
    refine ⟨env', vv', stt', e1, fun j hj => by rw [k2 j (by omega), if_neg (by omega)], fun j o' hj => ?_, by rw [List.length_cons, show i + (rest.length + 1) = i + 1 + rest.length by omega]; exact k4.1, by rw [List.length_cons, show i + (rest.length + 1) = i + 1 + rest.length by omega]; exact k4.2.1, k4.2.2⟩
    cases j with
    | zero =>
      simp at hj; subst hj
      have ev : vv' i = v := by rw [k2 i (by omega), if_pos rfl]
      obtain ⟨q1, q2⟩ := k1 (i + 1) (Nat.le_refl _)
      rw [if_pos rfl] at q1 q2
      obtain ⟨r1, r2⟩ := e1 i (Nat.le_refl _)
      refine ⟨⟨s1, by rw [Nat.add_zero, r2, g2, hstt], g3.trans hn, g4.trans hnt, fun d => by rw [Nat.add_zero, r1, g1, henv], by rw [Nat.add_zero, ev, q2]; exact h2⟩, fun d hd => by rw [← hnt]; exact h3 d hd, fun d => by simp only [Nat.add_zero, q1, r1, ev]⟩
    | succ j =>
      have := k3 j o' (by simpa using hj)
      rwa [show i + 1 + j = i + (j + 1) by omega] at this
end
section
variable {P : Program} {Γ : FuncId → Option Sig} {ops : Array Oper} {base : Nat} {w0 : World} {S0 : Mem} {φ : Nat → Nat} {ψ : Nat → Value} {S : Mem} {s s0 t : St} {a : Act} {w : World} {α : Type} {r : α}
/-- What drawOk says of an operation. -/
structure OpOk (ops : Array Oper) (i : Nat) (o : Oper) : Prop where
  calm : calm o.op < 3
  back : ∀ e ∈ o.after, Region.binds .any e = true → e.on < i
  guard : ∀ j want, o.guard = some (j, want) → waits o j = true ∧ ∃ d, (ops[j]?).bind (·.dst) = some d
  reads : ∀ (j : Nat) (o' : Oper) (d : Nat), ops[j]? = some o' → o'.dst = some d → .tmp d ∈ o.op.operands.toList → waits o j = true
  apart : ∀ (j : Nat) (o' : Oper) (d : Nat), ops[j]? = some o' → o.dst = some d → o'.dst = some d → j = i
  order : ∀ (j : Nat) (o' : Oper), ops[j]? = some o' → j ≠ i → Ab.calm o'.op = 2 → Ab.calm o.op ≠ 0 → waits o j = true ∨ waits o' i = true
theorem opOk_spec {i : Nat} {o : Oper} (h : opOk ops i o = true) : OpOk ops i o := by
  unfold opOk at h
  simp only [Bool.and_eq_true] at h
  obtain ⟨⟨⟨h1, h2⟩, h3⟩, h4⟩ := h
  have h4' : ∀ (j : Nat) (o' : Oper), ops[j]? = some o' → _ := fun j o' hj => by
    have hlt := (Array.getElem?_eq_some_iff.1 hj).1
    have := List.all_eq_true.1 h4 j (List.mem_range.2 hlt)
    rw [hj] at this
    simp only [Bool.and_eq_true] at this
    exact this
  refine ⟨Nat.le_of_ble_eq_true h1, fun e he hb => ?_, fun j want hg => ?_, fun j o' d hj hd hm => ?_, fun j o' d hj hd hd' => ?_, fun j o' hj hne hc' hc => ?_⟩
  · have := Array.all_eq_true'.1 h2 e he
    rw [hb] at this
    simpa using this
  · rw [hg] at h3
    simp only [Bool.and_eq_true] at h3
    refine ⟨h3.1, ?_⟩
    have := h3.2
    split at this
    · rename_i d hd; exact ⟨d, hd⟩
    · cases this
  · have := (h4' j o' hj).1.1
    rw [hd] at this
    have hin : inL (tmpsOf o) d = true := inL_iff.2 (List.mem_filterMap.2 ⟨.tmp d, hm, rfl⟩)
    simpa [hin] using this
  · have := (h4' j o' hj).1.2
    rw [hd, hd'] at this
    simp only [Nat.beq_refl, Bool.not_true, Bool.or_false] at this
    exact (Nat.eq_of_beq_eq_true this).symm
  · have := (h4' j o' hj).2
    have e1 : Nat.beq i j = false := by cases q : Nat.beq i j with | false => rfl | true => exact absurd (Nat.eq_of_beq_eq_true q).symm hne
    have e2 : Nat.beq (Ab.calm o'.op) 2 = true := by rw [hc']; rfl
    have e3 : Nat.beq (Ab.calm o.op) 0 = false := by cases q : Nat.beq (Ab.calm o.op) 0 with | false => rfl | true => exact absurd (Nat.eq_of_beq_eq_true q) hc
    have e4 : Nat.beq (Ab.calm o'.op) 0 = false := by rw [hc']; rfl
    rw [e1, e2, e3, e4] at this
    simpa using this
theorem allOk_spec : ∀ (l : List Oper) (i : Nat), allOk ops i l = true → ∀ j o, l[j]? = some o → opOk ops (i + j) o = true
  | [], _, _, j, o, h => by simp at h
  | x :: l, i, h, j, o, hj => by
    simp only [allOk, Bool.and_eq_true] at h
    cases j with
    | zero => simp at hj; subst hj; exact h.1
    | succ j =>
      have := allOk_spec l (i + 1) h.2 j o (by simpa using hj)
      rwa [show i + 1 + j = i + (j + 1) by omega] at this
theorem waits_mem {o : Oper} {j : Nat} (h : waits o j = true) : ∃ e ∈ o.after, Region.binds .any e = true ∧ e.on = j := by
  unfold waits at h
  obtain ⟨i, hi, h⟩ := Array.any_eq_true.1 h
  simp only [Bool.and_eq_true] at h
  exact ⟨_, Array.getElem_mem hi, h.1, Nat.eq_of_beq_eq_true h.2⟩
theorem Rl.same (hR : Rl base w0 S0 φ ψ S s a w) (htm : ∀ d, look t.tm d = look s.tm d) (hst : t.st = s.st) (hn : t.n = s.n) (hnt : t.nt = s.nt) : Rl base w0 S0 φ ψ S t a w :=
  ⟨hR.s0, hR.snew, hR.sw, hR.below, hR.bsz, hR.defers, by rw [hnt]; exact hR.size, fun d v e => by rw [htm] at e; rw [hnt, hn]; exact hR.tm d v e, fun b k e => by rw [hst] at e; rw [hn]; exact hR.st b k e, fun b b' k k' g e e' => by rw [hst] at e e'; exact hR.apart b b' k k' g e e'⟩
theorem countP_lt {l : List Nat} {p p' : Nat → Bool} (h : ∀ j, p' j = true → p j = true) {i : Nat} (hi : i ∈ l) (h1 : p i = true) (h2 : p' i = false) : l.countP p' < l.countP p := by
  induction l with
  | nil => simp at hi
  | cons x l ih =>
    have mono : l.countP p' ≤ l.countP p := List.countP_mono_left fun j _ hj => h j hj
    rw [List.countP_cons, List.countP_cons]
    rcases List.mem_cons.1 hi with rfl | hi
    · rw [h1, h2]; simp; omega
    · have := ih hi
      by_cases hx : p' x = true
      · rw [if_pos hx, if_pos (h x hx)]; omega
      · rw [if_neg hx]; split <;> omega
/-- The state of a region whose operations X have come up. -/
structure Mid (ops : Array Oper) (s0 : St) (vv : Nat → AV) (stt : Nat → List (Nat × Blk)) (listed : Array Bool) (t : St) : Prop where
  n : t.n = s0.n
  nt : t.nt = s0.nt
  told : ∀ (j : Nat) (o : Oper) (d : Nat), ops[j]? = some o → listed.getD j false = true → o.dst = some d → look t.tm d = some (vv j)
  old : ∀ d, (∀ (j : Nat) (o : Oper), ops[j]? = some o → listed.getD j false = true → o.dst ≠ some d) → look t.tm d = look s0.tm d
  st : ∃ k, t.st = stt k ∧ k ≤ ops.size ∧ ∀ (j : Nat) (o : Oper), ops[j]? = some o → calm o.op = 2 → (listed.getD j false = true ↔ j < k)
theorem env_told {env : Nat → Nat → Option AV} {vv : Nat → AV} {stt : Nat → List (Nat × Blk)} (hat : ∀ i o, ops[i]? = some o → At P Γ ops s0 env vv stt i o) (hok : ∀ i o, ops[i]? = some o → OpOk ops i o) :
    ∀ (i : Nat), i ≤ ops.size → ∀ (j : Nat) (o : Oper) (d : Nat), j < i → ops[j]? = some o → o.dst = some d → env i d = some (vv j)
  | 0, _, j, _, _, hj, _, _ => by omega
  | i + 1, hi, j, o, d, hj, ho, hd => by
    have hlt : i < ops.size := by omega
    have hoi : ops[i]? = some ops[i] := Array.getElem?_eq_getElem hlt
    rw [(hat i _ hoi).env d]
    by_cases e : ops[i].dst = some d
    · have := (hok i _ hoi).apart j o d ho e hd
      rw [if_pos e, this]
    · rw [if_neg e]
      refine env_told hat hok i (by omega) j o d ?_ ho hd
      rcases Nat.lt_or_ge j i with h | h
      · exact h
      · exfalso
        have : j = i := by omega
        subst this
        rw [hoi] at ho
        cases ho
        exact e hd
theorem env_old {env : Nat → Nat → Option AV} {vv : Nat → AV} {stt : Nat → List (Nat × Blk)} (hat : ∀ i o, ops[i]? = some o → At P Γ ops s0 env vv stt i o) (h0 : env 0 = look s0.tm) :
    ∀ (i : Nat), i ≤ ops.size → ∀ (d : Nat), (∀ (j : Nat) (o : Oper), j < i → ops[j]? = some o → o.dst ≠ some d) → env i d = look s0.tm d
  | 0, _, d, _ => by rw [h0]
  | i + 1, hi, d, h => by
    have hlt : i < ops.size := by omega
    have hoi : ops[i]? = some ops[i] := Array.getElem?_eq_getElem hlt
    rw [(hat i _ hoi).env d, if_neg (h i _ (Nat.lt_succ_self i) hoi)]
    exact env_old hat h0 i (by omega) d (fun j o hj ho => h j o (by omega) ho)
theorem stt_same {env : Nat → Nat → Option AV} {vv : Nat → AV} {stt : Nat → List (Nat × Blk)} (hat : ∀ i o, ops[i]? = some o → At P Γ ops s0 env vv stt i o) (hok : ∀ i o, ops[i]? = some o → OpOk ops i o) (k : Nat) :
    ∀ (m : Nat), k + m ≤ ops.size → (∀ (j : Nat) (o : Oper), k ≤ j → j < k + m → ops[j]? = some o → calm o.op ≠ 2) → stt (k + m) = stt k
  | 0, _, _ => rfl
  | m + 1, hm, h => by
    have hlt : k + m < ops.size := by omega
    have hoi : ops[k + m]? = some ops[k + m] := Array.getElem?_eq_getElem hlt
    rw [← stt_same hat hok k m (by omega) (fun j o h1 h2 ho => h j o h1 (by omega) ho)]
    obtain ⟨s1, e1, _, _, _, h1⟩ := (hat (k + m) _ hoi).ex
    show stt (k + m + 1) = stt (k + m)
    rw [← e1]
    rcases h1 with ⟨_, h1⟩ | ⟨_, _, h1⟩
    · exact step1_same (hok _ _ hoi).calm (h _ _ (by omega) (by omega) hoi) h1
    · exact h1
theorem stt_eq {env : Nat → Nat → Option AV} {vv : Nat → AV} {stt : Nat → List (Nat × Blk)} (hat : ∀ i o, ops[i]? = some o → At P Γ ops s0 env vv stt i o) (hok : ∀ i o, ops[i]? = some o → OpOk ops i o) {k i : Nat} (hk : k ≤ ops.size) (hi : i ≤ ops.size)
    (h : ∀ (j : Nat) (o : Oper), ops[j]? = some o → calm o.op = 2 → (j < k ↔ j < i)) : stt k = stt i := by
  rcases Nat.le_total k i with hki | hki
  · have := stt_same hat hok k (i - k) (by omega) (fun j o h1 h2 ho hc => by have := (h j o ho hc).2 (by omega); omega)
    rw [show k + (i - k) = i by omega] at this; exact this.symm
  · have := stt_same hat hok i (k - i) (by omega) (fun j o h1 h2 ho hc => by have := (h j o ho hc).1 (by omega); omega)
    rwa [show i + (k - i) = k by omega] at this
theorem aval_congr {x : Operand} (h : ∀ d, x = .tmp d → look t.tm d = look s.tm d) : aval t x = aval s x := by
  cases x with
  | tmp d => simp only [aval, St.get, h d rfl]
  | _ => rfl
theorem wants1_true {o : Oper} (hR : Rl base w0 S0 φ ψ S t a w) {b : Bool} (h : wants1 ops o t = some b) : Region.wanted o (yielded ops a.tmps) = b := by
  unfold wants1 at h
  split at h
  · rename_i hg; cases h; simp [Region.wanted, hg]
  · rename_i j want hg
    split at h
    · rename_i d hd
      split at h
      · rename_i c hc
        cases h
        have hdn := get_lt hR hc (by simp)
        have hv := hR.get d; rw [hc] at hv
        have hv : a.tmps.getD d undef = .bool c := hv
        simp [Region.wanted, hg, yielded_at hd (by rw [hR.size]; exact hdn), hv]
      · rename_i vs hc
        cases h
        have hdn := get_lt hR hc (by simp)
        have hv := hR.get d; rw [hc] at hv
        have hv : a.tmps.getD d undef = .tuple vs := hv
        simp [Region.wanted, hg, yielded_at hd (by rw [hR.size]; exact hdn), hv]
      · cases h
    · cases h
theorem mid_run (hΓ : GOk P Γ) {env : Nat → Nat → Option AV} {vv : Nat → AV} {stt : Nat → List (Nat × Blk)} (hat : ∀ i o, ops[i]? = some o → At P Γ ops s0 env vv stt i o) (hok : ∀ i o, ops[i]? = some o → OpOk ops i o) (h0 : env 0 = look s0.tm)
    {φ0 : Nat → Nat} {ψ0 : Nat → Value} {S1 : Mem} {Q : Exit → Act → World → Prop}
    (hfin : ∀ t φ ψ S a w, Rl base w0 S0 φ ψ S t a w → t.n = s0.n → t.nt = s0.nt → (∀ d, look t.tm d = env ops.size d) → t.st = stt ops.size → Evo φ0 ψ0 S1 s0.n φ ψ S s0.n → Q .normal a w) :
    ∀ (fuel : Nat) (listed : Array Bool) (t : St) (φ : Nat → Nat) (ψ : Nat → Value) (S : Mem) (a : Act) (w : World), listed.size = ops.size → (List.range ops.size).countP (fun j => !listed.getD j false) ≤ fuel → Mid ops s0 vv stt listed t →
      (∀ (j : Nat) (o : Oper), ops[j]? = some o → listed.getD j false = true → ∀ e ∈ o.after, Region.binds .any e = true → listed.getD e.on false = true) → Rl base w0 S0 φ ψ S t a w → Evo φ0 ψ0 S1 s0.n φ ψ S s0.n → wpAny P .any ops Q fuel listed a w := by
  have done : ∀ (listed : Array Bool) (t : St) (φ : Nat → Nat) (ψ : Nat → Value) (S : Mem) (a : Act) (w : World), listed.size = ops.size → Mid ops s0 vv stt listed t → Region.ready .any ops listed = [] → Rl base w0 S0 φ ψ S t a w → Evo φ0 ψ0 S1 s0.n φ ψ S s0.n → Q .normal a w := by
    intro listed t φ ψ S a w hsz hM hr hR hev
    have all : ∀ j, j < ops.size → listed.getD j false = true := by
      intro j
      induction j using Nat.strongRecOn with
      | _ j ih =>
        intro hj
        cases hl : listed.getD j false with
        | true => rfl
        | false =>
          exfalso
          have hoj : ops[j]? = some ops[j] := Array.getElem?_eq_getElem hj
          have : j ∈ Region.ready .any ops listed := mem_ready.2 ⟨by rw [Array.getD_eq_getD_getElem?] at hl ⊢; rw [Array.getElem?_eq_getElem (by omega)] at hl ⊢; exact hl, _, hoj, fun e he hb => by
            have := (hok j _ hoj).back e he hb
            exact ih e.on this (by omega)⟩
          rw [hr] at this; cases this
    refine hfin t φ ψ S a w hR hM.n hM.nt (fun d => ?_) ?_ hev
    · by_cases hex : ∃ (j : Nat) (o : Oper), ops[j]? = some o ∧ o.dst = some d
      · obtain ⟨j, o, ho, hd⟩ := hex
        have hlt := (Array.getElem?_eq_some_iff.1 ho).1
        rw [hM.told j o d ho (all j hlt) hd, env_told hat hok ops.size (Nat.le_refl _) j o d hlt ho hd]
      · rw [hM.old d (fun j o ho _ hd => hex ⟨j, o, ho, hd⟩), env_old hat h0 ops.size (Nat.le_refl _) d (fun j o _ ho hd => hex ⟨j, o, ho, hd⟩)]
    · obtain ⟨k, h1, h2, h3⟩ := hM.st
      rw [h1]
      refine stt_eq hat hok h2 (Nat.le_refl _) (fun j o ho hc => ?_)
      have hlt := (Array.getElem?_eq_some_iff.1 ho).1
      rw [← h3 j o ho hc]
      exact ⟨fun _ => hlt, fun _ => all j hlt⟩
  intro fuel
  induction fuel with
  | zero =>
    intro listed t φ ψ S a w hsz hcnt hM hdown hR hev
    have hr : Region.ready .any ops listed = [] := by
      cases hr : Region.ready .any ops listed with
      | nil => rfl
      | cons i l =>
        exfalso
        have hi : i ∈ Region.ready .any ops listed := by rw [hr]; simp
        obtain ⟨h1, o, h2, _⟩ := mem_ready.1 hi
        have hlt := (Array.getElem?_eq_some_iff.1 h2).1
        have := List.countP_eq_zero.1 (Nat.le_zero.1 hcnt) i (List.mem_range.2 hlt)
        rw [Array.getD_eq_getD_getElem?, Array.getElem?_eq_getElem (by omega)] at h1 this
        simp at h1 this
        rw [h1] at this; cases this
    exact ⟨hr, done listed t φ ψ S a w hsz hM hr hR hev⟩
  | succ fuel ih =>
    intro listed t φ ψ S a w hsz hcnt hM hdown hR hev
    refine ⟨fun hr => done listed t φ ψ S a w hsz hM hr hR hev, fun i hi => ?_⟩
    obtain ⟨hun, o, ho, hall⟩ := mem_ready.1 hi
    have hlt := (Array.getElem?_eq_some_iff.1 ho).1
    have hun' : listed.getD i false = false := by
      rw [Array.getD_eq_getD_getElem?, Array.getElem?_eq_getElem (by omega)] at hun ⊢; exact hun
    have hO := hok i o ho
    have hA := hat i o ho
    obtain ⟨s1, e1, e2, e3, e4, hone⟩ := hA.ex
    have wl : ∀ j, waits o j = true → listed.getD j false = true ∧ j < i := fun j hj => by
      obtain ⟨e, he, hb, rfl⟩ := waits_mem hj
      exact ⟨hall e he hb, hO.back e he hb⟩
    have tmpSame : ∀ d, .tmp d ∈ o.op.operands.toList → look t.tm d = look s1.tm d := by
      intro d hd
      rw [e4]
      by_cases hex : ∃ (j : Nat) (o' : Oper), ops[j]? = some o' ∧ o'.dst = some d
      · obtain ⟨j, o', ho', hd'⟩ := hex
        obtain ⟨h1, h2⟩ := wl j (hO.reads j o' d ho' hd' hd)
        rw [hM.told j o' d ho' h1 hd', env_told hat hok i (by omega) j o' d h2 ho' hd']
      · rw [hM.old d (fun j o' ho' _ hd' => hex ⟨j, o', ho', hd'⟩), env_old hat h0 i (by omega) d (fun j o' _ ho' hd' => hex ⟨j, o', ho', hd'⟩)]
    have hops : ∀ x ∈ o.op.operands.toList, aval t x = aval s1 x := fun x hx => aval_congr fun d e => tmpSame d (e ▸ hx)
    have hwants : wants1 ops o t = wants1 ops o s1 := by
      unfold wants1
      split
      · rfl
      · rename_i j want hg
        obtain ⟨g1, d, g2⟩ := hO.guard j want hg
        rw [g2]
        obtain ⟨h1, h2⟩ := wl j g1
        obtain ⟨o', ho', hd'⟩ := Option.bind_eq_some_iff.1 g2
        have : t.get d = s1.get d := by
          unfold St.get
          rw [hM.told j o' d ho' h1 hd', e4, env_told hat hok i (by omega) j o' d h2 ho' hd']
        simp only [this]
    have hst : calm o.op ≠ 0 → t.st = s1.st := by
      intro hc
      rw [e1]
      obtain ⟨k, h1, h2, h3⟩ := hM.st
      rw [h1]
      refine stt_eq hat hok h2 (by omega) (fun j o' ho' hc' => ?_)
      rw [← h3 j o' ho' hc']
      by_cases hji : j = i
      · subst hji
        rw [hun']; constructor
        · intro h; cases h
        · intro h; omega
      · rcases hO.order j o' ho' hji hc' hc with h | h
        · obtain ⟨g1, g2⟩ := wl j h; exact ⟨fun _ => g2, fun _ => g1⟩
        · obtain ⟨e, he, hb, hei⟩ := waits_mem h
          have := (hok j o' ho').back e he hb
          constructor
          · intro hl
            have := hdown j o' ho' hl e he hb
            rw [hei, hun'] at this; cases this
          · intro hlt'; omega
    -- what stands behind
    have next : ∀ (t' : St) (φ' : Nat → Nat) (ψ' : Nat → Value) (S' : Mem) (u : Value) (w' : World), Rl base w0 S0 φ' ψ' S' t' a w' → ARel φ' ψ' S' t'.n (vv i) u → Evo φ ψ S t.n φ' ψ' S' t'.n → t'.n = t.n → t'.nt = t.nt → t'.tm = t.tm → t'.st = (if calm o.op = 2 then stt (i + 1) else t.st) → wpAny P .any ops Q fuel (listed.setIfInBounds i true) (a.put o.dst u) w' := by
      intro t' φ' ψ' S' u w' hR' hv hev' hn' hnt' htm' hst'
      have hset : ∀ j, (listed.setIfInBounds i true).getD j false = true ↔ (j = i ∨ listed.getD j false = true) := by
        intro j
        by_cases hji : i = j
        · subst hji
          rw [Array.getD_eq_getD_getElem?, Array.getElem?_setIfInBounds_self]
          simp [show i < listed.size by omega]
        · rw [getD_set_ne false hji]
          constructor
          · exact .inr
          · rintro (h | h)
            · exact absurd h.symm hji
            · exact h
      have hRp : Rl base w0 S0 φ' ψ' S' { t' with tm := dl o.dst (vv i) ++ t'.tm } (a.put o.dst u) w' := by
        cases hd : o.dst with
        | none => exact hR'
        | some d => exact hR'.put hv (by rw [hnt', hM.nt]; exact hA.dst d hd)
      refine ih _ { t' with tm := dl o.dst (vv i) ++ t'.tm } φ' ψ' S' _ w' (by simp [hsz]) ?_ ⟨hn'.trans hM.n, hnt'.trans hM.nt, fun j o' d ho' hl hd' => ?_, fun d hno => ?_, ?_⟩ (fun j o' ho' hl e he hb => ?_) hRp (hev.trans (by rw [← hM.n]; rw [hn'] at hev'; exact hev'))
      · have := countP_lt (l := List.range ops.size) (p := fun j => !listed.getD j false) (p' := fun j => !(listed.setIfInBounds i true).getD j false) (fun j hj => by
          simp only [Bool.not_eq_true'] at hj ⊢
          cases hl : listed.getD j false with
          | false => rfl
          | true => rw [(hset j).2 (.inr hl)] at hj; cases hj) (i := i) (List.mem_range.2 hlt) (by simp only [hun', Bool.not_false]) (by simp only [(hset i).2 (.inl rfl), Bool.not_true])
        omega
      · show look (dl o.dst (vv i) ++ t'.tm) d = _
        rw [dl_look, htm']
        rcases (hset j).1 hl with rfl | hl
        · rw [ho] at ho'; cases ho'
          rw [if_pos hd']
        · by_cases hdd : o.dst = some d
          · have := hO.apart j o' d ho' hdd hd'
            rw [if_pos hdd, this]
          · rw [if_neg hdd]; exact hM.told j o' d ho' hl hd'
      · show look (dl o.dst (vv i) ++ t'.tm) d = _
        rw [dl_look, htm', if_neg (hno i o ho ((hset i).2 (.inl rfl)))]
        exact hM.old d (fun j o' ho' hl => hno j o' ho' ((hset j).2 (.inr hl)))
      · show ∃ k, t'.st = stt k ∧ _
        rw [hst']
        by_cases hc : calm o.op = 2
        · rw [if_pos hc]
          refine ⟨i + 1, rfl, by omega, fun j o' ho' hc' => ?_⟩
          rw [hset]
          by_cases hji : j = i
          · exact ⟨fun _ => by omega, fun _ => .inl hji⟩
          · rcases hO.order j o' ho' hji hc' (by rw [hc]; decide) with h | h
            · obtain ⟨g1, g2⟩ := wl j h; exact ⟨fun _ => by omega, fun _ => .inr g1⟩
            · obtain ⟨e, he, hb, hei⟩ := waits_mem h
              have := (hok j o' ho').back e he hb
              constructor
              · rintro (h | hl)
                · exact absurd h hji
                · have := hdown j o' ho' hl e he hb
                  rw [hei, hun'] at this; cases this
              · intro hlt'; omega
        · rw [if_neg hc]
          obtain ⟨k, h1, h2, h3⟩ := hM.st
          refine ⟨k, h1, h2, fun j o' ho' hc' => ?_⟩
          rw [hset, ← h3 j o' ho' hc']
          constructor
          · rintro (rfl | h)
            · rw [ho] at ho'; cases ho'; exact absurd hc' hc
            · exact h
          · exact .inr
      · rcases (hset j).1 hl with rfl | hl
        · rw [ho] at ho'; cases ho'
          exact (hset _).2 (.inr (hall e he hb))
        · exact (hset _).2 (.inr (hdown j o' ho' hl e he hb))
    unfold wpOp
    rw [ho]
    simp only
    rcases hone with ⟨hw1, hs1⟩ | ⟨hw1, hv1, hs1⟩
    · rw [← hwants] at hw1
      rw [if_pos (wants1_true hR hw1)]
      refine .inl ?_
      have hs2 := step1_congr hO.calm hops hst hs1
      have hev1 := step1_ev (P := P) (Γ := Γ) (s := t) (K := fun v s => some (v, s)) hO.calm
      rw [hs2] at hev1
      have hev2 : (match o.op with
        | .call c => evCall P Γ noInl c t fun v s => some (v, s)
        | op => evOp P op t fun v s => some (v, s)) = some (vv i, { t with st := if calm o.op = 2 then stt (i + 1) else t.st }) := hev1
      have hN : Next1 base w0 S0 (fun v s => some (v, s)) (vv i, { t with st := if calm o.op = 2 then stt (i + 1) else t.st }) φ ψ S t a (fun u w' => wpAny P .any ops Q fuel (listed.setIfInBounds i true) (a.put o.dst u) w') := by
        intro v s' φ' ψ' S' u w' hk hR' hv hev' htm' _ hnt'
        cases hk
        exact next _ φ' ψ' S' u w' hR' hv hev' rfl rfl rfl rfl
      have hO' := hO
      obtain ⟨dst, op, ty, pos, after, guard⟩ := o
      split at hev2
      · rename_i c hc
        simp only at hc; subst hc
        exact call_sound hR hΓ (fun _ _ _ _ _ _ _ _ _ _ _ _ h => by simp [noInl] at h) hev2 hN
      · obtain ⟨v, s', hk, φ', ψ', S', u, w', hrun, g1, g2, g3, g4, g5, g6⟩ := evOp_sound hR hev2
        have := hN v s' φ' ψ' S' u w' hk g1 g2 g3 g4 g5 g6
        unfold Oper.wp
        rcases hrun with hrun | ⟨hrun, rfl⟩
        · rw [hrun]; exact this
        · rw [hrun]; exact this
    · rw [← hwants] at hw1
      rw [if_neg (by rw [wants1_true hR hw1]; decide)]
      refine next { t with st := if calm o.op = 2 then stt (i + 1) else t.st } φ ψ S undef w (hR.same (fun _ => rfl) ?_ rfl rfl) (by rw [hv1]; rfl) (Evo.refl _ _ _ _) rfl rfl rfl rfl
      show (if calm o.op = 2 then stt (i + 1) else t.st) = t.st
      split
      · rename_i hc
        rw [hs1, hst (by rw [hc]; decide)]
      · rfl
theorem draw_sound (hΓ : GOk P Γ) (hm : P.follows .mixedOrders = true) {id : Nat} {Q : Exit → Act → World → Prop} {K : St → Option α}
    (hd : drawOk ops = true) (h : evOps P Γ noInl ops ops.toList s K = some r) (hR : Rl base w0 S0 φ ψ S s a w) (hN : NextS base w0 S0 K r φ ψ S s (Q .normal)) : (Code.region id ops true).wp P Q a w := by
  have hok : ∀ i o, ops[i]? = some o → OpOk ops i o := fun i o ho => opOk_spec (by
    have := allOk_spec ops.toList 0 hd i o (by simpa using ho)
    rwa [Nat.zero_add] at this)
  obtain ⟨out, e, hL, hK⟩ := lex_of ops.toList s (fun o ho => by
    obtain ⟨i, hi, rfl⟩ := List.getElem_of_mem ho
    exact (hok i _ (by simp at hi ⊢)).calm) h
  obtain ⟨env, vv, stt, k1, k2, k3, k4, k5, k6, k7, k8, k9⟩ := lex_at (s0 := s) ops.toList 0 s out e (fun _ => look s.tm) (fun _ => .one .any) (fun _ => s.st) hL rfl rfl ⟨[], rfl⟩ ⟨[], rfl⟩ (fun _ => rfl) rfl
  have hat : ∀ i o, ops[i]? = some o → At P Γ ops s env vv stt i o := fun i o ho => by
    have := k3 i o (by simpa using ho)
    rwa [Nat.zero_add] at this
  have h0 := k1 0 (Nat.le_refl _)
  simp only [Nat.zero_add, Array.length_toList] at k4 k5
  refine wp_region_any hm (mid_run hΓ hat hok h0.1 (φ0 := φ) (ψ0 := ψ) (S1 := S) (fun t φ' ψ' S' a' w' hR' hn hnt htm hst hev => ?_) ops.size (Array.replicate ops.size false) s φ ψ S a _ (by simp) ?_ ⟨rfl, rfl, fun j o d ho hl => ?_, fun d _ => rfl, 0, h0.2.symm, Nat.zero_le _, fun j o ho hc => ?_⟩ (fun j o ho hl => ?_) hR.drew (Evo.refl _ _ _ _))
  · exact hN e φ' ψ' S' a' w' hK (hR'.same (fun d => by rw [k4, htm]) (by rw [k5, hst]) (by rw [k6, hn]) (by rw [k7, hnt])) (by rw [k6]; exact hev) k8 k9 k7
  · have := List.countP_le_length (p := fun j => !(Array.replicate ops.size false).getD j false) (l := List.range ops.size)
    simpa using this
  · exfalso; rw [Array.getD_eq_getD_getElem?, Array.getElem?_replicate] at hl; split at hl <;> simp at hl
  · constructor
    · intro hl; exfalso; rw [Array.getD_eq_getD_getElem?, Array.getElem?_replicate] at hl; split at hl <;> simp at hl
    · intro h; omega
  · exfalso; rw [Array.getD_eq_getD_getElem?, Array.getElem?_replicate] at hl; split at hl <;> simp at hl
end
end Go.Proofs.Ytbllbljligmglaa.Ab
