/- Abstract runs: a region whose order is drawn comes to what its own order comes to. -/
import Derived.Test.YtohlhliifeeokaaGreatAbL
import Derived.Test.YtohlhliifeeokaaGreatAbN
namespace Go.Proofs.YtohlhliifeeokaaGreat.Ab
open Go Go.RowKit
set_option linter.unusedVariables false
set_option linter.unusedSimpArgs false
abbrev noInl {α : Type} : FuncId → List AV → St → (AV → St → Option α) → Option α := fun _ _ _ _ => none
def step1 (P : Program) (Γ : FuncId → Option Sig) (o : Oper) (s : St) : Option (AV × SN) := match o.op with
  | .call c => (evCall P Γ noInl c s K1).bind fun v => some (v, s.sn)
  | .store t x y => evStore P t x y s Kn
  | .alloc e => evAlloc P e s Kn
  | .buildSlice t n ps => evBuildSlice P t n ps s Kn
  | .box e x => evBox e x s Kn
  | op => (evOp P op s K1).bind fun v => some (v, s.sn)
def wants1 (ops : Array Oper) (o : Oper) (s : St) : Option Bool := match o.guard with
  | none => some true
  | some (j, want) => match (ops[j]?).bind (·.dst) with
    | some d => match s.get d with
      | .one (.val (.bool b)) => some (b == want)
      | .one (.val (.tuple _)) => some false
      | _ => none
    | none => none
section
variable {P : Program} {Γ : FuncId → Option Sig} {ops : Array Oper} {α : Type} {s t : St} {r : α}
theorem step1_ev {o : Oper} {K : AV → St → Option α} (hc : calm o.op < 3) :
    (match o.op with
      | .call c => evCall P Γ noInl c s K
      | op => evOp P op s K) = (step1 P Γ o s).bind (ThenN s K) := by
  unfold step1
  obtain ⟨dst, op, ty, pos, after, guard⟩ := o
  simp only at hc ⊢
  cases op with
  | call c =>
    have hc2 : calm (.call c) < 2 := by
      simp only [calm] at hc ⊢
      split at hc <;> simp_all
    simp only
    rw [call_nc hc2 (fun _ _ => rfl) (Alike.of rfl), bind_bind']; rfl
  | store ty x y => exact store_n rfl rfl rfl rfl
  | alloc e => exact alloc_n rfl rfl
  | buildSlice t n ps => exact buildSlice_n (fun _ _ => rfl) rfl rfl
  | box e x => exact box_n rfl rfl rfl
  | _ =>
    simp only
    first
      | (exfalso; simp [calm] at hc; done)
      | (rw [op_nc (t := s) (by simp [calm]) (fun _ _ => rfl) (fun _ => ⟨Alike.of rfl, fun _ => rfl⟩) (fun c => by simp), bind_bind']; rfl)
theorem step1_same {o : Oper} (hc : calm o.op < 3) (h2 : calm o.op ≠ 2) {v : AV} {sn' : SN} (h : step1 P Γ o s = some (v, sn')) : sn' = s.sn := by
  unfold step1 at h
  split at h
  · obtain ⟨u, _, h⟩ := Option.bind_eq_some_iff.1 h; cases h; rfl
  · rename_i e; rw [e] at h2; exact absurd rfl h2
  · rename_i e; rw [e] at h2; exact absurd rfl h2
  · rename_i e; rw [e] at h2; exact absurd rfl h2
  · rename_i e; rw [e] at h2; exact absurd rfl h2
  · obtain ⟨u, _, h⟩ := Option.bind_eq_some_iff.1 h; cases h; rfl
theorem call_calm {c : Call} (hc : calm (.call c) < 3) : calm (.call c) < 2 ∧ calm (.call c) ≠ 2 ∧ calm (.call c) ≠ 0 := by
  simp only [calm] at hc ⊢
  split at hc <;> simp_all
theorem step1_congr {o : Oper} (hc : calm o.op < 3) (hx : ∀ x ∈ o.op.operands.toList, aval t x = aval s x) (hst : calm o.op ≠ 0 → t.sn = s.sn) {v : AV} {sn' : SN} (h : step1 P Γ o s = some (v, sn')) :
    step1 P Γ o t = some (v, if calm o.op = 2 then sn' else t.sn) := by
  obtain ⟨dst, op, ty, pos, after, guard⟩ := o
  simp only at hc hx hst
  have fs : calm op ≠ 0 → t.st = s.st := fun h => congrArg Prod.fst (hst h)
  have fn : calm op ≠ 0 → t.n = s.n := fun h => congrArg Prod.snd (hst h)
  cases op with
  | call c =>
    have hc2 := call_calm hc
    simp only [step1] at h ⊢
    obtain ⟨u, h1, h2⟩ := Option.bind_eq_some_iff.1 h
    cases h2
    rw [call_nc (t := s) hc2.1 hx (Alike.of (fs hc2.2.2)), h1, if_neg hc2.2.1]; rfl
  | store ty x y =>
    simp only [step1] at h ⊢
    simp only [Op.operands, List.toList_toArray, List.mem_cons, List.not_mem_nil, or_false, forall_eq_or_imp, forall_eq] at hx
    rw [store_n (P := P) (ty := ty) (K := Kn) hx.1 hx.2 (fs (by simp [calm])) (fn (by simp [calm])), h]
    simp [calm, ThenN, Kn]
  | alloc e =>
    simp only [step1] at h ⊢
    rw [alloc_n (P := P) (K := Kn) (fs (by simp [calm])) (fn (by simp [calm])), h]
    simp [calm, ThenN, Kn]
  | box e x =>
    simp only [step1] at h ⊢
    simp only [Op.operands, List.toList_toArray, List.mem_cons, List.not_mem_nil, or_false, forall_eq] at hx
    rw [box_n (K := Kn) hx (fs (by simp [calm])) (fn (by simp [calm])), h]
    simp [calm, ThenN, Kn]
  | buildSlice ty n ps =>
    simp only [step1] at h ⊢
    rw [buildSlice_n (P := P) (K := Kn) (t := s) (fun p hp => hx p.2 (by
      simp only [Op.operands]
      simpa using ⟨p.1, by simpa using hp⟩)) (fs (by simp [calm])) (fn (by simp [calm])), h]
    simp [calm, ThenN, Kn]
  | _ =>
    first
      | (exfalso; simp [calm] at hc; done)
      | (simp only [step1] at h ⊢
         obtain ⟨u, h1, h2⟩ := Option.bind_eq_some_iff.1 h
         cases h2
         rw [op_nc (t := s) (by simp [calm]) hx (fun h0 => ⟨Alike.of (fs h0), fun _ => fs h0⟩) (fun c => by simp), h1]
         simp [calm, K1])
theorem step1_more {o : Oper} (hc : calm o.op = 1) (hx : ∀ x ∈ o.op.operands.toList, aval t x = aval s x) {n : Nat} {l : List CV} {e : TypeId} (hst : t.st = (n, .cells l e) :: s.st) (hno : look s.st n = none) {v : AV} {sn' : SN} (h : step1 P Γ o s = some (v, sn')) :
    step1 P Γ o t = some (v, t.sn) := by
  have hd : ∀ c, t.derefC c = s.derefC c := by
    intro c
    cases c with
    | row b =>
      unfold St.derefC
      rw [hst]
      dsimp only
      by_cases hb : n = b
      · subst hb; rw [look_cons_eq, hno]
      · rw [look_cons_ne _ _ hb]
    | mv b _ _ =>
      unfold St.derefC
      rw [hst]
      dsimp only
      by_cases hb : n = b
      · subst hb; rw [look_cons_eq, hno]
      · rw [look_cons_ne _ _ hb]
    | _ => rfl
  have hm : t.mrowOf = s.mrowOf := by
    funext b
    unfold St.mrowOf
    rw [hst]
    by_cases hb : n = b
    · subst hb; rw [look_cons_eq, hno]
    · rw [look_cons_ne _ _ hb]
  obtain ⟨dst, op, ty, pos, after, guard⟩ := o
  simp only at hc hx
  cases op with
  | call c =>
    simp only [step1] at h ⊢
    obtain ⟨u, h1, h2⟩ := Option.bind_eq_some_iff.1 h
    cases h2
    rw [call_nc (t := s) (by rw [hc]; decide) hx ⟨hd, hm⟩, h1]; rfl
  | load ty x =>
    simp only [Op.operands, List.toList_toArray, List.mem_cons, List.not_mem_nil, or_false, forall_eq] at hx
    simp only [step1, evOp] at h ⊢
    obtain ⟨u, h1, h2⟩ := Option.bind_eq_some_iff.1 h
    cases h2
    have : evLoad P ty x t K1 = some v := by
      unfold evLoad at h1 ⊢
      rw [hx, hm]
      split at h1
      · rename_i b off he
        split at h1
        · rename_i l' e' hb
          have hne : n ≠ b := fun q => by subst q; rw [hno] at hb; cases hb
          rw [hst, look_cons_ne _ _ hne, hb]
          exact h1
        · cases h1
      · exact h1
      · exact h1
      · cases h1
    rw [this]; rfl
  | _ =>
    first
      | (exfalso; simp [calm] at hc; done)
      | (simp only [step1] at h ⊢
         obtain ⟨u, h1, h2⟩ := Option.bind_eq_some_iff.1 h
         cases h2
         rw [op_nc (t := s) (by simp [calm]) hx (fun h0 => ⟨⟨hd, hm⟩, fun ⟨_, _, q⟩ => by cases q⟩) (fun c => by simp), h1]
         simp [K1])
theorem step1_rd {o : Oper} (hc : isRd o.op = true) (hx : ∀ x ∈ o.op.operands.toList, aval t x = aval s x) (hd : ∀ c, t.derefC c = s.derefC c) {v : AV} {sn' : SN} (h : step1 P Γ o s = some (v, sn')) : step1 P Γ o t = some (v, t.sn) := by
  obtain ⟨dst, op, ty, pos, after, guard⟩ := o
  cases op with
  | slice ty x lo hi mx =>
    simp only [Op.operands, List.toList_toArray, List.mem_cons, List.not_mem_nil, or_false, forall_eq_or_imp, forall_eq] at hx
    simp only [step1, evOp] at h ⊢
    obtain ⟨u, h1, h2⟩ := Option.bind_eq_some_iff.1 h
    cases h2
    rw [slice_nc (t := s) (hx x (by simp)) (fun y hy => hx y (by simp at hy ⊢; simp [hy])) (fun y hy => hx y (by simp at hy ⊢; simp [hy])) hd, h1]; rfl
  | convert a b x =>
    simp only [Op.operands, List.toList_toArray, List.mem_cons, List.not_mem_nil, or_false, forall_eq] at hx
    simp only [step1, evOp] at h ⊢
    obtain ⟨u, h1, h2⟩ := Option.bind_eq_some_iff.1 h
    cases h2
    rw [conv_nc (t := s) hx hd, h1]; rfl
  | _ => simp [isRd] at hc
def snD (sn : SN) (c : CV) : CV := match c with
  | .row b => match look sn.1 b with
    | some (.row _ t l) => .sl t l
    | _ => .row b
  | .mv b lo hi => match look sn.1 b with
    | some (.row _ t l) => match texts t l with
      | some l => .sl .str ((l.take hi).drop lo)
      | none => .mv b lo hi
    | _ => .mv b lo hi
  | c => c
theorem snD_eq (s : St) (c : CV) : s.derefC c = snD s.sn c := by cases c <;> rfl
theorem snD_push {l : List (Nat × Blk)} {n m : Nat} {k : Blk} {b : Nat} (h : ∀ t e x, look l b ≠ some (.row e t x)) (hk : ∀ t e x, k ≠ .row e t x) (c : CV) : snD ((b, k) :: l, n) c = snD (l, m) c := by
  cases c with
  | row b' =>
    simp only [snD]
    by_cases q : b = b'
    · subst q
      rw [look_cons_eq]
      cases k with
      | row e t x => exact absurd rfl (hk t e x)
      | _ =>
        cases q : look l b with
        | none => rfl
        | some k' => cases k' <;> first | rfl | exact absurd q (h _ _ _)
    · rw [look_cons_ne _ _ q]
  | mv b' lo hi =>
    simp only [snD]
    by_cases q : b = b'
    · subst q
      rw [look_cons_eq]
      cases k with
      | row e t x => exact absurd rfl (hk t e x)
      | _ =>
        cases q : look l b with
        | none => rfl
        | some k' => cases k' <;> first | rfl | exact absurd q (h _ _ _)
    · rw [look_cons_ne _ _ q]
  | _ => rfl
theorem step1_deref {o : Oper} {v : AV} {sn' : SN} (hbs : isBS o.op = false) (h : step1 P Γ o s = some (v, sn')) (hk : ∀ b k, look s.st b = some k → b < s.n) (c : CV) : snD sn' c = snD s.sn c := by
  unfold step1 at h
  split at h
  · obtain ⟨u, _, h⟩ := Option.bind_eq_some_iff.1 h; cases h; rfl
  · unfold evStore at h
    split at h
    · rename_i b off _
      split at h
      · rename_i l e hb
        split at h
        · split at h
          · split at h
            · cases h
              exact snD_push (fun t e x q => by rw [hb] at q; cases q) (fun t e x q => by cases q) c
            · cases h
          · cases h
        · cases h
      · cases h
    · rename_i b w i off _
      split at h
      · rename_i e tt l hb
        have hb := mrowOf_some hb
        split at h
        · split at h
          · split at h
            · rcases cond_some h with ⟨_, h⟩ | ⟨_, h⟩
              · cases h
                exact snD_push (fun t e x q => by rw [hb] at q; cases q) (fun t e x q => by cases q) c
              · cases h
            · cases h
          · cases h
        · cases h
      · cases h
    · cases h
  · unfold evAlloc at h
    split at h
    · split at h
      · cases h
        exact snD_push (fun t e x q => absurd (hk _ _ q) (Nat.lt_irrefl _)) (fun t e x q => by cases q) c
      · cases h
    · cases h
  · rename_i q; rw [q] at hbs; cases hbs
  · unfold evBox at h
    split at h
    · cases h
      exact snD_push (fun t e x q => absurd (hk _ _ q) (Nat.lt_irrefl _)) (fun t e x q => by cases q) c
    · cases h
  · obtain ⟨u, _, h⟩ := Option.bind_eq_some_iff.1 h; cases h; rfl
def dl (d : Option Nat) (v : AV) : List (Nat × AV) := match d with | some d => [(d, v)] | none => []
def putS (s : St) (d : Option Nat) (v : AV) (sn : SN) : St := { s with tm := dl d v ++ s.tm, st := sn.1, n := sn.2 }
def Sames (s s1 : St) : Prop := s1 = s ∨ ∃ d b, s.get d = .one (.val (.bool b)) ∧ s1 = { s with tm := (d, .one (.val (.bool b))) :: s.tm }
def One (P : Program) (Γ : FuncId → Option Sig) (ops : Array Oper) (o : Oper) (s1 : St) (v : AV) (st' : SN) : Prop :=
  wants1 ops o s1 = some true ∧ step1 P Γ o s1 = some (v, st') ∨ wants1 ops o s1 = some false ∧ v = .one (.val undef) ∧ st' = s1.sn
inductive Lx (P : Program) (Γ : FuncId → Option Sig) (ops : Array Oper) : List Oper → St → List (AV × SN) → St → Prop
  | nil (s : St) : Lx P Γ ops [] s [] s
  | cons {o : Oper} {rest : List Oper} {s s1 : St} {v : AV} {st' : SN} {out : List (AV × SN)} {e : St} (h1 : Sames s s1) (h2 : One P Γ ops o s1 v st') (h3 : ∀ d, o.dst = some d → d < s.nt)
      (h4 : Lx P Γ ops rest (putS s1 o.dst v st') out e) : Lx P Γ ops (o :: rest) s ((v, st') :: out) e
theorem put_some {d : Option Nat} {v : AV} {K : St → Option α} (h : s.put d v K = some r) : (∀ d', d = some d' → d' < s.nt) ∧ K (putS s d v s.sn) = some r := by
  unfold St.put at h
  split at h
  · exact ⟨fun d' e => by simp at e, h⟩
  · rename_i d
    split at h
    · rename_i hd
      exact ⟨fun d' e => by simp at e; subst e; exact Nat.le_of_ble_eq_true hd, h⟩
    · cases h
theorem lex_of {K : St → Option α} : ∀ (l : List Oper) (s : St), (∀ o ∈ l, calm o.op < 3) → evOps P Γ noInl false noFz ops l s K = some r → ∃ out e, Lx P Γ ops l s out e ∧ K e = some r
  | [], s, _, h => by simp only [evOps] at h; exact ⟨[], s, .nil s, h⟩
  | o :: rest, s, hc, h => by
    have hco := hc o (by simp)
    have go : ∀ s1, Sames s s1 → wants1 ops o s1 = some true → (match o.op with
          | .call c => evCall P Γ noInl c s1 fun v s => s.put o.dst v fun s => evOps P Γ noInl false noFz ops rest s K
          | op => evOp P op s1 fun v s => s.put o.dst v fun s => evOps P Γ noInl false noFz ops rest s K) = some r → ∃ out e, Lx P Γ ops (o :: rest) s out e ∧ K e = some r := by
      intro s1 hs hw h
      rw [step1_ev hco] at h
      obtain ⟨⟨v, st'⟩, h1, h2⟩ := Option.bind_eq_some_iff.1 h
      obtain ⟨h3, h4⟩ := put_some h2
      obtain ⟨out, e, h5, h6⟩ := lex_of rest _ (fun o ho => hc o (by simp [ho])) h4
      refine ⟨_, e, .cons hs (.inl ⟨hw, h1⟩) (fun d hd => ?_) h5, h6⟩
      have := h3 d hd
      rcases hs with rfl | ⟨_, _, _, rfl⟩ <;> exact this
    have no : ∀ s1, Sames s s1 → wants1 ops o s1 = some false → (s1.put o.dst (.one (.val undef)) fun s => evOps P Γ noInl false noFz ops rest s K) = some r → ∃ out e, Lx P Γ ops (o :: rest) s out e ∧ K e = some r := by
      intro s1 hs hw h
      obtain ⟨h3, h4⟩ := put_some h
      obtain ⟨out, e, h5, h6⟩ := lex_of rest _ (fun o ho => hc o (by simp [ho])) h4
      refine ⟨_, e, .cons hs (.inr ⟨hw, rfl, rfl⟩) (fun d hd => ?_) h5, h6⟩
      have := h3 d hd
      rcases hs with rfl | ⟨_, _, _, rfl⟩ <;> exact this
    have lit : ∀ {d : Nat} {b : Bool} {K' : St → Option α}, s.get d = .one (.val (.bool b)) → s.put (some d) (.one (.val (.bool b))) K' = some r → ∃ s1, Sames s s1 ∧ s1.get d = .one (.val (.bool b)) ∧ K' s1 = some r := by
      intro d b K' hg hp
      obtain ⟨_, h2⟩ := put_some hp
      refine ⟨_, .inr ⟨d, b, hg, rfl⟩, ?_, h2⟩
      simp [St.get, look]
    unfold evOps at h
    simp only at h
    split at h
    · rename_i hg
      exact go s (.inl rfl) (by simp [wants1, hg]) h
    · rename_i j want hg
      split at h
      · rename_i d hd
        have hw : ∀ {s1 : St} {b : Bool}, s1.get d = .one (.val (.bool b)) → wants1 ops o s1 = some (b == want) := by
          intro s1 b hb
          simp only [wants1, hg, hd, hb]
        split at h
        · rename_i b hb
          split at h
          · rcases cond_some h with ⟨rfl, h5⟩ | ⟨rfl, h5⟩
            · obtain ⟨s1, h1, h2, h3⟩ := lit hb h5; exact go s1 h1 (by rw [hw h2]; rfl) h3
            · obtain ⟨s1, h1, h2, h3⟩ := lit hb h5; exact no s1 h1 (by rw [hw h2]; rfl) h3
          · rcases cond_some h with ⟨rfl, h5⟩ | ⟨rfl, h5⟩
            · obtain ⟨s1, h1, h2, h3⟩ := lit hb h5; exact no s1 h1 (by rw [hw h2]; rfl) h3
            · obtain ⟨s1, h1, h2, h3⟩ := lit hb h5; exact go s1 h1 (by rw [hw h2]; rfl) h3
        · rename_i vs hb
          exact no s (.inl rfl) (by simp only [wants1, hg, hd, hb]) h
        · cases h
      · cases h
theorem step1_ext {o : Oper} {v : AV} {st' : SN} (h : step1 P Γ o s = some (v, st')) (hk : ∀ b k, look s.st b = some k → b < s.n) : (∃ pre, st'.1 = pre ++ s.st) ∧ ∀ b k, look st'.1 b = some k → b < st'.2 := by
  unfold step1 at h
  split at h
  · obtain ⟨u, _, h⟩ := Option.bind_eq_some_iff.1 h; cases h; exact ⟨⟨[], rfl⟩, hk⟩
  · unfold evStore at h
    split at h
    · rename_i b off _
      split at h
      · rename_i l e hb
        split at h
        · split at h
          · split at h
            · cases h
              refine ⟨⟨[_], rfl⟩, fun b' k q => ?_⟩
              rcases put_keys q with ⟨rfl, _⟩ | ⟨_, q⟩
              · exact hk _ _ hb
              · exact hk _ _ q
            · cases h
          · cases h
        · cases h
      · cases h
    · rename_i b w i off _
      split at h
      · rename_i e tt l hb
        have hb := mrowOf_some hb
        split at h
        · split at h
          · split at h
            · rcases cond_some h with ⟨_, h⟩ | ⟨_, h⟩
              · cases h
                refine ⟨⟨[_], rfl⟩, fun b' k q => ?_⟩
                rcases put_keys q with ⟨rfl, _⟩ | ⟨_, q⟩
                · exact hk _ _ hb
                · exact hk _ _ q
              · cases h
            · cases h
          · cases h
        · cases h
      · cases h
    · cases h
  · unfold evAlloc at h
    split at h
    · split at h
      · cases h
        refine ⟨⟨[_], rfl⟩, fun b' k q => ?_⟩
        rcases put_keys q with ⟨rfl, _⟩ | ⟨_, q⟩
        · exact Nat.lt_succ_self _
        · exact Nat.lt_succ_of_lt (hk _ _ q)
      · cases h
    · cases h
  · unfold evBuildSlice at h
    split at h
    · split at h
      · split at h
        · split at h
          · split at h
            · cases h
              refine ⟨⟨[_], rfl⟩, fun b' k q => ?_⟩
              rcases put_keys q with ⟨rfl, _⟩ | ⟨_, q⟩
              · exact Nat.lt_succ_self _
              · exact Nat.lt_succ_of_lt (hk _ _ q)
            · cases h
          · cases h
        · cases h
      · split at h
        · split at h
          · cases h
            refine ⟨⟨[_], rfl⟩, fun b' k q => ?_⟩
            rcases put_keys q with ⟨rfl, _⟩ | ⟨_, q⟩
            · exact Nat.lt_succ_self _
            · exact Nat.lt_succ_of_lt (hk _ _ q)
          · cases h
        · cases h
      · cases h
    · cases h
  · unfold evBox at h
    split at h
    · cases h
      refine ⟨⟨[_], rfl⟩, fun b' k q => ?_⟩
      rcases put_keys q with ⟨rfl, _⟩ | ⟨_, q⟩
      · exact Nat.lt_succ_self _
      · exact Nat.lt_succ_of_lt (hk _ _ q)
    · cases h
  · obtain ⟨u, _, h⟩ := Option.bind_eq_some_iff.1 h; cases h; exact ⟨⟨[], rfl⟩, hk⟩
theorem step1_grow {o : Oper} {v : AV} {st' : SN} (hns : isSt o.op = false) (h : step1 P Γ o s = some (v, st')) : st' = s.sn ∨ ∃ k, st' = ((s.n, k) :: s.st, s.n + 1) := by
  unfold step1 at h
  split at h
  · obtain ⟨u, _, h⟩ := Option.bind_eq_some_iff.1 h; cases h; exact .inl rfl
  · rename_i e; rw [e] at hns; cases hns
  · unfold evAlloc at h
    split at h
    · split at h
      · cases h
        exact .inr ⟨_, rfl⟩
      · cases h
    · cases h
  · unfold evBuildSlice at h
    split at h
    · split at h
      · split at h
        · split at h
          · split at h
            · cases h
              exact .inr ⟨_, rfl⟩
            · cases h
          · cases h
        · cases h
      · split at h
        · split at h
          · cases h
            exact .inr ⟨_, rfl⟩
          · cases h
        · cases h
      · cases h
    · cases h
  · unfold evBox at h
    split at h
    · cases h
      exact .inr ⟨_, rfl⟩
    · cases h
  · obtain ⟨u, _, h⟩ := Option.bind_eq_some_iff.1 h; cases h; exact .inl rfl
theorem step1_ld {o : Oper} (hc : isLd o.op = true) (hx : ∀ x ∈ o.op.operands.toList, aval t x = aval s x) (hl : ∀ b, (∃ x off, x ∈ o.op.operands.toList ∧ aval t x = .one (.ptr b off)) ∨ (∃ x w i off, x ∈ o.op.operands.toList ∧ aval t x = .one (.mp b w i off)) → look s.st b ≠ none → look t.st b = look s.st b)
    {v : AV} {sn' : SN} (h : step1 P Γ o s = some (v, sn')) : step1 P Γ o t = some (v, t.sn) := by
  obtain ⟨dst, op, ty, pos, after, guard⟩ := o
  cases op with
  | load ty x =>
    have hx := hx x (by simp [Op.operands])
    have hxm : x ∈ (Op.load ty x).operands.toList := by simp [Op.operands]
    simp only [step1, evOp] at h ⊢
    obtain ⟨u, h1, h2⟩ := Option.bind_eq_some_iff.1 h
    cases h2
    have : evLoad P ty x t K1 = some v := by
      unfold evLoad at h1 ⊢
      rw [← hx] at h1
      split at h1
      · rename_i b off he
        split at h1
        · rename_i l' e' hb
          rw [hl b (.inl ⟨x, off, hxm, he⟩) (by rw [hb]; simp), hb]
          exact h1
        · cases h1
      · exact h1
      · rename_i b w i off he
        have hm : t.mrowOf b = s.mrowOf b := by
          split at h1
          · rename_i hmm
            have := mrowOf_some hmm
            unfold St.mrowOf
            rw [hl b (.inr ⟨x, w, i, off, hxm, he⟩) (by rw [this]; simp)]
          · cases h1
        rw [hm]
        exact h1
      · cases h1
    rw [this]; rfl
  | _ => cases hc
theorem Sames.look (h : Sames s t) : (∀ d, look t.tm d = look s.tm d) ∧ t.st = s.st ∧ t.n = s.n ∧ t.nt = s.nt ∧ ∃ pre, t.tm = pre ++ s.tm := by
  rcases h with rfl | ⟨d, b, hg, rfl⟩
  · exact ⟨fun _ => rfl, rfl, rfl, rfl, [], rfl⟩
  · refine ⟨fun e => ?_, rfl, rfl, rfl, [_], rfl⟩
    by_cases q : d = e
    · subst q
      show Ab.look ((d, _) :: s.tm) d = _
      rw [look_cons_eq]
      unfold St.get at hg
      split at hg
      · rename_i v e; rw [e, hg]
      · cases hg
    · show Ab.look ((d, _) :: s.tm) e = _
      rw [look_cons_ne _ _ q]
structure At (P : Program) (Γ : FuncId → Option Sig) (ops : Array Oper) (s0 : St) (env : Nat → Nat → Option AV) (vv : Nat → AV) (stt : Nat → SN) (i : Nat) (o : Oper) : Prop where
  ex : ∃ s1 : St, s1.sn = stt i ∧ (∀ b k, look s1.st b = some k → b < s1.n) ∧ s1.nt = s0.nt ∧ (∀ d, look s1.tm d = env i d) ∧ One P Γ ops o s1 (vv i) (stt (i + 1))
  dst : ∀ d, o.dst = some d → d < s0.nt
  env : ∀ d, env (i + 1) d = if o.dst = some d then some (vv i) else env i d
theorem dl_look (d : Option Nat) (v : AV) (l : List (Nat × AV)) (e : Nat) : look (dl d v ++ l) e = if d = some e then some v else look l e := by
  cases d with
  | none => rfl
  | some d =>
    by_cases q : d = e
    · subst q; show look ((d, v) :: l) d = _; rw [look_cons_eq, if_pos rfl]
    · show look ((d, v) :: l) e = _; rw [look_cons_ne _ _ q, if_neg (by simpa using q)]
theorem lex_at {s0 : St} : ∀ (l : List Oper) (i : Nat) (s : St) (out : List (AV × SN)) (e : St) (env : Nat → Nat → Option AV) (vv : Nat → AV) (stt : Nat → SN), Lx P Γ ops l s out e → (∀ b k, look s.st b = some k → b < s.n) → s.nt = s0.nt → (∃ pre, s.tm = pre ++ s0.tm) → (∃ pre, s.st = pre ++ s0.st) →
    (∀ d, look s.tm d = env i d) → s.sn = stt i → ∃ env' vv' stt', (∀ j, j ≤ i → env' j = env j ∧ stt' j = stt j) ∧ (∀ j, j < i → vv' j = vv j) ∧ (∀ j o, l[j]? = some o → At P Γ ops s0 env' vv' stt' (i + j) o) ∧ (∀ d, look e.tm d = env' (i + l.length) d) ∧ e.sn = stt' (i + l.length) ∧ e.nt = s0.nt ∧ (∃ pre, e.tm = pre ++ s0.tm) ∧ (∃ pre, e.st = pre ++ s0.st)
  | _, i, s, _, _, env, vv, stt, .nil _, hn, hnt, htm, hst, henv, hstt => ⟨env, vv, stt, fun _ _ => ⟨rfl, rfl⟩, fun _ _ => rfl, fun j o h => by simp at h, by simpa using henv, by simpa using hstt, hnt, htm, hst⟩
  | _, i, s, _, e, env, vv, stt, .cons (o := o) (rest := rest) (s1 := s1) (v := v) (st' := st') h1 h2 h3 h4, hn, hnt, htm, hst, henv, hstt => by
    obtain ⟨g1, g2, g3, g4, pre0, g5⟩ := h1.look
    obtain ⟨pre1, htm⟩ := htm
    obtain ⟨pre2, hst⟩ := hst
    have hk1 : ∀ b k, look s1.st b = some k → b < s1.n := fun b k q => by rw [g2] at q; rw [g3]; exact hn b k q
    have hext : (∃ pre, st'.1 = pre ++ s1.st) ∧ ∀ b k, look st'.1 b = some k → b < st'.2 := by
      rcases h2 with ⟨_, h2⟩ | ⟨_, _, h2⟩
      · exact step1_ext h2 hk1
      · rw [h2]; exact ⟨⟨[], rfl⟩, hk1⟩
    obtain ⟨⟨pre3, hext⟩, hk2⟩ := hext
    obtain ⟨env', vv', stt', k1, k2, k3, k4⟩ := lex_at (s0 := s0) rest (i + 1) (putS s1 o.dst v st') _ e (fun j => if j = i + 1 then fun d => if o.dst = some d then some v else env i d else env j) (fun j => if j = i then v else vv j) (fun j => if j = i + 1 then st' else stt j) h4 hk2 (g4.trans hnt)
      ⟨dl o.dst v ++ (pre0 ++ pre1), by simp [putS, g5, htm]⟩ ⟨pre3 ++ pre2, by simp [putS, hext, g2, hst]⟩ (fun d => by simp only [putS, dl_look, if_true, g1, henv]) (by simp [putS, St.sn])
    have e1 : ∀ j, j ≤ i → env' j = env j ∧ stt' j = stt j := fun j hj => by
      obtain ⟨q1, q2⟩ := k1 j (by omega)
      rw [q1, q2, if_neg (by omega), if_neg (by omega)]; exact ⟨rfl, rfl⟩
    refine ⟨env', vv', stt', e1, fun j hj => by rw [k2 j (by omega), if_neg (by omega)], fun j o' hj => ?_, by rw [List.length_cons, show i + (rest.length + 1) = i + 1 + rest.length by omega]; exact k4.1, by rw [List.length_cons, show i + (rest.length + 1) = i + 1 + rest.length by omega]; exact k4.2.1, k4.2.2⟩
    cases j with
    | zero =>
      simp at hj; subst hj
      have ev : vv' i = v := by rw [k2 i (by omega), if_pos rfl]
      obtain ⟨q1, q2⟩ := k1 (i + 1) (Nat.le_refl _)
      rw [if_pos rfl] at q1 q2
      obtain ⟨r1, r2⟩ := e1 i (Nat.le_refl _)
      refine ⟨⟨s1, by rw [Nat.add_zero, r2, ← hstt]; show (s1.st, s1.n) = (s.st, s.n); rw [g2, g3], hk1, g4.trans hnt, fun d => by rw [Nat.add_zero, r1, g1, henv], by rw [Nat.add_zero, ev, q2]; exact h2⟩, fun d hd => by rw [← hnt]; exact h3 d hd, fun d => by simp only [Nat.add_zero, q1, r1, ev]⟩
    | succ j =>
      have := k3 j o' (by simpa using hj)
      rwa [show i + 1 + j = i + (j + 1) by omega] at this
end
section
variable {P : Program} {Γ : FuncId → Option Sig} {ops : Array Oper} {base : Nat} {w0 : World} {S0 : Mem} {φ : Nat → Nat} {ψ : Nat → Value} {S : Mem} {s s0 t : St} {a : Act} {w : World} {α : Type} {r : α}
inductive Tw (ops : Array Oper) : Nat → Nat → Prop
  | one {i j : Nat} {o : Oper} (h : ops[i]? = some o) (k : waits o j = true) : Tw ops i j
  | more {i m j : Nat} {o : Oper} (h : ops[i]? = some o) (k : waits o m = true) (t : Tw ops m j) : Tw ops i j
theorem isRd_calm {op : Op} (h : isRd op = true) : calm op = 1 := by cases op <;> first | rfl | (simp [isRd] at h)
theorem isLd_calm {op : Op} (h : isLd op = true) : calm op = 1 := by cases op <;> first | rfl | (simp [isLd] at h)
abbrev Fr (ops : Array Oper) (op : Op) : Bool := freeOp (noBS ops) (noSt ops) op
theorem Fr_cases {op : Op} (h : Fr ops op = true) : (noBS ops = true ∧ isRd op = true) ∨ (noSt ops = true ∧ isLd op = true) := by
  unfold Fr freeOp at h
  simpa using h
theorem Fr_calm {op : Op} (h : Fr ops op = true) : calm op = 1 := by
  rcases Fr_cases h with ⟨_, h⟩ | ⟨_, h⟩
  · exact isRd_calm h
  · exact isLd_calm h
structure OpOk (ops : Array Oper) (i : Nat) (o : Oper) : Prop where
  calm : calm o.op < 3
  back : ∀ e ∈ o.after, Region.binds .any e = true → e.on < i
  guard : ∀ j want, o.guard = some (j, want) → waits o j = true ∧ ∃ d, (ops[j]?).bind (·.dst) = some d
  reads : ∀ (j : Nat) (o' : Oper) (d : Nat), ops[j]? = some o' → o'.dst = some d → .tmp d ∈ o.op.operands.toList → waits o j = true
  apart : ∀ (j : Nat) (o' : Oper) (d : Nat), ops[j]? = some o' → o.dst = some d → o'.dst = some d → j = i
  order : ∀ (j : Nat) (o' : Oper), ops[j]? = some o' → j ≠ i → Ab.calm o'.op = 2 → Ab.calm o.op ≠ 0 → Tw ops i j ∨ Tw ops j i ∨ (isAl o'.op = true ∧ i < j ∧ Ab.calm o.op = 1) ∨ Fr ops o.op = true
  al : isAl o.op = true → ∀ j, waits o j = false
theorem waits_mem {o : Oper} {j : Nat} (h : waits o j = true) : ∃ e ∈ o.after, Region.binds .any e = true ∧ e.on = j := by
  unfold waits at h
  obtain ⟨i, hi, h⟩ := Array.any_eq_true.1 h
  simp only [Bool.and_eq_true] at h
  exact ⟨_, Array.getElem_mem hi, h.1, Nat.eq_of_beq_eq_true h.2⟩
theorem waits_of {o : Oper} {e : Edge} (he : e ∈ o.after) (hb : Region.binds .any e = true) : waits o e.on = true := by
  unfold waits
  obtain ⟨i, hi, rfl⟩ := Array.getElem_of_mem he
  exact Array.any_eq_true.2 ⟨i, hi, by simp [hb, Nat.beq_refl]⟩
theorem mask_fold {ms : List Nat} {Q : Nat → Prop} : ∀ (l : List Edge) (m : Nat), (∀ j, Nat.testBit m j = true → Q j) → (∀ e ∈ l, Region.binds .any e = true → Q e.on ∧ ∀ j, Nat.testBit (ms.getD e.on 0) j = true → Q j) →
    ∀ j, Nat.testBit (l.foldl (fun m e => match Region.binds .any e with
      | true => Nat.lor (Nat.lor m (Nat.pow 2 e.on)) (ms.getD e.on 0)
      | false => m) m) j = true → Q j
  | [], m, hm, _, j, h => hm j h
  | e :: l, m, hm, hl, j, h => by
    rw [List.foldl_cons] at h
    refine mask_fold l _ ?_ (fun e he => hl e (by simp [he])) j h
    intro j h
    split at h
    · rename_i hb
      obtain ⟨q1, q2⟩ := hl e (by simp) hb
      have h : Nat.testBit ((m ||| (2 ^ e.on)) ||| ms.getD e.on 0) j = true := h
      rw [Nat.testBit_or, Nat.testBit_or, Nat.testBit_two_pow] at h
      simp only [Bool.or_eq_true, decide_eq_true_eq] at h
      rcases h with (h | h) | h
      · exact hm j h
      · exact h ▸ q1
      · exact q2 j h
    · exact hm j h
theorem mask_spec {ms : List Nat} {o : Oper} {i : Nat} (ho : ops[i]? = some o) (hms : ∀ k j, Nat.testBit (ms.getD k 0) j = true → Tw ops k j) (j : Nat) (h : Nat.testBit (maskOf ms o) j = true) : Tw ops i j :=
  mask_fold (Q := fun j => Tw ops i j) o.after.toList 0 (fun j h => by simp at h) (fun e he hb => ⟨.one ho (waits_of (by simpa using he) hb), fun j h => .more ho (waits_of (by simpa using he) hb) (hms _ _ h)⟩) j h
theorem ordAt_spec {fr : Op → Bool} {m : Nat} {o : Oper} : ∀ (l : List Oper) (j : Nat), ordAt fr m o l j = true → ∀ k o', l[k]? = some o' → (calm o.op = 2 ∨ calm o'.op = 2) → calm o.op ≠ 0 → calm o'.op ≠ 0 → Nat.testBit m (j + k) = true ∨ (isAl o.op = true ∧ calm o'.op = 1) ∨ (fr o.op = true ∨ fr o'.op = true)
  | [], _, _, k, o', h, _, _, _ => by simp at h
  | x :: l, j, h, k, o', hk, h2, h0, h0' => by
    simp only [ordAt, Bool.and_eq_true] at h
    cases k with
    | zero =>
      simp at hk; subst hk
      have e3 : Nat.beq (calm o.op) 0 = false := by cases q : Nat.beq (calm o.op) 0 with | false => rfl | true => exact absurd (Nat.eq_of_beq_eq_true q) h0
      have e4 : Nat.beq (calm x.op) 0 = false := by cases q : Nat.beq (calm x.op) 0 with | false => rfl | true => exact absurd (Nat.eq_of_beq_eq_true q) h0'
      have e5 : (!(Nat.beq (calm o.op) 2) && !(Nat.beq (calm x.op) 2)) = false := by
        rcases h2 with h2 | h2 <;> rw [h2] <;> simp
      have := h.1
      rw [e3, e4, e5] at this
      simp only [Bool.or_false, Bool.false_or, Bool.or_eq_true, Bool.and_eq_true] at this
      rcases this with ((h | h) | h) | h
      · exact .inl h
      · exact .inr (.inl ⟨h.1, Nat.eq_of_beq_eq_true h.2⟩)
      · exact .inr (.inr (.inl h))
      · exact .inr (.inr (.inr h))
    | succ k =>
      have := ordAt_spec l (j + 1) h.2 k o' (by simpa using hk) h2 h0 h0'
      rwa [show j + 1 + k = j + (k + 1) by omega] at this
theorem forceN_eq {α : Type} (m : Nat) (f : Nat → α) : forceN m f = f m := by cases m <;> rfl
theorem ordOk_spec {fr : Op → Bool} : ∀ (l pre : List Oper) (ms : List Nat), ordOk fr l pre ms = true → ops.toList = pre ++ l → ms.length = pre.length → (∀ k j, Nat.testBit (ms.getD k 0) j = true → Tw ops k j) →
    ∀ i j o o', pre.length ≤ i → j < i → ops[i]? = some o → ops[j]? = some o' → (calm o.op = 2 ∨ calm o'.op = 2) → calm o.op ≠ 0 → calm o'.op ≠ 0 → Tw ops i j ∨ (isAl o.op = true ∧ calm o'.op = 1) ∨ (fr o.op = true ∨ fr o'.op = true)
  | [], pre, ms, _, hl, _, _, i, j, o, o', hi, hj, ho, _, _, _, _ => by
    exfalso
    have := (Array.getElem?_eq_some_iff.1 ho).1
    have h2 := congrArg List.length hl
    simp at h2; omega
  | x :: l, pre, ms, h, hl, hlen, hms, i, j, o, o', hi, hj, ho, ho', h2, h0, h0' => by
    simp only [ordOk, forceN_eq, Bool.and_eq_true] at h
    have hx : ops[pre.length]? = some x := by rw [← Array.getElem?_toList, hl]; simp
    rcases Nat.lt_or_ge pre.length i with hlt | hge
    · refine ordOk_spec l (pre ++ [x]) (ms ++ [maskOf ms x]) h.2 (by rw [hl]; simp) (by simp [hlen]) (fun k j q => ?_) i j o o' (by simp; omega) hj ho ho' h2 h0 h0'
      rcases Nat.lt_trichotomy k ms.length with hk | hk | hk
      · rw [List.getD_eq_getElem?_getD, List.getElem?_append_left hk, ← List.getD_eq_getElem?_getD] at q; exact hms k j q
      · have : (ms ++ [maskOf ms x]).getD k 0 = maskOf ms x := by rw [hk]; simp
        rw [this] at q
        rw [hk, hlen]
        exact mask_spec hx hms j q
      · have : (ms ++ [maskOf ms x]).getD k 0 = 0 := by
          rw [List.getD_eq_getElem?_getD, List.getElem?_eq_none (by simp; omega)]; rfl
        rw [this] at q; simp at q
    · have : i = pre.length := by omega
      subst this
      rw [hx] at ho; cases ho
      have hp : pre[j]? = some o' := by
        rw [← Array.getElem?_toList, hl, List.getElem?_append_left hj] at ho'; exact ho'
      rcases ordAt_spec pre 0 h.1 j o' hp h2 h0 h0' with h | h
      · rw [Nat.zero_add] at h; exact .inl (mask_spec hx hms j h)
      · exact .inr h
theorem opOk_spec {i : Nat} {o : Oper} (ho : ops[i]? = some o) (hord : ∀ i j o o', j < i → ops[i]? = some o → ops[j]? = some o' → (calm o.op = 2 ∨ calm o'.op = 2) → calm o.op ≠ 0 → calm o'.op ≠ 0 → Tw ops i j ∨ (isAl o.op = true ∧ calm o'.op = 1) ∨ (Fr ops o.op = true ∨ Fr ops o'.op = true)) (h : opOk ops i o = true) : OpOk ops i o := by
  unfold opOk at h
  simp only [Bool.and_eq_true] at h
  obtain ⟨⟨⟨⟨h1, h2⟩, h3⟩, h5⟩, h4⟩ := h
  have h4' : ∀ (j : Nat) (o' : Oper), ops[j]? = some o' → _ := fun j o' hj => by
    have hlt := (Array.getElem?_eq_some_iff.1 hj).1
    have := List.all_eq_true.1 h4 j (List.mem_range.2 hlt)
    rw [hj] at this
    simp only [Bool.and_eq_true] at this
    exact this
  refine ⟨Nat.le_of_ble_eq_true h1, fun e he hb => ?_, fun j want hg => ?_, fun j o' d hj hd hm => ?_, fun j o' d hj hd hd' => ?_, fun j o' hj hne hc' hc => ?_, fun hal j => ?_⟩
  · have := Array.all_eq_true'.1 h2 e he
    rw [hb] at this
    simpa using this
  · rw [hg] at h3
    simp only [Bool.and_eq_true] at h3
    refine ⟨h3.1, ?_⟩
    have := h3.2
    split at this
    · rename_i d hd; exact ⟨d, hd⟩
    · cases this
  · have := (h4' j o' hj).1
    rw [hd] at this
    have hin : inL (tmpsOf o) d = true := inL_iff.2 (List.mem_filterMap.2 ⟨.tmp d, hm, rfl⟩)
    simpa [hin] using this
  · have := (h4' j o' hj).2
    rw [hd, hd'] at this
    simp only [Nat.beq_refl, Bool.not_true, Bool.or_false] at this
    exact (Nat.eq_of_beq_eq_true this).symm
  · rcases Nat.lt_or_ge j i with hlt | hge
    · rcases hord i j o o' hlt ho hj (.inr hc') hc (by rw [hc']; decide) with h | h | h
      · exact .inl h
      · rw [hc'] at h; exact absurd h.2 (by decide)
      · rcases h with q | q
        · exact .inr (.inr (.inr q))
        · rw [Fr_calm q] at hc'; exact absurd hc' (by decide)
    · rcases hord j i o' o (by omega) hj ho (.inl hc') (by rw [hc']; decide) hc with h | h | h
      · exact .inr (.inl h)
      · exact .inr (.inr (.inl ⟨h.1, by omega, h.2⟩))
      · rcases h with q | q
        · rw [Fr_calm q] at hc'; exact absurd hc' (by decide)
        · exact .inr (.inr (.inr q))
  · rw [hal] at h5
    simp only [Bool.not_true, Bool.false_or] at h5
    cases hw : waits o j with
    | false => rfl
    | true =>
      exfalso
      obtain ⟨e, he, hb, _⟩ := waits_mem hw
      have := Array.all_eq_true'.1 h5 e he
      rw [hb] at this; cases this
theorem allOk_spec : ∀ (l : List Oper) (i : Nat), allOk ops i l = true → ∀ j o, l[j]? = some o → opOk ops (i + j) o = true
  | [], _, _, j, o, h => by simp at h
  | x :: l, i, h, j, o, hj => by
    simp only [allOk, Bool.and_eq_true] at h
    cases j with
    | zero => simp at hj; subst hj; exact h.1
    | succ j =>
      have := allOk_spec l (i + 1) h.2 j o (by simpa using hj)
      rwa [show i + 1 + j = i + (j + 1) by omega] at this
theorem Tw.back (hok : ∀ i o, ops[i]? = some o → OpOk ops i o) {i j : Nat} (h : Tw ops i j) : j < i := by
  induction h with
  | one h k => obtain ⟨e, he, hb, rfl⟩ := waits_mem k; exact (hok _ _ h).back e he hb
  | more h k _ ih => obtain ⟨e, he, hb, rfl⟩ := waits_mem k; have := (hok _ _ h).back e he hb; omega
theorem Tw.down {listed : Array Bool} (hdown : ∀ (j : Nat) (o : Oper), ops[j]? = some o → listed.getD j false = true → ∀ e ∈ o.after, Region.binds .any e = true → listed.getD e.on false = true) {i j : Nat} (h : Tw ops i j) (hl : listed.getD i false = true) : listed.getD j false = true := by
  induction h with
  | one h k => obtain ⟨e, he, hb, rfl⟩ := waits_mem k; exact hdown _ _ h hl e he hb
  | more h k _ ih => obtain ⟨e, he, hb, rfl⟩ := waits_mem k; exact ih (hdown _ _ h hl e he hb)
theorem Tw.no {i j : Nat} {o : Oper} (h : Tw ops i j) (ho : ops[i]? = some o) (hw : ∀ j, waits o j = false) : False := by
  cases h with
  | one h k => rw [h] at ho; cases ho; rw [hw] at k; cases k
  | more h k _ => rw [h] at ho; cases ho; rw [hw] at k; cases k
theorem Rl.same (hR : Rl base w0 S0 φ ψ S s a w) (htm : ∀ d, look t.tm d = look s.tm d) (hst : t.st = s.st) (hn : t.n = s.n) (hnt : t.nt = s.nt) : Rl base w0 S0 φ ψ S t a w :=
  ⟨hR.s0, hR.snew, hR.sw, hR.below, hR.bsz, hR.defers, by rw [hnt]; exact hR.size, fun d v e => by rw [htm] at e; rw [hnt, hn]; exact hR.tm d v e, fun b k e => by rw [hst] at e; rw [hn]; exact hR.st b k e, fun b b' k k' g e e' => by rw [hst] at e e'; exact hR.apart b b' k k' g e e'⟩
theorem countP_lt {l : List Nat} {p p' : Nat → Bool} (h : ∀ j, p' j = true → p j = true) {i : Nat} (hi : i ∈ l) (h1 : p i = true) (h2 : p' i = false) : l.countP p' < l.countP p := by
  induction l with
  | nil => simp at hi
  | cons x l ih =>
    have mono : l.countP p' ≤ l.countP p := List.countP_mono_left fun j _ hj => h j hj
    rw [List.countP_cons, List.countP_cons]
    rcases List.mem_cons.1 hi with rfl | hi
    · rw [h1, h2]; simp; omega
    · have := ih hi
      by_cases hx : p' x = true
      · rw [if_pos hx, if_pos (h x hx)]; omega
      · rw [if_neg hx]; split <;> omega
structure Mid (ops : Array Oper) (s0 : St) (vv : Nat → AV) (stt : Nat → SN) (listed : Array Bool) (t : St) : Prop where
  nt : t.nt = s0.nt
  told : ∀ (j : Nat) (o : Oper) (d : Nat), ops[j]? = some o → listed.getD j false = true → o.dst = some d → look t.tm d = some (vv j)
  old : ∀ d, (∀ (j : Nat) (o : Oper), ops[j]? = some o → listed.getD j false = true → o.dst ≠ some d) → look t.tm d = look s0.tm d
  st : ∃ k, t.sn = stt k ∧ k ≤ ops.size ∧ ∀ (j : Nat) (o : Oper), ops[j]? = some o → calm o.op = 2 → (listed.getD j false = true ↔ j < k)
theorem env_told {env : Nat → Nat → Option AV} {vv : Nat → AV} {stt : Nat → SN} (hat : ∀ i o, ops[i]? = some o → At P Γ ops s0 env vv stt i o) (hok : ∀ i o, ops[i]? = some o → OpOk ops i o) :
    ∀ (i : Nat), i ≤ ops.size → ∀ (j : Nat) (o : Oper) (d : Nat), j < i → ops[j]? = some o → o.dst = some d → env i d = some (vv j)
  | 0, _, j, _, _, hj, _, _ => by omega
  | i + 1, hi, j, o, d, hj, ho, hd => by
    have hlt : i < ops.size := by omega
    have hoi : ops[i]? = some ops[i] := Array.getElem?_eq_getElem hlt
    rw [(hat i _ hoi).env d]
    by_cases e : ops[i].dst = some d
    · have := (hok i _ hoi).apart j o d ho e hd
      rw [if_pos e, this]
    · rw [if_neg e]
      refine env_told hat hok i (by omega) j o d ?_ ho hd
      rcases Nat.lt_or_ge j i with h | h
      · exact h
      · exfalso
        have : j = i := by omega
        subst this
        rw [hoi] at ho
        cases ho
        exact e hd
theorem env_old {env : Nat → Nat → Option AV} {vv : Nat → AV} {stt : Nat → SN} (hat : ∀ i o, ops[i]? = some o → At P Γ ops s0 env vv stt i o) (h0 : env 0 = look s0.tm) :
    ∀ (i : Nat), i ≤ ops.size → ∀ (d : Nat), (∀ (j : Nat) (o : Oper), j < i → ops[j]? = some o → o.dst ≠ some d) → env i d = look s0.tm d
  | 0, _, d, _ => by rw [h0]
  | i + 1, hi, d, h => by
    have hlt : i < ops.size := by omega
    have hoi : ops[i]? = some ops[i] := Array.getElem?_eq_getElem hlt
    rw [(hat i _ hoi).env d, if_neg (h i _ (Nat.lt_succ_self i) hoi)]
    exact env_old hat h0 i (by omega) d (fun j o hj ho => h j o (by omega) ho)
theorem stt_same {env : Nat → Nat → Option AV} {vv : Nat → AV} {stt : Nat → SN} (hat : ∀ i o, ops[i]? = some o → At P Γ ops s0 env vv stt i o) (hok : ∀ i o, ops[i]? = some o → OpOk ops i o) (k : Nat) :
    ∀ (m : Nat), k + m ≤ ops.size → (∀ (j : Nat) (o : Oper), k ≤ j → j < k + m → ops[j]? = some o → calm o.op ≠ 2) → stt (k + m) = stt k
  | 0, _, _ => rfl
  | m + 1, hm, h => by
    have hlt : k + m < ops.size := by omega
    have hoi : ops[k + m]? = some ops[k + m] := Array.getElem?_eq_getElem hlt
    rw [← stt_same hat hok k m (by omega) (fun j o h1 h2 ho => h j o h1 (by omega) ho)]
    obtain ⟨s1, e1, _, _, _, h1⟩ := (hat (k + m) _ hoi).ex
    show stt (k + m + 1) = stt (k + m)
    rw [← e1]
    rcases h1 with ⟨_, h1⟩ | ⟨_, _, h1⟩
    · exact step1_same (hok _ _ hoi).calm (h _ _ (by omega) (by omega) hoi) h1
    · exact h1
theorem stt_eq {env : Nat → Nat → Option AV} {vv : Nat → AV} {stt : Nat → SN} (hat : ∀ i o, ops[i]? = some o → At P Γ ops s0 env vv stt i o) (hok : ∀ i o, ops[i]? = some o → OpOk ops i o) {k i : Nat} (hk : k ≤ ops.size) (hi : i ≤ ops.size)
    (h : ∀ (j : Nat) (o : Oper), ops[j]? = some o → calm o.op = 2 → (j < k ↔ j < i)) : stt k = stt i := by
  rcases Nat.le_total k i with hki | hki
  · have := stt_same hat hok k (i - k) (by omega) (fun j o h1 h2 ho hc => by have := (h j o ho hc).2 (by omega); omega)
    rw [show k + (i - k) = i by omega] at this; exact this.symm
  · have := stt_same hat hok i (k - i) (by omega) (fun j o h1 h2 ho hc => by have := (h j o ho hc).1 (by omega); omega)
    rwa [show i + (k - i) = k by omega] at this
theorem stt_deref {env : Nat → Nat → Option AV} {vv : Nat → AV} {stt : Nat → SN} (hat : ∀ i o, ops[i]? = some o → At P Γ ops s0 env vv stt i o) (hb : noBS ops = true) (c : CV) : ∀ (k : Nat), k ≤ ops.size → snD (stt k) c = snD (stt 0) c
  | 0, _ => rfl
  | k + 1, hk => by
    have hlt : k < ops.size := by omega
    have hoi : ops[k]? = some ops[k] := Array.getElem?_eq_getElem hlt
    rw [← stt_deref hat hb c k (by omega)]
    obtain ⟨s1, e1, e2, _, _, h1⟩ := (hat k _ hoi).ex
    rw [← e1]
    rcases h1 with ⟨_, h1⟩ | ⟨_, _, h1⟩
    · have := List.all_eq_true.1 hb ops[k] (by simp)
      exact step1_deref (by simpa using this) h1 e2 c
    · rw [h1]
theorem stt_look {env : Nat → Nat → Option AV} {vv : Nat → AV} {stt : Nat → SN} (hat : ∀ i o, ops[i]? = some o → At P Γ ops s0 env vv stt i o) (hb : noSt ops = true) (k : Nat) : ∀ (m : Nat), k + m ≤ ops.size → (stt k).2 ≤ (stt (k + m)).2 ∧ ∀ b, b < (stt k).2 → look (stt (k + m)).1 b = look (stt k).1 b
  | 0, _ => ⟨Nat.le_refl _, fun _ _ => rfl⟩
  | m + 1, hm => by
    have hlt : k + m < ops.size := by omega
    have hoi : ops[k + m]? = some ops[k + m] := Array.getElem?_eq_getElem hlt
    obtain ⟨g1, g2⟩ := stt_look hat hb k m (by omega)
    obtain ⟨s1, e1, e2, _, _, h1⟩ := (hat (k + m) _ hoi).ex
    have e3 : s1.st = (stt (k + m)).1 := congrArg Prod.fst e1
    have e4 : s1.n = (stt (k + m)).2 := congrArg Prod.snd e1
    show (stt k).2 ≤ (stt (k + m + 1)).2 ∧ ∀ b, b < (stt k).2 → look (stt (k + m + 1)).1 b = look (stt k).1 b
    rcases h1 with ⟨_, h1⟩ | ⟨_, _, h1⟩
    · have hns : isSt ops[k + m].op = false := by
        have := List.all_eq_true.1 hb ops[k + m] (by simp)
        simpa using this
      rcases step1_grow hns h1 with h | ⟨q, h⟩
      · rw [h, e1]; exact ⟨g1, g2⟩
      · rw [h]
        refine ⟨by show _ ≤ s1.n + 1; omega, fun b hlt' => ?_⟩
        show look ((s1.n, q) :: s1.st) b = _
        rw [look_cons_ne _ _ (by omega), e3]
        exact g2 b hlt'
    · rw [h1, e1]; exact ⟨g1, g2⟩
theorem aval_congr {x : Operand} (h : ∀ d, x = .tmp d → look t.tm d = look s.tm d) : aval t x = aval s x := by
  cases x with
  | tmp d => simp only [aval, St.get, h d rfl]
  | _ => rfl
theorem wants1_true {o : Oper} (hR : Rl base w0 S0 φ ψ S t a w) {b : Bool} (h : wants1 ops o t = some b) : Region.wanted o (yielded ops a.tmps) = b := by
  unfold wants1 at h
  split at h
  · rename_i hg; cases h; simp [Region.wanted, hg]
  · rename_i j want hg
    split at h
    · rename_i d hd
      split at h
      · rename_i c hc
        cases h
        have hdn := get_lt hR hc (by simp)
        have hv := hR.get d; rw [hc] at hv
        have hv : a.tmps.getD d undef = .bool c := hv
        simp [Region.wanted, hg, yielded_at hd (by rw [hR.size]; exact hdn), hv]
      · rename_i vs hc
        cases h
        have hdn := get_lt hR hc (by simp)
        have hv := hR.get d; rw [hc] at hv
        have hv : a.tmps.getD d undef = .tuple vs := hv
        simp [Region.wanted, hg, yielded_at hd (by rw [hR.size]; exact hdn), hv]
      · cases h
    · cases h
theorem mid_run (hΓ : GOk P Γ) {env : Nat → Nat → Option AV} {vv : Nat → AV} {stt : Nat → SN} (hat : ∀ i o, ops[i]? = some o → At P Γ ops s0 env vv stt i o) (hok : ∀ i o, ops[i]? = some o → OpOk ops i o) (h0 : env 0 = look s0.tm)
    {φ0 : Nat → Nat} {ψ0 : Nat → Value} {S1 : Mem} {Q : Exit → Act → World → Prop}
    (hfin : ∀ t φ ψ S a w, Rl base w0 S0 φ ψ S t a w → t.nt = s0.nt → (∀ d, look t.tm d = env ops.size d) → t.sn = stt ops.size → Evo φ0 ψ0 S1 s0.n φ ψ S t.n → Q .normal a w) :
    ∀ (fuel : Nat) (listed : Array Bool) (t : St) (φ : Nat → Nat) (ψ : Nat → Value) (S : Mem) (a : Act) (w : World), listed.size = ops.size → (List.range ops.size).countP (fun j => !listed.getD j false) ≤ fuel → Mid ops s0 vv stt listed t →
      (∀ (j : Nat) (o : Oper), ops[j]? = some o → listed.getD j false = true → ∀ e ∈ o.after, Region.binds .any e = true → listed.getD e.on false = true) → Rl base w0 S0 φ ψ S t a w → Evo φ0 ψ0 S1 s0.n φ ψ S t.n → wpAny P .any ops Q fuel listed a w := by
  have done : ∀ (listed : Array Bool) (t : St) (φ : Nat → Nat) (ψ : Nat → Value) (S : Mem) (a : Act) (w : World), listed.size = ops.size → Mid ops s0 vv stt listed t → Region.ready .any ops listed = [] → Rl base w0 S0 φ ψ S t a w → Evo φ0 ψ0 S1 s0.n φ ψ S t.n → Q .normal a w := by
    intro listed t φ ψ S a w hsz hM hr hR hev
    have all : ∀ j, j < ops.size → listed.getD j false = true := by
      intro j
      induction j using Nat.strongRecOn with
      | _ j ih =>
        intro hj
        cases hl : listed.getD j false with
        | true => rfl
        | false =>
          exfalso
          have hoj : ops[j]? = some ops[j] := Array.getElem?_eq_getElem hj
          have : j ∈ Region.ready .any ops listed := mem_ready.2 ⟨by rw [Array.getD_eq_getD_getElem?] at hl ⊢; rw [Array.getElem?_eq_getElem (by omega)] at hl ⊢; exact hl, _, hoj, fun e he hb => by
            have := (hok j _ hoj).back e he hb
            exact ih e.on this (by omega)⟩
          rw [hr] at this; cases this
    refine hfin t φ ψ S a w hR hM.nt (fun d => ?_) ?_ hev
    · by_cases hex : ∃ (j : Nat) (o : Oper), ops[j]? = some o ∧ o.dst = some d
      · obtain ⟨j, o, ho, hd⟩ := hex
        have hlt := (Array.getElem?_eq_some_iff.1 ho).1
        rw [hM.told j o d ho (all j hlt) hd, env_told hat hok ops.size (Nat.le_refl _) j o d hlt ho hd]
      · rw [hM.old d (fun j o ho _ hd => hex ⟨j, o, ho, hd⟩), env_old hat h0 ops.size (Nat.le_refl _) d (fun j o _ ho hd => hex ⟨j, o, ho, hd⟩)]
    · obtain ⟨k, h1, h2, h3⟩ := hM.st
      rw [h1]
      refine stt_eq hat hok h2 (Nat.le_refl _) (fun j o ho hc => ?_)
      have hlt := (Array.getElem?_eq_some_iff.1 ho).1
      rw [← h3 j o ho hc]
      exact ⟨fun _ => hlt, fun _ => all j hlt⟩
  intro fuel
  induction fuel with
  | zero =>
    intro listed t φ ψ S a w hsz hcnt hM hdown hR hev
    have hr : Region.ready .any ops listed = [] := by
      cases hr : Region.ready .any ops listed with
      | nil => rfl
      | cons i l =>
        exfalso
        have hi : i ∈ Region.ready .any ops listed := by rw [hr]; simp
        obtain ⟨h1, o, h2, _⟩ := mem_ready.1 hi
        have hlt := (Array.getElem?_eq_some_iff.1 h2).1
        have := List.countP_eq_zero.1 (Nat.le_zero.1 hcnt) i (List.mem_range.2 hlt)
        rw [Array.getD_eq_getD_getElem?, Array.getElem?_eq_getElem (by omega)] at h1 this
        simp at h1 this
        rw [h1] at this; cases this
    exact ⟨hr, done listed t φ ψ S a w hsz hM hr hR hev⟩
  | succ fuel ih =>
    intro listed t φ ψ S a w hsz hcnt hM hdown hR hev
    refine ⟨fun hr => done listed t φ ψ S a w hsz hM hr hR hev, fun i hi => ?_⟩
    obtain ⟨hun, o, ho, hall⟩ := mem_ready.1 hi
    have hlt := (Array.getElem?_eq_some_iff.1 ho).1
    have hun' : listed.getD i false = false := by
      rw [Array.getD_eq_getD_getElem?, Array.getElem?_eq_getElem (by omega)] at hun ⊢; exact hun
    have hO := hok i o ho
    have hA := hat i o ho
    obtain ⟨s1, e1, e2, e3, e4, hone⟩ := hA.ex
    have wl : ∀ j, waits o j = true → listed.getD j false = true ∧ j < i := fun j hj => by
      obtain ⟨e, he, hb, rfl⟩ := waits_mem hj
      exact ⟨hall e he hb, hO.back e he hb⟩
    have wlT : ∀ j, Tw ops i j → listed.getD j false = true ∧ j < i := fun j hj => by
      refine ⟨?_, hj.back hok⟩
      cases hj with
      | one h k => rw [ho] at h; cases h; exact (wl _ k).1
      | more h k t => rw [ho] at h; cases h; exact t.down hdown (wl _ k).1
    have tmpSame : ∀ d, .tmp d ∈ o.op.operands.toList → look t.tm d = look s1.tm d := by
      intro d hd
      rw [e4]
      by_cases hex : ∃ (j : Nat) (o' : Oper), ops[j]? = some o' ∧ o'.dst = some d
      · obtain ⟨j, o', ho', hd'⟩ := hex
        obtain ⟨h1, h2⟩ := wl j (hO.reads j o' d ho' hd' hd)
        rw [hM.told j o' d ho' h1 hd', env_told hat hok i (by omega) j o' d h2 ho' hd']
      · rw [hM.old d (fun j o' ho' _ hd' => hex ⟨j, o', ho', hd'⟩), env_old hat h0 i (by omega) d (fun j o' _ ho' hd' => hex ⟨j, o', ho', hd'⟩)]
    have hops : ∀ x ∈ o.op.operands.toList, aval t x = aval s1 x := fun x hx => aval_congr fun d e => tmpSame d (e ▸ hx)
    have hwants : wants1 ops o t = wants1 ops o s1 := by
      unfold wants1
      split
      · rfl
      · rename_i j want hg
        obtain ⟨g1, d, g2⟩ := hO.guard j want hg
        rw [g2]
        obtain ⟨h1, h2⟩ := wl j g1
        obtain ⟨o', ho', hd'⟩ := Option.bind_eq_some_iff.1 g2
        have : t.get d = s1.get d := by
          unfold St.get
          rw [hM.told j o' d ho' h1 hd', e4, env_told hat hok i (by omega) j o' d h2 ho' hd']
        simp only [this]
    -- which of what writes has come up
    have hrdd : noBS ops = true → ∀ c, t.derefC c = s1.derefC c := fun hnb c => by
      obtain ⟨k, h1, h2, _⟩ := hM.st
      rw [snD_eq, snD_eq, h1, e1, stt_deref hat hnb c k h2, stt_deref hat hnb c i (by omega)]
    have hbefore : calm o.op ≠ 0 → ¬ Fr ops o.op = true → ∀ (j : Nat) (o' : Oper), ops[j]? = some o' → calm o'.op = 2 → ¬ (isAl o'.op = true ∧ i < j ∧ calm o.op = 1) → (listed.getD j false = true ↔ j < i) := by
      intro hc hnr j o' ho' hc' hna
      by_cases hji : j = i
      · subst hji
        rw [hun']; constructor
        · intro h; cases h
        · intro h; omega
      · rcases hO.order j o' ho' hji hc' hc with h | h | h | h
        · obtain ⟨g1, g2⟩ := wlT j h; exact ⟨fun _ => g2, fun _ => g1⟩
        · have := h.back hok
          constructor
          · intro hl
            have := h.down hdown hl
            rw [hun'] at this; cases this
          · intro hlt'; omega
        · exact absurd h hna
        · exact absurd h hnr
    have hst : calm o.op ≠ 0 → ¬ Fr ops o.op = true → t.sn = s1.sn ∨ (calm o.op = 1 ∧ ∃ l e, t.st = (s1.n, .cells l e) :: s1.st) := by
      intro hc hnr
      rw [e1]
      obtain ⟨k, h1, h2, h3⟩ := hM.st
      by_cases hex : ∃ (j : Nat) (o' : Oper), ops[j]? = some o' ∧ listed.getD j false = true ∧ isAl o'.op = true ∧ i < j ∧ calm o.op = 1 ∧ calm o'.op = 2
      · obtain ⟨j, o', ho', hl', hal, hij, hc1, hc2⟩ := hex
        right
        refine ⟨hc1, ?_⟩
        have hjk : j < k := (h3 j o' ho' hc2).1 hl'
        -- nothing else is written between the two
        have only : ∀ (m : Nat) (o2 : Oper), ops[m]? = some o2 → calm o2.op = 2 → m ≠ j → listed.getD m false = true → m < i := by
          intro m o2 ho2 hm2 hmj hlm
          by_cases hna : isAl o2.op = true ∧ i < m ∧ calm o.op = 1
          · exfalso
            rcases (hok m o2 ho2).order j o' ho' (fun q => hmj q.symm) hc2 (by rw [hm2]; decide) with h | h | h | h
            · -- m waits for j: fine, two makings in an order are not borne
              exact h.no ho2 ((hok m o2 ho2).al hna.1)
            · exact h.no ho' ((hok j o' ho').al hal)
            · rw [hm2] at h; exact absurd h.2.2 (by decide)
            · rw [Fr_calm h] at hm2; exact absurd hm2 (by decide)
          · exact (hbefore hc hnr m o2 ho2 hm2 hna).1 hlm
        have k1 : stt k = stt (j + 1) := stt_eq hat hok h2 (by have := (Array.getElem?_eq_some_iff.1 ho').1; omega) (fun m o2 ho2 hm2 => by
          constructor
          · intro hmk
            by_cases hmj : m = j
            · omega
            · have := only m o2 ho2 hm2 hmj ((h3 m o2 ho2 hm2).2 hmk); omega
          · intro hmj; omega)
        have k0 : stt j = stt i := stt_eq hat hok (by have := (Array.getElem?_eq_some_iff.1 ho').1; omega) (by omega) (fun m o2 ho2 hm2 => by
          constructor
          · intro hmj
            exact only m o2 ho2 hm2 (by omega) ((h3 m o2 ho2 hm2).2 (by omega))
          · intro hmi; omega)
        obtain ⟨s2, q1, q2, q3, q4, q5⟩ := (hat j o' ho').ex
        have hs2 : s2.st = s1.st ∧ s2.n = s1.n := by
          have : s2.sn = s1.sn := by rw [q1, k0, e1]
          exact ⟨congrArg Prod.fst this, congrArg Prod.snd this⟩
        have htn : t.sn = stt (j + 1) := by rw [h1, k1]
        rcases q5 with ⟨_, q5⟩ | ⟨hwf, _, _⟩
        · cases hop : o'.op with
          | alloc e =>
            unfold step1 at q5
            rw [hop] at q5
            simp only at q5
            unfold evAlloc at q5
            split at q5
            · split at q5
              · rename_i l _
                have q6 := congrArg (fun z : AV × SN => z.2) (Option.some.inj q5)
                have q6 : ((s2.n, Blk.cells l e) :: s2.st, s2.n + 1) = stt (j + 1) := q6
                rw [← q6, hs2.1, hs2.2] at htn
                exact ⟨l, e, congrArg Prod.fst htn⟩
              · cases q5
            · cases q5
          | _ => rw [hop] at hal; cases hal
        · exfalso
          unfold wants1 at hwf
          split at hwf
          · cases hwf
          · rename_i j2 want hg
            have := ((hok j o' ho').guard j2 want hg).1
            rw [(hok j o' ho').al hal] at this; cases this
      · left
        rw [h1]
        refine stt_eq hat hok h2 (by omega) (fun j o' ho' hc' => ?_)
        rw [← h3 j o' ho' hc']
        by_cases hna : isAl o'.op = true ∧ i < j ∧ calm o.op = 1
        · constructor
          · intro hl; exact absurd ⟨j, o', ho', hl, hna.1, hna.2.1, hna.2.2, hc'⟩ hex
          · intro hlt'; omega
        · exact hbefore hc hnr j o' ho' hc' hna
    -- what stands behind
    have next : ∀ (t' : St) (φ' : Nat → Nat) (ψ' : Nat → Value) (S' : Mem) (u : Value) (w' : World), Rl base w0 S0 φ' ψ' S' t' a w' → ARel φ' ψ' S' t'.n (vv i) u → Evo φ ψ S t.n φ' ψ' S' t'.n → t'.nt = t.nt → t'.tm = t.tm → t'.sn = (if calm o.op = 2 then stt (i + 1) else t.sn) → wpAny P .any ops Q fuel (listed.setIfInBounds i true) (a.put o.dst u) w' := by
      intro t' φ' ψ' S' u w' hR' hv hev' hnt' htm' hst'
      have hset : ∀ j, (listed.setIfInBounds i true).getD j false = true ↔ (j = i ∨ listed.getD j false = true) := by
        intro j
        by_cases hji : i = j
        · subst hji
          rw [Array.getD_eq_getD_getElem?, Array.getElem?_setIfInBounds_self]
          simp [show i < listed.size by omega]
        · rw [getD_set_ne false hji]
          constructor
          · exact .inr
          · rintro (h | h)
            · exact absurd h.symm hji
            · exact h
      have hRp : Rl base w0 S0 φ' ψ' S' { t' with tm := dl o.dst (vv i) ++ t'.tm } (a.put o.dst u) w' := by
        cases hd : o.dst with
        | none => exact hR'
        | some d => exact hR'.put hv (by rw [hnt', hM.nt]; exact hA.dst d hd)
      refine ih _ { t' with tm := dl o.dst (vv i) ++ t'.tm } φ' ψ' S' _ w' (by simp [hsz]) ?_ ⟨hnt'.trans hM.nt, fun j o' d ho' hl hd' => ?_, fun d hno => ?_, ?_⟩ (fun j o' ho' hl e he hb => ?_) hRp (hev.trans hev')
      · have := countP_lt (l := List.range ops.size) (p := fun j => !listed.getD j false) (p' := fun j => !(listed.setIfInBounds i true).getD j false) (fun j hj => by
          simp only [Bool.not_eq_true'] at hj ⊢
          cases hl : listed.getD j false with
          | false => rfl
          | true => rw [(hset j).2 (.inr hl)] at hj; cases hj) (i := i) (List.mem_range.2 hlt) (by simp only [hun', Bool.not_false]) (by simp only [(hset i).2 (.inl rfl), Bool.not_true])
        omega
      · show look (dl o.dst (vv i) ++ t'.tm) d = _
        rw [dl_look, htm']
        rcases (hset j).1 hl with rfl | hl
        · rw [ho] at ho'; cases ho'
          rw [if_pos hd']
        · by_cases hdd : o.dst = some d
          · have := hO.apart j o' d ho' hdd hd'
            rw [if_pos hdd, this]
          · rw [if_neg hdd]; exact hM.told j o' d ho' hl hd'
      · show look (dl o.dst (vv i) ++ t'.tm) d = _
        rw [dl_look, htm', if_neg (hno i o ho ((hset i).2 (.inl rfl)))]
        exact hM.old d (fun j o' ho' hl => hno j o' ho' ((hset j).2 (.inr hl)))
      · show ∃ k, t'.sn = stt k ∧ _
        rw [hst']
        by_cases hc : calm o.op = 2
        · rw [if_pos hc]
          refine ⟨i + 1, rfl, by omega, fun j o' ho' hc' => ?_⟩
          rw [hset]
          by_cases hji : j = i
          · exact ⟨fun _ => by omega, fun _ => .inl hji⟩
          · rcases hO.order j o' ho' hji hc' (by rw [hc]; decide) with h | h | h | h
            · obtain ⟨g1, g2⟩ := wlT j h; exact ⟨fun _ => by omega, fun _ => .inr g1⟩
            · have := h.back hok
              constructor
              · rintro (h | hl)
                · exact absurd h hji
                · have := h.down hdown hl
                  rw [hun'] at this; cases this
              · intro hlt'; omega
            · rw [hc] at h; exact absurd h.2.2 (by decide)
            · rw [Fr_calm h] at hc; exact absurd hc (by decide)
        · rw [if_neg hc]
          obtain ⟨k, h1, h2, h3⟩ := hM.st
          refine ⟨k, h1, h2, fun j o' ho' hc' => ?_⟩
          rw [hset, ← h3 j o' ho' hc']
          constructor
          · rintro (rfl | h)
            · rw [ho] at ho'; cases ho'; exact absurd hc' hc
            · exact h
          · exact .inr
      · rcases (hset j).1 hl with rfl | hl
        · rw [ho] at ho'; cases ho'
          exact (hset _).2 (.inr (hall e he hb))
        · exact (hset _).2 (.inr (hdown j o' ho' hl e he hb))
    unfold wpOp
    rw [ho]
    simp only
    rcases hone with ⟨hw1, hs1⟩ | ⟨hw1, hv1, hs1⟩
    · rw [← hwants] at hw1
      rw [if_pos (wants1_true hR hw1)]
      refine .inl ?_
      have hs2 : step1 P Γ o t = some (vv i, if calm o.op = 2 then stt (i + 1) else t.sn) := by
        by_cases hc0 : calm o.op = 0
        · exact step1_congr hO.calm hops (fun h => absurd hc0 h) hs1
        · by_cases hnr : Fr ops o.op = true
          · rw [if_neg (by rw [Fr_calm hnr]; decide)]
            rcases Fr_cases hnr with ⟨g1, g2⟩ | ⟨g1, g2⟩
            · exact step1_rd g2 hops (hrdd g1) hs1
            · refine step1_ld g2 hops (fun b hb hne => ?_) hs1
              have hbt : b < t.n := by
                rcases hb with ⟨x, off, _, hx⟩ | ⟨x, w', i', off, _, hx⟩
                · have := hR.val x; rw [hx] at this; exact this.1
                · have := hR.val x; rw [hx] at this; exact this.1
              have hbs : b < s1.n := by
                cases q : look s1.st b with
                | none => exact absurd q hne
                | some k => exact e2 _ _ q
              obtain ⟨k, h1, h2, _⟩ := hM.st
              have ht : t.st = (stt k).1 := congrArg Prod.fst h1
              have ht' : t.n = (stt k).2 := congrArg Prod.snd h1
              have hs : s1.st = (stt i).1 := congrArg Prod.fst e1
              have hs' : s1.n = (stt i).2 := congrArg Prod.snd e1
              rw [ht, hs]
              rcases Nat.le_total k i with hki | hki
              · have := (stt_look hat g1 k (i - k) (by omega)).2 b (by omega)
                rw [show k + (i - k) = i by omega] at this; exact this.symm
              · have := (stt_look hat g1 i (k - i) (by omega)).2 b (by omega)
                rwa [show i + (k - i) = k by omega] at this
          rcases hst hc0 hnr with h | ⟨hc1, l, e, h⟩
          · exact step1_congr hO.calm hops (fun _ => h) hs1
          · rw [if_neg (by rw [hc1]; decide)]
            refine step1_more hc1 hops h ?_ hs1
            cases q : look s1.st s1.n with
            | none => rfl
            | some k => exact absurd (e2 _ _ q) (Nat.lt_irrefl _)
      have hev1 := step1_ev (P := P) (Γ := Γ) (s := t) (K := fun v s => some (v, s)) hO.calm
      rw [hs2] at hev1
      have hev2 : (match o.op with
        | .call c => evCall P Γ noInl c t fun v s => some (v, s)
        | op => evOp P op t fun v s => some (v, s)) = some (vv i, { t with st := (if calm o.op = 2 then stt (i + 1) else t.sn).1, n := (if calm o.op = 2 then stt (i + 1) else t.sn).2 }) := hev1
      have hN : Next1 base w0 S0 (fun v s => some (v, s)) (vv i, { t with st := (if calm o.op = 2 then stt (i + 1) else t.sn).1, n := (if calm o.op = 2 then stt (i + 1) else t.sn).2 }) φ ψ S t a (fun u w' => wpAny P .any ops Q fuel (listed.setIfInBounds i true) (a.put o.dst u) w') := by
        intro v s' φ' ψ' S' u w' hk hR' hv hev' htm' _ hnt'
        cases hk
        exact next _ φ' ψ' S' u w' hR' hv hev' rfl rfl rfl
      have hO' := hO
      obtain ⟨dst, op, ty, pos, after, guard⟩ := o
      split at hev2
      · rename_i c hc
        simp only at hc; subst hc
        exact call_sound (T := noT) (X := fun _ _ => False) hR hΓ (fun _ _ _ _ _ _ _ _ _ _ _ _ _ h => by simp [noInl] at h) hev2 hN (fun v t φ' ψ' S' a' w' h => by cases h) (fun v w' h => h.elim)
      · obtain ⟨v, s', hk, φ', ψ', S', u, w', hrun, g1, g2, g3, g4, g5, g6⟩ := evOp_sound hR hev2
        have := hN v s' φ' ψ' S' u w' hk g1 g2 g3 g4 g5 g6
        unfold Oper.wp
        rcases hrun with hrun | ⟨hrun, rfl⟩
        · rw [hrun]; exact this
        · rw [hrun]; exact this
    · rw [← hwants] at hw1
      rw [if_neg (by rw [wants1_true hR hw1]; decide)]
      refine next t φ ψ S undef w hR (by rw [hv1]; rfl) (Evo.refl _ _ _ _) rfl rfl ?_
      split
      · rename_i hc
        rw [hs1]
        rcases hst (by rw [hc]; decide) (fun q => by rw [Fr_calm q] at hc; exact absurd hc (by decide)) with h | h
        · exact h
        · rw [hc] at h; exact absurd h.1 (by decide)
      · rfl
theorem draw_sound (hΓ : GOk P Γ) (hm : P.follows .mixedOrders = true) {id : Nat} {Q : Exit → Act → World → Prop} {K : St → Option α}
    (hd : drawOk ops = true) (h : evOps P Γ noInl false noFz ops ops.toList s K = some r) (hR : Rl base w0 S0 φ ψ S s a w) (hN : NextS base w0 S0 K r φ ψ S s (Q .normal)) : (Code.region id ops true).wp P Q a w := by
  unfold drawOk at hd
  rw [Bool.and_eq_true] at hd
  have hok : ∀ i o, ops[i]? = some o → OpOk ops i o := fun i o ho => opOk_spec ho (fun i j o o' hij => ordOk_spec ops.toList [] [] hd.2 rfl rfl (fun k j q => by simp at q) i j o o' (Nat.zero_le _) hij) (by
    have := allOk_spec ops.toList 0 hd.1 i o (by simpa using ho)
    rwa [Nat.zero_add] at this)
  obtain ⟨out, e, hL, hK⟩ := lex_of ops.toList s (fun o ho => by
    obtain ⟨i, hi, rfl⟩ := List.getElem_of_mem ho
    exact (hok i _ (by simp at hi ⊢)).calm) h
  obtain ⟨env, vv, stt, k1, k2, k3, k4, k5, k7, k8, k9⟩ := lex_at (s0 := s) ops.toList 0 s out e (fun _ => look s.tm) (fun _ => .one .any) (fun _ => s.sn) hL (fun b k q => by obtain ⟨g, _⟩ := hR.st b k q; exact g) rfl ⟨[], rfl⟩ ⟨[], rfl⟩ (fun _ => rfl) rfl
  have hat : ∀ i o, ops[i]? = some o → At P Γ ops s env vv stt i o := fun i o ho => by
    have := k3 i o (by simpa using ho)
    rwa [Nat.zero_add] at this
  have h0 := k1 0 (Nat.le_refl _)
  simp only [Nat.zero_add, Array.length_toList] at k4 k5
  refine wp_region_any hm (mid_run hΓ hat hok h0.1 (φ0 := φ) (ψ0 := ψ) (S1 := S) (fun t φ' ψ' S' a' w' hR' hnt htm hst hev => ?_) ops.size (Array.replicate ops.size false) s φ ψ S a _ (by simp) ?_ ⟨rfl, fun j o d ho hl => ?_, fun d _ => rfl, 0, h0.2.symm, Nat.zero_le _, fun j o ho hc => ?_⟩ (fun j o ho hl => ?_) hR.drew (Evo.refl _ _ _ _))
  · exact hN e φ' ψ' S' a' w' hK (hR'.same (fun d => by rw [k4, htm]) (congrArg Prod.fst (k5.trans hst.symm)) (congrArg Prod.snd (k5.trans hst.symm)) (by rw [k7, hnt])) (by rw [show e.n = t.n from congrArg Prod.snd (k5.trans hst.symm)]; exact hev) k8 k9 k7
  · have := List.countP_le_length (p := fun j => !(Array.replicate ops.size false).getD j false) (l := List.range ops.size)
    simpa using this
  · exfalso; rw [Array.getD_eq_getD_getElem?, Array.getElem?_replicate] at hl; split at hl <;> simp at hl
  · constructor
    · intro hl; exfalso; rw [Array.getD_eq_getD_getElem?, Array.getElem?_replicate] at hl; split at hl <;> simp at hl
    · intro h; omega
  · exfalso; rw [Array.getD_eq_getD_getElem?, Array.getElem?_replicate] at hl; split at hl <;> simp at hl
end
end Go.Proofs.YtohlhliifeeokaaGreat.Ab
