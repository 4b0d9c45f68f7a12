/- Abstract runs: a function that calls another one, and tells what that throws. -/
import Derived.Test.YtohlhliifeeokaaGreatAbE
import Derived.Recover
namespace Go.Proofs.YtohlhliifeeokaaGreat.Ab
open Go Go.RowKit
set_option linter.unusedVariables false
set_option linter.unusedSimpArgs false
theorem isTmp_eq {d : Tmp} {x : Operand} (h : isTmp d x = true) : x = .tmp d := by
  unfold isTmp at h
  split at h
  · rw [Nat.eq_of_beq_eq_true h]
  · cases h
theorem noArgs_eq {c : Call} (h : noArgs c = true) : c.args = #[] := by
  unfold noArgs at h
  split at h
  · rename_i e; exact Array.ext' e
  · cases h
theorem calls_eq {d : Tmp} {c : Call} (h : calls d c = true) : c = ⟨.value (.tmp d), #[], c.argTypes⟩ := by
  unfold calls at h
  rw [Bool.and_eq_true] at h
  obtain ⟨h1, h2⟩ := h
  have h1 := noArgs_eq h1
  obtain ⟨cal, args, ts⟩ := c
  simp only at h1 h2
  subst h1
  split at h2
  · rw [isTmp_eq h2]
  · cases h2
theorem GX.is_eq {x : GX} {o : Op} (h : x.is o = true) : ∃ ts, o = x.op ts := by
  unfold GX.is at h
  split at h
  · exact ⟨#[], by rw [Nat.eq_of_beq_eq_true h]; rfl⟩
  · rw [Bool.and_eq_true] at h
    obtain ⟨h1, h2⟩ := h
    split at h2
    · rename_i e1 e2
      rw [Bool.and_eq_true] at h2
      rw [isTmp_eq h2.1, isTmp_eq h2.2] at e2
      refine ⟨#[], ?_⟩
      rename_i g a b g' f c _ _ _ _
      have e1 : f = #[] := Array.ext' e1
      have e2 : c = #[Operand.tmp a, Operand.tmp b] := Array.ext' e2
      rw [Nat.eq_of_beq_eq_true h1, e1, e2]; rfl
    · cases h2
  · exact ⟨_, by rw [calls_eq h]; rfl⟩
  · exact ⟨#[], by rw [isTmp_eq h]; rfl⟩
  · exact ⟨#[], by rw [isTmp_eq h]; rfl⟩
  · exact ⟨_, by rw [calls_eq h]; rfl⟩
  · rename_i c
    rw [Bool.and_eq_true] at h
    obtain ⟨h1, h2⟩ := h
    have h1 := noArgs_eq h1
    obtain ⟨cal, args, ts⟩ := c
    have h1 : args = #[] := h1
    subst h1
    split at h2
    · rename_i e
      have e : cal = .builtin .recover := e
      subst e; exact ⟨ts, rfl⟩
    · cases h2
  · simp only [Bool.and_eq_true] at h
    exact ⟨#[], by rw [Nat.eq_of_beq_eq_true h.1.1, isTmp_eq h.1.2, isTmp_eq h.2]; rfl⟩
  · simp only [Bool.and_eq_true] at h
    obtain ⟨⟨h1, h2⟩, h3⟩ := h
    split at h3
    · exact ⟨#[], by rw [Nat.eq_of_beq_eq_true h1, isTmp_eq h2, of_decide_eq_true h3]; rfl⟩
    · cases h3
  · simp only [Bool.and_eq_true] at h
    exact ⟨#[], by rw [isTmp_eq h.1.1.1, Nat.eq_of_beq_eq_true h.1.1.2, Nat.eq_of_beq_eq_true h.1.2, h.2]; rfl⟩
  · simp only [Bool.and_eq_true] at h
    exact ⟨#[], by rw [isTmp_eq h.1, Nat.eq_of_beq_eq_true h.2]; rfl⟩
  · simp only [Bool.and_eq_true] at h
    exact ⟨#[], by rw [Nat.eq_of_beq_eq_true h.1, isTmp_eq h.2]; rfl⟩
  · cases h
def Opr (ops : Array Oper) (i : Nat) (p : Option Nat × GX) : Prop := ∃ ts ty pos after, ops[i]? = some ⟨p.1, p.2.op ts, ty, pos, after, none⟩
theorem operIs_eq {p : Option Nat × GX} {o : Oper} (h : operIs p o = true) : ∃ ts ty pos after, o = ⟨p.1, p.2.op ts, ty, pos, after, none⟩ := by
  unfold operIs at h
  simp only [Bool.and_eq_true] at h
  obtain ⟨⟨h1, h2⟩, h3⟩ := h
  obtain ⟨dst, op, ty, pos, after, guard⟩ := o
  obtain ⟨d, x⟩ := p
  simp only at h1 h2 h3
  obtain ⟨ts, rfl⟩ := GX.is_eq h3
  refine ⟨ts, ty, pos, after, ?_⟩
  have e1 : dst = d := by
    unfold isDst at h2
    split at h2
    · rfl
    · rw [Nat.eq_of_beq_eq_true h2]
    · cases h2
  have e2 : guard = none := by
    unfold noGuard at h1
    cases guard with
    | none => rfl
    | some g => cases h1
  rw [e1, e2]
theorem opersAre_spec : ∀ {l : List (Option Nat × GX)} {m : List Oper}, opersAre l m = true → m.length = l.length ∧ ∀ (i : Nat) (p : Option Nat × GX), l[i]? = some p → ∃ ts ty pos after, m[i]? = some (Oper.mk p.1 (p.2.op ts) ty pos after none)
  | [], [], _ => ⟨rfl, fun i p h => by simp at h⟩
  | [], _ :: _, h => by cases h
  | _ :: _, [], h => by cases h
  | p :: l, o :: m, h => by
    simp only [opersAre, Bool.and_eq_true] at h
    obtain ⟨h1, h2⟩ := opersAre_spec h.2
    refine ⟨by rw [List.length_cons, List.length_cons, h1], fun i q hq => ?_⟩
    cases i with
    | zero =>
      rw [List.getElem?_cons_zero] at hq ⊢
      obtain rfl := Option.some.inj hq
      obtain ⟨ts, ty, pos, after, e⟩ := operIs_eq h.1
      exact ⟨ts, ty, pos, after, by rw [e]⟩
    | succ i =>
      rw [List.getElem?_cons_succ] at hq ⊢
      exact h2 i q hq
theorem isReg_spec {l : List (Option Nat × GX)} {c : Code} (h : isReg l c = true) : ∃ id ops, c = .region id ops false ∧ ops.size = l.length ∧ ∀ (i : Nat) (p : Option Nat × GX), l[i]? = some p → Opr ops i p := by
  unfold isReg at h
  split at h
  · rename_i id ops
    obtain ⟨h1, h2⟩ := opersAre_spec h
    refine ⟨id, ops, rfl, by simpa using h1, fun i p hp => ?_⟩
    obtain ⟨ts, ty, pos, after, e⟩ := h2 i p hp
    exact ⟨ts, ty, pos, after, by rw [← e]; simp⟩
  · cases h
section
variable {P : Program}
structure GotOk (P : Program) (f : FuncId) (i : GotI) (fn dn : Func) (c dc : Code) : Prop where
  hf : P.funcs[f]? = some fn
  hb : fn.body = some c
  hd : P.funcs[i.d]? = some dn
  hdb : dn.body = some dc
  hdr : dn.results = #[]
  body : i.body c = true
  late : i.late dc = true
  res : fn.results = #[.cell 2 i.T, .cell 3 i.E]
  n1 : plainF fn = true
  n2 : plainF dn = true
  m1 : fn.ntmps = 7
  m2 : dn.ntmps = 13
  i64 : P.underlying i.E = some (.int .i64)
theorem gotOf_spec {f : FuncId} {i : GotI} (h : gotOf P f = some i) : ∃ fn dn c dc, GotOk P f i fn dn c dc := by
  unfold gotOf at h
  split at h
  · cases h
  rename_i fn hf
  split at h
  · cases h
  rename_i c hb
  split at h
  · cases h
  rename_i t e d hr
  split at h
  · cases h
  rename_i dn hd
  split at h
  · cases h
  rename_i c' hdb
  split at h
  · cases h
  rename_i a ha
  split at h
  · rename_i hB
    obtain rfl := Option.some.inj h
    unfold gotB at hB
    split at hB
    · rename_i c1 d1 e1 e2 e3
      rw [hb] at e1; obtain rfl := Option.some.inj e1
      rw [hdb] at e2; obtain rfl := Option.some.inj e2
      simp only [Bool.and_eq_true] at hB
      obtain ⟨⟨⟨⟨⟨⟨⟨b1, b2⟩, b3⟩, b4⟩, b5⟩, b6⟩, b7⟩, b8⟩ := hB
      refine ⟨fn, dn, c, c', hf, hb, hd, hdb, Array.ext' e3, b1, b2, ?_, b4, b5, Nat.eq_of_beq_eq_true b6, Nat.eq_of_beq_eq_true b7, ?_⟩
      · unfold gotRes at b3
        split at b3
        · rename_i a1 t1 a2 t2 er
          simp only [Bool.and_eq_true] at b3
          obtain ⟨⟨⟨q1, q2⟩, q3⟩, q4⟩ := b3
          rw [Nat.eq_of_beq_eq_true q1, Nat.eq_of_beq_eq_true q2, Nat.eq_of_beq_eq_true q3, Nat.eq_of_beq_eq_true q4] at er
          exact Array.ext' er
        · cases b3
      · unfold isI64 at b8
        split at b8
        · assumption
        · cases b8
    · cases hB
  · cases h
theorem enters_plain {f : FuncId} {fn : Func} {c : Code} (hf : P.funcs[f]? = some fn) (hb : fn.body = some c) (hn : plainF fn = true) (args : Array Value) (w : World) : (callFunc f args).run P w = .ok (.enter f args) w := by
  have hnm' : (fn.name == "runtime.NumGoroutine") = false := by unfold plainF at hn; simpa using hn
  unfold callFunc
  rw [Sem.run_bind]
  simp only [run_program, Result.andThen_ok, hf, hnm', Bool.false_eq_true, if_false, hb, Option.isNone_some]
  rfl
-- steps of a region
variable {ops : Array Oper} {i : Nat} {rest : List Nat} {dst : Option Tmp} {op : Op} {ty : TypeId} {pos : String} {after : Array Edge} {a : Act} {w w' : World} {Q : Exit → Act → World → Prop}
theorem wpOps_val {v : Value} (ho : ops[i]? = some ⟨dst, op, ty, pos, after, none⟩) (hr : (execOp a.eval ⟨dst, op, ty, pos, after, none⟩).run P w = .ok (.value v) w') (h : wpOps P ops Q rest (a.put dst v) w') : wpOps P ops Q (i :: rest) a w := by
  unfold wpOps
  simp only [ho]
  rw [if_pos (wanted_none (ops := ops) rfl)]
  refine .inl ?_
  unfold Oper.wp
  rw [hr, Oper.upon_value]; exact h
theorem wpOps_skip (ho : ops[i]? = some ⟨dst, op, ty, pos, after, none⟩) (hr : (execOp a.eval ⟨dst, op, ty, pos, after, none⟩).run P w = .ok .skip w') (h : wpOps P ops Q rest (a.put dst undef) w') : wpOps P ops Q (i :: rest) a w := by
  unfold wpOps
  simp only [ho]
  rw [if_pos (wanted_none (ops := ops) rfl)]
  refine .inl ?_
  unfold Oper.wp
  rw [hr, Oper.upon_skip]; exact h
theorem wpOps_defer {d : Deferred} (ho : ops[i]? = some ⟨dst, op, ty, pos, after, none⟩) (hr : (execOp a.eval ⟨dst, op, ty, pos, after, none⟩).run P w = .ok (.defer d) w') (h : wpOps P ops Q rest ({ a with defers := d :: a.defers }.put dst undef) w') : wpOps P ops Q (i :: rest) a w := by
  unfold wpOps
  simp only [ho]
  rw [if_pos (wanted_none (ops := ops) rfl)]
  refine .inl ?_
  unfold Oper.wp
  rw [hr, Oper.upon_defer]; exact h
theorem wpOps_enter {f : FuncId} {args : Array Value} (ho : ops[i]? = some ⟨dst, op, ty, pos, after, none⟩) (hr : (execOp a.eval ⟨dst, op, ty, pos, after, none⟩).run P w = .ok (.enter f args) w')
    (h : Calls P f args w' (BackOr (fun u w => wpOps P ops Q rest (a.put dst u) w) (fun v w => Q (.panic [{ v := v, recovered := false }]) a w))) : wpOps P ops Q (i :: rest) a w := by
  unfold wpOps
  simp only [ho]
  rw [if_pos (wanted_none (ops := ops) rfl)]
  refine .inl ?_
  unfold Oper.wp
  rw [hr, Oper.upon_enter]
  refine h.mono ?_
  rintro e w' (⟨u, rfl, h3⟩ | ⟨v, rfl, h3⟩)
  · exact h3
  · exact h3
variable {QS : Exit → Act → List Frame → World → Prop} {cs : List Frame}
theorem wpOpsS_val {v : Value} (ho : ops[i]? = some ⟨dst, op, ty, pos, after, none⟩) (hr : (execOp a.eval ⟨dst, op, ty, pos, after, none⟩).run P w = .ok (.value v) w') (h : wpOpsS P ops QS rest (a.put dst v) cs w') : wpOpsS P ops QS (i :: rest) a cs w := by
  unfold wpOpsS
  simp only [ho]
  rw [if_pos (wanted_none (ops := ops) rfl)]
  rw [hr]; exact h
theorem wpOpsS_skip (ho : ops[i]? = some ⟨dst, op, ty, pos, after, none⟩) (hr : (execOp a.eval ⟨dst, op, ty, pos, after, none⟩).run P w = .ok .skip w') (h : wpOpsS P ops QS rest (a.put dst undef) cs w') : wpOpsS P ops QS (i :: rest) a cs w := by
  unfold wpOpsS
  simp only [ho]
  rw [if_pos (wanted_none (ops := ops) rfl)]
  rw [hr]; exact h
theorem wpOpsS_recov {v : Value} {cs' : List Frame} (ho : ops[i]? = some ⟨dst, op, ty, pos, after, none⟩) (hr : (execOp a.eval ⟨dst, op, ty, pos, after, none⟩).run P w = .ok .recover w') (hc : recoverD cs = some (v, cs')) (h : wpOpsS P ops QS rest (a.put dst v) cs' w') : wpOpsS P ops QS (i :: rest) a cs w := by
  unfold wpOpsS
  simp only [ho]
  rw [if_pos (wanted_none (ops := ops) rfl)]
  rw [hr]; simp only [hc]; exact h
theorem wpOpsS_none (ho : ops[i]? = some ⟨dst, op, ty, pos, after, none⟩) (hr : (execOp a.eval ⟨dst, op, ty, pos, after, none⟩).run P w = .ok .recover w') (hc : recoverD cs = none) (h : wpOpsS P ops QS rest (a.put dst .nilIface) cs w') : wpOpsS P ops QS (i :: rest) a cs w := by
  unfold wpOpsS
  simp only [ho]
  rw [if_pos (wanted_none (ops := ops) rfl)]
  rw [hr]; simp only [hc]; exact h
end
section
variable {P : Program} {base : Nat} {w0 : World} {S0 : Mem} {φ φ2 : Nat → Nat} {ψ ψ2 : Nat → Value} {S S2 : Mem} {s t : St} {a a2 : Act} {w w2 : World}
variable {α : Type} {K : AV → St → Option α} {r : α}
theorem Rl.back (hR : Rl base w0 S0 φ ψ S s a w) (hR2 : Rl base w0 S0 φ2 ψ2 S2 t a2 w2) (hev : Evo φ ψ S s.n φ2 ψ2 S2 t.n) : Rl base w0 S0 φ2 ψ2 S2 { s with st := t.st, n := t.n } a w2 :=
  ⟨hR2.s0, hR2.snew, hR2.sw, hR2.below, hR2.bsz, hR.defers, hR.size, fun d v' hd => ⟨(hR.tm d v' hd).1, (hR.tm d v' hd).2.evo hev⟩, hR2.st, hR2.apart⟩
theorem tupGot_rel {φ : Nat → Nat} {ψ : Nat → Value} {S : Mem} {n : Nat} {v : AV} {p : Bool × List CV} {u : Value} (h : tupAV v = some p) (hv : ARel φ ψ S n v u) : TRel φ ψ S n p u := by
  unfold tupAV at h
  split at h
  · rename_i c
    split at h
    · rename_i l hl
      obtain rfl := Option.some.inj h
      cases c with
      | any => simp [AV.cells] at hl
      | val z => exact ⟨hv, by cases z <;> simp [AV.cells] at hl <;> rfl⟩
      | _ => exact hv
    · cases h
  · obtain rfl := Option.some.inj h; exact hv
  · cases h
theorem got_end {i : GotI} {lc : List CV} {n : Int} {us : List Value} (he : gotEnd P i s lc n K t = some r) (hR : Rl base w0 S0 φ ψ S { s with st := t.st, n := t.n } a w) (hc : All2 (CRel φ ψ S t.n) lc us) :
    ∃ w1 w2 u v s', (storeCells ⟨φ s.n, 0, none⟩ us).run P w = .ok () w1 ∧ (storeCells ⟨φ (s.n + 1), 0, none⟩ [.int .i64 n]).run P w1 = .ok () w2 ∧
      (loadVar i.T ⟨φ s.n, 0, none⟩).run P w2 = .ok u w2 ∧ (loadVar i.E ⟨φ (s.n + 1), 0, none⟩).run P w2 = .ok (.int .i64 n) w2 ∧ szOf P i.T = some us.length ∧ szOf P i.E = some 1 ∧
      K v s' = some r ∧ Rl base w0 S0 φ ψ S s' a w2 ∧ ARel φ ψ S s'.n v (.tuple #[u, .int .i64 n]) ∧ s'.n = t.n ∧ s'.tm = s.tm ∧ s'.nt = s.nt ∧ ∃ pre, s'.st = pre ++ t.st := by
  unfold gotEnd at he
  split at he
  · rename_i l1 e1 l2 e2 hk1 hk2
    split at he
    · rename_i m1 m2 v n' q1 q2 q3 q4 q5 q6
      split at he
      · rename_i p p1 p2 p3 p4
        have c1 := Nat.eq_of_beq_eq_true q1
        have c2 := Nat.eq_of_beq_eq_true q2
        have c3 := Nat.eq_of_beq_eq_true p1
        have c4 := Nat.eq_of_beq_eq_true p2
        obtain rfl : n' = n := of_decide_eq_true p3
        have hlen := hc.length
        obtain ⟨w1, hs1, hR1⟩ := store_rel (P := P) (off := 0) hR hk1 hc (by omega)
        have e : l1.take 0 ++ lc ++ l1.drop (0 + lc.length) = lc := by rw [List.take_zero, List.nil_append, Nat.zero_add, c1, List.drop_length, List.append_nil]
        rw [e] at hR1
        have hne : s.n ≠ s.n + 1 := by omega
        have hk2' : look ((s.n, Blk.cells lc e1) :: t.st) (s.n + 1) = some (.cells l2 e2) := (look_cons_ne _ _ hne).trans hk2
        obtain ⟨w2, hs2, hR2⟩ := store_rel (P := P) (off := 0) hR1 hk2' (c := [.val (.int .i64 n')]) (us := [.int .i64 n']) ⟨⟨rfl, rfl⟩, trivial⟩ (by rw [c2]; exact Nat.le_refl _)
        have e' : l2.take 0 ++ [CV.val (.int .i64 n')] ++ l2.drop (0 + [CV.val (.int .i64 n')].length) = [CV.val (.int .i64 n')] := by
          rw [List.take_zero, List.nil_append, Nat.zero_add, List.length_singleton, ← c2, List.drop_length, List.append_nil]
        rw [e'] at hR2
        have k2 : look ((s.n + 1, Blk.cells [CV.val (.int .i64 n')] e2) :: (s.n, Blk.cells lc e1) :: t.st) (s.n + 1) = some (.cells [.val (.int .i64 n')] e2) := look_cons_eq _ _ _
        have k1 : look ((s.n + 1, Blk.cells [CV.val (.int .i64 n')] e2) :: (s.n, Blk.cells lc e1) :: t.st) s.n = some (.cells lc e1) := (look_cons_ne _ _ (Ne.symm hne)).trans (look_cons_eq _ _ _)
        obtain ⟨x1, g1, g2, g3⟩ := ptr_cells (off := 0) hR2 k1
        obtain ⟨x2, g4, g5, g6⟩ := ptr_cells (off := 0) hR2 k2
        obtain ⟨u, h1, h2⟩ := loadVar_rel (P := P) (w := w2) q5 g2 (by simpa using g3)
        obtain ⟨u2, h3, h4⟩ := loadVar_rel (P := P) (w := w2) q6 g5 (by simpa using g6)
        have h4 : u2 = .int .i64 n' := h4
        subst h4
        refine ⟨w1, w2, u, _, _, hs1, hs2, h1, h3, ?_, ?_, he, hR2, ⟨[u, .int .i64 n'], rfl, tupGot_rel p4 h2, ⟨rfl, rfl⟩, trivial⟩, rfl, rfl, rfl, ⟨[_, _], rfl⟩⟩
        · rw [q3, c3, hlen]
        · rw [q4, c4]
      · cases he
    · cases he
  · cases he
variable {f : FuncId} {i : GotI} {fn dn : Func} {c dc : Code}
theorem GotI.late_spec (h : i.late dc = true) : ∃ i0 i1 i2 i3 o0 o1 o2 o3, dc = .seq (.region i0 o0 false) (.seq (.region i1 o1 false) (.cond (.tmp 10) (.seq (.region i2 o2 false) (.region i3 o3 false)) .skip)) ∧
    (o0.size = 7 ∧ ∀ (j : Nat) (p : Option Nat × GX), i.d0[j]? = some p → Opr o0 j p) ∧ (o1.size = 1 ∧ ∀ (j : Nat) (p : Option Nat × GX), i.d1[j]? = some p → Opr o1 j p) ∧ (o2.size = 1 ∧ ∀ (j : Nat) (p : Option Nat × GX), i.d2[j]? = some p → Opr o2 j p) ∧ (o3.size = 4 ∧ ∀ (j : Nat) (p : Option Nat × GX), i.d3[j]? = some p → Opr o3 j p) := by
  unfold GotI.late at h
  split at h
  · simp only [Bool.and_eq_true] at h
    obtain ⟨⟨⟨⟨h0, h1⟩, hx⟩, h2⟩, h3⟩ := h
    obtain ⟨i0, o0, rfl, s0, p0⟩ := isReg_spec h0
    obtain ⟨i1, o1, rfl, s1, p1⟩ := isReg_spec h1
    obtain ⟨i2, o2, rfl, s2, p2⟩ := isReg_spec h2
    obtain ⟨i3, o3, rfl, s3, p3⟩ := isReg_spec h3
    rw [isTmp_eq hx]
    exact ⟨i0, i1, i2, i3, o0, o1, o2, o3, rfl, ⟨s0, p0⟩, ⟨s1, p1⟩, ⟨s2, p2⟩, ⟨s3, p3⟩⟩
  · cases h
theorem GotI.body_spec (h : i.body c = true) : ∃ i0 i1 i2 o0 o1 o2, c = .seq (.region i0 o0 false) (.seq (.region i1 o1 false) (.seq (.region i2 o2 false) .ret)) ∧
    (o0.size = 2 ∧ ∀ (j : Nat) (p : Option Nat × GX), i.r0[j]? = some p → Opr o0 j p) ∧ (o1.size = 2 ∧ ∀ (j : Nat) (p : Option Nat × GX), i.r1[j]? = some p → Opr o1 j p) ∧ (o2.size = 4 ∧ ∀ (j : Nat) (p : Option Nat × GX), i.r2[j]? = some p → Opr o2 j p) := by
  unfold GotI.body at h
  split at h
  · simp only [Bool.and_eq_true] at h
    obtain ⟨⟨h0, h1⟩, h2⟩ := h
    obtain ⟨i0, o0, rfl, s0, p0⟩ := isReg_spec h0
    obtain ⟨i1, o1, rfl, s1, p1⟩ := isReg_spec h1
    obtain ⟨i2, o2, rfl, s2, p2⟩ := isReg_spec h2
    exact ⟨i0, i1, i2, o0, o1, o2, rfl, ⟨s0, p0⟩, ⟨s1, p1⟩, ⟨s2, p2⟩⟩
  · cases h
theorem late_results (g : GotOk P f i fn dn c dc) (ts : Array Value) (w : World) : (results dn ts).run P w = .ok (.tuple #[]) w := by
  unfold results
  rw [g.hdr]
  simp
theorem late_back (g : GotOk P f i fn dn c dc) (hze : zeroOf P i.E = some (.int .i64 0)) {p2 p3 : Value} {R : Ending → FrameMode → World → Prop} (hR : R (.returned (.tuple #[])) .returning w) : CallsD P i.d #[p2, p3] .returning w R := by
  obtain ⟨i0, i1, i2, i3, o0, o1, o2, o3, hdc, ⟨s0, q0⟩, ⟨s1, q1⟩, _, _⟩ := GotI.late_spec g.late
  refine callsD_of_wpS g.hd g.hdb fun c₀ cs hc => ?_
  rw [hdc, g.m2]
  show Code.wpS P _ _ ⟨#[p2, p3, undef, undef, undef, undef, undef, undef, undef, undef, undef, undef, undef], []⟩ _ _
  refine wpS_seq (wpS_region ?_)
  rw [s0]
  show wpOpsS P o0 _ [0, 1, 2, 3, 4, 5, 6] _ _ _
  obtain ⟨_, _, _, _, ho⟩ := q0 0 _ rfl
  refine wpOpsS_none (w' := w) ho (by simp [execOp, GX.op, resolve, invoke, builtin]) (by simp [recoverD, hc]) ?_
  show wpOpsS P o0 _ _ ⟨#[p2, p3, undef, undef, undef, undef, .nilIface, undef, undef, undef, undef, undef, undef], []⟩ _ _
  obtain ⟨_, _, _, _, ho⟩ := q0 1 _ rfl
  refine wpOpsS_val ho (v := .tuple #[.int .i64 0, .bool false]) (w' := w) (by simp [execOp, GX.op, Act.eval, Instr.typeAssert, run_underlying g.i64, zeroOf_run hze]) ?_
  show wpOpsS P o0 _ _ ⟨#[p2, p3, undef, undef, undef, undef, .nilIface, .tuple #[.int .i64 0, .bool false], undef, undef, undef, undef, undef], []⟩ _ _
  obtain ⟨_, _, _, _, ho⟩ := q0 2 _ rfl
  refine wpOpsS_val ho (v := .tuple #[.int .i64 0, .bool false]) (w' := w) rfl ?_
  show wpOpsS P o0 _ _ ⟨#[p2, p3, undef, undef, undef, .tuple #[.int .i64 0, .bool false], .nilIface, .tuple #[.int .i64 0, .bool false], undef, undef, undef, undef, undef], []⟩ _ _
  obtain ⟨_, _, _, _, ho⟩ := q0 3 _ rfl
  refine wpOpsS_val ho (v := .int .i64 0) (w' := w) (by simp [execOp, GX.op, Act.eval, Instr.extract]) ?_
  show wpOpsS P o0 _ _ ⟨#[p2, p3, undef, undef, undef, .tuple #[.int .i64 0, .bool false], .nilIface, .tuple #[.int .i64 0, .bool false], .int .i64 0, undef, undef, undef, undef], []⟩ _ _
  obtain ⟨_, _, _, _, ho⟩ := q0 4 _ rfl
  refine wpOpsS_val ho (v := .bool false) (w' := w) (by simp [execOp, GX.op, Act.eval, Instr.extract]) ?_
  show wpOpsS P o0 _ _ ⟨#[p2, p3, undef, undef, undef, .tuple #[.int .i64 0, .bool false], .nilIface, .tuple #[.int .i64 0, .bool false], .int .i64 0, .bool false, undef, undef, undef], []⟩ _ _
  obtain ⟨_, _, _, _, ho⟩ := q0 5 _ rfl
  refine wpOpsS_val ho (v := .int .i64 0) (w' := w) rfl ?_
  show wpOpsS P o0 _ _ ⟨#[p2, p3, .int .i64 0, undef, undef, .tuple #[.int .i64 0, .bool false], .nilIface, .tuple #[.int .i64 0, .bool false], .int .i64 0, .bool false, undef, undef, undef], []⟩ _ _
  obtain ⟨_, _, _, _, ho⟩ := q0 6 _ rfl
  refine wpOpsS_val ho (v := .bool false) (w' := w) rfl ?_
  show Code.wpS P _ _ ⟨#[p2, p3, .int .i64 0, .bool false, undef, .tuple #[.int .i64 0, .bool false], .nilIface, .tuple #[.int .i64 0, .bool false], .int .i64 0, .bool false, undef, undef, undef], []⟩ _ _
  refine wpS_seq (wpS_region ?_)
  rw [s1]
  show wpOpsS P o1 _ [0] _ _ _
  obtain ⟨_, _, _, _, ho⟩ := q1 0 _ rfl
  refine wpOpsS_val ho (v := .bool false) (w' := w) rfl ?_
  show Code.wpS P _ _ ⟨#[p2, p3, .int .i64 0, .bool false, undef, .tuple #[.int .i64 0, .bool false], .nilIface, .tuple #[.int .i64 0, .bool false], .int .i64 0, .bool false, .bool false, undef, undef], []⟩ _ _
  refine wpS_cond (t := false) rfl (wpS_of_wp (wp_skip ?_))
  refine ⟨rfl, .returning, by rw [← hc], _, late_results g _ _, hR⟩
theorem late_thrown (g : GotOk P f i fn dn c dc) {a1 a2 : Addr} {n : Int} {z u0 : Value} {us zs : List Value} {w1 w2 w3 : World} (hz : zeroOf P i.T = some z) (hzs : z.cells = zs.toArray)
    (h1 : (newVar i.T z).run P w = .ok ⟨w.heap.size, 0, none⟩ w1) (h0 : (loadVar i.T ⟨w.heap.size, 0, none⟩).run P w1 = .ok u0 w1) (hu : u0.cells = us.toArray) (hT : szOf P i.T = some us.length) (hE : szOf P i.E = some 1)
    (h2 : (storeCells a1 us).run P w1 = .ok () w2) (h3 : (storeCells a2 [.int .i64 n]).run P w2 = .ok () w3)
    {R : Ending → FrameMode → World → Prop} (hR : R (.returned (.tuple #[])) (.panicking [{ v := .iface i.E (.int .i64 n), recovered := true }]) w3) : CallsD P i.d #[.pointer (some a1), .pointer (some a2)] (.panicking [{ v := .iface i.E (.int .i64 n), recovered := false }]) w R := by
  obtain ⟨i0, i1, i2, i3, o0, o1, o2, o3, hdc, ⟨s0, q0⟩, ⟨s1, q1⟩, ⟨s2, q2⟩, ⟨s3, q3⟩⟩ := GotI.late_spec g.late
  refine callsD_of_wpS g.hd g.hdb fun c₀ cs hc => ?_
  rw [hdc, g.m2]
  show Code.wpS P _ _ ⟨#[.pointer (some a1), .pointer (some a2), undef, undef, undef, undef, undef, undef, undef, undef, undef, undef, undef], []⟩ _ _
  refine wpS_seq (wpS_region ?_)
  rw [s0]
  show wpOpsS P o0 _ [0, 1, 2, 3, 4, 5, 6] _ _ _
  obtain ⟨_, _, _, _, ho⟩ := q0 0 _ rfl
  refine wpOpsS_recov (w' := w) (v := .iface i.E (.int .i64 n)) (cs' := { c₀ with mode := .panicking [{ v := .iface i.E (.int .i64 n), recovered := true }] } :: cs) ho (by simp [execOp, GX.op, resolve, invoke, builtin]) (by simp [recoverD, hc]) ?_
  show wpOpsS P o0 _ _ ⟨#[.pointer (some a1), .pointer (some a2), undef, undef, undef, undef, .iface i.E (.int .i64 n), undef, undef, undef, undef, undef, undef], []⟩ _ _
  obtain ⟨_, _, _, _, ho⟩ := q0 1 _ rfl
  refine wpOpsS_val ho (v := .tuple #[.int .i64 n, .bool true]) (w' := w) (by simp [execOp, GX.op, Act.eval, Instr.typeAssert, run_underlying g.i64]) ?_
  show wpOpsS P o0 _ _ ⟨#[.pointer (some a1), .pointer (some a2), undef, undef, undef, undef, .iface i.E (.int .i64 n), .tuple #[.int .i64 n, .bool true], undef, undef, undef, undef, undef], []⟩ _ _
  obtain ⟨_, _, _, _, ho⟩ := q0 2 _ rfl
  refine wpOpsS_val ho (v := .tuple #[.int .i64 n, .bool true]) (w' := w) rfl ?_
  show wpOpsS P o0 _ _ ⟨#[.pointer (some a1), .pointer (some a2), undef, undef, undef, .tuple #[.int .i64 n, .bool true], .iface i.E (.int .i64 n), .tuple #[.int .i64 n, .bool true], undef, undef, undef, undef, undef], []⟩ _ _
  obtain ⟨_, _, _, _, ho⟩ := q0 3 _ rfl
  refine wpOpsS_val ho (v := .int .i64 n) (w' := w) (by simp [execOp, GX.op, Act.eval, Instr.extract]) ?_
  show wpOpsS P o0 _ _ ⟨#[.pointer (some a1), .pointer (some a2), undef, undef, undef, .tuple #[.int .i64 n, .bool true], .iface i.E (.int .i64 n), .tuple #[.int .i64 n, .bool true], .int .i64 n, undef, undef, undef, undef], []⟩ _ _
  obtain ⟨_, _, _, _, ho⟩ := q0 4 _ rfl
  refine wpOpsS_val ho (v := .bool true) (w' := w) (by simp [execOp, GX.op, Act.eval, Instr.extract]) ?_
  show wpOpsS P o0 _ _ ⟨#[.pointer (some a1), .pointer (some a2), undef, undef, undef, .tuple #[.int .i64 n, .bool true], .iface i.E (.int .i64 n), .tuple #[.int .i64 n, .bool true], .int .i64 n, .bool true, undef, undef, undef], []⟩ _ _
  obtain ⟨_, _, _, _, ho⟩ := q0 5 _ rfl
  refine wpOpsS_val ho (v := .int .i64 n) (w' := w) rfl ?_
  show wpOpsS P o0 _ _ ⟨#[.pointer (some a1), .pointer (some a2), .int .i64 n, undef, undef, .tuple #[.int .i64 n, .bool true], .iface i.E (.int .i64 n), .tuple #[.int .i64 n, .bool true], .int .i64 n, .bool true, undef, undef, undef], []⟩ _ _
  obtain ⟨_, _, _, _, ho⟩ := q0 6 _ rfl
  refine wpOpsS_val ho (v := .bool true) (w' := w) rfl ?_
  show Code.wpS P _ _ ⟨#[.pointer (some a1), .pointer (some a2), .int .i64 n, .bool true, undef, .tuple #[.int .i64 n, .bool true], .iface i.E (.int .i64 n), .tuple #[.int .i64 n, .bool true], .int .i64 n, .bool true, undef, undef, undef], []⟩ _ _
  refine wpS_seq (wpS_region ?_)
  rw [s1]
  show wpOpsS P o1 _ [0] _ _ _
  obtain ⟨_, _, _, _, ho⟩ := q1 0 _ rfl
  refine wpOpsS_val ho (v := .bool true) (w' := w) rfl ?_
  show Code.wpS P _ _ ⟨#[.pointer (some a1), .pointer (some a2), .int .i64 n, .bool true, undef, .tuple #[.int .i64 n, .bool true], .iface i.E (.int .i64 n), .tuple #[.int .i64 n, .bool true], .int .i64 n, .bool true, .bool true, undef, undef], []⟩ _ _
  refine wpS_cond (t := true) rfl ?_
  show Code.wpS P (.seq _ _) _ _ _ _
  refine wpS_seq (wpS_region ?_)
  rw [s2]
  show wpOpsS P o2 _ [0] _ _ _
  obtain ⟨_, _, _, _, ho⟩ := q2 0 _ rfl
  refine wpOpsS_val ho (v := .pointer (some ⟨w.heap.size, 0, none⟩)) (w' := w1) (by simp [execOp, GX.op, Instr.alloc, zeroOf_run hz, h1]) ?_
  show Code.wpS P _ _ ⟨#[.pointer (some a1), .pointer (some a2), .int .i64 n, .bool true, .pointer (some ⟨w.heap.size, 0, none⟩), .tuple #[.int .i64 n, .bool true], .iface i.E (.int .i64 n), .tuple #[.int .i64 n, .bool true], .int .i64 n, .bool true, .bool true, undef, undef], []⟩ _ _
  refine wpS_region ?_
  rw [s3]
  show wpOpsS P o3 _ [0, 1, 2, 3] _ _ _
  obtain ⟨_, _, _, _, ho⟩ := q3 0 _ rfl
  refine wpOpsS_val ho (v := u0) (w' := w1) (by simp [execOp, GX.op, Act.eval, Instr.loadAt, Instr.sureAddr, h0]) ?_
  show wpOpsS P o3 _ _ ⟨#[.pointer (some a1), .pointer (some a2), .int .i64 n, .bool true, .pointer (some ⟨w.heap.size, 0, none⟩), .tuple #[.int .i64 n, .bool true], .iface i.E (.int .i64 n), .tuple #[.int .i64 n, .bool true], .int .i64 n, .bool true, .bool true, u0, undef], []⟩ _ _
  obtain ⟨_, _, _, _, ho⟩ := q3 1 _ rfl
  refine wpOpsS_val ho (v := .int .i64 n) (w' := w1) rfl ?_
  show wpOpsS P o3 _ _ ⟨#[.pointer (some a1), .pointer (some a2), .int .i64 n, .bool true, .pointer (some ⟨w.heap.size, 0, none⟩), .tuple #[.int .i64 n, .bool true], .iface i.E (.int .i64 n), .tuple #[.int .i64 n, .bool true], .int .i64 n, .bool true, .bool true, u0, .int .i64 n], []⟩ _ _
  obtain ⟨_, _, _, _, ho⟩ := q3 2 _ rfl
  refine wpOpsS_skip ho (w' := w2) (by simp [execOp, GX.op, Act.eval, Instr.storeAt, Instr.sureAddr, storeVar, szOf_run hT, hu, h2]) ?_
  show wpOpsS P o3 _ _ ⟨#[.pointer (some a1), .pointer (some a2), .int .i64 n, .bool true, .pointer (some ⟨w.heap.size, 0, none⟩), .tuple #[.int .i64 n, .bool true], .iface i.E (.int .i64 n), .tuple #[.int .i64 n, .bool true], .int .i64 n, .bool true, .bool true, u0, .int .i64 n], []⟩ _ _
  obtain ⟨_, _, _, _, ho⟩ := q3 3 _ rfl
  refine wpOpsS_skip ho (w' := w3) (by simp [execOp, GX.op, Act.eval, Instr.storeAt, Instr.sureAddr, storeVar, szOf_run hE, Value.cells, h3]) ?_
  refine ⟨rfl, _, rfl, _, late_results g _ _, hR⟩
theorem use2 {A B C D : Prop} (k : A → B → C) (a : A) (b : B) (f : C → D) : D := f (k a b)
theorem got_sound (hi : gotOf P f = some i) {inl : (Value → St → Option α) → FuncId → List AV → St → (AV → St → Option α) → Option α} (hinl : ∀ T, InlOk P base w0 S0 T (inl T)) {args : List AV} {vs : List Value} {N X : Value → World → Prop}
    (h : evGot P i inl args s K = some r) (hR : Rl base w0 S0 φ ψ S s a w) (hargs : All2 (ARel φ ψ S s.n) args vs) (hN : Next1 base w0 S0 K r φ ψ S s a N) :
    (∀ args w, (callFunc f args).run P w = .ok (.enter f args) w) ∧ Calls P f vs.toArray w (BackOr N X) := by
  obtain ⟨fn, dn, c, dc, g⟩ := gotOf_spec hi
  refine ⟨enters_plain g.hf g.hb g.n1, ?_⟩
  unfold evGot at h
  split at h
  case h_2 => cases h
  rename_i gf caps
  match vs, hargs with
  | [], hargs => exact hargs.elim
  | _ :: _ :: _, hargs => exact hargs.2.elim
  | [u], ⟨⟨hcap, hu⟩, _⟩ =>
  split at h
  case h_2 => cases h
  rename_i z n0 hz hze
  split at h
  case h_2 => cases h
  rename_i lz hlz hn0
  split at h
  case h_2 => cases h
  rename_i v0 hv0
  split at h
  case h_2 => cases h
  rename_i l0 hl0
  obtain rfl : n0 = 0 := of_decide_eq_true hn0
  obtain ⟨zs, hzs, hza⟩ := (ofVal_rel (φ := φ) (ψ := ψ) (S := S) (s := s) z).cells hlz
  obtain ⟨φ1, hR1, hφ1, ev1⟩ := hR.new hza i.T
  obtain ⟨φ2, hR2, hφ2, ev2⟩ := hR1.new (l := [.val (.int .i64 0)]) (vs := [.int .i64 0]) ⟨⟨rfl, rfl⟩, trivial⟩ i.E
  obtain ⟨w1, hw1⟩ : ∃ w1, w.alloc (.cells zs.toArray i.T) = w1 := ⟨_, rfl⟩
  rw [hw1] at hR1 hR2 hφ2
  obtain ⟨w2, hw2⟩ : ∃ w2, w1.alloc (.cells [Value.int .i64 0].toArray i.E) = w2 := ⟨_, rfl⟩
  rw [hw2] at hR2
  have ev12 : Evo φ ψ S s.n φ2 ψ S (s.n + 2) := ev1.trans ev2
  have hb1 : φ2 s.n = w.heap.size := (ev2.hφ s.n (Nat.lt_succ_self _)).trans hφ1
  have hb2 : φ2 (s.n + 1) = w1.heap.size := hφ2
  have hnew1 : (newVar i.T z).run P w = .ok ⟨w.heap.size, 0, none⟩ w1 := by
    rw [← hw1]; simp [newVar, Go.newRow, hzs]
  have hnew2 : (newVar i.E (.int .i64 0)).run P w1 = .ok ⟨w1.heap.size, 0, none⟩ w2 := by
    rw [← hw2]; simp [newVar, Go.newRow, Value.cells]
  obtain ⟨ca, hca⟩ : ∃ ca, (caps.map fun p => Value.pointer (some ⟨φ p.1, p.2, none⟩)) = ca := ⟨_, rfl⟩
  rw [hca] at hu
  have hargs2 : All2 (ARel φ2 ψ S (s.n + 2)) (caps.map fun p => AV.one (.ptr p.1 p.2)) ca := by
    rw [← hca]
    have : ∀ l : List (Nat × Nat), (∀ p ∈ l, p.1 < s.n) → All2 (ARel φ2 ψ S (s.n + 2)) (l.map fun p => AV.one (.ptr p.1 p.2)) (l.map fun p => Value.pointer (some ⟨φ p.1, p.2, none⟩)) := by
      intro l
      induction l with
      | nil => intro _; trivial
      | cons p l ih =>
        intro hl
        have hp := hl p (by simp)
        exact ⟨⟨by omega, by rw [ev12.hφ _ hp]⟩, ih fun q hq => hl q (by simp [hq])⟩
    exact this caps hcap
  subst hu
  obtain ⟨i0, i1, i2, o0, o1, o2, hc, ⟨s0, q0⟩, ⟨s1, q1⟩, ⟨s2, q2⟩⟩ := GotI.body_spec g.body
  refine calls_of_wp_defers g.hf g.hb ?_
  rw [hc, g.m1]
  obtain ⟨u, hu⟩ : ∃ u, Value.func (.func gf) #[] ca.toArray = u := ⟨_, rfl⟩
  rw [hu]
  show Code.wp P _ _ ⟨#[u, undef, undef, undef, undef, undef, undef], []⟩ _
  refine wp_seq (wp_region ?_)
  rw [s0]
  show wpOps P o0 _ [0, 1] _ _
  obtain ⟨_, _, _, _, ho⟩ := q0 0 _ rfl
  refine wpOps_val ho (v := .pointer (some ⟨w.heap.size, 0, none⟩)) (w' := w1) (by simp [execOp, GX.op, Instr.alloc, zeroOf_run hz, hnew1]) ?_
  obtain ⟨p2, hp2⟩ : ∃ p2, Value.pointer (some ⟨w.heap.size, 0, none⟩) = p2 := ⟨_, rfl⟩
  rw [hp2]
  show wpOps P o0 _ _ ⟨#[u, undef, p2, undef, undef, undef, undef], []⟩ _
  obtain ⟨_, _, _, _, ho⟩ := q0 1 _ rfl
  refine wpOps_val ho (v := .pointer (some ⟨w1.heap.size, 0, none⟩)) (w' := w2) (by simp [execOp, GX.op, Instr.alloc, zeroOf_run hze, hnew2]) ?_
  obtain ⟨p3, hp3⟩ : ∃ p3, Value.pointer (some ⟨w1.heap.size, 0, none⟩) = p3 := ⟨_, rfl⟩
  rw [hp3]
  show Code.wp P _ _ ⟨#[u, undef, p2, p3, undef, undef, undef], []⟩ _
  refine wp_seq (wp_region ?_)
  rw [s1]
  show wpOps P o1 _ [0, 1] _ _
  obtain ⟨_, _, _, _, ho⟩ := q1 0 _ rfl
  refine wpOps_val ho (v := .func (.func i.d) #[] #[p2, p3]) (w' := w2) (by simp [execOp, GX.op, Act.eval, Instr.makeFunc]) ?_
  show wpOps P o1 _ _ ⟨#[u, undef, p2, p3, .func (.func i.d) #[] #[p2, p3], undef, undef], []⟩ _
  obtain ⟨_, _, _, _, ho⟩ := q1 1 _ rfl
  refine wpOps_defer ho (d := { target := .fn (.func i.d) #[p2, p3], args := #[] }) (w' := w2) (by simp [execOp, GX.op, Act.eval, resolve, Deferred.ofValue]) ?_
  show Code.wp P _ _ ⟨#[u, undef, p2, p3, .func (.func i.d) #[] #[p2, p3], undef, undef], [{ target := .fn (.func i.d) #[p2, p3], args := #[] }]⟩ _
  refine wp_seq (wp_region ?_)
  rw [s2]
  show wpOps P o2 _ [0, 1, 2, 3] _ _
  obtain ⟨_, _, _, _, ho⟩ := q2 0 _ rfl
  refine wpOps_val ho (v := u) (w' := w2) rfl ?_
  show wpOps P o2 _ _ ⟨#[u, undef, p2, p3, .func (.func i.d) #[] #[p2, p3], u, undef], [{ target := .fn (.func i.d) #[p2, p3], args := #[] }]⟩ _
  obtain ⟨_, _, _, _, ho⟩ := q2 1 _ rfl
  have hlate : ∀ w, (invoke (.fn (.func i.d) #[p2, p3]) #[]).run P w = .ok (.enter i.d #[p2, p3]) w := fun w => by
    simp [invoke, enters_plain g.hd g.hdb g.n2]
  have hres : ∀ (t6 : Value) (u1 : Value) (n : Int) (w : World), (loadVar i.T ⟨φ2 s.n, 0, none⟩).run P w = .ok u1 w → (loadVar i.E ⟨φ2 (s.n + 1), 0, none⟩).run P w = .ok (.int .i64 n) w →
      (results fn #[u, undef, p2, p3, .func (.func i.d) #[] #[p2, p3], u, t6]).run P w = .ok (.tuple #[u1, .int .i64 n]) w := by
    intro t6 u1 n w e1 e2
    rw [hb1] at e1
    rw [hb2] at e2
    unfold results
    rw [g.res]
    simp [← hp2, ← hp3, asAddr, e1, e2]
  have key := hinl _ gf _ _ _ r φ2 ψ S a w2 ca
    (fun u' w' => wpOps P o2 (Exit.then (Code.ret.wp P (bodyPostD P fn (BackOr N X))) (bodyPostD P fn (BackOr N X))) [2, 3] (Act.put ⟨#[u, undef, p2, p3, .func (.func i.d) #[] #[p2, p3], u, undef], [{ target := .fn (.func i.d) #[p2, p3], args := #[] }]⟩ (some 6) u') w')
    (fun v w' => bodyPostD P fn (BackOr N X) (.panic [{ v := v, recovered := false }]) ⟨#[u, undef, p2, p3, .func (.func i.d) #[] #[p2, p3], u, undef], [{ target := .fn (.func i.d) #[p2, p3], args := #[] }]⟩ w') h hR2 hargs2
  refine use2 key ?back ?thrown ?main
  case main =>
    rintro ⟨hent, hcall⟩
    refine wpOps_enter ho (w' := w2) (f := gf) (args := ca.toArray) ?_ hcall
    simp [execOp, GX.op, resolve, Act.eval, ← hu, Deferred.ofValue, invoke, hent]
  case back =>
    intro v s' φ' ψ' S' u' w' hk hR' hv hev htm ⟨pre, hst⟩ hnt
    dsimp only at hk
    split at hk
    case h_2 => cases hk
    rename_i lc hlc
    obtain ⟨us, hus, hul⟩ := hv.cells hlc
    obtain ⟨w3, w4, u1, vv, sf, e1, e2, e3, e4, e5, e6, e7, e8, e9, e10, e11, e12, ⟨pre2, e13⟩⟩ := got_end hk (hR.back hR' (ev12.trans hev)) hul
    have f1 : φ' s.n = φ2 s.n := hev.hφ _ (by show s.n < s.n + 1 + 1; omega)
    have f2 : φ' (s.n + 1) = φ2 (s.n + 1) := hev.hφ _ (by show s.n + 1 < s.n + 1 + 1; omega)
    rw [f1] at e1 e3
    rw [f2] at e2 e4
    show wpOps P o2 _ _ ⟨#[u, undef, p2, p3, .func (.func i.d) #[] #[p2, p3], u, u'], [{ target := .fn (.func i.d) #[p2, p3], args := #[] }]⟩ _
    obtain ⟨_, _, _, _, ho⟩ := q2 2 _ rfl
    rw [hb1] at e1
    refine wpOps_skip ho (w' := w3) (by simp [execOp, GX.op, Act.eval, ← hp2, Instr.storeAt, Instr.sureAddr, storeVar, szOf_run e5, hus, e1]) ?_
    show wpOps P o2 _ _ ⟨#[u, undef, p2, p3, .func (.func i.d) #[] #[p2, p3], u, u'], [{ target := .fn (.func i.d) #[p2, p3], args := #[] }]⟩ _
    obtain ⟨_, _, _, _, ho⟩ := q2 3 _ rfl
    rw [hb2] at e2
    refine wpOps_skip ho (w' := w4) (by simp [execOp, GX.op, Act.eval, ← hp3, Instr.storeAt, Instr.sureAddr, storeVar, szOf_run e6, Value.cells, e2]) ?_
    refine wp_ret ?_
    show Leaves P fn #[u, undef, p2, p3, .func (.func i.d) #[] #[p2, p3], u, u'] (BackOr N X) [{ target := .fn (.func i.d) #[p2, p3], args := #[] }] .returning w4
    refine leaves_cons (by simp) (hlate w4) (late_back g hze ?_)
    refine ⟨_, hres _ _ _ _ e3 e4, .inl ⟨_, rfl, ?_⟩⟩
    exact hN _ sf φ' ψ' S' _ _ e7 e8 e9 (by rw [e10]; exact ev12.trans hev) e11 ⟨pre2 ++ (pre ++ [(s.n + 1, .cells [.val (.int .i64 0)] i.E), (s.n, .cells lz i.T)]), by rw [e13, hst]; simp [newBlk]⟩ e12
  case thrown =>
    intro v t φ' ψ' S' a' w' ht hR' hev ⟨pre, hst⟩
    dsimp only at ht
    split at ht
    case h_2 => cases ht
    rename_i e n
    split at ht
    case h_2 => cases ht
    rename_i he
    obtain rfl := Nat.eq_of_beq_eq_true he
    have hRb := hR.back hR' (ev12.trans hev)
    obtain ⟨zs', hzs', hza'⟩ := (ofVal_rel (φ := φ') (ψ := ψ') (S := S') (s := t) z).cells hlz
    obtain rfl : zs' = zs := by rw [hzs] at hzs'; exact (List.toArray_inj hzs').symm
    obtain ⟨φ3, hR3, hφ3, ev3⟩ := hRb.new hza' i.T
    obtain ⟨w3, hw3⟩ : ∃ w3, w'.alloc (.cells zs'.toArray i.T) = w3 := ⟨_, rfl⟩
    rw [hw3] at hR3
    have hnew3 : (newVar i.T z).run P w' = .ok ⟨w'.heap.size, 0, none⟩ w3 := by
      rw [← hw3]; simp [newVar, Go.newRow, hzs]
    have kb : look ((t.n, Blk.cells lz i.T) :: t.st) t.n = some (.cells lz i.T) := look_cons_eq _ _ _
    obtain ⟨x1, g1, g2, g3⟩ := ptr_cells (off := 0) hR3 kb
    obtain ⟨u0, h1, h2⟩ := loadVar_rel (P := P) (w := w3) hv0 g2 (by simpa using g3)
    rw [show φ3 t.n = w'.heap.size from hφ3] at h1
    obtain ⟨us, hus, hul⟩ := h2.cells hl0
    obtain ⟨w4, w5, u1, vv, sf, e1, e2, e3, e4, e5, e6, e7, e8, e9, e10, e11, e12, ⟨pre2, e13⟩⟩ := got_end (t := newBlk t lz i.T) ht hR3 hul
    have f1 : φ3 s.n = φ2 s.n := (ev3.hφ _ (by have := hev.hn; have : s.n + 1 + 1 ≤ t.n := this; show s.n < t.n; omega)).trans (hev.hφ _ (by show s.n < s.n + 1 + 1; omega))
    have f2 : φ3 (s.n + 1) = φ2 (s.n + 1) := (ev3.hφ _ (by have := hev.hn; have : s.n + 1 + 1 ≤ t.n := this; show s.n + 1 < t.n; omega)).trans (hev.hφ _ (by show s.n + 1 < s.n + 1 + 1; omega))
    rw [f1] at e1 e3
    rw [f2] at e2 e4
    show Leaves P fn #[u, undef, p2, p3, .func (.func i.d) #[] #[p2, p3], u, undef] (BackOr N X) [{ target := .fn (.func i.d) #[p2, p3], args := #[] }] (.panicking [{ v := .iface i.E (.int .i64 n), recovered := false }]) w'
    refine leaves_cons (by simp) (hlate w') ?_
    rw [hb1] at e1
    rw [hb2] at e2
    rw [← hp2, ← hp3]
    refine late_thrown g hz hzs hnew3 h1 hus e5 e6 e1 e2 ?_
    rw [hp2, hp3]
    show Leaves P fn _ (BackOr N X) [] .returning w5
    refine ⟨_, hres _ _ _ _ e3 e4, .inl ⟨_, rfl, ?_⟩⟩
    exact hN _ sf φ3 ψ' S' _ _ e7 e8 e9 (by rw [e10]; exact (ev12.trans hev).trans ev3) e11 ⟨pre2 ++ ([(t.n, .cells lz i.T)] ++ (pre ++ [(s.n + 1, .cells [.val (.int .i64 0)] i.E), (s.n, .cells lz i.T)])), by rw [e13]; simp [newBlk, hst]⟩ e12
end
end Go.Proofs.YtohlhliifeeokaaGreat.Ab
