import Derived.Recover
import Derived.Test.YtfhphiedbdinmaaGreatDoorAbU
import Derived.LoopN
import Derived.Scope
set_option linter.all false
namespace Go.Proofs.YtfhphiedbdinmaaGreatDoor.Ab
open Go Go.RowKit
section
theorem isTmp_eq {d : Tmp} {x : Operand} (h : isTmp d x = true) : x = .tmp d := by
 unfold isTmp at h
 split at h
 . rw [Nat.eq_of_beq_eq_true h]
 . cases h
theorem noArgs_eq {c : Call} (h : noArgs c = true) : c.args = #[] := by
 unfold noArgs at h
 split at h
 . rename_i e; exact Array.ext' e
 . cases h
theorem calls_eq {d : Tmp} {c : Call} (h : calls d c = true) : c = ⟨.value (.tmp d), #[], c.argTypes⟩ := by
 unfold calls at h
 rw [Bool.and_eq_true] at h
 obtain ⟨h1, h2⟩ := h
 have h1 := noArgs_eq h1
 obtain ⟨cal, args, ts⟩ := c
 simp only at h1 h2
 subst h1
 split at h2
 . rw [isTmp_eq h2]
 . cases h2
theorem GX.is_eq {x : GX} {o : Op} (h : x.is o = true) : ∃ ts, o = x.op ts := by
 unfold GX.is at h
 split at h
 . exact ⟨#[], by rw [Nat.eq_of_beq_eq_true h]; rfl⟩
 . rw [Bool.and_eq_true] at h
   obtain ⟨h1, h2⟩ := h
   split at h2
   . rename_i e1 e2
     rw [Bool.and_eq_true] at h2
     rw [isTmp_eq h2.1, isTmp_eq h2.2] at e2
     refine ⟨#[], ?_⟩
     rename_i g a b g' f c _ _ _ _
     have e1 : f = #[] := Array.ext' e1
     have e2 : c = #[Operand.tmp a, Operand.tmp b] := Array.ext' e2
     rw [Nat.eq_of_beq_eq_true h1, e1, e2]; rfl
   . cases h2
 . exact ⟨_, by rw [calls_eq h]; rfl⟩
 . exact ⟨#[], by rw [isTmp_eq h]; rfl⟩
 . exact ⟨#[], by rw [isTmp_eq h]; rfl⟩
 . exact ⟨_, by rw [calls_eq h]; rfl⟩
 . rename_i c
   rw [Bool.and_eq_true] at h
   obtain ⟨h1, h2⟩ := h
   have h1 := noArgs_eq h1
   obtain ⟨cal, args, ts⟩ := c
   have h1 : args = #[] := h1
   subst h1
   split at h2
   . rename_i e
     have e : cal = .builtin .recover := e
     subst e; exact ⟨ts, rfl⟩
   . cases h2
 . simp only [Bool.and_eq_true] at h
   exact ⟨#[], by rw [Nat.eq_of_beq_eq_true h.1.1, isTmp_eq h.1.2, isTmp_eq h.2]; rfl⟩
 . simp only [Bool.and_eq_true] at h
   obtain ⟨⟨h1, h2⟩, h3⟩ := h
   split at h3
   . exact ⟨#[], by rw [Nat.eq_of_beq_eq_true h1, isTmp_eq h2, of_decide_eq_true h3]; rfl⟩
   . cases h3
 . simp only [Bool.and_eq_true] at h
   exact ⟨#[], by rw [isTmp_eq h.1.1.1, Nat.eq_of_beq_eq_true h.1.1.2, Nat.eq_of_beq_eq_true h.1.2, h.2]; rfl⟩
 . simp only [Bool.and_eq_true] at h
   exact ⟨#[], by rw [isTmp_eq h.1, Nat.eq_of_beq_eq_true h.2]; rfl⟩
 . simp only [Bool.and_eq_true] at h
   exact ⟨#[], by rw [Nat.eq_of_beq_eq_true h.1, isTmp_eq h.2]; rfl⟩
 . cases h
def Opr (ops : Array Oper) (i : Nat) (p : Option Nat × GX) : Prop := ∃ ts ty pos after, ops[i]? = some ⟨p.1, p.2.op ts, ty, pos, after, none⟩
theorem operIs_eq {p : Option Nat × GX} {o : Oper} (h : operIs p o = true) : ∃ ts ty pos after, o = ⟨p.1, p.2.op ts, ty, pos, after, none⟩ := by
 unfold operIs at h
 simp only [Bool.and_eq_true] at h
 obtain ⟨⟨h1, h2⟩, h3⟩ := h
 obtain ⟨dst, op, ty, pos, after, guard⟩ := o
 obtain ⟨d, x⟩ := p
 simp only at h1 h2 h3
 obtain ⟨ts, rfl⟩ := GX.is_eq h3
 refine ⟨ts, ty, pos, after, ?_⟩
 have e1 : dst = d := by
  unfold isDst at h2
  split at h2
  . rfl
  . rw [Nat.eq_of_beq_eq_true h2]
  . cases h2
 have e2 : guard = none := by
  unfold noGuard at h1
  cases guard with
  | none => rfl
  | some g => cases h1
 rw [e1, e2]
theorem opersAre_spec : ∀ {l : List (Option Nat × GX)} {m : List Oper}, opersAre l m = true -> m.length = l.length /\ ∀ (i : Nat) (p : Option Nat × GX), l[i]? = some p -> ∃ ts ty pos after, m[i]? = some (Oper.mk p.1 (p.2.op ts) ty pos after none)
 | [], [], _ => ⟨rfl, fun i p h => by simp at h⟩
 | [], _ :: _, h => by cases h
 | _ :: _, [], h => by cases h
 | p :: l, o :: m, h => by
   simp only [opersAre, Bool.and_eq_true] at h
   obtain ⟨h1, h2⟩ := opersAre_spec h.2
   refine ⟨by rw [List.length_cons, List.length_cons, h1], fun i q hq => ?_⟩
   cases i with
   | zero =>
     rw [List.getElem?_cons_zero] at hq ⊢
     obtain rfl := Option.some.inj hq
     obtain ⟨ts, ty, pos, after, e⟩ := operIs_eq h.1
     exact ⟨ts, ty, pos, after, by rw [e]⟩
   | succ i =>
     rw [List.getElem?_cons_succ] at hq ⊢
     exact h2 i q hq
theorem isReg_spec {l : List (Option Nat × GX)} {c : Code} (h : isReg l c = true) : ∃ id ops, c = .region id ops false /\ ops.size = l.length /\ ∀ (i : Nat) (p : Option Nat × GX), l[i]? = some p -> Opr ops i p := by
 unfold isReg at h
 split at h
 . rename_i id ops
   obtain ⟨h1, h2⟩ := opersAre_spec h
   refine ⟨id, ops, rfl, by simpa using h1, fun i p hp => ?_⟩
   obtain ⟨ts, ty, pos, after, e⟩ := h2 i p hp
   exact ⟨ts, ty, pos, after, by rw [<- e]; simp⟩
 . cases h
section
variable {P : Program}
structure GotOk (P : Program) (f : FuncId) (i : GotI) (fn dn : Func) (c dc : Code) : Prop where
 hf : P.funcs[f]? = some fn
 hb : fn.body = some c
 hd : P.funcs[i.d]? = some dn
 hdb : dn.body = some dc
 hdr : dn.results = #[]
 body : i.body c = true
 late : i.late dc = true
 res : fn.results = #[.cell 2 i.T, .cell 3 i.E]
 n1 : plainF fn = true
 n2 : plainF dn = true
 m1 : fn.ntmps = 7
 m2 : dn.ntmps = 13
 i64 : P.underlying i.E = some (.int .i64)
theorem gotOf_spec {f : FuncId} {i : GotI} (h : gotOf P f = some i) : ∃ fn dn c dc, GotOk P f i fn dn c dc := by
 unfold gotOf at h
 split at h
 . cases h
 rename_i fn hf
 split at h
 . cases h
 rename_i c hb
 split at h
 . cases h
 rename_i t e d hr
 split at h
 . cases h
 rename_i dn hd
 split at h
 . cases h
 rename_i c' hdb
 split at h
 . cases h
 rename_i a ha
 split at h
 . rename_i hB
   obtain rfl := Option.some.inj h
   unfold gotB at hB
   split at hB
   . rename_i c1 d1 e1 e2 e3
     rw [hb] at e1; obtain rfl := Option.some.inj e1
     rw [hdb] at e2; obtain rfl := Option.some.inj e2
     simp only [Bool.and_eq_true] at hB
     obtain ⟨⟨⟨⟨⟨⟨⟨b1, b2⟩, b3⟩, b4⟩, b5⟩, b6⟩, b7⟩, b8⟩ := hB
     refine ⟨fn, dn, c, c', hf, hb, hd, hdb, Array.ext' e3, b1, b2, ?_, b4, b5, Nat.eq_of_beq_eq_true b6, Nat.eq_of_beq_eq_true b7, ?_⟩
     . unfold gotRes at b3
       split at b3
       . rename_i a1 t1 a2 t2 er
         simp only [Bool.and_eq_true] at b3
         obtain ⟨⟨⟨q1, q2⟩, q3⟩, q4⟩ := b3
         rw [Nat.eq_of_beq_eq_true q1, Nat.eq_of_beq_eq_true q2, Nat.eq_of_beq_eq_true q3, Nat.eq_of_beq_eq_true q4] at er
         exact Array.ext' er
       . cases b3
     . unfold isI64 at b8
       split at b8
       . assumption
       . cases b8
   . cases hB
 . cases h
theorem enters_plain {f : FuncId} {fn : Func} {c : Code} (hf : P.funcs[f]? = some fn) (hb : fn.body = some c) (hn : plainF fn = true) (args : Array Value) (w : World) : (callFunc f args).run P w = .ok (.enter f args) w := by
 have hnm' : (fn.name == "runtime.NumGoroutine") = false := by unfold plainF at hn; simpa using hn
 unfold callFunc
 rw [Sem.run_bind]
 simp only [run_program, Result.andThen_ok, hf, hnm', Bool.false_eq_true, if_false, hb, Option.isNone_some]
 rfl
-- steps of a region
variable {ops : Array Oper} {i : Nat} {rest : List Nat} {dst : Option Tmp} {op : Op} {ty : TypeId} {pos : String} {after : Array Edge} {a : Act} {w w' : World} {Q : Exit -> Act -> World -> Prop}
theorem wpOps_val {v : Value} (ho : ops[i]? = some ⟨dst, op, ty, pos, after, none⟩) (hr : (execOp a.eval ⟨dst, op, ty, pos, after, none⟩).run P w = .ok (.value v) w') (h : wpOps P ops Q rest (a.put dst v) w') : wpOps P ops Q (i :: rest) a w := by
 unfold wpOps
 simp only [ho]
 rw [if_pos (wanted_none (ops := ops) rfl)]
 refine .inl ?_
 unfold Oper.wp
 rw [hr, Oper.upon_value]; exact h
theorem wpOps_skip (ho : ops[i]? = some ⟨dst, op, ty, pos, after, none⟩) (hr : (execOp a.eval ⟨dst, op, ty, pos, after, none⟩).run P w = .ok .skip w') (h : wpOps P ops Q rest (a.put dst undef) w') : wpOps P ops Q (i :: rest) a w := by
 unfold wpOps
 simp only [ho]
 rw [if_pos (wanted_none (ops := ops) rfl)]
 refine .inl ?_
 unfold Oper.wp
 rw [hr, Oper.upon_skip]; exact h
theorem wpOps_defer {d : Deferred} (ho : ops[i]? = some ⟨dst, op, ty, pos, after, none⟩) (hr : (execOp a.eval ⟨dst, op, ty, pos, after, none⟩).run P w = .ok (.defer d) w') (h : wpOps P ops Q rest ({ a with defers := d :: a.defers }.put dst undef) w') : wpOps P ops Q (i :: rest) a w := by
 unfold wpOps
 simp only [ho]
 rw [if_pos (wanted_none (ops := ops) rfl)]
 refine .inl ?_
 unfold Oper.wp
 rw [hr, Oper.upon_defer]; exact h
theorem wpOps_enter {f : FuncId} {args : Array Value} (ho : ops[i]? = some ⟨dst, op, ty, pos, after, none⟩) (hr : (execOp a.eval ⟨dst, op, ty, pos, after, none⟩).run P w = .ok (.enter f args) w')
 (h : Calls P f args w' (BackOr (fun u w => wpOps P ops Q rest (a.put dst u) w) (fun v w => Q (.panic [{ v := v, recovered := false }]) a w))) : wpOps P ops Q (i :: rest) a w := by
 unfold wpOps
 simp only [ho]
 rw [if_pos (wanted_none (ops := ops) rfl)]
 refine .inl ?_
 unfold Oper.wp
 rw [hr, Oper.upon_enter]
 refine h.mono ?_
 rintro e w' (⟨u, rfl, h3⟩ | ⟨v, rfl, h3⟩)
 . exact h3
 . exact h3
variable {QS : Exit -> Act -> List Frame -> World -> Prop} {cs : List Frame}
theorem wpOpsS_val {v : Value} (ho : ops[i]? = some ⟨dst, op, ty, pos, after, none⟩) (hr : (execOp a.eval ⟨dst, op, ty, pos, after, none⟩).run P w = .ok (.value v) w') (h : wpOpsS P ops QS rest (a.put dst v) cs w') : wpOpsS P ops QS (i :: rest) a cs w := by
 unfold wpOpsS
 simp only [ho]
 rw [if_pos (wanted_none (ops := ops) rfl)]
 rw [hr]; exact h
theorem wpOpsS_skip (ho : ops[i]? = some ⟨dst, op, ty, pos, after, none⟩) (hr : (execOp a.eval ⟨dst, op, ty, pos, after, none⟩).run P w = .ok .skip w') (h : wpOpsS P ops QS rest (a.put dst undef) cs w') : wpOpsS P ops QS (i :: rest) a cs w := by
 unfold wpOpsS
 simp only [ho]
 rw [if_pos (wanted_none (ops := ops) rfl)]
 rw [hr]; exact h
theorem wpOpsS_recov {v : Value} {cs' : List Frame} (ho : ops[i]? = some ⟨dst, op, ty, pos, after, none⟩) (hr : (execOp a.eval ⟨dst, op, ty, pos, after, none⟩).run P w = .ok .recover w') (hc : recoverD cs = some (v, cs')) (h : wpOpsS P ops QS rest (a.put dst v) cs' w') : wpOpsS P ops QS (i :: rest) a cs w := by
 unfold wpOpsS
 simp only [ho]
 rw [if_pos (wanted_none (ops := ops) rfl)]
 rw [hr]; simp only [hc]; exact h
theorem wpOpsS_none (ho : ops[i]? = some ⟨dst, op, ty, pos, after, none⟩) (hr : (execOp a.eval ⟨dst, op, ty, pos, after, none⟩).run P w = .ok .recover w') (hc : recoverD cs = none) (h : wpOpsS P ops QS rest (a.put dst .nilIface) cs w') : wpOpsS P ops QS (i :: rest) a cs w := by
 unfold wpOpsS
 simp only [ho]
 rw [if_pos (wanted_none (ops := ops) rfl)]
 rw [hr]; simp only [hc]; exact h
end
section
variable {P : Program} {base : Nat} {w0 : World} {S0 : Mem} {O O2 : Nat -> Nat} {Z Z2 : Nat -> Value} {S S2 : Mem} {s t : St} {a a2 : Act} {w w2 : World}
variable {α : Type} {K : AV -> St -> Option α} {r : α}
theorem Rl.back (hR : Rl base w0 S0 O Z S s a w) (hR2 : Rl base w0 S0 O2 Z2 S2 t a2 w2) (hev : Evo O Z S s.n O2 Z2 S2 t.n) : Rl base w0 S0 O2 Z2 S2 { s with st := t.st, n := t.n } a w2 :=
 ⟨hR2.s0, hR2.snew, hR2.sw, hR2.below, hR2.bsz, hR.defers, hR.size, fun d v' hd => ⟨(hR.tm d v' hd).1, (hR.tm d v' hd).2.evo hev⟩, hR2.st, hR2.apart⟩
theorem tupGot_rel {O : Nat -> Nat} {Z : Nat -> Value} {S : Mem} {n : Nat} {v : AV} {p : Bool × List CV} {u : Value} (h : tupAV v = some p) (hv : ARel O Z S n v u) : TRel O Z S n p u := by
 unfold tupAV at h
 split at h
 . rename_i c
   split at h
   . rename_i l hl
     obtain rfl := Option.some.inj h
     cases c with
     | any => simp [AV.cells] at hl
     | val z => exact ⟨hv, by cases z <;> simp [AV.cells] at hl <;> rfl⟩
     | _ => exact hv
   . cases h
 . obtain rfl := Option.some.inj h; exact hv
 . cases h
theorem got_end {i : GotI} {lc : List CV} {n : Int} {us : List Value} (he : gotEnd P i s lc n K t = some r) (hR : Rl base w0 S0 O Z S { s with st := t.st, n := t.n } a w) (hc : All2 (CRel O Z S t.n) lc us) :
 ∃ w1 w2 u v s', (storeCells ⟨O s.n, 0, none⟩ us).run P w = .ok () w1 /\ (storeCells ⟨O (s.n + 1), 0, none⟩ [.int .i64 n]).run P w1 = .ok () w2 /\
  (loadVar i.T ⟨O s.n, 0, none⟩).run P w2 = .ok u w2 /\ (loadVar i.E ⟨O (s.n + 1), 0, none⟩).run P w2 = .ok (.int .i64 n) w2 /\ szOf P i.T = some us.length /\ szOf P i.E = some 1 /\
  K v s' = some r /\ Rl base w0 S0 O Z S s' a w2 /\ ARel O Z S s'.n v (.tuple #[u, .int .i64 n]) /\ s'.n = t.n /\ s'.tm = s.tm /\ s'.nt = s.nt /\ ∃ pre, s'.st = pre ++ t.st := by
 unfold gotEnd at he
 split at he
 . rename_i l1 e1 l2 e2 hk1 hk2
   split at he
   . rename_i m1 m2 v n' q1 q2 q3 q4 q5 q6
     split at he
     . rename_i p p1 p2 p3 p4
       have c1 := Nat.eq_of_beq_eq_true q1
       have c2 := Nat.eq_of_beq_eq_true q2
       have c3 := Nat.eq_of_beq_eq_true p1
       have c4 := Nat.eq_of_beq_eq_true p2
       obtain rfl : n' = n := of_decide_eq_true p3
       have hlen := hc.length
       obtain ⟨w1, hs1, hR1⟩ := store_rel (P := P) (off := 0) hR hk1 hc (by omega)
       have e : l1.take 0 ++ lc ++ l1.drop (0 + lc.length) = lc := by rw [List.take_zero, List.nil_append, Nat.zero_add, c1, List.drop_length, List.append_nil]
       rw [e] at hR1
       have hne : s.n ≠ s.n + 1 := by omega
       have hk2' : look ((s.n, Blk.cells lc e1) :: t.st) (s.n + 1) = some (.cells l2 e2) := (look_cons_ne _ _ hne).trans hk2
       obtain ⟨w2, hs2, hR2⟩ := store_rel (P := P) (off := 0) hR1 hk2' (c := [.val (.int .i64 n')]) (us := [.int .i64 n']) ⟨⟨rfl, rfl⟩, trivial⟩ (by rw [c2]; exact Nat.le_refl _)
       have e' : l2.take 0 ++ [CV.val (.int .i64 n')] ++ l2.drop (0 + [CV.val (.int .i64 n')].length) = [CV.val (.int .i64 n')] := by
        rw [List.take_zero, List.nil_append, Nat.zero_add, List.length_singleton, <- c2, List.drop_length, List.append_nil]
       rw [e'] at hR2
       have k2 : look ((s.n + 1, Blk.cells [CV.val (.int .i64 n')] e2) :: (s.n, Blk.cells lc e1) :: t.st) (s.n + 1) = some (.cells [.val (.int .i64 n')] e2) := look_cons_eq _ _ _
       have k1 : look ((s.n + 1, Blk.cells [CV.val (.int .i64 n')] e2) :: (s.n, Blk.cells lc e1) :: t.st) s.n = some (.cells lc e1) := (look_cons_ne _ _ (Ne.symm hne)).trans (look_cons_eq _ _ _)
       obtain ⟨x1, g1, g2, g3⟩ := ptr_cells (off := 0) hR2 k1
       obtain ⟨x2, g4, g5, g6⟩ := ptr_cells (off := 0) hR2 k2
       obtain ⟨u, h1, h2⟩ := loadVar_rel (P := P) (w := w2) q5 g2 (by simpa using g3)
       obtain ⟨u2, h3, h4⟩ := loadVar_rel (P := P) (w := w2) q6 g5 (by simpa using g6)
       have h4 : u2 = .int .i64 n' := h4
       subst h4
       refine ⟨w1, w2, u, _, _, hs1, hs2, h1, h3, ?_, ?_, he, hR2, ⟨[u, .int .i64 n'], rfl, tupGot_rel p4 h2, ⟨rfl, rfl⟩, trivial⟩, rfl, rfl, rfl, ⟨[_, _], rfl⟩⟩
       . rw [q3, c3, hlen]
       . rw [q4, c4]
     . cases he
   . cases he
 . cases he
variable {f : FuncId} {i : GotI} {fn dn : Func} {c dc : Code}
theorem GotI.late_spec (h : i.late dc = true) : ∃ i0 i1 i2 i3 o0 o1 o2 o3, dc = .seq (.region i0 o0 false) (.seq (.region i1 o1 false) (.cond (.tmp 10) (.seq (.region i2 o2 false) (.region i3 o3 false)) .skip)) /\
 (o0.size = 7 /\ ∀ (j : Nat) (p : Option Nat × GX), i.d0[j]? = some p -> Opr o0 j p) /\ (o1.size = 1 /\ ∀ (j : Nat) (p : Option Nat × GX), i.d1[j]? = some p -> Opr o1 j p) /\ (o2.size = 1 /\ ∀ (j : Nat) (p : Option Nat × GX), i.d2[j]? = some p -> Opr o2 j p) /\ (o3.size = 4 /\ ∀ (j : Nat) (p : Option Nat × GX), i.d3[j]? = some p -> Opr o3 j p) := by
 unfold GotI.late at h
 split at h
 . simp only [Bool.and_eq_true] at h
   obtain ⟨⟨⟨⟨h0, h1⟩, hx⟩, h2⟩, h3⟩ := h
   obtain ⟨i0, o0, rfl, s0, p0⟩ := isReg_spec h0
   obtain ⟨i1, o1, rfl, s1, p1⟩ := isReg_spec h1
   obtain ⟨i2, o2, rfl, s2, p2⟩ := isReg_spec h2
   obtain ⟨i3, o3, rfl, s3, p3⟩ := isReg_spec h3
   rw [isTmp_eq hx]
   exact ⟨i0, i1, i2, i3, o0, o1, o2, o3, rfl, ⟨s0, p0⟩, ⟨s1, p1⟩, ⟨s2, p2⟩, ⟨s3, p3⟩⟩
 . cases h
theorem GotI.body_spec (h : i.body c = true) : ∃ i0 i1 i2 o0 o1 o2, c = .seq (.region i0 o0 false) (.seq (.region i1 o1 false) (.seq (.region i2 o2 false) .ret)) /\
 (o0.size = 2 /\ ∀ (j : Nat) (p : Option Nat × GX), i.r0[j]? = some p -> Opr o0 j p) /\ (o1.size = 2 /\ ∀ (j : Nat) (p : Option Nat × GX), i.r1[j]? = some p -> Opr o1 j p) /\ (o2.size = 4 /\ ∀ (j : Nat) (p : Option Nat × GX), i.r2[j]? = some p -> Opr o2 j p) := by
 unfold GotI.body at h
 split at h
 . simp only [Bool.and_eq_true] at h
   obtain ⟨⟨h0, h1⟩, h2⟩ := h
   obtain ⟨i0, o0, rfl, s0, p0⟩ := isReg_spec h0
   obtain ⟨i1, o1, rfl, s1, p1⟩ := isReg_spec h1
   obtain ⟨i2, o2, rfl, s2, p2⟩ := isReg_spec h2
   exact ⟨i0, i1, i2, o0, o1, o2, rfl, ⟨s0, p0⟩, ⟨s1, p1⟩, ⟨s2, p2⟩⟩
 . cases h
theorem late_results (g : GotOk P f i fn dn c dc) (ts : Array Value) (w : World) : (results dn ts).run P w = .ok (.tuple #[]) w := by
 unfold results
 rw [g.hdr]
 simp
theorem late_back (g : GotOk P f i fn dn c dc) (hze : zeroOf P i.E = some (.int .i64 0)) {p2 p3 : Value} {R : Ending -> FrameMode -> World -> Prop} (hR : R (.returned (.tuple #[])) .returning w) : CallsD P i.d #[p2, p3] .returning w R := by
 obtain ⟨i0, i1, i2, i3, o0, o1, o2, o3, hdc, ⟨s0, q0⟩, ⟨s1, q1⟩, _, _⟩ := GotI.late_spec g.late
 refine callsD_of_wpS g.hd g.hdb fun c₀ cs hc => ?_
 rw [hdc, g.m2]
 show Code.wpS P _ _ ⟨#[p2, p3, undef, undef, undef, undef, undef, undef, undef, undef, undef, undef, undef], []⟩ _ _
 refine wpS_seq (wpS_region ?_)
 rw [s0]
 show wpOpsS P o0 _ [0, 1, 2, 3, 4, 5, 6] _ _ _
 obtain ⟨_, _, _, _, ho⟩ := q0 0 _ rfl
 refine wpOpsS_none (w' := w) ho (by simp [execOp, GX.op, resolve, invoke, builtin]) (by simp [recoverD, hc]) ?_
 show wpOpsS P o0 _ _ ⟨#[p2, p3, undef, undef, undef, undef, .nilIface, undef, undef, undef, undef, undef, undef], []⟩ _ _
 obtain ⟨_, _, _, _, ho⟩ := q0 1 _ rfl
 refine wpOpsS_val ho (v := .tuple #[.int .i64 0, .bool false]) (w' := w) (by simp [execOp, GX.op, Act.eval, Instr.typeAssert, run_underlying g.i64, zeroOf_run hze]) ?_
 show wpOpsS P o0 _ _ ⟨#[p2, p3, undef, undef, undef, undef, .nilIface, .tuple #[.int .i64 0, .bool false], undef, undef, undef, undef, undef], []⟩ _ _
 obtain ⟨_, _, _, _, ho⟩ := q0 2 _ rfl
 refine wpOpsS_val ho (v := .tuple #[.int .i64 0, .bool false]) (w' := w) rfl ?_
 show wpOpsS P o0 _ _ ⟨#[p2, p3, undef, undef, undef, .tuple #[.int .i64 0, .bool false], .nilIface, .tuple #[.int .i64 0, .bool false], undef, undef, undef, undef, undef], []⟩ _ _
 obtain ⟨_, _, _, _, ho⟩ := q0 3 _ rfl
 refine wpOpsS_val ho (v := .int .i64 0) (w' := w) (by simp [execOp, GX.op, Act.eval, Instr.extract]) ?_
 show wpOpsS P o0 _ _ ⟨#[p2, p3, undef, undef, undef, .tuple #[.int .i64 0, .bool false], .nilIface, .tuple #[.int .i64 0, .bool false], .int .i64 0, undef, undef, undef, undef], []⟩ _ _
 obtain ⟨_, _, _, _, ho⟩ := q0 4 _ rfl
 refine wpOpsS_val ho (v := .bool false) (w' := w) (by simp [execOp, GX.op, Act.eval, Instr.extract]) ?_
 show wpOpsS P o0 _ _ ⟨#[p2, p3, undef, undef, undef, .tuple #[.int .i64 0, .bool false], .nilIface, .tuple #[.int .i64 0, .bool false], .int .i64 0, .bool false, undef, undef, undef], []⟩ _ _
 obtain ⟨_, _, _, _, ho⟩ := q0 5 _ rfl
 refine wpOpsS_val ho (v := .int .i64 0) (w' := w) rfl ?_
 show wpOpsS P o0 _ _ ⟨#[p2, p3, .int .i64 0, undef, undef, .tuple #[.int .i64 0, .bool false], .nilIface, .tuple #[.int .i64 0, .bool false], .int .i64 0, .bool false, undef, undef, undef], []⟩ _ _
 obtain ⟨_, _, _, _, ho⟩ := q0 6 _ rfl
 refine wpOpsS_val ho (v := .bool false) (w' := w) rfl ?_
 show Code.wpS P _ _ ⟨#[p2, p3, .int .i64 0, .bool false, undef, .tuple #[.int .i64 0, .bool false], .nilIface, .tuple #[.int .i64 0, .bool false], .int .i64 0, .bool false, undef, undef, undef], []⟩ _ _
 refine wpS_seq (wpS_region ?_)
 rw [s1]
 show wpOpsS P o1 _ [0] _ _ _
 obtain ⟨_, _, _, _, ho⟩ := q1 0 _ rfl
 refine wpOpsS_val ho (v := .bool false) (w' := w) rfl ?_
 show Code.wpS P _ _ ⟨#[p2, p3, .int .i64 0, .bool false, undef, .tuple #[.int .i64 0, .bool false], .nilIface, .tuple #[.int .i64 0, .bool false], .int .i64 0, .bool false, .bool false, undef, undef], []⟩ _ _
 refine wpS_cond (t := false) rfl (wpS_of_wp (wp_skip ?_))
 refine ⟨rfl, .returning, by rw [<- hc], _, late_results g _ _, hR⟩
theorem late_thrown (g : GotOk P f i fn dn c dc) {a1 a2 : Addr} {n : Int} {z u0 : Value} {us zs : List Value} {w1 w2 w3 : World} (hz : zeroOf P i.T = some z) (hzs : z.cells = zs.toArray)
 (h1 : (newVar i.T z).run P w = .ok ⟨w.heap.size, 0, none⟩ w1) (h0 : (loadVar i.T ⟨w.heap.size, 0, none⟩).run P w1 = .ok u0 w1) (hu : u0.cells = us.toArray) (hT : szOf P i.T = some us.length) (hE : szOf P i.E = some 1)
 (h2 : (storeCells a1 us).run P w1 = .ok () w2) (h3 : (storeCells a2 [.int .i64 n]).run P w2 = .ok () w3)
 {R : Ending -> FrameMode -> World -> Prop} (hR : R (.returned (.tuple #[])) (.panicking [{ v := .iface i.E (.int .i64 n), recovered := true }]) w3) : CallsD P i.d #[.pointer (some a1), .pointer (some a2)] (.panicking [{ v := .iface i.E (.int .i64 n), recovered := false }]) w R := by
 obtain ⟨i0, i1, i2, i3, o0, o1, o2, o3, hdc, ⟨s0, q0⟩, ⟨s1, q1⟩, ⟨s2, q2⟩, ⟨s3, q3⟩⟩ := GotI.late_spec g.late
 refine callsD_of_wpS g.hd g.hdb fun c₀ cs hc => ?_
 rw [hdc, g.m2]
 show Code.wpS P _ _ ⟨#[.pointer (some a1), .pointer (some a2), undef, undef, undef, undef, undef, undef, undef, undef, undef, undef, undef], []⟩ _ _
 refine wpS_seq (wpS_region ?_)
 rw [s0]
 show wpOpsS P o0 _ [0, 1, 2, 3, 4, 5, 6] _ _ _
 obtain ⟨_, _, _, _, ho⟩ := q0 0 _ rfl
 refine wpOpsS_recov (w' := w) (v := .iface i.E (.int .i64 n)) (cs' := { c₀ with mode := .panicking [{ v := .iface i.E (.int .i64 n), recovered := true }] } :: cs) ho (by simp [execOp, GX.op, resolve, invoke, builtin]) (by simp [recoverD, hc]) ?_
 show wpOpsS P o0 _ _ ⟨#[.pointer (some a1), .pointer (some a2), undef, undef, undef, undef, .iface i.E (.int .i64 n), undef, undef, undef, undef, undef, undef], []⟩ _ _
 obtain ⟨_, _, _, _, ho⟩ := q0 1 _ rfl
 refine wpOpsS_val ho (v := .tuple #[.int .i64 n, .bool true]) (w' := w) (by simp [execOp, GX.op, Act.eval, Instr.typeAssert, run_underlying g.i64]) ?_
 show wpOpsS P o0 _ _ ⟨#[.pointer (some a1), .pointer (some a2), undef, undef, undef, undef, .iface i.E (.int .i64 n), .tuple #[.int .i64 n, .bool true], undef, undef, undef, undef, undef], []⟩ _ _
 obtain ⟨_, _, _, _, ho⟩ := q0 2 _ rfl
 refine wpOpsS_val ho (v := .tuple #[.int .i64 n, .bool true]) (w' := w) rfl ?_
 show wpOpsS P o0 _ _ ⟨#[.pointer (some a1), .pointer (some a2), undef, undef, undef, .tuple #[.int .i64 n, .bool true], .iface i.E (.int .i64 n), .tuple #[.int .i64 n, .bool true], undef, undef, undef, undef, undef], []⟩ _ _
 obtain ⟨_, _, _, _, ho⟩ := q0 3 _ rfl
 refine wpOpsS_val ho (v := .int .i64 n) (w' := w) (by simp [execOp, GX.op, Act.eval, Instr.extract]) ?_
 show wpOpsS P o0 _ _ ⟨#[.pointer (some a1), .pointer (some a2), undef, undef, undef, .tuple #[.int .i64 n, .bool true], .iface i.E (.int .i64 n), .tuple #[.int .i64 n, .bool true], .int .i64 n, undef, undef, undef, undef], []⟩ _ _
 obtain ⟨_, _, _, _, ho⟩ := q0 4 _ rfl
 refine wpOpsS_val ho (v := .bool true) (w' := w) (by simp [execOp, GX.op, Act.eval, Instr.extract]) ?_
 show wpOpsS P o0 _ _ ⟨#[.pointer (some a1), .pointer (some a2), undef, undef, undef, .tuple #[.int .i64 n, .bool true], .iface i.E (.int .i64 n), .tuple #[.int .i64 n, .bool true], .int .i64 n, .bool true, undef, undef, undef], []⟩ _ _
 obtain ⟨_, _, _, _, ho⟩ := q0 5 _ rfl
 refine wpOpsS_val ho (v := .int .i64 n) (w' := w) rfl ?_
 show wpOpsS P o0 _ _ ⟨#[.pointer (some a1), .pointer (some a2), .int .i64 n, undef, undef, .tuple #[.int .i64 n, .bool true], .iface i.E (.int .i64 n), .tuple #[.int .i64 n, .bool true], .int .i64 n, .bool true, undef, undef, undef], []⟩ _ _
 obtain ⟨_, _, _, _, ho⟩ := q0 6 _ rfl
 refine wpOpsS_val ho (v := .bool true) (w' := w) rfl ?_
 show Code.wpS P _ _ ⟨#[.pointer (some a1), .pointer (some a2), .int .i64 n, .bool true, undef, .tuple #[.int .i64 n, .bool true], .iface i.E (.int .i64 n), .tuple #[.int .i64 n, .bool true], .int .i64 n, .bool true, undef, undef, undef], []⟩ _ _
 refine wpS_seq (wpS_region ?_)
 rw [s1]
 show wpOpsS P o1 _ [0] _ _ _
 obtain ⟨_, _, _, _, ho⟩ := q1 0 _ rfl
 refine wpOpsS_val ho (v := .bool true) (w' := w) rfl ?_
 show Code.wpS P _ _ ⟨#[.pointer (some a1), .pointer (some a2), .int .i64 n, .bool true, undef, .tuple #[.int .i64 n, .bool true], .iface i.E (.int .i64 n), .tuple #[.int .i64 n, .bool true], .int .i64 n, .bool true, .bool true, undef, undef], []⟩ _ _
 refine wpS_cond (t := true) rfl ?_
 show Code.wpS P (.seq _ _) _ _ _ _
 refine wpS_seq (wpS_region ?_)
 rw [s2]
 show wpOpsS P o2 _ [0] _ _ _
 obtain ⟨_, _, _, _, ho⟩ := q2 0 _ rfl
 refine wpOpsS_val ho (v := .pointer (some ⟨w.heap.size, 0, none⟩)) (w' := w1) (by simp [execOp, GX.op, Instr.alloc, zeroOf_run hz, h1]) ?_
 show Code.wpS P _ _ ⟨#[.pointer (some a1), .pointer (some a2), .int .i64 n, .bool true, .pointer (some ⟨w.heap.size, 0, none⟩), .tuple #[.int .i64 n, .bool true], .iface i.E (.int .i64 n), .tuple #[.int .i64 n, .bool true], .int .i64 n, .bool true, .bool true, undef, undef], []⟩ _ _
 refine wpS_region ?_
 rw [s3]
 show wpOpsS P o3 _ [0, 1, 2, 3] _ _ _
 obtain ⟨_, _, _, _, ho⟩ := q3 0 _ rfl
 refine wpOpsS_val ho (v := u0) (w' := w1) (by simp [execOp, GX.op, Act.eval, Instr.loadAt, Instr.sureAddr, h0]) ?_
 show wpOpsS P o3 _ _ ⟨#[.pointer (some a1), .pointer (some a2), .int .i64 n, .bool true, .pointer (some ⟨w.heap.size, 0, none⟩), .tuple #[.int .i64 n, .bool true], .iface i.E (.int .i64 n), .tuple #[.int .i64 n, .bool true], .int .i64 n, .bool true, .bool true, u0, undef], []⟩ _ _
 obtain ⟨_, _, _, _, ho⟩ := q3 1 _ rfl
 refine wpOpsS_val ho (v := .int .i64 n) (w' := w1) rfl ?_
 show wpOpsS P o3 _ _ ⟨#[.pointer (some a1), .pointer (some a2), .int .i64 n, .bool true, .pointer (some ⟨w.heap.size, 0, none⟩), .tuple #[.int .i64 n, .bool true], .iface i.E (.int .i64 n), .tuple #[.int .i64 n, .bool true], .int .i64 n, .bool true, .bool true, u0, .int .i64 n], []⟩ _ _
 obtain ⟨_, _, _, _, ho⟩ := q3 2 _ rfl
 refine wpOpsS_skip ho (w' := w2) (by simp [execOp, GX.op, Act.eval, Instr.storeAt, Instr.sureAddr, storeVar, szOf_run hT, hu, h2]) ?_
 show wpOpsS P o3 _ _ ⟨#[.pointer (some a1), .pointer (some a2), .int .i64 n, .bool true, .pointer (some ⟨w.heap.size, 0, none⟩), .tuple #[.int .i64 n, .bool true], .iface i.E (.int .i64 n), .tuple #[.int .i64 n, .bool true], .int .i64 n, .bool true, .bool true, u0, .int .i64 n], []⟩ _ _
 obtain ⟨_, _, _, _, ho⟩ := q3 3 _ rfl
 refine wpOpsS_skip ho (w' := w3) (by simp [execOp, GX.op, Act.eval, Instr.storeAt, Instr.sureAddr, storeVar, szOf_run hE, Value.cells, h3]) ?_
 refine ⟨rfl, _, rfl, _, late_results g _ _, hR⟩
theorem use2 {A B C D : Prop} (k : A -> B -> C) (a : A) (b : B) (f : C -> D) : D := f (k a b)
theorem got_sound (hi : gotOf P f = some i) {inl : (Value -> St -> Option α) -> FuncId -> List AV -> St -> (AV -> St -> Option α) -> Option α} (hinl : ∀ T, InlOk P base w0 S0 T (inl T)) {args : List AV} {vs : List Value} {N X : Value -> World -> Prop}
 (h : evGot P i inl args s K = some r) (hR : Rl base w0 S0 O Z S s a w) (hargs : All2 (ARel O Z S s.n) args vs) (hN : Next1 base w0 S0 K r O Z S s a N) :
 (∀ args w, (callFunc f args).run P w = .ok (.enter f args) w) /\ Calls P f vs.toArray w (BackOr N X) := by
 obtain ⟨fn, dn, c, dc, g⟩ := gotOf_spec hi
 refine ⟨enters_plain g.hf g.hb g.n1, ?_⟩
 unfold evGot at h
 split at h
 case h_2 => cases h
 rename_i gf caps
 match vs, hargs with
 | [], hargs => exact hargs.elim
 | _ :: _ :: _, hargs => exact hargs.2.elim
 | [u], ⟨⟨hcap, hu⟩, _⟩ =>
 split at h
 case h_2 => cases h
 rename_i z n0 hz hze
 split at h
 case h_2 => cases h
 rename_i lz hlz hn0
 split at h
 case h_2 => cases h
 rename_i v0 hv0
 split at h
 case h_2 => cases h
 rename_i l0 hl0
 obtain rfl : n0 = 0 := of_decide_eq_true hn0
 obtain ⟨zs, hzs, hza⟩ := (ofVal_rel (O := O) (Z := Z) (S := S) (s := s) z).cells hlz
 obtain ⟨O1, hR1, hO1, ev1⟩ := hR.new hza i.T
 obtain ⟨O2, hR2, hO2, ev2⟩ := hR1.new (l := [.val (.int .i64 0)]) (vs := [.int .i64 0]) ⟨⟨rfl, rfl⟩, trivial⟩ i.E
 obtain ⟨w1, hw1⟩ : ∃ w1, w.alloc (.cells zs.toArray i.T) = w1 := ⟨_, rfl⟩
 rw [hw1] at hR1 hR2 hO2
 obtain ⟨w2, hw2⟩ : ∃ w2, w1.alloc (.cells [Value.int .i64 0].toArray i.E) = w2 := ⟨_, rfl⟩
 rw [hw2] at hR2
 have ev12 : Evo O Z S s.n O2 Z S (s.n + 2) := ev1.trans ev2
 have hb1 : O2 s.n = w.heap.size := (ev2.hO s.n (Nat.lt_succ_self _)).trans hO1
 have hb2 : O2 (s.n + 1) = w1.heap.size := hO2
 have hnew1 : (newVar i.T z).run P w = .ok ⟨w.heap.size, 0, none⟩ w1 := by
  rw [<- hw1]; simp [newVar, Go.newRow, hzs]
 have hnew2 : (newVar i.E (.int .i64 0)).run P w1 = .ok ⟨w1.heap.size, 0, none⟩ w2 := by
  rw [<- hw2]; simp [newVar, Go.newRow, Value.cells]
 obtain ⟨ca, hca⟩ : ∃ ca, (caps.map fun p => Value.pointer (some ⟨O p.1, p.2, none⟩)) = ca := ⟨_, rfl⟩
 rw [hca] at hu
 have hargs2 : All2 (ARel O2 Z S (s.n + 2)) (caps.map fun p => AV.one (.ptr p.1 p.2)) ca := by
  rw [<- hca]
  have : ∀ l : List (Nat × Nat), (∀ p ∈ l, p.1 < s.n) -> All2 (ARel O2 Z S (s.n + 2)) (l.map fun p => AV.one (.ptr p.1 p.2)) (l.map fun p => Value.pointer (some ⟨O p.1, p.2, none⟩)) := by
   intro l
   induction l with
   | nil => intro _; trivial
   | cons p l ih =>
     intro hl
     have hp := hl p (by simp)
     exact ⟨⟨by omega, by rw [ev12.hO _ hp]⟩, ih fun q hq => hl q (by simp [hq])⟩
  exact this caps hcap
 subst hu
 obtain ⟨i0, i1, i2, o0, o1, o2, hc, ⟨s0, q0⟩, ⟨s1, q1⟩, ⟨s2, q2⟩⟩ := GotI.body_spec g.body
 refine calls_of_wp_defers g.hf g.hb ?_
 rw [hc, g.m1]
 obtain ⟨u, hu⟩ : ∃ u, Value.func (.func gf) #[] ca.toArray = u := ⟨_, rfl⟩
 rw [hu]
 show Code.wp P _ _ ⟨#[u, undef, undef, undef, undef, undef, undef], []⟩ _
 refine wp_seq (wp_region ?_)
 rw [s0]
 show wpOps P o0 _ [0, 1] _ _
 obtain ⟨_, _, _, _, ho⟩ := q0 0 _ rfl
 refine wpOps_val ho (v := .pointer (some ⟨w.heap.size, 0, none⟩)) (w' := w1) (by simp [execOp, GX.op, Instr.alloc, zeroOf_run hz, hnew1]) ?_
 obtain ⟨p2, hp2⟩ : ∃ p2, Value.pointer (some ⟨w.heap.size, 0, none⟩) = p2 := ⟨_, rfl⟩
 rw [hp2]
 show wpOps P o0 _ _ ⟨#[u, undef, p2, undef, undef, undef, undef], []⟩ _
 obtain ⟨_, _, _, _, ho⟩ := q0 1 _ rfl
 refine wpOps_val ho (v := .pointer (some ⟨w1.heap.size, 0, none⟩)) (w' := w2) (by simp [execOp, GX.op, Instr.alloc, zeroOf_run hze, hnew2]) ?_
 obtain ⟨p3, hp3⟩ : ∃ p3, Value.pointer (some ⟨w1.heap.size, 0, none⟩) = p3 := ⟨_, rfl⟩
 rw [hp3]
 show Code.wp P _ _ ⟨#[u, undef, p2, p3, undef, undef, undef], []⟩ _
 refine wp_seq (wp_region ?_)
 rw [s1]
 show wpOps P o1 _ [0, 1] _ _
 obtain ⟨_, _, _, _, ho⟩ := q1 0 _ rfl
 refine wpOps_val ho (v := .func (.func i.d) #[] #[p2, p3]) (w' := w2) (by simp [execOp, GX.op, Act.eval, Instr.makeFunc]) ?_
 show wpOps P o1 _ _ ⟨#[u, undef, p2, p3, .func (.func i.d) #[] #[p2, p3], undef, undef], []⟩ _
 obtain ⟨_, _, _, _, ho⟩ := q1 1 _ rfl
 refine wpOps_defer ho (d := { target := .fn (.func i.d) #[p2, p3], args := #[] }) (w' := w2) (by simp [execOp, GX.op, Act.eval, resolve, Deferred.ofValue]) ?_
 show Code.wp P _ _ ⟨#[u, undef, p2, p3, .func (.func i.d) #[] #[p2, p3], undef, undef], [{ target := .fn (.func i.d) #[p2, p3], args := #[] }]⟩ _
 refine wp_seq (wp_region ?_)
 rw [s2]
 show wpOps P o2 _ [0, 1, 2, 3] _ _
 obtain ⟨_, _, _, _, ho⟩ := q2 0 _ rfl
 refine wpOps_val ho (v := u) (w' := w2) rfl ?_
 show wpOps P o2 _ _ ⟨#[u, undef, p2, p3, .func (.func i.d) #[] #[p2, p3], u, undef], [{ target := .fn (.func i.d) #[p2, p3], args := #[] }]⟩ _
 obtain ⟨_, _, _, _, ho⟩ := q2 1 _ rfl
 have hlate : ∀ w, (invoke (.fn (.func i.d) #[p2, p3]) #[]).run P w = .ok (.enter i.d #[p2, p3]) w := fun w => by
  simp [invoke, enters_plain g.hd g.hdb g.n2]
 have hres : ∀ (t6 : Value) (u1 : Value) (n : Int) (w : World), (loadVar i.T ⟨O2 s.n, 0, none⟩).run P w = .ok u1 w -> (loadVar i.E ⟨O2 (s.n + 1), 0, none⟩).run P w = .ok (.int .i64 n) w ->
  (results fn #[u, undef, p2, p3, .func (.func i.d) #[] #[p2, p3], u, t6]).run P w = .ok (.tuple #[u1, .int .i64 n]) w := by
  intro t6 u1 n w e1 e2
  rw [hb1] at e1
  rw [hb2] at e2
  unfold results
  rw [g.res]
  simp [<- hp2, <- hp3, asAddr, e1, e2]
 have key := hinl _ gf _ _ _ r O2 Z S a w2 ca
  (fun u' w' => wpOps P o2 (Exit.then (Code.ret.wp P (bodyPostD P fn (BackOr N X))) (bodyPostD P fn (BackOr N X))) [2, 3] (Act.put ⟨#[u, undef, p2, p3, .func (.func i.d) #[] #[p2, p3], u, undef], [{ target := .fn (.func i.d) #[p2, p3], args := #[] }]⟩ (some 6) u') w')
  (fun v w' => bodyPostD P fn (BackOr N X) (.panic [{ v := v, recovered := false }]) ⟨#[u, undef, p2, p3, .func (.func i.d) #[] #[p2, p3], u, undef], [{ target := .fn (.func i.d) #[p2, p3], args := #[] }]⟩ w') h hR2 hargs2
 refine use2 key ?back ?thrown ?main
 case main =>
  rintro ⟨hent, hcall⟩
  refine wpOps_enter ho (w' := w2) (f := gf) (args := ca.toArray) ?_ hcall
  simp [execOp, GX.op, resolve, Act.eval, <- hu, Deferred.ofValue, invoke, hent]
 case back =>
  intro v s' O' Z' S' u' w' hk hR' hv hev htm ⟨pre, hst⟩ hnt
  dsimp only at hk
  split at hk
  case h_2 => cases hk
  rename_i lc hlc
  obtain ⟨us, hus, hul⟩ := hv.cells hlc
  obtain ⟨w3, w4, u1, vv, sf, e1, e2, e3, e4, e5, e6, e7, e8, e9, e10, e11, e12, ⟨pre2, e13⟩⟩ := got_end hk (hR.back hR' (ev12.trans hev)) hul
  have f1 : O' s.n = O2 s.n := hev.hO _ (by show s.n < s.n + 1 + 1; omega)
  have f2 : O' (s.n + 1) = O2 (s.n + 1) := hev.hO _ (by show s.n + 1 < s.n + 1 + 1; omega)
  rw [f1] at e1 e3
  rw [f2] at e2 e4
  show wpOps P o2 _ _ ⟨#[u, undef, p2, p3, .func (.func i.d) #[] #[p2, p3], u, u'], [{ target := .fn (.func i.d) #[p2, p3], args := #[] }]⟩ _
  obtain ⟨_, _, _, _, ho⟩ := q2 2 _ rfl
  rw [hb1] at e1
  refine wpOps_skip ho (w' := w3) (by simp [execOp, GX.op, Act.eval, <- hp2, Instr.storeAt, Instr.sureAddr, storeVar, szOf_run e5, hus, e1]) ?_
  show wpOps P o2 _ _ ⟨#[u, undef, p2, p3, .func (.func i.d) #[] #[p2, p3], u, u'], [{ target := .fn (.func i.d) #[p2, p3], args := #[] }]⟩ _
  obtain ⟨_, _, _, _, ho⟩ := q2 3 _ rfl
  rw [hb2] at e2
  refine wpOps_skip ho (w' := w4) (by simp [execOp, GX.op, Act.eval, <- hp3, Instr.storeAt, Instr.sureAddr, storeVar, szOf_run e6, Value.cells, e2]) ?_
  refine wp_ret ?_
  show Leaves P fn #[u, undef, p2, p3, .func (.func i.d) #[] #[p2, p3], u, u'] (BackOr N X) [{ target := .fn (.func i.d) #[p2, p3], args := #[] }] .returning w4
  refine leaves_cons (by simp) (hlate w4) (late_back g hze ?_)
  refine ⟨_, hres _ _ _ _ e3 e4, .inl ⟨_, rfl, ?_⟩⟩
  exact hN _ sf O' Z' S' _ _ e7 e8 e9 (by rw [e10]; exact ev12.trans hev) e11 ⟨pre2 ++ (pre ++ [(s.n + 1, .cells [.val (.int .i64 0)] i.E), (s.n, .cells lz i.T)]), by rw [e13, hst]; simp [newBlk]⟩ e12
 case thrown =>
  intro v t O' Z' S' a' w' ht hR' hev ⟨pre, hst⟩
  dsimp only at ht
  split at ht
  case h_2 => cases ht
  rename_i e n
  split at ht
  case h_2 => cases ht
  rename_i he
  obtain rfl := Nat.eq_of_beq_eq_true he
  have hRb := hR.back hR' (ev12.trans hev)
  obtain ⟨zs', hzs', hza'⟩ := (ofVal_rel (O := O') (Z := Z') (S := S') (s := t) z).cells hlz
  obtain rfl : zs' = zs := by rw [hzs] at hzs'; exact (List.toArray_inj hzs').symm
  obtain ⟨O3, hR3, hO3, ev3⟩ := hRb.new hza' i.T
  obtain ⟨w3, hw3⟩ : ∃ w3, w'.alloc (.cells zs'.toArray i.T) = w3 := ⟨_, rfl⟩
  rw [hw3] at hR3
  have hnew3 : (newVar i.T z).run P w' = .ok ⟨w'.heap.size, 0, none⟩ w3 := by
   rw [<- hw3]; simp [newVar, Go.newRow, hzs]
  have kb : look ((t.n, Blk.cells lz i.T) :: t.st) t.n = some (.cells lz i.T) := look_cons_eq _ _ _
  obtain ⟨x1, g1, g2, g3⟩ := ptr_cells (off := 0) hR3 kb
  obtain ⟨u0, h1, h2⟩ := loadVar_rel (P := P) (w := w3) hv0 g2 (by simpa using g3)
  rw [show O3 t.n = w'.heap.size from hO3] at h1
  obtain ⟨us, hus, hul⟩ := h2.cells hl0
  obtain ⟨w4, w5, u1, vv, sf, e1, e2, e3, e4, e5, e6, e7, e8, e9, e10, e11, e12, ⟨pre2, e13⟩⟩ := got_end (t := newBlk t lz i.T) ht hR3 hul
  have f1 : O3 s.n = O2 s.n := (ev3.hO _ (by have := hev.hn; have : s.n + 1 + 1 <= t.n := this; show s.n < t.n; omega)).trans (hev.hO _ (by show s.n < s.n + 1 + 1; omega))
  have f2 : O3 (s.n + 1) = O2 (s.n + 1) := (ev3.hO _ (by have := hev.hn; have : s.n + 1 + 1 <= t.n := this; show s.n + 1 < t.n; omega)).trans (hev.hO _ (by show s.n + 1 < s.n + 1 + 1; omega))
  rw [f1] at e1 e3
  rw [f2] at e2 e4
  show Leaves P fn #[u, undef, p2, p3, .func (.func i.d) #[] #[p2, p3], u, undef] (BackOr N X) [{ target := .fn (.func i.d) #[p2, p3], args := #[] }] (.panicking [{ v := .iface i.E (.int .i64 n), recovered := false }]) w'
  refine leaves_cons (by simp) (hlate w') ?_
  rw [hb1] at e1
  rw [hb2] at e2
  rw [<- hp2, <- hp3]
  refine late_thrown g hz hzs hnew3 h1 hus e5 e6 e1 e2 ?_
  rw [hp2, hp3]
  show Leaves P fn _ (BackOr N X) [] .returning w5
  refine ⟨_, hres _ _ _ _ e3 e4, .inl ⟨_, rfl, ?_⟩⟩
  exact hN _ sf O3 Z' S' _ _ e7 e8 e9 (by rw [e10]; exact (ev12.trans hev).trans ev3) e11 ⟨pre2 ++ ([(t.n, .cells lz i.T)] ++ (pre ++ [(s.n + 1, .cells [.val (.int .i64 0)] i.E), (s.n, .cells lz i.T)])), by rw [e13]; simp [newBlk, hst]⟩ e12
end
end
section
section
variable {P : Program} {base : Nat} {w0 : World} {S0 : Mem} {O : Nat -> Nat} {Z : Nat -> Value} {S : Mem} {s : St} {a : Act} {w : World} {α : Type} {K : AV -> St -> Option α} {r : α}
theorem frzAll_sound : ∀ (l : List AV) {S : Mem} {s : St}, Rl base w0 S0 O Z S s a w -> Stays base w0 S0 O Z S s a w (frzAll s l)
 | [], _, _, hR => Stays.refl hR
 | v :: l, _, s, hR => (frz_sound hR v).trans fun _ hR' => frzAll_sound l hR'
theorem derefs_rel (hR : Rl base w0 S0 O Z S s a w) : ∀ {args : List AV} {vs : List Value}, All2 (ARel O Z S s.n) args vs -> All2 (ARel O Z S s.n) (args.map s.deref) vs
 | [], [], _ => trivial
 | _ :: _, [], h => h.elim
 | [], _ :: _, h => h.elim
 | v :: args, u :: vs, h => ⟨hR.deref h.1, derefs_rel hR h.2⟩
theorem scalar_rep {t : Ty} (h : scalarT t = true) {S S' : Mem} {x : t.den} {u : Value} (k : Rep1 S' t x u) : Rep1 S t x u := by
 cases t <;> first | exact k | cases h
theorem scalar_args : ∀ {ts : List Ty} {y : (ts.foldr Ty.cons .nil).den} {us : List Value}, ts.all scalarT = true -> ∀ {S S' : Mem}, ArgsRep S' ts y us -> ArgsRep S ts y us
 | [], _, [], _, _, _, _ => trivial
 | [], _, _ :: _, _, _, _, h => h.elim
 | _ :: _, _, [], _, _, _, h => h.elim
 | t :: ts, y, u :: us, hs, _, _, h => by
   rw [List.all_cons, Bool.and_eq_true] at hs
   exact ⟨scalar_rep hs.1 h.1, scalar_args hs.2 h.2⟩
theorem scalar_res : ∀ {ts : List Ty} {y : (ts.foldr Ty.cons .nil).den} {u : Value}, ts.all scalarT = true -> ∀ {S S' : Mem}, ResRep S' ts y u -> ResRep S ts y u
 | [], _, _, hs, _, _, ⟨us, e, h⟩ => ⟨us, e, scalar_args hs h⟩
 | [t], _, _, hs, _, _, h => by
   rw [List.all_cons, Bool.and_eq_true] at hs
   exact scalar_rep hs.1 h
 | t :: t' :: ts, _, _, hs, _, _, ⟨us, e, h⟩ => ⟨us, e, scalar_args (ts := t :: t' :: ts) hs h⟩
theorem Rl.calledS (h : Rl base w0 S0 O Z S s a w) {w' : World} (hb : Below w.heap.size w w') : Rl base w0 S0 O Z S s a w' :=
 (h.called (Mem.le_refl S) (fun p v e => (hb.cell (World.block_lt_of_cell? w _ (h.sw p v e))).trans (h.sw p v e)) (fun p v e e0 => by rw [e] at e0; cases e0) hb).1
theorem lend_sound {f : FuncId} {g : Sig} (hok : FnOk P f g) {args : List AV} {vs : List Value} {N X : Value -> World -> Prop} (h : evLend g args s K = some r) (hR : Rl base w0 S0 O Z S s a w) (hargs : All2 (ARel O Z S s.n) args vs) (hN : Next1 base w0 S0 K r O Z S s a N) :
 (∀ args w, (callFunc f args).run P w = .ok (.enter f args) w) /\ Calls P f vs.toArray w (BackOr N X) := by
 refine ⟨hok.enters, ?_⟩
 unfold evLend at h
 split at h
 . rename_i hs
   split at h
   . rename_i x hx
     obtain ⟨y, hy, h⟩ := Option.bind_eq_some_iff.1 h
     obtain ⟨S1, hR1, ev1, _, _, _, hn1⟩ := frzAll_sound args hR
     have ha1 : All2 (ARel O Z S1 (frzAll s args).n) args vs := hargs.mono fun v u k => k.evo ev1
     refine (hok.calls x y hy S1 w vs trivial hR1.sw (argsOf_rel hx (derefs_rel hR1 ha1))).mono ?_
     rintro e w' ⟨u, S', rfl, h1, h2, h3, h4, h5⟩
     exact .inl ⟨u, rfl, hN _ s O Z S u w' h (hR.calledS h5) (resOf_rel _ (scalar_res hs h4)) (Evo.refl _ _ _ _) rfl ⟨[], rfl⟩ rfl⟩
   . cases h
 . cases h
def ComesO (S : Mem) (e : TypeId) (ts : List Ty) (y : (ts.foldr Ty.cons .nil).den) (w : World) (en : Ending) (w' : World) : Prop :=
 ∃ t l v, ownRes ts y = some ⟨t, l⟩ /\ en = .returned v /\ Below w.heap.size w w' /\ v.oneCell' = true /\ MRel S w.heap.size w' v e t l
structure FnOkS (P : Program) (f v c : FuncId) (e : TypeId) (g : Sig) : Prop where
 enters : ∀ args w, (callFunc f args).run P w = .ok (.enter f args) w
 calls : ∀ x y, g.den x = some y -> ∀ (S : Mem) (w : World) (B : Nat) (u : Value), (∀ p v, S p = some v -> w.cell? p = some v) -> w.cell? ⟨B, 0, none⟩ = some u -> ArgsRep S g.args x [u] -> Calls P f #[.func (.func v) #[] #[.pointer (some ⟨B, 0, none⟩)], .func (.func c) #[] #[]] w (ComesO S e g.res y w)
theorem seqs_sound {f v c : FuncId} {e : TypeId} {g : Sig} (hok : FnOkS P f v c e g) {args : List AV} {vs : List Value} {N X : Value -> World -> Prop} (h : evSeqs v c e g args s K = some r) (hR : Rl base w0 S0 O Z S s a w) (hargs : All2 (ARel O Z S s.n) args vs) (hN : Next1 base w0 S0 K r O Z S s a N) :
 (∀ args w, (callFunc f args).run P w = .ok (.enter f args) w) /\ Calls P f vs.toArray w (BackOr N X) := by
 refine ⟨hok.enters, ?_⟩
 unfold evSeqs at h
 split at h
 . split at h
   . rename_i v' b o c' _ _ _ _ x te hv hc ho hb
     have hv := Nat.eq_of_beq_eq_true hv; have hc := Nat.eq_of_beq_eq_true hc; have ho := Nat.eq_of_beq_eq_true ho
     subst hv hc ho
     obtain ⟨_, u, hu, hcell, hxu⟩ : ∃ _ : True, ∃ u : Value, vs = [.func (.func v') #[] #[.pointer (some ⟨O b, 0, none⟩)], .func (.func c') #[] #[]] /\ w.cell? ⟨O b, 0, none⟩ = some u /\ CRel O Z S s.n x u := by
      obtain ⟨_, hbk, us, hbw, hus, _⟩ := hR.st b _ hb
      rcases vs with _ | ⟨u1, _ | ⟨u2, _ | ⟨u3, vs⟩⟩⟩ <;> simp only [All2] at hargs <;> try exact hargs.elim
      . exact hargs.2.elim
      . rcases us with _ | ⟨u0, _ | ⟨_, _⟩⟩ <;> simp only [All2] at hus
        . refine ⟨trivial, u0, ?_, ?_, hus.1⟩
          . have h1 := hargs.1.2; have h2 := hargs.2.1.2
            rw [h1, h2]; rfl
          . simp [World.cell?, hbw]
        . exact hus.2.elim
      . exact hargs.2.2.elim
     subst hu
     unfold evOwn at h
     split at h
     . rename_i y0 hx
       obtain ⟨y, hy, h⟩ := Option.bind_eq_some_iff.1 h
       split at h
       . rename_i t l hq
         have hargs : All2 (ARel O Z S s.n) [.one x] [u] := ⟨ARel.of_one hxu, trivial⟩
         generalize hargsE : [AV.one x] = args at h hx hargs
         obtain ⟨S1, hR1, ev1, htm1, ⟨pre, hst1⟩, hnt1, hn1⟩ := frzAll_sound args hR
         have ha1 : All2 (ARel O Z S1 (frzAll s args).n) args [u] := hargs.mono fun v u k => k.evo ev1
         refine (hok.calls y0 y hy S1 w (O b) u hR1.sw hcell (argsOf_rel hx (derefs_rel hR1 ha1))).mono ?_
         rintro en w' ⟨t', l', v, hq', rfl, h4, o4, hm⟩
         rw [hq] at hq'
         cases Option.some.inj hq'
         have hR2 := hR1.calledS h4
         have hm' : MRel S1 base w' v e t l := by
          rcases hm with hm | ⟨g', cap, cur, xs, e1, e2, e3⟩
          . exact .inl hm
          . exact .inr ⟨g', cap, cur, xs, e1, Nat.le_trans hR.bsz e2, e3⟩
         obtain ⟨Z', hR3, hc, ev3⟩ := hR2.addM o4 hm' (fun g' f b k e1 f2 => by
          have h6 := ((hR1.st b k e1).2.lt f2).1
          rcases hm with ⟨rfl, _⟩ | ⟨g'', cap, cur, xs, rfl, e2, e3⟩
          . simp [Value.ownBlock] at f
          . simp [Value.ownBlock] at f
            omega)
         exact .inl ⟨_, rfl, hN _ _ O Z' S1 v w' h hR3 hc (ev1.trans ev3) htm1 ⟨(_, _) :: pre, by show (_ :: (frzAll s args).st) = _; rw [hst1]; rfl⟩ hnt1⟩
       . cases h
     . cases h
   . cases h
 . cases h
def SpecOk (P : Program) (f : FuncId) : Special -> Prop
 | .lend g => FnOk P f g
 | .seqs v c e g => FnOkS P f v c e g
def POk (P : Program) (Φ : FuncId -> Option Special) : Prop := ∀ f x, Φ f = some x -> SpecOk P f x
theorem POk.nil : POk P (look []) := fun f g h => by simp [look] at h
end
end
section
def toExit : AExit -> Exit
 | .normal => .normal | .exit id => .exit id | .ret => .ret
section
variable {P : Program} {base : Nat} {w0 : World} {S0 : Mem} {O : Nat -> Nat} {Z Z' : Nat -> Value} {S : Mem} {s : St} {a : Act} {w : World}
variable {α : Type} {r : α}
def Good (base : Nat) (w0 : World) (S0 : Mem) (K : AExit -> St -> Nat -> Option α) (r : α) (O : Nat -> Nat) (Z : Nat -> Value) (S : Mem) (s : St) (Q : Exit -> Act -> World -> Prop) : Prop :=
 ∀ e k, NextS base w0 S0 (fun s' => K e s' k) r O Z S s (Q (toExit e))
theorem Good.trans {K K' : AExit -> St -> Nat -> Option α} {s' : St} {O' : Nat -> Nat} {Z' : Nat -> Value} {S' : Mem} {Q : Exit -> Act -> World -> Prop} (hN : Good base w0 S0 K r O Z S s Q) (hK : ∀ e k t, K' e t k = some r -> ∃ k', K e t k' = some r) (ev : Evo O Z S s.n O' Z' S' s'.n)
 (h1 : ∃ pre, s'.tm = pre ++ s.tm) (h2 : ∃ pre, s'.st = pre ++ s.st) (h3 : s'.nt = s.nt) : Good base w0 S0 K' r O' Z' S' s' Q := by
 intro e k t O2 Z2 S2 a2 w2 hk hR he e1 e2 e3
 obtain ⟨k', hk'⟩ := hK e k t hk
 exact (hN e k').trans (K' := fun s' => K e s' k') (fun t ht => ht) ev h1 h2 h3 t O2 Z2 S2 a2 w2 hk' hR he e1 e2 e3
theorem loop_sound {h : Hint} {body : Nat -> St -> (AExit -> St -> Nat -> Option (AExit × h.ty.den)) -> Option (AExit × h.ty.den)} {c : Code} {Q : Exit -> Act -> World -> Prop} {s0 s1 : St} {k0 : Nat} {x0 x1 : h.ty.den} {e1 : AExit} {K : AExit -> St -> Nat -> Option α} {k1 : Nat}
 (hbody : ∀ k s O Z S a w K r Q, body k s K = some r -> Rl base w0 S0 O Z S s a w -> Good base w0 S0 K r O Z S s Q -> c.wp P Q a w)
 (hR0 : Rl base w0 S0 O Z S s0 a w) (hG : Good base w0 S0 K r O Z S s0 Q) (hw : h.within s0 s0 = true) (hx : projL s0 h.places = some x0) (he : evLoop h body s0 k0 x0 = some (e1, x1)) (hh1 : h.headX s0 x1 = some s1) (hne : e1 ≠ .normal) (hK : K e1 s1 k1 = some r) : (Code.loop c).wp P Q a w := by
 refine wp_loop_ghost (fun k a' w' => ∃ x s' O' Z' S', evLoop h body s0 k x = some (e1, x1) /\ Rl base w0 S0 O' Z' S' s' a' w' /\ Evo O Z S s0.n O' Z' S' s'.n /\ (∃ pre, s'.tm = pre ++ s0.tm) /\ (∃ pre, s'.st = pre ++ s0.st) /\ s'.nt = s0.nt /\ h.within s0 s' = true /\ projL s' h.places = some x) k0
  ⟨x0, s0, O, Z, S, he, hR0, Evo.refl _ _ _ _, ⟨[], rfl⟩, ⟨[], rfl⟩, rfl, hw, hx⟩ ?_
 rintro k a' w' ⟨x, s', O', Z', S', he, hR, hev, htm, hst, hnt, hw, hx⟩
 cases k with
 | zero => cases he
 | succ k =>
   simp only [evLoop, rec1_succ, evRound] at he
   split at he
   . rename_i s'' hh
     obtain ⟨Z2, hR2, hZ2, hn2, ⟨p1, g1⟩, ⟨p2, g2⟩, g3⟩ := rebase hR0 hR htm hst hnt hev.hn hw hx hh
     have hev2 : Evo O Z S s0.n O' Z2 S' s''.n := ⟨hn2, hev.hO, fun b hb => (hZ2 b hb).trans (hev.hZ b hb), hev.hS⟩
     refine hbody k s'' O' Z2 S' a' w' _ _ _ he hR2 ?_
     intro e k' t O3 Z3 S3 a3 w3 hk hR3 hev3 ⟨p3, g4⟩ ⟨p4, g5⟩ g6
     have c1 : ∃ pre, t.tm = pre ++ s0.tm := ⟨p3 ++ p1, by rw [g4, g1, List.append_assoc]⟩
     have c2 : ∃ pre, t.st = pre ++ s0.st := ⟨p4 ++ p2, by rw [g5, g2, List.append_assoc]⟩
     simp only at hk
     have outK : ∀ e, e = e1 -> h.keep = true -> (match h.within s0 t with
      | true => match projL t h.places with
        | some x' => some (e, x')
        | none => none
      | false => none) = some (e1, x1) -> Q (toExit e) a3 w3 := by
      rintro e rfl hkp hk
      split at hk
      . rename_i hw'
        split at hk
        . rename_i x' hx'
          injection hk with hk; injection hk with q1 q2
          subst q2
          have hh := hh1
          simp only [Hint.headX, hkp] at hh
          have hev5 := hev2.trans hev3
          obtain ⟨Z4, hR5, hZ4, hn5, d1, d2, d3⟩ := rebase hR0 hR3 c1 c2 (g6.trans g3) hev5.hn hw' hx' hh
          exact hG e k1 s1 O3 Z4 S3 a3 w3 hK hR5 ⟨hn5, hev5.hO, fun b hb => (hZ4 b hb).trans (hev5.hZ b hb), hev5.hS⟩ d1 d2 d3
        . cases hk
      . cases hk
     have out : ∀ e, e = e1 -> h.keep = false -> (match frzPl t h.out.places with
      | s' => match h.out.within s0 s' with
        | true => match projOL s' h.places with
          | some x' => some (e, x')
          | none => none
        | false => none) = some (e1, x1) -> Q (toExit e) a3 w3 := by
      rintro e rfl hkp hk
      have hh1 : h.headO s0 x1 = some s1 := by simpa only [Hint.headX, hkp] using hh1
      obtain ⟨S4, hR4, hev4, htm4, ⟨p5, hst4⟩, hnt4, hn4⟩ := frzPl_sound h.out.places hR3
      dsimp only at hk
      split at hk
      . rename_i hw'
        split at hk
        . rename_i x' hx'
          injection hk with hk; injection hk with q1 q2
          subst q2
          obtain ⟨x2, hx2, htell⟩ := projO_out _ h.places x' hx'
          have hh2 : h.out.head s0 x2 = some s1 := (htell s0 (h.out.mask0 s0)).trans hh1
          obtain ⟨p3', c1'⟩ := c1
          obtain ⟨p4', c2'⟩ := c2
          obtain ⟨Z4, hR5, hZ4, hn5, d1, d2, d3⟩ := rebase hR0 hR4 ⟨p3', by rw [htm4, c1']⟩ ⟨p5 ++ p4', by rw [hst4, c2', List.append_assoc]⟩ (hnt4.trans (g6.trans g3)) ((hev2.trans hev3).trans hev4).hn hw' hx2 hh2
          have hev5 := (hev2.trans hev3).trans hev4
          exact hG e k1 s1 O3 Z4 S4 a3 w3 hK hR5 ⟨hn5, hev5.hO, fun b hb => (hZ4 b hb).trans (hev5.hZ b hb), hev5.hS⟩ d1 d2 d3
        . cases hk
      . cases hk
     cases e with
     | normal =>
       simp only at hk
       split at hk
       . rename_i hw'
         split at hk
         . rename_i x' hx'
           exact ⟨k, Nat.lt_succ_self k, x', t, O3, Z3, S3, hk, hR3, hev2.trans hev3, c1, c2, g6.trans g3, hw', hx'⟩
         . cases hk
       . cases hk
     | exit id =>
       simp only at hk
       cases hkp : h.keep with
       | true =>
         rw [hkp] at hk
         exact outK (.exit id) (by
          simp only at hk
          split at hk
          . split at hk
            . injection hk with hk; injection hk
            . cases hk
          . cases hk) hkp hk
       | false =>
         rw [hkp] at hk
         exact out (.exit id) (by
          simp only at hk
          split at hk
          . split at hk
            . injection hk with hk; injection hk
            . cases hk
          . cases hk) hkp hk
     | ret =>
       simp only at hk
       cases hkp : h.keep with
       | true =>
         rw [hkp] at hk
         exact outK .ret (by
          simp only at hk
          split at hk
          . split at hk
            . injection hk with hk; injection hk
            . cases hk
          . cases hk) hkp hk
       | false =>
         rw [hkp] at hk
         exact out .ret (by
          simp only at hk
          split at hk
          . split at hk
            . injection hk with hk; injection hk
            . cases hk
          . cases hk) hkp hk
   . cases he
theorem rep_sound {T : Value -> St -> Option α} {X : Value -> World -> Prop} {body : St -> (AExit -> St -> Nat -> Option α) -> Option α} {c : Code} {K : AExit -> St -> Nat -> Option α} {Q : Exit -> Act -> World -> Prop}
 (hX : ∀ v a w', a.defers = [] -> X v w' -> Q (.panic [{ v := v, recovered := false }]) a w')
 (hbody : ∀ s O Z S a w K Q, body s K = some r -> Rl base w0 S0 O Z S s a w -> Good base w0 S0 K r O Z S s Q -> NextT base w0 S0 T r O Z S s X -> (∀ v a w', a.defers = [] -> X v w' -> Q (.panic [{ v := v, recovered := false }]) a w') -> c.wp P Q a w) :
 ∀ (m : Nat) (s : St) (O : Nat -> Nat) (Z : Nat -> Value) (S : Mem) (a : Act) (w : World), evRep body K m s = some r -> Rl base w0 S0 O Z S s a w -> Good base w0 S0 K r O Z S s Q -> NextT base w0 S0 T r O Z S s X -> Code.rounds P c Q m a w
 | 0, s, O, Z, S, a, w, h, _, _, _ => by simp [evRep] at h
 | m + 1, s, O, Z, S, a, w, h, hR, hG, hT => by
   simp only [evRep] at h
   refine hbody s O Z S a w _ _ h hR ?_ hT (fun v a w' hd hx => hX v a w' hd hx)
   intro e k' t O2 Z2 S2 a2 w2 hk hR2 hev c1 c2 c3
   cases e with
   | normal => exact rep_sound hX hbody m t O2 Z2 S2 a2 w2 hk hR2 (hG.trans (fun e k t ht => ⟨k, ht⟩) hev c1 c2 c3) (hT.trans hev c2)
   | exit id => exact hG (.exit id) k' t O2 Z2 S2 a2 w2 hk hR2 hev c1 c2 c3
   | ret => exact hG .ret k' t O2 Z2 S2 a2 w2 hk hR2 hev c1 c2 c3
theorem throws_sound {T : Value -> St -> Option α} {X : Value -> World -> Prop} {id : Nat} {ops : Array Oper} {draw : Bool} {v : Value} {Q : Exit -> Act -> World -> Prop} (hv : throws P draw s.nt ops = some v) (h : T v s = some r) (hR : Rl base w0 S0 O Z S s a w) (hT : NextT base w0 S0 T r O Z S s X) (hX : ∀ v a w', a.defers = [] -> X v w' -> Q (.panic [{ v := v, recovered := false }]) a w') : (Code.region id ops draw).wp P Q a w := by
 unfold throws at hv
 cases draw with
 | true => cases hv
 | false =>
   simp only at hv
   unfold throwsOf at hv
   split at hv
   . rename_i o1 o2 ho
     split at hv
     . rename_i t u d d' h1 h2 h3 h4 h5
       split at hv
       . cases hv
       . rename_i k hni hd hlt hk
         obtain rfl := Option.some.inj hv
         obtain rfl := Nat.eq_of_beq_eq_true hd
         have hops : ops = #[o1, o2] := Array.ext' ho
         subst hops
         have hx : X (.iface t u) w := hT _ _ O Z S a w h hR (Evo.refl _ _ _ _) ⟨[], rfl⟩
         obtain ⟨dst1, op1, ty1, pos1, after1, guard1⟩ := o1
         obtain ⟨dst2, op2, ty2, pos2, after2, guard2⟩ := o2
         simp only at h1 h2 h3 h4 h5
         subst h1 h2 h3 h4 h5
         refine wp_region ?_
         have r1 : (execOp a.eval ⟨some d, .makeInterface t (.const u), ty1, pos1, after1, none⟩).run P w = .ok (.value (.iface t u)) w := by
          simp [execOp, Act.eval, Instr.makeInterface, run_underlying hk]
         have ht : d < a.tmps.size := by rw [hR.size]; exact Nat.le_of_ble_eq_true hlt
         have r2 : (execOp (a.put (some d) (.iface t u)).eval ⟨dst2, .panic (.tmp d), ty2, pos2, after2, none⟩).run P w = .halt (.panic (.iface t u)) w := by
          simp [execOp, Act.eval, Act.put, ht]
          rfl
         have s2 : Oper.wp P ⟨dst2, .panic (.tmp d), ty2, pos2, after2, none⟩ (a.put (some d) (.iface t u)) w (wpOps P #[⟨some d, .makeInterface t (.const u), ty1, pos1, after1, none⟩, ⟨dst2, .panic (.tmp d), ty2, pos2, after2, none⟩] Q []) Q := by
          unfold Oper.wp
          rw [r2, Oper.upon_panic]
          exact hX _ _ _ hR.defers hx
         have s1 : Oper.wp P ⟨some d, .makeInterface t (.const u), ty1, pos1, after1, none⟩ a w (wpOps P #[⟨some d, .makeInterface t (.const u), ty1, pos1, after1, none⟩, ⟨dst2, .panic (.tmp d), ty2, pos2, after2, none⟩] Q [1]) Q := by
          unfold Oper.wp
          rw [r1, Oper.upon_value]
          unfold wpOps
          show (if _ then _ \/ _ else _)
          rw [if_pos (wanted_none (ops := #[⟨some d, .makeInterface t (.const u), ty1, pos1, after1, none⟩, ⟨dst2, .panic (.tmp d), ty2, pos2, after2, none⟩]) rfl)]
          exact .inl s2
         show wpOps P _ Q [0, 1] a w
         unfold wpOps
         show (if _ then _ \/ _ else _)
         rw [if_pos (wanted_none (ops := #[⟨some d, .makeInterface t (.const u), ty1, pos1, after1, none⟩, ⟨dst2, .panic (.tmp d), ty2, pos2, after2, none⟩]) rfl)]
         exact .inl s1
       . cases hv
     . cases hv
   . cases hv
theorem endB_exit {e : AExit} {b : Bool} (h : endB e = some b) : e = exitB b := by
 cases e with
 | normal => injection h with h; subst h; rfl
 | ret => injection h with h; subst h; rfl
 | exit i => cases h
theorem join_goodN {h : Hint} {K : AExit -> St -> Nat -> Option α} {e1 : AExit} {x1 : h.ty.den} {s1 : St} {k1 : Nat} {Q : Exit -> Act -> World -> Prop}
 (hR0 : Rl base w0 S0 O Z S s a w) (hG : Good base w0 S0 K r O Z S s Q) (hh : h.head s x1 = some s1) (hK : K e1 s1 k1 = some r) : NextS base w0 S0 (fun s' => joinN h s s') x1 O Z S s (Q (toExit e1)) := by
 intro t O3 Z3 S3 a3 w3 hk hR3 hev3 c1 c2 c3
 simp only [joinN] at hk
 split at hk
 . rename_i hw'
   obtain ⟨Z4, hR5, hZ4, hn5, d1, d2, d3⟩ := rebase hR0 hR3 c1 c2 c3 hev3.hn hw' hk hh
   exact hG e1 k1 s1 O3 Z4 S3 a3 w3 hK hR5 ⟨hn5, hev3.hO, fun b hb => (hZ4 b hb).trans (hev3.hZ b hb), hev3.hS⟩ d1 d2 d3
 . cases hk
theorem join_good {h : Hint} {K : AExit -> St -> Nat -> Option α} {b1 : Bool} {x1 : h.ty.den} {s1 : St} {k1 : Nat} {Q : Exit -> Act -> World -> Prop}
 (hR0 : Rl base w0 S0 O Z S s a w) (hG : Good base w0 S0 K r O Z S s Q) (hh : h.head s x1 = some s1) (hK : K (exitB b1) s1 k1 = some r) : Good base w0 S0 (joinK h s) (b1, x1) O Z S s Q := by
 intro e k t O3 Z3 S3 a3 w3 hk hR3 hev3 c1 c2 c3
 simp only [joinK] at hk
 split at hk
 . rename_i b hb
   split at hk
   . rename_i x' hx'
     injection hk with hk; injection hk with q1 q2
     subst q1; subst q2
     rw [endB_exit hb]
     exact join_goodN hR0 hG hh hK t O3 Z3 S3 a3 w3 hx' hR3 hev3 c1 c2 c3
   . cases hk
 . cases hk
theorem reg_sound {T : Value -> St -> Option α} {X : Value -> World -> Prop} {Γ : FuncId -> Option Sig} {inlT inl : FuncId -> List AV -> St -> (AV -> St -> Option α) -> Option α} (hΓ : GOW P base w0 Γ) (hinlT : InlOk P base w0 S0 T inlT) (hinl : InlOk P base w0 S0 noT inl) (hm : P.follows .mixedOrders = true) {id : Nat} {ops : Array Oper} {draw : Bool} {K : St -> Option α} {Q : Exit -> Act -> World -> Prop}
 (h : evReg P Γ inlT inl draw ops s K = some r) (hR : Rl base w0 S0 O Z S s a w) (hN : NextS base w0 S0 K r O Z S s (Q .normal)) (hT : NextT base w0 S0 T r O Z S s X) (hX : ∀ v a w', a.defers = [] -> X v w' -> Q (.panic [{ v := v, recovered := false }]) a w') : (Code.region id ops draw).wp P Q a w := by
 unfold evReg at h
 split at h
 . rename_i hd
   cases draw with
   | false =>
     refine wp_region ?_
     have := ops_sound (T := T) (X := X) FzOk.op hΓ hinlT hX ops.toList 0 s O Z S a w K (by simp) h hR hN hT
     rw [List.range_eq_range']
     simpa using this
   | true =>
     simp only [Bool.not_true, Bool.false_or, Bool.and_eq_true] at hd
     exact draw_sound hΓ hm hd.1 h hR hN
 . rename_i hd
   split at h
   . rename_i hsel
     cases draw with
     | false => simp at hd
     | true =>
       split at h
       . rename_i hpre; exact pre_sound hΓ hinl hm hsel hpre h hR hN
       . exact draw2_sound hΓ hinl hm hsel h hR hN
   . cases h
theorem ev_sound {Γ : Nat -> FuncId -> Option Sig} {H : Nat -> Option Hint} {inl : Inl} (hΓ : ∀ k, GOW P base w0 (Γ k)) (hinl : ∀ β k T, InlOk P base w0 S0 T (inl β k T)) (hm : P.follows .mixedOrders = true) :
 ∀ (c : Code) (α : Type) (r : α) (k : Nat) (T : Value -> St -> Option α) (X : Value -> World -> Prop) (s : St) (O : Nat -> Nat) (Z : Nat -> Value) (S : Mem) (a : Act) (w : World) (K : AExit -> St -> Nat -> Option α) (Q : Exit -> Act -> World -> Prop), ev P Γ H inl c α k T s K = some r -> Rl base w0 S0 O Z S s a w -> Good base w0 S0 K r O Z S s Q -> NextT base w0 S0 T r O Z S s X -> (∀ v a w', a.defers = [] -> X v w' -> Q (.panic [{ v := v, recovered := false }]) a w') -> c.wp P Q a w
 | .skip, α, r, k, T, X, s, O, Z, S, a, w, K, Q, h, hR, hG, hT, hX => by
   simp only [ev] at h
   exact wp_skip (hG .normal k s O Z S a w h hR (Evo.refl _ _ _ _) ⟨[], rfl⟩ ⟨[], rfl⟩ rfl)
 | .region id ops draw, α, r, k, T, X, s, O, Z, S, a, w, K, Q, h, hR, hG, hT, hX => by
   simp only [ev] at h
   split at h
   . rename_i v hv
     exact throws_sound hv h hR hT hX
   split at h
   . rename_i hh hj
     obtain ⟨x1, he, h⟩ := Option.bind_eq_some_iff.1 h
     split at h
     . rename_i s1 hs1
       exact reg_sound (T := noT) (X := X) (hΓ k) (hinl _ k noT) (hinl _ k noT) hm he hR (join_goodN hR hG hs1 h) (fun v t O' Z' S' a' w' h => by cases h) hX
     . cases h
   . exact reg_sound (hΓ k) (hinl α k T) (hinl α k noT) hm h hR (hG .normal k) hT hX
 | .seq x y, α, r, k, T, X, s, O, Z, S, a, w, K, Q, h, hR, hG, hT, hX => by
   simp only [ev] at h
   refine wp_seq (ev_sound hΓ hinl hm x α r k T X s O Z S a w _ _ h hR ?_ hT (fun v a w' hd hx => hX v a w' hd hx))
   intro e k' t O2 Z2 S2 a2 w2 hk hR2 hev c1 c2 c3
   cases e with
   | normal => exact ev_sound hΓ hinl hm y α r k' T X t O2 Z2 S2 a2 w2 K Q hk hR2 (hG.trans (fun e k t ht => ⟨k, ht⟩) hev c1 c2 c3) (hT.trans hev c2) hX
   | exit id => exact hG (.exit id) k' t O2 Z2 S2 a2 w2 hk hR2 hev c1 c2 c3
   | ret => exact hG .ret k' t O2 Z2 S2 a2 w2 hk hR2 hev c1 c2 c3
 | .cond c x y, α, r, k, T, X, s, O, Z, S, a, w, K, Q, h, hR, hG, hT, hX => by
   simp only [ev] at h
   split at h
   . rename_i b hb
     have hc := hR.valEq hb
     split at h
     . rcases cond_some h with ⟨rfl, h⟩ | ⟨rfl, h⟩
       . exact wp_cond_true hc (ev_sound hΓ hinl hm x α r k T X s O Z S a w K Q h hR hG hT hX)
       . exact wp_cond_false hc (ev_sound hΓ hinl hm y α r k T X s O Z S a w K Q h hR hG hT hX)
     . rename_i hh _
       obtain ⟨⟨b1, x1⟩, he, h⟩ := Option.bind_eq_some_iff.1 h
       simp only at h
       split at h
       . rename_i s1 hs1
         have hK : K (exitB b1) s1 k = some r := by cases b1 <;> exact h
         have hG' : Good base w0 S0 (joinK hh s) (b1, x1) O Z S s Q := join_good hR hG hs1 hK
         have hT0 : NextT base w0 S0 noT (b1, x1) O Z S s X := fun v t O' Z' S' a' w' h => by cases h
         rcases cond_some he with ⟨rfl, he⟩ | ⟨rfl, he⟩
         . exact wp_cond_true hc (ev_sound hΓ hinl hm x _ _ k noT X s O Z S a w _ Q he hR hG' hT0 hX)
         . exact wp_cond_false hc (ev_sound hΓ hinl hm y _ _ k noT X s O Z S a w _ Q he hR hG' hT0 hX)
       . cases h
   . cases h
 | .block id c, α, r, k, T, X, s, O, Z, S, a, w, K, Q, h, hR, hG, hT, hX => by
   simp only [ev] at h
   refine wp_block (ev_sound hΓ hinl hm c α r k T X s O Z S a w _ _ h hR ?_ hT (fun v a w' hd hx => hX v a w' hd hx))
   intro e k' t O2 Z2 S2 a2 w2 hk hR2 hev c1 c2 c3
   cases e with
   | normal => exact hG .normal k' t O2 Z2 S2 a2 w2 hk hR2 hev c1 c2 c3
   | ret => exact hG .ret k' t O2 Z2 S2 a2 w2 hk hR2 hev c1 c2 c3
   | exit i =>
     simp only at hk
     show Exit.inBlock id Q (.exit i) a2 w2
     simp only [Exit.inBlock]
     split at hk
     . rename_i hi
       rw [if_pos (Nat.eq_of_beq_eq_true hi)]
       exact hG .normal k' t O2 Z2 S2 a2 w2 hk hR2 hev c1 c2 c3
     . rename_i hi
       rw [if_neg (fun e => by rw [e, Nat.beq_refl] at hi; cases hi)]
       exact hG (.exit i) k' t O2 Z2 S2 a2 w2 hk hR2 hev c1 c2 c3
 | .loop c, α, r, k, T, X, s, O, Z, S, a, w, K, Q, h, hR, hG, hT, hX => by
   simp only [ev] at h
   split at h
   . rename_i hh _
     obtain ⟨S1, hR1, hev1, htm1, ⟨pre1, hst1⟩, hnt1, hn1⟩ := frzPl_sound hh.places hR
     have hG1 : Good base w0 S0 K r O Z S1 (frzPl s hh.places) Q := hG.trans (fun e k t ht => ⟨k, ht⟩) hev1 ⟨[], by rw [htm1]; rfl⟩ ⟨pre1, hst1⟩ hnt1
     split at h
     . rename_i hw
       split at h
       . rename_i x hx
         obtain ⟨⟨e1, x1⟩, he, h⟩ := Option.bind_eq_some_iff.1 h
         simp only at h
         split at h
         . rename_i s1 hs1
           have hK : e1 ≠ .normal /\ K e1 s1 k = some r := by
            split at h
            . cases h
            . exact ⟨by simp, h⟩
            . split at h
              . cases h
              . exact ⟨by simp, h⟩
           exact loop_sound (fun k s O Z S a w K r Q h hR hG => ev_sound hΓ hinl hm c _ r k noT (fun _ _ => False) s O Z S a w K Q h hR hG (fun v t O' Z' S' a' w' h => by cases h) (fun v a w' _ h => h.elim)) hR1 hG1 hw hx he hs1 hK.1 hK.2
         . cases h
       . cases h
     . cases h
   . exact wp_loop_rounds 9 (rep_sound (T := T) (X := X) hX (fun s O Z S a w K Q h hR hG hT hX => ev_sound hΓ hinl hm c _ r k T X s O Z S a w K Q h hR hG hT hX) 9 s O Z S a w h hR hG hT)
 | .exit id, α, r, k, T, X, s, O, Z, S, a, w, K, Q, h, hR, hG, hT, hX => by
   simp only [ev] at h
   exact wp_exit (hG (.exit id) k s O Z S a w h hR (Evo.refl _ _ _ _) ⟨[], rfl⟩ ⟨[], rfl⟩ rfl)
 | .ret, α, r, k, T, X, s, O, Z, S, a, w, K, Q, h, hR, hG, hT, hX => by
   simp only [ev] at h
   exact wp_ret (hG .ret k s O Z S a w h hR (Evo.refl _ _ _ _) ⟨[], rfl⟩ ⟨[], rfl⟩ rfl)
 | .rangeFunc .., α, r, k, T, X, s, O, Z, S, a, w, K, Q, h, hR, hG, hT, hX => by simp [ev] at h
 | .scope c, α, r, k, T, X, s, O, Z, S, a, w, K, Q, h, hR, hG, hT, hX => by
   simp only [ev] at h
   refine wp_scope_straight (ev_sound hΓ hinl hm c α r k T X s O Z S a w K _ h hR ?_ hT (fun v a w' hd hx => hX v a w' hd hx))
   intro e k' t O2 Z2 S2 a2 w2 hk hR2 hev c1 c2 c3
   have := hG e k' t O2 Z2 S2 a2 w2 hk hR2 hev c1 c2 c3
   cases e <;> exact this
 | .label _, α, r, k, T, X, s, O, Z, S, a, w, K, Q, h, hR, hG, hT, hX => by
   simp only [ev] at h
   exact wp_label (hG .normal k s O Z S a w h hR (Evo.refl _ _ _ _) ⟨[], rfl⟩ ⟨[], rfl⟩ rfl)
 | .goto _, α, r, k, T, X, s, O, Z, S, a, w, K, Q, h, hR, hG, hT, hX => by simp [ev] at h
 | .refuse _, α, r, k, T, X, s, O, Z, S, a, w, K, Q, h, hR, hG, hT, hX => by simp [ev] at h
theorem enumF_look : ∀ {args : List AV} {i d : Nat} {v : AV}, look (enumF i args) d = some v -> i <= d /\ args[d - i]? = some v
 | [], i, d, v, h => by simp [enumF, look] at h
 | x :: args, i, d, v, h => by
   simp only [enumF] at h
   rcases put_keys h with ⟨rfl, rfl⟩ | ⟨hne, h⟩
   . exact ⟨Nat.le_refl _, by simp⟩
   . obtain ⟨h1, h2⟩ := enumF_look h
     refine ⟨by omega, ?_⟩
     rw [show d - i = (d - (i + 1)) + 1 by omega, List.getElem?_cons_succ]; exact h2
def resSem (tmps : Array Value) : ResultVar -> Sem Value
 | .tmp t => Pure.pure (tmps.getD t undef)
 | .cell x t => do loadVar t (<- asAddr (tmps.getD x undef))
theorem results_eq (fn : Func) (tmps : Array Value) : results fn tmps = (fn.results.mapM (resSem tmps)) >>= fun vs => Pure.pure (if h : vs.size = 1 then vs[0] else .tuple vs) := by
 unfold results
 have : (fun x : ResultVar => match x with
  | .tmp t => (Pure.pure (tmps.getD t undef) : Sem Value)
  | .cell a t => do loadVar t (<- asAddr (tmps.getD a undef))) = resSem tmps := by funext x; cases x <;> rfl
 rw [<- this]
 rfl
theorem resAV_rel {s' : St} {l : ResultVar} {v : AV} (hR : Rl base w0 S0 O Z S s' a w) (h : resAV P s' l = some v) :
 ∃ u, (resSem a.tmps l).run P w = .ok u w /\ ARel O Z S s'.n v u := by
 cases l with
 | tmp t =>
   simp only [resAV] at h
   obtain rfl := Option.some.inj h
   exact ⟨_, rfl, hR.get t⟩
 | cell x t =>
   simp only [resAV] at h
   split at h
   . rename_i b off hg
     split at h
     . rename_i l e hk
       have hx := hR.get x; rw [hg] at hx
       obtain ⟨_, hx⟩ := hx
       obtain ⟨vs, h1, h2, h3⟩ := ptr_cells (off := off) hR hk
       obtain ⟨u, h4, h5⟩ := loadVar_rel (P := P) (w := w) h (h2.drop off) h3
       exact ⟨u, by simp [resSem, hx, asAddr, h4], h5⟩
     . cases h
   . cases h
theorem tupAV_rel {n : Nat} {v : AV} {p : Bool × List CV} {u : Value} (h : tupAV v = some p) (hv : ARel O Z S n v u) : TRel O Z S n p u := by
 unfold tupAV at h
 split at h
 . rename_i c
   split at h
   . rename_i l hl
     obtain rfl := Option.some.inj h
     cases c with
     | any => simp [AV.cells] at hl
     | val z => exact ⟨hv, by cases z <;> simp [AV.cells] at hl <;> rfl⟩
     | _ => exact hv
   . cases h
 . obtain rfl := Option.some.inj h; exact hv
 . cases h
theorem resultsAV_rel {s' : St} (hR : Rl base w0 S0 O Z S s' a w) : ∀ {l : List ResultVar} {ps : List (Bool × List CV)}, resultsAV P s' l = some ps ->
 ∃ us : List Value, (l.mapM (resSem a.tmps)).run P w = .ok us w /\ All2 (TRel O Z S s'.n) ps us
 | [], ps, h => by
   simp [resultsAV] at h; subst h
   exact ⟨[], rfl, trivial⟩
 | r1 :: l, ps, h => by
   simp only [resultsAV] at h
   split at h
   . rename_i v hv
     split at h
     . rename_i p q hp hq
       obtain rfl := Option.some.inj h
       obtain ⟨u, h1, h2⟩ := resAV_rel hR hv
       obtain ⟨us, h3, h4⟩ := resultsAV_rel hR hq
       refine ⟨u :: us, ?_, tupAV_rel hp h2, h4⟩
       rw [List.mapM_cons, Sem.run_bind, h1]
       simp only [Result.andThen_ok]
       rw [Sem.run_bind, h3]
       rfl
     . cases h
   . cases h
theorem resultAV_run {s' : St} {fn : Func} {v : AV} (hR : Rl base w0 S0 O Z S s' a w) (h : resultAV P s' fn.results.toList = some v) : ∃ u, (results fn a.tmps).run P w = .ok u w /\ ARel O Z S s'.n v u := by
 rw [results_eq, Sem.run_bind, Array.mapM_eq_mapM_toList]
 unfold resultAV at h
 split at h
 . rename_i r1 hr
   obtain ⟨u, h1, h2⟩ := resAV_rel hR h
   refine ⟨u, ?_, h2⟩
   rw [hr, Sem.run_map, List.mapM_cons, Sem.run_bind, h1]
   simp
 . rename_i hne
   split at h
   . rename_i ps hps
     obtain rfl := Option.some.inj h
     obtain ⟨us, h1, h2⟩ := resultsAV_rel hR hps
     refine ⟨.tuple us.toArray, ?_, us, rfl, h2⟩
     rw [Sem.run_map, h1]
     have hl : us.length ≠ 1 := by
      intro e
      have hl1 : ps.length = 1 := by rw [h2.length, e]
      cases hfr : fn.results.toList with
      | nil => rw [hfr] at hps; simp [resultsAV] at hps; subst hps; simp at hl1
      | cons r1 l =>
        cases l with
        | nil => exact hne r1 hfr
        | cons r2 l =>
          rw [hfr] at hps
          simp only [resultsAV] at hps
          split at hps
          . split at hps
            . rename_i p q _ hq
              obtain rfl := Option.some.inj hps
              split at hq
              . split at hq
                . obtain rfl := Option.some.inj hq; simp at hl1
                . cases hq
              . cases hq
            . cases hps
          . cases hps
     simp [hl]
   . cases h
theorem evF_sound {Γ : Nat -> FuncId -> Option Sig} {Φ : Nat -> FuncId -> Option Special} {H : FuncId -> Nat -> Option Hint} (hΓ : ∀ k, GOW P base w0 (Γ k)) (hΦ : ∀ k, POk P (Φ k)) (hm : P.follows .mixedOrders = true) : ∀ (D : Nat) (α : Type) (k : Nat) (T : Value -> St -> Option α), InlOk P base w0 S0 T (evF P Γ Φ H D α k T)
 | 0, α, k, T => fun f args s K r O Z S a w vs N X h => by simp [evF] at h
 | D + 1, α, k, T => fun f args s K r O Z S a w vs N X h hR hargs hN hT => by
   simp only [evF] at h
   split at h
   . rename_i i hi
     exact got_sound hi (fun T => evF_sound hΓ hΦ hm D α k T) h hR hargs hN
   split at h
   . rename_i g hg
     exact lend_sound (hΦ k _ _ hg) h hR hargs hN
   . rename_i e g hg
     exact seqs_sound (hΦ k _ _ hg) h hR hargs hN
   split at h
   . rename_i fn hf
     split at h
     . rename_i c hb hnm hle
       have hle : args.length <= fn.ntmps := Nat.le_of_ble_eq_true hle
       have hlen := hargs.length
       refine ⟨fun args' w' => ?_, ?_⟩
       . have hnm' : (fn.name == "runtime.NumGoroutine") = false := hnm
         unfold callFunc
         rw [Sem.run_bind]
         simp only [run_program, Result.andThen_ok, hf, hnm', Bool.false_eq_true, if_false, hb, Option.isNone_some]
         rfl
       . refine calls_of_wp hf hb ?_
         have hR1 : Rl base w0 S0 O Z S { tm := enumF 0 args, st := s.st, n := s.n, nt := fn.ntmps } { tmps := vs.toArray ++ Array.replicate (fn.ntmps - vs.toArray.size) undef, defers := [] } w := by
          refine ⟨hR.s0, hR.snew, hR.sw, hR.below, hR.bsz, rfl, by simp; omega, fun d v hd => ?_, hR.st, hR.apart⟩
          obtain ⟨_, h2⟩ := enumF_look hd
          rw [Nat.sub_zero] at h2
          obtain ⟨u, h3, h4⟩ := hargs.get h2
          have hlt := (List.getElem?_eq_some_iff.1 h2).1
          refine ⟨by show d < fn.ntmps; omega, ?_⟩
          have : (vs.toArray ++ Array.replicate (fn.ntmps - vs.toArray.size) undef).getD d undef = u := by
           rw [Array.getD_eq_getD_getElem?, Array.getElem?_append_left (by simp; omega)]
           simp [h3]
          rw [this]; exact h4
         refine ev_sound hΓ (fun β k T => evF_sound hΓ hΦ hm D β k T) hm c α r k T X _ O Z S _ w _ _ h hR1 ?_ hT (fun v a w' hd hx => ⟨hd, .inr ⟨v, rfl, hx⟩⟩)
         intro e k' t O2 Z2 S2 a2 w2 hk hR2 hev c1 c2 c3
         have key : (∃ v, resultAV P t fn.results.toList = some v /\ backK v { s with st := t.st, n := t.n } K = some r) -> a2.defers = [] /\ ∃ v, (results fn a2.tmps).run P w2 = .ok v w2 /\ BackOr N X (Ending.returned v) w2 := by
          rintro ⟨v, h1, h2⟩
          obtain ⟨u, h3, h4⟩ := resultAV_run hR2 h1
          refine ⟨hR2.defers, u, h3, .inl ⟨u, rfl, ?_⟩⟩
          have hRs : Rl base w0 S0 O2 Z2 S2 { s with st := t.st, n := t.n } a w2 := ⟨hR2.s0, hR2.snew, hR2.sw, hR2.below, hR2.bsz, hR.defers, hR.size, fun d v' hd => by
           obtain ⟨g1, g2⟩ := hR.tm d v' hd
           exact ⟨g1, g2.evo hev⟩, hR2.st, hR2.apart⟩
          obtain ⟨v', s', Z', k1, k2, k3, k4, k5, ⟨pre, k6⟩, k7⟩ := back_sound hRs h4 h2
          obtain ⟨p2, c2⟩ := c2
          exact hN v' s' O2 Z' S2 u w2 k1 k2 k3 (hev.trans k4) k5 ⟨pre ++ p2, by rw [k6, List.append_assoc]; show _ = pre ++ (p2 ++ s.st); rw [<- c2]⟩ k7
         cases e with
         | exit id => cases hk
         | normal =>
           simp only at hk
           split at hk
           . rename_i v hv; exact key ⟨v, hv, hk⟩
           . cases hk
         | ret =>
           simp only at hk
           split at hk
           . rename_i v hv; exact key ⟨v, hv, hk⟩
           . cases hk
     . cases h
   . cases h
theorem argAVs_rel (n : Nat) : ∀ {ts : List Ty} {x : (ts.foldr Ty.cons .nil).den} {vs : List Value}, ArgsRep S ts x vs -> All2 (ARel O Z S n) (argAVs ts x) vs
 | [], _, [], _ => trivial
 | [], _, _ :: _, h => h.elim
 | _ :: _, _, [], h => h.elim
 | t :: ts, x, v :: vs, h => ⟨toAV_rel n h.1, argAVs_rel n h.2⟩
theorem top_sound {G : World -> Prop} {Γ : Nat -> FuncId -> Option Sig} {Φ : Nat -> FuncId -> Option Special} {H : FuncId -> Nat -> Option Hint} (hΓ : ∀ k, GOk G P (Γ k)) (hΦ : ∀ k, POk P (Φ k)) (hm : P.follows .mixedOrders = true) {D k : Nat} {f : FuncId} {ts res : List Ty} {x : (ts.foldr Ty.cons .nil).den} {y : (res.foldr Ty.cons .nil).den}
 (h : evTop P Γ Φ H D k f (argAVs ts x) res = some y) {S : Mem} {w : World} {vs : List Value} (hB : ∀ w', Below w.heap.size w w' -> G w') (hS : ∀ p v, S p = some v -> w.cell? p = some v) (ha : ArgsRep S ts x vs) :
 (∀ args w, (callFunc f args).run P w = .ok (.enter f args) w) /\ Calls P f vs.toArray w (Comes1 res y S w) := by
 have hR : Rl w.heap.size w S (fun _ => 0) (fun _ => undef) S { tm := [], st := [], n := 0, nt := 0 } { tmps := #[], defers := [] } w :=
  ⟨Mem.le_refl _, fun p v e e0 => (by rw [e] at e0; cases e0), hS, Below.refl _ _, Nat.le_refl _, rfl, rfl, fun d v e => (by simp [look] at e), fun d v e => (by simp [look] at e), fun b b' k k' g e => (by simp [look] at e)⟩
 unfold evTop at h
 obtain ⟨h1, h2⟩ := evF_sound (fun k => ⟨G, hΓ k, hB⟩) hΦ hm D _ k noT f _ _ _ _ _ _ _ _ _ vs (fun u w' => Comes1 res y S w (.returned u) w') (fun _ _ => False) h hR (argAVs_rel 0 ha) (by
  intro v s' O' Z' S' u w' hk hR' hv hev _ _ _
  obtain ⟨Sf, hRf, hevf, _⟩ := frz_sound hR' v
  have hvf := hv.evo hevf
  obtain ⟨sf, hsf⟩ : ∃ sf, s'.frz v = sf := ⟨_, rfl⟩
  dsimp only at hk
  rw [hsf] at hk hRf hevf
  have hvf := hv.evo hevf
  clear hR' hv
  have hR' := hRf
  have hv' := hR'.deref hvf
  refine ⟨u, Sf, rfl, Mem.le_trans hev.hS hevf.hS, hR'.sw, hR'.snew, ?_, hR'.below⟩
  have many : ∀ (l : List (Bool × List CV)), sf.deref v = .tup l -> argsOf res (l.map fun p => match p with | (true, l) => AV.agg l | (false, [c]) => .one c | _ => .one .any) = some y -> ∃ us : List Value, u = .tuple us.toArray /\ ArgsRep Sf res y us := by
   intro l e hk
   rw [e] at hv'
   obtain ⟨us, rfl, hl⟩ := hv'
   refine ⟨us, rfl, argsOf_rel (O := O') (Z := Z') (n := sf.n) hk (All2.map_l (hl.mono fun p u hp => ?_))⟩
   obtain ⟨q, cs⟩ := p
   cases q with
   | true => exact hp
   | false =>
     match cs, hp with
     | [c], hp => exact ARel.of_one hp
  match res, y, hk, many with
  | [t], y, hk, _ =>
    simp only at hk
    split at hk
    . rename_i z hz
      obtain rfl := Option.some.inj hk
      exact unAV_rel hz hv'
    . cases hk
  | [], y, hk, many =>
    cases hd : sf.deref v with
    | tup l => simp only [hd] at hk; exact many l hd hk
    | one c => simp only [hd] at hk; cases hk
    | agg l => simp only [hd] at hk; cases hk
  | t :: t' :: ts, y, hk, many =>
    cases hd : sf.deref v with
    | tup l => simp only [hd] at hk; exact many l hd hk
    | one c => simp only [hd] at hk; cases hk
    | agg l => simp only [hd] at hk; cases hk) (fun v t O' Z' S' a' w' h => by cases h)
 refine ⟨h1, h2.mono ?_⟩
 rintro e w' (⟨u, rfl, hc⟩ | ⟨_, _, hx⟩)
 . exact hc
 . exact hx.elim
theorem fn_okG {G : World -> Prop} (hG : ∀ w, G w -> ∀ w', Below w.heap.size w w' -> G w') {Γ : Nat -> FuncId -> Option Sig} {Φ : Nat -> FuncId -> Option Special} {H : FuncId -> Nat -> Option Hint} (hΓ : ∀ k, GOk G P (Γ k)) (hΦ : ∀ k, POk P (Φ k)) (hm : P.follows .mixedOrders = true) {D : Nat} {f : FuncId} {g : Sig} (he : ∀ args w, (callFunc f args).run P w = .ok (.enter f args) w)
 (h : ∀ x y, g.den x = some y -> ∃ k, evTop P Γ Φ H D k f (argAVs g.args x) g.res = some y) : FnC G P f g :=
 ⟨he, fun x y hy S w vs hgl hS ha => by
  obtain ⟨k, hk⟩ := h x y hy
  exact (top_sound hΓ hΦ hm hk (hG w hgl) hS ha).2⟩
end
end
section
open Go
theorem GOk.nil {G : World -> Prop} {P : Program} : GOk G P (look []) := fun f g h => by simp [look] at h
theorem GOk.cons {G : World -> Prop} {P : Program} {f : FuncId} {g : Sig} {l : List (Nat × Sig)} (h : FnC G P f g) (hl : GOk G P (look l)) : GOk G P (look ((f, g) :: l)) := fun f' g' e => by
 rcases put_keys e with ⟨rfl, rfl⟩ | ⟨_, e⟩
 . exact h
 . exact hl f' g' e
section
variable {P : Program}
theorem POk.lend {f : FuncId} {g : Sig} {l : List (Nat × Special)} (h : FnOk P f g) (hl : POk P (look l)) : POk P (look ((f, .lend g) :: l)) := fun f' g' e => by
 rcases put_keys e with ⟨rfl, rfl⟩ | ⟨_, e⟩
 . exact h
 . exact hl f' g' e
theorem POk.seqs {f v c : FuncId} {e : TypeId} {g : Sig} {l : List (Nat × Special)} (h : FnOkS P f v c e g) (hl : POk P (look l)) : POk P (look ((f, .seqs v c e g) :: l)) := fun f' g' e' => by
 rcases put_keys e' with ⟨rfl, rfl⟩ | ⟨_, e'⟩
 . exact h
 . exact hl f' g' e'
end
def entersB (P : Program) (f : FuncId) : Bool := match P.funcs[f]? with
 | some fn => fn.body.isSome && !(fn.name == "runtime.NumGoroutine")
 | none => false
theorem entersAb {P : Program} {f : FuncId} (h : entersB P f = true) : ∀ args w, (callFunc f args).run P w = .ok (.enter f args) w := by
 intro args w
 unfold entersB at h
 split at h
 . rename_i fn hf
   simp only [Bool.and_eq_true] at h
   obtain ⟨h1, h2⟩ := h
   obtain ⟨c, hb⟩ := Option.isSome_iff_exists.1 h1
   have hnm' : (fn.name == "runtime.NumGoroutine") = false := by simpa using h2
   unfold callFunc
   rw [Sem.run_bind]
   simp only [run_program, Result.andThen_ok, hf, hnm', Bool.false_eq_true, if_false, hb, Option.isNone_some]
   rfl
 . cases h
end
section
open Go
structure Ent (G : World -> Prop) (P : Program) where
 f : FuncId
 sig : Nat -> Sig
 ok : ∀ k, FnC G P f (sig k)
abbrev Ent.p {G : World -> Prop} {P : Program} {f : FuncId} {sig : Nat -> Sig} (h : ∀ k, FnOk P f (sig k)) : Ent G P := ⟨f, sig, fun k => (h k).tab⟩
def lookE {G : World -> Prop} {P : Program} (l : List (Ent G P)) (k : Nat) : FuncId -> Option Sig := look (l.map fun e => (e.f, e.sig k))
theorem GOk.ents {G : World -> Prop} {P : Program} (k : Nat) : ∀ l : List (Ent G P), GOk G P (lookE l k)
 | [] => GOk.nil
 | e :: l => GOk.cons (e.ok k) (GOk.ents k l)
def nh (_ _ : Nat) : Option Hint := none
def hs (l : List (Nat × List (Nat × Hint))) (f r : Nat) : Option Hint := (look l f).bind fun l => look l r
section
variable {P : Program} {f : FuncId} {ts res : List Ty} (k : Nat) {d : (ts.foldr Ty.cons .nil).den -> Option (res.foldr Ty.cons .nil).den}
theorem fn_okQ (l : List (Ent (fun _ => True) P)) {Φ : Nat -> FuncId -> Option Special} (hΦ : ∀ k, POk P (Φ k)) (H : FuncId -> Nat -> Option Hint) (hm : P.follows .mixedOrders = true) (he : entersB P f = true)
 (h : ∀ x, evTop P (lookE l) Φ H 20 k f (argAVs ts x) res = d x) : FnOk P f ⟨ts, res, d⟩ :=
 fn_okG (fun _ _ _ _ => trivial) (fun k => GOk.ents k l) hΦ hm (entersAb he) fun x _ e => ⟨k, (h x).trans e⟩
theorem fn_okE (l : List (Ent (fun _ => True) P)) (H : FuncId -> Nat -> Option Hint) (hm : P.follows .mixedOrders = true) (he : entersB P f = true)
 (h : ∀ x, evTop P (lookE l) (fun _ => look []) H 20 k f (argAVs ts x) res = d x) : FnOk P f ⟨ts, res, d⟩ :=
 fn_okQ k l (fun _ => POk.nil) H hm he h
theorem fn_okET (l : List (Ent (GT P) P)) (H : FuncId -> Nat -> Option Hint) (hm : P.follows .mixedOrders = true) (he : entersB P f = true)
 (h : ∀ x, evTop P (lookE l) (fun _ => look []) H 20 k f (argAVs ts x) res = d x) : FnOkT P f ⟨ts, res, d⟩ :=
 fn_okG (fun _ h => GB.of h) (fun k => GOk.ents k l) (fun _ => POk.nil) hm (entersAb he) fun x _ e => ⟨k, (h x).trans e⟩
end
end
end Go.Proofs.YtfhphiedbdinmaaGreatDoor.Ab
