/- Abstract runs: an operation looks at its operands and at the memory alone. -/
import Derived.Test.YtohlhliifeeokaaGreatAbQ
namespace Go.Proofs.YtohlhliifeeokaaGreat.Ab
open Go
set_option linter.unusedVariables false
set_option linter.unusedSimpArgs false
def K1 (v : AV) (s : St) : Option AV := some v
theorem cond_bind' {α β : Type} (b : Bool) (x y : Option α) (f : α → Option β) : (cond b x y).bind f = cond b (x.bind f) (y.bind f) := by cases b <;> rfl
theorem cutHigh_bind {α β : Type} (hi : Option AV) (n : Nat) (K : Int → Nat → Option α) (f : α → Option β) : (cutHigh hi n K).bind f = cutHigh hi n fun h m => (K h m).bind f := by
  unfold cutHigh; split <;> simp [cond_bind']
theorem cutLow_bind {α β : Type} (lo : Option AV) (h : Int) (K : Nat → Option α) (f : α → Option β) : (cutLow lo h K).bind f = cutLow lo h fun l => (K l).bind f := by
  unfold cutLow; split <;> simp [cond_bind']
section
variable {P : Program} {α : Type} {K : AV → St → Option α} {s t : St}
theorem K1_then (v : AV) : (K1 v t).bind (fun v => K v s) = K v s := rfl
theorem derefC_congr (hst : s.st = t.st) (c : CV) : s.derefC c = t.derefC c := by unfold St.derefC; rw [hst]
theorem mrowOf_congr (hst : s.st = t.st) : s.mrowOf = t.mrowOf := by funext b; unfold St.mrowOf; rw [hst]
theorem derefC_congr' (hst : s.st = t.st) : s.derefC = t.derefC := funext fun c => derefC_congr hst c
def Alike (s t : St) : Prop := (∀ c, s.derefC c = t.derefC c) ∧ s.mrowOf = t.mrowOf
theorem Alike.of (hst : s.st = t.st) : Alike s t := ⟨derefC_congr hst, mrowOf_congr hst⟩
theorem deref_congr (hst : ∀ c, s.derefC c = t.derefC c) (v : AV) : s.deref v = t.deref v := by
  unfold St.deref
  have : s.derefC = t.derefC := funext hst
  rw [this]
theorem avalR_congr (hst : ∀ c, s.derefC c = t.derefC c) {x : Operand} (hx : aval s x = aval t x) : avalR s x = avalR t x := by
  unfold avalR; rw [hx, deref_congr hst]
theorem pick_nc {c x y : Operand} (hc : aval s c = aval t c) (hx : aval s x = aval t x) (hy : aval s y = aval t y) : evPick c x y s K = (evPick c x y t K1).bind (fun v => K v s) := by
  unfold evPick; rw [hc, hx, hy]; split
  · rw [cond_bind', K1_then (s := s) (t := t), K1_then (s := s) (t := t)]
  · rfl
theorem fillmap_congr {parts : List (Nat × Operand)} (h : ∀ p ∈ parts, aval s p.2 = aval t p.2) : (parts.map fun p => (p.1, aval s p.2)) = parts.map fun p => (p.1, aval t p.2) :=
  List.map_congr_left fun p hp => by rw [h p hp]
theorem fill_nc {place : Nat → Option (Nat × Nat)} {z : Array Value} {parts : Array (Nat × Operand)} (h : ∀ p ∈ parts.toList, aval s p.2 = aval t p.2) : evFill place z parts s K = (evFill place z parts t K1).bind (fun v => K v s) := by
  unfold evFill; rw [fillmap_congr h]; split
  · rw [K1_then (s := s) (t := t)]
  · rfl
theorem build_nc {ty : TypeId} {parts : Array (Nat × Operand)} (h : ∀ p ∈ parts.toList, aval s p.2 = aval t p.2) : evBuild P ty parts s K = (evBuild P ty parts t K1).bind (fun v => K v s) := by
  unfold evBuild
  split
  · split
    · split
      · split
        · exact fill_nc h
        · rfl
      · split
        · exact fill_nc h
        · rfl
      · rfl
    · rfl
  · rfl
theorem load_nc {ty : TypeId} {x : Operand} (hx : aval s x = aval t x) (hst : s.st = t.st) : evLoad P ty x s K = (evLoad P ty x t K1).bind (fun v => K v s) := by
  unfold evLoad; rw [hx, hst, mrowOf_congr hst]
  split
  · split
    · split
      · rw [K1_then (s := s) (t := t)]
      · rfl
    · rfl
  · split
    · rw [K1_then (s := s) (t := t)]
    · rfl
  · split
    · split
      · rw [cond_bind', K1_then (s := s) (t := t)]; rfl
      · rfl
    · rfl
  · rfl
abbrev SN := List (Nat × Blk) × Nat
abbrev St.sn (s : St) : SN := (s.st, s.n)
def Kn (v : AV) (s : St) : Option (AV × SN) := some (v, (s.st, s.n))
abbrev ThenN (s : St) (K : AV → St → Option α) (p : AV × SN) : Option α := K p.1 { s with st := p.2.1, n := p.2.2 }
theorem store_n {ty : TypeId} {x y : Operand} (hx : aval s x = aval t x) (hy : aval s y = aval t y) (hst : s.st = t.st) (hn : s.n = t.n) : evStore P ty x y s K = (evStore P ty x y t Kn).bind (ThenN s K) := by
  unfold evStore; rw [hx, hy, hst, mrowOf_congr hst, derefC_congr' hst]
  split
  · split
    · split
      · split
        · split
          · show K _ _ = K _ _
            simp only [hn]
          · rfl
        · rfl
      · rfl
    · rfl
  · split
    · split
      · split
        · split
          · rw [cond_bind']
            congr 1
            show K _ _ = K _ _
            simp only [hn]
          · rfl
        · rfl
      · rfl
    · rfl
  · rfl
theorem alloc_n {e : TypeId} (hst : s.st = t.st) (hn : s.n = t.n) : evAlloc P e s K = (evAlloc P e t Kn).bind (ThenN s K) := by
  unfold evAlloc
  split
  · split
    · show K _ (newBlk s _ e) = K _ _
      unfold newBlk
      simp only [hst, hn]
    · rfl
  · rfl
theorem box_n {e : TypeId} {x : Operand} (hx : aval s x = aval t x) (hst : s.st = t.st) (hn : s.n = t.n) : evBox e x s K = (evBox e x t Kn).bind (ThenN s K) := by
  unfold evBox
  rw [hx]
  split
  · show K _ (newBlk s _ e) = K _ _
    unfold newBlk
    simp only [hst, hn]
  · rfl
theorem buildSlice_n {ty : TypeId} {len : Nat} {ps : Array (Nat × Operand)} (h : ∀ p ∈ ps.toList, aval s p.2 = aval t p.2) (hst : s.st = t.st) (hn : s.n = t.n) : evBuildSlice P ty len ps s K = (evBuildSlice P ty len ps t Kn).bind (ThenN s K) := by
  unfold evBuildSlice
  have e : (ps.toList.map fun p => (p.1, avalR s p.2)) = ps.toList.map fun p => (p.1, avalR t p.2) := List.map_congr_left fun p hp => by rw [avalR_congr (derefC_congr hst) (h p hp)]
  rw [e]
  split
  · split
    · split
      · split
        · split
          · show K _ (rowBlk s _ _ _) = K _ _
            unfold rowBlk
            simp only [hst, hn]
          · rfl
        · rfl
      · rfl
    · split
      · split
        · show K _ (newBlk s _ _) = K _ _
          unfold newBlk
          simp only [hst, hn]
        · rfl
      · rfl
    · rfl
  · rfl
theorem nil_nc {x : Operand} (hx : aval s x = aval t x) : evNil x s K = (evNil x t K1).bind (fun v => K v s) := by
  unfold evNil; rw [hx]; split <;> first | rw [K1_then (s := s) (t := t)] | rfl
theorem val_nc {v : Option Value} : evVal v s K = (evVal v t K1).bind (fun v => K v s) := by
  unfold evVal; split
  · rw [K1_then (s := s) (t := t)]
  · rfl
theorem bool_nc {op : BinOp} {b : Bool} : evBool op b s K = (evBool op b t K1).bind (fun v => K v s) := by
  unfold evBool; split <;> first | rw [K1_then (s := s) (t := t)] | rfl
theorem bin_nc {op : BinOp} {ty : TypeId} {x y : Operand} (hx : aval s x = aval t x) (hy : aval s y = aval t y) : evBin P op ty x y s K = (evBin P op ty x y t K1).bind (fun v => K v s) := by
  unfold evBin; rw [hx, hy]
  split
  · unfold evText; split
    · rw [cond_bind', K1_then (s := s) (t := t)]; rfl
    · exact val_nc
  · unfold evInt; split
    · split
      · rw [cond_bind', K1_then (s := s) (t := t)]; rfl
      · rfl
    · split
      · rw [cond_bind', K1_then (s := s) (t := t)]; rfl
      · rfl
    · exact val_nc
  · split
    · exact bool_nc
    · rfl
  · split
    · rfl
    · split
      · exact bool_nc
      · rfl
  · rfl
theorem un_nc {op : UnOp} {x : Operand} (hx : aval s x = aval t x) : evUn P op x s K = (evUn P op x t K1).bind (fun v => K v s) := by
  unfold evUn; rw [hx]; split
  · exact val_nc
  · rfl
theorem conv_nc {a b : TypeId} {x : Operand} (hx : aval s x = aval t x) (hst : ∀ c, s.derefC c = t.derefC c) : evConv P a b x s K = (evConv P a b x t K1).bind (fun v => K v s) := by
  unfold evConv; rw [avalR_congr hst hx]; split
  · exact val_nc
  · split
    · split
      · rw [K1_then (s := s) (t := t)]
      · rfl
    · rfl
  · rfl
theorem map_nc {lo : Option Operand} (h : ∀ x ∈ lo.toList, aval s x = aval t x) : lo.map (aval s) = lo.map (aval t) := by
  cases lo with
  | none => rfl
  | some x => simp [h x (by simp)]
theorem slice_nc {ty : TypeId} {x : Operand} {lo hi mx : Option Operand} (hx : aval s x = aval t x) (hlo : ∀ x ∈ lo.toList, aval s x = aval t x) (hhi : ∀ x ∈ hi.toList, aval s x = aval t x) (hst : ∀ c, s.derefC c = t.derefC c) : evSlice P ty x lo hi mx s K = (evSlice P ty x lo hi mx t K1).bind (fun v => K v s) := by
  unfold evSlice; rw [avalR_congr hst hx, map_nc hlo, map_nc hhi]
  split
  · rfl
  · split
    · rw [cutHigh_bind]; congr 1; funext h m; rw [cutLow_bind]; rfl
    · split
      · split
        · rw [cutHigh_bind]; congr 1; funext h m; rw [cutLow_bind]; congr 1; funext lo; unfold shareIf; split <;> rfl
        · rfl
      · rfl
    · split
      · rw [cutHigh_bind]; rfl
      · rfl
    · split
      · rw [cutHigh_bind]; congr 1; funext h m; rw [cutLow_bind]; rfl
      · rfl
    · rfl
theorem fieldAddr_nc {ty : TypeId} {x : Operand} {f : Nat} (hx : aval s x = aval t x) : evFieldAddr P ty x f s K = (evFieldAddr P ty x f t K1).bind (fun v => K v s) := by
  unfold evFieldAddr; rw [hx]
  split
  · split
    · split
      · split <;> first | rw [K1_then (s := s) (t := t)] | rfl
      · rfl
    · rfl
  · rfl
theorem field_nc {ty : TypeId} {x : Operand} {f : Nat} (hx : aval s x = aval t x) : evField P ty x f s K = (evField P ty x f t K1).bind (fun v => K v s) := by
  unfold evField; rw [hx]
  split
  · split
    · split
      · rw [K1_then (s := s) (t := t)]
      · rfl
    · rfl
  · rfl
theorem case_nc {i : Int} {pick : Nat → Option AV} : ∀ (m j : Nat), evCase i pick s K m j = (evCase i pick t K1 m j).bind (fun v => K v s) := by
  intro m
  induction m with
  | zero => intro j; rfl
  | succ m ih =>
    intro j
    unfold evCase
    split
    · rw [cond_bind', ih]; rfl
    · rfl
theorem indexAddr_nc {ty : TypeId} {x i : Operand} (hx : aval s x = aval t x) (hi : aval s i = aval t i) (hst : Alike s t) : evIndexAddr P ty x i s K = (evIndexAddr P ty x i t K1).bind (fun v => K v s) := by
  unfold evIndexAddr; rw [avalR_congr hst.1 hx, hi, hx, hst.2]
  split
  · split
    · split
      · split
        · rw [cond_bind', cond_bind', K1_then (s := s) (t := t)]; rfl
        · rfl
      · split
        · split
          · rw [cond_bind', cond_bind', K1_then (s := s) (t := t)]; rfl
          · rfl
        · rfl
      · rw [cond_bind', cond_bind', case_nc (s := s) (t := t)]; rfl
      · rfl
    · rfl
  · split
    · split
      · exact case_nc _ _
      · rfl
    · rfl
  · rfl
theorem index_nc {ty : TypeId} {x i : Operand} (hx : aval s x = aval t x) (hi : aval s i = aval t i) : evIndex P ty x i s K = (evIndex P ty x i t K1).bind (fun v => K v s) := by
  unfold evIndex; rw [hx, hi]
  split
  · split
    · rw [cond_bind', cond_bind', K1_then (s := s) (t := t)]; rfl
    · rfl
  · split
    · split
      · exact case_nc _ _
      · rfl
    · rfl
  · rfl
theorem extract_nc {x : Operand} {ix : Nat} (hx : aval s x = aval t x) : evExtract x ix s K = (evExtract x ix t K1).bind (fun v => K v s) := by
  unfold evExtract; rw [hx]
  split
  · split <;> first | rw [K1_then (s := s) (t := t)] | rfl
  · rfl
theorem op_nc {op : Op} (hc : calm op < 2) (hx : ∀ x ∈ op.operands.toList, aval s x = aval t x) (hst : calm op ≠ 0 → Alike s t ∧ ((∃ ty x, op = .load ty x) → s.st = t.st)) (hcall : ∀ c, op ≠ .call c) : evOp P op s K = (evOp P op t K1).bind (fun v => K v s) := by
  cases op <;> simp only [Op.operands, List.toList_toArray, List.mem_cons, List.not_mem_nil, or_false, forall_eq_or_imp, forall_eq] at hx <;> simp only [evOp]
  case move x => rw [hx, K1_then (s := s) (t := t)]
  case assign x => rw [hx, K1_then (s := s) (t := t)]
  case pick => exact pick_nc hx.1 hx.2.1 hx.2.2
  case build ty ps => exact build_nc (fun p hp => hx p.2 (by simpa using ⟨p.1, by simpa using hp⟩))
  case load => exact load_nc hx ((hst (by simp [calm])).2 ⟨_, _, rfl⟩)
  case nilCheck => exact nil_nc hx
  case binOp => exact bin_nc hx.1 hx.2
  case unOp => exact un_nc hx
  case convert => exact conv_nc hx (hst (by simp [calm])).1.1
  case slice ty x lo hi mx => exact slice_nc (hx x (by simp)) (fun y hy => hx y (by simp at hy ⊢; simp [hy])) (fun y hy => hx y (by simp at hy ⊢; simp [hy])) (hst (by simp [calm])).1.1
  case fieldAddr => exact fieldAddr_nc hx
  case field => exact field_nc hx
  case indexAddr => exact indexAddr_nc hx.1 hx.2 (hst (by simp [calm])).1
  case index => exact index_nc hx.1 hx.2
  case extract => exact extract_nc hx
  case call c => exact absurd rfl (hcall c)
  all_goals (first | rfl | (simp [calm] at hc))
theorem builtin_nc {b : Builtin} {ts : List TypeId} {xs : List Operand} (hb : (match b with | .append => false | .copy => false | _ => true) = true) (hx : ∀ x ∈ xs, aval s x = aval t x) (hst : Alike s t) : evBuiltin P b ts xs s K = (evBuiltin P b ts xs t K1).bind (fun v => K v s) := by
  unfold evBuiltin
  split
  · rename_i ty x
    rw [avalR_congr hst.1 (hx x (by simp)), hst.2]
    split <;> first | rw [K1_then (s := s) (t := t)] | rfl | (split <;> first | rw [K1_then (s := s) (t := t)] | rfl)
  · rename_i x y
    rw [hx x (by simp), hx y (by simp)]
    split <;> first | rw [K1_then (s := s) (t := t)] | rfl
  · rename_i x y
    rw [hx x (by simp), hx y (by simp)]
    split <;> first | rw [K1_then (s := s) (t := t)] | rfl
  · simp at hb
  · simp at hb
  · rfl
theorem bind_bind' {α β γ : Type} (x : Option α) (f : α → Option β) (g : β → Option γ) : (x.bind f).bind g = x.bind fun a => (f a).bind g := by cases x <;> rfl
theorem call_nc {Γ : FuncId → Option Sig} {c : Call} (hc : calm (.call c) < 2) (hx : ∀ x ∈ c.operands.toList, aval s x = aval t x) (hst : Alike s t) :
    evCall P Γ (fun _ _ _ _ => none) c s K = (evCall P Γ (fun _ _ _ _ => none) c t K1).bind (fun v => K v s) := by
  unfold evCall
  have hargs : ∀ x ∈ c.args.toList, aval s x = aval t x := fun x hm => hx x (by simp [Call.operands] at hm ⊢; exact .inr hm)
  split
  · rename_i b hb
    refine builtin_nc ?_ hargs hst
    cases b <;> first | rfl | (simp [calm, hb] at hc)
  · rename_i f hf
    have hfx : aval s f = aval t f := hx f (by simp [Call.operands, hf])
    have hm : c.args.toList.map (avalR s) = c.args.toList.map (avalR t) := List.map_congr_left fun x hm => avalR_congr hst.1 (hargs x hm)
    rw [hfx, hm]
    split
    · split
      · split
        · split
          · rw [bind_bind']; rfl
          · rfl
        · rfl
      · rfl
    · rfl
  · rfl
end
end Go.Proofs.YtohlhliifeeokaaGreat.Ab
