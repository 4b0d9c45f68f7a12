import Derived.RangeFuncNested
import Derived.RangeFuncCalls
import Derived.RangeFuncLeaves
import Derived.Shelf.Abstract
import Derived.WalkSpells
import Derived.StillTailTactics
import Derived.Test.YtfhphiedbdinmaaGreatDoorProg
import Derived.OwnWalkIn
import Derived.TacticsInMore
import Derived.LoopNIn
import Derived.LoopIn
import Derived.Test.YtfhphiedbdinmaaGreatDoorFnKT
import Derived.Shelf.Strings.Builder1
import Derived.Lib.OthersKept
set_option linter.all false
namespace Go.Proofs.YtfhphiedbdinmaaGreatDoor.Q
open Go.RowKit Go.Shelf
section
def SeqAll {α : Type} (P : Program) (g : Nat) (lb : Array Value) (encs : α -> Array Value) (Bn tB : Nat) (xs : List α) (W : World) : Prop :=
 ∀ (l : Nat) (J : List α -> World -> Prop),
  (∀ pre W1 W2 row, J pre W1 -> W1.grownBy W2 row -> (∀ r, row = some r -> r = Bn) -> J pre W2) ->
  (∀ pre x post W1, xs = pre ++ x :: post -> J pre W1 -> (∃ cs, W1.heap[Bn]? = some (.cells cs tB (0, 0))) -> YieldAt Fence.wide 0 P l (encs x) W1 fun e W' => e = .returned (.bool true) /\ J (pre ++ [x]) W' /\ W'.heap[Bn]? = W1.heap[Bn]?) ->
  J [] W ->
  CallsIn Fence.wide 0 P g (#[.func (.yield l) #[] #[]] ++ lb) W fun e W' => (∃ v, e = .returned v) /\ J xs W'
def roundGoes {α : Type} (I : List α -> World -> Prop) (Bn : Nat) (pre : List α) (W : World) : Exit -> Act -> World -> Prop
 | .normal, _, W' => KeepsOthers W W' /\ W'.heap[Bn]? = W.heap[Bn]? /\ I pre W'
 | _, _, _ => False
theorem range_all {α : Type} {P : Program} {g : Operand} {ps : Array Tmp} {assign body : Code} {Q : Exit -> Act -> World -> Prop} {a : Act} {w : World} {gf : Nat} {lb : Array Value}
 (hg : a.eval g = .func (.func gf) #[] lb) (eg : ∀ args w, (callFunc gf args).run P w = .ok (.enter gf args) w)
 {encs : α -> Array Value} {Bn tB : Nat} {xs : List α} (hBn : Bn < w.heap.size) (hseq : ∀ W, W.heap[Bn]? = w.heap[Bn]? -> SeqAll P gf lb encs Bn tB xs W) (hps : ∀ x, (encs x).size = ps.size)
 (I : List α -> World -> Prop)
 (hI : ∀ pre W W' row, I pre W -> W.grownBy W' row -> (∀ r, row = some r -> r = Bn \/ (w.heap.size <= r /\ ∃ o : Obj, W.heap[r]? = some o /\ o.isCells = false)) -> I pre W')
 (h0 : I [] w) (a₁ : α -> Act)
 (hassign : ∀ (l : Nat) (x : α) (W : World) (K : Act -> World -> Prop), K (a₁ x) W ->
  assign.wpIn (Fence.wide.inRound l) 0 P (Exit.then K (fun _ _ _ => False)) { tmps := (ps.zip (encs x)).foldl (fun t (p, v) => t.setIfInBounds p v) a.tmps, defers := [] } W)
 (hbody : ∀ (l : Nat) (pre : List α) (x : α) (post : List α) (W : World), xs = pre ++ x :: post -> I pre W -> (∃ cs, W.heap[Bn]? = some (.cells cs tB (0, 0))) -> body.wpIn (Fence.wide.inRound l) 0 P (roundGoes I Bn (pre ++ [x]) W) (a₁ x) W)
 (hdone : ∀ (D : Nat) (W : World), w.heap.size <= D -> I xs W -> W.heap[D]? = some (.deferred (some [])) -> Q .normal { a with defers := { target := .collected D, args := #[] } :: a.defers } W) :
 (Code.rangeFunc g ps assign body).wpIn Fence.wide 0 P Q a w := by
 refine wpIn_rangeFunc ?_
 intro fn hfn
 obtain ⟨rec, hrec⟩ : ∃ rec : LoopState -> Option Code -> Loop, rec = fun st pe => { state := st, pending := pe, fn, tmps := a.tmps, params := ps, assign, body, defers := w.heap.size } := ⟨_, rfl⟩
 obtain ⟨W1, hW1⟩ : ∃ W1, (w.alloc (.deferred (some []))).alloc (.loop (rec .ready none)) = W1 := ⟨_, rfl⟩
 have hL1 : W1.heap[w.heap.size + 1]? = some (.loop (rec .ready none)) := by
  rw [<- hW1]; have := World.alloc_heap_new (w.alloc (.deferred (some []))) (.loop (rec .ready none)); rwa [World.size_alloc] at this
 have hK1 : W1.heap[w.heap.size]? = some (.deferred (some [])) := by
  rw [<- hW1]; exact (Below.heap_alloc _ _ _ (by simp)).trans (World.alloc_heap_new w _)
 have hB1 : W1.heap[Bn]? = w.heap[Bn]? := by
  rw [<- hW1, Below.heap_alloc _ _ _ (by simp; omega), Below.heap_alloc _ _ _ hBn]
 have hI1 : I [] W1 := by
  rw [<- hW1]
  exact hI _ _ _ none (hI _ _ _ none h0 (World.grownBy_alloc _ _ _) (fun r e => by cases e)) (World.grownBy_alloc _ _ _) (fun r e => by cases e)
 have turnL : ∀ {pre W o} (o' : Obj), I pre W -> W.heap[w.heap.size + 1]? = some o -> o.isCells = false -> I pre (W.putObj (w.heap.size + 1) o') := fun o' hi hl ho =>
  hI _ _ _ (some (w.heap.size + 1)) hi (grownBy_putObj' _ _ o') (fun r e => by cases e; exact .inr ⟨by omega, _, hl, ho⟩)
 refine ⟨w.heap.size + 1, [{ target := .collected w.heap.size, args := #[] }], W1, { target := .fn (.func gf) lb, args := #[.func (.yield (w.heap.size + 1)) #[] #[]] }, W1, gf,
  #[.func (.yield (w.heap.size + 1)) #[] #[]] ++ lb, W1, ?_, ?_, fun _ _ => trivial, ?_, fun h => by simp [Fence.wide] at h, ?_⟩
 . rw [<- hW1, hrec]; exact run_enterLoop_outer _ _ _ _ _
 . simp only [resolve, hg]
   simp [go_sem]
 . simp [invoke, go_sem, eg]
 . refine (hseq W1 hB1 (w.heap.size + 1)
    (fun pre W => I pre W /\ W.heap[w.heap.size + 1]? = some (.loop (rec .ready none)) /\ W.heap[w.heap.size]? = some (.deferred (some [])))
    (fun pre A B row hs hg' hr => ⟨hI pre A B row hs.1 hg' (fun r e => .inl (hr r e)),
     (hg'.block _ (Array.getElem?_eq_some_iff.1 hs.2.1).1 (fun e => by have := hr _ e.symm; omega)).trans hs.2.1,
     (hg'.block _ (Array.getElem?_eq_some_iff.1 hs.2.2).1 (fun e => by have := hr _ e.symm; omega)).trans hs.2.2⟩)
    ?_ ⟨hI1, hL1, hK1⟩).mono ?_
   . rintro pre x post W hxs ⟨hi, hl, hk⟩ hcs
     have hlt : w.heap.size + 1 < W.heap.size := (Array.getElem?_eq_some_iff.1 hl).1
     have hy := run_yield (P := P) (args := encs x) hl (by rw [hrec]; exact hps x)
     rw [hrec] at hy
     refine ⟨fn, _, assign, body, hy, roundIn_of_wpIn hfn (hassign _ x W _ ⟨_, run_beginRound hl (by rw [hrec]), ?_⟩)⟩
     have hl2 : (W.putObj (w.heap.size + 1) (.loop { rec .ready none with state := .busy })).heap[w.heap.size + 1]? = some (.loop { rec .ready none with state := .busy }) := World.putObj_heap_same hlt
     have hk2 : (W.putObj (w.heap.size + 1) (.loop { rec .ready none with state := .busy })).heap[w.heap.size]? = some (.deferred (some [])) := (World.putObj_heap_other (by omega)).trans hk
     have hb2 : (W.putObj (w.heap.size + 1) (.loop { rec .ready none with state := .busy })).heap[Bn]? = W.heap[Bn]? := World.putObj_heap_other (by omega)
     refine wpIn_mono (hbody _ pre x post _ hxs (turnL _ hi hl rfl) (by rw [hb2]; exact hcs)) ?_
     rintro e a3 W3 hp
     cases e with
     | normal =>
       obtain ⟨hk3, hb3, hi3⟩ := hp
       have hl3 := hk3.same _ _ hl2 rfl
       have hr := run_endRound (P := P) none hl3
       have hlt3 := (Array.getElem?_eq_some_iff.1 hl3).1
       rw [hrec] at hr hl3 ⊢
       exact ⟨_, _, hr, rfl, ⟨turnL _ hi3 hl3 rfl, World.putObj_heap_same hlt3, (World.putObj_heap_other (by omega)).trans (hk3.same _ _ hk2 rfl)⟩, (World.putObj_heap_other (by omega)).trans (hb3.trans hb2)⟩
     | ret => exact hp.elim
     | exit id => exact hp.elim
     | goto t => exact hp.elim
     | panic ch => exact hp.elim
     | outgrown => exact hp.elim
   . rintro e W2 ⟨⟨v, rfl⟩, hi, hl, hk⟩
     have he := run_endLoop (P := P) hl (by rw [hrec]; simp)
     rw [hrec] at he
     exact ⟨none, _, he, hdone _ _ (Nat.le_refl _) (turnL _ hi hl rfl) ((World.putObj_heap_other (by omega)).trans hk)⟩
def marksOf (Ds : List Nat) : List Deferred := Ds.map fun D => { target := .collected D, args := #[] }
theorem leaves_marks {P : Program} {fn : Func} {tmps : Array Value} {R : Ending -> World -> Prop} {B : Nat} : ∀ (Ds : List Nat) (W : World), (∀ D ∈ Ds, B <= D /\ W.heap[D]? = some (.deferred (some []))) -> Ds.Nodup -> B <= W.heap.size ->
 (∀ W', Below B W W' -> LeavesIn Fence.wide 0 P fn tmps R [] .returning W') -> LeavesInM Fence.wide 0 P fn tmps R (marksOf Ds) .returning W
 | [], W, _, _, _, h => h W (Below.refl _ _)
 | D :: Ds, W, hD, hn, hB, h => by
   obtain ⟨h1, h2⟩ := hD D (by simp)
   have hn' := List.nodup_cons.1 hn
   refine ⟨by simp, .inl ⟨D, _, rfl, run_takeDeferred h2, leaves_marks Ds _ (fun E hE => ?_) hn'.2 (by simpa using hB) (fun W' hb => h W' ?_)⟩⟩
   . obtain ⟨h3, h4⟩ := hD E (List.mem_cons_of_mem _ hE)
     exact ⟨h3, (World.putObj_heap_other (by rintro rfl; exact hn'.1 hE)).trans h4⟩
   . exact ((Below.refl B W).grown (grownBy_putObj' W D _) hB (fun k e => by cases e; exact h1)).trans hb
end
section
open Go Go.RowKit
structure Sd (p : Prop) : Prop where mk :: (out : p)
variable {w W : World} {g i B : Nat} {t : TypeId} {cs cs' : Array Value}
theorem bk_cell (h : w.heap[g]? = some (.cells cs t (0, 0))) (i : Nat) : w.cell? ⟨g, i, none⟩ = cs[i]? := cell_of_row w g i cs t (0, 0) h
theorem bk_frozen (h : w.heap[g]? = some (.cells cs t (0, 0))) (i : Nat) : w.frozen? ⟨g, i, none⟩ = false := by simp [World.frozen?, h]
theorem bk_put (h : w.heap[g]? = some (.cells cs t (0, 0))) (i : Nat) (u : Value) (e : cs.setIfInBounds i u = cs') : (w.setCell ⟨g, i, none⟩ u).heap[g]? = some (.cells cs' t (0, 0)) := by
 subst e; simp [World.setCell, Array.getElem?_modify, h]
theorem bw_alloc (h : Below w.heap.size w W) (o : Obj) : Below w.heap.size w (W.alloc o) := h.alloc h.size o
theorem bw_drew (h : Below B w W) : Below B w W.drew := ⟨h.os, h.tape, h.output, h.size, h.block⟩
end
section
open Go.RowKit Go.Shelf A
attribute [local go_sem] Oper.semAt_some
set_option maxHeartbeats 1000000 in
theorem digits_calls (n : Int) (w : World) :
 Calls Tryz.prog 123 #[.int .i64 n] w fun e w' => e = .returned (.func (.func 158) #[] #[.pointer (some ⟨w.heap.size, 0, none⟩)]) /\ w' = w.alloc (.cells #[.int .i64 n] 3) := by
 have hmf : ∀ (fn : Fn) (first cap : Array Value) (w : World), (Instr.makeFunc fn first cap).run Tryz.prog w = .ok (.func fn first cap) w := fun _ _ _ _ => rfl
 go_enter Tryz.func123, Tryz.ntmps123
 go_wp2
 go_ret
 exact ⟨rfl, rfl⟩
set_option maxHeartbeats 2000000 in
set_option maxRecDepth 100000 in
theorem digits_all (Bn : Nat) (f : Nat) (n : Int) (h0 : 0 <= n) (hn : n < 250 ^ f) (hm : n <= 9223372036854775807) (l : Nat) (J : List Int -> World -> Prop)
 (hJ : ∀ pre W1 W2 row, J pre W1 -> W1.grownBy W2 row -> (∀ r, row = some r -> r = Bn) -> J pre W2)
 (hY : ∀ pre x post W1, digsF f n = pre ++ x :: post -> J pre W1 -> (∃ cs, W1.heap[Bn]? = some (.cells cs 3 (0, 0))) -> YieldAt Fence.wide 0 Tryz.prog l #[.int .u8 x] W1 fun e W' => e = .returned (.bool true) /\ J (pre ++ [x]) W' /\ W'.heap[Bn]? = W1.heap[Bn]?)
 (W : World) (hB : W.heap[Bn]? = some (.cells #[.int .i64 n] 3 (0, 0))) (hJ0 : J [] W) :
 CallsIn Fence.wide 0 Tryz.prog 158 #[.func (.yield l) #[] #[], .pointer (some ⟨Bn, 0, none⟩)] W fun e W' => (∃ v, e = .returned v) /\ J (digsF f n) W' := by
 have HJ := Sd.mk hJ
 have HY := Sd.mk hY
 have HN := Sd.mk hn
 clear hJ hY hn
 refine callsIn_of_wp Tryz.func158 rfl trivial ?_ rfl
 simp only [Tryz.ntmps158, List.size_toArray, List.length_cons, List.length_nil, Nat.reduceAdd, Nat.reduceSub, Array.replicate_succ, Array.replicate_zero, List.push_toArray, List.append_toArray, List.nil_append, List.cons_append]
 gi_wp2
 gi_loopw [3] (fun _ wr => ∃ (pre : List Int) (g : Nat) (m : Int), 0 <= m /\ m <= 9223372036854775807 /\ Sd (m < 250 ^ g) /\ Sd (digsF f n = pre ++ digsF g m) /\ Sd (J pre wr) /\ Sd (wr.heap[Bn]? = some (.cells #[.int .i64 m] 3 (0, 0))))
  (fun _ wr => (intOf ((wr.cell? ⟨Bn, 0, none⟩).getD undef)).toNat)
 case atStart => exact ⟨[], f, n, h0, hm, ⟨HN.out⟩, ⟨rfl⟩, ⟨hJ0⟩, ⟨hB⟩⟩
 case round =>
  obtain ⟨pre, g, m, hm0, hm1, HG, HD, HJs, HB⟩ := hrel
  have hc := bk_cell HB.out 0
  have hf := bk_frozen HB.out 0
  simp only [List.getElem?_toArray, List.getElem?_cons_zero] at hc
  by_cases hp : 0 < m
  . cases g with
    | zero => exact absurd HG.out (by simp; omega)
    | succ g =>
      have hd : digsF f n = pre ++ (m % 250) :: digsF g (m / 250) := by rw [HD.out, digsF, if_pos hp]
      obtain ⟨fn, tmps, assign, body, hy, hR⟩ := HY.out pre (m % 250) _ wr hd HJs.out ⟨_, HB.out⟩
      have HD2 := Sd.mk hd
      clear hd
      have hr0 : 0 <= m % 250 := by omega
      have hr1 : m % 250 < 250 := by omega
      gi_wp2
      refine ⟨rfl, hR.mono ?_⟩
      rintro e W3 ⟨rfl, hJ3, hB3⟩
      have HB3 := Sd.mk (hB3.trans HB.out)
      have HJ3 := Sd.mk hJ3
      clear hB3 hJ3 hR hy
      have hc3 := bk_cell HB3.out 0
      have hf3 := bk_frozen HB3.out 0
      simp only [List.getElem?_toArray, List.getElem?_cons_zero] at hc3
      gi_wp2
      go_roundw
      case rel =>
       refine ⟨pre ++ [m % 250], g, m / 250, by omega, by omega, ⟨?_⟩, ⟨by rw [HD2.out]; simp⟩, ⟨HJ.out _ _ _ (some Bn) HJ3.out ?_ (fun r e => by cases e; rfl)⟩, ⟨bk_put HB3.out 0 _ rfl⟩⟩
       . have := HG.out
         rw [Int.pow_succ] at this
         omega
       . exact ⟨rfl, rfl, rfl, by simp [World.setCell], fun k _ hk => Below.heap_setCell _ _ _ _ (fun e => hk (by simp [e]))⟩
      case measure =>
       have h1 : (W3.setCell ⟨Bn, 0, none⟩ (.int .i64 (m / 250))).cell? ⟨Bn, 0, none⟩ = some (.int .i64 (m / 250)) := (bk_cell (bk_put (w := W3) HB3.out 0 (.int .i64 (m / 250)) rfl) 0).trans rfl
       rw [h1, hc]
       simp [intOf]
       omega
  . gi_wp2
    go_end0
    have e : digsF g m = [] := by cases g <;> simp [digsF, hp]
    have h2 := HD.out
    rw [e, List.append_nil] at h2
    exact ⟨⟨_, rfl⟩, by rw [h2]; exact HJs.out⟩
end
section
open Go.RowKit
theorem builder_size : (Tryz.prog.info? 235).map (fun i => i.size) = some 2 := by kernel_rfl
theorem byte_info : (Tryz.prog.info? 5).map (fun i => (i.zero, i.size, i.bytes)) = some (some (.int .u8 0), 1, 1) := by kernel_rfl
set_option maxHeartbeats 1000000 in
set_option maxRecDepth 100000 in
theorem copy_used (b : Nat) (w : World) (h0 : w.cell? ⟨b, 0, none⟩ = some (.pointer (some ⟨b, 0, none⟩))) :
 Calls Tryz.prog 157 #[.pointer (some ⟨b, 0, none⟩)] w fun e w' => e = .returned (.tuple #[]) /\ w' = w := by
 obtain ⟨j, hj, _⟩ := Option.map_eq_some_iff.1 builder_size
 go_enter Tryz.func157, Tryz.ntmps157
 go_wp2
 rw [Lib.run_neq_ptr_same w _ Tryz.underlying232 hj]
 go_wp2
 go_end0
 exact ⟨rfl, rfl⟩
set_option maxHeartbeats 1000000 in
set_option maxRecDepth 100000 in
theorem copy_fresh (b : Nat) (w : World) (h0 : w.cell? ⟨b, 0, none⟩ = some (.pointer none)) (hsh : w.shape? b = some (235, 2)) (hfz : w.frozen? ⟨b, 0, none⟩ = false) :
 Calls Tryz.prog 157 #[.pointer (some ⟨b, 0, none⟩)] w fun e w' => e = .returned (.tuple #[]) /\ w' = w.setCell ⟨b, 0, none⟩ (.pointer (some ⟨b, 0, none⟩)) := by
 obtain ⟨j, hj, hjs⟩ := Option.map_eq_some_iff.1 builder_size
 go_enter Tryz.func157, Tryz.ntmps157
 go_wp2
 rw [Lib.run_to_unsafe w ⟨b, 0, none⟩ Tryz.underlying232 Tryz.underlying312 hj (by rw [hjs]; decide) hsh (Nat.zero_lt_succ 1)]
 simp only [Result.andThen]
 rw [Oper.upon_value]
 go_wp2
 rw [run_callFunc_extern Tryz.func195 (by kernel_rfl) (by kernel_rfl) (by kernel_rfl) (e := Extern.AbiNoEscape.same) (by kernel_rfl)]
 rw [Lib.run_noEscape]
 simp only [Result.andThen]
 rw [Oper.upon_value]
 go_wp2
 rw [Lib.run_from_unsafe w ⟨b, 0, none⟩ Tryz.underlying312 Tryz.underlying232 hj hsh (by kernel_rfl)]
 simp only [Result.andThen]
 rw [Oper.upon_value]
 go_wp2
 go_end0
 exact ⟨rfl, rfl⟩
theorem B_copy (B b : Nat) (bs : List Value) (w : World) (h : Lib.IsBuilder 235 5 B b bs w) :
 Calls Tryz.prog 157 #[.pointer (some ⟨b, 0, none⟩)] w fun e w' => e = .returned (.tuple #[]) /\ Lib.BuilderAt 235 5 B b (.pointer (some ⟨b, 0, none⟩)) bs w' /\ Below B w w' /\ Lib.OthersKept 5 (some b) w w' := by
 rcases h with h | h
 . refine (copy_fresh b w h.cell0 h.shape h.frozen0).mono ?_
   rintro e w' ⟨rfl, rfl⟩
   exact ⟨rfl, h.used _, (Below.refl B w).setCell (p := ⟨b, 0, none⟩) h.1 _, (Lib.OthersKept.refl _ (some b) w).setCell ⟨b, 0, none⟩ rfl _⟩
 . refine (copy_used b w h.cell0).mono ?_
   rintro e w' ⟨rfl, rfl⟩
   exact ⟨rfl, h, Below.refl B _, Lib.OthersKept.refl _ _ _⟩
theorem row_cells {w : World} {B : Nat} {v : Value} {n : Nat} {xs : List Value} (h : w.ownsRow B 5 1 v n xs) : ∀ g, v.ownBlock = some g -> ∃ c fz, w.heap[g]? = some (.cells c 5 fz) := by
 intro g hg
 rcases h.2 with ⟨rfl, _⟩ | ⟨g', cap, cur, rfl, _, hh, _⟩
 . simp [Value.ownBlock] at hg
 . have : g' = g := by simpa [Value.ownBlock] using hg
   subst this
   exact ⟨_, _, hh⟩
set_option maxHeartbeats 2000000 in
set_option maxRecDepth 100000 in
theorem B_byte (B b : Nat) (bs : List Value) (c : Int) (w : World) (h : Lib.IsBuilder 235 5 B b bs w) (hlen : bs.length + 1 <= 140737488355328) (hBw : B <= w.heap.size) :
 Calls Tryz.prog 124 #[.pointer (some ⟨b, 0, none⟩), .int .u8 c] w fun e w' => e = .returned .nilIface /\ Lib.BuilderAt 235 5 B b (.pointer (some ⟨b, 0, none⟩)) (bs ++ [.int .u8 c]) w' /\ Below B w w' /\ Lib.OthersKept 5 (some b) w w' := by
 obtain ⟨i0, hi, hz0, hz1, hz2⟩ := info_parts byte_info
 go_enter Tryz.func124, Tryz.ntmps124
 go_wp2_with (go_at_call 157; refine (B_copy B b bs _ h).mono ?_)
 rintro e w1 ⟨rfl, h1, hb1, ho1⟩
 obtain ⟨hB, v, hbk, hown, hne⟩ := h1
 have c0 : w1.cell? ⟨b, 0, none⟩ = some (.pointer (some ⟨b, 0, none⟩)) := by rw [Lib.cell_of_heap hbk]; rfl
 have c1 : w1.cell? ⟨b, 1, none⟩ = some v := by rw [Lib.cell_of_heap hbk]; rfl
 go_wp2_with (at_builtin; refine wpList_append_own _ rfl _ _ 233 rfl B 5 i0 (.int .u8 0) 1 1 Tryz.underlying233 hi hz0 hz1 hz2 rfl (by decide) _ _ _ rfl (hown.alloc _) ⟨w1.heap.size, 0, none⟩ 1 1 [.int .u8 c] rfl rfl ?c1 ?c2 ?c3 ?c4 ?c5 ?_)
 case c1 =>
  intro j u hj
  match j, hj with
  | 0, hj => simp at hj; subst hj; simp [Addr.add]
 case c2 => intro u hu; simp at hu; subst hu; rfl
 case c3 => unfold maxLen; omega
 case c4 => omega
 case c5 => have := hb1.size; simp; omega
 intro v' w2 hown' hgrow _
 have hlt : b < w1.heap.size := by
  rcases Nat.lt_or_ge b w1.heap.size with h' | h'
  . exact h'
  . simp [Array.getElem?_eq_none h'] at hbk
 have hb2 : w2.heap[b]? = some (.cells #[.pointer (some ⟨b, 0, none⟩), v] 235 (0, 0)) := by
  rw [hgrow.block b (by simp; omega) (fun e => hne e.symm), Lib.alloc_old w1 _ b hlt]
  exact hbk
 have d0 : w2.cell? ⟨b, 0, none⟩ = some (.pointer (some ⟨b, 0, none⟩)) := by rw [Lib.cell_of_heap hb2]; rfl
 have d1 : w2.cell? ⟨b, 1, none⟩ = some v := by rw [Lib.cell_of_heap hb2]; rfl
 have f1 : w2.frozen? ⟨b, 1, none⟩ = false := Lib.frozen_of_heap hb2 1
 obtain ⟨g, cap, rfl⟩ : ∃ g cap, v' = .slice (some ⟨g, 0, none⟩) (bs.length + 1) cap := by
  rcases hown'.2 with ⟨_, h0⟩ | ⟨g, cap, cur, hv, _⟩
  . omega
  . exact ⟨g, cap, hv⟩
 go_wp2
 go_ret
 refine ⟨rfl, ?_, ?_, ?_⟩
 . exact Lib.BuilderAt.put (T := 235) (e := 5) hB hb2 (bs' := bs ++ [.int .u8 c]) (by simpa using hown') (by decide)
 . exact ((hb1.alloc (by have := hb1.size; omega) _).grown hgrow (by have := hb1.size; simp; omega) (fun k hk => (hown.lt k hk).1)).setCell (p := ⟨b, 1, none⟩) hB _
 . exact ((ho1.alloc _).grown hgrow (fun g hg => row_cells (hown.alloc _) g hg)).setCell ⟨b, 1, none⟩ rfl _
set_option maxHeartbeats 2000000 in
set_option maxRecDepth 100000 in
theorem B_string (B b : Nat) (bs : List Value) (s : ByteArray) (w : World) (h : Lib.IsBuilder 235 5 B b bs w) (hlen : bs.length + s.size <= 140737488355328) (hBw : B <= w.heap.size) :
 Calls Tryz.prog 120 #[.pointer (some ⟨b, 0, none⟩), .string s] w fun e w' => e = .returned (.tuple #[.int .i64 s.size, .nilIface]) /\ Lib.BuilderAt 235 5 B b (.pointer (some ⟨b, 0, none⟩)) (bs ++ Lib.strCells s) w' /\ Below B w w' /\ Lib.OthersKept 5 (some b) w w' := by
 obtain ⟨i0, hi, hz0, hz1, hz2⟩ := info_parts byte_info
 go_enter Tryz.func120, Tryz.ntmps120
 go_wp2_with (go_at_call 157; refine (B_copy B b bs _ h).mono ?_)
 rintro e w1 ⟨rfl, h1, hb1, ho1⟩
 obtain ⟨hB, v, hbk, hown, hne⟩ := h1
 have c0 : w1.cell? ⟨b, 0, none⟩ = some (.pointer (some ⟨b, 0, none⟩)) := by rw [Lib.cell_of_heap hbk]; rfl
 have c1 : w1.cell? ⟨b, 1, none⟩ = some v := by rw [Lib.cell_of_heap hbk]; rfl
 go_wp2_with (at_builtin; refine Lib.wpList_append_own_string _ rfl _ _ 233 9 rfl B 5 i0 Tryz.underlying233 Tryz.underlying9 hi hz0 hz1 hz2 _ _ _ rfl hown s rfl ?c3 ?c4 ?c5 ?_)
 case c3 => unfold maxLen; omega
 case c4 => omega
 case c5 => have := hb1.size; omega
 intro v' w2 hown' hgrow _
 have hlt : b < w1.heap.size := by
  rcases Nat.lt_or_ge b w1.heap.size with h' | h'
  . exact h'
  . simp [Array.getElem?_eq_none h'] at hbk
 have hb2 : w2.heap[b]? = some (.cells #[.pointer (some ⟨b, 0, none⟩), v] 235 (0, 0)) := by
  rw [hgrow.block b hlt (fun e => hne e.symm)]
  exact hbk
 have d0 : w2.cell? ⟨b, 0, none⟩ = some (.pointer (some ⟨b, 0, none⟩)) := by rw [Lib.cell_of_heap hb2]; rfl
 have d1 : w2.cell? ⟨b, 1, none⟩ = some v := by rw [Lib.cell_of_heap hb2]; rfl
 have f1 : w2.frozen? ⟨b, 1, none⟩ = false := Lib.frozen_of_heap hb2 1
 obtain ⟨ao, n', cap, rfl⟩ : ∃ ao n' cap, v' = .slice ao n' cap := by
  rcases hown'.2 with ⟨hv, _⟩ | ⟨g, cap, cur, hv, _⟩
  . exact ⟨_, _, _, hv⟩
  . exact ⟨_, _, _, hv⟩
 go_wp2
 go_ret2
 refine ⟨rfl, ?_, ?_, ?_⟩
 . exact Lib.BuilderAt.put (T := 235) (e := 5) hB hb2 (bs' := bs ++ Lib.strCells s) (by simpa [Lib.strCells_length] using hown') (by decide)
 . exact (hb1.grown hgrow (by have := hb1.size; omega) (fun k hk => (hown.lt k hk).1)).setCell (p := ⟨b, 1, none⟩) hB _
 . exact (ho1.grown hgrow (fun g hg => row_cells hown g hg)).setCell ⟨b, 1, none⟩ rfl _
end
end Go.Proofs.YtfhphiedbdinmaaGreatDoor.Q
