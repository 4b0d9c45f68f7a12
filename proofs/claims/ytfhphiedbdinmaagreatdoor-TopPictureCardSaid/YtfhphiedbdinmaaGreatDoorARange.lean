import Derived.ProofKit
import Derived.Test.YtfhphiedbdinmaaGreatDoorAHBuild
set_option linter.all false
namespace Go.Proofs.YtfhphiedbdinmaaGreatDoor.Ab
open Go
def bnd : (t : Ty) -> t.den -> Prop
 | .int k, x => (Lit.int k x).wf = true
 | .bool, _ => True
 | .str, x => ByteArray.size x <= maxLen
 | .nil, _ => True
 | .cons a b, x => bnd a x.1 /\ bnd b x.2
 | .sl t, l => List.length (α := t.den) l <= maxLen /\ ∀ x : t.den, List.Mem x (l : List t.den) -> bnd t x
end Go.Proofs.YtfhphiedbdinmaaGreatDoor.Ab
namespace Go.Proofs.YtfhphiedbdinmaaGreatDoor.A
open Go Ab
section
theorem wrap_id {n : Int} (h0 : -9223372036854775808 <= n) (h1 : n <= 9223372036854775807) : IntKind.i64.wrap n = n := by
 have e1 : IntKind.i64.bits = 64 := rfl
 have e2 : IntKind.i64.signed = true := rfl
 unfold IntKind.wrap
 simp only [e1, e2, Bool.true_and]
 split
 . rename_i h; have := of_decide_eq_true h; omega
 . rename_i h
   have : ¬ _ := fun g => h (decide_eq_true g)
   omega
theorem bytes_append (a b : ByteArray) : (a ++ b).data.toList = a.data.toList ++ b.data.toList := by rw [ByteArray.data_append, Array.toList_append]
theorem bytes_extract (a : ByteArray) (i j : Nat) : (a.extract i j).data.toList = (a.data.toList.take j).drop i := by
 rw [ByteArray.data_extract, Array.toList_extract, List.extract_eq_take_drop, List.drop_take]
theorem size_toList (a : ByteArray) : a.data.toList.length = a.size := by rw [Array.length_toList]; rfl
theorem bytes_inj {a b : ByteArray} (h : a.data.toList = b.data.toList) : a = b := by
 cases a; cases b; congr 1; exact Array.toList_inj.1 h
abbrev EB : ByteArray := ByteArray.mk #[]
theorem EB_size : EB.size = 0 := rfl
theorem app_E (s : ByteArray) : s ++ EB = s := bytes_inj (by rw [bytes_append]; simp)
theorem E_app (s : ByteArray) : EB ++ s = s := bytes_inj (by rw [bytes_append]; simp)
theorem app_assoc (a b c : ByteArray) : a ++ b ++ c = a ++ (b ++ c) := bytes_inj (by simp only [bytes_append, List.append_assoc])
def cat (l : List ByteArray) : ByteArray := ⟨(l.flatMap (·.data.toList)).toArray⟩
theorem cat_bytes (l : List ByteArray) : (cat l).data.toList = l.flatMap (·.data.toList) := by simp [cat]
theorem cat_nil : cat [] = EB := rfl
theorem cat_cons (a : ByteArray) (l : List ByteArray) : cat (a :: l) = a ++ cat l := bytes_inj (by rw [bytes_append, cat_bytes, cat_bytes]; rfl)
theorem join_bytes (l : List ByteArray) : Lib.join (l.map (·.data.toList)) (EB).data.toList = l.flatMap (·.data.toList) := by
 unfold Lib.join
 show List.intercalate [] _ = _
 have : ∀ xs : List (List UInt8), List.intercalate [] xs = xs.flatten := by
  intro xs
  induction xs with
  | nil => rfl
  | cons a xs ih => cases xs <;> simp_all [List.intercalate, List.intersperse]
 rw [this, List.flatMap_def]
theorem Join_ok (k : Nat) (l : List ByteArray) (h0 : l.length <= 140737488355328) (h1 : (cat l).size <= 140737488355328) : strings_Join k l EB = some (cat l, ()) := by
 unfold strings_Join joinOf
 rw [join_bytes, decide_eq_true h0, decide_eq_true (by rw [<- cat_bytes, size_toList]; exact h1)]
 rfl
theorem getD_at (l : List ByteArray) (i : Nat) (h : i < l.length) (z : ByteArray) : l.getD (Int.toNat (i : Int)) z = l[i] := by
 rw [Int.toNat_natCast, List.getD_eq_getElem?_getD, List.getElem?_eq_getElem h]; rfl
theorem getD_z (l : List ByteArray) (i : Nat) (h : i < l.length) : l.getD (Int.toNat (i : Int)) Ty.str.zero = l[i] := getD_at l i h _
theorem bif_t {α : Type} {p : Prop} [Decidable p] (h : p) (a b : α) : (bif decide p then a else b) = a := by rw [decide_eq_true h]; rfl
theorem bif_f {α : Type} {p : Prop} [Decidable p] (h : ¬ p) (a b : α) : (bif decide p then a else b) = b := by rw [decide_eq_false h]; rfl
end
section
theorem loop_eq (bs : ByteArray) (d : Nat) : ∀ (i : Nat) (r : List UInt8), bs.size - i = d -> ByteArray.toList.loop bs i r = r.reverse ++ bs.data.toList.drop i := by
 induction d with
 | zero =>
   intro i r h
   unfold ByteArray.toList.loop
   have hs : bs.data.toList.length = bs.size := by rw [Array.length_toList]; rfl
   rw [if_neg (by omega), List.drop_of_length_le (by omega)]
   simp
 | succ d ih =>
   intro i r h
   unfold ByteArray.toList.loop
   have hs : bs.data.toList.length = bs.size := by rw [Array.length_toList]; rfl
   rw [if_pos (by omega), ih (i + 1) _ (by omega), List.drop_eq_getElem_cons (by omega : i < bs.data.toList.length)]
   have e : bs.get! i = bs.data.toList[i]'(by omega) := by
    show bs.data[i]! = _
    rw [getElem!_pos bs.data i (by show i < bs.size; omega)]
    simp
   rw [e]
   simp
theorem toList_data (bs : ByteArray) : bs.toList = bs.data.toList := by
 unfold ByteArray.toList
 rw [loop_eq bs _ 0 [] rfl]
 simp
def mkB (l : List UInt8) : ByteArray := ⟨l.toArray⟩
theorem mkB_toList (l : List UInt8) : (mkB l).toList = l := by rw [toList_data]; rfl
theorem mkB_of (s : ByteArray) : mkB s.data.toList = s := by cases s; simp [mkB]
theorem mkB_size (l : List UInt8) : (mkB l).size = l.length := by show l.toArray.size = _; simp
theorem mkB_append (a b : List UInt8) : mkB a ++ mkB b = mkB (a ++ b) := bytes_inj (by rw [bytes_append]; rfl)
theorem mkB_extract (l : List UInt8) (i j : Nat) : (mkB l).extract i j = mkB ((l.take j).drop i) := bytes_inj (by rw [bytes_extract]; rfl)
theorem E_toList : EB.toList = [] := mkB_toList []
theorem byteAt_mk (l : List UInt8) (i : Nat) (h : i < l.length) : byteAt (mkB l) (i : Int) = ((l[i]).toNat : Int) := by
 unfold byteAt
 rw [Int.toNat_natCast]
 show ((l.getD i 0).toNat : Int) = _
 rw [List.getD_eq_getElem?_getD, List.getElem?_eq_getElem h]; rfl
theorem wrap_succ {i : Nat} (h : i < 9223372036854775807) : IntKind.i64.wrap ((i : Int) + 1) = ((i + 1 : Nat) : Int) := by rw [wrap_id (by omega) (by omega)]; omega
def Ev {β : Type} (f : Nat -> Option β) (y : β) : Prop := ∃ k0, ∀ k, k0 <= k -> f k = some y
variable {α β γ : Type}
theorem Ev.now (y : β) : Ev (fun _ => some y) y := ⟨0, fun _ _ => rfl⟩
theorem Ev.of {f g : Nat -> Option β} {y : β} (h : ∀ k, f k = g k) (hg : Ev g y) : Ev f y := let ⟨k0, h0⟩ := hg; ⟨k0, fun k hk => (h k).trans (h0 k hk)⟩
theorem Ev.bind {f : Nat -> Option α} {g : Nat -> α -> Option β} {x : α} {y : β} (hf : Ev f x) (hg : Ev (fun k => g k x) y) : Ev (fun k => (f k).bind (g k)) y := by
 obtain ⟨k0, h0⟩ := hf
 obtain ⟨k1, h1⟩ := hg
 refine ⟨max k0 k1, fun k hk => ?_⟩
 show (f k).bind (g k) = _
 rw [h0 k (by omega)]
 exact h1 k (by omega)
theorem Ev.step {st : Nat -> (α -> Option β) -> α -> Option β} {x : α} {y : β} (h : Ev (fun k => st k (rec1 st k) x) y) : Ev (fun k => rec1 st k x) y := by
 obtain ⟨k0, h0⟩ := h
 refine ⟨k0 + 1, fun k hk => ?_⟩
 obtain ⟨q, rfl⟩ : ∃ q, k = q + 1 := ⟨k - 1, by omega⟩
 exact h0 q (by omega)
theorem Ev.t {c : Bool} {a b : Nat -> Option β} {y : β} (h : c = true) (ha : Ev a y) : Ev (fun k => bif c then a k else b k) y := by subst h; exact ha
theorem Ev.f {c : Bool} {a b : Nat -> Option β} {y : β} (h : c = false) (hb : Ev b y) : Ev (fun k => bif c then a k else b k) y := by subst h; exact hb
theorem Ev.dt {p : Prop} [Decidable p] {a b : Nat -> Option β} {y : β} (h : p) (ha : Ev a y) : Ev (fun k => bif decide p then a k else b k) y := Ev.t (decide_eq_true h) ha
theorem Ev.df {p : Prop} [Decidable p] {a b : Nat -> Option β} {y : β} (h : ¬ p) (hb : Ev b y) : Ev (fun k => bif decide p then a k else b k) y := Ev.f (decide_eq_false h) hb
theorem Ev.get {f : Nat -> Option β} {y : β} (h : Ev f y) : ∃ k, f k = some y := let ⟨k0, h0⟩ := h; ⟨k0, h0 k0 (Nat.le_refl _)⟩
theorem Ev.one {f : Nat -> Option β} {y z : β} (h : Ev f y) (h' : Ev f z) : y = z := by
 obtain ⟨k0, h0⟩ := h
 obtain ⟨k1, h1⟩ := h'
 have := (h0 (max k0 k1) (by omega)).symm.trans (h1 (max k0 k1) (by omega))
 exact Option.some.inj this
theorem Ev.all {f : Nat -> Option β} {y : β} (h : ∀ k, f k = some y) : Ev f y := ⟨0, fun k _ => h k⟩
theorem beq_i {a b : Int} (h : a = b) : (a == b) = true := by subst h; exact beq_self_eq_true _
theorem bne_i {a b : Int} (h : a ≠ b) : (a == b) = false := beq_eq_false_iff_ne.2 h
theorem nbeq_i {a b : Int} (h : a = b) : (a != b) = false := by subst h; simp
theorem nbne_i {a b : Int} (h : a ≠ b) : (a != b) = true := by simpa using h
end
end Go.Proofs.YtfhphiedbdinmaaGreatDoor.A
namespace Go.Proofs.YtfhphiedbdinmaaGreatDoor.Q
open Go.RowKit Go.Shelf
theorem range_all2 {α : Type} {P : Program} {g : Operand} {ps : Array Tmp} {assign body : Code} {Q : Exit -> Act -> World -> Prop} {a : Act} {w : World} {gf : Nat} {lb : Array Value}
 (hg : a.eval g = .func (.func gf) #[] lb) (eg : ∀ args w, (callFunc gf args).run P w = .ok (.enter gf args) w)
 {encs : α -> Array Value} {Bn tB : Nat} {xs : List α} (hBn : Bn < w.heap.size) (hseq : ∀ W, (∀ k, k < w.heap.size -> W.heap[k]? = w.heap[k]?) -> SeqAll P gf lb encs Bn tB xs W) (hps : ∀ x, (encs x).size = ps.size)
 (I : List α -> World -> Prop)
 (hI : ∀ pre W W' row, I pre W -> W.grownBy W' row -> (∀ r, row = some r -> r = Bn \/ (w.heap.size <= r /\ ∃ o : Obj, W.heap[r]? = some o /\ o.isCells = false)) -> I pre W')
 (h0 : I [] w) (a₁ : α -> Act)
 (hassign : ∀ (l : Nat) (x : α) (W : World) (K : Act -> World -> Prop), K (a₁ x) W ->
  assign.wpIn (Fence.wide.inRound l) 0 P (Exit.then K (fun _ _ _ => False)) { tmps := (ps.zip (encs x)).foldl (fun t (p, v) => t.setIfInBounds p v) a.tmps, defers := [] } W)
 (hbody : ∀ (l : Nat) (pre : List α) (x : α) (post : List α) (W : World), xs = pre ++ x :: post -> I pre W -> (∃ cs, W.heap[Bn]? = some (.cells cs tB (0, 0))) -> body.wpIn (Fence.wide.inRound l) 0 P (roundGoes I Bn (pre ++ [x]) W) (a₁ x) W)
 (hdone : ∀ (D : Nat) (W : World), w.heap.size <= D -> I xs W -> W.heap[D]? = some (.deferred (some [])) -> Q .normal { a with defers := { target := .collected D, args := #[] } :: a.defers } W) :
 (Code.rangeFunc g ps assign body).wpIn Fence.wide 0 P Q a w := by
 refine wpIn_rangeFunc ?_
 intro fn hfn
 obtain ⟨rec, hrec⟩ : ∃ rec : LoopState -> Option Code -> Loop, rec = fun st pe => { state := st, pending := pe, fn, tmps := a.tmps, params := ps, assign, body, defers := w.heap.size } := ⟨_, rfl⟩
 obtain ⟨W1, hW1⟩ : ∃ W1, (w.alloc (.deferred (some []))).alloc (.loop (rec .ready none)) = W1 := ⟨_, rfl⟩
 have hL1 : W1.heap[w.heap.size + 1]? = some (.loop (rec .ready none)) := by
  rw [<- hW1]; have := World.alloc_heap_new (w.alloc (.deferred (some []))) (.loop (rec .ready none)); rwa [World.size_alloc] at this
 have hK1 : W1.heap[w.heap.size]? = some (.deferred (some [])) := by
  rw [<- hW1]; exact (Below.heap_alloc _ _ _ (by simp)).trans (World.alloc_heap_new w _)
 have hB1 : ∀ k, k < w.heap.size -> W1.heap[k]? = w.heap[k]? := fun k hk => by
  rw [<- hW1, Below.heap_alloc _ _ _ (by simp; omega), Below.heap_alloc _ _ _ hk]
 have hI1 : I [] W1 := by
  rw [<- hW1]
  exact hI _ _ _ none (hI _ _ _ none h0 (World.grownBy_alloc _ _ _) (fun r e => by cases e)) (World.grownBy_alloc _ _ _) (fun r e => by cases e)
 have turnL : ∀ {pre W o} (o' : Obj), I pre W -> W.heap[w.heap.size + 1]? = some o -> o.isCells = false -> I pre (W.putObj (w.heap.size + 1) o') := fun o' hi hl ho =>
  hI _ _ _ (some (w.heap.size + 1)) hi (grownBy_putObj' _ _ o') (fun r e => by cases e; exact .inr ⟨by omega, _, hl, ho⟩)
 refine ⟨w.heap.size + 1, [{ target := .collected w.heap.size, args := #[] }], W1, { target := .fn (.func gf) lb, args := #[.func (.yield (w.heap.size + 1)) #[] #[]] }, W1, gf,
  #[.func (.yield (w.heap.size + 1)) #[] #[]] ++ lb, W1, ?_, ?_, fun _ _ => trivial, ?_, fun h => by simp [Fence.wide] at h, ?_⟩
 . rw [<- hW1, hrec]; exact run_enterLoop_outer _ _ _ _ _
 . simp only [resolve, hg]
   simp [go_sem]
 . simp [invoke, go_sem, eg]
 . refine (hseq W1 hB1 (w.heap.size + 1)
    (fun pre W => I pre W /\ W.heap[w.heap.size + 1]? = some (.loop (rec .ready none)) /\ W.heap[w.heap.size]? = some (.deferred (some [])))
    (fun pre A B row hs hg' hr => ⟨hI pre A B row hs.1 hg' (fun r e => .inl (hr r e)),
     (hg'.block _ (Array.getElem?_eq_some_iff.1 hs.2.1).1 (fun e => by have := hr _ e.symm; omega)).trans hs.2.1,
     (hg'.block _ (Array.getElem?_eq_some_iff.1 hs.2.2).1 (fun e => by have := hr _ e.symm; omega)).trans hs.2.2⟩)
    ?_ ⟨hI1, hL1, hK1⟩).mono ?_
   . rintro pre x post W hxs ⟨hi, hl, hk⟩ hcs
     have hlt : w.heap.size + 1 < W.heap.size := (Array.getElem?_eq_some_iff.1 hl).1
     have hy := run_yield (P := P) (args := encs x) hl (by rw [hrec]; exact hps x)
     rw [hrec] at hy
     refine ⟨fn, _, assign, body, hy, roundIn_of_wpIn hfn (hassign _ x W _ ⟨_, run_beginRound hl (by rw [hrec]), ?_⟩)⟩
     have hl2 : (W.putObj (w.heap.size + 1) (.loop { rec .ready none with state := .busy })).heap[w.heap.size + 1]? = some (.loop { rec .ready none with state := .busy }) := World.putObj_heap_same hlt
     have hk2 : (W.putObj (w.heap.size + 1) (.loop { rec .ready none with state := .busy })).heap[w.heap.size]? = some (.deferred (some [])) := (World.putObj_heap_other (by omega)).trans hk
     have hb2 : (W.putObj (w.heap.size + 1) (.loop { rec .ready none with state := .busy })).heap[Bn]? = W.heap[Bn]? := World.putObj_heap_other (by omega)
     refine wpIn_mono (hbody _ pre x post _ hxs (turnL _ hi hl rfl) (by rw [hb2]; exact hcs)) ?_
     rintro e a3 W3 hp
     cases e with
     | normal =>
       obtain ⟨hk3, hb3, hi3⟩ := hp
       have hl3 := hk3.same _ _ hl2 rfl
       have hr := run_endRound (P := P) none hl3
       have hlt3 := (Array.getElem?_eq_some_iff.1 hl3).1
       rw [hrec] at hr hl3 ⊢
       exact ⟨_, _, hr, rfl, ⟨turnL _ hi3 hl3 rfl, World.putObj_heap_same hlt3, (World.putObj_heap_other (by omega)).trans (hk3.same _ _ hk2 rfl)⟩, (World.putObj_heap_other (by omega)).trans (hb3.trans hb2)⟩
     | ret => exact hp.elim
     | exit id => exact hp.elim
     | goto t => exact hp.elim
     | panic ch => exact hp.elim
     | outgrown => exact hp.elim
   . rintro e W2 ⟨⟨v, rfl⟩, hi, hl, hk⟩
     have he := run_endLoop (P := P) hl (by rw [hrec]; simp)
     rw [hrec] at he
     exact ⟨none, _, he, hdone _ _ (Nat.le_refl _) (turnL _ hi hl rfl) ((World.putObj_heap_other (by omega)).trans hk)⟩
theorem leaves_one {P : Program} {fn : Func} {tmps : Array Value} {R : Ending -> World -> Prop} {D : Nat} {W : World} (hD : W.heap[D]? = some (.deferred (some [])))
 (h : ∀ W', (∀ k, k ≠ D -> W'.heap[k]? = W.heap[k]?) -> W.grownBy W' (some D) -> LeavesIn Fence.wide 0 P fn tmps R [] .returning W') : LeavesInM Fence.wide 0 P fn tmps R (marksOf [D]) .returning W :=
 ⟨by simp, .inl ⟨D, _, rfl, run_takeDeferred hD, h _ (fun k hk => World.putObj_heap_other (fun e => hk e)) (grownBy_putObj' W D _)⟩⟩
end Go.Proofs.YtfhphiedbdinmaaGreatDoor.Q
