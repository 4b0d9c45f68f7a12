import Derived.Shelf.SlSortCmp.WholeK
import Derived.Shelf.SlSortCmp.NoneTotal
import Derived.Test.YtfhphiedbdinmaaGreatDoorAbI
import Derived.Test.YtfhphiedbdinmaaGreatDoorAbZ
import Derived.Test.YtfhphiedbdinmaaGreatDoorARange
import Derived.RegionIn
set_option linter.all false
namespace Go.Proofs.YtfhphiedbdinmaaGreatDoor.Q
open Go Go.RowKit Go.Shelf Go.Sort Ab
section
variable {α : Type} [Inhabited α]
theorem get_flatMap (enc : α -> List Value) (k : Nat) (hk : ∀ x, (enc x).length = k) : ∀ (l : List α) (t : Nat), t < l.length * k -> (l.flatMap enc)[t]? = (enc l[t / k]!)[t % k]?
 | [], t, h => by simp at h
 | x :: l, t, h => by
   rw [List.flatMap_cons, List.getElem?_append]
   have hk0 : 0 < k := by
    rcases Nat.eq_zero_or_pos k with e | e
    . subst e; simp at h
    . exact e
   rw [List.length_cons, Nat.add_mul, Nat.one_mul] at h
   split
   . rename_i h1
     rw [hk] at h1
     rw [Nat.div_eq_of_lt h1, Nat.mod_eq_of_lt h1]; rfl
   . rename_i h1
     rw [hk] at h1 ⊢
     obtain ⟨s, rfl⟩ : ∃ s, t = s + k := ⟨t - k, by omega⟩
     rw [Nat.add_sub_cancel, get_flatMap enc k hk l s (by omega), Nat.add_div_right _ hk0, Nat.add_mod_right]; rfl
theorem flatK_toList (enc : α -> List Value) (k : Nat) (hk : ∀ x, (enc x).length = k) (d : Array α) : (flatK enc k d).toList = d.toList.flatMap enc := by
 have hl : ∀ l : List α, (l.flatMap enc).length = l.length * k := by
  intro l
  induction l with
  | nil => simp
  | cons x l ih => rw [List.flatMap_cons, List.length_append, hk, ih, List.length_cons, Nat.add_mul]; omega
 apply List.ext_getElem?
 intro t
 by_cases ht : t < d.size * k
 . rw [get_flatMap enc k hk d.toList t (by simpa using ht)]
   have hk0 : 0 < k := by
    rcases Nat.eq_zero_or_pos k with e | e
    . subst e; simp at ht
    . exact e
   have hm := Nat.mod_lt t hk0
   have h1 : (flatK enc k d).toList[t]? = some (flatK enc k d)[t]! := by
    rw [getElem!_pos _ t (by simpa using ht)]; simp [ht]
   rw [h1, get_flatK enc k d t ht]
   have h2 : ∀ x : α, (enc x)[t % k]? = some (enc x)[t % k]! := fun x => by rw [getElem!_pos _ _ (by rw [hk]; exact hm)]; simp [hk, hm]
   have h3 : t / k < d.size := Nat.div_lt_of_lt_mul (by rw [Nat.mul_comm]; exact ht)
   have h4 : d.toList[t / k]! = d[t / k]! := by rw [getElem!_pos d.toList _ (by simpa using h3), getElem!_pos d _ h3]; simp
   rw [h2, h4]
 . rw [List.getElem?_eq_none (by simp; omega), List.getElem?_eq_none (by rw [hl]; simp; omega)]
theorem below_grow {B : Nat} {w : World} {m : Nat} (g off : Nat) (F : Array Value) (os : Array Obj) (hB : B <= g) (hs : B <= w.heap.size) : RowKit.Below B w (grow (putRow id (Sort.ahead w m) g off F) os) := by
 refine ⟨rfl, rfl, rfl, by simp, fun k hk => ?_⟩
 show ((putRow id (Sort.ahead w m) g off F).heap ++ os)[k]? = _
 rw [Array.getElem?_append_left (by simp; omega)]
 show ((Sort.ahead w m).heap.modify g _)[k]? = _
 rw [Array.getElem?_modify, if_neg (by omega)]
 rfl
theorem row_sorted {enc : α -> List Value} {k : Nat} (hk : ∀ x, (enc x).length = k) {w : World} {base n cap g m : Nat} {t : TypeId} {cur : Array Value} {d : Array α} {os : Array Obj}
 (hg : w.heap[g]? = some (.cells cur t (0, 0))) (hb : base <= g) (hn : d.size = n) (hc : n <= cap) (hm : cap <= maxLen) (hs : cur.size = cap * k) :
 (sortWorldK enc k w g 0 m d os).ownsRow base t k (.slice (some ⟨g, 0, none⟩) n cap) n (d.toList.flatMap enc) := by
 have hgl := (Array.getElem?_eq_some_iff.1 hg).1
 have hlen : (d.toList.flatMap enc).length = n * k := by
  have := congrArg List.length (flatK_toList enc k hk d)
  rw [<- this]; simp [hn]
 refine ⟨hlen, .inr ⟨g, cap, putCells id 0 (flatK enc k d) cur, rfl, hb, ?_, hc, hm, by simp [putCells, hs], ?_⟩⟩
 . show ((putRow id (Sort.ahead w m) g 0 _).heap ++ os)[g]? = _
   rw [Array.getElem?_append_left (by simp; exact hgl)]
   show ((Sort.ahead w m).heap.modify g _)[g]? = _
   rw [Array.getElem?_modify, if_pos rfl]
   show Option.map _ w.heap[g]? = _
   rw [hg]; rfl
 . have hle : n * k <= cap * k := Nat.mul_le_mul_right k hc
   rw [<- flatK_toList enc k hk]
   apply List.ext_getElem
   . rw [List.length_take]; simp only [putCells, Array.length_toList, Array.size_mapIdx, size_flatK, hs, hn]; exact Nat.min_eq_left hle
   . intro i h1 h2
     have h3 : i < n * k := by simpa [hn] using h2
     simp [putCells, hn, h3]
theorem holds_row {enc : α -> List Value} {k : Nat} (hk : ∀ x, (enc x).length = k) {w : World} {g n cap : Nat} {t : TypeId} {cur : Array Value} {l : List α}
 (hg : w.heap[g]? = some (.cells cur t (0, 0))) (hn : l.length = n) (hc : n <= cap) (hs : cur.size = cap * k) (ht : cur.toList.take (n * k) = l.flatMap enc) : HoldsK enc k w g 0 l.toArray := by
 intro j hj
 have hj' : j < n * k := by simpa [hn] using hj
 have hle : n * k <= cap * k := Nat.mul_le_mul_right k hc
 have e := flatK_toList enc k hk l.toArray
 constructor
 . rw [Nat.zero_add, cell_of_row w g j cur t (0, 0) hg]
   have h1 : (flatK enc k l.toArray)[j]! = (flatK enc k l.toArray).toList[j]'(by simpa using hj) := by rw [getElem!_pos _ j hj]; simp
   rw [h1]
   have h2 : (flatK enc k l.toArray).toList = cur.toList.take (n * k) := by rw [e, ht]
   have h3 : cur[j]? = (cur.toList.take (n * k))[j]? := by rw [List.getElem?_take_of_lt hj']; simp
   rw [h3, <- h2]
   simp [hn, hj']
 . simp [World.frozen?, hg]
theorem below_is_grow {w w' : World} (h : RowKit.Below w.heap.size w w') (hd : w.drawn <= w'.drawn) : ∃ q os, w' = grow (w.drewN q) os := by
 refine ⟨w'.drawn - w.drawn, w'.heap.extract w.heap.size w'.heap.size, ?_⟩
 obtain ⟨h1, h2, h3, h4, h5⟩ := h
 have e : w'.heap = w.heap ++ w'.heap.extract w.heap.size w'.heap.size := by
  apply Array.ext_getElem?
  intro k
  rw [Array.getElem?_append]
  split
  . exact h5 k ‹_›
  . rw [Array.getElem?_extract]; split
    . congr 1; omega
    . rw [Array.getElem?_eq_none]; omega
 cases w; cases w'
 simp only [grow, World.drewN] at *
 subst h1 h2 h3
 rw [<- e]; congr 1; omega
theorem cmpLays_of {P : Program} {c : FuncId} {g : Sig} (hok : FnOk P c g) {enc : α -> List Value} {k : Nat} {cf : α -> α -> Int} {blk off size : Nat} {w : World}
 (h : ∀ x y : α, ∃ a, ArgsRep (fun _ => none) g.args a [.agg (enc x).toArray, .agg (enc y).toArray] /\ ∃ r, g.den a = some r /\ ∀ S' u, ResRep S' g.res r u -> u = .int .i64 (cf x y)) :
 CmpLays P c #[] enc k cf blk off size w := by
 intro m os dk hs x y
 obtain ⟨a, ha, r, hr, hres⟩ := h x y
 have hc := hok.calls a r hr (fun _ => none) (sortWorldK enc k w blk off m dk os) [.agg (enc x).toArray, .agg (enc y).toArray] trivial (fun p v h => by cases h) ha
 refine (Calls.drawn hc).mono ?_
 rintro e w' ⟨⟨u, S', rfl, h1, h2, h3, h4, h5⟩, hd⟩
 refine ⟨by rw [hres S' u h4], below_is_grow h5 (hd u rfl)⟩
end
section
open Go.RowKit Go.Shelf
def SeqGo {α : Type} (P : Program) (g : Nat) (lb : Array Value) (encs : α -> Array Value) (Qw : World -> Prop) (xs : List α) (W : World) : Prop :=
 ∀ (l : Nat) (J : List α -> World -> Prop), (∀ pre W1, J pre W1 -> Qw W1) ->
  (∀ pre W1 W2, J pre W1 -> W1.grownBy W2 none -> J pre W2) ->
  (∀ pre x post W1, xs = pre ++ x :: post -> J pre W1 -> YieldAt Fence.wide 0 P l (encs x) W1 fun e W' => e = .returned (.bool true) /\ J (pre ++ [x]) W') ->
  J [] W ->
  CallsIn Fence.wide 0 P g (#[.func (.yield l) #[] #[]] ++ lb) W fun e W' => (∃ v, e = .returned v) /\ J xs W'
def roundOn {α : Type} (I : List α -> World -> Prop) (pre : List α) (W : World) : Exit -> Act -> World -> Prop
 | .normal, _, W' => KeepsOthers W W' /\ I pre W'
 | _, _, _ => False
theorem range_all0 {α : Type} {P : Program} {g : Operand} {ps : Array Tmp} {assign body : Code} {Q : Exit -> Act -> World -> Prop} {a : Act} {w : World} {gf : Nat} {lb : Array Value}
 (hg : a.eval g = .func (.func gf) #[] lb) (eg : ∀ args w, (callFunc gf args).run P w = .ok (.enter gf args) w)
 {encs cs : α -> Array Value} {tB : Nat} {Qw : World -> Prop} {xs : List α} (hseq : ∀ W, Below w.heap.size w W -> SeqGo P gf lb encs Qw xs W) (hps : ∀ x, (encs x).size = ps.size)
 (I : List α -> World -> Prop) (hQ : ∀ pre W, I pre W -> Qw W)
 (hI : ∀ pre W W' row, I pre W -> W.grownBy W' row -> (∀ r, row = some r -> w.heap.size <= r /\ ∃ o : Obj, W.heap[r]? = some o /\ o.isCells = false) -> I pre W')
 (h0 : I [] w) (a₁ : α -> Nat -> Act)
 (hassign : ∀ (l : Nat) (x : α) (W : World) (K : Act -> World -> Prop), (∀ W', W.grownBy W' none -> W'.heap[W.heap.size]? = some (.cells (cs x) tB (0, 0)) -> K (a₁ x W.heap.size) W') ->
  assign.wpIn (Fence.wide.inRound l) 0 P (Exit.then K (fun _ _ _ => False)) { tmps := (ps.zip (encs x)).foldl (fun t (p, v) => t.setIfInBounds p v) a.tmps, defers := [] } W)
 (hbody : ∀ (l : Nat) (pre : List α) (x : α) (post : List α) (W : World) (b : Nat), xs = pre ++ x :: post -> I pre W -> w.heap.size <= b -> W.heap[b]? = some (.cells (cs x) tB (0, 0)) -> body.wpIn (Fence.wide.inRound l) 0 P (roundOn I (pre ++ [x]) W) (a₁ x b) W)
 (hdone : ∀ (D : Nat) (W : World), w.heap.size <= D -> I xs W -> W.heap[D]? = some (.deferred (some [])) -> Q .normal { a with defers := { target := .collected D, args := #[] } :: a.defers } W) :
 (Code.rangeFunc g ps assign body).wpIn Fence.wide 0 P Q a w := by
 refine wpIn_rangeFunc ?_
 intro fn hfn
 obtain ⟨rec, hrec⟩ : ∃ rec : LoopState -> Option Code -> Loop, rec = fun st pe => { state := st, pending := pe, fn, tmps := a.tmps, params := ps, assign, body, defers := w.heap.size } := ⟨_, rfl⟩
 obtain ⟨W1, hW1⟩ : ∃ W1, (w.alloc (.deferred (some []))).alloc (.loop (rec .ready none)) = W1 := ⟨_, rfl⟩
 have hL1 : W1.heap[w.heap.size + 1]? = some (.loop (rec .ready none)) := by
  rw [<- hW1]; have := World.alloc_heap_new (w.alloc (.deferred (some []))) (.loop (rec .ready none)); rwa [World.size_alloc] at this
 have hK1 : W1.heap[w.heap.size]? = some (.deferred (some [])) := by
  rw [<- hW1]; exact (Below.heap_alloc _ _ _ (by simp)).trans (World.alloc_heap_new w _)
 have hB1 : Below w.heap.size w W1 := by rw [<- hW1]; exact ((Below.refl _ w).alloc (Nat.le_refl _) _).alloc (by simp) _
 have hI1 : I [] W1 := by
  rw [<- hW1]
  exact hI _ _ _ none (hI _ _ _ none h0 (World.grownBy_alloc _ _ _) (fun r e => by cases e)) (World.grownBy_alloc _ _ _) (fun r e => by cases e)
 have turnL : ∀ {pre W o} (o' : Obj), I pre W -> W.heap[w.heap.size + 1]? = some o -> o.isCells = false -> I pre (W.putObj (w.heap.size + 1) o') := fun o' hi hl ho =>
  hI _ _ _ (some (w.heap.size + 1)) hi (grownBy_putObj' _ _ o') (fun r e => by cases e; exact ⟨by omega, _, hl, ho⟩)
 refine ⟨w.heap.size + 1, [{ target := .collected w.heap.size, args := #[] }], W1, { target := .fn (.func gf) lb, args := #[.func (.yield (w.heap.size + 1)) #[] #[]] }, W1, gf,
  #[.func (.yield (w.heap.size + 1)) #[] #[]] ++ lb, W1, ?_, ?_, fun _ _ => trivial, ?_, fun h => by simp [Fence.wide] at h, ?_⟩
 . rw [<- hW1, hrec]; exact run_enterLoop_outer _ _ _ _ _
 . simp only [resolve, hg]
   simp [go_sem]
 . simp [invoke, go_sem, eg]
 . refine (hseq W1 hB1 (w.heap.size + 1)
    (fun pre W => I pre W /\ W.heap[w.heap.size + 1]? = some (.loop (rec .ready none)) /\ W.heap[w.heap.size]? = some (.deferred (some [])))
    (fun pre A hs => hQ pre A hs.1)
    (fun pre A B hs hg' => ⟨hI pre A B none hs.1 hg' (fun r e => by cases e),
     (hg'.block _ (Array.getElem?_eq_some_iff.1 hs.2.1).1 (by simp)).trans hs.2.1,
     (hg'.block _ (Array.getElem?_eq_some_iff.1 hs.2.2).1 (by simp)).trans hs.2.2⟩)
    ?_ ⟨hI1, hL1, hK1⟩).mono ?_
   . rintro pre x post W hxs ⟨hi, hl, hk⟩
     have hlt : w.heap.size + 1 < W.heap.size := (Array.getElem?_eq_some_iff.1 hl).1
     have hy := run_yield (P := P) (args := encs x) hl (by rw [hrec]; exact hps x)
     rw [hrec] at hy
     refine ⟨fn, _, assign, body, hy, roundIn_of_wpIn hfn (hassign _ x W _ fun V hV hVb => ?_)⟩
     have hsz : W.heap.size <= V.heap.size := hV.size
     have hlV : V.heap[w.heap.size + 1]? = some (.loop (rec .ready none)) := (hV.block _ hlt (by simp)).trans hl
     have hkV : V.heap[w.heap.size]? = some (.deferred (some [])) := (hV.block _ (by omega) (by simp)).trans hk
     have hiV : I pre V := hI pre W V none hi hV (fun r e => by cases e)
     refine ⟨_, run_beginRound hlV (by rw [hrec]), ?_⟩
     have hl2 : (V.putObj (w.heap.size + 1) (.loop { rec .ready none with state := .busy })).heap[w.heap.size + 1]? = some (.loop { rec .ready none with state := .busy }) := World.putObj_heap_same (by omega)
     have hk2 : (V.putObj (w.heap.size + 1) (.loop { rec .ready none with state := .busy })).heap[w.heap.size]? = some (.deferred (some [])) := (World.putObj_heap_other (by omega)).trans hkV
     have hb2 : (V.putObj (w.heap.size + 1) (.loop { rec .ready none with state := .busy })).heap[W.heap.size]? = some (.cells (cs x) tB (0, 0)) := (World.putObj_heap_other (by omega)).trans hVb
     refine wpIn_mono (hbody _ pre x post _ W.heap.size hxs (turnL _ hiV hlV rfl) (by omega) hb2) ?_
     rintro e a3 W3 hp
     cases e with
     | normal =>
       obtain ⟨hk3, hi3⟩ := hp
       have hl3 := hk3.same _ _ hl2 rfl
       have hr := run_endRound (P := P) none hl3
       have hlt3 := (Array.getElem?_eq_some_iff.1 hl3).1
       rw [hrec] at hr hl3 ⊢
       exact ⟨_, _, hr, rfl, turnL _ hi3 hl3 rfl, World.putObj_heap_same hlt3, (World.putObj_heap_other (by omega)).trans (hk3.same _ _ hk2 rfl)⟩
     | ret => exact hp.elim
     | exit id => exact hp.elim
     | goto t => exact hp.elim
     | panic ch => exact hp.elim
     | outgrown => exact hp.elim
   . rintro e W2 ⟨⟨v, rfl⟩, hi, hl, hk⟩
     have he := run_endLoop (P := P) hl (by rw [hrec]; simp)
     rw [hrec] at he
     exact ⟨none, _, he, hdone _ _ (Nat.le_refl _) (turnL _ hi hl rfl) ((World.putObj_heap_other (by omega)).trans hk)⟩
end
section
open Go Go.RowKit Go.Shelf
attribute [local go_sem] Oper.semAt_some
abbrev EA := Int × Int × Int × Int × Int × Int × Unit
def cA (x : EA) : List Value := [.int .i64 x.1, .int .i64 x.2.1, .int .i64 x.2.2.1, .int .i64 x.2.2.2.1, .int .i64 x.2.2.2.2.1, .int .i64 x.2.2.2.2.2.1]
theorem add_plain (b o n : Nat) : (Addr.mk b o none).add n = ⟨b, o + n, none⟩ := by unfold Addr.add; split <;> simp_all
theorem spot_none {w : World} {a : Addr} {v : Value} (h : w.cell? a = some v) : a.spot = none := by
 unfold World.cell? at h; split at h
 . split at h
   . cases h
   . rename_i h1; simpa using h1
 . cases h
def LiesA (l : List EA) (A : Option Addr) (w : World) : Prop := ∀ (i : Nat) (x : EA), l[i]? = some x -> ∃ ad, A = some ad /\ ad.block < w.heap.size /\ ∀ j u, (cA x)[j]? = some u -> w.cell? (ad.add (i * 6 + j)) = some u
set_option maxHeartbeats 4000000 in
set_option maxRecDepth 100000 in
theorem valsA (l : List EA) (A : Option Addr) (c Bm : Nat) (w : World) (hB : Bm < w.heap.size) (hm : w.cell? ⟨Bm, 0, none⟩ = some (.slice A l.length c)) (hl : LiesA l A w) (hlen : l.length <= 1000000000000) (W : World) (hW : Below w.heap.size w W) :
 SeqGo Tryz.prog 216 #[.pointer (some ⟨Bm, 0, none⟩)] (fun x : EA => #[.agg (cA x).toArray]) (fun W' => Below w.heap.size w W') l W := by
 intro lp J hQ hK hY h0
 have HY := Sd.mk hY
 have HK := Sd.mk hK
 have HQ := Sd.mk hQ
 have HL := Sd.mk hl
 clear hY hK hQ hl
 have hfn : ∀ f, Fence.wide.fn f := fun _ => trivial
 have hdp : Fence.wide.depth = none := rfl
 have hm2 : W.cell? ⟨Bm, 0, none⟩ = some (.slice A l.length c) := (hW.cell hB).trans hm
 refine callsIn_of_wp Tryz.func216 rfl trivial ?_ rfl
 simp only [Tryz.ntmps216, List.size_toArray, List.length_cons, List.length_nil, Nat.reduceAdd, Nat.reduceSub, Array.replicate_succ, Array.replicate_zero, List.push_toArray, List.append_toArray, List.nil_append, List.cons_append]
 gi_wp2
 gi_loopw [7] (fun v wr => ∃ i : Nat, v = .int .i64 (i : Int) /\ i <= l.length /\ Sd (J (l.take i) wr)) (fun v _ => l.length - (intOf v).toNat)
 case atStart => exact ⟨0, rfl, Nat.zero_le _, ⟨by simpa using h0⟩⟩
 case round =>
  obtain ⟨i, rfl, hi, HJ⟩ := hrel
  by_cases hlt : i < l.length
  . obtain ⟨ad, e, hab, hx⟩ := HL.out i l[i] (List.getElem?_eq_getElem hlt)
    subst e
    have hsp : ad.spot = none := by
     obtain ⟨ad', e, _, hx0⟩ := HL.out 0 l[0] (List.getElem?_eq_getElem (by omega))
     obtain rfl : ad = ad' := by simpa using e
     exact spot_none (hx0 0 _ rfl)
    obtain ⟨ab, ao, asp⟩ := ad
    obtain rfl : asp = none := hsp
    have hbw := HQ.out _ _ HJ.out
    have hx' : ∀ j u, (cA l[i])[j]? = some u -> wr.cell? ⟨ab, ao + (i * 6 + j), none⟩ = some u := fun j u hj => (hbw.cell (p := ⟨ab, ao + (i * 6 + j), none⟩) hab).trans (by rw [<- add_plain]; exact hx j u hj)
    have h0 := hx' 0 _ rfl
    have h1 := hx' 1 _ rfl
    have h2 := hx' 2 _ rfl
    have h3 := hx' 3 _ rfl
    have h4 := hx' 4 _ rfl
    have h5 := hx' 5 _ rfl
    clear hx'
    clear hx hbw hab
    have hxs : l = l.take i ++ l[i] :: l.drop (i + 1) := by rw [List.getElem_cons_drop, List.take_append_drop]
    have HX := Sd.mk (show l.take (i + 1) = l.take i ++ [l[i]] by rw [List.take_succ_eq_append_getElem hlt])
    generalize l[i] = x at h0 h1 h2 h3 h4 h5 HX hxs
    obtain ⟨x1, x2, x3, x4, x5, x6, x7⟩ := x
    obtain ⟨fn, tmps, assign, body, hy, hR⟩ := HY.out _ _ _ (wr.alloc (.cells #[.int .i64 x1, .int .i64 x2, .int .i64 x3, .int .i64 x4, .int .i64 x5, .int .i64 x6] 108)) hxs (HK.out _ _ _ HJ.out (World.grownBy_alloc _ _ _))
    clear hxs
    dsimp only [cA, List.toArray] at hy
    simp only [<- Nat.add_assoc, Nat.add_zero] at h0 h1 h2 h3 h4 h5
    have hap : ∀ n, (Addr.mk ab ao none).add n = ⟨ab, ao + n, none⟩ := add_plain ab ao
    gi_wp2
    refine hR.mono ?_
    rintro e W3 ⟨rfl, hJ3⟩
    have HJ3 := Sd.mk hJ3
    clear hJ3
    gi_wp2
    go_roundw
    case rel => exact ⟨i + 1, by first | rfl | go_num | (congr 1), by omega, ⟨by rw [HX.out]; exact HJ3.out⟩⟩
    case measure => simp [intOf]; omega
  . gi_wp2
    go_end0
    have : l.take i = l := List.take_of_length_le (by omega)
    exact ⟨⟨_, rfl⟩, by rw [<- this]; exact HJ.out⟩
end
section
open Go Go.RowKit Go.Shelf
attribute [local go_sem] Oper.semAt_some
theorem owns_cells {W : World} {base n sz : Nat} {t : TypeId} {v : Value} {xs : List Value} (h : W.ownsRow base t sz v n xs) : ∀ g, v.ownBlock = some g -> base <= g /\ ∃ c fz, W.heap[g]? = some (.cells c t fz) := by
 intro g hg
 rcases h.2 with ⟨rfl, _⟩ | ⟨g', cap, cur, rfl, hB, hh, _⟩
 . simp [Value.ownBlock] at hg
 . simp [Value.ownBlock] at hg
   subst hg
   exact ⟨hB, _, _, hh⟩
def AppI (S0 : Nat) (w : World) (pre : List EA) (W : World) : Prop :=
 (∃ v, W.heap[S0]? = some (.cells #[v] 49 (0, 0)) /\ W.ownsRow (S0 + 1) 108 6 v pre.length (pre.flatMap cA)) /\ Below S0 w W /\ S0 + 1 <= W.heap.size
theorem AppI.kept {S0 : Nat} {w : World} {pre : List EA} {W W' : World} {row : Option Nat} (h : AppI S0 w pre W) (hg : W.grownBy W' row) (hr : ∀ r, row = some r -> S0 + 1 <= r /\ ∃ o : Obj, W.heap[r]? = some o /\ o.isCells = false) : AppI S0 w pre W' := by
 obtain ⟨⟨v, h3, h4⟩, h5, h6⟩ := h
 refine ⟨⟨v, (hg.block _ (by omega) (fun e => by have := hr _ e.symm; omega)).trans h3, h4.kept hg ?_⟩, h5.grown hg (by omega) (fun r e => by have := (hr r e).1; omega), by have := hg.size; omega⟩
 cases e : v.ownBlock with
 | none => exact .inl rfl
 | some g =>
   refine .inr fun e2 => ?_
   obtain ⟨k1, c, fz, k2⟩ := owns_cells h4 g e
   obtain ⟨_, o, ho, hc⟩ := hr g e2.symm
   rw [k2] at ho; cases ho; cases hc
set_option maxHeartbeats 4000000 in
set_option maxRecDepth 100000 in
theorem appA (l : List EA) (A : Option Addr) (c Bm : Nat) (w : World) (hB : Bm < w.heap.size) (hm : w.cell? ⟨Bm, 0, none⟩ = some (.slice A l.length c)) (hl : LiesA l A w) (hlen : l.length <= 1000000000000) :
 Calls Tryz.prog 230 #[.slice none 0 0, .func (.func 216) #[] #[.pointer (some ⟨Bm, 0, none⟩)]] w
  fun e w' => ∃ v, e = .returned v /\ w'.ownsRow w.heap.size 108 6 v l.length (l.flatMap cA) /\ Below w.heap.size w w' := by
 refine (callsIn_wide (n := 0)).1 ?_
 have HL := Sd.mk hl
 have HM := Sd.mk hm
 clear hl hm
 have hfn : ∀ f, Fence.wide.fn f := fun _ => trivial
 have hdp : Fence.wide.depth = none := rfl
 obtain ⟨S0, hS0⟩ : ∃ S0, w.heap.size = S0 := ⟨_, rfl⟩
 have HS := Sd.mk hS0
 refine callsIn_of_wp_marks Tryz.func230 rfl trivial ?_ rfl
 simp only [Tryz.ntmps230, List.size_toArray, List.length_cons, List.length_nil, Nat.reduceAdd, Nat.reduceSub, Array.replicate_succ, Array.replicate_zero, List.push_toArray, List.append_toArray, List.nil_append, List.cons_append]
 gi_wp2
 obtain ⟨wr, hwr⟩ : ∃ wr, w.alloc (.cells #[.slice none 0 0] 49) = wr := ⟨_, rfl⟩
 have hsz : wr.heap.size = S0 + 1 := by rw [<- hwr]; simp; exact HS.out
 have b0 : wr.heap[S0]? = some (.cells #[.slice none 0 0] 49 (0, 0)) := by rw [<- hwr, <- HS.out]; exact World.alloc_heap_new w _
 have hbel : Below S0 w wr := by rw [<- hwr]; exact Below.alloc (Below.refl _ _) (Nat.le_of_eq HS.out.symm) _
 rw [hwr]
 have HB := Sd.mk (And.intro b0 (And.intro hbel hsz))
 clear b0 hbel hwr
 refine range_all0 (gf := 216) (lb := #[.pointer (some ⟨Bm, 0, none⟩)]) (encs := fun x : EA => #[.agg (cA x).toArray]) (cs := fun x => (cA x).toArray) (tB := 108) (xs := l) (Qw := fun W' => Below w.heap.size w W') rfl (enters_of Tryz.func216 (by kernel_rfl) rfl) ?seqR ?hpsR
  (AppI S0 w) ?hQR ?invR ?at0R (fun x b => { tmps := #[.slice none 0 0, .func (.func 216) #[] #[.pointer (some ⟨Bm, 0, none⟩)], .pointer (some ⟨S0, 0, none⟩), undef, .slice none 0 0, .pointer (some ⟨b, 0, none⟩), .func (.func 216) #[] #[.pointer (some ⟨Bm, 0, none⟩)], .agg (cA x).toArray, undef, undef, undef, undef, undef], defers := [] }) ?assignR ?bodyR ?doneR
 case hpsR => intro _; rfl
 case hQR => intro pre W h; rw [HS.out]; exact h.2.1
 case seqR =>
  intro W hW
  obtain ⟨b0, hbel, hsz⟩ := HB.out
  exact valsA l A c Bm w hB HM.out HL.out hlen W (by rw [HS.out]; exact hbel.trans (hW.mono (by omega)))
 case invR =>
  intro pre W W' row hI hg hr
  exact hI.kept hg (fun r e => ⟨by have := (hr r e).1; omega, (hr r e).2⟩)
 case at0R =>
  obtain ⟨b0, hbel, hsz⟩ := HB.out
  exact ⟨⟨.slice none 0 0, b0, ⟨rfl, .inl ⟨rfl, rfl⟩⟩⟩, hbel, by omega⟩
 case assignR =>
  intro ll x W K hK
  obtain ⟨x1, x2, x3, x4, x5, x6, x7⟩ := x
  dsimp only [cA, List.toArray] at hK ⊢
  gi_wp2
  exact hK _ (World.grownBy_alloc _ _ _) (World.alloc_heap_new _ _)
 case bodyR =>
  rintro ll pre x post W b hxs hI hb hbx
  have hHI := Sd.mk hI
  obtain ⟨⟨v, h3, h4⟩, h5, h6⟩ := hI
  obtain ⟨x1, x2, x3, x4, x5, x6, x7⟩ := x
  have c1 := bk_cell h3 0
  have f1 := bk_frozen h3 0
  have k0 := bk_cell hbx 0
  have k1 := bk_cell hbx 1
  have k2 := bk_cell hbx 2
  have k3 := bk_cell hbx 3
  have k4 := bk_cell hbx 4
  have k5 := bk_cell hbx 5
  simp only [cA, List.getElem?_toArray, List.getElem?_cons_zero, List.getElem?_cons_succ] at c1 k0 k1 k2 k3 k4 k5
  have HOWN := Sd.mk h4
  have HXS := Sd.mk hxs
  have HH := Sd.mk (And.intro h3 (And.intro h5 (And.intro h6 hb)))
  clear h3 h4 h5 h6 hxs hbx hb
  obtain ⟨i0, hi, hz0, hz1, hz2⟩ := info_parts (P := Tryz.prog) (e := 108) (z := .agg #[.int .i64 0, .int .i64 0, .int .i64 0, .int .i64 0, .int .i64 0, .int .i64 0]) (size := 6) (bytes := 48) (by kernel_rfl)
  dsimp only [cA, List.toArray]
  gi_wp2_with (gi_at_builtin; refine wpListIn_append_own _ rfl _ _ 49 rfl (S0 + 1) 108 i0 (.agg #[.int .i64 0, .int .i64 0, .int .i64 0, .int .i64 0, .int .i64 0, .int .i64 0]) 6 48 Tryz.underlying49 hi hz0 hz1 hz2 rfl (by decide) _ _ _ rfl (HOWN.out.alloc _) ⟨W.heap.size, 0, none⟩ 1 1 [.int .i64 x1, .int .i64 x2, .int .i64 x3, .int .i64 x4, .int .i64 x5, .int .i64 x6] rfl rfl ?zc1 ?zc2 ?zc3 ?zc4 ?zc5 ?_)
  case zc1 =>
   intro j u hj
   rw [add_plain, Nat.zero_add]
   exact (bk_cell (World.alloc_heap_new W _) j).trans (by rw [<- hj]; simp)
  case zc2 => intro u hu; simp at hu; rcases hu with rfl | rfl | rfl | rfl | rfl | rfl <;> rfl
  case zc3 => have h1 := congrArg List.length HXS.out; rw [List.length_append, List.length_cons] at h1; unfold maxLen; omega
  case zc4 => have h1 := congrArg List.length HXS.out; rw [List.length_append, List.length_cons] at h1; omega
  case zc5 => have := HH.out.2.2.1; simp; omega
  intro v' w2 hown' hgrow _
  obtain ⟨h3, h5, h6, hb⟩ := HH.out
  have hne : ∀ k, k < S0 + 1 -> some k ≠ v.ownBlock := fun k hk e => by
   obtain ⟨q1, _⟩ := owns_cells HOWN.out k e.symm
   omega
  have k3 : w2.heap[S0]? = some (.cells #[v] 49 (0, 0)) := (hgrow.block S0 (by simp; omega) (hne S0 (by omega))).trans ((Below.heap_alloc W _ S0 (by omega)).trans h3)
  have d1 := bk_cell k3 0
  have e1 := bk_frozen k3 0
  simp only [List.getElem?_toArray, List.getElem?_cons_zero] at d1
  obtain ⟨g, cap, rfl⟩ : ∃ g cap, v' = .slice (some ⟨g, 0, none⟩) (pre.length + 1) cap := by
   rcases hown'.2 with ⟨_, h0⟩ | ⟨g, cap, cur, hv, _⟩
   . omega
   . exact ⟨g, cap, hv⟩
  have HF := Sd.mk (And.intro k3 (And.intro hown' (And.intro hgrow (And.intro h5 h6))))
  clear k3 hown' hgrow h3 h5 h6
  gi_wp2
  obtain ⟨k3, hown', hgrow, h5, h6⟩ := HF.out
  obtain ⟨h3, _, _, _⟩ := HH.out
  have gset : ∀ (V : World) (p : Addr) (u : Value), V.grownBy (V.setCell p u) (some p.block) := fun V p u => ⟨rfl, rfl, rfl, by simp [World.setCell], fun k _ hk => Below.heap_setCell _ _ _ _ (fun e => hk (by simp [e]))⟩
  have hgne : g ≠ S0 := by
   obtain ⟨q1, _⟩ := owns_cells hown' g rfl
   omega
  have hsz2 : W.heap.size <= w2.heap.size := by have := hgrow.size; simp at this; omega
  refine ⟨⟨by simp [World.setCell]; exact hsz2, fun k o hk ho => ?_⟩, ?_, ?_, ?_⟩
  . have n1 : k ≠ S0 := fun e => by rw [e, h3] at hk; cases hk; cases ho
    have n3 : some k ≠ v.ownBlock := fun e => by
     obtain ⟨_, c, fz, q⟩ := owns_cells HOWN.out k e.symm
     rw [q] at hk; cases hk; cases ho
    have hkl := (Array.getElem?_eq_some_iff.1 hk).1
    rw [Below.heap_setCell _ _ _ _ n1, hgrow.block k (by simp; omega) n3, Below.heap_alloc _ _ _ hkl]
    exact hk
  . refine ⟨.slice (some ⟨g, 0, none⟩) (pre.length + 1) cap, bk_put k3 0 _ rfl, ?_⟩
    rw [List.length_append, List.length_singleton, List.flatMap_append]
    refine World.ownsRow.kept hown' (gset _ _ _) (.inr ?_)
    simp [Value.ownBlock]; exact hgne
  . exact ((h5.alloc (by omega) _).grown hgrow (by simp; omega) (fun k hk => by have := (owns_cells HOWN.out k hk).1; omega)).setCell (Nat.le_refl _) _
  . simp [World.setCell]; omega
 case doneR =>
  rintro D W hD hI hDf
  obtain ⟨⟨v, h3, h4⟩, h5, h6⟩ := hI
  have c1 := bk_cell h3 0
  simp only [List.getElem?_toArray, List.getElem?_cons_zero] at c1
  have HH := Sd.mk (And.intro h3 (And.intro h4 (And.intro h5 (And.intro h6 hDf))))
  clear h3 h4 h5 h6 hDf
  gi_wp2
  refine leaves_one (D := D) (W := W) HH.out.2.2.2.2 (fun W' hk hg => ?_)
  obtain ⟨h3, h4, h5, h6, hDf⟩ := HH.out
  have hrow : W'.ownsRow (S0 + 1) 108 6 v l.length (l.flatMap cA) := by
   refine World.ownsRow.kept (w := W) h4 hg ?_
   . cases e : v.ownBlock with
     | none => exact .inl rfl
     | some g =>
       refine .inr fun e2 => ?_
       injection e2 with e2
       subst e2
       obtain ⟨_, c, fz, k2⟩ := owns_cells h4 _ e
       rw [k2] at hDf; cases hDf
  refine ⟨v, by simp [results, Tryz.results230, go_sem], v, rfl, ?_, ?_⟩
  . rw [HS.out]
    refine ⟨hrow.1, ?_⟩
    rcases hrow.2 with hn | ⟨g, cap, cur, hv, hbg, rest⟩
    . exact .inl hn
    . exact .inr ⟨g, cap, cur, hv, by omega, rest⟩
  . rw [HS.out]
    exact h5.grown hg (by omega) (fun r e => by cases e; omega)
set_option maxHeartbeats 1000000 in
theorem collectA (l : List EA) (A : Option Addr) (c Bm : Nat) (w : World) (hB : Bm < w.heap.size) (hm : w.cell? ⟨Bm, 0, none⟩ = some (.slice A l.length c)) (hl : LiesA l A w) (hlen : l.length <= 1000000000000) :
 Calls Tryz.prog 214 #[.func (.func 216) #[] #[.pointer (some ⟨Bm, 0, none⟩)]] w
  fun e w' => ∃ v, e = .returned v /\ w'.ownsRow w.heap.size 108 6 v l.length (l.flatMap cA) /\ Below w.heap.size w w' := by
 have hc := appA l A c Bm w hB hm hl hlen
 clear hB hm hl hlen
 go_enter Tryz.func214, Tryz.ntmps214
 go_wp2_with (go_at_call 230; refine hc.mono ?_; rintro e w' ⟨v, rfl, hown, hb⟩)
 go_ret
 exact ⟨v, rfl, hown, hb⟩
end
end Go.Proofs.YtfhphiedbdinmaaGreatDoor.Q
