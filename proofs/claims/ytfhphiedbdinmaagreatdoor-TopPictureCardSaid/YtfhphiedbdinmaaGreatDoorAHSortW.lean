import Derived.Test.YtfhphiedbdinmaaGreatDoorAHSortA
set_option linter.all false
namespace Go.Proofs.YtfhphiedbdinmaaGreatDoor.Q
open Go Go.RowKit Go.Shelf
section
attribute [local go_sem] Oper.semAt_some
abbrev EW := Int × Int × Int × Unit
def cW (x : EW) : List Value := [.int .i64 x.1, .int .i64 x.2.1, .int .i64 x.2.2.1]
def LiesW (l : List EW) (A : Option Addr) (w : World) : Prop := ∀ (i : Nat) (x : EW), l[i]? = some x -> ∃ ad, A = some ad /\ ad.block < w.heap.size /\ ∀ j u, (cW x)[j]? = some u -> w.cell? (ad.add (i * 3 + j)) = some u
set_option maxHeartbeats 4000000 in
set_option maxRecDepth 100000 in
theorem valsW (l : List EW) (A : Option Addr) (c Bm : Nat) (w : World) (hB : Bm < w.heap.size) (hm : w.cell? ⟨Bm, 0, none⟩ = some (.slice A l.length c)) (hl : LiesW l A w) (hlen : l.length <= 1000000000000) (W : World) (hW : Below w.heap.size w W) :
 SeqGo Tryz.prog 239 #[.pointer (some ⟨Bm, 0, none⟩)] (fun x : EW => #[.agg (cW x).toArray]) (fun W' => Below w.heap.size w W') l W := by
 intro lp J hQ hK hY h0
 have HY := Sd.mk hY
 have HK := Sd.mk hK
 have HQ := Sd.mk hQ
 have HL := Sd.mk hl
 clear hY hK hQ hl
 have hfn : ∀ f, Fence.wide.fn f := fun _ => trivial
 have hdp : Fence.wide.depth = none := rfl
 have hm2 : W.cell? ⟨Bm, 0, none⟩ = some (.slice A l.length c) := (hW.cell hB).trans hm
 refine callsIn_of_wp Tryz.func239 rfl trivial ?_ rfl
 simp only [Tryz.ntmps239, List.size_toArray, List.length_cons, List.length_nil, Nat.reduceAdd, Nat.reduceSub, Array.replicate_succ, Array.replicate_zero, List.push_toArray, List.append_toArray, List.nil_append, List.cons_append]
 gi_wp2
 gi_loopw [7] (fun v wr => ∃ i : Nat, v = .int .i64 (i : Int) /\ i <= l.length /\ Sd (J (l.take i) wr)) (fun v _ => l.length - (intOf v).toNat)
 case atStart => exact ⟨0, rfl, Nat.zero_le _, ⟨by simpa using h0⟩⟩
 case round =>
  obtain ⟨i, rfl, hi, HJ⟩ := hrel
  by_cases hlt : i < l.length
  . obtain ⟨ad, e, hab, hx⟩ := HL.out i l[i] (List.getElem?_eq_getElem hlt)
    subst e
    have hsp : ad.spot = none := by
     obtain ⟨ad', e, _, hx0⟩ := HL.out 0 l[0] (List.getElem?_eq_getElem (by omega))
     obtain rfl : ad = ad' := by simpa using e
     exact spot_none (hx0 0 _ rfl)
    obtain ⟨ab, ao, asp⟩ := ad
    obtain rfl : asp = none := hsp
    have hbw := HQ.out _ _ HJ.out
    have hx' : ∀ j u, (cW l[i])[j]? = some u -> wr.cell? ⟨ab, ao + (i * 3 + j), none⟩ = some u := fun j u hj => (hbw.cell (p := ⟨ab, ao + (i * 3 + j), none⟩) hab).trans (by rw [<- add_plain]; exact hx j u hj)
    have h0 := hx' 0 _ rfl
    have h1 := hx' 1 _ rfl
    have h2 := hx' 2 _ rfl
    clear hx'
    clear hx hbw hab
    have hxs : l = l.take i ++ l[i] :: l.drop (i + 1) := by rw [List.getElem_cons_drop, List.take_append_drop]
    have HX := Sd.mk (show l.take (i + 1) = l.take i ++ [l[i]] by rw [List.take_succ_eq_append_getElem hlt])
    generalize l[i] = x at h0 h1 h2 HX hxs
    obtain ⟨x1, x2, x3, x7⟩ := x
    obtain ⟨fn, tmps, assign, body, hy, hR⟩ := HY.out _ _ _ (wr.alloc (.cells #[.int .i64 x1, .int .i64 x2, .int .i64 x3] 160)) hxs (HK.out _ _ _ HJ.out (World.grownBy_alloc _ _ _))
    clear hxs
    dsimp only [cW, List.toArray] at hy
    simp only [<- Nat.add_assoc, Nat.add_zero] at h0 h1 h2
    have hap : ∀ n, (Addr.mk ab ao none).add n = ⟨ab, ao + n, none⟩ := add_plain ab ao
    gi_wp2
    refine hR.mono ?_
    rintro e W3 ⟨rfl, hJ3⟩
    have HJ3 := Sd.mk hJ3
    clear hJ3
    gi_wp2
    go_roundw
    case rel => exact ⟨i + 1, by first | rfl | go_num | (congr 1), by omega, ⟨by rw [HX.out]; exact HJ3.out⟩⟩
    case measure => simp [intOf]; omega
  . gi_wp2
    go_end0
    have : l.take i = l := List.take_of_length_le (by omega)
    exact ⟨⟨_, rfl⟩, by rw [<- this]; exact HJ.out⟩
end
section
attribute [local go_sem] Oper.semAt_some
def AppIW (S0 : Nat) (w : World) (pre : List EW) (W : World) : Prop :=
 (∃ v, W.heap[S0]? = some (.cells #[v] 52 (0, 0)) /\ W.ownsRow (S0 + 1) 160 3 v pre.length (pre.flatMap cW)) /\ Below S0 w W /\ S0 + 1 <= W.heap.size
theorem AppIW.kept {S0 : Nat} {w : World} {pre : List EW} {W W' : World} {row : Option Nat} (h : AppIW S0 w pre W) (hg : W.grownBy W' row) (hr : ∀ r, row = some r -> S0 + 1 <= r /\ ∃ o : Obj, W.heap[r]? = some o /\ o.isCells = false) : AppIW S0 w pre W' := by
 obtain ⟨⟨v, h3, h4⟩, h5, h6⟩ := h
 refine ⟨⟨v, (hg.block _ (by omega) (fun e => by have := hr _ e.symm; omega)).trans h3, h4.kept hg ?_⟩, h5.grown hg (by omega) (fun r e => by have := (hr r e).1; omega), by have := hg.size; omega⟩
 cases e : v.ownBlock with
 | none => exact .inl rfl
 | some g =>
   refine .inr fun e2 => ?_
   obtain ⟨k1, c, fz, k2⟩ := owns_cells h4 g e
   obtain ⟨_, o, ho, hc⟩ := hr g e2.symm
   rw [k2] at ho; cases ho; cases hc
set_option maxHeartbeats 4000000 in
set_option maxRecDepth 100000 in
theorem appW (l : List EW) (A : Option Addr) (c Bm : Nat) (w : World) (hB : Bm < w.heap.size) (hm : w.cell? ⟨Bm, 0, none⟩ = some (.slice A l.length c)) (hl : LiesW l A w) (hlen : l.length <= 1000000000000) :
 Calls Tryz.prog 251 #[.slice none 0 0, .func (.func 239) #[] #[.pointer (some ⟨Bm, 0, none⟩)]] w
  fun e w' => ∃ v, e = .returned v /\ w'.ownsRow w.heap.size 160 3 v l.length (l.flatMap cW) /\ Below w.heap.size w w' := by
 refine (callsIn_wide (n := 0)).1 ?_
 have HL := Sd.mk hl
 have HM := Sd.mk hm
 clear hl hm
 have hfn : ∀ f, Fence.wide.fn f := fun _ => trivial
 have hdp : Fence.wide.depth = none := rfl
 obtain ⟨S0, hS0⟩ : ∃ S0, w.heap.size = S0 := ⟨_, rfl⟩
 have HS := Sd.mk hS0
 refine callsIn_of_wp_marks Tryz.func251 rfl trivial ?_ rfl
 simp only [Tryz.ntmps251, List.size_toArray, List.length_cons, List.length_nil, Nat.reduceAdd, Nat.reduceSub, Array.replicate_succ, Array.replicate_zero, List.push_toArray, List.append_toArray, List.nil_append, List.cons_append]
 gi_wp2
 obtain ⟨wr, hwr⟩ : ∃ wr, w.alloc (.cells #[.slice none 0 0] 52) = wr := ⟨_, rfl⟩
 have hsz : wr.heap.size = S0 + 1 := by rw [<- hwr]; simp; exact HS.out
 have b0 : wr.heap[S0]? = some (.cells #[.slice none 0 0] 52 (0, 0)) := by rw [<- hwr, <- HS.out]; exact World.alloc_heap_new w _
 have hbel : Below S0 w wr := by rw [<- hwr]; exact Below.alloc (Below.refl _ _) (Nat.le_of_eq HS.out.symm) _
 rw [hwr]
 have HB := Sd.mk (And.intro b0 (And.intro hbel hsz))
 clear b0 hbel hwr
 refine range_all0 (gf := 239) (lb := #[.pointer (some ⟨Bm, 0, none⟩)]) (encs := fun x : EW => #[.agg (cW x).toArray]) (cs := fun x => (cW x).toArray) (tB := 160) (xs := l) (Qw := fun W' => Below w.heap.size w W') rfl (enters_of Tryz.func239 (by kernel_rfl) rfl) ?seqR ?hpsR
  (AppIW S0 w) ?hQR ?invR ?at0R (fun x b => { tmps := #[.slice none 0 0, .func (.func 239) #[] #[.pointer (some ⟨Bm, 0, none⟩)], .pointer (some ⟨S0, 0, none⟩), undef, .slice none 0 0, .pointer (some ⟨b, 0, none⟩), .func (.func 239) #[] #[.pointer (some ⟨Bm, 0, none⟩)], .agg (cW x).toArray, undef, undef, undef, undef, undef], defers := [] }) ?assignR ?bodyR ?doneR
 case hpsR => intro _; rfl
 case hQR => intro pre W h; rw [HS.out]; exact h.2.1
 case seqR =>
  intro W hW
  obtain ⟨b0, hbel, hsz⟩ := HB.out
  exact valsW l A c Bm w hB HM.out HL.out hlen W (by rw [HS.out]; exact hbel.trans (hW.mono (by omega)))
 case invR =>
  intro pre W W' row hI hg hr
  exact hI.kept hg (fun r e => ⟨by have := (hr r e).1; omega, (hr r e).2⟩)
 case at0R =>
  obtain ⟨b0, hbel, hsz⟩ := HB.out
  exact ⟨⟨.slice none 0 0, b0, ⟨rfl, .inl ⟨rfl, rfl⟩⟩⟩, hbel, by omega⟩
 case assignR =>
  intro ll x W K hK
  obtain ⟨x1, x2, x3, x7⟩ := x
  dsimp only [cW, List.toArray] at hK ⊢
  gi_wp2
  exact hK _ (World.grownBy_alloc _ _ _) (World.alloc_heap_new _ _)
 case bodyR =>
  rintro ll pre x post W b hxs hI hb hbx
  have hHI := Sd.mk hI
  obtain ⟨⟨v, h3, h4⟩, h5, h6⟩ := hI
  obtain ⟨x1, x2, x3, x7⟩ := x
  have c1 := bk_cell h3 0
  have f1 := bk_frozen h3 0
  have k0 := bk_cell hbx 0
  have k1 := bk_cell hbx 1
  have k2 := bk_cell hbx 2
  simp only [cW, List.getElem?_toArray, List.getElem?_cons_zero, List.getElem?_cons_succ] at c1 k0 k1 k2
  have HOWN := Sd.mk h4
  have HXS := Sd.mk hxs
  have HH := Sd.mk (And.intro h3 (And.intro h5 (And.intro h6 hb)))
  clear h3 h4 h5 h6 hxs hbx hb
  obtain ⟨i0, hi, hz0, hz1, hz2⟩ := info_parts (P := Tryz.prog) (e := 160) (z := .agg #[.int .i64 0, .int .i64 0, .int .i64 0]) (size := 3) (bytes := 24) (by kernel_rfl)
  dsimp only [cW, List.toArray]
  gi_wp2_with (gi_at_builtin; refine wpListIn_append_own _ rfl _ _ 52 rfl (S0 + 1) 160 i0 (.agg #[.int .i64 0, .int .i64 0, .int .i64 0]) 3 24 Tryz.underlying52 hi hz0 hz1 hz2 rfl (by decide) _ _ _ rfl (HOWN.out.alloc _) ⟨W.heap.size, 0, none⟩ 1 1 [.int .i64 x1, .int .i64 x2, .int .i64 x3] rfl rfl ?zc1 ?zc2 ?zc3 ?zc4 ?zc5 ?_)
  case zc1 =>
   intro j u hj
   rw [add_plain, Nat.zero_add]
   exact (bk_cell (World.alloc_heap_new W _) j).trans (by rw [<- hj]; simp)
  case zc2 => intro u hu; simp at hu; rcases hu with rfl | rfl | rfl <;> rfl
  case zc3 => have h1 := congrArg List.length HXS.out; rw [List.length_append, List.length_cons] at h1; unfold maxLen; omega
  case zc4 => have h1 := congrArg List.length HXS.out; rw [List.length_append, List.length_cons] at h1; omega
  case zc5 => have := HH.out.2.2.1; simp; omega
  intro v' w2 hown' hgrow _
  obtain ⟨h3, h5, h6, hb⟩ := HH.out
  have hne : ∀ k, k < S0 + 1 -> some k ≠ v.ownBlock := fun k hk e => by
   obtain ⟨q1, _⟩ := owns_cells HOWN.out k e.symm
   omega
  have k3 : w2.heap[S0]? = some (.cells #[v] 52 (0, 0)) := (hgrow.block S0 (by simp; omega) (hne S0 (by omega))).trans ((Below.heap_alloc W _ S0 (by omega)).trans h3)
  have d1 := bk_cell k3 0
  have e1 := bk_frozen k3 0
  simp only [List.getElem?_toArray, List.getElem?_cons_zero] at d1
  obtain ⟨g, cap, rfl⟩ : ∃ g cap, v' = .slice (some ⟨g, 0, none⟩) (pre.length + 1) cap := by
   rcases hown'.2 with ⟨_, h0⟩ | ⟨g, cap, cur, hv, _⟩
   . omega
   . exact ⟨g, cap, hv⟩
  have HF := Sd.mk (And.intro k3 (And.intro hown' (And.intro hgrow (And.intro h5 h6))))
  clear k3 hown' hgrow h3 h5 h6
  gi_wp2
  obtain ⟨k3, hown', hgrow, h5, h6⟩ := HF.out
  obtain ⟨h3, _, _, _⟩ := HH.out
  have gset : ∀ (V : World) (p : Addr) (u : Value), V.grownBy (V.setCell p u) (some p.block) := fun V p u => ⟨rfl, rfl, rfl, by simp [World.setCell], fun k _ hk => Below.heap_setCell _ _ _ _ (fun e => hk (by simp [e]))⟩
  have hgne : g ≠ S0 := by
   obtain ⟨q1, _⟩ := owns_cells hown' g rfl
   omega
  have hsz2 : W.heap.size <= w2.heap.size := by have := hgrow.size; simp at this; omega
  refine ⟨⟨by simp [World.setCell]; exact hsz2, fun k o hk ho => ?_⟩, ?_, ?_, ?_⟩
  . have n1 : k ≠ S0 := fun e => by rw [e, h3] at hk; cases hk; cases ho
    have n3 : some k ≠ v.ownBlock := fun e => by
     obtain ⟨_, c, fz, q⟩ := owns_cells HOWN.out k e.symm
     rw [q] at hk; cases hk; cases ho
    have hkl := (Array.getElem?_eq_some_iff.1 hk).1
    rw [Below.heap_setCell _ _ _ _ n1, hgrow.block k (by simp; omega) n3, Below.heap_alloc _ _ _ hkl]
    exact hk
  . refine ⟨.slice (some ⟨g, 0, none⟩) (pre.length + 1) cap, bk_put k3 0 _ rfl, ?_⟩
    rw [List.length_append, List.length_singleton, List.flatMap_append]
    refine World.ownsRow.kept hown' (gset _ _ _) (.inr ?_)
    simp [Value.ownBlock]; exact hgne
  . exact ((h5.alloc (by omega) _).grown hgrow (by simp; omega) (fun k hk => by have := (owns_cells HOWN.out k hk).1; omega)).setCell (Nat.le_refl _) _
  . simp [World.setCell]; omega
 case doneR =>
  rintro D W hD hI hDf
  obtain ⟨⟨v, h3, h4⟩, h5, h6⟩ := hI
  have c1 := bk_cell h3 0
  simp only [List.getElem?_toArray, List.getElem?_cons_zero] at c1
  have HH := Sd.mk (And.intro h3 (And.intro h4 (And.intro h5 (And.intro h6 hDf))))
  clear h3 h4 h5 h6 hDf
  gi_wp2
  refine leaves_one (D := D) (W := W) HH.out.2.2.2.2 (fun W' hk hg => ?_)
  obtain ⟨h3, h4, h5, h6, hDf⟩ := HH.out
  have hrow : W'.ownsRow (S0 + 1) 160 3 v l.length (l.flatMap cW) := by
   refine World.ownsRow.kept (w := W) h4 hg ?_
   . cases e : v.ownBlock with
     | none => exact .inl rfl
     | some g =>
       refine .inr fun e2 => ?_
       injection e2 with e2
       subst e2
       obtain ⟨_, c, fz, k2⟩ := owns_cells h4 _ e
       rw [k2] at hDf; cases hDf
  refine ⟨v, by simp [results, Tryz.results251, go_sem], v, rfl, ?_, ?_⟩
  . rw [HS.out]
    refine ⟨hrow.1, ?_⟩
    rcases hrow.2 with hn | ⟨g, cap, cur, hv, hbg, rest⟩
    . exact .inl hn
    . exact .inr ⟨g, cap, cur, hv, by omega, rest⟩
  . rw [HS.out]
    exact h5.grown hg (by omega) (fun r e => by cases e; omega)
set_option maxHeartbeats 1000000 in
theorem collectW (l : List EW) (A : Option Addr) (c Bm : Nat) (w : World) (hB : Bm < w.heap.size) (hm : w.cell? ⟨Bm, 0, none⟩ = some (.slice A l.length c)) (hl : LiesW l A w) (hlen : l.length <= 1000000000000) :
 Calls Tryz.prog 237 #[.func (.func 239) #[] #[.pointer (some ⟨Bm, 0, none⟩)]] w
  fun e w' => ∃ v, e = .returned v /\ w'.ownsRow w.heap.size 160 3 v l.length (l.flatMap cW) /\ Below w.heap.size w w' := by
 have hc := appW l A c Bm w hB hm hl hlen
 clear hB hm hl hlen
 go_enter Tryz.func237, Tryz.ntmps237
 go_wp2_with (go_at_call 251; refine hc.mono ?_; rintro e w' ⟨v, rfl, hown, hb⟩)
 go_ret
 exact ⟨v, rfl, hown, hb⟩
end
section
open Go Go.RowKit Go.Shelf Go.Sort Ab A
abbrev WinTy : Ty := .cons (.int .i64) (.cons (.int .i64) (.cons (.int .i64) .nil))
theorem repsW (S : Mem) (x : EW) : Reps S WinTy x (cW x) := by
 refine ⟨[_], _, rfl, rfl, [_], _, rfl, rfl, [_], _, rfl, rfl, rfl⟩
theorem repsW_eq {S : Mem} {x : EW} {us : List Value} (h : Reps S WinTy x us) : us = cW x := by
 obtain ⟨_, _, rfl, rfl, _, _, rfl, rfl, _, _, rfl, rfl, rfl⟩ := h
 rfl
theorem rowW (S : Mem) : ∀ l : List EW, RowList S WinTy l (l.flatMap cW)
 | [] => RowList.nil S WinTy
 | x :: l => (RowList.one (repsW S x)).append (rowW S l)
theorem cmpW (blk off size : Nat) (w : World) : CmpLays Tryz.prog 228 #[] cW 3 (fun x y => lexL (keyW x) (keyW y)) blk off size w :=
 cmpLays_of (mute_joined_1_ok 20) fun x y => ⟨(x, y, ()), ⟨⟨_, rfl, repsW _ x⟩, ⟨_, rfl, repsW _ y⟩, trivial⟩, _, joined1_eq x y, fun S' u h => by
  have h : [u] = [Value.int .i64 (lexL (keyW x) (keyW y))] := h
  simpa using h⟩
set_option maxHeartbeats 1000000 in
theorem sortW_row (l : List EW) (v : Value) (base : Nat) (w : World) (hown : w.ownsRow base 160 3 v l.length (l.flatMap cW)) (hbs : base <= w.heap.size) (hlen : l.length <= 1000000000000) :
 Calls Tryz.prog 238 #[v, .func (.func 228) #[] #[]] w fun e w' => e = .returned (.tuple #[]) /\ w'.ownsRow base 160 3 v l.length ((sortBy keyW l).flatMap cW) /\ RowKit.Below base w w' := by
 have hk : ∀ x : EW, (cW x).length = 3 := fun _ => rfl
 have hkey : ∀ x : EW, (keyW x).length = 2 := fun _ => rfl
 have hp := (sortBy_spec keyW hkey l).1
 rcases hown.2 with ⟨rfl, h0⟩ | ⟨g, cap, cur, rfl, hb, hg, hc, hm, hs, ht⟩
 . have hl : l = [] := List.eq_nil_of_length_eq_zero h0
   subst hl
   refine (AnyF.slices_SortFunc_none Tryz.sortW none 0 _ w).mono ?_
   rintro e w' ⟨rfl, rfl⟩
   rw [List.perm_nil.1 hp]
   exact ⟨rfl, hown, RowKit.Below.refl _ _⟩
 . have hgl := (Array.getElem?_eq_some_iff.1 hg).1
   refine (AnyQ.slices_SortFunc_eq Tryz.sortW 3 Tryz.isAgg160 Tryz.sizeOf160 cW hk (fun x u hu => by simp [cW] at hu; rcases hu with rfl | rfl | rfl <;> rfl) (fun x y => lexL (keyW x) (keyW y)) (swo_key keyW hkey) 228 #[] g 0 cap l.toArray w (mute_joined_1_ok 20).enters (cmpW _ _ _ _) (holds_row hk hg rfl hc hs ht) hgl (by simp; omega)).mono ?_
   rintro e w' ⟨rfl, n, os, rfl⟩
   have hsz : (pdq (ltOf fun x y => lexL (keyW x) (keyW y)) l.toArray 0 l.toArray.size (Lib.bitLen l.toArray.size) true true).size = l.length := hp.length_eq
   exact ⟨rfl, row_sorted hk hg hb hsz hc hm hs, below_grow _ _ _ _ hb hbs⟩
set_option maxHeartbeats 1000000 in
theorem sortedW (l : List EW) (A : Option Addr) (c Bm : Nat) (w : World) (hB : Bm < w.heap.size) (hm : w.cell? ⟨Bm, 0, none⟩ = some (.slice A l.length c)) (hl : LiesW l A w) (hlen : l.length <= 1000000000000) :
 Calls Tryz.prog 226 #[.func (.func 239) #[] #[.pointer (some ⟨Bm, 0, none⟩)], .func (.func 228) #[] #[]] w
  fun e w' => ∃ v, e = .returned v /\ w'.ownsRow w.heap.size 160 3 v l.length ((sortBy keyW l).flatMap cW) /\ RowKit.Below w.heap.size w w' := by
 have hc := collectW l A c Bm w hB hm hl hlen
 have HL := Sd.mk hlen
 clear hB hm hl hlen
 go_enter Tryz.func226, Tryz.ntmps226
 go_wp2_with (first
  | (go_at_call 237; refine hc.mono ?_; rintro e w1 ⟨v, rfl, hown, hb⟩; have HO := Sd.mk hown; have HB := Sd.mk hb; clear hown hb hc)
  | (go_at_call 238; refine (sortW_row l _ _ _ HO.out HB.out.size HL.out).mono ?_; rintro e w2 ⟨rfl, hown2, hb2⟩; have HO2 := Sd.mk hown2; have HB2 := Sd.mk hb2; clear hown2 hb2))
 go_ret
 exact ⟨_, rfl, HO2.out, HB.out.trans HB2.out⟩
end
end Go.Proofs.YtfhphiedbdinmaaGreatDoor.Q
namespace Go.Proofs.YtfhphiedbdinmaaGreatDoor.A
open Go Go.RowKit Go.Shelf Go.Sort Ab Q
def slices_SortedFunc_api_Window_sig (k : Nat) : Sig := ⟨[.sl WinTy], [.sl WinTy], fun x => slices_SortedFunc_api_Window k x.1⟩
theorem slices_SortedFunc_api_Window_okS (k : Nat) : FnOkS Tryz.prog 226 239 228 160 (slices_SortedFunc_api_Window_sig k) := by
 refine ⟨entersAb (by kernel_rfl), ?_⟩
 rintro ⟨l, _⟩ ⟨r, _⟩ hy S w B u hS hu ⟨h1, _⟩
 change List EW at l
 change List EW at r
 replace h1 : Reps S (.sl WinTy) l [u] := h1
 replace hy : slices_SortedFunc_api_Window k l = some (r, ()) := hy
 unfold slices_SortedFunc_api_Window at hy
 rw [cond_eq_ite] at hy
 split at hy
 . rename_i hlen
   have hlen : l.length <= 1000000000000 := of_decide_eq_true hlen
   obtain rfl : sortBy keyW l = r := congrArg Prod.fst (Option.some.inj hy)
   obtain ⟨A, c, hv, hc, hel⟩ := id h1
   obtain rfl : u = .slice A l.length c := (List.cons.inj hv).1
   have hl : LiesW l A w := by
    intro i x hi
    obtain ⟨ad, us, e, g1, g2⟩ := hel i x hi
    have e6 : us = cW x := repsW_eq g1
    subst e6
    refine ⟨ad, e, ?_, fun j u hj => hS _ _ (g2 j u hj)⟩
    have h0 := World.block_lt_of_cell? w _ (hS _ _ (g2 0 _ rfl))
    rwa [add_block] at h0
   refine (sortedW l A c B w (World.block_lt_of_cell? w _ hu) hu hl hlen).mono ?_
   rintro e w' ⟨v, rfl, hown, hb⟩
   have hln : (sortBy keyW l).length = l.length := (sortBy_spec keyW (n := 2) (fun _ => rfl) l).1.length_eq
   generalize sortBy keyW l = s at hown hln
   rw [<- hln] at hown
   refine ⟨WinTy, s, v, rfl, rfl, hb, ?_, ?_⟩
   . rcases hown.2 with ⟨rfl, _⟩ | ⟨g, cap, cur, rfl, _⟩ <;> rfl
   . rcases hown.2 with ⟨rfl, h0⟩ | ⟨g, cap, cur, rfl, hbg, hg, hc, hm, hs, ht⟩
     . exact .inl ⟨rfl, List.eq_nil_of_length_eq_zero h0⟩
     . refine .inr ⟨g, cap, cur, _, rfl, hbg, hg, hc, hm, hs, ht, rowW S s, fun off sp => ?_⟩
       cases e : S ⟨g, off, sp⟩ with
       | none => rfl
       | some u => have := World.block_lt_of_cell? w _ (hS _ _ e); simp at this; omega
 . cases hy
end Go.Proofs.YtfhphiedbdinmaaGreatDoor.A
