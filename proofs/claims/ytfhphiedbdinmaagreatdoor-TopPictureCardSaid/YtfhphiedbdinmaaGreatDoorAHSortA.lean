import Derived.Test.YtfhphiedbdinmaaGreatDoorAHAppA
import Derived.Test.YtfhphiedbdinmaaGreatDoorAHCmp
import Derived.Test.YtfhphiedbdinmaaGreatDoorEvRC
import Derived.Test.YtfhphiedbdinmaaGreatDoorSortS
import Derived.Test.YtfhphiedbdinmaaGreatDoorAHCloneW
set_option linter.all false
namespace Go.Proofs.YtfhphiedbdinmaaGreatDoor.Q
open Go Go.RowKit Go.Shelf Go.Sort Ab A
abbrev AlmTy : Ty := .cons (.int .i64) (.cons (.int .i64) (.cons (.int .i64) (.cons (.int .i64) (.cons (.int .i64) (.cons (.int .i64) .nil)))))
theorem repsA (S : Mem) (x : EA) : Reps S AlmTy x (cA x) := by
 refine ⟨[_], _, rfl, rfl, [_], _, rfl, rfl, [_], _, rfl, rfl, [_], _, rfl, rfl, [_], _, rfl, rfl, [_], _, rfl, rfl, rfl⟩
theorem add_block (a : Addr) (n : Nat) : (a.add n).block = a.block := by unfold Addr.add; split <;> rfl
theorem repsA_eq {S : Mem} {x : EA} {us : List Value} (h : Reps S AlmTy x us) : us = cA x := by
 obtain ⟨_, _, rfl, rfl, _, _, rfl, rfl, _, _, rfl, rfl, _, _, rfl, rfl, _, _, rfl, rfl, _, _, rfl, rfl, rfl⟩ := h
 rfl
theorem rowA (S : Mem) : ∀ l : List EA, RowList S AlmTy l (l.flatMap cA)
 | [] => RowList.nil S AlmTy
 | x :: l => (RowList.one (repsA S x)).append (rowA S l)
theorem cmpA (blk off size : Nat) (w : World) : CmpLays Tryz.prog 188 #[] cA 6 (fun x y => lexL (keyA x) (keyA y)) blk off size w :=
 cmpLays_of (rank_Compare_ok 20) fun x y => ⟨(x, y, ()), ⟨⟨_, rfl, repsA _ x⟩, ⟨_, rfl, repsA _ y⟩, trivial⟩, _, rank_eq x y, fun S' u h => by
  have h : [u] = [Value.int .i64 (lexL (keyA x) (keyA y))] := h
  simpa using h⟩
set_option maxHeartbeats 1000000 in
theorem sortA_row (l : List EA) (v : Value) (base : Nat) (w : World) (hown : w.ownsRow base 108 6 v l.length (l.flatMap cA)) (hbs : base <= w.heap.size) (hlen : l.length <= 1000000000000) :
 Calls Tryz.prog 215 #[v, .func (.func 188) #[] #[]] w fun e w' => e = .returned (.tuple #[]) /\ w'.ownsRow base 108 6 v l.length ((sortBy keyA l).flatMap cA) /\ RowKit.Below base w w' := by
 have hk : ∀ x : EA, (cA x).length = 6 := fun _ => rfl
 have hkey : ∀ x : EA, (keyA x).length = 7 := fun _ => rfl
 have hp := (sortBy_spec keyA hkey l).1
 rcases hown.2 with ⟨rfl, h0⟩ | ⟨g, cap, cur, rfl, hb, hg, hc, hm, hs, ht⟩
 . have hl : l = [] := List.eq_nil_of_length_eq_zero h0
   subst hl
   refine (AnyF.slices_SortFunc_none Tryz.sortA none 0 _ w).mono ?_
   rintro e w' ⟨rfl, rfl⟩
   rw [List.perm_nil.1 hp]
   exact ⟨rfl, hown, RowKit.Below.refl _ _⟩
 . have hgl := (Array.getElem?_eq_some_iff.1 hg).1
   refine (AnyQ.slices_SortFunc_eq Tryz.sortA 6 Tryz.isAgg108 Tryz.sizeOf108 cA hk (fun x u hu => by simp [cA] at hu; rcases hu with rfl | rfl | rfl | rfl | rfl | rfl <;> rfl) (fun x y => lexL (keyA x) (keyA y)) (swo_key keyA hkey) 188 #[] g 0 cap l.toArray w (rank_Compare_ok 20).enters (cmpA _ _ _ _) (holds_row hk hg rfl hc hs ht) hgl (by simp; omega)).mono ?_
   rintro e w' ⟨rfl, n, os, rfl⟩
   have hsz : (pdq (ltOf fun x y => lexL (keyA x) (keyA y)) l.toArray 0 l.toArray.size (Lib.bitLen l.toArray.size) true true).size = l.length := hp.length_eq
   exact ⟨rfl, row_sorted hk hg hb hsz hc hm hs, below_grow _ _ _ _ hb hbs⟩
set_option maxHeartbeats 1000000 in
theorem sortedA (l : List EA) (A : Option Addr) (c Bm : Nat) (w : World) (hB : Bm < w.heap.size) (hm : w.cell? ⟨Bm, 0, none⟩ = some (.slice A l.length c)) (hl : LiesA l A w) (hlen : l.length <= 1000000000000) :
 Calls Tryz.prog 186 #[.func (.func 216) #[] #[.pointer (some ⟨Bm, 0, none⟩)], .func (.func 188) #[] #[]] w
  fun e w' => ∃ v, e = .returned v /\ w'.ownsRow w.heap.size 108 6 v l.length ((sortBy keyA l).flatMap cA) /\ RowKit.Below w.heap.size w w' := by
 have hc := collectA l A c Bm w hB hm hl hlen
 have HL := Sd.mk hlen
 clear hB hm hl hlen
 go_enter Tryz.func186, Tryz.ntmps186
 go_wp2_with (first
  | (go_at_call 214; refine hc.mono ?_; rintro e w1 ⟨v, rfl, hown, hb⟩; have HO := Sd.mk hown; have HB := Sd.mk hb; clear hown hb hc)
  | (go_at_call 215; refine (sortA_row l _ _ _ HO.out HB.out.size HL.out).mono ?_; rintro e w2 ⟨rfl, hown2, hb2⟩; have HO2 := Sd.mk hown2; have HB2 := Sd.mk hb2; clear hown2 hb2))
 go_ret
 exact ⟨_, rfl, HO2.out, HB.out.trans HB2.out⟩
end Go.Proofs.YtfhphiedbdinmaaGreatDoor.Q
namespace Go.Proofs.YtfhphiedbdinmaaGreatDoor.A
open Go Go.RowKit Go.Shelf Go.Sort Ab Q
def slices_SortedFunc_api_Alarm_sig (k : Nat) : Sig := ⟨[.sl AlmTy], [.sl AlmTy], fun x => slices_SortedFunc_api_Alarm k x.1⟩
theorem slices_SortedFunc_api_Alarm_okS (k : Nat) : FnOkS Tryz.prog 186 216 188 108 (slices_SortedFunc_api_Alarm_sig k) := by
 refine ⟨entersAb (by kernel_rfl), ?_⟩
 rintro ⟨l, _⟩ ⟨r, _⟩ hy S w B u hS hu ⟨h1, _⟩
 change List EA at l
 change List EA at r
 replace h1 : Reps S (.sl AlmTy) l [u] := h1
 replace hy : slices_SortedFunc_api_Alarm k l = some (r, ()) := hy
 unfold slices_SortedFunc_api_Alarm at hy
 rw [cond_eq_ite] at hy
 split at hy
 . rename_i hlen
   have hlen : l.length <= 1000000000000 := of_decide_eq_true hlen
   obtain rfl : sortBy keyA l = r := congrArg Prod.fst (Option.some.inj hy)
   obtain ⟨A, c, hv, hc, hel⟩ := id h1
   obtain rfl : u = .slice A l.length c := (List.cons.inj hv).1
   have hl : LiesA l A w := by
    intro i x hi
    obtain ⟨ad, us, e, g1, g2⟩ := hel i x hi
    have e6 : us = cA x := repsA_eq g1
    subst e6
    refine ⟨ad, e, ?_, fun j u hj => hS _ _ (g2 j u hj)⟩
    have h0 := World.block_lt_of_cell? w _ (hS _ _ (g2 0 _ rfl))
    rwa [add_block] at h0
   refine (sortedA l A c B w (World.block_lt_of_cell? w _ hu) hu hl hlen).mono ?_
   rintro e w' ⟨v, rfl, hown, hb⟩
   have hln : (sortBy keyA l).length = l.length := (sortBy_spec keyA (n := 7) (fun _ => rfl) l).1.length_eq
   generalize sortBy keyA l = s at hown hln
   rw [<- hln] at hown
   refine ⟨AlmTy, s, v, rfl, rfl, hb, ?_, ?_⟩
   . rcases hown.2 with ⟨rfl, _⟩ | ⟨g, cap, cur, rfl, _⟩ <;> rfl
   . rcases hown.2 with ⟨rfl, h0⟩ | ⟨g, cap, cur, rfl, hbg, hg, hc, hm, hs, ht⟩
     . exact .inl ⟨rfl, List.eq_nil_of_length_eq_zero h0⟩
     . refine .inr ⟨g, cap, cur, _, rfl, hbg, hg, hc, hm, hs, ht, rowA S s, fun off sp => ?_⟩
       cases e : S ⟨g, off, sp⟩ with
       | none => rfl
       | some u => have := World.block_lt_of_cell? w _ (hS _ _ e); simp at this; omega
 . cases hy
end Go.Proofs.YtfhphiedbdinmaaGreatDoor.A
