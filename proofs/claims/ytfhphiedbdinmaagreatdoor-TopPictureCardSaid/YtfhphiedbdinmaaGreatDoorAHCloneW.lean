import Derived.Test.YtfhphiedbdinmaaGreatDoorAHBuild
import Derived.Test.YtfhphiedbdinmaaGreatDoorAbI
import Derived.Lib.Walk
import Derived.Lib.SliceRun
import Derived.Laws.AppendOwn
import Derived.OwnWalk
import Derived.Test.YtfhphiedbdinmaaGreatDoorFnTP
set_option linter.all false
namespace Go.Proofs.YtfhphiedbdinmaaGreatDoor.A
open Go Go.RowKit Ab
theorem row_new {t : Ty} {e : TypeId} {S : Mem} {w w' : World} {v : Value} {l : List t.den} {xs : List Value} (hS : ∀ p v, S p = some v -> w.cell? p = some v) (hb : Below w.heap.size w w') (hrow : RowList S t l xs) (hown : w'.ownsRow w.heap.size e t.width v l.length xs) :
 ∃ S', S.le S' /\ (∀ p v, S' p = some v -> w'.cell? p = some v) /\ (∀ p v, S' p = some v -> S p = none -> w.heap.size <= p.block) /\ Reps S' (.sl t) l [v] := by
 rcases hown.2 with ⟨rfl, hz⟩ | ⟨g, cap, cur, rfl, hB, hh, hcap, _, hcs, htake⟩
 . obtain rfl : l = [] := List.length_eq_zero_iff.1 hz
   exact ⟨S, Mem.le_refl S, fun p u h => (hb.cell (World.block_lt_of_cell? w _ (hS p u h))).trans (hS p u h), fun p u h h0 => (by rw [h] at h0; cases h0), none, 0, rfl, Nat.le_refl _, fun i x hi => by simp [lst] at hi⟩
 . have hne : ∀ p u, S p = some u -> p.block ≠ g := fun p u h => by have := World.block_lt_of_cell? w _ (hS p u h); omega
   have hle : S.le (memAdd S g xs) := fun p u h => by unfold memAdd; rw [if_neg (hne p u h)]; exact h
   refine ⟨memAdd S g xs, hle, fun p u h => ?_, fun p u h h0 => ?_, some ⟨g, 0, none⟩, cap, rfl, hcap, fun i x hi => ?_⟩
   . unfold memAdd at h
     split at h
     . rename_i hpb
       obtain ⟨pb, po, ps⟩ := p
       simp only at hpb; subst hpb
       cases ps with
       | some z => cases h
       | none =>
         simp only at h
         rw [<- htake, List.getElem?_take] at h
         split at h
         . simpa [World.cell?, hh] using h
         . cases h
     . exact (hb.cell (World.block_lt_of_cell? w _ (hS p u h))).trans (hS p u h)
   . unfold memAdd at h
     split at h
     . rename_i hpb; rw [hpb]; exact hB
     . rw [h] at h0; cases h0
   . obtain ⟨us, k1, k2⟩ := (hrow.mono hle).2 i x hi
     refine ⟨_, us, rfl, k1, fun j u hj => ?_⟩
     rw [add_at, Nat.zero_add]
     unfold memAdd
     rw [if_pos rfl]
     exact k2 j u hj
theorem row_comes {t : Ty} {e : TypeId} {S : Mem} {w w' : World} {v : Value} {l : List t.den} {xs : List Value} (hS : ∀ p v, S p = some v -> w.cell? p = some v) (hb : Below w.heap.size w w') (hrow : RowList S t l xs) (hown : w'.ownsRow w.heap.size e t.width v l.length xs) : Comes1 [.sl t] (l, ()) S w (.returned v) w' :=
 let ⟨S', a, b, c, d⟩ := row_new hS hb hrow hown; ⟨_, S', rfl, a, b, c, d, hb⟩
theorem row_str (S : Mem) (l : List ByteArray) : RowList S .str l (l.map Value.string) :=
 ⟨by rw [List.length_map]; exact (Nat.mul_one _).symm, fun i x hi => ⟨[.string x], rfl, fun j u hj => by
  match j, hj with
  | 0, hj => obtain rfl := Option.some.inj hj; simp [Ty.width]; exact ⟨x, hi, rfl⟩⟩⟩
theorem comes_plain {res : List Ty} {y : (res.foldr Ty.cons .nil).den} {S : Mem} {w w' : World} {e : Ending} {u : Value} (he : e = .returned u) (hS : ∀ p v, S p = some v -> w.cell? p = some v) (hb : Below w.heap.size w w') (hr : ResRep S res y u) : Comes1 res y S w e w' :=
 ⟨u, S, he, Mem.le_refl S, fun p v h => (hb.cell (World.block_lt_of_cell? w _ (hS p v h))).trans (hS p v h), fun p v h h0 => (by rw [h] at h0; cases h0), hr, hb⟩
end Go.Proofs.YtfhphiedbdinmaaGreatDoor.A
namespace Go.Proofs.YtfhphiedbdinmaaGreatDoor.Q
open Go Go.RowKit Go.Lib
set_option maxHeartbeats 2000000 in
set_option maxRecDepth 100000 in
theorem cloneA_calls (ad : Addr) (n c : Nat) (cs : List Value) (w : World) (hl : cs.length = n * 6) (h1 : ∀ u ∈ cs, u.oneCell' = true) (hbig : n * 48 <= 140737488355328) (hc : ∀ j u, cs[j]? = some u -> w.cell? (ad.add j) = some u) :
 Calls Tryz.prog 71 #[.slice (some ad) n c] w fun e w' => ∃ v', e = .returned v' /\ w'.ownsRow w.heap.size 108 6 v' n cs /\ Below w.heap.size w w' := by
 obtain ⟨i0, hi, hz0, hz1, hz2⟩ := info_parts (P := Tryz.prog) (e := 108) (z := .agg #[.int .i64 0, .int .i64 0, .int .i64 0, .int .i64 0, .int .i64 0, .int .i64 0]) (size := 6) (bytes := 48) (by kernel_rfl)
 have q1 : ∀ (w : World) (a : Option Addr) (n c n' c' : Nat), (binOp .eql 49 (.slice a n c) (.slice none n' c')).run Tryz.prog w = .ok (.bool a.isNone) w := fun w a n c n' c' => Lib.run_eql_slice_nil w _ _ a n c n' c' Tryz.underlying49
 have A : Aside (∀ j u, cs[j]? = some u -> w.cell? (ad.add j) = some u) := hc
 clear hc
 have mixed : Tryz.prog.follows .mixedOrders = true := by kernel_rfl
 have t0 := Tryz.underlying49
 have t1 := Tryz.underlying108
 have a0 := Tryz.isAgg49
 have z0 := Tryz.sizeOf108
 have v0 := Tryz.zeroValue108
 go_enter Tryz.func71, Tryz.ntmps71
 go_wp2_with (at_builtin; refine wpList_append_own _ rfl _ _ 49 rfl w.heap.size 108 i0 (.agg #[.int .i64 0, .int .i64 0, .int .i64 0, .int .i64 0, .int .i64 0, .int .i64 0]) 6 48 t0 hi hz0 hz1 hz2 rfl (by decide) _ _ _ rfl (World.ownsRow_made w #[] 0 (Nat.le_refl _) (Nat.zero_le _) rfl) ad n c cs rfl ?qc1 ?qc2 ?qc3 ?qc4 ?qc5 ?qc6 ?_)
 case qc1 => exact hl
 case qc2 =>
  intro j u hj
  exact Lib.cell?_alloc_some _ (A.out j u hj)
 case qc3 => exact h1
 case qc4 => unfold maxLen; omega
 case qc5 => omega
 case qc6 => simp
 intro v' w1 hown hgrow hnil
 go_wp2
 go_ret
 refine ⟨v', rfl, by simpa using hown, ?_⟩
 exact ((Below.refl _ w).alloc (Nat.le_refl _) _).grown hgrow (by simp) (by intro k hk; simp [Value.ownBlock] at hk; omega)
set_option maxHeartbeats 1000000 in
theorem cloneA_nil (n c : Nat) (w : World) : Calls Tryz.prog 71 #[.slice none n c] w fun e w' => e = .returned (.slice none 0 0) /\ w' = w := by
 have q1 : ∀ (w : World) (a : Option Addr) (n c n' c' : Nat), (binOp .eql 49 (.slice a n c) (.slice none n' c')).run Tryz.prog w = .ok (.bool a.isNone) w := fun w a n c n' c' => Lib.run_eql_slice_nil w _ _ a n c n' c' Tryz.underlying49
 have mixed : Tryz.prog.follows .mixedOrders = true := by kernel_rfl
 have t0 := Tryz.underlying49
 have t1 := Tryz.underlying108
 have a0 := Tryz.isAgg49
 have z0 := Tryz.sizeOf108
 have v0 := Tryz.zeroValue108
 go_enter Tryz.func71, Tryz.ntmps71
 go_wp2
 go_ret
 exact ⟨rfl, rfl⟩
end Go.Proofs.YtfhphiedbdinmaaGreatDoor.Q
namespace Go.Proofs.YtfhphiedbdinmaaGreatDoor.A
open Go Go.RowKit Ab
abbrev FTyA : Ty := .cons (.int .i64) (.cons (.int .i64) (.cons (.int .i64) (.cons (.int .i64) (.cons (.int .i64) (.cons (.int .i64) .nil)))))
def slices_Clone_api_Alarm_api_Alarm_sig (k : Nat) : Sig := ⟨[.sl FTyA], [.sl FTyA], fun x => slices_Clone_api_Alarm_api_Alarm k x.1⟩
theorem slices_Clone_api_Alarm_api_Alarm_ok (k : Nat) : FnOk Go.Proofs.Tryz.prog 71 (slices_Clone_api_Alarm_api_Alarm_sig k) := by
 refine ⟨entersAb (by kernel_rfl), ?_⟩
 rintro ⟨l, _⟩ ⟨r, _⟩ hy S w vs _ hS ha
 change List FTyA.den at l
 change List FTyA.den at r
 match vs, ha with
 | [v1], ⟨h1, _⟩ =>
 have h1 : Reps S (.sl FTyA) l [v1] := h1
 replace hy : slices_Clone_api_Alarm_api_Alarm k l = some (r, ()) := hy
 unfold slices_Clone_api_Alarm_api_Alarm at hy
 rw [cond_eq_ite] at hy
 split at hy
 . rename_i hlen
   have hlen : l.length * 48 <= 140737488355328 := of_decide_eq_true hlen
   obtain rfl : l = r := congrArg Prod.fst (Option.some.inj hy)
   obtain ⟨A, c, hv, hc, hel⟩ := id h1
   obtain rfl : v1 = .slice A (lst (t := FTyA) l).length c := by simpa using hv
   cases A with
   | none =>
     have hl0 : l = [] := by
      cases l with
      | nil => rfl
      | cons x l => obtain ⟨a, us, e, _⟩ := hel 0 x rfl; cases e
     subst hl0
     refine (Q.cloneA_nil _ c w).mono ?_
     rintro e w' ⟨rfl, rfl⟩
     exact row_comes hS (Below.refl _ _) (RowList.nil S FTyA) (e := 0) ⟨rfl, .inl ⟨rfl, rfl⟩⟩
   | some a =>
     obtain ⟨xs, k1, k2⟩ := reps_row (S := S) (t := FTyA) (ad := a) l 0 (fun i x hi => by
      obtain ⟨a', us, e, g1, g2⟩ := hel i x hi
      cases e
      exact ⟨us, g1, fun j u hj => by have := g2 j u hj; simpa using this⟩)
     refine (Q.cloneA_calls a l.length c xs w k1.1 k1.oneCell hlen (fun j u hj => hS _ _ (by have := k2 j u hj; simpa using this))).mono ?_
     rintro e w' ⟨v', rfl, hown, hb⟩
     exact row_comes hS hb k1 hown
 . cases hy
end Go.Proofs.YtfhphiedbdinmaaGreatDoor.A
namespace Go.Proofs.YtfhphiedbdinmaaGreatDoor.Q
open Go Go.RowKit Go.Lib
set_option maxHeartbeats 2000000 in
set_option maxRecDepth 100000 in
theorem cloneW_calls (ad : Addr) (n c : Nat) (cs : List Value) (w : World) (hl : cs.length = n * 3) (h1 : ∀ u ∈ cs, u.oneCell' = true) (hbig : n * 24 <= 140737488355328) (hc : ∀ j u, cs[j]? = some u -> w.cell? (ad.add j) = some u) :
 Calls Tryz.prog 72 #[.slice (some ad) n c] w fun e w' => ∃ v', e = .returned v' /\ w'.ownsRow w.heap.size 160 3 v' n cs /\ Below w.heap.size w w' := by
 obtain ⟨i0, hi, hz0, hz1, hz2⟩ := info_parts (P := Tryz.prog) (e := 160) (z := .agg #[.int .i64 0, .int .i64 0, .int .i64 0]) (size := 3) (bytes := 24) (by kernel_rfl)
 have q1 : ∀ (w : World) (a : Option Addr) (n c n' c' : Nat), (binOp .eql 52 (.slice a n c) (.slice none n' c')).run Tryz.prog w = .ok (.bool a.isNone) w := fun w a n c n' c' => Lib.run_eql_slice_nil w _ _ a n c n' c' Tryz.underlying52
 have A : Aside (∀ j u, cs[j]? = some u -> w.cell? (ad.add j) = some u) := hc
 clear hc
 have mixed : Tryz.prog.follows .mixedOrders = true := by kernel_rfl
 have t0 := Tryz.underlying52
 have t1 := Tryz.underlying160
 have a0 := Tryz.isAgg52
 have z0 := Tryz.sizeOf160
 have v0 := Tryz.zeroValue160
 go_enter Tryz.func72, Tryz.ntmps72
 go_wp2_with (at_builtin; refine wpList_append_own _ rfl _ _ 52 rfl w.heap.size 160 i0 (.agg #[.int .i64 0, .int .i64 0, .int .i64 0]) 3 24 t0 hi hz0 hz1 hz2 rfl (by decide) _ _ _ rfl (World.ownsRow_made w #[] 0 (Nat.le_refl _) (Nat.zero_le _) rfl) ad n c cs rfl ?qc1 ?qc2 ?qc3 ?qc4 ?qc5 ?qc6 ?_)
 case qc1 => exact hl
 case qc2 =>
  intro j u hj
  exact Lib.cell?_alloc_some _ (A.out j u hj)
 case qc3 => exact h1
 case qc4 => unfold maxLen; omega
 case qc5 => omega
 case qc6 => simp
 intro v' w1 hown hgrow hnil
 go_wp2
 go_ret
 refine ⟨v', rfl, by simpa using hown, ?_⟩
 exact ((Below.refl _ w).alloc (Nat.le_refl _) _).grown hgrow (by simp) (by intro k hk; simp [Value.ownBlock] at hk; omega)
set_option maxHeartbeats 1000000 in
theorem cloneW_nil (n c : Nat) (w : World) : Calls Tryz.prog 72 #[.slice none n c] w fun e w' => e = .returned (.slice none 0 0) /\ w' = w := by
 have q1 : ∀ (w : World) (a : Option Addr) (n c n' c' : Nat), (binOp .eql 52 (.slice a n c) (.slice none n' c')).run Tryz.prog w = .ok (.bool a.isNone) w := fun w a n c n' c' => Lib.run_eql_slice_nil w _ _ a n c n' c' Tryz.underlying52
 have mixed : Tryz.prog.follows .mixedOrders = true := by kernel_rfl
 have t0 := Tryz.underlying52
 have t1 := Tryz.underlying160
 have a0 := Tryz.isAgg52
 have z0 := Tryz.sizeOf160
 have v0 := Tryz.zeroValue160
 go_enter Tryz.func72, Tryz.ntmps72
 go_wp2
 go_ret
 exact ⟨rfl, rfl⟩
end Go.Proofs.YtfhphiedbdinmaaGreatDoor.Q
namespace Go.Proofs.YtfhphiedbdinmaaGreatDoor.A
open Go Go.RowKit Ab
abbrev FTyW : Ty := .cons (.int .i64) (.cons (.int .i64) (.cons (.int .i64) .nil))
def slices_Clone_api_Window_api_Window_sig (k : Nat) : Sig := ⟨[.sl FTyW], [.sl FTyW], fun x => slices_Clone_api_Window_api_Window k x.1⟩
theorem slices_Clone_api_Window_api_Window_ok (k : Nat) : FnOk Go.Proofs.Tryz.prog 72 (slices_Clone_api_Window_api_Window_sig k) := by
 refine ⟨entersAb (by kernel_rfl), ?_⟩
 rintro ⟨l, _⟩ ⟨r, _⟩ hy S w vs _ hS ha
 change List FTyW.den at l
 change List FTyW.den at r
 match vs, ha with
 | [v1], ⟨h1, _⟩ =>
 have h1 : Reps S (.sl FTyW) l [v1] := h1
 replace hy : slices_Clone_api_Window_api_Window k l = some (r, ()) := hy
 unfold slices_Clone_api_Window_api_Window at hy
 rw [cond_eq_ite] at hy
 split at hy
 . rename_i hlen
   have hlen : l.length * 24 <= 140737488355328 := of_decide_eq_true hlen
   obtain rfl : l = r := congrArg Prod.fst (Option.some.inj hy)
   obtain ⟨A, c, hv, hc, hel⟩ := id h1
   obtain rfl : v1 = .slice A (lst (t := FTyW) l).length c := by simpa using hv
   cases A with
   | none =>
     have hl0 : l = [] := by
      cases l with
      | nil => rfl
      | cons x l => obtain ⟨a, us, e, _⟩ := hel 0 x rfl; cases e
     subst hl0
     refine (Q.cloneW_nil _ c w).mono ?_
     rintro e w' ⟨rfl, rfl⟩
     exact row_comes hS (Below.refl _ _) (RowList.nil S FTyW) (e := 0) ⟨rfl, .inl ⟨rfl, rfl⟩⟩
   | some a =>
     obtain ⟨xs, k1, k2⟩ := reps_row (S := S) (t := FTyW) (ad := a) l 0 (fun i x hi => by
      obtain ⟨a', us, e, g1, g2⟩ := hel i x hi
      cases e
      exact ⟨us, g1, fun j u hj => by have := g2 j u hj; simpa using this⟩)
     refine (Q.cloneW_calls a l.length c xs w k1.1 k1.oneCell hlen (fun j u hj => hS _ _ (by have := k2 j u hj; simpa using this))).mono ?_
     rintro e w' ⟨v', rfl, hown, hb⟩
     exact row_comes hS hb k1 hown
 . cases hy
end Go.Proofs.YtfhphiedbdinmaaGreatDoor.A
