/- Each theorem of this text says that a call of a Go function comes to what a Lean function of the same name answers, or carries such facts to a law; its conditions are those that stand in it. Written by this session's own program (wip/tools/print2.py); not trusted: Lean checks it. -/
import Derived.Test.YtaadndikbecdbaaQx0
import Derived.Test.YtaadndikbecdbaaQx1
import Derived.Test.YtaadndikbecdbaaQx2
import Derived.Test.YtaadndikbecdbaaQx5
import Derived.Test.YtaadndikbecdbaaQx6
namespace Go.Proofs.Ytaadndikbecdbaa.Q
open Go.RowKit Go.Proofs.YtaadndikbecdbaaW.PrintWords Go.Proofs.YtaadndikbecdbaaW.PrintLast Go.Proofs.YtaadndikbecdbaaW.PrintMore
attribute [local go_sem] max2_int min2_int max_two min_two max_three min_three max_four min_four   -- for this text's walks alone
set_option linter.unusedVariables false
set_option linter.unusedSimpArgs false

attribute [local go_sem high] eqA23
/-! ### watchmanlaw12_FileCrash: function 5 -/
mutual
def watchmanlaw12_FileCrash.j0 : Nat → Int → Bool → Int → ByteArray → ByteArray → Option (Bool)
  | 0, _, _, _, _, _ => none
  | k + 1, x1, x20, x328000, x328001, x328002 => if x20 = true then ((watchmanlaw12_filed.f).bind fun t330 => (some t330)) else ((file_Sync.f x328000 x328001 x328002).bind fun bt331 => ((file_Crash.f bt331.1 bt331.2.1 bt331.2.2.1 x1).bind fun bt336 => ((file_Crash.f x328000 x328001 x328002 x1).bind fun bt341 => ((file_Read.f bt341.1 bt341.2.1 bt341.2.2.1).bind fun t346 => ((file_Read.f x328000 x328001 x328002).bind fun t347 => (if bt331.2.2.2 = 0 then (if bt336.2.2.2 = 0 then (if bt341.2.2.2 = 0 then (if (!(bt331.1 == bt336.1) || (!(bt331.2.1.toList == bt336.2.1.toList) || (!(bt331.2.2.1.toList == bt336.2.2.1.toList)))) = true then (watchmanlaw12_FileCrash.j1 k x1 t346 true x328000 x328001 x328002 bt341.1 bt341.2.1 bt341.2.2.1) else ((file_Read.f bt331.1 bt331.2.1 bt331.2.2.1).bind fun t348 => (if t348.toList = t347.toList then (if (t346.size : Int) < (x328001.size : Int) then (watchmanlaw12_FileCrash.j1 k x1 t346 true x328000 x328001 x328002 bt341.1 bt341.2.1 bt341.2.2.1) else (if (t346.size : Int) > (t347.size : Int) then (watchmanlaw12_FileCrash.j1 k x1 t346 true x328000 x328001 x328002 bt341.1 bt341.2.1 bt341.2.2.1) else (if 0 ≤ (t346.size : Int) then (if (t346.size : Int) ≤ (t347.size : Int) then (if (t347.extract 0 t346.size).toList = t346.toList then (watchmanlaw12_FileCrash.j1 k x1 t346 (bt341.2.2.1.toList != ([] : List UInt8)) x328000 x328001 x328002 bt341.1 bt341.2.1 bt341.2.2.1) else (watchmanlaw12_FileCrash.j1 k x1 t346 true x328000 x328001 x328002 bt341.1 bt341.2.1 bt341.2.2.1)) else (none)) else (none)))) else (watchmanlaw12_FileCrash.j1 k x1 t346 true x328000 x328001 x328002 bt341.1 bt341.2.1 bt341.2.2.1)))) else (watchmanlaw12_FileCrash.j1 k x1 t346 true x328000 x328001 x328002 bt341.1 bt341.2.1 bt341.2.2.1)) else (watchmanlaw12_FileCrash.j1 k x1 t346 true x328000 x328001 x328002 bt341.1 bt341.2.1 bt341.2.2.1)) else (watchmanlaw12_FileCrash.j1 k x1 t346 true x328000 x328001 x328002 bt341.1 bt341.2.1 bt341.2.2.1)))))))
def watchmanlaw12_FileCrash.j1 : Nat → Int → ByteArray → Bool → Int → ByteArray → ByteArray → Int → ByteArray → ByteArray → Option (Bool)
  | 0, _, _, _, _, _, _, _, _, _ => none
  | k + 1, x1, x11, x91, x328000, x328001, x328002, x346000, x346001, x346002 => if x91 = true then (some false) else ((watchmanlaw12_filed.f).bind fun t349 => (if t349 = true then (if (x11.size : Int) = (wrap64 ((x328001.size : Int) + (mn (mx x1 0) (x328002.size : Int)))) then ((file_Is.f x346000 x346001 x346002).bind fun t350 => (some t350)) else (some false)) else (some false)))
end
def watchmanlaw12_FileCrash.f (k : Nat) (a0_0 : Int) (a0_1 : ByteArray) (a0_2 : ByteArray) (a1 : Int) : Option (Bool) := (watchmanref12_Big.f a0_0 a0_1 a0_2).bind fun t328 => (if t328 = true then (watchmanlaw12_FileCrash.j0 k a1 true a0_0 a0_1 a0_2) else ((file_Is.f a0_0 a0_1 a0_2).bind fun t329 => (watchmanlaw12_FileCrash.j0 k a1 (!t329) a0_0 a0_1 a0_2)))
theorem watchmanlaw12_FileCrash.mono_l : ∀ k, (∀ y0 y1 y2 y3 y4, LeO (watchmanlaw12_FileCrash.j0 k y0 y1 y2 y3 y4) (watchmanlaw12_FileCrash.j0 (k + 1) y0 y1 y2 y3 y4)) ∧ (∀ y0 y1 y2 y3 y4 y5 y6 y7 y8, LeO (watchmanlaw12_FileCrash.j1 k y0 y1 y2 y3 y4 y5 y6 y7 y8) (watchmanlaw12_FileCrash.j1 (k + 1) y0 y1 y2 y3 y4 y5 y6 y7 y8))
  | 0 => ⟨fun _ _ _ _ _ r h => by simp [watchmanlaw12_FileCrash.j0] at h, fun _ _ _ _ _ _ _ _ _ r h => by simp [watchmanlaw12_FileCrash.j1] at h⟩
  | k + 1 => by
    obtain ⟨ih0, ih1⟩ := watchmanlaw12_FileCrash.mono_l k
    refine ⟨?_, ?_⟩
    · intro y0 y1 y2 y3 y4
      unfold watchmanlaw12_FileCrash.j0
      repeat' first
      | (with_reducible exact ih0 _ _ _ _ _)
      | (with_reducible exact ih1 _ _ _ _ _ _ _ _ _)
      | (with_reducible exact LeO.refl _)
      | (with_reducible exact LeO.none _)
      | (with_reducible refine LeO.ite ?_ ?_)
      | (with_reducible refine LeO.bind ?_ (fun _ => ?_))
      | exact ih0 _ _ _ _ _
      | exact ih1 _ _ _ _ _ _ _ _ _
      | exact LeO.none _
      | refine LeO.ite ?_ ?_
      | refine LeO.bind ?_ (fun _ => ?_)
    · intro y0 y1 y2 y3 y4 y5 y6 y7 y8
      unfold watchmanlaw12_FileCrash.j1
      repeat' first
      | (with_reducible exact ih0 _ _ _ _ _)
      | (with_reducible exact ih1 _ _ _ _ _ _ _ _ _)
      | (with_reducible exact LeO.refl _)
      | (with_reducible exact LeO.none _)
      | (with_reducible refine LeO.ite ?_ ?_)
      | (with_reducible refine LeO.bind ?_ (fun _ => ?_))
      | exact ih0 _ _ _ _ _
      | exact ih1 _ _ _ _ _ _ _ _ _
      | exact LeO.none _
      | refine LeO.ite ?_ ?_
      | refine LeO.bind ?_ (fun _ => ?_)
theorem watchmanlaw12_FileCrash.mono : ∀ a0 a1 a2 a3 k, LeO (watchmanlaw12_FileCrash.f k a0 a1 a2 a3) (watchmanlaw12_FileCrash.f (k + 1) a0 a1 a2 a3) := by
  intro a0 a1 a2 a3 k
  obtain ⟨ih0, ih1⟩ := watchmanlaw12_FileCrash.mono_l k
  unfold watchmanlaw12_FileCrash.f
  repeat' first
      | (with_reducible exact ih0 _ _ _ _ _)
      | (with_reducible exact ih1 _ _ _ _ _ _ _ _ _)
      | (with_reducible exact LeO.refl _)
      | (with_reducible exact LeO.none _)
      | (with_reducible refine LeO.ite ?_ ?_)
      | (with_reducible refine LeO.bind ?_ (fun _ => ?_))
      | exact ih0 _ _ _ _ _
      | exact ih1 _ _ _ _ _ _ _ _ _
      | exact LeO.none _
      | refine LeO.ite ?_ ?_
      | refine LeO.bind ?_ (fun _ => ?_)
set_option maxHeartbeats 8000000 in
set_option maxRecDepth 100000 in
theorem watchmanlaw12_FileCrash.calls (k : Nat) (a0_0 : Int) (a0_1 : ByteArray) (a0_2 : ByteArray) (a1 : Int) (r : Bool) (w : World) (h : watchmanlaw12_FileCrash.f k a0_0 a0_1 a0_2 a1 = some r) (hr_ : r = true) :
    Calls Try.prog 5 #[.agg #[.int .i64 a0_0, .string a0_1, .string a0_2], .int .i64 a1] w fun e w' => e = .returned (.bool r) ∧ Below w.heap.size w w' := by
  have hu23 := Try.underlying23
  have HB := Aside0.mk (Below.refl w.heap.size w)
  have H : ((watchmanref12_Big.f a0_0 a0_1 a0_2).bind fun t328 => (if t328 = true then (watchmanlaw12_FileCrash.j0 k a1 true a0_0 a0_1 a0_2) else ((file_Is.f a0_0 a0_1 a0_2).bind fun t329 => (watchmanlaw12_FileCrash.j0 k a1 (!t329) a0_0 a0_1 a0_2)))) = some r := h
  clear h
  have HC3 := Aside0.mk H
  clear H
  go_enter Try.func5, Try.ntmps5
  go_upto_region 1 with (first | ((with_reducible refine gate_dst (N := 2) rfl ?_); (try (refine gate_guard (by rfl) ?_; dsimp only)); refine box_event ?hg (N := 2) ?hd (cs := #[.int .i64 a0_0, .string a0_1, .string a0_2]) (t := 23) ?hr ?_; (case hd => rfl); (case hg => rfl); (case hr => first | (go_simp; done) | (go_simp; rfl)); intro gb327 hg w4 hbox hb; have n0_ := Aside0.mk (below_step (by repeat (first | (with_reducible first | exact HB.out | apply below_alloc | apply pw_below_drewN | apply below_drew1) | exact HB.out)) hb); have n1_ := Aside0.mk (hbox); have n2_ := Aside0.mk ((by rw [hg]; exact (below_size (by repeat (first | (with_reducible first | exact HB.out | apply below_alloc | apply pw_below_drewN | apply below_drew1) | exact HB.out))) : w.heap.size ≤ gb327)); have n3_ := Aside0.mk ((by rw [hg]; exact (below_size (by repeat (first | (with_reducible first | exact HB.out | apply below_alloc | apply pw_below_drewN | apply below_drew1) | exact HB.out))) : w.heap.size ≤ gb327)); clear HB; have HB := n0_; have BK327 := n1_; have GW327 := n2_; have GE327 := n3_; clear n0_ n1_ n2_ n3_; clear hb hbox hg))
  (try simp only [Act.put, List.setIfInBounds_toArray, List.set_cons_zero, List.set_cons_succ])
  go_cut [20] (fun v20 wc => ∃ (kq : Nat) (x20_2 : Bool), v20 = .bool x20_2 ∧ Aside0 (watchmanlaw12_FileCrash.j0 kq a1 x20_2 a0_0 a0_1 a0_2 = some r) ∧ Aside0 (kq ≤ k) ∧ Aside0 (wc.heap[gb327]? = some (.cells #[.int .i64 a0_0, .string a0_1, .string a0_2] 23 (0, 0))) ∧ Aside0 (Below w.heap.size w wc))
  case first =>
    have H := HC3.out
    clear HC3
    replace H := Option.bind_eq_some_iff.mp H
    obtain ⟨t328, A50, H⟩ := H
    replace H : (if t328 = true then (watchmanlaw12_FileCrash.j0 k a1 true a0_0 a0_1 a0_2) else ((file_Is.f a0_0 a0_1 a0_2).bind fun t329 => (watchmanlaw12_FileCrash.j0 k a1 (!t329) a0_0 a0_1 a0_2))) = some r := H
    have A5 := Aside0.mk A50
    clear A50
    have HF_ := Aside0.mk H
    clear H
    have hcz6_0 : w4.cell? ⟨gb327, 0, none⟩ = some (.int .i64 a0_0) := (blk_cell BK327.out 0).trans rfl
    have hcz6_1 : w4.cell? ⟨gb327, 1, none⟩ = some (.string a0_1) := (blk_cell BK327.out 1).trans rfl
    have hcz6_2 : w4.cell? ⟨gb327, 2, none⟩ = some (.string a0_2) := (blk_cell BK327.out 2).trans rfl
    have hfz6_0 := blk_frozen BK327.out 0
    have hfz6_1 := blk_frozen BK327.out 1
    have hfz6_2 := blk_frozen BK327.out 2
    go_wp2_with (first | ((with_reducible refine gate_callee (f := 12) rfl ?_); refine goesL_ (some 15) rfl rfl Try.func12 (by kernel_rfl) rfl #[.agg #[.int .i64 a0_0, .string a0_1, .string a0_2]] rfl (by (try simp only [List.map_toArray, List.map_cons, List.map_nil]); first | done | rfl | (simp only [List.length_drop, List.length_take]; rfl)) ?_; (with_reducible refine (watchmanref12_Big.calls a0_0 a0_1 a0_2 t328 _ A5.out).mono ?_); rintro e w7 ⟨rfl, hb⟩; refine ⟨_, rfl, ?_⟩; have n0_ := Aside0.mk (blk_below (g := gb327) (o := .cells #[.int .i64 a0_0, .string a0_1, .string a0_2] 23 (0, 0)) (by (with_reducible repeat (first | refine blk_drewN ?_ _ | refine blk_drew ?_ | refine blk_alloc ?_ _)); exact BK327.out) hb); have n1_ := Aside0.mk (below_step (by repeat (first | (with_reducible first | exact HB.out | apply below_alloc | apply pw_below_drewN | apply below_drew1 | refine below_set ?_ GE327.out) | exact HB.out)) hb); clear BK327; clear HB; have BK327 := n0_; have HB := n1_; clear n0_ n1_; (try clear hb); (try clear hb2); (try clear hk); (try clear hi); (try clear A5); refine stop_ (fun Q_ HQ_ => ?_)))
    have H := HF_.out
    clear HF_
    refine HQ_.out ?_
    clear HQ_ Q_
    by_cases c8 : t328 = true
    · subst c8
      have H1 : (watchmanlaw12_FileCrash.j0 k a1 true a0_0 a0_1 a0_2) = some r := by rw [if_pos rfl] at H; exact H
      clear H
      have H := H1
      clear H1
      have H' := Aside0.mk H
      clear H
      go_wp2
      go_meet
      case rel => exact ⟨_, (true), (by first | rfl | (simp; done) | (simp [*]; done) | (simp; exact Bool.eq_iff_iff.mpr (by simp))), H', ⟨by first | omega | exact Nat.le_refl _⟩, ⟨by (with_reducible repeat (first | refine blk_drewN ?_ _ | refine blk_drew ?_ | refine blk_alloc ?_ _)); exact BK327.out⟩, ⟨by repeat (first | (with_reducible first | exact HB.out | apply below_alloc | apply pw_below_drewN | apply below_drew1 | refine below_set ?_ GE327.out) | exact HB.out)⟩⟩
    · replace c8 := Bool.eq_false_iff.mpr c8
      subst c8
      have H1 : ((file_Is.f a0_0 a0_1 a0_2).bind fun t329 => (watchmanlaw12_FileCrash.j0 k a1 (!t329) a0_0 a0_1 a0_2)) = some r := by rw [if_neg (show ¬ (false = true) by decide)] at H; exact H
      clear H
      have H := H1
      clear H1
      replace H := Option.bind_eq_some_iff.mp H
      obtain ⟨t329, A90, H⟩ := H
      replace H : (watchmanlaw12_FileCrash.j0 k a1 (!t329) a0_0 a0_1 a0_2) = some r := H
      have A9 := Aside0.mk A90
      clear A90
      have H' := Aside0.mk H
      clear H
      have hcz10_0 : w7.cell? ⟨gb327, 0, none⟩ = some (.int .i64 a0_0) := (blk_cell BK327.out 0).trans rfl
      have hcz10_1 : w7.cell? ⟨gb327, 1, none⟩ = some (.string a0_1) := (blk_cell BK327.out 1).trans rfl
      have hcz10_2 : w7.cell? ⟨gb327, 2, none⟩ = some (.string a0_2) := (blk_cell BK327.out 2).trans rfl
      have hfz10_0 := blk_frozen BK327.out 0
      have hfz10_1 := blk_frozen BK327.out 1
      have hfz10_2 := blk_frozen BK327.out 2
      go_wp2_with (first | (go_at_call 26; (with_reducible refine (file_Is.calls a0_0 a0_1 a0_2 t329 _ A9.out).mono ?_); rintro e w11 ⟨rfl, hb⟩; have n0_ := Aside0.mk (blk_below (g := gb327) (o := .cells #[.int .i64 a0_0, .string a0_1, .string a0_2] 23 (0, 0)) (by (with_reducible repeat (first | refine blk_drewN ?_ _ | refine blk_drew ?_ | refine blk_alloc ?_ _)); exact BK327.out) hb); have n1_ := Aside0.mk (below_step (by repeat (first | (with_reducible first | exact HB.out | apply below_alloc | apply pw_below_drewN | apply below_drew1 | refine below_set ?_ GE327.out) | exact HB.out)) hb); clear BK327; clear HB; have BK327 := n0_; have HB := n1_; clear n0_ n1_; (try clear hb); (try clear hb2); (try clear hk); (try clear hi); (try clear A9)))
      go_meet
      case rel => exact ⟨_, (!t329), (by first | rfl | (simp; done) | (simp [*]; done) | (simp; exact Bool.eq_iff_iff.mpr (by simp))), H', ⟨by first | omega | exact Nat.le_refl _⟩, ⟨by (with_reducible repeat (first | refine blk_drewN ?_ _ | refine blk_drew ?_ | refine blk_alloc ?_ _)); exact BK327.out⟩, ⟨by repeat (first | (with_reducible first | exact HB.out | apply below_alloc | apply pw_below_drewN | apply below_drew1 | refine below_set ?_ GE327.out) | exact HB.out)⟩⟩
  case rest =>
    clear HC3
    try clear c1
    try clear p2
    try clear c5
    try clear c8
    try clear hcz10_0
    try clear hcz10_1
    try clear hcz10_2
    try clear hcz6_0
    try clear hcz6_1
    try clear hcz6_2
    try clear hfz10_0
    try clear hfz10_1
    try clear hfz10_2
    try clear hfz6_0
    try clear hfz6_1
    try clear hfz6_2
    obtain ⟨kq, x20_2, rfl, HA, HJ2, BK327, HB⟩ := hcut
    cases kq with
    | zero => exact absurd HA.out (by simp [watchmanlaw12_FileCrash.j0])
    | succ kj2 =>
      have H := HA.out
      clear HA
      simp only [watchmanlaw12_FileCrash.j0] at H
      by_cases c12 : x20_2 = true
      · subst c12
        have H1 : ((watchmanlaw12_filed.f).bind fun t330 => (some t330)) = some r := by rw [if_pos rfl] at H; exact H
        clear H
        have H := H1
        clear H1
        replace H := Option.bind_eq_some_iff.mp H
        obtain ⟨t330, A130, H⟩ := H
        replace H : (some t330) = some r := H
        have A13 := Aside0.mk A130
        clear A130
        obtain rfl := Option.some.inj H
        go_wp2_with (first | ((with_reducible refine gate_callee (f := 25) rfl ?_); refine goesL_ (some 21) rfl rfl Try.func25 (by kernel_rfl) rfl #[] rfl (by (try simp only [List.map_toArray, List.map_cons, List.map_nil]); first | done | rfl | (simp only [List.length_drop, List.length_take]; rfl)) ?_; (with_reducible refine (watchmanlaw12_filed.calls  t330 _ A13.out (by first | rfl | assumption)).mono ?_); rintro e w14 ⟨rfl, hb⟩; refine ⟨_, rfl, ?_⟩; have n0_ := Aside0.mk (blk_below (g := gb327) (o := .cells #[.int .i64 a0_0, .string a0_1, .string a0_2] 23 (0, 0)) (by (with_reducible repeat (first | refine blk_drewN ?_ _ | refine blk_drew ?_ | refine blk_alloc ?_ _)); exact BK327.out) hb); have n1_ := Aside0.mk (below_step (by repeat (first | (with_reducible first | exact HB.out | apply below_alloc | apply pw_below_drewN | apply below_drew1 | refine below_set ?_ GE327.out) | exact HB.out)) hb); clear BK327; clear HB; have BK327 := n0_; have HB := n1_; clear n0_ n1_; (try clear hb); (try clear hb2); (try clear hk); (try clear hi); (try clear A13)))
        go_ret
        exact ⟨by first | rfl | (simp [errW_none, errW_some] <;> rfl) | (simp [*, errW_none, errW_some] <;> rfl) | (simp [*, errW_none, errW_some]; exact Bool.eq_iff_iff.mpr (by simp)), by repeat (first | (with_reducible first | exact HB.out | apply below_alloc | apply pw_below_drewN | apply below_drew1 | refine below_set ?_ GE327.out) | exact HB.out)⟩
      · replace c12 := Bool.eq_false_iff.mpr c12
        subst c12
        have H1 : ((file_Sync.f a0_0 a0_1 a0_2).bind fun bt331 => ((file_Crash.f bt331.1 bt331.2.1 bt331.2.2.1 a1).bind fun bt336 => ((file_Crash.f a0_0 a0_1 a0_2 a1).bind fun bt341 => ((file_Read.f bt341.1 bt341.2.1 bt341.2.2.1).bind fun t346 => ((file_Read.f a0_0 a0_1 a0_2).bind fun t347 => (if bt331.2.2.2 = 0 then (if bt336.2.2.2 = 0 then (if bt341.2.2.2 = 0 then (if (!(bt331.1 == bt336.1) || (!(bt331.2.1.toList == bt336.2.1.toList) || (!(bt331.2.2.1.toList == bt336.2.2.1.toList)))) = true then (watchmanlaw12_FileCrash.j1 kj2 a1 t346 true a0_0 a0_1 a0_2 bt341.1 bt341.2.1 bt341.2.2.1) else ((file_Read.f bt331.1 bt331.2.1 bt331.2.2.1).bind fun t348 => (if t348.toList = t347.toList then (if (t346.size : Int) < (a0_1.size : Int) then (watchmanlaw12_FileCrash.j1 kj2 a1 t346 true a0_0 a0_1 a0_2 bt341.1 bt341.2.1 bt341.2.2.1) else (if (t346.size : Int) > (t347.size : Int) then (watchmanlaw12_FileCrash.j1 kj2 a1 t346 true a0_0 a0_1 a0_2 bt341.1 bt341.2.1 bt341.2.2.1) else (if 0 ≤ (t346.size : Int) then (if (t346.size : Int) ≤ (t347.size : Int) then (if (t347.extract 0 t346.size).toList = t346.toList then (watchmanlaw12_FileCrash.j1 kj2 a1 t346 (bt341.2.2.1.toList != ([] : List UInt8)) a0_0 a0_1 a0_2 bt341.1 bt341.2.1 bt341.2.2.1) else (watchmanlaw12_FileCrash.j1 kj2 a1 t346 true a0_0 a0_1 a0_2 bt341.1 bt341.2.1 bt341.2.2.1)) else (none)) else (none)))) else (watchmanlaw12_FileCrash.j1 kj2 a1 t346 true a0_0 a0_1 a0_2 bt341.1 bt341.2.1 bt341.2.2.1)))) else (watchmanlaw12_FileCrash.j1 kj2 a1 t346 true a0_0 a0_1 a0_2 bt341.1 bt341.2.1 bt341.2.2.1)) else (watchmanlaw12_FileCrash.j1 kj2 a1 t346 true a0_0 a0_1 a0_2 bt341.1 bt341.2.1 bt341.2.2.1)) else (watchmanlaw12_FileCrash.j1 kj2 a1 t346 true a0_0 a0_1 a0_2 bt341.1 bt341.2.1 bt341.2.2.1))))))) = some r := by rw [if_neg (show ¬ (false = true) by decide)] at H; exact H
        clear H
        have H := H1
        clear H1
        replace H := Option.bind_eq_some_iff.mp H
        obtain ⟨⟨t331, t332, t333, t334⟩, A150, H⟩ := H
        replace H : ((file_Crash.f t331 t332 t333 a1).bind fun bt336 => ((file_Crash.f a0_0 a0_1 a0_2 a1).bind fun bt341 => ((file_Read.f bt341.1 bt341.2.1 bt341.2.2.1).bind fun t346 => ((file_Read.f a0_0 a0_1 a0_2).bind fun t347 => (if t334 = 0 then (if bt336.2.2.2 = 0 then (if bt341.2.2.2 = 0 then (if (!(t331 == bt336.1) || (!(t332.toList == bt336.2.1.toList) || (!(t333.toList == bt336.2.2.1.toList)))) = true then (watchmanlaw12_FileCrash.j1 kj2 a1 t346 true a0_0 a0_1 a0_2 bt341.1 bt341.2.1 bt341.2.2.1) else ((file_Read.f t331 t332 t333).bind fun t348 => (if t348.toList = t347.toList then (if (t346.size : Int) < (a0_1.size : Int) then (watchmanlaw12_FileCrash.j1 kj2 a1 t346 true a0_0 a0_1 a0_2 bt341.1 bt341.2.1 bt341.2.2.1) else (if (t346.size : Int) > (t347.size : Int) then (watchmanlaw12_FileCrash.j1 kj2 a1 t346 true a0_0 a0_1 a0_2 bt341.1 bt341.2.1 bt341.2.2.1) else (if 0 ≤ (t346.size : Int) then (if (t346.size : Int) ≤ (t347.size : Int) then (if (t347.extract 0 t346.size).toList = t346.toList then (watchmanlaw12_FileCrash.j1 kj2 a1 t346 (bt341.2.2.1.toList != ([] : List UInt8)) a0_0 a0_1 a0_2 bt341.1 bt341.2.1 bt341.2.2.1) else (watchmanlaw12_FileCrash.j1 kj2 a1 t346 true a0_0 a0_1 a0_2 bt341.1 bt341.2.1 bt341.2.2.1)) else (none)) else (none)))) else (watchmanlaw12_FileCrash.j1 kj2 a1 t346 true a0_0 a0_1 a0_2 bt341.1 bt341.2.1 bt341.2.2.1)))) else (watchmanlaw12_FileCrash.j1 kj2 a1 t346 true a0_0 a0_1 a0_2 bt341.1 bt341.2.1 bt341.2.2.1)) else (watchmanlaw12_FileCrash.j1 kj2 a1 t346 true a0_0 a0_1 a0_2 bt341.1 bt341.2.1 bt341.2.2.1)) else (watchmanlaw12_FileCrash.j1 kj2 a1 t346 true a0_0 a0_1 a0_2 bt341.1 bt341.2.1 bt341.2.2.1)))))) = some r := H
        have A15 := Aside0.mk A150
        clear A150
        replace H := Option.bind_eq_some_iff.mp H
        obtain ⟨⟨t336, t337, t338, t339⟩, A160, H⟩ := H
        replace H : ((file_Crash.f a0_0 a0_1 a0_2 a1).bind fun bt341 => ((file_Read.f bt341.1 bt341.2.1 bt341.2.2.1).bind fun t346 => ((file_Read.f a0_0 a0_1 a0_2).bind fun t347 => (if t334 = 0 then (if t339 = 0 then (if bt341.2.2.2 = 0 then (if (!(t331 == t336) || (!(t332.toList == t337.toList) || (!(t333.toList == t338.toList)))) = true then (watchmanlaw12_FileCrash.j1 kj2 a1 t346 true a0_0 a0_1 a0_2 bt341.1 bt341.2.1 bt341.2.2.1) else ((file_Read.f t331 t332 t333).bind fun t348 => (if t348.toList = t347.toList then (if (t346.size : Int) < (a0_1.size : Int) then (watchmanlaw12_FileCrash.j1 kj2 a1 t346 true a0_0 a0_1 a0_2 bt341.1 bt341.2.1 bt341.2.2.1) else (if (t346.size : Int) > (t347.size : Int) then (watchmanlaw12_FileCrash.j1 kj2 a1 t346 true a0_0 a0_1 a0_2 bt341.1 bt341.2.1 bt341.2.2.1) else (if 0 ≤ (t346.size : Int) then (if (t346.size : Int) ≤ (t347.size : Int) then (if (t347.extract 0 t346.size).toList = t346.toList then (watchmanlaw12_FileCrash.j1 kj2 a1 t346 (bt341.2.2.1.toList != ([] : List UInt8)) a0_0 a0_1 a0_2 bt341.1 bt341.2.1 bt341.2.2.1) else (watchmanlaw12_FileCrash.j1 kj2 a1 t346 true a0_0 a0_1 a0_2 bt341.1 bt341.2.1 bt341.2.2.1)) else (none)) else (none)))) else (watchmanlaw12_FileCrash.j1 kj2 a1 t346 true a0_0 a0_1 a0_2 bt341.1 bt341.2.1 bt341.2.2.1)))) else (watchmanlaw12_FileCrash.j1 kj2 a1 t346 true a0_0 a0_1 a0_2 bt341.1 bt341.2.1 bt341.2.2.1)) else (watchmanlaw12_FileCrash.j1 kj2 a1 t346 true a0_0 a0_1 a0_2 bt341.1 bt341.2.1 bt341.2.2.1)) else (watchmanlaw12_FileCrash.j1 kj2 a1 t346 true a0_0 a0_1 a0_2 bt341.1 bt341.2.1 bt341.2.2.1))))) = some r := H
        have A16 := Aside0.mk A160
        clear A160
        replace H := Option.bind_eq_some_iff.mp H
        obtain ⟨⟨t341, t342, t343, t344⟩, A170, H⟩ := H
        replace H : ((file_Read.f t341 t342 t343).bind fun t346 => ((file_Read.f a0_0 a0_1 a0_2).bind fun t347 => (if t334 = 0 then (if t339 = 0 then (if t344 = 0 then (if (!(t331 == t336) || (!(t332.toList == t337.toList) || (!(t333.toList == t338.toList)))) = true then (watchmanlaw12_FileCrash.j1 kj2 a1 t346 true a0_0 a0_1 a0_2 t341 t342 t343) else ((file_Read.f t331 t332 t333).bind fun t348 => (if t348.toList = t347.toList then (if (t346.size : Int) < (a0_1.size : Int) then (watchmanlaw12_FileCrash.j1 kj2 a1 t346 true a0_0 a0_1 a0_2 t341 t342 t343) else (if (t346.size : Int) > (t347.size : Int) then (watchmanlaw12_FileCrash.j1 kj2 a1 t346 true a0_0 a0_1 a0_2 t341 t342 t343) else (if 0 ≤ (t346.size : Int) then (if (t346.size : Int) ≤ (t347.size : Int) then (if (t347.extract 0 t346.size).toList = t346.toList then (watchmanlaw12_FileCrash.j1 kj2 a1 t346 (t343.toList != ([] : List UInt8)) a0_0 a0_1 a0_2 t341 t342 t343) else (watchmanlaw12_FileCrash.j1 kj2 a1 t346 true a0_0 a0_1 a0_2 t341 t342 t343)) else (none)) else (none)))) else (watchmanlaw12_FileCrash.j1 kj2 a1 t346 true a0_0 a0_1 a0_2 t341 t342 t343)))) else (watchmanlaw12_FileCrash.j1 kj2 a1 t346 true a0_0 a0_1 a0_2 t341 t342 t343)) else (watchmanlaw12_FileCrash.j1 kj2 a1 t346 true a0_0 a0_1 a0_2 t341 t342 t343)) else (watchmanlaw12_FileCrash.j1 kj2 a1 t346 true a0_0 a0_1 a0_2 t341 t342 t343)))) = some r := H
        have A17 := Aside0.mk A170
        clear A170
        replace H := Option.bind_eq_some_iff.mp H
        obtain ⟨t346, A180, H⟩ := H
        replace H : ((file_Read.f a0_0 a0_1 a0_2).bind fun t347 => (if t334 = 0 then (if t339 = 0 then (if t344 = 0 then (if (!(t331 == t336) || (!(t332.toList == t337.toList) || (!(t333.toList == t338.toList)))) = true then (watchmanlaw12_FileCrash.j1 kj2 a1 t346 true a0_0 a0_1 a0_2 t341 t342 t343) else ((file_Read.f t331 t332 t333).bind fun t348 => (if t348.toList = t347.toList then (if (t346.size : Int) < (a0_1.size : Int) then (watchmanlaw12_FileCrash.j1 kj2 a1 t346 true a0_0 a0_1 a0_2 t341 t342 t343) else (if (t346.size : Int) > (t347.size : Int) then (watchmanlaw12_FileCrash.j1 kj2 a1 t346 true a0_0 a0_1 a0_2 t341 t342 t343) else (if 0 ≤ (t346.size : Int) then (if (t346.size : Int) ≤ (t347.size : Int) then (if (t347.extract 0 t346.size).toList = t346.toList then (watchmanlaw12_FileCrash.j1 kj2 a1 t346 (t343.toList != ([] : List UInt8)) a0_0 a0_1 a0_2 t341 t342 t343) else (watchmanlaw12_FileCrash.j1 kj2 a1 t346 true a0_0 a0_1 a0_2 t341 t342 t343)) else (none)) else (none)))) else (watchmanlaw12_FileCrash.j1 kj2 a1 t346 true a0_0 a0_1 a0_2 t341 t342 t343)))) else (watchmanlaw12_FileCrash.j1 kj2 a1 t346 true a0_0 a0_1 a0_2 t341 t342 t343)) else (watchmanlaw12_FileCrash.j1 kj2 a1 t346 true a0_0 a0_1 a0_2 t341 t342 t343)) else (watchmanlaw12_FileCrash.j1 kj2 a1 t346 true a0_0 a0_1 a0_2 t341 t342 t343))) = some r := H
        have A18 := Aside0.mk A180
        clear A180
        replace H := Option.bind_eq_some_iff.mp H
        obtain ⟨t347, A190, H⟩ := H
        replace H : (if t334 = 0 then (if t339 = 0 then (if t344 = 0 then (if (!(t331 == t336) || (!(t332.toList == t337.toList) || (!(t333.toList == t338.toList)))) = true then (watchmanlaw12_FileCrash.j1 kj2 a1 t346 true a0_0 a0_1 a0_2 t341 t342 t343) else ((file_Read.f t331 t332 t333).bind fun t348 => (if t348.toList = t347.toList then (if (t346.size : Int) < (a0_1.size : Int) then (watchmanlaw12_FileCrash.j1 kj2 a1 t346 true a0_0 a0_1 a0_2 t341 t342 t343) else (if (t346.size : Int) > (t347.size : Int) then (watchmanlaw12_FileCrash.j1 kj2 a1 t346 true a0_0 a0_1 a0_2 t341 t342 t343) else (if 0 ≤ (t346.size : Int) then (if (t346.size : Int) ≤ (t347.size : Int) then (if (t347.extract 0 t346.size).toList = t346.toList then (watchmanlaw12_FileCrash.j1 kj2 a1 t346 (t343.toList != ([] : List UInt8)) a0_0 a0_1 a0_2 t341 t342 t343) else (watchmanlaw12_FileCrash.j1 kj2 a1 t346 true a0_0 a0_1 a0_2 t341 t342 t343)) else (none)) else (none)))) else (watchmanlaw12_FileCrash.j1 kj2 a1 t346 true a0_0 a0_1 a0_2 t341 t342 t343)))) else (watchmanlaw12_FileCrash.j1 kj2 a1 t346 true a0_0 a0_1 a0_2 t341 t342 t343)) else (watchmanlaw12_FileCrash.j1 kj2 a1 t346 true a0_0 a0_1 a0_2 t341 t342 t343)) else (watchmanlaw12_FileCrash.j1 kj2 a1 t346 true a0_0 a0_1 a0_2 t341 t342 t343)) = some r := H
        have A19 := Aside0.mk A190
        clear A190
        have HC20 := Aside0.mk H
        clear H
        have hcz21_0 : wc.cell? ⟨gb327, 0, none⟩ = some (.int .i64 a0_0) := (blk_cell BK327.out 0).trans rfl
        have hcz21_1 : wc.cell? ⟨gb327, 1, none⟩ = some (.string a0_1) := (blk_cell BK327.out 1).trans rfl
        have hcz21_2 : wc.cell? ⟨gb327, 2, none⟩ = some (.string a0_2) := (blk_cell BK327.out 2).trans rfl
        have hfz21_0 := blk_frozen BK327.out 0
        have hfz21_1 := blk_frozen BK327.out 1
        have hfz21_2 := blk_frozen BK327.out 2
        go_upto_region 8 with (first | ((with_reducible refine gate_callee (f := 17) rfl ?_); refine goesL_ (some 24) rfl rfl Try.func17 (by kernel_rfl) rfl #[.agg #[.int .i64 a0_0, .string a0_1, .string a0_2]] rfl (by (try simp only [List.map_toArray, List.map_cons, List.map_nil]); first | done | rfl | (simp only [List.length_drop, List.length_take]; rfl)) ?_; (with_reducible refine (file_Sync.calls a0_0 a0_1 a0_2 t331 t332 t333 t334 _ A15.out).mono ?_); rintro e w22 ⟨rfl, hb⟩; refine ⟨_, rfl, ?_⟩; have n0_ := Aside0.mk (blk_below (g := gb327) (o := .cells #[.int .i64 a0_0, .string a0_1, .string a0_2] 23 (0, 0)) (by (with_reducible repeat (first | refine blk_drewN ?_ _ | refine blk_drew ?_ | refine blk_alloc ?_ _)); exact BK327.out) hb); have n1_ := Aside0.mk (below_step (by repeat (first | (with_reducible first | exact HB.out | apply below_alloc | apply pw_below_drewN | apply below_drew1 | refine below_set ?_ GE327.out) | exact HB.out)) hb); clear BK327; clear HB; have BK327 := n0_; have HB := n1_; clear n0_ n1_; (try clear hb); (try clear hb2); (try clear hk); (try clear hi); (try clear A15)) | ((with_reducible refine gate_dst (N := 5) rfl ?_); (try (refine gate_guard (by rfl) ?_; dsimp only)); refine box_event ?hg (N := 5) ?hd (cs := #[.int .i64 0, .string (⟨#[]⟩ : ByteArray), .string (⟨#[]⟩ : ByteArray)]) (t := 23) ?hr ?_; (case hd => rfl); (case hg => rfl); (case hr => first | (go_simp; done) | (go_simp; rfl)); intro gb335 hg w23 hbox hb; have n0_ := Aside0.mk (blk_below (g := gb327) (o := .cells #[.int .i64 a0_0, .string a0_1, .string a0_2] 23 (0, 0)) (by (with_reducible repeat (first | refine blk_drewN ?_ _ | refine blk_drew ?_ | refine blk_alloc ?_ _)); exact BK327.out) hb); have n1_ := Aside0.mk (below_step (by repeat (first | (with_reducible first | exact HB.out | apply below_alloc | apply pw_below_drewN | apply below_drew1 | refine below_set ?_ GE327.out) | exact HB.out)) hb); have n2_ := Aside0.mk (hbox); have n3_ := Aside0.mk ((by rw [hg]; exact (below_size (by repeat (first | (with_reducible first | exact HB.out | apply below_alloc | apply pw_below_drewN | apply below_drew1 | refine below_set ?_ GE327.out) | exact HB.out))) : w.heap.size ≤ gb335)); have n4_ := Aside0.mk ((by rw [hg]; exact (below_size (by repeat (first | (with_reducible first | exact HB.out | apply below_alloc | apply pw_below_drewN | apply below_drew1 | refine below_set ?_ GE327.out) | exact HB.out))) : w.heap.size ≤ gb335)); have n5_ := Aside0.mk ((by rw [hg]; exact Nat.ne_of_lt (blk_lt (g := gb327) (o := .cells #[.int .i64 a0_0, .string a0_1, .string a0_2] 23 (0, 0)) (by (with_reducible repeat (first | refine blk_drewN ?_ _ | refine blk_drew ?_ | refine blk_alloc ?_ _)); exact BK327.out)) : gb327 ≠ gb335)); have n6_ := Aside0.mk ((by rw [hg]; exact Nat.ne_of_gt (blk_lt (g := gb327) (o := .cells #[.int .i64 a0_0, .string a0_1, .string a0_2] 23 (0, 0)) (by (with_reducible repeat (first | refine blk_drewN ?_ _ | refine blk_drew ?_ | refine blk_alloc ?_ _)); exact BK327.out)) : gb335 ≠ gb327)); clear BK327; clear HB; have BK327 := n0_; have HB := n1_; have BK335 := n2_; have GW335 := n3_; have GE335 := n4_; have NB327_335 := n5_; have NB335_327 := n6_; clear n0_ n1_ n2_ n3_ n4_ n5_ n6_; clear hb hbox hg; have hnb24 := NB335_327.out; have hnc24 := NB327_335.out; have hcz25_0 : w23.cell? ⟨gb335, 0, none⟩ = some (.int .i64 0) := (blk_cell BK335.out 0).trans rfl; have hcz25_1 : w23.cell? ⟨gb335, 1, none⟩ = some (.string (⟨#[]⟩ : ByteArray)) := (blk_cell BK335.out 1).trans rfl; have hcz25_2 : w23.cell? ⟨gb335, 2, none⟩ = some (.string (⟨#[]⟩ : ByteArray)) := (blk_cell BK335.out 2).trans rfl; have hfz25_0 := blk_frozen BK335.out 0; have hfz25_1 := blk_frozen BK335.out 1; have hfz25_2 := blk_frozen BK335.out 2) | ((with_reducible refine gate_callee (f := 19) rfl ?_); refine goesL_ (some 30) rfl rfl Try.func19 (by kernel_rfl) rfl #[.agg #[.int .i64 t331, .string t332, .string t333], .int .i64 a1] rfl (by (try simp only [List.map_toArray, List.map_cons, List.map_nil]); first | done | rfl | (simp only [List.length_drop, List.length_take]; rfl)) ?_; (with_reducible refine (file_Crash.calls t331 t332 t333 a1 t336 t337 t338 t339 _ A16.out).mono ?_); rintro e w26 ⟨rfl, hb⟩; refine ⟨_, rfl, ?_⟩; have n0_ := Aside0.mk (blk_below (g := gb327) (o := .cells #[.int .i64 a0_0, .string a0_1, .string a0_2] 23 (0, 0)) (by (with_reducible repeat (first | refine blk_drewN ?_ _ | refine blk_drew ?_ | refine blk_alloc ?_ _)); refine blk_far ?_ NB327_335.out _; (with_reducible repeat (first | refine blk_drewN ?_ _ | refine blk_drew ?_ | refine blk_alloc ?_ _)); refine blk_far ?_ NB327_335.out _; (with_reducible repeat (first | refine blk_drewN ?_ _ | refine blk_drew ?_ | refine blk_alloc ?_ _)); refine blk_far ?_ NB327_335.out _; (with_reducible repeat (first | refine blk_drewN ?_ _ | refine blk_drew ?_ | refine blk_alloc ?_ _)); exact BK327.out) hb); have n1_ := Aside0.mk (blk_below (g := gb335) (o := .cells #[.int .i64 t331, .string t332, .string t333] 23 (0, 0)) (by (with_reducible repeat (first | refine blk_drewN ?_ _ | refine blk_drew ?_ | refine blk_alloc ?_ _)); refine blk_put (cs := #[.int .i64 t331, .string t332, .string (⟨#[]⟩ : ByteArray)]) ?_ 2 _ rfl; (with_reducible repeat (first | refine blk_drewN ?_ _ | refine blk_drew ?_ | refine blk_alloc ?_ _)); refine blk_put (cs := #[.int .i64 t331, .string (⟨#[]⟩ : ByteArray), .string (⟨#[]⟩ : ByteArray)]) ?_ 1 _ rfl; (with_reducible repeat (first | refine blk_drewN ?_ _ | refine blk_drew ?_ | refine blk_alloc ?_ _)); refine blk_put (cs := #[.int .i64 0, .string (⟨#[]⟩ : ByteArray), .string (⟨#[]⟩ : ByteArray)]) ?_ 0 _ rfl; (with_reducible repeat (first | refine blk_drewN ?_ _ | refine blk_drew ?_ | refine blk_alloc ?_ _)); exact BK335.out) hb); have n2_ := Aside0.mk (below_step (by repeat (first | (with_reducible first | exact HB.out | apply below_alloc | apply pw_below_drewN | apply below_drew1 | refine below_set ?_ GE327.out | refine below_set ?_ GE335.out) | exact HB.out)) hb); clear BK327; clear BK335; clear HB; have BK327 := n0_; have BK335 := n1_; have HB := n2_; clear n0_ n1_ n2_; (try clear hb); (try clear hb2); (try clear hk); (try clear hi); (try clear A16)) | ((with_reducible refine gate_dst (N := 7) rfl ?_); (try (refine gate_guard (by rfl) ?_; dsimp only)); refine box_event ?hg (N := 7) ?hd (cs := #[.int .i64 0, .string (⟨#[]⟩ : ByteArray), .string (⟨#[]⟩ : ByteArray)]) (t := 23) ?hr ?_; (case hd => rfl); (case hg => rfl); (case hr => first | (go_simp; done) | (go_simp; rfl)); intro gb340 hg w27 hbox hb; have n0_ := Aside0.mk (blk_below (g := gb327) (o := .cells #[.int .i64 a0_0, .string a0_1, .string a0_2] 23 (0, 0)) (by (with_reducible repeat (first | refine blk_drewN ?_ _ | refine blk_drew ?_ | refine blk_alloc ?_ _)); exact BK327.out) hb); have n1_ := Aside0.mk (blk_below (g := gb335) (o := .cells #[.int .i64 t331, .string t332, .string t333] 23 (0, 0)) (by (with_reducible repeat (first | refine blk_drewN ?_ _ | refine blk_drew ?_ | refine blk_alloc ?_ _)); exact BK335.out) hb); have n2_ := Aside0.mk (below_step (by repeat (first | (with_reducible first | exact HB.out | apply below_alloc | apply pw_below_drewN | apply below_drew1 | refine below_set ?_ GE327.out | refine below_set ?_ GE335.out) | exact HB.out)) hb); have n3_ := Aside0.mk (hbox); have n4_ := Aside0.mk ((by rw [hg]; exact (below_size (by repeat (first | (with_reducible first | exact HB.out | apply below_alloc | apply pw_below_drewN | apply below_drew1 | refine below_set ?_ GE327.out | refine below_set ?_ GE335.out) | exact HB.out))) : w.heap.size ≤ gb340)); have n5_ := Aside0.mk ((by rw [hg]; exact (below_size (by repeat (first | (with_reducible first | exact HB.out | apply below_alloc | apply pw_below_drewN | apply below_drew1 | refine below_set ?_ GE327.out | refine below_set ?_ GE335.out) | exact HB.out))) : w.heap.size ≤ gb340)); have n6_ := Aside0.mk ((by rw [hg]; exact Nat.ne_of_lt (blk_lt (g := gb327) (o := .cells #[.int .i64 a0_0, .string a0_1, .string a0_2] 23 (0, 0)) (by (with_reducible repeat (first | refine blk_drewN ?_ _ | refine blk_drew ?_ | refine blk_alloc ?_ _)); exact BK327.out)) : gb327 ≠ gb340)); have n7_ := Aside0.mk ((by rw [hg]; exact Nat.ne_of_gt (blk_lt (g := gb327) (o := .cells #[.int .i64 a0_0, .string a0_1, .string a0_2] 23 (0, 0)) (by (with_reducible repeat (first | refine blk_drewN ?_ _ | refine blk_drew ?_ | refine blk_alloc ?_ _)); exact BK327.out)) : gb340 ≠ gb327)); have n8_ := Aside0.mk ((by rw [hg]; exact Nat.ne_of_lt (blk_lt (g := gb335) (o := .cells #[.int .i64 t331, .string t332, .string t333] 23 (0, 0)) (by (with_reducible repeat (first | refine blk_drewN ?_ _ | refine blk_drew ?_ | refine blk_alloc ?_ _)); exact BK335.out)) : gb335 ≠ gb340)); have n9_ := Aside0.mk ((by rw [hg]; exact Nat.ne_of_gt (blk_lt (g := gb335) (o := .cells #[.int .i64 t331, .string t332, .string t333] 23 (0, 0)) (by (with_reducible repeat (first | refine blk_drewN ?_ _ | refine blk_drew ?_ | refine blk_alloc ?_ _)); exact BK335.out)) : gb340 ≠ gb335)); clear BK327; clear BK335; clear HB; have BK327 := n0_; have BK335 := n1_; have HB := n2_; have BK340 := n3_; have GW340 := n4_; have GE340 := n5_; have NB327_340 := n6_; have NB340_327 := n7_; have NB335_340 := n8_; have NB340_335 := n9_; clear n0_ n1_ n2_ n3_ n4_ n5_ n6_ n7_ n8_ n9_; clear hb hbox hg; have hnb28 := NB340_327.out; have hnc28 := NB327_340.out; have hnb29 := NB340_335.out; have hnc29 := NB335_340.out; have hcz30_0 : w27.cell? ⟨gb340, 0, none⟩ = some (.int .i64 0) := (blk_cell BK340.out 0).trans rfl; have hcz30_1 : w27.cell? ⟨gb340, 1, none⟩ = some (.string (⟨#[]⟩ : ByteArray)) := (blk_cell BK340.out 1).trans rfl; have hcz30_2 : w27.cell? ⟨gb340, 2, none⟩ = some (.string (⟨#[]⟩ : ByteArray)) := (blk_cell BK340.out 2).trans rfl; have hfz30_0 := blk_frozen BK340.out 0; have hfz30_1 := blk_frozen BK340.out 1; have hfz30_2 := blk_frozen BK340.out 2; have hcz31_0 : w27.cell? ⟨gb327, 0, none⟩ = some (.int .i64 a0_0) := (blk_cell BK327.out 0).trans rfl; have hcz31_1 : w27.cell? ⟨gb327, 1, none⟩ = some (.string a0_1) := (blk_cell BK327.out 1).trans rfl; have hcz31_2 : w27.cell? ⟨gb327, 2, none⟩ = some (.string a0_2) := (blk_cell BK327.out 2).trans rfl; have hfz31_0 := blk_frozen BK327.out 0; have hfz31_1 := blk_frozen BK327.out 1; have hfz31_2 := blk_frozen BK327.out 2) | ((with_reducible refine gate_callee (f := 19) rfl ?_); refine goesL_ (some 36) rfl rfl Try.func19 (by kernel_rfl) rfl #[.agg #[.int .i64 a0_0, .string a0_1, .string a0_2], .int .i64 a1] rfl (by (try simp only [List.map_toArray, List.map_cons, List.map_nil]); first | done | rfl | (simp only [List.length_drop, List.length_take]; rfl)) ?_; (with_reducible refine (file_Crash.calls a0_0 a0_1 a0_2 a1 t341 t342 t343 t344 _ A17.out).mono ?_); rintro e w32 ⟨rfl, hb⟩; refine ⟨_, rfl, ?_⟩; have n0_ := Aside0.mk (blk_below (g := gb327) (o := .cells #[.int .i64 a0_0, .string a0_1, .string a0_2] 23 (0, 0)) (by (with_reducible repeat (first | refine blk_drewN ?_ _ | refine blk_drew ?_ | refine blk_alloc ?_ _)); refine blk_far ?_ NB327_340.out _; (with_reducible repeat (first | refine blk_drewN ?_ _ | refine blk_drew ?_ | refine blk_alloc ?_ _)); refine blk_far ?_ NB327_340.out _; (with_reducible repeat (first | refine blk_drewN ?_ _ | refine blk_drew ?_ | refine blk_alloc ?_ _)); refine blk_far ?_ NB327_340.out _; (with_reducible repeat (first | refine blk_drewN ?_ _ | refine blk_drew ?_ | refine blk_alloc ?_ _)); exact BK327.out) hb); have n1_ := Aside0.mk (blk_below (g := gb335) (o := .cells #[.int .i64 t331, .string t332, .string t333] 23 (0, 0)) (by (with_reducible repeat (first | refine blk_drewN ?_ _ | refine blk_drew ?_ | refine blk_alloc ?_ _)); refine blk_far ?_ NB335_340.out _; (with_reducible repeat (first | refine blk_drewN ?_ _ | refine blk_drew ?_ | refine blk_alloc ?_ _)); refine blk_far ?_ NB335_340.out _; (with_reducible repeat (first | refine blk_drewN ?_ _ | refine blk_drew ?_ | refine blk_alloc ?_ _)); refine blk_far ?_ NB335_340.out _; (with_reducible repeat (first | refine blk_drewN ?_ _ | refine blk_drew ?_ | refine blk_alloc ?_ _)); exact BK335.out) hb); have n2_ := Aside0.mk (blk_below (g := gb340) (o := .cells #[.int .i64 t336, .string t337, .string t338] 23 (0, 0)) (by (with_reducible repeat (first | refine blk_drewN ?_ _ | refine blk_drew ?_ | refine blk_alloc ?_ _)); refine blk_put (cs := #[.int .i64 t336, .string t337, .string (⟨#[]⟩ : ByteArray)]) ?_ 2 _ rfl; (with_reducible repeat (first | refine blk_drewN ?_ _ | refine blk_drew ?_ | refine blk_alloc ?_ _)); refine blk_put (cs := #[.int .i64 t336, .string (⟨#[]⟩ : ByteArray), .string (⟨#[]⟩ : ByteArray)]) ?_ 1 _ rfl; (with_reducible repeat (first | refine blk_drewN ?_ _ | refine blk_drew ?_ | refine blk_alloc ?_ _)); refine blk_put (cs := #[.int .i64 0, .string (⟨#[]⟩ : ByteArray), .string (⟨#[]⟩ : ByteArray)]) ?_ 0 _ rfl; (with_reducible repeat (first | refine blk_drewN ?_ _ | refine blk_drew ?_ | refine blk_alloc ?_ _)); exact BK340.out) hb); have n3_ := Aside0.mk (below_step (by repeat (first | (with_reducible first | exact HB.out | apply below_alloc | apply pw_below_drewN | apply below_drew1 | refine below_set ?_ GE327.out | refine below_set ?_ GE335.out | refine below_set ?_ GE340.out) | exact HB.out)) hb); clear BK327; clear BK335; clear BK340; clear HB; have BK327 := n0_; have BK335 := n1_; have BK340 := n2_; have HB := n3_; clear n0_ n1_ n2_ n3_; (try clear hb); (try clear hb2); (try clear hk); (try clear hi); (try clear A17)) | ((with_reducible refine gate_dst (N := 9) rfl ?_); (try (refine gate_guard (by rfl) ?_; dsimp only)); refine box_event ?hg (N := 9) ?hd (cs := #[.int .i64 0, .string (⟨#[]⟩ : ByteArray), .string (⟨#[]⟩ : ByteArray)]) (t := 23) ?hr ?_; (case hd => rfl); (case hg => rfl); (case hr => first | (go_simp; done) | (go_simp; rfl)); intro gb345 hg w33 hbox hb; have n0_ := Aside0.mk (blk_below (g := gb327) (o := .cells #[.int .i64 a0_0, .string a0_1, .string a0_2] 23 (0, 0)) (by (with_reducible repeat (first | refine blk_drewN ?_ _ | refine blk_drew ?_ | refine blk_alloc ?_ _)); exact BK327.out) hb); have n1_ := Aside0.mk (blk_below (g := gb335) (o := .cells #[.int .i64 t331, .string t332, .string t333] 23 (0, 0)) (by (with_reducible repeat (first | refine blk_drewN ?_ _ | refine blk_drew ?_ | refine blk_alloc ?_ _)); exact BK335.out) hb); have n2_ := Aside0.mk (blk_below (g := gb340) (o := .cells #[.int .i64 t336, .string t337, .string t338] 23 (0, 0)) (by (with_reducible repeat (first | refine blk_drewN ?_ _ | refine blk_drew ?_ | refine blk_alloc ?_ _)); exact BK340.out) hb); have n3_ := Aside0.mk (below_step (by repeat (first | (with_reducible first | exact HB.out | apply below_alloc | apply pw_below_drewN | apply below_drew1 | refine below_set ?_ GE327.out | refine below_set ?_ GE335.out | refine below_set ?_ GE340.out) | exact HB.out)) hb); have n4_ := Aside0.mk (hbox); have n5_ := Aside0.mk ((by rw [hg]; exact (below_size (by repeat (first | (with_reducible first | exact HB.out | apply below_alloc | apply pw_below_drewN | apply below_drew1 | refine below_set ?_ GE327.out | refine below_set ?_ GE335.out | refine below_set ?_ GE340.out) | exact HB.out))) : w.heap.size ≤ gb345)); have n6_ := Aside0.mk ((by rw [hg]; exact (below_size (by repeat (first | (with_reducible first | exact HB.out | apply below_alloc | apply pw_below_drewN | apply below_drew1 | refine below_set ?_ GE327.out | refine below_set ?_ GE335.out | refine below_set ?_ GE340.out) | exact HB.out))) : w.heap.size ≤ gb345)); have n7_ := Aside0.mk ((by rw [hg]; exact Nat.ne_of_lt (blk_lt (g := gb327) (o := .cells #[.int .i64 a0_0, .string a0_1, .string a0_2] 23 (0, 0)) (by (with_reducible repeat (first | refine blk_drewN ?_ _ | refine blk_drew ?_ | refine blk_alloc ?_ _)); exact BK327.out)) : gb327 ≠ gb345)); have n8_ := Aside0.mk ((by rw [hg]; exact Nat.ne_of_gt (blk_lt (g := gb327) (o := .cells #[.int .i64 a0_0, .string a0_1, .string a0_2] 23 (0, 0)) (by (with_reducible repeat (first | refine blk_drewN ?_ _ | refine blk_drew ?_ | refine blk_alloc ?_ _)); exact BK327.out)) : gb345 ≠ gb327)); have n9_ := Aside0.mk ((by rw [hg]; exact Nat.ne_of_lt (blk_lt (g := gb335) (o := .cells #[.int .i64 t331, .string t332, .string t333] 23 (0, 0)) (by (with_reducible repeat (first | refine blk_drewN ?_ _ | refine blk_drew ?_ | refine blk_alloc ?_ _)); exact BK335.out)) : gb335 ≠ gb345)); have n10_ := Aside0.mk ((by rw [hg]; exact Nat.ne_of_gt (blk_lt (g := gb335) (o := .cells #[.int .i64 t331, .string t332, .string t333] 23 (0, 0)) (by (with_reducible repeat (first | refine blk_drewN ?_ _ | refine blk_drew ?_ | refine blk_alloc ?_ _)); exact BK335.out)) : gb345 ≠ gb335)); have n11_ := Aside0.mk ((by rw [hg]; exact Nat.ne_of_lt (blk_lt (g := gb340) (o := .cells #[.int .i64 t336, .string t337, .string t338] 23 (0, 0)) (by (with_reducible repeat (first | refine blk_drewN ?_ _ | refine blk_drew ?_ | refine blk_alloc ?_ _)); exact BK340.out)) : gb340 ≠ gb345)); have n12_ := Aside0.mk ((by rw [hg]; exact Nat.ne_of_gt (blk_lt (g := gb340) (o := .cells #[.int .i64 t336, .string t337, .string t338] 23 (0, 0)) (by (with_reducible repeat (first | refine blk_drewN ?_ _ | refine blk_drew ?_ | refine blk_alloc ?_ _)); exact BK340.out)) : gb345 ≠ gb340)); clear BK327; clear BK335; clear BK340; clear HB; have BK327 := n0_; have BK335 := n1_; have BK340 := n2_; have HB := n3_; have BK345 := n4_; have GW345 := n5_; have GE345 := n6_; have NB327_345 := n7_; have NB345_327 := n8_; have NB335_345 := n9_; have NB345_335 := n10_; have NB340_345 := n11_; have NB345_340 := n12_; clear n0_ n1_ n2_ n3_ n4_ n5_ n6_ n7_ n8_ n9_ n10_ n11_ n12_; clear hb hbox hg; have hnb34 := NB345_327.out; have hnc34 := NB327_345.out; have hnb35 := NB345_335.out; have hnc35 := NB335_345.out; have hnb36 := NB345_340.out; have hnc36 := NB340_345.out; have hcz37_0 : w33.cell? ⟨gb345, 0, none⟩ = some (.int .i64 0) := (blk_cell BK345.out 0).trans rfl; have hcz37_1 : w33.cell? ⟨gb345, 1, none⟩ = some (.string (⟨#[]⟩ : ByteArray)) := (blk_cell BK345.out 1).trans rfl; have hcz37_2 : w33.cell? ⟨gb345, 2, none⟩ = some (.string (⟨#[]⟩ : ByteArray)) := (blk_cell BK345.out 2).trans rfl; have hfz37_0 := blk_frozen BK345.out 0; have hfz37_1 := blk_frozen BK345.out 1; have hfz37_2 := blk_frozen BK345.out 2) | ((with_reducible refine gate_callee (f := 28) rfl ?_); refine goesL_ (some 40) rfl rfl Try.func28 (by kernel_rfl) rfl #[.agg #[.int .i64 t341, .string t342, .string t343]] rfl (by (try simp only [List.map_toArray, List.map_cons, List.map_nil]); first | done | rfl | (simp only [List.length_drop, List.length_take]; rfl)) ?_; (with_reducible refine (file_Read.calls t341 t342 t343 t346 _ A18.out).mono ?_); rintro e w38 ⟨rfl, hb⟩; refine ⟨_, rfl, ?_⟩; have n0_ := Aside0.mk (blk_below (g := gb327) (o := .cells #[.int .i64 a0_0, .string a0_1, .string a0_2] 23 (0, 0)) (by (with_reducible repeat (first | refine blk_drewN ?_ _ | refine blk_drew ?_ | refine blk_alloc ?_ _)); refine blk_far ?_ NB327_345.out _; (with_reducible repeat (first | refine blk_drewN ?_ _ | refine blk_drew ?_ | refine blk_alloc ?_ _)); refine blk_far ?_ NB327_345.out _; (with_reducible repeat (first | refine blk_drewN ?_ _ | refine blk_drew ?_ | refine blk_alloc ?_ _)); refine blk_far ?_ NB327_345.out _; (with_reducible repeat (first | refine blk_drewN ?_ _ | refine blk_drew ?_ | refine blk_alloc ?_ _)); exact BK327.out) hb); have n1_ := Aside0.mk (blk_below (g := gb335) (o := .cells #[.int .i64 t331, .string t332, .string t333] 23 (0, 0)) (by (with_reducible repeat (first | refine blk_drewN ?_ _ | refine blk_drew ?_ | refine blk_alloc ?_ _)); refine blk_far ?_ NB335_345.out _; (with_reducible repeat (first | refine blk_drewN ?_ _ | refine blk_drew ?_ | refine blk_alloc ?_ _)); refine blk_far ?_ NB335_345.out _; (with_reducible repeat (first | refine blk_drewN ?_ _ | refine blk_drew ?_ | refine blk_alloc ?_ _)); refine blk_far ?_ NB335_345.out _; (with_reducible repeat (first | refine blk_drewN ?_ _ | refine blk_drew ?_ | refine blk_alloc ?_ _)); exact BK335.out) hb); have n2_ := Aside0.mk (blk_below (g := gb340) (o := .cells #[.int .i64 t336, .string t337, .string t338] 23 (0, 0)) (by (with_reducible repeat (first | refine blk_drewN ?_ _ | refine blk_drew ?_ | refine blk_alloc ?_ _)); refine blk_far ?_ NB340_345.out _; (with_reducible repeat (first | refine blk_drewN ?_ _ | refine blk_drew ?_ | refine blk_alloc ?_ _)); refine blk_far ?_ NB340_345.out _; (with_reducible repeat (first | refine blk_drewN ?_ _ | refine blk_drew ?_ | refine blk_alloc ?_ _)); refine blk_far ?_ NB340_345.out _; (with_reducible repeat (first | refine blk_drewN ?_ _ | refine blk_drew ?_ | refine blk_alloc ?_ _)); exact BK340.out) hb); have n3_ := Aside0.mk (blk_below (g := gb345) (o := .cells #[.int .i64 t341, .string t342, .string t343] 23 (0, 0)) (by (with_reducible repeat (first | refine blk_drewN ?_ _ | refine blk_drew ?_ | refine blk_alloc ?_ _)); refine blk_put (cs := #[.int .i64 t341, .string t342, .string (⟨#[]⟩ : ByteArray)]) ?_ 2 _ rfl; (with_reducible repeat (first | refine blk_drewN ?_ _ | refine blk_drew ?_ | refine blk_alloc ?_ _)); refine blk_put (cs := #[.int .i64 t341, .string (⟨#[]⟩ : ByteArray), .string (⟨#[]⟩ : ByteArray)]) ?_ 1 _ rfl; (with_reducible repeat (first | refine blk_drewN ?_ _ | refine blk_drew ?_ | refine blk_alloc ?_ _)); refine blk_put (cs := #[.int .i64 0, .string (⟨#[]⟩ : ByteArray), .string (⟨#[]⟩ : ByteArray)]) ?_ 0 _ rfl; (with_reducible repeat (first | refine blk_drewN ?_ _ | refine blk_drew ?_ | refine blk_alloc ?_ _)); exact BK345.out) hb); have n4_ := Aside0.mk (below_step (by repeat (first | (with_reducible first | exact HB.out | apply below_alloc | apply pw_below_drewN | apply below_drew1 | refine below_set ?_ GE327.out | refine below_set ?_ GE335.out | refine below_set ?_ GE340.out | refine below_set ?_ GE345.out) | exact HB.out)) hb); clear BK327; clear BK335; clear BK340; clear BK345; clear HB; have BK327 := n0_; have BK335 := n1_; have BK340 := n2_; have BK345 := n3_; have HB := n4_; clear n0_ n1_ n2_ n3_ n4_; (try clear hb); (try clear hb2); (try clear hk); (try clear hi); (try clear A18); have hcz39_0 : w38.cell? ⟨gb327, 0, none⟩ = some (.int .i64 a0_0) := (blk_cell BK327.out 0).trans rfl; have hcz39_1 : w38.cell? ⟨gb327, 1, none⟩ = some (.string a0_1) := (blk_cell BK327.out 1).trans rfl; have hcz39_2 : w38.cell? ⟨gb327, 2, none⟩ = some (.string a0_2) := (blk_cell BK327.out 2).trans rfl; have hfz39_0 := blk_frozen BK327.out 0; have hfz39_1 := blk_frozen BK327.out 1; have hfz39_2 := blk_frozen BK327.out 2) | ((with_reducible refine gate_callee (f := 28) rfl ?_); refine goesL_ (some 42) rfl rfl Try.func28 (by kernel_rfl) rfl #[.agg #[.int .i64 a0_0, .string a0_1, .string a0_2]] rfl (by (try simp only [List.map_toArray, List.map_cons, List.map_nil]); first | done | rfl | (simp only [List.length_drop, List.length_take]; rfl)) ?_; (with_reducible refine (file_Read.calls a0_0 a0_1 a0_2 t347 _ A19.out).mono ?_); rintro e w40 ⟨rfl, hb⟩; refine ⟨_, rfl, ?_⟩; have n0_ := Aside0.mk (blk_below (g := gb327) (o := .cells #[.int .i64 a0_0, .string a0_1, .string a0_2] 23 (0, 0)) (by (with_reducible repeat (first | refine blk_drewN ?_ _ | refine blk_drew ?_ | refine blk_alloc ?_ _)); exact BK327.out) hb); have n1_ := Aside0.mk (blk_below (g := gb335) (o := .cells #[.int .i64 t331, .string t332, .string t333] 23 (0, 0)) (by (with_reducible repeat (first | refine blk_drewN ?_ _ | refine blk_drew ?_ | refine blk_alloc ?_ _)); exact BK335.out) hb); have n2_ := Aside0.mk (blk_below (g := gb340) (o := .cells #[.int .i64 t336, .string t337, .string t338] 23 (0, 0)) (by (with_reducible repeat (first | refine blk_drewN ?_ _ | refine blk_drew ?_ | refine blk_alloc ?_ _)); exact BK340.out) hb); have n3_ := Aside0.mk (blk_below (g := gb345) (o := .cells #[.int .i64 t341, .string t342, .string t343] 23 (0, 0)) (by (with_reducible repeat (first | refine blk_drewN ?_ _ | refine blk_drew ?_ | refine blk_alloc ?_ _)); exact BK345.out) hb); have n4_ := Aside0.mk (below_step (by repeat (first | (with_reducible first | exact HB.out | apply below_alloc | apply pw_below_drewN | apply below_drew1 | refine below_set ?_ GE327.out | refine below_set ?_ GE335.out | refine below_set ?_ GE340.out | refine below_set ?_ GE345.out) | exact HB.out)) hb); clear BK327; clear BK335; clear BK340; clear BK345; clear HB; have BK327 := n0_; have BK335 := n1_; have BK340 := n2_; have BK345 := n3_; have HB := n4_; clear n0_ n1_ n2_ n3_ n4_; (try clear hb); (try clear hb2); (try clear hk); (try clear hi); (try clear A19)))
        (try simp only [Act.put, List.setIfInBounds_toArray, List.set_cons_zero, List.set_cons_succ])
        go_cut [91] (fun v91 wc => ∃ (kq : Nat) (x91_19 : Bool), v91 = .bool x91_19 ∧ Aside0 (watchmanlaw12_FileCrash.j1 kq a1 t346 x91_19 a0_0 a0_1 a0_2 t341 t342 t343 = some r) ∧ Aside0 (kq ≤ kj2) ∧ Aside0 (wc.heap[gb327]? = some (.cells #[.int .i64 a0_0, .string a0_1, .string a0_2] 23 (0, 0))) ∧ Aside0 (wc.heap[gb335]? = some (.cells #[.int .i64 t331, .string t332, .string t333] 23 (0, 0))) ∧ Aside0 (wc.heap[gb340]? = some (.cells #[.int .i64 t336, .string t337, .string t338] 23 (0, 0))) ∧ Aside0 (wc.heap[gb345]? = some (.cells #[.int .i64 t341, .string t342, .string t343] 23 (0, 0))) ∧ Aside0 (Below w.heap.size w wc))
        case first =>
          have H := HC20.out
          clear HC20
          by_cases c41 : t334 = 0
          · rw [if_pos c41] at H
            have c41b0 : (t334 == 0) = true := beq_iff_eq.mpr c41
            have c41b1 : (t334 != 0) = false := bne_eq_false_iff_eq.mpr c41
            clear c41
            (first | rw [c41b0] | (simp only [i64_w, i32_w]; rw [c41b0]) | skip)
            by_cases c42 : t339 = 0
            · rw [if_pos c42] at H
              have c42b0 : (t339 == 0) = true := beq_iff_eq.mpr c42
              have c42b1 : (t339 != 0) = false := bne_eq_false_iff_eq.mpr c42
              clear c42
              by_cases c43 : t344 = 0
              · rw [if_pos c43] at H
                have c43b0 : (t344 == 0) = true := beq_iff_eq.mpr c43
                have c43b1 : (t344 != 0) = false := bne_eq_false_iff_eq.mpr c43
                clear c43
                by_cases c44 : (!(t331 == t336) || (!(t332.toList == t337.toList) || (!(t333.toList == t338.toList)))) = true
                · rw [if_pos c44] at H
                  have c44b0 : (!(t331 == t336) || (!(t332.toList == t337.toList) || (!(t333.toList == t338.toList)))) = true := c44
                  clear c44
                  subst hr_; exact absurd H (by clear H; cases kj2 <;> simp [watchmanlaw12_FileCrash.j1, Option.bind_eq_some_iff])
                · rw [if_neg c44] at H
                  have c44b0 : (!(t331 == t336) || (!(t332.toList == t337.toList) || (!(t333.toList == t338.toList)))) = false := by simpa using c44
                  clear c44
                  replace H := Option.bind_eq_some_iff.mp H
                  obtain ⟨t348, A450, H⟩ := H
                  replace H : (if t348.toList = t347.toList then (if (t346.size : Int) < (a0_1.size : Int) then (watchmanlaw12_FileCrash.j1 kj2 a1 t346 true a0_0 a0_1 a0_2 t341 t342 t343) else (if (t346.size : Int) > (t347.size : Int) then (watchmanlaw12_FileCrash.j1 kj2 a1 t346 true a0_0 a0_1 a0_2 t341 t342 t343) else (if 0 ≤ (t346.size : Int) then (if (t346.size : Int) ≤ (t347.size : Int) then (if (t347.extract 0 t346.size).toList = t346.toList then (watchmanlaw12_FileCrash.j1 kj2 a1 t346 (t343.toList != ([] : List UInt8)) a0_0 a0_1 a0_2 t341 t342 t343) else (watchmanlaw12_FileCrash.j1 kj2 a1 t346 true a0_0 a0_1 a0_2 t341 t342 t343)) else (none)) else (none)))) else (watchmanlaw12_FileCrash.j1 kj2 a1 t346 true a0_0 a0_1 a0_2 t341 t342 t343)) = some r := H
                  have A45 := Aside0.mk A450
                  clear A450
                  by_cases c46 : t348.toList = t347.toList
                  · rw [if_pos c46] at H
                    have c46b0 : (t348.toList == t347.toList) = true := beq_iff_eq.mpr c46
                    have c46b1 : (t348.toList != t347.toList) = false := bne_eq_false_iff_eq.mpr c46
                    clear c46
                    by_cases c47 : (t346.size : Int) < (a0_1.size : Int)
                    · rw [if_pos c47] at H
                      have c47b0 : decide ((t346.size : Int) < (a0_1.size : Int)) = true := decide_eq_true c47
                      have c47b1 : decide (t346.size < a0_1.size) = true := decide_eq_true (Int.ofNat_lt.mp c47)
                      clear c47
                      subst hr_; exact absurd H (by clear H; cases kj2 <;> simp [watchmanlaw12_FileCrash.j1, Option.bind_eq_some_iff])
                    · rw [if_neg c47] at H
                      have c47b0 : decide ((t346.size : Int) < (a0_1.size : Int)) = false := decide_eq_false c47
                      have c47b1 : decide (t346.size < a0_1.size) = false := decide_eq_false (fun h => c47 (Int.ofNat_lt.mpr h))
                      clear c47
                      by_cases c48 : (t346.size : Int) > (t347.size : Int)
                      · rw [if_pos c48] at H
                        have c48b0 : decide ((t347.size : Int) < (t346.size : Int)) = true := decide_eq_true c48
                        have c48b1 : decide (t347.size < t346.size) = true := decide_eq_true (Int.ofNat_lt.mp c48)
                        clear c48
                        subst hr_; exact absurd H (by clear H; cases kj2 <;> simp [watchmanlaw12_FileCrash.j1, Option.bind_eq_some_iff])
                      · rw [if_neg c48] at H
                        have c48b0 : decide ((t347.size : Int) < (t346.size : Int)) = false := decide_eq_false c48
                        have c48b1 : decide (t347.size < t346.size) = false := decide_eq_false (fun h => c48 (Int.ofNat_lt.mpr h))
                        clear c48
                        by_cases c49 : 0 ≤ (t346.size : Int)
                        · rw [if_pos c49] at H
                          have c49b0 := eq_true c49
                          have c49b1 : decide (0 ≤ (t346.size : Int)) = true := decide_eq_true c49
                          clear c49
                          by_cases c50 : (t346.size : Int) ≤ (t347.size : Int)
                          · rw [if_pos c50] at H
                            have c50b0 := eq_true c50
                            have c50b1 : decide ((t346.size : Int) ≤ (t347.size : Int)) = true := decide_eq_true c50
                            clear c50
                            by_cases c51 : (t347.extract 0 t346.size).toList = t346.toList
                            · rw [if_pos c51] at H
                              have c51b0 : ((t347.extract 0 t346.size).toList == t346.toList) = true := beq_iff_eq.mpr c51
                              have c51b1 : ((t347.extract 0 t346.size).toList != t346.toList) = false := bne_eq_false_iff_eq.mpr c51
                              clear c51
                              have H' := Aside0.mk H
                              clear H
                              have hnb52 := NB335_327.out
                              have hnc52 := NB327_335.out
                              have hnb53 := NB335_340.out
                              have hnc53 := NB340_335.out
                              have hnb54 := NB335_345.out
                              have hnc54 := NB345_335.out
                              have hcz55_0 : w40.cell? ⟨gb335, 0, none⟩ = some (.int .i64 t331) := (blk_cell BK335.out 0).trans rfl
                              have hcz55_1 : w40.cell? ⟨gb335, 1, none⟩ = some (.string t332) := (blk_cell BK335.out 1).trans rfl
                              have hcz55_2 : w40.cell? ⟨gb335, 2, none⟩ = some (.string t333) := (blk_cell BK335.out 2).trans rfl
                              have hfz55_0 := blk_frozen BK335.out 0
                              have hfz55_1 := blk_frozen BK335.out 1
                              have hfz55_2 := blk_frozen BK335.out 2
                              have hnb56 := NB340_327.out
                              have hnc56 := NB327_340.out
                              have hnb57 := NB340_345.out
                              have hnc57 := NB345_340.out
                              have hcz58_0 : w40.cell? ⟨gb340, 0, none⟩ = some (.int .i64 t336) := (blk_cell BK340.out 0).trans rfl
                              have hcz58_1 : w40.cell? ⟨gb340, 1, none⟩ = some (.string t337) := (blk_cell BK340.out 1).trans rfl
                              have hcz58_2 : w40.cell? ⟨gb340, 2, none⟩ = some (.string t338) := (blk_cell BK340.out 2).trans rfl
                              have hfz58_0 := blk_frozen BK340.out 0
                              have hfz58_1 := blk_frozen BK340.out 1
                              have hfz58_2 := blk_frozen BK340.out 2
                              go_wp2_with (first | (go_at_call 28; (with_reducible refine (file_Read.calls t331 t332 t333 t348 _ A45.out).mono ?_); rintro e w59 ⟨rfl, hb⟩; have n0_ := Aside0.mk (blk_below (g := gb327) (o := .cells #[.int .i64 a0_0, .string a0_1, .string a0_2] 23 (0, 0)) (by (with_reducible repeat (first | refine blk_drewN ?_ _ | refine blk_drew ?_ | refine blk_alloc ?_ _)); exact BK327.out) hb); have n1_ := Aside0.mk (blk_below (g := gb335) (o := .cells #[.int .i64 t331, .string t332, .string t333] 23 (0, 0)) (by (with_reducible repeat (first | refine blk_drewN ?_ _ | refine blk_drew ?_ | refine blk_alloc ?_ _)); exact BK335.out) hb); have n2_ := Aside0.mk (blk_below (g := gb340) (o := .cells #[.int .i64 t336, .string t337, .string t338] 23 (0, 0)) (by (with_reducible repeat (first | refine blk_drewN ?_ _ | refine blk_drew ?_ | refine blk_alloc ?_ _)); exact BK340.out) hb); have n3_ := Aside0.mk (blk_below (g := gb345) (o := .cells #[.int .i64 t341, .string t342, .string t343] 23 (0, 0)) (by (with_reducible repeat (first | refine blk_drewN ?_ _ | refine blk_drew ?_ | refine blk_alloc ?_ _)); exact BK345.out) hb); have n4_ := Aside0.mk (below_step (by repeat (first | (with_reducible first | exact HB.out | apply below_alloc | apply pw_below_drewN | apply below_drew1 | refine below_set ?_ GE327.out | refine below_set ?_ GE335.out | refine below_set ?_ GE340.out | refine below_set ?_ GE345.out) | exact HB.out)) hb); clear BK327; clear BK335; clear BK340; clear BK345; clear HB; have BK327 := n0_; have BK335 := n1_; have BK340 := n2_; have BK345 := n3_; have HB := n4_; clear n0_ n1_ n2_ n3_ n4_; (try clear hb); (try clear hb2); (try clear hk); (try clear hi); (try clear A45); have hnb60 := NB327_345.out; have hnc60 := NB345_327.out; have hcz61_0 : w59.cell? ⟨gb327, 0, none⟩ = some (.int .i64 a0_0) := (blk_cell BK327.out 0).trans rfl; have hcz61_1 : w59.cell? ⟨gb327, 1, none⟩ = some (.string a0_1) := (blk_cell BK327.out 1).trans rfl; have hcz61_2 : w59.cell? ⟨gb327, 2, none⟩ = some (.string a0_2) := (blk_cell BK327.out 2).trans rfl; have hfz61_0 := blk_frozen BK327.out 0; have hfz61_1 := blk_frozen BK327.out 1; have hfz61_2 := blk_frozen BK327.out 2; have hcz62_0 : w59.cell? ⟨gb345, 0, none⟩ = some (.int .i64 t341) := (blk_cell BK345.out 0).trans rfl; have hcz62_1 : w59.cell? ⟨gb345, 1, none⟩ = some (.string t342) := (blk_cell BK345.out 1).trans rfl; have hcz62_2 : w59.cell? ⟨gb345, 2, none⟩ = some (.string t343) := (blk_cell BK345.out 2).trans rfl; have hfz62_0 := blk_frozen BK345.out 0; have hfz62_1 := blk_frozen BK345.out 1; have hfz62_2 := blk_frozen BK345.out 2))
                              go_meet
                              case rel => exact ⟨_, ((t343.toList != ([] : List UInt8))), (by first | rfl | (simp; done) | (simp [*]; done) | (simp; exact Bool.eq_iff_iff.mpr (by simp))), H', ⟨by have := HJ2.out; first | omega | exact Nat.le_refl _⟩, ⟨by (with_reducible repeat (first | refine blk_drewN ?_ _ | refine blk_drew ?_ | refine blk_alloc ?_ _)); exact BK327.out⟩, ⟨by (with_reducible repeat (first | refine blk_drewN ?_ _ | refine blk_drew ?_ | refine blk_alloc ?_ _)); exact BK335.out⟩, ⟨by (with_reducible repeat (first | refine blk_drewN ?_ _ | refine blk_drew ?_ | refine blk_alloc ?_ _)); exact BK340.out⟩, ⟨by (with_reducible repeat (first | refine blk_drewN ?_ _ | refine blk_drew ?_ | refine blk_alloc ?_ _)); exact BK345.out⟩, ⟨by repeat (first | (with_reducible first | exact HB.out | apply below_alloc | apply pw_below_drewN | apply below_drew1 | refine below_set ?_ GE327.out | refine below_set ?_ GE335.out | refine below_set ?_ GE340.out | refine below_set ?_ GE345.out) | exact HB.out)⟩⟩
                            · rw [if_neg c51] at H
                              have c51b0 : ((t347.extract 0 t346.size).toList == t346.toList) = false := beq_eq_false_iff_ne.mpr c51
                              have c51b1 : ((t347.extract 0 t346.size).toList != t346.toList) = true := bne_iff_ne.mpr c51
                              subst hr_; exact absurd H (by clear H; cases kj2 <;> simp [watchmanlaw12_FileCrash.j1, Option.bind_eq_some_iff])
                          · rw [if_neg c50] at H
                            exact absurd H (by simp)
                        · rw [if_neg c49] at H
                          exact absurd H (by simp)
                  · rw [if_neg c46] at H
                    have c46b0 : (t348.toList == t347.toList) = false := beq_eq_false_iff_ne.mpr c46
                    have c46b1 : (t348.toList != t347.toList) = true := bne_iff_ne.mpr c46
                    subst hr_; exact absurd H (by clear H; cases kj2 <;> simp [watchmanlaw12_FileCrash.j1, Option.bind_eq_some_iff])
              · rw [if_neg c43] at H
                have c43b0 : (t344 == 0) = false := beq_eq_false_iff_ne.mpr c43
                have c43b1 : (t344 != 0) = true := bne_iff_ne.mpr c43
                subst hr_; exact absurd H (by clear H; cases kj2 <;> simp [watchmanlaw12_FileCrash.j1, Option.bind_eq_some_iff])
            · rw [if_neg c42] at H
              have c42b0 : (t339 == 0) = false := beq_eq_false_iff_ne.mpr c42
              have c42b1 : (t339 != 0) = true := bne_iff_ne.mpr c42
              subst hr_; exact absurd H (by clear H; cases kj2 <;> simp [watchmanlaw12_FileCrash.j1, Option.bind_eq_some_iff])
          · rw [if_neg c41] at H
            have c41b0 : (t334 == 0) = false := beq_eq_false_iff_ne.mpr c41
            have c41b1 : (t334 != 0) = true := bne_iff_ne.mpr c41
            (first | rw [c41b0] | (simp only [i64_w, i32_w]; rw [c41b0]) | skip)
            subst hr_; exact absurd H (by clear H; cases kj2 <;> simp [watchmanlaw12_FileCrash.j1, Option.bind_eq_some_iff])
        case rest =>
          clear HC20
          try clear c1
          try clear c2
          try clear p2
          try clear c3
          try clear c4
          try clear c5
          try clear c6
          try clear c8
          try clear c12
          try clear c17
          try clear c19
          try clear c24
          try clear c25
          try clear c28
          try clear c29
          try clear c34
          try clear c35
          try clear c36
          try clear c41
          try clear c41b0
          try clear c41b1
          try clear c42
          try clear c42b0
          try clear c42b1
          try clear c43
          try clear c43b0
          try clear c43b1
          try clear c44
          try clear c44b0
          try clear c46
          try clear c46b0
          try clear c46b1
          try clear c47
          try clear c47b0
          try clear c47b1
          try clear c48
          try clear c48b0
          try clear c48b1
          try clear c49
          try clear c49b0
          try clear c49b1
          try clear c50
          try clear c50b0
          try clear c50b1
          try clear c51
          try clear c51b0
          try clear c51b1
          try clear c52
          try clear c53
          try clear c54
          try clear c56
          try clear c57
          try clear c60
          try clear hcz10_0
          try clear hcz10_1
          try clear hcz10_2
          try clear hcz21_0
          try clear hcz21_1
          try clear hcz21_2
          try clear hcz25_0
          try clear hcz25_1
          try clear hcz25_2
          try clear hcz30_0
          try clear hcz30_1
          try clear hcz30_2
          try clear hcz31_0
          try clear hcz31_1
          try clear hcz31_2
          try clear hcz37_0
          try clear hcz37_1
          try clear hcz37_2
          try clear hcz39_0
          try clear hcz39_1
          try clear hcz39_2
          try clear hcz55_0
          try clear hcz55_1
          try clear hcz55_2
          try clear hcz58_0
          try clear hcz58_1
          try clear hcz58_2
          try clear hcz61_0
          try clear hcz61_1
          try clear hcz61_2
          try clear hcz62_0
          try clear hcz62_1
          try clear hcz62_2
          try clear hcz6_0
          try clear hcz6_1
          try clear hcz6_2
          try clear hfz10_0
          try clear hfz10_1
          try clear hfz10_2
          try clear hfz21_0
          try clear hfz21_1
          try clear hfz21_2
          try clear hfz25_0
          try clear hfz25_1
          try clear hfz25_2
          try clear hfz30_0
          try clear hfz30_1
          try clear hfz30_2
          try clear hfz31_0
          try clear hfz31_1
          try clear hfz31_2
          try clear hfz37_0
          try clear hfz37_1
          try clear hfz37_2
          try clear hfz39_0
          try clear hfz39_1
          try clear hfz39_2
          try clear hfz55_0
          try clear hfz55_1
          try clear hfz55_2
          try clear hfz58_0
          try clear hfz58_1
          try clear hfz58_2
          try clear hfz61_0
          try clear hfz61_1
          try clear hfz61_2
          try clear hfz62_0
          try clear hfz62_1
          try clear hfz62_2
          try clear hfz6_0
          try clear hfz6_1
          try clear hfz6_2
          try clear p2
          obtain ⟨kq, x91_19, rfl, HA, HJ19, BK327, BK335, BK340, BK345, HB⟩ := hcut
          cases kq with
          | zero => exact absurd HA.out (by simp [watchmanlaw12_FileCrash.j1])
          | succ kj19 =>
            have H := HA.out
            clear HA
            simp only [watchmanlaw12_FileCrash.j1] at H
            by_cases c63 : x91_19 = true
            · subst c63
              have H1 : (some false) = some r := by rw [if_pos rfl] at H; exact H
              clear H
              have H := H1
              clear H1
              subst hr_; exact absurd H (by simp)
            · replace c63 := Bool.eq_false_iff.mpr c63
              subst c63
              have H1 : ((watchmanlaw12_filed.f).bind fun t349 => (if t349 = true then (if (t346.size : Int) = (wrap64 ((a0_1.size : Int) + (mn (mx a1 0) (a0_2.size : Int)))) then ((file_Is.f t341 t342 t343).bind fun t350 => (some t350)) else (some false)) else (some false))) = some r := by rw [if_neg (show ¬ (false = true) by decide)] at H; exact H
              clear H
              have H := H1
              clear H1
              obtain ⟨ji64, hji64⟩ : ∃ j_ : Int, (mx a1 0) = j_ := ⟨_, rfl⟩
              replace H : ((watchmanlaw12_filed.f).bind fun t349 => (if t349 = true then (if (t346.size : Int) = (wrap64 ((a0_1.size : Int) + (mn (ji64) (a0_2.size : Int)))) then ((file_Is.f t341 t342 t343).bind fun t350 => (some t350)) else (some false)) else (some false))) = some r := by first | (rw [hji64] at H; exact H) | (simp only [hji64] at H ⊢; exact H)
              (try (have hji64l : 0 ≤ ji64 := by (rw [← hji64]; unfold mx; (repeat' split) <;> omega)))
              (try (have hji64m : 0 ≤ ji64 := by omega))
              have hji64_ : (if a1 < 0 then 0 else a1) = ji64 := hji64
              obtain ⟨ji65, hji65⟩ : ∃ j_ : Int, (mn (ji64) (a0_2.size : Int)) = j_ := ⟨_, rfl⟩
              replace H : ((watchmanlaw12_filed.f).bind fun t349 => (if t349 = true then (if (t346.size : Int) = (wrap64 ((a0_1.size : Int) + (ji65))) then ((file_Is.f t341 t342 t343).bind fun t350 => (some t350)) else (some false)) else (some false))) = some r := by first | (rw [hji65] at H; exact H) | (simp only [hji65] at H ⊢; exact H)
              have hji65_ : (if (a0_2.size : Int) < (ji64) then (a0_2.size : Int) else (ji64)) = ji65 := hji65
              replace H := Option.bind_eq_some_iff.mp H
              obtain ⟨t349, A660, H⟩ := H
              replace H : (if t349 = true then (if (t346.size : Int) = (wrap64 ((a0_1.size : Int) + (ji65))) then ((file_Is.f t341 t342 t343).bind fun t350 => (some t350)) else (some false)) else (some false)) = some r := H
              have A66 := Aside0.mk A660
              clear A660
              by_cases c67 : t349 = true
              · subst c67
                have H1 : (if (t346.size : Int) = (wrap64 ((a0_1.size : Int) + (ji65))) then ((file_Is.f t341 t342 t343).bind fun t350 => (some t350)) else (some false)) = some r := by rw [if_pos rfl] at H; exact H
                clear H
                have H := H1
                clear H1
                by_cases c68 : (t346.size : Int) = (wrap64 ((a0_1.size : Int) + (ji65)))
                · rw [if_pos c68] at H
                  have c68b0 : ((t346.size : Int) == (wrap64 ((a0_1.size : Int) + (ji65)))) = true := beq_iff_eq.mpr c68
                  have c68b1 : ((t346.size : Int) != (wrap64 ((a0_1.size : Int) + (ji65)))) = false := bne_eq_false_iff_eq.mpr c68
                  clear c68
                  replace H := Option.bind_eq_some_iff.mp H
                  obtain ⟨t350, A690, H⟩ := H
                  replace H : (some t350) = some r := H
                  have A69 := Aside0.mk A690
                  clear A690
                  obtain rfl := Option.some.inj H
                  have hnb70 := NB327_335.out
                  have hnc70 := NB335_327.out
                  have hnb71 := NB327_340.out
                  have hnc71 := NB340_327.out
                  have hnb72 := NB327_345.out
                  have hnc72 := NB345_327.out
                  have hcz73_0 : wc.cell? ⟨gb327, 0, none⟩ = some (.int .i64 a0_0) := (blk_cell BK327.out 0).trans rfl
                  have hcz73_1 : wc.cell? ⟨gb327, 1, none⟩ = some (.string a0_1) := (blk_cell BK327.out 1).trans rfl
                  have hcz73_2 : wc.cell? ⟨gb327, 2, none⟩ = some (.string a0_2) := (blk_cell BK327.out 2).trans rfl
                  have hfz73_0 := blk_frozen BK327.out 0
                  have hfz73_1 := blk_frozen BK327.out 1
                  have hfz73_2 := blk_frozen BK327.out 2
                  go_wp2_with (first | ((with_reducible refine gate_callee (f := 25) rfl ?_); refine goesL_ (some 98) rfl rfl Try.func25 (by kernel_rfl) rfl #[] rfl (by (try simp only [List.map_toArray, List.map_cons, List.map_nil]); first | done | rfl | (simp only [List.length_drop, List.length_take]; rfl)) ?_; (with_reducible refine (watchmanlaw12_filed.calls  true _ A66.out (by first | rfl | assumption)).mono ?_); rintro e w74 ⟨rfl, hb⟩; refine ⟨_, rfl, ?_⟩; have n0_ := Aside0.mk (blk_below (g := gb327) (o := .cells #[.int .i64 a0_0, .string a0_1, .string a0_2] 23 (0, 0)) (by (with_reducible repeat (first | refine blk_drewN ?_ _ | refine blk_drew ?_ | refine blk_alloc ?_ _)); exact BK327.out) hb); have n1_ := Aside0.mk (blk_below (g := gb335) (o := .cells #[.int .i64 t331, .string t332, .string t333] 23 (0, 0)) (by (with_reducible repeat (first | refine blk_drewN ?_ _ | refine blk_drew ?_ | refine blk_alloc ?_ _)); exact BK335.out) hb); have n2_ := Aside0.mk (blk_below (g := gb340) (o := .cells #[.int .i64 t336, .string t337, .string t338] 23 (0, 0)) (by (with_reducible repeat (first | refine blk_drewN ?_ _ | refine blk_drew ?_ | refine blk_alloc ?_ _)); exact BK340.out) hb); have n3_ := Aside0.mk (blk_below (g := gb345) (o := .cells #[.int .i64 t341, .string t342, .string t343] 23 (0, 0)) (by (with_reducible repeat (first | refine blk_drewN ?_ _ | refine blk_drew ?_ | refine blk_alloc ?_ _)); exact BK345.out) hb); have n4_ := Aside0.mk (below_step (by repeat (first | (with_reducible first | exact HB.out | apply below_alloc | apply pw_below_drewN | apply below_drew1 | refine below_set ?_ GE327.out | refine below_set ?_ GE335.out | refine below_set ?_ GE340.out | refine below_set ?_ GE345.out) | exact HB.out)) hb); clear BK327; clear BK335; clear BK340; clear BK345; clear HB; have BK327 := n0_; have BK335 := n1_; have BK340 := n2_; have BK345 := n3_; have HB := n4_; clear n0_ n1_ n2_ n3_ n4_; (try clear hb); (try clear hb2); (try clear hk); (try clear hi); (try clear A66); have hcz75_0 : w74.cell? ⟨gb327, 0, none⟩ = some (.int .i64 a0_0) := (blk_cell BK327.out 0).trans rfl; have hcz75_1 : w74.cell? ⟨gb327, 1, none⟩ = some (.string a0_1) := (blk_cell BK327.out 1).trans rfl; have hcz75_2 : w74.cell? ⟨gb327, 2, none⟩ = some (.string a0_2) := (blk_cell BK327.out 2).trans rfl; have hfz75_0 := blk_frozen BK327.out 0; have hfz75_1 := blk_frozen BK327.out 1; have hfz75_2 := blk_frozen BK327.out 2; have hnb76 := NB345_335.out; have hnc76 := NB335_345.out; have hnb77 := NB345_340.out; have hnc77 := NB340_345.out; have hcz78_0 : w74.cell? ⟨gb345, 0, none⟩ = some (.int .i64 t341) := (blk_cell BK345.out 0).trans rfl; have hcz78_1 : w74.cell? ⟨gb345, 1, none⟩ = some (.string t342) := (blk_cell BK345.out 1).trans rfl; have hcz78_2 : w74.cell? ⟨gb345, 2, none⟩ = some (.string t343) := (blk_cell BK345.out 2).trans rfl; have hfz78_0 := blk_frozen BK345.out 0; have hfz78_1 := blk_frozen BK345.out 1; have hfz78_2 := blk_frozen BK345.out 2) | (go_at_call 26; (with_reducible refine (file_Is.calls t341 t342 t343 t350 _ A69.out).mono ?_); rintro e w79 ⟨rfl, hb⟩; have n0_ := Aside0.mk (blk_below (g := gb327) (o := .cells #[.int .i64 a0_0, .string a0_1, .string a0_2] 23 (0, 0)) (by (with_reducible repeat (first | refine blk_drewN ?_ _ | refine blk_drew ?_ | refine blk_alloc ?_ _)); exact BK327.out) hb); have n1_ := Aside0.mk (blk_below (g := gb335) (o := .cells #[.int .i64 t331, .string t332, .string t333] 23 (0, 0)) (by (with_reducible repeat (first | refine blk_drewN ?_ _ | refine blk_drew ?_ | refine blk_alloc ?_ _)); exact BK335.out) hb); have n2_ := Aside0.mk (blk_below (g := gb340) (o := .cells #[.int .i64 t336, .string t337, .string t338] 23 (0, 0)) (by (with_reducible repeat (first | refine blk_drewN ?_ _ | refine blk_drew ?_ | refine blk_alloc ?_ _)); exact BK340.out) hb); have n3_ := Aside0.mk (blk_below (g := gb345) (o := .cells #[.int .i64 t341, .string t342, .string t343] 23 (0, 0)) (by (with_reducible repeat (first | refine blk_drewN ?_ _ | refine blk_drew ?_ | refine blk_alloc ?_ _)); exact BK345.out) hb); have n4_ := Aside0.mk (below_step (by repeat (first | (with_reducible first | exact HB.out | apply below_alloc | apply pw_below_drewN | apply below_drew1 | refine below_set ?_ GE327.out | refine below_set ?_ GE335.out | refine below_set ?_ GE340.out | refine below_set ?_ GE345.out) | exact HB.out)) hb); clear BK327; clear BK335; clear BK340; clear BK345; clear HB; have BK327 := n0_; have BK335 := n1_; have BK340 := n2_; have BK345 := n3_; have HB := n4_; clear n0_ n1_ n2_ n3_ n4_; (try clear hb); (try clear hb2); (try clear hk); (try clear hi); (try clear A69)))
                  go_ret
                  exact ⟨by first | rfl | (simp [errW_none, errW_some] <;> rfl) | (simp only [← hji64, ← hji65]; first | rfl | (simp [errW_none, errW_some] <;> rfl)) | (simp [*, errW_none, errW_some] <;> rfl) | (simp [*, errW_none, errW_some]; exact Bool.eq_iff_iff.mpr (by simp)), by repeat (first | (with_reducible first | exact HB.out | apply below_alloc | apply pw_below_drewN | apply below_drew1 | refine below_set ?_ GE327.out | refine below_set ?_ GE335.out | refine below_set ?_ GE340.out | refine below_set ?_ GE345.out) | exact HB.out)⟩
                · rw [if_neg c68] at H
                  have c68b0 : ((t346.size : Int) == (wrap64 ((a0_1.size : Int) + (ji65)))) = false := beq_eq_false_iff_ne.mpr c68
                  have c68b1 : ((t346.size : Int) != (wrap64 ((a0_1.size : Int) + (ji65)))) = true := bne_iff_ne.mpr c68
                  subst hr_; exact absurd H (by simp)
              · replace c67 := Bool.eq_false_iff.mpr c67
                subst c67
                have H1 : (some false) = some r := by rw [if_neg (show ¬ (false = true) by decide)] at H; exact H
                clear H
                have H := H1
                clear H1
                subst hr_; exact absurd H (by simp)

/-- THE ONE PURE STATEMENT of watchmanlaw12_FileCrash. -/
def watchmanlaw12_FileCrash.Pure : Prop := ∀ (a0_0 : Int) (a0_1 : ByteArray) (a0_2 : ByteArray) (a1 : Int), (Lit.int .i64 a0_0).wf = true → a0_1.size ≤ maxLen → a0_2.size ≤ maxLen → (Lit.int .i64 a1).wf = true → ∃ k, watchmanlaw12_FileCrash.f k a0_0 a0_1 a0_2 a1 = some true

end Go.Proofs.Ytaadndikbecdbaa.Q
