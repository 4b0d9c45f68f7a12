import Derived.Test.YtfhphiedbdinmaaGreatDoorAMPk
import Derived.Test.YtfhphiedbdinmaaGreatDoorATopKeep
set_option linter.all false
namespace Go.Proofs.YtfhphiedbdinmaaGreatDoor.Pure
open Go Ab A
section
def rowsOf (l : List CmdT8) : List ByteArray := (l.map layC).map mkB
theorem rows_len (l : List CmdT8) : (rowsOf l).length = l.length := by simp [rowsOf]
theorem rows_at (l : List CmdT8) (i : Nat) (h : i < l.length) : (rowsOf l)[i]'(by rw [rows_len]; exact h) = mkB (layC l[i]) := by simp [rowsOf]
theorem bytes_w (l : List CmdT8) (hl : l.length <= 2199023255552) : W (fun k => top_bytes k l) (fun r => (r.2.1 = true /\ (∀ c ∈ l, mayC c) /\ r.1 = rowsOf l) \/ (r.2.1 = false /\ r.1 = [])) := by
 unfold top_bytes top_bytes_l1
 refine W.bind (R := fun r => (r.1 = .exit 0 /\ (∀ c ∈ l, mayC c) /\ r.2.2.2.1 = rowsOf l) \/ (r.1 = .ret /\ r.2.1 = [] /\ r.2.2.1 = false)) (W.cnt l.length (fun (s : List ByteArray) i => ([], false, s, i, ())) (fun i s => (∀ j (h : j < l.length), j < i -> mayC l[j]) /\ s = (rowsOf l).take i) ?_ ?_ 0 (Nat.zero_le _) [] ⟨fun j h h0 => by omega, rfl⟩) ?_
 . rintro s rec ⟨h1, rfl⟩
   dsimp only
   refine W.no (by omega) (W.now (.inl ⟨rfl, fun c hc => ?_, ?_⟩))
   . obtain ⟨j, hj, rfl⟩ := List.mem_iff_getElem.1 hc
     exact h1 j hj hj
   . dsimp only
     rw [<- rows_len l, List.take_length]
 . rintro i s rec hi ⟨h1, rfl⟩ hrec
   dsimp only
   refine W.y (by omega) (W.y (by omega) (W.y (by omega) ?_))
   simp only [Int.toNat_natCast, getD_nat hi]
   refine W.bev (putC_ok l[i]) ?_
   by_cases h : mayC l[i]
   . rw [if_pos h]
     refine W.nf rfl (W.y (by have := List.length_take_le i (rowsOf l); omega) ?_)
     rw [wrap_succ (by omega)]
     refine hrec _ ⟨fun j hj hji => ?_, ?_⟩
     . by_cases e : j = i
       . subst e; exact h
       . exact h1 j hj (by omega)
     . rw [List.take_succ_eq_append_getElem (by rw [rows_len]; exact hi), rows_at l i hi]
   . rw [if_neg h]
     exact W.t rfl (W.now (.inr ⟨rfl, rfl, rfl⟩))
 . rintro ⟨e, y, b, s, i, _⟩ (⟨h, h1, h2⟩ | ⟨h, h1, h2⟩) <;> (dsimp only at h h1 h2; subst h)
   . exact W.t rfl (W.now (.inl ⟨rfl, h1, h2⟩))
   . exact W.now (.inr ⟨h2, h1⟩)
theorem front_ev (l m : List ByteArray) (hm : m.length <= 1000000) (h : ∃ j, l = m.take j) : Ev (fun k => top_front k l m) (true, ()) := by
 unfold top_front top_front_l1
 have hl : l.length <= m.length := by obtain ⟨j, rfl⟩ := h; rw [List.length_take]; omega
 refine Ev.w (W.no (by omega) (W.bind (R := fun r => r.1 = .exit 0) (W.cnt l.length (fun (_ : Unit) i => (false, i, ())) (fun _ _ => True) ?_ ?_ 0 (Nat.zero_le _) () trivial) ?_))
 . intro _ rec _
   exact W.no (by simp) (W.now rfl)
 . intro i _ rec hi _ hrec
   dsimp only
   refine W.y (by omega) (W.y (by omega) (W.y (by omega) (W.y (by omega) (W.y (by omega) ?_))))
   rw [getD_z l i hi, getD_z m i (by omega)]
   have e : l[i] = m[i]'(by omega) := by
    obtain ⟨j, rfl⟩ := h
    rw [List.getElem_take]
   rw [e]
   refine W.nf (by simp) ?_
   rw [wrap_succ (by omega)]
   exact hrec () trivial
 . rintro ⟨e, b, i, _⟩ h
   dsimp only at h
   subst h
   exact W.t rfl (W.now rfl)
theorem alarms_ev (b : BrdT) (hb : b.2.2.1.length <= 1000000) : Ev (fun k => top_alarms k b b) (true, ()) := by
 unfold top_alarms top_alarms_l1
 refine Ev.w (W.nf (by simp) (W.nf (by simp) (W.nf (by simp) (W.bind (R := fun r => r.1 = .exit 0) (W.cnt b.2.2.1.length (fun (_ : Unit) i => (false, i, ())) (fun _ _ => True) ?_ ?_ 0 (Nat.zero_le _) () trivial) ?_))))
 . intro _ rec _
   exact W.no (by simp) (W.now rfl)
 . intro i _ rec hi _ hrec
   dsimp only
   refine W.y (by omega) (W.y (by omega) (W.y (by omega) (W.y (by omega) (W.y (by omega) (W.nf (by simp) ?_)))))
   rw [wrap_succ (by omega)]
   exact hrec () trivial
 . rintro ⟨e, b, i, _⟩ h
   dsimp only at h
   subst h
   exact W.t rfl (W.now rfl)
end
section
set_option maxRecDepth 100000 in
theorem kept_all (q : Nat) : top_kept (q + 40) = some (true, ()) := by kernel_rfl
theorem kept_ev : Ev (fun k => top_kept k) (true, ()) := ⟨40, fun k hk => by
 obtain ⟨q, rfl⟩ : ∃ q, k = q + 40 := ⟨k - 40, by omega⟩
 exact kept_all q⟩
end
section
theorem snapP {K : KT} {tx : ByteArray} {z : Int} {T : List Txt} (h : Gd K tx 0 [] z 0 T) (u : Nat) (hu : u <= 1000) (D v : Int) : (∃ x d e, e ≠ 0 /\ Ev (fun k => keep_Snap k K (u : Int) ((T.take u).map mkB) D) (x, d, e, ())) \/
 ∃ x d K' base P M, Ev (fun k => keep_Snap k K (u : Int) ((T.take u).map mkB) D) (x, d, 0, ()) /\ Ev (fun k => keep_Crash k x v) (K', 0, ()) /\ Ev (fun k => keep_Open k K') (tx, base, P, M, 0, ()) /\ ((base = (u : Int) /\ P = (T.take u).map mkB /\ M = (T.drop u).map mkB) \/ (base = 0 /\ P = [] /\ M = T.map mkB)) := by
 rcases snap_job h (u : Int) (T.take u) (by rw [List.length_take]; omega) D with ⟨x, d, e, he, ev⟩ | ⟨x, d, ev, job⟩
 . exact .inl ⟨x, d, e, he, ev⟩
 right
 obtain ⟨K', tx', base, P, n, T', ec, g, etx, ⟨dd, hdd, hn⟩, hor⟩ : ∃ K' tx' base P n T', Ev (fun k => keep_Crash k x v) (K', 0, ()) /\ Gd K' tx' base P z n T' /\ tx' = tx /\ (∃ dd, T = dd ++ T' /\ n = 0 + (dd.length : Int)) /\ (base = (u : Int) /\ P = (T.take u).map mkB \/ d = false /\ base = 0 /\ P = []) := by
  rcases job with ⟨_, tx', base, P, n, T', g, r⟩ | ⟨_, hv⟩
  . exact ⟨x, tx', base, P, n, T', g.crash v, g, r⟩
  . obtain ⟨K', tx', base, P, n, T', ec, g, r⟩ := hv v
    exact ⟨K', tx', base, P, n, T', ec, g, r⟩
 subst etx
 have hbd := g.bd
 have ho := g.open
 refine ⟨x, d, K', base, P, _, ev, ec, ho, ?_⟩
 rcases hor with ⟨hb, hP⟩ | ⟨_, hb, hP⟩
 . refine .inl ⟨hb, hP, ?_⟩
   congr 1
   have e1 : (base - n).toNat = u - dd.length := by omega
   rw [e1, hdd, List.drop_append, List.drop_of_length_le (l := dd) (by omega), List.nil_append]
 . refine .inr ⟨hb, hP, ?_⟩
   congr 1
   have e1 : dd.length = 0 := by omega
   have e2 : (base - n).toNat = 0 := by omega
   rw [e2, List.drop_zero, hdd, List.length_eq_zero_iff.1 e1, List.nil_append]
theorem run_parts (l : List CmdT8) (hl : l.length <= 25) (hc : ∀ c ∈ l, mayC c) (n : Nat) : ∃ s1 s2 a1 a2 a3, Ev (fun k => machine_Run k (0, 9, 0, [], [], [], ()) (l.take n)) (s1, a1, 0, ()) /\ Ev (fun k => machine_Run k s1 (l.drop n)) (s2, a2, 0, ()) /\ Ev (fun k => machine_Run k (0, 9, 0, [], [], [], ()) l) (s2, a3, 0, ()) /\ s2.2.2.2.1.length <= 1000 := by
 have h1 : (l.take n).length <= 25 := by rw [List.length_take]; omega
 have h2 : (l.drop n).length <= 25 := by rw [List.length_drop]; omega
 obtain ⟨s1, st1, hi1, hn1⟩ := steps_w (l.take n) (0, 9, 0, [], [], [], ()) new_inv (by dsimp only; omega) (fun c h => hc c (List.mem_of_mem_take h))
 obtain ⟨s2, st2, hi2, hn2⟩ := steps_w (l.drop n) s1 hi1 (by dsimp only at hn1; omega) (fun c h => hc c (List.mem_of_mem_drop h))
 have st := st1.append st2
 rw [List.take_append_drop] at st
 obtain ⟨a1, r1⟩ := run_ev st1 (by omega)
 obtain ⟨a2, r2⟩ := run_ev st2 (by omega)
 obtain ⟨a3, r3⟩ := run_ev st (by omega)
 have hb := hi2.2.2.1
 exact ⟨s1, s2, a1, a2, a3, r1, r2, r3, by have := hb.2.2.2.2.1; have := hb.2.1; dsimp only at *; omega⟩
end
section
theorem TopPicture_ev (a0 : List CmdT8) (a1 a2 a3 a4 : Int) (hl : a0.length <= 2199023255552) : Ev (fun k => top_TopPicture k a0 a1 a2 a3 a4) (true, ()) := by
 unfold top_TopPicture
 obtain ⟨N, eN, hN⟩ : ∃ y, Ev (fun k => keep_New k a1) y /\ ((y.2.1 ≠ 0 /\ y.1 = KZ) \/ ∃ tx, Gd y.1 tx 0 [] a1 0 []) := by
  rcases new_ok a1 with ⟨e, he, ev⟩ | ⟨K, tx, ev, g⟩
  . exact ⟨_, ev, .inl ⟨he, rfl⟩⟩
  . exact ⟨_, ev, .inr ⟨tx, g⟩⟩
 refine Ev.w (W.bind (bytes_w a0 hl) fun r hr => W.bev eN ?_)
 obtain ⟨L, eL, hL⟩ : ∃ L : List Txt, r.1 = L.map mkB /\ (r.2.1 = true -> L = a0.map layC /\ ∀ c ∈ a0, mayC c) := by
  rcases hr with ⟨_, hc, h⟩ | ⟨h, h'⟩
  . exact ⟨a0.map layC, h, fun _ => ⟨rfl, hc⟩⟩
  . exact ⟨[], h', fun q => by rw [h] at q; cases q⟩
 obtain ⟨R, eR, hR⟩ : ∃ R, Ev (fun k => keep_Push k N.1 r.1 (-1)) R /\ (N.2.1 = 0 -> R.2.2.1 = 0 -> ∃ tx, Gd R.1 tx 0 [] a1 0 L) := by
  rw [eL]
  rcases hN with ⟨h0, hz⟩ | ⟨tx, g⟩
  . rw [hz]; exact ⟨_, shutZ.push _ _, fun q => absurd q h0⟩
  . rcases g.push L (D := -1) (.inl (by decide)) with ⟨x, d, e, he, ev⟩ | ⟨x, ev, g'⟩
    . exact ⟨_, ev, fun _ q => absurd q he⟩
    . exact ⟨_, ev, fun _ _ => ⟨tx, g'⟩⟩
 refine W.bev eR ?_
 refine W.dec (fun _ => W.bev kept_ev (W.now rfl)) fun h25 => ?_
 refine W.nt (fun _ => W.bev kept_ev (W.now rfl)) fun hb => ?_
 refine W.bne (fun _ => W.bev kept_ev (W.now rfl)) fun h0 => ?_
 refine W.bne (fun _ => W.bev kept_ev (W.now rfl)) fun h1 => ?_
 refine W.dec (fun _ => W.bev kept_ev (W.now rfl)) fun h2 => ?_
 refine W.dec (fun _ => W.bev kept_ev (W.now rfl)) fun h3 => ?_
 obtain ⟨tx, g⟩ := hR h0 h1
 obtain ⟨rfl, hc⟩ := hL hb
 obtain ⟨u, rfl⟩ : ∃ u : Nat, a2 = (u : Int) := ⟨a2.toNat, by omega⟩
 have hr0 : r.1 = rowsOf a0 := eL
 have hn := rows_len a0
 rw [hr0]
 refine W.y (by omega) (W.y (by omega) ?_)
 have e1 : List.drop 0 (List.take ((u : Int)).toNat (rowsOf a0)) = ((a0.map layC).take u).map mkB := by rw [List.drop_zero, Int.toNat_natCast, List.map_take]; rfl
 rw [e1]
 rcases snapP g u (by omega) a3 a4 with ⟨x, d, e, he, ev⟩ | ⟨x, d, K', base, P, M, ev, ec, eo, hor⟩
 . exact W.bev ev (W.t (by simpa using he) (W.bev kept_ev (W.now rfl)))
 refine W.bev ev (W.nf rfl (W.bev ec (W.bev eo ?_)))
 obtain ⟨j, rfl, hP, hM, hj, hj2⟩ : ∃ j : Nat, base = (j : Int) /\ P = (rowsOf a0).take j /\ M = (rowsOf a0).drop j /\ ((j : Int) ≠ 0 -> j = u) /\ j <= a0.length := by
  rcases hor with ⟨h4, h5, h6⟩ | ⟨h4, h5, h6⟩
  . exact ⟨u, h4, by rw [h5, List.map_take]; rfl, by rw [h6, List.map_drop]; rfl, fun _ => rfl, by omega⟩
  . exact ⟨0, h4, h5, h6, fun q => absurd rfl q, Nat.zero_le _⟩
 have lP : P.length = j := by rw [hP, List.length_take]; omega
 have lM : M.length = a0.length - j := by rw [hM, List.length_drop]; omega
 have ePM : P ++ M = rowsOf a0 := by rw [hP, hM]; exact List.take_append_drop j _
 have hf := front_ev (rowsOf a0) (rowsOf a0) (by omega) ⟨a0.length, by rw [<- hn, List.take_length]⟩
 dsimp only
 refine W.bind (R := fun y => y.1 = P) (W.ite (fun q => W.now (List.length_eq_zero_iff.1 (Nat.eq_of_beq_eq_true q)).symm) fun _ => W.y (by omega) (W.now rfl)) ?_
 rintro ⟨p, _⟩ rfl
 dsimp only at *
 refine W.bind (R := fun y => y.1 = rowsOf a0) (W.ite (fun q => W.now ?_) fun _ => W.y (by omega) (W.now ePM)) ?_
 . have := List.length_eq_zero_iff.1 (Nat.eq_of_beq_eq_true q)
   rw [<- ePM, this, List.append_nil]
 rintro ⟨m, _⟩ h8
 dsimp only at h8
 subst h8
 refine W.bind (R := fun y => y.1 = false) (W.nf rfl (W.nf rfl (W.bne (fun q => W.nf (by rw [hj q]; simp) (W.nf (by rw [lP]; simp) (W.nf (by simp) (W.bev hf (W.now rfl))))) fun _ => W.nf (by rw [lP]; simp) (W.nf (by simp) (W.bev hf (W.now rfl)))))) ?_
 rintro ⟨b, _⟩ rfl
 obtain ⟨s1, s2, b1, b2, b3, r1, r2, r3, hs⟩ := run_parts a0 (by omega) hc j
 refine W.nf rfl (W.bev new_ev (W.y (by omega) (W.y (by omega) (W.sh ?_))))
 rw [List.drop_zero, Int.toNat_natCast]
 refine W.bev r1 (W.y (by omega) (W.y (by omega) (W.sh ?_)))
 rw [List.take_length]
 refine W.bev r2 (W.bev r3 (W.bev kept_ev (W.t rfl (W.t rfl (W.t rfl (W.t rfl (W.t rfl ?_)))))))
 exact W.bev (alarms_ev (s2.2.1, s2.2.2.1, s2.2.2.2.1, ()) (by dsimp only; omega)) (W.t rfl (W.now (by simp)))
theorem TopPicture : ∀ (a0 : (List (Int × (Int × (Int × (Int × (Int × (Int × (Int × (Int × Unit)))))))))) (a1 : Int) (a2 : Int) (a3 : Int) (a4 : Int), a0.length <= 2199023255552 -> (Lit.int .i64 a1).wf = true -> (Lit.int .i64 a2).wf = true -> (Lit.int .i64 a3).wf = true -> (Lit.int .i64 a4).wf = true -> ∃ k, top_TopPicture k a0 a1 a2 a3 a4 = some (true, ()) := by
 intro a0 a1 a2 a3 a4 hl _ _ _ _
 exact (TopPicture_ev a0 a1 a2 a3 a4 hl).get
end
end Go.Proofs.YtfhphiedbdinmaaGreatDoor.Pure
