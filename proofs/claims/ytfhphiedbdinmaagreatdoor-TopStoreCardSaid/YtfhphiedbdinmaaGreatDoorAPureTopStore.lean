import Derived.Test.YtfhphiedbdinmaaGreatDoorAMPk
import Derived.Test.YtfhphiedbdinmaaGreatDoorATopKeep
set_option linter.all false
namespace Go.Proofs.YtfhphiedbdinmaaGreatDoor.Pure
open Go Ab A
section
def rowsOf (l : List CmdT8) : List ByteArray := (l.map layC).map mkB
theorem rows_len (l : List CmdT8) : (rowsOf l).length = l.length := by simp [rowsOf]
theorem rows_at (l : List CmdT8) (i : Nat) (h : i < l.length) : (rowsOf l)[i]'(by rw [rows_len]; exact h) = mkB (layC l[i]) := by simp [rowsOf]
theorem rows_take (l : List CmdT8) (i : Nat) : (rowsOf l).take i = rowsOf (l.take i) := by simp [rowsOf, List.map_take]
theorem bytes_w (l : List CmdT8) (hl : l.length <= 2199023255552) : W (fun k => top_bytes k l) (fun r => (r.2.1 = true /\ (∀ c ∈ l, mayC c) /\ r.1 = rowsOf l) \/ (r.2.1 = false /\ r.1 = [])) := by
 unfold top_bytes top_bytes_l1
 refine W.bind (R := fun r => (r.1 = .exit 0 /\ (∀ c ∈ l, mayC c) /\ r.2.2.2.1 = rowsOf l) \/ (r.1 = .ret /\ r.2.1 = [] /\ r.2.2.1 = false)) (W.cnt l.length (fun (s : List ByteArray) i => ([], false, s, i, ())) (fun i s => (∀ j (h : j < l.length), j < i -> mayC l[j]) /\ s = (rowsOf l).take i) ?_ ?_ 0 (Nat.zero_le _) [] ⟨fun j h h0 => by omega, rfl⟩) ?_
 . rintro s rec ⟨h1, rfl⟩
   dsimp only
   refine W.no (by omega) (W.now (.inl ⟨rfl, fun c hc => ?_, ?_⟩))
   . obtain ⟨j, hj, rfl⟩ := List.mem_iff_getElem.1 hc
     exact h1 j hj hj
   . dsimp only
     rw [<- rows_len l, List.take_length]
 . rintro i s rec hi ⟨h1, rfl⟩ hrec
   dsimp only
   refine W.y (by omega) (W.y (by omega) (W.y (by omega) ?_))
   simp only [Int.toNat_natCast, getD_nat hi]
   refine W.bev (putC_ok l[i]) ?_
   by_cases h : mayC l[i]
   . rw [if_pos h]
     refine W.nf rfl (W.y (by have := List.length_take_le i (rowsOf l); omega) ?_)
     rw [wrap_succ (by omega)]
     refine hrec _ ⟨fun j hj hji => ?_, ?_⟩
     . by_cases e : j = i
       . subst e; exact h
       . exact h1 j hj (by omega)
     . rw [List.take_succ_eq_append_getElem (by rw [rows_len]; exact hi), rows_at l i hi]
   . rw [if_neg h]
     exact W.t rfl (W.now (.inr ⟨rfl, rfl, rfl⟩))
 . rintro ⟨e, y, b, s, i, _⟩ (⟨h, h1, h2⟩ | ⟨h, h1, h2⟩) <;> (dsimp only at h h1 h2; subst h)
   . exact W.t rfl (W.now (.inl ⟨rfl, h1, h2⟩))
   . exact W.now (.inr ⟨h2, h1⟩)
theorem cmds_ev (l : List CmdT8) (hl : l.length <= 1000000) (h : ∀ c ∈ l, mayC c) : Ev (fun k => top_cmds k (rowsOf l)) (l, true, ()) := by
 unfold top_cmds top_cmds_l1
 have hr := rows_len l
 refine Ev.w (W.bind (R := fun r => r.1 = .exit 0 /\ r.2.2.2.1 = l) (W.cnt l.length (fun (s : List CmdT8) i => ([], false, s, i, ())) (fun i s => s = l.take i) ?_ ?_ 0 (Nat.zero_le _) [] rfl) ?_)
 . rintro s rec rfl
   dsimp only
   exact W.no (by omega) (W.now ⟨rfl, List.take_length⟩)
 . rintro i s rec hi rfl hrec
   dsimp only
   refine W.y (by omega) (W.y (by omega) (W.y (by omega) ?_))
   rw [getD_z (rowsOf l) i (by omega), rows_at l i hi]
   refine W.bev (getC_ok l[i] (h _ (List.getElem_mem hi))) (W.nf rfl (W.y (by have := List.length_take_le i l; omega) ?_))
   rw [wrap_succ (by omega)]
   exact hrec _ (take_succ' hi)
 . rintro ⟨e, y, b, s, i, _⟩ ⟨h, h1⟩
   dsimp only at h h1
   subst h h1
   exact W.t rfl (W.now rfl)
theorem front_ev (l m : List ByteArray) (hm : m.length <= 1000000) (h : ∃ j, l = m.take j) : Ev (fun k => top_front k l m) (true, ()) := by
 unfold top_front top_front_l1
 have hl : l.length <= m.length := by obtain ⟨j, rfl⟩ := h; rw [List.length_take]; omega
 refine Ev.w (W.no (by omega) (W.bind (R := fun r => r.1 = .exit 0) (W.cnt l.length (fun (_ : Unit) i => (false, i, ())) (fun _ _ => True) ?_ ?_ 0 (Nat.zero_le _) () trivial) ?_))
 . intro _ rec _
   exact W.no (by simp) (W.now rfl)
 . intro i _ rec hi _ hrec
   dsimp only
   refine W.y (by omega) (W.y (by omega) (W.y (by omega) (W.y (by omega) (W.y (by omega) ?_))))
   rw [getD_z l i hi, getD_z m i (by omega)]
   have e : l[i] = m[i]'(by omega) := by
    obtain ⟨j, rfl⟩ := h
    rw [List.getElem_take]
   rw [e]
   refine W.nf (by simp) ?_
   rw [wrap_succ (by omega)]
   exact hrec () trivial
 . rintro ⟨e, b, i, _⟩ h
   dsimp only at h
   subst h
   exact W.t rfl (W.now rfl)
theorem alarms_ev (b : BrdT) (hb : b.2.2.1.length <= 1000000) : Ev (fun k => top_alarms k b b) (true, ()) := by
 unfold top_alarms top_alarms_l1
 refine Ev.w (W.nf (by simp) (W.nf (by simp) (W.nf (by simp) (W.bind (R := fun r => r.1 = .exit 0) (W.cnt b.2.2.1.length (fun (_ : Unit) i => (false, i, ())) (fun _ _ => True) ?_ ?_ 0 (Nat.zero_le _) () trivial) ?_))))
 . intro _ rec _
   exact W.no (by simp) (W.now rfl)
 . intro i _ rec hi _ hrec
   dsimp only
   refine W.y (by omega) (W.y (by omega) (W.y (by omega) (W.y (by omega) (W.y (by omega) (W.nf (by simp) ?_)))))
   rw [wrap_succ (by omega)]
   exact hrec () trivial
 . rintro ⟨e, b, i, _⟩ h
   dsimp only at h
   subst h
   exact W.t rfl (W.now rfl)
end
section
set_option maxRecDepth 100000 in
theorem kept_all (q : Nat) : top_kept (q + 40) = some (true, ()) := by kernel_rfl
theorem kept_ev : Ev (fun k => top_kept k) (true, ()) := ⟨40, fun k hk => by
 obtain ⟨q, rfl⟩ : ∃ q, k = q + 40 := ⟨k - 40, by omega⟩
 exact kept_all q⟩
end
section
theorem one_row (l : List CmdT8) (i : Nat) (h : i < l.length) : List.drop i (List.take (i + 1) (rowsOf l)) = [layC l[i]].map mkB := by
 have hr := rows_len l
 rw [List.take_succ_eq_append_getElem (by omega), rows_at l i h]
 have : (List.take i (rowsOf l)).length = i := by rw [List.length_take]; omega
 conv => lhs; arg 1; rw [<- this]
 rw [List.drop_left]; rfl
theorem take_lay (l : List CmdT8) (i : Nat) (h : i < l.length) : (l.map layC).take i ++ [layC l[i]] = (l.map layC).take (i + 1) := by
 rw [List.take_succ_eq_append_getElem (by simpa using h)]; simp
def StI (l : List CmdT8) (z a2 : Int) (i : Nat) (K : KT) : Prop := ∃ tx, ((i : Int) <= a2 -> Gd K tx 0 [] z 0 ((l.map layC).take i)) /\ ∃ m0, Ld K tx 0 [] z 0 ((l.map layC).take i) m0 /\ ∀ j : Nat, j <= i -> (j : Int) <= a2 -> j <= m0
theorem store_loop (l : List CmdT8) (hl : l.length <= 25) (z a2 : Int) (K : KT) (tx : ByteArray) (h : Gd K tx 0 [] z 0 []) : W (fun k => top_TopStore_l1 a2 (rowsOf l, true, ()) k (false, 0, K, ())) (fun r => (r.1 = .ret /\ r.2.1 = true) \/ (r.1 = .exit 0 /\ StI l z a2 l.length r.2.2.2.1)) := by
 unfold top_TopStore_l1
 have hr := rows_len l
 refine W.cnt l.length (fun (s : KT) i => (false, i, s, ())) (fun i s => StI l z a2 i s) ?_ ?_ 0 (Nat.zero_le _) K ⟨tx, fun _ => h, 0, ?_, fun j hj _ => by omega⟩
 . rintro s rec hs
   dsimp only
   exact W.no (by omega) (W.now (.inr ⟨rfl, hs⟩))
 . rintro i s rec hi ⟨tx, hg, m0, hld, hm⟩ hrec
   dsimp only
   have e1 : IntKind.i64.wrap ((i : Int) + 1) = ((i + 1 : Nat) : Int) := wrap_succ (by omega)
   simp only [e1, Int.toNat_natCast, one_row l i hi]
   refine W.y (by omega) (W.dec (fun h2 => ?_) (fun h2 => ?_))
   . refine W.y (by omega) (W.y (by omega) (W.y (by omega) (W.y (by omega) ?_)))
     rcases (hg (by omega)).push [layC l[i]] (by simp) (D := 2) (.inr (by omega)) with ⟨x, d, e, he, ev⟩ | ⟨x, ev, g⟩
     . exact W.bev ev (W.t (by simpa using he) (W.bev kept_ev (W.now (.inl ⟨rfl, rfl⟩))))
     . refine W.bev ev (W.nf rfl ?_)
       rw [take_lay l i hi] at g
       exact hrec x ⟨tx, fun _ => g, _, g.ld, fun j hj _ => by rw [List.length_take, List.length_map]; omega⟩
   . refine W.y (by omega) (W.y (by omega) (W.y (by omega) (W.y (by omega) ?_)))
     rcases hld.push [layC l[i]] (by simp) with ⟨x, d, e, he, ev⟩ | ⟨x, ev, g⟩
     . exact W.bev ev (W.t (by simpa using he) (W.bev kept_ev (W.now (.inl ⟨rfl, rfl⟩))))
     . refine W.bev ev (W.nf rfl ?_)
       rw [take_lay l i hi] at g
       exact hrec x ⟨tx, fun q => by omega, m0, g, fun j hj hja => hm j (by omega) hja⟩
 . have := h.ld
   exact this
theorem TopStore_ev (a0 : List CmdT8) (a1 a2 a3 : Int) (hl : a0.length <= 2199023255552) : Ev (fun k => top_TopStore k a0 a1 a2 a3) (true, ()) := by
 unfold top_TopStore
 obtain ⟨N, eN, hN⟩ : ∃ y, Ev (fun k => keep_New k a1) y /\ (y.2.1 = 0 -> ∃ tx, Gd y.1 tx 0 [] a1 0 []) := by
  rcases new_ok a1 with ⟨X, e, he, ev⟩ | ⟨K, tx, ev, g⟩
  . exact ⟨_, ev, fun q => absurd q he⟩
  . exact ⟨_, ev, fun _ => ⟨tx, g⟩⟩
 refine Ev.w (W.bind (bytes_w a0 hl) fun r hr => W.bev eN ?_)
 refine W.dec (fun _ => W.bev kept_ev (W.now rfl)) (fun h25 => ?_)
 refine W.nt (fun _ => W.bev kept_ev (W.now rfl)) (fun hb => ?_)
 refine W.bne (fun _ => W.bev kept_ev (W.now rfl)) (fun h0 => ?_)
 obtain ⟨tx, hg⟩ := hN h0
 rcases hr with ⟨_, hc, hrows⟩ | ⟨q, _⟩
 case inr => rw [q] at hb; cases hb
 obtain ⟨rows, ok, _⟩ := r
 dsimp only at hrows hb
 subst hrows hb
 refine W.bind (store_loop a0 (by omega) a1 a2 N.1 tx hg) ?_
 rintro ⟨e, b, i, K, _⟩ (⟨q, q1⟩ | ⟨q, tx, _, m0, hld, hm⟩) <;> (dsimp only at q; subst q)
 . dsimp only at q1
   subst q1
   exact W.now rfl
 dsimp only at hld ⊢
 refine W.t rfl ?_
 obtain ⟨K', j, ev1, g, hj⟩ := hld.crash rfl a3
 refine W.bev ev1 ?_
 have ho := g.open
 have e1 : (((((a0.map layC).take a0.length).take j).drop ((0 : Int) - 0).toNat).map mkB) = rowsOf (a0.take j) := by
  rw [show ((0 : Int) - 0).toNat = 0 from rfl, List.drop_zero, List.take_of_length_le (l := a0.map layC) (by simp)]
  simp [rowsOf, List.map_take]
 rw [e1] at ho
 have hcj : ∀ c ∈ a0.take j, mayC c := fun c q => hc c (List.mem_of_mem_take q)
 have hlj : (a0.take j).length <= a0.length := by rw [List.length_take]; omega
 refine W.bev ho (W.bev (cmds_ev (a0.take j) (by omega) hcj) ?_)
 refine W.nf rfl (W.nf rfl (W.nf rfl (W.nf rfl ?_)))
 have hr := rows_len a0
 have hrj := rows_len (a0.take j)
 refine W.bev (front_ev (rowsOf (a0.take j)) (rowsOf a0) (by omega) ⟨j, (rows_take a0 j).symm⟩) (W.nf rfl ?_)
 refine W.no ?_ ?_
 . dsimp only
   rw [hrj, hr]
   have e2 : (a0.map layC).take a0.length = a0.map layC := List.take_of_length_le (by simp)
   rw [e2, List.length_take, List.length_map] at hj
   rw [List.length_take]
   have h3 : imin (imax a2 0) (a0.length : Int) <= (m0 : Int) := by
    obtain ⟨q, hq⟩ : ∃ q, imin (imax a2 0) (a0.length : Int) = q := ⟨_, rfl⟩
    rw [hq]
    unfold imin imax at hq
    rw [A.cdec, A.cdec] at hq
    by_cases h4 : a2 <= 0
    . have : q <= 0 := by
       rw [<- hq]
       split <;> split at * <;> omega
      omega
    . have h5 : 0 <= q /\ q <= a2 /\ q <= a0.length := by
       rw [<- hq]
       split <;> split at * <;> omega
      have := hm q.toNat (by omega) (by omega)
      omega
   omega
 obtain ⟨s', st, hi, hcount⟩ := steps_w (a0.take j) (0, 9, 0, [], [], [], ()) new_inv (by dsimp only; omega) hcj
 obtain ⟨a, ra⟩ := run_ev st (by omega)
 refine W.bev new_ev (W.bev ra ?_)
 have e3 : List.drop 0 (List.take ((↑(List.length (a0.take j)) : Int)).toNat a0) = a0.take j := by
  rw [List.drop_zero, Int.toNat_natCast, List.length_take]
  by_cases h6 : j <= a0.length
  . rw [Nat.min_eq_left h6]
  . rw [Nat.min_eq_right (by omega), List.take_of_length_le (by omega), List.take_of_length_le (by omega)]
 dsimp only
 simp only [share, e3, both2_eq, bz_eq, both_self]
 refine W.y (by omega) (W.bev ra (W.bev kept_ev (W.t rfl (W.t rfl (W.t rfl (W.t rfl ?_))))))
 have hb := hi.2.2.1
 refine W.bev (alarms_ev (s'.2.1, s'.2.2.1, s'.2.2.2.1, ()) (by have := hb.2.2.2.2.1; have := hb.2.1; dsimp only at *; omega)) (W.t rfl (W.now ?_))
 rw [hcount]
 simp
end
section
theorem TopStore : ∀ (a0 : (List (Int × (Int × (Int × (Int × (Int × (Int × (Int × (Int × Unit)))))))))) (a1 : Int) (a2 : Int) (a3 : Int), a0.length <= 2199023255552 -> (Lit.int .i64 a1).wf = true -> (Lit.int .i64 a2).wf = true -> (Lit.int .i64 a3).wf = true -> ∃ k, top_TopStore k a0 a1 a2 a3 = some (true, ()) := by
 intro a0 a1 a2 a3 hl _ _ _
 exact (TopStore_ev a0 a1 a2 a3 hl).get
end
end Go.Proofs.YtfhphiedbdinmaaGreatDoor.Pure
