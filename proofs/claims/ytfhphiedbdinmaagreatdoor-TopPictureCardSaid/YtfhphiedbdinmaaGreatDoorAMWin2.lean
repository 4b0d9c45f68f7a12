import Derived.Test.YtfhphiedbdinmaaGreatDoorAMBrd3
set_option linter.all false
namespace Go.Proofs.YtfhphiedbdinmaaGreatDoor.A
open Go Ab
section
theorem concatW_w (ls : List (List WinT)) (h1 : ls.length <= 1000) (h2 : ls.flatten.length <= 1000000) : W (fun k => slices_Concat_api_Window_api_Window k ls) (fun r => r.1 = ls.flatten) := by
 have tk : ∀ i (h : i < ls.length), (ls.take (i + 1)).flatten = (ls.take i).flatten ++ ls[i] := fun i h => by rw [List.take_succ_eq_append_getElem h, List.flatten_append]; simp
 have le : ∀ i, (ls.take i).flatten.length <= 1000000 := fun i => by
  have := congrArg List.length (congrArg List.flatten (List.take_append_drop i ls))
  rw [List.flatten_append, List.length_append] at this
  omega
 have rest : W (fun k => slices_Concat_api_Window_api_Window_l2 ls k ([], 0, ())) (fun r => r.1 = .exit 2 /\ r.2.1 = ls.flatten) := by
  unfold slices_Concat_api_Window_api_Window_l2
  refine W.cnt ls.length (fun (s : List WinT) i => (s, i, ())) (fun i s => s = (ls.take i).flatten) ?_ ?_ 0 (Nat.zero_le _) _ rfl
  . rintro s rec rfl
    dsimp only
    exact W.no (by omega) (W.now ⟨rfl, by rw [List.take_length]⟩)
  . rintro i s rec hi rfl hrec
    dsimp only
    refine W.y (by omega) (W.y (by omega) (W.y (by omega) ?_))
    rw [Int.toNat_natCast, getD_nat hi, wrap_succ (by omega)]
    have := le (i + 1)
    rw [tk i hi, List.length_append] at this
    refine W.ite (fun h => hrec _ ?_) (fun h => W.y (by omega) (hrec _ (tk i hi).symm))
    have h0 : ls[i] = [] := List.length_eq_zero_iff.1 (Nat.eq_of_beq_eq_true h)
    rw [tk i hi, h0, List.append_nil]
 unfold slices_Concat_api_Window_api_Window
 refine W.bind (R := fun r => r.1 = .exit 0 /\ r.2.1 = (ls.flatten.length : Int)) ?_ ?_
 . unfold slices_Concat_api_Window_api_Window_l1
   refine W.cnt ls.length (fun (s : Int) i => (s, i, ())) (fun i s => s = ((ls.take i).flatten.length : Int)) ?_ ?_ 0 (Nat.zero_le _) _ rfl
   . rintro s rec rfl
     dsimp only
     exact W.no (by omega) (W.now ⟨rfl, by rw [List.take_length]⟩)
   . rintro i s rec hi rfl hrec
     dsimp only
     refine W.y (by omega) (W.y (by omega) (W.y (by omega) ?_))
     rw [Int.toNat_natCast, getD_nat hi, wrap_succ (by omega)]
     have := le (i + 1)
     rw [tk i hi, List.length_append] at this
     have e : IntKind.i64.wrap (((ls.take i).flatten.length : Int) + (ls[i].length : Int)) = (((ls.take (i + 1)).flatten.length : Nat) : Int) := by
      rw [wrap_id (by omega) (by omega), tk i hi, List.length_append]; omega
     rw [e]
     exact W.no (by omega) (hrec _ rfl)
 . rintro ⟨e, n, i, _⟩ ⟨h, h'⟩
   dsimp only at h h'
   subst h h'
   dsimp only
   have e0 : IntKind.i64.wrap ((ls.flatten.length : Int) - IntKind.i64.wrap (0 - 0)) = (ls.flatten.length : Int) := by rw [show IntKind.i64.wrap (0 - 0) = 0 from rfl, wrap_id (by omega) (by omega)]; omega
   refine W.t rfl (W.no (by omega) ?_)
   simp only [e0]
   refine W.dec (fun hp => ?_) (fun hp => ?_)
   . refine W.y (by omega) (W.y (by omega) (W.sh (W.sh ?_)))
     have rest3 : ∀ (n : Nat) (z : WinT), W (fun k => slices_Concat_api_Window_api_Window_l3 ls k (List.take (Int.toNat 0) (List.replicate n z), 0, ())) (fun r => r.1 = .exit 2 /\ r.2.1 = ls.flatten) := fun n z => rest
     refine W.bind (rest3 _ _) ?_
     rintro ⟨e, s, j, _⟩ ⟨h, h'⟩
     dsimp only at h h'
     subst h h'
     exact W.t rfl (W.now rfl)
   . refine W.bind rest ?_
     rintro ⟨e, s, j, _⟩ ⟨h, h'⟩
     dsimp only at h h'
     subst h h'
     exact W.t rfl (W.now rfl)
def winP (w : WinT) : Prop := 1 <= w.1 /\ w.1 <= 99 /\ 0 <= w.2.1 /\ w.2.1 < w.2.2.1 /\ w.2.2.1 <= 1000000000
instance (w : WinT) : Decidable (winP w) := by unfold winP; infer_instance
theorem winIs (k : Nat) (w : WinT) : mute_span_may k w = some (decide (winP w), ()) := by
 unfold mute_span_may winP
 simp only [cdec]
 repeat' split
 all_goals first | exact dfalse (by omega) | exact dsame (by omega)
theorem all_w (l : List WinT) (hl : l.length <= 1000000) : W (fun k => mute_all k l) (fun r => r.1 = true ↔ ∀ x ∈ l, winP x) := by
 unfold mute_all mute_all_l1
 refine W.bind (R := fun r => (r.1 = .exit 0 /\ ∀ x ∈ l, winP x) \/ (r.1 = .ret /\ 0 <= r.2.1 /\ ¬ ∀ x ∈ l, winP x)) (W.cnt l.length (fun (_ : Unit) i => (0, i, ())) (fun n _ => ∀ i (h : i < l.length), i < n -> winP l[i]) ?_ ?_ 0 (Nat.zero_le _) () (fun i h h0 => by omega)) ?_
 . intro _ rec hI
   dsimp only
   refine W.no (by omega) (W.now (.inl ⟨rfl, fun x hx => ?_⟩))
   obtain ⟨i, hi, rfl⟩ := List.mem_iff_getElem.1 hx
   exact hI i hi hi
 . intro i _ rec hi hI hrec
   dsimp only
   refine W.y (by omega) (W.y (by omega) (W.y (by omega) ?_))
   unfold mute_all_1
   simp only [Int.toNat_natCast, getD_nat hi, winIs, Option.bind_some]
   refine W.ite (fun h => W.now (.inr ⟨rfl, by dsimp only; omega, fun q => ?_⟩)) (fun h => ?_)
   . have := q _ (List.getElem_mem hi)
     simp [this] at h
   . rw [wrap_succ (by omega)]
     refine hrec () (fun j hj hji => ?_)
     by_cases e : j = i
     . subst e; simpa using h
     . exact hI j hj (by omega)
 . rintro ⟨e, j, i, _⟩ (⟨h, h'⟩ | ⟨h, h0, h'⟩) <;> (dsimp only at h; subst h)
   . exact W.t rfl (W.now ⟨fun _ => h', fun _ => rfl⟩)
   . dsimp only at h0 ⊢
     exact W.now ⟨fun q => by simp at q; omega, fun q => absurd q h'⟩
def apartW (a b : WinT) : Prop := a.1 < b.1 \/ a.1 = b.1 /\ a.2.2.1 < b.2.1
def winsP (l : List WinT) : Prop := l.length <= 100 /\ (∀ x ∈ l, winP x) /\ l.Pairwise apartW
theorem mis_w (l : List WinT) (hl : l.length <= 1000000) : W (fun k => mute_Is k l) (fun r => r.1 = true ↔ winsP l) := by
 have adj : (∀ x ∈ l, winP x) -> (∀ i (h : i < l.length), 0 < i -> apartW (l[i - 1]'(by omega)) l[i]) -> l.Pairwise apartW := fun h1 h2 =>
  List.Pairwise.imp (fun h => h.2.2) (adj_pairwise (R := fun a b => winP a /\ winP b /\ apartW a b) (fun {a b c} h k => ⟨h.1, k.2.1, by obtain ⟨p, q, r⟩ := h; obtain ⟨p', q', r'⟩ := k; unfold winP apartW at *; omega⟩) fun i hi h0 => ⟨h1 _ (List.getElem_mem _), h1 _ (List.getElem_mem hi), h2 i hi h0⟩)
 unfold mute_Is mute_Is_l1
 refine W.bind (R := fun r => (r.1 = .exit 0 /\ ∀ i (h : i < l.length), 0 < i -> apartW (l[i - 1]'(by omega)) l[i]) \/ (r.1 = .ret /\ r.2.1 = false /\ ¬ l.Pairwise apartW)) (W.cnt (max 1 l.length) (fun (_ : Unit) i => (false, i, ())) (fun n _ => 1 <= n /\ ∀ i (h : i < l.length), i < n -> 0 < i -> apartW (l[i - 1]'(by omega)) l[i]) ?_ ?_ 1 (by omega) () ⟨Nat.le_refl _, fun i h h0 h1 => by omega⟩) ?_
 . rintro _ rec ⟨hz, hI⟩
   dsimp only
   exact W.no (by omega) (W.now (.inl ⟨rfl, fun i hi h0 => hI i hi (by omega) h0⟩))
 . rintro i _ rec hi ⟨hz, hI⟩ hrec
   dsimp only
   refine W.dec (fun h1 => W.y (by omega) (W.y (by omega) ?_)) (fun h1 => W.now (.inl ⟨rfl, fun j hj h0 => hI j hj (by omega) h0⟩))
   have hil : i < l.length := by omega
   simp only [both2_eq, bz_eq, both_self]
   have e : IntKind.i64.wrap ((i : Int) - 1) = ((i - 1 : Nat) : Int) := by rw [wrap_id (by omega) (by omega)]; omega
   rw [e, wrap_succ (by omega)]
   refine W.y (by omega) (W.y (by omega) ?_)
   simp only [Int.toNat_natCast, getD_nat hil, getD_nat (show i - 1 < l.length by omega)]
   have bad : ¬ apartW l[i - 1] l[i] -> ¬ l.Pairwise apartW := fun q p => q (List.pairwise_iff_getElem.1 p (i - 1) i (by omega) hil (by omega))
   have go : apartW l[i - 1] l[i] -> W (fun k => rec k (false, ((i + 1 : Nat) : Int), ())) _ := fun q => hrec () ⟨by omega, fun j hj hji h0 => by
    by_cases e : j = i
    . subst e; exact q
    . exact hI j hj (by omega) h0⟩
   refine W.dec (fun h2 => W.now (.inr ⟨rfl, rfl, bad fun q => by unfold apartW at q; omega⟩)) (fun h2 => ?_)
   refine W.beq (fun h3 => W.dec (fun h4 => W.now (.inr ⟨rfl, rfl, bad fun q => by unfold apartW at q; omega⟩)) (fun h4 => go (by unfold apartW; omega))) (fun h3 => go (by unfold apartW; omega))
 . rintro ⟨e, b, i, _⟩ (⟨h, h'⟩ | ⟨h, hb, h'⟩) <;> (dsimp only at h; subst h)
   . refine W.t rfl (W.dec (fun h1 => W.bind (all_w l hl) fun r hr => W.now (hr.trans ⟨fun q => ⟨by omega, q, adj q h'⟩, fun q => q.2.1⟩)) (fun h1 => W.now ⟨fun q => absurd q Bool.false_ne_true, fun q => absurd q.1 (by omega)⟩))
   . dsimp only at hb
     subst hb
     exact W.now ⟨fun q => absurd q Bool.false_ne_true, fun q => absurd q.2.2 h'⟩
end
section
def leW (a b : WinT) : Prop := a.1 < b.1 \/ a.1 = b.1 /\ a.2.1 <= b.2.1
theorem leW_of {a b : WinT} (h : ¬ lexL (keyW b) (keyW a) < 0) : leW a b := by
 unfold keyW lexL at h
 unfold leW
 split at h
 . simp at h
 . split at h
   . omega
   . unfold lexL at h
     split at h
     . simp at h
     . omega
def JoinI (t : List WinT) (i : Nat) (s : List WinT) : Prop := s.length <= i /\ (∀ x ∈ s, winP x) /\ s.Pairwise apartW /\ ∀ p x, s = p ++ [x] -> ∀ j (h : j < t.length), i <= j -> leW x t[j]
theorem joined_w (l : List WinT) (hl : l.length <= 100000) (hw : ∀ x ∈ l, winP x) : W (fun k => mute_joined k l) (fun r => (∀ x ∈ r.1, winP x) /\ r.1.Pairwise apartW) := by
 unfold mute_joined
 obtain ⟨hp, hs⟩ := sortBy_spec keyW (n := 2) (fun _ => rfl) l
 have hlen := hp.length_eq
 refine W.bev (x := (sortBy keyW l, ())) (Ev.dt (by omega) (Ev.now _)) ?_
 generalize sortBy keyW l = t at hp hs hlen
 have ht : ∀ i (h : i < t.length), winP t[i] := fun i h => hw _ (hp.mem_iff.1 (List.getElem_mem h))
 have hle : ∀ i j (hi : i < t.length) (hj : j < t.length), i < j -> leW t[i] t[j] := fun i j hi hj hij => leW_of (List.pairwise_iff_getElem.1 hs i j hi hj hij)
 unfold mute_joined_l1
 refine W.bind (R := fun r => r.1 = .exit 0 /\ (∀ x ∈ r.2.1, winP x) /\ r.2.1.Pairwise apartW) (W.cnt t.length (fun (s : List WinT) i => (s, i, ())) (fun i s => JoinI t i s) ?_ ?_ 0 (Nat.zero_le _) _ ⟨Nat.le_refl _, by simp, List.Pairwise.nil, by simp⟩) ?_
 . rintro s rec ⟨h1, h2, h3, h4⟩
   dsimp only
   exact W.no (by omega) (W.now ⟨rfl, h2, h3⟩)
 . rintro i s rec hi ⟨h1, h2, h3, h4⟩ hrec
   dsimp only
   refine W.y (by omega) (W.y (by omega) (W.y (by omega) (W.y (by omega) ?_)))
   rw [wrap_succ (by omega)]
   simp only [Int.toNat_natCast, getD_nat hi]
   have add : (∀ p x, s = p ++ [x] -> apartW x t[i]) -> W (fun k => rec k (s ++ [t[i]], ((i + 1 : Nat) : Int), ())) (fun r => r.1 = .exit 0 /\ (∀ x ∈ r.2.1, winP x) /\ r.2.1.Pairwise apartW) := fun q => by
    refine hrec _ ⟨by simp; omega, fun x hx => ?_, ?_, fun p x e j hj hij => ?_⟩
    . rcases List.mem_append.1 hx with hx | hx
      . exact h2 x hx
      . simp at hx; subst hx; exact ht i hi
    . refine List.pairwise_append.2 ⟨h3, by simp, fun x hx y hy => ?_⟩
      simp at hy; subst hy
      rcases List.eq_nil_or_concat s with rfl | ⟨p, z, rfl⟩
      . simp at hx
      . rw [List.concat_eq_append] at *
        have hz := q p z rfl
        rcases List.mem_append.1 hx with hx | hx
        . have h5 := (List.pairwise_append.1 h3).2.2 x hx z (by simp)
          have h6 := h2 z (by simp)
          unfold apartW winP at *; omega
        . simp at hx; subst hx; exact hz
    . obtain ⟨rfl, e2⟩ := List.append_inj' e rfl
      have : x = t[i] := by simpa using e2.symm
      subst this
      exact hle i j hi hj (by omega)
   rcases List.eq_nil_or_concat s with rfl | ⟨p, x, rfl⟩
   . exact W.no (by simp) (W.y (by simp) (add (by simp)))
   . rw [List.concat_eq_append] at *
     have hx := h2 x (by simp)
     have hlast := h4 p x rfl i hi (Nat.le_refl _)
     have hpl : (p ++ [x]).length = p.length + 1 := by simp
     have e : IntKind.i64.wrap (((p ++ [x]).length : Int) - 1) = (p.length : Int) := by rw [wrap_id (by omega) (by omega)]; omega
     rw [e]
     have eg : List.getD (p ++ [x]) p.length zW = x := by rw [getD_nat (by omega)]; simp
     refine W.y (by omega) (W.y (by omega) (W.y (by omega) (W.y (by omega) ?_)))
     simp only [Int.toNat_natCast, eg]
     refine W.beq (fun hb => ?_) (fun hb => W.y (by omega) (add fun p' x' e' => ?_))
     . refine W.y (by omega) (W.y (by omega) (W.y (by omega) (W.dec (fun hf => ?_) (fun hf => W.y (by omega) (add fun p' x' e' => ?_)))))
       . refine W.y (by omega) (W.y (by omega) (W.y (by omega) (W.y (by omega) (W.y (by omega) (W.y (by omega) (W.sh ?_))))))
         have es : List.set (p ++ [x]) p.length (x.1, x.2.1, imax x.2.2.1 t[i].2.2.1, ()) = p ++ [(x.1, x.2.1, imax x.2.2.1 t[i].2.2.1, ())] := by rw [List.set_append_right _ _ (Nat.le_refl _)]; simp
         rw [es]
         have him : imax x.2.2.1 t[i].2.2.1 = x.2.2.1 \/ imax x.2.2.1 t[i].2.2.1 = t[i].2.2.1 := by unfold imax; simp only [cdec]; split <;> simp
         have him2 : x.2.2.1 <= imax x.2.2.1 t[i].2.2.1 := by unfold imax; simp only [cdec]; split <;> omega
         have hti := ht i hi
         refine hrec _ ⟨by simp at h1 ⊢; omega, fun y hy => ?_, ?_, fun p' x' e' j hj hij => ?_⟩
         . rcases List.mem_append.1 hy with hy | hy
           . exact h2 y (by simp [hy])
           . simp at hy; subst hy; unfold winP at *; dsimp only; omega
         . refine List.pairwise_append.2 ⟨(List.pairwise_append.1 h3).1, by simp, fun y hy z hz => ?_⟩
           simp at hz; subst hz
           have := (List.pairwise_append.1 h3).2.2 y hy x (by simp)
           unfold apartW at *; dsimp only; omega
         . obtain ⟨rfl, e2⟩ := List.append_inj' e' rfl
           have : x' = (x.1, x.2.1, imax x.2.2.1 t[i].2.2.1, ()) := by simpa using e2.symm
           subst this
           exact h4 p x rfl j hj (by omega)
       . obtain ⟨rfl, e2⟩ := List.append_inj' e' rfl
         obtain rfl : x = x' := by simpa using e2
         unfold apartW; omega
     . obtain ⟨rfl, e2⟩ := List.append_inj' e' rfl
       obtain rfl : x = x' := by simpa using e2
       unfold apartW; unfold leW at hlast; omega
 . rintro ⟨e, s, i, _⟩ ⟨h, h2, h3⟩
   dsimp only at h
   subst h
   exact W.t rfl (W.now ⟨h2, h3⟩)
theorem madd_w (l m : List WinT) (hl : winsP l) (hm : m.length <= 10) : W (fun k => mute_Add k l m) (fun r => r.2.1 = 0 -> winsP r.1) := by
 unfold mute_Add mute_told
 refine W.bind (mis_w l (by have := hl.1; omega)) fun r hr => W.nt (fun _ => W.now (by simp)) (fun _ => ?_)
 refine W.bind (all_w m (by omega)) fun r hr2 => W.nt (fun _ => W.now (by simp)) (fun h2 => ?_)
 have h0 := hl.1
 refine W.bind (concatW_w [l, m] (by simp) (by simp; omega)) fun r3 h3 => ?_
 have e3 : r3.1 = l ++ m := by rw [h3]; simp
 rw [e3]
 refine W.bind (joined_w (l ++ m) (by simp; omega) fun x hx => ?_) fun r4 h4 => ?_
 . rcases List.mem_append.1 hx with hx | hx
   . exact hl.2.1 x hx
   . exact hr2.1 h2 x hx
 . refine W.bind (R := fun r => r.2.1 = 0 -> winsP r.1) (W.dec (fun _ => W.now (by simp)) (fun h5 => W.now fun _ => ⟨by dsimp only at *; omega, h4.1, h4.2⟩)) fun r5 h5 => W.now h5
theorem without_w (a b : WinT) (ha : winP a) (hb : winP b) : W (fun k => mute_without k a b) (fun r => r.1.length <= 2 /\ (∀ x ∈ r.1, winP x /\ x.1 = a.1 /\ a.2.1 <= x.2.1 /\ x.2.2.1 <= a.2.2.1) /\ r.1.Pairwise apartW) := by
 obtain ⟨a1, a2, a3, _⟩ := a
 obtain ⟨b1, b2, b3, _⟩ := b
 unfold winP at *
 dsimp only at *
 unfold mute_without
 dsimp only
 have one : ∀ f g : Int, a2 <= f -> f < g -> g <= a3 -> (∀ x ∈ [((a1, f, g, ()) : WinT)], winP x /\ x.1 = a1 /\ a2 <= x.2.1 /\ x.2.2.1 <= a3) := fun f g h1 h2 h3 x hx => by
  simp at hx; subst hx; unfold winP; dsimp only; omega
 refine W.bne (fun _ => W.now ⟨by simp, one a2 a3 (by omega) (by omega) (by omega), by simp⟩) (fun _ => ?_)
 refine W.dec (fun _ => W.now ⟨by simp, one a2 a3 (by omega) (by omega) (by omega), by simp⟩) (fun _ => ?_)
 refine W.dec (fun _ => W.now ⟨by simp, one a2 a3 (by omega) (by omega) (by omega), by simp⟩) (fun _ => ?_)
 refine W.dec (fun _ => ?_) (fun _ => ?_)
 . refine W.dec (fun _ => W.now ⟨by simp, fun x hx => ?_, by simp [apartW]; omega⟩) (fun _ => W.now ⟨by simp, one a2 b2 (by omega) (by omega) (by omega), by simp⟩)
   rcases List.mem_append.1 hx with hx | hx
   . exact one a2 b2 (by omega) (by omega) (by omega) x hx
   . exact one b3 a3 (by omega) (by omega) (by omega) x hx
 . exact W.dec (fun _ => W.now ⟨by simp, one b3 a3 (by omega) (by omega) (by omega), by simp⟩) (fun _ => W.now ⟨by simp, by simp, by simp⟩)
theorem cut1_w (m : List WinT) (x6 : List WinT × Int × Unit) (b : WinT) (hb : winP b) (eb : m.getD (Int.toNat x6.2.1) zW = b) (hl : x6.1.length <= 100000) (hw : ∀ x ∈ x6.1, winP x) (hp : x6.1.Pairwise apartW) :
 W (fun k => mute_Cut_l2 m x6 k ([], 0, ())) (fun r => r.1 = .exit 2 /\ r.2.1.length <= 2 * x6.1.length /\ (∀ x ∈ r.2.1, winP x) /\ r.2.1.Pairwise apartW) := by
 obtain ⟨l, n, _⟩ := x6
 dsimp only at *
 unfold mute_Cut_l2
 refine W.cnt l.length (fun (s : List WinT) i => (s, i, ())) (fun i s => s.length <= 2 * i /\ (∀ x ∈ s, winP x) /\ s.Pairwise apartW /\ ∀ x ∈ s, ∀ j (h : j < l.length), i <= j -> apartW x l[j]) ?_ ?_ 0 (Nat.zero_le _) _ ⟨by simp, by simp, List.Pairwise.nil, by simp⟩
 . rintro s rec ⟨h1, h2, h3, h4⟩
   dsimp only
   exact W.no (by omega) (W.now ⟨rfl, h1, h2, h3⟩)
 . rintro i s rec hi ⟨h1, h2, h3, h4⟩ hrec
   dsimp only
   refine W.y (by omega) (W.y (by omega) (W.y (by omega) ?_))
   rw [wrap_succ (by omega), eb]
   simp only [Int.toNat_natCast, getD_nat hi]
   refine W.bind (without_w l[i] b (hw _ (List.getElem_mem hi)) hb) fun r ⟨k1, k2, k3⟩ => ?_
   have nxt : W (fun k => rec k (s ++ r.1, ((i + 1 : Nat) : Int), ())) (fun r => r.1 = .exit 2 /\ r.2.1.length <= 2 * l.length /\ (∀ x ∈ r.2.1, winP x) /\ r.2.1.Pairwise apartW) := by
    refine hrec _ ⟨by rw [List.length_append]; omega, fun x hx => ?_, ?_, fun x hx j hj hij => ?_⟩
    . rcases List.mem_append.1 hx with hx | hx
      . exact h2 x hx
      . exact (k2 x hx).1
    . refine List.pairwise_append.2 ⟨h3, k3, fun x hx y hy => ?_⟩
      have q1 := h4 x hx i hi (Nat.le_refl _)
      have q2 := (k2 y hy).2
      unfold apartW at *; omega
    . rcases List.mem_append.1 hx with hx | hx
      . exact h4 x hx j hj (by omega)
      . have q1 := (k2 x hx).2
        have q2 := List.pairwise_iff_getElem.1 hp i j hi hj (by omega)
        unfold apartW at *; omega
   refine W.ite (fun h => ?_) (fun h => W.y (by omega) nxt)
   have h0 : r.1 = [] := List.length_eq_zero_iff.1 (Nat.eq_of_beq_eq_true h)
   rw [h0, List.append_nil] at nxt
   exact nxt
theorem mcut_w (l m : List WinT) (hl : winsP l) (hm : m.length <= 1) : W (fun k => mute_Cut k l m) (fun r => r.2.1 = 0 -> winsP r.1) := by
 unfold mute_Cut mute_told
 have h0 := hl.1
 refine W.bind (mis_w l (by omega)) fun r hr => W.nt (fun _ => W.now (by simp)) (fun _ => ?_)
 refine W.bind (all_w m (by omega)) fun r hr2 => W.nt (fun _ => W.now (by simp)) (fun h2 => ?_)
 have hmw := hr2.1 h2
 refine W.bev (x := (l, ())) (Ev.dt (by omega) (Ev.now _)) ?_
 unfold mute_Cut_l1
 refine W.bind (R := fun r => r.1 = .exit 0 /\ (∀ x ∈ r.2.1, winP x) /\ r.2.1.Pairwise apartW) (W.cnt m.length (fun (s : List WinT) i => (s, i, ())) (fun i s => s.length <= 100 * (i + 1) /\ (∀ x ∈ s, winP x) /\ s.Pairwise apartW) ?_ ?_ 0 (Nat.zero_le _) _ ⟨by omega, hl.2⟩) ?_
 . rintro s rec ⟨h1, h2, h3⟩
   dsimp only
   exact W.no (by omega) (W.now ⟨rfl, h2, h3⟩)
 . rintro i s rec hi ⟨h1, h2, h3⟩ hrec
   dsimp only
   refine W.y (by omega) (W.y (by omega) (W.y (by omega) ?_))
   rw [wrap_succ (by omega)]
   refine W.bind (cut1_w m (s, (i : Int), ()) m[i] (hmw _ (List.getElem_mem hi)) (by rw [Int.toNat_natCast, getD_nat hi]) (by dsimp only; omega) h2 h3) ?_
   rintro ⟨e, s', j, _⟩ ⟨q, q1, q2, q3⟩
   dsimp only at q q1 q2 q3
   subst q
   exact W.t rfl (hrec _ ⟨by dsimp only; omega, q2, q3⟩)
 . rintro ⟨e, s, i, _⟩ ⟨h, h2, h3⟩
   dsimp only at h
   subst h
   refine W.t rfl (W.bind (R := fun r => r.2.1 = 0 -> winsP r.1) (W.dec (fun _ => W.now (by simp)) (fun h5 => W.now fun _ => ⟨by dsimp only at *; omega, h2, h3⟩)) fun r5 h5 => W.now h5)
end
end Go.Proofs.YtfhphiedbdinmaaGreatDoor.A
