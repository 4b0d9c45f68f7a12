import Derived.Test.YtfhphiedbdinmaaGreatDoorAMCli3
set_option linter.all false
namespace Go.Proofs.YtfhphiedbdinmaaGreatDoor.A
open Go Ab
theorem find_any (l : List WinT) (a b : Int) (hl : l.length <= 1000) : W (fun k => mute_find k l a b) (fun _ => True) := by
 unfold mute_find mute_find_l1 mute_span_has
 refine W.bind (R := fun r => r.1 = .exit 0 \/ r.1 = .ret) (W.cnt l.length (fun (_ : Unit) i => (0, i, ())) (fun _ _ => True) ?_ ?_ 0 (Nat.zero_le _) () trivial) ?_
 . intro _ rec _
   exact W.no (by simp) (W.now (.inl rfl))
 . intro i _ rec hi _ hrec
   dsimp only
   refine W.y (by omega) (W.y (by omega) (W.y (by omega) ?_))
   refine W.bind (R := fun _ => True) (W.ite (fun _ => W.ite (fun _ => W.now trivial) (fun _ => W.now trivial)) (fun _ => W.now trivial)) fun r _ => ?_
   rw [wrap_succ (by omega)]
   exact W.ite (fun _ => W.now (.inr rfl)) (fun _ => hrec () trivial)
 . rintro ⟨e, j, i, _⟩ (h | h) <;> (dsimp only at h; subst h)
   . exact W.t rfl (W.now trivial)
   . exact W.now trivial
theorem has_any (l : List WinT) (a b : Int) (hl : l.length <= 1000) : W (fun k => mute_Has k l a b) (fun _ => True) := by
 unfold mute_Has
 exact W.bind (find_any l a b hl) fun r _ => W.now trivial
theorem drops_w (b : BrdT) (ws : List WinT) (hw : ws.length <= 1000) (l : List AlmT) (hl : l.length <= 1000) (ha : ∀ a ∈ l, almP a) (n : Nat) (hn : n < l.length) :
 W (fun k => show_Heard_l2 b ws k ((n : Int), ((n + 1 : Nat) : Int), l, ())) (fun r => r.1 = .exit 0 /\ ∃ i : Nat, r.2.1 = (i : Int) /\ i <= l.length /\ r.2.2.2.1.length = l.length /\ ∀ a ∈ r.2.2.2.1, almP a) := by
 unfold show_Heard_l2
 refine W.cnt l.length (fun (s : Nat × List AlmT) j => ((s.1 : Int), j, s.2, ())) (fun j s => s.1 <= j /\ s.2.length = l.length /\ ∀ a ∈ s.2, almP a) ?_ ?_ (n + 1) (by omega) (n, l) ⟨by dsimp only; omega, rfl, ha⟩
 . rintro ⟨i, s⟩ rec ⟨h1, h2, h3⟩
   dsimp only at h1 h2 h3 ⊢
   exact W.no (by omega) (W.now ⟨rfl, i, rfl, h1, h2, h3⟩)
 . rintro j ⟨i, s⟩ rec hj ⟨h1, h2, h3⟩ hrec
   dsimp only at h1 h2 h3 ⊢
   simp only [Int.toNat_natCast]
   refine W.y (by omega) (W.y (by omega) (W.y (by omega) (W.y (by omega) ?_)))
   refine W.bind (has_any ws _ _ hw) fun r _ => ?_
   rw [wrap_succ (by omega), wrap_succ (by omega)]
   refine W.nt (fun _ => W.y (by omega) (W.y (by omega) (W.y (by omega) (W.sh ?_)))) (fun _ => ?_)
   . refine hrec (i + 1, s.set i (s.getD j zA)) ⟨by dsimp only; omega, by rw [List.length_set]; exact h2, fun a h => ?_⟩
     rcases List.mem_or_eq_of_mem_set h with h | h
     . exact h3 a h
     . rw [h, getD_nat (show j < s.length by omega)]; exact h3 _ (List.getElem_mem _)
   . exact hrec (i, s) ⟨by dsimp only; omega, h2, h3⟩
theorem heard_w (b : BrdT) (ws : List WinT) (hb : brdP b) (hw : winsP ws) : W (fun k => show_Heard k b ws) (fun r => r.2.1 = 0 /\ r.1.length <= 200 /\ ∀ a ∈ r.1, almP a) := by
 have h1 := hw.1
 obtain ⟨b1, b2, b3, b4, b5, b6⟩ := id hb
 unfold show_Heard
 refine W.bind (brd_w b) fun r hr => ?_
 rw [hr.2 hb]
 refine W.nf rfl (W.bind (mis_w ws (by omega)) fun r hr => ?_)
 rw [hr.2 hw]
 refine W.nf rfl ?_
 obtain ⟨hp, _⟩ := sortBy_spec keyA (n := 7) (fun _ => rfl) b.2.2.1
 have hlen := hp.length_eq
 refine W.bev (x := (sortBy keyA b.2.2.1, ())) (Ev.dt (by omega) (Ev.now _)) ?_
 have hal : ∀ a ∈ sortBy keyA b.2.2.1, almP a := fun a ha => by
  obtain ⟨i, hi, e⟩ := List.mem_iff_getElem.1 (hp.mem_iff.1 ha)
  exact e ▸ (b6 i hi).1
 generalize sortBy keyA b.2.2.1 = l at hp hlen hal
 refine W.bind (R := fun r => r.1 = .exit 0 \/ (r.1 = .ret /\ ∃ n : Nat, r.2.1 = (n : Int) /\ n < l.length)) ?_ ?_
 . unfold show_Heard_l1
   refine W.cnt l.length (fun (_ : Unit) i => (0, i, ())) (fun _ _ => True) ?_ ?_ 0 (Nat.zero_le _) () trivial
   . intro _ rec _
     exact W.no (by simp) (W.now (.inl rfl))
   . intro i _ rec hi _ hrec
     dsimp only
     simp only [Int.toNat_natCast]
     refine W.y (by omega) (W.y (by omega) (W.y (by omega) (W.y (by omega) ?_)))
     refine W.bind (has_any ws _ _ (by omega)) fun r _ => ?_
     rw [wrap_succ (by omega)]
     exact W.ite (fun _ => W.now (.inr ⟨rfl, i, rfl, hi⟩)) (fun _ => hrec () trivial)
 . rintro ⟨e, x, j, _⟩ (h | ⟨h, n, h2, hn⟩) <;> (dsimp only at h; subst h)
   . exact W.t rfl (W.now ⟨rfl, by dsimp only; omega, hal⟩)
   . dsimp only at h2
     subst h2
     dsimp only
     refine W.beq (fun _ => W.now ⟨rfl, by dsimp only; omega, hal⟩) (fun _ => ?_)
     rw [wrap_succ (by omega)]
     refine W.bind (drops_w b ws (by omega) l (by omega) hal n hn) ?_
     rintro ⟨e, x, j, s, _⟩ ⟨h, i, e2, hi, hs, ha⟩
     dsimp only at h e2 hs ha
     subst h e2
     dsimp only
     simp only [Int.toNat_natCast]
     refine W.t rfl (W.y (by omega) (W.y (by omega) (W.sh (W.y (by omega) (W.y (by simp; omega) (W.sh (W.now ⟨rfl, ?_, fun a h => ?_⟩)))))))
     . dsimp only; rw [List.length_take]; omega
     . dsimp only at h
       have e : List.take i (List.take i s ++ (List.replicate (s.length - i) (0, 0, 0, 0, 0, 0, ()) ++ List.drop s.length s)) = List.take i s := by
        have : (List.take i s).length = i := by rw [List.length_take]; omega
        conv => lhs; arg 1; rw [<- this]
        exact List.take_left
       rw [e] at h
       exact ha a (List.mem_of_mem_take h)
theorem nDigits_le : ∀ (k u : Nat), 1 <= k -> u < 10 ^ k -> Lib.nDigits u <= k
 | 0, _, h, _ => by omega
 | k + 1, u, _, h => by
   by_cases h1 : u < 10
   . rw [Lib.nDigits_small h1]; omega
   . rw [Lib.nDigits_big h1]
     have h2 : u / 10 < 10 ^ k := by rw [Nat.pow_succ] at h; omega
     have h3 : 1 <= k := by
      rcases Nat.eq_zero_or_pos k with e | e
      . subst e; simp at h2; omega
      . exact e
     have := nDigits_le k (u / 10) h3 h2
     omega
theorem itoa_size (k : Nat) (n : Int) (h : 0 <= n /\ n <= 10000000000) : ∃ t : ByteArray, strconv_Itoa k n = some (t, ()) /\ t.size <= 11 := by
 unfold strconv_Itoa
 have e1 : decide (-9223372036854775808 <= n) = true := decide_eq_true (by omega)
 have e2 : decide (n <= 9223372036854775807) = true := decide_eq_true (by omega)
 rw [e1, e2]
 refine ⟨_, rfl, ?_⟩
 show (Lib.itoa n).toArray.size <= 11
 rw [List.size_toArray]
 unfold Lib.itoa
 rw [if_neg (by omega), Lib.decDigits_length]
 exact nDigits_le 11 _ (by omega) (by omega)
theorem join_size (k : Nat) (a b c d e : ByteArray) (h : a.size + b.size + c.size + d.size + e.size <= 76) : ∃ t : ByteArray, strings_Join k ([a] ++ [b] ++ [c] ++ [d] ++ [e]) (ByteArray.mk #[32]) = some (t, ()) /\ t.size <= 80 := by
 have q : (Lib.join (([a] ++ [b] ++ [c] ++ [d] ++ [e]).map (·.data.toList)) ((ByteArray.mk #[32]).data.toList)).length = a.size + b.size + c.size + d.size + e.size + 4 := by
  show (Lib.join (a.data.toList :: [b.data.toList, c.data.toList, d.data.toList, e.data.toList]) [32]).length = _
  rw [Lib.join_cons]
  unfold Lib.joinTail
  have es : ∀ t : ByteArray, t.data.toList.length = t.size := fun t => Array.length_toList
  simp [es]
  omega
 unfold strings_Join joinOf
 rw [q]
 have e2 : decide (a.size + b.size + c.size + d.size + e.size + 4 <= 140737488355328) = true := decide_eq_true (by omega)
 rw [e2]
 refine ⟨_, rfl, ?_⟩
 show (List.toArray _).size <= 80
 rw [List.size_toArray, q]
 omega
theorem ptext_eq (k : Nat) (b c : Int) (h : spotP b c) : ∃ t : ByteArray, spot_place_text k (b, c, ()) = some (t, ()) /\ t.size <= 23 := by
 obtain ⟨h1, h2, h3, h4⟩ := h
 obtain ⟨t1, e1, s1⟩ := itoa_size k b ⟨by omega, by omega⟩
 obtain ⟨t2, e2, s2⟩ := itoa_size k c ⟨by omega, by omega⟩
 unfold spot_place_text
 have z : (ByteArray.mk #[47]).size = 1 := rfl
 have g1 : decide (t1.size + (ByteArray.mk #[47]).size <= 9223372036854775807) = true := decide_eq_true (by omega)
 have es : (t1 ++ ByteArray.mk #[47]).size = t1.size + 1 := by rw [ByteArray.size_append, z]
 have g2 : decide ((t1 ++ ByteArray.mk #[47]).size + t2.size <= 9223372036854775807) = true := decide_eq_true (by omega)
 simp only [e1, e2, Option.bind_some, g1, g2, cond_true, both_self]
 exact ⟨_, rfl, by rw [ByteArray.size_append, es]; omega⟩
theorem name_eq (k : Nat) (n : Int) (h : 0 <= n /\ n < 5) : ∃ t : ByteArray, life_Name k n = some (t, true, ()) /\ t.size <= 9 := by
 have : n = 0 \/ n = 1 \/ n = 2 \/ n = 3 \/ n = 4 := by omega
 rcases this with rfl | rfl | rfl | rfl | rfl
 . exact ⟨ByteArray.mk #[113, 117, 105, 101, 116], rfl, by decide⟩
 . exact ⟨ByteArray.mk #[114, 97, 105, 115, 101, 100], rfl, by decide⟩
 . exact ⟨ByteArray.mk #[101, 115, 99, 97, 108, 97, 116, 101, 100], rfl, by decide⟩
 . exact ⟨ByteArray.mk #[97, 99, 107, 101, 100], rfl, by decide⟩
 . exact ⟨ByteArray.mk #[115, 105, 108, 101, 110, 99, 101, 100], rfl, by decide⟩
theorem line_eq (k : Nat) (a : AlmT) (h : almP a) : ∃ t : ByteArray, show_Line k a = some (t, 0, ()) /\ t.size <= 80 := by
 obtain ⟨hs, h1, h2, h3, h4, h5, h6, h7, h8⟩ := id h
 obtain ⟨s1, s2, s3, s4⟩ := id hs
 unfold show_Line spot_Print spot_place_may
 rw [almIs]
 obtain ⟨t1, e1, z1⟩ := ptext_eq k a.1 a.2.1 hs
 obtain ⟨t2, e2, z2⟩ := name_eq k a.2.2.1 ⟨by omega, by omega⟩
 obtain ⟨t3, e3, z3⟩ := itoa_size k a.2.2.2.1 ⟨by omega, by omega⟩
 obtain ⟨t4, e4, z4⟩ := itoa_size k a.2.2.2.2.1 ⟨by omega, by omega⟩
 obtain ⟨t5, e5, z5⟩ := itoa_size k a.2.2.2.2.2.1 ⟨by omega, by omega⟩
 obtain ⟨t, e, z⟩ := join_size k t1 t2 t3 t4 t5 (by omega)
 have s5 : a.2.1 < 8 := by omega
 simp only [decide_eq_true h, Option.bind_some, Bool.not_true, cond_false, s1, s2, s3, s5, ge_iff_le, decide_true, cond_true, e1, e2, e3, e4, e5, e]
 exact ⟨t, rfl, z⟩
theorem lines_w (b : BrdT) (ws : List WinT) (m : Int) (hb : brdP b) (hw : winsP ws) (hm : m <= 20) : W (fun k => show_Lines k b ws m) (fun r => (r.1.length : Int) <= 20 /\ ∀ x ∈ r.1, x.size <= 80) := by
 unfold show_Lines
 refine W.bind (heard_w b ws hb hw) ?_
 rintro ⟨l, e, _⟩ ⟨he, hl, ha⟩
 dsimp only at he hl ha ⊢
 subst he
 refine W.nf rfl (W.dec (fun _ => W.now (by simp)) (fun h1 => ?_))
 have h2 : imin m (l.length : Int) <= m := by unfold imin; rw [cdec]; split <;> omega
 have h3 : imin m (l.length : Int) <= l.length := by unfold imin; rw [cdec]; split <;> omega
 have h4 : 0 <= imin m (l.length : Int) := by unfold imin; rw [cdec]; split <;> omega
 generalize imin m (l.length : Int) = n at h2 h3 h4
 obtain ⟨n, rfl⟩ := Int.eq_ofNat_of_zero_le h4
 refine W.y h4 (W.y h3 (W.sh ?_))
 rw [Int.toNat_natCast, List.drop_zero]
 have ht : (l.take n).length = n := by rw [List.length_take]; omega
 have hta : ∀ a ∈ l.take n, almP a := fun a h => ha a (List.mem_of_mem_take h)
 generalize l.take n = t at ht hta
 unfold show_Lines_l1
 refine W.bind (R := fun r => r.1 = .exit 1 /\ r.2.2.2.1.length = n /\ ∀ x ∈ r.2.2.2.1, x.size <= 80) (W.cnt t.length (fun (s : List ByteArray) i => ([], 0, s, i, ())) (fun i s => s.length = i /\ ∀ x ∈ s, x.size <= 80) ?_ ?_ 0 (Nat.zero_le _) [] ⟨rfl, by simp⟩) ?_
 . rintro s rec ⟨q1, q2⟩
   dsimp only
   exact W.no (by omega) (W.now ⟨rfl, by dsimp only; omega, q2⟩)
 . rintro i s rec hi ⟨q1, q2⟩ hrec
   dsimp only
   refine W.y (by omega) (W.y (by omega) (W.y (by omega) ?_))
   simp only [Int.toNat_natCast, getD_nat hi]
   refine W.bind (R := fun r => r.2.1 = 0 /\ r.1.size <= 80) ?_ ?_
   . have hx := hta _ (List.getElem_mem hi)
     generalize t[i] = a at hx
     have e : ∀ k, show_Line k a = show_Line 0 a := fun k => rfl
     obtain ⟨x, e2, z⟩ := line_eq 0 a hx
     exact W.ev (Ev.all fun k => (e k).trans e2) ⟨rfl, z⟩
   . rintro ⟨x, e, _⟩ ⟨he, hz⟩
     dsimp only at he hz
     subst he
     refine W.nf rfl (W.y (by omega) ?_)
     rw [wrap_succ (by omega)]
     refine hrec _ ⟨by simp [q1], fun y hy => ?_⟩
     rcases List.mem_append.1 hy with hy | hy
     . exact q2 y hy
     . simp at hy; subst hy; exact hz
 . rintro ⟨e, _, _, s, i, _⟩ ⟨q, q1, q2⟩
   dsimp only at q q1 q2
   subst q
   exact W.t rfl (W.now ⟨by dsimp only; omega, q2⟩)
end Go.Proofs.YtfhphiedbdinmaaGreatDoor.A
namespace Go.Proofs.YtfhphiedbdinmaaGreatDoor.Pure
open Go Ab A
theorem ieq (a b : Int) : (a == b) = decide (a = b) := by rw [Bool.eq_iff_iff]; simp
theorem cdec {α : Type} (p : Prop) [Decidable p] (x y : α) : (bif decide p then x else y) = if p then x else y := by by_cases h : p <;> simp [h]
theorem dfalse {p : Prop} [Decidable p] (h : ¬ p) : (some (false, ()) : Option (Bool × Unit)) = some (decide p, ()) := by rw [decide_eq_false h]
theorem dsame {p q : Prop} [Decidable p] [Decidable q] (h : p ↔ q) : (some (decide p, ()) : Option (Bool × Unit)) = some (decide q, ()) := by rw [decide_eq_decide.2 h]
theorem two (p q : Prop) [Decidable p] [Decidable q] : (bif decide p then some (decide q, ()) else some (false, ()) : Option (Bool × Unit)) = some (decide (p /\ q), ()) := by by_cases h : p <;> simp [h]
theorem mwithin (k : Nat) (a b c : Int) : machine_within k a b c = some (decide (b <= a /\ a <= c), ()) := two _ _
theorem spotIs (k : Nat) (b c : Int) : spot_Is k (b, c, ()) = some (decide (1 <= b /\ b <= 99 /\ 0 <= c /\ c <= 7), ()) := by
 unfold spot_Is spot_place_may
 simp only [cdec]
 repeat' split
 all_goals (simp only [Option.bind_some]; first | exact dfalse (by omega) | exact dsame (by omega))
def cmdP (se rq kd bed ch pr t lo : Int) : Prop :=
 (kd = 1 /\ se = 0 /\ rq = 0 /\ bed = 0 /\ ch = 0 /\ pr = 0 /\ t = 0 /\ lo = 0) \/
 (kd ≠ 1 /\ 1 <= se /\ se <= 1000000000 /\ 1 <= rq /\ rq <= 1000000000 /\ 0 <= t /\ t <= 1000000000 /\
  ((kd = 2 /\ (1 <= bed /\ bed <= 99 /\ 0 <= ch /\ ch <= 7) /\ 1 <= pr /\ pr <= 3 /\ lo = 0) \/ ((kd = 3 \/ kd = 5) /\ (1 <= bed /\ bed <= 99 /\ 0 <= ch /\ ch <= 7) /\ pr = 0 /\ lo = 0) \/ (kd = 4 /\ (1 <= bed /\ bed <= 99 /\ 0 <= ch /\ ch <= 7) /\ pr = 0 /\ 1 <= lo /\ lo <= 1000) \/
   ((kd = 6 \/ kd = 7) /\ 1 <= bed /\ bed <= 99 /\ ch = 0 /\ pr = 0 /\ 1 <= lo /\ lo <= 1000) \/ (kd = 8 /\ bed = 0 /\ ch = 0 /\ pr = 0 /\ 1 <= lo /\ lo <= 20) \/ (kd = 9 /\ bed = 0 /\ ch = 0 /\ pr = 0 /\ lo = 0)))
instance (se rq kd bed ch pr t lo : Int) : Decidable (cmdP se rq kd bed ch pr t lo) := by unfold cmdP; infer_instance
theorem kinds (P : Int -> Prop) (h : ∀ kd, (kd < 1 \/ 9 < kd) -> P kd) (h1 : P 1) (h2 : P 2) (h3 : P 3) (h4 : P 4) (h5 : P 5) (h6 : P 6) (h7 : P 7) (h8 : P 8) (h9 : P 9) (kd : Int) : P kd := by
 by_cases q : kd < 1 \/ 9 < kd
 . exact h kd q
 . have : kd = 1 \/ kd = 2 \/ kd = 3 \/ kd = 4 \/ kd = 5 \/ kd = 6 \/ kd = 7 \/ kd = 8 \/ kd = 9 := by omega
   rcases this with rfl | rfl | rfl | rfl | rfl | rfl | rfl | rfl | rfl <;> assumption
theorem mayM (k : Nat) (se rq kd bed ch pr t lo : Int) : machine_May k (se, rq, kd, bed, ch, pr, t, lo, ()) = some (decide (cmdP se rq kd bed ch pr t lo), ()) := by
 unfold machine_May
 simp only [mwithin, spotIs, Option.bind_some, ieq, <- decide_not, <- Bool.decide_and, Bool.and_true, cdec]
 revert kd
 refine kinds _ ?_ ?_ ?_ ?_ ?_ ?_ ?_ ?_ ?_ ?_
 . intro kd h
   have h1 : kd ≠ 1 := by omega
   have h2 : kd ≠ 2 := by omega
   have h3 : kd ≠ 3 := by omega
   have h4 : kd ≠ 4 := by omega
   have h5 : kd ≠ 5 := by omega
   have h6 : kd ≠ 6 := by omega
   have h7 : kd ≠ 7 := by omega
   have h8 : kd ≠ 8 := by omega
   have h9 : kd ≠ 9 := by omega
   simp only [h1, h2, h3, h4, h5, h6, h7, h8, h9, if_false]
   repeat' split
   all_goals (refine dfalse ?_; unfold cmdP; omega)
 all_goals
  simp only [Int.reduceEq, if_true, if_false, true_and]
  repeat' split
  all_goals first | (refine dfalse ?_; unfold cmdP; omega) | (refine dsame ?_; unfold cmdP; omega)
end Go.Proofs.YtfhphiedbdinmaaGreatDoor.Pure
namespace Go.Proofs.YtfhphiedbdinmaaGreatDoor.A
open Go Ab
section
section
variable {α β : Type}
def P (f : Nat -> Option β) (Q : β -> Prop) : Prop := ∀ k y, f k = some y -> Q y
variable {f g : Nat -> Option β} {Q : β -> Prop}
theorem P.now {y : β} (h : Q y) : P (fun _ => some y) Q := fun _ _ e => Option.some.inj e ▸ h
theorem P.none : P (fun _ => (Option.none : Option β)) Q := fun _ _ e => by cases e
theorem P.bind {f : Nat -> Option α} {g : Nat -> α -> Option β} (h : ∀ x, P (fun k => g k x) Q) : P (fun k => (f k).bind (g k)) Q := fun k y e => by
 obtain ⟨x, _, e2⟩ := Option.bind_eq_some_iff.1 e
 exact h x k y e2
theorem P.ite {c : Bool} (h1 : P f Q) (h2 : P g Q) : P (fun k => bif c then f k else g k) Q := by cases c; exact h2; exact h1
theorem P.bz {t : Bt} (h : P f Q) : P (fun k => bz t (f k)) Q := fun k y e => h k y (by rw [<- bz_eq t (f k)]; exact e)
theorem W.p {R : β -> Prop} (w : W f Q) (p : P f R) : W f (fun y => Q y /\ R y) := let ⟨y, ⟨k, e⟩, q⟩ := w; ⟨y, ⟨k, e⟩, q, p k y (e k (Nat.le_refl _))⟩
end
def codeP {α : Type} (r : α × (Int × Unit)) : Prop := 0 <= r.2.1 /\ r.2.1 <= 1000
theorem bpass_c (b : BrdT) (n : Int) : P (fun k => board_Pass k b n) codeP := by
 unfold board_Pass
 refine P.bind fun _ => P.ite (P.now ⟨by decide, by decide⟩) (P.ite (P.now ⟨by decide, by decide⟩) (P.ite (P.now ⟨by decide, by decide⟩) (P.ite (P.now ⟨by decide, by decide⟩) (P.bind fun r => ?_))))
 obtain ⟨e, r⟩ := r
 cases e <;> repeat' first | exact P.none | exact P.now ⟨by dsimp only; decide, by dsimp only; decide⟩ | refine P.ite ?_ ?_ | refine P.bz ?_ | refine P.bind fun _ => ?_
theorem codes6 : (∀ (b : BrdT) (a : AlmT), P (fun k => board_Put k b a) codeP) /\ (∀ (b : BrdT) (s : Int × Int × Unit), P (fun k => board_Drop k b s) codeP) /\ (∀ (a : AlmT) (p n : Int), P (fun k => alarm_Raise k a p n) codeP) /\ (∀ (s : Int × Int × Unit) (p n : Int), P (fun k => alarm_Open k s p n) codeP) /\ (∀ (a : AlmT) (d n l : Int), P (fun k => alarm_Do k a d n l) codeP) /\ ∀ l : List WinT, P (fun k => mute_told k l) codeP := by
 unfold board_Put board_Drop alarm_Raise alarm_Open alarm_Do mute_told
 refine ⟨fun b a => ?_, fun b s => ?_, fun a p n => ?_, fun s p n => ?_, fun a d n l => ?_, fun l => ?_⟩
 all_goals repeat' first | exact P.none | exact P.now ⟨by dsimp only; decide, by dsimp only; decide⟩ | refine P.ite ?_ ?_ | refine P.bz ?_ | refine P.bind fun _ => ?_
abbrev bput_c := codes6.1
abbrev bdrop_c := codes6.2.1
abbrev araise_c := codes6.2.2.1
abbrev aopen_c := codes6.2.2.2.1
abbrev ado_c := codes6.2.2.2.2.1
abbrev told_c := codes6.2.2.2.2.2
theorem some_bind {β : Type} (x : Option β) : (x.bind fun r => some r) = x := by cases x <;> rfl
theorem madd_c (l m : List WinT) : P (fun k => mute_Add k l m) codeP := by
 unfold mute_Add
 simp only [some_bind]
 refine P.bind fun _ => P.ite (P.now ⟨by decide, by decide⟩) (P.bind fun _ => P.ite (P.now ⟨by decide, by decide⟩) (P.bind fun _ => P.bind fun r => told_c r.1))
theorem mcut_c (l m : List WinT) : P (fun k => mute_Cut k l m) codeP := by
 unfold mute_Cut
 simp only [some_bind]
 refine P.bind fun _ => P.ite (P.now ⟨by decide, by decide⟩) (P.bind fun _ => P.ite (P.now ⟨by decide, by decide⟩) (P.bind fun _ => P.bind fun r => ?_))
 obtain ⟨e, r⟩ := r
 cases e
 . exact P.none
 . exact P.ite (told_c _) P.none
 . exact P.none
def Inv (s : SttT) : Prop := 0 <= s.1 /\ s.1 <= 1000 /\ brdP (s.2.1, s.2.2.1, s.2.2.2.1, ()) /\ winsP s.2.2.2.2.1 /\ clisP s.2.2.2.2.2.1 /\ ∀ c ∈ s.2.2.2.2.2.1, c.1 <= s.1
theorem is_w (s : SttT) (h : Inv s) : Ev (fun k => machine_Is k s) (true, ()) := by
 obtain ⟨h1, h2, h3, h4, h5, h6⟩ := h
 obtain ⟨n, cap, now, al, ws, cl, _⟩ := s
 dsimp only at h1 h2 h3 h4 h5 h6
 unfold machine_Is
 refine Ev.w (W.no (by dsimp only; omega) (W.no (by dsimp only; omega) ?_))
 refine W.bind (brd_w (cap, now, al, ())) fun r hr => ?_
 rw [hr.2 h3]
 refine W.nf rfl (W.bind (mis_w ws (by have := h4.1; omega)) fun r hr => ?_)
 rw [hr.2 h4]
 refine W.nf rfl (W.bind (sis_w cl (by have := h5.1; omega)) fun r hr => ?_)
 rw [hr.2 h5]
 refine W.nf rfl (W.beq (fun _ => W.now rfl) (fun h0 => ?_))
 dsimp only at h0 ⊢
 have hl := h5.1
 have e : IntKind.i64.wrap ((↑cl.length : Int) - 1) = ((cl.length - 1 : Nat) : Int) := by rw [wrap_id (by omega) (by omega)]; omega
 rw [e]
 refine W.y (by omega) (W.y (by omega) (W.now ?_))
 simp only [Int.toNat_natCast]
 have q := h6 _ (List.getElem_mem (show cl.length - 1 < cl.length by omega))
 rw [<- getD_nat (z := zCl) (show cl.length - 1 < cl.length by omega)] at q
 rw [decide_eq_true q]
theorem own_ev (a : AnsT3) (h : a.2.2.1.length <= 1000000) : Ev (fun k => machine_own k a) (a, ()) := by
 unfold machine_own
 exact Ev.bind (clone_ev _ h) (Ev.now _)
theorem acopy_ev (s : SttT) (n : Int) (r3 : List AlmT) (r4 : List WinT) (c : CmdT8) (hl : s.2.2.2.2.2.1.length <= 1000) (hf : ∀ x ∈ s.2.2.2.2.2.1, x.2.2.2.2.2.1.length <= 1000000) :
 Ev (fun k => machine_Apply_l1 s k (0, (n, s.2.1, s.2.2.1, r3, r4, [], c.1, c.2.1, c.2.2.1, c.2.2.2.1, c.2.2.2.2.1, c.2.2.2.2.2.1, c.2.2.2.2.2.2.1, c.2.2.2.2.2.2.2.1, ()), ())) (.exit 1, (s.2.2.2.2.2.1.length : Int), (n, s.2.1, s.2.2.1, r3, r4, s.2.2.2.2.2.1, c), ()) := by
 unfold machine_Apply_l1
 refine Ev.w (W.cnt s.2.2.2.2.2.1.length (fun (x : List CliT) i => (i, (n, s.2.1, s.2.2.1, r3, r4, x, c), ())) (fun i x => x = s.2.2.2.2.2.1.take i) ?_ ?_ 0 (Nat.zero_le _) [] rfl)
 . rintro x rec rfl
   dsimp only
   rw [List.take_length]
   exact W.no (by omega) (W.now rfl)
 . rintro i x rec hi rfl hrec
   dsimp only
   refine W.y (by omega) (W.y (by omega) (W.y (by omega) ?_))
   simp only [Int.toNat_natCast, getD_nat hi]
   refine W.bev (own_ev _ (hf _ (List.getElem_mem hi))) (W.bz (W.y (by rw [List.length_take]; omega) ?_))
   dsimp only
   rw [wrap_succ (by omega)]
   exact hrec _ (take_succ' hi)
end
section
def Done (n : Int) (r : SttT × (AnsT3 × (Int × Unit))) : Prop := r.2.2.1 = 0 /\ Inv r.1 /\ r.1.1 = n
theorem fin_w {cl : List CliT} {se rq n : Int} (cap now : Int) (al : List AlmT) (ws : List WinT) (a : AnsT3) (hn : 1 <= n /\ n <= 1000) (hcl : clisP cl) (hid : ∀ c ∈ cl, c.1 <= n) (hse : 1 <= se /\ se <= 1000000000) (hrq : 0 <= rq /\ rq <= 1000000000) (hck : checked cl se rq)
 (hb : brdP (cap, now, al, ())) (hw : winsP ws) (ha : ansP a.1 a.2.1 a.2.2.1) (F : AnsT3 -> AnsT3) :
 W (fun k => (session_Put k cl se rq n a).bind fun r => (machine_own k a).bind fun r' => some ((n, cap, now, al, ws, r.1, ()), F r'.1, r.2.1, ())) (Done n) := by
 refine W.bind (put_w cl se rq n a hcl hck hse hrq ⟨by omega, by omega⟩ ha) fun r ⟨h1, h2, h3⟩ => ?_
 refine W.bev (own_ev a (by have := ha.2.2.2.2.1; omega)) (W.now ⟨h1, ⟨by dsimp only; omega, by dsimp only; omega, hb, hw, h2, fun c hc => ?_⟩, rfl⟩)
 have h4 : c.1 ∈ r.1.map Prod.fst := List.mem_map.2 ⟨c, hc, rfl⟩
 rw [h3] at h4
 obtain ⟨d, hd, e⟩ := List.mem_map.1 h4
 dsimp only
 rw [<- e]
 exact hid d hd
theorem ans_fault {e : Int} (h : 0 <= e /\ e <= 1000) : ansP e 0 [] := ⟨h.1, h.2, by omega, by omega, by simp, by simp⟩
abbrev DatT := Int × (Int × (Int × ((List AlmT) × ((List WinT) × ((List CliT) × CmdT8)))))
def MidP (n : Int) (cl : List CliT) (c : CmdT8) (r : Int × (DatT × Unit)) : Prop := 0 <= r.1 /\ r.1 <= 1000 /\ ∃ cap now al ws, r.2.1 = (n, cap, now, al, ws, cl, c) /\ brdP (cap, now, al, ()) /\ winsP ws
theorem apply_w (s : SttT) (c : CmdT8) (h : Inv s) (hn : s.1 < 1000) (hc : Pure.cmdP c.1 c.2.1 c.2.2.1 c.2.2.2.1 c.2.2.2.2.1 c.2.2.2.2.2.1 c.2.2.2.2.2.2.1 c.2.2.2.2.2.2.2.1) : W (fun k => machine_Apply k s c) (Done (s.1 + 1)) := by
 have his := is_w s h
 obtain ⟨h1, h2, h3, h4, h5, h6⟩ := h
 obtain ⟨n, cap, now, al, ws, cl, _⟩ := s
 obtain ⟨se, rq, kd, bed, ch, pr, t, lo, _⟩ := c
 dsimp only at h1 h2 h3 h4 h5 h6 hn hc
 obtain ⟨b1, b2, b3, b4, b5, b6⟩ := id h3
 dsimp only at b1 b2 b3 b4 b5 b6
 have hl := h5.1
 have hwl := h4.1
 unfold machine_Apply
 refine W.bev his (W.nf rfl ?_)
 refine W.bev (x := (true, ())) (Ev.all fun k => by rw [Pure.mayM, decide_eq_true hc]) (W.nf rfl ?_)
 refine W.beq (fun q => by dsimp only at q; omega) (fun _ => ?_)
 refine W.bev (x := (al, ())) (Ev.dt (by dsimp only; omega) (Ev.now _)) (W.bev (x := (ws, ())) (Ev.dt (by dsimp only; omega) (Ev.now _)) ?_)
 refine W.bev (acopy_ev (n, cap, now, al, ws, cl, ()) (IntKind.i64.wrap (n + 1)) al ws (se, rq, kd, bed, ch, pr, t, lo, ()) (by dsimp only; omega) (few h5)) (W.t rfl ?_)
 rw [wrap_id (by omega) (by omega)]
 dsimp only
 refine W.beq (fun hk => ?_) (fun hk => ?_)
 . refine W.bind (open_w cl (n + 1) h5 ⟨by omega, by omega⟩ (fun c hc => by have := h6 c hc; omega)) fun r ⟨q1, q2, q3⟩ => W.now ⟨q1, ⟨by dsimp only; omega, by dsimp only; omega, h3, h4, q2, q3⟩, rfl⟩
 have hcs : 1 <= se /\ se <= 1000000000 /\ 1 <= rq /\ rq <= 1000000000 := by
  unfold Pure.cmdP at hc
  omega
 have keep : ∀ a : AnsT3, Done (n + 1) ((n + 1, cap, now, al, ws, cl, ()), a, 0, ()) := fun a => ⟨rfl, ⟨by dsimp only; omega, by dsimp only; omega, h3, h4, h5, fun c hc => by have := h6 c hc; dsimp only; omega⟩, rfl⟩
 obtain ⟨r, er, hr⟩ := check_kinds cl se rq h5
 refine W.bev er ?_
 refine W.beq (fun _ => W.bz (W.now (keep _))) (fun e1 => ?_)
 refine W.beq (fun _ => W.bev (Ev.now _) (W.now (keep _))) (fun e2 => ?_)
 refine W.beq (fun _ => W.bev (Ev.now _) (W.now (keep _))) (fun e3 => ?_)
 have hck : checked cl se rq := ⟨r, er, hr e1 e2 e3⟩
 have fin := fun (cap now : Int) (al : List AlmT) (ws : List WinT) (a : AnsT3) (hb : brdP (cap, now, al, ())) (hw : winsP ws) (ha : ansP a.1 a.2.1 a.2.2.1) => fin_w (n := n + 1) cap now al ws a ⟨by omega, by omega⟩ h5 (fun c hc => by have := h6 c hc; omega) ⟨hcs.1, hcs.2.1⟩ ⟨by omega, hcs.2.2.2⟩ hck hb hw ha (fun x => (x.1, x.2.1, x.2.2.1, ()))
 refine W.bind (W.p (bpass_w (cap, now, al, ()) (imax t now) (by dsimp only; omega)) (bpass_c _ _)) fun r12 ⟨p1, p2⟩ => ?_
 refine W.bne (fun e => W.bev (Ev.now _) (fin cap now al ws _ h3 h4 (ans_fault p2))) (fun e => ?_)
 obtain ⟨hb, _⟩ := p1 e
 obtain ⟨⟨cap', now', al', _⟩, e12, _⟩ := r12
 clear p1 p2 e
 obtain ⟨d1, d2, d3, d4, d5, d6⟩ := id hb
 dsimp only at d1 d2 d3 d4 d5 d6
 dsimp only
 refine W.bind (R := MidP (n + 1) cl (se, rq, kd, bed, ch, pr, t, lo, ())) (W.bz ?_) ?_
 . have good : ∀ (e : Int) (cap now : Int) (al : List AlmT) (ws : List WinT), 0 <= e /\ e <= 1000 -> brdP (cap, now, al, ()) -> winsP ws -> MidP (n + 1) cl (se, rq, kd, bed, ch, pr, t, lo, ()) (e, (n + 1, cap, now, al, ws, cl, se, rq, kd, bed, ch, pr, t, lo, ()), ()) := fun e cap now al ws q q1 q2 => ⟨q.1, q.2, cap, now, al, ws, rfl, q1, q2⟩
   have putw := fun a => W.p (bput_w (cap', now', al', ()) a hb) (bput_c _ _)
   refine W.beq (fun _ => ?_) (fun k2 => ?_)
   . refine W.bind (bget_w (cap', now', al', ()) (bed, ch, ()) (by dsimp only; omega)) fun r22 _ => ?_
     refine W.ite (fun _ => ?_) (fun _ => ?_)
     . refine W.bind (W.p (araise_w _ _ _) (araise_c _ _ _)) fun r25 ⟨_, c25⟩ => ?_
       refine W.bne (fun _ => W.now (good _ _ _ _ _ c25 hb h4)) (fun _ => ?_)
       refine W.bind (putw _) fun r26 ⟨q26, c26⟩ => ?_
       exact W.beq (fun e => W.now (good _ _ _ _ _ c26 (q26 e).1 h4)) (fun _ => W.now (good _ _ _ _ _ c26 hb h4))
     . refine W.bind (W.p (aopen_w _ _ _) (aopen_c _ _ _)) fun r25 ⟨_, c25⟩ => ?_
       refine W.bne (fun _ => W.now (good _ _ _ _ _ c25 hb h4)) (fun _ => ?_)
       refine W.bind (putw _) fun r26 ⟨q26, c26⟩ => ?_
       exact W.beq (fun e => W.now (good _ _ _ _ _ c26 (q26 e).1 h4)) (fun _ => W.now (good _ _ _ _ _ c26 hb h4))
   refine W.beq (fun _ => ?_) (fun k3 => ?_)
   . refine W.bind (bget_w (cap', now', al', ()) (bed, ch, ()) (by dsimp only; omega)) fun r22 _ => ?_
     refine W.nt (fun _ => W.now (good _ _ _ _ _ ⟨by omega, by omega⟩ hb h4)) (fun _ => ?_)
     refine W.bind (W.p (ado_w _ _ _ _) (ado_c _ _ _ _)) fun r25 ⟨_, c25⟩ => ?_
     refine W.bne (fun _ => W.now (good _ _ _ _ _ c25 hb h4)) (fun _ => ?_)
     refine W.bind (putw _) fun r26 ⟨q26, c26⟩ => ?_
     exact W.beq (fun e => W.now (good _ _ _ _ _ c26 (q26 e).1 h4)) (fun _ => W.now (good _ _ _ _ _ c26 hb h4))
   refine W.beq (fun _ => ?_) (fun k4 => ?_)
   . refine W.bind (bget_w (cap', now', al', ()) (bed, ch, ()) (by dsimp only; omega)) fun r22 _ => ?_
     refine W.nt (fun _ => W.now (good _ _ _ _ _ ⟨by omega, by omega⟩ hb h4)) (fun _ => ?_)
     refine W.bind (W.p (ado_w _ _ _ _) (ado_c _ _ _ _)) fun r25 ⟨_, c25⟩ => ?_
     refine W.bne (fun _ => W.now (good _ _ _ _ _ c25 hb h4)) (fun _ => ?_)
     refine W.bind (putw _) fun r26 ⟨q26, c26⟩ => ?_
     exact W.beq (fun e => W.now (good _ _ _ _ _ c26 (q26 e).1 h4)) (fun _ => W.now (good _ _ _ _ _ c26 hb h4))
   refine W.beq (fun _ => ?_) (fun k5 => ?_)
   . refine W.bind (W.p (bdrop_w (cap', now', al', ()) (bed, ch, ()) hb) (bdrop_c _ _)) fun r26 ⟨q26, c26⟩ => ?_
     exact W.beq (fun e => W.now (good _ _ _ _ _ c26 (q26 e).1 h4)) (fun _ => W.now (good _ _ _ _ _ c26 hb h4))
   refine W.beq (fun _ => ?_) (fun k6 => ?_)
   . refine W.bind (W.p (madd_w ws _ h4 (by simp)) (madd_c _ _)) fun r26 ⟨q26, c26⟩ => ?_
     exact W.beq (fun e => W.now (good _ _ _ _ _ c26 hb (q26 e))) (fun _ => W.now (good _ _ _ _ _ c26 hb h4))
   refine W.beq (fun _ => ?_) (fun k7 => ?_)
   . refine W.bind (W.p (mcut_w ws _ h4 (by simp)) (mcut_c _ _)) fun r26 ⟨q26, c26⟩ => ?_
     exact W.beq (fun e => W.now (good _ _ _ _ _ c26 hb (q26 e))) (fun _ => W.now (good _ _ _ _ _ c26 hb h4))
   refine W.beq (fun _ => W.now (good _ _ _ _ _ ⟨by omega, by omega⟩ hb h4)) (fun k8 => ?_)
   refine W.beq (fun _ => W.now (good _ _ _ _ _ ⟨by omega, by omega⟩ hb h4)) (fun k9 => ?_)
   unfold Pure.cmdP at hc
   exfalso; omega
 . rintro ⟨e, d, _⟩ ⟨q1, q2, cap2, now2, al2, ws2, q, hb2, hw2⟩
   dsimp only at q1 q2 q
   subst q
   dsimp only
   refine W.bne (fun _ => W.bev (Ev.now _) (fin cap2 now2 al2 ws2 _ hb2 hw2 (ans_fault ⟨q1, q2⟩))) (fun _ => ?_)
   refine W.bne (fun _ => fin cap2 now2 al2 ws2 _ hb2 hw2 ⟨by dsimp only; omega, by dsimp only; omega, by dsimp only; omega, by dsimp only; omega, by simp, by simp⟩) (fun k8 => ?_)
   have hlo : lo <= 20 := by unfold Pure.cmdP at hc; omega
   refine W.bind (heard_w (cap2, now2, al2, ()) ws2 hb2 hw2) fun r28 ⟨g1, g2, g3⟩ => ?_
   refine W.bind (lines_w (cap2, now2, al2, ()) ws2 lo hb2 hw2 hlo) fun r29 ⟨g4, g5⟩ => ?_
   exact fin cap2 now2 al2 ws2 _ hb2 hw2 ⟨by dsimp only; omega, by dsimp only; omega, by dsimp only; omega, by dsimp only; omega, g4, g5⟩
def Steps : SttT -> List CmdT8 -> SttT -> Prop
 | s, [], s' => s' = s
 | s, c :: cs, s' => ∃ r, Ev (fun k => machine_Apply k s c) r /\ r.2.2.1 = 0 /\ Steps r.1 cs s'
theorem Steps.append : ∀ {l m : List CmdT8} {s a b : SttT}, Steps s l a -> Steps a m b -> Steps s (l ++ m) b
 | [], m, s, a, b, h, k => by cases h; exact k
 | c :: l, m, s, a, b, ⟨r, e, z, h⟩, k => ⟨r, e, z, Steps.append h k⟩
def mayC (c : CmdT8) : Prop := Pure.cmdP c.1 c.2.1 c.2.2.1 c.2.2.2.1 c.2.2.2.2.1 c.2.2.2.2.2.1 c.2.2.2.2.2.2.1 c.2.2.2.2.2.2.2.1
theorem steps_w : ∀ (cs : List CmdT8) (s : SttT), Inv s -> s.1 + (cs.length : Int) <= 1000 -> (∀ c ∈ cs, mayC c) -> ∃ s', Steps s cs s' /\ Inv s' /\ s'.1 = s.1 + (cs.length : Int)
 | [], s, h, _, _ => ⟨s, rfl, h, by simp⟩
 | c :: cs, s, h, hn, hc => by
   rw [List.length_cons] at hn
   obtain ⟨r, e, z, hi, h1⟩ := apply_w s c h (by omega) (hc c (by simp))
   obtain ⟨s', q1, q2, q3⟩ := steps_w cs r.1 hi (by omega) (fun d hd => hc d (by simp [hd]))
   exact ⟨s', ⟨r, e, z, q1⟩, q2, by rw [q3, h1, List.length_cons]; omega⟩
theorem runl_w {s s' : SttT} {cs : List CmdT8} (h : Steps s cs s') (hl : cs.length <= 1000) : W (fun k => machine_Run_l1 cs k ([], 0, [], 0, (0, 0, 0, [], [], [], ()), s, ())) (fun r => r.1 = .exit 0 /\ r.2.2.2.2.2.2.1 = s') := by
 unfold machine_Run_l1
 refine W.cnt cs.length (fun (x : List AnsT3 × SttT) i => ([], 0, x.1, i, (0, 0, 0, [], [], [], ()), x.2, ())) (fun i x => x.1.length = i /\ Steps x.2 (cs.drop i) s') ?_ ?_ 0 (Nat.zero_le _) ([], s) ⟨rfl, h⟩
 . rintro ⟨a, x⟩ rec ⟨h1, h2⟩
   dsimp only at h1 h2 ⊢
   rw [List.drop_length] at h2
   exact W.no (by omega) (W.now ⟨rfl, h2.symm⟩)
 . rintro i ⟨a, x⟩ rec hi ⟨h1, h2⟩ hrec
   dsimp only at h1 h2 ⊢
   rw [List.drop_eq_getElem_cons hi] at h2
   obtain ⟨r, e, z, h2⟩ := h2
   refine W.y (by omega) (W.y (by omega) (W.y (by omega) ?_))
   simp only [Int.toNat_natCast, getD_nat hi]
   refine W.bev e ?_
   rw [z]
   refine W.nf rfl (W.y (by omega) ?_)
   rw [wrap_succ (by omega)]
   exact hrec (a ++ [r.2.1], r.1) ⟨by simp [h1], h2⟩
theorem run_ev {s s' : SttT} {cs : List CmdT8} (h : Steps s cs s') (hl : cs.length <= 1000) : ∃ a, Ev (fun k => machine_Run k s cs) (s', a, 0, ()) := by
 unfold machine_Run
 obtain ⟨y, e, q1, q2⟩ := runl_w h hl
 obtain ⟨y0, y1, y2, y3, y4, y5, y6, _⟩ := y
 dsimp only at q1 q2
 subst q1 q2
 exact ⟨_, Ev.bind e (Ev.now _)⟩
theorem new_ev : Ev (fun k => machine_New k 9) ((0, 9, 0, [], [], [], ()), 0, ()) := Ev.all fun k => rfl
theorem new_inv : Inv (0, 9, 0, [], [], [], ()) := ⟨by decide, by decide, ⟨by decide, by decide, by decide, by decide, by decide, fun i h => by simp at h⟩, ⟨by decide, by simp, by simp⟩, ⟨by decide, by simp, by simp⟩, by simp⟩
end
end Go.Proofs.YtfhphiedbdinmaaGreatDoor.A
