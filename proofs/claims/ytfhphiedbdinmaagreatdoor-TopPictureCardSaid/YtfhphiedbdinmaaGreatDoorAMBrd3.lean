import Derived.Test.YtfhphiedbdinmaaGreatDoorARange
import Derived.Test.YtfhphiedbdinmaaGreatDoorFnTP
set_option linter.all false
namespace Go.Proofs.YtfhphiedbdinmaaGreatDoor.A
open Go Ab
section
variable {α β : Type}
def W (f : Nat -> Option β) (Q : β -> Prop) : Prop := ∃ y, Ev f y /\ Q y
section
variable {f g : Nat -> Option β} {Q R : β -> Prop}
theorem W.now {y : β} (h : Q y) : W (fun _ => some y) Q := ⟨y, Ev.now y, h⟩
theorem W.ev {y : β} (h : Ev f y) (q : Q y) : W f Q := ⟨y, h, q⟩
theorem W.of (h : ∀ k, f k = g k) (hg : W g Q) : W f Q := let ⟨y, e, q⟩ := hg; ⟨y, Ev.of h e, q⟩
theorem W.bind {f : Nat -> Option α} {R : α -> Prop} {g : Nat -> α -> Option β} (hf : W f R) (hg : ∀ x, R x -> W (fun k => g k x) Q) : W (fun k => (f k).bind (g k)) Q := by
 obtain ⟨x, e, r⟩ := hf
 obtain ⟨y, e', q⟩ := hg x r
 exact ⟨y, Ev.bind e e', q⟩
theorem W.bev {f : Nat -> Option α} {x : α} {g : Nat -> α -> Option β} (hf : Ev f x) (hg : W (fun k => g k x) Q) : W (fun k => (f k).bind (g k)) Q := let ⟨y, e, q⟩ := hg; ⟨y, Ev.bind hf e, q⟩
theorem W.ite {c : Bool} (h1 : c = true -> W f Q) (h2 : c = false -> W g Q) : W (fun k => bif c then f k else g k) Q := by cases c; exact h2 rfl; exact h1 rfl
theorem W.dec {p : Prop} [Decidable p] (h1 : p -> W f Q) (h2 : ¬ p -> W g Q) : W (fun k => bif decide p then f k else g k) Q := W.ite (fun h => h1 (of_decide_eq_true h)) (fun h => h2 (of_decide_eq_false h))
theorem W.beq {a b : Int} (h1 : a = b -> W f Q) (h2 : a ≠ b -> W g Q) : W (fun k => bif a == b then f k else g k) Q := W.ite (fun h => h1 (by simpa using h)) (fun h => h2 (by simpa using h))
theorem W.bne {a b : Int} (h1 : a ≠ b -> W f Q) (h2 : a = b -> W g Q) : W (fun k => bif a != b then f k else g k) Q := W.ite (fun h => h1 (by simpa using h)) (fun h => h2 (by simpa using h))
theorem W.nt {b : Bool} (h1 : b = false -> W f Q) (h2 : b = true -> W g Q) : W (fun k => bif !b then f k else g k) Q := by cases b; exact h1 rfl; exact h2 rfl
theorem W.t {c : Bool} (h : c = true) (ha : W f Q) : W (fun k => bif c then f k else g k) Q := by subst h; exact ha
theorem W.nf {c : Bool} (h : c = false) (ha : W g Q) : W (fun k => bif c then f k else g k) Q := by subst h; exact ha
theorem W.y {p : Prop} [Decidable p] (h : p) (ha : W f Q) : W (fun k => bif decide p then f k else g k) Q := W.t (decide_eq_true h) ha
theorem W.no {p : Prop} [Decidable p] (h : ¬ p) (ha : W g Q) : W (fun k => bif decide p then f k else g k) Q := W.nf (decide_eq_false h) ha
theorem W.bz {t : Bt} (h : W f Q) : W (fun k => bz t (f k)) Q := W.of (fun k => bz_eq t (f k)) h
theorem both_self (x : Option β) : both x x = x := both2_eq x
theorem W.sh {x : α} {f : Nat -> α -> Option β} (h : W (fun k => f k x) Q) : W (fun k => share x (f k)) Q := h
end
theorem W.loop {st : Nat -> (α -> Option β) -> α -> Option β} (I : α -> Prop) (m : α -> Nat) {Q : β -> Prop}
 (h : ∀ x, I x -> ∀ rec : Nat -> α -> Option β, (∀ y, I y -> m y < m x -> W (fun k => rec k y) Q) -> W (fun k => st k (rec k) x) Q) : ∀ x, I x -> W (fun k => rec1 st k x) Q := by
 have key : ∀ (n : Nat) (x : α), m x < n -> I x -> W (fun k => rec1 st k x) Q := by
  intro n
  induction n with
  | zero => intro x hx; omega
  | succ n ih =>
    intro x hx hI
    obtain ⟨y, e, q⟩ := h x hI (fun k => rec1 st k) (fun y hy hm => ih y (by omega) hy)
    exact ⟨y, Ev.step e, q⟩
 exact fun x hx => key (m x + 1) x (by omega) hx
theorem W.cnt {σ : Type} {st : Nat -> (α -> Option β) -> α -> Option β} (n : Nat) (mk : σ -> Int -> α) (I : Nat -> σ -> Prop) {Q : β -> Prop}
 (hend : ∀ s (rec : Nat -> α -> Option β), I n s -> W (fun k => st k (rec k) (mk s (n : Int))) Q)
 (hstep : ∀ i s (rec : Nat -> α -> Option β), i < n -> I i s -> (∀ s', I (i + 1) s' -> W (fun k => rec k (mk s' ((i + 1 : Nat) : Int))) Q) -> W (fun k => st k (rec k) (mk s (i : Int))) Q) (j : Nat) (hj : j <= n) : ∀ s, I j s -> W (fun k => rec1 st k (mk s (j : Int))) Q := by
 obtain ⟨d, hd⟩ : ∃ d, n - j = d := ⟨_, rfl⟩
 induction d generalizing j with
 | zero =>
   intro s hs
   obtain rfl : j = n := by omega
   obtain ⟨y, e, q⟩ := hend s (fun k => rec1 st k) hs
   exact ⟨y, Ev.step e, q⟩
 | succ d ih =>
   intro s hs
   obtain ⟨y, e, q⟩ := hstep j s (fun k => rec1 st k) (by omega) hs (fun s' hs' => ih (j + 1) (by omega) (by omega) s' hs')
   exact ⟨y, Ev.step e, q⟩
theorem getD_nat {l : List α} {i : Nat} {z : α} (h : i < l.length) : l.getD i z = l[i] := by rw [List.getD_eq_getElem?_getD, List.getElem?_eq_getElem h]; rfl
theorem Ev.w {f : Nat -> Option β} {y : β} (h : W f (· = y)) : Ev f y := let ⟨_, e, q⟩ := h; q ▸ e
end
section
theorem cdec {α : Type} (p : Prop) [Decidable p] (x y : α) : (bif decide p then x else y) = if p then x else y := by by_cases h : p <;> simp [h]
theorem ieq (a b : Int) : (a == b) = decide (a = b) := by rw [Bool.eq_iff_iff]; simp
theorem dfalse {p : Prop} [Decidable p] (h : ¬ p) : (some (false, ()) : Option (Bool × Unit)) = some (decide p, ()) := by rw [decide_eq_false h]
theorem dsame {p q : Prop} [Decidable p] [Decidable q] (h : p ↔ q) : (some (decide p, ()) : Option (Bool × Unit)) = some (decide q, ()) := by rw [decide_eq_decide.2 h]
theorem two (p q : Prop) [Decidable p] [Decidable q] : (bif decide p then some (decide q, ()) else some (false, ()) : Option (Bool × Unit)) = some (decide (p /\ q), ()) := by by_cases h : p <;> simp [h]
def spotP (b c : Int) : Prop := 1 <= b /\ b <= 99 /\ 0 <= c /\ c <= 7
instance (b c : Int) : Decidable (spotP b c) := by unfold spotP; infer_instance
theorem spotIs (k : Nat) (b c : Int) : spot_Is k (b, c, ()) = some (decide (spotP b c), ()) := by
 unfold spot_Is spot_place_may spotP
 simp only [cdec]
 repeat' split
 all_goals (simp only [Option.bind_some]; first | exact dfalse (by omega) | exact dsame (by omega))
def waitI (p : Int) : Int := if p < 1 then 0 else if p > 3 then 0 else if p = 1 then 10 else if p = 2 then 30 else 90
theorem wait_eq (k : Nat) (p : Int) : alarm_Wait k p = some (waitI p, ()) := by
 unfold alarm_Wait waitI
 simp only [cdec]
 split
 . rfl
 split
 . rfl
 rw [wrap_id (by omega) (by omega)]
 have : p = 1 \/ p = 2 \/ p = 3 := by omega
 rcases this with rfl | rfl | rfl <;> rfl
theorem time_eq (k : Nat) (n : Int) : alarm_time k n = some (decide (0 <= n /\ n <= 1000000000), ()) := two _ _
def almP (a : AlmT) : Prop := spotP a.1 a.2.1 /\ 1 <= a.2.2.1 /\ a.2.2.1 <= 4 /\ 1 <= a.2.2.2.1 /\ a.2.2.2.1 <= 3 /\ 0 <= a.2.2.2.2.1 /\ a.2.2.2.2.1 <= 1000000000 /\ a.2.2.2.2.1 <= a.2.2.2.2.2.1 /\ a.2.2.2.2.2.1 <= 1000002000
instance (a : AlmT) : Decidable (almP a) := by unfold almP; infer_instance
theorem almIs (k : Nat) (a : AlmT) : alarm_Is k a = some (decide (almP a), ()) := by
 unfold alarm_Is
 simp only [spotIs, wait_eq, time_eq, Option.bind_some, cdec]
 unfold almP waitI
 by_cases hs : spotP a.1 a.2.1
 . simp only [hs, if_true, true_and]
   repeat' split
   all_goals first | exact dfalse (by omega) | exact dsame (by omega)
 . simp only [hs, if_false, false_and]; rfl
def lessS (a b : AlmT) : Prop := a.1 < b.1 \/ a.1 = b.1 /\ a.2.1 < b.2.1
instance (a b : AlmT) : Decidable (lessS a b) := by unfold lessS; infer_instance
theorem less_eq (k : Nat) (a b c d : Int) : spot_Less k (a, b, ()) (c, d, ()) = some (decide (a < c \/ a = c /\ b < d), ()) := by
 unfold spot_Less
 simp only [cdec, ieq]
 repeat' split
 all_goals first | exact dfalse (by omega) | exact dsame (by omega) | (rw [decide_eq_true (by omega)])
def riseA (l : List AlmT) (now : Int) : Prop := ∀ i (h : i < l.length), almP l[i] /\ l[i].2.2.2.2.1 <= now /\ (0 < i -> lessS (l[i - 1]'(by omega)) l[i])
theorem rise_w (l : List AlmT) (now : Int) (hl : l.length <= 1000000) : W (fun k => board_alarms_rise k l now) (fun r => r.1 = true ↔ riseA l now) := by
 unfold board_alarms_rise board_alarms_rise_l1
 refine W.bind (R := fun r => (r.1 = .exit 0 /\ riseA l now) \/ (r.1 = .ret /\ r.2.1 = false /\ ¬ riseA l now)) (W.cnt l.length (fun (_ : Unit) i => (false, i, ())) (fun n _ => ∀ i (h : i < l.length), i < n -> almP l[i] /\ l[i].2.2.2.2.1 <= now /\ (0 < i -> lessS (l[i - 1]'(by omega)) l[i])) ?_ ?_ 0 (Nat.zero_le _) () (fun i h h0 => by omega)) ?_
 . intro _ rec hI
   dsimp only
   exact W.no (by omega) (W.now (.inl ⟨rfl, fun i h => hI i h h⟩))
 . intro i _ rec hi hI hrec
   dsimp only
   refine W.y (by omega) (W.y (by omega) (W.y (by omega) ?_))
   simp only [Int.toNat_natCast, getD_nat hi, almIs, Option.bind_some]
   by_cases h1 : almP l[i]
   case neg =>
    simp only [h1, decide_false, Bool.not_false]
    exact W.now (.inr ⟨rfl, rfl, fun h => h1 (h i hi).1⟩)
   simp only [h1, decide_true, Bool.not_true]
   refine W.dec (fun h2 => W.now (.inr ⟨rfl, rfl, fun h => by have := (h i hi).2.1; omega⟩)) (fun h2 => ?_)
   refine W.dec (fun h3 => ?_) (fun h3 => ?_)
   . have e : IntKind.i64.wrap ((i : Int) - 1) = ((i - 1 : Nat) : Int) := by rw [wrap_id (by omega) (by omega)]; omega
     rw [e, wrap_succ (by omega)]
     refine W.y (by omega) (W.y (by omega) ?_)
     simp only [Int.toNat_natCast, getD_nat (show i - 1 < l.length by omega), less_eq, Option.bind_some]
     refine W.nt (fun h4 => W.now (.inr ⟨rfl, rfl, fun h => ?_⟩)) (fun h4 => hrec () (fun j hj hji => ?_))
     . have := (h i hi).2.2 (by omega)
       exact (of_decide_eq_false h4) this
     . by_cases hjn : j = i
       . subst hjn; exact ⟨h1, by omega, fun _ => of_decide_eq_true h4⟩
       . exact hI j hj (by omega)
   . rw [wrap_succ (by omega)]
     refine hrec () (fun j hj hji => ?_)
     by_cases hjn : j = i
     . subst hjn; exact ⟨h1, by omega, fun _ => by omega⟩
     . exact hI j hj (by omega)
 . rintro ⟨e, b, i⟩ (⟨rfl, h⟩ | ⟨rfl, rfl, h⟩)
   . exact W.now ⟨fun _ => h, fun _ => rfl⟩
   . exact W.now ⟨fun q => absurd q Bool.false_ne_true, fun q => absurd q h⟩
def brdP (b : BrdT) : Prop := 1 <= b.1 /\ b.1 <= 200 /\ 0 <= b.2.1 /\ b.2.1 <= 1000000000 /\ (b.2.2.1.length : Int) <= b.1 /\ riseA b.2.2.1 b.2.1
theorem brd_w (b : BrdT) : W (fun k => board_Is k b) (fun r => r.1 = true ↔ brdP b) := by
 unfold board_Is board_open brdP
 refine W.dec (fun h1 => ?_) (fun h1 => W.now (by simp; omega))
 refine W.dec (fun h2 => ?_) (fun h2 => W.now (by simp; omega))
 refine W.dec (fun h3 => ?_) (fun h3 => W.now (by simp; omega))
 refine W.dec (fun h4 => ?_) (fun h4 => W.now (by simp; omega))
 refine W.dec (fun h5 => ?_) (fun h5 => W.now (by simp; omega))
 refine W.bev (Ev.now _) (W.bind (rise_w b.2.2.1 b.2.1 (by omega)) fun r hr => W.now ?_)
 exact hr.trans ⟨fun h => ⟨h1, h2, h3, h4, h5, h⟩, fun h => h.2.2.2.2.2⟩
end
section
theorem next46 (k : Nat) : life_Next k 4 6 = some (1, true, ()) := rfl
theorem next12 (k : Nat) : life_Next k 1 2 = some (2, true, ()) := rfl
theorem next_ex (p d : Int) : ∃ r, ∀ k, life_Next k p d = some r := by
 unfold life_Next life_is
 by_cases h1 : p >= 0
 case neg => simp only [cdec, h1, if_false]; exact ⟨_, fun k => rfl⟩
 by_cases h2 : p < 5
 case neg => simp only [cdec, h1, h2, if_true, decide_false]; exact ⟨_, fun k => rfl⟩
 by_cases h3 : d < 1
 case pos => simp only [cdec, h1, h2, h3, if_true, decide_true]; exact ⟨_, fun k => rfl⟩
 by_cases h4 : d >= 7
 case pos => simp only [cdec, h1, h2, h3, h4, if_true, if_false, decide_true]; exact ⟨_, fun k => rfl⟩
 have e1 : p = 0 \/ p = 1 \/ p = 2 \/ p = 3 \/ p = 4 := by omega
 have e2 : d = 1 \/ d = 2 \/ d = 3 \/ d = 4 \/ d = 5 \/ d = 6 := by omega
 rcases e1 with rfl | rfl | rfl | rfl | rfl <;> rcases e2 with rfl | rfl | rfl | rfl | rfl | rfl <;> exact ⟨_, fun k => rfl⟩
theorem turned_w (a : AlmT) (d n u : Int) : ∃ y, ∀ k, alarm_clock_turned k a d n u = some (y, ()) := by
 obtain ⟨r, hr⟩ := next_ex a.2.2.1 d
 exact ⟨_, fun k => by unfold alarm_clock_turned; rw [hr]; rfl⟩
def dueM (a : AlmT) : Nat := if a.2.2.1 = 4 then 2 else if a.2.2.1 = 1 then 1 else 0
theorem pass_w (a : AlmT) (n : Int) : W (fun k => alarm_Pass k a n) (fun _ => True) := by
 unfold alarm_Pass alarm_Pass_l1
 simp only [almIs, Option.bind_some]
 refine W.nt (fun _ => W.now trivial) (fun _ => ?_)
 refine W.bind (R := fun r => r.1 = .exit 0) (W.loop (I := fun _ => True) (m := fun x => dueM x.1) ?_ _ trivial) ?_
 . rintro ⟨⟨b1, b2, b3, b4, b5, b6, _⟩, _⟩ _ rec hrec
   dsimp only
   by_cases h4 : b3 = 4
   . subst h4
     unfold alarm_timed_due
     refine W.bev (Ev.now _) (W.ite (fun _ => ?_) (fun _ => W.now rfl))
     unfold alarm_clock_woken alarm_clock_turned
     simp only [wait_eq, next46, Option.bind_some]
     exact hrec _ trivial (by simp [dueM])
   . by_cases h1 : b3 = 1
     . subst h1
       unfold alarm_timed_due
       refine W.bev (Ev.now _) (W.ite (fun _ => ?_) (fun _ => W.now rfl))
       unfold alarm_clock_escalated alarm_clock_turned
       simp only [next12, Option.bind_some]
       exact hrec _ trivial (by simp [dueM])
     . unfold alarm_timed_due
       simp only [bne_i h1, bne_i h4]
       exact W.bev (Ev.now _) (W.now rfl)
 . rintro ⟨e, y⟩ rfl
   exact W.now trivial
theorem bpass_w (b : BrdT) (n : Int) (hb : b.2.2.1.length <= 1000) : W (fun k => board_Pass k b n) (fun r => r.2.1 = 0 -> brdP r.1 /\ r.1.1 = b.1) := by
 unfold board_Pass board_Pass_l1
 refine W.bind (brd_w b) fun r hr => ?_
 refine W.nt (fun _ => W.now (by simp)) (fun _ => ?_)
 refine W.dec (fun _ => W.now (by simp)) (fun _ => ?_)
 refine W.dec (fun _ => W.now (by simp)) (fun _ => ?_)
 refine W.dec (fun _ => W.now (by simp)) (fun _ => ?_)
 refine W.bind (R := fun r => r.1 = .exit 1 /\ r.2.2.1.1 = b.1) (W.cnt b.2.2.1.length (fun (s : BrdT) i => (i, s, ())) (fun i s => s.1 = b.1 /\ s.2.2.1.length = i) ?_ ?_ 0 (Nat.zero_le _) _ ⟨rfl, rfl⟩) ?_
 . rintro s rec ⟨h1, h2⟩
   dsimp only
   exact W.no (by omega) (W.now ⟨rfl, h1⟩)
 . rintro i s rec hi ⟨h1, h2⟩ hrec
   dsimp only
   refine W.y (by omega) (W.y (by omega) (W.y (by omega) ?_))
   refine W.of (g := fun k => (alarm_Pass k (List.getD b.2.2.1 (Int.toNat (i : Int)) zA) n).bind fun r5 => bif decide ((List.length s.2.2.1 + 1) * 48 <= 140737488355328) then rec k (IntKind.i64.wrap ((i : Int) + 1), (s.1, s.2.1, s.2.2.1 ++ [r5.1], ()), ()) else none) (fun k => by simp only [both2_eq, both_self]) ?_
   refine W.bind (pass_w _ _) fun y _ => W.y (by omega) ?_
   rw [wrap_succ (by omega)]
   exact hrec (s.1, s.2.1, s.2.2.1 ++ [y.1], ()) ⟨h1, by simp [h2]⟩
 . rintro ⟨e, i, s, _⟩ ⟨rfl, h⟩
   dsimp only
   refine W.t rfl (W.bind (brd_w s) fun r8 h8 => ?_)
   refine W.nt (fun _ => W.now (by simp)) (fun q => W.now fun _ => ⟨h8.1 q, h⟩)
theorem bget_w (b : BrdT) (s : Int × Int × Unit) (hb : b.2.2.1.length <= 1000) : W (fun k => board_Get k b s) (fun _ => True) := by
 unfold board_Get board_Get_l1
 refine W.bind (R := fun r => r.1 = .exit 0 \/ (r.1 = .ret /\ 0 <= r.2.1 /\ r.2.1 < (b.2.2.1.length : Int))) (W.cnt b.2.2.1.length (fun (_ : Unit) i => (0, i, ())) (fun _ _ => True) ?_ ?_ 0 (Nat.zero_le _) () trivial) ?_
 . intro _ rec _
   dsimp only
   exact W.no (by omega) (W.now (.inl rfl))
 . intro i _ rec hi _ hrec
   dsimp only
   refine W.y (by omega) (W.y (by omega) (W.y (by omega) (W.ite (fun _ => W.now (.inr ⟨rfl, by dsimp only; omega, by dsimp only; omega⟩)) (fun _ => ?_))))
   rw [wrap_succ (by omega)]
   exact hrec () trivial
 . rintro ⟨e, j, i, _⟩ (h | ⟨h, h0, h1⟩) <;> (dsimp only at h; subst h)
   . exact W.t rfl (W.now trivial)
   . dsimp only at h0 h1 ⊢
     exact W.no (by omega) (W.y (by omega) (W.y (by omega) (W.now trivial)))
theorem araise_w (a : AlmT) (p n : Int) : W (fun k => alarm_Raise k a p n) (fun _ => True) := by
 unfold alarm_Raise
 simp only [almIs, wait_eq, time_eq, Option.bind_some]
 repeat first | exact W.now trivial | refine W.ite (fun _ => ?_) (fun _ => ?_)
theorem aopen_w (s : Int × Int × Unit) (p n : Int) : W (fun k => alarm_Open k s p n) (fun _ => True) := by
 obtain ⟨b, c, ⟨⟩⟩ := s
 unfold alarm_Open
 simp only [spotIs, wait_eq, time_eq, Option.bind_some]
 repeat first | exact W.now trivial | refine W.ite (fun _ => ?_) (fun _ => ?_)
theorem ado_w (a : AlmT) (d n l : Int) : W (fun k => alarm_Do k a d n l) (fun _ => True) := by
 obtain ⟨r, hr⟩ := next_ex a.2.2.1 d
 unfold alarm_Do alarm_clock_acked alarm_clock_silenced alarm_clock_escalated alarm_clock_woken
 obtain ⟨y1, h1⟩ := turned_w a 2 n 0
 obtain ⟨y2, h2⟩ := turned_w a 3 n 0
 obtain ⟨y3, h3⟩ := turned_w a 4 n l
 obtain ⟨y4, h4⟩ := turned_w a 6 n (waitI a.2.2.2.1)
 simp only [almIs, wait_eq, time_eq, hr, h1, h2, h3, h4, Option.bind_some]
 repeat first | exact W.now trivial | refine W.ite (fun _ => ?_) (fun _ => ?_)
theorem less_trans {a b c : AlmT} (h : lessS a b) (k : lessS b c) : lessS a c := by unfold lessS at *; omega
def riseP (l : List AlmT) (now : Int) : Prop := (∀ x ∈ l, almP x /\ x.2.2.2.2.1 <= now) /\ l.Pairwise lessS
theorem adj_pairwise {α : Type} {R : α -> α -> Prop} (tr : ∀ {a b c}, R a b -> R b c -> R a c) {l : List α} (h : ∀ i (hi : i < l.length), 0 < i -> R (l[i - 1]'(by omega)) l[i]) : l.Pairwise R := by
 rw [List.pairwise_iff_getElem]
 intro i j hi hj hij
 obtain ⟨d, rfl⟩ : ∃ d, j = i + 1 + d := ⟨j - i - 1, by omega⟩
 clear hij
 induction d with
 | zero => exact h (i + 1) hj (by omega)
 | succ d ih => exact tr (ih (by omega)) (h (i + 1 + (d + 1)) hj (by omega))
theorem rise_iff (l : List AlmT) (now : Int) : riseA l now ↔ riseP l now := by
 constructor
 . intro h
   refine ⟨fun x hx => ?_, adj_pairwise (R := lessS) (fun h k => less_trans h k) fun i hi h0 => (h i hi).2.2 h0⟩
   obtain ⟨i, hi, rfl⟩ := List.mem_iff_getElem.1 hx
   exact ⟨(h i hi).1, (h i hi).2.1⟩
 . rintro ⟨h1, h2⟩ i hi
   refine ⟨(h1 _ (List.getElem_mem hi)).1, (h1 _ (List.getElem_mem hi)).2, fun h0 => ?_⟩
   exact List.pairwise_iff_getElem.1 h2 (i - 1) i (by omega) hi (by omega)
theorem find_w (l : List AlmT) (b c : Int) (hl : l.length <= 1000) : W (fun k => board_alarms_find k l (b, c, ())) (fun r => ∃ n : Nat, r.1 = (n : Int) /\ n <= l.length /\ (∀ i (h : i < l.length), i < n -> l[i].1 < b \/ l[i].1 = b /\ l[i].2.1 < c) /\ (∀ h : n < l.length, ¬ (l[n].1 < b \/ l[n].1 = b /\ l[n].2.1 < c)) /\ (r.2.1 = true ↔ ∃ h : n < l.length, l[n].1 = b /\ l[n].2.1 = c)) := by
 unfold board_alarms_find board_alarms_find_l1
 refine W.bind (R := fun r => r.1 = .exit 0 /\ ∃ n : Nat, r.2.1 = (n : Int) /\ n <= l.length /\ (∀ i (h : i < l.length), i < n -> l[i].1 < b \/ l[i].1 = b /\ l[i].2.1 < c) /\ (∀ h : n < l.length, ¬ (l[n].1 < b \/ l[n].1 = b /\ l[n].2.1 < c))) (W.cnt l.length (fun (_ : Unit) i => (i, ())) (fun n _ => ∀ i (h : i < l.length), i < n -> l[i].1 < b \/ l[i].1 = b /\ l[i].2.1 < c) ?_ ?_ 0 (Nat.zero_le _) () (fun i h h0 => by omega)) ?_
 . intro _ rec hI
   dsimp only
   exact W.no (by omega) (W.now ⟨rfl, _, rfl, Nat.le_refl _, hI, fun h => by omega⟩)
 . intro i _ rec hi hI hrec
   dsimp only
   refine W.y (by omega) (W.y (by omega) (W.y (by omega) ?_))
   simp only [Int.toNat_natCast, getD_nat hi, less_eq, Option.bind_some]
   refine W.dec (fun h => ?_) (fun h => W.now ⟨rfl, i, rfl, by omega, hI, fun _ => h⟩)
   rw [wrap_succ (by omega)]
   refine hrec () (fun j hj hji => ?_)
   by_cases e : j = i
   . subst e; exact h
   . exact hI j hj (by omega)
 . rintro ⟨e, j, _⟩ ⟨h, n, h1, h2, h3, h4⟩
   dsimp only at h h1
   subst h h1
   dsimp only
   refine W.t rfl (W.dec (fun h5 => ?_) (fun h5 => W.now ⟨n, rfl, h2, h3, h4, ⟨fun h => by simp at h, fun ⟨h, _⟩ => by omega⟩⟩))
   refine W.y (by omega) (W.y (by omega) (W.now ⟨n, rfl, h2, h3, h4, ?_⟩))
   have hn : n < l.length := by omega
   dsimp only
   rw [Int.toNat_natCast, getD_nat hn]
   simp only [ieq, Bool.and_true, Bool.and_eq_true, decide_eq_true_eq]
   exact ⟨fun h => ⟨hn, h⟩, fun ⟨_, h⟩ => h⟩
end
section
theorem concatA_w (ls : List (List AlmT)) (h1 : ls.length <= 1000) (h2 : ls.flatten.length <= 1000000) : W (fun k => slices_Concat_board_alarms_api_Alarm k ls) (fun r => r.1 = ls.flatten) := by
 have tk : ∀ i (h : i < ls.length), (ls.take (i + 1)).flatten = (ls.take i).flatten ++ ls[i] := fun i h => by rw [List.take_succ_eq_append_getElem h, List.flatten_append]; simp
 have le : ∀ i, (ls.take i).flatten.length <= 1000000 := fun i => by
  have := congrArg List.length (congrArg List.flatten (List.take_append_drop i ls))
  rw [List.flatten_append, List.length_append] at this
  omega
 have rest : W (fun k => slices_Concat_board_alarms_api_Alarm_l2 ls k ([], 0, ())) (fun r => r.1 = .exit 2 /\ r.2.1 = ls.flatten) := by
  unfold slices_Concat_board_alarms_api_Alarm_l2
  refine W.cnt ls.length (fun (s : List AlmT) i => (s, i, ())) (fun i s => s = (ls.take i).flatten) ?_ ?_ 0 (Nat.zero_le _) _ rfl
  . rintro s rec rfl
    dsimp only
    exact W.no (by omega) (W.now ⟨rfl, by rw [List.take_length]⟩)
  . rintro i s rec hi rfl hrec
    dsimp only
    refine W.y (by omega) (W.y (by omega) (W.y (by omega) ?_))
    rw [Int.toNat_natCast, getD_nat hi, wrap_succ (by omega)]
    have := le (i + 1)
    rw [tk i hi, List.length_append] at this
    refine W.ite (fun h => hrec _ ?_) (fun h => W.y (by omega) (hrec _ (tk i hi).symm))
    have h0 : ls[i] = [] := List.length_eq_zero_iff.1 (Nat.eq_of_beq_eq_true h)
    rw [tk i hi, h0, List.append_nil]
 unfold slices_Concat_board_alarms_api_Alarm
 refine W.bind (R := fun r => r.1 = .exit 0 /\ r.2.1 = (ls.flatten.length : Int)) ?_ ?_
 . unfold slices_Concat_board_alarms_api_Alarm_l1
   refine W.cnt ls.length (fun (s : Int) i => (s, i, ())) (fun i s => s = ((ls.take i).flatten.length : Int)) ?_ ?_ 0 (Nat.zero_le _) _ rfl
   . rintro s rec rfl
     dsimp only
     exact W.no (by omega) (W.now ⟨rfl, by rw [List.take_length]⟩)
   . rintro i s rec hi rfl hrec
     dsimp only
     refine W.y (by omega) (W.y (by omega) (W.y (by omega) ?_))
     rw [Int.toNat_natCast, getD_nat hi, wrap_succ (by omega)]
     have := le (i + 1)
     rw [tk i hi, List.length_append] at this
     have e : IntKind.i64.wrap (((ls.take i).flatten.length : Int) + (ls[i].length : Int)) = (((ls.take (i + 1)).flatten.length : Nat) : Int) := by
      rw [wrap_id (by omega) (by omega), tk i hi, List.length_append]; omega
     rw [e]
     exact W.no (by omega) (hrec _ rfl)
 . rintro ⟨e, n, i, _⟩ ⟨h, h'⟩
   dsimp only at h h'
   subst h h'
   dsimp only
   have e0 : IntKind.i64.wrap ((ls.flatten.length : Int) - IntKind.i64.wrap (0 - 0)) = (ls.flatten.length : Int) := by rw [show IntKind.i64.wrap (0 - 0) = 0 from rfl, wrap_id (by omega) (by omega)]; omega
   refine W.t rfl (W.no (by omega) ?_)
   simp only [e0]
   refine W.dec (fun hp => ?_) (fun hp => ?_)
   . refine W.y (by omega) (W.y (by omega) (W.sh (W.sh ?_)))
     have rest3 : ∀ (n : Nat) (z : AlmT), W (fun k => slices_Concat_board_alarms_api_Alarm_l3 ls k (List.take (Int.toNat 0) (List.replicate n z), 0, ())) (fun r => r.1 = .exit 2 /\ r.2.1 = ls.flatten) := fun n z => rest
     refine W.bind (rest3 _ _) ?_
     rintro ⟨e, s, j, _⟩ ⟨h, h'⟩
     dsimp only at h h'
     subst h h'
     exact W.t rfl (W.now rfl)
   . refine W.bind rest ?_
     rintro ⟨e, s, j, _⟩ ⟨h, h'⟩
     dsimp only at h h'
     subst h h'
     exact W.t rfl (W.now rfl)
theorem with_w (l m : List AlmT) (n d : Nat) (hn : n + d <= l.length) (hl : l.length <= 1000) (hm : m.length <= 10) : W (fun k => board_alarms_with k l (n : Int) (d : Int) m) (fun r => r.1 = l.take n ++ (m ++ l.drop (n + d))) := by
 unfold board_alarms_with
 refine W.y (by omega) (W.y (by omega) (W.sh ?_))
 have e : IntKind.i64.wrap ((n : Int) + (d : Int)) = ((n + d : Nat) : Int) := by rw [wrap_id (by omega) (by omega)]; omega
 rw [e]
 refine W.y (by omega) (W.y (by omega) (W.sh ?_))
 refine W.bind (concatA_w _ (by simp) ?_) fun r hr => W.now ?_
 . simp; omega
 . rw [hr]; simp; omega
theorem rise_put {l : List AlmT} {now : Int} (h : riseP l now) {a : AlmT} (ha : almP a) (hs : a.2.2.2.2.1 <= now) {n d : Nat} (hn : n + d <= l.length) (hd : d <= 1)
 (hlo : ∀ i (h : i < l.length), i < n -> lessS l[i] a) (hhi : ∀ i (h : i < l.length), n + d <= i -> lessS a l[i]) : riseP (l.take n ++ (a :: l.drop (n + d))) now := by
 obtain ⟨h1, h2⟩ := h
 refine ⟨fun x hx => ?_, ?_⟩
 . rcases List.mem_append.1 hx with hx | hx
   . exact h1 x (List.mem_of_mem_take hx)
   . rcases List.mem_cons.1 hx with rfl | hx
     . exact ⟨ha, hs⟩
     . exact h1 x (List.mem_of_mem_drop hx)
 . have lo : ∀ x ∈ l.take n, lessS x a := fun x hx => by
    obtain ⟨i, hi, rfl⟩ := List.mem_iff_getElem.1 hx
    rw [List.length_take] at hi
    rw [List.getElem_take]
    exact hlo i (by omega) (by omega)
   have hi : ∀ x ∈ l.drop (n + d), lessS a x := fun x hx => by
    obtain ⟨i, hi, rfl⟩ := List.mem_iff_getElem.1 hx
    rw [List.length_drop] at hi
    rw [List.getElem_drop]
    exact hhi _ (by omega) (by omega)
   refine List.pairwise_append.2 ⟨h2.sublist (List.take_sublist _ _), List.pairwise_cons.2 ⟨hi, h2.sublist (List.drop_sublist _ _)⟩, fun x hx y hy => ?_⟩
   rcases List.mem_cons.1 hy with rfl | hy
   . exact lo x hx
   . exact less_trans (lo x hx) (hi y hy)
theorem rise_drop {l : List AlmT} {now : Int} (h : riseP l now) (n : Nat) : riseP (l.take n ++ ([] ++ l.drop (n + 1))) now := by
 have s : (l.take n ++ ([] ++ l.drop (n + 1))).Sublist l := by
  have := (List.Sublist.refl (l.take n)).append (List.drop_sublist 1 (l.drop n))
  rw [List.drop_drop, List.take_append_drop] at this
  simpa using this
 exact ⟨fun x hx => h.1 x (s.subset hx), h.2.sublist s⟩
theorem bput_w (b : BrdT) (a : AlmT) (hb : brdP b) : W (fun k => board_Put k b a) (fun r => r.2.1 = 0 -> brdP r.1 /\ r.1.1 = b.1) := by
 obtain ⟨b1, b2, b3, b4, b5, b6⟩ := id hb
 have hp := (rise_iff _ _).1 b6
 unfold board_Put board_open board_sheet_now
 refine W.bind (brd_w b) fun r hr => ?_
 refine W.nt (fun _ => W.now (by simp)) (fun _ => ?_)
 simp only [almIs, Option.bind_some]
 refine W.nt (fun _ => W.now (by simp)) (fun ha => ?_)
 have ha : almP a := of_decide_eq_true ha
 refine W.dec (fun _ => W.now (by simp)) (fun hs => ?_)
 refine W.bind (find_w b.2.2.1 a.1 a.2.1 (by omega)) fun r4 ⟨n, h1, h2, h3, h4, h5⟩ => ?_
 refine W.ite (fun ht => W.bz ?_) (fun ht => W.beq (fun _ => W.now (by simp)) (fun hf => W.bz ?_))
 . obtain ⟨hn, e1, e2⟩ := h5.1 ht
   rw [h1]
   refine W.bind (with_w b.2.2.1 [a] n 1 (by omega) (by omega) (by simp)) fun r7 h7 => W.now fun _ => ⟨⟨b1, b2, b3, b4, ?_, ?_⟩, rfl⟩
   . dsimp only; rw [h7]; simp; omega
   . dsimp only
     rw [h7]
     refine (rise_iff _ _).2 (rise_put hp ha (by omega) (by omega) (by omega) (fun i hi hin => h3 i hi hin) (fun i hi hin => ?_))
     have := List.pairwise_iff_getElem.1 hp.2 n i hn hi (by omega)
     unfold lessS at *; omega
 . have ht : ¬ ∃ h : n < b.2.2.1.length, b.2.2.1[n].1 = a.1 /\ b.2.2.1[n].2.1 = a.2.1 := fun q => by rw [h5.2 q] at ht; cases ht
   rw [h1]
   refine W.bind (with_w b.2.2.1 [a] n 0 (by omega) (by omega) (by simp)) fun r7 h7 => W.now fun _ => ⟨⟨b1, b2, b3, b4, ?_, ?_⟩, rfl⟩
   . dsimp only; rw [h7]; simp; omega
   . dsimp only
     rw [h7]
     refine (rise_iff _ _).2 (rise_put hp ha (by omega) (by omega) (by omega) (fun i hi hin => h3 i hi hin) (fun i hi hin => ?_))
     have hn : n < b.2.2.1.length := by omega
     have h6 := h4 hn
     have h7 : ¬ (b.2.2.1[n].1 = a.1 /\ b.2.2.1[n].2.1 = a.2.1) := fun q => ht ⟨hn, q⟩
     have h8 : lessS a b.2.2.1[n] := by unfold lessS; omega
     by_cases e : i = n
     . subst e; exact h8
     . exact less_trans h8 (List.pairwise_iff_getElem.1 hp.2 n i hn hi (by omega))
theorem bdrop_w (b : BrdT) (s : Int × Int × Unit) (hb : brdP b) : W (fun k => board_Drop k b s) (fun r => r.2.1 = 0 -> brdP r.1 /\ r.1.1 = b.1) := by
 obtain ⟨b1, b2, b3, b4, b5, b6⟩ := id hb
 have hp := (rise_iff _ _).1 b6
 obtain ⟨c, d, ⟨⟩⟩ := s
 unfold board_Drop board_open board_sheet_now
 refine W.bind (brd_w b) fun r hr => ?_
 refine W.nt (fun _ => W.now (by simp)) (fun _ => ?_)
 refine W.bev (Ev.now _) (W.bind (find_w b.2.2.1 c d (by omega)) fun r4 ⟨n, h1, h2, h3, h4, h5⟩ => ?_)
 refine W.nt (fun _ => W.now (by simp)) (fun ht => ?_)
 obtain ⟨hn, e1, e2⟩ := h5.1 ht
 rw [h1]
 refine W.bind (with_w b.2.2.1 [] n 1 (by omega) (by omega) (by simp)) fun r7 h7 => W.bev (Ev.now _) (W.now fun _ => ⟨⟨b1, b2, b3, b4, ?_, ?_⟩, rfl⟩)
 . dsimp only; rw [h7]; simp; omega
 . dsimp only
   rw [h7]
   exact (rise_iff _ _).2 (rise_drop hp n)
end
end Go.Proofs.YtfhphiedbdinmaaGreatDoor.A
