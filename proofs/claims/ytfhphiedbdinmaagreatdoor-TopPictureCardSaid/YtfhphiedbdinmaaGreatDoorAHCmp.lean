import Derived.Test.YtfhphiedbdinmaaGreatDoorFnTP
import Derived.Test.YtfhphiedbdinmaaGreatDoorARange
set_option linter.all false
namespace Go.Proofs.YtfhphiedbdinmaaGreatDoor.A
open Go Ab
theorem cmp_eq (k : Nat) (a b : Int) : cmp_Compare_int k a b = some (cmpI a b, ()) := by
 unfold cmp_Compare_int cmp_isNaN_int cmpI
 simp only [bne_self_eq_false, Option.bind_some, cond_false]
 by_cases h1 : a < b
 . simp [h1]
 . by_cases h2 : b < a
   . simp [h1, h2]
   . simp [h1, h2]
theorem first_loop (l : List Int) (hb : l.length <= 1000) : ∀ (n i : Nat) (y : Int), i <= l.length -> l.length - i < n ->
 ((l.drop i).find? (· != 0) = none -> rank_first_l1 l n (y, (i : Int), ()) = some (AExit.exit 0, y, (l.length : Int), ())) /\
 ∀ v, (l.drop i).find? (· != 0) = some v -> ∃ j, rank_first_l1 l n (y, (i : Int), ()) = some (AExit.ret, v, j, ()) := by
 intro n
 induction n with
 | zero => intro i y _ h; omega
 | succ n ih =>
   intro i y hi hn
   unfold rank_first_l1
   rw [rec1_succ]
   dsimp only
   by_cases hlt : i < l.length
   . have e1 : ((i : Int) < (↑l.length : Int)) := by omega
     have e2 : (0 <= (i : Int)) := by omega
     rw [bif_t e1, bif_t e2, bif_t e1]
     have e3 : l.getD (Int.toNat (i : Int)) (0 : Int) = l[i] := by rw [Int.toNat_natCast, List.getD_eq_getElem?_getD, List.getElem?_eq_getElem hlt]; rfl
     rw [show l.getD (Int.toNat (i : Int)) (Ty.int IntKind.i64).zero = l[i] from e3, List.drop_eq_getElem_cons hlt, List.find?_cons]
     rw [show IntKind.i64.wrap ((i : Int) + 1) = ((i + 1 : Nat) : Int) by rw [wrap_id (by omega) (by omega)]; rfl]
     have ih' := ih (i + 1) y (by omega) (by omega)
     generalize l[i] = x at ih' ⊢
     by_cases hx : x = 0
     . subst hx; exact ih'
     . have hz : (x != 0) = true := by simpa using hx
       rw [hz]
       refine ⟨fun h => by simp at h, fun v hv => ⟨(i : Int), ?_⟩⟩
       obtain rfl : x = v := Option.some.inj hv
       rfl
   . have e1 : ¬ ((i : Int) < (↑l.length : Int)) := by omega
     rw [bif_f e1, List.drop_eq_nil_of_le (by omega)]
     have : i = l.length := by omega
     subst this
     exact ⟨fun _ => rfl, fun v hv => by simp at hv⟩
def firstZ (l : List Int) : Int := (l.find? (· != 0)).getD 0
theorem rank_first_eq (l : List Int) (hl : l.length < 20) : rank_first 20 l = some (firstZ l, ()) := by
 obtain ⟨h1, h2⟩ := first_loop l (by omega) 20 0 0 (Nat.zero_le _) (by omega)
 rw [List.drop_zero] at h1 h2
 unfold rank_first firstZ
 cases hf : l.find? (· != 0) with
 | none => rw [show ((0 : Int), (0 : Int), ()) = (0, ((0 : Nat) : Int), ()) from rfl, h1 hf]; rfl
 | some v => obtain ⟨j, hj⟩ := h2 v hf; rw [show ((0 : Int), (0 : Int), ()) = (0, ((0 : Nat) : Int), ()) from rfl, hj]; rfl
theorem or_eq (l : List Int) (hl : l.length < 20) : cmp_Or_int 20 l = some (firstZ l, ()) := rank_first_eq l hl
theorem firstZ_lex : ∀ (l m : List Int), firstZ (List.zipWith cmpI l m) = lexL l m
 | [], m => by simp [firstZ, lexL]
 | a :: l, [] => by simp [firstZ, lexL]
 | a :: l, b :: m => by
   have ih := firstZ_lex l m
   unfold firstZ at ih ⊢
   rw [List.zipWith_cons_cons, List.find?_cons]
   unfold lexL cmpI
   by_cases h1 : a < b
   . simp [h1]
   . by_cases h2 : b < a
     . simp [h1, h2]
     . simp only [h1, h2, if_false]; exact ih
theorem press_eq (a : AlmT) : rank_alarm_press 20 a = some (pressA a, ()) := by
 obtain ⟨a1, a2, a3, a4, a5, a6, _⟩ := a
 unfold rank_alarm_press rank_alarm_press_l1 pressA
 dsimp only
 generalize (a3 == 2) = b1
 generalize (a3 == 1) = b2
 generalize (a3 == 4) = b3
 generalize (a3 == 3) = b4
 cases b1 <;> cases b2 <;> cases b3 <;> cases b4 <;> rfl
theorem rank_eq (x y : AlmT) : rank_Compare 20 x y = some (lexL (keyA x) (keyA y), ()) := by
 unfold rank_Compare rank_alarm_to
 have e : ∀ a : AlmT, (a.1, a.2.1, a.2.2.1, a.2.2.2.1, a.2.2.2.2.1, a.2.2.2.2.2.1, ()) = a := fun a => rfl
 simp only [press_eq, cmp_eq, Option.bind_some]
 rw [rank_first_eq _ (by simp), <- firstZ_lex]
 rfl
theorem joined1_eq (x y : WinT) : mute_joined_1 20 x y = some (lexL (keyW x) (keyW y), ()) := by
 unfold mute_joined_1
 simp only [cmp_eq, Option.bind_some]
 rw [or_eq _ (by simp), <- firstZ_lex]
 rfl
end Go.Proofs.YtfhphiedbdinmaaGreatDoor.A
