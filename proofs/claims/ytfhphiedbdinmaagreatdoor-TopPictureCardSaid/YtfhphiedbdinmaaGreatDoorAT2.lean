import Derived.Test.YtfhphiedbdinmaaGreatDoorAT1
set_option linter.all false
namespace Go.Proofs.YtfhphiedbdinmaaGreatDoor.A
open Go Ab
section
abbrev FT := Int × (ByteArray × (ByteArray × Unit))
abbrev F (m : Int) (s t : ByteArray) : FT := (m, s, t, ())
def okF (m : Int) (s t : ByteArray) : Bool := decide (1 <= m /\ m <= 4000 /\ ((s.size + t.size : Nat) : Int) <= m)
theorem okF_bd {m : Int} {s t : ByteArray} (h : okF m s t = true) : 1 <= m /\ m <= 4000 /\ ((s.size + t.size : Nat) : Int) <= m := of_decide_eq_true h
theorem ext_all (a : ByteArray) : a.extract 0 a.size = a := bytes_inj (by rw [bytes_extract, List.drop_zero, List.take_of_length_le (by rw [size_toList]; omega)])
theorem mid (a : Int) (n : Nat) : 0 <= imin (imax a 0) (n : Int) /\ imin (imax a 0) (n : Int) <= n := by
 unfold imin imax
 by_cases h1 : (0 : Int) > a
 . rw [bif_t h1]
   by_cases h2 : (n : Int) < 0
   . omega
   . rw [bif_f h2]; omega
 . rw [bif_f h1]
   by_cases h2 : (n : Int) < a
   . rw [bif_t h2]; omega
   . rw [bif_f h2]; omega
theorem ext_app (a b : ByteArray) (n : Nat) : (a ++ b).extract 0 (a.size + n) = a ++ b.extract 0 n := bytes_inj (by
 rw [bytes_append, bytes_extract, bytes_extract, bytes_append, List.drop_zero, List.drop_zero, List.take_append, List.take_of_length_le (by rw [size_toList]; omega), size_toList, Nat.add_sub_cancel_left])
def leftN (a : Int) (n : Nat) : Nat := (imin (imax a 0) (n : Int)).toNat
theorem leftN_le (a : Int) (n : Nat) : leftN a n <= n := by have := mid a n; unfold leftN; omega
theorem leftN_eq (a : Int) (n : Nat) : imin (imax a 0) (n : Int) = ((leftN a n : Nat) : Int) := by have := mid a n; unfold leftN; omega
section
variable (k : Nat) (m : Int) (s t : ByteArray)
theorem all_ok (hs : s.size <= 1000000) (ht : t.size <= 1000000) : file_bytes_all k (F m s t) = some (s ++ t, ()) := by
 unfold file_bytes_all; exact bif_t (by show s.size + t.size <= _; omega) _ _
theorem read_ok (hs : s.size <= 1000000) (ht : t.size <= 1000000) : file_Read k (F m s t) = some (s ++ t, ()) := by
 unfold file_Read
 show (file_bytes_all k (F m s t)).bind _ = _
 rw [all_ok k m s t hs ht]; rfl
theorem may_ok (hs : s.size <= 1000000) (ht : t.size <= 1000000) : file_bytes_may k (F m s t) = some (okF m s t, ()) := by
 unfold file_bytes_may okF
 show (bif decide (m >= 1) then bif decide (m <= 4000) then (file_bytes_all k (F m s t)).bind _ else _ else _) = _
 rw [all_ok k m s t hs ht]
 by_cases h1 : m >= 1
 . rw [bif_t h1]
   by_cases h2 : m <= 4000
   . rw [bif_t h2]
     show some (decide (((s ++ t).size : Int) <= m), ()) = _
     rw [ByteArray.size_append]
     congr 2
     rw [decide_eq_decide]; constructor <;> intro h <;> omega
   . rw [bif_f h2, decide_eq_false (by omega)]
 . rw [bif_f h1, decide_eq_false (by omega)]
theorem Is_ok (hs : s.size <= 1000000) (ht : t.size <= 1000000) : file_Is k (F m s t) = some (okF m s t, ()) := by
 unfold file_Is
 show (file_bytes_may k (F m s t)).bind _ = _
 rw [may_ok k m s t hs ht]; rfl
theorem right_ok (hs : s.size <= 1000000) (ht : t.size <= 1000000) : file_right k (F m s t) = some (bif okF m s t then (F m s t, 0, ()) else (F 0 EB EB, 1, ())) := by
 unfold file_right
 show (file_bytes_may k (F m s t)).bind _ = _
 rw [may_ok k m s t hs ht]
 cases okF m s t <;> rfl
theorem kept_ok (hs : s.size <= 1000000) (ht : t.size <= 1000000) (n : Nat) (hn : n <= s.size + t.size) : file_bytes_kept k (F m s t) (n : Int) = some (F m ((s ++ t).extract 0 n) EB, ()) := by
 unfold file_bytes_kept
 show (file_bytes_all k (F m s t)).bind _ = _
 rw [all_ok k m s t hs ht]
 show (bif decide ((0 : Int) <= (n : Int)) then (bif decide ((n : Int) <= ((s ++ t).size : Int)) then _ else none) else none) = _
 rw [bif_t (by omega), bif_t (by rw [ByteArray.size_append]; omega)]
 rfl
theorem Sync_ok (hs : s.size <= 1000000) (ht : t.size <= 1000000) : file_Sync k (F m s t) = some (bif okF m s t then (F m (s ++ t) EB, 0, ()) else (F 0 EB EB, 1, ())) := by
 unfold file_Sync
 show (file_right k (F m s t)).bind _ = _
 rw [right_ok k m s t hs ht]
 cases h : okF m s t
 . rfl
 . show (file_bytes_all k (F m s t)).bind _ = _
   rw [all_ok k m s t hs ht]
   show (file_bytes_kept k (F m s t) ((s ++ t).size : Int)).bind _ = _
   rw [kept_ok k m s t hs ht _ (by rw [ByteArray.size_append]; omega), ext_all]
   rfl
def crashF (m : Int) (s t : ByteArray) (a : Int) : FT × Int × Unit := bif okF m s t then (F m (s ++ t.extract 0 (leftN a t.size)) EB, 0, ()) else (F 0 EB EB, 1, ())
theorem Crash_ok (hs : s.size <= 1000000) (ht : t.size <= 1000000) (a : Int) : file_Crash k (F m s t) a = some (crashF m s t a) := by
 unfold file_Crash crashF
 show (file_right k (F m s t)).bind _ = _
 rw [right_ok k m s t hs ht]
 cases h : okF m s t
 . rfl
 . have hc := leftN_eq a t.size
   have hl := leftN_le a t.size
   show (file_bytes_kept k (F m s t) (IntKind.i64.wrap ((s.size : Int) + imin (imax a 0) (t.size : Int)))).bind _ = _
   rw [hc, wrap_id (by omega) (by omega)]
   show (file_bytes_kept k (F m s t) ((s.size + leftN a t.size : Nat) : Int)).bind _ = _
   rw [kept_ok k m s t hs ht _ (by omega), ext_app]
   rfl
end
end
section
section
variable (k : Nat) (m : Int) (s t : ByteArray)
def newF (m : Int) : FT × Int × Unit := bif decide (1 <= m /\ m <= 4000) then (F m EB EB, 0, ()) else (F 0 EB EB, 1, ())
theorem New_ok : file_New k m = some (newF m) := by
 unfold file_New newF
 by_cases h1 : m < 1
 . rw [bif_t h1, bif_f (by omega)]
 . by_cases h2 : m > 4000
   . rw [bif_f h1, bif_t h2, bif_f (by omega)]
   . rw [bif_f h1, bif_f h2, bif_t (by omega)]
end
end
section
def addF (m : Int) (s t c : ByteArray) : FT × Int × Unit := bif okF m s t then (bif okF m s (t ++ c) then (F m s (t ++ c), 0, ()) else (F 0 EB EB, 81, ())) else (F 0 EB EB, 1, ())
def cutF (m : Int) (s t : ByteArray) (a : Int) : FT × Int × Unit := bif okF m s t then (if a < 0 \/ a > ((s.size + t.size : Nat) : Int) then (F 0 EB EB, 1, ()) else (F m ((s ++ t).extract 0 a.toNat) EB, 0, ())) else (F 0 EB EB, 1, ())
section
variable (k : Nat) (m : Int) (s t : ByteArray)
theorem Add_ok (hs : s.size <= 1000000) (ht : t.size <= 1000000) (l : List ByteArray) (h0 : l.length <= 100) (h1 : (cat l).size <= 900000) : file_Add k (F m s t) l = some (addF m s t (cat l)) := by
 unfold file_Add addF
 show (file_right k (F m s t)).bind _ = _
 rw [right_ok k m s t hs ht]
 cases h : okF m s t
 . rfl
 . have hb := okF_bd h
   show (strings_Join k l EB).bind _ = _
   rw [Join_ok k l (by omega) (by omega)]
   have g : t.size + (cat l).size <= 9223372036854775807 := by omega
   refine (bif_t g _ _).trans ?_
   show (file_bytes_may k (F m s (t ++ cat l))).bind _ = _
   rw [may_ok k m s _ hs (by rw [ByteArray.size_append]; omega)]
   cases okF m s (t ++ cat l) <;> rfl
theorem Cut_ok (hs : s.size <= 1000000) (ht : t.size <= 1000000) (a : Int) : file_Cut k (F m s t) a = some (cutF m s t a) := by
 unfold file_Cut cutF
 show (file_right k (F m s t)).bind _ = _
 rw [right_ok k m s t hs ht]
 cases h : okF m s t
 . rfl
 . show (bif decide (a < 0) then _ else (file_bytes_all k (F m s t)).bind _) = some (if a < 0 \/ a > ((s.size + t.size : Nat) : Int) then _ else _)
   rw [all_ok k m s t hs ht]
   by_cases h1 : a < 0
   . rw [bif_t h1, if_pos (.inl h1)]
   . rw [bif_f h1]
     have hz := ByteArray.size_append (a := s) (b := t)
     show (bif decide (a > ((s ++ t).size : Int)) then _ else (file_bytes_kept k (F m s t) a).bind _) = _
     by_cases h2 : a > ((s ++ t).size : Int)
     . rw [bif_t h2, if_pos (by omega)]
     . rw [bif_f h2, if_neg (by omega)]
       obtain ⟨c, rfl⟩ : ∃ c : Nat, a = (c : Int) := ⟨_, (Int.toNat_of_nonneg (by omega)).symm⟩
       rw [kept_ok k m s t hs ht _ (by omega)]
       rfl
end
end
section
def recB (n : Int) (s : List UInt8) : List UInt8 := frB 1 (intB n ++ s)
def recOk (n : Int) (s : List UInt8) : Prop := 0 <= n /\ n <= 1000000000 /\ s.length <= 1000
theorem recOk.int {n : Int} {s : List UInt8} (h : recOk n s) : intOk n = true := by have := h.1; have := h.2.1; rw [intOk_iff]; omega
theorem recOk.short {n : Int} {s : List UInt8} (h : recOk n s) : (intB n ++ s).length <= 3000 := by have := intB_len n; have := h.2.2; rw [List.length_append]; omega
theorem recB_len (n : Int) (s : List UInt8) : (recB n s).length <= s.length + 24 /\ s.length + 4 <= (recB n s).length := by
 have h1 := frB_len 1 (intB n ++ s)
 have h2 := len_frB 1 (intB n ++ s)
 have h3 := intB_len n
 have h4 : 1 <= (intB n).length := by rw [intB_eq, List.length_append]; simp
 rw [List.length_append] at h1 h2
 unfold recB; omega
def RecPutA (n : Int) (s : List UInt8) : ByteArray × Int × Unit := if n < 0 \/ n > 1000000000 then (EB, 1, ()) else if (s.length : Int) > 1000 then (EB, 2, ()) else (mkB (recB n s), 0, ())
theorem RecPut_ok (n : Int) (s : List UInt8) : Ev (fun k => record_Put k n (mkB s)) (RecPutA n s) := by
 have hsz := mkB_size s
 unfold RecPutA
 by_cases h0 : n < 0
 . rw [if_pos (.inl h0)]; exact Ev.dt h0 (Ev.now _)
 by_cases h1 : n > 1000000000
 . rw [if_pos (.inr h1)]; exact Ev.df h0 (Ev.dt h1 (Ev.now _))
 rw [if_neg (by omega)]
 by_cases h2 : (s.length : Int) > 1000
 . rw [if_pos h2]; exact Ev.df h0 (Ev.df h1 (Ev.dt (by omega) (Ev.now _)))
 rw [if_neg h2]
 have hok : recOk n s := ⟨by omega, by omega, by omega⟩
 have hi : Ev (fun k => wire_Int k n) (mkB (intB n), 0, ()) := Ev.all fun k => by rw [Int_ok, IntA_ok hok.int]
 have hl := intB_len n
 have hp : Ev (fun k => frame_Put k 1 (mkB (intB n) ++ mkB s)) (mkB (recB n s), 0, ()) := by
  refine Ev.all fun k => ?_
  rw [mkB_append, Put_ok]; unfold PutA
  rw [if_neg (by decide), if_neg (by have := hok.short; omega)]; rfl
 exact Ev.df h0 (Ev.df h1 (Ev.df (by omega) (Ev.bind hi (Ev.dt (by show (mkB (intB n)).size + (mkB s).size <= _; rw [mkB_size]; omega) (Ev.bind hp (Ev.now _))))))
def recsB : Int -> List (List UInt8) -> List UInt8
 | _, [] => []
 | n, t :: ts => recB n t ++ recsB (n + 1) ts
def recsOk : Int -> List (List UInt8) -> Prop
 | _, [] => True
 | n, t :: ts => recOk n t /\ recsOk (n + 1) ts
def NoRec (l : List UInt8) (n : Int) : Prop := ∀ s q, recOk n s -> l ≠ recB n s ++ q
def ScanIs (l : List UInt8) (n : Int) (ts : List (List UInt8)) (rest : List UInt8) : Prop := recsOk n ts /\ l = recsB n ts ++ rest /\ NoRec rest (n + ts.length)
theorem recsB_app (n : Int) (a b : List (List UInt8)) : recsB n (a ++ b) = recsB n a ++ recsB (n + a.length) b := by
 induction a generalizing n with
 | nil => simp [recsB]
 | cons t a ih =>
   rw [List.cons_append, recsB, recsB, ih, List.append_assoc, List.length_cons]
   rw [show n + 1 + (a.length : Int) = n + ((a.length + 1 : Nat) : Int) by omega]
theorem recsOk_app (n : Int) (a b : List (List UInt8)) : recsOk n (a ++ b) ↔ recsOk n a /\ recsOk (n + a.length) b := by
 induction a generalizing n with
 | nil => simp [recsOk]
 | cons t a ih =>
   rw [List.cons_append, recsOk, recsOk, ih, and_assoc, List.length_cons]
   rw [show n + 1 + (a.length : Int) = n + ((a.length + 1 : Nat) : Int) by omega]
theorem recsOk.bd {n : Int} {ts : List (List UInt8)} (h : recsOk n ts) : (ts ≠ [] -> 0 <= n /\ n + ts.length <= 1000000001) /\ ∀ t ∈ ts, t.length <= 1000 := by
 induction ts generalizing n with
 | nil => exact ⟨fun h => absurd rfl h, fun t h => by simp at h⟩
 | cons t ts ih =>
   obtain ⟨⟨h1, h2, h3⟩, h4⟩ := h
   obtain ⟨h5, h6⟩ := ih h4
   refine ⟨fun _ => ⟨h1, ?_⟩, fun x hx => ?_⟩
   . rw [List.length_cons]
     cases ts with
     | nil => simp; omega
     | cons u ts => have := (h5 (by simp)).2; omega
   . rcases List.mem_cons.1 hx with rfl | hx
     . exact h3
     . exact h6 x hx
theorem recsB_len (n : Int) (ts : List (List UInt8)) (m : Nat) (h : ∀ t ∈ ts, t.length <= m) : (recsB n ts).length <= (m + 24) * ts.length /\ ts.length <= (recsB n ts).length := by
 induction ts generalizing n with
 | nil => simp [recsB]
 | cons t ts ih =>
   have h1 := ih (n + 1) (fun x hx => h x (by simp [hx]))
   have h2 := recB_len n t
   have h3 := h t (by simp)
   rw [recsB, List.length_append, List.length_cons, Nat.mul_succ]
   omega
def Ev2 {β : Type} (f : Nat -> Nat -> Option β) (y : β) : Prop := ∃ k0, ∀ k q, k0 <= k -> k0 <= q -> f k q = some y
theorem Ev2.bind {α β : Type} {f : Nat -> Option α} {g : Nat -> Nat -> α -> Option β} {x : α} {y : β} (hf : Ev f x) (hg : Ev2 (fun k q => g k q x) y) : Ev2 (fun k q => (f k).bind (g k q)) y := by
 obtain ⟨k0, h0⟩ := hf
 obtain ⟨k1, h1⟩ := hg
 refine ⟨max k0 k1, fun k q hk hq => ?_⟩
 show (f k).bind (g k q) = _
 rw [h0 k (by omega)]
 exact h1 k q (by omega) (by omega)
theorem Ev2.now {β : Type} (y : β) : Ev2 (fun _ _ => some y) y := ⟨0, fun _ _ _ _ => rfl⟩
theorem Ev2.f {β : Type} {c : Bool} {a b : Nat -> Nat -> Option β} {y : β} (h : c = false) (hb : Ev2 b y) : Ev2 (fun k q => bif c then a k q else b k q) y := by subst h; exact hb
theorem Ev2.t {β : Type} {c : Bool} {a b : Nat -> Nat -> Option β} {y : β} (h : c = true) (ha : Ev2 a y) : Ev2 (fun k q => bif c then a k q else b k q) y := by subst h; exact ha
theorem Ev2.step {b : ByteArray} {n : Int} {y : List (ByteArray × ByteArray)} (h : Ev2 (fun k q => scanL k (q + 1) b n) y) : Ev2 (fun k q => scanL k q b n) y := by
 obtain ⟨k0, h0⟩ := h
 refine ⟨k0 + 1, fun k q hk hq => ?_⟩
 obtain ⟨p, rfl⟩ : ∃ p, q = p + 1 := ⟨q - 1, by omega⟩
 exact h0 k p (by omega) (by omega)
theorem scan_all (N : Nat) : ∀ (l : List UInt8) (n : Int), l.length <= N -> l.length <= 1000000 -> ∃ ts rest, ScanIs l n ts rest := by
 induction N with
 | zero =>
   intro l n h _
   obtain rfl : l = [] := List.length_eq_zero_iff.1 (by omega)
   exact ⟨[], [], trivial, rfl, fun s q hok e => by have := (recB_len (n + ([] : List (List UInt8)).length) s).2; have h2 := congrArg List.length e; rw [List.length_append] at h2; simp only [List.length_nil] at *; omega⟩
 | succ N ih =>
   intro l n h hb
   by_cases hr : ∃ s q, recOk n s /\ l = recB n s ++ q
   . obtain ⟨s, q, hok, he⟩ := hr
     have h1 := (recB_len n s).2
     have h2 := congrArg List.length he
     rw [List.length_append] at h2
     obtain ⟨ts, rest, k1, k2, k3⟩ := ih q (n + 1) (by omega) (by omega)
     refine ⟨s :: ts, rest, ⟨hok, k1⟩, by rw [he, k2, recsB, List.append_assoc], ?_⟩
     rw [List.length_cons, show n + ((ts.length + 1 : Nat) : Int) = n + 1 + ts.length by omega]
     exact k3
   . refine ⟨[], l, trivial, rfl, fun s q hok e => ?_⟩
     have e0 : n + ((([] : List (List UInt8)).length : Nat) : Int) = n := by simp
     rw [e0] at hok e
     exact hr ⟨s, q, hok, e⟩
def scanA (l : List UInt8) (ts : List (List UInt8)) (rest : List UInt8) : (List ByteArray) × (Int × Unit) := (ts.map mkB, ((l.length - rest.length : Nat) : Int), ())
theorem scan1_on {l rest s : List UInt8} {n : Int} (hl : l.length <= 1000000) (hok : recOk n s) (he : l = recB n s ++ rest) :
 (∀ {xs}, Ev2 (fun k q => scanL k q (mkB rest) (n + 1)) xs -> Ev2 (fun k q => scanL k q (mkB l) n) ((mkB s, mkB rest) :: xs)) := by
 obtain ⟨kd, t, r, e, hf, f1⟩ := Fr1 l hl
 have hf' : FrIs (frB 1 (intB n ++ s) ++ rest) kd t r e := by rw [he] at hf; exact hf
 obtain ⟨rfl, rfl, rfl, rfl⟩ := hf'.back (by decide) (by decide) hok.short
 obtain ⟨m, u, f, hg, g1⟩ := GetInt_ok (intB n ++ s) (by have := hok.short; omega)
 obtain ⟨rfl, rfl, rfl⟩ := hg.back hok.int
 obtain ⟨o1, o2, o3⟩ := hok
 have hsz := mkB_size u
 . intro xs h
   refine Ev2.step (Ev2.bind f1 (Ev2.bind g1 (Ev2.f rfl (Ev2.f rfl (Ev2.f rfl (Ev2.f (nbeq_i rfl) (Ev2.f (decide_eq_false (by omega)) (Ev2.f (decide_eq_false (by omega)) (Ev2.f (decide_eq_false (by show ¬ ((mkB u).size : Int) > 1000; omega)) ?_)))))))))
   obtain ⟨k0, h0⟩ := h
   refine ⟨k0, fun k q hk hq => ?_⟩
   show (scanL k q (mkB r) (m + 1)).bind _ = _
   have h2 : scanL k q (mkB r) (m + 1) = some xs := h0 k q hk hq
   rw [h2]; rfl
theorem scan1_off {l : List UInt8} {n : Int} (hl : l.length <= 1000000) (hno : NoRec l n) :
 Ev2 (fun k q => scanL k q (mkB l) n) [] := by
 obtain ⟨kd, t, r, e, hf, f1⟩ := Fr1 l hl
 have hlt : t.length <= 3000 := by
  rcases hf with ⟨_, _, _, h, _⟩ | ⟨_, _, h, _⟩
  . exact h
  . rw [h]; simp
 obtain ⟨m, s, f, hg, g1⟩ := GetInt_ok t (by omega)
 have hsl := hg.len
 have hsz := mkB_size s
 have no : ¬ (e = 0 /\ f = 0 /\ kd = 1 /\ m = n /\ 0 <= n /\ n <= 1000000000 /\ s.length <= 1000) := by
  rintro ⟨rfl, rfl, rfl, rfl, c1, c2, c3⟩
  rcases hf with ⟨_, _, _, _, hl2⟩ | ⟨h, _⟩
  . rcases hg with ⟨_, _, g⟩ | ⟨g, _⟩ | ⟨g, _⟩
    . exact hno s r ⟨c1, c2, c3⟩ (by rw [hl2, g]; rfl)
    . omega
    . omega
  . exact absurd rfl h
 . refine Ev2.step (Ev2.bind f1 (Ev2.bind g1 ?_))
   by_cases c1 : e = 0
   . refine Ev2.f (nbeq_i c1) ?_
     by_cases c2 : f = 0
     . refine Ev2.f (nbeq_i c2) ?_
       by_cases c3 : kd = 1
       . refine Ev2.f (nbeq_i c3) ?_
         by_cases c4 : m = n
         . refine Ev2.f (nbeq_i c4) ?_
           by_cases c5 : n < 0
           . exact Ev2.t (decide_eq_true c5) (Ev2.now _)
           . refine Ev2.f (decide_eq_false c5) ?_
             by_cases c6 : n > 1000000000
             . exact Ev2.t (decide_eq_true c6) (Ev2.now _)
             . exact Ev2.f (decide_eq_false c6) (Ev2.t (decide_eq_true (by show ((mkB s).size : Int) > 1000; rw [hsz]; have : ¬ s.length <= 1000 := fun h => no ⟨c1, c2, c3, c4, by omega, by omega, h⟩; omega)) (Ev2.now _))
         . exact Ev2.t (nbne_i c4) (Ev2.now _)
       . exact Ev2.t (nbne_i c3) (Ev2.now _)
     . exact Ev2.t (nbne_i c2) (Ev2.now _)
   . exact Ev2.t (nbne_i c1) (Ev2.now _)
theorem scan1_runs (a : ByteArray) (L : List UInt8) (hL : L.length <= 1000000) (ha : a = mkB L) : ∀ (ts : List (List UInt8)) (l : List UInt8) (n : Int) (rest : List UInt8), l.length <= L.length -> ScanIs l n ts rest ->
 (∃ xs, Ev2 (fun k q => scanL k q (mkB l) n) xs /\ xs.map (·.1) = ts.map mkB /\ ∀ t0 : Int, (xs ≠ [] \/ t0 = ((L.length - l.length : Nat) : Int)) -> xs.foldl (fun _ p => IntKind.i64.wrap ((a.size : Int) - (p.2.size : Int))) t0 = ((L.length - rest.length : Nat) : Int)) := by
 intro ts
 induction ts with
 | nil =>
   intro l n rest hl h
   obtain ⟨_, h1, h2⟩ := h
   simp only [recsB, List.nil_append] at h1
   subst h1
   have e0 : n + ((([] : List (List UInt8)).length : Nat) : Int) = n := by simp
   rw [e0] at h2
   have s1 := scan1_off (by omega) h2
   refine ⟨[], s1, rfl, fun t0 ht => ?_⟩
   . rcases ht with ht | ht
     . exact absurd rfl ht
     . exact ht
 | cons t ts ih =>
   intro l n rest hl h
   obtain ⟨⟨hok, h0⟩, h1, h2⟩ := h
   rw [recsB, List.append_assoc] at h1
   have g1 := (recB_len n t).2
   have g2 := congrArg List.length h1
   rw [List.length_append] at g2
   have h2' : NoRec rest (n + 1 + ts.length) := by rw [List.length_cons, show n + ((ts.length + 1 : Nat) : Int) = n + 1 + ts.length by omega] at h2; exact h2
   obtain ⟨xs, a1, a2, a3⟩ := ih (recsB (n + 1) ts ++ rest) (n + 1) rest (by omega) ⟨h0, rfl, h2'⟩
   have s1 := @scan1_on _ _ _ _ (by omega) hok h1
   refine ⟨_, s1 a1, by rw [List.map_cons, a2]; rfl, fun t0 _ => ?_⟩
   . rw [List.foldl_cons]
     refine a3 _ (.inr ?_)
     show IntKind.i64.wrap ((a.size : Int) - ((mkB (recsB (n + 1) ts ++ rest)).size : Int)) = _
     rw [ha, mkB_size, mkB_size, wrap_id (by omega) (by omega)]; omega
theorem Scan1 {l : List UInt8} {n : Int} {ts : List (List UInt8)} {rest : List UInt8} (hl : l.length <= 1000000) (h : ScanIs l n ts rest) : Ev (fun k => record_Scan k (mkB l) n) (scanA l ts rest) := by
 obtain ⟨xs, a1, a2, a3⟩ := scan1_runs (mkB l) l hl rfl ts l n rest (Nat.le_refl _) h
 . obtain ⟨k0, h0⟩ := a1
   have hx : xs.length <= 1000000000 := by
    have h1 := congrArg List.length a2
    rw [List.length_map, List.length_map] at h1
    have h2 := (recsB_len n ts 1000 h.1.bd.2).2
    have h3 := congrArg List.length h.2.1
    rw [List.length_append] at h3
    omega
   refine ⟨k0, fun k hk => ?_⟩
   show (scanL k k (mkB l) n).bind _ = _
   have h2 : scanL k k (mkB l) n = some xs := h0 k k hk hk
   rw [h2]
   show (bif decide (xs.length <= 1000000000) then some (xs.map (·.1), takenOf (mkB l) xs, ()) else none) = _
   rw [bif_t hx, a2]
   unfold takenOf scanA
   rw [a3 0 (.inr (by omega))]
end
section
theorem getD_mid (p : List (List UInt8)) (t : List UInt8) (q : List (List UInt8)) : ((p ++ t :: q).map mkB).getD (Int.toNat (p.length : Int)) Ty.str.zero = mkB t := by
 rw [getD_z _ p.length (by simp)]
 simp
theorem put_good {n : Int} {t : List UInt8} (h0 : 0 <= n) (h1 : n <= 1000000000) (h2 : t.length <= 1000) : RecPutA n t = (mkB (recB n t), 0, ()) := by
 unfold RecPutA; rw [if_neg (by omega), if_neg (by omega)]
theorem put_long {n : Int} {t : List UInt8} (h0 : 0 <= n) (h1 : n <= 1000000000) (h2 : ¬ t.length <= 1000) : RecPutA n t = (EB, 2, ()) := by
 unfold RecPutA; rw [if_neg (by omega), if_pos (by omega)]
section
variable {m : Int} {s t : ByteArray} {n : Int} {ts : List (List UInt8)} {rest : List UInt8}
theorem scan_len {l : List UInt8} (h : ScanIs l n ts rest) : l.length = (recsB n ts).length + rest.length /\ (recsB n ts).length = l.length - rest.length /\ ts.length <= l.length := by
 have h1 := congrArg List.length h.2.1
 rw [List.length_append] at h1
 have := (recsB_len n ts 1000 h.1.bd.2).2
 omega
theorem scan1_of (hs : s.size <= 100000) (ht : t.size <= 100000) (h : ScanIs (s ++ t).data.toList n ts rest) :
 Ev (fun k => record_Scan k (s ++ t) n) (ts.map mkB, (((recsB n ts).length : Nat) : Int), ()) := by
 have hz : (s ++ t).data.toList.length <= 1000000 := by rw [size_toList, ByteArray.size_append]; omega
 have := Scan1 hz h
 unfold scanA at this
 rwa [mkB_of, <- (scan_len h).2.1] at this
end
theorem noRec_nil (n : Int) : NoRec [] n := fun s q _ e => by
 have := (recB_len n s).2
 have h2 := congrArg List.length e
 rw [List.length_append] at h2; simp at h2; omega
theorem scan_whole {n : Int} {ts : List (List UInt8)} (h : recsOk n ts) : ScanIs (recsB n ts) n ts [] := ⟨h, (List.append_nil _).symm, noRec_nil _⟩
end
section
abbrev NT := Int × List UInt8
def noteB (p : NT) : List UInt8 := frB 2 (intB p.1 ++ p.2)
def noteOk (p : NT) : Prop := 1 <= p.1 /\ p.1 <= 1000000000 /\ (intB p.1 ++ p.2).length <= 3000
theorem noteOk.int {p : NT} (h : noteOk p) : intOk p.1 = true := by have := h.1; have := h.2.1; rw [intOk_iff]; omega
theorem note_one {p q : NT} {r s : List UInt8} (hp : noteOk p) (hq : noteOk q) (h : noteB p ++ r = noteB q ++ s) : p = q /\ r = s := by
 have b : FrIs (noteB p ++ r) 2 (intB q.1 ++ q.2) s 0 := .inl ⟨rfl, by decide, by decide, hq.2.2, h⟩
 obtain ⟨_, b2, b3, _⟩ := b.back (by decide) (by decide) hp.2.2
 obtain ⟨d1, d2⟩ := intB_one hq.int hp.int b2
 exact ⟨Prod.ext d1.symm d2.symm, b3.symm⟩
noncomputable def noteO (l : List UInt8) : Option NT := open Classical in if h : ∃ p, noteOk p /\ l = noteB p then some h.choose else none
theorem noteO_some {l : List UInt8} {p : NT} (h : noteO l = some p) : noteOk p /\ l = noteB p := by
 unfold noteO at h
 split at h
 . rename_i hh
   obtain rfl := Option.some.inj h
   exact hh.choose_spec
 . cases h
theorem noteO_of {p : NT} (h : noteOk p) : noteO (noteB p) = some p := by
 unfold noteO
 rw [dif_pos ⟨p, h, rfl⟩]
 have hh : ∃ q, noteOk q /\ noteB p = noteB q := ⟨p, h, rfl⟩
 have := hh.choose_spec
 have e := note_one (r := []) (s := []) h this.1 (by rw [List.append_nil, List.append_nil]; exact this.2)
 rw [<- e.1]
theorem note1 (l : List UInt8) (hl : l.length <= 1000000) :
 ∃ n t, Ev (fun k => slots_read k (mkB l)) ((n, mkB t, ()), (noteO l).isSome, ()) /\ ∀ p, noteO l = some p -> p = (n, t) := by
 obtain ⟨kd, t, r, e, hf, h1⟩ := Fr1 l hl
 have hlt : t.length <= 3000 := by
  rcases hf with ⟨_, _, _, h, _⟩ | ⟨_, _, h, _⟩
  . exact h
  . rw [h]; simp
 obtain ⟨n, u, f, hg, g1⟩ := GetInt_ok t (by omega)
 have good : noteO l = some (n, u) ↔ (e = 0 /\ f = 0 /\ r = [] /\ kd = 2 /\ 1 <= n /\ n <= 1000000000) := by
  constructor
  . intro h
    obtain ⟨⟨a1, a2, a3⟩, a4⟩ := noteO_some h
    have b : FrIs (noteB (n, u) ++ []) kd t r e := by rw [List.append_nil, <- a4]; exact hf
    obtain ⟨b1, b2, b3, b4⟩ := b.back (by decide) (by decide) a3
    rw [b2] at hg
    obtain ⟨_, _, c3⟩ := hg.back (noteOk.int ⟨a1, a2, a3⟩)
    exact ⟨b4, c3, b3, b1, a1, a2⟩
  . rintro ⟨rfl, rfl, rfl, rfl, a1, a2⟩
    rcases hf with ⟨_, _, _, h3, h4⟩ | ⟨h, _⟩
    . rcases hg with ⟨_, g3, g4⟩ | ⟨g3, _⟩ | ⟨g3, _⟩
      . rw [g4] at h3 h4
        rw [h4, List.append_nil]
        exact noteO_of (p := (n, u)) ⟨a1, a2, h3⟩
      . omega
      . omega
    . exact absurd rfl h
 have uni : ∀ p, noteO l = some p -> p = (n, u) := fun p h => by
  obtain ⟨⟨a1, a2, a3⟩, a4⟩ := noteO_some h
  have b : FrIs (noteB p ++ []) kd t r e := by rw [List.append_nil, <- a4]; exact hf
  obtain ⟨_, b2, _, _⟩ := b.back (by decide) (by decide) a3
  rw [b2] at hg
  obtain ⟨c1, c2, _⟩ := hg.back (noteOk.int ⟨a1, a2, a3⟩)
  exact Prod.ext c1.symm c2.symm
 have isS : (noteO l).isSome = decide (e = 0 /\ f = 0 /\ r = [] /\ kd = 2 /\ 1 <= n /\ n <= 1000000000) := by
  cases hn : noteO l with
  | none =>
    refine (decide_eq_false fun h => ?_).symm
    rw [good.2 h] at hn; cases hn
  | some p =>
    have := uni p hn
    subst this
    exact (decide_eq_true (good.1 hn)).symm
 rw [isS]
 obtain ⟨D, hD⟩ : ∃ D, decide (e = 0 /\ f = 0 /\ r = [] /\ kd = 2 /\ 1 <= n /\ n <= 1000000000) = D := ⟨_, rfl⟩
 rw [hD]
 have hF : ¬ (e = 0 /\ f = 0 /\ r = [] /\ kd = 2 /\ 1 <= n /\ n <= 1000000000) -> D = false := fun h => by rw [<- hD]; exact decide_eq_false h
 have hr : ((mkB r).toList == EB.toList) = decide (r = []) := by
  rw [mkB_toList, E_toList]
  cases r <;> simp
 . refine ⟨n, u, Ev.bind h1 (Ev.bind g1 ?_), uni⟩
   by_cases c1 : e = 0
   . refine Ev.t (beq_i c1) ?_
     by_cases c2 : f = 0
     . refine Ev.t (beq_i c2) ?_
       by_cases c3 : r = []
       . refine Ev.t (by show ((mkB r).toList == EB.toList) = true; rw [hr]; exact decide_eq_true c3) ?_
         by_cases c4 : kd = 2
         . refine Ev.t (beq_i c4) ?_
           by_cases c5 : n >= 1
           . refine Ev.dt c5 ?_
             have e2 : D = decide (n <= 1000000000) := by rw [<- hD, decide_eq_decide]; exact ⟨fun h => h.2.2.2.2.2, fun h => ⟨c1, c2, c3, c4, c5, h⟩⟩
             rw [e2]; exact Ev.now _
           . rw [hF (fun h => c5 h.2.2.2.2.1)]; exact Ev.df c5 (Ev.now _)
         . rw [hF (fun h => c4 h.2.2.2.1)]; exact Ev.f (bne_i c4) (Ev.now _)
       . rw [hF (fun h => c3 h.2.2.1)]; exact Ev.f (by show ((mkB r).toList == EB.toList) = false; rw [hr]; exact decide_eq_false c3) (Ev.now _)
     . rw [hF (fun h => c2 h.2.1)]; exact Ev.f (bne_i c2) (Ev.now _)
   . rw [hF (fun h => c1 h.1)]; exact Ev.f (bne_i c1) (Ev.now _)
def betterO : Option NT -> Option NT -> List UInt8 × Int × Int
 | none, none => ([], 0, -1)
 | some p, none => (p.2, p.1, 0)
 | none, some q => (q.2, q.1, 1)
 | some p, some q => if q.1 > p.1 then (q.2, q.1, 1) else (p.2, p.1, 0)
abbrev BV2 (x : List UInt8 × Int × Int) : Int × (ByteArray × (Int × Unit)) := (x.2.1, mkB x.1, x.2.2, ())
theorem better_ok (a b : List UInt8) (ha : a.length <= 1000000) (hb : b.length <= 1000000) : Ev (fun k => slots_better k (mkB a, mkB b, ())) (BV2 (betterO (noteO a) (noteO b)), ()) := by
 obtain ⟨n, t, h1, e1⟩ := note1 a ha
 obtain ⟨m, u, h2, e2⟩ := note1 b hb
 have fin : ∀ (x : Int × (ByteArray × (Int × Unit))), Ev (fun k => slots_better_l1 (mkB a, mkB b, ()) k (2, x, ())) (.exit 0, 2, x, ()) := fun x => Ev.step (Ev.df (by show ¬ (2 : Int) < 2; omega) (Ev.now _))
 have second : ∀ (x : Int × (ByteArray × (Int × Unit))), Ev (fun k => slots_better_l1 (mkB a, mkB b, ()) k (1, x, ())) (.exit 0, 2, (bif (noteO b).isSome && decide (m > x.1) then (m, mkB u, 1, ()) else x), ()) := fun x => by
  refine Ev.step (Ev.dt (by show (1 : Int) < 2; omega) (Ev.f (by rfl) (Ev.t (by rfl) (Ev.bind h2 ?_))))
  cases hn : (noteO b).isSome with
  | false => exact Ev.f rfl (fin x)
  | true =>
    refine Ev.t rfl ?_
    by_cases hg : m > x.1
    . rw [decide_eq_true hg]; exact Ev.t rfl (fin _)
    . rw [decide_eq_false hg]; exact Ev.f rfl (fin x)
 have first : ∀ {R}, Ev (fun k => slots_better_l1 (mkB a, mkB b, ()) k (1, (bif (noteO a).isSome && decide (n > 0) then (n, mkB t, 0, ()) else (0, EB, -1, ())), ())) R -> Ev (fun k => slots_better_l1 (mkB a, mkB b, ()) k (0, (0, EB, -1, ()), ())) R := fun {R} h => by
  refine Ev.step (Ev.dt (by show (0 : Int) < 2; omega) (Ev.t (by rfl) (Ev.bind h1 ?_)))
  cases hn : (noteO a).isSome with
  | false => rw [hn] at h; exact Ev.f rfl h
  | true =>
    rw [hn] at h
    refine Ev.t rfl ?_
    by_cases hg : n > 0
    . rw [decide_eq_true hg] at h; exact Ev.dt hg h
    . rw [decide_eq_false hg] at h; exact Ev.df hg h
 have all := first (second _)
 have eq : (bif (noteO b).isSome && decide (m > (bif (noteO a).isSome && decide (n > 0) then (n, mkB t, 0, ()) else ((0, EB, -1, ()) : Int × (ByteArray × (Int × Unit)))).1) then (m, mkB u, 1, ()) else (bif (noteO a).isSome && decide (n > 0) then (n, mkB t, 0, ()) else ((0, EB, -1, ()) : Int × (ByteArray × (Int × Unit))))) = BV2 (betterO (noteO a) (noteO b)) := by
  cases ha2 : noteO a with
  | none =>
    cases hb2 : noteO b with
    | none => rfl
    | some q =>
      obtain rfl := e2 q hb2
      have hq := (noteO_some hb2).1.1
      have g : decide (m > (0 : Int)) = true := decide_eq_true (by omega)
      show (bif true && decide (m > (0 : Int)) then (m, mkB u, 1, ()) else ((0, EB, -1, ()) : Int × (ByteArray × (Int × Unit)))) = _
      rw [g]; rfl
  | some p =>
    obtain rfl := e1 p ha2
    have hp := (noteO_some ha2).1.1
    have g : decide (n > (0 : Int)) = true := decide_eq_true (by omega)
    rw [g]
    cases hb2 : noteO b with
    | none => rfl
    | some q =>
      obtain rfl := e2 q hb2
      show (bif true && decide (m > n) then (m, mkB u, 1, ()) else (n, mkB t, 0, ())) = BV2 (if m > n then _ else _)
      by_cases hg : m > n
      . rw [decide_eq_true hg, if_pos hg]; rfl
      . rw [decide_eq_false hg, if_neg hg]; rfl
 rw [eq] at all
 exact Ev.bind all (Ev.t rfl (Ev.now _))
abbrev ST := Int × (ByteArray × (ByteArray × (Int × (ByteArray × (ByteArray × Unit)))))
abbrev S6 (m : Int) (a b : ByteArray) (m' : Int) (c d : ByteArray) : ST := (m, a, b, m', c, d, ())
abbrev ZS : ST := S6 0 EB EB 0 EB EB
def okS (m : Int) (a b : ByteArray) (m' : Int) (c d : ByteArray) : Bool := okF m a b && (okF m' c d && m == m')
noncomputable def bestS (a b c d : ByteArray) : List UInt8 × Int × Int := betterO (noteO (a ++ b).data.toList) (noteO (c ++ d).data.toList)
def smallS (a b c d : ByteArray) : Prop := a.size <= 400000 /\ b.size <= 400000 /\ c.size <= 400000 /\ d.size <= 400000
section
variable (m : Int) (a b : ByteArray) (m' : Int) (c d : ByteArray) (h : smallS a b c d)
include h
theorem len2 : (a ++ b).data.toList.length <= 1000000 /\ (c ++ d).data.toList.length <= 1000000 := by
 obtain ⟨h1, h2, h3, h4⟩ := h
 rw [size_toList, size_toList, ByteArray.size_append, ByteArray.size_append]; omega
theorem open_ok : Ev (fun k => slots_open k (S6 m a b m' c d)) (bif okS m a b m' c d then (BV2 (bestS a b c d), 0, ()) else ((0, EB, 0, ()), 1, ())) := by
 have hl := len2 a b c d h
 obtain ⟨h1, h2, h3, h4⟩ := h
 unfold okS
 refine Ev.bind (Ev.all fun k => Is_ok k m a b (by omega) (by omega)) ?_
 cases g1 : okF m a b with
 | false => exact Ev.t rfl (Ev.now _)
 | true =>
   refine Ev.f rfl (Ev.bind (Ev.all fun k => Is_ok k m' c d (by omega) (by omega)) ?_)
   cases g2 : okF m' c d with
   | false => exact Ev.t rfl (Ev.now _)
   | true =>
     refine Ev.f rfl ?_
     by_cases g3 : m = m'
     . rw [beq_i g3]
       have hb := better_ok (a ++ b).data.toList (c ++ d).data.toList hl.1 hl.2
       rw [mkB_of, mkB_of] at hb
       exact Ev.f (nbeq_i g3) (Ev.bind (Ev.all fun k => read_ok k m a b (by omega) (by omega)) (Ev.bind (Ev.all fun k => read_ok k m' c d (by omega) (by omega)) (Ev.bind hb (Ev.now _))))
     . rw [bne_i g3]; exact Ev.t (nbne_i g3) (Ev.now _)
noncomputable def loadS : ByteArray × (Int × (Int × Unit)) := bif okS m a b m' c d then (mkB (bestS a b c d).1, (bestS a b c d).2.1, 0, ()) else (EB, 0, 1, ())
omit h in
theorem loadS_ok (g : okS m a b m' c d = true) : loadS m a b m' c d = (mkB (bestS a b c d).1, (bestS a b c d).2.1, 0, ()) := by unfold loadS; rw [g]; rfl
omit h in
theorem loadS_no (g : okS m a b m' c d = false) : loadS m a b m' c d = (EB, 0, 1, ()) := by unfold loadS; rw [g]; rfl
theorem Load_ok : Ev (fun k => slots_Load k (S6 m a b m' c d)) (loadS m a b m' c d) := by
 have ho := open_ok m a b m' c d h
 unfold loadS
 cases g : okS m a b m' c d with
 | false => rw [g] at ho; exact Ev.bind ho (Ev.now _)
 | true => rw [g] at ho; exact Ev.bind ho (Ev.now _)
end
theorem okS_bd {m : Int} {a b : ByteArray} {m' : Int} {c d : ByteArray} (g : okS m a b m' c d = true) : okF m a b = true /\ okF m' c d = true /\ m = m' := by
 unfold okS at g
 simp only [Bool.and_eq_true] at g
 exact ⟨g.1, g.2.1, by simpa using g.2.2⟩
section
variable (m : Int) (a b : ByteArray) (m' : Int) (c d : ByteArray) (h : smallS a b c d) (t : ByteArray) (deeds : Int)
include h
end
def crashS (m : Int) (a b : ByteArray) (m' : Int) (c d : ByteArray) (n : Int) : ST × (Int × Unit) :=
 bif okS m a b m' c d then (S6 m (a ++ b.extract 0 (leftN n b.size)) EB m' (c ++ d.extract 0 (leftN n d.size)) EB, 0, ()) else (ZS, 1, ())
section
variable (m : Int) (a b : ByteArray) (m' : Int) (c d : ByteArray) (h : smallS a b c d) (n : Int)
include h
theorem NCrash_ok : Ev (fun k => slots_Crash k (S6 m a b m' c d) n) (crashS m a b m' c d n) := by
 have ho := open_ok m a b m' c d h
 obtain ⟨k1, k2, k3, k4⟩ := h
 unfold crashS
 cases g : okS m a b m' c d with
 | false => rw [g] at ho; exact Ev.bind ho (Ev.t rfl (Ev.now _))
 | true =>
   rw [g] at ho
   obtain ⟨g1, g2, rfl⟩ := okS_bd g
   have c1 : Ev (fun k => file_Crash k (F m a b) n) (F m (a ++ b.extract 0 (leftN n b.size)) EB, 0, ()) := Ev.all fun k => by rw [Crash_ok k m a b (by omega) (by omega)]; unfold crashF; rw [g1]; rfl
   have c2 : Ev (fun k => file_Crash k (F m c d) n) (F m (c ++ d.extract 0 (leftN n d.size)) EB, 0, ()) := Ev.all fun k => by rw [Crash_ok k m c d (by omega) (by omega)]; unfold crashF; rw [g2]; rfl
   exact Ev.bind ho (Ev.f rfl (Ev.bind c1 (Ev.bind c2 (Ev.now _))))
end
def newS (m : Int) : ST × (Int × Unit) := bif decide (1 <= m /\ m <= 4000) then (S6 m EB EB m EB EB, 0, ()) else (ZS, 1, ())
theorem NNew_ok (m : Int) : Ev (fun k => slots_New k m) (newS m) := by
 have hn : Ev (fun k => file_New k m) (newF m) := Ev.all fun k => New_ok k m
 unfold newS
 unfold newF at hn
 cases g : decide (1 <= m /\ m <= 4000) <;> rw [g] at hn <;> exact Ev.bind hn (Ev.now _)
end
section
end
section
def PicA (n : Int) (L : List (List UInt8)) : ByteArray × Int × Unit :=
 if n < 0 \/ n > 1000000000 then (EB, 1, ()) else if (RowA 3 (intB n :: L)).2.1 ≠ 0 then (EB, 2, ()) else ((RowA 3 (intB n :: L)).1, 0, ())
theorem n_ok {n : Int} (h : ¬ (n < 0 \/ n > 1000000000)) : intOk n = true := by rw [intOk_iff]; omega
theorem Pic_ok (q : Nat) (n : Int) (L : List (List UInt8)) (hL : L.length <= 1000000) : snap_picture q n (L.map mkB) = some (PicA n L) := by
 have hm : (L.map mkB).length = L.length := List.length_map ..
 unfold snap_picture PicA
 by_cases h0 : n < 0
 . rw [bif_t h0, if_pos (.inl h0)]
 by_cases h1 : n > 1000000000
 . rw [bif_f h0, bif_t h1, if_pos (.inr h1)]
 rw [bif_f h0, bif_f h1, if_neg (by omega), bif_t (by omega), Int_ok, IntA_ok (n_ok (by omega))]
 show (frame_Row q 3 ((intB n :: L).map mkB)).bind _ = _
 rw [Row_ok]
 show (bif (RowA 3 (intB n :: L)).2.1 != 0 then _ else _) = _
 by_cases h2 : (RowA 3 (intB n :: L)).2.1 = 0
 . rw [nbeq_i h2, if_neg (by omega)]; rfl
 . rw [nbne_i h2, if_pos h2]; rfl
def PicIs (l : List UInt8) (n : Int) (L : List (List UInt8)) : Prop := 0 <= n /\ n <= 1000000000 /\ L.length <= 99 /\ shortL L /\ (rowB (intB n :: L)).length <= 3000 /\ l = frB 3 (rowB (intB n :: L))
theorem PicIs.short {l : List UInt8} {n : Int} {L : List (List UInt8)} (h : PicIs l n L) : shortL (intB n :: L) := by
 intro t ht
 rcases List.mem_cons.1 ht with rfl | ht
 . have := intB_len n; omega
 . exact h.2.2.2.1 t ht
theorem PicA_is {n : Int} {L : List (List UInt8)} (h : (PicA n L).2.1 = 0) : ∃ l, (PicA n L).1 = mkB l /\ PicIs l n L := by
 unfold PicA at h ⊢
 by_cases h0 : n < 0 \/ n > 1000000000
 . rw [if_pos h0] at h; exact absurd h (by decide)
 rw [if_neg h0] at h ⊢
 by_cases h1 : (RowA 3 (intB n :: L)).2.1 ≠ 0
 . rw [if_pos h1] at h; exact absurd h (by decide)
 rw [if_neg h1]
 have h1 : (RowA 3 (intB n :: L)).2.1 = 0 := by omega
 unfold RowA at h1 ⊢
 rw [if_neg (by decide)] at h1 ⊢
 by_cases h2 : (intB n :: L).length > 100
 . rw [if_pos h2] at h1; exact absurd h1 (by decide)
 rw [if_neg h2] at h1 ⊢
 by_cases h3 : ∀ t ∈ intB n :: L, t.length <= 3000
 . rw [if_pos h3] at h1 ⊢
   unfold PutA at h1 ⊢
   rw [if_neg (by decide)] at h1 ⊢
   by_cases h4 : ((rowB (intB n :: L)).length : Int) > 3000
   . rw [if_pos h4] at h1; exact absurd h1 (by decide)
   rw [if_neg h4]
   refine ⟨_, rfl, by omega, by omega, ?_, fun t ht => h3 t (by simp [ht]), by omega, rfl⟩
   rw [List.length_cons] at h2; omega
 . rw [if_neg h3] at h1; exact absurd h1 (by decide)
def loadO : Option (Int × List (List UInt8)) -> Int × (List ByteArray) × Bool × Int × Unit
 | some (n, L) => (n, L.map mkB, true, 0, ())
 | none => (0, [], false, 0, ())
def TellIs (l : List UInt8) : Option (Int × List (List UInt8)) -> Prop
 | some (n, L) => PicIs l n L
 | none => ∀ n L, ¬ PicIs l n L
abbrev HT := Int × (ByteArray × (ByteArray × (Int × (ByteArray × (ByteArray × Unit)))))
abbrev H6 (m : Int) (a b : ByteArray) (m' : Int) (c d : ByteArray) : HT := (m, a, b, m', c, d, ())
def okH (m : Int) (a b : ByteArray) (m' : Int) (c d : ByteArray) : Bool := bif okF m a b then (bif okF m' c d then m == m' else false) else false
def loadH (ok : Bool) (o : Option (Int × List (List UInt8))) : Int × (List ByteArray) × Bool × Int × Unit := bif ok then loadO o else (0, [], false, 1, ())
structure smallH (a b c d : ByteArray) : Prop where
 a : a.size <= 100000
 b : b.size <= 100000
 c : c.size <= 100000
 d : d.size <= 100000
section
variable {m : Int} {a b : ByteArray} {m' : Int} {c d : ByteArray}
theorem isH_ok (sm : smallH a b c d) (k : Nat) : snap_is k (H6 m a b m' c d) = some (okH m a b m' c d, ()) := by
 have s1 := sm.a; have s2 := sm.b; have s3 := sm.c; have s4 := sm.d
 unfold snap_is okH
 show (file_Is k (F m a b)).bind _ = _
 rw [Is_ok k m a b (by omega) (by omega)]
 cases okF m a b
 . rfl
 . show (file_Is k (F m' c d)).bind _ = _
   rw [Is_ok k m' c d (by omega) (by omega)]
   cases okF m' c d <;> rfl
theorem tell1 (l : List UInt8) (hl : l.length <= 1000000) : ∃ o, TellIs l o /\
 Ev (fun k => (frame_GetRow k (mkB l)).bind fun r3 => (bif r3.2.2.2.1 != 0 then some ((0, [], false, 0, ()) : Int × (List ByteArray) × Bool × Int × Unit) else bif !(r3.2.2.1.toList == EB.toList) then some (0, [], false, 0, ()) else bif r3.1 != 3 then some (0, [], false, 0, ()) else bif ((List.length r3.2.1 : Nat) : Int) == 0 then some (0, [], false, 0, ()) else bif decide ((0 : Int) < ((List.length r3.2.1 : Nat) : Int)) then ((wire_GetInt k (List.getD r3.2.1 (Int.toNat 0) Ty.str.zero)).bind fun r4 => bif r4.2.2.1 != 0 then some (0, [], false, 0, ()) else bif !(r4.2.1.toList == EB.toList) then some (0, [], false, 0, ()) else bif decide (r4.1 < 0) then some (0, [], false, 0, ()) else bif decide (r4.1 > 1000000000) then some (0, [], false, 0, ()) else bif decide ((1 : Int) <= ((List.length r3.2.1 : Nat) : Int)) then ((slices_Clone_string_string k (List.drop (Int.toNat 1) (List.take (List.length r3.2.1) r3.2.1))).bind fun r5 => some (r4.1, r5.1, true, 0, ())) else none) else none)) (loadO o) := by
 obtain ⟨kd, ts, rest, e, hr, f1⟩ := Row1 l hl
 -- what stands against a picture
 have none_of : ∀ (h : ∀ n L, PicIs l n L -> False), TellIs l none := fun h n L p => h n L p
 have back : ∀ n L, PicIs l n L -> kd = 3 /\ ts = intB n :: L /\ rest = [] /\ e = 0 := fun n L p => by
  have hl2 := p.2.2.2.2.2
  have hr2 := hr
  rw [hl2, <- List.append_nil (frB 3 _)] at hr2
  exact hr2.back (by decide) (by decide) (by rw [List.length_cons]; have := p.2.2.1; omega) p.short p.2.2.2.2.1
 by_cases he : e = 0
 . by_cases hrest : rest = []
   . subst hrest
     by_cases hk : kd = 3
     . cases ts with
       | nil =>
         refine ⟨none, none_of (fun n L p => by have := (back n L p).2.1; simp at this), ?_⟩
         . exact Ev.bind f1 (Ev.f (nbeq_i he) (Ev.f text_eq (Ev.f (nbeq_i hk) (Ev.t rfl (Ev.now _)))))
       | cons x L =>
         obtain ⟨_, _, _, hlen, hsh, hrow, hl2⟩ : e = 0 /\ 0 <= kd /\ kd <= 99 /\ (x :: L).length <= 100 /\ shortL (x :: L) /\ (rowB (x :: L)).length <= 3000 /\ l = frB kd (rowB (x :: L)) ++ [] := by
          rcases hr with h | ⟨h, _⟩
          . exact h
          . exact absurd he h
         have hx := hsh x (by simp)
         obtain ⟨n, more, f, hg, g1⟩ := GetInt_ok x (by omega)
         have hm : (((x :: L).map mkB).length : Int) = (L.length : Int) + 1 := by simp
         have c1 : (((((x :: L).map mkB).length : Nat) : Int) == 0) = false := bne_i (by rw [hm]; omega)
         have c2 : (0 : Int) < ((((x :: L).map mkB).length : Nat) : Int) := by rw [hm]; omega
         have c3 : (1 : Int) <= ((((x :: L).map mkB).length : Nat) : Int) := by rw [hm]; omega
         have hd : List.drop (Int.toNat 1) (List.take ((x :: L).map mkB).length ((x :: L).map mkB)) = L.map mkB := by rw [List.take_length]; rfl
         rw [List.length_cons] at hlen
         have hcl : Ev (fun k => slices_Clone_string_string k (List.drop (Int.toNat 1) (List.take ((x :: L).map mkB).length ((x :: L).map mkB)))) (L.map mkB, ()) := by
          rw [hd]; exact Ev.dt (by rw [List.length_map]; omega) (Ev.now _)
         have no : ¬ (f = 0 /\ more = [] /\ 0 <= n /\ n <= 1000000000) -> TellIs l none := fun hno => none_of (fun n' L' p => by
          obtain ⟨_, b2, _, _⟩ := back n' L' p
          have hx' : x = intB n' := by simpa using congrArg List.head? b2
          rw [hx', <- List.append_nil (intB n')] at hg
          obtain ⟨d1, d2, d3⟩ := hg.back (n_ok (by have := p.1; have := p.2.1; omega))
          exact hno ⟨d3, d2, by rw [d1]; exact p.1, by rw [d1]; exact p.2.1⟩)
         by_cases h1 : f = 0
         . by_cases h2 : more = []
           . subst h2
             by_cases h3 : n < 0
             . refine ⟨none, no (by omega), ?_⟩
               . exact Ev.bind f1 (Ev.f (nbeq_i he) (Ev.f text_eq (Ev.f (nbeq_i hk) (Ev.f c1 (Ev.dt c2 (Ev.bind g1 (Ev.f (nbeq_i h1) (Ev.f text_eq (Ev.dt h3 (Ev.now _))))))))))
             . by_cases h4 : n > 1000000000
               . refine ⟨none, no (by omega), ?_⟩
                 . exact Ev.bind f1 (Ev.f (nbeq_i he) (Ev.f text_eq (Ev.f (nbeq_i hk) (Ev.f c1 (Ev.dt c2 (Ev.bind g1 (Ev.f (nbeq_i h1) (Ev.f text_eq (Ev.df h3 (Ev.dt h4 (Ev.now _)))))))))))
               . have hx' : x = intB n := by
                  rcases hg with ⟨_, _, h⟩ | ⟨h, _⟩ | ⟨h, _⟩
                  . rw [h, List.append_nil]
                  . omega
                  . omega
                 refine ⟨some (n, L), ⟨by omega, by omega, by omega, fun t ht => hsh t (by simp [ht]), by rw [<- hx']; exact hrow, by rw [hl2, List.append_nil, hk, hx']⟩, ?_⟩
                 . exact Ev.bind f1 (Ev.f (nbeq_i he) (Ev.f text_eq (Ev.f (nbeq_i hk) (Ev.f c1 (Ev.dt c2 (Ev.bind g1 (Ev.f (nbeq_i h1) (Ev.f text_eq (Ev.df h3 (Ev.df h4 (Ev.dt c3 (Ev.bind hcl (Ev.now _)))))))))))))
           . refine ⟨none, no (fun q => h2 q.2.1), ?_⟩
             . exact Ev.bind f1 (Ev.f (nbeq_i he) (Ev.f text_eq (Ev.f (nbeq_i hk) (Ev.f c1 (Ev.dt c2 (Ev.bind g1 (Ev.f (nbeq_i h1) (Ev.t (text_ne h2) (Ev.now _)))))))))
         . refine ⟨none, no (fun q => h1 q.1), ?_⟩
           . exact Ev.bind f1 (Ev.f (nbeq_i he) (Ev.f text_eq (Ev.f (nbeq_i hk) (Ev.f c1 (Ev.dt c2 (Ev.bind g1 (Ev.t (nbne_i h1) (Ev.now _))))))))
     . refine ⟨none, none_of (fun n L p => hk (back n L p).1), ?_⟩
       . exact Ev.bind f1 (Ev.f (nbeq_i he) (Ev.f text_eq (Ev.t (nbne_i hk) (Ev.now _))))
   . refine ⟨none, none_of (fun n L p => hrest (back n L p).2.2.1), ?_⟩
     . exact Ev.bind f1 (Ev.f (nbeq_i he) (Ev.t (text_ne hrest) (Ev.now _)))
 . refine ⟨none, none_of (fun n L p => he (back n L p).2.2.2), ?_⟩
   . exact Ev.bind f1 (Ev.t (nbne_i he) (Ev.now _))
theorem Tell.one {l : List UInt8} {o o' : Option (Int × List (List UInt8))} (h : TellIs l o) (h' : TellIs l o') : o = o' := by
 have key : ∀ {n L n' L'}, PicIs l n L -> PicIs l n' L' -> n = n' /\ L = L' := fun {n L n' L'} p p' => by
  have hr : RowIs l 3 (intB n' :: L') [] 0 := .inl ⟨rfl, by decide, by decide, by rw [List.length_cons]; have := p'.2.2.1; omega, p'.short, p'.2.2.2.2.1, by rw [List.append_nil]; exact p'.2.2.2.2.2⟩
  rw [p.2.2.2.2.2, <- List.append_nil (frB 3 (rowB (intB n :: L)))] at hr
  obtain ⟨_, b2, _, _⟩ := hr.back (by decide) (by decide) (by rw [List.length_cons]; have := p.2.2.1; omega) p.short p.2.2.2.2.1
  have e1 : intB n' = intB n := by simpa using congrArg List.head? b2
  have e2 : L' = L := by simpa using congrArg List.tail b2
  obtain ⟨d1, _⟩ := intB_one (n := n) (m := n') (r := []) (q := []) (n_ok (by have := p.1; have := p.2.1; omega)) (n_ok (by have := p'.1; have := p'.2.1; omega)) (by rw [e1])
  exact ⟨d1, e2.symm⟩
 cases o with
 | none => cases o' with
   | none => rfl
   | some q => exact absurd h' (h q.1 q.2)
 | some p => cases o' with
   | none => exact absurd h (h' p.1 p.2)
   | some q => obtain ⟨e1, e2⟩ := key (n := p.1) (L := p.2) (n' := q.1) (L' := q.2) h h'; exact congrArg some (Prod.ext e1 e2)
theorem Load1 (sm : smallH a b c d) {o : Option (Int × List (List UInt8))} (ho : TellIs (a ++ b).data.toList o) :
 Ev (fun k => snap_Load k (H6 m a b m' c d)) (loadH (okH m a b m' c d) o) := by
 have s1 := sm.a; have s2 := sm.b
 have i1 : Ev (fun k => snap_is k (H6 m a b m' c d)) (okH m a b m' c d, ()) := Ev.all fun k => isH_ok sm k
 cases g : okH m a b m' c d with
 | false =>
   rw [g] at i1
   exact Ev.bind i1 (Ev.t rfl (Ev.now _))
 | true =>
   rw [g] at i1
   obtain ⟨o', h0, h1⟩ := tell1 (a ++ b).data.toList (by rw [size_toList, ByteArray.size_append]; omega)
   obtain rfl := Tell.one ho h0
   rw [mkB_of] at h1
   have r1 : Ev (fun k => file_Read k (F m a b)) (a ++ b, ()) := Ev.all fun k => read_ok k m a b (by omega) (by omega)
   exact Ev.bind i1 (Ev.f rfl (Ev.bind r1 h1))
end
end
section
section
variable (k : Nat) (m : Int) (s t : ByteArray)
end
theorem Add1_ok {m : Int} {p : ByteArray} (h1 : 1 <= m) (h2 : m <= 4000) (hp : (p.size : Int) <= m) (k : Nat) : file_Add k (F m EB EB) [p] = some (F m EB p, 0, ()) := by
 have hE : EB.size = 0 := EB_size
 have hc : cat [p] = p := by rw [cat_cons, cat_nil, app_E]
 rw [Add_ok k m EB EB (by omega) (by omega) [p] (by simp) (by rw [hc]; omega), hc]
 unfold addF
 rw [show okF m EB EB = true from decide_eq_true ⟨h1, h2, by omega⟩, E_app, show okF m EB p = true from decide_eq_true ⟨h1, h2, by omega⟩]
 rfl
abbrev HZ : HT := (0, EB, EB, 0, EB, EB, ())
def nrm (D : Int) : Int := if D < 0 \/ D > 3 then 3 else D
def saveJ (m : Int) (a b : ByteArray) (m' : Int) (c d p : ByteArray) (J : Int) : HT := if J = 0 then H6 m a b m' c d else if J = 1 then H6 m a b m EB p else if J = 2 then H6 m a b m p EB else H6 m p EB m EB EB
def saveA (m : Int) (a b : ByteArray) (m' : Int) (c d : ByteArray) (n : Int) (L : List (List UInt8)) (D : Int) : HT × Bool × Int × Unit :=
 bif okH m a b m' c d then (if (PicA n L).2.1 ≠ 0 then (HZ, false, (PicA n L).2.1, ()) else if ((PicA n L).1.size : Int) > m then (HZ, false, 81, ()) else (saveJ m a b m' c d (PicA n L).1 (nrm D), nrm D == 3, 0, ())) else (HZ, false, 1, ())
section
variable {m : Int} {a b : ByteArray} {m' : Int} {c d p : ByteArray} {N : Int} {R : AExit × (Bool × (Int × (Int × (HT × (HT × Unit)))))}
theorem sv0 (h1 : 1 <= m) (h2 : m <= 4000) (hp : (p.size : Int) <= m) (h : 0 < N) (hR : Ev (fun k => snap_Save_l1 (H6 m a b m' c d) N (p, 0, ()) k (false, 0, 1, HZ, H6 m a b m EB p, ())) R) (hm : m' = m) :
 Ev (fun k => snap_Save_l1 (H6 m a b m' c d) N (p, 0, ()) k (false, 0, 0, HZ, H6 m a b m' c d, ())) R := by
 subst hm
 have w : IntKind.i64.wrap ((0 : Int) + 1) = 1 := wrap_id (by omega) (by omega)
 have hR' : Ev (fun k => snap_Save_l1 (H6 m' a b m' c d) N (p, 0, ()) k (false, 0, IntKind.i64.wrap ((0 : Int) + 1), HZ, H6 m' a b m' EB p, ())) R := by rw [w]; exact hR
 have c0 : (0 : Int) < (N.toNat : Int) := by omega
 exact Ev.step (Ev.dt c0 (Ev.dt (Int.le_refl 0) (Ev.dt c0 (Ev.t (beq_i rfl) (Ev.bind (Ev.all fun k => Add1_ok h1 h2 hp k) (Ev.f rfl hR'))))))
theorem sv1 (h1 : 1 <= m) (h2 : m <= 4000) (hp : (p.size : Int) <= m) (h : 1 < N) (hR : Ev (fun k => snap_Save_l1 (H6 m a b m' c d) N (p, 0, ()) k (false, 0, 2, HZ, H6 m a b m p EB, ())) R) :
 Ev (fun k => snap_Save_l1 (H6 m a b m' c d) N (p, 0, ()) k (false, 0, 1, HZ, H6 m a b m EB p, ())) R := by
 have w : IntKind.i64.wrap ((1 : Int) + 1) = 2 := wrap_id (by omega) (by omega)
 have hR' : Ev (fun k => snap_Save_l1 (H6 m a b m' c d) N (p, 0, ()) k (false, 0, IntKind.i64.wrap ((1 : Int) + 1), HZ, H6 m a b m p EB, ())) R := by rw [w]; exact hR
 have c0 : (1 : Int) < (N.toNat : Int) := by omega
 have hE : EB.size = 0 := EB_size
 have hs : Ev (fun k => snap_Save_2 k (H6 m a b m EB p)) (H6 m a b m p EB, 0, ()) := by
  have : Ev (fun k => file_Sync k (F m EB p)) (F m p EB, 0, ()) := Ev.all fun k => by
   rw [Sync_ok k m EB p (by omega) (by omega), show okF m EB p = true from decide_eq_true ⟨h1, h2, by omega⟩, E_app]; rfl
  exact Ev.bind this (Ev.now _)
 exact Ev.step (Ev.dt c0 (Ev.dt (by show (0 : Int) <= 1; omega) (Ev.dt c0 (Ev.f (bne_i (by show ¬ (1 : Int) = 0; omega)) (Ev.t (beq_i rfl) (Ev.bind hs (Ev.f rfl hR')))))))
theorem sv2 (h : 2 < N) (hR : Ev (fun k => snap_Save_l1 (H6 m a b m' c d) N (p, 0, ()) k (false, 0, 3, HZ, H6 m p EB m EB EB, ())) R) :
 Ev (fun k => snap_Save_l1 (H6 m a b m' c d) N (p, 0, ()) k (false, 0, 2, HZ, H6 m a b m p EB, ())) R := by
 have w : IntKind.i64.wrap ((2 : Int) + 1) = 3 := wrap_id (by omega) (by omega)
 have hR' : Ev (fun k => snap_Save_l1 (H6 m a b m' c d) N (p, 0, ()) k (false, 0, IntKind.i64.wrap ((2 : Int) + 1), HZ, H6 m p EB m EB EB, ())) R := by rw [w]; exact hR
 have c0 : (2 : Int) < (N.toNat : Int) := by omega
 exact Ev.step (Ev.dt c0 (Ev.dt (by show (0 : Int) <= 2; omega) (Ev.dt c0 (Ev.f (bne_i (by show ¬ (2 : Int) = 0; omega)) (Ev.f (bne_i (by show ¬ (2 : Int) = 0 + 1; omega)) (Ev.t (beq_i rfl) hR'))))))
theorem svN {x : HT} (h : 0 <= N) : Ev (fun k => snap_Save_l1 (H6 m a b m' c d) N (p, 0, ()) k (false, 0, N, HZ, x, ())) (.exit 0, false, 0, N, HZ, x, ()) :=
 Ev.step (Ev.df (by show ¬ N < (N.toNat : Int); omega) (Ev.now _))
theorem sv_all (h1 : 1 <= m) (h2 : m <= 4000) (hp : (p.size : Int) <= m) (hm : m' = m) (h0 : 0 <= N) (h3 : N <= 3) :
 Ev (fun k => snap_Save_l1 (H6 m a b m' c d) N (p, 0, ()) k (false, 0, 0, HZ, H6 m a b m' c d, ())) (.exit 0, false, 0, N, HZ, saveJ m a b m' c d p N, ()) := by
 obtain hN | hN | hN | hN : N = 0 \/ N = 1 \/ N = 2 \/ N = 3 := by omega
 . subst hN; exact svN (by omega)
 . subst hN; exact sv0 h1 h2 hp (by omega) (svN (by omega)) hm
 . subst hN; exact sv0 h1 h2 hp (by omega) (sv1 h1 h2 hp (by omega) (svN (by omega))) hm
 . subst hN; exact sv0 h1 h2 hp (by omega) (sv1 h1 h2 hp (by omega) (sv2 (by omega) (svN (by omega)))) hm
theorem okH_bd (h : okH m a b m' c d = true) : okF m a b = true /\ okF m' c d = true /\ m' = m := by
 unfold okH at h
 cases g1 : okF m a b with
 | false => rw [g1] at h; cases h
 | true =>
   cases g2 : okF m' c d with
   | false => rw [g1, g2] at h; cases h
   | true =>
     rw [g1, g2] at h
     exact ⟨rfl, rfl, ((by simpa using h : m = m')).symm⟩
theorem PicA_eta (n : Int) (L : List (List UInt8)) (h : (PicA n L).2.1 = 0) : PicA n L = ((PicA n L).1, 0, ()) := by
 exact Prod.ext rfl (Prod.ext h rfl)
theorem Save1 (sm : smallH a b c d) (n : Int) (L : List (List UInt8)) (hL : L.length <= 1000000) (D : Int) :
 Ev (fun k => snap_Save k (H6 m a b m' c d) n (L.map mkB) D) (saveA m a b m' c d n L D) := by
 have i1 : Ev (fun k => snap_is k (H6 m a b m' c d)) (okH m a b m' c d, ()) := Ev.all fun k => isH_ok sm k
 have p1 : Ev (fun k => snap_picture k n (L.map mkB)) (PicA n L) := Ev.all fun k => Pic_ok k n L hL
 unfold saveA
 cases g : okH m a b m' c d with
 | false =>
   rw [g] at i1
   exact Ev.bind i1 (Ev.t rfl (Ev.now _))
 | true =>
   obtain ⟨g1, g2, rfl⟩ := okH_bd g
   have b1 := okF_bd g1
   rw [g] at i1
   rw [cond_true]
   by_cases he : (PicA n L).2.1 = 0
   . rw [if_neg (by omega)]
     have eta := PicA_eta n L he
     obtain ⟨p, hp⟩ : ∃ p, (PicA n L).1 = p := ⟨_, rfl⟩
     rw [hp] at eta ⊢
     rw [eta] at p1
     by_cases hsz : (p.size : Int) > m'
     . rw [if_pos hsz]
       exact Ev.bind i1 (Ev.f rfl (Ev.bind p1 (Ev.f rfl (Ev.dt hsz (Ev.now _)))))
     . rw [if_neg hsz]
       . refine Ev.bind i1 (Ev.f rfl (Ev.bind p1 (Ev.f rfl (Ev.df hsz ?_))))
         by_cases d1 : D < 0
         . have hn : nrm D = 3 := if_pos (.inl d1)
           rw [hn]
           have := sv_all (a := a) (b := b) (c := c) (d := d) (p := p) (N := 3) b1.1 b1.2.1 (by omega) rfl (by omega) (by omega)
           exact Ev.dt d1 (Ev.bind this (Ev.t rfl (Ev.now _)))
         . by_cases d2 : D > 3
           . have hn : nrm D = 3 := if_pos (.inr d2)
             rw [hn]
             have := sv_all (a := a) (b := b) (c := c) (d := d) (p := p) (N := 3) b1.1 b1.2.1 (by omega) rfl (by omega) (by omega)
             exact Ev.df d1 (Ev.dt d2 (Ev.bind this (Ev.t rfl (Ev.now _))))
           . have hn : nrm D = D := if_neg (by omega)
             rw [hn]
             have := sv_all (a := a) (b := b) (c := c) (d := d) (N := D) b1.1 b1.2.1 (show (p.size : Int) <= m' by omega) rfl (by omega) (by omega)
             exact Ev.df d1 (Ev.df d2 (Ev.dt (by show (0 : Int) <= D; omega) (Ev.dt (by show D <= 3; omega) (Ev.bind this (Ev.t rfl (Ev.now _))))))
   . rw [if_pos he]
     exact Ev.bind i1 (Ev.f rfl (Ev.bind p1 (Ev.t (nbne_i he) (Ev.now _))))
def crashH (m : Int) (a b : ByteArray) (m' : Int) (c d : ByteArray) (x : Int) : HT × Int × Unit := bif okH m a b m' c d then (H6 m (a ++ b.extract 0 (leftN x b.size)) EB m' (c ++ d.extract 0 (leftN x d.size)) EB, 0, ()) else (HZ, 1, ())
theorem CrashH1 (sm : smallH a b c d) (x : Int) : Ev (fun k => snap_Crash k (H6 m a b m' c d) x) (crashH m a b m' c d x) := by
 have s1 := sm.a; have s2 := sm.b; have s3 := sm.c; have s4 := sm.d
 have i1 : Ev (fun k => snap_is k (H6 m a b m' c d)) (okH m a b m' c d, ()) := Ev.all fun k => isH_ok sm k
 unfold crashH
 cases g : okH m a b m' c d with
 | false =>
   rw [g] at i1
   exact Ev.bind i1 (Ev.t rfl (Ev.now _))
 | true =>
   obtain ⟨g1, g2, _⟩ := okH_bd g
   rw [g] at i1
   have c1 : Ev (fun k => file_Crash k (F m a b) x) (F m (a ++ b.extract 0 (leftN x b.size)) EB, 0, ()) := Ev.all fun k => by rw [Crash_ok k m a b (by omega) (by omega), crashF, g1]; rfl
   have c2 : Ev (fun k => file_Crash k (F m' c d) x) (F m' (c ++ d.extract 0 (leftN x d.size)) EB, 0, ()) := Ev.all fun k => by rw [Crash_ok k m' c d (by omega) (by omega), crashF, g2]; rfl
   exact Ev.bind i1 (Ev.f rfl (Ev.bind c1 (Ev.bind c2 (Ev.now _))))
end
def newH (m : Int) : HT × Int × Unit := bif decide (1 <= m /\ m <= 4000) then (H6 m EB EB m EB EB, 0, ()) else (HZ, 1, ())
theorem NewH1 (m : Int) : Ev (fun k => snap_New k m) (newH m) := by
 have h1 : Ev (fun k => file_New k m) (newF m) := Ev.all fun k => New_ok k m
 unfold newF at h1
 unfold newH
 cases g : decide (1 <= m /\ m <= 4000) with
 | true => rw [g] at h1; exact Ev.bind h1 (Ev.now _)
 | false => rw [g] at h1; exact Ev.bind h1 (Ev.now _)
theorem tell_ex (l : List UInt8) (hl : l.length <= 1000000) : ∃ o, TellIs l o := let ⟨o, h, _⟩ := tell1 l hl; ⟨o, h⟩
theorem ok_two {m : Int} {x y z w : ByteArray} (h1 : 1 <= m) (h2 : m <= 4000) (h3 : ((x.size + y.size : Nat) : Int) <= m) (h4 : ((z.size + w.size : Nat) : Int) <= m) : okH m x y m z w = true /\ smallH x y z w := by
 refine ⟨?_, ⟨by omega, by omega, by omega, by omega⟩⟩
 unfold okH
 rw [show okF m x y = true from decide_eq_true ⟨h1, h2, h3⟩, show okF m z w = true from decide_eq_true ⟨h1, h2, h4⟩]
 simp
theorem saveJ_ok {m : Int} {a b : ByteArray} {m' : Int} {c d p : ByteArray} (h : okH m a b m' c d = true) (hp : (p.size : Int) <= m) {J : Int} (h0 : 0 <= J) (h3 : J <= 3) :
 ∃ x y z w, saveJ m a b m' c d p J = H6 m x y m z w /\ okH m x y m z w = true /\ smallH x y z w /\ ((x.size + y.size : Nat) : Int) <= m /\ ((z.size + w.size : Nat) : Int) <= m /\ 1 <= m /\ m <= 4000 /\ (J ≠ 3 -> x = a /\ y = b) /\ (J = 3 -> x = p /\ y = EB /\ z = EB /\ w = EB) := by
 obtain ⟨g1, g2, rfl⟩ := okH_bd h
 have b1 := okF_bd g1
 have b2 := okF_bd g2
 have hE : EB.size = 0 := EB_size
 obtain hN | hN | hN | hN : J = 0 \/ J = 1 \/ J = 2 \/ J = 3 := by omega
 . subst hN; have k := ok_two b1.1 b1.2.1 b1.2.2 b2.2.2
   exact ⟨a, b, c, d, rfl, k.1, k.2, b1.2.2, b2.2.2, b1.1, b1.2.1, fun _ => ⟨rfl, rfl⟩, fun h => by omega⟩
 . subst hN; have k := ok_two (z := EB) (w := p) b1.1 b1.2.1 b1.2.2 (by omega)
   exact ⟨a, b, EB, p, rfl, k.1, k.2, b1.2.2, by omega, b1.1, b1.2.1, fun _ => ⟨rfl, rfl⟩, fun h => by omega⟩
 . subst hN; have k := ok_two (z := p) (w := EB) b1.1 b1.2.1 b1.2.2 (by omega)
   exact ⟨a, b, p, EB, rfl, k.1, k.2, b1.2.2, by omega, b1.1, b1.2.1, fun _ => ⟨rfl, rfl⟩, fun h => by omega⟩
 . subst hN; have k := ok_two (m := m') (x := p) (y := EB) (z := EB) (w := EB) b1.1 b1.2.1 (by omega) (by omega)
   exact ⟨p, EB, EB, EB, rfl, k.1, k.2, by omega, by omega, b1.1, b1.2.1, fun h => absurd rfl h, fun _ => ⟨rfl, rfl, rfl, rfl⟩⟩
theorem crash_ok {m : Int} {x y z w : ByteArray} (h : okH m x y m z w = true) (t : Int) : ∃ x' z', crashH m x y m z w t = (H6 m x' EB m z' EB, 0, ()) /\ okH m x' EB m z' EB = true /\ smallH x' EB z' EB /\ x' = x ++ y.extract 0 (leftN t y.size) := by
 obtain ⟨g1, g2, _⟩ := okH_bd h
 have b1 := okF_bd g1
 have b2 := okF_bd g2
 have hE : EB.size = 0 := EB_size
 have e1 := ByteArray.size_append (a := x) (b := y.extract 0 (leftN t y.size))
 have e2 := ByteArray.size_append (a := z) (b := w.extract 0 (leftN t w.size))
 have e3 : (y.extract 0 (leftN t y.size)).size <= y.size := by rw [ByteArray.size_extract]; omega
 have e4 : (w.extract 0 (leftN t w.size)).size <= w.size := by rw [ByteArray.size_extract]; omega
 have k := ok_two (m := m) (x := x ++ y.extract 0 (leftN t y.size)) (y := EB) (z := z ++ w.extract 0 (leftN t w.size)) (w := EB) b1.1 b1.2.1 (by omega) (by omega)
 exact ⟨_, _, by unfold crashH; rw [h]; rfl, k.1, k.2, rfl⟩
theorem small_Z : smallH EB EB EB EB := by have hE : EB.size = 0 := EB_size; exact ⟨by omega, by omega, by omega, by omega⟩
theorem okZ : okH 0 EB EB 0 EB EB = false := by unfold okH okF; simp
end
end Go.Proofs.YtfhphiedbdinmaaGreatDoor.A
