import Derived.Test.YtfhphiedbdinmaaGreatDoorARange
import Derived.Test.YtfhphiedbdinmaaGreatDoorFnKT
set_option linter.all false
namespace Go.Proofs.YtfhphiedbdinmaaGreatDoor.A
section
def valB : List UInt8 -> Int
 | [] => 0
 | d :: ds => (d.toNat : Int) + 250 * valB ds
def smallB (ds : List UInt8) : Prop := ∀ d ∈ ds, d.toNat < 250
def canonB (ds : List UInt8) : Prop := smallB ds /\ ds.getLast? ≠ some 0
theorem valB_nonneg (ds : List UInt8) : 0 <= valB ds := by
 induction ds with
 | nil => exact Int.le_refl _
 | cons d ds ih => unfold valB; omega
theorem valB_lt (ds : List UInt8) (h : smallB ds) : valB ds < 250 ^ ds.length := by
 induction ds with
 | nil => simp [valB]
 | cons d ds ih =>
   have h1 := ih (fun e he => h e (List.mem_cons_of_mem _ he))
   have h2 := h d (by simp)
   unfold valB
   rw [List.length_cons, Int.pow_succ]
   omega
theorem valB_pos (ds : List UInt8) (h : canonB ds) (hne : ds ≠ []) : 0 < valB ds := by
 induction ds with
 | nil => exact absurd rfl hne
 | cons d ds ih =>
   cases ds with
   | nil =>
     have h2 := h.2
     simp only [List.getLast?_singleton, ne_eq, Option.some.injEq] at h2
     have h3 : d.toNat ≠ 0 := fun e => h2 (UInt8.toNat_inj.1 (by simpa using e))
     simp only [valB]
     omega
   | cons e es =>
     have h1 := ih ⟨fun x hx => h.1 x (List.mem_cons_of_mem _ hx), by have := h.2; rwa [List.getLast?_cons_cons] at this⟩ (by simp)
     unfold valB
     omega
theorem u8_nat (d : Nat) (h : d < 256) : (UInt8.ofNat d).toNat = d := UInt8.toNat_ofNat_of_lt' (by simpa [UInt8.size] using h)
def digB (n : Int) : List UInt8 := (digsF 5 n).map (fun d => UInt8.ofNat d.toNat)
theorem digsF_small (f : Nat) : ∀ n : Int, smallB ((digsF f n).map (fun d => UInt8.ofNat d.toNat)) := by
 intro n d hd
 obtain ⟨x, hx, rfl⟩ := List.mem_map.1 hd
 have := (digsF_bd f n).2 x hx
 rw [u8_nat _ (by omega)]
 omega
theorem digsF_val (f : Nat) : ∀ n : Int, 0 <= n -> n < 250 ^ f -> valB ((digsF f n).map (fun d => UInt8.ofNat d.toNat)) = n := by
 induction f with
 | zero => intro n h0 h1; simp at h1; simp [digsF, valB]; omega
 | succ f ih =>
   intro n h0 h1
   rw [Int.pow_succ] at h1
   unfold digsF
   split
   . simp only [List.map_cons, valB]
     rw [ih (n / 250) (by omega) (by omega), u8_nat _ (by omega)]
     omega
   . simp [valB]; omega
theorem digsF_last (f : Nat) : ∀ n : Int, 0 <= n -> n < 250 ^ f -> ((digsF f n).map (fun d => UInt8.ofNat d.toNat)).getLast? ≠ some 0 := by
 induction f with
 | zero => intro n h0 h1; simp [digsF]
 | succ f ih =>
   intro n h0 h1
   rw [Int.pow_succ] at h1
   unfold digsF
   split
   . rename_i hp
     by_cases h : n / 250 = 0
     . have e : digsF f (n / 250) = [] := by rw [h]; cases f <;> simp [digsF]
       rw [e]
       simp only [List.map_cons, List.map_nil, List.getLast?_singleton, ne_eq, Option.some.injEq]
       intro e2
       have h3 : (UInt8.ofNat (n % 250).toNat).toNat = 0 := by rw [e2]; rfl
       rw [u8_nat _ (by omega)] at h3
       omega
     . have h2 := ih (n / 250) (by omega) (by omega)
       cases hc : digsF f (n / 250) with
       | nil =>
         have hv := digsF_val f (n / 250) (by omega) (by omega)
         rw [hc] at hv
         simp [valB] at hv
         omega
       | cons x xs =>
         rw [hc] at h2
         simp only [List.map_cons, List.getLast?_cons_cons] at h2 ⊢
         exact h2
   . simp
theorem digB_canon (n : Int) (h0 : 0 <= n) (h1 : n < 976562500000) : canonB (digB n) := ⟨digsF_small 5 n, digsF_last 5 n h0 (by simpa using h1)⟩
theorem digB_val (n : Int) (h0 : 0 <= n) (h1 : n < 976562500000) : valB (digB n) = n := digsF_val 5 n h0 (by simpa using h1)
theorem canon_inj : ∀ (a b : List UInt8), canonB a -> canonB b -> valB a = valB b -> a = b := by
 intro a
 induction a with
 | nil =>
   intro b _ hb h
   cases b with
   | nil => rfl
   | cons y b =>
     have := valB_pos _ hb (by simp)
     rw [<- h] at this
     simp [valB] at this
 | cons x a ih =>
   intro b ha hb h
   cases b with
   | nil =>
     have := valB_pos _ ha (by simp)
     rw [h] at this
     simp [valB] at this
   | cons y b =>
     have h1 := ha.1 x (by simp)
     have h2 := hb.1 y (by simp)
     simp only [valB] at h
     have ex : x = y := UInt8.toNat_inj.1 (by omega)
     have ev : valB a = valB b := by omega
     have ca : canonB a := ⟨fun z hz => ha.1 z (List.mem_cons_of_mem _ hz), by
      cases a with
      | nil => simp
      | cons z a => have := ha.2; rwa [List.getLast?_cons_cons] at this⟩
     have cb : canonB b := ⟨fun z hz => hb.1 z (List.mem_cons_of_mem _ hz), by
      cases b with
      | nil => simp
      | cons z b => have := hb.2; rwa [List.getLast?_cons_cons] at this⟩
     rw [ex, ih b ca cb ev]
theorem digB_of (ds : List UInt8) (h : canonB ds) (hl : ds.length <= 5) : digB (valB ds) = ds := by
 have hv := valB_lt ds h.1
 have hp : (250 : Int) ^ ds.length <= 250 ^ 5 := by
  rcases (show ds.length = 0 \/ ds.length = 1 \/ ds.length = 2 \/ ds.length = 3 \/ ds.length = 4 \/ ds.length = 5 by omega) with e | e | e | e | e | e <;> rw [e] <;> decide
 have hp2 : valB ds < 976562500000 := Int.lt_of_lt_of_le hv hp
 exact canon_inj _ _ (digB_canon _ (valB_nonneg ds) hp2) h (digB_val _ (valB_nonneg ds) hp2)
def absI (n : Int) : Int := if n < 0 then -n else n
def endB (n : Int) : UInt8 := if n < 0 then 254 else 255
theorem intB_eq (n : Int) : intB n = digB (absI n) ++ [endB n] := rfl
theorem intOk_iff (n : Int) : intOk n = true ↔ -2147483647 <= n /\ n <= 2147483647 := by simp [intOk]
theorem absI_bd {n : Int} (h : intOk n = true) : 0 <= absI n /\ absI n <= 2147483647 := by
 have := (intOk_iff n).1 h
 unfold absI; split <;> omega
theorem endB_ge (n : Int) : 254 <= (endB n).toNat := by unfold endB; split <;> decide
theorem endB_cases (c : UInt8) (h : 254 <= c.toNat) : c = 254 \/ c = 255 := by
 have := c.toNat_lt
 rcases (show c.toNat = 254 \/ c.toNat = 255 by omega) with e | e
 . exact .inl (UInt8.toNat_inj.1 e)
 . exact .inr (UInt8.toNat_inj.1 e)
theorem digB_lt (n : Int) : ∀ d ∈ digB n, d.toNat < 254 := fun d hd => by have := digsF_small 5 n d hd; omega
theorem split_one : ∀ (a b : List UInt8) (c d : UInt8) (r q : List UInt8), (∀ x ∈ a, x.toNat < 254) -> (∀ x ∈ b, x.toNat < 254) -> 254 <= c.toNat -> 254 <= d.toNat -> a ++ c :: r = b ++ d :: q -> a = b /\ c = d /\ r = q := by
 intro a
 induction a with
 | nil =>
   intro b c d r q ha hb hc hd h
   cases b with
   | nil => simp at h; exact ⟨rfl, h.1, h.2⟩
   | cons y b =>
     simp at h
     have := hb y (by simp)
     rw [<- h.1] at this
     omega
 | cons x a ih =>
   intro b c d r q ha hb hc hd h
   cases b with
   | nil =>
     simp at h
     have := ha x (by simp)
     rw [h.1] at this
     omega
   | cons y b =>
     simp at h
     obtain ⟨h1, h2, h3⟩ := ih b c d r q (fun z hz => ha z (List.mem_cons_of_mem _ hz)) (fun z hz => hb z (List.mem_cons_of_mem _ hz)) hc hd h.2
     exact ⟨by rw [h.1, h1], h2, h3⟩
theorem intB_split {n : Int} {rest a : List UInt8} {c : UInt8} {r : List UInt8} (h : intB n ++ rest = a ++ c :: r) (ha : ∀ x ∈ a, x.toNat < 254) (hc : 254 <= c.toNat) : digB (absI n) = a /\ endB n = c /\ rest = r := by
 rw [intB_eq, List.append_assoc] at h
 exact split_one _ _ _ _ _ _ (digB_lt _) ha (endB_ge _) hc h
theorem intB_one {n m : Int} {r q : List UInt8} (hn : intOk n = true) (hm : intOk m = true) (h : intB n ++ r = intB m ++ q) : n = m /\ r = q := by
 have h2 : intB n ++ r = digB (absI m) ++ endB m :: q := by rw [h, intB_eq, List.append_assoc]; rfl
 obtain ⟨h3, h4, h5⟩ := intB_split h2 (digB_lt _) (endB_ge _)
 refine ⟨?_, h5⟩
 have an := absI_bd hn
 have am := absI_bd hm
 have hv : absI n = absI m := by rw [<- digB_val (absI n) an.1 (by omega), h3, digB_val (absI m) am.1 (by omega)]
 unfold endB at h4
 unfold absI at hv
 split at h4 <;> split at h4
 . rw [if_pos (by assumption), if_pos (by assumption)] at hv; omega
 . exact absurd h4 (by decide)
 . exact absurd h4 (by decide)
 . rw [if_neg (by assumption), if_neg (by assumption)] at hv; omega
def GetIs (s : List UInt8) (n : Int) (rest : List UInt8) (e : Int) : Prop :=
 (e = 0 /\ intOk n = true /\ s = intB n ++ rest) \/ (e = 22 /\ n = 0 /\ rest = [] /\ ∀ c ∈ s, c.toNat < 254) \/
 (e = 20 /\ n = 0 /\ rest = [] /\ (∃ c ∈ s, 254 <= c.toNat) /\ ∀ m q, intOk m = true -> s ≠ intB m ++ q)
theorem GetIs.one {s : List UInt8} {n m : Int} {r q : List UInt8} {e f : Int} (h : GetIs s n r e) (k : GetIs s m q f) : n = m /\ r = q /\ e = f := by
 have mem : ∀ {n : Int} {r : List UInt8}, s = intB n ++ r -> ∃ c ∈ s, 254 <= c.toNat := fun {n r} h => ⟨endB n, by rw [h, intB_eq]; simp, endB_ge n⟩
 rcases h with ⟨rfl, h1, h2⟩ | ⟨rfl, rfl, rfl, h1⟩ | ⟨rfl, rfl, rfl, h1, h2⟩ <;> rcases k with ⟨rfl, k1, k2⟩ | ⟨rfl, rfl, rfl, k1⟩ | ⟨rfl, rfl, rfl, k1, k2⟩
 . obtain ⟨h3, h4⟩ := intB_one h1 k1 (h2.symm.trans k2); exact ⟨h3, h4, rfl⟩
 . obtain ⟨c, hc, hc2⟩ := mem h2; have := k1 c hc; omega
 . exact absurd h2 (k2 _ _ h1)
 . obtain ⟨c, hc, hc2⟩ := mem k2; have := h1 c hc; omega
 . exact ⟨rfl, rfl, rfl⟩
 . obtain ⟨c, hc, hc2⟩ := k1; have := h1 c hc; omega
 . exact absurd k2 (h2 _ _ k1)
 . obtain ⟨c, hc, hc2⟩ := h1; have := k1 c hc; omega
 . exact ⟨rfl, rfl, rfl⟩
theorem part_of (s : List UInt8) : (∀ c ∈ s, c.toNat < 254) \/ ∃ a c r, s = a ++ c :: r /\ (∀ x ∈ a, x.toNat < 254) /\ 254 <= c.toNat := by
 induction s with
 | nil => exact .inl (by simp)
 | cons x s ih =>
   by_cases h : x.toNat < 254
   . rcases ih with h1 | ⟨a, c, r, h1, h2, h3⟩
     . refine .inl (fun c hc => ?_)
       rcases List.mem_cons.1 hc with rfl | hc
       . exact h
       . exact h1 c hc
     . refine .inr ⟨x :: a, c, r, by rw [h1]; rfl, fun y hy => ?_, h3⟩
       rcases List.mem_cons.1 hy with rfl | hy
       . exact h
       . exact h2 y hy
   . exact .inr ⟨[], x, s, rfl, by simp, by omega⟩
theorem GetIs.bad {a : List UInt8} {c : UInt8} {r : List UInt8} (ha : ∀ x ∈ a, x.toNat < 254) (hc : 254 <= c.toNat) (h : ∀ m, intOk m = true -> digB (absI m) = a -> endB m = c -> False) : GetIs (a ++ c :: r) 0 [] 20 :=
 .inr (.inr ⟨rfl, rfl, rfl, ⟨c, by simp, hc⟩, fun m q hm e => by
  obtain ⟨h1, h2, _⟩ := intB_split e.symm ha hc
  exact h m hm h1 h2⟩)
theorem GetIs.good {a : List UInt8} {c : UInt8} {r : List UInt8} (hc : 254 <= c.toNat) (hk : canonB a) (hl : a.length <= 5) (hv : valB a <= 2147483647) (h0 : ¬ (c = 254 /\ valB a = 0)) :
 GetIs (a ++ c :: r) (if c = 254 then -valB a else valB a) r 0 := by
 have hnn := valB_nonneg a
 refine .inl ⟨rfl, ?_, ?_⟩
 . rw [intOk_iff]; split <;> omega
 . rw [intB_eq]
   rcases endB_cases c hc with rfl | rfl
   . have hp : 0 < valB a := by
      rcases Int.lt_or_eq_of_le hnn with h | h
      . exact h
      . exact absurd ⟨rfl, h.symm⟩ h0
     rw [if_pos rfl]
     have e1 : absI (-valB a) = valB a := by unfold absI; rw [if_pos (by omega)]; omega
     have e2 : endB (-valB a) = 254 := by unfold endB; rw [if_pos (by omega)]
     rw [e1, e2, digB_of a hk hl]; simp
   . rw [if_neg (by decide)]
     have e1 : absI (valB a) = valB a := by unfold absI; rw [if_neg (by omega)]
     have e2 : endB (valB a) = 255 := by unfold endB; rw [if_neg (by omega)]
     rw [e1, e2, digB_of a hk hl]; simp
end
section
open Go Ab
def IntsA (l : List Int) : ByteArray × Int × Unit := if l.all intOk = true then (mkB (intsB l), 0, ()) else (EB, 1, ())
def IntA (n : Int) : ByteArray × Int × Unit := if intOk n = true then (mkB (intB n), 0, ()) else (EB, 1, ())
theorem Ints_ok (k : Nat) (l : List Int) (h : l.length <= 1000000000000) : wire_Ints k l = some (IntsA l) := by
 unfold wire_Ints IntsA
 rw [bif_t h]
 cases l.all intOk <;> rfl
theorem intsB_one (n : Int) : intsB [n] = intB n := by simp [intsB]
theorem IntsA_one (n : Int) : IntsA [n] = IntA n := by
 unfold IntsA IntA
 rw [intsB_one]
 simp only [List.all_cons, List.all_nil, Bool.and_true]
theorem Int_ok (k : Nat) (n : Int) : wire_Int k n = some (IntA n) := by
 unfold wire_Int
 rw [Ints_ok k [n] (by simp), IntsA_one]
 rfl
theorem IntA_ok {n : Int} (h : intOk n = true) : IntA n = (mkB (intB n), 0, ()) := if_pos h
theorem bt_app (a post : List UInt8) (i : Nat) (h : i < a.length) : byteAt (mkB (a ++ post)) (i : Int) = ((a[i]).toNat : Int) := by
 have h2 : i < (a ++ post).length := by rw [List.length_append]; omega
 rw [byteAt_mk _ i h2, List.getElem_append_left h]
theorem bt_mid (a r : List UInt8) (c : UInt8) : byteAt (mkB (a ++ c :: r)) (a.length : Int) = (c.toNat : Int) := by
 rw [byteAt_mk _ a.length (by simp)]
 simp
theorem bad_digits {a : List UInt8} {c : UInt8} {r : List UInt8} (ha : ∀ x ∈ a, x.toNat < 254) (hc : 254 <= c.toNat) (h : ¬ (canonB a /\ a.length <= 5)) : GetIs (a ++ c :: r) 0 [] 20 :=
 GetIs.bad ha hc (fun m hm e1 e2 => h (by
  have hb := absI_bd hm
  have hk := digB_canon (absI m) hb.1 (by omega)
  rw [e1] at hk
  refine ⟨hk, ?_⟩
  rw [<- e1]
  unfold digB
  rw [List.length_map]
  exact (digsF_bd 5 (absI m)).1))
theorem bad_value {a : List UInt8} {c : UInt8} {r : List UInt8} (ha : ∀ x ∈ a, x.toNat < 254) (hc : 254 <= c.toNat) (h : 2147483647 < valB a \/ (c = 254 /\ valB a = 0)) : GetIs (a ++ c :: r) 0 [] 20 :=
 GetIs.bad ha hc (fun m hm e1 e2 => by
  have hb := absI_bd hm
  have hv := digB_val (absI m) hb.1 (by omega)
  rw [e1] at hv
  rcases h with h | ⟨rfl, h⟩
  . omega
  . unfold endB at e2
    unfold absI at hv
    split at e2
    . rw [if_pos (by assumption)] at hv; omega
    . exact absurd e2 (by decide))
theorem pow5 (n : Nat) (h : n <= 5) : (250 : Int) ^ n <= 976562500000 := by
 rcases (show n = 0 \/ n = 1 \/ n = 2 \/ n = 3 \/ n = 4 \/ n = 5 by omega) with e | e | e | e | e | e <;> rw [e] <;> decide
theorem gi_scan {l a post : List UInt8} (hl : l = a ++ post) (hs : l.length <= 140737488351232) (ha : ∀ x ∈ a, x.toNat < 254) {R : AExit × (Int × (Int × Unit))} (d : Nat) : ∀ i : Nat, i + d = a.length ->
 Ev (fun k => wire_GetInt_l1 (mkB l) k (-1, (a.length : Int), ())) R -> Ev (fun k => wire_GetInt_l1 (mkB l) k (-1, (i : Int), ())) R := by
 have hle : a.length <= l.length := by rw [hl, List.length_append]; omega
 induction d with
 | zero => intro i hi h; rw [show i = a.length by omega]; exact h
 | succ d ih =>
   intro i hi h
   have hlt : i < a.length := by omega
   have hb : byteAt (mkB l) (i : Int) = ((a[i]).toNat : Int) := by rw [hl]; exact bt_app a post i hlt
   have := ha a[i] (List.getElem_mem hlt)
   have hsz := mkB_size l
   refine Ev.step ?_
   refine Ev.dt (by show (i : Int) < _; omega) (Ev.dt (by show (0 : Int) <= i; omega) (Ev.dt (by show (i : Int) < _; omega) (Ev.df (by show ¬ byteAt (mkB l) (i : Int) >= 254; omega) ?_)))
   have h2 := ih (i + 1) (by omega) h
   rw [<- wrap_succ (by omega)] at h2
   exact h2
theorem gi_none {l : List UInt8} (hs : l.length <= 140737488351232) (ha : ∀ x ∈ l, x.toNat < 254) : Ev (fun k => wire_GetInt_l1 (mkB l) k (-1, 0, ())) (.exit 0, -1, (l.length : Int), ()) := by
 refine gi_scan (l := l) (a := l) (post := []) (by simp) hs ha l.length 0 (by omega) (Ev.step (Ev.df ?_ (Ev.now _)))
 show ¬ (l.length : Int) < _
 rw [mkB_size]; omega
theorem gi_found {a r : List UInt8} {c : UInt8} (hs : (a ++ c :: r).length <= 140737488351232) (ha : ∀ x ∈ a, x.toNat < 254) (hc : 254 <= c.toNat) : Ev (fun k => wire_GetInt_l1 (mkB (a ++ c :: r)) k (-1, 0, ())) (.exit 0, (a.length : Int), (a.length : Int), ()) := by
 have hlen : (a ++ c :: r).length = a.length + 1 + r.length := by simp; omega
 have hsz := mkB_size (a ++ c :: r)
 have hbc := bt_mid a r c
 refine gi_scan (l := a ++ c :: r) (a := a) (post := c :: r) rfl hs ha a.length 0 (by omega) (Ev.step ?_)
 exact Ev.dt (by show (a.length : Int) < _; omega) (Ev.dt (by show (0 : Int) <= a.length; omega) (Ev.dt (by show (a.length : Int) < _; omega) (Ev.dt (by show byteAt _ _ >= 254; rw [hbc]; omega) (Ev.now _))))
abbrev gi_r4 (n : Nat) : AExit × (Int × (Int × Unit)) := (.exit 0, (n : Int), (n : Int), ())
theorem gi_digits {a r : List UInt8} {c : UInt8} (hs : (a ++ c :: r).length <= 140737488351232) (ha : ∀ x ∈ a, x.toNat < 254) (hc : 254 <= c.toNat) (hl5 : a.length <= 5) (j : Nat) : j <= a.length -> canonB (a.drop j) ->
 (∃ u v, Ev (fun k => wire_GetInt_l2 (mkB (a ++ c :: r)) (gi_r4 a.length) k (0, EB, 0, valB (a.drop j), (j : Int) - 1, ())) (.ret, 0, EB, 20, u, v, ()) /\ GetIs (a ++ c :: r) 0 [] 20) \/
 (Ev (fun k => wire_GetInt_l2 (mkB (a ++ c :: r)) (gi_r4 a.length) k (0, EB, 0, valB (a.drop j), (j : Int) - 1, ())) (.exit 3, 0, EB, 0, valB a, -1, ()) /\ canonB a) := by
 have hlen : (a ++ c :: r).length = a.length + 1 + r.length := by simp; omega
 have hsz := mkB_size (a ++ c :: r)
 have w2 : IntKind.i64.wrap ((a.length : Int) - 1) = (a.length : Int) - 1 := wrap_id (by omega) (by omega)
 induction j with
 | zero =>
   intro _ hk
   rw [List.drop_zero] at hk ⊢
   exact .inr ⟨Ev.step (Ev.df (by show ¬ ((0 : Nat) : Int) - 1 >= 0; omega) (Ev.now _)), hk⟩
 | succ j ih =>
   intro hj hk
   have hlt : j < a.length := by omega
   have hb : byteAt (mkB (a ++ c :: r)) (j : Int) = ((a[j]).toNat : Int) := bt_app a (c :: r) j hlt
   have hd : a.drop j = a[j] :: a.drop (j + 1) := List.drop_eq_getElem_cons hlt
   have hvl := valB_lt _ hk.1
   have hnn := valB_nonneg (a.drop (j + 1))
   have hv2 : valB (a.drop (j + 1)) < 976562500000 := Int.lt_of_lt_of_le hvl (pow5 _ (by rw [List.length_drop]; omega))
   have hx8 : ((j + 1 : Nat) : Int) - 1 = (j : Int) := by omega
   have hlow := (a[j]).toNat_lt
   rw [hx8]
   have c1 : (j : Int) >= 0 := by omega
   have c2 : (j : Int) < ((mkB (a ++ c :: r)).size : Int) := by omega
   by_cases h1 : 250 <= (a[j]).toNat
   . refine .inl ⟨_, _, Ev.step (Ev.dt c1 (Ev.dt c1 (Ev.dt c2 (Ev.dt (by show byteAt _ _ >= 250; rw [hb]; omega) (Ev.now _))))), bad_digits ha hc (fun h => ?_)⟩
     have := h.1.1 a[j] (List.getElem_mem hlt); omega
   . by_cases h2 : j + 1 = a.length /\ (a[j]).toNat = 0
     . refine .inl ⟨_, _, Ev.step (Ev.dt c1 (Ev.dt c1 (Ev.dt c2 (Ev.df (by show ¬ byteAt _ _ >= 250; rw [hb]; omega) (Ev.t (beq_i (by show (j : Int) = IntKind.i64.wrap ((a.length : Int) - 1); rw [w2]; omega)) (Ev.dt c1 (Ev.dt c2 (Ev.t (beq_i (by show byteAt _ _ = 0; rw [hb]; omega)) (Ev.now _))))))))), bad_digits ha hc (fun h => ?_)⟩
       have h3 := h.1.2
       have e : a.getLast? = some a[j] := by
        rw [List.getLast?_eq_getElem?, List.getElem?_eq_getElem (by omega)]
        congr 2; omega
       rw [e] at h3
       exact h3 (by rw [show a[j] = 0 from UInt8.toNat_inj.1 (by simpa using h2.2)])
     . have hk2 : canonB (a.drop j) := by
        rw [hd]
        refine ⟨fun x hx => ?_, ?_⟩
        . rcases List.mem_cons.1 hx with rfl | hx
          . omega
          . exact hk.1 x hx
        . by_cases e : j + 1 = a.length
          . rw [List.drop_of_length_le (by omega)]
            simp only [List.getLast?_singleton, ne_eq, Option.some.injEq]
            intro e2
            exact h2 ⟨e, by rw [e2]; rfl⟩
          . cases hc2 : a.drop (j + 1) with
            | nil => have : (a.drop (j + 1)).length = 0 := by rw [hc2]; rfl
                     rw [List.length_drop] at this; omega
            | cons y ys =>
              rw [List.getLast?_cons_cons, <- hc2]
              exact hk.2
       have hval : IntKind.i64.wrap (IntKind.i64.wrap (valB (a.drop (j + 1)) * 250) + IntKind.i64.wrap (byteAt (mkB (a ++ c :: r)) (j : Int))) = valB (a.drop j) := by
        rw [hd, hb]
        simp only [valB]
        rw [wrap_id (n := valB (a.drop (j + 1)) * 250) (by omega) (by omega), wrap_id (n := ((a[j]).toNat : Int)) (by omega) (by omega), wrap_id (by omega) (by omega)]
        omega
       have w3 : IntKind.i64.wrap ((j : Int) - 1) = (j : Int) - 1 := wrap_id (by omega) (by omega)
       have go : ∀ {R}, Ev (fun k => wire_GetInt_l2 (mkB (a ++ c :: r)) (gi_r4 a.length) k (0, EB, 0, valB (a.drop j), (j : Int) - 1, ())) R -> Ev (fun k => wire_GetInt_l2 (mkB (a ++ c :: r)) (gi_r4 a.length) k (0, EB, 0, valB (a.drop (j + 1)), (j : Int), ())) R := by
        intro R hR
        rw [<- hval, <- w3] at hR
        refine Ev.step (Ev.dt c1 (Ev.dt c1 (Ev.dt c2 (Ev.df (by show ¬ byteAt _ _ >= 250; rw [hb]; omega) ?_))))
        by_cases h3 : (j : Int) = (a.length : Int) - 1
        . exact Ev.t (beq_i (by show (j : Int) = IntKind.i64.wrap ((a.length : Int) - 1); rw [w2]; exact h3)) (Ev.dt c1 (Ev.dt c2 (Ev.f (bne_i (by show ¬ byteAt _ _ = 0; rw [hb]; intro e; exact h2 ⟨by omega, by omega⟩)) (Ev.dt c1 (Ev.dt c2 hR)))))
        . exact Ev.f (bne_i (by show ¬ (j : Int) = IntKind.i64.wrap ((a.length : Int) - 1); rw [w2]; exact h3)) (Ev.dt c1 (Ev.dt c2 hR))
       rcases ih (by omega) hk2 with ⟨u, v, h4, h5⟩ | ⟨h4, h5⟩
       . exact .inl ⟨u, v, go h4, h5⟩
       . exact .inr ⟨go h4, h5⟩
theorem rest_of (a r : List UInt8) (c : UInt8) (hs : (a ++ c :: r).length <= 140737488351232) : (mkB (a ++ c :: r)).extract (IntKind.i64.wrap ((a.length : Int) + 1)).toNat (mkB (a ++ c :: r)).size = mkB r := by
 have hlen : (a ++ c :: r).length = a.length + 1 + r.length := by simp; omega
 rw [wrap_succ (by omega), mkB_size, Int.toNat_natCast, mkB_extract, List.take_length]
 congr 1
 rw [show a ++ c :: r = (a ++ [c]) ++ r by simp, List.drop_append_of_le_length (by simp)]
 simp
theorem GetInt_ok (l : List UInt8) (hs : l.length <= 140737488351232) : ∃ n rest e, GetIs l n rest e /\ Ev (fun k => wire_GetInt k (mkB l)) (n, mkB rest, e, ()) := by
 rcases part_of l with h | ⟨a, c, r, rfl, ha, hc⟩
 . exact ⟨0, [], 22, .inr (.inl ⟨rfl, rfl, rfl, h⟩), Ev.bind (gi_none hs h) (Ev.t rfl <| Ev.dt (by show (-1 : Int) < 0; omega) (Ev.now _))⟩
 . have hlen : (a ++ c :: r).length = a.length + 1 + r.length := by simp; omega
   have hsz := mkB_size (a ++ c :: r)
   have hbc := bt_mid a r c
   have hrest := rest_of a r c hs
   by_cases h5 : a.length <= 5
   . have d1 : ¬ (a.length : Int) < 0 := by omega
     have d2 : ¬ (a.length : Int) > 5 := by omega
     have c1 : (0 : Int) <= (a.length : Int) := by omega
     have c2 : (a.length : Int) < ((mkB (a ++ c :: r)).size : Int) := by omega
     have w1 := wrap_succ (i := a.length) (by omega)
     have w2 : IntKind.i64.wrap ((a.length : Int) - 1) = (a.length : Int) - 1 := wrap_id (by omega) (by omega)
     have c3 : (0 : Int) <= IntKind.i64.wrap ((a.length : Int) + 1) := by rw [w1]; omega
     have c4 : IntKind.i64.wrap ((a.length : Int) + 1) <= ((mkB (a ++ c :: r)).size : Int) := by rw [w1]; omega
     have hst := gi_digits hs ha hc h5 a.length (Nat.le_refl _) (by rw [List.drop_length]; exact ⟨fun x hx => by simp at hx, by simp⟩)
     rw [List.drop_length, <- w2] at hst
     rcases hst with ⟨u, v, h1, h2⟩ | ⟨h1, h2⟩
     . exact ⟨0, [], 20, h2, Ev.bind (gi_found hs ha hc) (Ev.t rfl <| Ev.df d1 (Ev.df d2 (Ev.bind h1 (Ev.now _))))⟩
     . have hv := valB_lt a h2.1
       have hnn := valB_nonneg a
       have hv2 : valB a < 976562500000 := Int.lt_of_lt_of_le hv (pow5 _ h5)
       by_cases h3 : valB a > 2147483647
       . exact ⟨0, [], 20, bad_value ha hc (.inl h3), Ev.bind (gi_found hs ha hc) (Ev.t rfl <| Ev.df d1 (Ev.df d2 (Ev.bind h1 (Ev.t rfl <| Ev.dt h3 (Ev.now _)))))⟩
       . by_cases h4 : c = 254
         . have e4 : byteAt (mkB (a ++ c :: r)) (a.length : Int) = 254 := by rw [hbc, h4]; rfl
           by_cases h0 : valB a = 0
           . exact ⟨0, [], 20, bad_value ha hc (.inr ⟨h4, h0⟩), Ev.bind (gi_found hs ha hc) (Ev.t rfl <| Ev.df d1 (Ev.df d2 (Ev.bind h1 (Ev.t rfl <| Ev.df h3 (Ev.dt c1 (Ev.dt c2 (Ev.t (beq_i e4) (Ev.t (beq_i h0) (Ev.now _)))))))))⟩
           . refine ⟨_, r, 0, GetIs.good hc h2 h5 (by omega) (fun h => h0 h.2), ?_⟩
             rw [if_pos h4, show -valB a = IntKind.i64.wrap (0 - valB a) by rw [wrap_id (by omega) (by omega)]; omega, <- hrest]
             exact Ev.bind (gi_found hs ha hc) (Ev.t rfl <| Ev.df d1 (Ev.df d2 (Ev.bind h1 (Ev.t rfl <| Ev.df h3 (Ev.dt c1 (Ev.dt c2 (Ev.t (beq_i e4) (Ev.f (bne_i h0) (Ev.dt c1 (Ev.dt c2 (Ev.t (beq_i e4) (Ev.dt c3 (Ev.dt c4 (Ev.now _))))))))))))))
         . have e4 : byteAt (mkB (a ++ c :: r)) (a.length : Int) ≠ 254 := by rw [hbc]; exact fun e => h4 (UInt8.toNat_inj.1 (by simpa using (show c.toNat = 254 by omega)))
           refine ⟨_, r, 0, GetIs.good hc h2 h5 (by omega) (fun h => h4 h.1), ?_⟩
           rw [if_neg h4, <- hrest]
           exact Ev.bind (gi_found hs ha hc) (Ev.t rfl <| Ev.df d1 (Ev.df d2 (Ev.bind h1 (Ev.t rfl <| Ev.df h3 (Ev.dt c1 (Ev.dt c2 (Ev.f (bne_i e4) (Ev.dt c1 (Ev.dt c2 (Ev.f (bne_i e4) (Ev.dt c3 (Ev.dt c4 (Ev.now _)))))))))))))
   . exact ⟨0, [], 20, bad_digits ha hc (fun h => h5 h.2), Ev.bind (gi_found hs ha hc) (Ev.t rfl <| Ev.df (by show ¬ (a.length : Int) < 0; omega) (Ev.dt (by show (a.length : Int) > 5; omega) (Ev.now _)))⟩
end
section
open Go Ab
end
section
open Go Go.RowKit Ab
theorem wrap64_of {n : Int} (h0 : -9223372036854775808 <= n) (h1 : n <= 9223372036854775807) : wrap64 n = n := by unfold wrap64; omega
theorem bits_xor_nat (a b : Nat) (ha : a < 2 ^ 32) (hb : b < 2 ^ 32) : Go.bits .xor .i64 (a : Int) (b : Int) = ((a ^^^ b : Nat) : Int) := by
 have ha' : a % 2 ^ 64 = a := Nat.mod_eq_of_lt (by omega)
 have hb' : b % 2 ^ 64 = b := Nat.mod_eq_of_lt (by omega)
 have hx : a ^^^ b < 2 ^ 32 := Nat.xor_lt_two_pow ha hb
 have e : (BitVec.ofInt IntKind.i64.bits (a : Int) ^^^ BitVec.ofInt IntKind.i64.bits (b : Int)).toNat = a ^^^ b := by
  rw [BitVec.toNat_xor]
  simp only [BitVec.ofInt_natCast, BitVec.toNat_ofNat, IntKind.bits]
  rw [ha', hb']
 show IntKind.i64.wrap _ = _
 rw [e, IntKind.wrap_i64]
 omega
def turn (v : BitVec 16) : BitVec 16 := if v.msb = true then (v <<< 1) ^^^ 0x1021#16 else v <<< 1
def turns : Nat -> BitVec 16 -> BitVec 16
 | 0, v => v
 | n + 1, v => turns n (turn v)
theorem xor_top (r : Nat) (h : r < 65536) : (65536 + r) ^^^ 69665 = r ^^^ 4129 := by
 have e1 : 65536 + r = 65536 ^^^ r := by
  have : (65536 + r) = 2 ^ 16 * 1 + r := by omega
  rw [this, Nat.two_pow_add_eq_or_of_lt (by omega) 1]
  apply Nat.eq_of_testBit_eq
  intro i
  rw [Nat.testBit_or, Nat.testBit_xor]
  by_cases hi : i < 16
  . have : (2 ^ 16 * 1).testBit i = false := by rw [Nat.mul_one, Nat.testBit_two_pow]; simp; omega
    have e : (65536 : Nat) = 2 ^ 16 * 1 := by decide
    rw [e, this]; simp
  . have : r.testBit i = false := Nat.testBit_lt_two_pow (Nat.lt_of_lt_of_le h (Nat.pow_le_pow_right (by decide) (by omega) : 2 ^ 16 <= 2 ^ i))
    rw [this]
    have e : (65536 : Nat) = 2 ^ 16 * 1 := by decide
    rw [e]; simp
 have e2 : (69665 : Nat) = 65536 ^^^ 4129 := by decide
 rw [e1, e2]
 apply Nat.eq_of_testBit_eq
 intro i
 simp only [Nat.testBit_xor]
 cases Nat.testBit 65536 i <;> cases Nat.testBit r i <;> cases Nat.testBit 4129 i <;> rfl
theorem crcTurn_turn (v : BitVec 16) : crcTurn (v.toNat : Int) = ((turn v).toNat : Int) := by
 have hv := v.isLt
 have hw : wrap64 ((v.toNat : Int) * 2) = ((v.toNat * 2 : Nat) : Int) := by rw [wrap64_of (by omega) (by omega)]; omega
 have hsh : (v <<< 1).toNat = v.toNat * 2 % 65536 := by rw [BitVec.toNat_shiftLeft, Nat.shiftLeft_eq]
 unfold crcTurn turn
 rw [hw]
 by_cases h : 32768 <= v.toNat
 . have hm : v.msb = true := by rw [BitVec.msb_eq_decide]; exact decide_eq_true (by simpa using h)
   rw [if_pos (by omega), if_pos hm, BitVec.toNat_xor, hsh]
   have e := xor_top (v.toNat * 2 - 65536) (by omega)
   rw [show 65536 + (v.toNat * 2 - 65536) = v.toNat * 2 by omega] at e
   have e2 : v.toNat * 2 % 65536 = v.toNat * 2 - 65536 := by omega
   rw [show (69665 : Int) = ((69665 : Nat) : Int) from rfl, bits_xor_nat _ _ (by omega) (by omega), e2, e]
   rw [show (4129#16).toNat = 4129 from rfl]
 . have hm : ¬ v.msb = true := by rw [BitVec.msb_eq_decide]; simp; omega
   rw [if_neg (by omega), if_neg hm, hsh]
   omega
theorem crcTurns_turns (n : Nat) (v : BitVec 16) : crcTurns n (v.toNat : Int) = ((turns n v).toNat : Int) := by
 induction n generalizing v with
 | zero => rfl
 | succ n ih => rw [crcTurns, crcTurn_turn, ih]; rfl
def up8 (b : UInt8) : BitVec 16 := BitVec.ofNat 16 (b.toNat * 256)
def byteB (v : BitVec 16) (b : UInt8) : BitVec 16 := turns 8 (v ^^^ up8 b)
def strB (v : BitVec 16) (s : List UInt8) : BitVec 16 := s.foldl byteB v
theorem crcByte_byteB (v : BitVec 16) (b : UInt8) : crcByte (v.toNat : Int) (b.toNat : Int) = ((byteB v b).toNat : Int) := by
 have hb := b.toNat_lt
 have hv := v.isLt
 have h1 : wrap64 (wrap64 (b.toNat : Int) * 256) = ((b.toNat * 256 : Nat) : Int) := by
  rw [wrap64_of (n := (b.toNat : Int)) (by omega) (by omega), wrap64_of (by omega) (by omega)]; omega
 have h2 : (up8 b).toNat = b.toNat * 256 := by
  unfold up8; rw [BitVec.toNat_ofNat]; exact Nat.mod_eq_of_lt (by omega)
 unfold crcByte byteB
 rw [h1, bits_xor_nat _ _ (by omega) (by omega), <- h2, <- BitVec.toNat_xor, crcTurns_turns]
theorem crcStr_strB (v : BitVec 16) (s : List UInt8) : crcStr (v.toNat : Int) s = ((strB v s).toNat : Int) := by
 induction s generalizing v with
 | nil => rfl
 | cons b s ih =>
   show crcStr (crcByte (v.toNat : Int) (b.toNat : Int)) s = _
   rw [crcByte_byteB, ih]; rfl
def sumB (s : List UInt8) : BitVec 16 := strB 65535#16 s
def sumI (s : List UInt8) : Int := ((sumB s).toNat : Int)
theorem sumI_lt (s : List UInt8) : 0 <= sumI s /\ sumI s < 65536 := by
 have := (sumB s).isLt
 unfold sumI; omega
theorem crcRow_row (v : BitVec 16) (l : List ByteArray) : crcRow (v.toNat : Int) l = ((strB v (l.flatMap (·.data.toList))).toNat : Int) := by
 induction l generalizing v with
 | nil => rfl
 | cons a l ih =>
   show crcRow (crcStr (v.toNat : Int) a.data.toList) l = _
   rw [crcStr_strB, ih]
   simp [strB, List.foldl_append]
theorem Over_two (k : Nat) (a b : List UInt8) (ha : a.length <= 1000000) (hb : b.length <= 1000000) : sum_Over k [mkB a, mkB b] = some (sumI (a ++ b), ()) := by
 unfold sum_Over
 have h1 := crcRow_row 65535#16 [mkB a, mkB b]
 rw [show (((65535#16 : BitVec 16).toNat : Nat) : Int) = 65535 from rfl] at h1
 rw [h1]
 have e : (decide ([mkB a, mkB b].length <= 1000000000000) && [mkB a, mkB b].all (fun s => decide (s.size <= 9223372036854775807))) = true := by
  simp [mkB_size]; omega
 rw [e]
 show some (_, ()) = _
 have : [mkB a, mkB b].flatMap (fun x => x.data.toList) = a ++ b := by simp [mkB]
 rw [this]; rfl
theorem Of_ok (k : Nat) (a : List UInt8) (ha : a.length <= 1000000) : sum_Of k (mkB a) = some (sumI a, ()) := by
 unfold sum_Of
 rw [bif_t (by rw [mkB_size]; omega)]
 have h1 := crcStr_strB 65535#16 a
 rw [show (((65535#16 : BitVec 16).toNat : Nat) : Int) = 65535 from rfl] at h1
 show some (crcStr 65535 a, ()) = _
 rw [h1]; rfl
end
section
open Go Go.RowKit Ab
end
section
open Go Ab
def txB (t : List UInt8) : List UInt8 := intB (t.length : Int) ++ t
theorem small_ok (n : Nat) (h : n <= 2000000000) : intOk (n : Int) = true := by rw [intOk_iff]; omega
theorem txB_len (t : List UInt8) : (txB t).length <= t.length + 6 := by
 have := intB_len (t.length : Int)
 unfold txB; rw [List.length_append]; omega
theorem len_txB (t : List UInt8) : t.length <= (txB t).length := by unfold txB; rw [List.length_append]; omega
def TextA (s : List UInt8) : ByteArray × Int × Unit := if (s.length : Int) > 3000 then (EB, 2, ()) else (mkB (txB s), 0, ())
theorem Text_ok (k : Nat) (s : List UInt8) : wire_Text k (mkB s) = some (TextA s) := by
 unfold wire_Text TextA
 rw [mkB_size]
 by_cases h : (s.length : Int) > 3000
 . rw [bif_t h, if_pos h]
 . rw [bif_f h, if_neg h]
   have hn : intOk (s.length : Int) = true := small_ok _ (by omega)
   rw [Int_ok, IntA_ok hn]
   have := intB_len (s.length : Int)
   have e : (mkB (intB (s.length : Int))).size + s.length <= 9223372036854775807 := by rw [mkB_size]; omega
   refine (bif_t e _ _).trans ?_
   show some (mkB (intB (s.length : Int)) ++ mkB s, (0 : Int), ()) = _
   rw [mkB_append]; rfl
theorem GetIs.back {n : Int} {rest : List UInt8} (hn : intOk n = true) {m : Int} {q : List UInt8} {e : Int} (h : GetIs (intB n ++ rest) m q e) : m = n /\ q = rest /\ e = 0 := by
 obtain ⟨h1, h2, h3⟩ := GetIs.one h (.inl ⟨rfl, hn, rfl⟩)
 exact ⟨h1, h2, h3⟩
theorem GetIs.len {l : List UInt8} {m : Int} {q : List UInt8} {e : Int} (h : GetIs l m q e) : q.length <= l.length := by
 rcases h with ⟨_, _, h⟩ | ⟨_, _, h, _⟩ | ⟨_, _, h, _⟩
 . rw [h, List.length_append]; omega
 . rw [h]; simp
 . rw [h]; simp
def TxA (n : Int) (r : List UInt8) (e : Int) : List UInt8 × List UInt8 × Int :=
 if e ≠ 0 then ([], [], e) else if n < 0 \/ n > 3000 then ([], [], 20) else if n > (r.length : Int) then ([], [], 22) else (r.take n.toNat, r.drop n.toNat, 0)
def TxIs (l t rest : List UInt8) (e : Int) : Prop :=
 (e = 0 /\ t.length <= 3000 /\ l = txB t ++ rest) \/ (e ≠ 0 /\ t = [] /\ rest = [] /\ ∀ t' q, t'.length <= 3000 -> l ≠ txB t' ++ q)
theorem TxA_is {l r : List UInt8} {n e : Int} (h : GetIs l n r e) : TxIs l (TxA n r e).1 (TxA n r e).2.1 (TxA n r e).2.2 := by
 have no : ∀ {f : Int}, f ≠ 0 -> (e = 0 -> n < 0 \/ n > 3000 \/ n > (r.length : Int)) -> TxIs l [] [] f := fun hf hb => by
  refine .inr ⟨hf, rfl, rfl, fun t' q ht e2 => ?_⟩
  have h2 : l = intB (t'.length : Int) ++ (t' ++ q) := by rw [e2]; unfold txB; rw [List.append_assoc]
  rw [h2] at h
  obtain ⟨h3, h4, h5⟩ := h.back (small_ok _ (by omega))
  have h6 := hb h5
  rw [h3, h4, List.length_append] at h6
  omega
 unfold TxA
 by_cases h0 : e ≠ 0
 . rw [if_pos h0]; exact no h0 (fun h => absurd h h0)
 . rw [if_neg h0]
   have h0 : e = 0 := by omega
   by_cases h1 : n < 0 \/ n > 3000
   . rw [if_pos h1]; exact no (by decide) (fun _ => by omega)
   . rw [if_neg h1]
     by_cases h2 : n > (r.length : Int)
     . rw [if_pos h2]; exact no (by decide) (fun _ => by omega)
     . rw [if_neg h2]
       have ht : ((r.take n.toNat).length : Int) = n := by rw [List.length_take]; omega
       refine .inl ⟨rfl, by show (r.take n.toNat).length <= 3000; omega, ?_⟩
       rcases h with ⟨_, _, h⟩ | ⟨h, _⟩ | ⟨h, _⟩
       . unfold txB; rw [ht, h, List.append_assoc, List.take_append_drop]
       . omega
       . omega
theorem TxIs.len {l t q : List UInt8} {e : Int} (h : TxIs l t q e) : t.length + q.length <= l.length := by
 rcases h with ⟨_, _, h⟩ | ⟨_, h1, h, _⟩
 . have := len_txB t; rw [h, List.length_append]; omega
 . rw [h, h1]; simp
theorem TxIs.back {t rest : List UInt8} (ht : t.length <= 3000) {u q : List UInt8} {e : Int} (h : TxIs (txB t ++ rest) u q e) : u = t /\ q = rest /\ e = 0 := by
 rcases h with ⟨h0, h1, h2⟩ | ⟨_, _, _, h⟩
 . unfold txB at h2
   rw [List.append_assoc, List.append_assoc] at h2
   obtain ⟨h3, h4⟩ := intB_one (small_ok _ (by omega)) (small_ok _ (by omega)) h2
   obtain ⟨h5, h6⟩ := List.append_inj h4 (by omega)
   exact ⟨h5.symm, h6.symm, h0⟩
 . exact absurd rfl (h t rest ht)
theorem wire_GetText_of {l r : List UInt8} {n e : Int} (h : Ev (fun k => wire_GetInt k (mkB l)) (n, mkB r, e, ())) : Ev (fun k => wire_GetText k (mkB l)) (mkB (TxA n r e).1, mkB (TxA n r e).2.1, (TxA n r e).2.2, ()) := by
 unfold TxA
 refine Ev.bind h ?_
 by_cases h0 : e ≠ 0
 . rw [if_pos h0]; exact Ev.t (nbne_i h0) (Ev.now _)
 . rw [if_neg h0]
   refine Ev.f (nbeq_i (show e = 0 by omega)) ?_
   by_cases h1 : n < 0
   . rw [if_pos (.inl h1)]; exact Ev.dt h1 (Ev.now _)
   . by_cases h2 : n > 3000
     . rw [if_pos (.inr h2)]; exact Ev.df h1 (Ev.dt h2 (Ev.now _))
     . rw [if_neg (by omega)]
       have hsz := mkB_size r
       by_cases h3 : n > (r.length : Int)
       . rw [if_pos h3]; exact Ev.df h1 (Ev.df h2 (Ev.dt (by show n > ((mkB r).size : Int); omega) (Ev.now _)))
       . rw [if_neg h3]
         have c0 : (0 : Int) <= n := by omega
         have c1 : n <= ((mkB r).size : Int) := by omega
         have e1 : mkB (r.take n.toNat) = (mkB r).extract 0 n.toNat := by rw [mkB_extract, List.drop_zero]
         have e2 : mkB (r.drop n.toNat) = (mkB r).extract n.toNat (mkB r).size := by rw [mkB_extract, mkB_size, List.take_length]
         show Ev _ (mkB (r.take n.toNat), mkB (r.drop n.toNat), (0 : Int), ())
         rw [e1, e2]
         exact Ev.df h1 (Ev.df h2 (Ev.df (by show ¬ n > ((mkB r).size : Int); omega) (Ev.dt c0 (Ev.dt c1 (Ev.dt c0 (Ev.dt c1 (Ev.now _)))))))
theorem Tx1 (l : List UInt8) (hs : l.length <= 140737488351232) : ∃ t rest e, TxIs l t rest e /\ Ev (fun k => wire_GetText k (mkB l)) (mkB t, mkB rest, e, ()) :=
 let ⟨_, _, _, h, h1⟩ := GetInt_ok l hs; ⟨_, _, _, TxA_is h, wire_GetText_of h1⟩
end
section
open Go Ab
def hdB (k : Int) (t : List UInt8) : List UInt8 := intB k ++ txB t
def frB (k : Int) (t : List UInt8) : List UInt8 := hdB k t ++ intB (sumI (hdB k t))
theorem sum_intOk (s : List UInt8) : intOk (sumI s) = true := by have := sumI_lt s; rw [intOk_iff]; omega
theorem kind_intOk {k : Int} (h0 : 0 <= k) (h1 : k <= 99) : intOk k = true := by rw [intOk_iff]; omega
theorem hdB_len (k : Int) (t : List UInt8) : (hdB k t).length <= t.length + 12 := by
 have := intB_len k; have := txB_len t
 unfold hdB; rw [List.length_append]; omega
theorem frB_len (k : Int) (t : List UInt8) : (frB k t).length <= t.length + 18 := by
 have := hdB_len k t; have := intB_len (sumI (hdB k t))
 unfold frB; rw [List.length_append]; omega
theorem len_frB (k : Int) (t : List UInt8) : t.length + 3 <= (frB k t).length := by
 have one : ∀ n : Int, 1 <= (intB n).length := fun n => by rw [intB_eq, List.length_append]; simp
 have h1 := one k; have h2 := one (t.length : Int); have h3 := one (sumI (hdB k t))
 unfold frB; rw [List.length_append]; unfold hdB txB at *; rw [List.length_append, List.length_append]; omega
def PutA (k : Int) (s : List UInt8) : ByteArray × Int × Unit :=
 if k < 0 \/ k > 99 then (EB, 1, ()) else if (s.length : Int) > 3000 then (EB, 2, ()) else (mkB (frB k s), 0, ())
theorem Put_ok (q : Nat) (k : Int) (s : List UInt8) : frame_Put q k (mkB s) = some (PutA k s) := by
 unfold frame_Put PutA
 by_cases h0 : k < 0
 . rw [bif_t h0, if_pos (.inl h0)]
 . by_cases h1 : k > 99
   . rw [bif_f h0, bif_t h1, if_pos (.inr h1)]
   . rw [bif_f h0, bif_f h1, if_neg (by omega), Text_ok]
     unfold TextA
     by_cases h2 : (s.length : Int) > 3000
     . rw [if_pos h2, if_pos h2]; rfl
     . rw [if_neg h2, if_neg h2]
       show (wire_Int q k).bind _ = _
       rw [Int_ok, IntA_ok (kind_intOk (by omega) (by omega))]
       show (sum_Over q [mkB (intB k), mkB (txB s)]).bind _ = _
       have l1 := intB_len k
       have l2 := txB_len s
       rw [Over_two q _ _ (by omega) (by omega)]
       show (wire_Int q (sumI (intB k ++ txB s))).bind _ = _
       have l3 := intB_len (sumI (intB k ++ txB s))
       rw [Int_ok, IntA_ok (sum_intOk _)]
       refine (bif_t (p := (mkB (intB k)).size + (mkB (txB s)).size <= 9223372036854775807) (by rw [mkB_size, mkB_size]; omega) _ _).trans ?_
       refine (bif_t (p := (mkB (intB k) ++ mkB (txB s)).size + (mkB (intB (sumI (intB k ++ txB s)))).size <= 9223372036854775807) (by rw [mkB_append, mkB_size, mkB_size, List.length_append]; omega) _ _).trans ?_
       show some (mkB (intB k) ++ mkB (txB s) ++ mkB (intB (sumI (intB k ++ txB s))), (0 : Int), ()) = _
       rw [mkB_append, mkB_append]; rfl
def FrA (l : List UInt8) (k e1 : Int) (t r2 : List UInt8) (e2 n : Int) (r3 : List UInt8) (e3 : Int) : Int × List UInt8 × List UInt8 × Int :=
 if e1 ≠ 0 then (0, [], [], e1) else if e2 ≠ 0 then (0, [], [], e2) else if e3 ≠ 0 then (0, [], [], e3) else
 if k < 0 \/ k > 99 \/ n < 0 \/ n > 65535 then (0, [], [], 20) else if sumI (l.take (l.length - r2.length)) ≠ n then (0, [], [], 21) else (k, t, r3, 0)
abbrev FrV (x : Int × List UInt8 × List UInt8 × Int) : Int × (ByteArray × (ByteArray × (Int × Unit))) := (x.1, mkB x.2.1, mkB x.2.2.1, x.2.2.2, ())
section
variable {l r1 t r2 r3 : List UInt8} {k e1 e2 n e3 : Int}
theorem cut_len {a b : Nat} (h : b <= a) (ha : a <= 1000000) : (IntKind.i64.wrap ((a : Int) - (b : Int))).toNat = a - b := by rw [wrap_id (by omega) (by omega)]; omega
theorem frame_Get_of (hl : l.length <= 1000000) (hr : r2.length <= l.length) (h1 : Ev (fun q => wire_GetInt q (mkB l)) (k, mkB r1, e1, ())) (h2 : Ev (fun q => wire_GetText q (mkB r1)) (mkB t, mkB r2, e2, ())) (h3 : Ev (fun q => wire_GetInt q (mkB r2)) (n, mkB r3, e3, ())) :
 Ev (fun q => frame_Get q (mkB l)) (FrV (FrA l k e1 t r2 e2 n r3 e3)) := by
 have hsz := mkB_size l
 have hsz2 := mkB_size r2
 unfold FrA
 refine Ev.bind h1 ?_
 by_cases c1 : e1 = 0
 . rw [if_neg (by omega)]
   refine Ev.t (beq_i c1) (Ev.t (beq_i c1) (Ev.bind h2 ?_))
   by_cases c2 : e2 = 0
   . rw [if_neg (by omega)]
     refine Ev.t (beq_i c2) (Ev.t (beq_i c2) (Ev.bind h3 ?_))
     by_cases c3 : e3 = 0
     . rw [if_neg (by omega)]
       refine Ev.t (beq_i c3) (Ev.f (nbeq_i c3) ?_)
       by_cases d1 : k < 0
       . rw [if_pos (by omega)]; exact Ev.dt d1 (Ev.now _)
       by_cases d2 : k > 99
       . rw [if_pos (by omega)]; exact Ev.df d1 (Ev.dt d2 (Ev.now _))
       by_cases d3 : n < 0
       . rw [if_pos (by omega)]; exact Ev.df d1 (Ev.df d2 (Ev.dt d3 (Ev.now _)))
       by_cases d4 : n > 65535
       . rw [if_pos (by omega)]; exact Ev.df d1 (Ev.df d2 (Ev.df d3 (Ev.dt d4 (Ev.now _))))
       rw [if_neg (by omega)]
       have w := cut_len (a := l.length) (b := r2.length) hr hl
       have e0 : IntKind.i64.wrap (((mkB l).size : Int) - ((mkB r2).size : Int)) = ((l.length - r2.length : Nat) : Int) := by rw [hsz, hsz2, wrap_id (by omega) (by omega)]; omega
       have ex : (mkB l).extract 0 (IntKind.i64.wrap (((mkB l).size : Int) - ((mkB r2).size : Int))).toNat = mkB (l.take (l.length - r2.length)) := by rw [e0, Int.toNat_natCast, mkB_extract, List.drop_zero]
       refine Ev.df d1 (Ev.df d2 (Ev.df d3 (Ev.df d4 (Ev.dt (by show (0 : Int) <= IntKind.i64.wrap (((mkB l).size : Int) - ((mkB r2).size : Int)); omega) (Ev.dt (by show IntKind.i64.wrap (((mkB l).size : Int) - ((mkB r2).size : Int)) <= ((mkB l).size : Int); omega) ?_)))))
       have hs : Ev (fun q => sum_Of q ((mkB l).extract 0 (IntKind.i64.wrap (((mkB l).size : Int) - ((mkB r2).size : Int))).toNat)) (sumI (l.take (l.length - r2.length)), ()) := by
        rw [ex]
        exact Ev.all (fun q => Of_ok q _ (by rw [List.length_take]; omega))
       refine Ev.bind hs ?_
       by_cases d5 : sumI (l.take (l.length - r2.length)) = n
       . rw [if_neg (by simpa using d5)]; exact Ev.f (nbeq_i d5) (Ev.now _)
       . rw [if_pos d5]; exact Ev.t (nbne_i d5) (Ev.now _)
     . rw [if_pos c3]; exact Ev.f (bne_i c3) (Ev.t (nbne_i c3) (Ev.now _))
   . rw [if_pos c2]; exact Ev.f (bne_i c2) (Ev.f (bne_i c2) (Ev.t (nbne_i c2) (Ev.now _)))
 . rw [if_pos c1]; exact Ev.f (bne_i c1) (Ev.f (bne_i c1) (Ev.f (bne_i c1) (Ev.t (nbne_i c1) (Ev.now _))))
end
def FrIs (l : List UInt8) (k : Int) (t rest : List UInt8) (e : Int) : Prop :=
 (e = 0 /\ 0 <= k /\ k <= 99 /\ t.length <= 3000 /\ l = frB k t ++ rest) \/
 (e ≠ 0 /\ k = 0 /\ t = [] /\ rest = [] /\ ∀ k' t' q, 0 <= k' -> k' <= 99 -> t'.length <= 3000 -> l ≠ frB k' t' ++ q)
theorem frB_app (k : Int) (t q : List UInt8) : frB k t ++ q = intB k ++ (txB t ++ (intB (sumI (hdB k t)) ++ q)) := by unfold frB hdB; simp only [List.append_assoc]
theorem FrA_is {l r1 t r2 r3 : List UInt8} {k e1 e2 n e3 : Int} (h1 : GetIs l k r1 e1) (h2 : TxIs r1 t r2 e2) (h3 : GetIs r2 n r3 e3) : FrIs l (FrA l k e1 t r2 e2 n r3 e3).1 (FrA l k e1 t r2 e2 n r3 e3).2.1 (FrA l k e1 t r2 e2 n r3 e3).2.2.1 (FrA l k e1 t r2 e2 n r3 e3).2.2.2 := by
 have no : ∀ {f : Int}, f ≠ 0 -> (e1 = 0 -> e2 = 0 -> e3 = 0 -> k < 0 \/ k > 99 \/ n < 0 \/ n > 65535 \/ sumI (l.take (l.length - r2.length)) ≠ n) -> FrIs l 0 [] [] f := fun hf hb => by
  refine .inr ⟨hf, rfl, rfl, rfl, fun k' t' q hk0 hk1 ht e => ?_⟩
  have e0 := e
  rw [frB_app] at e
  rw [e] at h1
  obtain ⟨a1, a2, a3⟩ := h1.back (kind_intOk hk0 hk1)
  rw [a2] at h2
  obtain ⟨b1, b2, b3⟩ := h2.back ht
  rw [b2] at h3
  obtain ⟨d1, d2, d3⟩ := h3.back (sum_intOk _)
  have hs := sumI_lt (hdB k' t')
  have ex : l.take (l.length - r2.length) = hdB k' t' := by
   rw [e0, b2]
   unfold frB
   rw [List.append_assoc, List.length_append, List.length_append, Nat.add_sub_cancel, List.take_left]
  have := hb a3 b3 d3
  rw [ex, a1, d1] at this
  omega
 unfold FrA
 by_cases c1 : e1 = 0
 . rw [if_neg (by omega)]
   by_cases c2 : e2 = 0
   . rw [if_neg (by omega)]
     by_cases c3 : e3 = 0
     . rw [if_neg (by omega)]
       by_cases d : k < 0 \/ k > 99 \/ n < 0 \/ n > 65535
       . rw [if_pos d]; exact no (by decide) (fun _ _ _ => by omega)
       . rw [if_neg d]
         by_cases d5 : sumI (l.take (l.length - r2.length)) = n
         . rw [if_neg (by simpa using d5)]
           rcases h1 with ⟨_, _, h1⟩ | ⟨h, _⟩ | ⟨h, _⟩
           . rcases h2 with ⟨_, ht, h2⟩ | ⟨h, _⟩
             . rcases h3 with ⟨_, _, h3⟩ | ⟨h, _⟩ | ⟨h, _⟩
               . have ex : l.take (l.length - r2.length) = hdB k t := by
                  rw [h1, h2, <- List.append_assoc, List.length_append, Nat.add_sub_cancel, List.take_left]; rfl
                 refine .inl ⟨rfl, by show 0 <= k; omega, by show k <= 99; omega, ht, ?_⟩
                 show l = frB k t ++ r3
                 rw [frB_app, <- ex, d5, <- h3, <- h2, <- h1]
               . omega
               . omega
             . omega
           . omega
           . omega
         . rw [if_pos d5]; exact no (by decide) (fun _ _ _ => by omega)
     . rw [if_pos c3]; exact no c3 (fun _ _ h => absurd h c3)
   . rw [if_pos c2]; exact no c2 (fun _ h _ => absurd h c2)
 . rw [if_pos c1]; exact no c1 (fun h _ _ => absurd h c1)
theorem Fr1 (l : List UInt8) (hl : l.length <= 1000000) : ∃ k t rest e, FrIs l k t rest e /\ Ev (fun q => frame_Get q (mkB l)) (k, mkB t, mkB rest, e, ()) := by
 obtain ⟨k, r1, e1, a0, a1⟩ := GetInt_ok l (by omega)
 have n1 := a0.len
 obtain ⟨t, r2, e2, b0, b1⟩ := Tx1 r1 (by omega)
 have n2 := b0.len
 obtain ⟨n, r3, e3, d0, d1⟩ := GetInt_ok r2 (by omega)
 exact ⟨_, _, _, _, FrA_is a0 b0 d0, frame_Get_of hl (by omega) a1 b1 d1⟩
theorem FrIs.back {k : Int} {t q : List UInt8} (h0 : 0 <= k) (h1 : k <= 99) (ht : t.length <= 3000) {k' : Int} {t' q' : List UInt8} {e : Int} (h : FrIs (frB k t ++ q) k' t' q' e) : k' = k /\ t' = t /\ q' = q /\ e = 0 := by
 rcases h with ⟨h2, h3, h4, h5, h6⟩ | ⟨_, _, _, _, h⟩
 . rw [frB_app, frB_app] at h6
   obtain ⟨a1, a2⟩ := intB_one (kind_intOk h0 h1) (kind_intOk h3 h4) h6
   have b : TxIs (txB t ++ (intB (sumI (hdB k t)) ++ q)) t' (intB (sumI (hdB k' t')) ++ q') 0 := .inl ⟨rfl, h5, a2⟩
   obtain ⟨b1, b2, b3⟩ := b.back ht
   obtain ⟨d1, d2⟩ := intB_one (sum_intOk _) (sum_intOk _) b2
   exact ⟨a1.symm, b1, d2, h2⟩
 . exact absurd rfl (h k t q h0 h1 ht)
end
section
open Go Ab
theorem text_ne {l : List UInt8} (h : l ≠ []) : (!((mkB l).toList == EB.toList)) = true := by
 rw [mkB_toList, E_toList]; simpa using h
theorem text_eq : (!((mkB []).toList == EB.toList)) = false := by
 rw [mkB_toList, E_toList]; rfl
def txsB (ts : List (List UInt8)) : List UInt8 := ts.flatMap txB
theorem txsB_cons (t : List UInt8) (ts : List (List UInt8)) : txsB (t :: ts) = txB t ++ txsB ts := rfl
def rowB (ts : List (List UInt8)) : List UInt8 := intB (ts.length : Int) ++ txsB ts
def shortL (ts : List (List UInt8)) : Prop := ∀ t ∈ ts, t.length <= 3000
theorem txsB_one : ∀ (ts us : List (List UInt8)) (p q : List UInt8), shortL ts -> shortL us -> ts.length = us.length -> txsB ts ++ p = txsB us ++ q -> ts = us /\ p = q := by
 intro ts
 induction ts with
 | nil =>
   intro us p q _ _ hl h
   cases us with
   | nil => exact ⟨rfl, by simpa [txsB] using h⟩
   | cons u us => simp at hl
 | cons t ts ih =>
   intro us p q hs hu hl h
   cases us with
   | nil => simp at hl
   | cons u us =>
     rw [txsB_cons, txsB_cons, List.append_assoc, List.append_assoc] at h
     have ht := hs t (by simp)
     have b : TxIs (txB u ++ (txsB us ++ q)) t (txsB ts ++ p) 0 := .inl ⟨rfl, ht, h.symm⟩
     obtain ⟨b1, b2, _⟩ := b.back (hu u (by simp))
     obtain ⟨d1, d2⟩ := ih us p q (fun x hx => hs x (by simp [hx])) (fun x hx => hu x (by simp [hx])) (by simpa using hl) b2
     exact ⟨by rw [b1, d1], d2⟩
def RowIs (l : List UInt8) (k : Int) (ts : List (List UInt8)) (rest : List UInt8) (e : Int) : Prop :=
 (e = 0 /\ 0 <= k /\ k <= 99 /\ ts.length <= 100 /\ shortL ts /\ (rowB ts).length <= 3000 /\ l = frB k (rowB ts) ++ rest) \/
 (e ≠ 0 /\ k = 0 /\ ts = [] /\ rest = [] /\ ∀ k' ts' q, 0 <= k' -> k' <= 99 -> ts'.length <= 100 -> shortL ts' -> (rowB ts').length <= 3000 -> l ≠ frB k' (rowB ts') ++ q)
theorem Row1_l (r2 : Int × (ByteArray × (Int × Unit))) (hm : r2.1 <= 100) (d : Nat) : ∀ (i : Nat) (l : List UInt8) (acc : List ByteArray), (i : Int) + d = r2.1 -> acc.length = i -> l.length <= 1000000 ->
 (∃ ts l', ts.length = d /\ shortL ts /\ l = txsB ts ++ l' /\ Ev (fun k => frame_GetRow_l2 r2 k (acc, (i : Int), 0, mkB l, ())) (.exit 0, acc ++ ts.map mkB, r2.1, 0, mkB l', ())) \/
 (∃ lst e l', e ≠ 0 /\ Ev (fun k => frame_GetRow_l2 r2 k (acc, (i : Int), 0, mkB l, ())) (.exit 0, lst, r2.1, e, l', ()) /\ ∀ ts q, ts.length = d -> shortL ts -> l ≠ txsB ts ++ q) := by
 -- behind an error nothing is read any more
 have dull : ∀ (e : Int), e ≠ 0 -> ∀ (b : ByteArray) (d i : Nat) (acc : List ByteArray), (i : Int) + d = r2.1 -> acc.length = i -> ∃ lst, Ev (fun k => frame_GetRow_l2 r2 k (acc, (i : Int), e, b, ())) (.exit 0, lst, r2.1, e, b, ()) := by
  intro e he b d
  induction d with
  | zero =>
    intro i acc hi _
    refine ⟨acc, Ev.step (Ev.df (by show ¬ (i : Int) < r2.1; omega) ?_)⟩
    rw [show r2.1 = (i : Int) by omega]
    exact Ev.now _
  | succ d ih =>
    intro i acc hi ha
    obtain ⟨lst, h⟩ := ih (i + 1) (acc ++ [EB]) (by omega) (by simp [ha])
    rw [<- wrap_succ (by omega)] at h
    exact ⟨lst, Ev.step (Ev.dt (by show (i : Int) < r2.1; omega) (Ev.f (bne_i he) (Ev.dt (by show (acc.length + [EB].length) * 16 <= 140737488355328; simp; omega) h)))⟩
 induction d with
 | zero =>
   intro i l acc hi ha hl
   refine .inl ⟨[], l, rfl, fun t h => by simp at h, by simp [txsB], ?_⟩
   . refine Ev.step (Ev.df (by show ¬ (i : Int) < r2.1; omega) ?_)
     rw [show r2.1 = (i : Int) by omega, List.map_nil, List.append_nil]
     exact Ev.now _
 | succ d ih =>
   intro i l acc hi ha hl
   have c0 : (i : Int) < r2.1 := by omega
   have hcap : ∀ t : ByteArray, (acc.length + [t].length) * 16 <= 140737488355328 := fun t => by simp; omega
   obtain ⟨t, r, e, h0, h1⟩ := Tx1 l (by omega)
   have hlen := h0.len
   by_cases he : e = 0
   . subst he
     have h0' := h0
     rcases h0 with ⟨_, ht, hl2⟩ | ⟨h, _⟩
     . have go1 : ∀ {R}, Ev (fun k => frame_GetRow_l2 r2 k (acc ++ [mkB t], ((i + 1 : Nat) : Int), 0, mkB r, ())) R -> Ev (fun k => frame_GetRow_l2 r2 k (acc, (i : Int), 0, mkB l, ())) R := fun {R} h => by
        rw [<- wrap_succ (by omega)] at h
        exact Ev.step (Ev.dt c0 (Ev.t (beq_i rfl) (Ev.bind h1 (Ev.t (beq_i rfl) (Ev.dt (hcap _) h)))))
       rcases ih (i + 1) r (acc ++ [mkB t]) (by omega) (by simp [ha]) (by omega) with ⟨ts, l', k1, k2, k3, k4⟩ | ⟨lst, e, l', k1, k2, k4⟩
       . refine .inl ⟨t :: ts, l', by simp [k1], fun x hx => ?_, by rw [hl2, k3, txsB_cons, List.append_assoc], ?_⟩
         . rcases List.mem_cons.1 hx with rfl | hx
           . exact ht
           . exact k2 x hx
         . have := go1 k4; simpa using this
       . refine .inr ⟨lst, e, l', k1, go1 k2, fun ts q hts hsh e2 => ?_⟩
         cases ts with
         | nil => simp at hts
         | cons x ts =>
           rw [txsB_cons, List.append_assoc] at e2
           rw [e2] at h0'
           obtain ⟨b1, b2, _⟩ := h0'.back (hsh x (by simp))
           exact k4 ts q (by simpa using hts) (fun y hy => hsh y (by simp [hy])) b2
     . exact absurd rfl h
   . obtain ⟨lst, hd⟩ := dull e he (mkB l) d (i + 1) (acc ++ [mkB t]) (by omega) (by simp [ha])
     rw [<- wrap_succ (by omega)] at hd
     refine .inr ⟨lst, e, mkB l, he, Ev.step (Ev.dt c0 (Ev.t (beq_i rfl) (Ev.bind h1 (Ev.f (bne_i he) (Ev.dt (hcap _) hd))))), fun ts q hts hsh e2 => ?_⟩
     cases ts with
     | nil => simp at hts
     | cons x ts =>
       rw [txsB_cons, List.append_assoc] at e2
       rw [e2] at h0
       obtain ⟨_, _, b3⟩ := h0.back (hsh x (by simp))
       exact he b3
theorem Row1 (l : List UInt8) (hl : l.length <= 1000000) : ∃ k ts rest e, RowIs l k ts rest e /\ Ev (fun q => frame_GetRow q (mkB l)) (k, ts.map mkB, mkB rest, e, ()) := by
 obtain ⟨k, t, rest, e, h0, h1⟩ := Fr1 l hl
 by_cases he : e = 0
 . subst he
   have h0' := h0
   rcases h0 with ⟨_, hk0, hk1, ht, hl2⟩ | ⟨h, _⟩
   . obtain ⟨m, r, f, g0, g1⟩ := GetInt_ok t (by omega)
     have no : ∀ {P : Prop}, (f = 0 -> m < 0 \/ m > 100 \/ ∀ ts q, (ts.length : Int) = m -> shortL ts -> r = txsB ts ++ q -> q ≠ []) -> RowIs l 0 [] [] 20 := fun {_} hb => by
      refine .inr ⟨by decide, rfl, rfl, rfl, fun k' ts' q a1 a2 a3 a4 a5 e => ?_⟩
      rw [e] at h0'
      obtain ⟨_, b2, b3, _⟩ := h0'.back a1 a2 a5
      have g0' := g0
      rw [b2] at g0'
      unfold rowB at g0'
      obtain ⟨d1, d2, d3⟩ := g0'.back (small_ok _ (by omega))
      rcases hb d3 with h | h | h
      . omega
      . omega
      . exact h ts' [] d1.symm a4 (by rw [d2, List.append_nil]) rfl
     by_cases hf : f = 0
     . subst hf
       by_cases m0 : m < 0
       . exact ⟨0, [], [], 20, no (P := True) (fun _ => .inl m0), Ev.bind h1 (Ev.f (nbeq_i rfl) (Ev.bind g1 (Ev.t (beq_i rfl) (Ev.dt m0 (Ev.now _)))))⟩
       by_cases m1 : m > 100
       . exact ⟨0, [], [], 20, no (P := True) (fun _ => .inr (.inl m1)), Ev.bind h1 (Ev.f (nbeq_i rfl) (Ev.bind g1 (Ev.t (beq_i rfl) (Ev.df m0 (Ev.dt m1 (Ev.now _))))))⟩
       have hr := g0.len
       rcases Row1_l (m, mkB r, 0, ()) (by show m <= 100; omega) m.toNat 0 r [] (by show ((0 : Nat) : Int) + m.toNat = m; omega) rfl (by omega) with ⟨ts, l', a1, a2, a3, a4⟩ | ⟨lst, e, l', a1, a2, a4⟩
       . by_cases hl' : l' = []
         . subst hl'
           have et : t = rowB ts := by
            rcases g0 with ⟨_, _, g0⟩ | ⟨g0, _⟩ | ⟨g0, _⟩
            . unfold rowB; rw [show ((ts.length : Nat) : Int) = m by omega, g0, a3, List.append_nil]
            . omega
            . omega
           refine ⟨k, ts, rest, 0, .inl ⟨rfl, hk0, hk1, by omega, a2, by rw [<- et]; exact ht, by rw [<- et]; exact hl2⟩, ?_⟩
           . exact Ev.bind h1 (Ev.f (nbeq_i rfl) (Ev.bind g1 (Ev.t (beq_i rfl) (Ev.df m0 (Ev.df m1 (Ev.bind a4 (Ev.t rfl (Ev.f (nbeq_i rfl) (Ev.f text_eq (Ev.now _))))))))))
         . refine ⟨0, [], [], 20, no (P := True) (fun _ => .inr (.inr (fun us q u1 u2 u3 => ?_))), ?_⟩
           . rw [a3] at u3
             obtain ⟨_, b2⟩ := txsB_one ts us l' q a2 u2 (by omega) u3
             rw [<- b2]; exact hl'
           . exact Ev.bind h1 (Ev.f (nbeq_i rfl) (Ev.bind g1 (Ev.t (beq_i rfl) (Ev.df m0 (Ev.df m1 (Ev.bind a4 (Ev.t rfl (Ev.f (nbeq_i rfl) (Ev.t (text_ne hl') (Ev.now _))))))))))
       . refine ⟨0, [], [], 20, no (P := True) (fun _ => .inr (.inr (fun us q u1 u2 u3 => absurd u3 (a4 us q (by omega) u2)))), ?_⟩
         . exact Ev.bind h1 (Ev.f (nbeq_i rfl) (Ev.bind g1 (Ev.t (beq_i rfl) (Ev.df m0 (Ev.df m1 (Ev.bind a2 (Ev.t rfl (Ev.t (nbne_i a1) (Ev.now _)))))))))
     . have hm : m = 0 := by
        rcases g0 with ⟨g0, _⟩ | ⟨_, g0, _⟩ | ⟨_, g0, _⟩
        . exact absurd g0 hf
        . exact g0
        . exact g0
       subst hm
       refine ⟨0, [], [], 20, no (P := True) (fun h => absurd h hf), ?_⟩
       . have hl1 : Ev (fun q => frame_GetRow_l1 (0, mkB r, f, ()) q ([], 0, f, mkB t, ())) (.exit 0, [], 0, f, mkB t, ()) := Ev.step (Ev.df (by show ¬ (0 : Int) < 0; omega) (Ev.now _))
         exact Ev.bind h1 (Ev.f (nbeq_i rfl) (Ev.bind g1 (Ev.f (bne_i hf) (Ev.df (by show ¬ (0 : Int) < 0; omega) (Ev.df (by show ¬ (0 : Int) > 100; omega) (Ev.bind hl1 (Ev.t rfl (Ev.t (nbne_i hf) (Ev.now _)))))))))
   . exact absurd rfl h
 . rcases h0 with ⟨h, _⟩ | ⟨_, hk, ht, hr, hno⟩
   . exact absurd h he
   . exact ⟨0, [], [], e, .inr ⟨he, rfl, rfl, rfl, fun k' ts' q a1 a2 a3 a4 a5 => hno k' (rowB ts') q a1 a2 a5⟩, Ev.bind h1 (Ev.t (nbne_i he) (Ev.now _))⟩
theorem RowIs.back {k : Int} {ts : List (List UInt8)} {q : List UInt8} (h0 : 0 <= k) (h1 : k <= 99) (h2 : ts.length <= 100) (h3 : shortL ts) (h4 : (rowB ts).length <= 3000) {k' : Int} {ts' : List (List UInt8)} {q' : List UInt8} {e : Int} (h : RowIs (frB k (rowB ts) ++ q) k' ts' q' e) : k' = k /\ ts' = ts /\ q' = q /\ e = 0 := by
 rcases h with ⟨a0, a1, a2, a3, a4, a5, a6⟩ | ⟨_, _, _, _, h⟩
 . have b : FrIs (frB k (rowB ts) ++ q) k' (rowB ts') q' 0 := .inl ⟨rfl, a1, a2, a5, a6⟩
   obtain ⟨b1, b2, b3, _⟩ := b.back h0 h1 h4
   unfold rowB at b2
   obtain ⟨d1, d2⟩ := intB_one (small_ok _ (by omega)) (small_ok _ (by omega)) b2
   obtain ⟨d3, _⟩ := txsB_one ts' ts [] [] a4 h3 (by omega) (by rw [d2])
   exact ⟨b1, d3, b3, a0⟩
 . exact absurd rfl (h k ts q h0 h1 h2 h3 h4)
theorem Row_put_l (q : Nat) (ts : List (List UInt8)) : ∀ (b : List UInt8), b.length + 3006 * ts.length <= 100000000 ->
 frame_Row_l q (ts.map mkB) (mkB b) = some (if ∀ t ∈ ts, t.length <= 3000 then (mkB (b ++ txsB ts), 0) else (EB, 2)) := by
 induction ts with
 | nil => intro b _; rw [if_pos (by simp)]; simp [frame_Row_l, txsB]
 | cons t ts ih =>
   intro b hb
   rw [List.length_cons] at hb
   rw [List.map_cons]
   unfold frame_Row_l
   rw [Text_ok]
   unfold TextA
   by_cases h : (t.length : Int) > 3000
   . rw [if_pos h, if_neg (fun hh => by have := hh t (by simp); omega)]; rfl
   . rw [if_neg h]
     have hl := txB_len t
     have hg : (mkB b).size + (mkB (txB t)).size <= 100000000 := by rw [mkB_size, mkB_size]; omega
     refine (bif_t hg _ _).trans ?_
     show frame_Row_l q (ts.map mkB) (mkB b ++ mkB (txB t)) = _
     rw [mkB_append, ih (b ++ txB t) (by rw [List.length_append]; omega), txsB_cons, List.append_assoc]
     have e : (∀ x ∈ ts, x.length <= 3000) ↔ ∀ x ∈ t :: ts, x.length <= 3000 := by
      constructor
      . intro h2 x hx
        rcases List.mem_cons.1 hx with rfl | hx
        . omega
        . exact h2 x hx
      . intro h2 x hx; exact h2 x (by simp [hx])
     by_cases h3 : ∀ x ∈ ts, x.length <= 3000
     . rw [if_pos h3, if_pos (e.1 h3)]
     . rw [if_neg h3, if_neg (fun h4 => h3 (e.2 h4))]
def RowA (k : Int) (ts : List (List UInt8)) : ByteArray × Int × Unit :=
 if k < 0 \/ k > 99 then (EB, 1, ()) else if ts.length > 100 then (EB, 2, ()) else if ∀ t ∈ ts, t.length <= 3000 then PutA k (rowB ts) else (EB, 2, ())
theorem Row_ok (q : Nat) (k : Int) (ts : List (List UInt8)) : frame_Row q k (ts.map mkB) = some (RowA k ts) := by
 unfold frame_Row RowA
 by_cases h0 : k < 0
 . rw [bif_t h0, if_pos (.inl h0)]
 . by_cases h1 : k > 99
   . rw [bif_f h0, bif_t h1, if_pos (.inr h1)]
   . rw [bif_f h0, bif_f h1, if_neg (by omega), List.length_map]
     by_cases h2 : (ts.length : Int) > 100
     . rw [bif_t h2, if_pos (by omega)]
     . rw [bif_f h2, if_neg (by omega), Int_ok, IntA_ok (small_ok _ (by omega))]
       have hl := intB_len (ts.length : Int)
       have hg : (mkB (intB (ts.length : Int))).size <= 100000000 := by rw [mkB_size]; omega
       refine (bif_t hg _ _).trans ?_
       show (frame_Row_l q (ts.map mkB) (mkB (intB (ts.length : Int)))).bind _ = _
       rw [Row_put_l q ts _ (by omega)]
       by_cases h3 : ∀ t ∈ ts, t.length <= 3000
       . rw [if_pos h3, if_pos h3]
         show frame_Put q k (mkB (rowB ts)) = _
         rw [Put_ok]
       . rw [if_neg h3, if_neg h3]; rfl
end
section
open Go Ab
end
end Go.Proofs.YtfhphiedbdinmaaGreatDoor.A
