/- Plain laws of wire's numbers: their digits, their bytes, and what bytes begin with. -/
import Derived.Test.YtoeikeabbdnkbaaAHIntsDef
import Derived.Test.YtoeikeabbdnkbaaATxt
namespace Go.Proofs.Ytoeikeabbdnkbaa.A
set_option linter.unusedVariables false

/-- The number that digits tell, the lowest one first. -/
def valB : List UInt8 → Int
  | [] => 0
  | d :: ds => (d.toNat : Int) + 250 * valB ds
def smallB (ds : List UInt8) : Prop := ∀ d ∈ ds, d.toNat < 250
/-- All digits are small, and the highest one is none of 0. -/
def canonB (ds : List UInt8) : Prop := smallB ds ∧ ds.getLast? ≠ some 0

theorem valB_nonneg (ds : List UInt8) : 0 ≤ valB ds := by
  induction ds with
  | nil => exact Int.le_refl _
  | cons d ds ih => unfold valB; omega
theorem valB_lt (ds : List UInt8) (h : smallB ds) : valB ds < 250 ^ ds.length := by
  induction ds with
  | nil => simp [valB]
  | cons d ds ih =>
    have h1 := ih (fun e he => h e (List.mem_cons_of_mem _ he))
    have h2 := h d (by simp)
    unfold valB
    rw [List.length_cons, Int.pow_succ]
    omega
theorem valB_pos (ds : List UInt8) (h : canonB ds) (hne : ds ≠ []) : 0 < valB ds := by
  induction ds with
  | nil => exact absurd rfl hne
  | cons d ds ih =>
    cases ds with
    | nil =>
      have h2 := h.2
      simp only [List.getLast?_singleton, ne_eq, Option.some.injEq] at h2
      have h3 : d.toNat ≠ 0 := fun e => h2 (UInt8.toNat_inj.1 (by simpa using e))
      simp only [valB]
      omega
    | cons e es =>
      have h1 := ih ⟨fun x hx => h.1 x (List.mem_cons_of_mem _ hx), by have := h.2; rwa [List.getLast?_cons_cons] at this⟩ (by simp)
      unfold valB
      omega
theorem u8_nat (d : Nat) (h : d < 256) : (UInt8.ofNat d).toNat = d := UInt8.toNat_ofNat_of_lt' (by simpa [UInt8.size] using h)

/-- A number's digits, as bytes. -/
def digB (n : Int) : List UInt8 := (digsF 5 n).map (fun d => UInt8.ofNat d.toNat)
theorem digsF_small (f : Nat) : ∀ n : Int, smallB ((digsF f n).map (fun d => UInt8.ofNat d.toNat)) := by
  intro n d hd
  obtain ⟨x, hx, rfl⟩ := List.mem_map.1 hd
  have := (digsF_bd f n).2 x hx
  rw [u8_nat _ (by omega)]
  omega
theorem digsF_val (f : Nat) : ∀ n : Int, 0 ≤ n → n < 250 ^ f → valB ((digsF f n).map (fun d => UInt8.ofNat d.toNat)) = n := by
  induction f with
  | zero => intro n h0 h1; simp at h1; simp [digsF, valB]; omega
  | succ f ih =>
    intro n h0 h1
    rw [Int.pow_succ] at h1
    unfold digsF
    split
    · simp only [List.map_cons, valB]
      rw [ih (n / 250) (by omega) (by omega), u8_nat _ (by omega)]
      omega
    · simp [valB]; omega
theorem digsF_last (f : Nat) : ∀ n : Int, 0 ≤ n → n < 250 ^ f → ((digsF f n).map (fun d => UInt8.ofNat d.toNat)).getLast? ≠ some 0 := by
  induction f with
  | zero => intro n h0 h1; simp [digsF]
  | succ f ih =>
    intro n h0 h1
    rw [Int.pow_succ] at h1
    unfold digsF
    split
    · rename_i hp
      by_cases h : n / 250 = 0
      · have e : digsF f (n / 250) = [] := by rw [h]; cases f <;> simp [digsF]
        rw [e]
        simp only [List.map_cons, List.map_nil, List.getLast?_singleton, ne_eq, Option.some.injEq]
        intro e2
        have h3 : (UInt8.ofNat (n % 250).toNat).toNat = 0 := by rw [e2]; rfl
        rw [u8_nat _ (by omega)] at h3
        omega
      · have h2 := ih (n / 250) (by omega) (by omega)
        cases hc : digsF f (n / 250) with
        | nil =>
          have hv := digsF_val f (n / 250) (by omega) (by omega)
          rw [hc] at hv
          simp [valB] at hv
          omega
        | cons x xs =>
          rw [hc] at h2
          simp only [List.map_cons, List.getLast?_cons_cons] at h2 ⊢
          exact h2
    · simp
theorem digB_canon (n : Int) (h0 : 0 ≤ n) (h1 : n < 976562500000) : canonB (digB n) := ⟨digsF_small 5 n, digsF_last 5 n h0 (by simpa using h1)⟩
theorem digB_val (n : Int) (h0 : 0 ≤ n) (h1 : n < 976562500000) : valB (digB n) = n := digsF_val 5 n h0 (by simpa using h1)
theorem canon_inj : ∀ (a b : List UInt8), canonB a → canonB b → valB a = valB b → a = b := by
  intro a
  induction a with
  | nil =>
    intro b _ hb h
    cases b with
    | nil => rfl
    | cons y b =>
      have := valB_pos _ hb (by simp)
      rw [← h] at this
      simp [valB] at this
  | cons x a ih =>
    intro b ha hb h
    cases b with
    | nil =>
      have := valB_pos _ ha (by simp)
      rw [h] at this
      simp [valB] at this
    | cons y b =>
      have h1 := ha.1 x (by simp)
      have h2 := hb.1 y (by simp)
      simp only [valB] at h
      have ex : x = y := UInt8.toNat_inj.1 (by omega)
      have ev : valB a = valB b := by omega
      have ca : canonB a := ⟨fun z hz => ha.1 z (List.mem_cons_of_mem _ hz), by
        cases a with
        | nil => simp
        | cons z a => have := ha.2; rwa [List.getLast?_cons_cons] at this⟩
      have cb : canonB b := ⟨fun z hz => hb.1 z (List.mem_cons_of_mem _ hz), by
        cases b with
        | nil => simp
        | cons z b => have := hb.2; rwa [List.getLast?_cons_cons] at this⟩
      rw [ex, ih b ca cb ev]
theorem digB_of (ds : List UInt8) (h : canonB ds) (hl : ds.length ≤ 5) : digB (valB ds) = ds := by
  have hv := valB_lt ds h.1
  have hp : (250 : Int) ^ ds.length ≤ 250 ^ 5 := by
    rcases (show ds.length = 0 ∨ ds.length = 1 ∨ ds.length = 2 ∨ ds.length = 3 ∨ ds.length = 4 ∨ ds.length = 5 by omega) with e | e | e | e | e | e <;> rw [e] <;> decide
  have hp2 : valB ds < 976562500000 := Int.lt_of_lt_of_le hv hp
  exact canon_inj _ _ (digB_canon _ (valB_nonneg ds) hp2) h (digB_val _ (valB_nonneg ds) hp2)

/-- A number's size, and its last byte. -/
def absI (n : Int) : Int := if n < 0 then -n else n
def endB (n : Int) : UInt8 := if n < 0 then 254 else 255
theorem intB_eq (n : Int) : intB n = digB (absI n) ++ [endB n] := rfl
theorem intOk_iff (n : Int) : intOk n = true ↔ -2147483647 ≤ n ∧ n ≤ 2147483647 := by simp [intOk]
theorem absI_bd {n : Int} (h : intOk n = true) : 0 ≤ absI n ∧ absI n ≤ 2147483647 := by
  have := (intOk_iff n).1 h
  unfold absI; split <;> omega
theorem endB_ge (n : Int) : 254 ≤ (endB n).toNat := by unfold endB; split <;> decide
theorem endB_cases (c : UInt8) (h : 254 ≤ c.toNat) : c = 254 ∨ c = 255 := by
  have := c.toNat_lt
  rcases (show c.toNat = 254 ∨ c.toNat = 255 by omega) with e | e
  · exact .inl (UInt8.toNat_inj.1 e)
  · exact .inr (UInt8.toNat_inj.1 e)
theorem digB_lt (n : Int) : ∀ d ∈ digB n, d.toNat < 254 := fun d hd => by have := digsF_small 5 n d hd; omega

/-- The first byte from 254 on parts a text in one way alone. -/
theorem split_one : ∀ (a b : List UInt8) (c d : UInt8) (r q : List UInt8), (∀ x ∈ a, x.toNat < 254) → (∀ x ∈ b, x.toNat < 254) → 254 ≤ c.toNat → 254 ≤ d.toNat → a ++ c :: r = b ++ d :: q → a = b ∧ c = d ∧ r = q := by
  intro a
  induction a with
  | nil =>
    intro b c d r q ha hb hc hd h
    cases b with
    | nil => simp at h; exact ⟨rfl, h.1, h.2⟩
    | cons y b =>
      simp at h
      have := hb y (by simp)
      rw [← h.1] at this
      omega
  | cons x a ih =>
    intro b c d r q ha hb hc hd h
    cases b with
    | nil =>
      simp at h
      have := ha x (by simp)
      rw [h.1] at this
      omega
    | cons y b =>
      simp at h
      obtain ⟨h1, h2, h3⟩ := ih b c d r q (fun z hz => ha z (List.mem_cons_of_mem _ hz)) (fun z hz => hb z (List.mem_cons_of_mem _ hz)) hc hd h.2
      exact ⟨by rw [h.1, h1], h2, h3⟩
theorem intB_split {n : Int} {rest a : List UInt8} {c : UInt8} {r : List UInt8} (h : intB n ++ rest = a ++ c :: r) (ha : ∀ x ∈ a, x.toNat < 254) (hc : 254 ≤ c.toNat) : digB (absI n) = a ∧ endB n = c ∧ rest = r := by
  rw [intB_eq, List.append_assoc] at h
  exact split_one _ _ _ _ _ _ (digB_lt _) ha (endB_ge _) hc h
/-- Bytes begin with the bytes of one number at most. -/
theorem intB_one {n m : Int} {r q : List UInt8} (hn : intOk n = true) (hm : intOk m = true) (h : intB n ++ r = intB m ++ q) : n = m ∧ r = q := by
  have h2 : intB n ++ r = digB (absI m) ++ endB m :: q := by rw [h, intB_eq, List.append_assoc]; rfl
  obtain ⟨h3, h4, h5⟩ := intB_split h2 (digB_lt _) (endB_ge _)
  refine ⟨?_, h5⟩
  have an := absI_bd hn
  have am := absI_bd hm
  have hv : absI n = absI m := by rw [← digB_val (absI n) an.1 (by omega), h3, digB_val (absI m) am.1 (by omega)]
  unfold endB at h4
  unfold absI at hv
  split at h4 <;> split at h4
  · rw [if_pos (by assumption), if_pos (by assumption)] at hv; omega
  · exact absurd h4 (by decide)
  · exact absurd h4 (by decide)
  · rw [if_neg (by assumption), if_neg (by assumption)] at hv; omega

/-- What bytes begin with: the number n, or why there is none. -/
def GetIs (s : List UInt8) (n : Int) (rest : List UInt8) (e : Int) : Prop :=
  (e = 0 ∧ intOk n = true ∧ s = intB n ++ rest) ∨ (e = 22 ∧ n = 0 ∧ rest = [] ∧ ∀ c ∈ s, c.toNat < 254) ∨
  (e = 20 ∧ n = 0 ∧ rest = [] ∧ (∃ c ∈ s, 254 ≤ c.toNat) ∧ ∀ m q, intOk m = true → s ≠ intB m ++ q)
theorem GetIs.one {s : List UInt8} {n m : Int} {r q : List UInt8} {e f : Int} (h : GetIs s n r e) (k : GetIs s m q f) : n = m ∧ r = q ∧ e = f := by
  have mem : ∀ {n : Int} {r : List UInt8}, s = intB n ++ r → ∃ c ∈ s, 254 ≤ c.toNat := fun {n r} h => ⟨endB n, by rw [h, intB_eq]; simp, endB_ge n⟩
  rcases h with ⟨rfl, h1, h2⟩ | ⟨rfl, rfl, rfl, h1⟩ | ⟨rfl, rfl, rfl, h1, h2⟩ <;> rcases k with ⟨rfl, k1, k2⟩ | ⟨rfl, rfl, rfl, k1⟩ | ⟨rfl, rfl, rfl, k1, k2⟩
  · obtain ⟨h3, h4⟩ := intB_one h1 k1 (h2.symm.trans k2); exact ⟨h3, h4, rfl⟩
  · obtain ⟨c, hc, hc2⟩ := mem h2; have := k1 c hc; omega
  · exact absurd h2 (k2 _ _ h1)
  · obtain ⟨c, hc, hc2⟩ := mem k2; have := h1 c hc; omega
  · exact ⟨rfl, rfl, rfl⟩
  · obtain ⟨c, hc, hc2⟩ := k1; have := h1 c hc; omega
  · exact absurd k2 (h2 _ _ k1)
  · obtain ⟨c, hc, hc2⟩ := h1; have := k1 c hc; omega
  · exact ⟨rfl, rfl, rfl⟩
/-- Bytes ahead of the first one from 254 on. -/
theorem part_of (s : List UInt8) : (∀ c ∈ s, c.toNat < 254) ∨ ∃ a c r, s = a ++ c :: r ∧ (∀ x ∈ a, x.toNat < 254) ∧ 254 ≤ c.toNat := by
  induction s with
  | nil => exact .inl (by simp)
  | cons x s ih =>
    by_cases h : x.toNat < 254
    · rcases ih with h1 | ⟨a, c, r, h1, h2, h3⟩
      · refine .inl (fun c hc => ?_)
        rcases List.mem_cons.1 hc with rfl | hc
        · exact h
        · exact h1 c hc
      · refine .inr ⟨x :: a, c, r, by rw [h1]; rfl, fun y hy => ?_, h3⟩
        rcases List.mem_cons.1 hy with rfl | hy
        · exact h
        · exact h2 y hy
    · exact .inr ⟨[], x, s, rfl, by simp, by omega⟩
theorem GetIs.bad {a : List UInt8} {c : UInt8} {r : List UInt8} (ha : ∀ x ∈ a, x.toNat < 254) (hc : 254 ≤ c.toNat) (h : ∀ m, intOk m = true → digB (absI m) = a → endB m = c → False) : GetIs (a ++ c :: r) 0 [] 20 :=
  .inr (.inr ⟨rfl, rfl, rfl, ⟨c, by simp, hc⟩, fun m q hm e => by
    obtain ⟨h1, h2, _⟩ := intB_split e.symm ha hc
    exact h m hm h1 h2⟩)
/-- Where the digits are right ones the number is told. -/
theorem GetIs.good {a : List UInt8} {c : UInt8} {r : List UInt8} (hc : 254 ≤ c.toNat) (hk : canonB a) (hl : a.length ≤ 5) (hv : valB a ≤ 2147483647) (h0 : ¬ (c = 254 ∧ valB a = 0)) :
    GetIs (a ++ c :: r) (if c = 254 then -valB a else valB a) r 0 := by
  have hnn := valB_nonneg a
  refine .inl ⟨rfl, ?_, ?_⟩
  · rw [intOk_iff]; split <;> omega
  · rw [intB_eq]
    rcases endB_cases c hc with rfl | rfl
    · have hp : 0 < valB a := by
        rcases Int.lt_or_eq_of_le hnn with h | h
        · exact h
        · exact absurd ⟨rfl, h.symm⟩ h0
      rw [if_pos rfl]
      have e1 : absI (-valB a) = valB a := by unfold absI; rw [if_pos (by omega)]; omega
      have e2 : endB (-valB a) = 254 := by unfold endB; rw [if_pos (by omega)]
      rw [e1, e2, digB_of a hk hl]; simp
    · rw [if_neg (by decide)]
      have e1 : absI (valB a) = valB a := by unfold absI; rw [if_neg (by omega)]
      have e2 : endB (valB a) = 255 := by unfold endB; rw [if_neg (by omega)]
      rw [e1, e2, digB_of a hk hl]; simp
end Go.Proofs.Ytoeikeabbdnkbaa.A
