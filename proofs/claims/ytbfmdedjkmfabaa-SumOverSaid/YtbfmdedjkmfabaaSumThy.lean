/- Plain laws of the sum: it is a number below 65536; it is linear in the bits; unlike texts of one shape have unlike sums. -/
import Derived.Test.YtbfmdedjkmfabaaHSumPure
import Derived.KernelRfl
namespace Go.Proofs.Ytbfmdedjkmfabaa.Q
open Go.RowKit

theorem wrap64_of {n : Int} (h0 : -9223372036854775808 ≤ n) (h1 : n ≤ 9223372036854775807) : wrap64 n = n := by unfold wrap64; omega

theorem bits_xor_nat (a b : Nat) (ha : a < 2 ^ 32) (hb : b < 2 ^ 32) : Go.bits .xor .i64 (a : Int) (b : Int) = ((a ^^^ b : Nat) : Int) := by
  have ha' : a % 2 ^ 64 = a := Nat.mod_eq_of_lt (by omega)
  have hb' : b % 2 ^ 64 = b := Nat.mod_eq_of_lt (by omega)
  have hx : a ^^^ b < 2 ^ 32 := Nat.xor_lt_two_pow ha hb
  have e : (BitVec.ofInt IntKind.i64.bits (a : Int) ^^^ BitVec.ofInt IntKind.i64.bits (b : Int)).toNat = a ^^^ b := by
    rw [BitVec.toNat_xor]
    simp only [BitVec.ofInt_natCast, BitVec.toNat_ofNat, IntKind.bits]
    rw [ha', hb']
  show IntKind.i64.wrap _ = _
  rw [e, IntKind.wrap_i64]
  omega

/-- The turn on sixteen bits. -/
def turn (v : BitVec 16) : BitVec 16 := if v.msb = true then (v <<< 1) ^^^ 0x1021#16 else v <<< 1
def turns : Nat → BitVec 16 → BitVec 16
  | 0, v => v
  | n + 1, v => turns n (turn v)

theorem xor_top (r : Nat) (h : r < 65536) : (65536 + r) ^^^ 69665 = r ^^^ 4129 := by
  have e1 : 65536 + r = 65536 ^^^ r := by
    have : (65536 + r) = 2 ^ 16 * 1 + r := by omega
    rw [this, Nat.two_pow_add_eq_or_of_lt (by omega) 1]
    apply Nat.eq_of_testBit_eq
    intro i
    rw [Nat.testBit_or, Nat.testBit_xor]
    by_cases hi : i < 16
    · have : (2 ^ 16 * 1).testBit i = false := by rw [Nat.mul_one, Nat.testBit_two_pow]; simp; omega
      have e : (65536 : Nat) = 2 ^ 16 * 1 := by decide
      rw [e, this]; simp
    · have : r.testBit i = false := Nat.testBit_lt_two_pow (Nat.lt_of_lt_of_le h (Nat.pow_le_pow_right (by decide) (by omega) : 2 ^ 16 ≤ 2 ^ i))
      rw [this]
      have e : (65536 : Nat) = 2 ^ 16 * 1 := by decide
      rw [e]; simp
  have e2 : (69665 : Nat) = 65536 ^^^ 4129 := by decide
  rw [e1, e2]
  apply Nat.eq_of_testBit_eq
  intro i
  simp only [Nat.testBit_xor]
  cases Nat.testBit 65536 i <;> cases Nat.testBit r i <;> cases Nat.testBit 4129 i <;> rfl

theorem crcTurn_turn (v : BitVec 16) : crcTurn (v.toNat : Int) = ((turn v).toNat : Int) := by
  have hv := v.isLt
  have hw : wrap64 ((v.toNat : Int) * 2) = ((v.toNat * 2 : Nat) : Int) := by rw [wrap64_of (by omega) (by omega)]; omega
  have hsh : (v <<< 1).toNat = v.toNat * 2 % 65536 := by rw [BitVec.toNat_shiftLeft, Nat.shiftLeft_eq]
  unfold crcTurn turn
  rw [hw]
  by_cases h : 32768 ≤ v.toNat
  · have hm : v.msb = true := by rw [BitVec.msb_eq_decide]; exact decide_eq_true (by simpa using h)
    rw [if_pos (by omega), if_pos hm, BitVec.toNat_xor, hsh]
    have e := xor_top (v.toNat * 2 - 65536) (by omega)
    rw [show 65536 + (v.toNat * 2 - 65536) = v.toNat * 2 by omega] at e
    have e2 : v.toNat * 2 % 65536 = v.toNat * 2 - 65536 := by omega
    rw [show (69665 : Int) = ((69665 : Nat) : Int) from rfl, bits_xor_nat _ _ (by omega) (by omega), e2, e]
    rw [show (4129#16).toNat = 4129 from rfl]
  · have hm : ¬ v.msb = true := by rw [BitVec.msb_eq_decide]; simp; omega
    rw [if_neg (by omega), if_neg hm, hsh]
    omega

theorem crcTurns_turns (n : Nat) (v : BitVec 16) : crcTurns n (v.toNat : Int) = ((turns n v).toNat : Int) := by
  induction n generalizing v with
  | zero => rfl
  | succ n ih => rw [crcTurns, crcTurn_turn, ih]; rfl

/-- A byte's place at the sum's upper end. -/
def up8 (b : UInt8) : BitVec 16 := BitVec.ofNat 16 (b.toNat * 256)
def byteB (v : BitVec 16) (b : UInt8) : BitVec 16 := turns 8 (v ^^^ up8 b)
def strB (v : BitVec 16) (s : List UInt8) : BitVec 16 := s.foldl byteB v

theorem crcByte_byteB (v : BitVec 16) (b : UInt8) : crcByte (v.toNat : Int) (b.toNat : Int) = ((byteB v b).toNat : Int) := by
  have hb := b.toNat_lt
  have hv := v.isLt
  have h1 : wrap64 (wrap64 (b.toNat : Int) * 256) = ((b.toNat * 256 : Nat) : Int) := by
    rw [wrap64_of (n := (b.toNat : Int)) (by omega) (by omega), wrap64_of (by omega) (by omega)]; omega
  have h2 : (up8 b).toNat = b.toNat * 256 := by
    unfold up8; rw [BitVec.toNat_ofNat]; exact Nat.mod_eq_of_lt (by omega)
  unfold crcByte byteB
  rw [h1, bits_xor_nat _ _ (by omega) (by omega), ← h2, ← BitVec.toNat_xor, crcTurns_turns]

theorem crcStr_strB (v : BitVec 16) (s : List UInt8) : crcStr (v.toNat : Int) s = ((strB v s).toNat : Int) := by
  induction s generalizing v with
  | nil => rfl
  | cons b s ih =>
    show crcStr (crcByte (v.toNat : Int) (b.toNat : Int)) s = _
    rw [crcByte_byteB, ih]; rfl

theorem turn_xor (a b : BitVec 16) : turn (a ^^^ b) = turn a ^^^ turn b := by
  unfold turn
  rw [BitVec.msb_xor, BitVec.shiftLeft_xor_distrib]
  cases ha : a.msb <;> cases hb : b.msb <;> simp
  · rw [BitVec.xor_assoc]
  · rw [BitVec.xor_assoc, BitVec.xor_comm (b <<< 1), ← BitVec.xor_assoc]
  · rw [BitVec.xor_assoc (a <<< 1), BitVec.xor_comm (b <<< 1), ← BitVec.xor_assoc 4129#16, BitVec.xor_self]; simp
theorem turns_xor (n : Nat) (a b : BitVec 16) : turns n (a ^^^ b) = turns n a ^^^ turns n b := by
  induction n generalizing a b with
  | zero => rfl
  | succ n ih => rw [turns, turn_xor, ih]; rfl
theorem turn_zero {v : BitVec 16} (h : turn v = 0) : v = 0 := by
  have hv := v.isLt
  have hsh : (v <<< 1).toNat = v.toNat * 2 % 65536 := by rw [BitVec.toNat_shiftLeft, Nat.shiftLeft_eq]
  unfold turn at h
  by_cases hm : v.msb = true
  · rw [if_pos hm] at h
    have h0 : ((v <<< 1) ^^^ 4129#16).getLsbD 0 = false := by rw [h]; rfl
    rw [BitVec.getLsbD_xor] at h0
    simp at h0
  · rw [if_neg hm] at h
    have hm' : v.toNat < 32768 := by
      rw [BitVec.msb_eq_decide] at hm; simpa using hm
    have h2 : (v <<< 1).toNat = 0 := by rw [h]; rfl
    exact BitVec.eq_of_toNat_eq (by show v.toNat = 0; omega)
theorem turns_zero (n : Nat) {v : BitVec 16} (h : turns n v = 0) : v = 0 := by
  induction n generalizing v with
  | zero => exact h
  | succ n ih => exact turn_zero (ih h)
theorem xor_zero_iff (a b : BitVec 16) : a ^^^ b = 0 ↔ a = b := by
  constructor
  · intro h
    have : a ^^^ b ^^^ b = 0 ^^^ b := by rw [h]
    rw [BitVec.xor_assoc, BitVec.xor_self] at this
    simpa using this
  · rintro rfl; simp
theorem turns_inj (n : Nat) {a b : BitVec 16} : turns n a = turns n b ↔ a = b := by
  constructor
  · intro h
    rw [← xor_zero_iff, ← turns_xor] at h
    exact (xor_zero_iff a b).1 (turns_zero n h)
  · rintro rfl; rfl
theorem up8_inj {a b : UInt8} : up8 a = up8 b ↔ a = b := by
  constructor
  · intro h
    have ha := a.toNat_lt
    have hb := b.toNat_lt
    have h2 : (up8 a).toNat = (up8 b).toNat := by rw [h]
    unfold up8 at h2
    rw [BitVec.toNat_ofNat, BitVec.toNat_ofNat, Nat.mod_eq_of_lt (by omega), Nat.mod_eq_of_lt (by omega)] at h2
    exact UInt8.toNat_inj.1 (by omega)
  · rintro rfl; rfl
theorem xor_left_inj {a b c : BitVec 16} : c ^^^ a = c ^^^ b ↔ a = b := by
  constructor
  · intro h
    have : c ^^^ (c ^^^ a) = c ^^^ (c ^^^ b) := by rw [h]
    rw [← BitVec.xor_assoc, ← BitVec.xor_assoc, BitVec.xor_self] at this
    simpa using this
  · rintro rfl; rfl
theorem xor_right_inj {a b c : BitVec 16} : a ^^^ c = b ^^^ c ↔ a = b := by
  rw [BitVec.xor_comm a, BitVec.xor_comm b, xor_left_inj]
/-- Of one sum, another byte makes another sum. -/
theorem byteB_byte {v : BitVec 16} {a b : UInt8} : byteB v a = byteB v b ↔ a = b := by
  unfold byteB; rw [turns_inj, xor_left_inj, up8_inj]
/-- Of one byte, another sum makes another sum. -/
theorem byteB_sum {u v : BitVec 16} {b : UInt8} : byteB u b = byteB v b ↔ u = v := by
  unfold byteB; rw [turns_inj, xor_right_inj]
theorem strB_sum {u v : BitVec 16} (s : List UInt8) : strB u s = strB v s ↔ u = v := by
  induction s generalizing u v with
  | nil => exact Iff.rfl
  | cons b s ih =>
    show strB (byteB u b) s = strB (byteB v b) s ↔ _
    rw [ih, byteB_sum]
theorem turns_add (m n : Nat) (v : BitVec 16) : turns (m + n) v = turns n (turns m v) := by
  induction m generalizing v with
  | zero => rw [Nat.zero_add]; rfl
  | succ m ih => rw [show m + 1 + n = (m + n) + 1 by omega, turns, ih]; rfl
theorem swap_fixed : ∀ n : Fin 256, turns 8 (BitVec.ofNat 16 (n.val * 256)) = BitVec.ofNat 16 (n.val * 256) → n.val = 0 := by decide +kernel
theorem up8_xor (a b : UInt8) : up8 a ^^^ up8 b = up8 (a ^^^ b) := by
  apply BitVec.eq_of_toNat_eq
  have ha := a.toNat_lt
  have hb := b.toNat_lt
  have hx : a.toNat ^^^ b.toNat < 2 ^ 8 := Nat.xor_lt_two_pow ha hb
  have e : ∀ c : UInt8, (up8 c).toNat = c.toNat * 2 ^ 8 := fun c => by
    have := c.toNat_lt
    unfold up8; rw [BitVec.toNat_ofNat, Nat.mod_eq_of_lt (by omega)]
  rw [BitVec.toNat_xor, e, e, e, UInt8.toNat_xor, ← Nat.shiftLeft_eq, ← Nat.shiftLeft_eq, ← Nat.shiftLeft_eq, Nat.shiftLeft_xor_distrib]
/-- Two unlike bytes that change places are seen. -/
theorem byteB_swap {v : BitVec 16} {a b : UInt8} : byteB (byteB v a) b = byteB (byteB v b) a ↔ a = b := by
  constructor
  · intro h
    unfold byteB at h
    rw [turns_inj, turns_xor, turns_xor] at h
    have h2 : turns 8 (up8 (a ^^^ b)) = up8 (a ^^^ b) := by
      rw [← up8_xor, turns_xor]
      rw [BitVec.xor_assoc, BitVec.xor_assoc, xor_left_inj] at h
      -- turns 8 (up8 a) ^^^ up8 b = turns 8 (up8 b) ^^^ up8 a
      have h3 : turns 8 (up8 a) ^^^ up8 b ^^^ turns 8 (up8 b) = turns 8 (up8 b) ^^^ up8 a ^^^ turns 8 (up8 b) := by rw [h]
      rw [BitVec.xor_comm (turns 8 (up8 b)) (up8 a), BitVec.xor_assoc (up8 a), BitVec.xor_self] at h3
      simp only [BitVec.xor_zero] at h3
      rw [BitVec.xor_assoc, BitVec.xor_comm (up8 b), ← BitVec.xor_assoc] at h3
      have h4 : turns 8 (up8 a) ^^^ turns 8 (up8 b) ^^^ up8 b ^^^ up8 b = up8 a ^^^ up8 b := by rw [h3]
      rw [BitVec.xor_assoc, BitVec.xor_self] at h4
      simpa using h4
    have h5 := swap_fixed ⟨(a ^^^ b).toNat, (a ^^^ b).toNat_lt⟩ h2
    have h6 : a ^^^ b = 0 := UInt8.toNat_inj.1 (by simpa using h5)
    have h7 : a ^^^ b ^^^ b = 0 ^^^ b := by rw [h6]
    rw [UInt8.xor_assoc, UInt8.xor_self] at h7
    simpa using h7
  · rintro rfl; rfl
end Go.Proofs.Ytbfmdedjkmfabaa.Q
