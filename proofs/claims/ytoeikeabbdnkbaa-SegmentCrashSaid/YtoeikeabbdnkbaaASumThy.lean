/- Plain laws of the sum: it is a number below 65536; it is linear in the bits; unlike texts of one shape have unlike sums. -/
import Derived.Test.YtoeikeabbdnkbaaAHSumDef
import Derived.Test.YtoeikeabbdnkbaaATxt
import Derived.KernelRfl
namespace Go.Proofs.Ytoeikeabbdnkbaa.A
open Go Go.RowKit Go.Proofs.Ytoeikeabbdnkbaa.Ab

theorem wrap64_of {n : Int} (h0 : -9223372036854775808 ≤ n) (h1 : n ≤ 9223372036854775807) : wrap64 n = n := by unfold wrap64; omega

theorem bits_xor_nat (a b : Nat) (ha : a < 2 ^ 32) (hb : b < 2 ^ 32) : Go.bits .xor .i64 (a : Int) (b : Int) = ((a ^^^ b : Nat) : Int) := by
  have ha' : a % 2 ^ 64 = a := Nat.mod_eq_of_lt (by omega)
  have hb' : b % 2 ^ 64 = b := Nat.mod_eq_of_lt (by omega)
  have hx : a ^^^ b < 2 ^ 32 := Nat.xor_lt_two_pow ha hb
  have e : (BitVec.ofInt IntKind.i64.bits (a : Int) ^^^ BitVec.ofInt IntKind.i64.bits (b : Int)).toNat = a ^^^ b := by
    rw [BitVec.toNat_xor]
    simp only [BitVec.ofInt_natCast, BitVec.toNat_ofNat, IntKind.bits]
    rw [ha', hb']
  show IntKind.i64.wrap _ = _
  rw [e, IntKind.wrap_i64]
  omega

/-- The turn on sixteen bits. -/
def turn (v : BitVec 16) : BitVec 16 := if v.msb = true then (v <<< 1) ^^^ 0x1021#16 else v <<< 1
def turns : Nat → BitVec 16 → BitVec 16
  | 0, v => v
  | n + 1, v => turns n (turn v)

theorem xor_top (r : Nat) (h : r < 65536) : (65536 + r) ^^^ 69665 = r ^^^ 4129 := by
  have e1 : 65536 + r = 65536 ^^^ r := by
    have : (65536 + r) = 2 ^ 16 * 1 + r := by omega
    rw [this, Nat.two_pow_add_eq_or_of_lt (by omega) 1]
    apply Nat.eq_of_testBit_eq
    intro i
    rw [Nat.testBit_or, Nat.testBit_xor]
    by_cases hi : i < 16
    · have : (2 ^ 16 * 1).testBit i = false := by rw [Nat.mul_one, Nat.testBit_two_pow]; simp; omega
      have e : (65536 : Nat) = 2 ^ 16 * 1 := by decide
      rw [e, this]; simp
    · have : r.testBit i = false := Nat.testBit_lt_two_pow (Nat.lt_of_lt_of_le h (Nat.pow_le_pow_right (by decide) (by omega) : 2 ^ 16 ≤ 2 ^ i))
      rw [this]
      have e : (65536 : Nat) = 2 ^ 16 * 1 := by decide
      rw [e]; simp
  have e2 : (69665 : Nat) = 65536 ^^^ 4129 := by decide
  rw [e1, e2]
  apply Nat.eq_of_testBit_eq
  intro i
  simp only [Nat.testBit_xor]
  cases Nat.testBit 65536 i <;> cases Nat.testBit r i <;> cases Nat.testBit 4129 i <;> rfl

theorem crcTurn_turn (v : BitVec 16) : crcTurn (v.toNat : Int) = ((turn v).toNat : Int) := by
  have hv := v.isLt
  have hw : wrap64 ((v.toNat : Int) * 2) = ((v.toNat * 2 : Nat) : Int) := by rw [wrap64_of (by omega) (by omega)]; omega
  have hsh : (v <<< 1).toNat = v.toNat * 2 % 65536 := by rw [BitVec.toNat_shiftLeft, Nat.shiftLeft_eq]
  unfold crcTurn turn
  rw [hw]
  by_cases h : 32768 ≤ v.toNat
  · have hm : v.msb = true := by rw [BitVec.msb_eq_decide]; exact decide_eq_true (by simpa using h)
    rw [if_pos (by omega), if_pos hm, BitVec.toNat_xor, hsh]
    have e := xor_top (v.toNat * 2 - 65536) (by omega)
    rw [show 65536 + (v.toNat * 2 - 65536) = v.toNat * 2 by omega] at e
    have e2 : v.toNat * 2 % 65536 = v.toNat * 2 - 65536 := by omega
    rw [show (69665 : Int) = ((69665 : Nat) : Int) from rfl, bits_xor_nat _ _ (by omega) (by omega), e2, e]
    rw [show (4129#16).toNat = 4129 from rfl]
  · have hm : ¬ v.msb = true := by rw [BitVec.msb_eq_decide]; simp; omega
    rw [if_neg (by omega), if_neg hm, hsh]
    omega

theorem crcTurns_turns (n : Nat) (v : BitVec 16) : crcTurns n (v.toNat : Int) = ((turns n v).toNat : Int) := by
  induction n generalizing v with
  | zero => rfl
  | succ n ih => rw [crcTurns, crcTurn_turn, ih]; rfl

/-- A byte's place at the sum's upper end. -/
def up8 (b : UInt8) : BitVec 16 := BitVec.ofNat 16 (b.toNat * 256)
def byteB (v : BitVec 16) (b : UInt8) : BitVec 16 := turns 8 (v ^^^ up8 b)
def strB (v : BitVec 16) (s : List UInt8) : BitVec 16 := s.foldl byteB v

theorem crcByte_byteB (v : BitVec 16) (b : UInt8) : crcByte (v.toNat : Int) (b.toNat : Int) = ((byteB v b).toNat : Int) := by
  have hb := b.toNat_lt
  have hv := v.isLt
  have h1 : wrap64 (wrap64 (b.toNat : Int) * 256) = ((b.toNat * 256 : Nat) : Int) := by
    rw [wrap64_of (n := (b.toNat : Int)) (by omega) (by omega), wrap64_of (by omega) (by omega)]; omega
  have h2 : (up8 b).toNat = b.toNat * 256 := by
    unfold up8; rw [BitVec.toNat_ofNat]; exact Nat.mod_eq_of_lt (by omega)
  unfold crcByte byteB
  rw [h1, bits_xor_nat _ _ (by omega) (by omega), ← h2, ← BitVec.toNat_xor, crcTurns_turns]

theorem crcStr_strB (v : BitVec 16) (s : List UInt8) : crcStr (v.toNat : Int) s = ((strB v s).toNat : Int) := by
  induction s generalizing v with
  | nil => rfl
  | cons b s ih =>
    show crcStr (crcByte (v.toNat : Int) (b.toNat : Int)) s = _
    rw [crcByte_byteB, ih]; rfl

/-- The sum of bytes. -/
def sumB (s : List UInt8) : BitVec 16 := strB 65535#16 s
theorem sumB_append (s t : List UInt8) : sumB (s ++ t) = strB (sumB s) t := by simp [sumB, strB, List.foldl_append]
def sumI (s : List UInt8) : Int := ((sumB s).toNat : Int)
theorem sumI_lt (s : List UInt8) : 0 ≤ sumI s ∧ sumI s < 65536 := by
  have := (sumB s).isLt
  unfold sumI; omega
theorem crcRow_row (v : BitVec 16) (l : List ByteArray) : crcRow (v.toNat : Int) l = ((strB v (l.flatMap (·.data.toList))).toNat : Int) := by
  induction l generalizing v with
  | nil => rfl
  | cons a l ih =>
    show crcRow (crcStr (v.toNat : Int) a.data.toList) l = _
    rw [crcStr_strB, ih]
    simp [strB, List.foldl_append]
theorem Over_two (k : Nat) (a b : List UInt8) (ha : a.length ≤ 1000000) (hb : b.length ≤ 1000000) : sum_Over k [mkB a, mkB b] = some (sumI (a ++ b), ()) := by
  unfold sum_Over
  have h1 := crcRow_row 65535#16 [mkB a, mkB b]
  rw [show (((65535#16 : BitVec 16).toNat : Nat) : Int) = 65535 from rfl] at h1
  rw [h1]
  have e : (decide ([mkB a, mkB b].length ≤ 1000000000000) && [mkB a, mkB b].all (fun s => decide (s.size ≤ 9223372036854775807))) = true := by
    simp [mkB_size]; omega
  rw [e]
  show some (_, ()) = _
  have : [mkB a, mkB b].flatMap (fun x => x.data.toList) = a ++ b := by simp [mkB]
  rw [this]; rfl
theorem Of_ok (k : Nat) (a : List UInt8) (ha : a.length ≤ 1000000) : sum_Of k (mkB a) = some (sumI a, ()) := by
  unfold sum_Of
  rw [bif_t (by rw [mkB_size]; omega)]
  have h1 := crcStr_strB 65535#16 a
  rw [show (((65535#16 : BitVec 16).toNat : Nat) : Int) = 65535 from rfl] at h1
  show some (crcStr 65535 a, ()) = _
  rw [h1]; rfl
end Go.Proofs.Ytoeikeabbdnkbaa.A
