/- The document's sum is the same. -/
import Derived.Test.YtoeikeabbdnkbaaFnSegR
import Derived.Test.YtoeikeabbdnkbaaASumThy
namespace Go.Proofs.Ytoeikeabbdnkbaa.A
open Go Go.RowKit Go.Proofs.Ytoeikeabbdnkbaa.Ab
set_option linter.unusedVariables false
set_option linter.unusedSimpArgs false

theorem bit_of (x P : Nat) (hP : 0 < P) (hx : x < 131072) : Int.tmod (IntKind.i64.wrap (Int.tdiv (x : Int) (P : Int))) 2 = ((x / P % 2 : Nat) : Int) := by
  have hd : x / P ≤ x := Nat.div_le_self _ _
  rw [← Int.ofNat_tdiv]
  generalize x / P = q at hd ⊢
  rw [wrap_id (by omega) (by omega)]
  exact (Int.ofNat_tmod _ 2).symm
theorem bit_xor (a b i : Nat) : (a ^^^ b) / 2 ^ i % 2 = if a / 2 ^ i % 2 = b / 2 ^ i % 2 then 0 else 1 := by
  have hb2 : ∀ x : Nat, x / 2 ^ i % 2 = (x.testBit i).toNat := fun x => by
    rw [Nat.testBit_eq_decide_div_mod_eq]
    have : x / 2 ^ i % 2 < 2 := Nat.mod_lt _ (by decide)
    by_cases e : x / 2 ^ i % 2 = 1
    · rw [e]; rfl
    · rw [decide_eq_false e]; show _ = 0; omega
  rw [hb2, hb2, hb2, Nat.testBit_xor]
  cases a.testBit i <;> cases b.testBit i <;> rfl
theorem bit_split (x i d : Nat) : x / 2 ^ i % 2 ^ (d + 1) = x / 2 ^ i % 2 + 2 * (x / 2 ^ (i + 1) % 2 ^ d) := by
  rw [Nat.pow_succ 2 d, Nat.mul_comm (2 ^ d) 2, Nat.mod_mul, Nat.div_div_eq_div_mul, ← Nat.pow_succ]
theorem bit_same (o P t u : Nat) (h : t = 0 + 2 * u) : o + P * t = o + (2 * P) * u := by rw [h, Nat.zero_add, ← Nat.mul_assoc, Nat.mul_comm P 2]
theorem bit_other (o P t u : Nat) (h : t = 1 + 2 * u) : o + P * t = o + P + (2 * P) * u := by rw [h, Nat.mul_add, Nat.mul_one, ← Nat.mul_assoc, Nat.mul_comm P 2, Nat.add_assoc]

theorem unlike_bits (a b : Nat) (ha : a < 131072) (hb : b < 131072) (d : Nat) : ∀ (i : Nat) (o : Nat) (P : Nat), P = 2 ^ i → i + d = 16 → o < P →
    ∃ u v, Ev (fun k => ref02_Unlike_l1 (a : Int) (b : Int) k ((o : Int), (P : Int), (i : Int), ())) (.exit 0, (((o + P * (((a ^^^ b) / P) % 2 ^ d) : Nat)) : Int), u, v, ()) := by
  induction d with
  | zero =>
    intro i o P hP hi ho
    refine ⟨(P : Int), (i : Int), Ev.step (Ev.df (by show ¬ (i : Int) < 16; omega) ?_)⟩
    simp only [Nat.pow_zero, Nat.mod_one, Nat.mul_zero, Nat.add_zero]
    exact Ev.now _
  | succ d ih =>
    intro i o P hP hi ho
    have hp : 0 < P := by rw [hP]; exact Nat.two_pow_pos i
    have hp2 : P ≤ 32768 := by rw [hP]; show 2 ^ i ≤ 2 ^ 15; exact Nat.pow_le_pow_right (by decide) (by omega)
    have hs : 2 * P = 2 ^ (i + 1) := by rw [hP, Nat.pow_succ]; exact Nat.mul_comm _ _
    have w1 : IntKind.i64.wrap (2 * (P : Int)) = ((2 * P : Nat) : Int) := by rw [wrap_id (by omega) (by omega)]; omega
    have w2 : IntKind.i64.wrap ((i : Int) + 1) = ((i + 1 : Nat) : Int) := by rw [wrap_id (by omega) (by omega)]; omega
    have w3 : IntKind.i64.wrap ((o : Int) + (P : Int)) = ((o + P : Nat) : Int) := by rw [wrap_id (by omega) (by omega)]; omega
    have hsp := bit_split (a ^^^ b) i d
    have hx := bit_xor a b i
    rw [← hs, ← hP] at hsp
    rw [← hP] at hx
    have c0 : (i : Int) < 16 := by omega
    have c1 : ¬ (P : Int) = 0 := by omega
    by_cases e : a / P % 2 = b / P % 2
    · rw [if_pos e] at hx
      rw [hx] at hsp
      obtain ⟨u, v, ih⟩ := ih (i + 1) o (2 * P) hs (by omega) (by omega)
      rw [← bit_same o P _ _ hsp, ← w1, ← w2] at ih
      refine ⟨u, v, Ev.step (Ev.dt c0 (Ev.f (bne_i c1) (Ev.f (bne_i c1) (Ev.f (nbeq_i ?_) ih))))⟩
      show Int.tmod (IntKind.i64.wrap (Int.tdiv (a : Int) (P : Int))) 2 = Int.tmod (IntKind.i64.wrap (Int.tdiv (b : Int) (P : Int))) 2
      rw [bit_of a P hp ha, bit_of b P hp hb, e]
    · rw [if_neg e] at hx
      rw [hx] at hsp
      obtain ⟨u, v, ih⟩ := ih (i + 1) (o + P) (2 * P) hs (by omega) (by omega)
      rw [← bit_other o P _ _ hsp, ← w1, ← w2, ← w3] at ih
      refine ⟨u, v, Ev.step (Ev.dt c0 (Ev.f (bne_i c1) (Ev.f (bne_i c1) (Ev.t (nbne_i ?_) ih))))⟩
      show Int.tmod (IntKind.i64.wrap (Int.tdiv (a : Int) (P : Int))) 2 ≠ Int.tmod (IntKind.i64.wrap (Int.tdiv (b : Int) (P : Int))) 2
      rw [bit_of a P hp ha, bit_of b P hp hb]
      omega
theorem Unlike_ok (a b : Nat) (ha : a < 65536) (hb : b < 65536) : Ev (fun k => ref02_Unlike k (a : Int) (b : Int)) (((a ^^^ b : Nat) : Int), ()) := by
  obtain ⟨u, v, h⟩ := unlike_bits a b (by omega) (by omega) 16 0 0 1 rfl rfl (by decide)
  have hx : a ^^^ b < 2 ^ 16 := Nat.xor_lt_two_pow ha hb
  rw [Nat.div_one, Nat.mod_eq_of_lt hx, Nat.zero_add, Nat.one_mul] at h
  exact Ev.bind h (Ev.t rfl (Ev.now _))
theorem ref_turns (d : Nat) : ∀ (j : Nat) (v : BitVec 16), j + d = 8 →
    Ev (fun k => ref02_Step_l1 k ((v.toNat : Int), (j : Int), ())) (.exit 0, ((turns d v).toNat : Int), 8, ()) := by
  induction d with
  | zero =>
    intro j v hj
    obtain rfl : j = 8 := by omega
    exact Ev.step (Ev.df (by show ¬ ((8 : Nat) : Int) < 8; omega) (Ev.now _))
  | succ d ih =>
    intro j v hj
    have hv := v.isLt
    have ih := ih (j + 1) (turn v) (by omega)
    have w2 : IntKind.i64.wrap ((j : Int) + 1) = ((j + 1 : Nat) : Int) := by rw [wrap_id (by omega) (by omega)]; omega
    have hsh : (v <<< 1).toNat = v.toNat * 2 % 65536 := by rw [BitVec.toNat_shiftLeft, Nat.shiftLeft_eq]
    have w1 : IntKind.i64.wrap (2 * (v.toNat : Int)) = ((2 * v.toNat : Nat) : Int) := by rw [wrap_id (by omega) (by omega)]; omega
    have c0 : (j : Int) < 8 := by omega
    rw [← w2] at ih
    by_cases h : (v.toNat : Int) ≥ 32768
    · have hm : v.msb = true := by rw [BitVec.msb_eq_decide]; exact decide_eq_true (by simpa using (show 32768 ≤ v.toNat by omega))
      have ht : turn v = (v <<< 1) ^^^ 4129#16 := by unfold turn; rw [if_pos hm]
      have hu := Unlike_ok (v <<< 1).toNat 4129 (v <<< 1).isLt (by decide)
      rw [show ((v <<< 1).toNat ^^^ 4129) = (turn v).toNat by rw [ht, BitVec.toNat_xor]; rfl] at hu
      have e : Int.tmod (IntKind.i64.wrap (2 * (v.toNat : Int))) 65536 = (((v <<< 1).toNat : Nat) : Int) := by
        rw [w1, hsh, Nat.mul_comm]; exact (Int.ofNat_tmod _ 65536).symm
      rw [← e] at hu
      exact Ev.step (Ev.dt c0 (Ev.dt h (Ev.bind hu ih)))
    · have hm : ¬ v.msb = true := by rw [BitVec.msb_eq_decide]; simp; omega
      have ht : turn v = v <<< 1 := by unfold turn; rw [if_neg hm]
      have e : IntKind.i64.wrap (2 * (v.toNat : Int)) = ((turn v).toNat : Int) := by rw [w1, ht, hsh, Nat.mod_eq_of_lt (by omega), Nat.mul_comm]
      rw [← e] at ih
      exact Ev.step (Ev.dt c0 (Ev.df h ih))
theorem ref_Step (v : BitVec 16) (b : UInt8) : Ev (fun k => ref02_Step k (v.toNat : Int) (b.toNat : Int)) (((byteB v b).toNat : Int), true, ()) := by
  have hv := v.isLt
  have hl := b.toNat_lt
  have w : IntKind.i64.wrap (256 * IntKind.i64.wrap (b.toNat : Int)) = ((b.toNat * 256 : Nat) : Int) := by rw [wrap_id (n := (b.toNat : Int)) (by omega) (by omega), wrap_id (by omega) (by omega)]; omega
  have hup : (up8 b).toNat = b.toNat * 256 := by unfold up8; rw [BitVec.toNat_ofNat]; exact Nat.mod_eq_of_lt (by omega)
  have hu := Unlike_ok v.toNat (b.toNat * 256) (by omega) (by omega)
  rw [← w, ← hup, ← BitVec.toNat_xor] at hu
  refine Ev.df (by omega) (Ev.df (by omega) (Ev.bind hu (Ev.bind (ref_turns 8 0 _ rfl) (Ev.t rfl (Ev.now _)))))
theorem ref_Of_l (s : List UInt8) (hs : s.length ≤ 1000000) (d : Nat) : ∀ i : Nat, i + d = s.length → Ev (fun k => ref02_Of_l1 (mkB s) k (sumI (s.take i), (i : Int), ())) (.exit 0, sumI s, (s.length : Int), ()) := by
  have hsz := mkB_size s
  induction d with
  | zero =>
    intro i hi
    obtain rfl : i = s.length := by omega
    refine Ev.step (Ev.df (by show ¬ (s.length : Int) < _; omega) ?_)
    rw [List.take_length]
    exact Ev.now _
  | succ d ih =>
    intro i hi
    have hlt : i < s.length := by omega
    have w2 := wrap_succ (i := i) (by omega)
    have hr := ref_Step (sumB (s.take i)) s[i]
    have e : sumB (s.take (i + 1)) = byteB (sumB (s.take i)) s[i] := by rw [List.take_succ_eq_append_getElem hlt, sumB_append]; rfl
    rw [← e, ← byteAt_mk s i hlt] at hr
    have c0 : (i : Int) < ((mkB s).size : Int) := by omega
    have c1 : (0 : Int) ≤ (i : Int) := by omega
    have ih := ih (i + 1) (by omega)
    rw [← w2] at ih
    exact Ev.step (Ev.dt c0 (Ev.dt c1 (Ev.dt c0 (Ev.bind hr ih))))
theorem ref_Of (s : List UInt8) (hs : s.length ≤ 1000000) : Ev (fun k => ref02_Of k (mkB s)) (sumI s, ()) :=
  Ev.bind (ref_Of_l s hs s.length 0 (by omega)) (Ev.t rfl (Ev.now _))
end Go.Proofs.Ytoeikeabbdnkbaa.A
