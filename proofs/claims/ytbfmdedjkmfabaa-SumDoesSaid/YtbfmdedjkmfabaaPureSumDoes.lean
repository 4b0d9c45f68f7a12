/- SumDoes: for every number, byte and text within the law's bound the printed functions answer as the document's. -/
import Derived.Test.YtbfmdedjkmfabaaSumLaw
import Derived.Test.YtbfmdedjkmfabaaQx5
set_option linter.unusedVariables false
set_option linter.unusedSimpArgs false
namespace Go.Proofs.Ytbfmdedjkmfabaa.Pure
open Go.RowKit Go.Proofs.Ytbfmdedjkmfabaa.Q Go.Proofs.YtbfmdedjkmfabaaW.PrintWords Go.Proofs.YtbfmdedjkmfabaaW.PrintLast

theorem bit_of (x P : Nat) (hP : 0 < P) (hx : x < 131072) : Int.tmod (wrap64 (Int.tdiv (x : Int) (P : Int))) 2 = ((x / P % 2 : Nat) : Int) := by
  have hd : x / P ≤ x := Nat.div_le_self _ _
  rw [← Int.ofNat_tdiv]
  generalize x / P = q at hd ⊢
  rw [wrap64_of (by omega) (by omega)]
  exact (Int.ofNat_tmod _ 2).symm
theorem bit_xor (a b i : Nat) : (a ^^^ b) / 2 ^ i % 2 = if a / 2 ^ i % 2 = b / 2 ^ i % 2 then 0 else 1 := by
  have hb2 : ∀ x : Nat, x / 2 ^ i % 2 = (x.testBit i).toNat := fun x => by
    rw [Nat.testBit_eq_decide_div_mod_eq]
    have : x / 2 ^ i % 2 < 2 := Nat.mod_lt _ (by decide)
    by_cases e : x / 2 ^ i % 2 = 1
    · rw [e]; rfl
    · rw [decide_eq_false e]; show _ = 0; omega
  rw [hb2, hb2, hb2, Nat.testBit_xor]
  cases a.testBit i <;> cases b.testBit i <;> rfl
theorem bit_split (x i d : Nat) : x / 2 ^ i % 2 ^ (d + 1) = x / 2 ^ i % 2 + 2 * (x / 2 ^ (i + 1) % 2 ^ d) := by
  rw [Nat.pow_succ 2 d, Nat.mul_comm (2 ^ d) 2, Nat.mod_mul, Nat.div_div_eq_div_mul, ← Nat.pow_succ]
theorem bit_same (o P t u : Nat) (h : t = 0 + 2 * u) : o + P * t = o + (2 * P) * u := by rw [h, Nat.zero_add, ← Nat.mul_assoc, Nat.mul_comm P 2]
theorem bit_other (o P t u : Nat) (h : t = 1 + 2 * u) : o + P * t = o + P + (2 * P) * u := by rw [h, Nat.mul_add, Nat.mul_one, ← Nat.mul_assoc, Nat.mul_comm P 2, Nat.add_assoc]

/-- The reference's unlike bits: bit by bit from some bit on. -/
theorem unlike_bits (a b : Nat) (ha : a < 131072) (hb : b < 131072) (d : Nat) : ∀ (i : Nat) (o : Nat) (P : Nat), P = 2 ^ i → i + d = 16 → o < P →
    Ev (fun k => watchmanref02_Unlike.l0 k (a : Int) (b : Int) (o : Int) (P : Int) (i : Int)) (((o + P * (((a ^^^ b) / P) % 2 ^ d) : Nat)) : Int) := by
  induction d with
  | zero =>
    intro i o P hP hi ho
    refine Ev.step (f := fun _ => some ((o : Nat) : Int)) (fun k => ?_) ?_
    · rw [watchmanref02_Unlike.l0, if_neg (by omega)]
    · simp only [Nat.pow_zero, Nat.mod_one, Nat.mul_zero, Nat.add_zero]
      exact Ev.now _
  | succ d ih =>
    intro i o P hP hi ho
    have hp : 0 < P := by rw [hP]; exact Nat.two_pow_pos i
    have hp2 : P ≤ 32768 := by rw [hP]; show 2 ^ i ≤ 2 ^ 15; exact Nat.pow_le_pow_right (by decide) (by omega)
    have hs : 2 * P = 2 ^ (i + 1) := by rw [hP, Nat.pow_succ]; exact Nat.mul_comm _ _
    have w1 : wrap64 (2 * (P : Int)) = ((2 * P : Nat) : Int) := by rw [wrap64_of (by omega) (by omega)]; omega
    have w2 : wrap64 ((i : Int) + 1) = ((i + 1 : Nat) : Int) := by rw [wrap64_of (by omega) (by omega)]; omega
    have w3 : wrap64 ((o : Int) + (P : Int)) = ((o + P : Nat) : Int) := by rw [wrap64_of (by omega) (by omega)]; omega
    have hsp := bit_split (a ^^^ b) i d
    have hx := bit_xor a b i
    rw [← hs, ← hP] at hsp
    rw [← hP] at hx
    by_cases e : a / P % 2 = b / P % 2
    · rw [if_pos e] at hx
      rw [hx] at hsp
      have ih := ih (i + 1) o (2 * P) hs (by omega) (by omega)
      rw [bit_same o P _ _ hsp]
      refine Ev.step (fun k => ?_) ih
      rw [watchmanref02_Unlike.l0, if_pos (by omega), if_neg (by omega), bit_of a P hp ha, bit_of b P hp hb, if_pos (by rw [e]), w1, w2]
    · rw [if_neg e] at hx
      rw [hx] at hsp
      have ih := ih (i + 1) (o + P) (2 * P) hs (by omega) (by omega)
      rw [bit_other o P _ _ hsp]
      refine Ev.step (fun k => ?_) ih
      rw [watchmanref02_Unlike.l0, if_pos (by omega), if_neg (by omega), bit_of a P hp ha, bit_of b P hp hb, if_neg (by omega), w1, w2, w3]

theorem Unlike_ok (a b : Nat) (ha : a < 65536) (hb : b < 65536) : Ev (fun k => watchmanref02_Unlike.f k (a : Int) (b : Int)) ((a ^^^ b : Nat) : Int) := by
  have h := unlike_bits a b (by omega) (by omega) 16 0 0 1 rfl rfl (by decide)
  have hx : a ^^^ b < 2 ^ 16 := Nat.xor_lt_two_pow ha hb
  rw [Nat.div_one, Nat.mod_eq_of_lt hx, Nat.zero_add, Nat.one_mul] at h
  exact Ev.congr (fun k => rfl) h

theorem ref_turns (d : Nat) : ∀ (j : Nat) (v : BitVec 16), j + d = 8 →
    Ev (fun k => watchmanref02_Step.l0 k (v.toNat : Int) (j : Int)) (((turns d v).toNat : Int), true) := by
  induction d with
  | zero =>
    intro j v hj
    refine Ev.step (fun k => ?_) (Ev.now _)
    rw [watchmanref02_Step.l0, if_neg (by omega)]
    rfl
  | succ d ih =>
    intro j v hj
    have hv := v.isLt
    have ih := ih (j + 1) (turn v) (by omega)
    have w2 : wrap64 ((j : Int) + 1) = ((j + 1 : Nat) : Int) := by rw [wrap64_of (by omega) (by omega)]; omega
    have hsh : (v <<< 1).toNat = v.toNat * 2 % 65536 := by rw [BitVec.toNat_shiftLeft, Nat.shiftLeft_eq]
    have w1 : wrap64 (2 * (v.toNat : Int)) = ((2 * v.toNat : Nat) : Int) := by rw [wrap64_of (by omega) (by omega)]; omega
    by_cases h : (v.toNat : Int) ≥ 32768
    · have hm : v.msb = true := by rw [BitVec.msb_eq_decide]; exact decide_eq_true (by simpa using (show 32768 ≤ v.toNat by omega))
      have ht : turn v = (v <<< 1) ^^^ 4129#16 := by unfold turn; rw [if_pos hm]
      have hu := Unlike_ok (v <<< 1).toNat 4129 (v <<< 1).isLt (by decide)
      rw [show ((v <<< 1).toNat ^^^ 4129) = (turn v).toNat by rw [ht, BitVec.toNat_xor]; rfl] at hu
      have e : Int.tmod ((2 * v.toNat : Nat) : Int) 65536 = (((v <<< 1).toNat : Nat) : Int) := by
        rw [hsh, Nat.mul_comm]; exact (Int.ofNat_tmod _ 65536).symm
      refine Ev.step (fun k => ?_) (Ev.bind (f := fun k (t : Int) => watchmanref02_Step.l0 k t ((j + 1 : Nat) : Int)) hu ih)
      rw [watchmanref02_Step.l0, if_pos (by omega), if_pos h, w1, w2, e]
      rfl
    · have hm : ¬ v.msb = true := by rw [BitVec.msb_eq_decide]; simp; omega
      have ht : turn v = v <<< 1 := by unfold turn; rw [if_neg hm]
      refine Ev.step (fun k => ?_) ih
      rw [watchmanref02_Step.l0, if_pos (by omega), if_neg h, w1, w2, ht, hsh, Nat.mod_eq_of_lt (by omega), Nat.mul_comm]

theorem ref_Step (v : BitVec 16) {b : Int} (h0 : 0 ≤ b) (h1 : b ≤ 255) : Ev (fun k => watchmanref02_Step.f k (v.toNat : Int) b) (((byteB v (UInt8.ofNat b.toNat)).toNat : Int), true) := by
  have hv := v.isLt
  have hb := u8_of h0 h1
  have hl := (UInt8.ofNat b.toNat).toNat_lt
  have w : wrap64 (256 * wrap64 b) = (((UInt8.ofNat b.toNat).toNat * 256 : Nat) : Int) := by rw [wrap64_of (n := b) (by omega) (by omega), wrap64_of (by omega) (by omega)]; omega
  have hup : (up8 (UInt8.ofNat b.toNat)).toNat = (UInt8.ofNat b.toNat).toNat * 256 := by unfold up8; rw [BitVec.toNat_ofNat]; exact Nat.mod_eq_of_lt (by omega)
  have hu := Unlike_ok v.toNat ((UInt8.ofNat b.toNat).toNat * 256) (by omega) (by omega)
  rw [← hup, ← BitVec.toNat_xor] at hu
  refine Ev.congr (g := fun k => watchmanref02_Step.f k (v.toNat : Int) b) (f := fun k => watchmanref02_Step.j0 k (v.toNat : Int) b false) (fun k => ?_) ?_
  · unfold watchmanref02_Step.f
    rw [if_neg (by omega), decide_eq_false (by omega)]
  · refine Ev.step (fun k => ?_) (Ev.bind (f := fun k (t : Int) => watchmanref02_Step.l0 k t 0) hu (ref_turns 8 0 _ rfl))
    rw [watchmanref02_Step.j0, if_neg (by simp), w, hup]

theorem ref_Step_no {c b : Int} (h : c < 0 ∨ 65536 ≤ c) : Ev (fun k => watchmanref02_Step.f k c b) (0, false) := by
  have yes : Ev (fun k => watchmanref02_Step.j0 k c b true) (0, false) := Ev.step (fun k => by rw [watchmanref02_Step.j0, if_pos rfl]) (Ev.now _)
  by_cases h0 : c < 0
  · exact Ev.congr (fun k => by unfold watchmanref02_Step.f; rw [if_pos h0]) yes
  · exact Ev.congr (fun k => by unfold watchmanref02_Step.f; rw [if_neg h0, decide_eq_true (by omega)]) yes

theorem bt_take (s : ByteArray) (i : Nat) (h : i < s.size) : sumB (s.data.toList.take (i + 1)) = byteB (sumB (s.data.toList.take i)) (UInt8.ofNat (bt s (i : Int)).toNat) := by
  have hl : i < s.data.toList.length := by rw [size_toList]; exact h
  rw [List.take_succ_eq_append_getElem hl, sumB_append]
  have e : bt s (i : Int) = ((s.data.toList[i]).toNat : Int) := by
    unfold bt
    rw [dif_pos (by simpa using h)]
    simp
    rfl
  rw [e]
  simp [strB]

theorem ref_Of (s : ByteArray) (hs : s.size ≤ 400) (d : Nat) : ∀ i : Nat, i + d = s.size → Ev (fun k => watchmanref02_Of.l0 k s (sumI (s.data.toList.take i)) (i : Int)) (sumI s.data.toList) := by
  induction d with
  | zero =>
    intro i hi
    refine Ev.step (f := fun _ => some (sumI s.data.toList)) (fun k => ?_) (Ev.now _)
    rw [watchmanref02_Of.l0, if_neg (by omega), List.take_of_length_le (by rw [size_toList]; omega)]
  | succ d ih =>
    intro i hi
    have w2 : wrap64 ((i : Int) + 1) = ((i + 1 : Nat) : Int) := by rw [wrap64_of (by omega) (by omega)]; omega
    have hr := ref_Step (sumB (s.data.toList.take i)) (bt_range s (i : Int)).1 (bt_range s (i : Int)).2
    rw [← bt_take s i (by omega)] at hr
    refine Ev.step (fun k => ?_) (Ev.bind (f := fun k (t : Int × Bool) => watchmanref02_Of.l0 k s t.1 ((i + 1 : Nat) : Int)) hr (ih (i + 1) (by omega)))
    rw [watchmanref02_Of.l0, if_pos (by omega), if_pos (by omega), w2]
    rfl

theorem ref_Find (s : ByteArray) (c most : Int) (hs : s.size ≤ 400) (r : Int) (b : Bool) (d : Nat) : ∀ i : Nat, s.size + 1 - i = d → i ≤ s.size + 1 → FindIs s.data.toList c most i r b →
    Ev (fun k => watchmanref02_Find.l0 k s c most (sumI (s.data.toList.take i)) (i : Int)) (r, b) := by
  have fin : ∀ (x : Int) (i : Nat), ¬ ((i : Int) ≤ most ∧ i ≤ s.size) → FindIs s.data.toList c most i r b → Ev (fun k => watchmanref02_Find.j1 k s c most x (i : Int) false) (r, b) := fun x i hi hf => by
    rcases hf with ⟨rfl, j, rfl, h1, h2, h3, h4, h5⟩ | ⟨rfl, rfl, h1⟩
    · rw [size_toList] at h2; omega
    · refine Ev.step (fun k => ?_) (Ev.now _)
      rw [watchmanref02_Find.j1, if_neg (by simp)]
  induction d with
  | zero =>
    intro i hd hi hf
    refine Ev.step (f := fun k => watchmanref02_Find.j1 k s c most (sumI (s.data.toList.take i)) (i : Int) false) (fun k => ?_) (fin _ i (by omega) hf)
    rw [watchmanref02_Find.l0, if_neg (by omega)]
  | succ d ih =>
    intro i hd hi hf
    refine Ev.step (f := fun k => watchmanref02_Find.j1 k s c most (sumI (s.data.toList.take i)) (i : Int) (decide ((i : Int) ≤ most))) (fun k => ?_) ?_
    · rw [watchmanref02_Find.l0, if_pos (by omega)]
    by_cases hm : (i : Int) ≤ most
    · rw [decide_eq_true hm]
      by_cases hc : sumI (s.data.toList.take i) = c
      · rcases hf with ⟨rfl, j, rfl, h1, h2, h3, h4, h5⟩ | ⟨rfl, rfl, h1⟩
        · have e : j = i := by
            by_cases e : j = i
            · exact e
            · exact absurd hc (h5 i (by omega) (by omega))
          subst e
          refine Ev.step (fun k => ?_) (Ev.now _)
          rw [watchmanref02_Find.j1, if_pos rfl, if_pos hc]
        · exact absurd hc (h1 i (by omega) (by rw [size_toList]; omega) hm)
      · have hf2 : FindIs s.data.toList c most (i + 1) r b := by
          rcases hf with ⟨rfl, j, rfl, h1, h2, h3, h4, h5⟩ | ⟨rfl, rfl, h1⟩
          · have e : j ≠ i := fun e => hc (by rw [← e]; exact h4)
            exact .inl ⟨rfl, j, rfl, by omega, h2, h3, h4, fun m hm1 hm2 => h5 m (by omega) hm2⟩
          · exact .inr ⟨rfl, rfl, fun m hm1 hm2 hm3 => h1 m (by omega) hm2 hm3⟩
        have ih := ih (i + 1) (by omega) (by omega) hf2
        have w2 : wrap64 ((i : Int) + 1) = ((i + 1 : Nat) : Int) := by rw [wrap64_of (by omega) (by omega)]; omega
        by_cases hi2 : i < s.size
        · have hr := ref_Step (sumB (s.data.toList.take i)) (bt_range s (i : Int)).1 (bt_range s (i : Int)).2
          rw [← bt_take s i hi2] at hr
          refine Ev.step (fun k => ?_) (Ev.bind (f := fun k (t : Int × Bool) => watchmanref02_Find.l0 k s c most t.1 ((i + 1 : Nat) : Int)) hr ih)
          rw [watchmanref02_Find.j1, if_pos rfl, if_neg hc, if_pos (by omega), if_pos (by omega), w2]
          rfl
        · refine Ev.step (fun k => ?_) ih
          rw [watchmanref02_Find.j1, if_pos rfl, if_neg hc, if_neg (by omega), w2]
          rw [List.take_of_length_le (i := i) (by rw [size_toList]; omega), List.take_of_length_le (i := i + 1) (by rw [size_toList]; omega)]
    · rw [decide_eq_false hm]
      exact fin _ i (by omega) hf

theorem SumDoes : watchmanlaw02_SumDoes.Pure := by
  intro c b s most hc hb hs hm
  have ⟨b0, b1⟩ := u8_wf hb
  by_cases h : (s.size : Int) > 400
  · exact ⟨0, by unfold watchmanlaw02_SumDoes.f; rw [if_pos h]⟩
  obtain ⟨x, hx, hx2⟩ : ∃ x : Int × Bool, sum_Step.f c b = some x ∧ Ev (fun k => watchmanref02_Step.f k c b) x := by
    by_cases hr : c < 0 ∨ 65536 ≤ c
    · refine ⟨(0, false), ?_, ref_Step_no hr⟩
      unfold sum_Step.f
      by_cases h0 : c < 0
      · rw [if_pos h0]
      · rw [if_neg h0, if_pos (by omega)]
    · obtain ⟨v, rfl⟩ : ∃ v : BitVec 16, (v.toNat : Int) = c := ⟨BitVec.ofNat 16 c.toNat, by rw [BitVec.toNat_ofNat, Nat.mod_eq_of_lt (by omega)]; omega⟩
      exact ⟨_, Step_sum v b0 b1, ref_Step v b0 b1⟩
  obtain ⟨r, q, hf, he⟩ := Find_ok s c most hs
  have hg : Ev (fun k => watchmanref02_Find.f k s c most) (r, q) := ref_Find s c most (by omega) r q _ 0 rfl (by omega) hf
  have ho : Ev (fun k => watchmanref02_Of.f k s) (sumI s.data.toList) := ref_Of s (by omega) s.size 0 (by omega)
  have all := Ev.bind (f := fun k (bt165 : Int × Bool) => (sum_Find.f k s c most).bind fun bt167 => ((watchmanref02_Find.f k s c most).bind fun bt169 => ((watchmanlaw02_summed.f k).bind fun t171 => (if t171 = true then (if x.1 = bt165.1 then (if (x.2 == bt165.2) = true then ((watchmanref02_Of.f k s).bind fun t173 => (if sumI s.data.toList = t173 then (if bt167.1 = bt169.1 then (some (bt167.2 == bt169.2)) else (some false)) else (some false))) else (some false)) else (some false)) else (some false))))) hx2
    (Ev.bind (f := fun k (bt167 : Int × Bool) => (watchmanref02_Find.f k s c most).bind fun bt169 => ((watchmanlaw02_summed.f k).bind fun t171 => (if t171 = true then (if x.1 = x.1 then (if (x.2 == x.2) = true then ((watchmanref02_Of.f k s).bind fun t173 => (if sumI s.data.toList = t173 then (if bt167.1 = bt169.1 then (some (bt167.2 == bt169.2)) else (some false)) else (some false))) else (some false)) else (some false)) else (some false)))) he
    (Ev.bind (f := fun k (bt169 : Int × Bool) => (watchmanlaw02_summed.f k).bind fun t171 => (if t171 = true then (if x.1 = x.1 then (if (x.2 == x.2) = true then ((watchmanref02_Of.f k s).bind fun t173 => (if sumI s.data.toList = t173 then (if r = bt169.1 then (some (q == bt169.2)) else (some false)) else (some false))) else (some false)) else (some false)) else (some false))) hg
    (Ev.bind (f := fun k (t171 : Bool) => if t171 = true then (if x.1 = x.1 then (if (x.2 == x.2) = true then ((watchmanref02_Of.f k s).bind fun t173 => (if sumI s.data.toList = t173 then (if r = r then (some (q == q)) else (some false)) else (some false))) else (some false)) else (some false)) else (some false)) summed_ok
    (Ev.congr (fun k => by rw [if_pos rfl, if_pos rfl, if_pos (by simp)]) (Ev.bind (f := fun k (t173 : Int) => if sumI s.data.toList = t173 then (if r = r then (some (q == q)) else (some false)) else (some false)) ho (Ev.congr (fun k => by rw [if_pos rfl, if_pos rfl, beq_self_eq_true]) (Ev.now true)))))))
  refine (Ev.congr (fun k => ?_) all).rounds
  unfold watchmanlaw02_SumDoes.f
  rw [if_neg h, hx, Of_ok s (by omega)]
  rfl
end Go.Proofs.Ytbfmdedjkmfabaa.Pure
