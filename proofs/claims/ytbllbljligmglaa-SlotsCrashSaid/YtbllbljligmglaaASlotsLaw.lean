/- Slots' laws: what a Save turns in what is told. -/
import Derived.Test.YtbllbljligmglaaASlotsThy
namespace Go.Proofs.Ytbllbljligmglaa.A
open Go Go.Proofs.Ytbllbljligmglaa.Ab
set_option linter.unusedVariables false
set_option linter.unusedSimpArgs false

theorem far_ok (m : Int) (a b : ByteArray) (m' : Int) (c d t : ByteArray) : ∃ x, Ev (fun k => law15_far k (S6 m a b m' c d) t) (x, ()) ∧ (x = false → smallS a b c d ∧ t.size ≤ 1100) := by
  have big : Ev (fun k => ref15_Big k (S6 m a b m' c d)) (decide (a.size > 2000 ∨ b.size > 2000) || decide (c.size > 2000 ∨ d.size > 2000), ()) := by
    refine Ev.bind (Ev.all fun k => rBig_ok k m a b) ?_
    cases g : decide (a.size > 2000 ∨ b.size > 2000) with
    | true => exact Ev.t rfl (Ev.now _)
    | false => exact Ev.f rfl (Ev.bind (Ev.all fun k => rBig_ok k m' c d) (Ev.now _))
  cases g : (decide (a.size > 2000 ∨ b.size > 2000) || decide (c.size > 2000 ∨ d.size > 2000)) with
  | true => rw [g] at big; exact ⟨true, Ev.bind big (Ev.t rfl (Ev.now _)), fun h => by cases h⟩
  | false =>
    rw [g] at big
    rw [Bool.or_eq_false_iff] at g
    have g1 := of_decide_eq_false g.1
    have g2 := of_decide_eq_false g.2
    have sm : smallS a b c d := ⟨by omega, by omega, by omega, by omega⟩
    by_cases h1 : (t.size : Int) > 300
    · by_cases h2 : (t.size : Int) ≤ 1000
      · exact ⟨true, Ev.bind big (Ev.f rfl (Ev.dt h1 (Ev.dt h2 (Ev.now _)))), fun h => by cases h⟩
      · exact ⟨_, Ev.bind big (Ev.f rfl (Ev.dt h1 (Ev.df h2 (Ev.now _)))), fun h => ⟨sm, by have := of_decide_eq_false h; omega⟩⟩
    · exact ⟨_, Ev.bind big (Ev.f rfl (Ev.df h1 (Ev.now _))), fun h => ⟨sm, by have := of_decide_eq_false h; omega⟩⟩
theorem same6 (x : ST) : (x.1 == x.1 && (x.2.1.toList == x.2.1.toList && (x.2.2.1.toList == x.2.2.1.toList && true)) && (x.2.2.2.1 == x.2.2.2.1 && (x.2.2.2.2.1.toList == x.2.2.2.2.1.toList && (x.2.2.2.2.2.1.toList == x.2.2.2.2.2.1.toList && true)) && true)) = true := by simp
theorem better_at0 {X Y : Option NT} (h : (betterO X Y).2.2 = 0) : ∃ p, X = some p ∧ betterO X Y = (p.2, p.1, 0) := by
  cases X with
  | none => cases Y with
    | none => exact absurd h (by decide)
    | some q => exact absurd h (by show ¬ (1 : Int) = 0; decide)
  | some p =>
    refine ⟨p, rfl, ?_⟩
    cases Y with
    | none => rfl
    | some q =>
      have e : betterO (some p) (some q) = if q.1 > p.1 then (q.2, q.1, 1) else (p.2, p.1, 0) := rfl
      rw [e] at h ⊢
      by_cases g : q.1 > p.1
      · rw [if_pos g] at h; exact absurd h (by show ¬ (1 : Int) = 0; decide)
      · rw [if_neg g]
theorem better_at1 {X Y : Option NT} (h : (betterO X Y).2.2 ≠ 0) : betterO none Y = betterO X Y ∧ ∀ q, Y = some q → q.1 ≤ (betterO X Y).2.1 := by
  cases X with
  | none => cases Y with
    | none => exact ⟨rfl, fun q h => by cases h⟩
    | some q => exact ⟨rfl, fun q' h => by obtain rfl := Option.some.inj h; exact Int.le_refl _⟩
  | some p =>
    cases Y with
    | none => exact absurd rfl h
    | some q =>
      have e : betterO (some p) (some q) = if q.1 > p.1 then (q.2, q.1, 1) else (p.2, p.1, 0) := rfl
      rw [e] at h ⊢
      by_cases g : q.1 > p.1
      · rw [if_pos g]; exact ⟨rfl, fun q' h => by obtain rfl := Option.some.inj h; exact Int.le_refl _⟩
      · rw [if_neg g] at h; exact absurd rfl h
theorem better_new0 (p : NT) (t : List UInt8) : betterO (some p) (some (p.1 + 1, t)) = (t, p.1 + 1, 1) := by
  show (if p.1 + 1 > p.1 then _ else _) = _
  rw [if_pos (by omega)]
theorem better_new1 (n : Int) (t : List UInt8) (Y : Option NT) (h : ∀ q, Y = some q → q.1 ≤ n) : betterO (some (n + 1, t)) Y = (t, n + 1, 0) := by
  cases Y with
  | none => rfl
  | some q =>
    have := h q rfl
    show (if q.1 > n + 1 then _ else _) = _
    rw [if_neg (by omega)]
theorem noteO_next {n : Int} {t : ByteArray} (h0 : 0 ≤ n) (h1 : n < 1000000000) (ht : t.size ≤ 1000) : noteO (nextB n t).data.toList = some (n + 1, t.data.toList) := noteO_of (next_ok h0 h1 ht)
theorem noteO_part {n : Int} {t : ByteArray} (h0 : 0 ≤ n) (h1 : n < 1000000000) (ht : t.size ≤ 1000) {i : Nat} (hi : i < (nextB n t).size) : noteO ((nextB n t).extract 0 i).data.toList = none := by
  rw [bytes_extract, List.drop_zero]
  refine noteO_cut (next_ok h0 h1 ht) (b := (nextB n t).data.toList.drop i) (List.take_append_drop _ _) (fun e => ?_)
  have := congrArg List.length e
  rw [List.length_drop, size_toList] at this
  simp at this; omega
/-- A good Save: what slots tell behind it, whole; and cut at i bytes. -/
theorem best_new (a b c d : ByteArray) (t : ByteArray) (h1 : (bestS a b c d).2.1 < 1000000000) (ht : t.size ≤ 1000) :
    ((bestS a b c d).2.2 = 0 → (∀ x y, x ++ y = nextB (bestS a b c d).2.1 t → bestS a b x y = (t.data.toList, (bestS a b c d).2.1 + 1, 1)) ∧ ∀ i, i < (nextB (bestS a b c d).2.1 t).size → ∀ x y, x ++ y = (nextB (bestS a b c d).2.1 t).extract 0 i → bestS a b x y = bestS a b c d) ∧
    ((bestS a b c d).2.2 ≠ 0 → (∀ x y, x ++ y = nextB (bestS a b c d).2.1 t → bestS x y c d = (t.data.toList, (bestS a b c d).2.1 + 1, 0)) ∧ ∀ i, i < (nextB (bestS a b c d).2.1 t).size → ∀ x y, x ++ y = (nextB (bestS a b c d).2.1 t).extract 0 i → bestS x y c d = bestS a b c d) := by
  have h0 := (best_n a b c d).1
  obtain ⟨n, hn⟩ : ∃ n, (bestS a b c d).2.1 = n := ⟨_, rfl⟩
  rw [hn] at h0 h1 ⊢
  constructor
  · intro hat
    obtain ⟨p, hX, hp⟩ := better_at0 hat
    have hpn : p.1 = n := by rw [← hn]; exact (congrArg (fun z : List UInt8 × Int × Int => z.2.1) hp).symm
    constructor
    · intro x y hxy
      unfold bestS
      rw [hxy, hX, noteO_next h0 h1 ht, ← hpn]
      exact better_new0 p _
    · intro i hi x y hxy
      have e : bestS a b x y = betterO (some p) none := by unfold bestS; rw [hxy, hX, noteO_part h0 h1 ht hi]
      rw [e]; exact hp.symm
  · intro hat
    obtain ⟨hY, hq⟩ := better_at1 hat
    constructor
    · intro x y hxy
      unfold bestS
      rw [hxy, noteO_next h0 h1 ht]
      exact better_new1 n _ _ (fun q hq2 => by rw [← hn]; exact hq q hq2)
    · intro i hi x y hxy
      have e : bestS x y c d = betterO none (noteO (c ++ d).data.toList) := by unfold bestS; rw [hxy, noteO_part h0 h1 ht hi]
      rw [e]; exact hY
theorem okS_new0 {m : Int} {a b c d x y : ByteArray} (g : okS m a b m c d = true) (h : ((x.size + y.size : Nat) : Int) ≤ m) : okS m a b m x y = true := by
  obtain ⟨g1, g2, _⟩ := okS_bd g
  have b1 := okF_bd g1
  unfold okS
  rw [g1, show okF m x y = true from decide_eq_true ⟨b1.1, b1.2.1, h⟩]
  simp
theorem okS_new1 {m : Int} {a b c d x y : ByteArray} (g : okS m a b m c d = true) (h : ((x.size + y.size : Nat) : Int) ≤ m) : okS m x y m c d = true := by
  obtain ⟨g1, g2, _⟩ := okS_bd g
  have b1 := okF_bd g1
  unfold okS
  rw [g2, show okF m x y = true from decide_eq_true ⟨b1.1, b1.2.1, h⟩]
  simp
/-- A Save is refused, or it is one of these. -/
theorem save_cases (m : Int) (a b : ByteArray) (m' : Int) (c d : ByteArray) (t : ByteArray) (deeds : Int) :
    (∃ e, e ≠ 0 ∧ saveS m a b m' c d t deeds = (ZS, false, e, ())) ∨
    (okS m a b m' c d = true ∧ m = m' ∧ t.size ≤ 1000 ∧ (bestS a b c d).2.1 < 1000000000 ∧ ((nextB (bestS a b c d).2.1 t).size : Int) ≤ m ∧
      ((deeds = 0 ∧ saveS m a b m' c d t deeds = (S6 m a b m' c d, false, 0, ())) ∨
       (deeds = 1 ∧ (bestS a b c d).2.2 = 0 ∧ saveS m a b m' c d t deeds = (S6 m a b m' EB (nextB (bestS a b c d).2.1 t), false, 0, ())) ∨
       (deeds = 1 ∧ (bestS a b c d).2.2 ≠ 0 ∧ saveS m a b m' c d t deeds = (S6 m EB (nextB (bestS a b c d).2.1 t) m' c d, false, 0, ())) ∨
       (deeds ≠ 0 ∧ deeds ≠ 1 ∧ (bestS a b c d).2.2 = 0 ∧ saveS m a b m' c d t deeds = (S6 m a b m' (nextB (bestS a b c d).2.1 t) EB, true, 0, ())) ∨
       (deeds ≠ 0 ∧ deeds ≠ 1 ∧ (bestS a b c d).2.2 ≠ 0 ∧ saveS m a b m' c d t deeds = (S6 m (nextB (bestS a b c d).2.1 t) EB m' c d, true, 0, ())))) := by
  have hn := (best_n a b c d).2
  unfold saveS
  by_cases g : okS m a b m' c d = false
  · rw [if_pos g]; exact .inl ⟨1, by decide, rfl⟩
  · rw [if_neg g]
    by_cases h1 : t.size > 1000 ∨ (bestS a b c d).2.1 = 1000000000
    · rw [if_pos h1]; exact .inl ⟨2, by decide, rfl⟩
    · rw [if_neg h1]
      by_cases h3 : ((nextB (bestS a b c d).2.1 t).size : Int) > m
      · rw [if_pos h3]; exact .inl ⟨81, by decide, rfl⟩
      · rw [if_neg h3]
        have g' : okS m a b m' c d = true := by simpa using g
        refine .inr ⟨g', (okS_bd g').2.2, by omega, by omega, by omega, ?_⟩
        by_cases h5 : deeds = 0
        · rw [if_pos h5]; exact .inl ⟨h5, rfl⟩
        · rw [if_neg h5]
          by_cases h6 : deeds = 1
          · rw [if_pos h6]
            by_cases h4 : (bestS a b c d).2.2 = 0
            · rw [if_pos h4]; exact .inr (.inl ⟨h6, h4, rfl⟩)
            · rw [if_neg h4]; exact .inr (.inr (.inl ⟨h6, h4, rfl⟩))
          · rw [if_neg h6]
            by_cases h4 : (bestS a b c d).2.2 = 0
            · rw [if_pos h4]; exact .inr (.inr (.inr (.inl ⟨h5, h6, h4, rfl⟩)))
            · rw [if_neg h4]; exact .inr (.inr (.inr (.inr ⟨h5, h6, h4, rfl⟩)))
theorem ext0 (x : ByteArray) (n : Int) : EB.extract 0 (leftN n EB.size) = EB := bytes_inj (by rw [bytes_extract]; simp)
/-- Behind a good Save of slots whose files are synced, and a Crash: what is loaded. -/
theorem save_crash (m : Int) (a c : ByteArray) (m' : Int) (hs : smallS a EB c EB) (t : ByteArray) (deeds n : Int) {x : ST} {done : Bool} (hsv : saveS m a EB m' c EB t deeds = (x, done, 0, ())) :
    okS m a EB m' c EB = true ∧ ∃ a' c', smallS a' EB c' EB ∧ okS m a' EB m' c' EB = true ∧ (∃ b2 d2 a2 c2, x = S6 m a2 b2 m' c2 d2 ∧ smallS a2 b2 c2 d2 ∧ crashS m a2 b2 m' c2 d2 n = (S6 m a' EB m' c' EB, 0, ())) ∧
      ((bestS a' EB c' EB).1 = t.data.toList ∧ (bestS a' EB c' EB).2.1 = (bestS a EB c EB).2.1 + 1 ∨ done = false ∧ bestS a' EB c' EB = bestS a EB c EB) := by
  rcases save_cases m a EB m' c EB t deeds with ⟨e, he, h⟩ | ⟨g, rfl, ht, h1, h3, hcases⟩
  · rw [h] at hsv
    have : e = 0 := congrArg (fun z : ST × (Bool × (Int × Unit)) => z.2.2.1) hsv
    exact absurd this he
  · have bn := best_new a EB c EB t h1 ht
    have hz := next_len (bestS a EB c EB).2.1 t
    have hE : EB.size = 0 := EB_size
    obtain ⟨q1, q2, q3, q4⟩ := hs
    have smn : (nextB (bestS a EB c EB).2.1 t).size ≤ 400000 := by omega
    refine ⟨g, ?_⟩
    have idc : ∀ {p q : ByteArray}, okS m p EB m q EB = true → crashS m p EB m q EB n = (S6 m p EB m q EB, 0, ()) := fun {p q} g => by
      unfold crashS
      rw [g, ext0 p n, app_E, app_E]; rfl
    rcases hcases with ⟨_, h⟩ | ⟨_, h4, h⟩ | ⟨_, h4, h⟩ | ⟨_, _, h4, h⟩ | ⟨_, _, h4, h⟩ <;> rw [h] at hsv <;> obtain ⟨rfl, rfl⟩ : _ = x ∧ _ = done := ⟨congrArg Prod.fst hsv, congrArg (fun z : ST × (Bool × (Int × Unit)) => z.2.1) hsv⟩
    · exact ⟨a, c, ⟨q1, q2, q3, q4⟩, g, ⟨EB, EB, a, c, rfl, ⟨q1, q2, q3, q4⟩, idc g⟩, .inr ⟨rfl, rfl⟩⟩
    · have hle := leftN_le n (nextB (bestS a EB c EB).2.1 t).size
      have g2 : okS m a EB m EB (nextB (bestS a EB c EB).2.1 t) = true := okS_new0 g (by omega)
      have e1 : crashS m a EB m EB (nextB (bestS a EB c EB).2.1 t) n = (S6 m a EB m ((nextB (bestS a EB c EB).2.1 t).extract 0 (leftN n (nextB (bestS a EB c EB).2.1 t).size)) EB, 0, ()) := by
        unfold crashS; rw [g2, ext0 a n, app_E, E_app]; rfl
      refine ⟨a, _, ⟨q1, q2, by rw [ByteArray.size_extract]; omega, q4⟩, okS_new0 g (by rw [ByteArray.size_extract]; omega), ⟨EB, _, a, EB, rfl, ⟨q1, q2, by omega, smn⟩, e1⟩, ?_⟩
      by_cases hw : leftN n (nextB (bestS a EB c EB).2.1 t).size < (nextB (bestS a EB c EB).2.1 t).size
      · exact .inr ⟨rfl, (bn.1 h4).2 _ hw _ _ (app_E _)⟩
      · have : leftN n (nextB (bestS a EB c EB).2.1 t).size = (nextB (bestS a EB c EB).2.1 t).size := by omega
        rw [this, ext_all]
        have := (bn.1 h4).1 (nextB (bestS a EB c EB).2.1 t) EB (app_E _)
        rw [this]; exact .inl ⟨rfl, rfl⟩
    · have hle := leftN_le n (nextB (bestS a EB c EB).2.1 t).size
      have g2 : okS m EB (nextB (bestS a EB c EB).2.1 t) m c EB = true := okS_new1 g (by omega)
      have e1 : crashS m EB (nextB (bestS a EB c EB).2.1 t) m c EB n = (S6 m ((nextB (bestS a EB c EB).2.1 t).extract 0 (leftN n (nextB (bestS a EB c EB).2.1 t).size)) EB m c EB, 0, ()) := by
        unfold crashS; rw [g2, ext0 a n, app_E, E_app]; rfl
      refine ⟨_, c, ⟨by rw [ByteArray.size_extract]; omega, q2, q3, q4⟩, okS_new1 g (by rw [ByteArray.size_extract]; omega), ⟨_, EB, EB, c, rfl, ⟨by omega, smn, q3, q4⟩, e1⟩, ?_⟩
      by_cases hw : leftN n (nextB (bestS a EB c EB).2.1 t).size < (nextB (bestS a EB c EB).2.1 t).size
      · exact .inr ⟨rfl, (bn.2 h4).2 _ hw _ _ (app_E _)⟩
      · have : leftN n (nextB (bestS a EB c EB).2.1 t).size = (nextB (bestS a EB c EB).2.1 t).size := by omega
        rw [this, ext_all]
        have := (bn.2 h4).1 (nextB (bestS a EB c EB).2.1 t) EB (app_E _)
        rw [this]; exact .inl ⟨rfl, rfl⟩
    · have g2 : okS m a EB m (nextB (bestS a EB c EB).2.1 t) EB = true := okS_new0 g (by omega)
      refine ⟨a, _, ⟨q1, q2, smn, q4⟩, g2, ⟨EB, EB, a, _, rfl, ⟨q1, q2, smn, q4⟩, idc g2⟩, .inl ?_⟩
      rw [(bn.1 h4).1 _ EB (app_E _)]; exact ⟨rfl, rfl⟩
    · have g2 : okS m (nextB (bestS a EB c EB).2.1 t) EB m c EB = true := okS_new1 g (by omega)
      refine ⟨_, c, ⟨smn, q2, q3, q4⟩, g2, ⟨EB, EB, _, c, rfl, ⟨smn, q2, q3, q4⟩, idc g2⟩, .inl ?_⟩
      rw [(bn.2 h4).1 _ EB (app_E _)]; exact ⟨rfl, rfl⟩
theorem tl_ne {x y : ByteArray} (h : (!(x.toList == y.toList)) = false) : x = y := by
  rw [toList_data, toList_data] at h
  exact bytes_inj (by simpa using h)
end Go.Proofs.Ytbllbljligmglaa.A
