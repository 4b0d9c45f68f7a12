/- Slots: what their functions, and the document's, answer. -/
import Derived.Test.YtbllbljligmglaaAPutRef
import Derived.Test.YtbllbljligmglaaAFileThy
import Derived.KernelRfl
namespace Go.Proofs.Ytbllbljligmglaa.A
open Go Go.Proofs.Ytbllbljligmglaa.Ab
set_option linter.unusedVariables false
set_option linter.unusedSimpArgs false

/-! ### Notes -/
abbrev NT := Int × List UInt8
/-- A note's bytes. -/
def noteB (p : NT) : List UInt8 := frB 2 (intB p.1 ++ p.2)
def noteOk (p : NT) : Prop := 1 ≤ p.1 ∧ p.1 ≤ 1000000000 ∧ (intB p.1 ++ p.2).length ≤ 3000
theorem noteOk.int {p : NT} (h : noteOk p) : intOk p.1 = true := by have := h.1; have := h.2.1; rw [intOk_iff]; omega
theorem note_one {p q : NT} {r s : List UInt8} (hp : noteOk p) (hq : noteOk q) (h : noteB p ++ r = noteB q ++ s) : p = q ∧ r = s := by
  have b : FrIs (noteB p ++ r) 2 (intB q.1 ++ q.2) s 0 := .inl ⟨rfl, by decide, by decide, hq.2.2, h⟩
  obtain ⟨_, b2, b3, _⟩ := b.back (by decide) (by decide) hp.2.2
  obtain ⟨d1, d2⟩ := intB_one hq.int hp.int b2
  exact ⟨Prod.ext d1.symm d2.symm, b3.symm⟩
/-- The note that bytes are, if they are one. -/
noncomputable def noteO (l : List UInt8) : Option NT := open Classical in if h : ∃ p, noteOk p ∧ l = noteB p then some h.choose else none
theorem noteO_some {l : List UInt8} {p : NT} (h : noteO l = some p) : noteOk p ∧ l = noteB p := by
  unfold noteO at h
  split at h
  · rename_i hh
    obtain rfl := Option.some.inj h
    exact hh.choose_spec
  · cases h
theorem noteO_of {p : NT} (h : noteOk p) : noteO (noteB p) = some p := by
  unfold noteO
  rw [dif_pos ⟨p, h, rfl⟩]
  have hh : ∃ q, noteOk q ∧ noteB p = noteB q := ⟨p, h, rfl⟩
  have := hh.choose_spec
  have e := note_one (r := []) (s := []) h this.1 (by rw [List.append_nil, List.append_nil]; exact this.2)
  rw [← e.1]
theorem noteO_none {l : List UInt8} (h : ∀ p, noteOk p → l ≠ noteB p) : noteO l = none := by
  unfold noteO
  rw [dif_neg]
  rintro ⟨p, hp, e⟩
  exact h p hp e
theorem noteO_cut {p : NT} (hp : noteOk p) {a b : List UInt8} (h : a ++ b = noteB p) (hb : b ≠ []) : noteO a = none :=
  noteO_none fun q hq e => by
    rw [e] at h
    have := note_one (r := b) (s := []) hq hp (by rw [h, List.append_nil])
    exact hb this.2
theorem noteO_nil : noteO [] = none := noteO_none fun p hp e => by
  have := len_frB 2 (intB p.1 ++ p.2)
  rw [show frB 2 (intB p.1 ++ p.2) = [] from e.symm] at this
  simp at this
theorem note_both (l : List UInt8) (hl : l.length ≤ 1000000) :
    (∃ n t, Ev (fun k => slots_read k (mkB l)) ((n, mkB t, ()), (noteO l).isSome, ()) ∧ ∀ p, noteO l = some p → p = (n, t)) ∧
    (∃ n t, Ev (fun k => ref15_note k (mkB l)) (n, mkB t, (noteO l).isSome, ()) ∧ ∀ p, noteO l = some p → p = (n, t)) := by
  obtain ⟨kd, t, r, e, hf, h1, h2⟩ := Fr_both l hl
  have hlt : t.length ≤ 3000 := by
    rcases hf with ⟨_, _, _, h, _⟩ | ⟨_, _, h, _⟩
    · exact h
    · rw [h]; simp
  obtain ⟨n, u, f, hg, g1, g2⟩ := Get_both t (by omega)
  have good : noteO l = some (n, u) ↔ (e = 0 ∧ f = 0 ∧ r = [] ∧ kd = 2 ∧ 1 ≤ n ∧ n ≤ 1000000000) := by
    constructor
    · intro h
      obtain ⟨⟨a1, a2, a3⟩, a4⟩ := noteO_some h
      have b : FrIs (noteB (n, u) ++ []) kd t r e := by rw [List.append_nil, ← a4]; exact hf
      obtain ⟨b1, b2, b3, b4⟩ := b.back (by decide) (by decide) a3
      rw [b2] at hg
      obtain ⟨_, _, c3⟩ := hg.back (noteOk.int ⟨a1, a2, a3⟩)
      exact ⟨b4, c3, b3, b1, a1, a2⟩
    · rintro ⟨rfl, rfl, rfl, rfl, a1, a2⟩
      rcases hf with ⟨_, _, _, h3, h4⟩ | ⟨h, _⟩
      · rcases hg with ⟨_, g3, g4⟩ | ⟨g3, _⟩ | ⟨g3, _⟩
        · rw [g4] at h3 h4
          rw [h4, List.append_nil]
          exact noteO_of (p := (n, u)) ⟨a1, a2, h3⟩
        · omega
        · omega
      · exact absurd rfl h
  have uni : ∀ p, noteO l = some p → p = (n, u) := fun p h => by
    obtain ⟨⟨a1, a2, a3⟩, a4⟩ := noteO_some h
    have b : FrIs (noteB p ++ []) kd t r e := by rw [List.append_nil, ← a4]; exact hf
    obtain ⟨_, b2, _, _⟩ := b.back (by decide) (by decide) a3
    rw [b2] at hg
    obtain ⟨c1, c2, _⟩ := hg.back (noteOk.int ⟨a1, a2, a3⟩)
    exact Prod.ext c1.symm c2.symm
  have isS : (noteO l).isSome = decide (e = 0 ∧ f = 0 ∧ r = [] ∧ kd = 2 ∧ 1 ≤ n ∧ n ≤ 1000000000) := by
    cases hn : noteO l with
    | none =>
      refine (decide_eq_false fun h => ?_).symm
      rw [good.2 h] at hn; cases hn
    | some p =>
      have := uni p hn
      subst this
      exact (decide_eq_true (good.1 hn)).symm
  rw [isS]
  obtain ⟨D, hD⟩ : ∃ D, decide (e = 0 ∧ f = 0 ∧ r = [] ∧ kd = 2 ∧ 1 ≤ n ∧ n ≤ 1000000000) = D := ⟨_, rfl⟩
  rw [hD]
  have hF : ¬ (e = 0 ∧ f = 0 ∧ r = [] ∧ kd = 2 ∧ 1 ≤ n ∧ n ≤ 1000000000) → D = false := fun h => by rw [← hD]; exact decide_eq_false h
  have hr : ((mkB r).toList == EB.toList) = decide (r = []) := by
    rw [mkB_toList, E_toList]
    cases r <;> simp
  constructor
  · refine ⟨n, u, Ev.bind h1 (Ev.bind g1 ?_), uni⟩
    by_cases c1 : e = 0
    · refine Ev.t (beq_i c1) ?_
      by_cases c2 : f = 0
      · refine Ev.t (beq_i c2) ?_
        by_cases c3 : r = []
        · refine Ev.t (by show ((mkB r).toList == EB.toList) = true; rw [hr]; exact decide_eq_true c3) ?_
          by_cases c4 : kd = 2
          · refine Ev.t (beq_i c4) ?_
            by_cases c5 : n ≥ 1
            · refine Ev.dt c5 ?_
              have e2 : D = decide (n ≤ 1000000000) := by rw [← hD, decide_eq_decide]; exact ⟨fun h => h.2.2.2.2.2, fun h => ⟨c1, c2, c3, c4, c5, h⟩⟩
              rw [e2]; exact Ev.now _
            · rw [hF (fun h => c5 h.2.2.2.2.1)]; exact Ev.df c5 (Ev.now _)
          · rw [hF (fun h => c4 h.2.2.2.1)]; exact Ev.f (bne_i c4) (Ev.now _)
        · rw [hF (fun h => c3 h.2.2.1)]; exact Ev.f (by show ((mkB r).toList == EB.toList) = false; rw [hr]; exact decide_eq_false c3) (Ev.now _)
      · rw [hF (fun h => c2 h.2.1)]; exact Ev.f (bne_i c2) (Ev.now _)
    · rw [hF (fun h => c1 h.1)]; exact Ev.f (bne_i c1) (Ev.now _)
  · by_cases c1 : e = 0
    · by_cases c3 : r = []
      · by_cases c4 : kd = 2
        · refine ⟨n, u, Ev.bind h2 (Ev.f (nbeq_i c1) (Ev.f (by show (!((mkB r).toList == EB.toList)) = false; rw [hr, decide_eq_true c3]; rfl) (Ev.f (nbeq_i c4) (Ev.bind g2 ?_)))), uni⟩
          by_cases c2 : f = 0
          · refine Ev.t (beq_i c2) ?_
            by_cases c5 : n ≥ 1
            · refine Ev.dt c5 ?_
              have e2 : D = decide (n ≤ 1000000000) := by rw [← hD, decide_eq_decide]; exact ⟨fun h => h.2.2.2.2.2, fun h => ⟨c1, c2, c3, c4, c5, h⟩⟩
              rw [e2]; exact Ev.now _
            · rw [hF (fun h => c5 h.2.2.2.2.1)]; exact Ev.df c5 (Ev.now _)
          · rw [hF (fun h => c2 h.2.1)]; exact Ev.f (bne_i c2) (Ev.now _)
        · refine ⟨0, [], ?_, fun p h => absurd (good.1 ((uni p h) ▸ h)).2.2.2.1 c4⟩
          rw [hF (fun h => c4 h.2.2.2.1)]
          exact Ev.bind h2 (Ev.f (nbeq_i c1) (Ev.f (by show (!((mkB r).toList == EB.toList)) = false; rw [hr, decide_eq_true c3]; rfl) (Ev.t (nbne_i c4) (Ev.now _))))
      · refine ⟨0, [], ?_, fun p h => absurd (good.1 ((uni p h) ▸ h)).2.2.1 c3⟩
        rw [hF (fun h => c3 h.2.2.1)]
        exact Ev.bind h2 (Ev.f (nbeq_i c1) (Ev.t (by show (!((mkB r).toList == EB.toList)) = true; rw [hr, decide_eq_false c3]; rfl) (Ev.now _)))
    · refine ⟨0, [], ?_, fun p h => absurd (good.1 ((uni p h) ▸ h)).1 c1⟩
      rw [hF (fun h => c1 h.1)]
      exact Ev.bind h2 (Ev.t (nbne_i c1) (Ev.now _))

/-! ### The better of two -/
def betterO : Option NT → Option NT → List UInt8 × Int × Int
  | none, none => ([], 0, -1)
  | some p, none => (p.2, p.1, 0)
  | none, some q => (q.2, q.1, 1)
  | some p, some q => if q.1 > p.1 then (q.2, q.1, 1) else (p.2, p.1, 0)
abbrev BV (x : List UInt8 × Int × Int) : ByteArray × (Int × (Int × Unit)) := (mkB x.1, x.2.1, x.2.2, ())
abbrev BV2 (x : List UInt8 × Int × Int) : Int × (ByteArray × (Int × Unit)) := (x.2.1, mkB x.1, x.2.2, ())
theorem better_ok (a b : List UInt8) (ha : a.length ≤ 1000000) (hb : b.length ≤ 1000000) : Ev (fun k => slots_better k (mkB a, mkB b, ())) (BV2 (betterO (noteO a) (noteO b)), ()) := by
  obtain ⟨⟨n, t, h1, e1⟩, _⟩ := note_both a ha
  obtain ⟨⟨m, u, h2, e2⟩, _⟩ := note_both b hb
  have fin : ∀ (x : Int × (ByteArray × (Int × Unit))), Ev (fun k => slots_better_l1 (mkB a, mkB b, ()) k (2, x, ())) (.exit 0, 2, x, ()) := fun x => Ev.step (Ev.df (by show ¬ (2 : Int) < 2; omega) (Ev.now _))
  have second : ∀ (x : Int × (ByteArray × (Int × Unit))), Ev (fun k => slots_better_l1 (mkB a, mkB b, ()) k (1, x, ())) (.exit 0, 2, (bif (noteO b).isSome && decide (m > x.1) then (m, mkB u, 1, ()) else x), ()) := fun x => by
    refine Ev.step (Ev.dt (by show (1 : Int) < 2; omega) (Ev.f (by rfl) (Ev.t (by rfl) (Ev.bind h2 ?_))))
    cases hn : (noteO b).isSome with
    | false => exact Ev.f rfl (fin x)
    | true =>
      refine Ev.t rfl ?_
      by_cases hg : m > x.1
      · rw [decide_eq_true hg]; exact Ev.t rfl (fin _)
      · rw [decide_eq_false hg]; exact Ev.f rfl (fin x)
  have first : ∀ {R}, Ev (fun k => slots_better_l1 (mkB a, mkB b, ()) k (1, (bif (noteO a).isSome && decide (n > 0) then (n, mkB t, 0, ()) else (0, EB, -1, ())), ())) R → Ev (fun k => slots_better_l1 (mkB a, mkB b, ()) k (0, (0, EB, -1, ()), ())) R := fun {R} h => by
    refine Ev.step (Ev.dt (by show (0 : Int) < 2; omega) (Ev.t (by rfl) (Ev.bind h1 ?_)))
    cases hn : (noteO a).isSome with
    | false => rw [hn] at h; exact Ev.f rfl h
    | true =>
      rw [hn] at h
      refine Ev.t rfl ?_
      by_cases hg : n > 0
      · rw [decide_eq_true hg] at h; exact Ev.dt hg h
      · rw [decide_eq_false hg] at h; exact Ev.df hg h
  have all := first (second _)
  have eq : (bif (noteO b).isSome && decide (m > (bif (noteO a).isSome && decide (n > 0) then (n, mkB t, 0, ()) else ((0, EB, -1, ()) : Int × (ByteArray × (Int × Unit)))).1) then (m, mkB u, 1, ()) else (bif (noteO a).isSome && decide (n > 0) then (n, mkB t, 0, ()) else ((0, EB, -1, ()) : Int × (ByteArray × (Int × Unit))))) = BV2 (betterO (noteO a) (noteO b)) := by
    cases ha2 : noteO a with
    | none =>
      cases hb2 : noteO b with
      | none => rfl
      | some q =>
        obtain rfl := e2 q hb2
        have hq := (noteO_some hb2).1.1
        have g : decide (m > (0 : Int)) = true := decide_eq_true (by omega)
        show (bif true && decide (m > (0 : Int)) then (m, mkB u, 1, ()) else ((0, EB, -1, ()) : Int × (ByteArray × (Int × Unit)))) = _
        rw [g]; rfl
    | some p =>
      obtain rfl := e1 p ha2
      have hp := (noteO_some ha2).1.1
      have g : decide (n > (0 : Int)) = true := decide_eq_true (by omega)
      rw [g]
      cases hb2 : noteO b with
      | none => rfl
      | some q =>
        obtain rfl := e2 q hb2
        show (bif true && decide (m > n) then (m, mkB u, 1, ()) else (n, mkB t, 0, ())) = BV2 (if m > n then _ else _)
        by_cases hg : m > n
        · rw [decide_eq_true hg, if_pos hg]; rfl
        · rw [decide_eq_false hg, if_neg hg]; rfl
  rw [eq] at all
  exact Ev.bind all (Ev.t rfl (Ev.now _))
theorem Better_ok (a b : List UInt8) (ha : a.length ≤ 1000000) (hb : b.length ≤ 1000000) : Ev (fun k => slots_Better k (mkB a) (mkB b)) (BV (betterO (noteO a) (noteO b))) :=
  Ev.bind (better_ok a b ha hb) (Ev.now _)
theorem rBetter_ok (a b : List UInt8) (ha : a.length ≤ 1000000) (hb : b.length ≤ 1000000) : Ev (fun k => ref15_Better k (mkB a) (mkB b)) (BV (betterO (noteO a) (noteO b))) := by
  obtain ⟨_, n, t, h1, e1⟩ := note_both a ha
  obtain ⟨_, m, u, h2, e2⟩ := note_both b hb
  refine Ev.bind h1 (Ev.bind h2 ?_)
  cases ha2 : noteO a with
  | none =>
    cases hb2 : noteO b with
    | none => exact Ev.f rfl (Ev.f rfl (Ev.now _))
    | some q => obtain rfl := e2 q hb2; exact Ev.f rfl (Ev.t rfl (Ev.now _))
  | some p =>
    obtain rfl := e1 p ha2
    cases hb2 : noteO b with
    | none => exact Ev.t rfl (Ev.t rfl (Ev.now _))
    | some q =>
      obtain rfl := e2 q hb2
      refine Ev.t rfl (Ev.f rfl ?_)
      show Ev _ (BV (if m > n then _ else _))
      by_cases hg : m > n
      · rw [if_pos hg]; exact Ev.df (by show ¬ n ≥ m; omega) (Ev.t rfl (Ev.now _))
      · rw [if_neg hg]; exact Ev.dt (by show n ≥ m; omega) (Ev.now _)

/-! ### Slots -/
abbrev ST := Int × (ByteArray × (ByteArray × (Int × (ByteArray × (ByteArray × Unit)))))
abbrev S6 (m : Int) (a b : ByteArray) (m' : Int) (c d : ByteArray) : ST := (m, a, b, m', c, d, ())
abbrev ZS : ST := S6 0 EB EB 0 EB EB
def okS (m : Int) (a b : ByteArray) (m' : Int) (c d : ByteArray) : Bool := okF m a b && (okF m' c d && m == m')
/-- What slots tell. -/
noncomputable def bestS (a b c d : ByteArray) : List UInt8 × Int × Int := betterO (noteO (a ++ b).data.toList) (noteO (c ++ d).data.toList)
def smallS (a b c d : ByteArray) : Prop := a.size ≤ 400000 ∧ b.size ≤ 400000 ∧ c.size ≤ 400000 ∧ d.size ≤ 400000
section
variable (m : Int) (a b : ByteArray) (m' : Int) (c d : ByteArray) (h : smallS a b c d)
include h
theorem len2 : (a ++ b).data.toList.length ≤ 1000000 ∧ (c ++ d).data.toList.length ≤ 1000000 := by
  obtain ⟨h1, h2, h3, h4⟩ := h
  rw [size_toList, size_toList, ByteArray.size_append, ByteArray.size_append]; omega
theorem open_ok : Ev (fun k => slots_open k (S6 m a b m' c d)) (bif okS m a b m' c d then (BV2 (bestS a b c d), 0, ()) else ((0, EB, 0, ()), 1, ())) := by
  have hl := len2 a b c d h
  obtain ⟨h1, h2, h3, h4⟩ := h
  unfold okS
  refine Ev.bind (Ev.all fun k => Is_ok k m a b (by omega) (by omega)) ?_
  cases g1 : okF m a b with
  | false => exact Ev.t rfl (Ev.now _)
  | true =>
    refine Ev.f rfl (Ev.bind (Ev.all fun k => Is_ok k m' c d (by omega) (by omega)) ?_)
    cases g2 : okF m' c d with
    | false => exact Ev.t rfl (Ev.now _)
    | true =>
      refine Ev.f rfl ?_
      by_cases g3 : m = m'
      · rw [beq_i g3]
        have hb := better_ok (a ++ b).data.toList (c ++ d).data.toList hl.1 hl.2
        rw [mkB_of, mkB_of] at hb
        exact Ev.f (nbeq_i g3) (Ev.bind (Ev.all fun k => read_ok k m a b (by omega) (by omega)) (Ev.bind (Ev.all fun k => read_ok k m' c d (by omega) (by omega)) (Ev.bind hb (Ev.now _))))
      · rw [bne_i g3]; exact Ev.t (nbne_i g3) (Ev.now _)
theorem rIsS_ok : Ev (fun k => ref15_Is k (S6 m a b m' c d)) (okS m a b m' c d, ()) := by
  obtain ⟨h1, h2, h3, h4⟩ := h
  unfold okS
  refine Ev.bind (Ev.all fun k => rIs_ok k m a b (by omega) (by omega)) ?_
  cases g1 : okF m a b with
  | false => exact Ev.f rfl (Ev.now _)
  | true =>
    refine Ev.t rfl (Ev.bind (Ev.all fun k => rIs_ok k m' c d (by omega) (by omega)) ?_)
    cases g2 : okF m' c d with
    | false => exact Ev.f rfl (Ev.now _)
    | true => exact Ev.t rfl (Ev.now _)
/-- Load's answer. -/
noncomputable def loadS : ByteArray × (Int × (Int × Unit)) := bif okS m a b m' c d then (mkB (bestS a b c d).1, (bestS a b c d).2.1, 0, ()) else (EB, 0, 1, ())
omit h in
theorem loadS_ok (g : okS m a b m' c d = true) : loadS m a b m' c d = (mkB (bestS a b c d).1, (bestS a b c d).2.1, 0, ()) := by unfold loadS; rw [g]; rfl
omit h in
theorem loadS_no (g : okS m a b m' c d = false) : loadS m a b m' c d = (EB, 0, 1, ()) := by unfold loadS; rw [g]; rfl
theorem Load_ok : Ev (fun k => slots_Load k (S6 m a b m' c d)) (loadS m a b m' c d) := by
  have ho := open_ok m a b m' c d h
  unfold loadS
  cases g : okS m a b m' c d with
  | false => rw [g] at ho; exact Ev.bind ho (Ev.now _)
  | true => rw [g] at ho; exact Ev.bind ho (Ev.now _)
theorem rLoad_ok : Ev (fun k => ref15_Load k (S6 m a b m' c d)) (loadS m a b m' c d) := by
  have hi := rIsS_ok m a b m' c d h
  have hl := len2 a b c d h
  obtain ⟨h1, h2, h3, h4⟩ := h
  unfold loadS
  refine Ev.bind hi ?_
  cases g : okS m a b m' c d with
  | false => exact Ev.t rfl (Ev.now _)
  | true =>
    have hb := rBetter_ok (a ++ b).data.toList (c ++ d).data.toList hl.1 hl.2
    rw [mkB_of, mkB_of] at hb
    exact Ev.f rfl (Ev.bind (Ev.all fun k => rread_ok k m a b (by omega) (by omega)) (Ev.bind (Ev.all fun k => rread_ok k m' c d (by omega) (by omega)) (Ev.bind hb (Ev.now _))))
end
theorem best_n (a b c d : ByteArray) : 0 ≤ (bestS a b c d).2.1 ∧ (bestS a b c d).2.1 ≤ 1000000000 := by
  have key : ∀ x y : Option NT, (∀ p, x = some p → noteOk p) → (∀ p, y = some p → noteOk p) → 0 ≤ (betterO x y).2.1 ∧ (betterO x y).2.1 ≤ 1000000000 := by
    intro x y hx hy
    cases x with
    | none => cases y with
      | none => exact ⟨by decide, by decide⟩
      | some q => have := hy q rfl; exact ⟨by have := this.1; show 0 ≤ q.1; omega, this.2.1⟩
    | some p =>
      have hp := hx p rfl
      cases y with
      | none => exact ⟨by have := hp.1; show 0 ≤ p.1; omega, hp.2.1⟩
      | some q =>
        have hq := hy q rfl
        show 0 ≤ (if q.1 > p.1 then (q.2, q.1, (1 : Int)) else (p.2, p.1, 0)).2.1 ∧ (if q.1 > p.1 then (q.2, q.1, (1 : Int)) else (p.2, p.1, 0)).2.1 ≤ 1000000000
        by_cases hg : q.1 > p.1
        · rw [if_pos hg]; exact ⟨by have := hq.1; show 0 ≤ q.1; omega, hq.2.1⟩
        · rw [if_neg hg]; exact ⟨by have := hp.1; show 0 ≤ p.1; omega, hp.2.1⟩
  exact key _ _ (fun p hp => (noteO_some hp).1) (fun p hp => (noteO_some hp).1)
/-- The next note's bytes. -/
def nextB (n : Int) (t : ByteArray) : ByteArray := mkB (noteB (n + 1, t.data.toList))
theorem next_len (n : Int) (t : ByteArray) : (nextB n t).size ≤ t.size + 24 := by
  unfold nextB
  rw [mkB_size]
  have h1 := frB_len 2 (intB (n + 1) ++ t.data.toList)
  have h2 := intB_len (n + 1)
  rw [List.length_append, size_toList] at h1
  show (frB 2 (intB (n + 1) ++ t.data.toList)).length ≤ _
  omega
theorem next_ok {n : Int} {t : ByteArray} (h0 : 0 ≤ n) (h1 : n < 1000000000) (ht : t.size ≤ 1000) : noteOk (n + 1, t.data.toList) :=
  ⟨by show 1 ≤ n + 1; omega, by show n + 1 ≤ 1000000000; omega, by have := intB_len (n + 1); show (intB (n + 1) ++ t.data.toList).length ≤ 3000; rw [List.length_append, size_toList]; omega⟩
theorem bytes_ok (n : Int) (t : ByteArray) (h0 : 0 ≤ n) (h1 : n < 1000000000) (ht : t.size ≤ 1000) : Ev (fun k => slots_note_bytes k (IntKind.i64.wrap (n + 1), t, ())) (nextB n t, ()) := by
  have hw : IntKind.i64.wrap (n + 1) = n + 1 := wrap_id (by omega) (by omega)
  have hok := next_ok h0 h1 ht
  have hi : Ev (fun k => wire_Int k (IntKind.i64.wrap (n + 1))) (mkB (intB (n + 1)), 0, ()) := by
    rw [hw]; exact Ev.all fun k => by rw [Int_ok, IntA_ok hok.int]
  have hl := intB_len (n + 1)
  have hp : Ev (fun k => frame_Put k 2 (mkB (intB (n + 1)) ++ t)) (nextB n t, 0, ()) := by
    refine Ev.all fun k => ?_
    rw [← mkB_of t, mkB_append, Put_ok]
    unfold PutA
    rw [if_neg (by decide), if_neg (by have := hok.2.2; show ¬ (((intB (n + 1) ++ t.data.toList).length : Nat) : Int) > 3000; have h3 : (intB (n + 1) ++ t.data.toList).length ≤ 3000 := this; omega)]
    rfl
  exact Ev.bind hi (Ev.dt (by show (mkB (intB (n + 1))).size + t.size ≤ _; rw [mkB_size]; omega) (Ev.bind hp (Ev.now _)))
theorem rNote_ok (n : Int) (t : ByteArray) (h0 : 0 ≤ n) (h1 : n < 1000000000) (ht : t.size ≤ 1000) : Ev (fun k => ref15_Note k (IntKind.i64.wrap (n + 1)) t) (nextB n t, ()) := by
  have hw : IntKind.i64.wrap (n + 1) = n + 1 := wrap_id (by omega) (by omega)
  have hok := next_ok h0 h1 ht
  have hi : Ev (fun k => ref01_Int k (IntKind.i64.wrap (n + 1))) (mkB (intB (n + 1)), 0, ()) := by
    rw [hw]; have := refInt_ok (n + 1); rwa [IntA_ok hok.int] at this
  have hl := intB_len (n + 1)
  have hp : Ev (fun k => ref03_Put k 2 (mkB (intB (n + 1)) ++ t)) (nextB n t, 0, ()) := by
    have := refPut_ok 2 (intB (n + 1) ++ t.data.toList)
    unfold PutA at this
    rw [if_neg (by decide), if_neg (by have := hok.2.2; show ¬ (((intB (n + 1) ++ t.data.toList).length : Nat) : Int) > 3000; have h3 : (intB (n + 1) ++ t.data.toList).length ≤ 3000 := this; omega), ← mkB_append, mkB_of] at this
    exact this
  exact Ev.bind hi (Ev.dt (by show (mkB (intB (n + 1))).size + t.size ≤ _; rw [mkB_size]; omega) (Ev.bind hp (Ev.now _)))
/-- What Save answers. -/
noncomputable def saveS (m : Int) (a b : ByteArray) (m' : Int) (c d : ByteArray) (t : ByteArray) (deeds : Int) : ST × (Bool × (Int × Unit)) :=
  if okS m a b m' c d = false then (ZS, false, 1, ()) else if t.size > 1000 ∨ (bestS a b c d).2.1 = 1000000000 then (ZS, false, 2, ()) else
  if ((nextB (bestS a b c d).2.1 t).size : Int) > m then (ZS, false, 81, ()) else
  if deeds = 0 then (S6 m a b m' c d, false, 0, ()) else
  if deeds = 1 then (if (bestS a b c d).2.2 = 0 then (S6 m a b m' EB (nextB (bestS a b c d).2.1 t), false, 0, ()) else (S6 m EB (nextB (bestS a b c d).2.1 t) m' c d, false, 0, ())) else
  (if (bestS a b c d).2.2 = 0 then (S6 m a b m' (nextB (bestS a b c d).2.1 t) EB, true, 0, ()) else (S6 m (nextB (bestS a b c d).2.1 t) EB m' c d, true, 0, ()))
theorem okS_bd {m : Int} {a b : ByteArray} {m' : Int} {c d : ByteArray} (g : okS m a b m' c d = true) : okF m a b = true ∧ okF m' c d = true ∧ m = m' := by
  unfold okS at g
  simp only [Bool.and_eq_true] at g
  exact ⟨g.1, g.2.1, by simpa using g.2.2⟩
section
variable (m : Int) (a b : ByteArray) (m' : Int) (c d : ByteArray) (h : smallS a b c d) (t : ByteArray) (deeds : Int)
include h
theorem Save_ok : Ev (fun k => slots_Save k (S6 m a b m' c d) t deeds) (saveS m a b m' c d t deeds) := by
  have ho := open_ok m a b m' c d h
  have hn := best_n a b c d
  unfold saveS
  cases g : okS m a b m' c d with
  | false => rw [g] at ho; rw [if_pos rfl]; exact Ev.bind ho (Ev.t rfl (Ev.now _))
  | true =>
    rw [g] at ho
    rw [if_neg (by simp)]
    obtain ⟨g1, g2, rfl⟩ := okS_bd g
    have b1 := okF_bd g1
    refine Ev.bind ho (Ev.f rfl ?_)
    by_cases h1 : t.size > 1000
    · rw [if_pos (.inl h1)]; exact Ev.dt (by show (t.size : Int) > 1000; omega) (Ev.now _)
    · refine Ev.df (by show ¬ (t.size : Int) > 1000; omega) ?_
      by_cases h2 : (bestS a b c d).2.1 = 1000000000
      · rw [if_pos (.inr h2)]; exact Ev.t (beq_i h2) (Ev.now _)
      · rw [if_neg (by omega)]
        have hb := bytes_ok (bestS a b c d).2.1 t hn.1 (by omega) (by omega)
        have hz := next_len (bestS a b c d).2.1 t
        refine Ev.f (bne_i h2) (Ev.bind hb ?_)
        by_cases h3 : ((nextB (bestS a b c d).2.1 t).size : Int) > m
        · rw [if_pos h3]; exact Ev.dt h3 (Ev.now _)
        · rw [if_neg h3]
          refine Ev.df h3 ?_
          have hf : okF m EB (nextB (bestS a b c d).2.1 t) = true := decide_eq_true ⟨b1.1, b1.2.1, by rw [EB_size]; omega⟩
          have hs : Ev (fun k => file_Sync k (F m EB (nextB (bestS a b c d).2.1 t))) (F m (nextB (bestS a b c d).2.1 t) EB, 0, ()) := by
            refine Ev.all fun k => ?_
            rw [Sync_ok k m EB _ (by rw [EB_size]; omega) (by omega), hf, E_app]; rfl
          by_cases h4 : (bestS a b c d).2.2 = 0
          · refine Ev.t (beq_i h4) ?_
            by_cases h5 : deeds = 0
            · rw [if_pos h5]; exact Ev.t (beq_i h5) (Ev.now _)
            · rw [if_neg h5]
              refine Ev.f (bne_i h5) ?_
              by_cases h6 : deeds = 1
              · rw [if_pos h6, if_pos h4]; exact Ev.t (beq_i h6) (Ev.now _)
              · rw [if_neg h6, if_pos h4]; exact Ev.f (bne_i h6) (Ev.bind hs (Ev.now _))
          · refine Ev.f (bne_i h4) ?_
            by_cases h5 : deeds = 0
            · rw [if_pos h5]; exact Ev.t (beq_i h5) (Ev.now _)
            · rw [if_neg h5]
              refine Ev.f (bne_i h5) ?_
              by_cases h6 : deeds = 1
              · rw [if_pos h6, if_neg h4]; exact Ev.t (beq_i h6) (Ev.now _)
              · rw [if_neg h6, if_neg h4]; exact Ev.f (bne_i h6) (Ev.bind hs (Ev.now _))
theorem rSave_ok : Ev (fun k => ref15_Save k (S6 m a b m' c d) t deeds) (saveS m a b m' c d t deeds) := by
  have hi := rIsS_ok m a b m' c d h
  have hn := best_n a b c d
  have hl := len2 a b c d h
  obtain ⟨k1, k2, k3, k4⟩ := h
  unfold saveS
  refine Ev.bind hi ?_
  cases g : okS m a b m' c d with
  | false => rw [if_pos rfl]; exact Ev.t rfl (Ev.now _)
  | true =>
    rw [if_neg (by simp)]
    obtain ⟨g1, g2, rfl⟩ := okS_bd g
    have hb := rBetter_ok (a ++ b).data.toList (c ++ d).data.toList hl.1 hl.2
    rw [mkB_of, mkB_of] at hb
    refine Ev.f rfl (Ev.bind (Ev.all fun k => rread_ok k m a b (by omega) (by omega)) (Ev.bind (Ev.all fun k => rread_ok k m c d (by omega) (by omega)) (Ev.bind hb ?_)))
    by_cases h1 : t.size > 1000
    · rw [if_pos (.inl h1)]; exact Ev.dt (by show (t.size : Int) > 1000; omega) (Ev.now _)
    · refine Ev.df (by show ¬ (t.size : Int) > 1000; omega) ?_
      by_cases h2 : (bestS a b c d).2.1 = 1000000000
      · rw [if_pos (.inr h2)]; exact Ev.dt (by show (bestS a b c d).2.1 ≥ 1000000000; omega) (Ev.now _)
      · rw [if_neg (by omega)]
        refine Ev.df (by show ¬ (bestS a b c d).2.1 ≥ 1000000000; omega) (Ev.bind (rNote_ok (bestS a b c d).2.1 t hn.1 (by omega) (by omega)) ?_)
        by_cases h3 : ((nextB (bestS a b c d).2.1 t).size : Int) > m
        · rw [if_pos h3]; exact Ev.dt h3 (Ev.now _)
        · rw [if_neg h3]
          refine Ev.df h3 ?_
          by_cases h5 : deeds = 0
          · rw [if_pos h5]; exact Ev.t (beq_i h5) (Ev.now _)
          · rw [if_neg h5]
            refine Ev.f (bne_i h5) ?_
            by_cases h6 : deeds = 1
            · rw [if_pos h6]
              refine Ev.f (nbeq_i h6) ?_
              by_cases h4 : (bestS a b c d).2.2 = 0
              · rw [if_pos h4]
                refine Ev.t (beq_i h4) ?_
                show Ev (fun _ => some (S6 m a b m EB (nextB (bestS a b c d).2.1 t), deeds != 1, (0 : Int), ())) _
                rw [nbeq_i h6]; exact Ev.now _
              · rw [if_neg h4]
                refine Ev.f (bne_i h4) ?_
                show Ev (fun _ => some (S6 m EB (nextB (bestS a b c d).2.1 t) m c d, deeds != 1, (0 : Int), ())) _
                rw [nbeq_i h6]; exact Ev.now _
            · rw [if_neg h6]
              refine Ev.t (nbne_i h6) ?_
              by_cases h4 : (bestS a b c d).2.2 = 0
              · rw [if_pos h4]
                refine Ev.t (beq_i h4) ?_
                show Ev (fun _ => some (S6 m a b m (nextB (bestS a b c d).2.1 t) EB, deeds != 1, (0 : Int), ())) _
                rw [nbne_i h6]; exact Ev.now _
              · rw [if_neg h4]
                refine Ev.f (bne_i h4) ?_
                show Ev (fun _ => some (S6 m (nextB (bestS a b c d).2.1 t) EB m c d, deeds != 1, (0 : Int), ())) _
                rw [nbne_i h6]; exact Ev.now _
end
/-- What Crash answers. -/
def crashS (m : Int) (a b : ByteArray) (m' : Int) (c d : ByteArray) (n : Int) : ST × (Int × Unit) :=
  bif okS m a b m' c d then (S6 m (a ++ b.extract 0 (leftN n b.size)) EB m' (c ++ d.extract 0 (leftN n d.size)) EB, 0, ()) else (ZS, 1, ())
section
variable (m : Int) (a b : ByteArray) (m' : Int) (c d : ByteArray) (h : smallS a b c d) (n : Int)
include h
theorem SCrash_ok : Ev (fun k => slots_Crash k (S6 m a b m' c d) n) (crashS m a b m' c d n) := by
  have ho := open_ok m a b m' c d h
  obtain ⟨k1, k2, k3, k4⟩ := h
  unfold crashS
  cases g : okS m a b m' c d with
  | false => rw [g] at ho; exact Ev.bind ho (Ev.t rfl (Ev.now _))
  | true =>
    rw [g] at ho
    obtain ⟨g1, g2, rfl⟩ := okS_bd g
    have c1 : Ev (fun k => file_Crash k (F m a b) n) (F m (a ++ b.extract 0 (leftN n b.size)) EB, 0, ()) := Ev.all fun k => by rw [Crash_ok k m a b (by omega) (by omega)]; unfold crashF; rw [g1]; rfl
    have c2 : Ev (fun k => file_Crash k (F m c d) n) (F m (c ++ d.extract 0 (leftN n d.size)) EB, 0, ()) := Ev.all fun k => by rw [Crash_ok k m c d (by omega) (by omega)]; unfold crashF; rw [g2]; rfl
    exact Ev.bind ho (Ev.f rfl (Ev.bind c1 (Ev.bind c2 (Ev.now _))))
theorem rSCrash_ok : Ev (fun k => ref15_Crash k (S6 m a b m' c d) n) (crashS m a b m' c d n) := by
  have hi := rIsS_ok m a b m' c d h
  obtain ⟨k1, k2, k3, k4⟩ := h
  unfold crashS
  refine Ev.bind hi ?_
  cases g : okS m a b m' c d with
  | false => exact Ev.t rfl (Ev.now _)
  | true =>
    obtain ⟨g1, g2, rfl⟩ := okS_bd g
    have c1 : Ev (fun k => ref12_Crash k (F m a b) n) (F m (a ++ b.extract 0 (leftN n b.size)) EB, 0, ()) := Ev.all fun k => by rw [rCrash_ok k m a b (by omega) (by omega)]; unfold crashF; rw [g1]; rfl
    have c2 : Ev (fun k => ref12_Crash k (F m c d) n) (F m (c ++ d.extract 0 (leftN n d.size)) EB, 0, ()) := Ev.all fun k => by rw [rCrash_ok k m c d (by omega) (by omega)]; unfold crashF; rw [g2]; rfl
    exact Ev.f rfl (Ev.bind c1 (Ev.bind c2 (Ev.now _)))
end
def newS (m : Int) : ST × (Int × Unit) := bif decide (1 ≤ m ∧ m ≤ 4000) then (S6 m EB EB m EB EB, 0, ()) else (ZS, 1, ())
theorem SNew_ok (m : Int) : Ev (fun k => slots_New k m) (newS m) := by
  have hn : Ev (fun k => file_New k m) (newF m) := Ev.all fun k => New_ok k m
  unfold newS
  unfold newF at hn
  cases g : decide (1 ≤ m ∧ m ≤ 4000) <;> rw [g] at hn <;> exact Ev.bind hn (Ev.now _)
theorem rSNew_ok (m : Int) : Ev (fun k => ref15_New k m) (newS m) := by
  have hn : Ev (fun k => ref12_New k m) (newF m) := Ev.all fun k => rNew_ok k m
  unfold newS
  unfold newF at hn
  cases g : decide (1 ≤ m ∧ m ≤ 4000) <;> rw [g] at hn
  · exact Ev.bind hn (Ev.t rfl (Ev.now _))
  · exact Ev.bind hn (Ev.f rfl (Ev.now _))
set_option maxRecDepth 100000 in
theorem slotted_all (q : Nat) : law15_slotted (q + 60) = some (true, ()) := by kernel_rfl
theorem slotted_ok : Ev (fun k => law15_slotted k) (true, ()) := ⟨60, fun k hk => by
  obtain ⟨q, rfl⟩ : ∃ q, k = q + 60 := ⟨k - 60, by omega⟩
  exact slotted_all q⟩
end Go.Proofs.Ytbllbljligmglaa.A
