/- Records: what is put, and which records bytes begin with. -/
import Derived.Test.YtoeikeabbdnkbaaFnSegR
import Derived.Test.YtoeikeabbdnkbaaAPutRef
import Derived.Test.YtoeikeabbdnkbaaAFileAdd
import Derived.KernelRfl
namespace Go.Proofs.Ytoeikeabbdnkbaa.A
open Go Go.Proofs.Ytoeikeabbdnkbaa.Ab
set_option linter.unusedVariables false
set_option linter.unusedSimpArgs false

/-- A record's bytes. -/
def recB (n : Int) (s : List UInt8) : List UInt8 := frB 1 (intB n ++ s)
def recOk (n : Int) (s : List UInt8) : Prop := 0 ≤ n ∧ n ≤ 1000000000 ∧ s.length ≤ 1000
theorem recOk.int {n : Int} {s : List UInt8} (h : recOk n s) : intOk n = true := by have := h.1; have := h.2.1; rw [intOk_iff]; omega
theorem recOk.short {n : Int} {s : List UInt8} (h : recOk n s) : (intB n ++ s).length ≤ 3000 := by have := intB_len n; have := h.2.2; rw [List.length_append]; omega
theorem recB_len (n : Int) (s : List UInt8) : (recB n s).length ≤ s.length + 24 ∧ s.length + 4 ≤ (recB n s).length := by
  have h1 := frB_len 1 (intB n ++ s)
  have h2 := len_frB 1 (intB n ++ s)
  have h3 := intB_len n
  have h4 : 1 ≤ (intB n).length := by rw [intB_eq, List.length_append]; simp
  rw [List.length_append] at h1 h2
  unfold recB; omega
theorem rec_one {n m : Int} {s u p q : List UInt8} (h1 : recOk n s) (h2 : recOk m u) (h : recB n s ++ p = recB m u ++ q) : n = m ∧ s = u ∧ p = q := by
  have b : FrIs (recB n s ++ p) 1 (intB m ++ u) q 0 := .inl ⟨rfl, by decide, by decide, h2.short, h⟩
  obtain ⟨_, b2, b3, _⟩ := b.back (by decide) (by decide) h1.short
  obtain ⟨d1, d2⟩ := intB_one h2.int h1.int b2
  exact ⟨d1.symm, d2.symm, b3.symm⟩
def RecPutA (n : Int) (s : List UInt8) : ByteArray × Int × Unit := if n < 0 ∨ n > 1000000000 then (EB, 1, ()) else if (s.length : Int) > 1000 then (EB, 2, ()) else (mkB (recB n s), 0, ())
theorem RecPut_ok (n : Int) (s : List UInt8) : Ev (fun k => record_Put k n (mkB s)) (RecPutA n s) := by
  have hsz := mkB_size s
  unfold RecPutA
  by_cases h0 : n < 0
  · rw [if_pos (.inl h0)]; exact Ev.dt h0 (Ev.now _)
  by_cases h1 : n > 1000000000
  · rw [if_pos (.inr h1)]; exact Ev.df h0 (Ev.dt h1 (Ev.now _))
  rw [if_neg (by omega)]
  by_cases h2 : (s.length : Int) > 1000
  · rw [if_pos h2]; exact Ev.df h0 (Ev.df h1 (Ev.dt (by omega) (Ev.now _)))
  rw [if_neg h2]
  have hok : recOk n s := ⟨by omega, by omega, by omega⟩
  have hi : Ev (fun k => wire_Int k n) (mkB (intB n), 0, ()) := Ev.all fun k => by rw [Int_ok, IntA_ok hok.int]
  have hl := intB_len n
  have hp : Ev (fun k => frame_Put k 1 (mkB (intB n) ++ mkB s)) (mkB (recB n s), 0, ()) := by
    refine Ev.all fun k => ?_
    rw [mkB_append, Put_ok]; unfold PutA
    rw [if_neg (by decide), if_neg (by have := hok.short; omega)]; rfl
  exact Ev.df h0 (Ev.df h1 (Ev.df (by omega) (Ev.bind hi (Ev.dt (by show (mkB (intB n)).size + (mkB s).size ≤ _; rw [mkB_size]; omega) (Ev.bind hp (Ev.now _))))))
theorem rRecPut_ok (n : Int) (s : List UInt8) : Ev (fun k => ref13_Put k n (mkB s)) (RecPutA n s) := by
  have hsz := mkB_size s
  unfold RecPutA
  by_cases h0 : n < 0
  · rw [if_pos (.inl h0)]; exact Ev.dt h0 (Ev.now _)
  by_cases h1 : n > 1000000000
  · rw [if_pos (.inr h1)]; exact Ev.df h0 (Ev.dt h1 (Ev.now _))
  rw [if_neg (by omega)]
  by_cases h2 : (s.length : Int) > 1000
  · rw [if_pos h2]; exact Ev.df h0 (Ev.df h1 (Ev.dt (by omega) (Ev.now _)))
  rw [if_neg h2]
  have hok : recOk n s := ⟨by omega, by omega, by omega⟩
  have hi : Ev (fun k => ref01_Int k n) (mkB (intB n), 0, ()) := by have := refInt_ok n; rwa [IntA_ok hok.int] at this
  have hl := intB_len n
  have hp : Ev (fun k => ref03_Put k 1 (mkB (intB n) ++ mkB s)) (mkB (recB n s), 0, ()) := by
    have := refPut_ok 1 (intB n ++ s)
    unfold PutA at this
    rw [if_neg (by decide), if_neg (by have := hok.short; omega), ← mkB_append] at this
    exact this
  exact Ev.df h0 (Ev.df h1 (Ev.df (by omega) (Ev.bind hi (Ev.dt (by show (mkB (intB n)).size + (mkB s).size ≤ _; rw [mkB_size]; omega) (Ev.bind hp (Ev.now _))))))

/-! ### Records one behind the other -/
def recsB : Int → List (List UInt8) → List UInt8
  | _, [] => []
  | n, t :: ts => recB n t ++ recsB (n + 1) ts
def recsOk : Int → List (List UInt8) → Prop
  | _, [] => True
  | n, t :: ts => recOk n t ∧ recsOk (n + 1) ts
/-- No record of n stands at the beginning. -/
def NoRec (l : List UInt8) (n : Int) : Prop := ∀ s q, recOk n s → l ≠ recB n s ++ q
def ScanIs (l : List UInt8) (n : Int) (ts : List (List UInt8)) (rest : List UInt8) : Prop := recsOk n ts ∧ l = recsB n ts ++ rest ∧ NoRec rest (n + ts.length)
theorem ScanIs.one : ∀ {l : List UInt8} {n : Int} {ts us : List (List UInt8)} {p q : List UInt8}, ScanIs l n ts p → ScanIs l n us q → ts = us ∧ p = q
  | l, n, [], [], p, q, h, k => ⟨rfl, by have h1 := h.2.1; have k1 := k.2.1; simp only [recsB, List.nil_append] at h1 k1; exact h1.symm.trans k1⟩
  | l, n, [], u :: us, p, q, h, k => by
    exfalso
    have h1 := h.2.1
    have k1 := k.2.1
    simp only [recsB, List.nil_append, List.append_assoc] at h1 k1
    have := h.2.2 u (recsB (n + 1) us ++ q)
    simp only [List.length_nil, Int.add_zero, Int.ofNat_zero] at this
    exact this (by simpa using k.1.1) (by rw [← h1, k1])
  | l, n, t :: ts, [], p, q, h, k => by
    exfalso
    have h1 := h.2.1
    have k1 := k.2.1
    simp only [recsB, List.nil_append, List.append_assoc] at h1 k1
    have := k.2.2 t (recsB (n + 1) ts ++ p)
    exact this (by simpa using h.1.1) (by rw [← k1, h1]; simp)
  | l, n, t :: ts, u :: us, p, q, h, k => by
    have h1 := h.2.1
    have k1 := k.2.1
    simp only [recsB, List.append_assoc] at h1 k1
    obtain ⟨_, e1, e2⟩ := rec_one h.1.1 k.1.1 (h1.symm.trans k1)
    have e3 : ∀ x : List (List UInt8), n + ((x.length + 1 : Nat) : Int) = n + 1 + x.length := fun x => by omega
    obtain ⟨e4, e5⟩ := ScanIs.one (l := recsB (n + 1) ts ++ p) ⟨h.1.2, rfl, by have := h.2.2; rw [List.length_cons, e3] at this; exact this⟩ ⟨k.1.2, e2, by have := k.2.2; rw [List.length_cons, e3] at this; exact this⟩
    exact ⟨by rw [e1, e4], e5⟩
theorem recsB_app (n : Int) (a b : List (List UInt8)) : recsB n (a ++ b) = recsB n a ++ recsB (n + a.length) b := by
  induction a generalizing n with
  | nil => simp [recsB]
  | cons t a ih =>
    rw [List.cons_append, recsB, recsB, ih, List.append_assoc, List.length_cons]
    rw [show n + 1 + (a.length : Int) = n + ((a.length + 1 : Nat) : Int) by omega]
theorem recsOk_app (n : Int) (a b : List (List UInt8)) : recsOk n (a ++ b) ↔ recsOk n a ∧ recsOk (n + a.length) b := by
  induction a generalizing n with
  | nil => simp [recsOk]
  | cons t a ih =>
    rw [List.cons_append, recsOk, recsOk, ih, and_assoc, List.length_cons]
    rw [show n + 1 + (a.length : Int) = n + ((a.length + 1 : Nat) : Int) by omega]
theorem recsOk_of {n : Int} {ts : List (List UInt8)} (h : ts ≠ [] → 0 ≤ n ∧ n + ts.length ≤ 1000000001) (hs : ∀ t ∈ ts, t.length ≤ 1000) : recsOk n ts := by
  induction ts generalizing n with
  | nil => trivial
  | cons t ts ih =>
    have h1 := h (by simp)
    rw [List.length_cons] at h1
    refine ⟨⟨h1.1, by omega, hs t (by simp)⟩, ih (fun _ => by omega) (fun x hx => hs x (by simp [hx]))⟩
theorem recsOk.bd {n : Int} {ts : List (List UInt8)} (h : recsOk n ts) : (ts ≠ [] → 0 ≤ n ∧ n + ts.length ≤ 1000000001) ∧ ∀ t ∈ ts, t.length ≤ 1000 := by
  induction ts generalizing n with
  | nil => exact ⟨fun h => absurd rfl h, fun t h => by simp at h⟩
  | cons t ts ih =>
    obtain ⟨⟨h1, h2, h3⟩, h4⟩ := h
    obtain ⟨h5, h6⟩ := ih h4
    refine ⟨fun _ => ⟨h1, ?_⟩, fun x hx => ?_⟩
    · rw [List.length_cons]
      cases ts with
      | nil => simp; omega
      | cons u ts => have := (h5 (by simp)).2; omega
    · rcases List.mem_cons.1 hx with rfl | hx
      · exact h3
      · exact h6 x hx
theorem recsB_len (n : Int) (ts : List (List UInt8)) (m : Nat) (h : ∀ t ∈ ts, t.length ≤ m) : (recsB n ts).length ≤ (m + 24) * ts.length ∧ ts.length ≤ (recsB n ts).length := by
  induction ts generalizing n with
  | nil => simp [recsB]
  | cons t ts ih =>
    have h1 := ih (n + 1) (fun x hx => h x (by simp [hx]))
    have h2 := recB_len n t
    have h3 := h t (by simp)
    rw [recsB, List.length_append, List.length_cons, Nat.mul_succ]
    omega

/-! ### Scans -/
def Ev2 {β : Type} (f : Nat → Nat → Option β) (y : β) : Prop := ∃ k0, ∀ k q, k0 ≤ k → k0 ≤ q → f k q = some y
theorem Ev2.bind {α β : Type} {f : Nat → Option α} {g : Nat → Nat → α → Option β} {x : α} {y : β} (hf : Ev f x) (hg : Ev2 (fun k q => g k q x) y) : Ev2 (fun k q => (f k).bind (g k q)) y := by
  obtain ⟨k0, h0⟩ := hf
  obtain ⟨k1, h1⟩ := hg
  refine ⟨max k0 k1, fun k q hk hq => ?_⟩
  show (f k).bind (g k q) = _
  rw [h0 k (by omega)]
  exact h1 k q (by omega) (by omega)
theorem Ev2.now {β : Type} (y : β) : Ev2 (fun _ _ => some y) y := ⟨0, fun _ _ _ _ => rfl⟩
theorem Ev2.f {β : Type} {c : Bool} {a b : Nat → Nat → Option β} {y : β} (h : c = false) (hb : Ev2 b y) : Ev2 (fun k q => bif c then a k q else b k q) y := by subst h; exact hb
theorem Ev2.t {β : Type} {c : Bool} {a b : Nat → Nat → Option β} {y : β} (h : c = true) (ha : Ev2 a y) : Ev2 (fun k q => bif c then a k q else b k q) y := by subst h; exact ha
theorem Ev2.step {b : ByteArray} {n : Int} {y : List (ByteArray × ByteArray)} (h : Ev2 (fun k q => scanL k (q + 1) b n) y) : Ev2 (fun k q => scanL k q b n) y := by
  obtain ⟨k0, h0⟩ := h
  refine ⟨k0 + 1, fun k q hk hq => ?_⟩
  obtain ⟨p, rfl⟩ : ∃ p, q = p + 1 := ⟨q - 1, by omega⟩
  exact h0 k p (by omega) (by omega)
abbrev RS (u1 : List ByteArray) (u2 : Int) (acc : List ByteArray) (left : ByteArray) (n : Int) : (List ByteArray) × (Int × ((List ByteArray) × (ByteArray × (Int × Unit)))) := (u1, u2, acc, left, n, ())
theorem scan_on {l rest s : List UInt8} {n : Int} (hl : l.length ≤ 1000000) (hok : recOk n s) (he : l = recB n s ++ rest) :
    (∀ {xs}, Ev2 (fun k q => scanL k q (mkB rest) (n + 1)) xs → Ev2 (fun k q => scanL k q (mkB l) n) ((mkB s, mkB rest) :: xs)) ∧
    (∀ (a : ByteArray) (u1 : List ByteArray) (u2 : Int) (acc : List ByteArray) {R}, acc.length ≤ 1000000 → Ev (fun k => ref13_Scan_l1 a k (RS u1 u2 (acc ++ [mkB s]) (mkB rest) (n + 1))) R → Ev (fun k => ref13_Scan_l1 a k (RS u1 u2 acc (mkB l) n)) R) := by
  obtain ⟨kd, t, r, e, hf, f1, f2⟩ := Fr_both l hl
  have hf' : FrIs (frB 1 (intB n ++ s) ++ rest) kd t r e := by rw [he] at hf; exact hf
  obtain ⟨rfl, rfl, rfl, rfl⟩ := hf'.back (by decide) (by decide) hok.short
  obtain ⟨m, u, f, hg, g1, g2⟩ := Get_both (intB n ++ s) (by have := hok.short; omega)
  obtain ⟨rfl, rfl, rfl⟩ := hg.back hok.int
  obtain ⟨o1, o2, o3⟩ := hok
  have hsz := mkB_size u
  constructor
  · intro xs h
    refine Ev2.step (Ev2.bind f1 (Ev2.bind g1 (Ev2.f rfl (Ev2.f rfl (Ev2.f rfl (Ev2.f (nbeq_i rfl) (Ev2.f (decide_eq_false (by omega)) (Ev2.f (decide_eq_false (by omega)) (Ev2.f (decide_eq_false (by show ¬ ((mkB u).size : Int) > 1000; omega)) ?_)))))))))
    obtain ⟨k0, h0⟩ := h
    refine ⟨k0, fun k q hk hq => ?_⟩
    show (scanL k q (mkB r) (m + 1)).bind _ = _
    have h2 : scanL k q (mkB r) (m + 1) = some xs := h0 k q hk hq
    rw [h2]; rfl
  · intro a u1 u2 acc R hacc h
    have hp := rRecPut_ok m u
    have hpa : RecPutA m u = (mkB (recB m u), 0, ()) := by unfold RecPutA; rw [if_neg (by omega), if_neg (by omega)]
    rw [hpa] at hp
    have hll : l.length = (recB m u).length + r.length := by rw [he, List.length_append]
    have e0 : IntKind.i64.wrap (((mkB l).size : Int) - ((mkB r).size : Int)) = (((recB m u).length : Nat) : Int) := by rw [mkB_size, mkB_size, wrap_id (by omega) (by omega)]; omega
    have ex : (mkB l).extract 0 (IntKind.i64.wrap (((mkB l).size : Int) - ((mkB r).size : Int))).toNat = mkB (recB m u) := by
      rw [e0, Int.toNat_natCast, mkB_extract, List.drop_zero, he, List.take_left]
    rw [show m + 1 = IntKind.i64.wrap (m + 1) by rw [wrap_id (by omega) (by omega)]] at h
    refine Ev.step (Ev.bind f2 (Ev.f rfl (Ev.bind g2 (Ev.bind hp (Ev.f rfl (Ev.f rfl (Ev.dt ?_ (Ev.dt ?_ (Ev.f ?_ (Ev.dt ?_ h))))))))))
    · show (0 : Int) ≤ IntKind.i64.wrap (((mkB l).size : Int) - ((mkB r).size : Int)); omega
    · show IntKind.i64.wrap (((mkB l).size : Int) - ((mkB r).size : Int)) ≤ ((mkB l).size : Int); rw [e0, mkB_size]; omega
    · show (!((mkB (recB m u)).toList == ((mkB l).extract 0 (IntKind.i64.wrap (((mkB l).size : Int) - ((mkB r).size : Int))).toNat).toList)) = false
      rw [ex, beq_self_eq_true]; rfl
    · show (acc.length + [mkB u].length) * 16 ≤ 140737488355328; simp; omega
theorem scan_off {l : List UInt8} {n : Int} (hl : l.length ≤ 1000000) (hno : NoRec l n) :
    Ev2 (fun k q => scanL k q (mkB l) n) [] ∧
    (∀ (a : ByteArray) (u1 : List ByteArray) (u2 : Int) (acc : List ByteArray), Ev (fun k => ref13_Scan_l1 a k (RS u1 u2 acc (mkB l) n)) (.ret, RS acc (IntKind.i64.wrap ((a.size : Int) - ((mkB l).size : Int))) acc (mkB l) n)) := by
  obtain ⟨kd, t, r, e, hf, f1, f2⟩ := Fr_both l hl
  have hlt : t.length ≤ 3000 := by
    rcases hf with ⟨_, _, _, h, _⟩ | ⟨_, _, h, _⟩
    · exact h
    · rw [h]; simp
  obtain ⟨m, s, f, hg, g1, g2⟩ := Get_both t (by omega)
  have hsl := hg.len
  have hsz := mkB_size s
  have no : ¬ (e = 0 ∧ f = 0 ∧ kd = 1 ∧ m = n ∧ 0 ≤ n ∧ n ≤ 1000000000 ∧ s.length ≤ 1000) := by
    rintro ⟨rfl, rfl, rfl, rfl, c1, c2, c3⟩
    rcases hf with ⟨_, _, _, _, hl2⟩ | ⟨h, _⟩
    · rcases hg with ⟨_, _, g⟩ | ⟨g, _⟩ | ⟨g, _⟩
      · exact hno s r ⟨c1, c2, c3⟩ (by rw [hl2, g]; rfl)
      · omega
      · omega
    · exact absurd rfl h
  constructor
  · refine Ev2.step (Ev2.bind f1 (Ev2.bind g1 ?_))
    by_cases c1 : e = 0
    · refine Ev2.f (nbeq_i c1) ?_
      by_cases c2 : f = 0
      · refine Ev2.f (nbeq_i c2) ?_
        by_cases c3 : kd = 1
        · refine Ev2.f (nbeq_i c3) ?_
          by_cases c4 : m = n
          · refine Ev2.f (nbeq_i c4) ?_
            by_cases c5 : n < 0
            · exact Ev2.t (decide_eq_true c5) (Ev2.now _)
            · refine Ev2.f (decide_eq_false c5) ?_
              by_cases c6 : n > 1000000000
              · exact Ev2.t (decide_eq_true c6) (Ev2.now _)
              · exact Ev2.f (decide_eq_false c6) (Ev2.t (decide_eq_true (by show ((mkB s).size : Int) > 1000; rw [hsz]; have : ¬ s.length ≤ 1000 := fun h => no ⟨c1, c2, c3, c4, by omega, by omega, h⟩; omega)) (Ev2.now _))
          · exact Ev2.t (nbne_i c4) (Ev2.now _)
        · exact Ev2.t (nbne_i c3) (Ev2.now _)
      · exact Ev2.t (nbne_i c2) (Ev2.now _)
    · exact Ev2.t (nbne_i c1) (Ev2.now _)
  · intro a u1 u2 acc
    by_cases c1 : e = 0
    · have hp := rRecPut_ok n s
      refine Ev.step (Ev.bind f2 (Ev.f (nbeq_i c1) (Ev.bind g2 (Ev.bind hp ?_))))
      by_cases c2 : f = 0
      · refine Ev.f (nbeq_i c2) ?_
        unfold RecPutA
        by_cases c5 : n < 0 ∨ n > 1000000000
        · rw [if_pos c5]; exact Ev.t (nbne_i (show (1 : Int) ≠ 0 by decide)) (Ev.now _)
        · rw [if_neg c5]
          by_cases c6 : (s.length : Int) > 1000
          · rw [if_pos c6]; exact Ev.t (nbne_i (show (2 : Int) ≠ 0 by decide)) (Ev.now _)
          · rw [if_neg c6]
            subst c1 c2
            have hrl : r.length ≤ l.length ∧ l = frB kd t ++ r ∧ 0 ≤ kd ∧ kd ≤ 99 := by
              rcases hf with ⟨_, q1, q2, _, hl2⟩ | ⟨h, _⟩
              · exact ⟨by rw [hl2, List.length_append]; omega, hl2, q1, q2⟩
              · exact absurd rfl h
            have e0 : IntKind.i64.wrap (((mkB l).size : Int) - ((mkB r).size : Int)) = ((l.length - r.length : Nat) : Int) := by rw [mkB_size, mkB_size, wrap_id (by omega) (by omega)]; omega
            have ex : (mkB l).extract 0 (IntKind.i64.wrap (((mkB l).size : Int) - ((mkB r).size : Int))).toNat = mkB (frB kd t) := by
              rw [e0, Int.toNat_natCast, mkB_extract, List.drop_zero]
              congr 1
              have : l.length - r.length = (frB kd t).length := by rw [hrl.2.1, List.length_append]; omega
              rw [this, hrl.2.1, List.take_left]
            refine Ev.f rfl (Ev.dt ?_ (Ev.dt ?_ (Ev.t ?_ (Ev.now _))))
            · show (0 : Int) ≤ IntKind.i64.wrap (((mkB l).size : Int) - ((mkB r).size : Int)); omega
            · show IntKind.i64.wrap (((mkB l).size : Int) - ((mkB r).size : Int)) ≤ ((mkB l).size : Int); rw [e0, mkB_size]; omega
            · show (!((mkB (recB n s)).toList == ((mkB l).extract 0 (IntKind.i64.wrap (((mkB l).size : Int) - ((mkB r).size : Int))).toNat).toList)) = true
              rw [ex, mkB_toList, mkB_toList]
              have hne : recB n s ≠ frB kd t := fun e2 => by
                have hok : recOk n s := ⟨by omega, by omega, by omega⟩
                have hts : FrIs (frB 1 (intB n ++ s) ++ []) kd t [] 0 := .inl ⟨rfl, hrl.2.2.1, hrl.2.2.2, hlt, by rw [List.append_nil, List.append_nil]; exact e2⟩
                obtain ⟨b1, b2, _, _⟩ := hts.back (by decide) (by decide) hok.short
                rw [b2] at hg
                obtain ⟨d1, _, _⟩ := hg.back hok.int
                exact no ⟨rfl, rfl, b1, d1, by omega, by omega, by omega⟩
              simpa using hne
      · exact Ev.t (nbne_i c2) (Ev.now _)
    · exact Ev.step (Ev.bind f2 (Ev.t (nbne_i c1) (Ev.now _)))
/-- Every text has a scan. -/
theorem scan_all (N : Nat) : ∀ (l : List UInt8) (n : Int), l.length ≤ N → l.length ≤ 1000000 → ∃ ts rest, ScanIs l n ts rest := by
  induction N with
  | zero =>
    intro l n h _
    obtain rfl : l = [] := List.length_eq_zero_iff.1 (by omega)
    exact ⟨[], [], trivial, rfl, fun s q hok e => by have := (recB_len (n + ([] : List (List UInt8)).length) s).2; have h2 := congrArg List.length e; rw [List.length_append] at h2; simp only [List.length_nil] at *; omega⟩
  | succ N ih =>
    intro l n h hb
    by_cases hr : ∃ s q, recOk n s ∧ l = recB n s ++ q
    · obtain ⟨s, q, hok, he⟩ := hr
      have h1 := (recB_len n s).2
      have h2 := congrArg List.length he
      rw [List.length_append] at h2
      obtain ⟨ts, rest, k1, k2, k3⟩ := ih q (n + 1) (by omega) (by omega)
      refine ⟨s :: ts, rest, ⟨hok, k1⟩, by rw [he, k2, recsB, List.append_assoc], ?_⟩
      rw [List.length_cons, show n + ((ts.length + 1 : Nat) : Int) = n + 1 + ts.length by omega]
      exact k3
    · refine ⟨[], l, trivial, rfl, fun s q hok e => ?_⟩
      have e0 : n + ((([] : List (List UInt8)).length : Nat) : Int) = n := by simp
      rw [e0] at hok e
      exact hr ⟨s, q, hok, e⟩
/-- What a scan answers. -/
def scanA (l : List UInt8) (ts : List (List UInt8)) (rest : List UInt8) : (List ByteArray) × (Int × Unit) := (ts.map mkB, ((l.length - rest.length : Nat) : Int), ())
theorem scan_runs (a : ByteArray) (L : List UInt8) (hL : L.length ≤ 1000000) (ha : a = mkB L) : ∀ (ts : List (List UInt8)) (l : List UInt8) (n : Int) (rest : List UInt8) (acc : List ByteArray), l.length ≤ L.length → acc.length + l.length ≤ 1000000 → ScanIs l n ts rest →
    (∃ xs, Ev2 (fun k q => scanL k q (mkB l) n) xs ∧ xs.map (·.1) = ts.map mkB ∧ ∀ t0 : Int, (xs ≠ [] ∨ t0 = ((L.length - l.length : Nat) : Int)) → xs.foldl (fun _ p => IntKind.i64.wrap ((a.size : Int) - (p.2.size : Int))) t0 = ((L.length - rest.length : Nat) : Int)) ∧
    (∃ u v, Ev (fun k => ref13_Scan_l1 a k (RS [] 0 acc (mkB l) n)) (.ret, acc ++ ts.map mkB, ((L.length - rest.length : Nat) : Int), u, v)) := by
  intro ts
  induction ts with
  | nil =>
    intro l n rest acc hl hacc h
    obtain ⟨_, h1, h2⟩ := h
    simp only [recsB, List.nil_append] at h1
    subst h1
    have e0 : n + ((([] : List (List UInt8)).length : Nat) : Int) = n := by simp
    rw [e0] at h2
    obtain ⟨s1, s2⟩ := scan_off (by omega) h2
    refine ⟨⟨[], s1, rfl, fun t0 ht => ?_⟩, ?_⟩
    · rcases ht with ht | ht
      · exact absurd rfl ht
      · exact ht
    · have := s2 a [] 0 acc
      have ew : IntKind.i64.wrap ((a.size : Int) - ((mkB l).size : Int)) = ((L.length - l.length : Nat) : Int) := by rw [ha, mkB_size, mkB_size, wrap_id (by omega) (by omega)]; omega
      rw [ew] at this
      rw [List.map_nil, List.append_nil]
      exact ⟨_, _, this⟩
  | cons t ts ih =>
    intro l n rest acc hl hacc h
    obtain ⟨⟨hok, h0⟩, h1, h2⟩ := h
    rw [recsB, List.append_assoc] at h1
    have g1 := (recB_len n t).2
    have g2 := congrArg List.length h1
    rw [List.length_append] at g2
    have h2' : NoRec rest (n + 1 + ts.length) := by rw [List.length_cons, show n + ((ts.length + 1 : Nat) : Int) = n + 1 + ts.length by omega] at h2; exact h2
    obtain ⟨⟨xs, a1, a2, a3⟩, u, v, a4⟩ := ih (recsB (n + 1) ts ++ rest) (n + 1) rest (acc ++ [mkB t]) (by omega) (by rw [List.length_append, List.length_singleton]; omega) ⟨h0, rfl, h2'⟩
    obtain ⟨s1, s2⟩ := scan_on (by omega) hok h1
    refine ⟨⟨_, s1 a1, by rw [List.map_cons, a2]; rfl, fun t0 _ => ?_⟩, ?_⟩
    · rw [List.foldl_cons]
      refine a3 _ (.inr ?_)
      show IntKind.i64.wrap ((a.size : Int) - ((mkB (recsB (n + 1) ts ++ rest)).size : Int)) = _
      rw [ha, mkB_size, mkB_size, wrap_id (by omega) (by omega)]; omega
    · refine ⟨u, v, s2 a [] 0 acc (by omega) ?_⟩
      rw [List.map_cons, show acc ++ mkB t :: ts.map mkB = acc ++ [mkB t] ++ ts.map mkB by simp]
      exact a4
theorem Scan_both {l : List UInt8} {n : Int} {ts : List (List UInt8)} {rest : List UInt8} (hl : l.length ≤ 1000000) (h : ScanIs l n ts rest) : Ev (fun k => record_Scan k (mkB l) n) (scanA l ts rest) ∧ Ev (fun k => ref13_Scan k (mkB l) n) (scanA l ts rest) := by
  obtain ⟨⟨xs, a1, a2, a3⟩, u, v, a4⟩ := scan_runs (mkB l) l hl rfl ts l n rest [] (Nat.le_refl _) (by simpa using hl) h
  constructor
  · obtain ⟨k0, h0⟩ := a1
    have hx : xs.length ≤ 1000000000 := by
      have h1 := congrArg List.length a2
      rw [List.length_map, List.length_map] at h1
      have h2 := (recsB_len n ts 1000 h.1.bd.2).2
      have h3 := congrArg List.length h.2.1
      rw [List.length_append] at h3
      omega
    refine ⟨k0, fun k hk => ?_⟩
    show (scanL k k (mkB l) n).bind _ = _
    have h2 : scanL k k (mkB l) n = some xs := h0 k k hk hk
    rw [h2]
    show (bif decide (xs.length ≤ 1000000000) then some (xs.map (·.1), takenOf (mkB l) xs, ()) else none) = _
    rw [bif_t hx, a2]
    unfold takenOf scanA
    rw [a3 0 (.inr (by omega))]
  · exact Ev.bind a4 (Ev.now _)
end Go.Proofs.Ytoeikeabbdnkbaa.A
