/- Packets: what is read, on both sides. -/
import Derived.Test.YtoeikeabbdnkbaaAPkRef
namespace Go.Proofs.Ytoeikeabbdnkbaa.Pure
open Go Go.Proofs.Ytoeikeabbdnkbaa.Ab Go.Proofs.Ytoeikeabbdnkbaa.A
set_option linter.unusedVariables false
set_option linter.unusedSimpArgs false

/-- Numbers, read one by one. -/
def rdN {β : Type} (k : Nat) (z : Option β) : Nat → ByteArray → List Int → (List Int → ByteArray → Option β) → Option β
  | 0, s, acc, K => K acc s
  | m + 1, s, acc, K => (wire_GetInt k s).bind fun r => bif !r.2.2.1 == 0 then z else rdN k z m r.2.1 (acc ++ [r.1]) K
/-- A row of a kind, of numbers and texts, and what goes on behind. -/
def pkGet {β : Type} (k : Nat) (kind : Int) (m : Nat) (z : Option β) (K : List Int → List ByteArray → Option β) (s : ByteArray) : Option β :=
  (frame_GetRow k s).bind fun r1 => (bif r1.2.2.2.1 == 0 then (bif ByteArray.toList r1.2.2.1 == (ByteArray.mk #[]).toList then (bif r1.1 == kind then (bif !decide (((List.length r1.2.1 : Nat) : Int) > 0) then z else
    (bif decide (0 < ((List.length r1.2.1 : Nat) : Int)) then (bif decide (1 ≤ ((List.length r1.2.1 : Nat) : Int)) then ((slices_Clone_string_string k (List.drop (Int.toNat 1) (List.take (List.length r1.2.1) r1.2.1))).bind fun r2 =>
      rdN k z m (List.getD r1.2.1 (Int.toNat 0) Ty.str.zero) [] fun ns rest => bif !ByteArray.toList rest == (ByteArray.mk #[]).toList then z else K ns r2.1) else none) else none)) else z) else z) else z)
abbrev CmdT : Type := Int × (Int × (Int × (Int × (Int × (Int × (Int × (Int × Unit)))))))
abbrev AnsT : Type := Int × (Int × ((List ByteArray) × Unit))
abbrev MsgT : Type := Int × (Int × (Int × (Int × (Int × (Int × (Int × ((List ByteArray) × Unit)))))))
def zC : Option (CmdT × (Int × Unit)) := some ((0, 0, 0, 0, 0, 0, 0, 0, ()), 20, ())
def zA : Option (AnsT × (Int × Unit)) := some ((0, 0, [], ()), 20, ())
def zM : Option (MsgT × (Int × Unit)) := some ((0, 0, 0, 0, 0, 0, 0, [], ()), 20, ())
def kC (k : Nat) (ns : List Int) (l : List ByteArray) : Option (CmdT × (Int × Unit)) := match ns with
  | [a, b, c, d, e, f, g, h] => bif ((List.length l : Nat) : Int) == 0 then (machine_May k (a, b, c, d, e, f, g, h, ())).bind fun r => bif !r.1 then zC else some ((a, b, c, d, e, f, g, h, ()), 0, ()) else zC
  | _ => none
def kA (k : Nat) (ns : List Int) (l : List ByteArray) : Option (AnsT × (Int × Unit)) := match ns with
  | [a, b] => (packet_may k (a, b, l, ())).bind fun r => bif !r.1 then zA else some ((a, b, l, ()), 0, ())
  | _ => none
def kM (k : Nat) (ns : List Int) (l : List ByteArray) : Option (MsgT × (Int × Unit)) := match ns with
  | [a, b, c, d, e, f, g] => (packet_Is k (a, b, c, d, e, f, g, l, ())).bind fun r => bif !r.1 then zM else some ((a, b, c, d, e, f, g, l, ()), 0, ())
  | _ => none
theorem getC (k : Nat) (s : ByteArray) : packet_GetCmd k s = pkGet k 4 8 zC (kC k) s := rfl
theorem getA (k : Nat) (s : ByteArray) : packet_GetAnswer k s = pkGet k 5 2 zA (kA k) s := rfl
theorem getM (k : Nat) (s : ByteArray) : packet_GetMsg k s = pkGet k 6 7 zM (kM k) s := rfl
theorem nums_both (M : Nat) (hM : M ≤ 100) : ∀ (m : Nat) (h : List UInt8), h.length ≤ 1000000 → m ≤ M →
    (∃ ns rest, ns.length = m ∧ (∀ n ∈ ns, intOk n = true) ∧ h = intsB ns ++ rest ∧ (∀ (β : Type) (z : Option β) (acc : List Int) (K : Nat → List Int → ByteArray → Option β) (y : β), Ev (fun k => K k (acc ++ ns) (mkB rest)) y → Ev (fun k => rdN k z m (mkB h) acc (K k)) y) ∧
      ∀ acc : List Int, acc.length = M - m → Ev (fun k => ref01_GetInts_l1 (M : Int) k ([], EB, 0, acc, mkB h, ((M - m : Nat) : Int), ())) (.exit 0, [], EB, 0, acc ++ ns, mkB rest, (M : Int), ())) ∨
    (∃ e : Int, e ≠ 0 ∧ (∀ (β : Type) (z : β) (acc : List Int) (K : Nat → List Int → ByteArray → Option β), Ev (fun k => rdN k (some z) m (mkB h) acc (K k)) z) ∧
      ∀ acc : List Int, acc.length = M - m → ∃ u, Ev (fun k => ref01_GetInts_l1 (M : Int) k ([], EB, 0, acc, mkB h, ((M - m : Nat) : Int), ())) (.ret, [], EB, e, u)) := by
  intro m
  induction m with
  | zero =>
    intro h hl _
    refine .inl ⟨[], h, rfl, fun n hn => (by cases hn), rfl, fun β z acc K y hy => ?_, fun acc ha => ?_⟩
    · rw [List.append_nil] at hy; exact hy
    · rw [List.append_nil, Nat.sub_zero]
      exact Ev.step (Ev.df (by show ¬ (M : Int) < (M : Int); omega) (Ev.now _))
  | succ m ih =>
    intro h hl hm
    obtain ⟨n, r, e, hg, h1, h2⟩ := Get_both h (by omega)
    have hlt : ((M - (m + 1) : Nat) : Int) < (M : Int) := by omega
    have hlen := hg.len
    by_cases he : e = 0
    · subst he
      have hok : intOk n = true ∧ h = intB n ++ r := by
        rcases hg with ⟨_, a, b⟩ | ⟨a, _⟩ | ⟨a, _⟩
        · exact ⟨a, b⟩
        · cases a
        · cases a
      have hstep : ∀ {acc : List Int} {R}, acc.length = M - (m + 1) → Ev (fun k => ref01_GetInts_l1 (M : Int) k ([], EB, 0, acc ++ [n], mkB r, ((M - m : Nat) : Int), ())) R → Ev (fun k => ref01_GetInts_l1 (M : Int) k ([], EB, 0, acc, mkB h, ((M - (m + 1) : Nat) : Int), ())) R := by
        intro acc R ha hR
        have hw := wrap_succ (i := M - (m + 1)) (by omega)
        rw [show M - (m + 1) + 1 = M - m by omega] at hw
        rw [← hw] at hR
        exact Ev.step (Ev.dt hlt (Ev.bind h2 (Ev.f (nbeq_i rfl) (Ev.dt (by show (acc.length + 1) * 8 ≤ 140737488355328; omega) hR))))
      rcases ih r (by omega) (by omega) with ⟨ns, rest, a1, a2, a3, a4, a5⟩ | ⟨e, a1, a2, a3⟩
      · refine .inl ⟨n :: ns, rest, by rw [List.length_cons, a1], fun x hx => ?_, ?_, fun β z acc K y hy => ?_, fun acc ha => ?_⟩
        · rcases List.mem_cons.1 hx with rfl | hx
          · exact hok.1
          · exact a2 x hx
        · rw [hok.2, a3]; simp [intsB]
        · refine Ev.bind h1 (Ev.f (by show (!((0 : Int) == 0)) = false; rfl) (a4 β z (acc ++ [n]) K y ?_))
          rw [List.append_assoc]; exact hy
        · have := hstep ha (a5 (acc ++ [n]) (by rw [List.length_append, List.length_singleton]; omega))
          rw [List.append_assoc] at this; exact this
      · refine .inr ⟨e, a1, fun β z acc K => Ev.bind h1 (Ev.f (by show (!((0 : Int) == 0)) = false; rfl) (a2 β z (acc ++ [n]) K)), fun acc ha => ?_⟩
        obtain ⟨u, hu⟩ := a3 (acc ++ [n]) (by rw [List.length_append, List.length_singleton]; omega)
        exact ⟨u, hstep ha hu⟩
    · refine .inr ⟨e, he, fun β z acc K => Ev.bind h1 (Ev.t (by show (!(e == 0)) = true; rw [bne_i he]; rfl) (Ev.now _)), fun acc ha => ⟨_, Ev.step (Ev.dt hlt (Ev.bind h2 (Ev.t (nbne_i he) (Ev.now _))))⟩⟩
theorem tx_ne {l : List UInt8} (h : l ≠ []) : (ByteArray.toList (mkB l) == (ByteArray.mk #[]).toList) = false := by
  have := text_ne h
  simpa using this
theorem tx_eq : (ByteArray.toList (mkB []) == (ByteArray.mk #[]).toList) = true := by
  have := text_eq
  simpa using this
theorem clone_ok (k : Nat) (l : List ByteArray) (h : l.length ≤ 1000000) : slices_Clone_string_string k l = some (l, ()) := by
  unfold slices_Clone_string_string
  rw [cdec, if_pos (by omega)]
theorem own_ok (k : Nat) (l : List ByteArray) (h : l.length ≤ 1000000) : ref01_OwnTexts k l = some (l, ()) := by
  unfold ref01_OwnTexts
  cases l with
  | nil => rfl
  | cons x l => 
    rw [show (List.length (x :: l)).beq 0 = false from rfl, cond_false, cdec, if_pos (by omega)]
theorem both_get (kind : Int) (m : Nat) (hm : m ≤ 100) (l : List UInt8) (hl : l.length ≤ 1000000) :
    (∃ ns ts, ns.length = m ∧ (∀ n ∈ ns, intOk n = true) ∧ 0 ≤ kind ∧ kind ≤ 99 ∧ ts.length < 100 ∧ shortL (intsB ns :: ts) ∧ (rowB (intsB ns :: ts)).length ≤ 3000 ∧ l = frB kind (rowB (intsB ns :: ts)) ∧
      (∀ (β : Type) (z : Option β) (K : Nat → List Int → List ByteArray → Option β) (y : β), Ev (fun k => K k ns (ts.map mkB)) y → Ev (fun k => pkGet k kind m z (K k) (mkB l)) y) ∧ Ev (fun k => ref20_get k kind (m : Int) (mkB l)) (ns, ts.map mkB, true, ())) ∨
    ((∀ (β : Type) (z : β) (K : Nat → List Int → List ByteArray → Option β), Ev (fun k => pkGet k kind m (some z) (K k) (mkB l)) z) ∧ ∃ x y, Ev (fun k => ref20_get k kind (m : Int) (mkB l)) (x, y, false, ())) := by
  obtain ⟨k0, ts, rest, e, hrow, g1, g2⟩ := Row_both l hl
  by_cases he : e = 0
  case neg => exact .inr ⟨fun β z K => Ev.bind g1 (Ev.f (bne_i he) (Ev.now _)), _, _, Ev.bind g2 (Ev.t (nbne_i he) (Ev.now _))⟩
  subst he
  rcases hrow with ⟨_, r0, r1, r2, r3, r4, r5⟩ | ⟨q, _⟩
  case inr => exact absurd rfl q
  by_cases hr : rest = []
  case neg => exact .inr ⟨fun β z K => Ev.bind g1 (Ev.t (beq_i rfl) (Ev.f (tx_ne hr) (Ev.now _))), _, _, Ev.bind g2 (Ev.f (nbeq_i rfl) (Ev.t (text_ne hr) (Ev.now _)))⟩
  subst hr
  by_cases hk : k0 = kind
  case neg => exact .inr ⟨fun β z K => Ev.bind g1 (Ev.t (beq_i rfl) (Ev.t tx_eq (Ev.f (bne_i hk) (Ev.now _)))), _, _, Ev.bind g2 (Ev.f (nbeq_i rfl) (Ev.f text_eq (Ev.t (nbne_i hk) (Ev.now _))))⟩
  subst hk
  cases ts with
  | nil => exact .inr ⟨fun β z K => Ev.bind g1 (Ev.t (beq_i rfl) (Ev.t tx_eq (Ev.t (beq_i rfl) (Ev.t rfl (Ev.now _))))), _, _, Ev.bind g2 (Ev.f (nbeq_i rfl) (Ev.f text_eq (Ev.f (nbeq_i rfl) (Ev.t rfl (Ev.now _)))))⟩
  | cons h ts =>
    have hml : ((h :: ts).map mkB).length = ts.length + 1 := by rw [List.length_map, List.length_cons]
    rw [List.length_cons] at r2
    have hh := r3 h (by simp)
    have hdrop : List.drop (Int.toNat 1) (List.take ((h :: ts).map mkB).length ((h :: ts).map mkB)) = ts.map mkB := by rw [List.take_length]; rfl
    have c0 : ¬ ¬ (((((h :: ts).map mkB).length : Nat) : Int) > 0) := by rw [hml]; omega
    have c1 : (0 : Int) < ((((h :: ts).map mkB).length : Nat) : Int) := by rw [hml]; omega
    have c2 : (1 : Int) ≤ ((((h :: ts).map mkB).length : Nat) : Int) := by rw [hml]; omega
    have c3 : ¬ ((((h :: ts).map mkB).length : Nat) : Int) < 1 := by rw [hml]; omega
    have cn : (!decide (((((h :: ts).map mkB).length : Nat) : Int) > 0)) = false := by simp only [Bool.not_eq_false', decide_eq_true_eq]; omega
    have hcl : Ev (fun k => slices_Clone_string_string k (List.drop (Int.toNat 1) (List.take ((h :: ts).map mkB).length ((h :: ts).map mkB)))) (ts.map mkB, ()) := by
      rw [hdrop]; exact Ev.all fun k => clone_ok k _ (by rw [List.length_map]; omega)
    have how : Ev (fun k => ref01_OwnTexts k (List.drop (Int.toNat 1) (List.take ((h :: ts).map mkB).length ((h :: ts).map mkB)))) (ts.map mkB, ()) := by
      rw [hdrop]; exact Ev.all fun k => own_ok k _ (by rw [List.length_map]; omega)
    have n0 : ¬ (m : Int) < 0 := by omega
    have n1 : ¬ (m : Int) > 100 := by omega
    have mm : ((m - m : Nat) : Int) = 0 := by omega
    rcases nums_both m hm m h (by omega) (Nat.le_refl _) with ⟨ns, rest, a1, a2, a3, a4, a5⟩ | ⟨e, a1, a2, a3⟩
    · have hints : Ev (fun k => ref01_GetInts k (mkB h) (m : Int)) (ns, mkB rest, 0, ()) := by
        have := a5 [] (by simp)
        rw [mm, List.nil_append] at this
        exact Ev.df n0 (Ev.df n1 (Ev.bind this (Ev.t rfl (Ev.now _))))
      have href : Ev (fun k => ref20_get k k0 (m : Int) (mkB l)) (ns, ts.map mkB, (ByteArray.toList (mkB rest) == (ByteArray.mk #[]).toList), ()) :=
        Ev.bind g2 (Ev.f (nbeq_i rfl) (Ev.f text_eq (Ev.f (nbeq_i rfl) (Ev.df c3 (Ev.dt c1 (Ev.bind hints (Ev.dt c2 (Ev.bind how (Ev.t (beq_i rfl) (Ev.now _)))))))))) 
      have hpk : ∀ (β : Type) (z : Option β) (K : Nat → List Int → List ByteArray → Option β) (y : β), Ev (fun k => bif !ByteArray.toList (mkB rest) == (ByteArray.mk #[]).toList then z else K k ns (ts.map mkB)) y → Ev (fun k => pkGet k k0 m z (K k) (mkB l)) y := fun β z K y hy =>
        Ev.bind g1 (Ev.t (beq_i rfl) (Ev.t tx_eq (Ev.t (beq_i rfl) (Ev.f cn (Ev.dt c1 (Ev.dt c2 (Ev.bind hcl (a4 β z [] (fun k ns rest => bif !ByteArray.toList rest == (ByteArray.mk #[]).toList then z else K k ns (ts.map mkB)) y hy))))))))
      by_cases hr : rest = []
      · subst hr
        rw [List.append_nil] at a3
        subst a3
        rw [List.append_nil] at r5
        rw [tx_eq] at href
        exact .inl ⟨ns, ts, a1, a2, r0, r1, by omega, r3, r4, r5, fun β z K y hy => hpk β z K y (Ev.f (by rw [tx_eq]; rfl) hy), href⟩
      · rw [tx_ne hr] at href
        exact .inr ⟨fun β z K => hpk β (some z) K z (Ev.t (by rw [tx_ne hr]; rfl) (Ev.now _)), _, _, href⟩
    · obtain ⟨u, hu⟩ := a3 [] (by simp)
      rw [mm] at hu
      have hints : Ev (fun k => ref01_GetInts k (mkB h) (m : Int)) ([], EB, e, ()) := Ev.df n0 (Ev.df n1 (Ev.bind hu (Ev.now _)))
      have href : Ev (fun k => ref20_get k k0 (m : Int) (mkB l)) ([], ts.map mkB, false, ()) :=
        Ev.bind g2 (Ev.f (nbeq_i rfl) (Ev.f text_eq (Ev.f (nbeq_i rfl) (Ev.df c3 (Ev.dt c1 (Ev.bind hints (Ev.dt c2 (Ev.bind how (Ev.f (bne_i a1) (Ev.now _))))))))))
      refine .inr ⟨fun β z K => ?_, _, _, href⟩
      have h3 := a2 β z [] (fun k ns rest => bif !ByteArray.toList rest == (ByteArray.mk #[]).toList then some z else K k ns (ts.map mkB))
      exact Ev.bind g1 (Ev.t (beq_i rfl) (Ev.t tx_eq (Ev.t (beq_i rfl) (Ev.f cn (Ev.dt c1 (Ev.dt c2 (Ev.bind hcl h3)))))))
end Go.Proofs.Ytoeikeabbdnkbaa.Pure
