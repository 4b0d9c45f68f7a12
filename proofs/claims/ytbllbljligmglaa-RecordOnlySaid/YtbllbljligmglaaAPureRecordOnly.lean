/- RecordOnly, of data alone. -/
import Derived.Test.YtbllbljligmglaaARecLaw
import Derived.Test.YtbllbljligmglaaAbB
namespace Go.Proofs.Ytbllbljligmglaa.Pure
open Go Go.Proofs.Ytbllbljligmglaa.Ab Go.Proofs.Ytbllbljligmglaa.A
set_option linter.unusedVariables false

theorem RecordOnly : ∀ (a0 : Int) (a1 : Int) (a2 : (List ByteArray)), (Lit.int .i64 a0).wf = true → (Lit.int .i64 a1).wf = true → bnd (.sl .str) a2 → ∃ k, law13_RecordOnly k a0 a1 a2 = some (true, ()) := by
  intro n b l _ _ hl
  refine Ev.get ?_
  have hl : l.length ≤ maxLen := hl.1
  have hE : EB.size = 0 := EB_size
  have hn : Ev (fun k => file_New k 4000) (F 4000 EB EB, 0, ()) := bad_ok (m := 4000)
  refine Ev.bind hn ?_
  obtain ⟨x, hx, hs⟩ := rfar_ok 4000 EB EB l hl
  cases x with
  | true => exact Ev.bind hx (Ev.t rfl (Ev.t rfl (Ev.bind recorded_ok (Ev.now _))))
  | false =>
  refine Ev.bind hx (Ev.f rfl ?_)
  obtain ⟨_, _, hs, _⟩ := hs rfl
  obtain ⟨L, rfl⟩ := all_texts l
  have hm : (L.map mkB).length = L.length := List.length_map ..
  cases L with
  | nil => exact Ev.t rfl (Ev.t rfl (Ev.bind recorded_ok (Ev.now _)))
  | cons t L =>
  refine Ev.f (bne_i (by show ¬ (((t :: L).map mkB).length : Int) = 0; rw [hm, List.length_cons]; omega)) ?_
  have hA := (AddR_both 4000 EB EB (by omega) (by omega) n (t :: L) (by omega)).1
  rcases addR_cases 4000 EB EB n (t :: L) with ⟨g0, ok, g2, e2⟩ | ⟨e, he, e2, _⟩
  case inr =>
    rw [e2] at hA
    exact Ev.bind hA (Ev.t (nbne_i he) (Ev.bind recorded_ok (Ev.now _)))
  rw [e2] at hA
  have b2 := okF_bd g2
  have fr : Ev (fun k => file_Read k (F 4000 EB (EB ++ mkB (recsB n (t :: L))))) (EB ++ (EB ++ mkB (recsB n (t :: L))), ()) := Ev.all fun k => read_ok k _ _ _ (by omega) (by omega)
  have e0 : (EB ++ (EB ++ mkB (recsB n (t :: L)))).data.toList = recsB n (t :: L) := by rw [E_app, E_app]; rfl
  have hsc : ∃ ts rest, ScanIs (EB ++ (EB ++ mkB (recsB n (t :: L)))).data.toList b ts rest ∧ (b = n → ts = t :: L) ∧ (b ≠ n → ts = []) := by
    rw [e0]
    by_cases hb : b = n
    · subst hb; exact ⟨_, _, scan_whole ok, fun _ => rfl, fun h => absurd rfl h⟩
    · refine ⟨[], _, ⟨trivial, rfl, fun s q hs2 e => ?_⟩, fun h => absurd h hb, fun _ => rfl⟩
      have eb : b + ((([] : List (List UInt8)).length : Nat) : Int) = b := by simp
      rw [eb] at hs2 e
      have e : recB n t ++ recsB (n + 1) L = recB b s ++ q := e
      exact hb (rec_one ok.1 hs2 e).1.symm
  obtain ⟨ts, rest, hsc, c1, c2⟩ := hsc
  have sc := (scan_of (by omega) (by omega) hsc).1
  have hp := RecPut_ok n t
  rw [put_good ok.1.1 ok.1.2.1 ok.1.2.2] at hp
  have hlen := recB_len n t
  have hsz := mkB_size (recB n t)
  have ht := ok.1.2.2
  have hsc2 : ScanIs (mkB (recB n t) ++ mkB (recB n t)).data.toList n [t] (recB n t) := by
    rw [two_app]
    refine ⟨⟨ok.1, trivial⟩, by simp [recsB], fun s q hs2 e => ?_⟩
    have e1 : recB n t ++ [] = recB (n + (([t].length : Nat) : Int)) s ++ q := by rw [List.append_nil]; exact e
    have := (rec_one ok.1 hs2 e1).1
    simp at this
    omega
  have sc2 := (scan_of (by omega) (by omega) hsc2).1
  have c3 : (((((recsB n [t]).length : Nat) : Int)) != ((mkB (recB n t)).size : Int)) = false := nbeq_i (by rw [hsz]; simp [recsB])
  have c0 : (0 : Int) < (((t :: L).map mkB).length : Int) := by rw [hm, List.length_cons]; omega
  refine Ev.bind hA (Ev.f rfl (Ev.bind fr (Ev.bind sc (Ev.dt c0 (Ev.bind hp (Ev.dt (by show (mkB (recB n t)).size + (mkB (recB n t)).size ≤ _; omega) (Ev.bind sc2 (Ev.f rfl (Ev.f rfl (Ev.f c3 (Ev.bind recorded_ok (Ev.t rfl ?_))))))))))))
  have hml : (ts.map mkB).length = ts.length := List.length_map ..
  by_cases hb : b = n
  · obtain rfl := c1 hb
    subst hb
    have d1 : ((b == b) == decide ((((((t :: L).map mkB).length : Nat) : Int)) > 0)) = true := by rw [beq_i rfl, decide_eq_true c0]; rfl
    have hr : 0 < (recsB b (t :: L)).length := by rw [recsB, List.length_append]; omega
    have d2 : (decide ((((((t :: L).map mkB).length : Nat) : Int)) > 0) == decide ((((recsB b (t :: L)).length : Nat) : Int) > 0)) = true := by rw [decide_eq_true c0, decide_eq_true (by omega)]; rfl
    refine Ev.t d1 (Ev.t d2 (Ev.f (nbeq_i rfl) ?_))
    exact Ev.of (g := fun _ => some (true, ())) (fun k => congrArg (fun z : Bool => some (z, ())) (beq_i rfl)) (Ev.now _)
  · obtain rfl := c2 hb
    have d1 : ((b == n) == decide ((((([] : List (List UInt8)).map mkB).length : Nat) : Int) > 0)) = true := by rw [bne_i hb]; rfl
    exact Ev.t d1 (Ev.t rfl (Ev.t (nbne_i hb) (Ev.now _)))
end Go.Proofs.Ytbllbljligmglaa.Pure
