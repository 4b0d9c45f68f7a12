/- SlotsRow, of data alone: each Load tells the last text that was saved whole, or one that was being saved behind it. -/
import Derived.Test.YtbllbljligmglaaASlotsLaw
namespace Go.Proofs.Ytbllbljligmglaa.Pure
open Go Go.Proofs.Ytbllbljligmglaa.Ab Go.Proofs.Ytbllbljligmglaa.A
set_option linter.unusedVariables false

abbrev Stp := ByteArray × (Int × (Int × Unit))
theorem Row_loop (m : Int) (l : List Stp) (hl : l.length ≤ 30) (dd : Nat) : ∀ (i : Nat) (a c now : ByteArray), i + dd = l.length → smallS a EB c EB → okS m a EB m c EB = true → now = mkB (bestS a EB c EB).1 →
    (∃ u v w, Ev (fun k => law15_SlotsRow_l1 l k (false, now, (i : Int), S6 m a EB m c EB, ())) (.ret, true, u, v, w, ())) ∨
    (∃ a' c', smallS a' EB c' EB ∧ okS m a' EB m c' EB = true ∧ Ev (fun k => law15_SlotsRow_l1 l k (false, now, (i : Int), S6 m a EB m c EB, ())) (.exit 0, false, mkB (bestS a' EB c' EB).1, (l.length : Int), S6 m a' EB m c' EB, ())) := by
  induction dd with
  | zero =>
    intro i a c now hi sm g hnow
    obtain rfl : i = l.length := by omega
    refine .inr ⟨a, c, sm, g, Ev.step (Ev.df (by show ¬ (l.length : Int) < l.length; omega) ?_)⟩
    rw [hnow]; exact Ev.now _
  | succ dd ih =>
    intro i a c now hi sm g hnow
    have c0 : (i : Int) < (l.length : Int) := by omega
    have c1 : (0 : Int) ≤ (i : Int) := by omega
    obtain ⟨o, ho⟩ : ∃ o : Stp, l.getD (Int.toNat (i : Int)) (Ty.str.cons ((Ty.int IntKind.i64).cons ((Ty.int IntKind.i64).cons Ty.nil))).zero = o := ⟨_, rfl⟩
    have wi := wrap_succ (i := i) (by omega)
    have tl : ∀ z : ByteArray, (z.toList == z.toList) = true := fun z => beq_self_eq_true _
    by_cases hbig : (o.1.size : Int) > 200
    · refine .inl ⟨now, (i : Int), S6 m a EB m c EB, Ev.step (Ev.dt c0 (Ev.dt c1 (Ev.dt c0 ?_)))⟩
      subst ho
      exact Ev.dt hbig (Ev.bind slotted_ok (Ev.now _))
    · have hsv := Save_ok m a EB m c EB sm o.1 o.2.1
      obtain ⟨x, done, e, hx⟩ : ∃ x done e, saveS m a EB m c EB o.1 o.2.1 = (x, done, e, ()) := ⟨_, _, _, rfl⟩
      rw [hx] at hsv
      have head : ∀ {R}, Ev (fun k => (slots_Save k (S6 m a EB m c EB) o.1 o.2.1).bind fun r5 => bif r5.2.2.1 != 0 then law15_SlotsRow_l1 l k (false, now, IntKind.i64.wrap ((i : Int) + 1), S6 m a EB m c EB, ()) else
          (slots_Crash k (r5.1.1, r5.1.2.1, r5.1.2.2.1, r5.1.2.2.2.1, r5.1.2.2.2.2.1, r5.1.2.2.2.2.2.1, ()) o.2.2.1).bind fun r6 => (slots_Load k (r6.1.1, r6.1.2.1, r6.1.2.2.1, r6.1.2.2.2.1, r6.1.2.2.2.2.1, r6.1.2.2.2.2.2.1, ())).bind fun r7 =>
          bif r6.2.1 != 0 then some (AExit.ret, false, now, (i : Int), S6 m a EB m c EB, ()) else bif r7.2.2.1 != 0 then some (AExit.ret, false, now, (i : Int), S6 m a EB m c EB, ()) else
          bif !(r7.1.toList == o.1.toList) then (bif r5.2.1 then some (AExit.ret, false, now, (i : Int), S6 m a EB m c EB, ()) else bif !(r7.1.toList == now.toList) then some (AExit.ret, false, now, (i : Int), S6 m a EB m c EB, ()) else law15_SlotsRow_l1 l k (false, r7.1, IntKind.i64.wrap ((i : Int) + 1), (r6.1.1, r6.1.2.1, r6.1.2.2.1, r6.1.2.2.2.1, r6.1.2.2.2.2.1, r6.1.2.2.2.2.2.1, ()), ()))
          else law15_SlotsRow_l1 l k (false, r7.1, IntKind.i64.wrap ((i : Int) + 1), (r6.1.1, r6.1.2.1, r6.1.2.2.1, r6.1.2.2.2.1, r6.1.2.2.2.2.1, r6.1.2.2.2.2.2.1, ()), ())) R →
          Ev (fun k => law15_SlotsRow_l1 l k (false, now, (i : Int), S6 m a EB m c EB, ())) R := fun {R} h => by
        refine Ev.step (Ev.dt c0 (Ev.dt c1 (Ev.dt c0 ?_)))
        subst ho
        exact Ev.df hbig h
      by_cases he : e = 0
      · subst he
        obtain ⟨_, a', c', sm', g', ⟨b2, d2, a2, c2, rfl, sm2, hcr⟩, hor⟩ := save_crash m a c m sm o.1 o.2.1 o.2.2.1 hx
        have hc := SCrash_ok m a2 b2 m c2 d2 sm2 o.2.2.1
        rw [hcr] at hc
        have hl2 := Load_ok m a' EB m c' EB sm'
        rw [loadS_ok _ _ _ _ _ _ g'] at hl2
        have step : ∀ {R}, Ev (fun k => law15_SlotsRow_l1 l k (false, mkB (bestS a' EB c' EB).1, ((i + 1 : Nat) : Int), S6 m a' EB m c' EB, ())) R → Ev (fun k => law15_SlotsRow_l1 l k (false, now, (i : Int), S6 m a EB m c EB, ())) R := fun {R} h => by
          rw [← wi] at h
          refine head (Ev.bind hsv (Ev.f (nbeq_i rfl) (Ev.bind hc (Ev.bind hl2 (Ev.f (nbeq_i rfl) (Ev.f (nbeq_i rfl) ?_))))))
          rcases hor with ⟨h1, h2⟩ | ⟨rfl, h2⟩
          · exact Ev.f (by show (!((mkB (bestS a' EB c' EB).1).toList == o.1.toList)) = false; rw [h1, mkB_of, tl]; rfl) h
          · cases hq : (!((mkB (bestS a' EB c' EB).1).toList == o.1.toList)) with
            | false => exact Ev.f rfl h
            | true => exact Ev.t rfl (Ev.f rfl (Ev.f (by show (!((mkB (bestS a' EB c' EB).1).toList == now.toList)) = false; rw [hnow, h2, tl]; rfl) h))
        rcases ih (i + 1) a' c' (mkB (bestS a' EB c' EB).1) (by omega) sm' g' rfl with ⟨u, v, w, h⟩ | ⟨a3, c3, s3, g3, h⟩
        · exact .inl ⟨u, v, w, step h⟩
        · exact .inr ⟨a3, c3, s3, g3, step h⟩
      · have step : ∀ {R}, Ev (fun k => law15_SlotsRow_l1 l k (false, now, ((i + 1 : Nat) : Int), S6 m a EB m c EB, ())) R → Ev (fun k => law15_SlotsRow_l1 l k (false, now, (i : Int), S6 m a EB m c EB, ())) R := fun {R} h => by
          rw [← wi] at h
          exact head (Ev.bind hsv (Ev.t (nbne_i he) h))
        rcases ih (i + 1) a c now (by omega) sm g hnow with ⟨u, v, w, h⟩ | ⟨a3, c3, s3, g3, h⟩
        · exact .inl ⟨u, v, w, step h⟩
        · exact .inr ⟨a3, c3, s3, g3, step h⟩
theorem SlotsRow : ∀ (a0 : Int) (a1 : (List (ByteArray × (Int × (Int × Unit))))), (Lit.int .i64 a0).wf = true → bnd (.sl (.cons .str (.cons (.int .i64) (.cons (.int .i64) .nil)))) a1 → ∃ k, law15_SlotsRow k a0 a1 = some (true, ()) := by
  intro m l _ _
  refine Ev.get ?_
  have hn := SNew_ok m
  unfold newS at hn
  cases g : decide (1 ≤ m ∧ m ≤ 4000) with
  | false => rw [g] at hn; exact Ev.bind hn (Ev.t rfl (Ev.bind slotted_ok (Ev.now _)))
  | true =>
    rw [g] at hn
    have hm := of_decide_eq_true g
    refine Ev.bind hn (Ev.f rfl ?_)
    by_cases h1 : (l.length : Int) > 30
    · exact Ev.dt h1 (Ev.bind slotted_ok (Ev.now _))
    · refine Ev.df h1 ?_
      have hE : EB.size = 0 := EB_size
      have sm : smallS EB EB EB EB := ⟨by omega, by omega, by omega, by omega⟩
      have g0 : okS m EB EB m EB EB = true := by
        unfold okS
        rw [show okF m EB EB = true from decide_eq_true ⟨hm.1, hm.2, by omega⟩]
        simp
      have h0 : EB = mkB (bestS EB EB EB EB).1 := by
        have : bestS EB EB EB EB = ([], 0, -1) := by
          unfold bestS
          have e : (EB ++ EB).data.toList = [] := by rw [app_E]
          rw [e, noteO_nil]; rfl
        rw [this]; rfl
      rcases Row_loop m l (by omega) l.length 0 EB EB EB (by omega) sm g0 h0 with ⟨u, v, w, h⟩ | ⟨a', c', s', g', h⟩
      · exact Ev.bind h (Ev.now _)
      · have hl := Load_ok m a' EB m c' EB s'
        rw [loadS_ok _ _ _ _ _ _ g'] at hl
        refine Ev.bind h (Ev.t rfl (Ev.bind hl (Ev.bind slotted_ok (Ev.t rfl (Ev.t (beq_i rfl) ?_)))))
        exact Ev.of (g := fun _ => some (true, ())) (fun k => congrArg (fun z : Bool => some (z, ())) (beq_self_eq_true _)) (Ev.now _)
end Go.Proofs.Ytbllbljligmglaa.Pure
