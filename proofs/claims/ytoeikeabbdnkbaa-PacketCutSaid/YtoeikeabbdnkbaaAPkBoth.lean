/- Packets: commands, answers and messages that are read, on both sides. -/
import Derived.Test.YtoeikeabbdnkbaaAPkGet
namespace Go.Proofs.Ytoeikeabbdnkbaa.Pure
open Go Go.Proofs.Ytoeikeabbdnkbaa.Ab Go.Proofs.Ytoeikeabbdnkbaa.A
set_option linter.unusedVariables false
set_option linter.unusedSimpArgs false

def numsC (c : CmdT) : List Int := [c.1, c.2.1, c.2.2.1, c.2.2.2.1, c.2.2.2.2.1, c.2.2.2.2.2.1, c.2.2.2.2.2.2.1, c.2.2.2.2.2.2.2.1]
def numsA (a : AnsT) : List Int := [a.1, a.2.1]
def numsM (m : MsgT) : List Int := [m.1, m.2.1, m.2.2.1, m.2.2.2.1, m.2.2.2.2.1, m.2.2.2.2.2.1, m.2.2.2.2.2.2.1]
def okC (c : CmdT) : Prop := cmdP c.1 c.2.1 c.2.2.1 c.2.2.2.1 c.2.2.2.2.1 c.2.2.2.2.2.1 c.2.2.2.2.2.2.1 c.2.2.2.2.2.2.2.1
def okA (a : AnsT) : Prop := ansP a.1 a.2.1 a.2.2.1
def okM (m : MsgT) : Prop := msgP m.1 m.2.1 m.2.2.1 m.2.2.2.1 m.2.2.2.2.1 m.2.2.2.2.2.1 m.2.2.2.2.2.2.1 m.2.2.2.2.2.2.2.1
instance (c : CmdT) : Decidable (okC c) := by unfold okC; infer_instance
instance (a : AnsT) : Decidable (okA a) := by unfold okA; infer_instance
instance (m : MsgT) : Decidable (okM m) := by unfold okM; infer_instance
/-- A row that a frame holds, of numbers and texts. -/
def Lays (kind : Int) (ns : List Int) (ts : List (List UInt8)) (l : List UInt8) : Prop :=
  (∀ n ∈ ns, intOk n = true) ∧ ts.length < 100 ∧ shortL (intsB ns :: ts) ∧ (rowB (intsB ns :: ts)).length ≤ 3000 ∧ l = frB kind (rowB (intsB ns :: ts))
def CmdIs (l : List UInt8) (c : CmdT) (e : Int) : Prop := (e = 0 ∧ okC c ∧ Lays 4 (numsC c) [] l) ∨ (e = 20 ∧ c = (0, 0, 0, 0, 0, 0, 0, 0, ()))
def AnsIs (l : List UInt8) (a : AnsT) (e : Int) : Prop := (e = 0 ∧ okA a ∧ ∃ ts, a.2.2.1 = ts.map mkB ∧ Lays 5 (numsA a) ts l) ∨ (e = 20 ∧ a = (0, 0, [], ()))
def MsgIs (l : List UInt8) (m : MsgT) (e : Int) : Prop := (e = 0 ∧ okM m ∧ ∃ ts, m.2.2.2.2.2.2.2.1 = ts.map mkB ∧ Lays 6 (numsM m) ts l) ∨ (e = 20 ∧ m = (0, 0, 0, 0, 0, 0, 0, [], ()))
theorem kC_more (k : Nat) (a b c d e f g h : Int) (l : List ByteArray) (h0 : ¬ ((l.length : Nat) : Int) = 0) : kC k [a, b, c, d, e, f, g, h] l = zC := by
  unfold kC; dsimp only; rw [bne_i h0]; rfl
theorem kC_none (k : Nat) (a b c d e f g h : Int) : kC k [a, b, c, d, e, f, g, h] [] = some (if cmdP a b c d e f g h then ((a, b, c, d, e, f, g, h, ()), 0, ()) else ((0, 0, 0, 0, 0, 0, 0, 0, ()), 20, ())) := by
  unfold kC; dsimp only; rw [beq_i (by rfl), cond_true, mayM]
  by_cases hp : cmdP a b c d e f g h
  · rw [if_pos hp, decide_eq_true hp]; rfl
  · rw [if_neg hp, decide_eq_false hp]; rfl
theorem getC_both (l : List UInt8) (hl : l.length ≤ 1000000) : ∃ (c : CmdT) (e : Int), Ev (fun k => packet_GetCmd k (mkB l)) (c, e, ()) ∧ Ev (fun k => ref20_GetCmd k (mkB l)) (c, e, ()) ∧ CmdIs l c e := by
  rcases both_get 4 8 (by omega) l hl with ⟨ns, ts, a1, a2, a3, a4, a5, a6, a7, a8, a9, a10⟩ | ⟨a1, x, y, a2⟩
  · match ns, a1 with
    | [a, b, c, d, e, f, g, h], _ =>
    cases ts with
    | cons t ts =>
      refine ⟨_, _, a9 _ zC kC ((0, 0, 0, 0, 0, 0, 0, 0, ()), 20, ()) ?_, ?_, .inr ⟨rfl, rfl⟩⟩
      · exact Ev.all fun k => kC_more k a b c d e f g h _ (by rw [List.length_map, List.length_cons]; omega)
      · exact Ev.bind a10 (Ev.f rfl (Ev.dt (by show ((((t :: ts).map mkB).length : Nat) : Int) > 0; rw [List.length_map, List.length_cons]; omega) (Ev.now _)))
    | nil =>
      have href : Ev (fun k => ref20_GetCmd k (mkB l)) ((if cmdP a b c d e f g h then ((a, b, c, d, e, f, g, h, ()), 0, ()) else ((0, 0, 0, 0, 0, 0, 0, 0, ()), 20, ()))) := by
        refine Ev.bind a10 (Ev.f rfl (Ev.df (by show ¬ (0 : Int) > 0; omega) (Ev.dt (by show (0 : Int) < 8; omega) (Ev.dt (by show (1 : Int) < 8; omega) (Ev.dt (by show (2 : Int) < 8; omega) (Ev.dt (by show (3 : Int) < 8; omega) (Ev.dt (by show (4 : Int) < 8; omega) (Ev.dt (by show (5 : Int) < 8; omega) (Ev.dt (by show (6 : Int) < 8; omega) (Ev.dt (by show (7 : Int) < 8; omega) (Ev.bind (Ev.all fun k => mayR k a b c d e f g h) ?_)))))))))))
        by_cases hp : cmdP a b c d e f g h
        · rw [if_pos hp]; exact Ev.f (by show (!decide _) = false; rw [decide_eq_true hp]; rfl) (Ev.now _)
        · rw [if_neg hp]; exact Ev.t (by show (!decide _) = true; rw [decide_eq_false hp]; rfl) (Ev.now _)
      have hpk : Ev (fun k => packet_GetCmd k (mkB l)) ((if cmdP a b c d e f g h then ((a, b, c, d, e, f, g, h, ()), 0, ()) else ((0, 0, 0, 0, 0, 0, 0, 0, ()), 20, ()))) := by
        exact a9 _ zC kC _ (Ev.all fun k => kC_none k a b c d e f g h)
      by_cases hp : cmdP a b c d e f g h
      · rw [if_pos hp] at href hpk
        exact ⟨_, _, hpk, href, .inl ⟨rfl, hp, a2, by simp, a6, a7, a8⟩⟩
      · rw [if_neg hp] at href hpk
        exact ⟨_, _, hpk, href, .inr ⟨rfl, rfl⟩⟩
  · exact ⟨_, _, a1 _ _ kC, Ev.bind a2 (Ev.t rfl (Ev.now _)), .inr ⟨rfl, rfl⟩⟩
theorem getA_both (l : List UInt8) (hl : l.length ≤ 1000000) : ∃ (a : AnsT) (e : Int), Ev (fun k => packet_GetAnswer k (mkB l)) (a, e, ()) ∧ Ev (fun k => ref20_GetAnswer k (mkB l)) (a, e, ()) ∧ AnsIs l a e := by
  rcases both_get 5 2 (by omega) l hl with ⟨ns, ts, a1, a2, a3, a4, a5, a6, a7, a8, a9, a10⟩ | ⟨a1, x, y, a2⟩
  · match ns, a1 with
    | [a, b], _ =>
    have hts : (ts.map mkB).length ≤ 1000000 := by rw [List.length_map]; omega
    have href : Ev (fun k => ref20_GetAnswer k (mkB l)) ((if ansP a b (ts.map mkB) then ((a, b, ts.map mkB, ()), 0, ()) else ((0, 0, [], ()), 20, ()))) := by
      refine Ev.bind a10 (Ev.f rfl (Ev.dt (by show (0 : Int) < 2; omega) (Ev.dt (by show (1 : Int) < 2; omega) (Ev.bind (r18ans a b (ts.map mkB) hts) ?_))))
      by_cases hp : ansP a b (ts.map mkB)
      · rw [if_pos hp]; exact Ev.f (by show (!decide _) = false; rw [decide_eq_true hp]; rfl) (Ev.now _)
      · rw [if_neg hp]; exact Ev.t (by show (!decide _) = true; rw [decide_eq_false hp]; rfl) (Ev.now _)
    have hpk : Ev (fun k => packet_GetAnswer k (mkB l)) ((if ansP a b (ts.map mkB) then ((a, b, ts.map mkB, ()), 0, ()) else ((0, 0, [], ()), 20, ()))) := by
      refine a9 _ zA kA _ (Ev.bind (mayA a b (ts.map mkB) hts) ?_)
      by_cases hp : ansP a b (ts.map mkB)
      · rw [if_pos hp]; exact Ev.f (by show (!decide _) = false; rw [decide_eq_true hp]; rfl) (Ev.now _)
      · rw [if_neg hp]; exact Ev.t (by show (!decide _) = true; rw [decide_eq_false hp]; rfl) (Ev.now _)
    by_cases hp : ansP a b (ts.map mkB)
    · rw [if_pos hp] at href hpk
      exact ⟨_, _, hpk, href, .inl ⟨rfl, hp, ts, rfl, a2, a5, a6, a7, a8⟩⟩
    · rw [if_neg hp] at href hpk
      exact ⟨_, _, hpk, href, .inr ⟨rfl, rfl⟩⟩
  · exact ⟨_, _, a1 _ _ kA, Ev.bind a2 (Ev.t rfl (Ev.now _)), .inr ⟨rfl, rfl⟩⟩
theorem getM_both (l : List UInt8) (hl : l.length ≤ 1000000) : ∃ (m : MsgT) (e : Int), Ev (fun k => packet_GetMsg k (mkB l)) (m, e, ()) ∧ Ev (fun k => ref20_GetMsg k (mkB l)) (m, e, ()) ∧ MsgIs l m e := by
  rcases both_get 6 7 (by omega) l hl with ⟨ns, ts, a1, a2, a3, a4, a5, a6, a7, a8, a9, a10⟩ | ⟨a1, x, y, a2⟩
  · match ns, a1 with
    | [a, b, c, d, e, f, g], _ =>
    have hts : (ts.map mkB).length ≤ 1000000 := by rw [List.length_map]; omega
    have href : Ev (fun k => ref20_GetMsg k (mkB l)) ((if msgP a b c d e f g (ts.map mkB) then ((a, b, c, d, e, f, g, ts.map mkB, ()), 0, ()) else ((0, 0, 0, 0, 0, 0, 0, [], ()), 20, ()))) := by
      refine Ev.bind a10 (Ev.f rfl (Ev.dt (by show (0 : Int) < 7; omega) (Ev.dt (by show (1 : Int) < 7; omega) (Ev.dt (by show (2 : Int) < 7; omega) (Ev.dt (by show (3 : Int) < 7; omega) (Ev.dt (by show (4 : Int) < 7; omega) (Ev.dt (by show (5 : Int) < 7; omega) (Ev.dt (by show (6 : Int) < 7; omega) (Ev.bind (r20Is a b c d e f g (ts.map mkB) hts) ?_)))))))))
      by_cases hp : msgP a b c d e f g (ts.map mkB)
      · rw [if_pos hp]; exact Ev.f (by show (!decide _) = false; rw [decide_eq_true hp]; rfl) (Ev.now _)
      · rw [if_neg hp]; exact Ev.t (by show (!decide _) = true; rw [decide_eq_false hp]; rfl) (Ev.now _)
    have hpk : Ev (fun k => packet_GetMsg k (mkB l)) ((if msgP a b c d e f g (ts.map mkB) then ((a, b, c, d, e, f, g, ts.map mkB, ()), 0, ()) else ((0, 0, 0, 0, 0, 0, 0, [], ()), 20, ()))) := by
      refine a9 _ zM kM _ (Ev.bind (pIs a b c d e f g (ts.map mkB) hts) ?_)
      by_cases hp : msgP a b c d e f g (ts.map mkB)
      · rw [if_pos hp]; exact Ev.f (by show (!decide _) = false; rw [decide_eq_true hp]; rfl) (Ev.now _)
      · rw [if_neg hp]; exact Ev.t (by show (!decide _) = true; rw [decide_eq_false hp]; rfl) (Ev.now _)
    by_cases hp : msgP a b c d e f g (ts.map mkB)
    · rw [if_pos hp] at href hpk
      exact ⟨_, _, hpk, href, .inl ⟨rfl, hp, ts, rfl, a2, a5, a6, a7, a8⟩⟩
    · rw [if_neg hp] at href hpk
      exact ⟨_, _, hpk, href, .inr ⟨rfl, rfl⟩⟩
  · exact ⟨_, _, a1 _ _ kM, Ev.bind a2 (Ev.t rfl (Ev.now _)), .inr ⟨rfl, rfl⟩⟩
end Go.Proofs.Ytoeikeabbdnkbaa.Pure
