/- SegmentDoes, of data alone. -/
import Derived.Test.YtoeikeabbdnkbaaFnSDoes
import Derived.Test.YtoeikeabbdnkbaaAD4
import Derived.Test.YtoeikeabbdnkbaaAbB
namespace Go.Proofs.Ytoeikeabbdnkbaa.Pure
open Go Go.Proofs.Ytoeikeabbdnkbaa.Ab Go.Proofs.Ytoeikeabbdnkbaa.A
set_option linter.unusedVariables false

/-- Both come to the same log and the same answer. -/
def Both (f g : Nat → Option (SegT × (Int × Unit))) : Prop := ∃ z n fs e, fs.length ≤ 100 ∧ Ev f (SG z n fs, e, ()) ∧ Ev g (SG z n fs, e, ())
theorem Both.bad {f g : Nat → Option (SegT × (Int × Unit))} (h1 : Ev f (RB, 1, ())) (h2 : Ev g (RB, 1, ())) : Both f g := ⟨0, 0, [], 1, by simp, h1, h2⟩
theorem all_both (z n : Int) (fs : List FT) (hl : fs.length ≤ 25) (hb : ∀ f ∈ fs, bdF f) (l : List ByteArray) (hm : l.length ≤ 25) (a : Int) :
    (∃ T e, List.length T ≤ 1000000 ∧ Ev (fun k => segment_Read k (SG z n fs)) (T, e, ()) ∧ Ev (fun k => ref14_Read k (SG z n fs)) (T, e, ())) ∧
    Both (fun k => segment_Add k (SG z n fs) l) (fun k => ref14_Add k (SG z n fs) l) ∧ Both (fun k => segment_Sync k (SG z n fs)) (fun k => ref14_Sync k (SG z n fs)) ∧
    Both (fun k => segment_Crash k (SG z n fs) a) (fun k => ref14_Crash k (SG z n fs) a) ∧ Both (fun k => segment_Mend k (SG z n fs)) (fun k => ref14_Mend k (SG z n fs)) ∧
    Both (fun k => segment_Drop k (SG z n fs) a) (fun k => ref14_Drop k (SG z n fs) a) ∧ ∃ b, Ev (fun k => segment_Is k (SG z n fs)) (b, ()) ∧ Ev (fun k => ref14_Is k (SG z n fs)) (b, ()) := by
  rcases Is_both z n fs (by omega) hb with ⟨pre, s, t, rfl, hok, h1, h2⟩ | ⟨h1, h2⟩
  · obtain ⟨T, q1, q2, q3⟩ := Read_both hok
    obtain ⟨L, rfl⟩ := all_texts l
    rw [List.length_map] at hm
    obtain ⟨z', n', fs', e, p1, p2, p3⟩ := Add_both hok L (by omega)
    obtain ⟨m1, m2, m3, m4⟩ := Mend_both hok
    obtain ⟨d0, d1, d2, d3, d4⟩ := Drop_both hok a
    have l1 := files_len z pre (s ++ t) EB
    have l2 := files_len z pre (s ++ t.extract 0 (leftN a t.size)) EB
    have hl' := hok.l
    exact ⟨⟨T, 0, q1, q2, q3⟩, ⟨z', n', fs', e, by omega, p2, p3⟩, ⟨z, n, _, 0, by omega, SSync_ok hok, rSSync_ok hok⟩, ⟨z, n, _, 0, by omega, SCrash_ok hok a, rSCrash_ok hok a⟩, ⟨z, n, m1, 0, by omega, m3, m4⟩, ⟨z, d0, d1, 0, by omega, d3, d4⟩, true, h1, h2⟩
  · obtain ⟨a1, a2, a3, a4, a5, a6⟩ := sNo h1 a l
    obtain ⟨b1, b2, b3, b4, b5, b6⟩ := rNo h2 a l
    exact ⟨⟨[], 1, by simp, a1, b1⟩, .bad a2 b2, .bad a3 b3, .bad a4 b4, .bad a5 b5, .bad a6 b6, false, h1, h2⟩
theorem own_ev (l : List ByteArray) (h : l.length ≤ 25) : Ev (fun k => ref01_OwnTexts k l) (l, ()) := by
  cases l with
  | nil => exact Ev.t rfl (Ev.now _)
  | cons x l => exact Ev.f rfl (Ev.dt (by omega) (Ev.now _))
theorem same {z n : Int} {fs : List FT} (h : fs.length ≤ 100) : Ev (fun k => ref14_Same k (SG z n fs) (SG z n fs)) (true, ()) := Same_ok z n fs (by omega)
theorem SegmentDoes : ∀ (a0 : (Int × (Int × ((List (Int × (ByteArray × (ByteArray × Unit)))) × Unit)))) (a1 : (List ByteArray)) (a2 : Int) (a3 : Int), bnd (.cons (.int .i64) (.cons (.int .i64) (.cons (.sl (.cons (.int .i64) (.cons .str (.cons .str .nil)))) .nil))) a0 → bnd (.sl .str) a1 → (Lit.int .i64 a2).wf = true → (Lit.int .i64 a3).wf = true → ∃ k, law14_SegmentDoes k a0 a1 a2 a3 = some (true, ()) := by
  rintro ⟨z, n, fs, ⟨⟩⟩ l a a3 h0 h1 _ _
  refine Ev.get ?_
  have h0 : fs.length ≤ maxLen := h0.2.2.1.1
  have h1 : l.length ≤ maxLen := h1.1
  obtain ⟨x, hx, hx2⟩ := sfar_ok z n fs l h0 h1
  cases x with
  | true => exact Ev.bind hx (Ev.t rfl (Ev.now _))
  | false =>
  obtain ⟨hl, hb, hm, _⟩ := hx2 rfl
  obtain ⟨⟨T, e, hT, r1, r2⟩, ⟨zA, nA, fA, eA, lA, A1, A2⟩, ⟨zS, nS, fS, eS, lS, S1, S2⟩, ⟨zC, nC, fC, eC, lC, C1, C2⟩, ⟨zM, nM, fM, eM, lM, M1, M2⟩, ⟨zD, nD, fD, eD, lD, D1, D2⟩, b, I1, I2⟩ := all_both z n fs hl hb l hm a
  obtain ⟨fN, eN, lN, zN, nN, N1, N2⟩ := New_both a3 a
  have own := own_ev l hm
  have lN2 : fN.length ≤ 100 := by omega
  have q : ∀ {m : Nat}, m ≤ 100 → m ≤ 1000000000000 := fun h => by omega
  have hI : (b == b) = true := by simp
  refine Ev.bind hx (Ev.f rfl ?_)
  cases fs with
  | nil =>
    exact Ev.t rfl (Ev.bind r1 (Ev.bind r2 (Ev.bind A1 (Ev.bind own (Ev.bind A2 (Ev.bind S1 (Ev.bind S2 (Ev.bind C1 (Ev.bind C2 (Ev.bind M1 (Ev.bind M2 (Ev.bind D1 (Ev.bind D2 (Ev.bind N1 (Ev.bind N2 (Ev.bind (Texts_ok T hT) (Ev.t rfl (Ev.t (beq_i rfl)
      (Ev.bind (same lA) (Ev.t rfl (Ev.t (beq_i rfl) (Ev.bind (same lS) (Ev.t rfl (Ev.t (beq_i rfl) (Ev.bind (same lC) (Ev.t rfl (Ev.t (beq_i rfl) (Ev.bind (same lM) (Ev.t rfl (Ev.t (beq_i rfl) (Ev.bind (same lD) (Ev.t rfl (Ev.t (beq_i rfl) (Ev.bind (same lN2) (Ev.t rfl
      (Ev.dt (q lA) (Ev.dt (q lS) (Ev.dt (q lC) (Ev.dt (q lM) (Ev.dt (q lD) (Ev.bind parted_ok (Ev.t rfl (Ev.t (beq_i rfl) (Ev.bind I1 (Ev.bind I2 (Ev.t hI (Ev.bind (same (fs := []) (by simp)) (Ev.now _))))))))))))))))))))))))))))))))))))))))))))))))
  | cons f fs =>
    have hl2 : List.length (f :: fs) * 40 ≤ 140737488355328 := by omega
    exact Ev.f rfl (Ev.dt hl2 (Ev.bind r1 (Ev.bind r2 (Ev.bind A1 (Ev.bind own (Ev.bind A2 (Ev.bind S1 (Ev.bind S2 (Ev.bind C1 (Ev.bind C2 (Ev.bind M1 (Ev.bind M2 (Ev.bind D1 (Ev.bind D2 (Ev.bind N1 (Ev.bind N2 (Ev.bind (Texts_ok T hT) (Ev.t rfl (Ev.t (beq_i rfl)
      (Ev.bind (same lA) (Ev.t rfl (Ev.t (beq_i rfl) (Ev.bind (same lS) (Ev.t rfl (Ev.t (beq_i rfl) (Ev.bind (same lC) (Ev.t rfl (Ev.t (beq_i rfl) (Ev.bind (same lM) (Ev.t rfl (Ev.t (beq_i rfl) (Ev.bind (same lD) (Ev.t rfl (Ev.t (beq_i rfl) (Ev.bind (same lN2) (Ev.t rfl
      (Ev.dt (q lA) (Ev.dt (q lS) (Ev.dt (q lC) (Ev.dt (q lM) (Ev.dt (q lD) (Ev.bind parted_ok (Ev.t rfl (Ev.t (beq_i rfl) (Ev.bind I1 (Ev.bind I2 (Ev.t hI (Ev.bind (same (fs := f :: fs) (by omega)) (Ev.now _)))))))))))))))))))))))))))))))))))))))))))))))))
end Go.Proofs.Ytoeikeabbdnkbaa.Pure
