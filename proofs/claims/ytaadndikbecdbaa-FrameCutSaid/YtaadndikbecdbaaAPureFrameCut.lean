/- FrameCut, of data alone: frames one behind the other are all told; what is cut within one ends ahead of it. -/
import Derived.Test.YtaadndikbecdbaaAFramed
namespace Go.Proofs.Ytaadndikbecdbaa.Pure
open Go Go.Proofs.Ytaadndikbecdbaa.Ab Go.Proofs.Ytaadndikbecdbaa.A
set_option linter.unusedVariables false

theorem frsB_app (k : Int) (a b : List (List UInt8)) : frsB k (a ++ b) = frsB k a ++ frsB k b := by unfold frsB; rw [List.flatMap_append]
theorem frsB_len (k : Int) (ts : List (List UInt8)) (h : ∀ t ∈ ts, t.length ≤ 300) : (frsB k ts).length ≤ 318 * ts.length := by
  induction ts with
  | nil => simp [frsB]
  | cons t ts ih =>
    have := ih (fun x hx => h x (by simp [hx]))
    have := h t (by simp)
    have := frB_len k t
    rw [frsB_cons, List.length_append, List.length_cons]; omega
theorem frsB_mono (k : Int) (ts : List (List UInt8)) {i j : Nat} (h : i ≤ j) : (frsB k (ts.take i)).length ≤ (frsB k (ts.take j)).length := by
  obtain ⟨d, rfl⟩ : ∃ d, j = i + d := ⟨j - i, by omega⟩
  rw [List.take_add, frsB_app, List.length_append]; omega
/-- How many frames stand ahead of a place, and how many bytes. -/
def CutI (k : Int) (ts : List (List UInt8)) (at_ : Int) (i m : Nat) (w : Int) : Prop :=
  m ≤ i ∧ w = ((frsB k (ts.take m)).length : Int) ∧ (m = 0 ∨ w ≤ at_) ∧ (m < i → at_ < ((frsB k (ts.take (m + 1))).length : Int))
theorem Cut_l (k : Int) (h0 : 0 ≤ k) (h1 : k ≤ 99) (at_ : Int) (ts : List (List UInt8)) (hn : ts.length ≤ 12) (hts : ∀ t ∈ ts, t.length ≤ 300) (d : Nat) : ∀ (i m : Nat) (w : Int), i + d = ts.length → CutI k ts at_ i m w →
    ∃ m' w', CutI k ts at_ ts.length m' w' ∧ Ev (fun q => law03_FrameCut_l1 (ts.map mkB) k at_ q (mkB (frsB k (ts.take i)), (m : Int), w, (i : Int), ())) (.exit 0, mkB (frsB k ts), (m' : Int), w', (ts.length : Int), ()) := by
  have hml : (ts.map mkB).length = ts.length := List.length_map _
  induction d with
  | zero =>
    intro i m w hi hI
    obtain rfl : i = ts.length := by omega
    refine ⟨m, w, hI, Ev.step (Ev.df (by show ¬ (ts.length : Int) < ((ts.map mkB).length : Int); omega) ?_)⟩
    rw [List.take_length]
    exact Ev.now _
  | succ d ih =>
    intro i m w hi hI
    have hlt : i < ts.length := by omega
    have c0 : (i : Int) < ((ts.map mkB).length : Int) := by omega
    have c1 : (0 : Int) ≤ (i : Int) := by omega
    have hti := hts _ (List.getElem_mem hlt)
    have hget : (ts.map mkB).getD (Int.toNat (i : Int)) Ty.str.zero = mkB ts[i] := by rw [getD_z _ i (by omega)]; simp
    have hput : Ev (fun q => frame_Put q k ((ts.map mkB).getD (Int.toNat (i : Int)) Ty.str.zero)) (mkB (frB k ts[i]), 0, ()) := by
      rw [hget]
      refine Ev.all (fun q => ?_)
      rw [Put_ok]; unfold PutA; rw [if_neg (by omega), if_neg (by omega)]
    have htk : frsB k (ts.take (i + 1)) = frsB k (ts.take i) ++ frB k ts[i] := by
      rw [List.take_succ_eq_append_getElem hlt, frsB_app]; simp [frsB]
    have l1 := frsB_len k (ts.take i) (fun t h => hts t (List.mem_of_mem_take h))
    have l2 := frB_len k ts[i]
    rw [List.length_take] at l1
    have hsz : (mkB (frsB k (ts.take i)) ++ mkB (frB k ts[i])).size = (frsB k (ts.take (i + 1))).length := by rw [mkB_append, mkB_size, htk]
    have wi := wrap_succ (i := i) (by omega)
    have wm := wrap_succ (i := m) (by have := hI.1; omega)
    have g : (mkB (frsB k (ts.take i))).size + (mkB (frB k ts[i])).size ≤ 9223372036854775807 := by rw [mkB_size, mkB_size]; omega
    obtain ⟨a1, a2, a3, a4⟩ := hI
    by_cases hle : ((frsB k (ts.take (i + 1))).length : Int) ≤ at_
    · have em : m = i := by
        by_cases e : m = i
        · exact e
        · have h5 := a4 (by omega)
          have h6 := frsB_mono k ts (i := m + 1) (j := i + 1) (by omega)
          omega
      subst em
      obtain ⟨m', w', b1, b2⟩ := ih (m + 1) (m + 1) (((frsB k (ts.take (m + 1))).length : Nat) : Int) (by omega) ⟨Nat.le_refl _, rfl, .inr hle, fun h => absurd h (by omega)⟩
      rw [← wm] at b2
      refine ⟨m', w', b1, Ev.step (Ev.dt c0 (Ev.dt c1 (Ev.dt c0 (Ev.bind hput (Ev.dt g (Ev.dt (by show ((mkB (frsB k (ts.take m)) ++ mkB (frB k ts[m])).size : Int) ≤ at_; rw [hsz]; exact hle) ?_))))))⟩
      rw [← hsz, htk, ← mkB_append] at b2
      exact b2
    · obtain ⟨m', w', b1, b2⟩ := ih (i + 1) m w (by omega) ⟨by omega, a2, a3, fun h => by
        by_cases e : m = i
        · subst e; omega
        · exact a4 (by omega)⟩
      rw [← wi] at b2
      refine ⟨m', w', b1, Ev.step (Ev.dt c0 (Ev.dt c1 (Ev.dt c0 (Ev.bind hput (Ev.dt g (Ev.df (by show ¬ ((mkB (frsB k (ts.take i)) ++ mkB (frB k ts[i])).size : Int) ≤ at_; rw [hsz]; exact hle) ?_))))))⟩
      rw [htk, ← mkB_append] at b2
      exact b2
theorem FrameCut : ∀ (a0 : (List ByteArray)) (a1 : Int) (a2 : Int), bnd (.sl .str) a0 → (Lit.int .i64 a1).wf = true → (Lit.int .i64 a2).wf = true → ∃ k, law03_FrameCut k a0 a1 a2 = some (true, ()) := by
  intro a0 k at_ hb _ _
  obtain ⟨ts, rfl⟩ := list_mk a0
  have hb2 : (ts.map mkB).length ≤ 9223372036854775807 := Nat.le_trans hb.1 (by decide)
  have hml : (ts.map mkB).length = ts.length := List.length_map _
  refine Ev.get ?_
  by_cases hn : ((ts.map mkB).length : Int) > 12
  · exact Ev.dt hn (Ev.now _)
  refine Ev.df hn (Ev.bind (Short_ok _ hb2) ?_)
  cases hs : shortB (ts.map mkB) with
  | false => exact Ev.t rfl (Ev.now _)
  | true =>
    refine Ev.f rfl ?_
    by_cases h0 : k < 0
    · exact Ev.dt h0 (Ev.now _)
    refine Ev.df h0 ?_
    by_cases h1 : k > 99
    · exact Ev.dt h1 (Ev.now _)
    refine Ev.df h1 ?_
    have hs2 := of_decide_eq_true hs
    have hts : ∀ t ∈ ts, t.length ≤ 300 := fun t h => by have := hs2.2 (mkB t) (List.mem_map_of_mem h); rwa [mkB_size] at this
    have hts3 : ∀ t ∈ ts, t.length ≤ 3000 := fun t h => by have := hts t h; omega
    obtain ⟨m, w, ⟨a1, a2, a3, a4⟩, hloop⟩ := Cut_l k (by omega) (by omega) at_ ts (by omega) hts ts.length 0 0 0 (by omega) ⟨Nat.le_refl _, by simp [frsB], .inl rfl, fun h => absurd h (by omega)⟩
    refine Ev.bind hloop (Ev.t rfl ?_)
    have hl := frsB_len k ts hts
    have hall : Ev (fun q => frame_All q (mkB (frsB k ts))) (ts.map mkB, ((mkB (frsB k ts)).size : Int), 0, ()) := by
      have h := All_through (mkB (frsB k ts)) [] 0 0 (k := k) (by omega) (by omega) [] ts [] hts3 (by simp only [List.append_nil, List.length_nil]; omega) (frame_All_end (mkB (frsB k ts)) [] 0 0 ([] ++ ts.map mkB))
      rw [List.append_nil, List.nil_append] at h
      exact Ev.bind h (Ev.t rfl (Ev.now _))
    refine Ev.bind hall (Ev.f (nbeq_i rfl) (Ev.f (nbeq_i rfl) (Ev.bind (Texts_ok (ts.map mkB) (by omega)) (Ev.f rfl ?_))))
    by_cases g0 : at_ < 0
    · exact Ev.dt g0 (Ev.bind framed_ok (Ev.now _))
    refine Ev.df g0 ?_
    have hsz := mkB_size (frsB k ts)
    by_cases g1 : at_ > ((mkB (frsB k ts)).size : Int)
    · exact Ev.dt g1 (Ev.bind framed_ok (Ev.now _))
    refine Ev.df g1 (Ev.dt (by show (0 : Int) ≤ at_; omega) (Ev.dt (by show at_ ≤ ((mkB (frsB k ts)).size : Int); omega) ?_))
    have hw : w ≤ at_ := by
      rcases a3 with h | h
      · rw [a2, h]; simp [frsB]; omega
      · exact h
    -- what is cut
    obtain ⟨x, hx, hxl⟩ : ∃ x, (frsB k ts).take at_.toNat = frsB k (ts.take m) ++ x ∧ (x.length : Int) = at_ - w := by
      have e : frsB k ts = frsB k (ts.take m) ++ frsB k (ts.drop m) := by rw [← frsB_app, List.take_append_drop]
      refine ⟨(frsB k (ts.drop m)).take (at_.toNat - (frsB k (ts.take m)).length), ?_, ?_⟩
      · conv => lhs; rw [e]
        rw [List.take_append, List.take_of_length_le (by omega)]
      · have := congrArg List.length e
        rw [List.length_append] at this
        rw [List.length_take]; omega
    have hcut : (mkB (frsB k ts)).extract 0 at_.toNat = mkB (frsB k (ts.take m) ++ x) := by rw [mkB_extract, List.drop_zero, hx]
    have htl : (ts.take m).length ≤ 12 := by rw [List.length_take]; omega
    have hl2 := frsB_len k (ts.take m) (fun t h => hts t (List.mem_of_mem_take h))
    have hthr : ∀ {R}, Ev (fun j => frame_All_l1 (mkB (frsB k (ts.take m) ++ x)) j ([], 0, 0, [] ++ (ts.take m).map mkB, mkB x, ())) R → Ev (fun j => frame_All_l1 (mkB (frsB k (ts.take m) ++ x)) j ([], 0, 0, [], mkB (frsB k (ts.take m) ++ x), ())) R := fun {R} h =>
      All_through _ [] 0 0 (k := k) (by omega) (by omega) x (ts.take m) [] (fun t h => hts3 t (List.mem_of_mem_take h)) (by rw [List.length_append, List.length_nil]; omega) h
    have htx : List.drop 0 (List.take (Int.toNat (m : Int)) (ts.map mkB)) = (ts.take m).map mkB := by rw [Int.toNat_natCast, List.drop_zero, List.map_take]
    have hres : Ev (fun q => frame_All q ((mkB (frsB k ts)).extract 0 at_.toNat)) ((ts.take m).map mkB, w, (if w = at_ then 0 else 22), ()) := by
      rw [hcut]
      by_cases hx0 : x = []
      · subst hx0
        have ew : w = at_ := by simp at hxl; omega
        rw [if_pos ew]
        have e := hthr (frame_All_end _ [] 0 0 _)
        rw [List.nil_append] at e
        have es : w = ((mkB (frsB k (ts.take m) ++ [])).size : Int) := by rw [mkB_size, List.append_nil]; exact a2
        rw [es]
        exact Ev.bind e (Ev.t rfl (Ev.now _))
      · have hxp : 0 < x.length := List.length_pos_iff.2 hx0
        have ew : ¬ w = at_ := by omega
        rw [if_neg ew]
        have hmlt : m < ts.length := by
          rcases Nat.lt_or_ge m ts.length with h | h
          · exact h
          · rw [List.take_of_length_le h] at a2; omega
        have h4 := a4 hmlt
        -- a strict beginning of the next frame
        have hnext : frsB k (ts.take (m + 1)) = frsB k (ts.take m) ++ frB k ts[m] := by rw [List.take_succ_eq_append_getElem hmlt, frsB_app]; simp [frsB]
        have hbeg : ∃ y, x ++ y = frB k ts[m] ∧ y ≠ [] := by
          have e : frsB k ts = frsB k (ts.take (m + 1)) ++ frsB k (ts.drop (m + 1)) := by rw [← frsB_app, List.take_append_drop]
          have e2 : (frsB k ts).take at_.toNat ++ (frsB k ts).drop at_.toNat = frsB k (ts.take m) ++ (frB k ts[m] ++ frsB k (ts.drop (m + 1))) := by
            rw [List.take_append_drop, e, hnext, List.append_assoc]
          rw [hx, List.append_assoc] at e2
          have e3 := List.append_cancel_left e2
          have hlen : x.length < (frB k ts[m]).length := by
            rw [hnext, List.length_append] at h4; omega
          rcases List.append_eq_append_iff.1 e3 with ⟨y, y1, y2⟩ | ⟨y, y1, y2⟩
          · exact ⟨y, y1.symm, fun e => by rw [y1, e] at hlen; simp at hlen⟩
          · rw [y1, List.length_append] at hlen; omega
        obtain ⟨y, hy, hyne⟩ := hbeg
        have hm := Fr_more (by omega) (by omega) (hts3 _ (List.getElem_mem hmlt)) hy hyne
        have hbad := frame_All_bad (mkB (frsB k (ts.take m) ++ x)) [] 0 0 ([] ++ (ts.take m).map mkB) hx0 (by decide) hm
        have e := hthr hbad
        rw [List.nil_append] at e
        have es : w = IntKind.i64.wrap (((mkB (frsB k (ts.take m) ++ x)).size : Int) - ((mkB x).size : Int)) := by
          rw [mkB_size, mkB_size, List.length_append, wrap_id (by omega) (by omega)]; omega
        rw [es]
        exact Ev.bind e (Ev.now _)
    refine Ev.bind hres (Ev.bind framed_ok (Ev.t rfl (Ev.dt (by show (0 : Int) ≤ (m : Int); omega) (Ev.dt (by show (m : Int) ≤ ((ts.map mkB).length : Int); omega) ?_))))
    show Ev (fun q => (ref01_Texts q ((ts.take m).map mkB) (List.drop 0 (List.take (Int.toNat (m : Int)) (ts.map mkB)))).bind _) _
    rw [htx]
    refine Ev.bind (Texts_ok _ (by rw [List.length_map]; omega)) (Ev.t rfl (Ev.t (beq_i rfl) ?_))
    by_cases ew : w = at_
    · rw [if_pos ew]
      exact Ev.t (by show ((0 : Int) == 0) == (w == at_); rw [beq_i ew]; rfl) (Ev.t (beq_i rfl) (Ev.now _))
    · rw [if_neg ew]
      exact Ev.t (by show ((22 : Int) == 0) == (w == at_); rw [bne_i ew]; rfl) (Ev.f (bne_i (show (22 : Int) ≠ 0 by decide)) (Ev.now _))
end Go.Proofs.Ytaadndikbecdbaa.Pure
