/- FileAdds: what is added is read behind what there was, in one call, or one by one. -/
import Derived.Test.YtaadndikbecdbaaQx8
import Derived.Test.YtaadndikbecdbaaFileThy
namespace Go.Proofs.Ytaadndikbecdbaa.Pure
open Go.RowKit Go.Proofs.Ytaadndikbecdbaa.Q Go.Proofs.YtaadndikbecdbaaW.PrintWords Go.Proofs.YtaadndikbecdbaaW.PrintLast
set_option linter.unusedVariables false
set_option linter.unusedSimpArgs false

/-- The rounds behind a refused one: what is read stays empty, the error stays. -/
theorem loop_bad (l : List ByteArray) (hl : nearL l) (e0 g : Int) (hg : g ≠ 0) (m : Int) (s t : ByteArray) (d : Nat) :
    ∀ (i : Nat) (all : ByteArray), l.length - i = d → i ≤ l.length → all.size ≤ 300 * i → e0 ≠ 0 →
    Ev (fun k => watchmanlaw12_FileAdds.l0 k l e0 all g (i : Int) m s t 0 EB EB 0 EB EB) true := by
  have h60 := hl.1
  have hr : file_Read.f 0 EB EB = some EB := by rw [Read_ok (by rw [EB_size]; omega) (by rw [EB_size]; omega), app_E]
  induction d with
  | zero =>
    intro i all hd hi ha he
    refine Ev.step (f := fun _ => some true) (fun k => ?_) (Ev.now _)
    rw [watchmanlaw12_FileAdds.l0, if_neg (by omega), if_neg he, filed_ok]
    simp only [Option.bind_some, if_true, hr, E_toList]
    rw [if_neg hg]
  | succ d ih =>
    intro i all hd hi ha he
    have hlt : i < l.length := by omega
    have hxi := hl.2 _ (mem_at l i hlt)
    refine Ev.step (fun k => ?_) (ih (i + 1) (all ++ l[i]) (by omega) (by omega) (by rw [ByteArray.size_append]; omega) he)
    have hA : file_Add.f 0 EB EB [l[i]] = some (0, EB, EB, 1) := by
      rw [Add_ok (by rw [EB_size]; omega) (by rw [EB_size]; omega) [l[i]] (by simp) (by rw [cat_one]; omega)]
      rfl
    rw [watchmanlaw12_FileAdds.l0, if_pos (by omega), if_pos (by omega), rd_at l i hlt, hA]
    simp only [Option.bind_some]
    rw [if_neg (by decide), if_neg hg, if_pos (by omega), wrap64_of (by omega) (by omega)]
    rfl

/-- The rounds of a right file, as long as all fits. -/
theorem loop_good (l : List ByteArray) (hl : nearL l) (m : Int) (s t : ByteArray) (hok : okF m s t = true) (d : Nat) :
    ∀ i : Nat, l.length - i = d → i ≤ l.length → okF m s (t ++ cat (l.take i)) = true →
    Ev (fun k => watchmanlaw12_FileAdds.l0 k l (resF (okF m s (t ++ cat l)) 81 m s (t ++ cat l)).2.2.2 (cat (l.take i)) 0 (i : Int) m s t
      (resF (okF m s (t ++ cat l)) 81 m s (t ++ cat l)).1 (resF (okF m s (t ++ cat l)) 81 m s (t ++ cat l)).2.1 (resF (okF m s (t ++ cat l)) 81 m s (t ++ cat l)).2.2.1 m s (t ++ cat (l.take i))) true := by
  have h60 := hl.1
  have hk := okF_size hok
  induction d with
  | zero =>
    intro i hd hi hi2
    have e : i = l.length := by omega
    subst e
    rw [List.take_length] at hi2 ⊢
    have hk2 := okF_size hi2
    refine Ev.step (f := fun _ => some true) (fun k => ?_) (Ev.now _)
    rw [watchmanlaw12_FileAdds.l0, if_neg (by omega), hi2]
    simp only [resF, if_true]
    rw [filed_ok]
    simp only [Option.bind_some, if_true]
    rw [Read_t hi2, Read_t hok]
    simp only [Option.bind_some]
    have hz := hk2.2.1
    rw [ByteArray.size_append] at hz
    rw [if_pos (by rw [ByteArray.size_append]; omega), if_pos (by rw [app_assoc]), Is_t hi2]
    simp
  | succ d ih =>
    intro i hd hi hi2
    have hlt : i < l.length := by omega
    have hxi := hl.2 _ (mem_at l i hlt)
    have hk2 := okF_size hi2
    have hz := hk2.2.1
    rw [ByteArray.size_append] at hz
    have hcs := cat_take_succ l i hlt
    have hA : file_Add.f m s (t ++ cat (l.take i)) [l[i]] = some (resF (okF m s (t ++ cat (l.take (i + 1)))) 81 m s (t ++ cat (l.take (i + 1)))) := by
      rw [Add_ok (by omega) (by omega) [l[i]] (by simp) (by rw [cat_one]; omega), hi2, cat_one, hcs, app_assoc]
      rfl
    cases hb : okF m s (t ++ cat (l.take (i + 1))) with
    | true =>
      have := ih (i + 1) (by omega) (by omega) hb
      rw [hcs] at this hb
      rw [hcs, hb] at hA
      refine Ev.step (fun k => ?_) this
      rw [watchmanlaw12_FileAdds.l0, if_pos (by omega), if_pos (by omega), rd_at l i hlt, hA]
      simp only [Option.bind_some, resF, if_true]
      rw [if_pos (by omega), wrap64_of (by omega) (by omega)]
      rfl
    | false =>
      have hno : okF m s (t ++ cat l) = false := by
        cases h : okF m s (t ++ cat l)
        · rfl
        · refine absurd (okF_mono (m := m) (s := s) (t := t ++ cat (l.take (i + 1))) (u := cat (l.drop (i + 1))) ?_) (by rw [hb]; decide)
          rw [app_assoc, ← cat_append, List.take_append_drop]; exact h
      rw [hno]
      simp only [resF, Bool.false_eq_true, if_false]
      have := loop_bad l hl 81 81 (by decide) m s t (l.length - (i + 1)) (i + 1) (cat (l.take i) ++ l[i]) rfl (by omega) (by
        have h1 := cat_size_le (l.take i) 300 (fun x hx => hl.2 x (List.mem_of_mem_take hx))
        rw [List.length_take] at h1
        rw [ByteArray.size_append]; omega) (by decide)
      refine Ev.step (fun k => ?_) this
      rw [hb] at hA
      rw [watchmanlaw12_FileAdds.l0, if_pos (by omega), if_pos (by omega), rd_at l i hlt, hA]
      simp only [Option.bind_some, resF, Bool.false_eq_true, if_false]
      rw [if_neg (by decide), if_pos trivial, if_pos (by omega), wrap64_of (by omega) (by omega)]
      rfl

theorem loop_wrong (l : List ByteArray) (hl : nearL l) (m : Int) (s t : ByteArray) (hs : s.size ≤ 2000) (ht : t.size ≤ 2000) (hok : okF m s t = false) :
    Ev (fun k => watchmanlaw12_FileAdds.l0 k l 1 EB 0 (0 : Int) m s t 0 EB EB m s t) true := by
  have h60 := hl.1
  have hr : file_Read.f 0 EB EB = some EB := by rw [Read_ok (by rw [EB_size]; omega) (by rw [EB_size]; omega), app_E]
  cases l with
  | nil =>
    refine Ev.step (f := fun _ => some true) (fun k => ?_) (Ev.now _)
    rw [watchmanlaw12_FileAdds.l0, if_neg (by simp), if_neg (by decide), filed_ok]
    simp only [Option.bind_some, if_true, hr, E_toList]
    rfl
  | cons x l =>
    have hx := hl.2 x (by simp)
    have := loop_bad (x :: l) hl 1 1 (by decide) m s t ((x :: l).length - 1) 1 (EB ++ x) rfl (by simp) (by rw [E_app]; omega) (by decide)
    refine Ev.step (fun k => ?_) this
    have hA : file_Add.f m s t [x] = some (0, EB, EB, 1) := by
      rw [Add_ok (by omega) (by omega) [x] (by simp) (by rw [cat_one]; omega), hok]
      rfl
    rw [watchmanlaw12_FileAdds.l0, if_pos (by simp), if_pos (by omega), show rdOf ByteArray.empty (x :: l) 0 = x from rfl, hA]
    simp only [Option.bind_some]
    rw [if_neg (by decide), if_pos trivial, if_pos (by rw [EB_size]; omega), wrap64_of (by omega) (by omega)]
    rfl

theorem FileAdds : watchmanlaw12_FileAdds.Pure := by
  intro m s t l hm hs ht hl
  refine Ev.rounds ?_
  obtain ⟨b, hb, hb2⟩ := Big_ok m s t
  obtain ⟨c, hc, hc2⟩ := far_ok l (by have := hl.1; unfold maxLen at this; omega)
  have hj : ∀ b2 : Bool, (b2 = false → nearL l ∧ s.size ≤ 2000 ∧ t.size ≤ 2000) → Ev (fun k => watchmanlaw12_FileAdds.j0 k l b2 m s t) true := by
    intro b2 hb2
    cases b2 with
    | true => exact Ev.step (f := fun _ => some true) (fun k => by rw [watchmanlaw12_FileAdds.j0, if_pos rfl]) (Ev.now _)
    | false =>
      obtain ⟨hn, hs, ht⟩ := hb2 rfl
      have hA := Add_ok (m := m) (s := s) (t := t) (by omega) (by omega) l (by have := hn.1; omega) (by have := cat_near hn; omega)
      cases hok : okF m s t with
      | false =>
        rw [hok] at hA
        refine Ev.step (fun k => ?_) (loop_wrong l hn m s t hs ht hok)
        rw [watchmanlaw12_FileAdds.j0, if_neg (by decide), hA]
        rfl
      | true =>
        rw [hok] at hA
        have := loop_good l hn m s t hok l.length 0 (by omega) (by omega) (by rw [List.take_zero, cat_nil, app_E]; exact hok)
        rw [List.take_zero, cat_nil, app_E] at this
        refine Ev.step (fun k => ?_) this
        rw [watchmanlaw12_FileAdds.j0, if_neg (by decide), hA]
        rfl
  cases b with
  | true =>
    refine Ev.congr (fun k => ?_) (hj true (by simp))
    unfold watchmanlaw12_FileAdds.f
    rw [hb]; rfl
  | false =>
    refine Ev.congr (fun k => ?_) (Ev.bind (g := fun k => watchmanlaw12_far.f k l) (f := fun k t301 => watchmanlaw12_FileAdds.j0 k l t301 m s t) hc (hj c (fun h => ⟨hc2 h, hb2 rfl⟩)))
    unfold watchmanlaw12_FileAdds.f
    rw [hb]; rfl
end Go.Proofs.Ytaadndikbecdbaa.Pure
