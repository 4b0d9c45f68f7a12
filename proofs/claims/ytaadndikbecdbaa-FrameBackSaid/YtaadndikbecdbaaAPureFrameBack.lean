/- FrameBack, of data alone: what is put is got, whatever stands behind. -/
import Derived.Test.YtaadndikbecdbaaAFramed
namespace Go.Proofs.Ytaadndikbecdbaa.Pure
open Go Go.Proofs.Ytaadndikbecdbaa.Ab Go.Proofs.Ytaadndikbecdbaa.A
set_option linter.unusedVariables false

theorem FrameBack : ∀ (a0 : Int) (a1 : ByteArray) (a2 : (List ByteArray)) (a3 : ByteArray), (Lit.int .i64 a0).wf = true → a1.size ≤ 140737488351232 → bnd (.sl .str) a2 → a3.size ≤ 140737488351232 → ∃ k, law03_FrameBack k a0 a1 a2 a3 = some (true, ()) := by
  intro k a1 a2 a3 _ _ hb _
  obtain ⟨s, rfl⟩ := all_text a1
  obtain ⟨rest, rfl⟩ := all_text a3
  obtain ⟨ts, rfl⟩ := list_mk a2
  have hb2 : (ts.map mkB).length ≤ 9223372036854775807 := Nat.le_trans hb.1 (by decide)
  refine Ev.get ?_
  refine Ev.bind (Short_ok [mkB s, mkB rest] (by simp)) ?_
  cases hs : shortB [mkB s, mkB rest] with
  | false => exact Ev.t rfl (Ev.now _)
  | true =>
    refine Ev.f rfl (Ev.bind (Short_ok (ts.map mkB) hb2) ?_)
    cases ht : shortB (ts.map mkB) with
    | false => exact Ev.t rfl (Ev.now _)
    | true =>
      refine Ev.f rfl ?_
      have hs := (of_decide_eq_true hs).2
      have ht := of_decide_eq_true ht
      have s1 : s.length ≤ 300 := by have := hs (mkB s) (by simp); rwa [mkB_size] at this
      have r1 : rest.length ≤ 300 := by have := hs (mkB rest) (by simp); rwa [mkB_size] at this
      have hn : ts.length ≤ 60 := by have := ht.1; rwa [List.length_map] at this
      have hts : ∀ t ∈ ts, t.length ≤ 300 := fun t h => by have := ht.2 (mkB t) (List.mem_map_of_mem h); rwa [mkB_size] at this
      have hts3 : shortL ts := fun t h => by have := hts t h; omega
      have hlt := txsB_len ts hts3
      have hli := intB_len (ts.length : Int)
      have hlr : (rowB ts).length ≤ 6 + 3006 * ts.length := by unfold rowB; rw [List.length_append]; omega
      have h2 : Ev (fun q => frame_Put q k (mkB s)) (PutA k s) := Ev.all (fun q => Put_ok q k s)
      have h4 : Ev (fun q => frame_Row q k (ts.map mkB)) (RowA k ts) := Ev.all (fun q => Row_ok q k ts)
      have tail : Ev (fun q => (frame_Row q k (ts.map mkB)).bind fun r5 => bif decide (ByteArray.size r5.fst + (mkB rest).size ≤ 9223372036854775807) then (frame_GetRow q (r5.fst ++ mkB rest)).bind fun r6 => (law03_framed q).bind fun r7 => bif r7.fst then bif r5.snd.fst != 0 then some (true, ()) else bif r6.snd.snd.snd.fst == r5.snd.fst then bif r6.fst == k then (ref01_Texts q r6.snd.fst (ts.map mkB)).bind fun r8 => bif r8.fst then some (ByteArray.toList r6.snd.snd.fst == (mkB rest).toList, ()) else some (false, ()) else some (false, ()) else some (false, ()) else some (false, ()) else none) (true, ()) := by
        refine Ev.bind h4 ?_
        by_cases good : (0 ≤ k ∧ k ≤ 99) ∧ (rowB ts).length ≤ 3000
        · have hA : RowA k ts = (mkB (frB k (rowB ts)), 0, ()) := by
            unfold RowA PutA
            rw [if_neg (by omega), if_neg (by omega), if_pos (show ∀ t ∈ ts, t.length ≤ 3000 from hts3), if_neg (by omega), if_neg (by omega)]
          rw [hA]
          have hl := frB_len k (rowB ts)
          refine Ev.dt (by show (mkB (frB k (rowB ts))).size + (mkB rest).size ≤ _; rw [mkB_size, mkB_size]; omega) ?_
          show Ev (fun q => (frame_GetRow q (mkB (frB k (rowB ts)) ++ mkB rest)).bind _) _
          rw [mkB_append]
          obtain ⟨k', ts', r', e', hrow, g, _⟩ := Row_both (frB k (rowB ts) ++ rest) (by rw [List.length_append]; omega)
          obtain ⟨rfl, rfl, rfl, rfl⟩ := hrow.back good.1.1 good.1.2 (by omega) hts3 good.2
          refine Ev.bind g (Ev.bind framed_ok (Ev.t rfl (Ev.f (nbeq_i rfl) (Ev.t (beq_i rfl) (Ev.t (beq_i rfl) (Ev.bind (Texts_ok _ (by rw [List.length_map]; omega)) (Ev.t rfl ?_)))))))
          show Ev (fun _ => some ((mkB r').toList == (mkB r').toList, ())) _
          rw [beq_self_eq_true]; exact Ev.now _
        · obtain ⟨e, he, hA⟩ : ∃ e, e ≠ 0 ∧ RowA k ts = (EB, e, ()) := by
            unfold RowA PutA
            by_cases c : k < 0 ∨ k > 99
            · exact ⟨1, by decide, by rw [if_pos c]⟩
            · refine ⟨2, by decide, ?_⟩
              rw [if_neg c, if_neg (by omega), if_pos (show ∀ t ∈ ts, t.length ≤ 3000 from hts3), if_neg c, if_pos (by omega)]
          rw [hA]
          refine Ev.dt (by show EB.size + (mkB rest).size ≤ _; rw [mkB_size, EB_size]; omega) ?_
          show Ev (fun q => (frame_GetRow q (mkB [] ++ mkB rest)).bind _) _
          rw [mkB_append]
          obtain ⟨k', ts', r', e', hrow, g, _⟩ := Row_both ([] ++ rest) (by simpa using (by omega : rest.length ≤ 1000000))
          exact Ev.bind g (Ev.bind framed_ok (Ev.t rfl (Ev.t (nbne_i he) (Ev.now _))))
      refine Ev.bind h2 ?_
      by_cases good : 0 ≤ k ∧ k ≤ 99
      · have hA : PutA k s = (mkB (frB k s), 0, ()) := by unfold PutA; rw [if_neg (by omega), if_neg (by omega)]
        rw [hA]
        have hl := frB_len k s
        refine Ev.dt (by show (mkB (frB k s)).size + (mkB rest).size ≤ _; rw [mkB_size, mkB_size]; omega) ?_
        show Ev (fun q => (frame_Get q (mkB (frB k s) ++ mkB rest)).bind _) _
        rw [mkB_append]
        refine Ev.bind (Fr_back good.1 good.2 (by omega) (by rw [List.length_append]; omega)) (Ev.t (beq_i rfl) (Ev.f (nbeq_i rfl) (Ev.f (nbeq_i rfl) (Ev.f ?_ (Ev.f ?_ tail)))))
        · show (!((mkB s).toList == (mkB s).toList)) = false
          rw [beq_self_eq_true]; rfl
        · show (!((mkB rest).toList == (mkB rest).toList)) = false
          rw [beq_self_eq_true]; rfl
      · have hA : PutA k s = (EB, 1, ()) := by unfold PutA; rw [if_pos (by omega)]
        rw [hA]
        refine Ev.dt (by show EB.size + (mkB rest).size ≤ _; rw [mkB_size, EB_size]; omega) ?_
        show Ev (fun q => (frame_Get q (mkB [] ++ mkB rest)).bind _) _
        rw [mkB_append]
        obtain ⟨k', t', r', e', hfr, g, _⟩ := Fr_both ([] ++ rest) (by simpa using (by omega : rest.length ≤ 1000000))
        exact Ev.bind g (Ev.f (bne_i (by decide)) tail)
end Go.Proofs.Ytaadndikbecdbaa.Pure
