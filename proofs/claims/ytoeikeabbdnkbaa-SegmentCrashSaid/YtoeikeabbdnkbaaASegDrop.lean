/- Logs in files: Drop, and what is added behind whole records. -/
import Derived.Test.YtoeikeabbdnkbaaASegOps
namespace Go.Proofs.Ytoeikeabbdnkbaa.A
open Go Go.Proofs.Ytoeikeabbdnkbaa.Ab
set_option linter.unusedVariables false
set_option linter.unusedSimpArgs false

theorem Read_bad : Ev (fun k => segment_Read k RB) ([], 1, ()) := Ev.bind Is_bad (Ev.t rfl (Ev.now _))
theorem Drop_bad (a : Int) : Ev (fun k => segment_Drop k RB a) (RB, 1, ()) := Ev.bind Is_bad (Ev.t rfl (Ev.now _))
theorem Sync_bad : Ev (fun k => segment_Sync k RB) (RB, 1, ()) := SSync_no Is_bad
theorem stepA_whole {z n N : Int} {pre : List ByteArray} {s u : ByteArray} {ps : List (List Txt)} {t : Txt} (hok : okL z n pre s u) (hc : (files z pre s u).map contF = filesB n ps) (hp : partsOk n ps) (hN : n + ps.flatten.length = N) (hb : N ≤ 1000000000) (hs : (stepA z N t pre s u).1 = 0) :
    ∃ ps', okL z n (stepA z N t pre s u).2.1 (stepA z N t pre s u).2.2.1 (stepA z N t pre s u).2.2.2 ∧ (files z (stepA z N t pre s u).2.1 (stepA z N t pre s u).2.2.1 (stepA z N t pre s u).2.2.2).map contF = filesB n ps' ∧ partsOk n ps' ∧ ps'.flatten = ps.flatten ++ [t] := by
  obtain ⟨k1, k2⟩ := stepA_ok hok hs
  have hn0 := hok.n0
  have hrec : recOk N t := ⟨by omega, hb, k2⟩
  have hne : ps ≠ [] := by rintro rfl; rw [files_cont] at hc; simp [filesB] at hc
  obtain ⟨qs, l, rfl⟩ : ∃ qs l, ps = qs ++ [l] := ⟨ps.dropLast, ps.getLast hne, (List.dropLast_concat_getLast hne).symm⟩
  rw [flat_last] at hN ⊢
  rw [List.length_append] at hN
  obtain ⟨p1, p2, _⟩ := (partsOk_app n qs [l]).1 hp
  have hc' := hc
  rw [files_cont, filesB_app] at hc'
  obtain ⟨c1, c2⟩ := List.append_inj' hc' rfl
  have c2 : (s ++ u).data.toList = recsB (n + qs.flatten.length) l := (List.cons.inj c2).1
  have e2 : n + (qs.flatten.length : Int) + (l.length : Int) = N := by omega
  unfold stepA at hs k1 ⊢
  split at hs
  · cases hs
  · rename_i h1
    split at hs
    · cases hs
    · rename_i h2
      rw [if_neg h1, if_neg h2] at k1 ⊢
      split at hs
      · rename_i h3
        rw [if_pos h3] at k1 ⊢
        refine ⟨qs ++ [l ++ [t]], k1, ?_, (partsOk_app n qs _).2 ⟨p1, (recsOk_app _ l [t]).2 ⟨p2, by rw [e2]; exact ⟨hrec, trivial⟩⟩, trivial⟩, by rw [flat_last, List.append_assoc]⟩
        show (files z pre s (u ++ mkB (recB N t))).map contF = _
        rw [files_cont, filesB_app, c1, ← app_assoc, bytes_append, c2]
        show _ = _ ++ [recsB (n + qs.flatten.length) (l ++ [t])]
        rw [recsB_app, e2]
        show _ ++ [_ ++ recB N t] = _ ++ [_ ++ (recB N t ++ [])]
        rw [List.append_nil]
      · rename_i h3
        rw [if_neg h3] at k1 ⊢
        split at hs
        · cases hs
        · rename_i h4
          rw [if_neg h4] at k1 ⊢
          refine ⟨(qs ++ [l]) ++ [[t]], k1, ?_, (partsOk_app n (qs ++ [l]) _).2 ⟨hp, ?_, trivial⟩, by simp⟩
          · show (files z (pre ++ [s ++ u]) EB (mkB (recB N t))).map contF = _
            rw [filesB_app, ← hc, files_cont, files_cont, List.map_append, flat_last, List.length_append, E_app, show n + ((qs.flatten.length + l.length : Nat) : Int) = N by omega]
            show _ ++ [recB N t] = _ ++ [recB N t ++ []]
            rw [List.append_nil]; rfl
          · rw [flat_last, List.length_append, show n + ((qs.flatten.length + l.length : Nat) : Int) = N by omega]
            exact ⟨hrec, trivial⟩
/-- One text more. -/
theorem Add_one {z n : Int} {pre : List ByteArray} {s u : ByteArray} {ps : List (List Txt)} (hok : okL z n pre s u) (hc : (files z pre s u).map contF = filesB n ps) (hp : partsOk n ps) (t : Txt) :
    (∃ pre' s' u', okL z n pre' s' u' ∧ Ev (fun k => segment_Add k (SL z n pre s u) [mkB t]) (SL z n pre' s' u', 0, ()) ∧ Ev (fun k => segment_Read k (SL z n pre' s' u')) ((ps.flatten ++ [t]).map mkB, 0, ())) ∨
    ∃ e, (e = 2 ∨ e = 81) ∧ Ev (fun k => segment_Add k (SL z n pre s u) [mkB t]) (RB, e, ()) := by
  obtain ⟨x, y, sc⟩ := scan_good z n _ hok.len hok.bd hok.n0 hok.n1 hc hp
  have htot := hok.total hc hp
  have hm : (ps.flatten.map mkB).length = ps.flatten.length := List.length_map ..
  obtain ⟨a1, a2⟩ := Add_good hok sc (by omega) [t] (by simp)
  rw [hm] at a1 a2
  have b3 := hok.n1
  have er : runA z (n + ps.flatten.length) [t] (pre, s, u) = stepA z (n + ps.flatten.length) t pre s u := by
    simp only [runA]
    by_cases h : (stepA z (n + ps.flatten.length) t pre s u).1 = 0
    · rw [if_pos h]
      exact Prod.ext h.symm rfl
    · rw [if_neg h]
  rw [er] at a1 a2
  by_cases h : (stepA z (n + ps.flatten.length) t pre s u).1 = 0
  · obtain ⟨ps', k1, k2, k3, k4⟩ := stepA_whole hok hc hp rfl (by omega) h
    obtain ⟨x', y', sc'⟩ := scan_good z n _ k1.len k1.bd k1.n0 k1.n1 k2 k3
    rw [k4] at sc'
    exact .inl ⟨_, _, _, k1, a1 h, Read_scan k1 sc'⟩
  · refine .inr ⟨_, ?_, a2 h⟩
    rcases stepA_code (z := z) (n := n + ps.flatten.length) (t := t) (pre := pre) (s := s) (u := u) with q | q | q
    · exact absurd q h
    · exact .inl q
    · exact .inr q

/-! ### Drop -/
def dropQ (u : Int) : Int → List ByteArray → List (List Txt) → Int × List ByteArray × List (List Txt)
  | n, x :: pre, p :: qs => if n + p.length > imin u 900000000 then (n, x :: pre, p :: qs) else dropQ u (n + p.length) pre qs
  | n, [], qs => (n, [], qs)
  | n, pre, [] => (n, pre, [])
theorem imin_le (u v : Int) : imin u v ≤ u ∧ imin u v ≤ v := by
  unfold imin
  by_cases h : v < u
  · rw [decide_eq_true h]; exact ⟨by show v ≤ u; omega, by show v ≤ v; omega⟩
  · rw [decide_eq_false h]; exact ⟨by show u ≤ u; omega, by show u ≤ v; omega⟩
theorem imin_mono {u v w : Int} (h : u ≤ v) : imin u w ≤ imin v w := by
  unfold imin
  by_cases h1 : w < u <;> by_cases h2 : w < v <;> simp only [h1, h2, decide_true, decide_false, cond_true, cond_false] <;> omega
theorem imax_cases (u v : Int) : (v ≤ u ∧ imax u v = u) ∨ (u ≤ v ∧ imax u v = v) := by
  unfold imax
  by_cases h : v > u
  · rw [decide_eq_true h]; exact .inr ⟨by omega, rfl⟩
  · rw [decide_eq_false h]; exact .inl ⟨by omega, rfl⟩
structure Dropped (u n : Int) (pre : List ByteArray) (qs : List (List Txt)) (r : Int × List ByteArray × List (List Txt)) : Prop where
  c : r.2.1.map (fun x => x.data.toList) = filesB r.1 r.2.2
  o : partsOk r.1 r.2.2
  d : ∃ d : List Txt, qs.flatten = d ++ r.2.2.flatten ∧ r.1 = n + d.length
  m : r.1 = n ∨ r.1 ≤ imin u 900000000
  l : r.2.1.length ≤ pre.length
  p : ∀ x ∈ r.2.1, x ∈ pre
theorem dropQ_spec (u : Int) : ∀ (pre : List ByteArray) (qs : List (List Txt)) (n : Int), pre.map (fun x => x.data.toList) = filesB n qs → partsOk n qs → Dropped u n pre qs (dropQ u n pre qs)
  | [], qs, n, hc, ho => by
    have : dropQ u n [] qs = (n, [], qs) := by cases qs <;> rfl
    rw [this]
    exact ⟨hc, ho, ⟨[], rfl, by simp⟩, .inl rfl, Nat.le_refl _, fun x h => h⟩
  | x :: pre, [], n, hc, ho => by simp [filesB] at hc
  | x :: pre, p :: qs, n, hc, ho => by
    rw [dropQ]
    split
    · exact ⟨hc, ho, ⟨[], rfl, by simp⟩, .inl rfl, Nat.le_refl _, fun x h => h⟩
    · rename_i h
      rw [filesB, List.map_cons] at hc
      injection hc with h1 h2
      obtain ⟨k1, k2, ⟨d, k3, k4⟩, k5, k6, k7⟩ := dropQ_spec u pre qs (n + p.length) h2 ho.2
      refine ⟨k1, k2, ⟨p ++ d, by rw [flat_cons, k3, List.append_assoc], by rw [k4, List.length_append]; omega⟩, ?_, by rw [List.length_cons]; omega, fun y hy => List.mem_cons_of_mem _ (k7 y hy)⟩
      rcases k5 with k5 | k5
      · exact .inr (by rw [k5]; omega)
      · exact .inr k5
theorem dropQ_max (u v : Int) : ∀ (pre : List ByteArray) (qs : List (List Txt)) (n : Int), dropQ (imax u v) n pre qs = dropQ v (dropQ u n pre qs).1 (dropQ u n pre qs).2.1 (dropQ u n pre qs).2.2
  | [], [], n => rfl
  | [], q :: qs, n => rfl
  | x :: pre, [], n => rfl
  | x :: pre, p :: qs, n => by
    have hm := imin_mono (w := 900000000) (u := v) (v := u)
    rcases imax_cases u v with ⟨h, e⟩ | ⟨h, e⟩
    · rw [e]
      have hm := imin_mono (w := 900000000) h
      by_cases h1 : n + (p.length : Int) > imin u 900000000
      · have q : dropQ u n (x :: pre) (p :: qs) = (n, x :: pre, p :: qs) := by rw [dropQ, if_pos h1]
        rw [q]
        show _ = dropQ v n (x :: pre) (p :: qs)
        rw [dropQ, if_pos (by omega)]
      · have q : dropQ u n (x :: pre) (p :: qs) = dropQ u (n + p.length) pre qs := by rw [dropQ, if_neg h1]
        rw [q]
        have := dropQ_max u v pre qs (n + p.length)
        rw [e] at this; exact this
    · rw [e]
      have hm := imin_mono (w := 900000000) h
      by_cases h1 : n + (p.length : Int) > imin u 900000000
      · have q : dropQ u n (x :: pre) (p :: qs) = (n, x :: pre, p :: qs) := by rw [dropQ, if_pos h1]
        rw [q]
      · have q : dropQ u n (x :: pre) (p :: qs) = dropQ u (n + p.length) pre qs := by rw [dropQ, if_neg h1]
        have q' : dropQ v n (x :: pre) (p :: qs) = dropQ v (n + p.length) pre qs := by rw [dropQ, if_neg (by omega)]
        rw [q, q']
        have := dropQ_max u v pre qs (n + p.length)
        rw [e] at this; exact this
theorem drop_l {z : Int} {s t : ByteArray} (u : Int) : ∀ (pre : List ByteArray) (qs : List (List Txt)) (n : Int), okL z n pre s t → pre.map (fun x => x.data.toList) = filesB n qs → partsOk n qs →
    Ev (fun k => segment_Drop_l1 u k (SL z n pre s t, ())) (.exit 0, SL z (dropQ u n pre qs).1 (dropQ u n pre qs).2.1 s t, ())
  | [], qs, n, hok, hc, ho => by
    have : dropQ u n [] qs = (n, [], qs) := by cases qs <;> rfl
    rw [this]
    exact Ev.step (Ev.df (by show ¬ (((files z [] s t).length : Nat) : Int) > 1; rw [files_len]; simp) (Ev.now _))
  | x :: pre, [], n, hok, hc, ho => by simp [filesB] at hc
  | x :: pre, p :: qs, n, hok, hc, ho => by
    have hfl := files_len z (x :: pre) s t
    rw [List.length_cons] at hfl
    have c0 : (((files z (x :: pre) s t).length : Nat) : Int) > 1 := by omega
    have c1 : (0 : Int) < (((files z (x :: pre) s t).length : Nat) : Int) := by omega
    rw [filesB, List.map_cons] at hc
    injection hc with h1 h2
    have hbx : bdF (F z x EB) := hok.bd _ (by rw [files_cons]; simp)
    have hr : Ev (fun k => file_Read k (((files z (x :: pre) s t).getD (Int.toNat 0) Zf).1, ((files z (x :: pre) s t).getD (Int.toNat 0) Zf).2.1, ((files z (x :: pre) s t).getD (Int.toNat 0) Zf).2.2.1, ())) (x ++ EB, ()) := fileRead_ev hbx
    have hs : ScanIs (x ++ EB).data.toList n p [] := by rw [app_E, h1]; exact scan_whole ho.1
    have b1 := hbx.1
    have b1 : x.size ≤ 4000 := b1
    have hE := EB_size
    have sc := (scan_of (by omega) (by omega) hs).1
    have gl := scan_len hs
    rw [size_toList, ByteArray.size_append] at gl
    simp at gl
    have n0 := hok.n0
    have n1 := hok.n1
    have c2 : ¬ (((recsB n p).length : Nat) : Int) < ((x ++ EB).size : Int) := by rw [ByteArray.size_append]; omega
    have hw : IntKind.i64.wrap (n + ((p.map mkB).length : Int)) = n + p.length := by rw [List.length_map, wrap_id (by omega) (by omega)]
    by_cases h : n + (p.length : Int) > imin u 900000000
    · have q : dropQ u n (x :: pre) (p :: qs) = (n, x :: pre, p :: qs) := by rw [dropQ, if_pos h]
      rw [q]
      have c3 : IntKind.i64.wrap (n + ((p.map mkB).length : Int)) > imin u 900000000 := by rw [hw]; exact h
      exact Ev.step (Ev.dt c0 (Ev.dt c1 (Ev.bind hr (Ev.bind sc (Ev.df c2 (Ev.dt c3 (Ev.now _)))))))
    · have q : dropQ u n (x :: pre) (p :: qs) = dropQ u (n + p.length) pre qs := by rw [dropQ, if_neg h]
      rw [q]
      have c3 : ¬ IntKind.i64.wrap (n + ((p.map mkB).length : Int)) > imin u 900000000 := by rw [hw]; exact h
      have c4 : (1 : Int) ≤ (((files z (x :: pre) s t).length : Nat) : Int) := by omega
      have hd : List.drop (Int.toNat 1) (List.take (files z (x :: pre) s t).length (files z (x :: pre) s t)) = files z pre s t := by rw [List.take_length]; rfl
      have him := (imin_le u 900000000).2
      have ih := drop_l u pre qs (n + p.length) ⟨hok.z0, hok.z1, by omega, by omega, by have := hok.l; rw [List.length_cons] at this; omega, fun y hy => hok.p y (List.mem_cons_of_mem _ hy), hok.e⟩ h2 ho.2
      have ih' : Ev (fun k => segment_Drop_l1 u k ((z, IntKind.i64.wrap (n + ((p.map mkB).length : Int)), List.drop (Int.toNat 1) (List.take (files z (x :: pre) s t).length (files z (x :: pre) s t)), ()), ())) (.exit 0, SL z (dropQ u (n + p.length) pre qs).1 (dropQ u (n + p.length) pre qs).2.1 s t, ()) := by rw [hd, hw]; exact ih
      exact Ev.step (Ev.dt c0 (Ev.dt c1 (Ev.bind hr (Ev.bind sc (Ev.df c2 (Ev.df c3 (Ev.dt c4 (Ev.share ih'))))))))
theorem Drop_ok {z n : Int} {pre : List ByteArray} {s t : ByteArray} {qs : List (List Txt)} (hok : okL z n pre s t) (hc : pre.map (fun x => x.data.toList) = filesB n qs) (ho : partsOk n qs) (u : Int) :
    Ev (fun k => segment_Drop k (SL z n pre s t) u) (SL z (dropQ u n pre qs).1 (dropQ u n pre qs).2.1 s t, 0, ()) ∧ okL z (dropQ u n pre qs).1 (dropQ u n pre qs).2.1 s t := by
  have h := drop_l u pre qs n hok hc ho
  obtain ⟨_, _, ⟨d, _, hd⟩, hm, hl, hp⟩ := dropQ_spec u pre qs n hc ho
  constructor
  · refine Ev.bind (Is_true hok) (Ev.f rfl (Ev.dt hok.c0 (Ev.share (Ev.share ?_))))
    refine Ev.bind (x := (AExit.exit 0, SL z (dropQ u n pre qs).1 (dropQ u n pre qs).2.1 s t, ())) ?_ (Ev.t rfl (Ev.now _))
    rw [copyL (files z pre s t)]
    exact h
  · have n0 := hok.n0
    have n1 := hok.n1
    have him := (imin_le u 900000000).2
    exact ⟨hok.z0, hok.z1, by rw [hd]; omega, by rcases hm with q | q <;> omega, by have := hok.l; omega, fun x hx => hok.p x (hp x hx), hok.e⟩
end Go.Proofs.Ytoeikeabbdnkbaa.A
