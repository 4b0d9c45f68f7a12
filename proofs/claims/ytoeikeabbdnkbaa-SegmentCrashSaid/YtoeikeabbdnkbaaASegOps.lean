/- Logs in files: Sync, Crash, Mend. -/
import Derived.Test.YtoeikeabbdnkbaaASegStr
namespace Go.Proofs.Ytoeikeabbdnkbaa.A
open Go Go.Proofs.Ytoeikeabbdnkbaa.Ab
set_option linter.unusedVariables false
set_option linter.unusedSimpArgs false

theorem Texts_big_l (l : List ByteArray) (hl : l.length ≤ 1000000000) (d : Nat) : ∀ i : Nat, i + d = l.length → Ev (fun k => ref01_Texts_l1 l l k (false, (i : Int), ())) (.exit 0, false, (l.length : Int), ()) := by
  induction d with
  | zero =>
    intro i hi
    obtain rfl : i = l.length := by omega
    exact Ev.step (Ev.df (by show ¬ (l.length : Int) < l.length; omega) (Ev.now _))
  | succ d ih =>
    intro i hi
    have c0 : (i : Int) < (l.length : Int) := by omega
    have c1 : (0 : Int) ≤ (i : Int) := by omega
    have ih := ih (i + 1) (by omega)
    rw [← wrap_succ (by omega)] at ih
    exact Ev.step (Ev.dt c0 (Ev.dt c1 (Ev.dt c0 (Ev.dt c1 (Ev.dt c0 (Ev.f (by simp) ih))))))
theorem Texts_big (l : List ByteArray) (hl : l.length ≤ 1000000000) : Ev (fun k => ref01_Texts k l l) (true, ()) :=
  Ev.f (nbeq_i rfl) (Ev.bind (Texts_big_l l hl l.length 0 (by omega)) (Ev.t rfl (Ev.now _)))
section
variable {z n : Int} {pre : List ByteArray} {s t : ByteArray} (h : okL z n pre s t)
include h
theorem okL.c0 : (((files z pre s t).length : Nat) : Int).toNat * 40 ≤ 140737488355328 := by have := h.len; omega
theorem okL.c3 : (0 : Int) ≤ IntKind.i64.wrap (((files z pre s t).length : Int) - 1) := by rw [lastN (by have := h.l; omega)]; omega
theorem okL.c4 : IntKind.i64.wrap (((files z pre s t).length : Int) - 1) < ((files z pre s t).length : Int) := by rw [lastN (by have := h.l; omega), files_len]; omega
theorem okL.wN : (IntKind.i64.wrap (((files z pre s t).length : Int) - 1)).toNat = pre.length := by rw [lastN (by have := h.l; omega), Int.toNat_natCast]
theorem okL.c5 : (IntKind.i64.wrap (((files z pre s t).length : Int) - 1)).toNat < (files z pre s t).length := by rw [h.wN, files_len]; omega
theorem okL.set (f : FT) : (files z pre s t).set (IntKind.i64.wrap (((files z pre s t).length : Int) - 1)).toNat f = pre.map (fun x => F z x EB) ++ [f] := by rw [h.wN, files_set]
theorem okL.sz : s.size ≤ 1000000 ∧ t.size ≤ 1000000 := by have := h.e; have := h.z1; omega
/-- A log's last file, turned by Sync. -/
theorem SSync_ok : Ev (fun k => segment_Sync k (SL z n pre s t)) (SL z n pre (s ++ t) EB, 0, ()) := by
  have hs : Ev (fun k => file_Sync k (((files z pre s t).getD (IntKind.i64.wrap (((files z pre s t).length : Int) - 1)).toNat Zf).1, ((files z pre s t).getD (IntKind.i64.wrap (((files z pre s t).length : Int) - 1)).toNat Zf).2.1, ((files z pre s t).getD (IntKind.i64.wrap (((files z pre s t).length : Int) - 1)).toNat Zf).2.2.1, ())) (F z (s ++ t) EB, 0, ()) := by
    rw [h.wN, files_last]
    refine Ev.all fun k => ?_
    have := Sync_ok k z s t h.sz.1 h.sz.2
    rw [h.okF] at this; exact this
  have hset := h.set (F z (s ++ t) EB)
  have e : (SL z n pre (s ++ t) EB, (0 : Int), ()) = (SG z n ((files z pre s t).set (IntKind.i64.wrap (((files z pre s t).length : Int) - 1)).toNat (F z (s ++ t) EB)), (0 : Int), ()) := by rw [hset]; rfl
  rw [e]
  refine Ev.bind (Is_true h) (Ev.f rfl (Ev.dt h.c0 (Ev.share (Ev.share ?_))))
  rw [copyL (files z pre s t)]
  exact Ev.dt h.c3 (Ev.dt h.c4 (Ev.dt h.c5 (Ev.bind hs (Ev.f rfl (Ev.dt h.c3 (Ev.dt h.c4 (Ev.dt h.c5 (Ev.share (Ev.now _)))))))))
theorem SCrash_ok (a : Int) : Ev (fun k => segment_Crash k (SL z n pre s t) a) (SL z n pre (s ++ t.extract 0 (leftN a t.size)) EB, 0, ()) := by
  have hs : Ev (fun k => file_Crash k (((files z pre s t).getD (IntKind.i64.wrap (((files z pre s t).length : Int) - 1)).toNat Zf).1, ((files z pre s t).getD (IntKind.i64.wrap (((files z pre s t).length : Int) - 1)).toNat Zf).2.1, ((files z pre s t).getD (IntKind.i64.wrap (((files z pre s t).length : Int) - 1)).toNat Zf).2.2.1, ()) a) (F z (s ++ t.extract 0 (leftN a t.size)) EB, 0, ()) := by
    rw [h.wN, files_last]
    refine Ev.all fun k => ?_
    have := Crash_ok k z s t h.sz.1 h.sz.2 a
    rw [crashF, h.okF] at this; exact this
  have hset := h.set (F z (s ++ t.extract 0 (leftN a t.size)) EB)
  have e : (SL z n pre (s ++ t.extract 0 (leftN a t.size)) EB, (0 : Int), ()) = (SG z n ((files z pre s t).set (IntKind.i64.wrap (((files z pre s t).length : Int) - 1)).toNat (F z (s ++ t.extract 0 (leftN a t.size)) EB)), (0 : Int), ()) := by rw [hset]; rfl
  rw [e]
  refine Ev.bind (Is_true h) (Ev.f rfl (Ev.dt h.c0 (Ev.share (Ev.share ?_))))
  rw [copyL (files z pre s t)]
  exact Ev.dt h.c3 (Ev.dt h.c4 (Ev.dt h.c5 (Ev.bind hs (Ev.f rfl (Ev.dt h.c3 (Ev.dt h.c4 (Ev.dt h.c5 (Ev.share (Ev.now _)))))))))
theorem okL.sync : okL z n pre (s ++ t) EB := ⟨h.z0, h.z1, h.n0, h.n1, h.l, h.p, by have := h.e; rw [ByteArray.size_append, EB_size]; omega⟩
theorem okL.crash (a : Int) : okL z n pre (s ++ t.extract 0 (leftN a t.size)) EB := ⟨h.z0, h.z1, h.n0, h.n1, h.l, h.p, by have := h.e; have := leftN_le a t.size; rw [ByteArray.size_append, ByteArray.size_extract, EB_size]; omega⟩
theorem Mend_good {T : List ByteArray} {x y : Int} (hs : Ev (fun k => segment_scan k (SL z n pre s t)) ((T, x, y, true, ()), ())) : Ev (fun k => segment_Mend k (SL z n pre s t)) (SL z n pre s t, 0, ()) := by
  refine Ev.bind (Is_true h) (Ev.f rfl (Ev.bind hs (Ev.dt h.c0 (Ev.share (Ev.share ?_)))))
  rw [copyL (files z pre s t)]
  exact Ev.t rfl (Ev.now _)
end
theorem SSync_no {z n : Int} {fs : List FT} (h : Ev (fun k => segment_Is k (SG z n fs)) (false, ())) : Ev (fun k => segment_Sync k (SG z n fs)) (RB, 1, ()) := Ev.bind h (Ev.t rfl (Ev.now _))
theorem SCrash_no {z n : Int} {fs : List FT} (h : Ev (fun k => segment_Is k (SG z n fs)) (false, ())) (a : Int) : Ev (fun k => segment_Crash k (SG z n fs) a) (RB, 1, ()) := Ev.bind h (Ev.t rfl (Ev.now _))
theorem SMend_no {z n : Int} {fs : List FT} (h : Ev (fun k => segment_Is k (SG z n fs)) (false, ())) : Ev (fun k => segment_Mend k (SG z n fs)) (RB, 1, ()) := Ev.bind h (Ev.t rfl (Ev.now _))
/-- The files up to one. -/
theorem files_split {z n : Int} : ∀ {pre : List ByteArray} {s t : ByteArray} {p : List FT} {f : FT} {q : List FT}, files z pre s t = p ++ f :: q → okL z n pre s t →
    ∃ pre' s' t', p ++ [f] = files z pre' s' t' ∧ p = pre'.map (fun x => F z x EB) ∧ f = F z s' t' ∧ pre'.length = p.length ∧ okL z n pre' s' t' := by
  intro pre
  intro s t p f q h hok
  have hE := EB_size
  have hlen := congrArg List.length h
  rw [files_len, List.length_append, List.length_cons] at hlen
  by_cases hq : q = []
  · subst hq
    unfold files at h
    obtain ⟨h1, h2⟩ := List.append_inj' h rfl
    injection h2 with h2
    exact ⟨pre, s, t, by rw [← h1, ← h2]; rfl, h1.symm, h2.symm, by rw [← h1]; simp, hok⟩
  · have hql : 0 < q.length := List.length_pos_iff.2 hq
    have hpl : p.length < pre.length := by omega
    have e1 : p = (pre.take p.length).map (fun x => F z x EB) := by
      have := congrArg (List.take p.length) h
      rw [List.take_left] at this
      refine this.symm.trans ?_
      unfold files
      rw [List.take_append_of_le_length (by simp; omega), List.map_take]
    have e2 : f = F z pre[p.length] EB := by
      have : (files z pre s t)[p.length]? = some f := by rw [h]; simp
      unfold files at this
      rw [List.getElem?_append_left (by simp; omega), List.getElem?_map, List.getElem?_eq_getElem hpl] at this
      exact (Option.some.inj this).symm
    have hpl2 : (pre.take p.length).length = p.length := by rw [List.length_take]; omega
    refine ⟨pre.take p.length, pre[p.length], EB, by rw [e2]; unfold files; rw [← e1], e1, e2, hpl2, ⟨hok.z0, hok.z1, hok.n0, hok.n1, by have := hok.l; omega, fun x hx => hok.p x (List.mem_of_mem_take hx), ?_⟩⟩
    have := hok.p pre[p.length] (List.getElem_mem hpl)
    rw [hE]; omega
theorem Mend_bad {z n : Int} {pre : List ByteArray} {s t : ByteArray} (h : okL z n pre s t) {p : List FT} {f : FT} {q : List FT} (hp : files z pre s t = p ++ f :: q) {ps : List (List Txt)} (hc : p.map contF = filesB n ps) (hok : partsOk n ps) {ts : List Txt} {rest : List UInt8} (hs : ScanIs (contF f) (n + ps.flatten.length) ts rest) (hr : rest ≠ []) :
    ∃ pre' W, okL z n pre' W EB ∧ Ev (fun k => segment_Mend k (SL z n pre s t)) (SL z n pre' W EB, 0, ()) ∧ (files z pre' W EB).map contF = filesB n (ps ++ [ts]) ∧ partsOk n (ps ++ [ts]) ∧ pre'.map (fun x => x.data.toList) = filesB n ps ∧ W = mkB (recsB (n + ps.flatten.length) ts) := by
  have hE := EB_size
  obtain ⟨pre', s', t', e1, e2, rfl, e4, ok'⟩ := files_split hp h
  have hsc := scan_bad z n _ h.len h.bd h.n0 h.n1 hp hc hok hs hr
  have gl := scan_len hs
  have gsz : (contF (F z s' t')).length = (s' ++ t').size := size_toList _
  rw [ByteArray.size_append] at gsz
  obtain ⟨W, hW⟩ : ∃ W, mkB (recsB (n + ps.flatten.length) ts) = W := ⟨_, rfl⟩
  have hWs := mkB_size (recsB (n + ps.flatten.length) ts)
  rw [hW] at hWs
  have okW : okL z n pre' W EB := ⟨ok'.z0, ok'.z1, ok'.n0, ok'.n1, ok'.l, ok'.p, by have := ok'.e; rw [hE]; omega⟩
  have hcont : (files z pre' W EB).map contF = filesB n (ps ++ [ts]) := by
    rw [files_cont, filesB_app]
    congr 1
    · rw [← hc, e2, List.map_map]
      apply List.map_congr_left
      intro x _
      exact (contF_pre z x).symm
    · rw [app_E, ← hW]; rfl
  refine ⟨pre', W, okW, ?_, hcont, (partsOk_app n ps _).2 ⟨hok, hs.1, trivial⟩, ?_, hW.symm⟩
  · have hcut : Ev (fun k => file_Cut k (((files z pre' s' t').getD (IntKind.i64.wrap (((files z pre' s' t').length : Int) - 1)).toNat Zf).1, ((files z pre' s' t').getD (IntKind.i64.wrap (((files z pre' s' t').length : Int) - 1)).toNat Zf).2.1, ((files z pre' s' t').getD (IntKind.i64.wrap (((files z pre' s' t').length : Int) - 1)).toNat Zf).2.2.1, ()) (((recsB (n + ps.flatten.length) ts).length : Nat) : Int)) (F z W EB, 0, ()) := by
      rw [ok'.wN, files_last]
      refine Ev.all fun k => ?_
      have := Cut_ok k z s' t' ok'.sz.1 ok'.sz.2 (((recsB (n + ps.flatten.length) ts).length : Nat) : Int)
      unfold cutF at this
      rw [ok'.okF, if_neg (by omega)] at this
      have hx : (s' ++ t').extract 0 (Int.toNat (((recsB (n + ps.flatten.length) ts).length : Nat) : Int)) = W := by
        have hs2 : (s' ++ t').data.toList = recsB (n + ps.flatten.length) ts ++ rest := hs.2.1
        rw [← mkB_of (s' ++ t'), mkB_extract, List.drop_zero, Int.toNat_natCast, hs2, List.take_left, hW]
      rw [hx] at this
      exact this
    have hlen : (files z pre s t).length = p.length + (q.length + 1) := by rw [hp]; simp
    have hll := h.len
    have w1 : IntKind.i64.wrap ((p.length : Int) + 1) = ((p.length + 1 : Nat) : Int) := wrap_succ (by omega)
    have htake : List.drop 0 (List.take (IntKind.i64.wrap ((p.length : Int) + 1)).toNat (files z pre s t)) = files z pre' s' t' := by
      rw [w1, Int.toNat_natCast, List.drop_zero, hp, ← e1]
      rw [show p ++ F z s' t' :: q = (p ++ [F z s' t']) ++ q by simp]
      exact List.take_left' (by simp)
    have d0 : (0 : Int) ≤ IntKind.i64.wrap ((p.length : Int) + 1) := by rw [w1]; omega
    have d1 : IntKind.i64.wrap ((p.length : Int) + 1) ≤ ((files z pre s t).length : Int) := by rw [w1, hlen]; omega
    have hset := ok'.set (F z W EB)
    have e : (SL z n pre' W EB, (0 : Int), ()) = (SG z n ((files z pre' s' t').set (IntKind.i64.wrap (((files z pre' s' t').length : Int) - 1)).toNat (F z W EB)), (0 : Int), ()) := by rw [hset]; rfl
    rw [e]
    refine Ev.bind (Is_true h) (Ev.f rfl (Ev.bind hsc (Ev.dt h.c0 (Ev.share (Ev.share ?_)))))
    rw [copyL (files z pre s t)]
    refine Ev.f rfl (Ev.dt d0 (Ev.dt d1 (Ev.share ?_)))
    rw [htake]
    refine Ev.bind (Is_true ok') (Ev.f rfl (Ev.dt ok'.c0 (Ev.share (Ev.share ?_))))
    rw [copyL (files z pre' s' t')]
    exact Ev.dt ok'.c3 (Ev.dt ok'.c4 (Ev.dt ok'.c5 (Ev.bind hcut (Ev.f rfl (Ev.dt ok'.c3 (Ev.dt ok'.c4 (Ev.dt ok'.c5 (Ev.share (Ev.now _)))))))))
  · rw [← hc, e2, List.map_map]
    apply List.map_congr_left
    intro x _
    exact (contF_pre z x).symm
/-- What is mended: whole, with the texts that were read. -/
theorem Mend_any {z n : Int} {pre : List ByteArray} {s t : ByteArray} (h : okL z n pre s t) : ∃ pre' s' t' ps x y w, okL z n pre' s' t' ∧ Ev (fun k => segment_Mend k (SL z n pre s t)) (SL z n pre' s' t', 0, ()) ∧ (files z pre' s' t').map contF = filesB n ps ∧ partsOk n ps ∧
    Ev (fun k => segment_scan k (SL z n pre s t)) ((ps.flatten.map mkB, x, y, w, ()), ()) := by
  rcases parts_or n ((files z pre s t).map contF) (fun c hc => by
    obtain ⟨f, hf, rfl⟩ := List.mem_map.1 hc
    exact contF_len _ h.bd hf) with ⟨ps, k1, k2⟩ | ⟨ps, c, cs', ts, rest, k1, k2, k3, k4⟩
  · obtain ⟨x, y, e1⟩ := scan_good z n _ h.len h.bd h.n0 h.n1 k2 k1
    exact ⟨pre, s, t, ps, x, y, true, h, Mend_good h e1, k2, k1, e1⟩
  · obtain ⟨p, r, h1, h2, h3⟩ := List.map_eq_append_iff.1 k2
    obtain ⟨f, q, rfl, h5, h6⟩ := List.map_eq_cons_iff.1 h3
    obtain ⟨pre', W, g1, g2, g3, g4, _⟩ := Mend_bad h h1 h2 k1 (by rw [h5]; exact k3) k4
    have e1 := scan_bad z n _ h.len h.bd h.n0 h.n1 h1 h2 k1 (by rw [h5]; exact k3) k4
    rw [← flat_last] at e1
    exact ⟨pre', W, EB, ps ++ [ts], _, _, false, g1, g2, g3, g4, e1⟩
theorem parts_total : ∀ (ps : List (List Txt)) (n : Int), partsOk n ps → ps.flatten.length ≤ ((filesB n ps).map List.length).sum := by
  intro ps
  induction ps with
  | nil => intro n _; simp
  | cons p ps ih =>
    intro n h
    have := ih _ h.2
    have := (recsB_len n p 1000 h.1.bd.2).2
    rw [flat_cons, List.length_append, filesB, List.map_cons, List.sum_cons]; omega
theorem cont_total : ∀ (fs : List FT), (∀ f ∈ fs, bdF f) → ((fs.map contF).map List.length).sum ≤ 8000 * fs.length := by
  intro fs
  induction fs with
  | nil => intro _; simp
  | cons f fs ih =>
    intro h
    have h2 := ih (fun f hf => h f (by simp [hf]))
    have h1 := contF_len (f :: fs) h (by simp : f ∈ f :: fs)
    rw [List.map_cons, List.map_cons, List.sum_cons, List.length_cons]; omega
theorem okL.total {z n : Int} {pre : List ByteArray} {s t : ByteArray} (h : okL z n pre s t) {ps : List (List Txt)} (hc : (files z pre s t).map contF = filesB n ps) (hok : partsOk n ps) : ps.flatten.length ≤ 160000 := by
  have h1 := parts_total ps n hok
  have h2 := cont_total (files z pre s t) h.bd
  rw [← hc] at h1
  have h3 := files_len z pre s t
  have h4 := h.l
  omega
end Go.Proofs.Ytoeikeabbdnkbaa.A
