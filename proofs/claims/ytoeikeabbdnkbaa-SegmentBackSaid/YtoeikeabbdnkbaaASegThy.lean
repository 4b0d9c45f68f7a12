/- Logs in files: which are right, and what a scan of them tells. -/
import Derived.Test.YtoeikeabbdnkbaaAScanLaw
namespace Go.Proofs.Ytoeikeabbdnkbaa.A
open Go Go.Proofs.Ytoeikeabbdnkbaa.Ab
set_option linter.unusedVariables false
set_option linter.unusedSimpArgs false

theorem Ev.share {α β : Type} {x : α} {f : Nat → α → Option β} {y : β} (h : Ev (fun k => f k x) y) : Ev (fun k => Ab.share x (f k)) y := h
abbrev SegT := Int × (Int × (List FT × Unit))
abbrev SG (z n : Int) (fs : List FT) : SegT := (z, n, fs, ())
abbrev Zf : FT := ((Ty.int IntKind.i64).cons (Ty.str.cons (Ty.str.cons Ty.nil))).zero
theorem getD_f (fs : List FT) (i : Nat) (h : i < fs.length) (z : FT) : fs.getD (Int.toNat (i : Int)) z = fs[i] := by
  rw [Int.toNat_natCast, List.getD_eq_getElem?_getD, List.getElem?_eq_getElem h]; rfl
theorem getD_m (p : List FT) (f : FT) (q : List FT) (z : FT) : (p ++ f :: q).getD (Int.toNat (p.length : Int)) z = f := by
  rw [getD_f _ _ (by simp)]; simp
/-- The files of a log: those ahead are kept. -/
def files (z : Int) (pre : List ByteArray) (s t : ByteArray) : List FT := pre.map (fun x => F z x EB) ++ [F z s t]
theorem files_len (z : Int) (pre : List ByteArray) (s t : ByteArray) : (files z pre s t).length = pre.length + 1 := by simp [files]
theorem files_cons (z : Int) (x : ByteArray) (pre : List ByteArray) (s t : ByteArray) : files z (x :: pre) s t = F z x EB :: files z pre s t := rfl
abbrev SL (z n : Int) (pre : List ByteArray) (s t : ByteArray) : SegT := SG z n (files z pre s t)
/-- A right log. -/
structure okL (z n : Int) (pre : List ByteArray) (s t : ByteArray) : Prop where
  z0 : 20 ≤ z
  z1 : z ≤ 4000
  n0 : 0 ≤ n
  n1 : n ≤ 900000000
  l : pre.length + 1 ≤ 20
  p : ∀ x ∈ pre, (x.size : Int) ≤ z
  e : ((s.size + t.size : Nat) : Int) ≤ z
def bdF (f : FT) : Prop := f.2.1.size ≤ 4000 ∧ f.2.2.1.size ≤ 4000
theorem fileIs_ev {f : FT} (h : bdF f) : Ev (fun k => file_Is k (f.1, f.2.1, f.2.2.1, ())) (okF f.1 f.2.1 f.2.2.1, ()) := Ev.all fun k => Is_ok k f.1 f.2.1 f.2.2.1 (by have := h.1; omega) (by have := h.2; omega)
theorem isE {b : ByteArray} (h : (b.toList == EB.toList) = true) : b = EB := by
  have := eq_of_beq h
  rw [toList_data, toList_data] at this
  exact bytes_inj this
section
variable (z n : Int) (fs : List FT) (hl : fs.length ≤ 1000) (hb : ∀ f ∈ fs, bdF f)
include hl hb
theorem Is_l : ∀ (q p : List FT), fs = p ++ q → q ≠ [] →
    ((∃ pre s t, q = files z pre s t ∧ (∀ x ∈ pre, okF z x EB = true) ∧ okF z s t = true) ∧ Ev (fun k => segment_Is_l1 (SG z n fs) k (false, (p.length : Int), ())) (.exit 0, false, (fs.length : Int), ())) ∨
    (∃ i', Ev (fun k => segment_Is_l1 (SG z n fs) k (false, (p.length : Int), ())) (.ret, false, i', ())) := by
  intro q
  induction q with
  | nil => intro p _ h; exact absurd rfl h
  | cons f q ih =>
    intro p hp _
    have hlen : fs.length = p.length + (q.length + 1) := by rw [hp]; simp
    have c0 : (p.length : Int) < (fs.length : Int) := by omega
    have c1 : (0 : Int) ≤ (p.length : Int) := by omega
    have hg : fs.getD (Int.toNat (p.length : Int)) Zf = f := by rw [hp, getD_m]
    have hi : Ev (fun k => file_Is k ((fs.getD (Int.toNat (p.length : Int)) Zf).1, (fs.getD (Int.toNat (p.length : Int)) Zf).2.1, (fs.getD (Int.toNat (p.length : Int)) Zf).2.2.1, ())) (okF f.1 f.2.1 f.2.2.1, ()) := by
      rw [hg]; exact fileIs_ev (hb f (by rw [hp]; simp))
    have hw : IntKind.i64.wrap ((fs.length : Int) - 1) = fs.length - 1 := wrap_id (by omega) (by omega)
    have hw2 := wrap_succ (i := p.length) (by omega)
    cases g : okF f.1 f.2.1 f.2.2.1 with
    | false =>
      rw [g] at hi
      exact .inr ⟨_, Ev.step (Ev.dt c0 (Ev.dt c1 (Ev.dt c0 (Ev.bind hi (Ev.t rfl (Ev.now _))))))⟩
    | true =>
      rw [g] at hi
      by_cases hz : f.1 = z
      · have e1 : ((fs.getD (Int.toNat (p.length : Int)) Zf).1 != z) = false := by rw [hg]; exact nbeq_i hz
        obtain ⟨m, s, t, ⟨⟩⟩ := f
        have hz : m = z := hz
        subst hz
        have g : okF m s t = true := g
        cases q with
        | nil =>
          left
          refine ⟨⟨[], s, t, rfl, by simp, g⟩, ?_⟩
          have c2 : ¬ (p.length : Int) < IntKind.i64.wrap ((fs.length : Int) - 1) := by rw [hw]; simp at hlen; omega
          have hend : Ev (fun k => segment_Is_l1 (SG m n fs) k (false, IntKind.i64.wrap ((p.length : Int) + 1), ())) (.exit 0, false, (fs.length : Int), ()) := by
            rw [hw2, show p.length + 1 = fs.length by simp at hlen; omega]
            exact Ev.step (Ev.df (by show ¬ (fs.length : Int) < fs.length; omega) (Ev.now _))
          exact Ev.step (Ev.dt c0 (Ev.dt c1 (Ev.dt c0 (Ev.bind hi (Ev.f rfl (Ev.f e1 (Ev.df c2 hend)))))))
        | cons f2 q =>
          have c2 : (p.length : Int) < IntKind.i64.wrap ((fs.length : Int) - 1) := by rw [hw]; simp at hlen; omega
          cases g2 : (t.toList == EB.toList) with
          | false =>
            right
            have e2 : (!(fs.getD (Int.toNat (p.length : Int)) Zf).2.2.1.toList == EB.toList) = true := by rw [hg]; show (!(t.toList == EB.toList)) = true; rw [g2]; rfl
            exact ⟨_, Ev.step (Ev.dt c0 (Ev.dt c1 (Ev.dt c0 (Ev.bind hi (Ev.f rfl (Ev.f e1 (Ev.dt c2 (Ev.t e2 (Ev.now _)))))))))⟩
          | true =>
            have e2 : (!(fs.getD (Int.toNat (p.length : Int)) Zf).2.2.1.toList == EB.toList) = false := by rw [hg]; show (!(t.toList == EB.toList)) = false; rw [g2]; rfl
            obtain rfl := isE g2
            have on : ∀ {R}, Ev (fun k => segment_Is_l1 (SG m n fs) k (false, (((p ++ [F m s EB]).length : Nat) : Int), ())) R → Ev (fun k => segment_Is_l1 (SG m n fs) k (false, (p.length : Int), ())) R := by
              intro R h
              rw [show (((p ++ [F m s EB]).length : Nat) : Int) = IntKind.i64.wrap ((p.length : Int) + 1) by rw [hw2]; simp] at h
              exact Ev.step (Ev.dt c0 (Ev.dt c1 (Ev.dt c0 (Ev.bind hi (Ev.f rfl (Ev.f e1 (Ev.dt c2 (Ev.f e2 h))))))))
            rcases ih (p ++ [F m s EB]) (by rw [hp]; simp) (by simp) with ⟨⟨pre, s2, t2, h1, h2, h3⟩, h4⟩ | ⟨i', h4⟩
            · refine .inl ⟨⟨s :: pre, s2, t2, by rw [files_cons, ← h1], fun x hx => ?_, h3⟩, on h4⟩
              rcases List.mem_cons.1 hx with rfl | hx
              · exact g
              · exact h2 x hx
            · exact .inr ⟨i', on h4⟩
      · have e1 : ((fs.getD (Int.toNat (p.length : Int)) Zf).1 != z) = true := by rw [hg]; exact nbne_i hz
        exact .inr ⟨_, Ev.step (Ev.dt c0 (Ev.dt c1 (Ev.dt c0 (Ev.bind hi (Ev.f rfl (Ev.t e1 (Ev.now _)))))))⟩
theorem Is_cases : (∃ pre s t, fs = files z pre s t ∧ okL z n pre s t ∧ Ev (fun k => segment_Is k (SG z n fs)) (true, ())) ∨ Ev (fun k => segment_Is k (SG z n fs)) (false, ()) := by
  by_cases a1 : z < 20
  · exact .inr (Ev.dt a1 (Ev.now _))
  by_cases a2 : z > 4000
  · exact .inr (Ev.df a1 (Ev.dt a2 (Ev.now _)))
  by_cases a3 : n < 0
  · exact .inr (Ev.df a1 (Ev.df a2 (Ev.dt a3 (Ev.now _))))
  by_cases a4 : n > 900000000
  · exact .inr (Ev.df a1 (Ev.df a2 (Ev.df a3 (Ev.dt a4 (Ev.now _)))))
  by_cases a5 : (fs.length : Int) < 1
  · exact .inr (Ev.df a1 (Ev.df a2 (Ev.df a3 (Ev.df a4 (Ev.dt a5 (Ev.now _))))))
  by_cases a6 : (fs.length : Int) > 20
  · exact .inr (Ev.df a1 (Ev.df a2 (Ev.df a3 (Ev.df a4 (Ev.df a5 (Ev.dt a6 (Ev.now _)))))))
  rcases Is_l z n fs hl hb fs [] rfl (by intro e; rw [e] at a5; simp at a5) with ⟨⟨pre, s, t, h1, h2, h3⟩, h4⟩ | ⟨i', h4⟩
  · left
    have hlen := files_len z pre s t
    rw [← h1] at hlen
    refine ⟨pre, s, t, h1, ⟨by omega, by omega, by omega, by omega, by omega, fun x hx => ?_, (okF_bd h3).2.2⟩, Ev.df a1 (Ev.df a2 (Ev.df a3 (Ev.df a4 (Ev.df a5 (Ev.df a6 (Ev.bind h4 (Ev.t rfl (Ev.now _))))))))⟩
    have := (okF_bd (h2 x hx)).2.2
    rw [EB_size] at this; omega
  · exact .inr (Ev.df a1 (Ev.df a2 (Ev.df a3 (Ev.df a4 (Ev.df a5 (Ev.df a6 (Ev.bind h4 (Ev.now _))))))))
end
theorem files_inj {z : Int} : ∀ {pre pre' : List ByteArray} {s t s' t' : ByteArray}, files z pre s t = files z pre' s' t' → pre = pre' ∧ s = s' ∧ t = t'
  | [], [], _, _, _, _, h => by simp [files] at h; exact ⟨rfl, h⟩
  | [], x :: pre', _, _, _, _, h => by have := congrArg List.length h; simp [files] at this
  | x :: pre, [], _, _, _, _, h => by have := congrArg List.length h; simp [files] at this
  | x :: pre, y :: pre', _, _, _, _, h => by
    rw [files_cons, files_cons] at h
    injection h with h1 h2
    obtain ⟨rfl, h3, h4⟩ := files_inj h2
    have : x = y := congrArg (fun f : FT => f.2.1) h1
    exact ⟨by rw [this], h3, h4⟩
theorem okL.bd {z n : Int} {pre : List ByteArray} {s t : ByteArray} (h : okL z n pre s t) : ∀ f ∈ files z pre s t, bdF f := by
  intro f hf
  have := h.z1
  rcases List.mem_append.1 hf with hf | hf
  · obtain ⟨x, hx, rfl⟩ := List.mem_map.1 hf
    have := h.p x hx
    refine ⟨?_, ?_⟩
    · show x.size ≤ 4000; omega
    · show EB.size ≤ 4000; rw [EB_size]; omega
  · simp at hf; subst hf
    have := h.e
    refine ⟨?_, ?_⟩
    · show s.size ≤ 4000; omega
    · show t.size ≤ 4000; omega
theorem okL.okF {z n : Int} {pre : List ByteArray} {s t : ByteArray} (h : okL z n pre s t) : okF z s t = true := decide_eq_true ⟨by have := h.z0; omega, h.z1, h.e⟩
theorem okF_no {z : Int} {s t : ByteArray} (h : ¬ ((s.size + t.size : Nat) : Int) ≤ z) : okF z s t = false := decide_eq_false (by omega)
theorem Is_true {z n : Int} {pre : List ByteArray} {s t : ByteArray} (h : okL z n pre s t) : Ev (fun k => segment_Is k (SL z n pre s t)) (true, ()) := by
  have hlen := files_len z pre s t
  have hl := h.l
  have h0 := h.z0
  have h1 := h.z1
  have h2 := h.n0
  have h3 := h.n1
  have key : ∀ (pre' p : List ByteArray), pre = p ++ pre' → Ev (fun k => segment_Is_l1 (SL z n pre s t) k (false, (p.length : Int), ())) (.exit 0, false, ((files z pre s t).length : Int), ()) := by
    intro pre'
    induction pre' with
    | nil =>
      intro p hp
      rw [List.append_nil] at hp
      subst hp
      have c0 : (pre.length : Int) < ((files z pre s t).length : Int) := by omega
      have c1 : (0 : Int) ≤ (pre.length : Int) := by omega
      have hg : (files z pre s t).getD (Int.toNat (pre.length : Int)) Zf = F z s t := by
        have := getD_m (pre.map (fun x => F z x EB)) (F z s t) [] Zf
        rw [List.length_map] at this; exact this
      have hi : Ev (fun k => file_Is k (((files z pre s t).getD (Int.toNat (pre.length : Int)) Zf).1, ((files z pre s t).getD (Int.toNat (pre.length : Int)) Zf).2.1, ((files z pre s t).getD (Int.toNat (pre.length : Int)) Zf).2.2.1, ())) (true, ()) := by
        rw [hg]
        have := fileIs_ev (f := F z s t) (h.bd _ (by simp [files]))
        rw [show okF (F z s t).1 (F z s t).2.1 (F z s t).2.2.1 = true from h.okF] at this
        exact this
      have e1 : (((files z pre s t).getD (Int.toNat (pre.length : Int)) Zf).1 != z) = false := by rw [hg]; exact nbeq_i rfl
      have hw : IntKind.i64.wrap (((files z pre s t).length : Int) - 1) = (files z pre s t).length - 1 := wrap_id (by omega) (by omega)
      have c2 : ¬ (pre.length : Int) < IntKind.i64.wrap (((files z pre s t).length : Int) - 1) := by rw [hw]; omega
      have hw2 := wrap_succ (i := pre.length) (by omega)
      have hend : Ev (fun k => segment_Is_l1 (SL z n pre s t) k (false, IntKind.i64.wrap ((pre.length : Int) + 1), ())) (.exit 0, false, ((files z pre s t).length : Int), ()) := by
        rw [hw2, show pre.length + 1 = (files z pre s t).length by omega]
        exact Ev.step (Ev.df (by show ¬ ((files z pre s t).length : Int) < (files z pre s t).length; omega) (Ev.now _))
      exact Ev.step (Ev.dt c0 (Ev.dt c1 (Ev.dt c0 (Ev.bind hi (Ev.f rfl (Ev.f e1 (Ev.df c2 hend)))))))
    | cons x pre' ih =>
      intro p hp
      have hpl : pre.length = p.length + (pre'.length + 1) := by rw [hp]; simp
      have c0 : (p.length : Int) < ((files z pre s t).length : Int) := by omega
      have c1 : (0 : Int) ≤ (p.length : Int) := by omega
      have hg : (files z pre s t).getD (Int.toNat (p.length : Int)) Zf = F z x EB := by
        have := getD_m (p.map (fun x => F z x EB)) (F z x EB) (files z pre' s t) Zf
        rw [List.length_map] at this
        rw [← this, hp]
        simp [files]
      have hi : Ev (fun k => file_Is k (((files z pre s t).getD (Int.toNat (p.length : Int)) Zf).1, ((files z pre s t).getD (Int.toNat (p.length : Int)) Zf).2.1, ((files z pre s t).getD (Int.toNat (p.length : Int)) Zf).2.2.1, ())) (true, ()) := by
        rw [hg]
        have := fileIs_ev (f := F z x EB) (h.bd _ (by simp [files, hp]))
        have hx := h.p x (by rw [hp]; simp)
        rw [show okF (F z x EB).1 (F z x EB).2.1 (F z x EB).2.2.1 = true from decide_eq_true ⟨by show 1 ≤ z; omega, h1, by show ((x.size + EB.size : Nat) : Int) ≤ z; rw [EB_size]; exact hx⟩] at this
        exact this
      have e1 : (((files z pre s t).getD (Int.toNat (p.length : Int)) Zf).1 != z) = false := by rw [hg]; exact nbeq_i rfl
      have hw : IntKind.i64.wrap (((files z pre s t).length : Int) - 1) = (files z pre s t).length - 1 := wrap_id (by omega) (by omega)
      have c2 : (p.length : Int) < IntKind.i64.wrap (((files z pre s t).length : Int) - 1) := by rw [hw]; omega
      have e2 : (!((files z pre s t).getD (Int.toNat (p.length : Int)) Zf).2.2.1.toList == EB.toList) = false := by rw [hg]; show (!(EB.toList == EB.toList)) = false; simp
      have hw2 := wrap_succ (i := p.length) (by omega)
      have h := ih (p ++ [x]) (by rw [hp]; simp)
      rw [show (((p ++ [x]).length : Nat) : Int) = IntKind.i64.wrap ((p.length : Int) + 1) by rw [hw2]; simp] at h
      exact Ev.step (Ev.dt c0 (Ev.dt c1 (Ev.dt c0 (Ev.bind hi (Ev.f rfl (Ev.f e1 (Ev.dt c2 (Ev.f e2 h))))))))
  have a1 : ¬ z < 20 := by omega
  have a2 : ¬ z > 4000 := by omega
  have a3 : ¬ n < 0 := by omega
  have a4 : ¬ n > 900000000 := by omega
  have a5 : ¬ ((files z pre s t).length : Int) < 1 := by omega
  have a6 : ¬ ((files z pre s t).length : Int) > 20 := by omega
  exact Ev.df a1 (Ev.df a2 (Ev.df a3 (Ev.df a4 (Ev.df a5 (Ev.df a6 (Ev.bind (key pre [] rfl) (Ev.t rfl (Ev.now _))))))))

/-! ### What a scan tells -/
def contF (f : FT) : List UInt8 := (f.2.1 ++ f.2.2.1).data.toList
theorem fileRead_ev {f : FT} (h : bdF f) : Ev (fun k => file_Read k (f.1, f.2.1, f.2.2.1, ())) (f.2.1 ++ f.2.2.1, ()) := Ev.all fun k => read_ok k f.1 f.2.1 f.2.2.1 (by have := h.1; omega) (by have := h.2; omega)
/-- The bytes of files that hold whole records. -/
def filesB : Int → List (List (List UInt8)) → List (List UInt8)
  | _, [] => []
  | n, p :: ps => recsB n p :: filesB (n + p.length) ps
def partsOk : Int → List (List (List UInt8)) → Prop
  | _, [] => True
  | n, p :: ps => recsOk n p ∧ partsOk (n + p.length) ps
theorem filesB_len : ∀ (n : Int) (ps : List (List (List UInt8))), (filesB n ps).length = ps.length
  | _, [] => rfl
  | n, p :: ps => by rw [filesB, List.length_cons, filesB_len, List.length_cons]
theorem flat_cons (p : List (List UInt8)) (ps : List (List (List UInt8))) : (p :: ps).flatten = p ++ ps.flatten := rfl
theorem filesB_app (n : Int) (a b : List (List (List UInt8))) : filesB n (a ++ b) = filesB n a ++ filesB (n + a.flatten.length) b := by
  induction a generalizing n with
  | nil => simp [filesB]
  | cons p a ih =>
    rw [List.cons_append, filesB, filesB, ih, flat_cons, List.length_append, List.cons_append]
    rw [show n + (p.length : Int) + (a.flatten.length : Int) = n + ((p.length + a.flatten.length : Nat) : Int) by omega]
theorem partsOk_app (n : Int) (a b : List (List (List UInt8))) : partsOk n (a ++ b) ↔ partsOk n a ∧ partsOk (n + a.flatten.length) b := by
  induction a generalizing n with
  | nil => simp [partsOk]
  | cons p a ih =>
    rw [List.cons_append, partsOk, partsOk, ih, flat_cons, List.length_append, and_assoc]
    rw [show n + (p.length : Int) + (a.flatten.length : Int) = n + ((p.length + a.flatten.length : Nat) : Int) by omega]
/-- Files hold whole records, or there is one that does not. -/
theorem parts_or : ∀ (n : Int) (cs : List (List UInt8)), (∀ c ∈ cs, c.length ≤ 8000) → (∃ ps, partsOk n ps ∧ cs = filesB n ps) ∨
    ∃ ps c cs' ts rest, partsOk n ps ∧ cs = filesB n ps ++ c :: cs' ∧ ScanIs c (n + ps.flatten.length) ts rest ∧ rest ≠ []
  | n, [], _ => .inl ⟨[], trivial, rfl⟩
  | n, c :: cs, h => by
    obtain ⟨ts, rest, hs⟩ := scan_all c.length c n (Nat.le_refl _) (by have := h c (by simp); omega)
    by_cases hr : rest = []
    · subst hr
      have hc : c = recsB n ts := by rw [hs.2.1, List.append_nil]
      rcases parts_or (n + ts.length) cs (fun c hc => h c (by simp [hc])) with ⟨ps, h1, h2⟩ | ⟨ps, c', cs', ts', rest', h1, h2, h3, h4⟩
      · exact .inl ⟨ts :: ps, ⟨hs.1, h1⟩, by rw [filesB, ← h2, ← hc]⟩
      · refine .inr ⟨ts :: ps, c', cs', ts', rest', ⟨hs.1, h1⟩, by rw [filesB, List.cons_append, ← h2, ← hc], ?_, h4⟩
        rw [flat_cons, List.length_append, show n + ((ts.length + ps.flatten.length : Nat) : Int) = n + ts.length + ps.flatten.length by omega]
        exact h3
    · exact .inr ⟨[], c, cs, ts, rest, trivial, rfl, by simpa using hs, hr⟩
section
variable (z n : Int) (fs : List FT) (hl : fs.length ≤ 1000) (hb : ∀ f ∈ fs, bdF f) (h0 : 0 ≤ n) (h1 : n ≤ 900000000)
include hl hb h0 h1
theorem scan_at {p : List FT} {f : FT} {q : List FT} (hp : fs = p ++ f :: q) {acc : List ByteArray} (ha : acc.length ≤ 10000000) {ts : List (List UInt8)} {rest : List UInt8} (hs : ScanIs (contF f) (n + acc.length) ts rest) (x y : Int) :
    (rest = [] → ∀ {R}, Ev (fun k => segment_scan_l1 (SG z n fs) k ((((p ++ [f]).length : Nat) : Int), (acc ++ ts.map mkB, (p.length : Int), (((recsB (n + acc.length) ts).length : Nat) : Int), true, ()), ())) R → Ev (fun k => segment_scan_l1 (SG z n fs) k ((p.length : Int), (acc, x, y, true, ()), ())) R) ∧
    (rest ≠ [] → Ev (fun k => segment_scan_l1 (SG z n fs) k ((p.length : Int), (acc, x, y, true, ()), ())) (.exit 0, (p.length : Int), (acc ++ ts.map mkB, (p.length : Int), (((recsB (n + acc.length) ts).length : Nat) : Int), false, ()), ())) := by
  have hlen : fs.length = p.length + (q.length + 1) := by rw [hp]; simp
  have c0 : (p.length : Int) < (fs.length : Int) := by omega
  have c1 : (0 : Int) ≤ (p.length : Int) := by omega
  have hg : fs.getD (Int.toNat (p.length : Int)) Zf = f := by rw [hp, getD_m]
  have hbf := hb f (by rw [hp]; simp)
  have hr : Ev (fun k => file_Read k ((fs.getD (Int.toNat (p.length : Int)) Zf).1, (fs.getD (Int.toNat (p.length : Int)) Zf).2.1, (fs.getD (Int.toNat (p.length : Int)) Zf).2.2.1, ())) (f.2.1 ++ f.2.2.1, ()) := by
    rw [hg]; exact fileRead_ev hbf
  have hw : IntKind.i64.wrap (n + (acc.length : Int)) = n + acc.length := wrap_id (by omega) (by omega)
  have b1 := hbf.1
  have b2 := hbf.2
  have sc : Ev (fun k => record_Scan k (f.2.1 ++ f.2.2.1) (IntKind.i64.wrap (n + (acc.length : Int)))) (ts.map mkB, (((recsB (n + acc.length) ts).length : Nat) : Int), ()) := by
    rw [hw]; exact (scan_of (by omega) (by omega) hs).1
  have gl := scan_len hs
  have gsz : (contF f).length = (f.2.1 ++ f.2.2.1).size := size_toList _
  have hsz : (f.2.1 ++ f.2.2.1).size = f.2.1.size + f.2.2.1.size := ByteArray.size_append
  have hw2 := wrap_succ (i := p.length) (by omega)
  have hm : (ts.map mkB).length = ts.length := List.length_map ..
  have hroom : (acc.length + (ts.map mkB).length) * 16 ≤ 140737488355328 := by omega
  have e0 : (((p ++ [f]).length : Nat) : Int) = IntKind.i64.wrap ((p.length : Int) + 1) := by rw [hw2]; simp
  constructor
  · intro hr0 R h
    rw [e0] at h
    have c2 : ¬ (((recsB (n + acc.length) ts).length : Nat) : Int) < ((f.2.1 ++ f.2.2.1).size : Int) := by rw [hr0] at gl; simp at gl; omega
    cases ts with
    | nil =>
      have h' : Ev (fun k => segment_scan_l1 (SG z n fs) k (IntKind.i64.wrap ((p.length : Int) + 1), (acc, (p.length : Int), (((recsB (n + acc.length) []).length : Nat) : Int), true, ()), ())) R := by simpa using h
      exact Ev.step (Ev.dt c0 (Ev.dt c1 (Ev.dt c0 (Ev.bind hr (Ev.bind sc (Ev.t rfl (Ev.df c2 h')))))))
    | cons u ts => exact Ev.step (Ev.dt c0 (Ev.dt c1 (Ev.dt c0 (Ev.bind hr (Ev.bind sc (Ev.f rfl (Ev.dt hroom (Ev.df c2 h))))))))
  · intro hr0
    have c2 : (((recsB (n + acc.length) ts).length : Nat) : Int) < ((f.2.1 ++ f.2.2.1).size : Int) := by
      have : 0 < rest.length := List.length_pos_iff.2 hr0
      omega
    cases ts with
    | nil =>
      have h' : Ev (fun k => segment_scan_l1 (SG z n fs) k ((p.length : Int), (acc, x, y, true, ()), ())) (.exit 0, (p.length : Int), (acc, (p.length : Int), (((recsB (n + acc.length) []).length : Nat) : Int), false, ()), ()) :=
        Ev.step (Ev.dt c0 (Ev.dt c1 (Ev.dt c0 (Ev.bind hr (Ev.bind sc (Ev.t rfl (Ev.dt c2 (Ev.now _))))))))
      simpa using h'
    | cons u ts => exact Ev.step (Ev.dt c0 (Ev.dt c1 (Ev.dt c0 (Ev.bind hr (Ev.bind sc (Ev.f rfl (Ev.dt hroom (Ev.dt c2 (Ev.now _)))))))))
end
end Go.Proofs.Ytoeikeabbdnkbaa.A
