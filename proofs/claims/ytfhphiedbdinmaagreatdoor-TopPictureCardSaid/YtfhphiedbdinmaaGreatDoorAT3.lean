import Derived.Test.YtfhphiedbdinmaaGreatDoorAT2
set_option linter.all false
namespace Go.Proofs.YtfhphiedbdinmaaGreatDoor.A
open Go Ab
section
theorem Ev.share {α β : Type} {x : α} {f : Nat -> α -> Option β} {y : β} (h : Ev (fun k => f k x) y) : Ev (fun k => Ab.share x (f k)) y := h
abbrev SegT := Int × (Int × (List FT × Unit))
abbrev SG (z n : Int) (fs : List FT) : SegT := (z, n, fs, ())
abbrev Zf : FT := ((Ty.int IntKind.i64).cons (Ty.str.cons (Ty.str.cons Ty.nil))).zero
theorem getD_f (fs : List FT) (i : Nat) (h : i < fs.length) (z : FT) : fs.getD (Int.toNat (i : Int)) z = fs[i] := by
 rw [Int.toNat_natCast, List.getD_eq_getElem?_getD, List.getElem?_eq_getElem h]; rfl
theorem getD_m (p : List FT) (f : FT) (q : List FT) (z : FT) : (p ++ f :: q).getD (Int.toNat (p.length : Int)) z = f := by
 rw [getD_f _ _ (by simp)]; simp
def files (z : Int) (pre : List ByteArray) (s t : ByteArray) : List FT := pre.map (fun x => F z x EB) ++ [F z s t]
theorem files_len (z : Int) (pre : List ByteArray) (s t : ByteArray) : (files z pre s t).length = pre.length + 1 := by simp [files]
theorem files_cons (z : Int) (x : ByteArray) (pre : List ByteArray) (s t : ByteArray) : files z (x :: pre) s t = F z x EB :: files z pre s t := rfl
abbrev SL (z n : Int) (pre : List ByteArray) (s t : ByteArray) : SegT := SG z n (files z pre s t)
structure okL (z n : Int) (pre : List ByteArray) (s t : ByteArray) : Prop where
 z0 : 20 <= z
 z1 : z <= 4000
 n0 : 0 <= n
 n1 : n <= 900000000
 l : pre.length + 1 <= 20
 p : ∀ x ∈ pre, (x.size : Int) <= z
 e : ((s.size + t.size : Nat) : Int) <= z
def bdF (f : FT) : Prop := f.2.1.size <= 4000 /\ f.2.2.1.size <= 4000
theorem fileIs_ev {f : FT} (h : bdF f) : Ev (fun k => file_Is k (f.1, f.2.1, f.2.2.1, ())) (okF f.1 f.2.1 f.2.2.1, ()) := Ev.all fun k => Is_ok k f.1 f.2.1 f.2.2.1 (by have := h.1; omega) (by have := h.2; omega)
theorem isE {b : ByteArray} (h : (b.toList == EB.toList) = true) : b = EB := by
 have := eq_of_beq h
 rw [toList_data, toList_data] at this
 exact bytes_inj this
section
variable (z n : Int) (fs : List FT) (hl : fs.length <= 1000) (hb : ∀ f ∈ fs, bdF f)
include hl hb
theorem Is_l : ∀ (q p : List FT), fs = p ++ q -> q ≠ [] ->
 ((∃ pre s t, q = files z pre s t /\ (∀ x ∈ pre, okF z x EB = true) /\ okF z s t = true) /\ Ev (fun k => segment_Is_l1 (SG z n fs) k (false, (p.length : Int), ())) (.exit 0, false, (fs.length : Int), ())) \/
 (∃ i', Ev (fun k => segment_Is_l1 (SG z n fs) k (false, (p.length : Int), ())) (.ret, false, i', ())) := by
 intro q
 induction q with
 | nil => intro p _ h; exact absurd rfl h
 | cons f q ih =>
   intro p hp _
   have hlen : fs.length = p.length + (q.length + 1) := by rw [hp]; simp
   have c0 : (p.length : Int) < (fs.length : Int) := by omega
   have c1 : (0 : Int) <= (p.length : Int) := by omega
   have hg : fs.getD (Int.toNat (p.length : Int)) Zf = f := by rw [hp, getD_m]
   have hi : Ev (fun k => file_Is k ((fs.getD (Int.toNat (p.length : Int)) Zf).1, (fs.getD (Int.toNat (p.length : Int)) Zf).2.1, (fs.getD (Int.toNat (p.length : Int)) Zf).2.2.1, ())) (okF f.1 f.2.1 f.2.2.1, ()) := by
    rw [hg]; exact fileIs_ev (hb f (by rw [hp]; simp))
   have hw : IntKind.i64.wrap ((fs.length : Int) - 1) = fs.length - 1 := wrap_id (by omega) (by omega)
   have hw2 := wrap_succ (i := p.length) (by omega)
   cases g : okF f.1 f.2.1 f.2.2.1 with
   | false =>
     rw [g] at hi
     exact .inr ⟨_, Ev.step (Ev.dt c0 (Ev.dt c1 (Ev.dt c0 (Ev.bind hi (Ev.t rfl (Ev.now _))))))⟩
   | true =>
     rw [g] at hi
     by_cases hz : f.1 = z
     . have e1 : ((fs.getD (Int.toNat (p.length : Int)) Zf).1 != z) = false := by rw [hg]; exact nbeq_i hz
       obtain ⟨m, s, t, ⟨⟩⟩ := f
       have hz : m = z := hz
       subst hz
       have g : okF m s t = true := g
       cases q with
       | nil =>
         left
         refine ⟨⟨[], s, t, rfl, by simp, g⟩, ?_⟩
         have c2 : ¬ (p.length : Int) < IntKind.i64.wrap ((fs.length : Int) - 1) := by rw [hw]; simp at hlen; omega
         have hend : Ev (fun k => segment_Is_l1 (SG m n fs) k (false, IntKind.i64.wrap ((p.length : Int) + 1), ())) (.exit 0, false, (fs.length : Int), ()) := by
          rw [hw2, show p.length + 1 = fs.length by simp at hlen; omega]
          exact Ev.step (Ev.df (by show ¬ (fs.length : Int) < fs.length; omega) (Ev.now _))
         exact Ev.step (Ev.dt c0 (Ev.dt c1 (Ev.dt c0 (Ev.bind hi (Ev.f rfl (Ev.f e1 (Ev.df c2 hend)))))))
       | cons f2 q =>
         have c2 : (p.length : Int) < IntKind.i64.wrap ((fs.length : Int) - 1) := by rw [hw]; simp at hlen; omega
         cases g2 : (t.toList == EB.toList) with
         | false =>
           right
           have e2 : (!(fs.getD (Int.toNat (p.length : Int)) Zf).2.2.1.toList == EB.toList) = true := by rw [hg]; show (!(t.toList == EB.toList)) = true; rw [g2]; rfl
           exact ⟨_, Ev.step (Ev.dt c0 (Ev.dt c1 (Ev.dt c0 (Ev.bind hi (Ev.f rfl (Ev.f e1 (Ev.dt c2 (Ev.t e2 (Ev.now _)))))))))⟩
         | true =>
           have e2 : (!(fs.getD (Int.toNat (p.length : Int)) Zf).2.2.1.toList == EB.toList) = false := by rw [hg]; show (!(t.toList == EB.toList)) = false; rw [g2]; rfl
           obtain rfl := isE g2
           have on : ∀ {R}, Ev (fun k => segment_Is_l1 (SG m n fs) k (false, (((p ++ [F m s EB]).length : Nat) : Int), ())) R -> Ev (fun k => segment_Is_l1 (SG m n fs) k (false, (p.length : Int), ())) R := by
            intro R h
            rw [show (((p ++ [F m s EB]).length : Nat) : Int) = IntKind.i64.wrap ((p.length : Int) + 1) by rw [hw2]; simp] at h
            exact Ev.step (Ev.dt c0 (Ev.dt c1 (Ev.dt c0 (Ev.bind hi (Ev.f rfl (Ev.f e1 (Ev.dt c2 (Ev.f e2 h))))))))
           rcases ih (p ++ [F m s EB]) (by rw [hp]; simp) (by simp) with ⟨⟨pre, s2, t2, h1, h2, h3⟩, h4⟩ | ⟨i', h4⟩
           . refine .inl ⟨⟨s :: pre, s2, t2, by rw [files_cons, <- h1], fun x hx => ?_, h3⟩, on h4⟩
             rcases List.mem_cons.1 hx with rfl | hx
             . exact g
             . exact h2 x hx
           . exact .inr ⟨i', on h4⟩
     . have e1 : ((fs.getD (Int.toNat (p.length : Int)) Zf).1 != z) = true := by rw [hg]; exact nbne_i hz
       exact .inr ⟨_, Ev.step (Ev.dt c0 (Ev.dt c1 (Ev.dt c0 (Ev.bind hi (Ev.f rfl (Ev.t e1 (Ev.now _)))))))⟩
theorem Is_cases : (∃ pre s t, fs = files z pre s t /\ okL z n pre s t /\ Ev (fun k => segment_Is k (SG z n fs)) (true, ())) \/ Ev (fun k => segment_Is k (SG z n fs)) (false, ()) := by
 by_cases a1 : z < 20
 . exact .inr (Ev.dt a1 (Ev.now _))
 by_cases a2 : z > 4000
 . exact .inr (Ev.df a1 (Ev.dt a2 (Ev.now _)))
 by_cases a3 : n < 0
 . exact .inr (Ev.df a1 (Ev.df a2 (Ev.dt a3 (Ev.now _))))
 by_cases a4 : n > 900000000
 . exact .inr (Ev.df a1 (Ev.df a2 (Ev.df a3 (Ev.dt a4 (Ev.now _)))))
 by_cases a5 : (fs.length : Int) < 1
 . exact .inr (Ev.df a1 (Ev.df a2 (Ev.df a3 (Ev.df a4 (Ev.dt a5 (Ev.now _))))))
 by_cases a6 : (fs.length : Int) > 20
 . exact .inr (Ev.df a1 (Ev.df a2 (Ev.df a3 (Ev.df a4 (Ev.df a5 (Ev.dt a6 (Ev.now _)))))))
 rcases Is_l z n fs hl hb fs [] rfl (by intro e; rw [e] at a5; simp at a5) with ⟨⟨pre, s, t, h1, h2, h3⟩, h4⟩ | ⟨i', h4⟩
 . left
   have hlen := files_len z pre s t
   rw [<- h1] at hlen
   refine ⟨pre, s, t, h1, ⟨by omega, by omega, by omega, by omega, by omega, fun x hx => ?_, (okF_bd h3).2.2⟩, Ev.df a1 (Ev.df a2 (Ev.df a3 (Ev.df a4 (Ev.df a5 (Ev.df a6 (Ev.bind h4 (Ev.t rfl (Ev.now _))))))))⟩
   have := (okF_bd (h2 x hx)).2.2
   rw [EB_size] at this; omega
 . exact .inr (Ev.df a1 (Ev.df a2 (Ev.df a3 (Ev.df a4 (Ev.df a5 (Ev.df a6 (Ev.bind h4 (Ev.now _))))))))
end
theorem files_inj {z : Int} : ∀ {pre pre' : List ByteArray} {s t s' t' : ByteArray}, files z pre s t = files z pre' s' t' -> pre = pre' /\ s = s' /\ t = t'
 | [], [], _, _, _, _, h => by simp [files] at h; exact ⟨rfl, h⟩
 | [], x :: pre', _, _, _, _, h => by have := congrArg List.length h; simp [files] at this
 | x :: pre, [], _, _, _, _, h => by have := congrArg List.length h; simp [files] at this
 | x :: pre, y :: pre', _, _, _, _, h => by
   rw [files_cons, files_cons] at h
   injection h with h1 h2
   obtain ⟨rfl, h3, h4⟩ := files_inj h2
   have : x = y := congrArg (fun f : FT => f.2.1) h1
   exact ⟨by rw [this], h3, h4⟩
theorem okL.bd {z n : Int} {pre : List ByteArray} {s t : ByteArray} (h : okL z n pre s t) : ∀ f ∈ files z pre s t, bdF f := by
 intro f hf
 have := h.z1
 rcases List.mem_append.1 hf with hf | hf
 . obtain ⟨x, hx, rfl⟩ := List.mem_map.1 hf
   have := h.p x hx
   refine ⟨?_, ?_⟩
   . show x.size <= 4000; omega
   . show EB.size <= 4000; rw [EB_size]; omega
 . simp at hf; subst hf
   have := h.e
   refine ⟨?_, ?_⟩
   . show s.size <= 4000; omega
   . show t.size <= 4000; omega
theorem okL.okF {z n : Int} {pre : List ByteArray} {s t : ByteArray} (h : okL z n pre s t) : okF z s t = true := decide_eq_true ⟨by have := h.z0; omega, h.z1, h.e⟩
theorem okF_no {z : Int} {s t : ByteArray} (h : ¬ ((s.size + t.size : Nat) : Int) <= z) : okF z s t = false := decide_eq_false (by omega)
theorem Is_true {z n : Int} {pre : List ByteArray} {s t : ByteArray} (h : okL z n pre s t) : Ev (fun k => segment_Is k (SL z n pre s t)) (true, ()) := by
 have hlen := files_len z pre s t
 have hl := h.l
 have h0 := h.z0
 have h1 := h.z1
 have h2 := h.n0
 have h3 := h.n1
 have key : ∀ (pre' p : List ByteArray), pre = p ++ pre' -> Ev (fun k => segment_Is_l1 (SL z n pre s t) k (false, (p.length : Int), ())) (.exit 0, false, ((files z pre s t).length : Int), ()) := by
  intro pre'
  induction pre' with
  | nil =>
    intro p hp
    rw [List.append_nil] at hp
    subst hp
    have c0 : (pre.length : Int) < ((files z pre s t).length : Int) := by omega
    have c1 : (0 : Int) <= (pre.length : Int) := by omega
    have hg : (files z pre s t).getD (Int.toNat (pre.length : Int)) Zf = F z s t := by
     have := getD_m (pre.map (fun x => F z x EB)) (F z s t) [] Zf
     rw [List.length_map] at this; exact this
    have hi : Ev (fun k => file_Is k (((files z pre s t).getD (Int.toNat (pre.length : Int)) Zf).1, ((files z pre s t).getD (Int.toNat (pre.length : Int)) Zf).2.1, ((files z pre s t).getD (Int.toNat (pre.length : Int)) Zf).2.2.1, ())) (true, ()) := by
     rw [hg]
     have := fileIs_ev (f := F z s t) (h.bd _ (by simp [files]))
     rw [show okF (F z s t).1 (F z s t).2.1 (F z s t).2.2.1 = true from h.okF] at this
     exact this
    have e1 : (((files z pre s t).getD (Int.toNat (pre.length : Int)) Zf).1 != z) = false := by rw [hg]; exact nbeq_i rfl
    have hw : IntKind.i64.wrap (((files z pre s t).length : Int) - 1) = (files z pre s t).length - 1 := wrap_id (by omega) (by omega)
    have c2 : ¬ (pre.length : Int) < IntKind.i64.wrap (((files z pre s t).length : Int) - 1) := by rw [hw]; omega
    have hw2 := wrap_succ (i := pre.length) (by omega)
    have hend : Ev (fun k => segment_Is_l1 (SL z n pre s t) k (false, IntKind.i64.wrap ((pre.length : Int) + 1), ())) (.exit 0, false, ((files z pre s t).length : Int), ()) := by
     rw [hw2, show pre.length + 1 = (files z pre s t).length by omega]
     exact Ev.step (Ev.df (by show ¬ ((files z pre s t).length : Int) < (files z pre s t).length; omega) (Ev.now _))
    exact Ev.step (Ev.dt c0 (Ev.dt c1 (Ev.dt c0 (Ev.bind hi (Ev.f rfl (Ev.f e1 (Ev.df c2 hend)))))))
  | cons x pre' ih =>
    intro p hp
    have hpl : pre.length = p.length + (pre'.length + 1) := by rw [hp]; simp
    have c0 : (p.length : Int) < ((files z pre s t).length : Int) := by omega
    have c1 : (0 : Int) <= (p.length : Int) := by omega
    have hg : (files z pre s t).getD (Int.toNat (p.length : Int)) Zf = F z x EB := by
     have := getD_m (p.map (fun x => F z x EB)) (F z x EB) (files z pre' s t) Zf
     rw [List.length_map] at this
     rw [<- this, hp]
     simp [files]
    have hi : Ev (fun k => file_Is k (((files z pre s t).getD (Int.toNat (p.length : Int)) Zf).1, ((files z pre s t).getD (Int.toNat (p.length : Int)) Zf).2.1, ((files z pre s t).getD (Int.toNat (p.length : Int)) Zf).2.2.1, ())) (true, ()) := by
     rw [hg]
     have := fileIs_ev (f := F z x EB) (h.bd _ (by simp [files, hp]))
     have hx := h.p x (by rw [hp]; simp)
     rw [show okF (F z x EB).1 (F z x EB).2.1 (F z x EB).2.2.1 = true from decide_eq_true ⟨by show 1 <= z; omega, h1, by show ((x.size + EB.size : Nat) : Int) <= z; rw [EB_size]; exact hx⟩] at this
     exact this
    have e1 : (((files z pre s t).getD (Int.toNat (p.length : Int)) Zf).1 != z) = false := by rw [hg]; exact nbeq_i rfl
    have hw : IntKind.i64.wrap (((files z pre s t).length : Int) - 1) = (files z pre s t).length - 1 := wrap_id (by omega) (by omega)
    have c2 : (p.length : Int) < IntKind.i64.wrap (((files z pre s t).length : Int) - 1) := by rw [hw]; omega
    have e2 : (!((files z pre s t).getD (Int.toNat (p.length : Int)) Zf).2.2.1.toList == EB.toList) = false := by rw [hg]; show (!(EB.toList == EB.toList)) = false; simp
    have hw2 := wrap_succ (i := p.length) (by omega)
    have h := ih (p ++ [x]) (by rw [hp]; simp)
    rw [show (((p ++ [x]).length : Nat) : Int) = IntKind.i64.wrap ((p.length : Int) + 1) by rw [hw2]; simp] at h
    exact Ev.step (Ev.dt c0 (Ev.dt c1 (Ev.dt c0 (Ev.bind hi (Ev.f rfl (Ev.f e1 (Ev.dt c2 (Ev.f e2 h))))))))
 have a1 : ¬ z < 20 := by omega
 have a2 : ¬ z > 4000 := by omega
 have a3 : ¬ n < 0 := by omega
 have a4 : ¬ n > 900000000 := by omega
 have a5 : ¬ ((files z pre s t).length : Int) < 1 := by omega
 have a6 : ¬ ((files z pre s t).length : Int) > 20 := by omega
 exact Ev.df a1 (Ev.df a2 (Ev.df a3 (Ev.df a4 (Ev.df a5 (Ev.df a6 (Ev.bind (key pre [] rfl) (Ev.t rfl (Ev.now _))))))))
def contF (f : FT) : List UInt8 := (f.2.1 ++ f.2.2.1).data.toList
theorem fileRead_ev {f : FT} (h : bdF f) : Ev (fun k => file_Read k (f.1, f.2.1, f.2.2.1, ())) (f.2.1 ++ f.2.2.1, ()) := Ev.all fun k => read_ok k f.1 f.2.1 f.2.2.1 (by have := h.1; omega) (by have := h.2; omega)
def filesB : Int -> List (List (List UInt8)) -> List (List UInt8)
 | _, [] => []
 | n, p :: ps => recsB n p :: filesB (n + p.length) ps
def partsOk : Int -> List (List (List UInt8)) -> Prop
 | _, [] => True
 | n, p :: ps => recsOk n p /\ partsOk (n + p.length) ps
theorem flat_cons (p : List (List UInt8)) (ps : List (List (List UInt8))) : (p :: ps).flatten = p ++ ps.flatten := rfl
theorem filesB_app (n : Int) (a b : List (List (List UInt8))) : filesB n (a ++ b) = filesB n a ++ filesB (n + a.flatten.length) b := by
 induction a generalizing n with
 | nil => simp [filesB]
 | cons p a ih =>
   rw [List.cons_append, filesB, filesB, ih, flat_cons, List.length_append, List.cons_append]
   rw [show n + (p.length : Int) + (a.flatten.length : Int) = n + ((p.length + a.flatten.length : Nat) : Int) by omega]
theorem partsOk_app (n : Int) (a b : List (List (List UInt8))) : partsOk n (a ++ b) ↔ partsOk n a /\ partsOk (n + a.flatten.length) b := by
 induction a generalizing n with
 | nil => simp [partsOk]
 | cons p a ih =>
   rw [List.cons_append, partsOk, partsOk, ih, flat_cons, List.length_append, and_assoc]
   rw [show n + (p.length : Int) + (a.flatten.length : Int) = n + ((p.length + a.flatten.length : Nat) : Int) by omega]
theorem parts_or : ∀ (n : Int) (cs : List (List UInt8)), (∀ c ∈ cs, c.length <= 8000) -> (∃ ps, partsOk n ps /\ cs = filesB n ps) \/
 ∃ ps c cs' ts rest, partsOk n ps /\ cs = filesB n ps ++ c :: cs' /\ ScanIs c (n + ps.flatten.length) ts rest /\ rest ≠ []
 | n, [], _ => .inl ⟨[], trivial, rfl⟩
 | n, c :: cs, h => by
   obtain ⟨ts, rest, hs⟩ := scan_all c.length c n (Nat.le_refl _) (by have := h c (by simp); omega)
   by_cases hr : rest = []
   . subst hr
     have hc : c = recsB n ts := by rw [hs.2.1, List.append_nil]
     rcases parts_or (n + ts.length) cs (fun c hc => h c (by simp [hc])) with ⟨ps, h1, h2⟩ | ⟨ps, c', cs', ts', rest', h1, h2, h3, h4⟩
     . exact .inl ⟨ts :: ps, ⟨hs.1, h1⟩, by rw [filesB, <- h2, <- hc]⟩
     . refine .inr ⟨ts :: ps, c', cs', ts', rest', ⟨hs.1, h1⟩, by rw [filesB, List.cons_append, <- h2, <- hc], ?_, h4⟩
       rw [flat_cons, List.length_append, show n + ((ts.length + ps.flatten.length : Nat) : Int) = n + ts.length + ps.flatten.length by omega]
       exact h3
   . exact .inr ⟨[], c, cs, ts, rest, trivial, rfl, by simpa using hs, hr⟩
section
variable (z n : Int) (fs : List FT) (hl : fs.length <= 1000) (hb : ∀ f ∈ fs, bdF f) (h0 : 0 <= n) (h1 : n <= 900000000)
include hl hb h0 h1
theorem scan_at {p : List FT} {f : FT} {q : List FT} (hp : fs = p ++ f :: q) {acc : List ByteArray} (ha : acc.length <= 10000000) {ts : List (List UInt8)} {rest : List UInt8} (hs : ScanIs (contF f) (n + acc.length) ts rest) (x y : Int) :
 (rest = [] -> ∀ {R}, Ev (fun k => segment_scan_l1 (SG z n fs) k ((((p ++ [f]).length : Nat) : Int), (acc ++ ts.map mkB, (p.length : Int), (((recsB (n + acc.length) ts).length : Nat) : Int), true, ()), ())) R -> Ev (fun k => segment_scan_l1 (SG z n fs) k ((p.length : Int), (acc, x, y, true, ()), ())) R) /\
 (rest ≠ [] -> Ev (fun k => segment_scan_l1 (SG z n fs) k ((p.length : Int), (acc, x, y, true, ()), ())) (.exit 0, (p.length : Int), (acc ++ ts.map mkB, (p.length : Int), (((recsB (n + acc.length) ts).length : Nat) : Int), false, ()), ())) := by
 have hlen : fs.length = p.length + (q.length + 1) := by rw [hp]; simp
 have c0 : (p.length : Int) < (fs.length : Int) := by omega
 have c1 : (0 : Int) <= (p.length : Int) := by omega
 have hg : fs.getD (Int.toNat (p.length : Int)) Zf = f := by rw [hp, getD_m]
 have hbf := hb f (by rw [hp]; simp)
 have hr : Ev (fun k => file_Read k ((fs.getD (Int.toNat (p.length : Int)) Zf).1, (fs.getD (Int.toNat (p.length : Int)) Zf).2.1, (fs.getD (Int.toNat (p.length : Int)) Zf).2.2.1, ())) (f.2.1 ++ f.2.2.1, ()) := by
  rw [hg]; exact fileRead_ev hbf
 have hw : IntKind.i64.wrap (n + (acc.length : Int)) = n + acc.length := wrap_id (by omega) (by omega)
 have b1 := hbf.1
 have b2 := hbf.2
 have sc : Ev (fun k => record_Scan k (f.2.1 ++ f.2.2.1) (IntKind.i64.wrap (n + (acc.length : Int)))) (ts.map mkB, (((recsB (n + acc.length) ts).length : Nat) : Int), ()) := by
  rw [hw]; exact scan1_of (by omega) (by omega) hs
 have gl := scan_len hs
 have gsz : (contF f).length = (f.2.1 ++ f.2.2.1).size := size_toList _
 have hsz : (f.2.1 ++ f.2.2.1).size = f.2.1.size + f.2.2.1.size := ByteArray.size_append
 have hw2 := wrap_succ (i := p.length) (by omega)
 have hm : (ts.map mkB).length = ts.length := List.length_map ..
 have hroom : (acc.length + (ts.map mkB).length) * 16 <= 140737488355328 := by omega
 have e0 : (((p ++ [f]).length : Nat) : Int) = IntKind.i64.wrap ((p.length : Int) + 1) := by rw [hw2]; simp
 constructor
 . intro hr0 R h
   rw [e0] at h
   have c2 : ¬ (((recsB (n + acc.length) ts).length : Nat) : Int) < ((f.2.1 ++ f.2.2.1).size : Int) := by rw [hr0] at gl; simp at gl; omega
   cases ts with
   | nil =>
     have h' : Ev (fun k => segment_scan_l1 (SG z n fs) k (IntKind.i64.wrap ((p.length : Int) + 1), (acc, (p.length : Int), (((recsB (n + acc.length) []).length : Nat) : Int), true, ()), ())) R := by simpa using h
     exact Ev.step (Ev.dt c0 (Ev.dt c1 (Ev.dt c0 (Ev.bind hr (Ev.bind sc (Ev.t rfl (Ev.df c2 h')))))))
   | cons u ts => exact Ev.step (Ev.dt c0 (Ev.dt c1 (Ev.dt c0 (Ev.bind hr (Ev.bind sc (Ev.f rfl (Ev.dt hroom (Ev.df c2 h))))))))
 . intro hr0
   have c2 : (((recsB (n + acc.length) ts).length : Nat) : Int) < ((f.2.1 ++ f.2.2.1).size : Int) := by
    have : 0 < rest.length := List.length_pos_iff.2 hr0
    omega
   cases ts with
   | nil =>
     have h' : Ev (fun k => segment_scan_l1 (SG z n fs) k ((p.length : Int), (acc, x, y, true, ()), ())) (.exit 0, (p.length : Int), (acc, (p.length : Int), (((recsB (n + acc.length) []).length : Nat) : Int), false, ()), ()) :=
      Ev.step (Ev.dt c0 (Ev.dt c1 (Ev.dt c0 (Ev.bind hr (Ev.bind sc (Ev.t rfl (Ev.dt c2 (Ev.now _))))))))
     simpa using h'
   | cons u ts => exact Ev.step (Ev.dt c0 (Ev.dt c1 (Ev.dt c0 (Ev.bind hr (Ev.bind sc (Ev.f rfl (Ev.dt hroom (Ev.dt c2 (Ev.now _)))))))))
end
theorem contF_len (fs : List FT) (hb : ∀ f ∈ fs, bdF f) {f : FT} (hf : f ∈ fs) : (contF f).length <= 8000 := by
 have := hb f hf
 have e : (contF f).length = (f.2.1 ++ f.2.2.1).size := size_toList _
 rw [e, ByteArray.size_append]
 have h1 := this.1
 have h2 := this.2
 omega
section
variable (z n : Int) (fs : List FT) (hl : fs.length <= 1000) (hb : ∀ f ∈ fs, bdF f) (h0 : 0 <= n) (h1 : n <= 900000000)
include hl hb h0 h1
theorem scan_runs_l : ∀ (ps : List (List (List UInt8))) (p q1 q2 : List FT) (acc : List ByteArray) (x y : Int), fs = p ++ (q1 ++ q2) -> acc.length <= 8000 * p.length -> q1.map contF = filesB (n + acc.length) ps -> partsOk (n + acc.length) ps ->
 ∃ x' y', (∀ {R}, Ev (fun k => segment_scan_l1 (SG z n fs) k ((((p ++ q1).length : Nat) : Int), (acc ++ ps.flatten.map mkB, x', y', true, ()), ())) R -> Ev (fun k => segment_scan_l1 (SG z n fs) k ((p.length : Int), (acc, x, y, true, ()), ())) R) /\ (acc ++ ps.flatten.map mkB).length <= 8000 * (p ++ q1).length := by
 intro ps
 induction ps with
 | nil =>
   intro p q1 q2 acc x y hp ha hq _
   have : q1 = [] := by cases q1 with | nil => rfl | cons _ _ => simp [filesB] at hq
   subst this
   exact ⟨x, y, fun h => by simpa using h, by simpa using ha⟩
 | cons ts ps ih =>
   intro p q1 q2 acc x y hp ha hq hok
   cases q1 with
   | nil => simp [filesB] at hq
   | cons f q1 =>
     rw [filesB, List.map_cons] at hq
     injection hq with hq1 hq2
     have hlen : fs.length = p.length + (q1.length + q2.length + 1) := by have := congrArg List.length hp; simp at this; omega
     have hs : ScanIs (contF f) (n + acc.length) ts [] := by rw [hq1]; exact scan_whole hok.1
     have hmem : f ∈ fs := by rw [hp]; simp
     have hcl := contF_len fs hb hmem
     have htl := (scan_len hs).2.2
     have hm : (ts.map mkB).length = ts.length := List.length_map ..
     obtain ⟨g1, _⟩ := scan_at z n fs hl hb h0 h1 (p := p) (f := f) (q := q1 ++ q2) (by rw [hp]; simp) (by omega) hs x y
     have e1 : n + ((acc ++ ts.map mkB).length : Int) = n + acc.length + ts.length := by rw [List.length_append, hm]; omega
     obtain ⟨x', y', k1, k2⟩ := ih (p ++ [f]) q1 q2 (acc ++ ts.map mkB) (p.length : Int) (((recsB (n + acc.length) ts).length : Nat) : Int) (by rw [hp]; simp) (by
      rw [List.length_append, hm, List.length_append]; simp; omega) (by rw [hq2, e1]) (by rw [e1]; exact hok.2)
     have e2 : acc ++ ts.map mkB ++ ps.flatten.map mkB = acc ++ (ts :: ps).flatten.map mkB := by rw [flat_cons, List.map_append, List.append_assoc]
     have e3 : p ++ [f] ++ q1 = p ++ f :: q1 := by simp
     rw [e2, e3] at k2
     rw [e2, e3] at k1
     exact ⟨x', y', fun h => g1 rfl (k1 h), k2⟩
theorem scan_good {ps : List (List (List UInt8))} (hc : fs.map contF = filesB n ps) (hok : partsOk n ps) : ∃ x y, Ev (fun k => segment_scan k (SG z n fs)) ((ps.flatten.map mkB, x, y, true, ()), ()) := by
 have e0 : n + (([] : List ByteArray).length : Int) = n := by simp
 obtain ⟨x, y, k1, _⟩ := scan_runs_l z n fs hl hb h0 h1 ps [] fs [] [] 0 0 (by simp) (by simp) (by rw [e0]; exact hc) (by rw [e0]; exact hok)
 refine ⟨x, y, ?_⟩
 have hend : Ev (fun k => segment_scan_l1 (SG z n fs) k (((([] ++ fs).length : Nat) : Int), ([] ++ ps.flatten.map mkB, x, y, true, ()), ())) (.exit 0, (fs.length : Int), (ps.flatten.map mkB, x, y, true, ()), ()) :=
  Ev.step (Ev.df (by show ¬ (fs.length : Int) < fs.length; omega) (Ev.now _))
 exact Ev.bind (k1 hend) (Ev.t rfl (Ev.now _))
theorem scan_bad {p : List FT} {f : FT} {q : List FT} (hp : fs = p ++ f :: q) {ps : List (List (List UInt8))} (hc : p.map contF = filesB n ps) (hok : partsOk n ps) {ts : List (List UInt8)} {rest : List UInt8} (hs : ScanIs (contF f) (n + ps.flatten.length) ts rest) (hr : rest ≠ []) :
 Ev (fun k => segment_scan k (SG z n fs)) (((ps.flatten ++ ts).map mkB, (p.length : Int), (((recsB (n + ps.flatten.length) ts).length : Nat) : Int), false, ()), ()) := by
 have e0 : n + (([] : List ByteArray).length : Int) = n := by simp
 obtain ⟨x, y, k1, k2⟩ := scan_runs_l z n fs hl hb h0 h1 ps [] p (f :: q) [] 0 0 (by simpa using hp) (by simp) (by rw [e0]; exact hc) (by rw [e0]; exact hok)
 have hlen : fs.length = p.length + (q.length + 1) := by rw [hp]; simp
 have hm : (ps.flatten.map mkB).length = ps.flatten.length := List.length_map ..
 simp only [List.nil_append] at k1 k2
 obtain ⟨_, g2⟩ := scan_at z n fs hl hb h0 h1 hp (acc := ps.flatten.map mkB) (by omega) (ts := ts) (rest := rest) (by rw [hm]; exact hs) x y
 have := Ev.bind (f := fun k => segment_scan_l1 (SG z n fs) k ((([] : List FT).length : Int), ([], 0, 0, true, ()), ())) (g := fun k r6 => match r6.1 with
  | .normal => none
  | .exit i7 => bif i7.beq 0 then some ((r6.2.2.1.1, r6.2.2.1.2.1, r6.2.2.1.2.2.1, r6.2.2.1.2.2.2.1, ()), ()) else none
  | .ret => none) (k1 (g2 hr)) (Ev.t rfl (Ev.now _))
 rw [List.map_append, <- hm]
 exact this
end
theorem Read_scan {z n : Int} {pre : List ByteArray} {s t : ByteArray} (h : okL z n pre s t) {T : List ByteArray} {x y : Int} {w : Bool} (hs : Ev (fun k => segment_scan k (SL z n pre s t)) ((T, x, y, w, ()), ())) : Ev (fun k => segment_Read k (SL z n pre s t)) (T, 0, ()) :=
 Ev.bind (Is_true h) (Ev.f rfl (Ev.bind hs (Ev.now _)))
theorem okL.len {z n : Int} {pre : List ByteArray} {s t : ByteArray} (h : okL z n pre s t) : (files z pre s t).length <= 1000 := by have := files_len z pre s t; have := h.l; omega
theorem copyL (fs : List FT) : List.take (List.replicate ((fs.length : Nat) : Int).toNat ((0, EB, EB, ()) : FT)).length fs ++ List.drop fs.length (List.replicate ((fs.length : Nat) : Int).toNat ((0, EB, EB, ()) : FT)) = fs := by
 rw [List.length_replicate, Int.toNat_natCast, List.take_length, List.drop_of_length_le (by simp), List.append_nil]
theorem files_set (z : Int) (pre : List ByteArray) (s t : ByteArray) (f : FT) : (files z pre s t).set pre.length f = pre.map (fun x => F z x EB) ++ [f] := by
 unfold files
 rw [List.set_append_right _ _ (by simp)]
 simp
theorem files_last (z : Int) (pre : List ByteArray) (s t : ByteArray) (d : FT) : (files z pre s t).getD pre.length d = F z s t := by
 have := getD_m (pre.map (fun x => F z x EB)) (F z s t) [] d
 rw [List.length_map, Int.toNat_natCast] at this; exact this
theorem lastN {z : Int} {pre : List ByteArray} {s t : ByteArray} (h : pre.length <= 1000) : IntKind.i64.wrap (((files z pre s t).length : Int) - 1) = (pre.length : Int) := by
 have := files_len z pre s t
 rw [wrap_id (by omega) (by omega)]; omega
def stepA (z n : Int) (t : List UInt8) (pre : List ByteArray) (s u : ByteArray) : Int × (List ByteArray × ByteArray × ByteArray) :=
 if t.length > 1000 then (2, pre, s, u) else if ((recB n t).length : Int) > z then (2, pre, s, u) else
 if ((s.size + (u.size + (recB n t).length) : Nat) : Int) <= z then (0, pre, s, u ++ mkB (recB n t)) else
 if pre.length + 1 = 20 then (81, pre, s, u) else (0, pre ++ [s ++ u], EB, mkB (recB n t))
abbrev Lg := List ByteArray × ByteArray × ByteArray
def runA (z : Int) : Int -> List (List UInt8) -> Lg -> Int × Lg
 | n, [], σ => (0, σ)
 | n, t :: L, σ => if (stepA z n t σ.1 σ.2.1 σ.2.2).1 = 0 then runA z (n + 1) L (stepA z n t σ.1 σ.2.1 σ.2.2).2 else stepA z n t σ.1 σ.2.1 σ.2.2
theorem stepA_ok {z n m : Int} {t : List UInt8} {pre : List ByteArray} {s u : ByteArray} (h : okL z n pre s u) (hs : (stepA z m t pre s u).1 = 0) : okL z n (stepA z m t pre s u).2.1 (stepA z m t pre s u).2.2.1 (stepA z m t pre s u).2.2.2 /\ t.length <= 1000 := by
 unfold stepA at hs ⊢
 have hE := EB_size
 split at hs
 . cases hs
 . rename_i h1
   split at hs
   . cases hs
   . rename_i h2
     rw [if_neg h1, if_neg h2]
     split at hs
     . rename_i h3
       rw [if_pos h3]
       refine ⟨⟨h.z0, h.z1, h.n0, h.n1, h.l, h.p, ?_⟩, by omega⟩
       show ((s.size + (u ++ mkB (recB m t)).size : Nat) : Int) <= z
       rw [ByteArray.size_append, mkB_size]; exact h3
     . rename_i h3
       rw [if_neg h3]
       split at hs
       . cases hs
       . rename_i h4
         rw [if_neg h4]
         have := h.l
         refine ⟨⟨h.z0, h.z1, h.n0, h.n1, ?_, fun x hx => ?_, ?_⟩, by omega⟩
         . show (pre ++ [s ++ u]).length + 1 <= 20
           rw [List.length_append]; simp; omega
         . have hx : x ∈ pre ++ [s ++ u] := hx
           rcases List.mem_append.1 hx with hx | hx
           . exact h.p x hx
           . simp at hx; subst hx; rw [ByteArray.size_append]; exact h.e
         . show ((EB.size + (mkB (recB m t)).size : Nat) : Int) <= z
           rw [hE, mkB_size]; omega
abbrev TL := (List ByteArray × (Int × (Int × (Bool × Unit)))) × Unit
abbrev RB : SegT := (0, 0, [], ())
def tot (σ : Lg) : Nat := (σ.1.map ByteArray.size).sum + σ.2.1.size + σ.2.2.size
theorem sum_le {l : List ByteArray} {z : Int} (h : ∀ x ∈ l, (x.size : Int) <= z) (hz : z <= 4000) : (l.map ByteArray.size).sum <= 4000 * l.length := by
 induction l with
 | nil => exact Nat.le_refl _
 | cons x l ih =>
   have h1 := h x (List.mem_cons_self ..)
   have := ih fun y hy => h y (List.mem_cons_of_mem _ hy)
   rw [List.map_cons, List.sum_cons, List.length_cons]; omega
theorem okL.tot {z n : Int} {σ : Lg} (h : okL z n σ.1 σ.2.1 σ.2.2) : tot σ <= 80000 := by
 have h1 := sum_le h.p h.z1
 have h2 := h.l
 have h3 := h.e
 have h4 := h.z1
 unfold A.tot; omega
theorem stepA_tot {z m : Int} {t : List UInt8} {σ : Lg} (hs : (stepA z m t σ.1 σ.2.1 σ.2.2).1 = 0) : tot σ + 1 <= tot (stepA z m t σ.1 σ.2.1 σ.2.2).2 := by
 obtain ⟨pre, s, u⟩ := σ
 have hE := EB_size
 have hr := (recB_len m t).2
 unfold stepA at hs ⊢
 dsimp only at hs ⊢
 by_cases h1 : t.length > 1000
 . rw [if_pos h1] at hs; cases hs
 rw [if_neg h1] at hs ⊢
 by_cases h2 : ((recB m t).length : Int) > z
 . rw [if_pos h2] at hs; cases hs
 rw [if_neg h2] at hs ⊢
 by_cases h3 : ((s.size + (u.size + (recB m t).length) : Nat) : Int) <= z
 . rw [if_pos h3]
   unfold tot; dsimp only
   rw [ByteArray.size_append, mkB_size]; omega
 rw [if_neg h3] at hs ⊢
 by_cases h4 : pre.length + 1 = 20
 . rw [if_pos h4] at hs; cases hs
 rw [if_neg h4]
 unfold tot; dsimp only
 rw [List.map_append, List.sum_append, mkB_size]
 simp only [List.map_cons, List.map_nil, List.sum_cons, List.sum_nil, ByteArray.size_append]; omega
theorem runA_tot {z n : Int} : ∀ (L : List (List UInt8)) (m : Int) (σ : Lg), okL z n σ.1 σ.2.1 σ.2.2 -> (runA z m L σ).1 = 0 -> tot σ + L.length <= 80000
 | [], _, _, h, _ => h.tot
 | t :: L, m, σ, h, hs => by
   rw [runA] at hs
   by_cases c : (stepA z m t σ.1 σ.2.1 σ.2.2).1 = 0
   . rw [if_pos c] at hs
     have h1 := stepA_tot c
     have := runA_tot L _ _ (stepA_ok h c).1 hs
     rw [List.length_cons]; omega
   . rw [if_neg c] at hs; exact absurd hs c
section
variable (L : List (List UInt8)) (r2 : TL) (z n : Int) (hr : r2.1.1.length <= 10000000)
include hr
theorem add_step {pre : List ByteArray} {s u : ByteArray} (h : okL z n pre s u) {p q : List (List UInt8)} {t : List UInt8} (hp : L = p ++ t :: q) (hn : n + r2.1.1.length + p.length <= 1000000000) (e : Int) :
 ((stepA z (n + r2.1.1.length + p.length) t pre s u).1 = 0 -> ∀ {R}, Ev (fun k => segment_Add_l1 (L.map mkB) r2 k (e, (((p ++ [t]).length : Nat) : Int), RB, SL z n (stepA z (n + r2.1.1.length + p.length) t pre s u).2.1 (stepA z (n + r2.1.1.length + p.length) t pre s u).2.2.1 (stepA z (n + r2.1.1.length + p.length) t pre s u).2.2.2, ())) R ->
   Ev (fun k => segment_Add_l1 (L.map mkB) r2 k (e, (p.length : Int), RB, SL z n pre s u, ())) R) /\
 ((stepA z (n + r2.1.1.length + p.length) t pre s u).1 ≠ 0 -> ∃ i' B, Ev (fun k => segment_Add_l1 (L.map mkB) r2 k (e, (p.length : Int), RB, SL z n pre s u, ())) (.ret, (stepA z (n + r2.1.1.length + p.length) t pre s u).1, i', RB, B, ())) := by
 have hm : (L.map mkB).length = L.length := List.length_map ..
 have hlen : L.length = p.length + (q.length + 1) := by rw [hp]; simp
 have b0 := h.z0
 have b1 := h.z1
 have b2 := h.n0
 have b3 := h.n1
 have b4 := h.l
 have b5 := h.e
 have hE := EB_size
 have hfl := files_len z pre s u
 have c0 : (p.length : Int) < ((L.map mkB).length : Int) := by omega
 have c1 : (0 : Int) <= (p.length : Int) := by omega
 have w1 : IntKind.i64.wrap (IntKind.i64.wrap (n + (r2.1.1.length : Int)) + (p.length : Int)) = n + r2.1.1.length + p.length := by
  rw [wrap_id (n := n + (r2.1.1.length : Int)) (by omega) (by omega), wrap_id (by omega) (by omega)]
 have w2 := wrap_succ (i := p.length) (by omega)
 have e0 : (((p ++ [t]).length : Nat) : Int) = IntKind.i64.wrap ((p.length : Int) + 1) := by rw [w2]; simp
 have hput : Ev (fun k => record_Put k (IntKind.i64.wrap (IntKind.i64.wrap (n + (r2.1.1.length : Int)) + (p.length : Int))) ((L.map mkB).getD (Int.toNat (p.length : Int)) Ty.str.zero)) (RecPutA (n + r2.1.1.length + p.length) t) := by
  rw [w1, hp, getD_mid]; exact RecPut_ok _ _
 obtain ⟨N, hN⟩ : ∃ N : Int, n + r2.1.1.length + p.length = N := ⟨_, rfl⟩
 rw [hN] at hput hn ⊢
 have hN0 : 0 <= N := by omega
 have hrl := recB_len N t
 have hmr := mkB_size (recB N t)
 by_cases h1 : t.length > 1000
 . have hσ : stepA z N t pre s u = (2, pre, s, u) := by unfold stepA; rw [if_pos h1]
   rw [hσ]
   rw [put_long hN0 hn (by omega)] at hput
   exact ⟨fun q => absurd q (by intro q; cases q), fun _ => ⟨_, _, Ev.step (Ev.dt c0 (Ev.dt c1 (Ev.dt c0 (Ev.bind hput (Ev.t rfl (Ev.now _))))))⟩⟩
 rw [put_good hN0 hn (by omega)] at hput
 by_cases h2 : ((recB N t).length : Int) > z
 . have hσ : stepA z N t pre s u = (2, pre, s, u) := by unfold stepA; rw [if_neg h1, if_pos h2]
   rw [hσ]
   have c2 : ((mkB (recB N t)).size : Int) > z := by omega
   exact ⟨fun q => absurd q (by intro q; cases q), fun _ => ⟨_, _, Ev.step (Ev.dt c0 (Ev.dt c1 (Ev.dt c0 (Ev.bind hput (Ev.f rfl (Ev.dt c2 (Ev.now _)))))))⟩⟩
 have c2 : ¬ ((mkB (recB N t)).size : Int) > z := by omega
 have hw := lastN (z := z) (pre := pre) (s := s) (t := u) (by omega)
 have c3 : (0 : Int) <= IntKind.i64.wrap (((files z pre s u).length : Int) - 1) := by rw [hw]; omega
 have c4 : IntKind.i64.wrap (((files z pre s u).length : Int) - 1) < ((files z pre s u).length : Int) := by rw [hw]; omega
 have hwN : (IntKind.i64.wrap (((files z pre s u).length : Int) - 1)).toNat = pre.length := by rw [hw, Int.toNat_natCast]
 have c5 : (IntKind.i64.wrap (((files z pre s u).length : Int) - 1)).toNat < (files z pre s u).length := by rw [hwN]; omega
 have hadd : Ev (fun k => file_Add k (((files z pre s u).getD (IntKind.i64.wrap (((files z pre s u).length : Int) - 1)).toNat Zf).1, ((files z pre s u).getD (IntKind.i64.wrap (((files z pre s u).length : Int) - 1)).toNat Zf).2.1, ((files z pre s u).getD (IntKind.i64.wrap (((files z pre s u).length : Int) - 1)).toNat Zf).2.2.1, ()) [mkB (recB N t)]) (addF z s u (mkB (recB N t))) := by
  rw [hwN, files_last]
  refine Ev.all fun k => ?_
  have hcat : cat [mkB (recB N t)] = mkB (recB N t) := by rw [cat_cons, cat_nil, app_E]
  have := Add_ok k z s u (by omega) (by omega) [mkB (recB N t)] (by simp) (by rw [hcat]; omega)
  rw [hcat] at this; exact this
 by_cases h3 : ((s.size + (u.size + (recB N t).length) : Nat) : Int) <= z
 . have hσ : stepA z N t pre s u = (0, pre, s, u ++ mkB (recB N t)) := by unfold stepA; rw [if_neg h1, if_neg h2, if_pos h3]
   rw [hσ]
   have g2 : okF z s (u ++ mkB (recB N t)) = true := decide_eq_true ⟨by omega, b1, by rw [ByteArray.size_append, mkB_size]; exact h3⟩
   have ha : addF z s u (mkB (recB N t)) = (F z s (u ++ mkB (recB N t)), 0, ()) := by unfold addF; rw [h.okF, g2]; rfl
   rw [ha] at hadd
   refine ⟨fun _ {R} h => ?_, fun q => absurd rfl q⟩
   rw [e0] at h
   have hset : (files z pre s u).set (IntKind.i64.wrap (((files z pre s u).length : Int) - 1)).toNat (F z s (u ++ mkB (recB N t))) = files z pre s (u ++ mkB (recB N t)) := by rw [hwN, files_set]; rfl
   have h' : Ev (fun k => segment_Add_l1 (L.map mkB) r2 k (e, IntKind.i64.wrap ((p.length : Int) + 1), RB, (z, n, (files z pre s u).set (IntKind.i64.wrap (((files z pre s u).length : Int) - 1)).toNat (F z s (u ++ mkB (recB N t))), ()), ())) R := by rw [hset]; exact h
   exact Ev.step (Ev.dt c0 (Ev.dt c1 (Ev.dt c0 (Ev.bind hput (Ev.f rfl (Ev.df c2 (Ev.dt c3 (Ev.dt c4 (Ev.dt c5 (Ev.bind hadd (Ev.t rfl (Ev.dt c5 (Ev.share h')))))))))))))
 have g2 : okF z s (u ++ mkB (recB N t)) = false := by refine okF_no ?_; rw [ByteArray.size_append, mkB_size]; exact h3
 have ha : addF z s u (mkB (recB N t)) = (F 0 EB EB, 81, ()) := by unfold addF; rw [h.okF, g2]; rfl
 rw [ha] at hadd
 by_cases h4 : pre.length + 1 = 20
 . have hσ : stepA z N t pre s u = (81, pre, s, u) := by unfold stepA; rw [if_neg h1, if_neg h2, if_neg h3, if_pos h4]
   rw [hσ]
   have c6 : (((files z pre s u).length : Int) == 20) = true := beq_i (by omega)
   exact ⟨fun q => absurd q (by intro q; cases q), fun _ => ⟨_, _, Ev.step (Ev.dt c0 (Ev.dt c1 (Ev.dt c0 (Ev.bind hput (Ev.f rfl (Ev.df c2 (Ev.dt c3 (Ev.dt c4 (Ev.dt c5 (Ev.bind hadd (Ev.f rfl (Ev.t c6 (Ev.now _)))))))))))))⟩⟩
 . have hσ : stepA z N t pre s u = (0, pre ++ [s ++ u], EB, mkB (recB N t)) := by unfold stepA; rw [if_neg h1, if_neg h2, if_neg h3, if_neg h4]
   rw [hσ]
   have c6 : (((files z pre s u).length : Int) == 20) = false := bne_i (by omega)
   have hsync : Ev (fun k => file_Sync k (((files z pre s u).getD (IntKind.i64.wrap (((files z pre s u).length : Int) - 1)).toNat Zf).1, ((files z pre s u).getD (IntKind.i64.wrap (((files z pre s u).length : Int) - 1)).toNat Zf).2.1, ((files z pre s u).getD (IntKind.i64.wrap (((files z pre s u).length : Int) - 1)).toNat Zf).2.2.1, ())) (F z (s ++ u) EB, 0, ()) := by
    rw [hwN, files_last]
    refine Ev.all fun k => ?_
    have := Sync_ok k z s u (by omega) (by omega)
    rw [h.okF] at this; exact this
   have hset : (files z pre s u).set (IntKind.i64.wrap (((files z pre s u).length : Int) - 1)).toNat (F z (s ++ u) EB) = (pre ++ [s ++ u]).map (fun x => F z x EB) := by rw [hwN, files_set, List.map_append]; rfl
   refine ⟨fun _ {R} h => ?_, fun q => absurd rfl q⟩
   rw [e0] at h
   have c7 : (((files z pre s u).set (IntKind.i64.wrap (((files z pre s u).length : Int) - 1)).toNat (F z (s ++ u) EB)).length + [F z EB (mkB (recB N t))].length) * 40 <= 140737488355328 := by rw [List.length_set]; simp; omega
   have h' : Ev (fun k => segment_Add_l1 (L.map mkB) r2 k (e, IntKind.i64.wrap ((p.length : Int) + 1), RB, (z, n, (files z pre s u).set (IntKind.i64.wrap (((files z pre s u).length : Int) - 1)).toNat (F z (s ++ u) EB) ++ [F z EB (mkB (recB N t))], ()), ())) R := by rw [hset]; exact h
   exact Ev.step (Ev.dt c0 (Ev.dt c1 (Ev.dt c0 (Ev.bind hput (Ev.f rfl (Ev.df c2 (Ev.dt c3 (Ev.dt c4 (Ev.dt c5 (Ev.bind hadd (Ev.f rfl (Ev.f c6 (Ev.dt c5 (Ev.bind hsync (Ev.dt c5 (Ev.share (Ev.dt c7 h')))))))))))))))))
theorem add_run : ∀ (q p : List (List UInt8)) (σ : Lg) (e : Int), okL z n σ.1 σ.2.1 σ.2.2 -> L = p ++ q -> p.length <= tot σ -> n + r2.1.1.length <= 999000000 ->
 ((runA z (n + r2.1.1.length + p.length) q σ).1 = 0 -> Ev (fun k => segment_Add_l1 (L.map mkB) r2 k (e, (p.length : Int), RB, SL z n σ.1 σ.2.1 σ.2.2, ())) (.exit 0, e, (L.length : Int), RB, SL z n (runA z (n + r2.1.1.length + p.length) q σ).2.1 (runA z (n + r2.1.1.length + p.length) q σ).2.2.1 (runA z (n + r2.1.1.length + p.length) q σ).2.2.2, ())) /\
 ((runA z (n + r2.1.1.length + p.length) q σ).1 ≠ 0 -> ∃ i' B, Ev (fun k => segment_Add_l1 (L.map mkB) r2 k (e, (p.length : Int), RB, SL z n σ.1 σ.2.1 σ.2.2, ())) (.ret, (runA z (n + r2.1.1.length + p.length) q σ).1, i', RB, B, ())) := by
 intro q
 have hm : (L.map mkB).length = L.length := List.length_map ..
 induction q with
 | nil =>
   intro p σ e hok hp hL hn
   obtain rfl : L = p := by rw [hp, List.append_nil]
   refine ⟨fun _ => Ev.step (Ev.df (by show ¬ (L.length : Int) < ((L.map mkB).length : Int); omega) (Ev.now _)), fun q => absurd rfl q⟩
 | cons t q ih =>
   intro p σ e hok hp hL hn
   have hlen : L.length = p.length + (q.length + 1) := by rw [hp]; simp
   have ht := hok.tot
   obtain ⟨g1, g2⟩ := add_step L r2 z n hr hok hp (by omega) e
   rw [runA]
   by_cases hs : (stepA z (n + r2.1.1.length + p.length) t σ.1 σ.2.1 σ.2.2).1 = 0
   . rw [if_pos hs]
     have := ih (p ++ [t]) (stepA z (n + r2.1.1.length + p.length) t σ.1 σ.2.1 σ.2.2).2 e (stepA_ok hok hs).1 (by rw [hp]; simp) (by have := stepA_tot hs; rw [List.length_append]; simp only [List.length_cons, List.length_nil]; omega) hn
     rw [show n + (r2.1.1.length : Int) + (((p ++ [t]).length : Nat) : Int) = n + r2.1.1.length + p.length + 1 by simp; omega] at this
     refine ⟨fun hq => g1 hs (this.1 hq), fun hq => ?_⟩
     obtain ⟨i', B, h⟩ := this.2 hq
     exact ⟨i', B, g1 hs h⟩
   . rw [if_neg hs]
     exact ⟨fun hq => absurd hq hs, g2⟩
end
theorem Add_good {z n : Int} {pre : List ByteArray} {s u : ByteArray} (h : okL z n pre s u) {T : List ByteArray} {x y : Int} (hs : Ev (fun k => segment_scan k (SL z n pre s u)) ((T, x, y, true, ()), ())) (hT : T.length <= 10000000) (L : List (List UInt8)) :
 ((runA z (n + T.length) L (pre, s, u)).1 = 0 -> Ev (fun k => segment_Add k (SL z n pre s u) (L.map mkB)) (SL z n (runA z (n + T.length) L (pre, s, u)).2.1 (runA z (n + T.length) L (pre, s, u)).2.2.1 (runA z (n + T.length) L (pre, s, u)).2.2.2, 0, ())) /\
 ((runA z (n + T.length) L (pre, s, u)).1 ≠ 0 -> Ev (fun k => segment_Add k (SL z n pre s u) (L.map mkB)) (RB, (runA z (n + T.length) L (pre, s, u)).1, ())) := by
 have b3 := h.n1
 have hfl := files_len z pre s u
 have b4 := h.l
 have c0 : (((files z pre s u).length : Nat) : Int).toNat * 40 <= 140737488355328 := by omega
 have := add_run L ((T, x, y, true, ()), ()) z n hT L [] (pre, s, u) 0 h rfl (Nat.zero_le _) (by show n + (T.length : Int) <= _; omega)
 simp only [List.length_nil, Int.ofNat_zero, Int.add_zero] at this
 obtain ⟨g1, g2⟩ := this
 have cp := copyL (files z pre s u)
 constructor
 . intro hq
   have h1 := g1 hq
   refine Ev.bind (Is_true h) (Ev.f rfl (Ev.bind hs (Ev.f rfl (Ev.dt c0 (Ev.share (Ev.share ?_))))))
   refine Ev.bind (x := (AExit.exit 0, 0, (L.length : Int), RB, SL z n (runA z (n + T.length) L (pre, s, u)).2.1 (runA z (n + T.length) L (pre, s, u)).2.2.1 (runA z (n + T.length) L (pre, s, u)).2.2.2, ())) ?_ (Ev.t rfl (Ev.now _))
   rw [cp]; exact h1
 . intro hq
   obtain ⟨i', B, h1⟩ := g2 hq
   refine Ev.bind (Is_true h) (Ev.f rfl (Ev.bind hs (Ev.f rfl (Ev.dt c0 (Ev.share (Ev.share ?_))))))
   refine Ev.bind (x := (AExit.ret, (runA z (n + T.length) L (pre, s, u)).1, i', RB, B, ())) ?_ (Ev.now _)
   rw [cp]; exact h1
end
section
theorem SNew_cases (z n : Int) : (okL z n [] EB EB /\ Ev (fun k => segment_New k z n) (SL z n [] EB EB, 0, ())) \/ Ev (fun k => segment_New k z n) (RB, 1, ()) := by
 have hE := EB_size
 rcases Is_cases z n [F z EB EB] (by simp) (by intro f hf; simp at hf; subst hf; exact ⟨by show EB.size <= 4000; omega, by show EB.size <= 4000; omega⟩) with ⟨pre, s, t, h1, h2, h3⟩ | h
 . have h1 : files z [] EB EB = files z pre s t := h1
   obtain ⟨rfl, rfl, rfl⟩ := files_inj h1
   exact .inl ⟨h2, Ev.bind h3 (Ev.f rfl (Ev.now _))⟩
 . exact .inr (Ev.bind h (Ev.t rfl (Ev.now _)))
abbrev Txt := List UInt8
theorem contF_pre (z : Int) (x : ByteArray) : contF (F z x EB) = x.data.toList := by unfold contF; rw [show (F z x EB).2.1 ++ (F z x EB).2.2.1 = x from app_E x]
theorem files_cont (z : Int) (pre : List ByteArray) (s u : ByteArray) : (files z pre s u).map contF = pre.map (fun x => x.data.toList) ++ [(s ++ u).data.toList] := by
 unfold files
 rw [List.map_append, List.map_map]
 congr 1
 apply List.map_congr_left
 intro x _
 exact contF_pre z x
theorem flat_last (ps : List (List Txt)) (B : List Txt) : (ps ++ [B]).flatten = ps.flatten ++ B := by simp
end
section
section
variable {z n : Int} {pre : List ByteArray} {s t : ByteArray} (h : okL z n pre s t)
include h
theorem okL.c0 : (((files z pre s t).length : Nat) : Int).toNat * 40 <= 140737488355328 := by have := h.len; omega
theorem okL.c3 : (0 : Int) <= IntKind.i64.wrap (((files z pre s t).length : Int) - 1) := by rw [lastN (by have := h.l; omega)]; omega
theorem okL.c4 : IntKind.i64.wrap (((files z pre s t).length : Int) - 1) < ((files z pre s t).length : Int) := by rw [lastN (by have := h.l; omega), files_len]; omega
theorem okL.wN : (IntKind.i64.wrap (((files z pre s t).length : Int) - 1)).toNat = pre.length := by rw [lastN (by have := h.l; omega), Int.toNat_natCast]
theorem okL.c5 : (IntKind.i64.wrap (((files z pre s t).length : Int) - 1)).toNat < (files z pre s t).length := by rw [h.wN, files_len]; omega
theorem okL.set (f : FT) : (files z pre s t).set (IntKind.i64.wrap (((files z pre s t).length : Int) - 1)).toNat f = pre.map (fun x => F z x EB) ++ [f] := by rw [h.wN, files_set]
theorem okL.sz : s.size <= 1000000 /\ t.size <= 1000000 := by have := h.e; have := h.z1; omega
theorem SSync_ok : Ev (fun k => segment_Sync k (SL z n pre s t)) (SL z n pre (s ++ t) EB, 0, ()) := by
 have hs : Ev (fun k => file_Sync k (((files z pre s t).getD (IntKind.i64.wrap (((files z pre s t).length : Int) - 1)).toNat Zf).1, ((files z pre s t).getD (IntKind.i64.wrap (((files z pre s t).length : Int) - 1)).toNat Zf).2.1, ((files z pre s t).getD (IntKind.i64.wrap (((files z pre s t).length : Int) - 1)).toNat Zf).2.2.1, ())) (F z (s ++ t) EB, 0, ()) := by
  rw [h.wN, files_last]
  refine Ev.all fun k => ?_
  have := Sync_ok k z s t h.sz.1 h.sz.2
  rw [h.okF] at this; exact this
 have hset := h.set (F z (s ++ t) EB)
 have e : (SL z n pre (s ++ t) EB, (0 : Int), ()) = (SG z n ((files z pre s t).set (IntKind.i64.wrap (((files z pre s t).length : Int) - 1)).toNat (F z (s ++ t) EB)), (0 : Int), ()) := by rw [hset]; rfl
 rw [e]
 refine Ev.bind (Is_true h) (Ev.f rfl (Ev.dt h.c0 (Ev.share (Ev.share ?_))))
 rw [copyL (files z pre s t)]
 exact Ev.dt h.c3 (Ev.dt h.c4 (Ev.dt h.c5 (Ev.bind hs (Ev.f rfl (Ev.dt h.c3 (Ev.dt h.c4 (Ev.dt h.c5 (Ev.share (Ev.now _)))))))))
theorem SCrash_ok (a : Int) : Ev (fun k => segment_Crash k (SL z n pre s t) a) (SL z n pre (s ++ t.extract 0 (leftN a t.size)) EB, 0, ()) := by
 have hs : Ev (fun k => file_Crash k (((files z pre s t).getD (IntKind.i64.wrap (((files z pre s t).length : Int) - 1)).toNat Zf).1, ((files z pre s t).getD (IntKind.i64.wrap (((files z pre s t).length : Int) - 1)).toNat Zf).2.1, ((files z pre s t).getD (IntKind.i64.wrap (((files z pre s t).length : Int) - 1)).toNat Zf).2.2.1, ()) a) (F z (s ++ t.extract 0 (leftN a t.size)) EB, 0, ()) := by
  rw [h.wN, files_last]
  refine Ev.all fun k => ?_
  have := Crash_ok k z s t h.sz.1 h.sz.2 a
  rw [crashF, h.okF] at this; exact this
 have hset := h.set (F z (s ++ t.extract 0 (leftN a t.size)) EB)
 have e : (SL z n pre (s ++ t.extract 0 (leftN a t.size)) EB, (0 : Int), ()) = (SG z n ((files z pre s t).set (IntKind.i64.wrap (((files z pre s t).length : Int) - 1)).toNat (F z (s ++ t.extract 0 (leftN a t.size)) EB)), (0 : Int), ()) := by rw [hset]; rfl
 rw [e]
 refine Ev.bind (Is_true h) (Ev.f rfl (Ev.dt h.c0 (Ev.share (Ev.share ?_))))
 rw [copyL (files z pre s t)]
 exact Ev.dt h.c3 (Ev.dt h.c4 (Ev.dt h.c5 (Ev.bind hs (Ev.f rfl (Ev.dt h.c3 (Ev.dt h.c4 (Ev.dt h.c5 (Ev.share (Ev.now _)))))))))
theorem okL.sync : okL z n pre (s ++ t) EB := ⟨h.z0, h.z1, h.n0, h.n1, h.l, h.p, by have := h.e; rw [ByteArray.size_append, EB_size]; omega⟩
theorem okL.crash (a : Int) : okL z n pre (s ++ t.extract 0 (leftN a t.size)) EB := ⟨h.z0, h.z1, h.n0, h.n1, h.l, h.p, by have := h.e; have := leftN_le a t.size; rw [ByteArray.size_append, ByteArray.size_extract, EB_size]; omega⟩
theorem Mend_good {T : List ByteArray} {x y : Int} (hs : Ev (fun k => segment_scan k (SL z n pre s t)) ((T, x, y, true, ()), ())) : Ev (fun k => segment_Mend k (SL z n pre s t)) (SL z n pre s t, 0, ()) := by
 refine Ev.bind (Is_true h) (Ev.f rfl (Ev.bind hs (Ev.dt h.c0 (Ev.share (Ev.share ?_)))))
 rw [copyL (files z pre s t)]
 exact Ev.t rfl (Ev.now _)
end
theorem files_split {z n : Int} : ∀ {pre : List ByteArray} {s t : ByteArray} {p : List FT} {f : FT} {q : List FT}, files z pre s t = p ++ f :: q -> okL z n pre s t ->
 ∃ pre' s' t', p ++ [f] = files z pre' s' t' /\ p = pre'.map (fun x => F z x EB) /\ f = F z s' t' /\ pre'.length = p.length /\ okL z n pre' s' t' := by
 intro pre
 intro s t p f q h hok
 have hE := EB_size
 have hlen := congrArg List.length h
 rw [files_len, List.length_append, List.length_cons] at hlen
 by_cases hq : q = []
 . subst hq
   unfold files at h
   obtain ⟨h1, h2⟩ := List.append_inj' h rfl
   injection h2 with h2
   exact ⟨pre, s, t, by rw [<- h1, <- h2]; rfl, h1.symm, h2.symm, by rw [<- h1]; simp, hok⟩
 . have hql : 0 < q.length := List.length_pos_iff.2 hq
   have hpl : p.length < pre.length := by omega
   have e1 : p = (pre.take p.length).map (fun x => F z x EB) := by
    have := congrArg (List.take p.length) h
    rw [List.take_left] at this
    refine this.symm.trans ?_
    unfold files
    rw [List.take_append_of_le_length (by simp; omega), List.map_take]
   have e2 : f = F z pre[p.length] EB := by
    have : (files z pre s t)[p.length]? = some f := by rw [h]; simp
    unfold files at this
    rw [List.getElem?_append_left (by simp; omega), List.getElem?_map, List.getElem?_eq_getElem hpl] at this
    exact (Option.some.inj this).symm
   have hpl2 : (pre.take p.length).length = p.length := by rw [List.length_take]; omega
   refine ⟨pre.take p.length, pre[p.length], EB, by rw [e2]; unfold files; rw [<- e1], e1, e2, hpl2, ⟨hok.z0, hok.z1, hok.n0, hok.n1, by have := hok.l; omega, fun x hx => hok.p x (List.mem_of_mem_take hx), ?_⟩⟩
   have := hok.p pre[p.length] (List.getElem_mem hpl)
   rw [hE]; omega
theorem Mend_bad {z n : Int} {pre : List ByteArray} {s t : ByteArray} (h : okL z n pre s t) {p : List FT} {f : FT} {q : List FT} (hp : files z pre s t = p ++ f :: q) {ps : List (List Txt)} (hc : p.map contF = filesB n ps) (hok : partsOk n ps) {ts : List Txt} {rest : List UInt8} (hs : ScanIs (contF f) (n + ps.flatten.length) ts rest) (hr : rest ≠ []) :
 ∃ pre' W, okL z n pre' W EB /\ Ev (fun k => segment_Mend k (SL z n pre s t)) (SL z n pre' W EB, 0, ()) /\ (files z pre' W EB).map contF = filesB n (ps ++ [ts]) /\ partsOk n (ps ++ [ts]) /\ pre'.map (fun x => x.data.toList) = filesB n ps /\ W = mkB (recsB (n + ps.flatten.length) ts) := by
 have hE := EB_size
 obtain ⟨pre', s', t', e1, e2, rfl, e4, ok'⟩ := files_split hp h
 have hsc := scan_bad z n _ h.len h.bd h.n0 h.n1 hp hc hok hs hr
 have gl := scan_len hs
 have gsz : (contF (F z s' t')).length = (s' ++ t').size := size_toList _
 rw [ByteArray.size_append] at gsz
 obtain ⟨W, hW⟩ : ∃ W, mkB (recsB (n + ps.flatten.length) ts) = W := ⟨_, rfl⟩
 have hWs := mkB_size (recsB (n + ps.flatten.length) ts)
 rw [hW] at hWs
 have okW : okL z n pre' W EB := ⟨ok'.z0, ok'.z1, ok'.n0, ok'.n1, ok'.l, ok'.p, by have := ok'.e; rw [hE]; omega⟩
 have hcont : (files z pre' W EB).map contF = filesB n (ps ++ [ts]) := by
  rw [files_cont, filesB_app]
  congr 1
  . rw [<- hc, e2, List.map_map]
    apply List.map_congr_left
    intro x _
    exact (contF_pre z x).symm
  . rw [app_E, <- hW]; rfl
 refine ⟨pre', W, okW, ?_, hcont, (partsOk_app n ps _).2 ⟨hok, hs.1, trivial⟩, ?_, hW.symm⟩
 . have hcut : Ev (fun k => file_Cut k (((files z pre' s' t').getD (IntKind.i64.wrap (((files z pre' s' t').length : Int) - 1)).toNat Zf).1, ((files z pre' s' t').getD (IntKind.i64.wrap (((files z pre' s' t').length : Int) - 1)).toNat Zf).2.1, ((files z pre' s' t').getD (IntKind.i64.wrap (((files z pre' s' t').length : Int) - 1)).toNat Zf).2.2.1, ()) (((recsB (n + ps.flatten.length) ts).length : Nat) : Int)) (F z W EB, 0, ()) := by
    rw [ok'.wN, files_last]
    refine Ev.all fun k => ?_
    have := Cut_ok k z s' t' ok'.sz.1 ok'.sz.2 (((recsB (n + ps.flatten.length) ts).length : Nat) : Int)
    unfold cutF at this
    rw [ok'.okF, if_neg (by omega)] at this
    have hx : (s' ++ t').extract 0 (Int.toNat (((recsB (n + ps.flatten.length) ts).length : Nat) : Int)) = W := by
     have hs2 : (s' ++ t').data.toList = recsB (n + ps.flatten.length) ts ++ rest := hs.2.1
     rw [<- mkB_of (s' ++ t'), mkB_extract, List.drop_zero, Int.toNat_natCast, hs2, List.take_left, hW]
    rw [hx] at this
    exact this
   have hlen : (files z pre s t).length = p.length + (q.length + 1) := by rw [hp]; simp
   have hll := h.len
   have w1 : IntKind.i64.wrap ((p.length : Int) + 1) = ((p.length + 1 : Nat) : Int) := wrap_succ (by omega)
   have htake : List.drop 0 (List.take (IntKind.i64.wrap ((p.length : Int) + 1)).toNat (files z pre s t)) = files z pre' s' t' := by
    rw [w1, Int.toNat_natCast, List.drop_zero, hp, <- e1]
    rw [show p ++ F z s' t' :: q = (p ++ [F z s' t']) ++ q by simp]
    exact List.take_left' (by simp)
   have d0 : (0 : Int) <= IntKind.i64.wrap ((p.length : Int) + 1) := by rw [w1]; omega
   have d1 : IntKind.i64.wrap ((p.length : Int) + 1) <= ((files z pre s t).length : Int) := by rw [w1, hlen]; omega
   have hset := ok'.set (F z W EB)
   have e : (SL z n pre' W EB, (0 : Int), ()) = (SG z n ((files z pre' s' t').set (IntKind.i64.wrap (((files z pre' s' t').length : Int) - 1)).toNat (F z W EB)), (0 : Int), ()) := by rw [hset]; rfl
   rw [e]
   refine Ev.bind (Is_true h) (Ev.f rfl (Ev.bind hsc (Ev.dt h.c0 (Ev.share (Ev.share ?_)))))
   rw [copyL (files z pre s t)]
   refine Ev.f rfl (Ev.dt d0 (Ev.dt d1 (Ev.share ?_)))
   rw [htake]
   refine Ev.bind (Is_true ok') (Ev.f rfl (Ev.dt ok'.c0 (Ev.share (Ev.share ?_))))
   rw [copyL (files z pre' s' t')]
   exact Ev.dt ok'.c3 (Ev.dt ok'.c4 (Ev.dt ok'.c5 (Ev.bind hcut (Ev.f rfl (Ev.dt ok'.c3 (Ev.dt ok'.c4 (Ev.dt ok'.c5 (Ev.share (Ev.now _)))))))))
 . rw [<- hc, e2, List.map_map]
   apply List.map_congr_left
   intro x _
   exact (contF_pre z x).symm
theorem parts_total : ∀ (ps : List (List Txt)) (n : Int), partsOk n ps -> ps.flatten.length <= ((filesB n ps).map List.length).sum := by
 intro ps
 induction ps with
 | nil => intro n _; simp
 | cons p ps ih =>
   intro n h
   have := ih _ h.2
   have := (recsB_len n p 1000 h.1.bd.2).2
   rw [flat_cons, List.length_append, filesB, List.map_cons, List.sum_cons]; omega
theorem cont_total : ∀ (fs : List FT), (∀ f ∈ fs, bdF f) -> ((fs.map contF).map List.length).sum <= 8000 * fs.length := by
 intro fs
 induction fs with
 | nil => intro _; simp
 | cons f fs ih =>
   intro h
   have h2 := ih (fun f hf => h f (by simp [hf]))
   have h1 := contF_len (f :: fs) h (by simp : f ∈ f :: fs)
   rw [List.map_cons, List.map_cons, List.sum_cons, List.length_cons]; omega
theorem okL.total {z n : Int} {pre : List ByteArray} {s t : ByteArray} (h : okL z n pre s t) {ps : List (List Txt)} (hc : (files z pre s t).map contF = filesB n ps) (hok : partsOk n ps) : ps.flatten.length <= 160000 := by
 have h1 := parts_total ps n hok
 have h2 := cont_total (files z pre s t) h.bd
 rw [<- hc] at h1
 have h3 := files_len z pre s t
 have h4 := h.l
 omega
end
section
theorem stepA_whole {z n N : Int} {pre : List ByteArray} {s u : ByteArray} {ps : List (List Txt)} {t : Txt} (hok : okL z n pre s u) (hc : (files z pre s u).map contF = filesB n ps) (hp : partsOk n ps) (hN : n + ps.flatten.length = N) (hb : N <= 1000000000) (hs : (stepA z N t pre s u).1 = 0) :
 ∃ ps', okL z n (stepA z N t pre s u).2.1 (stepA z N t pre s u).2.2.1 (stepA z N t pre s u).2.2.2 /\ (files z (stepA z N t pre s u).2.1 (stepA z N t pre s u).2.2.1 (stepA z N t pre s u).2.2.2).map contF = filesB n ps' /\ partsOk n ps' /\ ps'.flatten = ps.flatten ++ [t] := by
 obtain ⟨k1, k2⟩ := stepA_ok hok hs
 have hn0 := hok.n0
 have hrec : recOk N t := ⟨by omega, hb, k2⟩
 have hne : ps ≠ [] := by rintro rfl; rw [files_cont] at hc; simp [filesB] at hc
 obtain ⟨qs, l, rfl⟩ : ∃ qs l, ps = qs ++ [l] := ⟨ps.dropLast, ps.getLast hne, (List.dropLast_concat_getLast hne).symm⟩
 rw [flat_last] at hN ⊢
 rw [List.length_append] at hN
 obtain ⟨p1, p2, _⟩ := (partsOk_app n qs [l]).1 hp
 have hc' := hc
 rw [files_cont, filesB_app] at hc'
 obtain ⟨c1, c2⟩ := List.append_inj' hc' rfl
 have c2 : (s ++ u).data.toList = recsB (n + qs.flatten.length) l := (List.cons.inj c2).1
 have e2 : n + (qs.flatten.length : Int) + (l.length : Int) = N := by omega
 unfold stepA at hs k1 ⊢
 split at hs
 . cases hs
 . rename_i h1
   split at hs
   . cases hs
   . rename_i h2
     rw [if_neg h1, if_neg h2] at k1 ⊢
     split at hs
     . rename_i h3
       rw [if_pos h3] at k1 ⊢
       refine ⟨qs ++ [l ++ [t]], k1, ?_, (partsOk_app n qs _).2 ⟨p1, (recsOk_app _ l [t]).2 ⟨p2, by rw [e2]; exact ⟨hrec, trivial⟩⟩, trivial⟩, by rw [flat_last, List.append_assoc]⟩
       show (files z pre s (u ++ mkB (recB N t))).map contF = _
       rw [files_cont, filesB_app, c1, <- app_assoc, bytes_append, c2]
       show _ = _ ++ [recsB (n + qs.flatten.length) (l ++ [t])]
       rw [recsB_app, e2]
       show _ ++ [_ ++ recB N t] = _ ++ [_ ++ (recB N t ++ [])]
       rw [List.append_nil]
     . rename_i h3
       rw [if_neg h3] at k1 ⊢
       split at hs
       . cases hs
       . rename_i h4
         rw [if_neg h4] at k1 ⊢
         refine ⟨(qs ++ [l]) ++ [[t]], k1, ?_, (partsOk_app n (qs ++ [l]) _).2 ⟨hp, ?_, trivial⟩, by simp⟩
         . show (files z (pre ++ [s ++ u]) EB (mkB (recB N t))).map contF = _
           rw [filesB_app, <- hc, files_cont, files_cont, List.map_append, flat_last, List.length_append, E_app, show n + ((qs.flatten.length + l.length : Nat) : Int) = N by omega]
           show _ ++ [recB N t] = _ ++ [recB N t ++ []]
           rw [List.append_nil]; rfl
         . rw [flat_last, List.length_append, show n + ((qs.flatten.length + l.length : Nat) : Int) = N by omega]
           exact ⟨hrec, trivial⟩
def dropQ (u : Int) : Int -> List ByteArray -> List (List Txt) -> Int × List ByteArray × List (List Txt)
 | n, x :: pre, p :: qs => if n + p.length > imin u 900000000 then (n, x :: pre, p :: qs) else dropQ u (n + p.length) pre qs
 | n, [], qs => (n, [], qs)
 | n, pre, [] => (n, pre, [])
theorem imin_le (u v : Int) : imin u v <= u /\ imin u v <= v := by
 unfold imin
 by_cases h : v < u
 . rw [decide_eq_true h]; exact ⟨by show v <= u; omega, by show v <= v; omega⟩
 . rw [decide_eq_false h]; exact ⟨by show u <= u; omega, by show u <= v; omega⟩
structure Dropped (u n : Int) (pre : List ByteArray) (qs : List (List Txt)) (r : Int × List ByteArray × List (List Txt)) : Prop where
 c : r.2.1.map (fun x => x.data.toList) = filesB r.1 r.2.2
 o : partsOk r.1 r.2.2
 d : ∃ d : List Txt, qs.flatten = d ++ r.2.2.flatten /\ r.1 = n + d.length
 m : r.1 = n \/ r.1 <= imin u 900000000
 l : r.2.1.length <= pre.length
 p : ∀ x ∈ r.2.1, x ∈ pre
theorem dropQ_spec (u : Int) : ∀ (pre : List ByteArray) (qs : List (List Txt)) (n : Int), pre.map (fun x => x.data.toList) = filesB n qs -> partsOk n qs -> Dropped u n pre qs (dropQ u n pre qs)
 | [], qs, n, hc, ho => by
   have : dropQ u n [] qs = (n, [], qs) := by cases qs <;> rfl
   rw [this]
   exact ⟨hc, ho, ⟨[], rfl, by simp⟩, .inl rfl, Nat.le_refl _, fun x h => h⟩
 | x :: pre, [], n, hc, ho => by simp [filesB] at hc
 | x :: pre, p :: qs, n, hc, ho => by
   rw [dropQ]
   split
   . exact ⟨hc, ho, ⟨[], rfl, by simp⟩, .inl rfl, Nat.le_refl _, fun x h => h⟩
   . rename_i h
     rw [filesB, List.map_cons] at hc
     injection hc with h1 h2
     obtain ⟨k1, k2, ⟨d, k3, k4⟩, k5, k6, k7⟩ := dropQ_spec u pre qs (n + p.length) h2 ho.2
     refine ⟨k1, k2, ⟨p ++ d, by rw [flat_cons, k3, List.append_assoc], by rw [k4, List.length_append]; omega⟩, ?_, by rw [List.length_cons]; omega, fun y hy => List.mem_cons_of_mem _ (k7 y hy)⟩
     rcases k5 with k5 | k5
     . exact .inr (by rw [k5]; omega)
     . exact .inr k5
end
section
abbrev KT := Int × (ByteArray × (ByteArray × (Int × (ByteArray × (ByteArray × (Int × (ByteArray × (ByteArray × (Int × (ByteArray × (ByteArray × (Int × (Int × ((List FT) × Unit))))))))))))))
abbrev KM (S : ST) (H : HT) (G : SegT) : KT := (S.1, S.2.1, S.2.2.1, S.2.2.2.1, S.2.2.2.2.1, S.2.2.2.2.2.1, H.1, H.2.1, H.2.2.1, H.2.2.2.1, H.2.2.2.2.1, H.2.2.2.2.2.1, G.1, G.2.1, G.2.2.1, ())
abbrev J1 : Int := IntKind.i64.wrap (0 + 1)
abbrev J2 : Int := IntKind.i64.wrap (J1 + 1)
abbrev J3 : Int := IntKind.i64.wrap (J2 + 1)
abbrev J4 : Int := IntKind.i64.wrap (J3 + 1)
abbrev J5 : Int := IntKind.i64.wrap (J4 + 1)
abbrev KZ : KT := (0, EB, EB, 0, EB, EB, 0, EB, EB, 0, EB, EB, 0, 0, [], ())
def Whole (n : Int) (fs : List FT) (T : List Txt) : Prop := ∃ ps, fs.map contF = filesB n ps /\ partsOk n ps /\ T = ps.flatten
def Broken (n : Int) (fs : List FT) (T : List Txt) : Prop := ∃ p f q ps ts rest, fs = p ++ f :: q /\ p.map contF = filesB n ps /\ partsOk n ps /\ ScanIs (contF f) (n + ps.flatten.length) ts rest /\ rest ≠ [] /\ T = ps.flatten ++ ts
theorem tells_or {z n : Int} {pre : List ByteArray} {s t : ByteArray} (h : okL z n pre s t) : ∃ T, Whole n (files z pre s t) T \/ Broken n (files z pre s t) T := by
 rcases parts_or n ((files z pre s t).map contF) (fun c hc => by
  obtain ⟨f, hf, rfl⟩ := List.mem_map.1 hc
  exact contF_len _ h.bd hf) with ⟨ps, k1, k2⟩ | ⟨ps, c, cs', ts, rest, k1, k2, k3, k4⟩
 . exact ⟨_, .inl ⟨ps, k2, k1, rfl⟩⟩
 . obtain ⟨p, r, h1, h2, h3⟩ := List.map_eq_append_iff.1 k2
   obtain ⟨f, q, rfl, h5, h6⟩ := List.map_eq_cons_iff.1 h3
   exact ⟨_, .inr ⟨p, f, q, ps, ts, rest, h1, h2, k1, by rw [h5]; exact k3, k4, rfl⟩⟩
theorem Whole.scan {z n : Int} {pre : List ByteArray} {s t : ByteArray} {T : List Txt} (h : Whole n (files z pre s t) T) (hok : okL z n pre s t) : ∃ x y, Ev (fun k => segment_scan k (SL z n pre s t)) ((T.map mkB, x, y, true, ()), ()) := by
 obtain ⟨ps, h1, h2, rfl⟩ := h
 exact scan_good z n _ hok.len hok.bd hok.n0 hok.n1 h1 h2
theorem Broken.scan {z n : Int} {pre : List ByteArray} {s t : ByteArray} {T : List Txt} (h : Broken n (files z pre s t) T) (hok : okL z n pre s t) : ∃ x y, Ev (fun k => segment_scan k (SL z n pre s t)) ((T.map mkB, x, y, false, ()), ()) := by
 obtain ⟨p, f, q, ps, ts, rest, h1, h2, h3, h4, h5, rfl⟩ := h
 exact ⟨_, _, scan_bad z n _ hok.len hok.bd hok.n0 hok.n1 h1 h2 h3 h4 h5⟩
theorem tells_scan {z n : Int} {pre : List ByteArray} {s t : ByteArray} {T : List Txt} (h : Whole n (files z pre s t) T \/ Broken n (files z pre s t) T) (hok : okL z n pre s t) : ∃ x y w, Ev (fun k => segment_scan k (SL z n pre s t)) ((T.map mkB, x, y, w, ()), ()) := by
 rcases h with h | h
 . obtain ⟨x, y, e⟩ := h.scan hok; exact ⟨x, y, _, e⟩
 . obtain ⟨x, y, e⟩ := h.scan hok; exact ⟨x, y, _, e⟩
theorem tells_len {z n : Int} {pre : List ByteArray} {s t : ByteArray} {T : List Txt} (h : Whole n (files z pre s t) T \/ Broken n (files z pre s t) T) (hok : okL z n pre s t) : T.length <= 160000 := by
 rcases h with ⟨ps, h1, h2, rfl⟩ | ⟨p, f, q, ps, ts, rest, h1, h2, h3, h4, h5, rfl⟩
 . exact hok.total h1 h2
 . have e1 := parts_total ps n h3
   have e2 := cont_total (files z pre s t) hok.bd
   rw [h1, List.map_append, List.map_append, List.sum_append, h2, List.map_cons, List.map_cons, List.sum_cons] at e2
   have e3 := (scan_len h4).2.2
   have e4 := files_len z pre s t
   have e5 := hok.l
   rw [<- h1] at e2
   rw [List.length_append]; omega
def opn {α : Type} (k : Nat) (K : KT) (e : α) (F : Option α) : Option α := (keep_parts_may k K).bind fun r1 => bif !r1.1 then some e else (keep_parts_base k K).bind fun r2 => bif decide (r2.1 < K.2.2.2.2.2.2.2.2.2.2.2.2.2.1) then some e else (keep_parts_end k K).bind fun r3 => bif decide (r2.1 > r3.1) then some e else F
structure Opn (S : ST) (H : HT) (z n : Int) (pre : List ByteArray) (s t : ByteArray) (tx : ByteArray) (base : Int) (P : List ByteArray) (T : List Txt) : Prop where
 note : ∃ y, Ev (fun k => slots_Load k S) (tx, y, 0, ())
 pic : ∃ w, Ev (fun k => snap_Load k H) (base, P, w, 0, ())
 lok : okL z n pre s t
 tells : Whole n (files z pre s t) T \/ Broken n (files z pre s t) T
 pl : P.length <= 1000000
 b0 : n <= base
 b1 : base <= n + T.length
def Shut (K : KT) : Prop := ∀ (α : Type) (F : Nat -> Option α) (e : α), Ev (fun k => opn k K e (F k)) e
section
variable {S : ST} {H : HT} {z n : Int}
theorem may_ev {x : ByteArray} {y e : Int} (h1 : Ev (fun k => slots_Load k S) (x, y, e, ())) {base : Int} {P : List ByteArray} {w : Bool} {e' : Int} (h2 : Ev (fun k => snap_Load k H) (base, P, w, e', ())) {fs : List FT} {v : Bool} (h3 : Ev (fun k => segment_Is k (SG z n fs)) (v, ())) : Ev (fun k => keep_parts_may k (KM S H (SG z n fs))) ((e == 0) && ((e' == 0) && v), ()) := by
 refine Ev.bind h1 (Ev.bind h2 ?_)
 by_cases c1 : e = 0
 . subst c1
   refine Ev.t rfl ?_
   by_cases c2 : e' = 0
   . subst c2; exact Ev.t rfl (Ev.bind h3 (Ev.now _))
   . exact Ev.f (bne_i c2) (by rw [bne_i c2]; exact Ev.now _)
 . exact Ev.f (bne_i c1) (by rw [bne_i c1]; exact Ev.now _)
theorem base_ev {G : SegT} {base : Int} {P : List ByteArray} {w : Bool} {e' : Int} (h2 : Ev (fun k => snap_Load k H) (base, P, w, e', ())) : Ev (fun k => keep_parts_base k (KM S H G)) (base, P, ()) := Ev.bind h2 (Ev.now _)
theorem end_ev {pre : List ByteArray} {s t : ByteArray} (hok : okL z n pre s t) {T : List Txt} (h : Whole n (files z pre s t) T \/ Broken n (files z pre s t) T) : Ev (fun k => keep_parts_end k (KM S H (SL z n pre s t))) (n + T.length, ()) := by
 obtain ⟨x, y, w, sc⟩ := tells_scan h hok
 have hl := tells_len h hok
 have h0 := hok.n0
 have h1 := hok.n1
 have e : (IntKind.i64.wrap (n + ((T.map mkB).length : Int)), ()) = (n + (T.length : Int), ()) := by rw [List.length_map, wrap_id (by omega) (by omega)]
 rw [<- e]
 exact Ev.bind (Read_scan hok sc) (Ev.now _)
theorem Opn.go {pre : List ByteArray} {s t tx : ByteArray} {base : Int} {P : List ByteArray} {T : List Txt} (h : Opn S H z n pre s t tx base P T) {α : Type} {F : Nat -> Option α} {e y : α} (hF : Ev F y) : Ev (fun k => opn k (KM S H (SL z n pre s t)) e (F k)) y := by
 obtain ⟨y1, h1⟩ := h.note
 obtain ⟨w1, h2⟩ := h.pic
 have b0 := h.b0
 have b1 := h.b1
 exact Ev.bind (may_ev h1 h2 (Is_true h.lok)) (Ev.f rfl (Ev.bind (base_ev h2) (Ev.df (by show ¬ base < n; omega) (Ev.bind (end_ev h.lok h.tells) (Ev.df (by show ¬ base > n + (T.length : Int); omega) hF)))))
end
theorem cloneF_ev {fs : List FT} (h : fs.length <= 1000) : Ev (fun k => slices_Clone_api_File_api_File k fs) (fs, ()) := Ev.dt (by omega) (Ev.now _)
theorem zero_load : Ev (fun k => snap_Load k (H6 0 EB EB 0 EB EB)) (0, [], false, 1, ()) := by
 obtain ⟨o, ho⟩ := tell_ex (EB ++ EB).data.toList (by rw [size_toList, ByteArray.size_append]; have := EB_size; omega)
 have := Load1 (m := 0) (m' := 0) small_Z ho
 rw [okZ] at this
 exact this
theorem shutZ : Shut KZ := by
 have hE := EB_size
 have h1 := Load_ok 0 EB EB 0 EB EB ⟨by omega, by omega, by omega, by omega⟩
 rw [loadS_no 0 EB EB 0 EB EB (by unfold okS okF; simp)] at h1
 intro α F d
 exact Ev.bind (x := (false, ())) (Ev.bind h1 (Ev.bind (zero_load) (Ev.f rfl (Ev.now _)))) (Ev.t rfl (Ev.now _))
theorem Shut.push {K : KT} (h : Shut K) (l : List ByteArray) (D : Int) : Ev (fun k => keep_Push k K l D) (KZ, false, 1, ()) := h _ _ _
section
variable {S : ST} {H : HT} {z n : Int} {pre : List ByteArray} {s t tx : ByteArray} {base : Int} {P : List ByteArray} {T : List Txt} (h : Opn S H z n pre s t tx base P T)
include h
theorem Opn.tl : T.length <= 160000 := tells_len h.tells h.lok
theorem Opn.open : Ev (fun k => keep_Open k (KM S H (SL z n pre s t))) (tx, base, P, (T.drop (base - n).toNat).map mkB, 0, ()) := by
 obtain ⟨y1, h1⟩ := h.note
 obtain ⟨w1, h2⟩ := h.pic
 obtain ⟨x, y, w, sc⟩ := tells_scan h.tells h.lok
 have b0 := h.b0
 have b1 := h.b1
 have hl := h.tl
 have n0 := h.lok.n0
 have n1 := h.lok.n1
 have hw : IntKind.i64.wrap (base - n) = base - n := wrap_id (by omega) (by omega)
 have e : (tx, base, P, (T.drop (base - n).toNat).map mkB, (0 : Int), ()) = (tx, base, P, List.drop (IntKind.i64.wrap (base - n)).toNat (List.take (T.map mkB).length (T.map mkB)), (0 : Int), ()) := by rw [hw, List.take_length, List.map_drop]
 rw [e]
 refine h.go (Ev.bind (cloneF_ev h.lok.len) (Ev.bind h1 (Ev.bind (base_ev h2) (Ev.bind (Read_scan h.lok sc) (Ev.dt ?_ (Ev.dt ?_ (Ev.now _)))))))
 . show 0 <= IntKind.i64.wrap (base - n); rw [hw]; omega
 . show IntKind.i64.wrap (base - n) <= (((T.map mkB).length : Nat) : Int); rw [hw, List.length_map]; omega
theorem Opn.push {l : List ByteArray} {A A' : SegT} (hA : Ev (fun k => segment_Add k (SL z n pre s t) l) (A, 0, ())) (hS : Ev (fun k => segment_Sync k A) (A', 0, ())) : Ev (fun k => keep_Push k (KM S H (SL z n pre s t)) l (-1)) (KM S H A', true, 0, ()) := by
 have end3 : Ev (fun k => keep_Push_l1 l 2 k (false, 0, J2, KZ, KM S H A', ())) (.exit 0, false, 0, J2, KZ, KM S H A', ()) := Ev.step (Ev.f rfl (Ev.now _))
 have l2 : Ev (fun k => keep_Push_l1 l 2 k (false, 0, J1, KZ, KM S H A, ())) (.exit 0, false, 0, J2, KZ, KM S H A', ()) := Ev.step (Ev.t rfl (Ev.t rfl (Ev.t rfl (Ev.f rfl (Ev.t rfl (Ev.bind hS (Ev.f rfl end3)))))))
 have l1 : Ev (fun k => keep_Push_l1 l 2 k (false, 0, 0, KZ, KM S H (SL z n pre s t), ())) _ := Ev.step (Ev.t rfl (Ev.t rfl (Ev.t rfl (Ev.t rfl (Ev.bind hA (Ev.f rfl l2))))))
 exact h.go (Ev.bind (cloneF_ev h.lok.len) (Ev.t rfl (Ev.bind l1 (Ev.t rfl (Ev.now _)))))
theorem Opn.push_no {l : List ByteArray} {A : SegT} {e : Int} (hA : Ev (fun k => segment_Add k (SL z n pre s t) l) (A, e, ())) (he : e ≠ 0) : Ev (fun k => keep_Push k (KM S H (SL z n pre s t)) l (-1)) (KZ, false, e, ()) := by
 have l1 : Ev (fun k => keep_Push_l1 l 2 k (false, 0, 0, KZ, KM S H (SL z n pre s t), ())) (.ret, false, e, 0, KZ, KM S H A, ()) := Ev.step (Ev.t rfl (Ev.t rfl (Ev.t rfl (Ev.t rfl (Ev.bind hA (Ev.t (nbne_i he) (Ev.now _)))))))
 exact h.go (Ev.bind (cloneF_ev h.lok.len) (Ev.t rfl (Ev.bind l1 (Ev.now _))))
end
def syn (σ : Lg) : Lg := (σ.1, σ.2.1 ++ σ.2.2, EB)
theorem runA_whole {z n : Int} : ∀ (L : List Txt) (σ : Lg) (ps : List (List Txt)), okL z n σ.1 σ.2.1 σ.2.2 -> (files z σ.1 σ.2.1 σ.2.2).map contF = filesB n ps -> partsOk n ps -> n + ps.flatten.length + L.length <= 1000000000 -> (runA z (n + ps.flatten.length) L σ).1 = 0 ->
 okL z n (runA z (n + ps.flatten.length) L σ).2.1 (runA z (n + ps.flatten.length) L σ).2.2.1 (runA z (n + ps.flatten.length) L σ).2.2.2 /\ Whole n (files z (runA z (n + ps.flatten.length) L σ).2.1 (runA z (n + ps.flatten.length) L σ).2.2.1 (runA z (n + ps.flatten.length) L σ).2.2.2) (ps.flatten ++ L)
 | [], σ, ps, hok, hc, hp, hn, hs => ⟨hok, ps, hc, hp, by rw [List.append_nil]⟩
 | t :: L, σ, ps, hok, hc, hp, hn, hs => by
   rw [List.length_cons] at hn
   rw [runA] at hs ⊢
   by_cases h : (stepA z (n + ps.flatten.length) t σ.1 σ.2.1 σ.2.2).1 = 0
   . rw [if_pos h] at hs ⊢
     obtain ⟨ps', k1, k2, k3, k4⟩ := stepA_whole hok hc hp rfl (by omega) h
     have hl : ps'.flatten.length = ps.flatten.length + 1 := by rw [k4, List.length_append]; rfl
     have e : n + (ps.flatten.length : Int) + 1 = n + (ps'.flatten.length : Int) := by omega
     rw [e] at hs ⊢
     have := runA_whole L _ ps' k1 k2 k3 (by omega) hs
     refine ⟨this.1, ?_⟩
     rw [show ps.flatten ++ t :: L = ps'.flatten ++ L by rw [k4]; simp]
     exact this.2
   . rw [if_neg h] at hs
     exact absurd hs h
theorem files_syn {z : Int} (pre : List ByteArray) (s t : ByteArray) : (files z pre (s ++ t) EB).map contF = (files z pre s t).map contF := by rw [files_cont, files_cont, app_E]
theorem Whole.syn {z n : Int} {pre : List ByteArray} {s t : ByteArray} {T : List Txt} (h : Whole n (files z pre s t) T) : Whole n (files z pre (s ++ t) EB) T := by
 obtain ⟨ps, h1, h2, h3⟩ := h
 exact ⟨ps, (files_syn pre s t).trans h1, h2, h3⟩
theorem Opn.pushed {S : ST} {H : HT} {z n : Int} {pre : List ByteArray} {s t tx : ByteArray} {base : Int} {P : List ByteArray} {T : List Txt} (h : Opn S H z n pre s t tx base P T) (hw : Whole n (files z pre s t) T) (L : List Txt) :
 ((runA z (n + T.length) L (pre, s, t)).1 ≠ 0 -> Ev (fun k => keep_Push k (KM S H (SL z n pre s t)) (L.map mkB) (-1)) (KZ, false, (runA z (n + T.length) L (pre, s, t)).1, ())) /\
 ((runA z (n + T.length) L (pre, s, t)).1 = 0 -> Ev (fun k => keep_Push k (KM S H (SL z n pre s t)) (L.map mkB) (-1)) (KM S H (SL z n (syn (runA z (n + T.length) L (pre, s, t)).2).1 (syn (runA z (n + T.length) L (pre, s, t)).2).2.1 EB), true, 0, ()) /\
   Opn S H z n (syn (runA z (n + T.length) L (pre, s, t)).2).1 (syn (runA z (n + T.length) L (pre, s, t)).2).2.1 EB tx base P (T ++ L) /\ Whole n (files z (syn (runA z (n + T.length) L (pre, s, t)).2).1 (syn (runA z (n + T.length) L (pre, s, t)).2).2.1 EB) (T ++ L)) := by
 obtain ⟨x, y, sc⟩ := hw.scan h.lok
 have hl := h.tl
 have n1 := h.lok.n1
 have add := Add_good h.lok sc (by rw [List.length_map]; omega) L
 rw [List.length_map] at add
 refine ⟨fun q => h.push_no (add.2 q) q, fun q => ?_⟩
 have hL := runA_tot L _ (pre, s, t) h.lok q
 obtain ⟨ps, c1, c2, rfl⟩ := hw
 obtain ⟨k1, k2⟩ := runA_whole L (pre, s, t) ps h.lok c1 c2 (by omega) q
 refine ⟨h.push (add.1 q) (SSync_ok k1), ⟨h.note, h.pic, k1.sync, .inl k2.syn, h.pl, h.b0, ?_⟩, k2.syn⟩
 have := h.b1
 rw [List.length_append]; omega
end
section
def StopAt (N : Int) (pre2 : List ByteArray) : Prop := pre2 = [] \/ ∃ x r ts rest, pre2 = x :: r /\ ScanIs x.data.toList N ts rest /\ rest ≠ []
theorem drop_any {z : Int} {s t : ByteArray} (u : Int) (pre2 : List ByteArray) : ∀ (pre : List ByteArray) (qs : List (List Txt)) (n : Int), okL z n (pre ++ pre2) s t -> pre.map (fun x => x.data.toList) = filesB n qs -> partsOk n qs -> StopAt (n + qs.flatten.length) pre2 ->
 Ev (fun k => segment_Drop_l1 u k (SL z n (pre ++ pre2) s t, ())) (.exit 0, SL z (dropQ u n pre qs).1 ((dropQ u n pre qs).2.1 ++ pre2) s t, ())
 | [], qs, n, hok, hc, ho, hs => by
   have hq : dropQ u n [] qs = (n, [], qs) := by cases qs <;> rfl
   have hqs : qs = [] := by cases qs with | nil => rfl | cons _ _ => simp [filesB] at hc
   subst hqs
   rw [hq]
   have hs : StopAt n pre2 := by simpa using hs
   show Ev (fun k => segment_Drop_l1 u k (SL z n pre2 s t, ())) (.exit 0, SL z n pre2 s t, ())
   have hok : okL z n pre2 s t := hok
   rcases hs with rfl | ⟨x, r, ts, rest, rfl, hs, hr⟩
   . exact Ev.step (Ev.df (by show ¬ (((files z [] s t).length : Nat) : Int) > 1; rw [files_len]; simp) (Ev.now _))
   . have hfl := files_len z (x :: r) s t
     rw [List.length_cons] at hfl
     have c0 : (((files z (x :: r) s t).length : Nat) : Int) > 1 := by omega
     have c1 : (0 : Int) < (((files z (x :: r) s t).length : Nat) : Int) := by omega
     have hbx : bdF (F z x EB) := hok.bd _ (by rw [files_cons]; simp)
     have hr' : Ev (fun k => file_Read k (((files z (x :: r) s t).getD (Int.toNat 0) Zf).1, ((files z (x :: r) s t).getD (Int.toNat 0) Zf).2.1, ((files z (x :: r) s t).getD (Int.toNat 0) Zf).2.2.1, ())) (x ++ EB, ()) := fileRead_ev hbx
     have hs : ScanIs (x ++ EB).data.toList n ts rest := by rw [app_E]; exact hs
     have b1 := hbx.1
     have b1 : x.size <= 4000 := b1
     have hE := EB_size
     have n0 := hok.n0
     have n1 := hok.n1
     have sc := scan1_of (by omega) (by omega) hs
     have gl := scan_len hs
     rw [size_toList, ByteArray.size_append] at gl
     have : 0 < rest.length := List.length_pos_iff.2 hr
     have c2 : (((recsB n ts).length : Nat) : Int) < ((x ++ EB).size : Int) := by rw [ByteArray.size_append]; omega
     exact Ev.step (Ev.dt c0 (Ev.dt c1 (Ev.bind hr' (Ev.bind sc (Ev.dt c2 (Ev.now _))))))
 | x :: pre, [], n, hok, hc, ho, hs => by simp [filesB] at hc
 | x :: pre, p :: qs, n, hok, hc, ho, hstop => by
   have hok : okL z n (x :: (pre ++ pre2)) s t := hok
   show Ev (fun k => segment_Drop_l1 u k (SL z n (x :: (pre ++ pre2)) s t, ())) _
   have hfl := files_len z (x :: (pre ++ pre2)) s t
   rw [List.length_cons] at hfl
   have c0 : (((files z (x :: (pre ++ pre2)) s t).length : Nat) : Int) > 1 := by omega
   have c1 : (0 : Int) < (((files z (x :: (pre ++ pre2)) s t).length : Nat) : Int) := by omega
   rw [filesB, List.map_cons] at hc
   injection hc with h1 h2
   have hbx : bdF (F z x EB) := hok.bd _ (by rw [files_cons]; simp)
   have hr : Ev (fun k => file_Read k (((files z (x :: (pre ++ pre2)) s t).getD (Int.toNat 0) Zf).1, ((files z (x :: (pre ++ pre2)) s t).getD (Int.toNat 0) Zf).2.1, ((files z (x :: (pre ++ pre2)) s t).getD (Int.toNat 0) Zf).2.2.1, ())) (x ++ EB, ()) := fileRead_ev hbx
   have hs : ScanIs (x ++ EB).data.toList n p [] := by rw [app_E, h1]; exact scan_whole ho.1
   have b1 := hbx.1
   have b1 : x.size <= 4000 := b1
   have hE := EB_size
   have sc := scan1_of (by omega) (by omega) hs
   have gl := scan_len hs
   rw [size_toList, ByteArray.size_append] at gl
   simp at gl
   have n0 := hok.n0
   have n1 := hok.n1
   have c2 : ¬ (((recsB n p).length : Nat) : Int) < ((x ++ EB).size : Int) := by rw [ByteArray.size_append]; omega
   have hw : IntKind.i64.wrap (n + ((p.map mkB).length : Int)) = n + p.length := by rw [List.length_map, wrap_id (by omega) (by omega)]
   by_cases h : n + (p.length : Int) > imin u 900000000
   . have q : dropQ u n (x :: pre) (p :: qs) = (n, x :: pre, p :: qs) := by rw [dropQ, if_pos h]
     rw [q]
     have c3 : IntKind.i64.wrap (n + ((p.map mkB).length : Int)) > imin u 900000000 := by rw [hw]; exact h
     exact Ev.step (Ev.dt c0 (Ev.dt c1 (Ev.bind hr (Ev.bind sc (Ev.df c2 (Ev.dt c3 (Ev.now _)))))))
   . have q : dropQ u n (x :: pre) (p :: qs) = dropQ u (n + p.length) pre qs := by rw [dropQ, if_neg h]
     rw [q]
     have c3 : ¬ IntKind.i64.wrap (n + ((p.map mkB).length : Int)) > imin u 900000000 := by rw [hw]; exact h
     have c4 : (1 : Int) <= (((files z (x :: (pre ++ pre2)) s t).length : Nat) : Int) := by omega
     have hd : List.drop (Int.toNat 1) (List.take (files z (x :: (pre ++ pre2)) s t).length (files z (x :: (pre ++ pre2)) s t)) = files z (pre ++ pre2) s t := by rw [List.take_length]; rfl
     have him := (imin_le u 900000000).2
     have en : n + (((p :: qs).flatten.length : Nat) : Int) = n + p.length + qs.flatten.length := by rw [flat_cons, List.length_append]; omega
     rw [en] at hstop
     have ih := drop_any u pre2 pre qs (n + p.length) ⟨hok.z0, hok.z1, by omega, by omega, by have := hok.l; rw [List.length_cons] at this; omega, fun y hy => hok.p y (List.mem_cons_of_mem _ hy), hok.e⟩ h2 ho.2 hstop
     have ih' : Ev (fun k => segment_Drop_l1 u k ((z, IntKind.i64.wrap (n + ((p.map mkB).length : Int)), List.drop (Int.toNat 1) (List.take (files z (x :: (pre ++ pre2)) s t).length (files z (x :: (pre ++ pre2)) s t)), ()), ())) (.exit 0, SL z (dropQ u (n + p.length) pre qs).1 ((dropQ u (n + p.length) pre qs).2.1 ++ pre2) s t, ()) := by rw [hd, hw]; exact ih
     exact Ev.step (Ev.dt c0 (Ev.dt c1 (Ev.bind hr (Ev.bind sc (Ev.df c2 (Ev.df c3 (Ev.dt c4 (Ev.share ih'))))))))
theorem Drop_any {z n : Int} {pre pre2 : List ByteArray} {s t : ByteArray} {qs : List (List Txt)} (hok : okL z n (pre ++ pre2) s t) (hc : pre.map (fun x => x.data.toList) = filesB n qs) (ho : partsOk n qs) (hs : StopAt (n + qs.flatten.length) pre2) (u : Int) :
 Ev (fun k => segment_Drop k (SL z n (pre ++ pre2) s t) u) (SL z (dropQ u n pre qs).1 ((dropQ u n pre qs).2.1 ++ pre2) s t, 0, ()) /\ okL z (dropQ u n pre qs).1 ((dropQ u n pre qs).2.1 ++ pre2) s t := by
 have h := drop_any u pre2 pre qs n hok hc ho hs
 obtain ⟨_, _, ⟨d, _, hd⟩, hm, hl, hp⟩ := dropQ_spec u pre qs n hc ho
 constructor
 . refine Ev.bind (Is_true hok) (Ev.f rfl (Ev.dt hok.c0 (Ev.share (Ev.share ?_))))
   refine Ev.bind (x := (AExit.exit 0, SL z (dropQ u n pre qs).1 ((dropQ u n pre qs).2.1 ++ pre2) s t, ())) ?_ (Ev.t rfl (Ev.now _))
   rw [copyL (files z (pre ++ pre2) s t)]
   exact h
 . have n0 := hok.n0
   have n1 := hok.n1
   have him := (imin_le u 900000000).2
   refine ⟨hok.z0, hok.z1, by rw [hd]; omega, by rcases hm with q | q <;> omega, ?_, fun x hx => ?_, hok.e⟩
   . have := hok.l; rw [List.length_append] at this ⊢; omega
   . rcases List.mem_append.1 hx with hx | hx
     . exact hok.p x (List.mem_append_left _ (hp x hx))
     . exact hok.p x (List.mem_append_right _ hx)
theorem pre_cont (z : Int) (pre : List ByteArray) : (pre.map (fun x => F z x EB)).map contF = pre.map (fun x => x.data.toList) := by
 rw [List.map_map]
 apply List.map_congr_left
 intro x _
 exact contF_pre z x
theorem Drop_tells {z n : Int} {pre : List ByteArray} {s t : ByteArray} {T : List Txt} (hok : okL z n pre s t) (h : Whole n (files z pre s t) T \/ Broken n (files z pre s t) T) (u : Int) :
 ∃ n' pre' d T', Ev (fun k => segment_Drop k (SL z n pre s t) u) (SL z n' pre' s t, 0, ()) /\ okL z n' pre' s t /\ (Whole n' (files z pre' s t) T' \/ Broken n' (files z pre' s t) T') /\ T = d ++ T' /\ n' = n + (d.length : Int) /\ (n' = n \/ n' <= u) /\ (Whole n (files z pre s t) T -> Whole n' (files z pre' s t) T') := by
 have him := (imin_le u 900000000).1
 have whole : Whole n (files z pre s t) T -> ∃ n' pre' d T', Ev (fun k => segment_Drop k (SL z n pre s t) u) (SL z n' pre' s t, 0, ()) /\ okL z n' pre' s t /\ Whole n' (files z pre' s t) T' /\ T = d ++ T' /\ n' = n + (d.length : Int) /\ (n' = n \/ n' <= u) := by
  rintro ⟨ps, hc, ho, rfl⟩
  have hne : ps ≠ [] := by rintro rfl; rw [files_cont] at hc; simp [filesB] at hc
  obtain ⟨qs, l, rfl⟩ : ∃ qs l, ps = qs ++ [l] := ⟨ps.dropLast, ps.getLast hne, (List.dropLast_concat_getLast hne).symm⟩
  obtain ⟨p1, p2, _⟩ := (partsOk_app n qs [l]).1 ho
  rw [files_cont, filesB_app] at hc
  obtain ⟨c1, c2⟩ := List.append_inj' hc rfl
  have hok' : okL z n (pre ++ []) s t := by rw [List.append_nil]; exact hok
  obtain ⟨k1, k2⟩ := Drop_any hok' c1 p1 (.inl rfl) u
  rw [List.append_nil, List.append_nil] at k1
  rw [List.append_nil] at k2
  obtain ⟨g1, g2, ⟨d, g3, g4⟩, g5, g6, g7⟩ := dropQ_spec u pre qs n c1 p1
  have en : (dropQ u n pre qs).1 + ((dropQ u n pre qs).2.2.flatten.length : Int) = n + qs.flatten.length := by rw [g3, List.length_append]; omega
  refine ⟨_, _, d, (dropQ u n pre qs).2.2.flatten ++ l, k1, k2, ⟨(dropQ u n pre qs).2.2 ++ [l], ?_, ?_, ?_⟩, ?_, g4, ?_⟩
  . rw [files_cont, filesB_app, g1, c2, en]
  . rw [partsOk_app, en]; exact ⟨g2, p2, trivial⟩
  . rw [flat_last]
  . rw [flat_last, g3, List.append_assoc]
  . rcases g5 with g5 | g5
    . exact .inl g5
    . exact .inr (by omega)
 rcases h with h | h
 . obtain ⟨n', pre', d, T', k1, k2, k3, k4, k5, k6⟩ := whole h
   exact ⟨n', pre', d, T', k1, k2, .inl k3, k4, k5, k6, fun _ => k3⟩
 . by_cases hwh : Whole n (files z pre s t) T
   . obtain ⟨n', pre', d, T', k1, k2, k3, k4, k5, k6⟩ := whole hwh
     exact ⟨n', pre', d, T', k1, k2, .inl k3, k4, k5, k6, fun _ => k3⟩
   obtain ⟨p, f, q, ps, ts, rest, h1, h2, h3, h4, h5, rfl⟩ := h
   have key : ∃ pre1 pre2, pre = pre1 ++ pre2 /\ p = pre1.map (fun x => F z x EB) /\ StopAt (n + ps.flatten.length) pre2 /\ ∀ pr : List ByteArray, files z (pr ++ pre2) s t = pr.map (fun x => F z x EB) ++ f :: q := by
    by_cases hq : q = []
    . subst hq
      obtain ⟨e1, e2⟩ := List.append_inj' h1 rfl
      exact ⟨pre, [], by rw [List.append_nil], e1.symm, .inl rfl, fun pr => by rw [List.append_nil, <- e2]; rfl⟩
    . obtain ⟨q', e, rfl⟩ : ∃ q' e, q = q' ++ [e] := ⟨q.dropLast, q.getLast hq, (List.dropLast_concat_getLast hq).symm⟩
      have h1' : pre.map (fun x => F z x EB) ++ [F z s t] = (p ++ f :: q') ++ [e] := by rw [List.append_assoc]; exact h1
      obtain ⟨e1, e2⟩ := List.append_inj' h1' rfl
      obtain ⟨pre1, r, rfl, e3, e4⟩ := List.map_eq_append_iff.1 e1
      obtain ⟨x, r', rfl, e5, e6⟩ := List.map_eq_cons_iff.1 e4
      refine ⟨pre1, x :: r', rfl, e3.symm, .inr ⟨x, r', ts, rest, rfl, ?_, h5⟩, fun pr => ?_⟩
      . rw [<- contF_pre z x, e5]; exact h4
      . unfold files
        rw [List.map_append, List.map_cons, e5, e6, e2, List.append_assoc]; rfl
   obtain ⟨pre1, pre2, rfl, rfl, hst, hfl⟩ := key
   rw [pre_cont] at h2
   obtain ⟨k1, k2⟩ := Drop_any hok h2 h3 hst u
   obtain ⟨g1, g2, ⟨d, g3, g4⟩, g5, g6, g7⟩ := dropQ_spec u pre1 ps n h2 h3
   have en : (dropQ u n pre1 ps).1 + ((dropQ u n pre1 ps).2.2.flatten.length : Int) = n + ps.flatten.length := by rw [g3, List.length_append]; omega
   refine ⟨_, _, d, (dropQ u n pre1 ps).2.2.flatten ++ ts, k1, k2, .inr ⟨_, f, q, (dropQ u n pre1 ps).2.2, ts, rest, hfl _, ?_, g2, ?_, h5, rfl⟩, ?_, g4, ?_, fun q => absurd q hwh⟩
   . rw [pre_cont]; exact g1
   . rw [en]; exact h4
   . rw [g3, List.append_assoc]
   . rcases g5 with g5 | g5
     . exact .inl g5
     . exact .inr (by omega)
theorem Broken.syn {z n : Int} {pre : List ByteArray} {s t : ByteArray} {T : List Txt} (h : Broken n (files z pre s t) T) : Broken n (files z pre (s ++ t) EB) T := by
 obtain ⟨p, f, q, ps, ts, rest, h1, h2, h3, h4, h5, rfl⟩ := h
 by_cases hq : q = []
 . subst hq
   obtain ⟨e1, e2⟩ := List.append_inj' h1 rfl
   refine ⟨p, F z (s ++ t) EB, [], ps, ts, rest, by rw [<- e1]; rfl, h2, h3, ?_, h5, rfl⟩
   have : f = F z s t := by simpa using e2.symm
   rw [this] at h4
   have e : contF (F z (s ++ t) EB) = contF (F z s t) := by unfold contF; show (s ++ t ++ EB).data.toList = (s ++ t).data.toList; rw [app_E]
   rw [e]; exact h4
 . obtain ⟨q', e, rfl⟩ : ∃ q' e, q = q' ++ [e] := ⟨q.dropLast, q.getLast hq, (List.dropLast_concat_getLast hq).symm⟩
   have h1' : pre.map (fun x => F z x EB) ++ [F z s t] = (p ++ f :: q') ++ [e] := by rw [List.append_assoc]; exact h1
   obtain ⟨e1, e2⟩ := List.append_inj' h1' rfl
   exact ⟨p, f, q' ++ [F z (s ++ t) EB], ps, ts, rest, by unfold files; rw [e1, List.append_assoc]; rfl, h2, h3, h4, h5, rfl⟩
theorem tells_syn {z n : Int} {pre : List ByteArray} {s t : ByteArray} {T : List Txt} (h : Whole n (files z pre s t) T \/ Broken n (files z pre s t) T) : Whole n (files z pre (s ++ t) EB) T \/ Broken n (files z pre (s ++ t) EB) T := h.imp Whole.syn Broken.syn
theorem saveA_all (m : Int) (a b : ByteArray) (m' : Int) (c d : ByteArray) (n : Int) (L : List (List UInt8)) :
 (okH m a b m' c d = true /\ ∃ l, PicIs l n L /\ (l.length : Int) <= m /\ ∀ D, saveA m a b m' c d n L D = (saveJ m a b m' c d (mkB l) (nrm D), nrm D == 3, 0, ())) \/ ∃ e, e ≠ 0 /\ ∀ D, saveA m a b m' c d n L D = (HZ, false, e, ()) := by
 unfold saveA
 cases g : okH m a b m' c d with
 | false => exact .inr ⟨1, by decide, fun _ => rfl⟩
 | true =>
   simp only [cond_true]
   by_cases he : (PicA n L).2.1 = 0
   . obtain ⟨l, e, hl⟩ := PicA_is he
     simp only [he, e]
     by_cases hz : ((mkB l).size : Int) > m
     . exact .inr ⟨81, by decide, fun D => by rw [if_neg (by decide), if_pos hz]⟩
     . rw [mkB_size] at hz
       exact .inl ⟨trivial, l, hl, by omega, fun D => by rw [if_neg (by decide), if_neg (by rw [mkB_size]; exact hz)]⟩
   . exact .inr ⟨_, he, fun D => by rw [if_pos he]⟩
section
variable {S : ST} {H : HT} {z n : Int} {pre : List ByteArray} {s t tx : ByteArray} {base : Int} {P : List ByteArray} {T : List Txt} (h : Opn S H z n pre s t tx base P T)
include h
theorem Opn.snap_no {u : Int} {l : List ByteArray} {D : Int} (hu : u < base \/ u > n + T.length) : Ev (fun k => keep_Snap k (KM S H (SL z n pre s t)) u l D) (KZ, false, 80, ()) := by
 obtain ⟨w1, h2⟩ := h.pic
 by_cases c : u < base
 . exact h.go (Ev.bind (cloneF_ev h.lok.len) (Ev.bind (base_ev h2) (Ev.dt c (Ev.now _))))
 . exact h.go (Ev.bind (cloneF_ev h.lok.len) (Ev.bind (base_ev h2) (Ev.df c (Ev.bind (end_ev h.lok h.tells) (Ev.dt (by show u > n + (T.length : Int); omega) (Ev.now _))))))
theorem Opn.snap_err {u : Int} {l : List ByteArray} {D : Int} (hu : base <= u /\ u <= n + T.length) {X : HT} {w : Bool} {e : Int} (hs : Ev (fun k => snap_Save k H u l (-1)) (X, w, e, ())) (he : e ≠ 0) : Ev (fun k => keep_Snap k (KM S H (SL z n pre s t)) u l D) (KZ, false, e, ()) := by
 obtain ⟨w1, h2⟩ := h.pic
 exact h.go (Ev.bind (cloneF_ev h.lok.len) (Ev.bind (base_ev h2) (Ev.df (by show ¬ u < base; omega) (Ev.bind (end_ev h.lok h.tells) (Ev.df (by show ¬ u > n + (T.length : Int); omega) (Ev.bind hs (Ev.t (nbne_i he) (Ev.now _))))))))
end
end
end Go.Proofs.YtfhphiedbdinmaaGreatDoor.A
