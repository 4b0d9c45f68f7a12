import Derived.Test.YtfhphiedbdinmaaGreatDoorAMWin2
import Derived.Test.YtfhphiedbdinmaaGreatDoorAHCmp
set_option linter.all false
namespace Go.Proofs.YtfhphiedbdinmaaGreatDoor.A
open Go Ab
section
def ansP (c n : Int) (l : List ByteArray) : Prop := 0 <= c /\ c <= 1000 /\ -1000000000 <= n /\ n <= 1000000000 /\ (l.length : Int) <= 20 /\ ∀ x ∈ l, x.size <= 80
theorem may_w (a : AnsT3) : W (fun k => session_reply_may k a) (fun r => r.1 = true ↔ ansP a.1 a.2.1 a.2.2.1) := by
 obtain ⟨c, n, l, _⟩ := a
 unfold session_reply_may ansP
 dsimp only
 refine W.dec (fun h1 => ?_) (fun h1 => W.now (by simp; omega))
 refine W.dec (fun h2 => ?_) (fun h2 => W.now (by simp; omega))
 refine W.dec (fun h3 => ?_) (fun h3 => W.now (by simp; omega))
 refine W.dec (fun h4 => ?_) (fun h4 => W.now (by simp; omega))
 refine W.dec (fun h5 => ?_) (fun h5 => W.now (by simp; omega))
 unfold session_reply_may_l1
 refine W.bind (R := fun r => (r.1 = .exit 0 /\ ∀ x ∈ l, x.size <= 80) \/ (r.1 = .ret /\ 0 <= r.2.1 /\ ¬ ∀ x ∈ l, x.size <= 80)) (W.cnt l.length (fun (_ : Unit) i => (0, i, ())) (fun n _ => ∀ i (h : i < l.length), i < n -> l[i].size <= 80) ?_ ?_ 0 (Nat.zero_le _) () (fun i h h0 => by omega)) ?_
 . intro _ rec hI
   dsimp only
   refine W.no (by omega) (W.now (.inl ⟨rfl, fun x hx => ?_⟩))
   obtain ⟨i, hi, rfl⟩ := List.mem_iff_getElem.1 hx
   exact hI i hi hi
 . intro i _ rec hi hI hrec
   dsimp only
   refine W.y (by omega) (W.y (by omega) (W.y (by omega) ?_))
   unfold session_reply_may_1
   rw [getD_z l i hi]
   refine W.bev (Ev.now _) (W.dec (fun h => W.now (.inr ⟨rfl, by dsimp only; omega, fun q => ?_⟩)) (fun h => ?_))
   . have := q _ (List.getElem_mem hi); omega
   . rw [wrap_succ (by omega)]
     refine hrec () (fun j hj hji => ?_)
     by_cases e : j = i
     . subst e; omega
     . exact hI j hj (by omega)
 . rintro ⟨e, j, i, _⟩ (⟨h, h'⟩ | ⟨h, h0, h'⟩) <;> (dsimp only at h; subst h)
   . exact W.t rfl (W.now ⟨fun _ => ⟨h1, h2, h3, h4, h5, h'⟩, fun _ => rfl⟩)
   . dsimp only at h0 ⊢
     exact W.now ⟨fun q => by simp at q; omega, fun q => absurd q.2.2.2.2.2 h'⟩
def cliP (c : CliT) : Prop := 1 <= c.1 /\ c.1 <= 1000000000 /\ 0 <= c.2.1 /\ c.2.1 <= 1000000000 /\ 0 <= c.2.2.1 /\ c.2.2.1 <= 1000000000 /\ ansP c.2.2.2.1 c.2.2.2.2.1 c.2.2.2.2.2.1
def ltC (a b : CliT) : Prop := a.1 < b.1
def clisP (l : List CliT) : Prop := (l.length : Int) <= 30 /\ (∀ c ∈ l, cliP c) /\ l.Pairwise ltC
theorem right_w (c : CliT) : W (fun k => (session_open k c).bind fun r => session_client_right k r.1) (fun r => r.1 = true ↔ cliP c) := by
 unfold session_open session_client_right cliP
 refine W.bev (Ev.now _) ?_
 dsimp only
 refine W.dec (fun h1 => ?_) (fun h1 => W.now (by simp; omega))
 refine W.dec (fun h2 => ?_) (fun h2 => W.now (by simp; omega))
 refine W.dec (fun h3 => ?_) (fun h3 => W.now (by simp; omega))
 refine W.dec (fun h4 => ?_) (fun h4 => W.now (by simp; omega))
 refine W.dec (fun h5 => ?_) (fun h5 => W.now (by simp; omega))
 refine W.dec (fun h6 => ?_) (fun h6 => W.now (by simp; omega))
 refine W.bind (may_w (c.2.2.2.1, c.2.2.2.2.1, c.2.2.2.2.2.1, ())) fun r hr => W.now (hr.trans ⟨fun q => ⟨h1, h2, h3, h4, h5, h6, q⟩, fun q => q.2.2.2.2.2.2⟩)
theorem sis_w (l : List CliT) (hl : l.length <= 1000000) : W (fun k => session_Is k l) (fun r => r.1 = true ↔ clisP l) := by
 unfold session_Is session_Is_l1
 refine W.bind (R := fun r => (r.1 = .exit 0 /\ ∀ i (h : i < l.length), cliP l[i] /\ (0 < i -> ltC (l[i - 1]'(by omega)) l[i])) \/ (r.1 = .ret /\ r.2.1 = false /\ ¬ clisP l)) (W.cnt l.length (fun (_ : Unit) i => (false, i, ())) (fun n _ => ∀ i (h : i < l.length), i < n -> cliP l[i] /\ (0 < i -> ltC (l[i - 1]'(by omega)) l[i])) ?_ ?_ 0 (Nat.zero_le _) () (fun i h h0 => by omega)) ?_
 . intro _ rec hI
   dsimp only
   exact W.no (by omega) (W.now (.inl ⟨rfl, fun i hi => hI i hi hi⟩))
 . intro i _ rec hi hI hrec
   dsimp only
   refine W.y (by omega) (W.y (by omega) (W.y (by omega) ?_))
   simp only [Int.toNat_natCast, getD_nat hi]
   obtain ⟨y, hy, hq⟩ := right_w l[i]
   refine W.bev (Ev.now _) (W.bev (x := y) hy ?_)
   refine W.nt (fun h => W.now (.inr ⟨rfl, rfl, fun q => ?_⟩)) (fun h => ?_)
   . have := hq.2 (q.2.1 _ (List.getElem_mem hi)); rw [h] at this; cases this
   have h1 := hq.1 h
   rw [wrap_succ (by omega)]
   refine W.dec (fun h3 => ?_) (fun h3 => ?_)
   . have e : IntKind.i64.wrap ((i : Int) - 1) = ((i - 1 : Nat) : Int) := by rw [wrap_id (by omega) (by omega)]; omega
     rw [e]
     refine W.y (by omega) (W.y (by omega) ?_)
     simp only [Int.toNat_natCast, getD_nat (show i - 1 < l.length by omega)]
     refine W.dec (fun h4 => W.now (.inr ⟨rfl, rfl, fun q => ?_⟩)) (fun h4 => hrec () (fun j hj hji => ?_))
     . have := List.pairwise_iff_getElem.1 q.2.2 (i - 1) i (by omega) hi (by omega)
       unfold ltC at this; omega
     . by_cases hjn : j = i
       . subst hjn; exact ⟨h1, fun _ => by unfold ltC; omega⟩
       . exact hI j hj (by omega)
   . refine hrec () (fun j hj hji => ?_)
     by_cases hjn : j = i
     . subst hjn; exact ⟨h1, fun _ => by omega⟩
     . exact hI j hj (by omega)
 . rintro ⟨e, b, i, _⟩ (⟨h, h'⟩ | ⟨h, hb, h'⟩) <;> (dsimp only at h; subst h)
   . refine W.t rfl (W.now ⟨fun q => ⟨of_decide_eq_true q, fun c hc => ?_, adj_pairwise (R := ltC) (fun h k => by unfold ltC at *; omega) fun i hi h0 => (h' i hi).2 h0⟩, fun q => decide_eq_true q.1⟩)
     obtain ⟨j, hj, rfl⟩ := List.mem_iff_getElem.1 hc
     exact (h' j hj).1
   . dsimp only at hb
     subst hb
     exact W.now ⟨fun q => absurd q Bool.false_ne_true, fun q => absurd q h'⟩
theorem clone_ev (l : List ByteArray) (hl : l.length <= 1000000) : Ev (fun k => slices_Clone_string_string k l) (l, ()) := Ev.dt (by omega) (Ev.now _)
theorem told_ev (c : CliT) (hl : c.2.2.2.2.2.1.length <= 1000000) : Ev (fun k => (session_open k c).bind fun r => session_client_told k r.1) (c, ()) := by
 unfold session_open session_client_told session_reply_own
 exact Ev.bind (Ev.now _) (Ev.bind (Ev.bind (clone_ev _ hl) (Ev.now _)) (Ev.now _))
theorem few {l : List CliT} (h : clisP l) : ∀ c ∈ l, c.2.2.2.2.2.1.length <= 1000000 := fun c hc => by have := (h.2.1 c hc).2.2.2.2.2.2.2.2.2.2.1; omega
theorem place_w (l : List CliT) (id : Int) (hl : l.length <= 1000) : W (fun k => session_place k l id) (fun r => (r.1 = -1 /\ ∀ c ∈ l, c.1 ≠ id) \/ ∃ n : Nat, ∃ h : n < l.length, r.1 = (n : Int) /\ l[n].1 = id) := by
 unfold session_place session_place_l1
 refine W.bind (R := fun r => (r.1 = .exit 0 /\ ∀ c ∈ l, c.1 ≠ id) \/ (r.1 = .ret /\ ∃ n : Nat, ∃ h : n < l.length, r.2.1 = (n : Int) /\ l[n].1 = id)) (W.cnt l.length (fun (_ : Unit) i => (0, i, ())) (fun n _ => ∀ i (h : i < l.length), i < n -> l[i].1 ≠ id) ?_ ?_ 0 (Nat.zero_le _) () (fun i h h0 => by omega)) ?_
 . intro _ rec hI
   dsimp only
   refine W.no (by omega) (W.now (.inl ⟨rfl, fun c hc => ?_⟩))
   obtain ⟨j, hj, rfl⟩ := List.mem_iff_getElem.1 hc
   exact hI j hj hj
 . intro i _ rec hi hI hrec
   dsimp only
   refine W.y (by omega) (W.y (by omega) (W.y (by omega) ?_))
   simp only [Int.toNat_natCast, getD_nat hi]
   refine W.beq (fun h => W.now (.inr ⟨rfl, i, hi, rfl, h⟩)) (fun h => ?_)
   rw [wrap_succ (by omega)]
   refine hrec () (fun j hj hji => ?_)
   by_cases e : j = i
   . subst e; exact h
   . exact hI j hj (by omega)
 . rintro ⟨e, j, i, _⟩ (⟨h, h'⟩ | ⟨h, h'⟩) <;> (dsimp only at h; subst h)
   . exact W.t rfl (W.now (.inl ⟨rfl, h'⟩))
   . exact W.now (.inr h')
theorem check_w (l : List CliT) (id rq : Int) (h : clisP l) : W (fun k => session_Check k l id rq) (fun r => r.2.1 = 0 -> ∃ c ∈ l, c.1 = id) := by
 unfold session_Check session_Find
 have hl := h.1
 refine W.bind (R := fun r => r.2.1 = true -> ∃ c ∈ l, c.1 = id) (W.bind (place_w l id (by omega)) fun r hr => ?_) fun r hr => ?_
 . refine W.dec (fun _ => W.now (by simp)) (fun h0 => ?_)
   rcases hr with ⟨h1, _⟩ | ⟨n, hn, h1, h2⟩
   . omega
   . rw [h1]
     refine W.y (by omega) (W.y (by omega) ?_)
     simp only [Int.toNat_natCast, getD_nat hn]
     refine W.of (g := fun k => ((session_open k l[n]).bind fun r2 => session_client_told k r2.1).bind fun r3 => some (r3.1, true, ())) (fun k => by simp only [Option.bind_assoc]) ?_
     exact W.bev (told_ev l[n] (few h _ (List.getElem_mem hn))) (W.now fun _ => ⟨_, List.getElem_mem hn, h2⟩)
 . refine W.nt (fun _ => W.now (by simp)) (fun ht => ?_)
   exact W.dec (fun _ => W.now (by simp)) (fun _ => W.dec (fun _ => W.now (by simp)) (fun _ => W.beq (fun _ => W.now (by simp)) (fun _ => W.now fun _ => hr ht)))
end
section
theorem take_succ' {α : Type} {l : List α} {i : Nat} (h : i < l.length) : l.take i ++ [l[i]] = l.take (i + 1) := by rw [List.take_succ_eq_append_getElem h]
theorem copy_ev (l : List CliT) (hl : l.length <= 1000) (hf : ∀ c ∈ l, c.2.2.2.2.2.1.length <= 1000000) : Ev (fun k => session_Put_l1 l k ([], 0, ())) (.exit 0, l, (l.length : Int), ()) := by
 unfold session_Put_l1
 refine Ev.w (W.cnt l.length (fun (s : List CliT) i => (s, i, ())) (fun i s => s = l.take i) ?_ ?_ 0 (Nat.zero_le _) [] rfl)
 . rintro s rec rfl
   dsimp only
   rw [List.take_length]
   exact W.no (by omega) (W.now rfl)
 . rintro i s rec hi rfl hrec
   dsimp only
   refine W.y (by omega) (W.y (by omega) (W.y (by omega) ?_))
   simp only [Int.toNat_natCast, getD_nat hi]
   refine W.of (g := fun k => ((session_open k l[i]).bind fun r2 => session_client_told k r2.1).bind fun r8 => bif decide (((l.take i).length + 1) * 64 <= 140737488355328) then rec k (l.take i ++ [r8.1], IntKind.i64.wrap ((i : Int) + 1), ()) else none) (fun k => by simp only [Option.bind_assoc]) ?_
   refine W.bev (told_ev l[i] (hf _ (List.getElem_mem hi))) (W.y (by rw [List.length_take]; omega) ?_)
   dsimp only
   rw [take_succ' hi, wrap_succ (by omega)]
   exact hrec _ rfl
def checked (l : List CliT) (id rq : Int) : Prop := W (fun k => session_Check k l id rq) (fun r => r.2.1 = 0)
theorem check_kinds (l : List CliT) (id rq : Int) (h : clisP l) : W (fun k => session_Check k l id rq) (fun r => r.2.1 ≠ 1 -> r.2.1 ≠ 2 -> r.2.1 ≠ 3 -> r.2.1 = 0) := by
 unfold session_Check session_Find
 have hl := h.1
 refine W.bind (R := fun r => True) (W.bind (place_w l id (by omega)) fun r hr => ?_) fun r hr => ?_
 . refine W.dec (fun _ => W.now trivial) (fun h0 => ?_)
   rcases hr with ⟨h1, _⟩ | ⟨n, hn, h1, h2⟩
   . omega
   . rw [h1]
     refine W.y (by omega) (W.y (by omega) ?_)
     simp only [Int.toNat_natCast, getD_nat hn]
     refine W.of (g := fun k => ((session_open k l[n]).bind fun r2 => session_client_told k r2.1).bind fun r3 => some (r3.1, true, ())) (fun k => by simp only [Option.bind_assoc]) ?_
     exact W.bev (told_ev l[n] (few h _ (List.getElem_mem hn))) (W.now trivial)
 . refine W.nt (fun _ => W.now (by simp)) (fun ht => ?_)
   exact W.dec (fun _ => W.now (by simp)) (fun _ => W.dec (fun _ => W.now (by simp)) (fun _ => W.beq (fun _ => W.now (by simp)) (fun _ => W.now (by simp))))
theorem W.ev_of {β : Type} {f : Nat -> Option β} {y : β} {Q : β -> Prop} (h : Ev f y) (w : W f Q) : Q y := let ⟨_, e, q⟩ := w; h.one e ▸ q
theorem W.and {β : Type} {f : Nat -> Option β} {Q R : β -> Prop} (a : W f Q) (b : W f R) : W f (fun y => Q y /\ R y) := let ⟨y, e, q⟩ := a; ⟨y, e, q, W.ev_of e b⟩
theorem set_clis {l : List CliT} {n : Nat} (h : clisP l) (hn : n < l.length) {c : CliT} (hc : cliP c) (e : c.1 = l[n].1) : clisP (l.set n c) /\ (l.set n c).map Prod.fst = l.map Prod.fst := by
 have em : (l.set n c).map Prod.fst = l.map Prod.fst := by
  rw [List.map_set]
  have : c.1 = (l.map Prod.fst)[n]'(by simpa using hn) := by simpa using e
  rw [this, List.set_getElem_self]
 refine ⟨⟨by rw [List.length_set]; exact h.1, fun x hx => ?_, ?_⟩, em⟩
 . rcases List.mem_or_eq_of_mem_set hx with hx | hx
   . exact h.2.1 x hx
   . subst hx; exact hc
 . have p : (l.map Prod.fst).Pairwise (· < ·) := List.pairwise_map.2 h.2.2
   rw [<- em] at p
   have p' := (List.pairwise_map (f := Prod.fst) (R := fun a b : Int => a < b) (l := l.set n c)).1 p
   exact p'
theorem put_w (l : List CliT) (id rq now : Int) (a : AnsT3) (h : clisP l) (hc : checked l id rq) (h0 : 1 <= id /\ id <= 1000000000) (h1 : 0 <= rq /\ rq <= 1000000000) (h2 : 0 <= now /\ now <= 1000000000) (ha : ansP a.1 a.2.1 a.2.2.1) : W (fun k => session_Put k l id rq now a) (fun r => r.2.1 = 0 /\ clisP r.1 /\ r.1.map Prod.fst = l.map Prod.fst) := by
 obtain ⟨a1, a2, a3, _⟩ := a
 have hl := h.1
 unfold session_Put
 refine W.bind (sis_w l (by omega)) fun r hr => ?_
 rw [hr.2 h]
 refine W.nf rfl ?_
 refine W.no (by omega) (W.no (by omega) (W.no (by omega) ?_))
 refine W.bind (may_w (a1, a2, a3, ())) fun r hr => ?_
 rw [hr.2 ha]
 refine W.nf rfl ?_
 refine W.bind (W.and hc (check_w l id rq h)) fun r hr => ?_
 obtain ⟨e0, hid⟩ := hr
 rw [e0]
 refine W.nf rfl (W.nf rfl (W.nf rfl ?_))
 refine W.bev (copy_ev l (by omega) (few h)) (W.t rfl (W.bz ?_))
 refine W.bind (place_w l id (by omega)) fun r hr => ?_
 obtain ⟨n, hn, e1, e2⟩ : ∃ n : Nat, ∃ h : n < l.length, r.1 = (n : Int) /\ l[n].1 = id := by
  rcases hr with ⟨_, q⟩ | q
  . obtain ⟨c, hc, e⟩ := hid e0
    exact absurd e (q c hc)
  . exact q
 rw [e1]
 have hcl : cliP (id, rq, now, a1, a2, a3, ()) := ⟨h0.1, h0.2, h1.1, h1.2, h2.1, h2.2, ha⟩
 have ev : Ev (fun k => session_client_told k (a1, a2, a3, id, rq, now, ())) ((id, rq, now, a1, a2, a3, ()), ()) := told_ev (id, rq, now, a1, a2, a3, ()) (by have q : (a3.length : Int) <= 20 := ha.2.2.2.2.1; show a3.length <= 1000000; omega)
 refine W.bev ev ?_
 simp only [Int.toNat_natCast]
 refine W.y (by omega) (W.y (by omega) (W.y hn (W.sh (W.now ?_))))
 obtain ⟨q1, q2⟩ := set_clis h hn hcl (e2.symm)
 exact ⟨rfl, q1, q2⟩
theorem or_w (k0 : Nat) (a b : Int) : W (fun k => cmp_Or_int k ([a, b])) (fun _ => True) := by
 unfold cmp_Or_int cmp_Or_int_l1
 refine W.bind (R := fun r => r.1 = .exit 0 \/ r.1 = .ret) (W.cnt 2 (fun (_ : Unit) i => (0, i, ())) (fun _ _ => True) ?_ ?_ 0 (Nat.zero_le _) () trivial) ?_
 . intro _ rec _
   exact W.no (by simp) (W.now (.inl rfl))
 . intro i _ rec hi _ hrec
   dsimp only
   refine W.y (by simp; omega) (W.y (by omega) (W.y (by simp; omega) (W.ite (fun _ => W.now (.inr rfl)) (fun _ => ?_))))
   rw [wrap_succ (by omega)]
   exact hrec () trivial
 . rintro ⟨e, j, i, _⟩ (h | h) <;> (dsimp only at h; subst h)
   . exact W.t rfl (W.now trivial)
   . exact W.now trivial
end
section
theorem openCopy_ev (l : List CliT) (hl : l.length <= 1000) (hf : ∀ c ∈ l, c.2.2.2.2.2.1.length <= 1000000) : Ev (fun k => session_Open_l1 l k ([], 0, ())) (.exit 0, l, (l.length : Int), ()) := copy_ev l hl hf
theorem l4_eq : @session_Open_l4 = @session_Open_l3 := rfl
theorem l5_eq : @session_Open_l5 = @session_Open_l3 := rfl
theorem oldest_w (l : List CliT) (h1 : 1 <= l.length) (hl : l.length <= 1000) : W (fun k => session_Open_l3 (l, ()) k (0, l.getD 0 zCl, ())) (fun r => r.1 = .exit 0 /\ r.2.2.1 ∈ l) := by
 unfold session_Open_l3
 have hz : l.getD 0 zCl ∈ l := by rw [getD_nat (show 0 < l.length by omega)]; exact List.getElem_mem _
 refine W.cnt (l.length - 1) (fun (s : CliT) i => (i, s, ())) (fun i s => s ∈ l) ?_ ?_ 0 (Nat.zero_le _) _ hz
 . rintro s rec hs
   dsimp only
   exact W.no (by simp) (W.now ⟨rfl, hs⟩)
 . rintro i s rec hi hs hrec
   dsimp only
   have e1 : ((Int.toNat 1 : Nat)) = 1 := rfl
   simp only [Int.toNat_natCast, e1]
   refine W.y (by omega) (W.y (by omega) (W.y (by omega) (W.y (by omega) ?_)))
   have hm : l.getD (1 + i) zCl ∈ l := by rw [getD_nat (show 1 + i < l.length by omega)]; exact List.getElem_mem _
   refine W.bev (x := (_, ())) (Ev.all fun k => cmp_eq k _ _) ?_
   refine W.bev (x := (_, ())) (Ev.all fun k => cmp_eq k _ _) ?_
   refine W.bind (or_w 0 _ _) fun r _ => ?_
   rw [wrap_succ (by omega)]
   exact W.ite (fun _ => hrec _ hm) (fun _ => hrec _ hs)
theorem del_sub {l : List CliT} {n : Nat} (h : n < l.length) : (l.take n ++ l.drop (n + 1)).Sublist l := by
 have := (List.Sublist.refl (l.take n)).append (List.drop_sublist 1 (l.drop n))
 rw [List.take_append_drop, List.drop_drop] at this
 exact this
theorem del_eq {l : List CliT} {n : Nat} (h : n < l.length) : ∀ z : List CliT, List.take (n + (l.length - (n + 1))) (List.take (n + (l.length - (n + 1))) (List.take n l ++ (List.drop (n + 1) l ++ z)) ++ List.replicate (l.length - (n + (l.length - (n + 1)))) (0, 0, 0, 0, 0, [], ())) = l.take n ++ l.drop (n + 1) := by
 intro z
 have e : (l.take n ++ l.drop (n + 1)).length = n + (l.length - (n + 1)) := by simp; omega
 rw [<- e, <- List.append_assoc, List.take_left, List.take_left]
theorem opens_w (l : List CliT) (hl : l.length <= 1000) (m : Int) (hm : 1 <= m) : W (fun k => session_Open_l2 m k (l, ())) (fun r => r.1 = .exit 0 /\ r.2.1.Sublist l /\ (r.2.1.length : Int) < m) := by
 unfold session_Open_l2
 refine W.loop (fun x => x.1.Sublist l) (fun x => x.1.length) (fun x hx rec hrec => ?_) _ (List.Sublist.refl l)
 obtain ⟨s, _⟩ := x
 have hs := hx.length_le
 dsimp only at hx hs hrec ⊢
 refine W.dec (fun h1 => ?_) (fun h1 => W.now ⟨rfl, hx, by dsimp only; omega⟩)
 have d1 : decide (0 < (↑(List.length s) : Int)) = true := decide_eq_true (by omega)
 have d2 : decide (1 <= (↑(List.length s) : Int)) = true := decide_eq_true (by omega)
 have d3 : decide (Int.toNat 0 < List.length s) = true := decide_eq_true (by show 0 < _; omega)
 have d0 : Int.toNat 0 = 0 := rfl
 simp only [d1, d2, d3, cond_true, l4_eq, l5_eq, both_self]
 refine W.bind (R := fun r => ∃ n : Nat, ∃ h : n < s.length, r.1 = (n : Int)) ?_ ?_
 . refine W.bind (oldest_w s (by omega) (by omega)) fun r hr => ?_
   obtain ⟨e, i, b, _⟩ := r
   obtain ⟨rfl, hb⟩ := hr
   refine W.t rfl (W.bind (place_w s b.1 (by omega)) fun r hr => W.now ?_)
   rcases hr with ⟨_, q⟩ | ⟨n, hn, q, _⟩
   . exact absurd rfl (q b hb)
   . exact ⟨n, hn, q⟩
 . rintro ⟨r, _⟩ ⟨n, hn, e⟩
   dsimp only at e
   subst e
   have e1 : IntKind.i64.wrap ((n : Int) + 1) = ((n + 1 : Nat) : Int) := wrap_succ (by omega)
   simp only [e1, Int.toNat_natCast, Nat.sub_zero]
   have g1 : decide (0 <= (n : Int)) = true := decide_eq_true (by omega)
   have g2 : decide ((n : Int) <= ((n + 1 : Nat) : Int)) = true := decide_eq_true (by omega)
   have g3 : decide (((n + 1 : Nat) : Int) <= (↑(List.length s) : Int)) = true := decide_eq_true (by omega)
   have g4 : decide ((↑(List.length s) : Int) <= (↑(List.length s) : Int)) = true := decide_eq_true (by omega)
   have g5 : ((n : Int) == ((n + 1 : Nat) : Int)) = false := by simp; omega
   have g6 : decide ((n : Int) <= (↑(List.length s) : Int)) = true := decide_eq_true (by omega)
   have g7 : decide (0 <= ((n + 1 : Nat) : Int)) = true := decide_eq_true (by omega)
   have g8 : n.ble (n + 1) = true := by simp
   have g9 : (List.length s).ble (List.length s) = true := by simp
   have g10 : decide ((↑(n + (s.length - (n + 1))) : Int) <= (↑(List.length s) : Int)) = true := decide_eq_true (by omega)
   have g11 : List.take s.length s = s := List.take_length
   have e2 : (List.take n s ++ (List.drop (n + 1) s ++ List.drop (n + (s.length - (n + 1))) s)).length = s.length := by simp; omega
   have g12 : ∀ z : List CliT, List.drop s.length (List.take n s ++ (List.drop (n + 1) s ++ List.drop (n + (s.length - (n + 1))) s)) ++ z = z := fun z => by rw [List.drop_of_length_le (by omega)]; rfl
   have g13 : List.drop s.length (List.take n s ++ (List.drop (n + 1) s ++ List.drop (n + (s.length - (n + 1))) s)) = [] := List.drop_of_length_le (by omega)
   simp only [g1, g2, g3, g4, g5, g6, g7, g8, g9, g11, cond_true, cond_false, share, e2, g10, g13, List.append_nil, del_eq hn, both_self]
   refine hrec _ ((del_sub hn).trans hx) ?_
   dsimp only
   simp; omega
theorem open_w (l : List CliT) (now : Int) (h : clisP l) (h1 : 1 <= now /\ now <= 1000000000) (hb : ∀ c ∈ l, c.1 < now) : W (fun k => session_Open k l 5 now) (fun r => r.2.2.1 = 0 /\ clisP r.1 /\ ∀ c ∈ r.1, c.1 <= now) := by
 have hl := h.1
 unfold session_Open
 refine W.bind (R := fun r => r.1 = false) ?_ ?_
 . refine W.bind (sis_w l (by omega)) fun r hr => ?_
   rw [hr.2 h]
   refine W.nf rfl (W.no (by omega) (W.no (by omega) (W.no (by omega) (W.no (by omega) ?_))))
   refine W.dec (fun h2 => ?_) (fun _ => W.now rfl)
   have e : IntKind.i64.wrap ((↑l.length : Int) - 1) = ((l.length - 1 : Nat) : Int) := by rw [wrap_id (by omega) (by omega)]; omega
   rw [e]
   refine W.y (by omega) (W.y (by omega) (W.now ?_))
   simp only [Int.toNat_natCast]
   have q := hb _ (List.getElem_mem (show l.length - 1 < l.length by omega))
   rw [<- getD_nat (z := zCl) (show l.length - 1 < l.length by omega)] at q
   exact decide_eq_false (by omega)
 . rintro ⟨r, _⟩ hr
   dsimp only at hr
   subst hr
   refine W.nf rfl (W.bev (openCopy_ev l (by omega) (few h)) (W.t rfl ?_))
   refine W.bind (opens_w l (by omega) 5 (by omega)) fun r hr => ?_
   obtain ⟨e, s, _⟩ := r
   obtain ⟨rfl, hs, hn⟩ := hr
   dsimp only at hs hn ⊢
   refine W.t rfl (W.y (by omega) (W.now ⟨rfl, ⟨?_, fun c hc => ?_, ?_⟩, fun c hc => ?_⟩))
   . simp; omega
   . rcases List.mem_append.1 hc with hc | hc
     . exact h.2.1 c (hs.mem hc)
     . simp at hc; subst hc; exact ⟨h1.1, h1.2, by simp, by simp, by simp; omega, by simp; omega, by simp [ansP]⟩
   . refine List.pairwise_append.2 ⟨h.2.2.sublist hs, by simp, fun a ha b hb' => ?_⟩
     simp at hb'; subst hb'
     exact hb a (hs.mem ha)
   . rcases List.mem_append.1 hc with hc | hc
     . exact Int.le_of_lt (hb c (hs.mem hc))
     . simp at hc; subst hc; exact Int.le_refl _
end
end Go.Proofs.YtfhphiedbdinmaaGreatDoor.A
