/- Records' laws: what is added, read and mended. -/
import Derived.Test.YtbllbljligmglaaARecThy
namespace Go.Proofs.Ytbllbljligmglaa.A
open Go Go.Proofs.Ytbllbljligmglaa.Ab
set_option linter.unusedVariables false
set_option linter.unusedSimpArgs false

theorem all_texts (l : List ByteArray) : ∃ L : List (List UInt8), l = L.map mkB := by
  induction l with
  | nil => exact ⟨[], rfl⟩
  | cons x l ih => obtain ⟨L, rfl⟩ := ih; obtain ⟨t, rfl⟩ := all_text x; exact ⟨t :: L, rfl⟩
theorem Texts_l (l : List ByteArray) (hl : l.length ≤ 1000000) (d : Nat) : ∀ i : Nat, i + d = l.length → Ev (fun k => ref01_Texts_l1 l l k (false, (i : Int), ())) (.exit 0, false, (l.length : Int), ()) := by
  induction d with
  | zero =>
    intro i hi
    obtain rfl : i = l.length := by omega
    exact Ev.step (Ev.df (by show ¬ (l.length : Int) < l.length; omega) (Ev.now _))
  | succ d ih =>
    intro i hi
    have c0 : (i : Int) < (l.length : Int) := by omega
    have c1 : (0 : Int) ≤ (i : Int) := by omega
    have ih := ih (i + 1) (by omega)
    rw [← wrap_succ (by omega)] at ih
    exact Ev.step (Ev.dt c0 (Ev.dt c1 (Ev.dt c0 (Ev.dt c1 (Ev.dt c0 (Ev.f (by simp) ih))))))
theorem Texts_ok (l : List ByteArray) (hl : l.length ≤ 1000000) : Ev (fun k => ref01_Texts k l l) (true, ()) :=
  Ev.f (nbeq_i rfl) (Ev.bind (Texts_l l hl l.length 0 (by omega)) (Ev.t rfl (Ev.now _)))
theorem rfar_l (l : List ByteArray) (hl : l.length ≤ maxLen) (d : Nat) : ∀ i : Nat, i + d = l.length →
    (Ev (fun k => law13_far_l1 l k (false, (i : Int), ())) (.exit 0, false, (l.length : Int), ()) ∧ ∀ j (h : j < l.length), i ≤ j → l[j].size ≤ 1100) ∨ ∃ i', Ev (fun k => law13_far_l1 l k (false, (i : Int), ())) (.ret, true, i', ()) := by
  unfold maxLen at hl
  induction d with
  | zero =>
    intro i hi
    obtain rfl : i = l.length := by omega
    exact .inl ⟨Ev.step (Ev.df (by show ¬ (l.length : Int) < l.length; omega) (Ev.now _)), fun j h h' => by omega⟩
  | succ d ih =>
    intro i hi
    have hlt : i < l.length := by omega
    have c0 : (i : Int) < (l.length : Int) := by omega
    have c1 : (0 : Int) ≤ (i : Int) := by omega
    have g := getD_z l i hlt
    have ih := ih (i + 1) (by omega)
    rw [← wrap_succ (by omega)] at ih
    have on : ∀ {R}, l[i].size ≤ 1100 → ¬ (200 < l[i].size ∧ l[i].size ≤ 1000) → Ev (fun k => law13_far_l1 l k (false, IntKind.i64.wrap ((i : Int) + 1), ())) R → Ev (fun k => law13_far_l1 l k (false, (i : Int), ())) R := by
      intro R q1 q2 h
      have h3 : ¬ ((l.getD (Int.toNat (i : Int)) Ty.str.zero).size : Int) > 1100 := by rw [g]; omega
      by_cases q : l[i].size > 200
      · have h1 : ((l.getD (Int.toNat (i : Int)) Ty.str.zero).size : Int) > 200 := by rw [g]; omega
        have h2 : ¬ ((l.getD (Int.toNat (i : Int)) Ty.str.zero).size : Int) ≤ 1000 := by rw [g]; omega
        exact Ev.step (Ev.dt c0 (Ev.dt c1 (Ev.dt c0 (Ev.dt h1 (Ev.dt c1 (Ev.dt c0 (Ev.df h2 (Ev.dt c1 (Ev.dt c0 (Ev.df h3 h))))))))))
      · have h1 : ¬ ((l.getD (Int.toNat (i : Int)) Ty.str.zero).size : Int) > 200 := by rw [g]; omega
        exact Ev.step (Ev.dt c0 (Ev.dt c1 (Ev.dt c0 (Ev.df h1 (Ev.dt c1 (Ev.dt c0 (Ev.df h3 h)))))))
    by_cases q1 : l[i].size ≤ 1100
    · by_cases q2 : 200 < l[i].size ∧ l[i].size ≤ 1000
      · have h1 : ((l.getD (Int.toNat (i : Int)) Ty.str.zero).size : Int) > 200 := by rw [g]; omega
        have h2 : ((l.getD (Int.toNat (i : Int)) Ty.str.zero).size : Int) ≤ 1000 := by rw [g]; omega
        exact .inr ⟨_, Ev.step (Ev.dt c0 (Ev.dt c1 (Ev.dt c0 (Ev.dt h1 (Ev.dt c1 (Ev.dt c0 (Ev.dt h2 (Ev.now _))))))))⟩
      · rcases ih with ⟨h, k⟩ | ⟨i', h⟩
        · refine .inl ⟨on q1 q2 h, fun j hj hij => ?_⟩
          rcases Nat.lt_or_ge i j with hh | hh
          · exact k j hj (by omega)
          · obtain rfl : i = j := by omega
            exact q1
        · exact .inr ⟨i', on q1 q2 h⟩
    · have h1 : ((l.getD (Int.toNat (i : Int)) Ty.str.zero).size : Int) > 200 := by rw [g]; omega
      have h2 : ¬ ((l.getD (Int.toNat (i : Int)) Ty.str.zero).size : Int) ≤ 1000 := by rw [g]; omega
      have h3 : ((l.getD (Int.toNat (i : Int)) Ty.str.zero).size : Int) > 1100 := by rw [g]; omega
      exact .inr ⟨_, Ev.step (Ev.dt c0 (Ev.dt c1 (Ev.dt c0 (Ev.dt h1 (Ev.dt c1 (Ev.dt c0 (Ev.df h2 (Ev.dt c1 (Ev.dt c0 (Ev.dt h3 (Ev.now _)))))))))))⟩
theorem rfar_ok (m : Int) (s t : ByteArray) (l : List ByteArray) (hl : l.length ≤ maxLen) : ∃ x, Ev (fun k => law13_far k (F m s t) l) (x, ()) ∧ (x = false → s.size ≤ 2000 ∧ t.size ≤ 2000 ∧ l.length ≤ 30 ∧ ∀ y ∈ l, y.size ≤ 1100) := by
  rcases rfar_l l hl l.length 0 (by omega) with ⟨h, k⟩ | ⟨i', h⟩
  · cases g : decide (s.size > 2000 ∨ t.size > 2000) with
    | true => exact ⟨true, Ev.bind h (Ev.t rfl (Ev.bind (Ev.all fun k => rBig_ok k m s t) (Ev.t g (Ev.now _)))), fun h => by cases h⟩
    | false =>
      have g' := of_decide_eq_false g
      exact ⟨decide ((l.length : Int) > 30), Ev.bind h (Ev.t rfl (Ev.bind (Ev.all fun k => rBig_ok k m s t) (Ev.f g (Ev.now _)))), fun h => ⟨by omega, by omega, by have := of_decide_eq_false h; omega, fun y hy => by
        obtain ⟨j, hj, rfl⟩ := List.getElem_of_mem hy
        exact k j hj (Nat.zero_le _)⟩⟩
  · exact ⟨true, Ev.bind h (Ev.now _), fun h => by cases h⟩

/-! ### What is added -/
def recL : Int → List (List UInt8) → List ByteArray
  | _, [] => []
  | n, t :: ts => mkB (recB n t) :: recL (n + 1) ts
theorem cat_recL (n : Int) (ts : List (List UInt8)) : cat (recL n ts) = mkB (recsB n ts) := by
  induction ts generalizing n with
  | nil => rfl
  | cons t ts ih => rw [recL, cat_cons, ih, mkB_append]; rfl
theorem recL_len (n : Int) (ts : List (List UInt8)) : (recL n ts).length = ts.length := by
  induction ts generalizing n with
  | nil => rfl
  | cons t ts ih => rw [recL, List.length_cons, ih]; rfl
theorem recL_size (n : Int) (ts : List (List UInt8)) (h : ∀ t ∈ ts, t.length ≤ 1000) : ∀ x ∈ recL n ts, x.size ≤ 2000 := by
  induction ts generalizing n with
  | nil => intro x hx; simp [recL] at hx
  | cons t ts ih =>
    intro x hx
    rw [recL] at hx
    rcases List.mem_cons.1 hx with rfl | hx
    · have := (recB_len n t).1
      have := h t (by simp)
      rw [mkB_size]; omega
    · exact ih (n + 1) (fun t ht => h t (by simp [ht])) x hx
theorem getD_mid (p : List (List UInt8)) (t : List UInt8) (q : List (List UInt8)) : ((p ++ t :: q).map mkB).getD (Int.toNat (p.length : Int)) Ty.str.zero = mkB t := by
  rw [getD_z _ p.length (by simp)]
  simp
theorem put_good {n : Int} {t : List UInt8} (h0 : 0 ≤ n) (h1 : n ≤ 1000000000) (h2 : t.length ≤ 1000) : RecPutA n t = (mkB (recB n t), 0, ()) := by
  unfold RecPutA; rw [if_neg (by omega), if_neg (by omega)]
theorem put_long {n : Int} {t : List UInt8} (h0 : 0 ≤ n) (h1 : n ≤ 1000000000) (h2 : ¬ t.length ≤ 1000) : RecPutA n t = (EB, 2, ()) := by
  unfold RecPutA; rw [if_neg (by omega), if_pos (by omega)]
section
variable (n : Int) (L : List (List UInt8)) (hL : L.length ≤ 1000)
include hL
theorem add_l2 (h0 : 0 ≤ n) (h1 : n + L.length ≤ 1000000001) : ∀ (q p : List (List UInt8)) (acc : List ByteArray), L = p ++ q → acc.length = p.length →
    ((∀ t ∈ q, t.length ≤ 1000) ∧ Ev (fun k => record_Add_l2 n (L.map mkB) k (0, acc, (p.length : Int), F 0 EB EB, ())) (.exit 0, 0, acc ++ recL (n + p.length) q, (L.length : Int), F 0 EB EB, ())) ∨
    ((∃ t ∈ q, ¬ t.length ≤ 1000) ∧ ∃ u v, Ev (fun k => record_Add_l2 n (L.map mkB) k (0, acc, (p.length : Int), F 0 EB EB, ())) (.ret, 2, u, v, F 0 EB EB, ())) := by
  intro q
  have hm : (L.map mkB).length = L.length := List.length_map ..
  induction q with
  | nil =>
    intro p acc hp ha
    obtain rfl : L = p := by rw [hp, List.append_nil]
    refine .inl ⟨fun t h => by simp at h, Ev.step (Ev.df (by show ¬ (L.length : Int) < ((L.map mkB).length : Int); omega) ?_)⟩
    rw [recL, List.append_nil]; exact Ev.now _
  | cons t q ih =>
    intro p acc hp ha
    have hlen : L.length = p.length + (q.length + 1) := by rw [hp, List.length_append, List.length_cons]
    have c0 : (p.length : Int) < ((L.map mkB).length : Int) := by omega
    have c1 : (0 : Int) ≤ (p.length : Int) := by omega
    have w1 : IntKind.i64.wrap (n + (p.length : Int)) = n + p.length := wrap_id (by omega) (by omega)
    have w2 := wrap_succ (i := p.length) (by omega)
    have hput : Ev (fun k => record_Put k (IntKind.i64.wrap (n + (p.length : Int))) ((L.map mkB).getD (Int.toNat (p.length : Int)) Ty.str.zero)) (RecPutA (n + p.length) t) := by
      rw [w1, hp, getD_mid]; exact RecPut_ok _ _
    have hacc : (acc.length + [mkB (recB (n + p.length) t)].length) * 16 ≤ 140737488355328 := by simp; omega
    by_cases ht : t.length ≤ 1000
    · rw [put_good (by omega) (by omega) ht] at hput
      have on : ∀ {R}, Ev (fun k => record_Add_l2 n (L.map mkB) k (0, acc ++ [mkB (recB (n + p.length) t)], (((p ++ [t]).length : Nat) : Int), F 0 EB EB, ())) R → Ev (fun k => record_Add_l2 n (L.map mkB) k (0, acc, (p.length : Int), F 0 EB EB, ())) R := by
        intro R h
        rw [show (((p ++ [t]).length : Nat) : Int) = IntKind.i64.wrap ((p.length : Int) + 1) by rw [w2]; simp] at h
        exact Ev.step (Ev.dt c0 (Ev.dt c1 (Ev.dt c0 (Ev.bind hput (Ev.f rfl (Ev.dt hacc h))))))
      rcases ih (p ++ [t]) (acc ++ [mkB (recB (n + p.length) t)]) (by rw [hp]; simp) (by simp [ha]) with ⟨h, k⟩ | ⟨⟨u, hu, h⟩, x, y, k⟩
      · refine .inl ⟨fun u hu => ?_, ?_⟩
        · rcases List.mem_cons.1 hu with rfl | hu
          · exact ht
          · exact h u hu
        · have := on k
          rw [show n + (((p ++ [t]).length : Nat) : Int) = n + p.length + 1 by simp; omega, List.append_assoc] at this
          exact this
      · exact .inr ⟨⟨u, by simp [hu], h⟩, x, y, on k⟩
    · rw [put_long (by omega) (by omega) ht] at hput
      exact .inr ⟨⟨t, by simp, ht⟩, _, _, Ev.step (Ev.dt c0 (Ev.dt c1 (Ev.dt c0 (Ev.bind hput (Ev.t rfl (Ev.now _))))))⟩
/-- The document's loop. -/
theorem radd_on (h0 : 0 ≤ n) {p q : List (List UInt8)} {t : List UInt8} {e : Int} {acc : List ByteArray} (hp : L = p ++ t :: q) (ha : acc.length = p.length) (hn : n + p.length ≤ 1000000000) {R} 
    (h : Ev (fun k => ref13_Add_l1 n (L.map mkB) k (0, if t.length ≤ 1000 then e else 2, acc ++ [(RecPutA (n + p.length) t).1], (((p ++ [t]).length : Nat) : Int), F 0 EB EB, ())) R) :
    Ev (fun k => ref13_Add_l1 n (L.map mkB) k (0, e, acc, (p.length : Int), F 0 EB EB, ())) R := by
  have hm : (L.map mkB).length = L.length := List.length_map ..
  have hlen : L.length = p.length + (q.length + 1) := by rw [hp, List.length_append, List.length_cons]
  have c0 : (p.length : Int) < ((L.map mkB).length : Int) := by omega
  have c1 : (0 : Int) ≤ (p.length : Int) := by omega
  have w1 : IntKind.i64.wrap (n + (p.length : Int)) = n + p.length := wrap_id (by omega) (by omega)
  have w2 := wrap_succ (i := p.length) (by omega)
  have w3 : IntKind.i64.wrap (1000000000 - (p.length : Int)) = 1000000000 - (p.length : Int) := wrap_id (by omega) (by omega)
  have c2 : ¬ n > IntKind.i64.wrap (1000000000 - (p.length : Int)) := by rw [w3]; omega
  have hput : Ev (fun k => ref13_Put k (IntKind.i64.wrap (n + (p.length : Int))) ((L.map mkB).getD (Int.toNat (p.length : Int)) Ty.str.zero)) (RecPutA (n + p.length) t) := by
    rw [w1, hp, getD_mid]; exact rRecPut_ok _ _
  have hacc : ∀ x : ByteArray, (acc.length + [x].length) * 16 ≤ 140737488355328 := by intro x; simp; omega
  rw [show (((p ++ [t]).length : Nat) : Int) = IntKind.i64.wrap ((p.length : Int) + 1) by rw [w2]; simp] at h
  by_cases ht : t.length ≤ 1000
  · rw [if_pos ht] at h
    rw [put_good (by omega) (by omega) ht] at hput h
    exact Ev.step (Ev.dt c0 (Ev.df (by show ¬ n < 0; omega) (Ev.df c2 (Ev.dt c1 (Ev.dt c0 (Ev.bind hput (Ev.f rfl (Ev.dt (hacc _) h))))))))
  · rw [if_neg ht] at h
    rw [put_long (by omega) (by omega) ht] at hput h
    exact Ev.step (Ev.dt c0 (Ev.df (by show ¬ n < 0; omega) (Ev.df c2 (Ev.dt c1 (Ev.dt c0 (Ev.bind hput (Ev.t rfl (Ev.dt (hacc _) h))))))))
theorem radd_l (h0 : 0 ≤ n) (h1 : n + L.length ≤ 1000000001) : ∀ (q p : List (List UInt8)) (e : Int) (acc : List ByteArray), L = p ++ q → acc.length = p.length →
    ((∀ t ∈ q, t.length ≤ 1000) ∧ Ev (fun k => ref13_Add_l1 n (L.map mkB) k (0, e, acc, (p.length : Int), F 0 EB EB, ())) (.exit 0, 0, e, acc ++ recL (n + p.length) q, (L.length : Int), F 0 EB EB, ())) ∨
    ((∃ t ∈ q, ¬ t.length ≤ 1000) ∧ ∃ u, Ev (fun k => ref13_Add_l1 n (L.map mkB) k (0, e, acc, (p.length : Int), F 0 EB EB, ())) (.exit 0, 0, 2, u, (L.length : Int), F 0 EB EB, ())) := by
  intro q
  have hm : (L.map mkB).length = L.length := List.length_map ..
  induction q with
  | nil =>
    intro p e acc hp ha
    obtain rfl : L = p := by rw [hp, List.append_nil]
    refine .inl ⟨fun t h => by simp at h, Ev.step (Ev.df (by show ¬ (L.length : Int) < ((L.map mkB).length : Int); omega) ?_)⟩
    rw [recL, List.append_nil]; exact Ev.now _
  | cons t q ih =>
    intro p e acc hp ha
    have hlen : L.length = p.length + (q.length + 1) := by rw [hp, List.length_append, List.length_cons]
    have on := fun {R} => radd_on n L hL h0 (e := e) (acc := acc) hp ha (by omega) (R := R)
    by_cases ht : t.length ≤ 1000
    · rw [if_pos ht, put_good (by omega) (by omega) ht] at on
      rcases ih (p ++ [t]) e (acc ++ [mkB (recB (n + p.length) t)]) (by rw [hp]; simp) (by simp [ha]) with ⟨h, k⟩ | ⟨⟨u, hu, h⟩, x, k⟩
      · refine .inl ⟨fun u hu => ?_, ?_⟩
        · rcases List.mem_cons.1 hu with rfl | hu
          · exact ht
          · exact h u hu
        · have := on k
          rw [show n + (((p ++ [t]).length : Nat) : Int) = n + p.length + 1 by simp; omega, List.append_assoc] at this
          exact this
      · exact .inr ⟨⟨u, by simp [hu], h⟩, x, on k⟩
    · rw [if_neg ht, put_long (by omega) (by omega) ht] at on
      rcases ih (p ++ [t]) 2 (acc ++ [EB]) (by rw [hp]; simp) (by simp [ha]) with ⟨h, k⟩ | ⟨⟨u, hu, h⟩, x, k⟩
      · exact .inr ⟨⟨t, by simp, ht⟩, _, on k⟩
      · exact .inr ⟨⟨t, by simp, ht⟩, x, on k⟩
theorem radd_far (h0 : 0 ≤ n) (h1 : ¬ n + L.length ≤ 1000000001) : ∀ (q p : List (List UInt8)) (e : Int) (acc : List ByteArray), q ≠ [] → L = p ++ q → acc.length = p.length →
    ∃ u v w, Ev (fun k => ref13_Add_l1 n (L.map mkB) k (0, e, acc, (p.length : Int), F 0 EB EB, ())) (.ret, 1, u, v, w, F 0 EB EB, ()) := by
  intro q
  have hm : (L.map mkB).length = L.length := List.length_map ..
  induction q with
  | nil => intro p e acc hq; exact absurd rfl hq
  | cons t q ih =>
    intro p e acc _ hp ha
    have hlen : L.length = p.length + (q.length + 1) := by rw [hp, List.length_append, List.length_cons]
    have c0 : (p.length : Int) < ((L.map mkB).length : Int) := by omega
    by_cases hn : n + p.length ≤ 1000000000
    · obtain ⟨u, v, w, h⟩ := ih (p ++ [t]) (if t.length ≤ 1000 then e else 2) (acc ++ [(RecPutA (n + p.length) t).1]) (by rintro rfl; simp at hlen; omega) (by rw [hp]; simp) (by simp [ha])
      exact ⟨u, v, w, radd_on n L hL h0 hp ha hn h⟩
    · have w3 : IntKind.i64.wrap (1000000000 - (p.length : Int)) = 1000000000 - (p.length : Int) := wrap_id (by omega) (by omega)
      have c2 : n > IntKind.i64.wrap (1000000000 - (p.length : Int)) := by rw [w3]; omega
      exact ⟨_, _, _, Ev.step (Ev.dt c0 (Ev.df (by show ¬ n < 0; omega) (Ev.dt c2 (Ev.now _))))⟩
end
/-- What a file becomes with records behind it. -/
def addR (m : Int) (s t : ByteArray) (n : Int) (L : List (List UInt8)) : FT × Int × Unit :=
  bif okF m s t then (if L ≠ [] ∧ (n < 0 ∨ n + L.length > 1000000001) then (F 0 EB EB, 1, ()) else if ∃ x ∈ L, ¬ x.length ≤ 1000 then (F 0 EB EB, 2, ()) else addF m s t (mkB (recsB n L))) else (F 0 EB EB, 1, ())
theorem addF_not {m : Int} {s t c : ByteArray} (h : okF m s t = false) : addF m s t c = (F 0 EB EB, 1, ()) := by unfold addF; rw [h]; rfl
theorem AddR_both (m : Int) (s t : ByteArray) (hs : s.size ≤ 1000000) (ht : t.size ≤ 1000000) (n : Int) (L : List (List UInt8)) (hL : L.length ≤ 100) :
    Ev (fun k => record_Add k (F m s t) n (L.map mkB)) (addR m s t n L) ∧ Ev (fun k => ref13_Add k (F m s t) n (L.map mkB)) (addR m s t n L) := by
  have hm : (L.map mkB).length = L.length := List.length_map ..
  unfold addR
  cases g : okF m s t with
  | false =>
    exact ⟨Ev.bind (Ev.all fun k => by rw [Is_ok k m s t hs ht]) (Ev.t (by rw [g]; rfl) (Ev.now _)), Ev.bind (Ev.all fun k => by rw [rIs_ok k m s t hs ht]) (Ev.t (by rw [g]; rfl) (Ev.now _))⟩
  | true =>
    have hi : Ev (fun k => file_Is k (F m s t)) (true, ()) := Ev.all fun k => by rw [Is_ok k m s t hs ht, g]
    have hr : Ev (fun k => ref12_Is k (F m s t)) (true, ()) := Ev.all fun k => by rw [rIs_ok k m s t hs ht, g]
    have adds : (∀ x ∈ L, x.length ≤ 1000) → Ev (fun k => file_Add k (F m s t) (recL n L)) (addF m s t (mkB (recsB n L))) ∧ Ev (fun k => ref12_Add k (F m s t) (recL n L)) (addF m s t (mkB (recsB n L))) := by
      intro hx
      have z := (recsB_len n L 1000 hx).1
      have zl : (1000 + 24) * L.length ≤ 1024 * 100 := Nat.mul_le_mul_left _ hL
      constructor
      · refine Ev.all fun k => ?_
        rw [Add_ok k m s t hs ht _ (by rw [recL_len]; omega) (by rw [cat_recL, mkB_size]; omega), cat_recL]
      · refine ⟨L.length + 1, fun k hk => ?_⟩
        show ref12_Add k (F m s t) (recL n L) = _
        rw [rAdd_ok k m s t hs ht _ (by rw [recL_len]; omega) (recL_size n L hx) (by rw [recL_len]; omega), cat_recL]
    cases hl : L with
    | nil =>
      subst hl
      rw [if_neg (by simp), if_neg (by simp)]
      obtain ⟨a1, a2⟩ := adds (by simp)
      exact ⟨Ev.bind hi (Ev.f rfl (Ev.df (by show ¬ ((0 : Nat) : Int) > 0; omega) (Ev.bind (Ev.step (Ev.df (by show ¬ (0 : Int) < ((0 : Nat) : Int); omega) (Ev.now _))) (Ev.t rfl (Ev.bind a1 (Ev.now _)))))), Ev.bind hr (Ev.f rfl (Ev.bind (Ev.step (Ev.df (by show ¬ (0 : Int) < ((0 : Nat) : Int); omega) (Ev.now _))) (Ev.t rfl (Ev.f rfl (Ev.bind a2 (Ev.now _))))))⟩
    | cons x q =>
      rw [← hl]
      have hpos : 0 < L.length := by rw [hl]; simp
      have hne : L ≠ [] := by rw [hl]; simp
      have c0 : ((L.map mkB).length : Int) > 0 := by omega
      have c0' : (0 : Int) < ((L.map mkB).length : Int) := by omega
      have w1 : IntKind.i64.wrap (IntKind.i64.wrap (1000000000 - ((L.map mkB).length : Int)) + 1) = 1000000001 - (L.length : Int) := by
        rw [hm, wrap_id (n := 1000000000 - (L.length : Int)) (by omega) (by omega), wrap_id (by omega) (by omega)]; omega
      have w0 : IntKind.i64.wrap (1000000000 - 0) = 1000000000 := by rw [wrap_id (by omega) (by omega)]; omega
      by_cases h0 : n < 0
      · rw [if_pos ⟨hne, .inl h0⟩]
        exact ⟨Ev.bind hi (Ev.f rfl (Ev.dt c0 (Ev.dt h0 (Ev.now _)))), Ev.bind hr (Ev.f rfl (Ev.bind (Ev.step (Ev.dt c0' (Ev.dt h0 (Ev.now _)))) (Ev.now _)))⟩
      · by_cases h1 : n + L.length ≤ 1000000001
        · rw [if_neg (by omega)]
          rcases add_l2 n L (by omega) (by omega) h1 L [] [] rfl rfl with ⟨hx, k⟩ | ⟨hx, u, v, k⟩
          · rcases radd_l n L (by omega) (by omega) h1 L [] 0 [] rfl rfl with ⟨_, k'⟩ | ⟨⟨y, hy, hy'⟩, _⟩
            · rw [if_neg (by rintro ⟨y, hy, hy'⟩; exact hy' (hx y hy))]
              obtain ⟨a1, a2⟩ := adds hx
              have e0 : ([] : List ByteArray) ++ recL (n + (([] : List (List UInt8)).length : Int)) L = recL n L := by simp
              rw [e0] at k k'
              exact ⟨Ev.bind hi (Ev.f rfl (Ev.dt c0 (Ev.df h0 (Ev.df (by rw [w1]; omega) (Ev.bind k (Ev.t rfl (Ev.bind a1 (Ev.now _)))))))), Ev.bind hr (Ev.f rfl (Ev.bind k' (Ev.t rfl (Ev.f rfl (Ev.bind a2 (Ev.now _))))))⟩
            · exact absurd (hx y hy) hy'
          · rcases radd_l n L (by omega) (by omega) h1 L [] 0 [] rfl rfl with ⟨hx', _⟩ | ⟨_, u', k'⟩
            · obtain ⟨y, hy, hy'⟩ := hx; exact absurd (hx' y hy) hy'
            · rw [if_pos hx]
              exact ⟨Ev.bind hi (Ev.f rfl (Ev.dt c0 (Ev.df h0 (Ev.df (by rw [w1]; omega) (Ev.bind k (Ev.now _)))))), Ev.bind hr (Ev.f rfl (Ev.bind k' (Ev.t rfl (Ev.t rfl (Ev.now _)))))⟩
        · rw [if_pos ⟨hne, .inr (by omega)⟩]
          obtain ⟨u, v, w, k'⟩ := radd_far n L (by omega) (by omega) h1 L [] 0 [] hne rfl rfl
          exact ⟨Ev.bind hi (Ev.f rfl (Ev.dt c0 (Ev.df h0 (Ev.dt (by rw [w1]; omega) (Ev.now _))))), Ev.bind hr (Ev.f rfl (Ev.bind k' (Ev.now _)))⟩

/-! ### What is read and mended -/
def readR (m : Int) (s t : ByteArray) (ts : List (List UInt8)) : List ByteArray × Int × Unit := bif okF m s t then (ts.map mkB, 0, ()) else ([], 1, ())
def mendR (m : Int) (s t : ByteArray) (n : Int) (ts : List (List UInt8)) : FT × Int × Int × Unit := bif okF m s t then (F m (mkB (recsB n ts)) EB, (ts.length : Int), 0, ()) else (F 0 EB EB, 0, 1, ())
section
variable {m : Int} {s t : ByteArray} {n : Int} {ts : List (List UInt8)} {rest : List UInt8}
theorem scan_len {l : List UInt8} (h : ScanIs l n ts rest) : l.length = (recsB n ts).length + rest.length ∧ (recsB n ts).length = l.length - rest.length ∧ ts.length ≤ l.length := by
  have h1 := congrArg List.length h.2.1
  rw [List.length_append] at h1
  have := (recsB_len n ts 1000 h.1.bd.2).2
  omega
theorem scan_of (hs : s.size ≤ 100000) (ht : t.size ≤ 100000) (h : ScanIs (s ++ t).data.toList n ts rest) :
    Ev (fun k => record_Scan k (s ++ t) n) (ts.map mkB, (((recsB n ts).length : Nat) : Int), ()) ∧ Ev (fun k => ref13_Scan k (s ++ t) n) (ts.map mkB, (((recsB n ts).length : Nat) : Int), ()) := by
  have hz : (s ++ t).data.toList.length ≤ 1000000 := by rw [size_toList, ByteArray.size_append]; omega
  have := Scan_both hz h
  unfold scanA at this
  rwa [mkB_of, ← (scan_len h).2.1] at this
theorem ReadR_both (hs : s.size ≤ 100000) (ht : t.size ≤ 100000) (h : ScanIs (s ++ t).data.toList n ts rest) :
    Ev (fun k => record_Read k (F m s t) n) (readR m s t ts) ∧ Ev (fun k => ref13_Read k (F m s t) n) (readR m s t ts) := by
  obtain ⟨h1, h2⟩ := scan_of hs ht h
  unfold readR
  cases g : okF m s t with
  | false =>
    exact ⟨Ev.bind (Ev.all fun k => by rw [Is_ok k m s t (by omega) (by omega)]) (Ev.t (by rw [g]; rfl) (Ev.now _)), Ev.bind (Ev.all fun k => by rw [rIs_ok k m s t (by omega) (by omega)]) (Ev.t (by rw [g]; rfl) (Ev.now _))⟩
  | true =>
    exact ⟨Ev.bind (Ev.all fun k => by rw [Is_ok k m s t (by omega) (by omega)]) (Ev.f (by rw [g]; rfl) (Ev.bind (Ev.all fun k => read_ok k m s t (by omega) (by omega)) (Ev.bind h1 (Ev.now _)))), Ev.bind (Ev.all fun k => by rw [rIs_ok k m s t (by omega) (by omega)]) (Ev.f (by rw [g]; rfl) (Ev.bind (Ev.all fun k => rread_ok k m s t (by omega) (by omega)) (Ev.bind h2 (Ev.now _))))⟩
theorem MendR_both (hs : s.size ≤ 100000) (ht : t.size ≤ 100000) (h : ScanIs (s ++ t).data.toList n ts rest) :
    Ev (fun k => record_Mend k (F m s t) n) (mendR m s t n ts) ∧ Ev (fun k => ref13_Mend k (F m s t) n) (mendR m s t n ts) := by
  obtain ⟨h1, h2⟩ := scan_of hs ht h
  have hz : (s ++ t).data.toList.length = s.size + t.size := by rw [size_toList, ByteArray.size_append]
  obtain ⟨l1, l2, l3⟩ := scan_len h
  have hm : (ts.map mkB).length = ts.length := List.length_map ..
  unfold mendR
  cases g : okF m s t with
  | false =>
    exact ⟨Ev.bind (Ev.all fun k => by rw [Is_ok k m s t (by omega) (by omega)]) (Ev.t (by rw [g]; rfl) (Ev.now _)), Ev.bind (Ev.all fun k => by rw [rIs_ok k m s t (by omega) (by omega)]) (Ev.t (by rw [g]; rfl) (Ev.now _))⟩
  | true =>
    have hc : cutF m s t (((recsB n ts).length : Nat) : Int) = (F m (mkB (recsB n ts)) EB, 0, ()) := by
      unfold cutF
      rw [g, if_neg (by omega)]
      have : (s ++ t).extract 0 (Int.toNat (((recsB n ts).length : Nat) : Int)) = mkB (recsB n ts) := by
        rw [← mkB_of (s ++ t), mkB_extract, List.drop_zero, Int.toNat_natCast, h.2.1, List.take_left]
      rw [this]; rfl
    rw [← hm]
    exact ⟨Ev.bind (Ev.all fun k => by rw [Is_ok k m s t (by omega) (by omega)]) (Ev.f (by rw [g]; rfl) (Ev.bind (Ev.all fun k => read_ok k m s t (by omega) (by omega)) (Ev.bind h1 (Ev.bind (Ev.all fun k => (Cut_ok k m s t (by omega) (by omega) _).trans (congrArg some hc)) (Ev.now _))))), Ev.bind (Ev.all fun k => by rw [rIs_ok k m s t (by omega) (by omega)]) (Ev.f (by rw [g]; rfl) (Ev.bind (Ev.all fun k => rread_ok k m s t (by omega) (by omega)) (Ev.bind h2 (Ev.bind (Ev.all fun k => (rCut_ok k m s t (by omega) (by omega) _).trans (congrArg some hc)) (Ev.now _)))))⟩
end
theorem scan_ex (l : ByteArray) (n : Int) (h : l.size ≤ 1000000) : ∃ ts rest, ScanIs l.data.toList n ts rest := scan_all l.size l.data.toList n (by rw [size_toList]; omega) (by rw [size_toList]; exact h)
theorem noRec_nil (n : Int) : NoRec [] n := fun s q _ e => by
  have := (recB_len n s).2
  have h2 := congrArg List.length e
  rw [List.length_append] at h2; simp at h2; omega
theorem scan_whole {n : Int} {ts : List (List UInt8)} (h : recsOk n ts) : ScanIs (recsB n ts) n ts [] := ⟨h, (List.append_nil _).symm, noRec_nil _⟩
theorem scan_behind {n : Int} {a ts : List (List UInt8)} {l rest : List UInt8} (h : recsOk n a) (k : ScanIs l (n + a.length) ts rest) : ScanIs (recsB n a ++ l) n (a ++ ts) rest := by
  refine ⟨(recsOk_app n a ts).2 ⟨h, k.1⟩, by rw [k.2.1, recsB_app, List.append_assoc], ?_⟩
  rw [List.length_append, show n + ((a.length + ts.length : Nat) : Int) = n + a.length + ts.length by omega]
  exact k.2.2
theorem scan_part {n : Int} {L : List (List UInt8)} (h : recsOk n L) (j : Nat) : ∃ i rest, i ≤ L.length ∧ ScanIs ((recsB n L).take j) n (L.take i) rest := by
  induction L generalizing n j with
  | nil => exact ⟨0, [], Nat.le_refl _, by rw [recsB, List.take_nil, List.take_nil]; exact ⟨trivial, rfl, noRec_nil _⟩⟩
  | cons t L ih =>
    rw [recsB, List.take_append]
    rcases Nat.lt_or_ge j (recB n t).length with hj | hj
    · refine ⟨0, _, Nat.zero_le _, trivial, rfl, ?_⟩
      intro s q hs e
      have e0 : n + (((List.take 0 (t :: L)).length : Nat) : Int) = n := by simp
      rw [e0] at hs e
      rw [Nat.sub_eq_zero_of_le (by omega), List.take_zero] at e
      have e : (recB n t).take j ++ [] = recB n s ++ q := e
      rw [List.append_nil] at e
      have e1 : recB n t ++ [] = recB n s ++ (q ++ (recB n t).drop j) := by rw [← List.append_assoc, ← e, List.take_append_drop, List.append_nil]
      obtain ⟨_, _, e2⟩ := rec_one h.1 hs e1
      have := congrArg List.length e2
      rw [List.length_append, List.length_drop] at this
      simp at this; omega
    · obtain ⟨i, rest, hi, k1, k2, k3⟩ := ih h.2 (j - (recB n t).length)
      refine ⟨i + 1, rest, by simp; omega, ⟨h.1, k1⟩, ?_, ?_⟩
      · rw [List.take_of_length_le hj, List.take_succ_cons, recsB, List.append_assoc, ← k2]
      · rw [List.take_succ_cons, List.length_cons, show n + (((L.take i).length + 1 : Nat) : Int) = n + 1 + (L.take i).length by omega]
        exact k3
theorem same3 (x : FT) : (x.1 == x.1 && (x.2.1.toList == x.2.1.toList && (x.2.2.1.toList == x.2.2.1.toList && true))) = true := by simp
theorem addR_cases (m : Int) (s t : ByteArray) (n : Int) (L : List (List UInt8)) :
    (okF m s t = true ∧ recsOk n L ∧ okF m s (t ++ mkB (recsB n L)) = true ∧ addR m s t n L = (F m s (t ++ mkB (recsB n L)), 0, ())) ∨
    (∃ e, e ≠ 0 ∧ addR m s t n L = (F 0 EB EB, e, ()) ∧ (okF m s t = true → recsOk n L → e = 81)) := by
  unfold addR
  cases g : okF m s t with
  | false => exact .inr ⟨1, by decide, rfl, fun h => by cases h⟩
  | true =>
    by_cases h1 : L ≠ [] ∧ (n < 0 ∨ n + L.length > 1000000001)
    · exact .inr ⟨1, by decide, by simp only [cond_true]; rw [if_pos h1], fun _ h => by have := h.bd.1 h1.1; omega⟩
    · by_cases h2 : ∃ x ∈ L, ¬ x.length ≤ 1000
      · exact .inr ⟨2, by decide, by simp only [cond_true]; rw [if_neg h1, if_pos h2], fun _ h => by obtain ⟨x, hx, hx'⟩ := h2; exact absurd (h.bd.2 x hx) hx'⟩
      · have hok : recsOk n L := recsOk_of (fun hne => by
          refine ⟨?_, ?_⟩
          · rcases Int.lt_or_le n 0 with q | q
            · exact absurd ⟨hne, .inl q⟩ h1
            · exact q
          · rcases Int.lt_or_le 1000000001 (n + L.length) with q | q
            · exact absurd ⟨hne, .inr q⟩ h1
            · exact q) (fun x hx => by
          rcases Nat.lt_or_ge 1000 x.length with q | q
          · exact absurd ⟨x, hx, by omega⟩ h2
          · exact q)
        unfold addF
        rw [if_neg h1, if_neg h2, g]
        cases g2 : okF m s (t ++ mkB (recsB n L)) with
        | false => exact .inr ⟨81, by decide, rfl, fun _ _ => rfl⟩
        | true => exact .inl ⟨rfl, hok, rfl, rfl⟩
theorem addR_good {m : Int} {s t : ByteArray} {n : Int} {L : List (List UInt8)} (h : okF m s t = true) (hok : recsOk n L) (h2 : okF m s (t ++ mkB (recsB n L)) = true) : addR m s t n L = (F m s (t ++ mkB (recsB n L)), 0, ()) := by
  rcases addR_cases m s t n L with ⟨_, _, _, h3⟩ | ⟨e, _, h3, h4⟩
  · exact h3
  · exfalso
    obtain rfl := h4 h hok
    unfold addR at h3
    rw [h] at h3
    have hb := hok.bd
    simp only [cond_true] at h3
    rw [if_neg (by rintro ⟨q, q'⟩; have := hb.1 q; omega), if_neg (by rintro ⟨x, hx, hx'⟩; exact hx' (hb.2 x hx))] at h3
    unfold addF at h3
    rw [h, h2] at h3
    have h5 : (0 : Int) = 81 := congrArg (fun z : FT × Int × Unit => z.2.1) h3
    exact absurd h5 (by decide)
theorem readR_len {m : Int} {s t : ByteArray} {ts : List (List UInt8)} (h : ts.length ≤ 1000000) : (readR m s t ts).1.length ≤ 1000000 := by
  unfold readR
  cases okF m s t
  · simp
  · simpa using h
theorem bad_ok {m : Int} : Ev (fun k => file_New k m) (newF m) := Ev.all fun k => New_ok k m
theorem two_app (a b : List UInt8) : (mkB a ++ mkB b).data.toList = a ++ b := by rw [mkB_append]; rfl
end Go.Proofs.Ytbllbljligmglaa.A
