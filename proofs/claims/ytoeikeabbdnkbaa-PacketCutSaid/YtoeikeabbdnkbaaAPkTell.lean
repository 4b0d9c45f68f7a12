/- Packets: the examples, texts that are the same, what is put. -/
import Derived.Test.YtoeikeabbdnkbaaAPkBoth
import Derived.KernelRfl
namespace Go.Proofs.Ytoeikeabbdnkbaa.Pure
open Go Go.Proofs.Ytoeikeabbdnkbaa.Ab Go.Proofs.Ytoeikeabbdnkbaa.A
set_option linter.unusedVariables false
set_option linter.unusedSimpArgs false

set_option maxRecDepth 100000 in
theorem packed_all (q : Nat) : law20_packed (q + 60) = some (true, ()) := by kernel_rfl
theorem packed_ok : Ev (fun k => law20_packed k) (true, ()) := ⟨60, fun k hk => by
  obtain ⟨q, rfl⟩ : ∃ q, k = q + 60 := ⟨k - 60, by omega⟩
  exact packed_all q⟩
theorem Texts_l (l : List ByteArray) (hl : l.length ≤ 1000000) (d : Nat) : ∀ i : Nat, i + d = l.length → Ev (fun k => ref01_Texts_l1 l l k (false, (i : Int), ())) (.exit 0, false, (l.length : Int), ()) := by
  induction d with
  | zero =>
    intro i hi
    obtain rfl : i = l.length := by omega
    exact Ev.step (Ev.df (by show ¬ (l.length : Int) < l.length; omega) (Ev.now _))
  | succ d ih =>
    intro i hi
    have c0 : (i : Int) < (l.length : Int) := by omega
    have c1 : (0 : Int) ≤ (i : Int) := by omega
    have ih := ih (i + 1) (by omega)
    rw [← wrap_succ (by omega)] at ih
    exact Ev.step (Ev.dt c0 (Ev.dt c1 (Ev.dt c0 (Ev.dt c1 (Ev.dt c0 (Ev.f (by simp) ih))))))
theorem Texts_ok (l : List ByteArray) (hl : l.length ≤ 1000000) : Ev (fun k => ref01_Texts k l l) (true, ()) :=
  Ev.f (nbeq_i rfl) (Ev.bind (Texts_l l hl l.length 0 (by omega)) (Ev.t rfl (Ev.now _)))
theorem Short_l (l : List ByteArray) (hl : l.length ≤ 9223372036854775807) (d : Nat) : ∀ i : Nat, i + d = l.length → (∀ j (h : j < l.length), j < i → (l[j]).size ≤ 300) →
    (Ev (fun k => ref01_Short_l1 l k (false, (i : Int), ())) (.exit 0, false, (l.length : Int), ()) ∧ ∀ x ∈ l, x.size ≤ 300) ∨ (∃ u, Ev (fun k => ref01_Short_l1 l k (false, (i : Int), ())) (.ret, false, u, ()) ∧ ¬ ∀ x ∈ l, x.size ≤ 300) := by
  induction d with
  | zero =>
    intro i hi h
    obtain rfl : i = l.length := by omega
    refine .inl ⟨Ev.step (Ev.df (by show ¬ (l.length : Int) < l.length; omega) (Ev.now _)), fun x hx => ?_⟩
    obtain ⟨j, hj, rfl⟩ := List.mem_iff_getElem.1 hx
    exact h j hj hj
  | succ d ih =>
    intro i hi h
    have hlt : i < l.length := by omega
    have c0 : (i : Int) < (l.length : Int) := by omega
    have c1 : (0 : Int) ≤ (i : Int) := by omega
    have e := getD_z l i hlt
    by_cases hb : ((l[i]).size : Int) > 300
    · refine .inr ⟨(i : Int), Ev.step (Ev.dt c0 (Ev.dt c1 (Ev.dt c0 (Ev.dt (by show ((l.getD (Int.toNat (i : Int)) Ty.str.zero).size : Int) > 300; rw [e]; exact hb) (Ev.now _))))), fun hh => ?_⟩
      have := hh _ (List.getElem_mem hlt); omega
    · have go : ∀ {R}, Ev (fun k => ref01_Short_l1 l k (false, ((i + 1 : Nat) : Int), ())) R → Ev (fun k => ref01_Short_l1 l k (false, (i : Int), ())) R := fun {R} h => by
        rw [← wrap_succ (by omega)] at h
        exact Ev.step (Ev.dt c0 (Ev.dt c1 (Ev.dt c0 (Ev.df (by show ¬ ((l.getD (Int.toNat (i : Int)) Ty.str.zero).size : Int) > 300; rw [e]; exact hb) h))))
      rcases ih (i + 1) (by omega) (fun j hj hji => by
        by_cases e2 : j = i
        · subst e2; omega
        · exact h j hj (by omega)) with ⟨k1, k2⟩ | ⟨u, k1, k2⟩
      · exact .inl ⟨go k1, k2⟩
      · exact .inr ⟨u, go k1, k2⟩
def shortB (l : List ByteArray) : Bool := decide (l.length ≤ 60 ∧ ∀ x ∈ l, x.size ≤ 300)
theorem Short_ok (l : List ByteArray) (hl : l.length ≤ 9223372036854775807) : Ev (fun k => ref01_Short k l) (shortB l, ()) := by
  rcases Short_l l hl l.length 0 (by omega) (fun j _ h => absurd h (by omega)) with ⟨h1, h2⟩ | ⟨u, h1, h2⟩
  · refine Ev.bind h1 (Ev.t rfl ?_)
    have : shortB l = decide ((l.length : Int) ≤ 60) := by unfold shortB; rw [decide_eq_decide]; exact ⟨fun h => by have := h.1; omega, fun h => ⟨by omega, h2⟩⟩
    rw [this]; exact Ev.now _
  · have : shortB l = false := decide_eq_false (fun h => h2 h.2)
    rw [this]; exact Ev.bind h1 (Ev.now _)
theorem list_mk (l : List ByteArray) : ∃ ts : List (List UInt8), l = ts.map mkB := ⟨l.map (·.data.toList), by rw [List.map_map]; exact (List.map_id l).symm.trans (List.map_congr_left fun x _ => (mkB_of x).symm)⟩
theorem sameA (c n : Int) (l : List ByteArray) (hl : l.length ≤ 1000000) : Ev (fun k => ref18_SameAnswer k (c, n, l, ()) (c, n, l, ())) (true, ()) := Ev.t (beq_i rfl) (Ev.t (beq_i rfl) (Ev.bind (Texts_ok l hl) (Ev.now _)))
theorem sameM (a b c d e f g : Int) (l : List ByteArray) (hl : l.length ≤ 1000000) : Ev (fun k => ref20_Same k (a, b, c, d, e, f, g, l, ()) (a, b, c, d, e, f, g, l, ())) (true, ()) := Ev.t (beq_i rfl) (Ev.t (beq_i rfl) (Ev.t (beq_i rfl) (Ev.t (beq_i rfl) (Ev.t (beq_i rfl) (Ev.t (beq_i rfl) (Ev.t (beq_i rfl) (Ev.bind (Texts_ok l hl) (Ev.now _))))))))
theorem AnsIs.few {l : List UInt8} {a : AnsT} {e : Int} (h : AnsIs l a e) : a.2.2.1.length ≤ 1000000 := by
  rcases h with ⟨_, _, ts, h1, _, h2, _⟩ | ⟨_, rfl⟩
  · rw [h1, List.length_map]; omega
  · exact Nat.zero_le _
theorem MsgIs.few {l : List UInt8} {m : MsgT} {e : Int} (h : MsgIs l m e) : m.2.2.2.2.2.2.2.1.length ≤ 1000000 := by
  rcases h with ⟨_, _, ts, h1, _, h2, _⟩ | ⟨_, rfl⟩
  · rw [h1, List.length_map]; omega
  · exact Nat.zero_le _
end Go.Proofs.Ytoeikeabbdnkbaa.Pure
