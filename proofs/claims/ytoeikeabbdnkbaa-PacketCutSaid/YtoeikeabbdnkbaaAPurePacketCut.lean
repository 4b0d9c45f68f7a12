/- PacketCut, of data alone: bytes that are cut, or go on, are none. -/
import Derived.Test.YtoeikeabbdnkbaaAPkPut
namespace Go.Proofs.Ytoeikeabbdnkbaa.Pure
open Go Go.Proofs.Ytoeikeabbdnkbaa.Ab Go.Proofs.Ytoeikeabbdnkbaa.A
set_option linter.unusedVariables false
set_option linter.unusedSimpArgs false

abbrev cutAt (s : ByteArray) (a : Int) : Int := imin (imax a 0) (IntKind.i64.wrap ((ByteArray.size s : Int) - 1))
/-- Bytes that are cut, and bytes that go on, as a law looks at them. -/
def chk {β : Type} (G : ByteArray → Option (β × Int × Unit)) (s : ByteArray) (a b : Int) (K : Option (Bool × Unit)) : Option (Bool × Unit) :=
  (bif decide (0 ≤ cutAt s a) then (bif decide (cutAt s a ≤ (ByteArray.size s : Int)) then ((G (ByteArray.extract s 0 (cutAt s a).toNat)).bind fun r => (bif decide (ByteArray.size s + (strOfNums [b]).size ≤ 9223372036854775807) then ((G (s ++ strOfNums [b])).bind fun q => (bif r.2.1 != 20 then some (false, ()) else (bif q.2.1 != 20 then some (false, ()) else K))) else none)) else none) else none)
def lastM (k : Nat) (u : ByteArray × Int × Unit) (a b : Int) : Option (Bool × Unit) :=
  (bif u.2.1 != 0 then ((law20_packed k).bind fun r => some (r.1, ())) else (bif decide (0 ≤ cutAt u.1 a) then (bif decide (cutAt u.1 a ≤ (ByteArray.size u.1 : Int)) then ((packet_GetMsg k (ByteArray.extract u.1 0 (cutAt u.1 a).toNat)).bind fun r => (bif decide (ByteArray.size u.1 + (strOfNums [b]).size ≤ 9223372036854775807) then ((packet_GetMsg k (u.1 ++ strOfNums [b])).bind fun q => ((law20_packed k).bind fun p => (bif p.1 then (bif r.2.1 == 20 then some (q.2.1 == 20, ()) else some (false, ())) else some (false, ())))) else none)) else none) else none))
def long2 (u : ByteArray × Int × Unit) (K : Option (Bool × Unit)) : Option (Bool × Unit) := (bif u.2.1 == 0 then (bif decide ((ByteArray.size u.1 : Int) < 2) then some (false, ()) else K) else K)
def part (k : Nat) (s t u : ByteArray × Int × Unit) (a b : Int) : Option (Bool × Unit) :=
  long2 s (long2 t (long2 u (bif s.2.1 == 0 then chk (packet_GetCmd k) s.1 a b (bif t.2.1 == 0 then chk (packet_GetAnswer k) t.1 a b (lastM k u a b) else lastM k u a b) else (bif t.2.1 == 0 then chk (packet_GetAnswer k) t.1 a b (lastM k u a b) else lastM k u a b))))
set_option maxRecDepth 100000 in
theorem cut_eq (k : Nat) (c : CmdT) (a : AnsT) (m : MsgT) (i x : Int) : law20_PacketCut k c a m i x = ((ref18_BigAnswer k (a.1, a.2.1, a.2.2.1, ())).bind fun r1 => (bif r1.1 then some (true, ()) else ((ref20_Big k (m.1, m.2.1, m.2.2.1, m.2.2.2.1, m.2.2.2.2.1, m.2.2.2.2.2.1, m.2.2.2.2.2.2.1, m.2.2.2.2.2.2.2.1, ())).bind fun r2 => (bif r2.1 then some (true, ()) else ((packet_PutCmd k (c.1, c.2.1, c.2.2.1, c.2.2.2.1, c.2.2.2.2.1, c.2.2.2.2.2.1, c.2.2.2.2.2.2.1, c.2.2.2.2.2.2.2.1, ())).bind fun r3 => ((packet_PutAnswer k (a.1, a.2.1, a.2.2.1, ())).bind fun r4 => ((packet_PutMsg k (m.1, m.2.1, m.2.2.1, m.2.2.2.1, m.2.2.2.2.1, m.2.2.2.2.2.1, m.2.2.2.2.2.2.1, m.2.2.2.2.2.2.2.1, ())).bind fun r5 => part k r3 r4 r5 i x))))))) := rfl
/-- What is cut is more to come; what goes on has more behind it. -/
theorem row_cut {kind : Int} {ns : List Int} {ts : List (List UInt8)} {l p q : List UInt8} (h0 : 0 ≤ kind) (h1 : kind ≤ 99) (h : Lays kind ns ts l) (e : p ++ q = l) (hq : q ≠ []) : Ev (fun k => frame_GetRow k (mkB p)) (0, [], EB, 22, ()) := by
  obtain ⟨_, _, _, hr, hl⟩ := h
  rw [hl] at e
  exact Ev.bind (Fr_more h0 h1 hr e hq) (Ev.t (nbne_i (by decide)) (Ev.now _))
theorem row_more {kind : Int} {ns : List Int} {ts : List (List UInt8)} {l q : List UInt8} (h0 : 0 ≤ kind) (h1 : kind ≤ 99) (h : Lays kind ns ts l) (hq : (l ++ q).length ≤ 1000000) : Ev (fun k => frame_GetRow k (mkB (l ++ q))) (kind, (intsB ns :: ts).map mkB, mkB q, 0, ()) := by
  obtain ⟨_, h2, h3, hr, hl⟩ := h
  obtain ⟨k', ts', r', e', hrow, g1, _⟩ := Row_both (l ++ q) hq
  rw [hl] at hrow
  obtain ⟨rfl, rfl, rfl, rfl⟩ := hrow.back h0 h1 (by rw [List.length_cons]; omega) h3 hr
  exact g1
theorem pk_cut {β : Type} {kind : Int} {m : Nat} {z : β} {K : Nat → List Int → List ByteArray → Option β} {p : List UInt8} (h : Ev (fun k => frame_GetRow k (mkB p)) (0, [], EB, 22, ())) : Ev (fun k => pkGet k kind m (some z) (K k) (mkB p)) z := Ev.bind h (Ev.f (bne_i (by decide)) (Ev.now _))
theorem pk_more {β : Type} {kind k0 : Int} {m : Nat} {z : β} {K : Nat → List Int → List ByteArray → Option β} {p q : List UInt8} {ts : List ByteArray} (hq : q ≠ []) (h : Ev (fun k => frame_GetRow k (mkB p)) (k0, ts, mkB q, 0, ())) : Ev (fun k => pkGet k kind m (some z) (K k) (mkB p)) z := Ev.bind h (Ev.t (beq_i rfl) (Ev.f (tx_ne hq) (Ev.now _)))
theorem cutAt_is {l : List UInt8} (hl : 2 ≤ l.length) (hl2 : l.length ≤ 900000) (a : Int) : 0 ≤ cutAt (mkB l) a ∧ cutAt (mkB l) a ≤ ((mkB l).size : Int) ∧ (cutAt (mkB l) a).toNat < l.length := by
  unfold cutAt
  rw [mkB_size, wrap_id (by omega) (by omega)]
  unfold imin imax
  by_cases h1 : (0 : Int) > a
  · rw [decide_eq_true h1, cond_true]
    by_cases h2 : (l.length : Int) - 1 < 0
    · omega
    · rw [decide_eq_false h2, cond_false]; omega
  · rw [decide_eq_false h1, cond_false]
    by_cases h2 : (l.length : Int) - 1 < a
    · rw [decide_eq_true h2, cond_true]; omega
    · rw [decide_eq_false h2, cond_false]; omega
theorem byte_one (x : Int) : ∃ b : UInt8, strOfNums [x] = mkB [b] := ⟨_, nums_mk [x]⟩
section
variable {kind : Int} {ns : List Int} {ts : List (List UInt8)} {l : List UInt8}
theorem Lays.len (h : Lays kind ns ts l) : 2 ≤ l.length ∧ l.length ≤ 900000 := by
  obtain ⟨_, _, _, hr, hl⟩ := h
  have h1 := frB_len kind (rowB (intsB ns :: ts))
  have h2 := len_frB kind (rowB (intsB ns :: ts))
  rw [hl]; omega
theorem cut_both {β : Type} {m : Nat} {z : β} (K : Nat → List Int → List ByteArray → Option β) (h0 : 0 ≤ kind) (h1 : kind ≤ 99) (h : Lays kind ns ts l) (a x : Int) :
    Ev (fun k => pkGet k kind m (some z) (K k) (ByteArray.extract (mkB l) 0 (cutAt (mkB l) a).toNat)) z ∧ Ev (fun k => pkGet k kind m (some z) (K k) (mkB l ++ strOfNums [x])) z ∧ (mkB l).size + (strOfNums [x]).size ≤ 9223372036854775807 := by
  obtain ⟨l1, l2⟩ := h.len
  obtain ⟨_, _, hc⟩ := cutAt_is l1 l2 a
  obtain ⟨b, hb⟩ := byte_one x
  rw [hb, mkB_append, mkB_extract, List.drop_zero, mkB_size, mkB_size]
  refine ⟨pk_cut (row_cut h0 h1 h (List.take_append_drop (cutAt (mkB l) a).toNat l) (fun e => ?_)), pk_more (q := [b]) (by simp) (row_more h0 h1 h (by rw [List.length_append, List.length_singleton]; omega)), by rw [List.length_singleton]; omega⟩
  have := congrArg List.length e
  rw [List.length_drop, List.length_nil] at this; omega
end
theorem chk_ok {β : Type} {G : Nat → ByteArray → Option (β × Int × Unit)} {z : β} {s : ByteArray} {a x : Int} {K : Nat → Option (Bool × Unit)} (h0 : 0 ≤ cutAt s a) (h1 : cutAt s a ≤ (s.size : Int)) (h2 : Ev (fun k => G k (ByteArray.extract s 0 (cutAt s a).toNat)) (z, 20, ())) (h3 : Ev (fun k => G k (s ++ strOfNums [x])) (z, 20, ())) (h4 : s.size + (strOfNums [x]).size ≤ 9223372036854775807) (hK : Ev K (true, ())) : Ev (fun k => chk (G k) s a x (K k)) (true, ()) :=
  Ev.dt h0 (Ev.dt h1 (Ev.bind h2 (Ev.dt h4 (Ev.bind h3 (Ev.f (nbeq_i rfl) (Ev.f (nbeq_i rfl) hK))))))
theorem lastM_ok {m : MsgT} {ts : List (List UInt8)} (e : m.2.2.2.2.2.2.2.1 = ts.map mkB) (a x : Int) : Ev (fun k => lastM k (if okM m then (mkB (layM m ts), 0, ()) else (EB, 1, ())) a x) (true, ()) := by
  by_cases h : okM m
  · rw [if_pos h]
    have hl := okM_lays e h
    obtain ⟨c1, c2, _⟩ := cutAt_is hl.len.1 hl.len.2 a
    obtain ⟨g1, g2, g3⟩ := cut_both (m := 7) (z := ((0, 0, 0, 0, 0, 0, 0, [], ()), 20, ())) kM (by omega) (by omega) hl a x
    exact Ev.f (nbeq_i rfl) (Ev.dt c1 (Ev.dt c2 (Ev.bind g1 (Ev.dt g3 (Ev.bind g2 (Ev.bind packed_ok (Ev.t rfl (Ev.t (beq_i rfl) (Ev.now _)))))))))
  · rw [if_neg h]
    exact Ev.t (nbne_i (by decide)) (Ev.bind packed_ok (Ev.now _))
theorem long2_ok {u : ByteArray × Int × Unit} {K : Nat → Option (Bool × Unit)} (h : u.2.1 = 0 → 2 ≤ u.1.size) (hK : Ev K (true, ())) : Ev (fun k => long2 u (K k)) (true, ()) := by
  by_cases h0 : u.2.1 = 0
  · have := h h0
    exact Ev.t (beq_i h0) (Ev.df (by omega) hK)
  · exact Ev.f (bne_i h0) hK
theorem PacketCut : ∀ (a0 : (Int × (Int × (Int × (Int × (Int × (Int × (Int × (Int × Unit))))))))) (a1 : (Int × (Int × ((List ByteArray) × Unit)))) (a2 : (Int × (Int × (Int × (Int × (Int × (Int × (Int × ((List ByteArray) × Unit))))))))) (a3 : Int) (a4 : Int), bnd (.cons (.int .i64) (.cons (.int .i64) (.cons (.int .i64) (.cons (.int .i64) (.cons (.int .i64) (.cons (.int .i64) (.cons (.int .i64) (.cons (.int .i64) .nil)))))))) a0 → bnd (.cons (.int .i64) (.cons (.int .i64) (.cons (.sl .str) .nil))) a1 → bnd (.cons (.int .i64) (.cons (.int .i64) (.cons (.int .i64) (.cons (.int .i64) (.cons (.int .i64) (.cons (.int .i64) (.cons (.int .i64) (.cons (.sl .str) .nil)))))))) a2 → (Lit.int .i64 a3).wf = true → (Lit.int .u8 a4).wf = true → ∃ k, law20_PacketCut k a0 a1 a2 a3 a4 = some (true, ()) := by
  intro c a m i x _ ba bm _ _
  refine Ev.get ?_
  refine Ev.of (fun k => cut_eq k c a m i x) ?_
  obtain ⟨b1, b2, b3, b4, b5, b6, b7, b8, _⟩ := c
  obtain ⟨d1, d2, d3, _⟩ := a
  obtain ⟨n1, n2, n3, n4, n5, n6, n7, n8, _⟩ := m
  have la : d3.length ≤ 9223372036854775807 := Nat.le_trans ba.2.2.1.1 (by decide)
  have lm : n8.length ≤ 9223372036854775807 := Nat.le_trans bm.2.2.2.2.2.2.2.1.1 (by decide)
  have hbig : Ev (fun k => ref18_BigAnswer k (d1, d2, d3, ())) (decide ((d3.length : Int) > 40) || !shortB d3, ()) := by
    by_cases h : (d3.length : Int) > 40
    · rw [decide_eq_true h]; exact Ev.dt h (Ev.now _)
    · rw [decide_eq_false h, Bool.false_or]; exact Ev.df h (Ev.bind (Short_ok d3 la) (Ev.now _))
  refine Ev.bind hbig ?_
  cases h1 : (decide ((d3.length : Int) > 40) || !shortB d3) with
  | true => exact Ev.t rfl (Ev.now _)
  | false =>
    refine Ev.f rfl (Ev.bind (Ev.bind (Short_ok n8 lm) (Ev.now (!shortB n8, ()))) ?_)
    cases h2 : shortB n8 with
    | false => exact Ev.t rfl (Ev.now _)
    | true =>
      refine Ev.f rfl ?_
      rw [Bool.or_eq_false_iff] at h1
      have q1 := of_decide_eq_false h1.1
      have q2 := of_decide_eq_true h2
      obtain ⟨ta, eta⟩ := list_mk d3
      obtain ⟨tm, etm⟩ := list_mk n8
      have kta : ta.length ≤ 1000000 := by rw [eta, List.length_map] at q1; omega
      have ktm : tm.length ≤ 1000000 := by have := q2.1; rw [etm, List.length_map] at this; omega
      refine Ev.bind (putC_ok (b1, b2, b3, b4, b5, b6, b7, b8, ())) (Ev.bind (putA_ok (d1, d2, d3, ()) ta eta kta) (Ev.bind (putM_ok (n1, n2, n3, n4, n5, n6, n7, n8, ()) tm etm ktm) ?_))
      generalize hc : ((b1, b2, b3, b4, b5, b6, b7, b8, ()) : CmdT) = c
      generalize ha : ((d1, d2, d3, ()) : AnsT) = a
      generalize hm : ((n1, n2, n3, n4, n5, n6, n7, n8, ()) : MsgT) = m
      have eta : a.2.2.1 = ta.map mkB := by rw [← ha]; exact eta
      have etm : m.2.2.2.2.2.2.2.1 = tm.map mkB := by rw [← hm]; exact etm
      have hM := lastM_ok etm i x
      have hA : Ev (fun k => bif (if okA a then (mkB (layA a ta), 0, ()) else (EB, 1, ()) : ByteArray × Int × Unit).2.1 == 0 then chk (packet_GetAnswer k) (if okA a then (mkB (layA a ta), 0, ()) else (EB, 1, ()) : ByteArray × Int × Unit).1 i x (lastM k (if okM m then (mkB (layM m tm), 0, ()) else (EB, 1, ())) i x) else lastM k (if okM m then (mkB (layM m tm), 0, ()) else (EB, 1, ())) i x) (true, ()) := by
        by_cases h : okA a
        · rw [if_pos h]
          have hl := okA_lays eta h
          obtain ⟨c1, c2, _⟩ := cutAt_is hl.len.1 hl.len.2 i
          obtain ⟨g1, g2, g3⟩ := cut_both (m := 2) (z := ((0, 0, [], ()), 20, ())) kA (by omega) (by omega) hl i x
          exact Ev.t (beq_i rfl) (chk_ok c1 c2 g1 g2 g3 hM)
        · rw [if_neg h]; exact Ev.f (bne_i (by decide)) hM
      have hC : Ev (fun k => bif (if okC c then (mkB (layC c), 0, ()) else (EB, 1, ()) : ByteArray × Int × Unit).2.1 == 0 then chk (packet_GetCmd k) (if okC c then (mkB (layC c), 0, ()) else (EB, 1, ()) : ByteArray × Int × Unit).1 i x (bif (if okA a then (mkB (layA a ta), 0, ()) else (EB, 1, ()) : ByteArray × Int × Unit).2.1 == 0 then chk (packet_GetAnswer k) (if okA a then (mkB (layA a ta), 0, ()) else (EB, 1, ()) : ByteArray × Int × Unit).1 i x (lastM k (if okM m then (mkB (layM m tm), 0, ()) else (EB, 1, ())) i x) else lastM k (if okM m then (mkB (layM m tm), 0, ()) else (EB, 1, ())) i x) else (bif (if okA a then (mkB (layA a ta), 0, ()) else (EB, 1, ()) : ByteArray × Int × Unit).2.1 == 0 then chk (packet_GetAnswer k) (if okA a then (mkB (layA a ta), 0, ()) else (EB, 1, ()) : ByteArray × Int × Unit).1 i x (lastM k (if okM m then (mkB (layM m tm), 0, ()) else (EB, 1, ())) i x) else lastM k (if okM m then (mkB (layM m tm), 0, ()) else (EB, 1, ())) i x)) (true, ()) := by
        by_cases h : okC c
        · rw [if_pos h]
          have hl := okC_lays h
          obtain ⟨c1, c2, _⟩ := cutAt_is hl.len.1 hl.len.2 i
          obtain ⟨g1, g2, g3⟩ := cut_both (m := 8) (z := ((0, 0, 0, 0, 0, 0, 0, 0, ()), 20, ())) kC (by omega) (by omega) hl i x
          exact Ev.t (beq_i rfl) (chk_ok c1 c2 g1 g2 g3 hA)
        · rw [if_neg h]; exact Ev.f (bne_i (by decide)) hA
      refine long2_ok (fun q => ?_) (long2_ok (fun q => ?_) (long2_ok (fun q => ?_) hC))
      · by_cases h : okC c
        · rw [if_pos h]; show 2 ≤ (mkB _).size; rw [mkB_size]; exact (okC_lays h).len.1
        · rw [if_neg h] at q; exact absurd q (by decide)
      · by_cases h : okA a
        · rw [if_pos h]; show 2 ≤ (mkB _).size; rw [mkB_size]; exact (okA_lays eta h).len.1
        · rw [if_neg h] at q; exact absurd q (by decide)
      · by_cases h : okM m
        · rw [if_pos h]; show 2 ≤ (mkB _).size; rw [mkB_size]; exact (okM_lays etm h).len.1
        · rw [if_neg h] at q; exact absurd q (by decide)
end Go.Proofs.Ytoeikeabbdnkbaa.Pure
