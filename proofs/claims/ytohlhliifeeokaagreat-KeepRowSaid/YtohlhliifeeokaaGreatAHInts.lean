/- wire.Ints: a row of whole numbers has just the bytes that are told here, or is refused. -/
import Derived.Test.YtohlhliifeeokaaGreatAHDigits
import Derived.Test.YtohlhliifeeokaaGreatAHBuild
import Derived.Test.YtohlhliifeeokaaGreatShelf
import Derived.Sort.LoopGhostIn
import Derived.Test.YtohlhliifeeokaaGreatAHJoin
namespace Go.Proofs.YtohlhliifeeokaaGreat.Q
open Go.RowKit Go.Shelf Go.Proofs.YtohlhliifeeokaaGreat.A
attribute [local go_sem] Oper.semAt_some
set_option linter.unusedVariables false
set_option linter.unusedSimpArgs false
def wire_Ints_f (l : List Int) : Option (ByteArray × Int) :=
  if l.length ≤ 1000000000000 then (if l.all intOk = true then some (⟨(intsB l).toArray⟩, 0) else some (⟨#[]⟩, 1)) else none
theorem own_lt {W : World} {base n : Nat} {v : Value} {xs : List Value} (h : W.ownsRow base 5 1 v n xs) (g : Nat) (hg : v.ownBlock = some g) : g < W.heap.size := by
  obtain ⟨c, fz, hh⟩ := row_cells h g hg
  exact (Array.getElem?_eq_some_iff.1 hh).1
def BX (B b Bn : Nat) (bs : List Value) (W : World) : Prop :=
  ∃ p v, B ≤ b ∧ W.heap[b]? = some (.cells #[p, v] 160 (0, 0)) ∧ W.ownsRow B 5 1 v bs.length bs ∧ v.ownBlock ≠ some b ∧ v.ownBlock ≠ some Bn ∧ (p = .pointer none ∨ p = .pointer (some ⟨b, 0, none⟩))
theorem BX.is {B b Bn : Nat} {bs : List Value} {W : World} (h : BX B b Bn bs W) : Lib.IsBuilder 160 5 B b bs W := by
  obtain ⟨p, v, h0, h1, h2, h3, _, rfl | rfl⟩ := h
  · exact .inl ⟨h0, v, h1, h2, h3⟩
  · exact .inr ⟨h0, v, h1, h2, h3⟩
theorem BX.of {B b Bn t : Nat} {bs : List Value} {W : World} {cs : Array Value} (h : Lib.IsBuilder 160 5 B b bs W) (hb : W.heap[Bn]? = some (.cells cs t (0, 0))) (ht : t ≠ 5) : BX B b Bn bs W := by
  rcases h with ⟨h0, v, h1, h2, h3⟩ | ⟨h0, v, h1, h2, h3⟩
  · exact ⟨_, v, h0, h1, h2, h3, Lib.ownBlock_ne h2 hb ht, .inl rfl⟩
  · exact ⟨_, v, h0, h1, h2, h3, Lib.ownBlock_ne h2 hb ht, .inr rfl⟩
theorem BX.kept {B b Bn : Nat} {bs : List Value} {W W' : World} {row : Option Nat} (h : BX B b Bn bs W) (hg : W.grownBy W' row) (hne : b ≠ Bn)
    (hr : ∀ r, row = some r → r = Bn ∨ ∃ o : Obj, W.heap[r]? = some o ∧ o.isCells = false) : BX B b Bn bs W' := by
  obtain ⟨p, v, h0, h1, h2, h3, h4, h5⟩ := h
  have hlt := (Array.getElem?_eq_some_iff.1 h1).1
  have nb : some b ≠ row := fun e => by
    rcases hr b e.symm with rfl | ⟨o, ho, hc⟩
    · exact hne rfl
    · rw [h1] at ho; cases ho; cases hc
  refine ⟨p, v, h0, (hg.block b hlt nb).trans h1, h2.kept hg ?_, h3, h4, h5⟩
  cases e : v.ownBlock with
  | none => exact .inl rfl
  | some g =>
    refine .inr fun e2 => ?_
    rcases hr g e2.symm with rfl | ⟨o, ho, hc⟩
    · exact h4 e
    · obtain ⟨c, fz, hh⟩ := row_cells h2 g e
      rw [hh] at ho; cases ho; cases hc
theorem others_keep {b : Nat} {cs : Array Value} {t : TypeId} {W W' : World} (h : Lib.OthersKept 5 (some b) W W') (hb : W.heap[b]? = some (.cells cs t (0, 0))) (hs : W.heap.size ≤ W'.heap.size) : KeepsOthers W W' :=
  ⟨hs, fun k o hk ho => h k o hk (fun e => by injection e with e; subst e; rw [hb] at hk; cases hk; cases ho) (fun c fz e => by subst e; cases ho)⟩
theorem isB_block {B b : Nat} {bs : List Value} {W : World} (h : Lib.IsBuilder 160 5 B b bs W) : ∃ cs, W.heap[b]? = some (.cells cs 160 (0, 0)) := by
  rcases h with ⟨h0, v, h1, h2, h3⟩ | ⟨h0, v, h1, h2, h3⟩ <;> exact ⟨_, h1⟩
theorem byteCells_snoc (l : List UInt8) (d : Int) (h0 : 0 ≤ d) (h1 : d < 256) : Lib.byteCells l ++ [Value.int .u8 d] = Lib.byteCells (l ++ [UInt8.ofNat d.toNat]) := by
  have e : ((UInt8.ofNat d.toNat).toNat : Int) = d := by
    rw [UInt8.toNat_ofNat_of_lt' (by simp [UInt8.size]; omega)]; omega
  unfold Lib.byteCells
  rw [List.map_append]
  simp only [List.map_cons, List.map_nil]
  rw [e]
theorem at_int {l0 : List Int} {A0 : Option Addr} {w : World} (h : ∀ (i : Nat) (x : Int), l0[i]? = some x → ∃ ad, A0 = some ad ∧ w.cell? (ad.add i) = some (.int .i64 x)) (i : Int) (h0 : 0 ≤ i) (h1 : i < l0.length) : ∃ ad, A0 = some ad ∧ w.cell? (ad.add i.toNat) = some (.int .i64 (l0.getD i.toNat 0)) := by
  have hi : i.toNat < l0.length := by omega
  have e : l0[i.toNat]? = some (l0.getD i.toNat 0) := by rw [List.getD_eq_getElem?_getD, List.getElem?_eq_getElem hi]; rfl
  exact h _ _ e
def IntsR (l0 : List Int) (A0 : Option Addr) (c0 b : Nat) (w : World) (k : Nat) (a : Act) (W : World) : Prop :=
  ∃ (i : Nat) (Ds : List Nat) (u5 u6 u7 u8 u12 u13 u14 u15 u16 u17 u18 u19 u20 u21 u22 u23 u24 u25 u26 u27 u28 u29 u30 u31 u32 u33 : Value), i ≤ l0.length ∧ k = l0.length - i ∧ Sd ((l0.take i).all intOk = true) ∧
    Sd (Lib.IsBuilder 160 5 b b (Lib.byteCells (intsB (l0.take i))) W) ∧ Sd (Below b w W) ∧ Sd (∀ D ∈ Ds, b ≤ D ∧ W.heap[D]? = some (.deferred (some []))) ∧ Sd Ds.Nodup ∧
    a = { tmps := #[.slice A0 l0.length c0, undef, .string ⟨#[]⟩, .int .i64 0, .pointer (some ⟨b, 0, none⟩), u5, u6, u7, u8, .slice A0 l0.length c0, .int .i64 (l0.length : Int), .int .i64 (i : Int), u12, u13, u14, u15, u16, u17, u18, u19, u20, u21, u22, u23, u24, u25, u26, u27, u28, u29, u30, u31, u32, u33], defers := marksOf Ds }
set_option maxHeartbeats 4000000 in
set_option maxRecDepth 100000 in
theorem wire_Ints_calls (A0 : Option Addr) (c0 : Nat) (l0 : List Int) (r1 : ByteArray) (r2 : Int) (w : World) (hr0 : ∀ (i : Nat) (x : Int), l0[i]? = some x → ∃ ad, A0 = some ad ∧ w.cell? (ad.add i) = some (.int .i64 x)) (h : wire_Ints_f l0 = some (r1, r2)) :
    Calls Tryz.prog 89 #[.slice A0 l0.length c0] w fun e w' => e = .returned (.tuple #[.string r1, .int .i64 r2]) ∧ Below w.heap.size w w' := by
  refine (callsIn_wide (n := 0)).1 ?_
  have hlen : l0.length ≤ 1000000000000 := by
    unfold wire_Ints_f at h
    by_cases hl : l0.length ≤ 1000000000000
    · exact hl
    · rw [if_neg hl] at h; cases h
  have HR := Sd.mk hr0
  have HH := Sd.mk h
  clear hr0 h
  have hfn : ∀ f, Fence.wide.fn f := fun _ => trivial
  have hdp : Fence.wide.depth = none := rfl
  obtain ⟨b, hb⟩ : ∃ b, w.heap.size = b := ⟨_, rfl⟩
  have HBB := Sd.mk hb
  refine callsIn_of_wp_marks Tryz.func89 rfl trivial ?_ rfl
  simp only [Tryz.ntmps89, List.size_toArray, List.length_cons, List.length_nil, Nat.reduceAdd, Nat.reduceSub, Array.replicate_succ, Array.replicate_zero, List.push_toArray, List.append_toArray, List.nil_append, List.cons_append]
  gi_wp2
  clear hb
  refine wpIn_loop_ghost_k (IntsR l0 A0 c0 b w) l0.length ?start ?round
  case start =>
    have hb := HBB.out
    have hf : Lib.IsBuilder 160 5 b b (Lib.byteCells (intsB (l0.take 0))) (w.alloc (.cells #[.pointer none, .slice none 0 0] 160)) := by
      have := Lib.fresh_isBuilder 160 5 w
      rw [hb] at this
      exact this
    exact ⟨0, [], undef, undef, undef, undef, undef, undef, undef, undef, undef, undef, undef, undef, undef, undef, undef, undef, undef, undef, undef, undef, undef, undef, undef, undef, undef, undef, Nat.zero_le _, by omega, ⟨by simp⟩, ⟨hf⟩, ⟨by rw [← hb]; exact bw_alloc (Below.refl _ _) _⟩, ⟨by simp⟩, ⟨List.nodup_nil⟩, rfl⟩
  case round =>
    rintro k a wr hrel J K hJ hK
    obtain ⟨i, Ds, u5, u6, u7, u8, u12, u13, u14, u15, u16, u17, u18, u19, u20, u21, u22, u23, u24, u25, u26, u27, u28, u29, u30, u31, u32, u33, hi, hk, HA, HI, HB, HD, HN, rfl⟩ := hrel
    by_cases hlt : i < l0.length
    · obtain ⟨ad, e, hx⟩ := at_int HR.out (i : Int) (by omega) (by omega)
      cases e
      obtain ⟨x, hxx⟩ : ∃ x, l0.getD (i : Int).toNat 0 = x := ⟨_, rfl⟩
      rw [hxx] at hx
      have hb := HBB.out
      have hx2 := (HB.out.cell (by rw [← hb]; exact World.block_lt_of_cell? w _ hx)).trans hx
      clear hx hb
      simp only [Int.toNat_natCast] at hx2
      have hxl : l0[i] = x := by rw [← hxx]; simp [List.getD_eq_getElem?_getD, List.getElem?_eq_getElem hlt]
      have HT := Sd.mk (show l0.take (i + 1) = l0.take i ++ [x] by rw [List.take_succ_eq_append_getElem hlt, hxl])
      clear hxx hxl
      by_cases hlo : x < -2147483647
      · gi_wp2
        refine leaves_marks Ds wr HD.out HN.out (by have := (isB_block HI.out).choose_spec; have := (Array.getElem?_eq_some_iff.1 this).1; omega) (fun W' hb' => ?_)
        have hbad : wire_Ints_f l0 = some (⟨#[]⟩, 1) := by
          unfold wire_Ints_f
          rw [if_pos hlen, if_neg]
          intro hall
          have h1 := List.all_eq_true.1 hall x (List.mem_of_mem_take (i := i + 1) (by rw [HT.out]; simp))
          simp [intOk] at h1
          omega
        have h2 := HH.out
        rw [hbad] at h2
        obtain ⟨rfl, rfl⟩ : (⟨#[]⟩ : ByteArray) = r1 ∧ (1 : Int) = r2 := by simpa using h2
        have hb := HBB.out
        refine ⟨.tuple #[.string ⟨#[]⟩, .int .i64 1], by simp [results, Tryz.results89, go_sem], rfl, ?_⟩
        rw [hb]
        exact HB.out.trans hb'
      · by_cases hhi : 2147483647 < x
        · gi_wp2
          refine leaves_marks Ds wr HD.out HN.out (by have := (isB_block HI.out).choose_spec; have := (Array.getElem?_eq_some_iff.1 this).1; omega) (fun W' hb' => ?_)
          have hbad : wire_Ints_f l0 = some (⟨#[]⟩, 1) := by
            unfold wire_Ints_f
            rw [if_pos hlen, if_neg]
            intro hall
            have h1 := List.all_eq_true.1 hall x (List.mem_of_mem_take (i := i + 1) (by rw [HT.out]; simp))
            simp [intOk] at h1
            omega
          have h2 := HH.out
          rw [hbad] at h2
          obtain ⟨rfl, rfl⟩ : (⟨#[]⟩ : ByteArray) = r1 ∧ (1 : Int) = r2 := by simpa using h2
          have hb := HBB.out
          refine ⟨.tuple #[.string ⟨#[]⟩, .int .i64 1], by simp [results, Tryz.results89, go_sem], rfl, ?_⟩
          rw [hb]
          exact HB.out.trans hb'
        · by_cases hneg : x < 0
          · gi_wp2_with (gi_at_call 103; refine (callsIn_wide.2 (digits_calls _ _)).mono ?_; rintro e w' ⟨rfl, rfl⟩)
            have hBn : wr.heap.size < (wr.alloc (.cells #[.int .i64 (-x)] 3)).heap.size := by simp
            have hbw : b ≤ wr.heap.size := by have := HB.out.size; have := HBB.out; omega
            have hDlt : ∀ D ∈ Ds, D < wr.heap.size := fun D hD => (Array.getElem?_eq_some_iff.1 (HD.out D hD).2).1
            have hbd : ∀ d ∈ digsF 5 (-x), 0 ≤ d ∧ d < 250 := (digsF_bd 5 (-x)).2
            have hle : ∀ pre post : List Int, ∀ d : Int, digsF 5 (-x) = pre ++ d :: post → pre.length < 5 := fun pre post d e => by
              have := (digsF_bd 5 (-x)).1
              rw [e] at this
              simp at this; omega
            have hbl : (intsB (l0.take i)).length ≤ 6 * i := by have := intsB_len (l0.take i); rw [List.length_take] at this; omega
            have hbne : b ≠ wr.heap.size := by
              obtain ⟨cs, hcs⟩ := isB_block HI.out
              have := (Array.getElem?_eq_some_iff.1 hcs).1
              omega
            have hfin : l0.take (i + 1) = l0.take i ++ [x] := HT.out
            have hy : intB x = (digsF 5 (-x)).map (fun d => UInt8.ofNat d.toNat) ++ [UInt8.ofNat (254 : Int).toNat] := by
              unfold intB
              rw [show (if x < 0 then -x else x) = -x from if_pos hneg]
              congr 1
              rw [if_pos hneg]
              rfl
            refine range_all (gf := 110) (lb := #[.pointer (some ⟨wr.heap.size, 0, none⟩)]) (encs := fun d : Int => #[Value.int .u8 d]) (Bn := wr.heap.size) (tB := 3) (xs := digsF 5 (-x)) rfl (enters_of Tryz.func110 (by kernel_rfl) rfl) hBn ?seqN ?hpsN
              (fun pre W => BX b b wr.heap.size (Lib.byteCells (intsB (l0.take i) ++ pre.map (fun d => UInt8.ofNat d.toNat))) W ∧ Below b w W ∧ ∀ D ∈ Ds, b ≤ D ∧ W.heap[D]? = some (.deferred (some []))) ?invN ?at0N ?a1N ?assignN ?bodyN ?doneN
            case assignN =>
              intro l d W K' hK'
              gi_wp2
              exact hK'
            case hpsN => intro _; rfl
            case seqN =>
              intro W hW l J' hJ' hY' h0'
              exact digits_all wr.heap.size 5 (-x) (by omega) (by omega) (by omega) l J' hJ' hY' W (hW.trans (heap_alloc_new wr _)) h0'
            case invN =>
              rintro pre W W' row ⟨h1, h2, h3⟩ hg hr
              refine ⟨h1.kept hg hbne (fun r e => (hr r e).imp_right (fun h => h.2)), h2.grown hg (by have := h2.size; have := HBB.out; omega) (fun r e => by rcases hr r e with rfl | ⟨h, _⟩; exact hbw; simp at h; omega), fun D hD => ⟨(h3 D hD).1, (hg.block D ?_ (fun e => ?_)).trans (h3 D hD).2⟩⟩
              · exact (Array.getElem?_eq_some_iff.1 (h3 D hD).2).1
              · have := hDlt D hD
                rcases hr D e.symm with rfl | ⟨h, _⟩
                · omega
                · simp at h; omega
            case at0N =>
              refine ⟨BX.of (t := 3) (cs := #[.int .i64 (-x)]) ?_ (heap_alloc_new wr _) (by decide), HB.out.alloc (by omega) _, fun D hD => ⟨(HD.out D hD).1, (Below.heap_alloc wr _ D (hDlt D hD)).trans (HD.out D hD).2⟩⟩
              have h1 : BX b b (wr.heap.size + 1) (Lib.byteCells (intsB (l0.take i))) wr := by
                obtain ⟨p, v, g0, g1, g2, g3, g5⟩ : ∃ p v, b ≤ b ∧ wr.heap[b]? = some (.cells #[p, v] 160 (0, 0)) ∧ wr.ownsRow b 5 1 v (Lib.byteCells (intsB (l0.take i))).length (Lib.byteCells (intsB (l0.take i))) ∧ v.ownBlock ≠ some b ∧ (p = .pointer none ∨ p = .pointer (some ⟨b, 0, none⟩)) := by
                  rcases HI.out with ⟨g0, v, g1, g2, g3⟩ | ⟨g0, v, g1, g2, g3⟩
                  · exact ⟨_, v, g0, g1, g2, g3, .inl rfl⟩
                  · exact ⟨_, v, g0, g1, g2, g3, .inr rfl⟩
                refine ⟨p, v, g0, g1, g2, g3, fun e => ?_, g5⟩
                have := own_lt g2 _ e
                omega
              have h2 := (h1.kept (World.grownBy_alloc wr (.cells #[.int .i64 (-x)] 3) none) (by omega) (fun r e => by cases e)).is
              simpa using h2
            case bodyN =>
              rintro l pre d post W hxs ⟨h1, h2, h3⟩ ⟨cs, hcs⟩
              have hd := hbd d (by rw [hxs]; simp)
              have hl := hle pre post d hxs
              have hbb : ∃ cs', W.heap[b]? = some (.cells cs' 160 (0, 0)) := isB_block h1.is
              obtain ⟨cs', hcs'⟩ := hbb
              have HC := CallsIn.inRound l ((callsIn_wide (n := 0)).2 (B_byte b b _ d W h1.is (by simp [Lib.byteCells]; omega) (by have := (Array.getElem?_eq_some_iff.1 hcs').1; omega)))
              have HP := Sd.mk (And.intro h1 (And.intro h2 (And.intro h3 (And.intro hcs hcs'))))
              clear h1 h2 h3 hcs hcs' hxs
              gi_wp2_with (gi_at_call 104; refine HC.mono ?_; rintro e w' ⟨rfl, k1, k2, k3⟩)
              obtain ⟨h1, h2, h3, hcs, hcs'⟩ := HP.out
              have hbn2 := k3 _ _ hcs (fun e => hbne (by injection e with e; exact e.symm)) (fun c fz e => by cases e)
              refine ⟨others_keep k3 hcs' k2.size, hbn2.trans hcs.symm, BX.of (t := 3) ?_ hbn2 (by decide), h2.trans k2, fun D hD => ⟨(h3 D hD).1, k3 _ _ (h3 D hD).2 (fun e => ?_) (fun c fz e => by cases e)⟩⟩
              · rw [List.map_append, ← List.append_assoc]
                have := byteCells_snoc (intsB (l0.take i) ++ pre.map (fun d => UInt8.ofNat d.toNat)) d hd.1 (by omega)
                simp only [List.map_cons, List.map_nil]
                rw [← this]
                exact .inr k1
              · injection e with e
                subst e
                rw [(h3 D hD).2] at hcs'
                cases hcs'
            case doneN =>
              rintro D W hD ⟨h1, h2, h3⟩ hK2
              obtain ⟨cs', hcs'⟩ := isB_block h1.is
              have hDl := (digsF_bd 5 (-x)).1
              have HC := (callsIn_wide (n := 0)).2 (B_byte b b _ 254 W h1.is (by simp [Lib.byteCells]; omega) (by have := (Array.getElem?_eq_some_iff.1 hcs').1; omega))
              have HP := Sd.mk (And.intro h1 (And.intro h2 (And.intro h3 (And.intro hK2 hcs'))))
              have HDl := Sd.mk hD
              clear h1 h2 h3 hcs' hK2 hD
              gi_wp2_with (gi_at_call 104; refine HC.mono ?_; rintro e w' ⟨rfl, k1, k2, k3⟩)
              obtain ⟨h1, h2, h3, hK2, hcs'⟩ := HP.out
              have hD := HDl.out
              simp at hD
              refine ⟨l0.length - (i + 1), by omega, hJ _ _ _ ⟨i + 1, D :: Ds, _, _, _, _, _, _, _, _, _, _, _, _, _, _, _, _, _, _, _, _, _, _, _, _, _, _, by omega, rfl, ⟨?_⟩, ⟨?_⟩, ⟨h2.trans k2⟩, ⟨?_⟩, ⟨?_⟩, rfl⟩⟩
              · rw [hfin, List.all_append, HA.out]
                simp [intOk]; omega
              · rw [hfin, intsB_snoc, hy, ← List.append_assoc, ← byteCells_snoc _ 254 (by omega) (by omega)]
                exact .inr k1
              · intro E hE
                have off : ∀ E : Nat, W.heap[E]? = some (.deferred (some [])) → w'.heap[E]? = some (.deferred (some [])) := fun E hE => k3 _ _ hE (fun e => by injection e with e; subst e; rw [hE] at hcs'; cases hcs') (fun c fz e => by cases e)
                rcases List.mem_cons.1 hE with rfl | hE
                · exact ⟨by omega, off _ hK2⟩
                · exact ⟨(h3 E hE).1, off _ (h3 E hE).2⟩
              · refine List.nodup_cons.2 ⟨fun hm => ?_, HN.out⟩
                have := hDlt D hm
                omega
          · gi_wp2_with (gi_at_call 103; refine (callsIn_wide.2 (digits_calls _ _)).mono ?_; rintro e w' ⟨rfl, rfl⟩)
            have hBn : wr.heap.size < (wr.alloc (.cells #[.int .i64 x] 3)).heap.size := by simp
            have hbw : b ≤ wr.heap.size := by have := HB.out.size; have := HBB.out; omega
            have hDlt : ∀ D ∈ Ds, D < wr.heap.size := fun D hD => (Array.getElem?_eq_some_iff.1 (HD.out D hD).2).1
            have hbd : ∀ d ∈ digsF 5 x, 0 ≤ d ∧ d < 250 := (digsF_bd 5 x).2
            have hle : ∀ pre post : List Int, ∀ d : Int, digsF 5 x = pre ++ d :: post → pre.length < 5 := fun pre post d e => by
              have := (digsF_bd 5 x).1
              rw [e] at this
              simp at this; omega
            have hbl : (intsB (l0.take i)).length ≤ 6 * i := by have := intsB_len (l0.take i); rw [List.length_take] at this; omega
            have hbne : b ≠ wr.heap.size := by
              obtain ⟨cs, hcs⟩ := isB_block HI.out
              have := (Array.getElem?_eq_some_iff.1 hcs).1
              omega
            have hfin : l0.take (i + 1) = l0.take i ++ [x] := HT.out
            have hy : intB x = (digsF 5 x).map (fun d => UInt8.ofNat d.toNat) ++ [UInt8.ofNat (255 : Int).toNat] := by
              unfold intB
              rw [show (if x < 0 then -x else x) = x from if_neg (by omega)]
              congr 1
              rw [if_neg (by omega)]
              rfl
            refine range_all (gf := 110) (lb := #[.pointer (some ⟨wr.heap.size, 0, none⟩)]) (encs := fun d : Int => #[Value.int .u8 d]) (Bn := wr.heap.size) (tB := 3) (xs := digsF 5 x) rfl (enters_of Tryz.func110 (by kernel_rfl) rfl) hBn ?seqP ?hpsP
              (fun pre W => BX b b wr.heap.size (Lib.byteCells (intsB (l0.take i) ++ pre.map (fun d => UInt8.ofNat d.toNat))) W ∧ Below b w W ∧ ∀ D ∈ Ds, b ≤ D ∧ W.heap[D]? = some (.deferred (some []))) ?invP ?at0P ?a1P ?assignP ?bodyP ?doneP
            case assignP =>
              intro l d W K' hK'
              gi_wp2
              exact hK'
            case hpsP => intro _; rfl
            case seqP =>
              intro W hW l J' hJ' hY' h0'
              exact digits_all wr.heap.size 5 x (by omega) (by omega) (by omega) l J' hJ' hY' W (hW.trans (heap_alloc_new wr _)) h0'
            case invP =>
              rintro pre W W' row ⟨h1, h2, h3⟩ hg hr
              refine ⟨h1.kept hg hbne (fun r e => (hr r e).imp_right (fun h => h.2)), h2.grown hg (by have := h2.size; have := HBB.out; omega) (fun r e => by rcases hr r e with rfl | ⟨h, _⟩; exact hbw; simp at h; omega), fun D hD => ⟨(h3 D hD).1, (hg.block D ?_ (fun e => ?_)).trans (h3 D hD).2⟩⟩
              · exact (Array.getElem?_eq_some_iff.1 (h3 D hD).2).1
              · have := hDlt D hD
                rcases hr D e.symm with rfl | ⟨h, _⟩
                · omega
                · simp at h; omega
            case at0P =>
              refine ⟨BX.of (t := 3) (cs := #[.int .i64 x]) ?_ (heap_alloc_new wr _) (by decide), HB.out.alloc (by omega) _, fun D hD => ⟨(HD.out D hD).1, (Below.heap_alloc wr _ D (hDlt D hD)).trans (HD.out D hD).2⟩⟩
              have h1 : BX b b (wr.heap.size + 1) (Lib.byteCells (intsB (l0.take i))) wr := by
                obtain ⟨p, v, g0, g1, g2, g3, g5⟩ : ∃ p v, b ≤ b ∧ wr.heap[b]? = some (.cells #[p, v] 160 (0, 0)) ∧ wr.ownsRow b 5 1 v (Lib.byteCells (intsB (l0.take i))).length (Lib.byteCells (intsB (l0.take i))) ∧ v.ownBlock ≠ some b ∧ (p = .pointer none ∨ p = .pointer (some ⟨b, 0, none⟩)) := by
                  rcases HI.out with ⟨g0, v, g1, g2, g3⟩ | ⟨g0, v, g1, g2, g3⟩
                  · exact ⟨_, v, g0, g1, g2, g3, .inl rfl⟩
                  · exact ⟨_, v, g0, g1, g2, g3, .inr rfl⟩
                refine ⟨p, v, g0, g1, g2, g3, fun e => ?_, g5⟩
                have := own_lt g2 _ e
                omega
              have h2 := (h1.kept (World.grownBy_alloc wr (.cells #[.int .i64 x] 3) none) (by omega) (fun r e => by cases e)).is
              simpa using h2
            case bodyP =>
              rintro l pre d post W hxs ⟨h1, h2, h3⟩ ⟨cs, hcs⟩
              have hd := hbd d (by rw [hxs]; simp)
              have hl := hle pre post d hxs
              have hbb : ∃ cs', W.heap[b]? = some (.cells cs' 160 (0, 0)) := isB_block h1.is
              obtain ⟨cs', hcs'⟩ := hbb
              have HC := CallsIn.inRound l ((callsIn_wide (n := 0)).2 (B_byte b b _ d W h1.is (by simp [Lib.byteCells]; omega) (by have := (Array.getElem?_eq_some_iff.1 hcs').1; omega)))
              have HP := Sd.mk (And.intro h1 (And.intro h2 (And.intro h3 (And.intro hcs hcs'))))
              clear h1 h2 h3 hcs hcs' hxs
              gi_wp2_with (gi_at_call 104; refine HC.mono ?_; rintro e w' ⟨rfl, k1, k2, k3⟩)
              obtain ⟨h1, h2, h3, hcs, hcs'⟩ := HP.out
              have hbn2 := k3 _ _ hcs (fun e => hbne (by injection e with e; exact e.symm)) (fun c fz e => by cases e)
              refine ⟨others_keep k3 hcs' k2.size, hbn2.trans hcs.symm, BX.of (t := 3) ?_ hbn2 (by decide), h2.trans k2, fun D hD => ⟨(h3 D hD).1, k3 _ _ (h3 D hD).2 (fun e => ?_) (fun c fz e => by cases e)⟩⟩
              · rw [List.map_append, ← List.append_assoc]
                have := byteCells_snoc (intsB (l0.take i) ++ pre.map (fun d => UInt8.ofNat d.toNat)) d hd.1 (by omega)
                simp only [List.map_cons, List.map_nil]
                rw [← this]
                exact .inr k1
              · injection e with e
                subst e
                rw [(h3 D hD).2] at hcs'
                cases hcs'
            case doneP =>
              rintro D W hD ⟨h1, h2, h3⟩ hK2
              obtain ⟨cs', hcs'⟩ := isB_block h1.is
              have hDl := (digsF_bd 5 x).1
              have HC := (callsIn_wide (n := 0)).2 (B_byte b b _ 255 W h1.is (by simp [Lib.byteCells]; omega) (by have := (Array.getElem?_eq_some_iff.1 hcs').1; omega))
              have HP := Sd.mk (And.intro h1 (And.intro h2 (And.intro h3 (And.intro hK2 hcs'))))
              have HDl := Sd.mk hD
              clear h1 h2 h3 hcs' hK2 hD
              gi_wp2_with (gi_at_call 104; refine HC.mono ?_; rintro e w' ⟨rfl, k1, k2, k3⟩)
              obtain ⟨h1, h2, h3, hK2, hcs'⟩ := HP.out
              have hD := HDl.out
              simp at hD
              refine ⟨l0.length - (i + 1), by omega, hJ _ _ _ ⟨i + 1, D :: Ds, _, _, _, _, _, _, _, _, _, _, _, _, _, _, _, _, _, _, _, _, _, _, _, _, _, _, by omega, rfl, ⟨?_⟩, ⟨?_⟩, ⟨h2.trans k2⟩, ⟨?_⟩, ⟨?_⟩, rfl⟩⟩
              · rw [hfin, List.all_append, HA.out]
                simp [intOk]; omega
              · rw [hfin, intsB_snoc, hy, ← List.append_assoc, ← byteCells_snoc _ 255 (by omega) (by omega)]
                exact .inr k1
              · intro E hE
                have off : ∀ E : Nat, W.heap[E]? = some (.deferred (some [])) → w'.heap[E]? = some (.deferred (some [])) := fun E hE => k3 _ _ hE (fun e => by injection e with e; subst e; rw [hE] at hcs'; cases hcs') (fun c fz e => by cases e)
                rcases List.mem_cons.1 hE with rfl | hE
                · exact ⟨by omega, off _ hK2⟩
                · exact ⟨(h3 E hE).1, off _ (h3 E hE).2⟩
              · refine List.nodup_cons.2 ⟨fun hm => ?_, HN.out⟩
                have := hDlt D hm
                omega
    · obtain rfl : i = l0.length := by omega
      have HI2 := HI.out
      rw [List.take_length] at HI2
      have hwr := (Array.getElem?_eq_some_iff.1 (isB_block HI2).choose_spec).1
      have HC := (callsIn_wide (n := 0)).2 (Tryz.Builder_String_any_k b b (intsB l0) wr (Lib.IsBuilderF.of HI2) (by omega))
      have HIb := Sd.mk (isB_block HI2)
      clear HI2
      gi_wp2_with (gi_at_call 94; refine HC.mono ?_; rintro e w' ⟨rfl, k1, k2, k3⟩)
      obtain ⟨cs', hcs'⟩ := HIb.out
      refine leaves_marks Ds w' (fun D hD => ⟨(HD.out D hD).1, k3 _ _ (HD.out D hD).2 (fun e => ?_) (fun c fz e => by cases e)⟩) HN.out (by have := k2.size; omega) (fun W' hb' => ?_)
      · injection e with e
        subst e
        rw [(HD.out D hD).2] at hcs'
        cases hcs'
      · have hok : wire_Ints_f l0 = some (⟨(intsB l0).toArray⟩, 0) := by
          have := HA.out
          rw [List.take_length] at this
          unfold wire_Ints_f
          rw [if_pos hlen, if_pos this]
        have h2 := HH.out
        rw [hok] at h2
        obtain ⟨rfl, rfl⟩ : (⟨(intsB l0).toArray⟩ : ByteArray) = r1 ∧ (0 : Int) = r2 := by simpa using h2
        have hb := HBB.out
        refine ⟨.tuple #[.string ⟨(intsB l0).toArray⟩, .int .i64 0], by simp [results, Tryz.results89, go_sem], rfl, ?_⟩
        rw [hb]
        exact (HB.out.trans k2).trans hb'
end Go.Proofs.YtohlhliifeeokaaGreat.Q
namespace Go.Proofs.YtohlhliifeeokaaGreat.A
open Go Go.RowKit Go.Proofs.YtohlhliifeeokaaGreat.Ab Go.Proofs.YtohlhliifeeokaaGreat.Q
def wire_Ints_sig (k : Nat) : Sig := ⟨[(.sl (.int .i64))], [.str, (.int .i64)], fun x => wire_Ints k x.1⟩
theorem wire_Ints_ok (k : Nat) : FnOk Go.Proofs.Tryz.prog 89 (wire_Ints_sig k) := by
  refine ⟨entersAb (by kernel_rfl), ?_⟩
  rintro ⟨l, _⟩ ⟨r, e, _⟩ hy S w vs hS ha
  change List Int at l
  change ByteArray at r
  change Int at e
  match vs, ha with
  | [v0], ⟨h0, _⟩ =>
  obtain ⟨A, c, hv, hc, hcells⟩ := (h0 : Reps S (.sl (.int .i64)) l [v0])
  obtain rfl : v0 = .slice A (lst (t := .int .i64) l).length c := by simpa using hv
  replace hy : wire_Ints k l = some (r, e, ()) := hy
  have hf : wire_Ints_f l = some (r, e) := by
    unfold wire_Ints at hy
    unfold wire_Ints_f
    rw [cond_eq_ite] at hy
    split at hy
    · rename_i h1
      rw [if_pos (of_decide_eq_true h1)]
      rw [cond_eq_ite] at hy
      split at hy
      · rename_i h2; rw [if_pos h2]; simpa using hy
      · rename_i h2; rw [if_neg h2]; simpa using hy
    · cases hy
  refine (wire_Ints_calls A c l r e w (fun i x hi => ?_) hf).mono fun en w' ⟨he, hb⟩ => comes_below he hS hb ⟨[.string r, .int .i64 e], rfl, rfl, rfl, trivial⟩
  obtain ⟨a, us, h1, h2, h3⟩ := hcells i x hi
  have h2' : us = [.int .i64 x] := h2
  subst h2'
  refine ⟨a, h1, ?_⟩
  have := hS _ _ (h3 0 _ rfl)
  simpa [Ty.width] using this
end Go.Proofs.YtohlhliifeeokaaGreat.A
