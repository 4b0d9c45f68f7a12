import Derived.Test.YtfhphiedbdinmaaGreatDoorAbI
import Derived.Test.YtfhphiedbdinmaaGreatDoorShelf
import Derived.Test.YtfhphiedbdinmaaGreatDoorAHBuild
import Derived.Sort.LoopGhostIn
set_option linter.all false
namespace Go.Proofs.YtfhphiedbdinmaaGreatDoor.A
open Go Go.RowKit Ab
theorem comes_below {res : List Ty} {y : (res.foldr Ty.cons .nil).den} {S : Mem} {w w' : World} {e : Ending} {u : Value} (he : e = .returned u) (hS : ∀ p v, S p = some v -> w.cell? p = some v) (hb : Below w.heap.size w w') (hr : ResRep S res y u) : Comes1 res y S w e w' :=
 ⟨u, S, he, Mem.le_refl S, fun p v h => (hb.cell (World.block_lt_of_cell? w _ (hS p v h))).trans (hS p v h), fun p v h h0 => (by rw [h] at h0; cases h0), hr, hb⟩
theorem row_get {S : Mem} {w : World} (hS : ∀ p v, S p = some v -> w.cell? p = some v) {l : List ByteArray} {A : Option Addr} (h : ∀ (i : Nat) (x : ByteArray), l[i]? = some x -> ∃ a us, A = some a /\ Reps S .str x us /\ ∀ j u, us[j]? = some u -> S (a.add (i * Ty.str.width + j)) = some u) :
 ∀ (j : Nat) (y : ByteArray), l[j]? = some y -> ∃ ad, A = some ad /\ w.cell? (ad.add j) = some (.string y) := by
 intro j y hj
 obtain ⟨a, us, h1, h2, h3⟩ := h j y hj
 have h2' : us = [.string y] := h2
 subst h2'
 refine ⟨a, h1, ?_⟩
 have := hS _ _ (h3 0 _ rfl)
 simpa [Ty.width] using this
def strings_Join_sig (k : Nat) : Sig := ⟨[(.sl .str), .str], [.str], fun x => strings_Join k x.1 x.2.1⟩
theorem strings_Join_ok (k : Nat) : FnOk Go.Proofs.Tryz.prog 94 (strings_Join_sig k) := by
 refine ⟨entersAb (by kernel_rfl), ?_⟩
 rintro ⟨l, a1, _⟩ ⟨r, _⟩ hy S w vs _ hS ha
 change ByteArray at r
 match vs, ha with
 | [v0, v1], ⟨h0, h1, _⟩ =>
 have h1 : [v1] = [.string a1] := h1
 obtain rfl : v1 = .string a1 := by simpa using h1
 obtain ⟨A, c, hv, hc, hcells⟩ := (h0 : Reps S (.sl .str) l [v0])
 obtain rfl : v0 = .slice A (lst (t := .str) l).length c := by simpa using hv
 replace hy : strings_Join k l a1 = some (r, ()) := hy
 obtain ⟨g1, g2, hr⟩ := strings_Join_some hy
 have hget := row_get hS hcells
 have fin : ∀ e w', (e = .returned (.string r) /\ Below w.heap.size w w') -> Comes1 [.str] (r, ()) S w e w' := fun e w' ⟨he, hb⟩ => comes_below he hS hb (show Reps S .str r [.string r] from rfl)
 refine Calls.mono ?_ fun e w' h => fin e w' h
 subst hr
 cases l with
 | nil => exact (Tryz.strings_Join_none A c a1 w).mono fun e w' ⟨he, hw⟩ => ⟨he, hw ▸ Below.refl _ _⟩
 | cons x xs =>
   obtain ⟨ad, rfl, h0⟩ := hget 0 x rfl
   have e0 : ad.add 0 = ad := rfl
   rw [e0] at h0
   obtain ⟨b, o, s⟩ := ad
   have hs : s = none := by
    cases s with
    | none => rfl
    | some z =>
      exfalso
      unfold World.cell? at h0
      dsimp only at h0
      split at h0 <;> simp_all
   subst hs
   refine Tryz.strings_Join b o c (x :: xs) a1 w (fun j y hj => ?_) (World.block_lt_of_cell? w _ h0) g1 hc g2
   obtain ⟨ad', e, hy⟩ := hget j y hj
   obtain rfl := Option.some.inj e
   by_cases hj0 : j = 0
   . subst hj0; exact hy
   . have : (Addr.add ⟨b, o, none⟩ j) = ⟨b, o + j, none⟩ := by unfold Addr.add; rw [if_neg hj0]
     rw [this] at hy; exact hy
end Go.Proofs.YtfhphiedbdinmaaGreatDoor.A
namespace Go.Proofs.YtfhphiedbdinmaaGreatDoor.Q
open Go.RowKit Go.Shelf A
attribute [local go_sem] Oper.semAt_some
def wire_Ints_f (l : List Int) : Option (ByteArray × Int) :=
 if l.length <= 1000000000000 then (if l.all intOk = true then some (⟨(intsB l).toArray⟩, 0) else some (⟨#[]⟩, 1)) else none
theorem own_lt {W : World} {base n : Nat} {v : Value} {xs : List Value} (h : W.ownsRow base 5 1 v n xs) (g : Nat) (hg : v.ownBlock = some g) : g < W.heap.size := by
 obtain ⟨c, fz, hh⟩ := row_cells h g hg
 exact (Array.getElem?_eq_some_iff.1 hh).1
def BX (B b Bn : Nat) (bs : List Value) (W : World) : Prop :=
 ∃ p v, B <= b /\ W.heap[b]? = some (.cells #[p, v] 235 (0, 0)) /\ W.ownsRow B 5 1 v bs.length bs /\ v.ownBlock ≠ some b /\ v.ownBlock ≠ some Bn /\ (p = .pointer none \/ p = .pointer (some ⟨b, 0, none⟩))
theorem BX.is {B b Bn : Nat} {bs : List Value} {W : World} (h : BX B b Bn bs W) : Lib.IsBuilder 235 5 B b bs W := by
 obtain ⟨p, v, h0, h1, h2, h3, _, rfl | rfl⟩ := h
 . exact .inl ⟨h0, v, h1, h2, h3⟩
 . exact .inr ⟨h0, v, h1, h2, h3⟩
theorem BX.of {B b Bn t : Nat} {bs : List Value} {W : World} {cs : Array Value} (h : Lib.IsBuilder 235 5 B b bs W) (hb : W.heap[Bn]? = some (.cells cs t (0, 0))) (ht : t ≠ 5) : BX B b Bn bs W := by
 rcases h with ⟨h0, v, h1, h2, h3⟩ | ⟨h0, v, h1, h2, h3⟩
 . exact ⟨_, v, h0, h1, h2, h3, Lib.ownBlock_ne h2 hb ht, .inl rfl⟩
 . exact ⟨_, v, h0, h1, h2, h3, Lib.ownBlock_ne h2 hb ht, .inr rfl⟩
theorem BX.kept {B b Bn : Nat} {bs : List Value} {W W' : World} {row : Option Nat} (h : BX B b Bn bs W) (hg : W.grownBy W' row) (hne : b ≠ Bn)
 (hr : ∀ r, row = some r -> r = Bn \/ ∃ o : Obj, W.heap[r]? = some o /\ o.isCells = false) : BX B b Bn bs W' := by
 obtain ⟨p, v, h0, h1, h2, h3, h4, h5⟩ := h
 have hlt := (Array.getElem?_eq_some_iff.1 h1).1
 have nb : some b ≠ row := fun e => by
  rcases hr b e.symm with rfl | ⟨o, ho, hc⟩
  . exact hne rfl
  . rw [h1] at ho; cases ho; cases hc
 refine ⟨p, v, h0, (hg.block b hlt nb).trans h1, h2.kept hg ?_, h3, h4, h5⟩
 cases e : v.ownBlock with
 | none => exact .inl rfl
 | some g =>
   refine .inr fun e2 => ?_
   rcases hr g e2.symm with rfl | ⟨o, ho, hc⟩
   . exact h4 e
   . obtain ⟨c, fz, hh⟩ := row_cells h2 g e
     rw [hh] at ho; cases ho; cases hc
theorem others_keep {b : Nat} {cs : Array Value} {t : TypeId} {W W' : World} (h : Lib.OthersKept 5 (some b) W W') (hb : W.heap[b]? = some (.cells cs t (0, 0))) (hs : W.heap.size <= W'.heap.size) : KeepsOthers W W' :=
 ⟨hs, fun k o hk ho => h k o hk (fun e => by injection e with e; subst e; rw [hb] at hk; cases hk; cases ho) (fun c fz e => by subst e; cases ho)⟩
theorem isB_block {B b : Nat} {bs : List Value} {W : World} (h : Lib.IsBuilder 235 5 B b bs W) : ∃ cs, W.heap[b]? = some (.cells cs 235 (0, 0)) := by
 rcases h with ⟨h0, v, h1, h2, h3⟩ | ⟨h0, v, h1, h2, h3⟩ <;> exact ⟨_, h1⟩
theorem byteCells_snoc (l : List UInt8) (d : Int) (h0 : 0 <= d) (h1 : d < 256) : Lib.byteCells l ++ [Value.int .u8 d] = Lib.byteCells (l ++ [UInt8.ofNat d.toNat]) := by
 have e : ((UInt8.ofNat d.toNat).toNat : Int) = d := by
  rw [UInt8.toNat_ofNat_of_lt' (by simp [UInt8.size]; omega)]; omega
 unfold Lib.byteCells
 rw [List.map_append]
 simp only [List.map_cons, List.map_nil]
 rw [e]
theorem at_int {l0 : List Int} {A0 : Option Addr} {w : World} (h : ∀ (i : Nat) (x : Int), l0[i]? = some x -> ∃ ad, A0 = some ad /\ w.cell? (ad.add i) = some (.int .i64 x)) (i : Int) (h0 : 0 <= i) (h1 : i < l0.length) : ∃ ad, A0 = some ad /\ w.cell? (ad.add i.toNat) = some (.int .i64 (l0.getD i.toNat 0)) := by
 have hi : i.toNat < l0.length := by omega
 have e : l0[i.toNat]? = some (l0.getD i.toNat 0) := by rw [List.getD_eq_getElem?_getD, List.getElem?_eq_getElem hi]; rfl
 exact h _ _ e
def IntsR (l0 : List Int) (A0 : Option Addr) (c0 b : Nat) (w : World) (k : Nat) (a : Act) (W : World) : Prop :=
 ∃ (i : Nat) (Ds : List Nat) (u5 u6 u7 u8 u12 u13 u14 u15 u16 u17 u18 u19 u20 u21 u22 u23 u24 u25 u26 u27 u28 u29 u30 u31 u32 u33 : Value), i <= l0.length /\ k = l0.length - i /\ Sd ((l0.take i).all intOk = true) /\
  Sd (Lib.IsBuilder 235 5 b b (Lib.byteCells (intsB (l0.take i))) W) /\ Sd (Below b w W) /\ Sd (∀ D ∈ Ds, b <= D /\ W.heap[D]? = some (.deferred (some []))) /\ Sd Ds.Nodup /\
  a = { tmps := #[.slice A0 l0.length c0, undef, .string ⟨#[]⟩, .int .i64 0, .pointer (some ⟨b, 0, none⟩), u5, u6, u7, u8, .slice A0 l0.length c0, .int .i64 (l0.length : Int), .int .i64 (i : Int), u12, u13, u14, u15, u16, u17, u18, u19, u20, u21, u22, u23, u24, u25, u26, u27, u28, u29, u30, u31, u32, u33], defers := marksOf Ds }
set_option maxHeartbeats 4000000 in
set_option maxRecDepth 100000 in
theorem wire_Ints_calls (A0 : Option Addr) (c0 : Nat) (l0 : List Int) (r1 : ByteArray) (r2 : Int) (w : World) (hr0 : ∀ (i : Nat) (x : Int), l0[i]? = some x -> ∃ ad, A0 = some ad /\ w.cell? (ad.add i) = some (.int .i64 x)) (h : wire_Ints_f l0 = some (r1, r2)) :
 Calls Tryz.prog 89 #[.slice A0 l0.length c0] w fun e w' => e = .returned (.tuple #[.string r1, .int .i64 r2]) /\ Below w.heap.size w w' := by
 refine (callsIn_wide (n := 0)).1 ?_
 have hlen : l0.length <= 1000000000000 := by
  unfold wire_Ints_f at h
  by_cases hl : l0.length <= 1000000000000
  . exact hl
  . rw [if_neg hl] at h; cases h
 have HR := Sd.mk hr0
 have HH := Sd.mk h
 clear hr0 h
 have hfn : ∀ f, Fence.wide.fn f := fun _ => trivial
 have hdp : Fence.wide.depth = none := rfl
 obtain ⟨b, hb⟩ : ∃ b, w.heap.size = b := ⟨_, rfl⟩
 have HBB := Sd.mk hb
 refine callsIn_of_wp_marks Tryz.func89 rfl trivial ?_ rfl
 simp only [Tryz.ntmps89, List.size_toArray, List.length_cons, List.length_nil, Nat.reduceAdd, Nat.reduceSub, Array.replicate_succ, Array.replicate_zero, List.push_toArray, List.append_toArray, List.nil_append, List.cons_append]
 gi_wp2
 clear hb
 refine wpIn_loop_ghost_k (IntsR l0 A0 c0 b w) l0.length ?start ?round
 case start =>
  have hb := HBB.out
  have hf : Lib.IsBuilder 235 5 b b (Lib.byteCells (intsB (l0.take 0))) (w.alloc (.cells #[.pointer none, .slice none 0 0] 235)) := by
   have := Lib.fresh_isBuilder 235 5 w
   rw [hb] at this
   exact this
  exact ⟨0, [], undef, undef, undef, undef, undef, undef, undef, undef, undef, undef, undef, undef, undef, undef, undef, undef, undef, undef, undef, undef, undef, undef, undef, undef, undef, undef, Nat.zero_le _, by omega, ⟨by simp⟩, ⟨hf⟩, ⟨by rw [<- hb]; exact bw_alloc (Below.refl _ _) _⟩, ⟨by simp⟩, ⟨List.nodup_nil⟩, rfl⟩
 case round =>
  rintro k a wr hrel J K hJ hK
  obtain ⟨i, Ds, u5, u6, u7, u8, u12, u13, u14, u15, u16, u17, u18, u19, u20, u21, u22, u23, u24, u25, u26, u27, u28, u29, u30, u31, u32, u33, hi, hk, HA, HI, HB, HD, HN, rfl⟩ := hrel
  by_cases hlt : i < l0.length
  . obtain ⟨ad, e, hx⟩ := at_int HR.out (i : Int) (by omega) (by omega)
    cases e
    obtain ⟨x, hxx⟩ : ∃ x, l0.getD (i : Int).toNat 0 = x := ⟨_, rfl⟩
    rw [hxx] at hx
    have hb := HBB.out
    have hx2 := (HB.out.cell (by rw [<- hb]; exact World.block_lt_of_cell? w _ hx)).trans hx
    clear hx hb
    simp only [Int.toNat_natCast] at hx2
    have hxl : l0[i] = x := by rw [<- hxx]; simp [List.getD_eq_getElem?_getD, List.getElem?_eq_getElem hlt]
    have HT := Sd.mk (show l0.take (i + 1) = l0.take i ++ [x] by rw [List.take_succ_eq_append_getElem hlt, hxl])
    clear hxx hxl
    by_cases hlo : x < -2147483647
    . gi_wp2
      refine leaves_marks Ds wr HD.out HN.out (by have := (isB_block HI.out).choose_spec; have := (Array.getElem?_eq_some_iff.1 this).1; omega) (fun W' hb' => ?_)
      have hbad : wire_Ints_f l0 = some (⟨#[]⟩, 1) := by
       unfold wire_Ints_f
       rw [if_pos hlen, if_neg]
       intro hall
       have h1 := List.all_eq_true.1 hall x (List.mem_of_mem_take (i := i + 1) (by rw [HT.out]; simp))
       simp [intOk] at h1
       omega
      have h2 := HH.out
      rw [hbad] at h2
      obtain ⟨rfl, rfl⟩ : (⟨#[]⟩ : ByteArray) = r1 /\ (1 : Int) = r2 := by simpa using h2
      have hb := HBB.out
      refine ⟨.tuple #[.string ⟨#[]⟩, .int .i64 1], by simp [results, Tryz.results89, go_sem], rfl, ?_⟩
      rw [hb]
      exact HB.out.trans hb'
    . by_cases hhi : 2147483647 < x
      . gi_wp2
        refine leaves_marks Ds wr HD.out HN.out (by have := (isB_block HI.out).choose_spec; have := (Array.getElem?_eq_some_iff.1 this).1; omega) (fun W' hb' => ?_)
        have hbad : wire_Ints_f l0 = some (⟨#[]⟩, 1) := by
         unfold wire_Ints_f
         rw [if_pos hlen, if_neg]
         intro hall
         have h1 := List.all_eq_true.1 hall x (List.mem_of_mem_take (i := i + 1) (by rw [HT.out]; simp))
         simp [intOk] at h1
         omega
        have h2 := HH.out
        rw [hbad] at h2
        obtain ⟨rfl, rfl⟩ : (⟨#[]⟩ : ByteArray) = r1 /\ (1 : Int) = r2 := by simpa using h2
        have hb := HBB.out
        refine ⟨.tuple #[.string ⟨#[]⟩, .int .i64 1], by simp [results, Tryz.results89, go_sem], rfl, ?_⟩
        rw [hb]
        exact HB.out.trans hb'
      . by_cases hneg : x < 0
        . gi_wp2_with (gi_at_call 123; refine (callsIn_wide.2 (digits_calls _ _)).mono ?_; rintro e w' ⟨rfl, rfl⟩)
          have hBn : wr.heap.size < (wr.alloc (.cells #[.int .i64 (-x)] 3)).heap.size := by simp
          have hbw : b <= wr.heap.size := by have := HB.out.size; have := HBB.out; omega
          have hDlt : ∀ D ∈ Ds, D < wr.heap.size := fun D hD => (Array.getElem?_eq_some_iff.1 (HD.out D hD).2).1
          have hbd : ∀ d ∈ digsF 5 (-x), 0 <= d /\ d < 250 := (digsF_bd 5 (-x)).2
          have hle : ∀ pre post : List Int, ∀ d : Int, digsF 5 (-x) = pre ++ d :: post -> pre.length < 5 := fun pre post d e => by
           have := (digsF_bd 5 (-x)).1
           rw [e] at this
           simp at this; omega
          have hbl : (intsB (l0.take i)).length <= 6 * i := by have := intsB_len (l0.take i); rw [List.length_take] at this; omega
          have hbne : b ≠ wr.heap.size := by
           obtain ⟨cs, hcs⟩ := isB_block HI.out
           have := (Array.getElem?_eq_some_iff.1 hcs).1
           omega
          have hfin : l0.take (i + 1) = l0.take i ++ [x] := HT.out
          have hy : intB x = (digsF 5 (-x)).map (fun d => UInt8.ofNat d.toNat) ++ [UInt8.ofNat (254 : Int).toNat] := by
           unfold intB
           rw [show (if x < 0 then -x else x) = -x from if_pos hneg]
           congr 1
           rw [if_pos hneg]
           rfl
          refine range_all (gf := 158) (lb := #[.pointer (some ⟨wr.heap.size, 0, none⟩)]) (encs := fun d : Int => #[Value.int .u8 d]) (Bn := wr.heap.size) (tB := 3) (xs := digsF 5 (-x)) rfl (enters_of Tryz.func158 (by kernel_rfl) rfl) hBn ?seqN ?hpsN
           (fun pre W => BX b b wr.heap.size (Lib.byteCells (intsB (l0.take i) ++ pre.map (fun d => UInt8.ofNat d.toNat))) W /\ Below b w W /\ ∀ D ∈ Ds, b <= D /\ W.heap[D]? = some (.deferred (some []))) ?invN ?at0N ?a1N ?assignN ?bodyN ?doneN
          case assignN =>
           intro l d W K' hK'
           gi_wp2
           exact hK'
          case hpsN => intro _; rfl
          case seqN =>
           intro W hW l J' hJ' hY' h0'
           exact digits_all wr.heap.size 5 (-x) (by omega) (by omega) (by omega) l J' hJ' hY' W (hW.trans (heap_alloc_new wr _)) h0'
          case invN =>
           rintro pre W W' row ⟨h1, h2, h3⟩ hg hr
           refine ⟨h1.kept hg hbne (fun r e => (hr r e).imp_right (fun h => h.2)), h2.grown hg (by have := h2.size; have := HBB.out; omega) (fun r e => by rcases hr r e with rfl | ⟨h, _⟩; exact hbw; simp at h; omega), fun D hD => ⟨(h3 D hD).1, (hg.block D ?_ (fun e => ?_)).trans (h3 D hD).2⟩⟩
           . exact (Array.getElem?_eq_some_iff.1 (h3 D hD).2).1
           . have := hDlt D hD
             rcases hr D e.symm with rfl | ⟨h, _⟩
             . omega
             . simp at h; omega
          case at0N =>
           refine ⟨BX.of (t := 3) (cs := #[.int .i64 (-x)]) ?_ (heap_alloc_new wr _) (by decide), HB.out.alloc (by omega) _, fun D hD => ⟨(HD.out D hD).1, (Below.heap_alloc wr _ D (hDlt D hD)).trans (HD.out D hD).2⟩⟩
           have h1 : BX b b (wr.heap.size + 1) (Lib.byteCells (intsB (l0.take i))) wr := by
            obtain ⟨p, v, g0, g1, g2, g3, g5⟩ : ∃ p v, b <= b /\ wr.heap[b]? = some (.cells #[p, v] 235 (0, 0)) /\ wr.ownsRow b 5 1 v (Lib.byteCells (intsB (l0.take i))).length (Lib.byteCells (intsB (l0.take i))) /\ v.ownBlock ≠ some b /\ (p = .pointer none \/ p = .pointer (some ⟨b, 0, none⟩)) := by
             rcases HI.out with ⟨g0, v, g1, g2, g3⟩ | ⟨g0, v, g1, g2, g3⟩
             . exact ⟨_, v, g0, g1, g2, g3, .inl rfl⟩
             . exact ⟨_, v, g0, g1, g2, g3, .inr rfl⟩
            refine ⟨p, v, g0, g1, g2, g3, fun e => ?_, g5⟩
            have := own_lt g2 _ e
            omega
           have h2 := (h1.kept (World.grownBy_alloc wr (.cells #[.int .i64 (-x)] 3) none) (by omega) (fun r e => by cases e)).is
           simpa using h2
          case bodyN =>
           rintro l pre d post W hxs ⟨h1, h2, h3⟩ ⟨cs, hcs⟩
           have hd := hbd d (by rw [hxs]; simp)
           have hl := hle pre post d hxs
           have hbb : ∃ cs', W.heap[b]? = some (.cells cs' 235 (0, 0)) := isB_block h1.is
           obtain ⟨cs', hcs'⟩ := hbb
           have HC := CallsIn.inRound l ((callsIn_wide (n := 0)).2 (B_byte b b _ d W h1.is (by simp [Lib.byteCells]; omega) (by have := (Array.getElem?_eq_some_iff.1 hcs').1; omega)))
           have HP := Sd.mk (And.intro h1 (And.intro h2 (And.intro h3 (And.intro hcs hcs'))))
           clear h1 h2 h3 hcs hcs' hxs
           gi_wp2_with (gi_at_call 124; refine HC.mono ?_; rintro e w' ⟨rfl, k1, k2, k3⟩)
           obtain ⟨h1, h2, h3, hcs, hcs'⟩ := HP.out
           have hbn2 := k3 _ _ hcs (fun e => hbne (by injection e with e; exact e.symm)) (fun c fz e => by cases e)
           refine ⟨others_keep k3 hcs' k2.size, hbn2.trans hcs.symm, BX.of (t := 3) ?_ hbn2 (by decide), h2.trans k2, fun D hD => ⟨(h3 D hD).1, k3 _ _ (h3 D hD).2 (fun e => ?_) (fun c fz e => by cases e)⟩⟩
           . rw [List.map_append, <- List.append_assoc]
             have := byteCells_snoc (intsB (l0.take i) ++ pre.map (fun d => UInt8.ofNat d.toNat)) d hd.1 (by omega)
             simp only [List.map_cons, List.map_nil]
             rw [<- this]
             exact .inr k1
           . injection e with e
             subst e
             rw [(h3 D hD).2] at hcs'
             cases hcs'
          case doneN =>
           rintro D W hD ⟨h1, h2, h3⟩ hK2
           obtain ⟨cs', hcs'⟩ := isB_block h1.is
           have hDl := (digsF_bd 5 (-x)).1
           have HC := (callsIn_wide (n := 0)).2 (B_byte b b _ 254 W h1.is (by simp [Lib.byteCells]; omega) (by have := (Array.getElem?_eq_some_iff.1 hcs').1; omega))
           have HP := Sd.mk (And.intro h1 (And.intro h2 (And.intro h3 (And.intro hK2 hcs'))))
           have HDl := Sd.mk hD
           clear h1 h2 h3 hcs' hK2 hD
           gi_wp2_with (gi_at_call 124; refine HC.mono ?_; rintro e w' ⟨rfl, k1, k2, k3⟩)
           obtain ⟨h1, h2, h3, hK2, hcs'⟩ := HP.out
           have hD := HDl.out
           simp at hD
           refine ⟨l0.length - (i + 1), by omega, hJ _ _ _ ⟨i + 1, D :: Ds, _, _, _, _, _, _, _, _, _, _, _, _, _, _, _, _, _, _, _, _, _, _, _, _, _, _, by omega, rfl, ⟨?_⟩, ⟨?_⟩, ⟨h2.trans k2⟩, ⟨?_⟩, ⟨?_⟩, rfl⟩⟩
           . rw [hfin, List.all_append, HA.out]
             simp [intOk]; omega
           . rw [hfin, intsB_snoc, hy, <- List.append_assoc, <- byteCells_snoc _ 254 (by omega) (by omega)]
             exact .inr k1
           . intro E hE
             have off : ∀ E : Nat, W.heap[E]? = some (.deferred (some [])) -> w'.heap[E]? = some (.deferred (some [])) := fun E hE => k3 _ _ hE (fun e => by injection e with e; subst e; rw [hE] at hcs'; cases hcs') (fun c fz e => by cases e)
             rcases List.mem_cons.1 hE with rfl | hE
             . exact ⟨by omega, off _ hK2⟩
             . exact ⟨(h3 E hE).1, off _ (h3 E hE).2⟩
           . refine List.nodup_cons.2 ⟨fun hm => ?_, HN.out⟩
             have := hDlt D hm
             omega
        . gi_wp2_with (gi_at_call 123; refine (callsIn_wide.2 (digits_calls _ _)).mono ?_; rintro e w' ⟨rfl, rfl⟩)
          have hBn : wr.heap.size < (wr.alloc (.cells #[.int .i64 x] 3)).heap.size := by simp
          have hbw : b <= wr.heap.size := by have := HB.out.size; have := HBB.out; omega
          have hDlt : ∀ D ∈ Ds, D < wr.heap.size := fun D hD => (Array.getElem?_eq_some_iff.1 (HD.out D hD).2).1
          have hbd : ∀ d ∈ digsF 5 x, 0 <= d /\ d < 250 := (digsF_bd 5 x).2
          have hle : ∀ pre post : List Int, ∀ d : Int, digsF 5 x = pre ++ d :: post -> pre.length < 5 := fun pre post d e => by
           have := (digsF_bd 5 x).1
           rw [e] at this
           simp at this; omega
          have hbl : (intsB (l0.take i)).length <= 6 * i := by have := intsB_len (l0.take i); rw [List.length_take] at this; omega
          have hbne : b ≠ wr.heap.size := by
           obtain ⟨cs, hcs⟩ := isB_block HI.out
           have := (Array.getElem?_eq_some_iff.1 hcs).1
           omega
          have hfin : l0.take (i + 1) = l0.take i ++ [x] := HT.out
          have hy : intB x = (digsF 5 x).map (fun d => UInt8.ofNat d.toNat) ++ [UInt8.ofNat (255 : Int).toNat] := by
           unfold intB
           rw [show (if x < 0 then -x else x) = x from if_neg (by omega)]
           congr 1
           rw [if_neg (by omega)]
           rfl
          refine range_all (gf := 158) (lb := #[.pointer (some ⟨wr.heap.size, 0, none⟩)]) (encs := fun d : Int => #[Value.int .u8 d]) (Bn := wr.heap.size) (tB := 3) (xs := digsF 5 x) rfl (enters_of Tryz.func158 (by kernel_rfl) rfl) hBn ?seqP ?hpsP
           (fun pre W => BX b b wr.heap.size (Lib.byteCells (intsB (l0.take i) ++ pre.map (fun d => UInt8.ofNat d.toNat))) W /\ Below b w W /\ ∀ D ∈ Ds, b <= D /\ W.heap[D]? = some (.deferred (some []))) ?invP ?at0P ?a1P ?assignP ?bodyP ?doneP
          case assignP =>
           intro l d W K' hK'
           gi_wp2
           exact hK'
          case hpsP => intro _; rfl
          case seqP =>
           intro W hW l J' hJ' hY' h0'
           exact digits_all wr.heap.size 5 x (by omega) (by omega) (by omega) l J' hJ' hY' W (hW.trans (heap_alloc_new wr _)) h0'
          case invP =>
           rintro pre W W' row ⟨h1, h2, h3⟩ hg hr
           refine ⟨h1.kept hg hbne (fun r e => (hr r e).imp_right (fun h => h.2)), h2.grown hg (by have := h2.size; have := HBB.out; omega) (fun r e => by rcases hr r e with rfl | ⟨h, _⟩; exact hbw; simp at h; omega), fun D hD => ⟨(h3 D hD).1, (hg.block D ?_ (fun e => ?_)).trans (h3 D hD).2⟩⟩
           . exact (Array.getElem?_eq_some_iff.1 (h3 D hD).2).1
           . have := hDlt D hD
             rcases hr D e.symm with rfl | ⟨h, _⟩
             . omega
             . simp at h; omega
          case at0P =>
           refine ⟨BX.of (t := 3) (cs := #[.int .i64 x]) ?_ (heap_alloc_new wr _) (by decide), HB.out.alloc (by omega) _, fun D hD => ⟨(HD.out D hD).1, (Below.heap_alloc wr _ D (hDlt D hD)).trans (HD.out D hD).2⟩⟩
           have h1 : BX b b (wr.heap.size + 1) (Lib.byteCells (intsB (l0.take i))) wr := by
            obtain ⟨p, v, g0, g1, g2, g3, g5⟩ : ∃ p v, b <= b /\ wr.heap[b]? = some (.cells #[p, v] 235 (0, 0)) /\ wr.ownsRow b 5 1 v (Lib.byteCells (intsB (l0.take i))).length (Lib.byteCells (intsB (l0.take i))) /\ v.ownBlock ≠ some b /\ (p = .pointer none \/ p = .pointer (some ⟨b, 0, none⟩)) := by
             rcases HI.out with ⟨g0, v, g1, g2, g3⟩ | ⟨g0, v, g1, g2, g3⟩
             . exact ⟨_, v, g0, g1, g2, g3, .inl rfl⟩
             . exact ⟨_, v, g0, g1, g2, g3, .inr rfl⟩
            refine ⟨p, v, g0, g1, g2, g3, fun e => ?_, g5⟩
            have := own_lt g2 _ e
            omega
           have h2 := (h1.kept (World.grownBy_alloc wr (.cells #[.int .i64 x] 3) none) (by omega) (fun r e => by cases e)).is
           simpa using h2
          case bodyP =>
           rintro l pre d post W hxs ⟨h1, h2, h3⟩ ⟨cs, hcs⟩
           have hd := hbd d (by rw [hxs]; simp)
           have hl := hle pre post d hxs
           have hbb : ∃ cs', W.heap[b]? = some (.cells cs' 235 (0, 0)) := isB_block h1.is
           obtain ⟨cs', hcs'⟩ := hbb
           have HC := CallsIn.inRound l ((callsIn_wide (n := 0)).2 (B_byte b b _ d W h1.is (by simp [Lib.byteCells]; omega) (by have := (Array.getElem?_eq_some_iff.1 hcs').1; omega)))
           have HP := Sd.mk (And.intro h1 (And.intro h2 (And.intro h3 (And.intro hcs hcs'))))
           clear h1 h2 h3 hcs hcs' hxs
           gi_wp2_with (gi_at_call 124; refine HC.mono ?_; rintro e w' ⟨rfl, k1, k2, k3⟩)
           obtain ⟨h1, h2, h3, hcs, hcs'⟩ := HP.out
           have hbn2 := k3 _ _ hcs (fun e => hbne (by injection e with e; exact e.symm)) (fun c fz e => by cases e)
           refine ⟨others_keep k3 hcs' k2.size, hbn2.trans hcs.symm, BX.of (t := 3) ?_ hbn2 (by decide), h2.trans k2, fun D hD => ⟨(h3 D hD).1, k3 _ _ (h3 D hD).2 (fun e => ?_) (fun c fz e => by cases e)⟩⟩
           . rw [List.map_append, <- List.append_assoc]
             have := byteCells_snoc (intsB (l0.take i) ++ pre.map (fun d => UInt8.ofNat d.toNat)) d hd.1 (by omega)
             simp only [List.map_cons, List.map_nil]
             rw [<- this]
             exact .inr k1
           . injection e with e
             subst e
             rw [(h3 D hD).2] at hcs'
             cases hcs'
          case doneP =>
           rintro D W hD ⟨h1, h2, h3⟩ hK2
           obtain ⟨cs', hcs'⟩ := isB_block h1.is
           have hDl := (digsF_bd 5 x).1
           have HC := (callsIn_wide (n := 0)).2 (B_byte b b _ 255 W h1.is (by simp [Lib.byteCells]; omega) (by have := (Array.getElem?_eq_some_iff.1 hcs').1; omega))
           have HP := Sd.mk (And.intro h1 (And.intro h2 (And.intro h3 (And.intro hK2 hcs'))))
           have HDl := Sd.mk hD
           clear h1 h2 h3 hcs' hK2 hD
           gi_wp2_with (gi_at_call 124; refine HC.mono ?_; rintro e w' ⟨rfl, k1, k2, k3⟩)
           obtain ⟨h1, h2, h3, hK2, hcs'⟩ := HP.out
           have hD := HDl.out
           simp at hD
           refine ⟨l0.length - (i + 1), by omega, hJ _ _ _ ⟨i + 1, D :: Ds, _, _, _, _, _, _, _, _, _, _, _, _, _, _, _, _, _, _, _, _, _, _, _, _, _, _, by omega, rfl, ⟨?_⟩, ⟨?_⟩, ⟨h2.trans k2⟩, ⟨?_⟩, ⟨?_⟩, rfl⟩⟩
           . rw [hfin, List.all_append, HA.out]
             simp [intOk]; omega
           . rw [hfin, intsB_snoc, hy, <- List.append_assoc, <- byteCells_snoc _ 255 (by omega) (by omega)]
             exact .inr k1
           . intro E hE
             have off : ∀ E : Nat, W.heap[E]? = some (.deferred (some [])) -> w'.heap[E]? = some (.deferred (some [])) := fun E hE => k3 _ _ hE (fun e => by injection e with e; subst e; rw [hE] at hcs'; cases hcs') (fun c fz e => by cases e)
             rcases List.mem_cons.1 hE with rfl | hE
             . exact ⟨by omega, off _ hK2⟩
             . exact ⟨(h3 E hE).1, off _ (h3 E hE).2⟩
           . refine List.nodup_cons.2 ⟨fun hm => ?_, HN.out⟩
             have := hDlt D hm
             omega
  . obtain rfl : i = l0.length := by omega
    have HI2 := HI.out
    rw [List.take_length] at HI2
    have hwr := (Array.getElem?_eq_some_iff.1 (isB_block HI2).choose_spec).1
    have HC := (callsIn_wide (n := 0)).2 (Tryz.Builder_String_any_k b b (intsB l0) wr (Lib.IsBuilderF.of HI2) (by omega))
    have HIb := Sd.mk (isB_block HI2)
    clear HI2
    gi_wp2_with (gi_at_call 122; refine HC.mono ?_; rintro e w' ⟨rfl, k1, k2, k3⟩)
    obtain ⟨cs', hcs'⟩ := HIb.out
    refine leaves_marks Ds w' (fun D hD => ⟨(HD.out D hD).1, k3 _ _ (HD.out D hD).2 (fun e => ?_) (fun c fz e => by cases e)⟩) HN.out (by have := k2.size; omega) (fun W' hb' => ?_)
    . injection e with e
      subst e
      rw [(HD.out D hD).2] at hcs'
      cases hcs'
    . have hok : wire_Ints_f l0 = some (⟨(intsB l0).toArray⟩, 0) := by
       have := HA.out
       rw [List.take_length] at this
       unfold wire_Ints_f
       rw [if_pos hlen, if_pos this]
      have h2 := HH.out
      rw [hok] at h2
      obtain ⟨rfl, rfl⟩ : (⟨(intsB l0).toArray⟩ : ByteArray) = r1 /\ (0 : Int) = r2 := by simpa using h2
      have hb := HBB.out
      refine ⟨.tuple #[.string ⟨(intsB l0).toArray⟩, .int .i64 0], by simp [results, Tryz.results89, go_sem], rfl, ?_⟩
      rw [hb]
      exact (HB.out.trans k2).trans hb'
end Go.Proofs.YtfhphiedbdinmaaGreatDoor.Q
namespace Go.Proofs.YtfhphiedbdinmaaGreatDoor.A
open Go Go.RowKit Ab Q
def wire_Ints_sig (k : Nat) : Sig := ⟨[(.sl (.int .i64))], [.str, (.int .i64)], fun x => wire_Ints k x.1⟩
theorem wire_Ints_ok (k : Nat) : FnOk Go.Proofs.Tryz.prog 89 (wire_Ints_sig k) := by
 refine ⟨entersAb (by kernel_rfl), ?_⟩
 rintro ⟨l, _⟩ ⟨r, e, _⟩ hy S w vs _ hS ha
 change List Int at l
 change ByteArray at r
 change Int at e
 match vs, ha with
 | [v0], ⟨h0, _⟩ =>
 obtain ⟨A, c, hv, hc, hcells⟩ := (h0 : Reps S (.sl (.int .i64)) l [v0])
 obtain rfl : v0 = .slice A (lst (t := .int .i64) l).length c := by simpa using hv
 replace hy : wire_Ints k l = some (r, e, ()) := hy
 have hf : wire_Ints_f l = some (r, e) := by
  unfold wire_Ints at hy
  unfold wire_Ints_f
  rw [cond_eq_ite] at hy
  split at hy
  . rename_i h1
    rw [if_pos (of_decide_eq_true h1)]
    rw [cond_eq_ite] at hy
    split at hy
    . rename_i h2; rw [if_pos h2]; simpa using hy
    . rename_i h2; rw [if_neg h2]; simpa using hy
  . cases hy
 refine (wire_Ints_calls A c l r e w (fun i x hi => ?_) hf).mono fun en w' ⟨he, hb⟩ => comes_below he hS hb ⟨[.string r, .int .i64 e], rfl, rfl, rfl, trivial⟩
 obtain ⟨a, us, h1, h2, h3⟩ := hcells i x hi
 have h2' : us = [.int .i64 x] := h2
 subst h2'
 refine ⟨a, h1, ?_⟩
 have := hS _ _ (h3 0 _ rfl)
 simpa [Ty.width] using this
end Go.Proofs.YtfhphiedbdinmaaGreatDoor.A
namespace Go.Proofs.YtfhphiedbdinmaaGreatDoor.Q
open Go.RowKit A
def Kc (w w' : World) (g : Nat) : Prop := ∀ (p : Addr) (v : Value), p.block ≠ g -> w.cell? p = some v -> w'.cell? p = some v
theorem Kc.refl (w : World) (g : Nat) : Kc w w g := fun _ _ _ h => h
theorem Kc.set_ {w w1 : World} {g : Nat} (h : Kc w w1 g) (j : Nat) (u : Value) : Kc w (w1.setCell ⟨g, j, none⟩ u) g := fun p v hp hc => by
 have e := Below.heap_setCell w1 ⟨g, j, none⟩ u p.block hp
 have := h p v hp hc
 simpa [World.cell?, e] using this
theorem Kc.trans {w w1 w2 : World} {g : Nat} (h : Kc w w1 g) (k : Kc w1 w2 g) : Kc w w2 g := fun p v hp hc => k p v hp (h p v hp hc)
theorem Kc.drew {w w1 : World} {g : Nat} (h : Kc w w1 g) : Kc w w1.drew g := fun p v hp hc => h p v hp hc
def IsR (w0 w : World) (g : Nat) (c : Int) : Prop := w.heap[g]? = some (.cells #[.int .i64 c] 317 (0, 0)) /\ w0.heap.size <= g
theorem at_str {l0 : List ByteArray} {A0 : Option Addr} {w : World} (h : ∀ (i : Nat) (x : ByteArray), l0[i]? = some x -> ∃ ad, A0 = some ad /\ w.cell? (ad.add i) = some (.string x)) (i : Int) (h0 : 0 <= i) (h1 : i < l0.length) : ∃ ad, A0 = some ad /\ w.cell? (ad.add i.toNat) = some (.string (l0.getD i.toNat ByteArray.empty)) := by
 have hi : i.toNat < l0.length := by omega
 have e : l0[i.toNat]? = some (l0.getD i.toNat ByteArray.empty) := by rw [List.getD_eq_getElem?_getD, List.getElem?_eq_getElem hi]; rfl
 exact h _ _ e
theorem addr_add_block (a : Addr) (n : Nat) : (a.add n).block = a.block := by unfold Addr.add; split <;> rfl
theorem take_all8 (s : ByteArray) : s.data.toList.take s.size = s.data.toList := List.take_of_length_le (Nat.le_of_eq (by rw [Array.length_toList]; rfl))
theorem take_snoc8 (s : ByteArray) (k : Nat) (h : k < s.size) : s.data.toList.take (k + 1) = s.data.toList.take k ++ [s[k]] := by
 rw [List.take_succ_eq_append_getElem (by simpa using h)]; rfl
set_option maxHeartbeats 4000000 in
set_option maxRecDepth 100000 in
theorem sum_state_addT (g T : Nat) (c b : Int) (w0 w : World) (hI : w.heap[g]? = some (.cells #[.int .i64 c] T (0, 0))) (hB : Below w0.heap.size w0 w) (hg : w0.heap.size <= g) :
 Calls Tryz.prog 196 #[.pointer (some ⟨g, 0, none⟩), .int .u8 b] w fun e w' => e = .returned (.tuple #[]) /\ w'.heap[g]? = some (.cells #[.int .i64 (crcByte c b)] T (0, 0)) /\ Below w0.heap.size w0 w' /\ Kc w w' g := by
 have HI0 := Sd.mk hI
 have HK := Sd.mk (Kc.refl w g)
 have HB := Sd.mk hB
 have HG := Sd.mk hg
 have hcz := bk_cell hI 0
 have hfz := bk_frozen hI 0
 simp only [List.getElem?_toArray, List.getElem?_cons_zero] at hcz
 clear hB hI hg
 go_enter Tryz.func196, Tryz.ntmps196
 go_wp2
 go_loopw [14] (fun v14 w' => ∃ j : Nat, j <= 8 /\ v14 = .int .i64 j /\ Sd (w'.heap[g]? = some (.cells #[.int .i64 (crcTurns j (Go.bits .xor .i64 c (wrap64 (wrap64 b * 256))))] T (0, 0))) /\ Sd (Kc w w' g) /\ Sd (Below w0.heap.size w0 w')) (fun v _ => 8 - (intOf v).toNat)
 case atStart => exact ⟨0, by omega, rfl, ⟨bk_put HI0.out 0 _ rfl⟩, ⟨Kc.set_ HK.out _ _⟩, ⟨HB.out.setCell HG.out _⟩⟩
 case round =>
  clear hcz hfz HI0 HK HB
  obtain ⟨j, hj, rfl, HI, HK, HB⟩ := hrel
  have hcz := bk_cell HI.out 0
  have hfz := bk_frozen HI.out 0
  simp only [List.getElem?_toArray, List.getElem?_cons_zero] at hcz
  obtain ⟨X, hX⟩ : ∃ X, crcTurns j (Go.bits .xor .i64 c (wrap64 (wrap64 b * 256))) = X := ⟨_, rfl⟩
  have HS := Sd.mk (crcTurns_succ j (Go.bits .xor .i64 c (wrap64 (wrap64 b * 256))))
  rw [hX] at hcz
  have HX := Sd.mk hX
  clear hX
  by_cases hlt : j < 8
  . by_cases h2 : wrap64 (X * 2) >= 65536
    . have HV := Sd.mk (show crcTurn X = Go.bits .xor .i64 (wrap64 (X * 2)) 69665 from if_pos h2)
      have c5b0 : decide (65536 <= (wrap64 (X * 2))) = true := decide_eq_true h2
      clear h2
      go_wp2
      go_roundw
      case measure => simp [intOf]; omega
      case rel =>
       have e : crcTurns (j + 1) (Go.bits .xor .i64 c (wrap64 (wrap64 b * 256))) = Go.bits .xor .i64 (wrap64 (X * 2)) 69665 := by rw [HS.out, HX.out, HV.out]
       exact ⟨j + 1, by omega, by go_num, ⟨by rw [e]; exact bk_put (bk_put HI.out 0 _ rfl) 0 _ rfl⟩, ⟨Kc.set_ (Kc.set_ HK.out _ _) _ _⟩, ⟨(HB.out.setCell HG.out _).setCell HG.out _⟩⟩
    . have HV := Sd.mk (show crcTurn X = wrap64 (X * 2) from if_neg h2)
      have c5b0 : decide (65536 <= (wrap64 (X * 2))) = false := decide_eq_false h2
      clear h2
      go_wp2
      go_roundw
      case measure => simp [intOf]; omega
      case rel =>
       have e : crcTurns (j + 1) (Go.bits .xor .i64 c (wrap64 (wrap64 b * 256))) = wrap64 (X * 2) := by rw [HS.out, HX.out, HV.out]
       exact ⟨j + 1, by omega, by go_num, ⟨by rw [e]; exact bk_put HI.out 0 _ rfl⟩, ⟨Kc.set_ HK.out _ _⟩, ⟨HB.out.setCell HG.out _⟩⟩
  . obtain rfl : j = 8 := by omega
    go_wp2
    go_end0
    exact ⟨rfl, HI.out, HB.out, HK.out⟩
def sum_reader_read_f (c : Int) (l : List ByteArray) : Option (Int × Int) := if l.all (fun s => decide (s.size <= 9223372036854775807)) = true then some (crcRow c l, crcRow c l) else none
set_option maxHeartbeats 4000000 in
set_option maxRecDepth 100000 in
theorem sum_reader_read_calls (g : Nat) (s0_0 : Int) (A1 : Option Addr) (c1 : Nat) (l1 : List ByteArray) (r1 r2 : Int) (w0 w : World) (hI : IsR w0 w g s0_0) (hB : Below w0.heap.size w0 w) (hr1 : ∀ (i : Nat) (x : ByteArray), l1[i]? = some x -> ∃ ad, A1 = some ad /\ w.cell? (ad.add i) = some (.string x)) (hlen : l1.length <= 9223372036854775807) (hf1 : ∀ ad, A1 = some ad -> 0 < l1.length -> ad.block ≠ g) (h : sum_reader_read_f s0_0 l1 = some (r1, r2)) :
 Calls Tryz.prog 160 #[.pointer (some ⟨g, 0, none⟩), .slice A1 l1.length c1] w fun e w' => e = .returned (.int .i64 r1) /\ IsR w0 w' g r2 /\ Below w0.heap.size w0 w' /\ Kc w w' g := by
 unfold sum_reader_read_f at h
 split at h
 case isFalse => cases h
 rename_i hall
 obtain ⟨rfl, rfl⟩ : crcRow s0_0 l1 = r1 /\ crcRow s0_0 l1 = r2 := by simpa using h
 clear h
 have HALL := Sd.mk (fun s hs => of_decide_eq_true (List.all_eq_true.1 hall s hs) : ∀ s ∈ l1, s.size <= 9223372036854775807)
 have HR := Sd.mk hr1
 have HF := Sd.mk hf1
 have HB := Sd.mk hB
 have HI := Sd.mk hI
 have HK := Sd.mk (Kc.refl w g)
 have HG := Sd.mk hI.2
 clear hr1 hf1 hall hB hI
 go_enter Tryz.func160, Tryz.ntmps160
 go_wp2
 go_loopw [10] (fun v10 w' => ∃ i : Nat, i <= l1.length /\ v10 = .int .i64 i /\ Sd (IsR w0 w' g (crcRow s0_0 (l1.take i))) /\ Sd (Below w0.heap.size w0 w') /\ Sd (Kc w w' g)) (fun v _ => l1.length - (intOf v).toNat)
 case atStart => exact ⟨0, by omega, rfl, HI, HB, HK⟩
 case round =>
  clear HI HB HK
  obtain ⟨i, hi, rfl, HI, HB, HK⟩ := hrel
  obtain ⟨wo, rfl⟩ : ∃ wo : World, wo = wr := ⟨_, rfl⟩
  by_cases hlt : i < l1.length
  . obtain ⟨ad, e, hx⟩ := at_str HR.out (i : Int) (by omega) (by omega)
    have hne := HF.out ad e (by omega)
    cases e
    have hx2 := HK.out _ _ (by rw [addr_add_block]; exact hne) hx
    clear hx
    obtain ⟨s, hs⟩ : ∃ s, l1.getD (i : Int).toNat ByteArray.empty = s := ⟨_, rfl⟩
    rw [hs] at hx2
    simp only [Int.toNat_natCast] at hx2
    have hs2 : l1[i] = s := by rw [<- hs]; simp [List.getD_eq_getElem?_getD, List.getElem?_eq_getElem hlt]
    have hsz : s.size <= 9223372036854775807 := HALL.out s (by rw [<- hs2]; exact List.getElem_mem _)
    have HST := Sd.mk (show crcRow s0_0 (l1.take (i + 1)) = crcStr (crcRow s0_0 (l1.take i)) s.data.toList by
     rw [List.take_succ_eq_append_getElem hlt, hs2]; simp [crcRow, List.foldl_append])
    clear hs hs2
    go_wp2
    go_loopw [16] (fun v16 w' => ∃ m : Nat, m <= s.size /\ v16 = .int .i64 m /\ Sd (IsR w0 w' g (crcStr (crcRow s0_0 (l1.take i)) (s.data.toList.take m))) /\ Sd (Below w0.heap.size w0 w') /\ Sd (Kc w w' g)) (fun v _ => s.size - (intOf v).toNat)
    case atStart => exact ⟨0, by omega, rfl, HI, HB, HK⟩
    case round =>
     clear HI HB HK hx2
     obtain ⟨m, hm, rfl, HI, HB, HK⟩ := hrel
     by_cases hlm : m < s.size
     . have HT := Sd.mk (show crcStr (crcRow s0_0 (l1.take i)) (s.data.toList.take (m + 1)) = crcByte (crcStr (crcRow s0_0 (l1.take i)) (s.data.toList.take m)) (s[m].toNat : Int) by
        rw [take_snoc8 s m hlm]; simp [crcStr, List.foldl_append])
       obtain ⟨X, hX⟩ : ∃ X, crcStr (crcRow s0_0 (l1.take i)) (s.data.toList.take m) = X := ⟨_, rfl⟩
       rw [hX] at HI
       have HX := Sd.mk hX
       clear hX
       have c0 : decide ((m : Int) < (s.size : Int)) = true := decide_eq_true (by omega)
       go_wp2
       go_still_tail 6, (by kernel_rfl)
       go_wp2_with (go_at_call 196; go_must (refine (sum_state_addT g 317 X _ w0 wr.drew HI.out.1 (bw_drew HB.out) HG.out).mono ?_); rintro e w' ⟨rfl, h1, h2, h3⟩; have HI' := Sd.mk h1; have HB' := Sd.mk h2; have HK' := Sd.mk (Kc.trans (Kc.drew HK.out) h3); clear h1 h2 h3)
       go_roundw
       case measure => simp [intOf]; omega
       case rel => exact ⟨m + 1, by omega, by go_num, ⟨by rw [HT.out, HX.out]; exact ⟨HI'.out, HG.out⟩⟩, HB', HK'⟩
     . obtain rfl : m = s.size := by omega
       go_wp2
       go_roundw
       case measure => simp [intOf]; omega
       case rel => exact ⟨i + 1, by omega, by go_num, ⟨by rw [HST.out]; have := HI.out; rwa [take_all8] at this⟩, HB, HK⟩
  . obtain rfl : i = l1.length := by omega
    have HI2 := HI.out
    rw [List.take_length] at HI2
    have hcz := bk_cell HI2.1 0
    simp only [List.getElem?_toArray, List.getElem?_cons_zero] at hcz
    have HI3 := Sd.mk HI2
    clear HI2
    go_wp2
    go_ret
    exact ⟨rfl, HI3.out, HB.out, HK.out⟩
set_option maxHeartbeats 1000000 in
theorem sum_open_calls (w : World) : Calls Tryz.prog 159 #[] w fun e w' => e = .returned (.pointer (some ⟨w.heap.size, 0, none⟩)) /\ w' = w.alloc (.cells #[.int .i64 65535] 317) := by
 go_enter Tryz.func159, Tryz.ntmps159
 go_wp2
 go_ret
 exact ⟨rfl, rfl⟩
set_option maxHeartbeats 1000000 in
theorem sum_Over_calls (A1 : Option Addr) (c1 : Nat) (l1 : List ByteArray) (w : World) (hr1 : ∀ (i : Nat) (x : ByteArray), l1[i]? = some x -> ∃ ad, A1 = some ad /\ w.cell? (ad.add i) = some (.string x)) (hlen : l1.length <= 9223372036854775807) (h : l1.all (fun s => decide (s.size <= 9223372036854775807)) = true) :
 Calls Tryz.prog 125 #[.slice A1 l1.length c1] w fun e w' => e = .returned (.int .i64 (crcRow 65535 l1)) /\ Below w.heap.size w w' := by
 have hlt : ∀ (i : Nat) (x : ByteArray), l1[i]? = some x -> ∃ ad, A1 = some ad /\ ad.block < w.heap.size /\ w.cell? (ad.add i) = some (.string x) := fun i x hi => by
  obtain ⟨ad, e, hc⟩ := hr1 i x hi
  have := World.block_lt_of_cell? w _ hc
  rw [addr_add_block] at this
  exact ⟨ad, e, this, hc⟩
 have HR := Sd.mk hlt
 have HH := Sd.mk h
 have HL := Sd.mk hlen
 clear hr1 h hlen hlt
 go_enter Tryz.func125, Tryz.ntmps125
 go_wp2_with (go_at_call 159; refine (sum_open_calls _).mono ?_; rintro e w' ⟨rfl, rfl⟩)
 go_wp2_with (go_at_call 160; refine (sum_reader_read_calls w.heap.size 65535 A1 c1 l1 (crcRow 65535 l1) (crcRow 65535 l1) w _ ⟨heap_alloc_new w _, Nat.le_refl _⟩ (bw_alloc (Below.refl _ _) _) (fun i x hi => ?_) HL.out (fun ad e h0 => ?_) (by unfold sum_reader_read_f; rw [if_pos HH.out])).mono ?_)
 . obtain ⟨ad, e, hb, hc⟩ := HR.out i x hi
   refine ⟨ad, e, ?_⟩
   exact ((bw_alloc (Below.refl _ w) _).cell (by rw [addr_add_block]; exact hb)).trans hc
 . obtain ⟨ad', e', hb, hc⟩ := HR.out 0 l1[0] (List.getElem?_eq_getElem h0)
   rw [e] at e'
   obtain rfl := Option.some.inj e'
   omega
 . rintro e w' ⟨rfl, h1, h2, h3⟩
   have H2 := Sd.mk h2
   clear h1 h2 h3
   go_wp2
   go_ret
   exact ⟨rfl, H2.out⟩
set_option maxHeartbeats 1000000 in
theorem sum_Of_calls (s : ByteArray) (w : World) (h : s.size <= 9223372036854775807) :
 Calls Tryz.prog 162 #[.string s] w fun e w' => e = .returned (.int .i64 (crcStr 65535 s.data.toList)) /\ Below w.heap.size w w' := by
 have HH := Sd.mk h
 clear h
 go_enter Tryz.func162, Tryz.ntmps162
 go_wp2_with (go_at_call 159; refine (sum_open_calls _).mono ?_; rintro e w' ⟨rfl, rfl⟩)
 go_wp2_with (go_at_call 160; refine (sum_reader_read_calls w.heap.size 65535 (some ⟨w.heap.size + 1, 0, none⟩) 1 [s] (crcRow 65535 [s]) (crcRow 65535 [s]) w _ ⟨?za, Nat.le_refl _⟩ (bw_alloc (bw_alloc (Below.refl _ _) _) _) (fun i x hi => ?zb) (by simp) (fun ad e h0 => ?zc) (by unfold sum_reader_read_f; rw [if_pos (by simpa using HH.out)])).mono ?zd)
 case zd =>
  rintro e w' ⟨rfl, h1, h2, h3⟩
  have H2 := Sd.mk h2
  clear h1 h2 h3
  go_wp2
  go_ret
  exact ⟨rfl, H2.out⟩
 case za => exact (Below.heap_alloc _ _ _ (by simp)).trans (heap_alloc_new w _)
 case zc =>
  obtain rfl := Option.some.inj e
  simp
 case zb =>
  match i, hi with
  | 0, hi =>
    obtain rfl := Option.some.inj hi
    refine ⟨_, rfl, ?_⟩
    have := heap_alloc_new (w.alloc (.cells #[.int .i64 65535] 317)) (.cells #[.string s] 9)
    rw [World.size_alloc] at this
    exact bk_cell this 0
end Go.Proofs.YtfhphiedbdinmaaGreatDoor.Q
namespace Go.Proofs.YtfhphiedbdinmaaGreatDoor.A
open Go Go.RowKit Ab Q
def sum_Over_sig (k : Nat) : Sig := ⟨[(.sl .str)], [(.int .i64)], fun x => sum_Over k x.1⟩
theorem sum_Over_ok (k : Nat) : FnOk Go.Proofs.Tryz.prog 125 (sum_Over_sig k) := by
 refine ⟨entersAb (by kernel_rfl), ?_⟩
 rintro ⟨l, _⟩ ⟨r, _⟩ hy S w vs _ hS ha
 change List ByteArray at l
 change Int at r
 match vs, ha with
 | [v0], ⟨h0, _⟩ =>
 obtain ⟨A, c, hv, hc, hcells⟩ := (h0 : Reps S (.sl .str) l [v0])
 obtain rfl : v0 = .slice A (lst (t := .str) l).length c := by simpa using hv
 replace hy : sum_Over k l = some (r, ()) := hy
 unfold sum_Over at hy
 rw [cond_eq_ite] at hy
 split at hy
 . rename_i hg
   simp only [Bool.and_eq_true, decide_eq_true_eq] at hg
   obtain rfl : crcRow 65535 l = r := by simpa using hy
   exact (sum_Over_calls A c l w (row_get hS hcells) (by omega) hg.2).mono fun en w' ⟨he, hb⟩ => comes_below he hS hb (show Reps S (.int .i64) _ [.int .i64 _] from rfl)
 . cases hy
def sum_Of_sig (k : Nat) : Sig := ⟨[.str], [(.int .i64)], fun x => sum_Of k x.1⟩
theorem sum_Of_ok (k : Nat) : FnOk Go.Proofs.Tryz.prog 162 (sum_Of_sig k) := by
 refine ⟨entersAb (by kernel_rfl), ?_⟩
 rintro ⟨s, _⟩ ⟨r, _⟩ hy S w vs _ hS ha
 change ByteArray at s
 change Int at r
 match vs, ha with
 | [v0], ⟨h0, _⟩ =>
 have h0 : [v0] = [.string s] := h0
 obtain rfl : v0 = .string s := by simpa using h0
 replace hy : sum_Of k s = some (r, ()) := hy
 unfold sum_Of at hy
 rw [cond_eq_ite] at hy
 split at hy
 . rename_i hg
   obtain rfl : crcStr 65535 s.data.toList = r := by simpa using hy
   exact (sum_Of_calls s w (of_decide_eq_true hg)).mono fun en w' ⟨he, hb⟩ => comes_below he hS hb (show Reps S (.int .i64) _ [.int .i64 _] from rfl)
 . cases hy
end Go.Proofs.YtfhphiedbdinmaaGreatDoor.A
