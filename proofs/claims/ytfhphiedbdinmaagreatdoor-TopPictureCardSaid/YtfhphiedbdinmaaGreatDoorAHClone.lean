import Derived.Test.YtfhphiedbdinmaaGreatDoorAHSum
import Derived.Test.YtfhphiedbdinmaaGreatDoorAHCloneW
import Derived.Shelf.Spec.SlicesInsertGrow
set_option linter.all false
namespace Go.Proofs.YtfhphiedbdinmaaGreatDoor.Q
open Go Go.Shelf Go.RowKit Go.Lib
def ren22 : Go.Shelf.Ren := ⟨fun | 22 => 117 | 17 => 223 | 29 => 154 | 30 => 155 | 36 => 194 | n => n, fun | 24 => 23 | 9 => 9 | 4 => 4 | 3 => 3 | 0 => 0 | n => n, fun | n => n⟩
theorem lays22 : Go.Proofs.Lays2.n22 Tryz.prog ren22 := {
 mixed := by kernel_rfl
 f22 := Tryz.func117.trans (congrArg some (by kernel_rfl))
 f17 := Tryz.func223.trans (congrArg some (by kernel_rfl))
 f29 := Tryz.func154.trans (congrArg some (by kernel_rfl))
 f30 := Tryz.func155.trans (congrArg some (by kernel_rfl))
 f36 := Tryz.func194.trans (congrArg some (by kernel_rfl))
 t0 := Tryz.underlying0
 a0 := Tryz.isAgg0
 z0 := Tryz.sizeOf0
 v0 := Tryz.zeroValue0
 t3 := Tryz.underlying3
 a3 := Tryz.isAgg3
 z3 := Tryz.sizeOf3
 v3 := Tryz.zeroValue3
 t4 := Tryz.underlying4
 a4 := Tryz.isAgg4
 z4 := Tryz.sizeOf4
 v4 := Tryz.zeroValue4
 t9 := Tryz.underlying9
 a9 := Tryz.isAgg9
 z9 := Tryz.sizeOf9
 v9 := Tryz.zeroValue9
 t24 := Tryz.underlying23
 a24 := Tryz.isAgg23
 z24 := Tryz.sizeOf23
 v24 := Tryz.zeroValue23
 i9 := by kernel_rfl }
theorem bw_setCells {B g : Nat} {a : World} (hB : B <= g) : ∀ (vs : List Value) (o : Nat) (w : World), Below B a w -> Below B a (w.setCells g o vs)
 | [], _, _, h => h
 | v :: r, o, w, h => bw_setCells hB r (o + 1) _ (h.setCell hB v)
theorem two_set (W : World) (g : Nat) (x : Value) (cs : List Value) (h : ∀ j, j <= cs.length -> (W.cell? ⟨g, j, none⟩).isSome = true) (j : Nat) (v : Value) (hj : (x :: cs)[j]? = some v) : (((W.setCells g 0 [x]).drew).setCells g (0 + 1) cs).cell? ⟨g, j, none⟩ = some v := by
 have hs : ∀ k, k <= cs.length -> (((W.setCells g 0 [x]).drew).cell? ⟨g, k, none⟩).isSome = true := fun k hk => isSome_setCells g [x] 0 W (fun j hj => by
  have e0 : j = 0 := by simpa using hj
  rw [e0]; exact h 0 (Nat.zero_le _)) k (h k hk)
 cases j with
 | zero =>
   simp only [List.getElem?_cons_zero, Option.some.injEq] at hj
   subst hj
   rw [World.cell?_setCells_out g cs (0 + 1) _ _ (fun _ _ => .inl (by simp))]
   have := World.cell?_setCells_in g [x] 0 W (fun j hj => by
    have e0 : j = 0 := by simpa using hj
    rw [e0]; exact h 0 (Nat.zero_le _)) 0 (by simp)
   exact this
 | succ j =>
   rw [List.getElem?_cons_succ] at hj
   have hlt := (List.getElem?_eq_some_iff.1 hj).1
   have := World.cell?_setCells_in g cs (0 + 1) ((W.setCells g 0 [x]).drew) (fun j hj => by have := hs (j + 1) (by omega); rwa [show 0 + 1 + j = j + 1 by omega]) j hlt
   rw [List.getElem?_eq_getElem hlt] at hj
   rw [<- hj, <- this, show 0 + 1 + j = j + 1 by omega]
def Ins (B : Nat) (w : World) (x : Value) (cs : List Value) (e : Ending) (w' : World) : Prop :=
 ∃ g C, e = .returned (.slice (some ⟨g, 0, none⟩) (cs.length + 1) C) /\ (∀ j v, (x :: cs)[j]? = some v -> w'.cell? ⟨g, j, none⟩ = some v) /\ Below B w w'
theorem ins_row (B g cap : Nat) (cur : Array Value) (cs : List Value) (x : Value) (vb : Nat) (w : World) (hg : w.heap[g]? = some (.cells cur 9 (0, 0))) (hB : B <= g) (hcap : cs.length <= cap) (hmax : cap <= maxLen) (hcur : cur.size = cap)
 (hcs : cur.toList.take cs.length = cs) (h1 : ∀ v ∈ cs, v.oneCell' = true) (hx1 : x.oneCell' = true) (hvb : vb ≠ g) (hv : w.heap[vb]? = some (.cells #[x] 9 (0, 0))) (hB2 : B <= w.heap.size) (hbig : (cs.length + 1) * 16 <= 140737488355328) :
 Calls Tryz.prog 117 #[.slice (some ⟨g, 0, none⟩) cs.length cap, .int .i64 0, .slice (some ⟨vb, 0, none⟩) 1 1] w (Ins B w x cs) := by
 have hvx : ∀ j v, ([x] : List Value)[j]? = some v -> w.cell? ⟨vb, 0 + j, none⟩ = some v := by
  intro j v hj
  rw [bk_cell hv, Nat.zero_add]
  simpa using hj
 have hone : ∀ v ∈ ([x] : List Value), v.oneCell' = true := by simpa using hx1
 have hcell : ∀ j v, cs[j]? = some v -> w.cell? ⟨g, 0 + j, none⟩ = some v := by
  intro j v hj
  rw [bk_cell hg, Nat.zero_add]
  have hlt := (List.getElem?_eq_some_iff.1 hj).1
  rw [<- hcs, List.getElem?_take_of_lt hlt] at hj
  simpa using hj
 have hsome : ∀ j, j < cap -> (w.cell? ⟨g, 0 + j, none⟩).isSome = true := by
  intro j hj
  rw [bk_cell hg, Nat.zero_add, Array.getElem?_eq_getElem (by omega)]; rfl
 unfold maxLen at hmax
 rcases Nat.lt_or_ge cs.length cap with hroom | hroom
 . -- in place
   rcases Nat.eq_zero_or_pos cs.length with h0 | h0
   . have hnil : cs = [] := List.length_eq_zero_iff.1 h0
     subst hnil
     refine (Any2.slices_Insert_string_end_room lays22 g 0 0 cap vb 0 1 1 [x] w (by omega) hroom (by omega) rfl (fun j hj => by have := hsome j (by simp at hroom; omega); simpa using this) (fun j hj => bk_frozen hg _) hvx hone).mono ?_
     rintro e w' ⟨rfl, rfl⟩
     refine ⟨g, cap, rfl, fun j v hj => ?_, bw_setCells hB _ _ _ (Below.refl _ _)⟩
     have hlt := (List.getElem?_eq_some_iff.1 hj).1
     have := World.cell?_setCells_in g [x] 0 w (fun j hj => hsome j (by simp at hj hroom; omega)) j hlt
     rw [Nat.zero_add] at this
     rw [List.getElem?_eq_getElem hlt] at hj
     rw [this, <- hj]
   . refine (Any2.slices_Insert_string_shift lays22 g 0 cs.length cap 0 vb 0 1 1 cs [x] w h0 (by omega) (by omega) (by omega) hvb rfl rfl hcell (fun j hj => hsome j (by omega)) (fun j hj => bk_frozen hg _) hvx h1 hone 9 9 1 cap (by simp [World.shape?, hv]) (by simp [World.shape?, hg, hcur]) (by omega) (bk_frozen hv _) (bk_frozen hv _)).mono ?_
     rintro e w' ⟨rfl, rfl⟩
     refine ⟨g, cap, rfl, fun j v hj => ?_, bw_setCells hB _ _ _ (bw_setCells hB _ _ _ (Below.refl _ _).drew)⟩
     have hlt := (List.getElem?_eq_some_iff.1 hj).1
     rw [List.drop_zero]
     have hs2 : ∀ k, k < cap -> ((w.drew.setCells g (0 + (0 + 1)) cs).cell? ⟨g, k, none⟩).isSome = true := fun k hk => isSome_setCells g cs _ _ (fun j hj => by have := hsome (1 + j) (by omega); simpa using this) k (by have := hsome k hk; simpa using this)
     cases j with
     | zero =>
       have := World.cell?_setCells_in g [x] 0 (w.drew.setCells g (0 + (0 + 1)) cs) (fun j hj => by
        have e0 : j = 0 := by simpa using hj
        rw [e0]; exact hs2 0 (by omega)) 0 (by simp)
       simp only [List.getElem?_cons_zero, Option.some.injEq] at hj
       subst hj
       simpa using this
     | succ j =>
       rw [List.getElem?_cons_succ] at hj
       rw [World.cell?_setCells_out g [x] (0 + 0) _ _ (fun _ _ => .inr (by simp))]
       have hlt' := (List.getElem?_eq_some_iff.1 hj).1
       have := World.cell?_setCells_in g cs (0 + (0 + 1)) w.drew (fun j hj => by have := hsome (1 + j) (by omega); simpa using this) j hlt'
       rw [List.getElem?_eq_getElem hlt'] at hj
       rw [<- hj, <- this, show 0 + (0 + 1) + j = j + 1 by omega]
 . -- a new row
   obtain rfl : cap = cs.length := by omega
   rcases Nat.eq_zero_or_pos cs.length with h0 | h0
   . have hnil : cs = [] := List.length_eq_zero_iff.1 h0
     subst hnil
     refine (Any2.slices_Insert_string_end_grow lays22 (some ⟨g, 0, none⟩) 0 0 vb 0 1 1 [] [x] w (by omega) (by omega) (by omega) hbig rfl rfl (fun h => by cases h) (fun a _ j v hj => by simp at hj) hvx hone).mono ?_
     rintro e w' ⟨rfl, rfl⟩
     refine ⟨_, _, rfl, fun j v hj => ?_, ((Below.refl _ _).drew).alloc (by exact hB2) _⟩
     have hlt := (List.getElem?_eq_some_iff.1 hj).1
     obtain rfl : j = 0 := by simpa using hlt
     rw [World.cell?_alloc_at (w := w.drew) _ _ w.heap.size 0 rfl, Array.getElem?_append_left (by simp)]
     simpa using hj
   . refine (Any2.slices_Insert_string_grow lays22 g 0 cs.length cs.length 0 vb 0 1 1 cs [x] w h0 (by omega) (by omega) (by omega) hbig rfl rfl hcell hvx h1 hone).mono ?_
     rintro e w' ⟨rfl, rfl⟩
     have hN : ∀ j, j < cs.length + 1 -> ∀ (G : Nat), ((w.alloc (.cells ((cs.take 0).toArray ++ Builtin.zeroCells (Value.string ⟨#[]⟩).cells (cs.length + 1 - 0) ++ Builtin.zeroCells (Value.string ⟨#[]⟩).cells G) 9)).drew.cell? ⟨w.heap.size, j, none⟩).isSome = true := by
      intro j hj G
      have : (w.alloc (.cells ((cs.take 0).toArray ++ Builtin.zeroCells (Value.string ⟨#[]⟩).cells (cs.length + 1 - 0) ++ Builtin.zeroCells (Value.string ⟨#[]⟩).cells G) 9)).cell? ⟨w.heap.size, j, none⟩ = _ := World.cell?_alloc_at (w := w) _ _ w.heap.size j rfl
      show (World.cell? _ _).isSome = true
      rw [show (w.alloc (.cells ((cs.take 0).toArray ++ Builtin.zeroCells (Value.string ⟨#[]⟩).cells (cs.length + 1 - 0) ++ Builtin.zeroCells (Value.string ⟨#[]⟩).cells G) 9)).drew.cell? ⟨w.heap.size, j, none⟩ = _ from this, Array.getElem?_eq_getElem (by simp [Builtin.zeroCells, Value.cells]; omega)]
      rfl
     refine ⟨_, _, rfl, fun j v hj => ?_, bw_setCells hB2 _ _ _ (bw_setCells hB2 _ _ _ (((Below.refl B w).alloc hB2 _).drew)).drew⟩
     rw [List.drop_zero]
     exact two_set _ _ x cs (fun j hj => hN j (by omega) _) j v hj
end Go.Proofs.YtfhphiedbdinmaaGreatDoor.Q
namespace Go.Proofs.YtfhphiedbdinmaaGreatDoor.A
open Go Go.RowKit Ab
theorem clone_calls (A : Option Addr) (c : Nat) (l : List ByteArray) (w : World) (hr : ∀ (i : Nat) (x : ByteArray), l[i]? = some x -> ∃ ad, A = some ad /\ w.cell? (ad.add i) = some (.string x)) (hsp : ∀ a, A = some a -> 0 < l.length -> a.spot = none) (hbig : l.length * 16 <= 140737488355328) :
 Calls Tryz.prog 100 #[.slice A l.length c] w fun e w' => ∃ v, e = .returned v /\ Below w.heap.size w w' /\ w'.ownsRow w.heap.size 9 1 v l.length (l.map Value.string) := by
 cases A with
 | none =>
   have hl : l = [] := by
    cases l with
    | nil => rfl
    | cons x l => obtain ⟨ad, h, _⟩ := hr 0 x rfl; cases h
   subst hl
   refine (Tryz.slices_Clone_string_nil 0 c w).mono ?_
   rintro e w' ⟨rfl, rfl⟩
   exact ⟨_, rfl, Below.refl _ _, rfl, .inl ⟨rfl, rfl⟩⟩
 | some a =>
   by_cases h0 : l.length = 0
   . have hl : l = [] := List.length_eq_zero_iff.1 h0
     subst hl
     refine (Tryz.slices_Clone_string_zero a c w).mono ?_
     rintro e w' ⟨v, rfl, h1, _, h2⟩
     exact ⟨v, rfl, h2, h1⟩
   . have hs := hsp a rfl (by omega)
     obtain ⟨b, off, sp⟩ := a
     simp only at hs
     subst hs
     refine (Tryz.slices_Clone_string b off l.length c l w (Nat.le_refl _) hbig (fun j hj => ?_)).mono ?_
     . obtain ⟨ad, e, h⟩ := hr j l[j] (by simp [hj])
       cases e
       rw [add_at] at h
       rw [h, List.getD_eq_getElem?_getD]
       simp [hj]
     . rintro e w' ⟨v, rfl, h1, _, h2⟩
       rw [List.take_length] at h1
       exact ⟨v, rfl, h2, h1⟩
theorem spot_none {w : World} {A : Option Addr} {l : List ByteArray} (hr : ∀ (i : Nat) (x : ByteArray), l[i]? = some x -> ∃ ad, A = some ad /\ w.cell? (ad.add i) = some (.string x)) {a : Addr} (ha : A = some a) (hpos : 0 < l.length) : a.spot = none := by
 obtain ⟨ad, e, h⟩ := hr 0 l[0] (by simp [hpos])
 rw [ha] at e; cases e
 unfold World.cell? at h
 split at h
 . split at h
   . cases h
   . rename_i q
     cases hs : a.spot with
     | none => rfl
     | some z => exact absurd (by simp [Addr.add, hs]) q
 . cases h
def slices_Clone_string_string_sig (k : Nat) : Sig := ⟨[.sl .str], [.sl .str], fun x => slices_Clone_string_string k x.1⟩
theorem slices_Clone_string_string_ok (k : Nat) : FnOk Go.Proofs.Tryz.prog 100 (slices_Clone_string_string_sig k) := by
 refine ⟨entersAb (by kernel_rfl), ?_⟩
 rintro ⟨l, _⟩ ⟨r, _⟩ hy S w vs _ hS ha
 change List ByteArray at l
 change List ByteArray at r
 match vs, ha with
 | [v1], ⟨h1, _⟩ =>
 obtain ⟨A, c, hv, hc, hcells⟩ := (h1 : Reps S (.sl .str) l [v1])
 obtain rfl : v1 = .slice A (lst (t := .str) l).length c := by simpa using hv
 replace hy : slices_Clone_string_string k l = some (r, ()) := hy
 unfold slices_Clone_string_string at hy
 rw [cond_eq_ite] at hy
 split at hy
 . rename_i hlen
   have hlen := of_decide_eq_true hlen
   obtain rfl : l = r := congrArg Prod.fst (Option.some.inj hy)
   have hr := row_get hS hcells
   refine (clone_calls A c l w hr (fun a ha hpos => ?_) hlen).mono ?_
   . exact spot_none hr ha hpos
   . rintro e w' ⟨v, rfl, hb, hown⟩
     exact row_comes hS hb (row_str S _) hown
 . cases hy
end Go.Proofs.YtfhphiedbdinmaaGreatDoor.A
