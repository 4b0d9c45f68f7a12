import Derived.Test.YtfhphiedbdinmaaGreatDoorAHSum
import Derived.Shelf.Spec.SlicesInsertGrow
import Derived.Laws.AppendOwn
set_option linter.all false
namespace Go.Proofs.YtfhphiedbdinmaaGreatDoor.Q
open Go Go.Shelf Go.RowKit Go.Lib
end Go.Proofs.YtfhphiedbdinmaaGreatDoor.Q
namespace Go.Proofs.YtfhphiedbdinmaaGreatDoor.A
open Go Go.RowKit Ab
theorem own_comes {S : Mem} {w w' : World} {v : Value} {l : List ByteArray} (hS : ∀ p v, S p = some v -> w.cell? p = some v) (hb : Below w.heap.size w w') (hown : w'.ownsRow w.heap.size 9 1 v l.length (l.map Value.string)) : Comes1 [.sl .str] (l, ()) S w (.returned v) w' := by
 obtain ⟨vsl, hvs⟩ : ∃ vsl : List Value, l.map Value.string = vsl := ⟨_, rfl⟩
 rw [hvs] at hown
 rcases hown.2 with ⟨rfl, hz⟩ | ⟨g, cap, cur, rfl, hB, hh, hcap, _, hcs, htake⟩
 . obtain rfl : l = [] := List.length_eq_zero_iff.1 hz
   refine ⟨_, S, rfl, Mem.le_refl S, fun p u h => (hb.cell (World.block_lt_of_cell? w _ (hS p u h))).trans (hS p u h), fun p u h h0 => (by rw [h] at h0; cases h0), ?_, hb⟩
   exact (⟨none, 0, rfl, Nat.le_refl _, fun i x hi => by simp [lst] at hi⟩ : Reps S (.sl .str) [] _)
 . have hne : ∀ p u, S p = some u -> p.block ≠ g := fun p u h => by have := World.block_lt_of_cell? w _ (hS p u h); omega
   have hle : S.le (memAdd S g vsl) := fun p u h => by unfold memAdd; rw [if_neg (hne p u h)]; exact h
   rw [Nat.mul_one] at htake
   refine ⟨_, memAdd S g vsl, rfl, hle, fun p u h => ?_, fun p u h h0 => ?_, ?_, hb⟩
   . unfold memAdd at h
     split at h
     . rename_i hpb
       obtain ⟨pb, po, ps⟩ := p
       simp only at hpb; subst hpb
       cases ps with
       | some z => cases h
       | none =>
         simp only at h
         rw [<- htake, List.getElem?_take] at h
         split at h
         . simpa [World.cell?, hh] using h
         . cases h
     . exact (hb.cell (World.block_lt_of_cell? w _ (hS p u h))).trans (hS p u h)
   . unfold memAdd at h
     split at h
     . rename_i hpb; rw [hpb]; exact ⟨hB, _, _, hh⟩
     . rw [h] at h0; cases h0
   . refine (⟨some ⟨g, 0, none⟩, cap, rfl, hcap, fun i x hi => ⟨_, [.string x], rfl, rfl, fun j u hj => ?_⟩⟩ : Reps (memAdd S g vsl) (.sl .str) l _)
     match j, hj with
     | 0, hj =>
       obtain rfl := Option.some.inj hj
       have hi2 : l[i]? = some x := hi
       rw [add_at]
       unfold memAdd
       rw [if_pos rfl]
       show vsl[0 + (i * Ty.str.width + 0)]? = _
       rw [<- hvs, List.getElem?_map]
       simp [Ty.width, hi2]
       rfl
theorem clone_calls (A : Option Addr) (c : Nat) (l : List ByteArray) (w : World) (hr : ∀ (i : Nat) (x : ByteArray), l[i]? = some x -> ∃ ad, A = some ad /\ w.cell? (ad.add i) = some (.string x)) (hsp : ∀ a, A = some a -> 0 < l.length -> a.spot = none) (hbig : l.length * 16 <= 140737488355328) :
 Calls Tryz.prog 100 #[.slice A l.length c] w fun e w' => ∃ v, e = .returned v /\ Below w.heap.size w w' /\ w'.ownsRow w.heap.size 9 1 v l.length (l.map Value.string) := by
 cases A with
 | none =>
   have hl : l = [] := by
    cases l with
    | nil => rfl
    | cons x l => obtain ⟨ad, h, _⟩ := hr 0 x rfl; cases h
   subst hl
   refine (Tryz.slices_Clone_string_nil 0 c w).mono ?_
   rintro e w' ⟨rfl, rfl⟩
   exact ⟨_, rfl, Below.refl _ _, rfl, .inl ⟨rfl, rfl⟩⟩
 | some a =>
   by_cases h0 : l.length = 0
   . have hl : l = [] := List.length_eq_zero_iff.1 h0
     subst hl
     refine (Tryz.slices_Clone_string_zero a c w).mono ?_
     rintro e w' ⟨v, rfl, h1, _, h2⟩
     exact ⟨v, rfl, h2, h1⟩
   . have hs := hsp a rfl (by omega)
     obtain ⟨b, off, sp⟩ := a
     simp only at hs
     subst hs
     refine (Tryz.slices_Clone_string b off l.length c l w (Nat.le_refl _) hbig (fun j hj => ?_)).mono ?_
     . obtain ⟨ad, e, h⟩ := hr j l[j] (by simp [hj])
       cases e
       rw [add_at] at h
       rw [h, List.getD_eq_getElem?_getD]
       simp [hj]
     . rintro e w' ⟨v, rfl, h1, _, h2⟩
       rw [List.take_length] at h1
       exact ⟨v, rfl, h2, h1⟩
theorem spot_none {w : World} {A : Option Addr} {l : List ByteArray} (hr : ∀ (i : Nat) (x : ByteArray), l[i]? = some x -> ∃ ad, A = some ad /\ w.cell? (ad.add i) = some (.string x)) {a : Addr} (ha : A = some a) (hpos : 0 < l.length) : a.spot = none := by
 obtain ⟨ad, e, h⟩ := hr 0 l[0] (by simp [hpos])
 rw [ha] at e; cases e
 unfold World.cell? at h
 split at h
 . split at h
   . cases h
   . rename_i q
     cases hs : a.spot with
     | none => rfl
     | some z => exact absurd (by simp [Addr.add, hs]) q
 . cases h
def slices_Clone_string_string_sig (k : Nat) : Sig := ⟨[.sl .str], [.sl .str], fun x => slices_Clone_string_string k x.1⟩
theorem slices_Clone_string_string_ok (k : Nat) : FnOk Go.Proofs.Tryz.prog 100 (slices_Clone_string_string_sig k) := by
 refine ⟨entersAb (by kernel_rfl), ?_⟩
 rintro ⟨l, _⟩ ⟨r, _⟩ hy S w vs hS ha
 change List ByteArray at l
 change List ByteArray at r
 match vs, ha with
 | [v1], ⟨h1, _⟩ =>
 obtain ⟨A, c, hv, hc, hcells⟩ := (h1 : Reps S (.sl .str) l [v1])
 obtain rfl : v1 = .slice A (lst (t := .str) l).length c := by simpa using hv
 replace hy : slices_Clone_string_string k l = some (r, ()) := hy
 unfold slices_Clone_string_string at hy
 rw [cond_eq_ite] at hy
 split at hy
 . rename_i hlen
   have hlen := of_decide_eq_true hlen
   obtain rfl : l = r := congrArg Prod.fst (Option.some.inj hy)
   have hr := row_get hS hcells
   refine (clone_calls A c l w hr (fun a ha hpos => ?_) hlen).mono ?_
   . exact spot_none hr ha hpos
   . rintro e w' ⟨v, rfl, hb, hown⟩
     exact own_comes hS hb hown
 . cases hy
end Go.Proofs.YtfhphiedbdinmaaGreatDoor.A
