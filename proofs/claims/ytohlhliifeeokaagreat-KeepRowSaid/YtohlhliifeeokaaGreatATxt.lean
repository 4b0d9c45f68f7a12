/- Texts as rows of bytes; what is answered with enough rounds. -/
import Derived.Test.YtohlhliifeeokaaGreatAPlain
namespace Go.Proofs.YtohlhliifeeokaaGreat.A
open Go Go.Proofs.YtohlhliifeeokaaGreat.Ab
set_option linter.unusedVariables false
theorem loop_eq (bs : ByteArray) (d : Nat) : ∀ (i : Nat) (r : List UInt8), bs.size - i = d → ByteArray.toList.loop bs i r = r.reverse ++ bs.data.toList.drop i := by
  induction d with
  | zero =>
    intro i r h
    unfold ByteArray.toList.loop
    have hs : bs.data.toList.length = bs.size := by rw [Array.length_toList]; rfl
    rw [if_neg (by omega), List.drop_of_length_le (by omega)]
    simp
  | succ d ih =>
    intro i r h
    unfold ByteArray.toList.loop
    have hs : bs.data.toList.length = bs.size := by rw [Array.length_toList]; rfl
    rw [if_pos (by omega), ih (i + 1) _ (by omega), List.drop_eq_getElem_cons (by omega : i < bs.data.toList.length)]
    have e : bs.get! i = bs.data.toList[i]'(by omega) := by
      show bs.data[i]! = _
      rw [getElem!_pos bs.data i (by show i < bs.size; omega)]
      simp
    rw [e]
    simp
theorem toList_data (bs : ByteArray) : bs.toList = bs.data.toList := by
  unfold ByteArray.toList
  rw [loop_eq bs _ 0 [] rfl]
  simp
def mkB (l : List UInt8) : ByteArray := ⟨l.toArray⟩
theorem mkB_toList (l : List UInt8) : (mkB l).toList = l := by rw [toList_data]; rfl
theorem mkB_of (s : ByteArray) : mkB s.data.toList = s := by cases s; simp [mkB]
theorem mkB_size (l : List UInt8) : (mkB l).size = l.length := by show l.toArray.size = _; simp
theorem mkB_append (a b : List UInt8) : mkB a ++ mkB b = mkB (a ++ b) := bytes_inj (by rw [bytes_append]; rfl)
theorem mkB_extract (l : List UInt8) (i j : Nat) : (mkB l).extract i j = mkB ((l.take j).drop i) := bytes_inj (by rw [bytes_extract]; rfl)
theorem all_text (s : ByteArray) : ∃ l, s = mkB l := ⟨_, (mkB_of s).symm⟩
theorem E_toList : EB.toList = [] := mkB_toList []
theorem byteAt_mk (l : List UInt8) (i : Nat) (h : i < l.length) : byteAt (mkB l) (i : Int) = ((l[i]).toNat : Int) := by
  unfold byteAt
  rw [Int.toNat_natCast]
  show ((l.getD i 0).toNat : Int) = _
  rw [List.getD_eq_getElem?_getD, List.getElem?_eq_getElem h]; rfl
theorem nums_mk (xs : List Int) : strOfNums xs = mkB (xs.map (fun n => UInt8.ofNat n.toNat)) := rfl
theorem wrap_succ {i : Nat} (h : i < 9223372036854775807) : IntKind.i64.wrap ((i : Int) + 1) = ((i + 1 : Nat) : Int) := by rw [wrap_id (by omega) (by omega)]; omega
def Ev {β : Type} (f : Nat → Option β) (y : β) : Prop := ∃ k0, ∀ k, k0 ≤ k → f k = some y
variable {α β γ : Type}
theorem Ev.now (y : β) : Ev (fun _ => some y) y := ⟨0, fun _ _ => rfl⟩
theorem Ev.bind {f : Nat → Option α} {g : Nat → α → Option β} {x : α} {y : β} (hf : Ev f x) (hg : Ev (fun k => g k x) y) : Ev (fun k => (f k).bind (g k)) y := by
  obtain ⟨k0, h0⟩ := hf
  obtain ⟨k1, h1⟩ := hg
  refine ⟨max k0 k1, fun k hk => ?_⟩
  show (f k).bind (g k) = _
  rw [h0 k (by omega)]
  exact h1 k (by omega)
theorem Ev.step {st : Nat → (α → Option β) → α → Option β} {x : α} {y : β} (h : Ev (fun k => st k (rec1 st k) x) y) : Ev (fun k => rec1 st k x) y := by
  obtain ⟨k0, h0⟩ := h
  refine ⟨k0 + 1, fun k hk => ?_⟩
  obtain ⟨q, rfl⟩ : ∃ q, k = q + 1 := ⟨k - 1, by omega⟩
  exact h0 q (by omega)
theorem Ev.t {c : Bool} {a b : Nat → Option β} {y : β} (h : c = true) (ha : Ev a y) : Ev (fun k => bif c then a k else b k) y := by subst h; exact ha
theorem Ev.f {c : Bool} {a b : Nat → Option β} {y : β} (h : c = false) (hb : Ev b y) : Ev (fun k => bif c then a k else b k) y := by subst h; exact hb
theorem Ev.dt {p : Prop} [Decidable p] {a b : Nat → Option β} {y : β} (h : p) (ha : Ev a y) : Ev (fun k => bif decide p then a k else b k) y := Ev.t (decide_eq_true h) ha
theorem Ev.df {p : Prop} [Decidable p] {a b : Nat → Option β} {y : β} (h : ¬ p) (hb : Ev b y) : Ev (fun k => bif decide p then a k else b k) y := Ev.f (decide_eq_false h) hb
theorem Ev.get {f : Nat → Option β} {y : β} (h : Ev f y) : ∃ k, f k = some y := let ⟨k0, h0⟩ := h; ⟨k0, h0 k0 (Nat.le_refl _)⟩
theorem Ev.one {f : Nat → Option β} {y z : β} (h : Ev f y) (h' : Ev f z) : y = z := by
  obtain ⟨k0, h0⟩ := h
  obtain ⟨k1, h1⟩ := h'
  have := (h0 (max k0 k1) (by omega)).symm.trans (h1 (max k0 k1) (by omega))
  exact Option.some.inj this
theorem Ev.all {f : Nat → Option β} {y : β} (h : ∀ k, f k = some y) : Ev f y := ⟨0, fun k _ => h k⟩
theorem beq_i {a b : Int} (h : a = b) : (a == b) = true := by subst h; exact beq_self_eq_true _
theorem bne_i {a b : Int} (h : a ≠ b) : (a == b) = false := beq_eq_false_iff_ne.2 h
theorem nbeq_i {a b : Int} (h : a = b) : (a != b) = false := by subst h; simp
theorem nbne_i {a b : Int} (h : a ≠ b) : (a != b) = true := by simpa using h
end Go.Proofs.YtohlhliifeeokaaGreat.A
