import Derived.Test.YtfhphiedbdinmaaGreatDoorAHCloneW
import Derived.Test.YtfhphiedbdinmaaGreatDoorShelf
set_option linter.all false
namespace Go.Proofs.YtfhphiedbdinmaaGreatDoor.A
open Go Ab
def strconv_Itoa_sig (k : Nat) : Sig := ⟨[.int .i64], [.str], fun x => strconv_Itoa k x.1⟩
theorem strconv_Itoa_okT (k : Nat) : FnOkT Go.Proofs.Tryz.prog 222 (strconv_Itoa_sig k) := by
 refine ⟨entersAb (by kernel_rfl), ?_⟩
 rintro ⟨n, _⟩ ⟨r, _⟩ hy S w vs hgl hS ha
 change Int at n
 change ByteArray at r
 match vs, ha with
 | [v0], ⟨h0, _⟩ =>
 have h0 : [v0] = [.int .i64 n] := h0
 obtain rfl : v0 = .int .i64 n := by simpa using h0
 replace hy : strconv_Itoa k n = some (r, ()) := hy
 unfold strconv_Itoa at hy
 rw [cond_eq_ite] at hy
 split at hy
 . rename_i hg
   simp only [Bool.and_eq_true, decide_eq_true_eq] at hg
   simp only [Option.some.injEq, Prod.mk.injEq, and_true] at hy
   subst hy
   refine (Tryz.strconv_Itoa n hg.1 hg.2 w hgl).mono ?_
   rintro e w' ⟨rfl, j, os, rfl⟩
   exact comes_plain rfl hS ⟨rfl, rfl, rfl, by show w.heap.size <= (w.heap ++ os).size; rw [Array.size_append]; omega, fun i hi => Array.getElem?_append_left hi⟩ (show Reps S .str _ [.string _] from rfl)
 . cases hy
end Go.Proofs.YtfhphiedbdinmaaGreatDoor.A
