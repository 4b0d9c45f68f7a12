/-
  No cell of these rows narrows 'for every input' (looked for: loops, veiled, ifaces, maps, wideKeys, modest, calm, conditions, laid).
  DERIVED. THE GIVEN ROWS OF THIS SEAT. 7 by the template 'for every input the law returns true; each argument reads behind the call as it read before'; 0 by the template 'total and deterministic' (their statements: YthgeadmcliiaoaaTotals.lean).
  GIVEN WITH THE SEED: the statements are not yours to turn. If you find one false, say at which input.
  Laid BY PROGRAM, IN A SANDBOX (cutbox-rows.mjs): the forced cells as the released guide's own fill.sh prints them over the translation 0d9b95c74df909ed… (all of the seat's roots in one cut). By AI agents, Wed Nov 11 2026. No macro, syntax, notation, axiom, sorry.
-/
import Derived.Test.YthgeadmcliiaoaaChecked
import GoSem.Claim
import GoSem.ClaimJoined
import GoSem.ClaimMapViews
import Derived.JoinedTies
import Derived.KernelRfl
namespace Go.Proofs.Ythgeadmcliiaoaa
/- THE CELL 'sum', in the pinned program and in every row, IS THE sha256 OF THE DUMP (.gsa) THAT YthgeadmcliiaoaaProg.lean LOADS. Nothing in Lean hashes anything: it is a label: what it is worth is what the hold of that sum in a sandbox is worth. -/
noncomputable def Try.pinned : Pinned := { name := "ythgeadmcliiaoaa", sum := "0d9b95c74df909ed562db6785de7a555b0f81cc62b5b8defd311c64f035c2530", checked := Try.checked }
namespace Rows
def none {H : Type} : Left H := { results := [], args := [] }

/-- 'watchmanlaw16.SnapBack': WHATEVER THE INPUT: true; the input reads as it did. -/
def snapBackSpec : ChangeSpec := { name := "snapBack", fn := fun _ => fun
  | [d1, d2, d3] => { results := [.lit (.bool true)], args := [d1, d2, d3] }
  | _ => none }
def snapBackRow : OpenClaim := { program := "ythgeadmcliiaoaa", sum := "0d9b95c74df909ed562db6785de7a555b0f81cc62b5b8defd311c64f035c2530", func := "watchman/watchmanlaw16.SnapBack", spec := "snapBack", inPlace := ["internal/abi.NoEscape", "slices.overlaps[string]", "internal/bytealg.MakeNoZero"], unfollowed := true, recurses := true, apart := false }
def SnapBackSaid : Prop := snapBackRow.holds Try.pinned (OpenSpec.ofChange snapBackSpec)

/-- ITS FALSE NEIGHBOUR: 'it returns false'. Refute it at one input. -/
def snapBackWrong : ChangeSpec := { name := "snapBack", fn := fun _ => fun
  | [d1, d2, d3] => { results := [.lit (.bool false)], args := [d1, d2, d3] }
  | _ => none }
def SnapBackWrongFalsely : Prop := snapBackRow.holds Try.pinned (OpenSpec.ofChange snapBackWrong)

/-- 'watchmanlaw16.SnapBefore': WHATEVER THE INPUT: true; the input reads as it did. -/
def snapBeforeSpec : ChangeSpec := { name := "snapBefore", fn := fun _ => fun
  | [d1, d2, d3, d4] => { results := [.lit (.bool true)], args := [d1, d2, d3, d4] }
  | _ => none }
def snapBeforeRow : OpenClaim := { program := "ythgeadmcliiaoaa", sum := "0d9b95c74df909ed562db6785de7a555b0f81cc62b5b8defd311c64f035c2530", func := "watchman/watchmanlaw16.SnapBefore", spec := "snapBefore", inPlace := ["internal/abi.NoEscape", "slices.overlaps[string]", "internal/bytealg.MakeNoZero"], unfollowed := true, recurses := true, apart := false }
def SnapBeforeSaid : Prop := snapBeforeRow.holds Try.pinned (OpenSpec.ofChange snapBeforeSpec)

/-- ITS FALSE NEIGHBOUR: 'it returns false'. Refute it at one input. -/
def snapBeforeWrong : ChangeSpec := { name := "snapBefore", fn := fun _ => fun
  | [d1, d2, d3, d4] => { results := [.lit (.bool false)], args := [d1, d2, d3, d4] }
  | _ => none }
def SnapBeforeWrongFalsely : Prop := snapBeforeRow.holds Try.pinned (OpenSpec.ofChange snapBeforeWrong)

/-- 'watchmanlaw16.SnapDoes': WHATEVER THE INPUT: true; the input reads as it did. -/
def snapDoesSpec : ChangeSpec := { name := "snapDoes", fn := fun _ => fun
  | [d1, d2, d3, d4, d5] => { results := [.lit (.bool true)], args := [d1, d2, d3, d4, d5] }
  | _ => none }
def snapDoesRow : OpenClaim := { program := "ythgeadmcliiaoaa", sum := "0d9b95c74df909ed562db6785de7a555b0f81cc62b5b8defd311c64f035c2530", func := "watchman/watchmanlaw16.SnapDoes", spec := "snapDoes", inPlace := ["internal/abi.NoEscape", "slices.overlaps[string]", "internal/bytealg.MakeNoZero"], unfollowed := true, recurses := true, apart := false }
def SnapDoesSaid : Prop := snapDoesRow.holds Try.pinned (OpenSpec.ofChange snapDoesSpec)

/-- ITS FALSE NEIGHBOUR: 'it returns false'. Refute it at one input. -/
def snapDoesWrong : ChangeSpec := { name := "snapDoes", fn := fun _ => fun
  | [d1, d2, d3, d4, d5] => { results := [.lit (.bool false)], args := [d1, d2, d3, d4, d5] }
  | _ => none }
def SnapDoesWrongFalsely : Prop := snapDoesRow.holds Try.pinned (OpenSpec.ofChange snapDoesWrong)

/-- 'watchmanlaw16.SnapCrash': WHATEVER THE INPUT: true; the input reads as it did. -/
def snapCrashSpec : ChangeSpec := { name := "snapCrash", fn := fun _ => fun
  | [d1, d2, d3, d4, d5] => { results := [.lit (.bool true)], args := [d1, d2, d3, d4, d5] }
  | _ => none }
def snapCrashRow : OpenClaim := { program := "ythgeadmcliiaoaa", sum := "0d9b95c74df909ed562db6785de7a555b0f81cc62b5b8defd311c64f035c2530", func := "watchman/watchmanlaw16.SnapCrash", spec := "snapCrash", inPlace := ["internal/abi.NoEscape", "slices.overlaps[string]", "internal/bytealg.MakeNoZero"], unfollowed := true, recurses := true, apart := false }
def SnapCrashSaid : Prop := snapCrashRow.holds Try.pinned (OpenSpec.ofChange snapCrashSpec)

/-- ITS FALSE NEIGHBOUR: 'it returns false'. Refute it at one input. -/
def snapCrashWrong : ChangeSpec := { name := "snapCrash", fn := fun _ => fun
  | [d1, d2, d3, d4, d5] => { results := [.lit (.bool false)], args := [d1, d2, d3, d4, d5] }
  | _ => none }
def SnapCrashWrongFalsely : Prop := snapCrashRow.holds Try.pinned (OpenSpec.ofChange snapCrashWrong)

/-- 'watchmanlaw16.SnapAgain': WHATEVER THE INPUT: true; the input reads as it did. -/
def snapAgainSpec : ChangeSpec := { name := "snapAgain", fn := fun _ => fun
  | [d1, d2, d3, d4, d5, d6, d7] => { results := [.lit (.bool true)], args := [d1, d2, d3, d4, d5, d6, d7] }
  | _ => none }
def snapAgainRow : OpenClaim := { program := "ythgeadmcliiaoaa", sum := "0d9b95c74df909ed562db6785de7a555b0f81cc62b5b8defd311c64f035c2530", func := "watchman/watchmanlaw16.SnapAgain", spec := "snapAgain", inPlace := ["internal/abi.NoEscape", "slices.overlaps[string]", "internal/bytealg.MakeNoZero"], unfollowed := true, recurses := true, apart := false }
def SnapAgainSaid : Prop := snapAgainRow.holds Try.pinned (OpenSpec.ofChange snapAgainSpec)

/-- ITS FALSE NEIGHBOUR: 'it returns false'. Refute it at one input. -/
def snapAgainWrong : ChangeSpec := { name := "snapAgain", fn := fun _ => fun
  | [d1, d2, d3, d4, d5, d6, d7] => { results := [.lit (.bool false)], args := [d1, d2, d3, d4, d5, d6, d7] }
  | _ => none }
def SnapAgainWrongFalsely : Prop := snapAgainRow.holds Try.pinned (OpenSpec.ofChange snapAgainWrong)

/-- 'watchmanlaw17.KeepBack': WHATEVER THE INPUT: true; the input reads as it did. -/
def keepBackSpec : ChangeSpec := { name := "keepBack", fn := fun _ => fun
  | [d1, d2, d3, d4] => { results := [.lit (.bool true)], args := [d1, d2, d3, d4] }
  | _ => none }
def keepBackRow : OpenClaim := { program := "ythgeadmcliiaoaa", sum := "0d9b95c74df909ed562db6785de7a555b0f81cc62b5b8defd311c64f035c2530", func := "watchman/watchmanlaw17.KeepBack", spec := "keepBack", inPlace := ["internal/abi.NoEscape", "internal/bytealg.MakeNoZero", "slices.overlaps[string]"], unfollowed := true, recurses := true, apart := false }
def KeepBackSaid : Prop := keepBackRow.holds Try.pinned (OpenSpec.ofChange keepBackSpec)

/-- ITS FALSE NEIGHBOUR: 'it returns false'. Refute it at one input. -/
def keepBackWrong : ChangeSpec := { name := "keepBack", fn := fun _ => fun
  | [d1, d2, d3, d4] => { results := [.lit (.bool false)], args := [d1, d2, d3, d4] }
  | _ => none }
def KeepBackWrongFalsely : Prop := keepBackRow.holds Try.pinned (OpenSpec.ofChange keepBackWrong)

/-- 'watchmanlaw17.KeepParts': WHATEVER THE INPUT: true; the input reads as it did. -/
def keepPartsSpec : ChangeSpec := { name := "keepParts", fn := fun _ => fun
  | [d1, d2, d3] => { results := [.lit (.bool true)], args := [d1, d2, d3] }
  | _ => none }
def keepPartsRow : OpenClaim := { program := "ythgeadmcliiaoaa", sum := "0d9b95c74df909ed562db6785de7a555b0f81cc62b5b8defd311c64f035c2530", func := "watchman/watchmanlaw17.KeepParts", spec := "keepParts", inPlace := ["internal/abi.NoEscape", "internal/bytealg.MakeNoZero", "slices.overlaps[string]"], unfollowed := true, recurses := true, apart := false }
def KeepPartsSaid : Prop := keepPartsRow.holds Try.pinned (OpenSpec.ofChange keepPartsSpec)

/-- ITS FALSE NEIGHBOUR: 'it returns false'. Refute it at one input. -/
def keepPartsWrong : ChangeSpec := { name := "keepParts", fn := fun _ => fun
  | [d1, d2, d3] => { results := [.lit (.bool false)], args := [d1, d2, d3] }
  | _ => none }
def KeepPartsWrongFalsely : Prop := keepPartsRow.holds Try.pinned (OpenSpec.ofChange keepPartsWrong)

/- THE SECOND FORM. 'bulk': how many values and letters a reading holds, each counted each time it is reached (what is shared counts as often as it is met; a slice's spare places count too). A statement '..UptoSaid' is the law's where the arguments, and the package variables that the reading takes, are together of bulk at most 1048576: NARROWER than '..Said'. Prove '..Said' where nothing that the law and all that it calls make is longer than what came in: it says more and counts as full. Else prove '..UptoSaid'. A law counts once. -/
mutual
def uptoBulk {H : Type} : DataW H → Nat
  | .lit (.string bytes) => bytes.length + 1
  | .lit _ => 1
  | .nil => 1
  | .ptr d => uptoBulk d + 1
  | .slice elems spare => uptoBulkAll elems + uptoBulkAll spare + 1
  | .agg parts => uptoBulkAll parts + 1
  | .iface _ d => uptoBulk d + 1
  | .map entries => uptoBulkEntries entries + 1
  | .held _ => 1
def uptoBulkAll {H : Type} : List (DataW H) → Nat
  | [] => 0
  | d :: r => uptoBulk d + uptoBulkAll r
def uptoBulkEntries {H : Type} : List (Lit × DataW H) → Nat
  | [] => 0
  | x :: r => uptoBulkEntry x + uptoBulkEntries r
def uptoBulkEntry {H : Type} : Lit × DataW H → Nat
  | (.string bytes, d) => bytes.length + uptoBulk d + 1
  | (_, d) => uptoBulk d + 1
 end
def uptoSmall : (H : Type) → List (DataW H) → Bool := fun _ ds => decide (uptoBulkAll ds ≤ 1048576)
def OpenSpec.upto (s : _root_.Go.ChangeSpec) : _root_.Go.OpenSpec := { _root_.Go.OpenSpec.ofChange s with cond := some uptoSmall }

/-- 'watchmanlaw16.SnapBack', WHERE WHAT IT READS IS OF BULK AT MOST 1048576: true; the input reads as it did. -/
def snapBackUptoRow : OpenClaim := { program := "ythgeadmcliiaoaa", sum := "0d9b95c74df909ed562db6785de7a555b0f81cc62b5b8defd311c64f035c2530", func := "watchman/watchmanlaw16.SnapBack", spec := "snapBack", inPlace := ["internal/abi.NoEscape", "slices.overlaps[string]", "internal/bytealg.MakeNoZero"], unfollowed := true, recurses := true, apart := false, narrowed := true }
def SnapBackUptoSaid : Prop := snapBackUptoRow.holds Try.pinned (OpenSpec.upto snapBackSpec)

/-- 'watchmanlaw16.SnapBefore', WHERE WHAT IT READS IS OF BULK AT MOST 1048576: true; the input reads as it did. -/
def snapBeforeUptoRow : OpenClaim := { program := "ythgeadmcliiaoaa", sum := "0d9b95c74df909ed562db6785de7a555b0f81cc62b5b8defd311c64f035c2530", func := "watchman/watchmanlaw16.SnapBefore", spec := "snapBefore", inPlace := ["internal/abi.NoEscape", "slices.overlaps[string]", "internal/bytealg.MakeNoZero"], unfollowed := true, recurses := true, apart := false, narrowed := true }
def SnapBeforeUptoSaid : Prop := snapBeforeUptoRow.holds Try.pinned (OpenSpec.upto snapBeforeSpec)

/-- 'watchmanlaw16.SnapDoes', WHERE WHAT IT READS IS OF BULK AT MOST 1048576: true; the input reads as it did. -/
def snapDoesUptoRow : OpenClaim := { program := "ythgeadmcliiaoaa", sum := "0d9b95c74df909ed562db6785de7a555b0f81cc62b5b8defd311c64f035c2530", func := "watchman/watchmanlaw16.SnapDoes", spec := "snapDoes", inPlace := ["internal/abi.NoEscape", "slices.overlaps[string]", "internal/bytealg.MakeNoZero"], unfollowed := true, recurses := true, apart := false, narrowed := true }
def SnapDoesUptoSaid : Prop := snapDoesUptoRow.holds Try.pinned (OpenSpec.upto snapDoesSpec)

/-- 'watchmanlaw16.SnapCrash', WHERE WHAT IT READS IS OF BULK AT MOST 1048576: true; the input reads as it did. -/
def snapCrashUptoRow : OpenClaim := { program := "ythgeadmcliiaoaa", sum := "0d9b95c74df909ed562db6785de7a555b0f81cc62b5b8defd311c64f035c2530", func := "watchman/watchmanlaw16.SnapCrash", spec := "snapCrash", inPlace := ["internal/abi.NoEscape", "slices.overlaps[string]", "internal/bytealg.MakeNoZero"], unfollowed := true, recurses := true, apart := false, narrowed := true }
def SnapCrashUptoSaid : Prop := snapCrashUptoRow.holds Try.pinned (OpenSpec.upto snapCrashSpec)

/-- 'watchmanlaw16.SnapAgain', WHERE WHAT IT READS IS OF BULK AT MOST 1048576: true; the input reads as it did. -/
def snapAgainUptoRow : OpenClaim := { program := "ythgeadmcliiaoaa", sum := "0d9b95c74df909ed562db6785de7a555b0f81cc62b5b8defd311c64f035c2530", func := "watchman/watchmanlaw16.SnapAgain", spec := "snapAgain", inPlace := ["internal/abi.NoEscape", "slices.overlaps[string]", "internal/bytealg.MakeNoZero"], unfollowed := true, recurses := true, apart := false, narrowed := true }
def SnapAgainUptoSaid : Prop := snapAgainUptoRow.holds Try.pinned (OpenSpec.upto snapAgainSpec)

/-- 'watchmanlaw17.KeepBack', WHERE WHAT IT READS IS OF BULK AT MOST 1048576: true; the input reads as it did. -/
def keepBackUptoRow : OpenClaim := { program := "ythgeadmcliiaoaa", sum := "0d9b95c74df909ed562db6785de7a555b0f81cc62b5b8defd311c64f035c2530", func := "watchman/watchmanlaw17.KeepBack", spec := "keepBack", inPlace := ["internal/abi.NoEscape", "internal/bytealg.MakeNoZero", "slices.overlaps[string]"], unfollowed := true, recurses := true, apart := false, narrowed := true }
def KeepBackUptoSaid : Prop := keepBackUptoRow.holds Try.pinned (OpenSpec.upto keepBackSpec)

/-- 'watchmanlaw17.KeepParts', WHERE WHAT IT READS IS OF BULK AT MOST 1048576: true; the input reads as it did. -/
def keepPartsUptoRow : OpenClaim := { program := "ythgeadmcliiaoaa", sum := "0d9b95c74df909ed562db6785de7a555b0f81cc62b5b8defd311c64f035c2530", func := "watchman/watchmanlaw17.KeepParts", spec := "keepParts", inPlace := ["internal/abi.NoEscape", "internal/bytealg.MakeNoZero", "slices.overlaps[string]"], unfollowed := true, recurses := true, apart := false, narrowed := true }
def KeepPartsUptoSaid : Prop := keepPartsUptoRow.holds Try.pinned (OpenSpec.upto keepPartsSpec)

end Rows
end Go.Proofs.Ythgeadmcliiaoaa
