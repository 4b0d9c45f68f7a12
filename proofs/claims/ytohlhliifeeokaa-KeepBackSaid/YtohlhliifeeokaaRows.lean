/-
  No cell of these rows narrows 'for every input' (looked for: loops, veiled, ifaces, maps, wideKeys, modest, calm, conditions, laid).
  DERIVED. THE GIVEN ROWS OF THIS SEAT. 7 by the template 'for every input the law returns true; each argument reads behind the call as it read before'; 0 by the template 'total and deterministic' (their statements: YtohlhliifeeokaaTotals.lean).
  GIVEN WITH THE SEED: the statements are not yours to turn. If you find one false, say at which input.
  Laid BY PROGRAM, IN A SANDBOX (cutbox-rows.mjs): the forced cells as the released guide's own fill.sh prints them over the translation 63669e3b8c2901f8… (all of the seat's roots in one cut). By AI agents, Wed Nov 11 2026. No macro, syntax, notation, axiom, sorry.
-/
import Derived.Test.YtohlhliifeeokaaChecked
import GoSem.Claim
import GoSem.ClaimJoined
import GoSem.ClaimMapViews
import Derived.JoinedTies
import Derived.KernelRfl
namespace Go.Proofs.Ytohlhliifeeokaa
/- THE CELL 'sum', in the pinned program and in every row, IS THE sha256 OF THE DUMP (.gsa) THAT YtohlhliifeeokaaProg.lean LOADS. Nothing in Lean hashes anything: it is a label: what it is worth is what the hold of that sum in a sandbox is worth. -/
noncomputable def Try.pinned : Pinned := { name := "ytohlhliifeeokaa", sum := "63669e3b8c2901f82d08160def2d28b0a99366a1dbbb157b2d91bb6a88146ea3", checked := Try.checked }
namespace Rows
def none {H : Type} : Left H := { results := [], args := [] }

/-- 'watchmanlaw12.FileDoes': WHATEVER THE INPUT: true; the input reads as it did. -/
def fileDoesSpec : ChangeSpec := { name := "fileDoes", fn := fun _ => fun
  | [d1, d2, d3] => { results := [.lit (.bool true)], args := [d1, d2, d3] }
  | _ => none }
def fileDoesRow : OpenClaim := { program := "ytohlhliifeeokaa", sum := "63669e3b8c2901f82d08160def2d28b0a99366a1dbbb157b2d91bb6a88146ea3", func := "watchman/watchmanlaw12.FileDoes", spec := "fileDoes", inPlace := ["internal/abi.NoEscape", "internal/bytealg.MakeNoZero"], apart := false }
def FileDoesSaid : Prop := fileDoesRow.holds Try.pinned (OpenSpec.ofChange fileDoesSpec)

/-- ITS FALSE NEIGHBOUR: 'it returns false'. Refute it at one input. -/
def fileDoesWrong : ChangeSpec := { name := "fileDoes", fn := fun _ => fun
  | [d1, d2, d3] => { results := [.lit (.bool false)], args := [d1, d2, d3] }
  | _ => none }
def FileDoesWrongFalsely : Prop := fileDoesRow.holds Try.pinned (OpenSpec.ofChange fileDoesWrong)

/-- 'watchmanlaw13.RecordDoes': WHATEVER THE INPUT: true; the input reads as it did. -/
def recordDoesSpec : ChangeSpec := { name := "recordDoes", fn := fun _ => fun
  | [d1, d2, d3, d4] => { results := [.lit (.bool true)], args := [d1, d2, d3, d4] }
  | _ => none }
def recordDoesRow : OpenClaim := { program := "ytohlhliifeeokaa", sum := "63669e3b8c2901f82d08160def2d28b0a99366a1dbbb157b2d91bb6a88146ea3", func := "watchman/watchmanlaw13.RecordDoes", spec := "recordDoes", inPlace := ["internal/abi.NoEscape", "internal/bytealg.MakeNoZero"], unfollowed := true, recurses := true, apart := false }
def RecordDoesSaid : Prop := recordDoesRow.holds Try.pinned (OpenSpec.ofChange recordDoesSpec)

/-- ITS FALSE NEIGHBOUR: 'it returns false'. Refute it at one input. -/
def recordDoesWrong : ChangeSpec := { name := "recordDoes", fn := fun _ => fun
  | [d1, d2, d3, d4] => { results := [.lit (.bool false)], args := [d1, d2, d3, d4] }
  | _ => none }
def RecordDoesWrongFalsely : Prop := recordDoesRow.holds Try.pinned (OpenSpec.ofChange recordDoesWrong)

/-- 'watchmanlaw14.SegmentDoes': WHATEVER THE INPUT: true; the input reads as it did. -/
def segmentDoesSpec : ChangeSpec := { name := "segmentDoes", fn := fun _ => fun
  | [d1, d2, d3, d4] => { results := [.lit (.bool true)], args := [d1, d2, d3, d4] }
  | _ => none }
def segmentDoesRow : OpenClaim := { program := "ytohlhliifeeokaa", sum := "63669e3b8c2901f82d08160def2d28b0a99366a1dbbb157b2d91bb6a88146ea3", func := "watchman/watchmanlaw14.SegmentDoes", spec := "segmentDoes", inPlace := ["internal/abi.NoEscape", "internal/bytealg.MakeNoZero"], unfollowed := true, recurses := true, apart := false }
def SegmentDoesSaid : Prop := segmentDoesRow.holds Try.pinned (OpenSpec.ofChange segmentDoesSpec)

/-- ITS FALSE NEIGHBOUR: 'it returns false'. Refute it at one input. -/
def segmentDoesWrong : ChangeSpec := { name := "segmentDoes", fn := fun _ => fun
  | [d1, d2, d3, d4] => { results := [.lit (.bool false)], args := [d1, d2, d3, d4] }
  | _ => none }
def SegmentDoesWrongFalsely : Prop := segmentDoesRow.holds Try.pinned (OpenSpec.ofChange segmentDoesWrong)

/-- 'watchmanlaw15.SlotsDo': WHATEVER THE INPUT: true; the input reads as it did. -/
def slotsDoSpec : ChangeSpec := { name := "slotsDo", fn := fun _ => fun
  | [d1, d2, d3, d4, d5, d6] => { results := [.lit (.bool true)], args := [d1, d2, d3, d4, d5, d6] }
  | _ => none }
def slotsDoRow : OpenClaim := { program := "ytohlhliifeeokaa", sum := "63669e3b8c2901f82d08160def2d28b0a99366a1dbbb157b2d91bb6a88146ea3", func := "watchman/watchmanlaw15.SlotsDo", spec := "slotsDo", inPlace := ["internal/abi.NoEscape"], unfollowed := true, recurses := true, apart := false }
def SlotsDoSaid : Prop := slotsDoRow.holds Try.pinned (OpenSpec.ofChange slotsDoSpec)

/-- ITS FALSE NEIGHBOUR: 'it returns false'. Refute it at one input. -/
def slotsDoWrong : ChangeSpec := { name := "slotsDo", fn := fun _ => fun
  | [d1, d2, d3, d4, d5, d6] => { results := [.lit (.bool false)], args := [d1, d2, d3, d4, d5, d6] }
  | _ => none }
def SlotsDoWrongFalsely : Prop := slotsDoRow.holds Try.pinned (OpenSpec.ofChange slotsDoWrong)

/-- 'watchmanlaw16.SnapDoes': WHATEVER THE INPUT: true; the input reads as it did. -/
def snapDoesSpec : ChangeSpec := { name := "snapDoes", fn := fun _ => fun
  | [d1, d2, d3, d4, d5] => { results := [.lit (.bool true)], args := [d1, d2, d3, d4, d5] }
  | _ => none }
def snapDoesRow : OpenClaim := { program := "ytohlhliifeeokaa", sum := "63669e3b8c2901f82d08160def2d28b0a99366a1dbbb157b2d91bb6a88146ea3", func := "watchman/watchmanlaw16.SnapDoes", spec := "snapDoes", inPlace := ["internal/abi.NoEscape", "slices.overlaps[string]", "internal/bytealg.MakeNoZero"], unfollowed := true, recurses := true, apart := false }
def SnapDoesSaid : Prop := snapDoesRow.holds Try.pinned (OpenSpec.ofChange snapDoesSpec)

/-- ITS FALSE NEIGHBOUR: 'it returns false'. Refute it at one input. -/
def snapDoesWrong : ChangeSpec := { name := "snapDoes", fn := fun _ => fun
  | [d1, d2, d3, d4, d5] => { results := [.lit (.bool false)], args := [d1, d2, d3, d4, d5] }
  | _ => none }
def SnapDoesWrongFalsely : Prop := snapDoesRow.holds Try.pinned (OpenSpec.ofChange snapDoesWrong)

/-- 'watchmanlaw17.KeepBack': WHATEVER THE INPUT: true; the input reads as it did. -/
def keepBackSpec : ChangeSpec := { name := "keepBack", fn := fun _ => fun
  | [d1, d2, d3, d4] => { results := [.lit (.bool true)], args := [d1, d2, d3, d4] }
  | _ => none }
def keepBackRow : OpenClaim := { program := "ytohlhliifeeokaa", sum := "63669e3b8c2901f82d08160def2d28b0a99366a1dbbb157b2d91bb6a88146ea3", func := "watchman/watchmanlaw17.KeepBack", spec := "keepBack", inPlace := ["internal/abi.NoEscape", "internal/bytealg.MakeNoZero", "slices.overlaps[string]"], unfollowed := true, recurses := true, apart := false }
def KeepBackSaid : Prop := keepBackRow.holds Try.pinned (OpenSpec.ofChange keepBackSpec)

/-- ITS FALSE NEIGHBOUR: 'it returns false'. Refute it at one input. -/
def keepBackWrong : ChangeSpec := { name := "keepBack", fn := fun _ => fun
  | [d1, d2, d3, d4] => { results := [.lit (.bool false)], args := [d1, d2, d3, d4] }
  | _ => none }
def KeepBackWrongFalsely : Prop := keepBackRow.holds Try.pinned (OpenSpec.ofChange keepBackWrong)

/-- 'watchmanlaw17.KeepParts': WHATEVER THE INPUT: true; the input reads as it did. -/
def keepPartsSpec : ChangeSpec := { name := "keepParts", fn := fun _ => fun
  | [d1, d2, d3] => { results := [.lit (.bool true)], args := [d1, d2, d3] }
  | _ => none }
def keepPartsRow : OpenClaim := { program := "ytohlhliifeeokaa", sum := "63669e3b8c2901f82d08160def2d28b0a99366a1dbbb157b2d91bb6a88146ea3", func := "watchman/watchmanlaw17.KeepParts", spec := "keepParts", inPlace := ["internal/abi.NoEscape", "internal/bytealg.MakeNoZero", "slices.overlaps[string]"], unfollowed := true, recurses := true, apart := false }
def KeepPartsSaid : Prop := keepPartsRow.holds Try.pinned (OpenSpec.ofChange keepPartsSpec)

/-- ITS FALSE NEIGHBOUR: 'it returns false'. Refute it at one input. -/
def keepPartsWrong : ChangeSpec := { name := "keepParts", fn := fun _ => fun
  | [d1, d2, d3] => { results := [.lit (.bool false)], args := [d1, d2, d3] }
  | _ => none }
def KeepPartsWrongFalsely : Prop := keepPartsRow.holds Try.pinned (OpenSpec.ofChange keepPartsWrong)

/- THE SECOND FORM. 'bulk': how many values and letters a reading holds, each counted each time it is reached (what is shared counts as often as it is met; a slice's spare places count too). A statement '..UptoSaid' is the law's where the arguments, and the package variables that the reading takes, are together of bulk at most 1048576: NARROWER than '..Said'. Prove '..Said' where nothing that the law and all that it calls make is longer than what came in: it says more and counts as full. Else prove '..UptoSaid'. A law counts once. -/
mutual
def uptoBulk {H : Type} : DataW H → Nat
  | .lit (.string bytes) => bytes.length + 1
  | .lit _ => 1
  | .nil => 1
  | .ptr d => uptoBulk d + 1
  | .slice elems spare => uptoBulkAll elems + uptoBulkAll spare + 1
  | .agg parts => uptoBulkAll parts + 1
  | .iface _ d => uptoBulk d + 1
  | .map entries => uptoBulkEntries entries + 1
  | .held _ => 1
def uptoBulkAll {H : Type} : List (DataW H) → Nat
  | [] => 0
  | d :: r => uptoBulk d + uptoBulkAll r
def uptoBulkEntries {H : Type} : List (Lit × DataW H) → Nat
  | [] => 0
  | x :: r => uptoBulkEntry x + uptoBulkEntries r
def uptoBulkEntry {H : Type} : Lit × DataW H → Nat
  | (.string bytes, d) => bytes.length + uptoBulk d + 1
  | (_, d) => uptoBulk d + 1
 end
def uptoSmall : (H : Type) → List (DataW H) → Bool := fun _ ds => decide (uptoBulkAll ds ≤ 1048576)
def OpenSpec.upto (s : _root_.Go.ChangeSpec) : _root_.Go.OpenSpec := { _root_.Go.OpenSpec.ofChange s with cond := some uptoSmall }

/-- 'watchmanlaw12.FileDoes', WHERE WHAT IT READS IS OF BULK AT MOST 1048576: true; the input reads as it did. -/
def fileDoesUptoRow : OpenClaim := { program := "ytohlhliifeeokaa", sum := "63669e3b8c2901f82d08160def2d28b0a99366a1dbbb157b2d91bb6a88146ea3", func := "watchman/watchmanlaw12.FileDoes", spec := "fileDoes", inPlace := ["internal/abi.NoEscape", "internal/bytealg.MakeNoZero"], apart := false, narrowed := true }
def FileDoesUptoSaid : Prop := fileDoesUptoRow.holds Try.pinned (OpenSpec.upto fileDoesSpec)

/-- 'watchmanlaw13.RecordDoes', WHERE WHAT IT READS IS OF BULK AT MOST 1048576: true; the input reads as it did. -/
def recordDoesUptoRow : OpenClaim := { program := "ytohlhliifeeokaa", sum := "63669e3b8c2901f82d08160def2d28b0a99366a1dbbb157b2d91bb6a88146ea3", func := "watchman/watchmanlaw13.RecordDoes", spec := "recordDoes", inPlace := ["internal/abi.NoEscape", "internal/bytealg.MakeNoZero"], unfollowed := true, recurses := true, apart := false, narrowed := true }
def RecordDoesUptoSaid : Prop := recordDoesUptoRow.holds Try.pinned (OpenSpec.upto recordDoesSpec)

/-- 'watchmanlaw14.SegmentDoes', WHERE WHAT IT READS IS OF BULK AT MOST 1048576: true; the input reads as it did. -/
def segmentDoesUptoRow : OpenClaim := { program := "ytohlhliifeeokaa", sum := "63669e3b8c2901f82d08160def2d28b0a99366a1dbbb157b2d91bb6a88146ea3", func := "watchman/watchmanlaw14.SegmentDoes", spec := "segmentDoes", inPlace := ["internal/abi.NoEscape", "internal/bytealg.MakeNoZero"], unfollowed := true, recurses := true, apart := false, narrowed := true }
def SegmentDoesUptoSaid : Prop := segmentDoesUptoRow.holds Try.pinned (OpenSpec.upto segmentDoesSpec)

/-- 'watchmanlaw15.SlotsDo', WHERE WHAT IT READS IS OF BULK AT MOST 1048576: true; the input reads as it did. -/
def slotsDoUptoRow : OpenClaim := { program := "ytohlhliifeeokaa", sum := "63669e3b8c2901f82d08160def2d28b0a99366a1dbbb157b2d91bb6a88146ea3", func := "watchman/watchmanlaw15.SlotsDo", spec := "slotsDo", inPlace := ["internal/abi.NoEscape"], unfollowed := true, recurses := true, apart := false, narrowed := true }
def SlotsDoUptoSaid : Prop := slotsDoUptoRow.holds Try.pinned (OpenSpec.upto slotsDoSpec)

/-- 'watchmanlaw16.SnapDoes', WHERE WHAT IT READS IS OF BULK AT MOST 1048576: true; the input reads as it did. -/
def snapDoesUptoRow : OpenClaim := { program := "ytohlhliifeeokaa", sum := "63669e3b8c2901f82d08160def2d28b0a99366a1dbbb157b2d91bb6a88146ea3", func := "watchman/watchmanlaw16.SnapDoes", spec := "snapDoes", inPlace := ["internal/abi.NoEscape", "slices.overlaps[string]", "internal/bytealg.MakeNoZero"], unfollowed := true, recurses := true, apart := false, narrowed := true }
def SnapDoesUptoSaid : Prop := snapDoesUptoRow.holds Try.pinned (OpenSpec.upto snapDoesSpec)

/-- 'watchmanlaw17.KeepBack', WHERE WHAT IT READS IS OF BULK AT MOST 1048576: true; the input reads as it did. -/
def keepBackUptoRow : OpenClaim := { program := "ytohlhliifeeokaa", sum := "63669e3b8c2901f82d08160def2d28b0a99366a1dbbb157b2d91bb6a88146ea3", func := "watchman/watchmanlaw17.KeepBack", spec := "keepBack", inPlace := ["internal/abi.NoEscape", "internal/bytealg.MakeNoZero", "slices.overlaps[string]"], unfollowed := true, recurses := true, apart := false, narrowed := true }
def KeepBackUptoSaid : Prop := keepBackUptoRow.holds Try.pinned (OpenSpec.upto keepBackSpec)

/-- 'watchmanlaw17.KeepParts', WHERE WHAT IT READS IS OF BULK AT MOST 1048576: true; the input reads as it did. -/
def keepPartsUptoRow : OpenClaim := { program := "ytohlhliifeeokaa", sum := "63669e3b8c2901f82d08160def2d28b0a99366a1dbbb157b2d91bb6a88146ea3", func := "watchman/watchmanlaw17.KeepParts", spec := "keepParts", inPlace := ["internal/abi.NoEscape", "internal/bytealg.MakeNoZero", "slices.overlaps[string]"], unfollowed := true, recurses := true, apart := false, narrowed := true }
def KeepPartsUptoSaid : Prop := keepPartsUptoRow.holds Try.pinned (OpenSpec.upto keepPartsSpec)

end Rows
end Go.Proofs.Ytohlhliifeeokaa
