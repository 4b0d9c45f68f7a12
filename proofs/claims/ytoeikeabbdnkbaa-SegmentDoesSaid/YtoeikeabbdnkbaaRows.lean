/-
  No cell of these rows narrows 'for every input' (looked for: loops, veiled, ifaces, maps, wideKeys, modest, calm, conditions, laid).
  DERIVED. THE GIVEN ROWS OF THIS SEAT. 9 by the template 'for every input the law returns true; each argument reads behind the call as it read before'; 0 by the template 'total and deterministic' (their statements: YtoeikeabbdnkbaaTotals.lean).
  GIVEN WITH THE SEED: the statements are not yours to turn. If you find one false, say at which input.
  Laid BY PROGRAM, IN A SANDBOX (cutbox-rows.mjs): the forced cells as the released guide's own fill.sh prints them over the translation abb77eeddb3e4915… (all of the seat's roots in one cut). By AI agents, Wed Nov 11 2026. No macro, syntax, notation, axiom, sorry.
-/
import Derived.Test.YtoeikeabbdnkbaaChecked
import GoSem.Claim
import GoSem.ClaimJoined
import GoSem.ClaimMapViews
import Derived.JoinedTies
import Derived.KernelRfl
namespace Go.Proofs.Ytoeikeabbdnkbaa
/- THE CELL 'sum', in the pinned program and in every row, IS THE sha256 OF THE DUMP (.gsa) THAT YtoeikeabbdnkbaaProg.lean LOADS. Nothing in Lean hashes anything: it is a label: what it is worth is what the hold of that sum in a sandbox is worth. -/
noncomputable def Try.pinned : Pinned := { name := "ytoeikeabbdnkbaa", sum := "abb77eeddb3e491587cb163a5dc9706ff1ad8c7f0ee0197d3cf2058dcd318e4b", checked := Try.checked }
namespace Rows
def none {H : Type} : Left H := { results := [], args := [] }

/-- 'watchmanlaw14.SegmentBack': WHATEVER THE INPUT: true; the input reads as it did. -/
def segmentBackSpec : ChangeSpec := { name := "segmentBack", fn := fun _ => fun
  | [d1, d2, d3, d4] => { results := [.lit (.bool true)], args := [d1, d2, d3, d4] }
  | _ => none }
def segmentBackRow : OpenClaim := { program := "ytoeikeabbdnkbaa", sum := "abb77eeddb3e491587cb163a5dc9706ff1ad8c7f0ee0197d3cf2058dcd318e4b", func := "watchman/watchmanlaw14.SegmentBack", spec := "segmentBack", inPlace := ["internal/abi.NoEscape", "internal/bytealg.MakeNoZero"], unfollowed := true, recurses := true, apart := false }
def SegmentBackSaid : Prop := segmentBackRow.holds Try.pinned (OpenSpec.ofChange segmentBackSpec)

/-- ITS FALSE NEIGHBOUR: 'it returns false'. Refute it at one input. -/
def segmentBackWrong : ChangeSpec := { name := "segmentBack", fn := fun _ => fun
  | [d1, d2, d3, d4] => { results := [.lit (.bool false)], args := [d1, d2, d3, d4] }
  | _ => none }
def SegmentBackWrongFalsely : Prop := segmentBackRow.holds Try.pinned (OpenSpec.ofChange segmentBackWrong)

/-- 'watchmanlaw14.SegmentDrop': WHATEVER THE INPUT: true; the input reads as it did. -/
def segmentDropSpec : ChangeSpec := { name := "segmentDrop", fn := fun _ => fun
  | [d1, d2, d3, d4, d5, d6] => { results := [.lit (.bool true)], args := [d1, d2, d3, d4, d5, d6] }
  | _ => none }
def segmentDropRow : OpenClaim := { program := "ytoeikeabbdnkbaa", sum := "abb77eeddb3e491587cb163a5dc9706ff1ad8c7f0ee0197d3cf2058dcd318e4b", func := "watchman/watchmanlaw14.SegmentDrop", spec := "segmentDrop", inPlace := ["internal/abi.NoEscape", "internal/bytealg.MakeNoZero"], unfollowed := true, recurses := true, apart := false }
def SegmentDropSaid : Prop := segmentDropRow.holds Try.pinned (OpenSpec.ofChange segmentDropSpec)

/-- ITS FALSE NEIGHBOUR: 'it returns false'. Refute it at one input. -/
def segmentDropWrong : ChangeSpec := { name := "segmentDrop", fn := fun _ => fun
  | [d1, d2, d3, d4, d5, d6] => { results := [.lit (.bool false)], args := [d1, d2, d3, d4, d5, d6] }
  | _ => none }
def SegmentDropWrongFalsely : Prop := segmentDropRow.holds Try.pinned (OpenSpec.ofChange segmentDropWrong)

/-- 'watchmanlaw20.PacketGets': WHATEVER THE INPUT: true; the input reads as it did. -/
def packetGetsSpec : ChangeSpec := { name := "packetGets", fn := fun _ => fun
  | [d] => { results := [.lit (.bool true)], args := [d] }
  | _ => none }
def packetGetsRow : OpenClaim := { program := "ytoeikeabbdnkbaa", sum := "abb77eeddb3e491587cb163a5dc9706ff1ad8c7f0ee0197d3cf2058dcd318e4b", func := "watchman/watchmanlaw20.PacketGets", spec := "packetGets", inPlace := ["internal/abi.NoEscape"], unfollowed := true, recurses := true, apart := false }
def PacketGetsSaid : Prop := packetGetsRow.holds Try.pinned (OpenSpec.ofChange packetGetsSpec)

/-- ITS FALSE NEIGHBOUR: 'it returns false'. Refute it at one input. -/
def packetGetsWrong : ChangeSpec := { name := "packetGets", fn := fun _ => fun
  | [d] => { results := [.lit (.bool false)], args := [d] }
  | _ => none }
def PacketGetsWrongFalsely : Prop := packetGetsRow.holds Try.pinned (OpenSpec.ofChange packetGetsWrong)

/-- 'watchmanlaw20.PacketSame': WHATEVER THE INPUT: true; the input reads as it did. -/
def packetSameSpec : ChangeSpec := { name := "packetSame", fn := fun _ => fun
  | [d] => { results := [.lit (.bool true)], args := [d] }
  | _ => none }
def packetSameRow : OpenClaim := { program := "ytoeikeabbdnkbaa", sum := "abb77eeddb3e491587cb163a5dc9706ff1ad8c7f0ee0197d3cf2058dcd318e4b", func := "watchman/watchmanlaw20.PacketSame", spec := "packetSame", inPlace := ["internal/abi.NoEscape"], unfollowed := true, recurses := true, apart := false }
def PacketSameSaid : Prop := packetSameRow.holds Try.pinned (OpenSpec.ofChange packetSameSpec)

/-- ITS FALSE NEIGHBOUR: 'it returns false'. Refute it at one input. -/
def packetSameWrong : ChangeSpec := { name := "packetSame", fn := fun _ => fun
  | [d] => { results := [.lit (.bool false)], args := [d] }
  | _ => none }
def PacketSameWrongFalsely : Prop := packetSameRow.holds Try.pinned (OpenSpec.ofChange packetSameWrong)

/-- 'watchmanlaw20.PacketCut': WHATEVER THE INPUT: true; the input reads as it did. -/
def packetCutSpec : ChangeSpec := { name := "packetCut", fn := fun _ => fun
  | [d1, d2, d3, d4, d5] => { results := [.lit (.bool true)], args := [d1, d2, d3, d4, d5] }
  | _ => none }
def packetCutRow : OpenClaim := { program := "ytoeikeabbdnkbaa", sum := "abb77eeddb3e491587cb163a5dc9706ff1ad8c7f0ee0197d3cf2058dcd318e4b", func := "watchman/watchmanlaw20.PacketCut", spec := "packetCut", inPlace := ["internal/abi.NoEscape"], unfollowed := true, recurses := true, apart := false }
def PacketCutSaid : Prop := packetCutRow.holds Try.pinned (OpenSpec.ofChange packetCutSpec)

/-- ITS FALSE NEIGHBOUR: 'it returns false'. Refute it at one input. -/
def packetCutWrong : ChangeSpec := { name := "packetCut", fn := fun _ => fun
  | [d1, d2, d3, d4, d5] => { results := [.lit (.bool false)], args := [d1, d2, d3, d4, d5] }
  | _ => none }
def PacketCutWrongFalsely : Prop := packetCutRow.holds Try.pinned (OpenSpec.ofChange packetCutWrong)

/-- 'watchmanlaw14.SegmentSync': WHATEVER THE INPUT: true; the input reads as it did. -/
def segmentSyncSpec : ChangeSpec := { name := "segmentSync", fn := fun _ => fun
  | [d1, d2] => { results := [.lit (.bool true)], args := [d1, d2] }
  | _ => none }
def segmentSyncRow : OpenClaim := { program := "ytoeikeabbdnkbaa", sum := "abb77eeddb3e491587cb163a5dc9706ff1ad8c7f0ee0197d3cf2058dcd318e4b", func := "watchman/watchmanlaw14.SegmentSync", spec := "segmentSync", inPlace := ["internal/abi.NoEscape", "internal/bytealg.MakeNoZero"], unfollowed := true, recurses := true, apart := false }
def SegmentSyncSaid : Prop := segmentSyncRow.holds Try.pinned (OpenSpec.ofChange segmentSyncSpec)

/-- ITS FALSE NEIGHBOUR: 'it returns false'. Refute it at one input. -/
def segmentSyncWrong : ChangeSpec := { name := "segmentSync", fn := fun _ => fun
  | [d1, d2] => { results := [.lit (.bool false)], args := [d1, d2] }
  | _ => none }
def SegmentSyncWrongFalsely : Prop := segmentSyncRow.holds Try.pinned (OpenSpec.ofChange segmentSyncWrong)

/-- 'watchmanlaw14.SegmentMend': WHATEVER THE INPUT: true; the input reads as it did. -/
def segmentMendSpec : ChangeSpec := { name := "segmentMend", fn := fun _ => fun
  | [d] => { results := [.lit (.bool true)], args := [d] }
  | _ => none }
def segmentMendRow : OpenClaim := { program := "ytoeikeabbdnkbaa", sum := "abb77eeddb3e491587cb163a5dc9706ff1ad8c7f0ee0197d3cf2058dcd318e4b", func := "watchman/watchmanlaw14.SegmentMend", spec := "segmentMend", inPlace := ["internal/abi.NoEscape", "internal/bytealg.MakeNoZero"], unfollowed := true, recurses := true, apart := false }
def SegmentMendSaid : Prop := segmentMendRow.holds Try.pinned (OpenSpec.ofChange segmentMendSpec)

/-- ITS FALSE NEIGHBOUR: 'it returns false'. Refute it at one input. -/
def segmentMendWrong : ChangeSpec := { name := "segmentMend", fn := fun _ => fun
  | [d] => { results := [.lit (.bool false)], args := [d] }
  | _ => none }
def SegmentMendWrongFalsely : Prop := segmentMendRow.holds Try.pinned (OpenSpec.ofChange segmentMendWrong)

/-- 'watchmanlaw14.SegmentDoes': WHATEVER THE INPUT: true; the input reads as it did. -/
def segmentDoesSpec : ChangeSpec := { name := "segmentDoes", fn := fun _ => fun
  | [d1, d2, d3, d4] => { results := [.lit (.bool true)], args := [d1, d2, d3, d4] }
  | _ => none }
def segmentDoesRow : OpenClaim := { program := "ytoeikeabbdnkbaa", sum := "abb77eeddb3e491587cb163a5dc9706ff1ad8c7f0ee0197d3cf2058dcd318e4b", func := "watchman/watchmanlaw14.SegmentDoes", spec := "segmentDoes", inPlace := ["internal/abi.NoEscape", "internal/bytealg.MakeNoZero"], unfollowed := true, recurses := true, apart := false }
def SegmentDoesSaid : Prop := segmentDoesRow.holds Try.pinned (OpenSpec.ofChange segmentDoesSpec)

/-- ITS FALSE NEIGHBOUR: 'it returns false'. Refute it at one input. -/
def segmentDoesWrong : ChangeSpec := { name := "segmentDoes", fn := fun _ => fun
  | [d1, d2, d3, d4] => { results := [.lit (.bool false)], args := [d1, d2, d3, d4] }
  | _ => none }
def SegmentDoesWrongFalsely : Prop := segmentDoesRow.holds Try.pinned (OpenSpec.ofChange segmentDoesWrong)

/-- 'watchmanlaw14.SegmentCrash': WHATEVER THE INPUT: true; the input reads as it did. -/
def segmentCrashSpec : ChangeSpec := { name := "segmentCrash", fn := fun _ => fun
  | [d1, d2, d3, d4, d5, d6] => { results := [.lit (.bool true)], args := [d1, d2, d3, d4, d5, d6] }
  | _ => none }
def segmentCrashRow : OpenClaim := { program := "ytoeikeabbdnkbaa", sum := "abb77eeddb3e491587cb163a5dc9706ff1ad8c7f0ee0197d3cf2058dcd318e4b", func := "watchman/watchmanlaw14.SegmentCrash", spec := "segmentCrash", inPlace := ["internal/abi.NoEscape", "internal/bytealg.MakeNoZero"], unfollowed := true, recurses := true, apart := false }
def SegmentCrashSaid : Prop := segmentCrashRow.holds Try.pinned (OpenSpec.ofChange segmentCrashSpec)

/-- ITS FALSE NEIGHBOUR: 'it returns false'. Refute it at one input. -/
def segmentCrashWrong : ChangeSpec := { name := "segmentCrash", fn := fun _ => fun
  | [d1, d2, d3, d4, d5, d6] => { results := [.lit (.bool false)], args := [d1, d2, d3, d4, d5, d6] }
  | _ => none }
def SegmentCrashWrongFalsely : Prop := segmentCrashRow.holds Try.pinned (OpenSpec.ofChange segmentCrashWrong)

/- THE SECOND FORM. 'bulk': how many values and letters a reading holds, each counted each time it is reached (what is shared counts as often as it is met; a slice's spare places count too). A statement '..UptoSaid' is the law's where the arguments, and the package variables that the reading takes, are together of bulk at most 1048576: NARROWER than '..Said'. Prove '..Said' where nothing that the law and all that it calls make is longer than what came in: it says more and counts as full. Else prove '..UptoSaid'. A law counts once. -/
mutual
def uptoBulk {H : Type} : DataW H → Nat
  | .lit (.string bytes) => bytes.length + 1
  | .lit _ => 1
  | .nil => 1
  | .ptr d => uptoBulk d + 1
  | .slice elems spare => uptoBulkAll elems + uptoBulkAll spare + 1
  | .agg parts => uptoBulkAll parts + 1
  | .iface _ d => uptoBulk d + 1
  | .map entries => uptoBulkEntries entries + 1
  | .held _ => 1
def uptoBulkAll {H : Type} : List (DataW H) → Nat
  | [] => 0
  | d :: r => uptoBulk d + uptoBulkAll r
def uptoBulkEntries {H : Type} : List (Lit × DataW H) → Nat
  | [] => 0
  | x :: r => uptoBulkEntry x + uptoBulkEntries r
def uptoBulkEntry {H : Type} : Lit × DataW H → Nat
  | (.string bytes, d) => bytes.length + uptoBulk d + 1
  | (_, d) => uptoBulk d + 1
 end
def uptoSmall : (H : Type) → List (DataW H) → Bool := fun _ ds => decide (uptoBulkAll ds ≤ 1048576)
def OpenSpec.upto (s : _root_.Go.ChangeSpec) : _root_.Go.OpenSpec := { _root_.Go.OpenSpec.ofChange s with cond := some uptoSmall }

/-- 'watchmanlaw14.SegmentBack', WHERE WHAT IT READS IS OF BULK AT MOST 1048576: true; the input reads as it did. -/
def segmentBackUptoRow : OpenClaim := { program := "ytoeikeabbdnkbaa", sum := "abb77eeddb3e491587cb163a5dc9706ff1ad8c7f0ee0197d3cf2058dcd318e4b", func := "watchman/watchmanlaw14.SegmentBack", spec := "segmentBack", inPlace := ["internal/abi.NoEscape", "internal/bytealg.MakeNoZero"], unfollowed := true, recurses := true, apart := false, narrowed := true }
def SegmentBackUptoSaid : Prop := segmentBackUptoRow.holds Try.pinned (OpenSpec.upto segmentBackSpec)

/-- 'watchmanlaw14.SegmentDrop', WHERE WHAT IT READS IS OF BULK AT MOST 1048576: true; the input reads as it did. -/
def segmentDropUptoRow : OpenClaim := { program := "ytoeikeabbdnkbaa", sum := "abb77eeddb3e491587cb163a5dc9706ff1ad8c7f0ee0197d3cf2058dcd318e4b", func := "watchman/watchmanlaw14.SegmentDrop", spec := "segmentDrop", inPlace := ["internal/abi.NoEscape", "internal/bytealg.MakeNoZero"], unfollowed := true, recurses := true, apart := false, narrowed := true }
def SegmentDropUptoSaid : Prop := segmentDropUptoRow.holds Try.pinned (OpenSpec.upto segmentDropSpec)

/-- 'watchmanlaw20.PacketGets', WHERE WHAT IT READS IS OF BULK AT MOST 1048576: true; the input reads as it did. -/
def packetGetsUptoRow : OpenClaim := { program := "ytoeikeabbdnkbaa", sum := "abb77eeddb3e491587cb163a5dc9706ff1ad8c7f0ee0197d3cf2058dcd318e4b", func := "watchman/watchmanlaw20.PacketGets", spec := "packetGets", inPlace := ["internal/abi.NoEscape"], unfollowed := true, recurses := true, apart := false, narrowed := true }
def PacketGetsUptoSaid : Prop := packetGetsUptoRow.holds Try.pinned (OpenSpec.upto packetGetsSpec)

/-- 'watchmanlaw20.PacketSame', WHERE WHAT IT READS IS OF BULK AT MOST 1048576: true; the input reads as it did. -/
def packetSameUptoRow : OpenClaim := { program := "ytoeikeabbdnkbaa", sum := "abb77eeddb3e491587cb163a5dc9706ff1ad8c7f0ee0197d3cf2058dcd318e4b", func := "watchman/watchmanlaw20.PacketSame", spec := "packetSame", inPlace := ["internal/abi.NoEscape"], unfollowed := true, recurses := true, apart := false, narrowed := true }
def PacketSameUptoSaid : Prop := packetSameUptoRow.holds Try.pinned (OpenSpec.upto packetSameSpec)

/-- 'watchmanlaw20.PacketCut', WHERE WHAT IT READS IS OF BULK AT MOST 1048576: true; the input reads as it did. -/
def packetCutUptoRow : OpenClaim := { program := "ytoeikeabbdnkbaa", sum := "abb77eeddb3e491587cb163a5dc9706ff1ad8c7f0ee0197d3cf2058dcd318e4b", func := "watchman/watchmanlaw20.PacketCut", spec := "packetCut", inPlace := ["internal/abi.NoEscape"], unfollowed := true, recurses := true, apart := false, narrowed := true }
def PacketCutUptoSaid : Prop := packetCutUptoRow.holds Try.pinned (OpenSpec.upto packetCutSpec)

/-- 'watchmanlaw14.SegmentSync', WHERE WHAT IT READS IS OF BULK AT MOST 1048576: true; the input reads as it did. -/
def segmentSyncUptoRow : OpenClaim := { program := "ytoeikeabbdnkbaa", sum := "abb77eeddb3e491587cb163a5dc9706ff1ad8c7f0ee0197d3cf2058dcd318e4b", func := "watchman/watchmanlaw14.SegmentSync", spec := "segmentSync", inPlace := ["internal/abi.NoEscape", "internal/bytealg.MakeNoZero"], unfollowed := true, recurses := true, apart := false, narrowed := true }
def SegmentSyncUptoSaid : Prop := segmentSyncUptoRow.holds Try.pinned (OpenSpec.upto segmentSyncSpec)

/-- 'watchmanlaw14.SegmentMend', WHERE WHAT IT READS IS OF BULK AT MOST 1048576: true; the input reads as it did. -/
def segmentMendUptoRow : OpenClaim := { program := "ytoeikeabbdnkbaa", sum := "abb77eeddb3e491587cb163a5dc9706ff1ad8c7f0ee0197d3cf2058dcd318e4b", func := "watchman/watchmanlaw14.SegmentMend", spec := "segmentMend", inPlace := ["internal/abi.NoEscape", "internal/bytealg.MakeNoZero"], unfollowed := true, recurses := true, apart := false, narrowed := true }
def SegmentMendUptoSaid : Prop := segmentMendUptoRow.holds Try.pinned (OpenSpec.upto segmentMendSpec)

/-- 'watchmanlaw14.SegmentDoes', WHERE WHAT IT READS IS OF BULK AT MOST 1048576: true; the input reads as it did. -/
def segmentDoesUptoRow : OpenClaim := { program := "ytoeikeabbdnkbaa", sum := "abb77eeddb3e491587cb163a5dc9706ff1ad8c7f0ee0197d3cf2058dcd318e4b", func := "watchman/watchmanlaw14.SegmentDoes", spec := "segmentDoes", inPlace := ["internal/abi.NoEscape", "internal/bytealg.MakeNoZero"], unfollowed := true, recurses := true, apart := false, narrowed := true }
def SegmentDoesUptoSaid : Prop := segmentDoesUptoRow.holds Try.pinned (OpenSpec.upto segmentDoesSpec)

/-- 'watchmanlaw14.SegmentCrash', WHERE WHAT IT READS IS OF BULK AT MOST 1048576: true; the input reads as it did. -/
def segmentCrashUptoRow : OpenClaim := { program := "ytoeikeabbdnkbaa", sum := "abb77eeddb3e491587cb163a5dc9706ff1ad8c7f0ee0197d3cf2058dcd318e4b", func := "watchman/watchmanlaw14.SegmentCrash", spec := "segmentCrash", inPlace := ["internal/abi.NoEscape", "internal/bytealg.MakeNoZero"], unfollowed := true, recurses := true, apart := false, narrowed := true }
def SegmentCrashUptoSaid : Prop := segmentCrashUptoRow.holds Try.pinned (OpenSpec.upto segmentCrashSpec)

end Rows
end Go.Proofs.Ytoeikeabbdnkbaa
