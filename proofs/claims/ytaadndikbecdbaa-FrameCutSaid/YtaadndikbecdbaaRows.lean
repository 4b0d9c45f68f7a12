/-
  No cell of these rows narrows 'for every input' (looked for: loops, veiled, ifaces, maps, wideKeys, modest, calm, conditions, laid).
  DERIVED. THE GIVEN ROWS OF THIS SEAT. 9 by the template 'for every input the law returns true; each argument reads behind the call as it read before'; 0 by the template 'total and deterministic' (their statements: YtaadndikbecdbaaTotals.lean).
  GIVEN WITH THE SEED: the statements are not yours to turn. If you find one false, say at which input.
  Laid BY PROGRAM, IN A SANDBOX (cutbox-rows.mjs): the forced cells as the released guide's own fill.sh prints them over the translation 955fad33cf77ca54… (all of the seat's roots in one cut). By AI agents, Wed Nov 11 2026. No macro, syntax, notation, axiom, sorry.
-/
import Derived.Test.YtaadndikbecdbaaChecked
import GoSem.Claim
import GoSem.ClaimJoined
import GoSem.ClaimMapViews
import Derived.JoinedTies
import Derived.KernelRfl
namespace Go.Proofs.Ytaadndikbecdbaa
/- THE CELL 'sum', in the pinned program and in every row, IS THE sha256 OF THE DUMP (.gsa) THAT YtaadndikbecdbaaProg.lean LOADS. Nothing in Lean hashes anything: it is a label: what it is worth is what the hold of that sum in a sandbox is worth. -/
noncomputable def Try.pinned : Pinned := { name := "ytaadndikbecdbaa", sum := "955fad33cf77ca5427c9301af9fcfa3954f7056dc04474ac77a54fed18d0ab61", checked := Try.checked }
namespace Rows
def none {H : Type} : Left H := { results := [], args := [] }

/-- 'watchmanlaw12.FileDoes': WHATEVER THE INPUT: true; the input reads as it did. -/
def fileDoesSpec : ChangeSpec := { name := "fileDoes", fn := fun _ => fun
  | [d1, d2, d3] => { results := [.lit (.bool true)], args := [d1, d2, d3] }
  | _ => none }
def fileDoesRow : OpenClaim := { program := "ytaadndikbecdbaa", sum := "955fad33cf77ca5427c9301af9fcfa3954f7056dc04474ac77a54fed18d0ab61", func := "watchman/watchmanlaw12.FileDoes", spec := "fileDoes", inPlace := ["internal/abi.NoEscape", "internal/bytealg.MakeNoZero"], apart := false }
def FileDoesSaid : Prop := fileDoesRow.holds Try.pinned (OpenSpec.ofChange fileDoesSpec)

/-- ITS FALSE NEIGHBOUR: 'it returns false'. Refute it at one input. -/
def fileDoesWrong : ChangeSpec := { name := "fileDoes", fn := fun _ => fun
  | [d1, d2, d3] => { results := [.lit (.bool false)], args := [d1, d2, d3] }
  | _ => none }
def FileDoesWrongFalsely : Prop := fileDoesRow.holds Try.pinned (OpenSpec.ofChange fileDoesWrong)

/-- 'watchmanlaw12.FileAdds': WHATEVER THE INPUT: true; the input reads as it did. -/
def fileAddsSpec : ChangeSpec := { name := "fileAdds", fn := fun _ => fun
  | [d1, d2] => { results := [.lit (.bool true)], args := [d1, d2] }
  | _ => none }
def fileAddsRow : OpenClaim := { program := "ytaadndikbecdbaa", sum := "955fad33cf77ca5427c9301af9fcfa3954f7056dc04474ac77a54fed18d0ab61", func := "watchman/watchmanlaw12.FileAdds", spec := "fileAdds", inPlace := ["internal/abi.NoEscape", "internal/bytealg.MakeNoZero"], apart := false }
def FileAddsSaid : Prop := fileAddsRow.holds Try.pinned (OpenSpec.ofChange fileAddsSpec)

/-- ITS FALSE NEIGHBOUR: 'it returns false'. Refute it at one input. -/
def fileAddsWrong : ChangeSpec := { name := "fileAdds", fn := fun _ => fun
  | [d1, d2] => { results := [.lit (.bool false)], args := [d1, d2] }
  | _ => none }
def FileAddsWrongFalsely : Prop := fileAddsRow.holds Try.pinned (OpenSpec.ofChange fileAddsWrong)

/-- 'watchmanlaw12.FileCrash': WHATEVER THE INPUT: true; the input reads as it did. -/
def fileCrashSpec : ChangeSpec := { name := "fileCrash", fn := fun _ => fun
  | [d1, d2] => { results := [.lit (.bool true)], args := [d1, d2] }
  | _ => none }
def fileCrashRow : OpenClaim := { program := "ytaadndikbecdbaa", sum := "955fad33cf77ca5427c9301af9fcfa3954f7056dc04474ac77a54fed18d0ab61", func := "watchman/watchmanlaw12.FileCrash", spec := "fileCrash", inPlace := ["internal/abi.NoEscape", "internal/bytealg.MakeNoZero"], apart := false }
def FileCrashSaid : Prop := fileCrashRow.holds Try.pinned (OpenSpec.ofChange fileCrashSpec)

/-- ITS FALSE NEIGHBOUR: 'it returns false'. Refute it at one input. -/
def fileCrashWrong : ChangeSpec := { name := "fileCrash", fn := fun _ => fun
  | [d1, d2] => { results := [.lit (.bool false)], args := [d1, d2] }
  | _ => none }
def FileCrashWrongFalsely : Prop := fileCrashRow.holds Try.pinned (OpenSpec.ofChange fileCrashWrong)

/-- 'watchmanlaw12.FileCut': WHATEVER THE INPUT: true; the input reads as it did. -/
def fileCutSpec : ChangeSpec := { name := "fileCut", fn := fun _ => fun
  | [d1, d2] => { results := [.lit (.bool true)], args := [d1, d2] }
  | _ => none }
def fileCutRow : OpenClaim := { program := "ytaadndikbecdbaa", sum := "955fad33cf77ca5427c9301af9fcfa3954f7056dc04474ac77a54fed18d0ab61", func := "watchman/watchmanlaw12.FileCut", spec := "fileCut", inPlace := ["internal/abi.NoEscape", "internal/bytealg.MakeNoZero"], apart := false }
def FileCutSaid : Prop := fileCutRow.holds Try.pinned (OpenSpec.ofChange fileCutSpec)

/-- ITS FALSE NEIGHBOUR: 'it returns false'. Refute it at one input. -/
def fileCutWrong : ChangeSpec := { name := "fileCut", fn := fun _ => fun
  | [d1, d2] => { results := [.lit (.bool false)], args := [d1, d2] }
  | _ => none }
def FileCutWrongFalsely : Prop := fileCutRow.holds Try.pinned (OpenSpec.ofChange fileCutWrong)

/-- 'watchmanlaw12.FileTwice': WHATEVER THE INPUT: true; the input reads as it did. -/
def fileTwiceSpec : ChangeSpec := { name := "fileTwice", fn := fun _ => fun
  | [d1, d2, d3, d4] => { results := [.lit (.bool true)], args := [d1, d2, d3, d4] }
  | _ => none }
def fileTwiceRow : OpenClaim := { program := "ytaadndikbecdbaa", sum := "955fad33cf77ca5427c9301af9fcfa3954f7056dc04474ac77a54fed18d0ab61", func := "watchman/watchmanlaw12.FileTwice", spec := "fileTwice", inPlace := ["internal/abi.NoEscape", "internal/bytealg.MakeNoZero"], apart := false }
def FileTwiceSaid : Prop := fileTwiceRow.holds Try.pinned (OpenSpec.ofChange fileTwiceSpec)

/-- ITS FALSE NEIGHBOUR: 'it returns false'. Refute it at one input. -/
def fileTwiceWrong : ChangeSpec := { name := "fileTwice", fn := fun _ => fun
  | [d1, d2, d3, d4] => { results := [.lit (.bool false)], args := [d1, d2, d3, d4] }
  | _ => none }
def FileTwiceWrongFalsely : Prop := fileTwiceRow.holds Try.pinned (OpenSpec.ofChange fileTwiceWrong)

/-- 'watchmanlaw03.FrameBack': WHATEVER THE INPUT: true; the input reads as it did. -/
def frameBackSpec : ChangeSpec := { name := "frameBack", fn := fun _ => fun
  | [d1, d2, d3, d4] => { results := [.lit (.bool true)], args := [d1, d2, d3, d4] }
  | _ => none }
def frameBackRow : OpenClaim := { program := "ytaadndikbecdbaa", sum := "955fad33cf77ca5427c9301af9fcfa3954f7056dc04474ac77a54fed18d0ab61", func := "watchman/watchmanlaw03.FrameBack", spec := "frameBack", inPlace := ["internal/abi.NoEscape"], unfollowed := true, recurses := true, apart := false }
def FrameBackSaid : Prop := frameBackRow.holds Try.pinned (OpenSpec.ofChange frameBackSpec)

/-- ITS FALSE NEIGHBOUR: 'it returns false'. Refute it at one input. -/
def frameBackWrong : ChangeSpec := { name := "frameBack", fn := fun _ => fun
  | [d1, d2, d3, d4] => { results := [.lit (.bool false)], args := [d1, d2, d3, d4] }
  | _ => none }
def FrameBackWrongFalsely : Prop := frameBackRow.holds Try.pinned (OpenSpec.ofChange frameBackWrong)

/-- 'watchmanlaw03.FrameSame': WHATEVER THE INPUT: true; the input reads as it did. -/
def frameSameSpec : ChangeSpec := { name := "frameSame", fn := fun _ => fun
  | [d] => { results := [.lit (.bool true)], args := [d] }
  | _ => none }
def frameSameRow : OpenClaim := { program := "ytaadndikbecdbaa", sum := "955fad33cf77ca5427c9301af9fcfa3954f7056dc04474ac77a54fed18d0ab61", func := "watchman/watchmanlaw03.FrameSame", spec := "frameSame", inPlace := ["internal/abi.NoEscape"], unfollowed := true, recurses := true, apart := false }
def FrameSameSaid : Prop := frameSameRow.holds Try.pinned (OpenSpec.ofChange frameSameSpec)

/-- ITS FALSE NEIGHBOUR: 'it returns false'. Refute it at one input. -/
def frameSameWrong : ChangeSpec := { name := "frameSame", fn := fun _ => fun
  | [d] => { results := [.lit (.bool false)], args := [d] }
  | _ => none }
def FrameSameWrongFalsely : Prop := frameSameRow.holds Try.pinned (OpenSpec.ofChange frameSameWrong)

/-- 'watchmanlaw03.FrameGets': WHATEVER THE INPUT: true; the input reads as it did. -/
def frameGetsSpec : ChangeSpec := { name := "frameGets", fn := fun _ => fun
  | [d] => { results := [.lit (.bool true)], args := [d] }
  | _ => none }
def frameGetsRow : OpenClaim := { program := "ytaadndikbecdbaa", sum := "955fad33cf77ca5427c9301af9fcfa3954f7056dc04474ac77a54fed18d0ab61", func := "watchman/watchmanlaw03.FrameGets", spec := "frameGets", inPlace := ["internal/abi.NoEscape"], unfollowed := true, recurses := true, apart := false }
def FrameGetsSaid : Prop := frameGetsRow.holds Try.pinned (OpenSpec.ofChange frameGetsSpec)

/-- ITS FALSE NEIGHBOUR: 'it returns false'. Refute it at one input. -/
def frameGetsWrong : ChangeSpec := { name := "frameGets", fn := fun _ => fun
  | [d] => { results := [.lit (.bool false)], args := [d] }
  | _ => none }
def FrameGetsWrongFalsely : Prop := frameGetsRow.holds Try.pinned (OpenSpec.ofChange frameGetsWrong)

/-- 'watchmanlaw03.FrameCut': WHATEVER THE INPUT: true; the input reads as it did. -/
def frameCutSpec : ChangeSpec := { name := "frameCut", fn := fun _ => fun
  | [d1, d2, d3] => { results := [.lit (.bool true)], args := [d1, d2, d3] }
  | _ => none }
def frameCutRow : OpenClaim := { program := "ytaadndikbecdbaa", sum := "955fad33cf77ca5427c9301af9fcfa3954f7056dc04474ac77a54fed18d0ab61", func := "watchman/watchmanlaw03.FrameCut", spec := "frameCut", inPlace := ["internal/abi.NoEscape"], unfollowed := true, recurses := true, apart := false }
def FrameCutSaid : Prop := frameCutRow.holds Try.pinned (OpenSpec.ofChange frameCutSpec)

/-- ITS FALSE NEIGHBOUR: 'it returns false'. Refute it at one input. -/
def frameCutWrong : ChangeSpec := { name := "frameCut", fn := fun _ => fun
  | [d1, d2, d3] => { results := [.lit (.bool false)], args := [d1, d2, d3] }
  | _ => none }
def FrameCutWrongFalsely : Prop := frameCutRow.holds Try.pinned (OpenSpec.ofChange frameCutWrong)

/- THE SECOND FORM. 'bulk': how many values and letters a reading holds, each counted each time it is reached (what is shared counts as often as it is met; a slice's spare places count too). A statement '..UptoSaid' is the law's where the arguments, and the package variables that the reading takes, are together of bulk at most 1048576: NARROWER than '..Said'. Prove '..Said' where nothing that the law and all that it calls make is longer than what came in: it says more and counts as full. Else prove '..UptoSaid'. A law counts once. -/
mutual
def uptoBulk {H : Type} : DataW H → Nat
  | .lit (.string bytes) => bytes.length + 1
  | .lit _ => 1
  | .nil => 1
  | .ptr d => uptoBulk d + 1
  | .slice elems spare => uptoBulkAll elems + uptoBulkAll spare + 1
  | .agg parts => uptoBulkAll parts + 1
  | .iface _ d => uptoBulk d + 1
  | .map entries => uptoBulkEntries entries + 1
  | .held _ => 1
def uptoBulkAll {H : Type} : List (DataW H) → Nat
  | [] => 0
  | d :: r => uptoBulk d + uptoBulkAll r
def uptoBulkEntries {H : Type} : List (Lit × DataW H) → Nat
  | [] => 0
  | x :: r => uptoBulkEntry x + uptoBulkEntries r
def uptoBulkEntry {H : Type} : Lit × DataW H → Nat
  | (.string bytes, d) => bytes.length + uptoBulk d + 1
  | (_, d) => uptoBulk d + 1
 end
def uptoSmall : (H : Type) → List (DataW H) → Bool := fun _ ds => decide (uptoBulkAll ds ≤ 1048576)
def OpenSpec.upto (s : _root_.Go.ChangeSpec) : _root_.Go.OpenSpec := { _root_.Go.OpenSpec.ofChange s with cond := some uptoSmall }

/-- 'watchmanlaw12.FileDoes', WHERE WHAT IT READS IS OF BULK AT MOST 1048576: true; the input reads as it did. -/
def fileDoesUptoRow : OpenClaim := { program := "ytaadndikbecdbaa", sum := "955fad33cf77ca5427c9301af9fcfa3954f7056dc04474ac77a54fed18d0ab61", func := "watchman/watchmanlaw12.FileDoes", spec := "fileDoes", inPlace := ["internal/abi.NoEscape", "internal/bytealg.MakeNoZero"], apart := false, narrowed := true }
def FileDoesUptoSaid : Prop := fileDoesUptoRow.holds Try.pinned (OpenSpec.upto fileDoesSpec)

/-- 'watchmanlaw12.FileAdds', WHERE WHAT IT READS IS OF BULK AT MOST 1048576: true; the input reads as it did. -/
def fileAddsUptoRow : OpenClaim := { program := "ytaadndikbecdbaa", sum := "955fad33cf77ca5427c9301af9fcfa3954f7056dc04474ac77a54fed18d0ab61", func := "watchman/watchmanlaw12.FileAdds", spec := "fileAdds", inPlace := ["internal/abi.NoEscape", "internal/bytealg.MakeNoZero"], apart := false, narrowed := true }
def FileAddsUptoSaid : Prop := fileAddsUptoRow.holds Try.pinned (OpenSpec.upto fileAddsSpec)

/-- 'watchmanlaw12.FileCrash', WHERE WHAT IT READS IS OF BULK AT MOST 1048576: true; the input reads as it did. -/
def fileCrashUptoRow : OpenClaim := { program := "ytaadndikbecdbaa", sum := "955fad33cf77ca5427c9301af9fcfa3954f7056dc04474ac77a54fed18d0ab61", func := "watchman/watchmanlaw12.FileCrash", spec := "fileCrash", inPlace := ["internal/abi.NoEscape", "internal/bytealg.MakeNoZero"], apart := false, narrowed := true }
def FileCrashUptoSaid : Prop := fileCrashUptoRow.holds Try.pinned (OpenSpec.upto fileCrashSpec)

/-- 'watchmanlaw12.FileCut', WHERE WHAT IT READS IS OF BULK AT MOST 1048576: true; the input reads as it did. -/
def fileCutUptoRow : OpenClaim := { program := "ytaadndikbecdbaa", sum := "955fad33cf77ca5427c9301af9fcfa3954f7056dc04474ac77a54fed18d0ab61", func := "watchman/watchmanlaw12.FileCut", spec := "fileCut", inPlace := ["internal/abi.NoEscape", "internal/bytealg.MakeNoZero"], apart := false, narrowed := true }
def FileCutUptoSaid : Prop := fileCutUptoRow.holds Try.pinned (OpenSpec.upto fileCutSpec)

/-- 'watchmanlaw12.FileTwice', WHERE WHAT IT READS IS OF BULK AT MOST 1048576: true; the input reads as it did. -/
def fileTwiceUptoRow : OpenClaim := { program := "ytaadndikbecdbaa", sum := "955fad33cf77ca5427c9301af9fcfa3954f7056dc04474ac77a54fed18d0ab61", func := "watchman/watchmanlaw12.FileTwice", spec := "fileTwice", inPlace := ["internal/abi.NoEscape", "internal/bytealg.MakeNoZero"], apart := false, narrowed := true }
def FileTwiceUptoSaid : Prop := fileTwiceUptoRow.holds Try.pinned (OpenSpec.upto fileTwiceSpec)

/-- 'watchmanlaw03.FrameBack', WHERE WHAT IT READS IS OF BULK AT MOST 1048576: true; the input reads as it did. -/
def frameBackUptoRow : OpenClaim := { program := "ytaadndikbecdbaa", sum := "955fad33cf77ca5427c9301af9fcfa3954f7056dc04474ac77a54fed18d0ab61", func := "watchman/watchmanlaw03.FrameBack", spec := "frameBack", inPlace := ["internal/abi.NoEscape"], unfollowed := true, recurses := true, apart := false, narrowed := true }
def FrameBackUptoSaid : Prop := frameBackUptoRow.holds Try.pinned (OpenSpec.upto frameBackSpec)

/-- 'watchmanlaw03.FrameSame', WHERE WHAT IT READS IS OF BULK AT MOST 1048576: true; the input reads as it did. -/
def frameSameUptoRow : OpenClaim := { program := "ytaadndikbecdbaa", sum := "955fad33cf77ca5427c9301af9fcfa3954f7056dc04474ac77a54fed18d0ab61", func := "watchman/watchmanlaw03.FrameSame", spec := "frameSame", inPlace := ["internal/abi.NoEscape"], unfollowed := true, recurses := true, apart := false, narrowed := true }
def FrameSameUptoSaid : Prop := frameSameUptoRow.holds Try.pinned (OpenSpec.upto frameSameSpec)

/-- 'watchmanlaw03.FrameGets', WHERE WHAT IT READS IS OF BULK AT MOST 1048576: true; the input reads as it did. -/
def frameGetsUptoRow : OpenClaim := { program := "ytaadndikbecdbaa", sum := "955fad33cf77ca5427c9301af9fcfa3954f7056dc04474ac77a54fed18d0ab61", func := "watchman/watchmanlaw03.FrameGets", spec := "frameGets", inPlace := ["internal/abi.NoEscape"], unfollowed := true, recurses := true, apart := false, narrowed := true }
def FrameGetsUptoSaid : Prop := frameGetsUptoRow.holds Try.pinned (OpenSpec.upto frameGetsSpec)

/-- 'watchmanlaw03.FrameCut', WHERE WHAT IT READS IS OF BULK AT MOST 1048576: true; the input reads as it did. -/
def frameCutUptoRow : OpenClaim := { program := "ytaadndikbecdbaa", sum := "955fad33cf77ca5427c9301af9fcfa3954f7056dc04474ac77a54fed18d0ab61", func := "watchman/watchmanlaw03.FrameCut", spec := "frameCut", inPlace := ["internal/abi.NoEscape"], unfollowed := true, recurses := true, apart := false, narrowed := true }
def FrameCutUptoSaid : Prop := frameCutUptoRow.holds Try.pinned (OpenSpec.upto frameCutSpec)

end Rows
end Go.Proofs.Ytaadndikbecdbaa
