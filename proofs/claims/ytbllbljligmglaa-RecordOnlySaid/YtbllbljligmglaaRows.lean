/-
  No cell of these rows narrows 'for every input' (looked for: loops, veiled, ifaces, maps, wideKeys, modest, calm, conditions, laid).
  DERIVED. THE GIVEN ROWS OF THIS SEAT. 10 by the template 'for every input the law returns true; each argument reads behind the call as it read before'; 0 by the template 'total and deterministic' (their statements: YtbllbljligmglaaTotals.lean).
  GIVEN WITH THE SEED: the statements are not yours to turn. If you find one false, say at which input.
  Laid BY PROGRAM, IN A SANDBOX (cutbox-rows.mjs): the forced cells as the released guide's own fill.sh prints them over the translation 18489dc6f7fb31f1… (all of the seat's roots in one cut). By AI agents, Wed Nov 11 2026. No macro, syntax, notation, axiom, sorry.
-/
import Derived.Test.YtbllbljligmglaaChecked
import GoSem.Claim
import GoSem.ClaimJoined
import GoSem.ClaimMapViews
import Derived.JoinedTies
import Derived.KernelRfl
namespace Go.Proofs.Ytbllbljligmglaa
/- THE CELL 'sum', in the pinned program and in every row, IS THE sha256 OF THE DUMP (.gsa) THAT YtbllbljligmglaaProg.lean LOADS. Nothing in Lean hashes anything: it is a label: what it is worth is what the hold of that sum in a sandbox is worth. -/
noncomputable def Try.pinned : Pinned := { name := "ytbllbljligmglaa", sum := "18489dc6f7fb31f123e4982466c1707be10fe7598319efd3fdc557203450841c", checked := Try.checked }
namespace Rows
def none {H : Type} : Left H := { results := [], args := [] }

/-- 'watchmanlaw15.SlotsBack': WHATEVER THE INPUT: true; the input reads as it did. -/
def slotsBackSpec : ChangeSpec := { name := "slotsBack", fn := fun _ => fun
  | [d1, d2] => { results := [.lit (.bool true)], args := [d1, d2] }
  | _ => none }
def slotsBackRow : OpenClaim := { program := "ytbllbljligmglaa", sum := "18489dc6f7fb31f123e4982466c1707be10fe7598319efd3fdc557203450841c", func := "watchman/watchmanlaw15.SlotsBack", spec := "slotsBack", inPlace := ["internal/abi.NoEscape"], unfollowed := true, recurses := true, apart := false }
def SlotsBackSaid : Prop := slotsBackRow.holds Try.pinned (OpenSpec.ofChange slotsBackSpec)

/-- ITS FALSE NEIGHBOUR: 'it returns false'. Refute it at one input. -/
def slotsBackWrong : ChangeSpec := { name := "slotsBack", fn := fun _ => fun
  | [d1, d2] => { results := [.lit (.bool false)], args := [d1, d2] }
  | _ => none }
def SlotsBackWrongFalsely : Prop := slotsBackRow.holds Try.pinned (OpenSpec.ofChange slotsBackWrong)

/-- 'watchmanlaw15.SlotsCrash': WHATEVER THE INPUT: true; the input reads as it did. -/
def slotsCrashSpec : ChangeSpec := { name := "slotsCrash", fn := fun _ => fun
  | [d1, d2, d3, d4] => { results := [.lit (.bool true)], args := [d1, d2, d3, d4] }
  | _ => none }
def slotsCrashRow : OpenClaim := { program := "ytbllbljligmglaa", sum := "18489dc6f7fb31f123e4982466c1707be10fe7598319efd3fdc557203450841c", func := "watchman/watchmanlaw15.SlotsCrash", spec := "slotsCrash", inPlace := ["internal/abi.NoEscape"], unfollowed := true, recurses := true, apart := false }
def SlotsCrashSaid : Prop := slotsCrashRow.holds Try.pinned (OpenSpec.ofChange slotsCrashSpec)

/-- ITS FALSE NEIGHBOUR: 'it returns false'. Refute it at one input. -/
def slotsCrashWrong : ChangeSpec := { name := "slotsCrash", fn := fun _ => fun
  | [d1, d2, d3, d4] => { results := [.lit (.bool false)], args := [d1, d2, d3, d4] }
  | _ => none }
def SlotsCrashWrongFalsely : Prop := slotsCrashRow.holds Try.pinned (OpenSpec.ofChange slotsCrashWrong)

/-- 'watchmanlaw15.SlotsRow': WHATEVER THE INPUT: true; the input reads as it did. -/
def slotsRowSpec : ChangeSpec := { name := "slotsRow", fn := fun _ => fun
  | [d1, d2] => { results := [.lit (.bool true)], args := [d1, d2] }
  | _ => none }
def slotsRowRow : OpenClaim := { program := "ytbllbljligmglaa", sum := "18489dc6f7fb31f123e4982466c1707be10fe7598319efd3fdc557203450841c", func := "watchman/watchmanlaw15.SlotsRow", spec := "slotsRow", inPlace := ["internal/abi.NoEscape"], unfollowed := true, recurses := true, apart := false }
def SlotsRowSaid : Prop := slotsRowRow.holds Try.pinned (OpenSpec.ofChange slotsRowSpec)

/-- ITS FALSE NEIGHBOUR: 'it returns false'. Refute it at one input. -/
def slotsRowWrong : ChangeSpec := { name := "slotsRow", fn := fun _ => fun
  | [d1, d2] => { results := [.lit (.bool false)], args := [d1, d2] }
  | _ => none }
def SlotsRowWrongFalsely : Prop := slotsRowRow.holds Try.pinned (OpenSpec.ofChange slotsRowWrong)

/-- 'watchmanlaw15.SlotsDo': WHATEVER THE INPUT: true; the input reads as it did. -/
def slotsDoSpec : ChangeSpec := { name := "slotsDo", fn := fun _ => fun
  | [d1, d2, d3, d4, d5, d6] => { results := [.lit (.bool true)], args := [d1, d2, d3, d4, d5, d6] }
  | _ => none }
def slotsDoRow : OpenClaim := { program := "ytbllbljligmglaa", sum := "18489dc6f7fb31f123e4982466c1707be10fe7598319efd3fdc557203450841c", func := "watchman/watchmanlaw15.SlotsDo", spec := "slotsDo", inPlace := ["internal/abi.NoEscape"], unfollowed := true, recurses := true, apart := false }
def SlotsDoSaid : Prop := slotsDoRow.holds Try.pinned (OpenSpec.ofChange slotsDoSpec)

/-- ITS FALSE NEIGHBOUR: 'it returns false'. Refute it at one input. -/
def slotsDoWrong : ChangeSpec := { name := "slotsDo", fn := fun _ => fun
  | [d1, d2, d3, d4, d5, d6] => { results := [.lit (.bool false)], args := [d1, d2, d3, d4, d5, d6] }
  | _ => none }
def SlotsDoWrongFalsely : Prop := slotsDoRow.holds Try.pinned (OpenSpec.ofChange slotsDoWrong)

/-- 'watchmanlaw15.SlotsSide': WHATEVER THE INPUT: true; the input reads as it did. -/
def slotsSideSpec : ChangeSpec := { name := "slotsSide", fn := fun _ => fun
  | [d1, d2] => { results := [.lit (.bool true)], args := [d1, d2] }
  | _ => none }
def slotsSideRow : OpenClaim := { program := "ytbllbljligmglaa", sum := "18489dc6f7fb31f123e4982466c1707be10fe7598319efd3fdc557203450841c", func := "watchman/watchmanlaw15.SlotsSide", spec := "slotsSide", inPlace := ["internal/abi.NoEscape"], unfollowed := true, recurses := true, apart := false }
def SlotsSideSaid : Prop := slotsSideRow.holds Try.pinned (OpenSpec.ofChange slotsSideSpec)

/-- ITS FALSE NEIGHBOUR: 'it returns false'. Refute it at one input. -/
def slotsSideWrong : ChangeSpec := { name := "slotsSide", fn := fun _ => fun
  | [d1, d2] => { results := [.lit (.bool false)], args := [d1, d2] }
  | _ => none }
def SlotsSideWrongFalsely : Prop := slotsSideRow.holds Try.pinned (OpenSpec.ofChange slotsSideWrong)

/-- 'watchmanlaw13.RecordDoes': WHATEVER THE INPUT: true; the input reads as it did. -/
def recordDoesSpec : ChangeSpec := { name := "recordDoes", fn := fun _ => fun
  | [d1, d2, d3, d4] => { results := [.lit (.bool true)], args := [d1, d2, d3, d4] }
  | _ => none }
def recordDoesRow : OpenClaim := { program := "ytbllbljligmglaa", sum := "18489dc6f7fb31f123e4982466c1707be10fe7598319efd3fdc557203450841c", func := "watchman/watchmanlaw13.RecordDoes", spec := "recordDoes", inPlace := ["internal/abi.NoEscape", "internal/bytealg.MakeNoZero"], unfollowed := true, recurses := true, apart := false }
def RecordDoesSaid : Prop := recordDoesRow.holds Try.pinned (OpenSpec.ofChange recordDoesSpec)

/-- ITS FALSE NEIGHBOUR: 'it returns false'. Refute it at one input. -/
def recordDoesWrong : ChangeSpec := { name := "recordDoes", fn := fun _ => fun
  | [d1, d2, d3, d4] => { results := [.lit (.bool false)], args := [d1, d2, d3, d4] }
  | _ => none }
def RecordDoesWrongFalsely : Prop := recordDoesRow.holds Try.pinned (OpenSpec.ofChange recordDoesWrong)

/-- 'watchmanlaw13.RecordBack': WHATEVER THE INPUT: true; the input reads as it did. -/
def recordBackSpec : ChangeSpec := { name := "recordBack", fn := fun _ => fun
  | [d1, d2, d3, d4] => { results := [.lit (.bool true)], args := [d1, d2, d3, d4] }
  | _ => none }
def recordBackRow : OpenClaim := { program := "ytbllbljligmglaa", sum := "18489dc6f7fb31f123e4982466c1707be10fe7598319efd3fdc557203450841c", func := "watchman/watchmanlaw13.RecordBack", spec := "recordBack", inPlace := ["internal/abi.NoEscape", "internal/bytealg.MakeNoZero"], unfollowed := true, recurses := true, apart := false }
def RecordBackSaid : Prop := recordBackRow.holds Try.pinned (OpenSpec.ofChange recordBackSpec)

/-- ITS FALSE NEIGHBOUR: 'it returns false'. Refute it at one input. -/
def recordBackWrong : ChangeSpec := { name := "recordBack", fn := fun _ => fun
  | [d1, d2, d3, d4] => { results := [.lit (.bool false)], args := [d1, d2, d3, d4] }
  | _ => none }
def RecordBackWrongFalsely : Prop := recordBackRow.holds Try.pinned (OpenSpec.ofChange recordBackWrong)

/-- 'watchmanlaw13.RecordMends': WHATEVER THE INPUT: true; the input reads as it did. -/
def recordMendsSpec : ChangeSpec := { name := "recordMends", fn := fun _ => fun
  | [d1, d2] => { results := [.lit (.bool true)], args := [d1, d2] }
  | _ => none }
def recordMendsRow : OpenClaim := { program := "ytbllbljligmglaa", sum := "18489dc6f7fb31f123e4982466c1707be10fe7598319efd3fdc557203450841c", func := "watchman/watchmanlaw13.RecordMends", spec := "recordMends", inPlace := ["internal/abi.NoEscape", "internal/bytealg.MakeNoZero"], unfollowed := true, recurses := true, apart := false }
def RecordMendsSaid : Prop := recordMendsRow.holds Try.pinned (OpenSpec.ofChange recordMendsSpec)

/-- ITS FALSE NEIGHBOUR: 'it returns false'. Refute it at one input. -/
def recordMendsWrong : ChangeSpec := { name := "recordMends", fn := fun _ => fun
  | [d1, d2] => { results := [.lit (.bool false)], args := [d1, d2] }
  | _ => none }
def RecordMendsWrongFalsely : Prop := recordMendsRow.holds Try.pinned (OpenSpec.ofChange recordMendsWrong)

/-- 'watchmanlaw13.RecordOnly': WHATEVER THE INPUT: true; the input reads as it did. -/
def recordOnlySpec : ChangeSpec := { name := "recordOnly", fn := fun _ => fun
  | [d1, d2, d3] => { results := [.lit (.bool true)], args := [d1, d2, d3] }
  | _ => none }
def recordOnlyRow : OpenClaim := { program := "ytbllbljligmglaa", sum := "18489dc6f7fb31f123e4982466c1707be10fe7598319efd3fdc557203450841c", func := "watchman/watchmanlaw13.RecordOnly", spec := "recordOnly", inPlace := ["internal/abi.NoEscape", "internal/bytealg.MakeNoZero"], unfollowed := true, recurses := true, apart := false }
def RecordOnlySaid : Prop := recordOnlyRow.holds Try.pinned (OpenSpec.ofChange recordOnlySpec)

/-- ITS FALSE NEIGHBOUR: 'it returns false'. Refute it at one input. -/
def recordOnlyWrong : ChangeSpec := { name := "recordOnly", fn := fun _ => fun
  | [d1, d2, d3] => { results := [.lit (.bool false)], args := [d1, d2, d3] }
  | _ => none }
def RecordOnlyWrongFalsely : Prop := recordOnlyRow.holds Try.pinned (OpenSpec.ofChange recordOnlyWrong)

/-- 'watchmanlaw13.RecordCrash': WHATEVER THE INPUT: true; the input reads as it did. -/
def recordCrashSpec : ChangeSpec := { name := "recordCrash", fn := fun _ => fun
  | [d1, d2, d3, d4, d5, d6] => { results := [.lit (.bool true)], args := [d1, d2, d3, d4, d5, d6] }
  | _ => none }
def recordCrashRow : OpenClaim := { program := "ytbllbljligmglaa", sum := "18489dc6f7fb31f123e4982466c1707be10fe7598319efd3fdc557203450841c", func := "watchman/watchmanlaw13.RecordCrash", spec := "recordCrash", inPlace := ["internal/abi.NoEscape", "internal/bytealg.MakeNoZero"], unfollowed := true, recurses := true, apart := false }
def RecordCrashSaid : Prop := recordCrashRow.holds Try.pinned (OpenSpec.ofChange recordCrashSpec)

/-- ITS FALSE NEIGHBOUR: 'it returns false'. Refute it at one input. -/
def recordCrashWrong : ChangeSpec := { name := "recordCrash", fn := fun _ => fun
  | [d1, d2, d3, d4, d5, d6] => { results := [.lit (.bool false)], args := [d1, d2, d3, d4, d5, d6] }
  | _ => none }
def RecordCrashWrongFalsely : Prop := recordCrashRow.holds Try.pinned (OpenSpec.ofChange recordCrashWrong)

/- THE SECOND FORM. 'bulk': how many values and letters a reading holds, each counted each time it is reached (what is shared counts as often as it is met; a slice's spare places count too). A statement '..UptoSaid' is the law's where the arguments, and the package variables that the reading takes, are together of bulk at most 1048576: NARROWER than '..Said'. Prove '..Said' where nothing that the law and all that it calls make is longer than what came in: it says more and counts as full. Else prove '..UptoSaid'. A law counts once. -/
mutual
def uptoBulk {H : Type} : DataW H → Nat
  | .lit (.string bytes) => bytes.length + 1
  | .lit _ => 1
  | .nil => 1
  | .ptr d => uptoBulk d + 1
  | .slice elems spare => uptoBulkAll elems + uptoBulkAll spare + 1
  | .agg parts => uptoBulkAll parts + 1
  | .iface _ d => uptoBulk d + 1
  | .map entries => uptoBulkEntries entries + 1
  | .held _ => 1
def uptoBulkAll {H : Type} : List (DataW H) → Nat
  | [] => 0
  | d :: r => uptoBulk d + uptoBulkAll r
def uptoBulkEntries {H : Type} : List (Lit × DataW H) → Nat
  | [] => 0
  | x :: r => uptoBulkEntry x + uptoBulkEntries r
def uptoBulkEntry {H : Type} : Lit × DataW H → Nat
  | (.string bytes, d) => bytes.length + uptoBulk d + 1
  | (_, d) => uptoBulk d + 1
 end
def uptoSmall : (H : Type) → List (DataW H) → Bool := fun _ ds => decide (uptoBulkAll ds ≤ 1048576)
def OpenSpec.upto (s : _root_.Go.ChangeSpec) : _root_.Go.OpenSpec := { _root_.Go.OpenSpec.ofChange s with cond := some uptoSmall }

/-- 'watchmanlaw15.SlotsBack', WHERE WHAT IT READS IS OF BULK AT MOST 1048576: true; the input reads as it did. -/
def slotsBackUptoRow : OpenClaim := { program := "ytbllbljligmglaa", sum := "18489dc6f7fb31f123e4982466c1707be10fe7598319efd3fdc557203450841c", func := "watchman/watchmanlaw15.SlotsBack", spec := "slotsBack", inPlace := ["internal/abi.NoEscape"], unfollowed := true, recurses := true, apart := false, narrowed := true }
def SlotsBackUptoSaid : Prop := slotsBackUptoRow.holds Try.pinned (OpenSpec.upto slotsBackSpec)

/-- 'watchmanlaw15.SlotsCrash', WHERE WHAT IT READS IS OF BULK AT MOST 1048576: true; the input reads as it did. -/
def slotsCrashUptoRow : OpenClaim := { program := "ytbllbljligmglaa", sum := "18489dc6f7fb31f123e4982466c1707be10fe7598319efd3fdc557203450841c", func := "watchman/watchmanlaw15.SlotsCrash", spec := "slotsCrash", inPlace := ["internal/abi.NoEscape"], unfollowed := true, recurses := true, apart := false, narrowed := true }
def SlotsCrashUptoSaid : Prop := slotsCrashUptoRow.holds Try.pinned (OpenSpec.upto slotsCrashSpec)

/-- 'watchmanlaw15.SlotsRow', WHERE WHAT IT READS IS OF BULK AT MOST 1048576: true; the input reads as it did. -/
def slotsRowUptoRow : OpenClaim := { program := "ytbllbljligmglaa", sum := "18489dc6f7fb31f123e4982466c1707be10fe7598319efd3fdc557203450841c", func := "watchman/watchmanlaw15.SlotsRow", spec := "slotsRow", inPlace := ["internal/abi.NoEscape"], unfollowed := true, recurses := true, apart := false, narrowed := true }
def SlotsRowUptoSaid : Prop := slotsRowUptoRow.holds Try.pinned (OpenSpec.upto slotsRowSpec)

/-- 'watchmanlaw15.SlotsDo', WHERE WHAT IT READS IS OF BULK AT MOST 1048576: true; the input reads as it did. -/
def slotsDoUptoRow : OpenClaim := { program := "ytbllbljligmglaa", sum := "18489dc6f7fb31f123e4982466c1707be10fe7598319efd3fdc557203450841c", func := "watchman/watchmanlaw15.SlotsDo", spec := "slotsDo", inPlace := ["internal/abi.NoEscape"], unfollowed := true, recurses := true, apart := false, narrowed := true }
def SlotsDoUptoSaid : Prop := slotsDoUptoRow.holds Try.pinned (OpenSpec.upto slotsDoSpec)

/-- 'watchmanlaw15.SlotsSide', WHERE WHAT IT READS IS OF BULK AT MOST 1048576: true; the input reads as it did. -/
def slotsSideUptoRow : OpenClaim := { program := "ytbllbljligmglaa", sum := "18489dc6f7fb31f123e4982466c1707be10fe7598319efd3fdc557203450841c", func := "watchman/watchmanlaw15.SlotsSide", spec := "slotsSide", inPlace := ["internal/abi.NoEscape"], unfollowed := true, recurses := true, apart := false, narrowed := true }
def SlotsSideUptoSaid : Prop := slotsSideUptoRow.holds Try.pinned (OpenSpec.upto slotsSideSpec)

/-- 'watchmanlaw13.RecordDoes', WHERE WHAT IT READS IS OF BULK AT MOST 1048576: true; the input reads as it did. -/
def recordDoesUptoRow : OpenClaim := { program := "ytbllbljligmglaa", sum := "18489dc6f7fb31f123e4982466c1707be10fe7598319efd3fdc557203450841c", func := "watchman/watchmanlaw13.RecordDoes", spec := "recordDoes", inPlace := ["internal/abi.NoEscape", "internal/bytealg.MakeNoZero"], unfollowed := true, recurses := true, apart := false, narrowed := true }
def RecordDoesUptoSaid : Prop := recordDoesUptoRow.holds Try.pinned (OpenSpec.upto recordDoesSpec)

/-- 'watchmanlaw13.RecordBack', WHERE WHAT IT READS IS OF BULK AT MOST 1048576: true; the input reads as it did. -/
def recordBackUptoRow : OpenClaim := { program := "ytbllbljligmglaa", sum := "18489dc6f7fb31f123e4982466c1707be10fe7598319efd3fdc557203450841c", func := "watchman/watchmanlaw13.RecordBack", spec := "recordBack", inPlace := ["internal/abi.NoEscape", "internal/bytealg.MakeNoZero"], unfollowed := true, recurses := true, apart := false, narrowed := true }
def RecordBackUptoSaid : Prop := recordBackUptoRow.holds Try.pinned (OpenSpec.upto recordBackSpec)

/-- 'watchmanlaw13.RecordMends', WHERE WHAT IT READS IS OF BULK AT MOST 1048576: true; the input reads as it did. -/
def recordMendsUptoRow : OpenClaim := { program := "ytbllbljligmglaa", sum := "18489dc6f7fb31f123e4982466c1707be10fe7598319efd3fdc557203450841c", func := "watchman/watchmanlaw13.RecordMends", spec := "recordMends", inPlace := ["internal/abi.NoEscape", "internal/bytealg.MakeNoZero"], unfollowed := true, recurses := true, apart := false, narrowed := true }
def RecordMendsUptoSaid : Prop := recordMendsUptoRow.holds Try.pinned (OpenSpec.upto recordMendsSpec)

/-- 'watchmanlaw13.RecordOnly', WHERE WHAT IT READS IS OF BULK AT MOST 1048576: true; the input reads as it did. -/
def recordOnlyUptoRow : OpenClaim := { program := "ytbllbljligmglaa", sum := "18489dc6f7fb31f123e4982466c1707be10fe7598319efd3fdc557203450841c", func := "watchman/watchmanlaw13.RecordOnly", spec := "recordOnly", inPlace := ["internal/abi.NoEscape", "internal/bytealg.MakeNoZero"], unfollowed := true, recurses := true, apart := false, narrowed := true }
def RecordOnlyUptoSaid : Prop := recordOnlyUptoRow.holds Try.pinned (OpenSpec.upto recordOnlySpec)

/-- 'watchmanlaw13.RecordCrash', WHERE WHAT IT READS IS OF BULK AT MOST 1048576: true; the input reads as it did. -/
def recordCrashUptoRow : OpenClaim := { program := "ytbllbljligmglaa", sum := "18489dc6f7fb31f123e4982466c1707be10fe7598319efd3fdc557203450841c", func := "watchman/watchmanlaw13.RecordCrash", spec := "recordCrash", inPlace := ["internal/abi.NoEscape", "internal/bytealg.MakeNoZero"], unfollowed := true, recurses := true, apart := false, narrowed := true }
def RecordCrashUptoSaid : Prop := recordCrashUptoRow.holds Try.pinned (OpenSpec.upto recordCrashSpec)

end Rows
end Go.Proofs.Ytbllbljligmglaa
