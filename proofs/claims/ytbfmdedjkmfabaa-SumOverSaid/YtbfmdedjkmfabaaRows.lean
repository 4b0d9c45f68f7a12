/-
  No cell of these rows narrows 'for every input' (looked for: loops, veiled, ifaces, maps, wideKeys, modest, calm, conditions, laid).
  DERIVED. THE GIVEN ROWS OF THIS SEAT. 10 by the template 'for every input the law returns true; each argument reads behind the call as it read before'; 0 by the template 'total and deterministic' (their statements: YtbfmdedjkmfabaaTotals.lean).
  GIVEN WITH THE SEED: the statements are not yours to turn. If you find one false, say at which input.
  Laid BY PROGRAM, IN A SANDBOX (cutbox-rows.mjs): the forced cells as the released guide's own fill.sh prints them over the translation 3ecbcc784831976c… (all of the seat's roots in one cut). By AI agents, Wed Nov 11 2026. No macro, syntax, notation, axiom, sorry.
-/
import Derived.Test.YtbfmdedjkmfabaaChecked
import GoSem.Claim
import GoSem.ClaimJoined
import GoSem.ClaimMapViews
import Derived.JoinedTies
import Derived.KernelRfl
namespace Go.Proofs.Ytbfmdedjkmfabaa
/- THE CELL 'sum', in the pinned program and in every row, IS THE sha256 OF THE DUMP (.gsa) THAT YtbfmdedjkmfabaaProg.lean LOADS. Nothing in Lean hashes anything: it is a label: what it is worth is what the hold of that sum in a sandbox is worth. -/
noncomputable def Try.pinned : Pinned := { name := "ytbfmdedjkmfabaa", sum := "3ecbcc784831976cdce7baef0a8db4d09893d263dff82bbf856bbbbd9693f810", checked := Try.checked }
namespace Rows
def none {H : Type} : Left H := { results := [], args := [] }

/-- 'watchmanlaw02.SumOver': WHATEVER THE INPUT: true; the input reads as it did. -/
def sumOverSpec : ChangeSpec := { name := "sumOver", fn := fun _ => fun
  | [d] => { results := [.lit (.bool true)], args := [d] }
  | _ => none }
def sumOverRow : OpenClaim := { program := "ytbfmdedjkmfabaa", sum := "3ecbcc784831976cdce7baef0a8db4d09893d263dff82bbf856bbbbd9693f810", func := "watchman/watchmanlaw02.SumOver", spec := "sumOver", apart := false }
def SumOverSaid : Prop := sumOverRow.holds Try.pinned (OpenSpec.ofChange sumOverSpec)

/-- ITS FALSE NEIGHBOUR: 'it returns false'. Refute it at one input. -/
def sumOverWrong : ChangeSpec := { name := "sumOver", fn := fun _ => fun
  | [d] => { results := [.lit (.bool false)], args := [d] }
  | _ => none }
def SumOverWrongFalsely : Prop := sumOverRow.holds Try.pinned (OpenSpec.ofChange sumOverWrong)

/-- 'watchmanlaw02.SumSees': WHATEVER THE INPUT: true; the input reads as it did. -/
def sumSeesSpec : ChangeSpec := { name := "sumSees", fn := fun _ => fun
  | [d1, d2, d3] => { results := [.lit (.bool true)], args := [d1, d2, d3] }
  | _ => none }
def sumSeesRow : OpenClaim := { program := "ytbfmdedjkmfabaa", sum := "3ecbcc784831976cdce7baef0a8db4d09893d263dff82bbf856bbbbd9693f810", func := "watchman/watchmanlaw02.SumSees", spec := "sumSees", apart := false }
def SumSeesSaid : Prop := sumSeesRow.holds Try.pinned (OpenSpec.ofChange sumSeesSpec)

/-- ITS FALSE NEIGHBOUR: 'it returns false'. Refute it at one input. -/
def sumSeesWrong : ChangeSpec := { name := "sumSees", fn := fun _ => fun
  | [d1, d2, d3] => { results := [.lit (.bool false)], args := [d1, d2, d3] }
  | _ => none }
def SumSeesWrongFalsely : Prop := sumSeesRow.holds Try.pinned (OpenSpec.ofChange sumSeesWrong)

/-- 'watchmanlaw02.SumFinds': WHATEVER THE INPUT: true; the input reads as it did. -/
def sumFindsSpec : ChangeSpec := { name := "sumFinds", fn := fun _ => fun
  | [d1, d2, d3] => { results := [.lit (.bool true)], args := [d1, d2, d3] }
  | _ => none }
def sumFindsRow : OpenClaim := { program := "ytbfmdedjkmfabaa", sum := "3ecbcc784831976cdce7baef0a8db4d09893d263dff82bbf856bbbbd9693f810", func := "watchman/watchmanlaw02.SumFinds", spec := "sumFinds", apart := false }
def SumFindsSaid : Prop := sumFindsRow.holds Try.pinned (OpenSpec.ofChange sumFindsSpec)

/-- ITS FALSE NEIGHBOUR: 'it returns false'. Refute it at one input. -/
def sumFindsWrong : ChangeSpec := { name := "sumFinds", fn := fun _ => fun
  | [d1, d2, d3] => { results := [.lit (.bool false)], args := [d1, d2, d3] }
  | _ => none }
def SumFindsWrongFalsely : Prop := sumFindsRow.holds Try.pinned (OpenSpec.ofChange sumFindsWrong)

/-- 'watchmanlaw02.SumDoes': WHATEVER THE INPUT: true; the input reads as it did. -/
def sumDoesSpec : ChangeSpec := { name := "sumDoes", fn := fun _ => fun
  | [d1, d2, d3, d4] => { results := [.lit (.bool true)], args := [d1, d2, d3, d4] }
  | _ => none }
def sumDoesRow : OpenClaim := { program := "ytbfmdedjkmfabaa", sum := "3ecbcc784831976cdce7baef0a8db4d09893d263dff82bbf856bbbbd9693f810", func := "watchman/watchmanlaw02.SumDoes", spec := "sumDoes", apart := false }
def SumDoesSaid : Prop := sumDoesRow.holds Try.pinned (OpenSpec.ofChange sumDoesSpec)

/-- ITS FALSE NEIGHBOUR: 'it returns false'. Refute it at one input. -/
def sumDoesWrong : ChangeSpec := { name := "sumDoes", fn := fun _ => fun
  | [d1, d2, d3, d4] => { results := [.lit (.bool false)], args := [d1, d2, d3, d4] }
  | _ => none }
def SumDoesWrongFalsely : Prop := sumDoesRow.holds Try.pinned (OpenSpec.ofChange sumDoesWrong)

/-- 'watchmanlaw02.SumOn': WHATEVER THE INPUT: true; the input reads as it did. -/
def sumOnSpec : ChangeSpec := { name := "sumOn", fn := fun _ => fun
  | [d1, d2, d3, d4] => { results := [.lit (.bool true)], args := [d1, d2, d3, d4] }
  | _ => none }
def sumOnRow : OpenClaim := { program := "ytbfmdedjkmfabaa", sum := "3ecbcc784831976cdce7baef0a8db4d09893d263dff82bbf856bbbbd9693f810", func := "watchman/watchmanlaw02.SumOn", spec := "sumOn", apart := false }
def SumOnSaid : Prop := sumOnRow.holds Try.pinned (OpenSpec.ofChange sumOnSpec)

/-- ITS FALSE NEIGHBOUR: 'it returns false'. Refute it at one input. -/
def sumOnWrong : ChangeSpec := { name := "sumOn", fn := fun _ => fun
  | [d1, d2, d3, d4] => { results := [.lit (.bool false)], args := [d1, d2, d3, d4] }
  | _ => none }
def SumOnWrongFalsely : Prop := sumOnRow.holds Try.pinned (OpenSpec.ofChange sumOnWrong)

/-- 'watchmanlaw01.WireLays': WHATEVER THE INPUT: true; the input reads as it did. -/
def wireLaysSpec : ChangeSpec := { name := "wireLays", fn := fun _ => fun
  | [d1, d2, d3] => { results := [.lit (.bool true)], args := [d1, d2, d3] }
  | _ => none }
def wireLaysRow : OpenClaim := { program := "ytbfmdedjkmfabaa", sum := "3ecbcc784831976cdce7baef0a8db4d09893d263dff82bbf856bbbbd9693f810", func := "watchman/watchmanlaw01.WireLays", spec := "wireLays", inPlace := ["internal/abi.NoEscape"], unfollowed := true, recurses := true, apart := false }
def WireLaysSaid : Prop := wireLaysRow.holds Try.pinned (OpenSpec.ofChange wireLaysSpec)

/-- ITS FALSE NEIGHBOUR: 'it returns false'. Refute it at one input. -/
def wireLaysWrong : ChangeSpec := { name := "wireLays", fn := fun _ => fun
  | [d1, d2, d3] => { results := [.lit (.bool false)], args := [d1, d2, d3] }
  | _ => none }
def WireLaysWrongFalsely : Prop := wireLaysRow.holds Try.pinned (OpenSpec.ofChange wireLaysWrong)

/-- 'watchmanlaw01.WireApart': WHATEVER THE INPUT: true; the input reads as it did. -/
def wireApartSpec : ChangeSpec := { name := "wireApart", fn := fun _ => fun
  | [d1, d2] => { results := [.lit (.bool true)], args := [d1, d2] }
  | _ => none }
def wireApartRow : OpenClaim := { program := "ytbfmdedjkmfabaa", sum := "3ecbcc784831976cdce7baef0a8db4d09893d263dff82bbf856bbbbd9693f810", func := "watchman/watchmanlaw01.WireApart", spec := "wireApart", inPlace := ["internal/abi.NoEscape"], unfollowed := true, recurses := true, apart := false }
def WireApartSaid : Prop := wireApartRow.holds Try.pinned (OpenSpec.ofChange wireApartSpec)

/-- ITS FALSE NEIGHBOUR: 'it returns false'. Refute it at one input. -/
def wireApartWrong : ChangeSpec := { name := "wireApart", fn := fun _ => fun
  | [d1, d2] => { results := [.lit (.bool false)], args := [d1, d2] }
  | _ => none }
def WireApartWrongFalsely : Prop := wireApartRow.holds Try.pinned (OpenSpec.ofChange wireApartWrong)

/-- 'watchmanlaw01.WireReads': WHATEVER THE INPUT: true; the input reads as it did. -/
def wireReadsSpec : ChangeSpec := { name := "wireReads", fn := fun _ => fun
  | [d1, d2] => { results := [.lit (.bool true)], args := [d1, d2] }
  | _ => none }
def wireReadsRow : OpenClaim := { program := "ytbfmdedjkmfabaa", sum := "3ecbcc784831976cdce7baef0a8db4d09893d263dff82bbf856bbbbd9693f810", func := "watchman/watchmanlaw01.WireReads", spec := "wireReads", inPlace := ["internal/abi.NoEscape"], unfollowed := true, recurses := true, apart := false }
def WireReadsSaid : Prop := wireReadsRow.holds Try.pinned (OpenSpec.ofChange wireReadsSpec)

/-- ITS FALSE NEIGHBOUR: 'it returns false'. Refute it at one input. -/
def wireReadsWrong : ChangeSpec := { name := "wireReads", fn := fun _ => fun
  | [d1, d2] => { results := [.lit (.bool false)], args := [d1, d2] }
  | _ => none }
def WireReadsWrongFalsely : Prop := wireReadsRow.holds Try.pinned (OpenSpec.ofChange wireReadsWrong)

/-- 'watchmanlaw01.WireBack': WHATEVER THE INPUT: true; the input reads as it did. -/
def wireBackSpec : ChangeSpec := { name := "wireBack", fn := fun _ => fun
  | [d1, d2, d3] => { results := [.lit (.bool true)], args := [d1, d2, d3] }
  | _ => none }
def wireBackRow : OpenClaim := { program := "ytbfmdedjkmfabaa", sum := "3ecbcc784831976cdce7baef0a8db4d09893d263dff82bbf856bbbbd9693f810", func := "watchman/watchmanlaw01.WireBack", spec := "wireBack", inPlace := ["internal/abi.NoEscape"], unfollowed := true, recurses := true, apart := false }
def WireBackSaid : Prop := wireBackRow.holds Try.pinned (OpenSpec.ofChange wireBackSpec)

/-- ITS FALSE NEIGHBOUR: 'it returns false'. Refute it at one input. -/
def wireBackWrong : ChangeSpec := { name := "wireBack", fn := fun _ => fun
  | [d1, d2, d3] => { results := [.lit (.bool false)], args := [d1, d2, d3] }
  | _ => none }
def WireBackWrongFalsely : Prop := wireBackRow.holds Try.pinned (OpenSpec.ofChange wireBackWrong)

/-- 'watchmanlaw01.WireSame': WHATEVER THE INPUT: true; the input reads as it did. -/
def wireSameSpec : ChangeSpec := { name := "wireSame", fn := fun _ => fun
  | [d1, d2] => { results := [.lit (.bool true)], args := [d1, d2] }
  | _ => none }
def wireSameRow : OpenClaim := { program := "ytbfmdedjkmfabaa", sum := "3ecbcc784831976cdce7baef0a8db4d09893d263dff82bbf856bbbbd9693f810", func := "watchman/watchmanlaw01.WireSame", spec := "wireSame", inPlace := ["internal/abi.NoEscape"], unfollowed := true, recurses := true, apart := false }
def WireSameSaid : Prop := wireSameRow.holds Try.pinned (OpenSpec.ofChange wireSameSpec)

/-- ITS FALSE NEIGHBOUR: 'it returns false'. Refute it at one input. -/
def wireSameWrong : ChangeSpec := { name := "wireSame", fn := fun _ => fun
  | [d1, d2] => { results := [.lit (.bool false)], args := [d1, d2] }
  | _ => none }
def WireSameWrongFalsely : Prop := wireSameRow.holds Try.pinned (OpenSpec.ofChange wireSameWrong)

/- THE SECOND FORM. 'bulk': how many values and letters a reading holds, each counted each time it is reached (what is shared counts as often as it is met; a slice's spare places count too). A statement '..UptoSaid' is the law's where the arguments, and the package variables that the reading takes, are together of bulk at most 1048576: NARROWER than '..Said'. Prove '..Said' where nothing that the law and all that it calls make is longer than what came in: it says more and counts as full. Else prove '..UptoSaid'. A law counts once. -/
mutual
def uptoBulk {H : Type} : DataW H → Nat
  | .lit (.string bytes) => bytes.length + 1
  | .lit _ => 1
  | .nil => 1
  | .ptr d => uptoBulk d + 1
  | .slice elems spare => uptoBulkAll elems + uptoBulkAll spare + 1
  | .agg parts => uptoBulkAll parts + 1
  | .iface _ d => uptoBulk d + 1
  | .map entries => uptoBulkEntries entries + 1
  | .held _ => 1
def uptoBulkAll {H : Type} : List (DataW H) → Nat
  | [] => 0
  | d :: r => uptoBulk d + uptoBulkAll r
def uptoBulkEntries {H : Type} : List (Lit × DataW H) → Nat
  | [] => 0
  | x :: r => uptoBulkEntry x + uptoBulkEntries r
def uptoBulkEntry {H : Type} : Lit × DataW H → Nat
  | (.string bytes, d) => bytes.length + uptoBulk d + 1
  | (_, d) => uptoBulk d + 1
 end
def uptoSmall : (H : Type) → List (DataW H) → Bool := fun _ ds => decide (uptoBulkAll ds ≤ 1048576)
def OpenSpec.upto (s : _root_.Go.ChangeSpec) : _root_.Go.OpenSpec := { _root_.Go.OpenSpec.ofChange s with cond := some uptoSmall }

/-- 'watchmanlaw02.SumOver', WHERE WHAT IT READS IS OF BULK AT MOST 1048576: true; the input reads as it did. -/
def sumOverUptoRow : OpenClaim := { program := "ytbfmdedjkmfabaa", sum := "3ecbcc784831976cdce7baef0a8db4d09893d263dff82bbf856bbbbd9693f810", func := "watchman/watchmanlaw02.SumOver", spec := "sumOver", apart := false, narrowed := true }
def SumOverUptoSaid : Prop := sumOverUptoRow.holds Try.pinned (OpenSpec.upto sumOverSpec)

/-- 'watchmanlaw02.SumSees', WHERE WHAT IT READS IS OF BULK AT MOST 1048576: true; the input reads as it did. -/
def sumSeesUptoRow : OpenClaim := { program := "ytbfmdedjkmfabaa", sum := "3ecbcc784831976cdce7baef0a8db4d09893d263dff82bbf856bbbbd9693f810", func := "watchman/watchmanlaw02.SumSees", spec := "sumSees", apart := false, narrowed := true }
def SumSeesUptoSaid : Prop := sumSeesUptoRow.holds Try.pinned (OpenSpec.upto sumSeesSpec)

/-- 'watchmanlaw02.SumFinds', WHERE WHAT IT READS IS OF BULK AT MOST 1048576: true; the input reads as it did. -/
def sumFindsUptoRow : OpenClaim := { program := "ytbfmdedjkmfabaa", sum := "3ecbcc784831976cdce7baef0a8db4d09893d263dff82bbf856bbbbd9693f810", func := "watchman/watchmanlaw02.SumFinds", spec := "sumFinds", apart := false, narrowed := true }
def SumFindsUptoSaid : Prop := sumFindsUptoRow.holds Try.pinned (OpenSpec.upto sumFindsSpec)

/-- 'watchmanlaw02.SumDoes', WHERE WHAT IT READS IS OF BULK AT MOST 1048576: true; the input reads as it did. -/
def sumDoesUptoRow : OpenClaim := { program := "ytbfmdedjkmfabaa", sum := "3ecbcc784831976cdce7baef0a8db4d09893d263dff82bbf856bbbbd9693f810", func := "watchman/watchmanlaw02.SumDoes", spec := "sumDoes", apart := false, narrowed := true }
def SumDoesUptoSaid : Prop := sumDoesUptoRow.holds Try.pinned (OpenSpec.upto sumDoesSpec)

/-- 'watchmanlaw02.SumOn', WHERE WHAT IT READS IS OF BULK AT MOST 1048576: true; the input reads as it did. -/
def sumOnUptoRow : OpenClaim := { program := "ytbfmdedjkmfabaa", sum := "3ecbcc784831976cdce7baef0a8db4d09893d263dff82bbf856bbbbd9693f810", func := "watchman/watchmanlaw02.SumOn", spec := "sumOn", apart := false, narrowed := true }
def SumOnUptoSaid : Prop := sumOnUptoRow.holds Try.pinned (OpenSpec.upto sumOnSpec)

/-- 'watchmanlaw01.WireLays', WHERE WHAT IT READS IS OF BULK AT MOST 1048576: true; the input reads as it did. -/
def wireLaysUptoRow : OpenClaim := { program := "ytbfmdedjkmfabaa", sum := "3ecbcc784831976cdce7baef0a8db4d09893d263dff82bbf856bbbbd9693f810", func := "watchman/watchmanlaw01.WireLays", spec := "wireLays", inPlace := ["internal/abi.NoEscape"], unfollowed := true, recurses := true, apart := false, narrowed := true }
def WireLaysUptoSaid : Prop := wireLaysUptoRow.holds Try.pinned (OpenSpec.upto wireLaysSpec)

/-- 'watchmanlaw01.WireApart', WHERE WHAT IT READS IS OF BULK AT MOST 1048576: true; the input reads as it did. -/
def wireApartUptoRow : OpenClaim := { program := "ytbfmdedjkmfabaa", sum := "3ecbcc784831976cdce7baef0a8db4d09893d263dff82bbf856bbbbd9693f810", func := "watchman/watchmanlaw01.WireApart", spec := "wireApart", inPlace := ["internal/abi.NoEscape"], unfollowed := true, recurses := true, apart := false, narrowed := true }
def WireApartUptoSaid : Prop := wireApartUptoRow.holds Try.pinned (OpenSpec.upto wireApartSpec)

/-- 'watchmanlaw01.WireReads', WHERE WHAT IT READS IS OF BULK AT MOST 1048576: true; the input reads as it did. -/
def wireReadsUptoRow : OpenClaim := { program := "ytbfmdedjkmfabaa", sum := "3ecbcc784831976cdce7baef0a8db4d09893d263dff82bbf856bbbbd9693f810", func := "watchman/watchmanlaw01.WireReads", spec := "wireReads", inPlace := ["internal/abi.NoEscape"], unfollowed := true, recurses := true, apart := false, narrowed := true }
def WireReadsUptoSaid : Prop := wireReadsUptoRow.holds Try.pinned (OpenSpec.upto wireReadsSpec)

/-- 'watchmanlaw01.WireBack', WHERE WHAT IT READS IS OF BULK AT MOST 1048576: true; the input reads as it did. -/
def wireBackUptoRow : OpenClaim := { program := "ytbfmdedjkmfabaa", sum := "3ecbcc784831976cdce7baef0a8db4d09893d263dff82bbf856bbbbd9693f810", func := "watchman/watchmanlaw01.WireBack", spec := "wireBack", inPlace := ["internal/abi.NoEscape"], unfollowed := true, recurses := true, apart := false, narrowed := true }
def WireBackUptoSaid : Prop := wireBackUptoRow.holds Try.pinned (OpenSpec.upto wireBackSpec)

/-- 'watchmanlaw01.WireSame', WHERE WHAT IT READS IS OF BULK AT MOST 1048576: true; the input reads as it did. -/
def wireSameUptoRow : OpenClaim := { program := "ytbfmdedjkmfabaa", sum := "3ecbcc784831976cdce7baef0a8db4d09893d263dff82bbf856bbbbd9693f810", func := "watchman/watchmanlaw01.WireSame", spec := "wireSame", inPlace := ["internal/abi.NoEscape"], unfollowed := true, recurses := true, apart := false, narrowed := true }
def WireSameUptoSaid : Prop := wireSameUptoRow.holds Try.pinned (OpenSpec.upto wireSameSpec)

end Rows
end Go.Proofs.Ytbfmdedjkmfabaa
