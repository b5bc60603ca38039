/-
  No cell of these rows narrows 'for every input' (looked for: loops, veiled, ifaces, maps, wideKeys, modest, calm, conditions, laid).
  DERIVED. THE GIVEN ROWS OF THIS SEAT. 8 by the template 'for every input the law returns true; each argument reads behind the call as it read before'; 0 by the template 'total and deterministic' (their statements: YtecpmilepjbaeaaTotals.lean).
  GIVEN WITH THE SEED: the statements are not yours to turn. If you find one false, say at which input.
  Laid BY PROGRAM, IN A SANDBOX (cutbox-rows.mjs): the forced cells as the released guide's own fill.sh prints them over the translation f10e23e3e76c5e81… (all of the seat's roots in one cut). By AI agents, Wed Nov 11 2026. No macro, syntax, notation, axiom, sorry.
-/
import Derived.Test.YtecpmilepjbaeaaChecked
import GoSem.Claim
import GoSem.ClaimJoined
import GoSem.ClaimMapViews
import Derived.JoinedTies
import Derived.KernelRfl
namespace Go.Proofs.Ytecpmilepjbaeaa
/- THE CELL 'sum', in the pinned program and in every row, IS THE sha256 OF THE DUMP (.gsa) THAT YtecpmilepjbaeaaProg.lean LOADS. Nothing in Lean hashes anything: it is a label: what it is worth is what the hold of that sum in a sandbox is worth. -/
noncomputable def Try.pinned : Pinned := { name := "ytecpmilepjbaeaa", sum := "f10e23e3e76c5e819aaafd9b99bba04ab416390bbcd892d159358165ebd598a3", checked := Try.checked }
namespace Rows
def none {H : Type} : Left H := { results := [], args := [] }

/-- 'sigillumlaw08.PagesApart': WHATEVER THE INPUT: true; the input reads as it did. -/
def pagesApartSpec : ChangeSpec := { name := "pagesApart", fn := fun _ => fun
  | [d1, d2] => { results := [.lit (.bool true)], args := [d1, d2] }
  | _ => none }
def pagesApartRow : OpenClaim := { program := "ytecpmilepjbaeaa", sum := "f10e23e3e76c5e819aaafd9b99bba04ab416390bbcd892d159358165ebd598a3", func := "sigillum/sigillumlaw08.PagesApart", spec := "pagesApart", inPlace := ["internal/reflectlite.TypeOf"], unfollowed := true, recurses := true, apart := false }
def PagesApartSaid : Prop := pagesApartRow.holds Try.pinned (OpenSpec.ofChange pagesApartSpec)

/-- ITS FALSE NEIGHBOUR: 'it returns false'. Refute it at one input. -/
def pagesApartWrong : ChangeSpec := { name := "pagesApart", fn := fun _ => fun
  | [d1, d2] => { results := [.lit (.bool false)], args := [d1, d2] }
  | _ => none }
def PagesApartWrongFalsely : Prop := pagesApartRow.holds Try.pinned (OpenSpec.ofChange pagesApartWrong)

/-- 'sigillumlaw08.PagesScript': WHATEVER THE INPUT: true; the input reads as it did. -/
def pagesScriptSpec : ChangeSpec := { name := "pagesScript", fn := fun _ => fun
  | [d1, d2] => { results := [.lit (.bool true)], args := [d1, d2] }
  | _ => none }
def pagesScriptRow : OpenClaim := { program := "ytecpmilepjbaeaa", sum := "f10e23e3e76c5e819aaafd9b99bba04ab416390bbcd892d159358165ebd598a3", func := "sigillum/sigillumlaw08.PagesScript", spec := "pagesScript", inPlace := ["internal/reflectlite.TypeOf"], unfollowed := true, recurses := true, apart := false }
def PagesScriptSaid : Prop := pagesScriptRow.holds Try.pinned (OpenSpec.ofChange pagesScriptSpec)

/-- ITS FALSE NEIGHBOUR: 'it returns false'. Refute it at one input. -/
def pagesScriptWrong : ChangeSpec := { name := "pagesScript", fn := fun _ => fun
  | [d1, d2] => { results := [.lit (.bool false)], args := [d1, d2] }
  | _ => none }
def PagesScriptWrongFalsely : Prop := pagesScriptRow.holds Try.pinned (OpenSpec.ofChange pagesScriptWrong)

/-- 'sigillumlaw08.PagesClean': WHATEVER THE INPUT: true; the input reads as it did. -/
def pagesCleanSpec : ChangeSpec := { name := "pagesClean", fn := fun _ => fun
  | [d1, d2] => { results := [.lit (.bool true)], args := [d1, d2] }
  | _ => none }
def pagesCleanRow : OpenClaim := { program := "ytecpmilepjbaeaa", sum := "f10e23e3e76c5e819aaafd9b99bba04ab416390bbcd892d159358165ebd598a3", func := "sigillum/sigillumlaw08.PagesClean", spec := "pagesClean", inPlace := ["internal/reflectlite.TypeOf"], unfollowed := true, recurses := true, apart := false }
def PagesCleanSaid : Prop := pagesCleanRow.holds Try.pinned (OpenSpec.ofChange pagesCleanSpec)

/-- ITS FALSE NEIGHBOUR: 'it returns false'. Refute it at one input. -/
def pagesCleanWrong : ChangeSpec := { name := "pagesClean", fn := fun _ => fun
  | [d1, d2] => { results := [.lit (.bool false)], args := [d1, d2] }
  | _ => none }
def PagesCleanWrongFalsely : Prop := pagesCleanRow.holds Try.pinned (OpenSpec.ofChange pagesCleanWrong)

/-- 'sigillumlaw08.PagesCount': WHATEVER THE INPUT: true; the input reads as it did. -/
def pagesCountSpec : ChangeSpec := { name := "pagesCount", fn := fun _ => fun
  | [d] => { results := [.lit (.bool true)], args := [d] }
  | _ => none }
def pagesCountRow : OpenClaim := { program := "ytecpmilepjbaeaa", sum := "f10e23e3e76c5e819aaafd9b99bba04ab416390bbcd892d159358165ebd598a3", func := "sigillum/sigillumlaw08.PagesCount", spec := "pagesCount", inPlace := ["internal/reflectlite.TypeOf"], unfollowed := true, recurses := true, apart := false }
def PagesCountSaid : Prop := pagesCountRow.holds Try.pinned (OpenSpec.ofChange pagesCountSpec)

/-- ITS FALSE NEIGHBOUR: 'it returns false'. Refute it at one input. -/
def pagesCountWrong : ChangeSpec := { name := "pagesCount", fn := fun _ => fun
  | [d] => { results := [.lit (.bool false)], args := [d] }
  | _ => none }
def PagesCountWrongFalsely : Prop := pagesCountRow.holds Try.pinned (OpenSpec.ofChange pagesCountWrong)

/-- 'sigillumlaw28.StubStandard': WHATEVER THE INPUT: true; the input reads as it did. -/
def stubStandardSpec : ChangeSpec := { name := "stubStandard", fn := fun _ => fun
  | [d1, d2] => { results := [.lit (.bool true)], args := [d1, d2] }
  | _ => none }
def stubStandardRow : OpenClaim := { program := "ytecpmilepjbaeaa", sum := "f10e23e3e76c5e819aaafd9b99bba04ab416390bbcd892d159358165ebd598a3", func := "sigillum/sigillumlaw28.StubStandard", spec := "stubStandard", apart := false }
def StubStandardSaid : Prop := stubStandardRow.holds Try.pinned (OpenSpec.ofChange stubStandardSpec)

/-- ITS FALSE NEIGHBOUR: 'it returns false'. Refute it at one input. -/
def stubStandardWrong : ChangeSpec := { name := "stubStandard", fn := fun _ => fun
  | [d1, d2] => { results := [.lit (.bool false)], args := [d1, d2] }
  | _ => none }
def StubStandardWrongFalsely : Prop := stubStandardRow.holds Try.pinned (OpenSpec.ofChange stubStandardWrong)

/-- 'sigillumlaw28.StubSegments': WHATEVER THE INPUT: true; the input reads as it did. -/
def stubSegmentsSpec : ChangeSpec := { name := "stubSegments", fn := fun _ => fun
  | [d1, d2, d3, d4] => { results := [.lit (.bool true)], args := [d1, d2, d3, d4] }
  | _ => none }
def stubSegmentsRow : OpenClaim := { program := "ytecpmilepjbaeaa", sum := "f10e23e3e76c5e819aaafd9b99bba04ab416390bbcd892d159358165ebd598a3", func := "sigillum/sigillumlaw28.StubSegments", spec := "stubSegments", apart := false }
def StubSegmentsSaid : Prop := stubSegmentsRow.holds Try.pinned (OpenSpec.ofChange stubSegmentsSpec)

/-- ITS FALSE NEIGHBOUR: 'it returns false'. Refute it at one input. -/
def stubSegmentsWrong : ChangeSpec := { name := "stubSegments", fn := fun _ => fun
  | [d1, d2, d3, d4] => { results := [.lit (.bool false)], args := [d1, d2, d3, d4] }
  | _ => none }
def StubSegmentsWrongFalsely : Prop := stubSegmentsRow.holds Try.pinned (OpenSpec.ofChange stubSegmentsWrong)

/-- 'sigillumlaw28.StubNames': WHATEVER THE INPUT: true; the input reads as it did. -/
def stubNamesSpec : ChangeSpec := { name := "stubNames", fn := fun _ => fun
  | [d1, d2, d3, d4, d5] => { results := [.lit (.bool true)], args := [d1, d2, d3, d4, d5] }
  | _ => none }
def stubNamesRow : OpenClaim := { program := "ytecpmilepjbaeaa", sum := "f10e23e3e76c5e819aaafd9b99bba04ab416390bbcd892d159358165ebd598a3", func := "sigillum/sigillumlaw28.StubNames", spec := "stubNames", apart := false }
def StubNamesSaid : Prop := stubNamesRow.holds Try.pinned (OpenSpec.ofChange stubNamesSpec)

/-- ITS FALSE NEIGHBOUR: 'it returns false'. Refute it at one input. -/
def stubNamesWrong : ChangeSpec := { name := "stubNames", fn := fun _ => fun
  | [d1, d2, d3, d4, d5] => { results := [.lit (.bool false)], args := [d1, d2, d3, d4, d5] }
  | _ => none }
def StubNamesWrongFalsely : Prop := stubNamesRow.holds Try.pinned (OpenSpec.ofChange stubNamesWrong)

/-- 'sigillumlaw04.HeaderEncode': WHATEVER THE INPUT: true; the input reads as it did. -/
def headerEncodeSpec : ChangeSpec := { name := "headerEncode", fn := fun _ => fun
  | [d] => { results := [.lit (.bool true)], args := [d] }
  | _ => none }
def headerEncodeRow : OpenClaim := { program := "ytecpmilepjbaeaa", sum := "f10e23e3e76c5e819aaafd9b99bba04ab416390bbcd892d159358165ebd598a3", func := "sigillum/sigillumlaw04.HeaderEncode", spec := "headerEncode", inPlace := ["internal/reflectlite.TypeOf"], unfollowed := true, recurses := true, apart := false }
def HeaderEncodeSaid : Prop := headerEncodeRow.holds Try.pinned (OpenSpec.ofChange headerEncodeSpec)

/-- ITS FALSE NEIGHBOUR: 'it returns false'. Refute it at one input. -/
def headerEncodeWrong : ChangeSpec := { name := "headerEncode", fn := fun _ => fun
  | [d] => { results := [.lit (.bool false)], args := [d] }
  | _ => none }
def HeaderEncodeWrongFalsely : Prop := headerEncodeRow.holds Try.pinned (OpenSpec.ofChange headerEncodeWrong)

/- THE SECOND FORM. 'bulk': how many values and letters a reading holds, each counted each time it is reached (what is shared counts as often as it is met; a slice's spare places count too). A statement '..UptoSaid' is the law's where the arguments, and the package variables that the reading takes, are together of bulk at most 1048576: NARROWER than '..Said'. Prove '..Said' where nothing that the law and all that it calls make is longer than what came in: it says more and counts as full. Else prove '..UptoSaid'. A law counts once. -/
mutual
def uptoBulk {H : Type} : DataW H → Nat
  | .lit (.string bytes) => bytes.length + 1
  | .lit _ => 1
  | .nil => 1
  | .ptr d => uptoBulk d + 1
  | .slice elems spare => uptoBulkAll elems + uptoBulkAll spare + 1
  | .agg parts => uptoBulkAll parts + 1
  | .iface _ d => uptoBulk d + 1
  | .map entries => uptoBulkEntries entries + 1
  | .held _ => 1
def uptoBulkAll {H : Type} : List (DataW H) → Nat
  | [] => 0
  | d :: r => uptoBulk d + uptoBulkAll r
def uptoBulkEntries {H : Type} : List (Lit × DataW H) → Nat
  | [] => 0
  | x :: r => uptoBulkEntry x + uptoBulkEntries r
def uptoBulkEntry {H : Type} : Lit × DataW H → Nat
  | (.string bytes, d) => bytes.length + uptoBulk d + 1
  | (_, d) => uptoBulk d + 1
 end
def uptoSmall : (H : Type) → List (DataW H) → Bool := fun _ ds => decide (uptoBulkAll ds ≤ 1048576)
def OpenSpec.upto (s : _root_.Go.ChangeSpec) : _root_.Go.OpenSpec := { _root_.Go.OpenSpec.ofChange s with cond := some uptoSmall }

/-- 'sigillumlaw08.PagesApart', WHERE WHAT IT READS IS OF BULK AT MOST 1048576: true; the input reads as it did. -/
def pagesApartUptoRow : OpenClaim := { program := "ytecpmilepjbaeaa", sum := "f10e23e3e76c5e819aaafd9b99bba04ab416390bbcd892d159358165ebd598a3", func := "sigillum/sigillumlaw08.PagesApart", spec := "pagesApart", inPlace := ["internal/reflectlite.TypeOf"], unfollowed := true, recurses := true, apart := false, narrowed := true }
def PagesApartUptoSaid : Prop := pagesApartUptoRow.holds Try.pinned (OpenSpec.upto pagesApartSpec)

/-- 'sigillumlaw08.PagesScript', WHERE WHAT IT READS IS OF BULK AT MOST 1048576: true; the input reads as it did. -/
def pagesScriptUptoRow : OpenClaim := { program := "ytecpmilepjbaeaa", sum := "f10e23e3e76c5e819aaafd9b99bba04ab416390bbcd892d159358165ebd598a3", func := "sigillum/sigillumlaw08.PagesScript", spec := "pagesScript", inPlace := ["internal/reflectlite.TypeOf"], unfollowed := true, recurses := true, apart := false, narrowed := true }
def PagesScriptUptoSaid : Prop := pagesScriptUptoRow.holds Try.pinned (OpenSpec.upto pagesScriptSpec)

/-- 'sigillumlaw08.PagesClean', WHERE WHAT IT READS IS OF BULK AT MOST 1048576: true; the input reads as it did. -/
def pagesCleanUptoRow : OpenClaim := { program := "ytecpmilepjbaeaa", sum := "f10e23e3e76c5e819aaafd9b99bba04ab416390bbcd892d159358165ebd598a3", func := "sigillum/sigillumlaw08.PagesClean", spec := "pagesClean", inPlace := ["internal/reflectlite.TypeOf"], unfollowed := true, recurses := true, apart := false, narrowed := true }
def PagesCleanUptoSaid : Prop := pagesCleanUptoRow.holds Try.pinned (OpenSpec.upto pagesCleanSpec)

/-- 'sigillumlaw08.PagesCount', WHERE WHAT IT READS IS OF BULK AT MOST 1048576: true; the input reads as it did. -/
def pagesCountUptoRow : OpenClaim := { program := "ytecpmilepjbaeaa", sum := "f10e23e3e76c5e819aaafd9b99bba04ab416390bbcd892d159358165ebd598a3", func := "sigillum/sigillumlaw08.PagesCount", spec := "pagesCount", inPlace := ["internal/reflectlite.TypeOf"], unfollowed := true, recurses := true, apart := false, narrowed := true }
def PagesCountUptoSaid : Prop := pagesCountUptoRow.holds Try.pinned (OpenSpec.upto pagesCountSpec)

/-- 'sigillumlaw28.StubStandard', WHERE WHAT IT READS IS OF BULK AT MOST 1048576: true; the input reads as it did. -/
def stubStandardUptoRow : OpenClaim := { program := "ytecpmilepjbaeaa", sum := "f10e23e3e76c5e819aaafd9b99bba04ab416390bbcd892d159358165ebd598a3", func := "sigillum/sigillumlaw28.StubStandard", spec := "stubStandard", apart := false, narrowed := true }
def StubStandardUptoSaid : Prop := stubStandardUptoRow.holds Try.pinned (OpenSpec.upto stubStandardSpec)

/-- 'sigillumlaw28.StubSegments', WHERE WHAT IT READS IS OF BULK AT MOST 1048576: true; the input reads as it did. -/
def stubSegmentsUptoRow : OpenClaim := { program := "ytecpmilepjbaeaa", sum := "f10e23e3e76c5e819aaafd9b99bba04ab416390bbcd892d159358165ebd598a3", func := "sigillum/sigillumlaw28.StubSegments", spec := "stubSegments", apart := false, narrowed := true }
def StubSegmentsUptoSaid : Prop := stubSegmentsUptoRow.holds Try.pinned (OpenSpec.upto stubSegmentsSpec)

/-- 'sigillumlaw28.StubNames', WHERE WHAT IT READS IS OF BULK AT MOST 1048576: true; the input reads as it did. -/
def stubNamesUptoRow : OpenClaim := { program := "ytecpmilepjbaeaa", sum := "f10e23e3e76c5e819aaafd9b99bba04ab416390bbcd892d159358165ebd598a3", func := "sigillum/sigillumlaw28.StubNames", spec := "stubNames", apart := false, narrowed := true }
def StubNamesUptoSaid : Prop := stubNamesUptoRow.holds Try.pinned (OpenSpec.upto stubNamesSpec)

/-- 'sigillumlaw04.HeaderEncode', WHERE WHAT IT READS IS OF BULK AT MOST 1048576: true; the input reads as it did. -/
def headerEncodeUptoRow : OpenClaim := { program := "ytecpmilepjbaeaa", sum := "f10e23e3e76c5e819aaafd9b99bba04ab416390bbcd892d159358165ebd598a3", func := "sigillum/sigillumlaw04.HeaderEncode", spec := "headerEncode", inPlace := ["internal/reflectlite.TypeOf"], unfollowed := true, recurses := true, apart := false, narrowed := true }
def HeaderEncodeUptoSaid : Prop := headerEncodeUptoRow.holds Try.pinned (OpenSpec.upto headerEncodeSpec)

end Rows
end Go.Proofs.Ytecpmilepjbaeaa
