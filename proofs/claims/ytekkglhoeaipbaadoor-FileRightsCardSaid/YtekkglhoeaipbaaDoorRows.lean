/-
  NARROWER THAN 'FOR EVERY INPUT', by the rows' own cells (each row's printed sentence says how): MemoryServes: laid · MemoryBack: laid · MemoryRights: laid · FileStays: laid · FileRoom: laid · FileRights: laid · StubMasks: laid · DirectoryServes: laid · DirectoryMask: laid · DirectoryNames: laid · DirectoryReplaced: laid.
  DERIVED. THE GIVEN ROWS OF THIS SEAT. 11 by the template 'for every input the law returns true; each argument reads behind the call as it read before'; 0 by the template 'total and deterministic' (their statements: YtekkglhoeaipbaaDoorTotals.lean).
  GIVEN WITH THE SEED: the statements are not yours to turn. If you find one false, say at which input.
  Laid BY PROGRAM, IN A SANDBOX (cutbox-rows.mjs): the forced cells as the released guide's own fill.sh prints them over the translation 04fdbe648a760780… (all of the seat's roots in one cut). By AI agents, Wed Nov 11 2026. No macro, syntax, notation, axiom, sorry.
-/
import Derived.Test.YtekkglhoeaipbaaDoorChecked
import GoSem.Claim
import GoSem.ClaimJoined
import GoSem.ClaimMapViews
import Derived.JoinedTies
import Derived.KernelRfl
namespace Go.Proofs.YtekkglhoeaipbaaDoor
/- THE CELL 'sum', in the pinned program and in every row, IS THE sha256 OF THE DUMP (.gsa) THAT YtekkglhoeaipbaaDoorProg.lean LOADS. Nothing in Lean hashes anything: it is a label: what it is worth is what the hold of that sum in a sandbox is worth. -/
noncomputable def Tryd.pinned : Pinned := { name := "ytekkglhoeaipbaadoor", sum := "04fdbe648a7607801a9aac6ee840e7d935cc34c8565ebc2fbb2094b5bbacb10a", checked := Tryd.checked }
namespace Rows
def none {H : Type} : Left H := { results := [], args := [] }

/- WHAT THE LISTED PACKAGE-LEVEL VARIABLES READ AS WHEN THE CALL BEGINS. Each datum BY PROGRAM (the guide's laid-datum.mjs) off the statement by which the dump's own 'gosem.cut.vars' lays the variable. In a bare row this is a premise. The card (YtekkglhoeaipbaaDoorCards.lean) ties it to the program's text. -/
def laid_errors_errorType {H : Type} : DataW H := .iface "internal/reflectlite.rtype" (.agg [.ptr (.lit (.string [101, 114, 114, 111, 114]))])

/-- 'sigillumlaw25.MemoryServes': WHATEVER THE INPUT: true; the input reads as it did. -/
def memoryServesSpec : ChangeSpec := { name := "memoryServes", fn := fun _ => fun
  | [d1, d2, d3, d4] => { results := [.lit (.bool true)], args := [d1, d2, d3, d4] }
  | _ => none }
def memoryServesRow : OpenClaim := { program := "ytekkglhoeaipbaadoor", sum := "04fdbe648a7607801a9aac6ee840e7d935cc34c8565ebc2fbb2094b5bbacb10a", func := "sigillum/sigillumlaw25.MemoryServes", spec := "memoryServes", inPlace := ["internal/reflectlite.ValueOf", "(internal/reflectlite.Value).Type", "(internal/reflectlite.Value).IsNil", "internal/reflectlite.TypeOf", "(internal/reflectlite.Value).Elem", "(internal/reflectlite.Value).Set"], unfollowed := true, recurses := true, named := ["errors.errorType"], apart := false, laid := [("errors.errorType", laid_errors_errorType)] }
def MemoryServesSaid : Prop := memoryServesRow.holds Tryd.pinned (OpenSpec.ofChange memoryServesSpec)

/-- ITS FALSE NEIGHBOUR: 'it returns false'. Refute it at one input. -/
def memoryServesWrong : ChangeSpec := { name := "memoryServes", fn := fun _ => fun
  | [d1, d2, d3, d4] => { results := [.lit (.bool false)], args := [d1, d2, d3, d4] }
  | _ => none }
def MemoryServesWrongFalsely : Prop := memoryServesRow.holds Tryd.pinned (OpenSpec.ofChange memoryServesWrong)

/-- 'sigillumlaw25.MemoryBack': WHATEVER THE INPUT: true; the input reads as it did. -/
def memoryBackSpec : ChangeSpec := { name := "memoryBack", fn := fun _ => fun
  | [d1, d2, d3] => { results := [.lit (.bool true)], args := [d1, d2, d3] }
  | _ => none }
def memoryBackRow : OpenClaim := { program := "ytekkglhoeaipbaadoor", sum := "04fdbe648a7607801a9aac6ee840e7d935cc34c8565ebc2fbb2094b5bbacb10a", func := "sigillum/sigillumlaw25.MemoryBack", spec := "memoryBack", inPlace := ["internal/reflectlite.ValueOf", "(internal/reflectlite.Value).Type", "(internal/reflectlite.Value).IsNil", "internal/reflectlite.TypeOf", "(internal/reflectlite.Value).Elem", "(internal/reflectlite.Value).Set"], unfollowed := true, recurses := true, named := ["errors.errorType"], apart := false, laid := [("errors.errorType", laid_errors_errorType)] }
def MemoryBackSaid : Prop := memoryBackRow.holds Tryd.pinned (OpenSpec.ofChange memoryBackSpec)

/-- ITS FALSE NEIGHBOUR: 'it returns false'. Refute it at one input. -/
def memoryBackWrong : ChangeSpec := { name := "memoryBack", fn := fun _ => fun
  | [d1, d2, d3] => { results := [.lit (.bool false)], args := [d1, d2, d3] }
  | _ => none }
def MemoryBackWrongFalsely : Prop := memoryBackRow.holds Tryd.pinned (OpenSpec.ofChange memoryBackWrong)

/-- 'sigillumlaw25.MemoryRights': WHATEVER THE INPUT: true; the input reads as it did. -/
def memoryRightsSpec : ChangeSpec := { name := "memoryRights", fn := fun _ => fun
  | [d1, d2] => { results := [.lit (.bool true)], args := [d1, d2] }
  | _ => none }
def memoryRightsRow : OpenClaim := { program := "ytekkglhoeaipbaadoor", sum := "04fdbe648a7607801a9aac6ee840e7d935cc34c8565ebc2fbb2094b5bbacb10a", func := "sigillum/sigillumlaw25.MemoryRights", spec := "memoryRights", inPlace := ["internal/reflectlite.ValueOf", "(internal/reflectlite.Value).Type", "(internal/reflectlite.Value).IsNil", "internal/reflectlite.TypeOf", "(internal/reflectlite.Value).Elem", "(internal/reflectlite.Value).Set"], unfollowed := true, recurses := true, named := ["errors.errorType"], apart := false, laid := [("errors.errorType", laid_errors_errorType)] }
def MemoryRightsSaid : Prop := memoryRightsRow.holds Tryd.pinned (OpenSpec.ofChange memoryRightsSpec)

/-- ITS FALSE NEIGHBOUR: 'it returns false'. Refute it at one input. -/
def memoryRightsWrong : ChangeSpec := { name := "memoryRights", fn := fun _ => fun
  | [d1, d2] => { results := [.lit (.bool false)], args := [d1, d2] }
  | _ => none }
def MemoryRightsWrongFalsely : Prop := memoryRightsRow.holds Tryd.pinned (OpenSpec.ofChange memoryRightsWrong)

/-- 'sigillumlaw27.FileStays': WHATEVER THE INPUT: true; the input reads as it did. -/
def fileStaysSpec : ChangeSpec := { name := "fileStays", fn := fun _ => fun
  | [d1, d2, d3] => { results := [.lit (.bool true)], args := [d1, d2, d3] }
  | _ => none }
def fileStaysRow : OpenClaim := { program := "ytekkglhoeaipbaadoor", sum := "04fdbe648a7607801a9aac6ee840e7d935cc34c8565ebc2fbb2094b5bbacb10a", func := "sigillum/sigillumlaw27.FileStays", spec := "fileStays", inPlace := ["internal/reflectlite.ValueOf", "(internal/reflectlite.Value).Type", "(internal/reflectlite.Value).IsNil", "internal/reflectlite.TypeOf", "(internal/reflectlite.Value).Elem", "(internal/reflectlite.Value).Set"], unfollowed := true, recurses := true, named := ["errors.errorType"], apart := false, laid := [("errors.errorType", laid_errors_errorType)] }
def FileStaysSaid : Prop := fileStaysRow.holds Tryd.pinned (OpenSpec.ofChange fileStaysSpec)

/-- ITS FALSE NEIGHBOUR: 'it returns false'. Refute it at one input. -/
def fileStaysWrong : ChangeSpec := { name := "fileStays", fn := fun _ => fun
  | [d1, d2, d3] => { results := [.lit (.bool false)], args := [d1, d2, d3] }
  | _ => none }
def FileStaysWrongFalsely : Prop := fileStaysRow.holds Tryd.pinned (OpenSpec.ofChange fileStaysWrong)

/-- 'sigillumlaw27.FileRoom': WHATEVER THE INPUT: true; the input reads as it did. -/
def fileRoomSpec : ChangeSpec := { name := "fileRoom", fn := fun _ => fun
  | [d] => { results := [.lit (.bool true)], args := [d] }
  | _ => none }
def fileRoomRow : OpenClaim := { program := "ytekkglhoeaipbaadoor", sum := "04fdbe648a7607801a9aac6ee840e7d935cc34c8565ebc2fbb2094b5bbacb10a", func := "sigillum/sigillumlaw27.FileRoom", spec := "fileRoom", inPlace := ["internal/reflectlite.ValueOf", "(internal/reflectlite.Value).Type", "(internal/reflectlite.Value).IsNil", "internal/reflectlite.TypeOf", "(internal/reflectlite.Value).Elem", "(internal/reflectlite.Value).Set"], unfollowed := true, recurses := true, named := ["errors.errorType"], apart := false, laid := [("errors.errorType", laid_errors_errorType)] }
def FileRoomSaid : Prop := fileRoomRow.holds Tryd.pinned (OpenSpec.ofChange fileRoomSpec)

/-- ITS FALSE NEIGHBOUR: 'it returns false'. Refute it at one input. -/
def fileRoomWrong : ChangeSpec := { name := "fileRoom", fn := fun _ => fun
  | [d] => { results := [.lit (.bool false)], args := [d] }
  | _ => none }
def FileRoomWrongFalsely : Prop := fileRoomRow.holds Tryd.pinned (OpenSpec.ofChange fileRoomWrong)

/-- 'sigillumlaw27.FileRights': WHATEVER THE INPUT: true; the input reads as it did. -/
def fileRightsSpec : ChangeSpec := { name := "fileRights", fn := fun _ => fun
  | [d1, d2] => { results := [.lit (.bool true)], args := [d1, d2] }
  | _ => none }
def fileRightsRow : OpenClaim := { program := "ytekkglhoeaipbaadoor", sum := "04fdbe648a7607801a9aac6ee840e7d935cc34c8565ebc2fbb2094b5bbacb10a", func := "sigillum/sigillumlaw27.FileRights", spec := "fileRights", inPlace := ["internal/reflectlite.ValueOf", "(internal/reflectlite.Value).Type", "(internal/reflectlite.Value).IsNil", "internal/reflectlite.TypeOf", "(internal/reflectlite.Value).Elem", "(internal/reflectlite.Value).Set"], unfollowed := true, recurses := true, named := ["errors.errorType"], apart := false, laid := [("errors.errorType", laid_errors_errorType)] }
def FileRightsSaid : Prop := fileRightsRow.holds Tryd.pinned (OpenSpec.ofChange fileRightsSpec)

/-- ITS FALSE NEIGHBOUR: 'it returns false'. Refute it at one input. -/
def fileRightsWrong : ChangeSpec := { name := "fileRights", fn := fun _ => fun
  | [d1, d2] => { results := [.lit (.bool false)], args := [d1, d2] }
  | _ => none }
def FileRightsWrongFalsely : Prop := fileRightsRow.holds Tryd.pinned (OpenSpec.ofChange fileRightsWrong)

/-- 'sigillumlaw28.StubMasks': WHATEVER THE INPUT: true; the input reads as it did. -/
def stubMasksSpec : ChangeSpec := { name := "stubMasks", fn := fun _ => fun
  | [d1, d2] => { results := [.lit (.bool true)], args := [d1, d2] }
  | _ => none }
def stubMasksRow : OpenClaim := { program := "ytekkglhoeaipbaadoor", sum := "04fdbe648a7607801a9aac6ee840e7d935cc34c8565ebc2fbb2094b5bbacb10a", func := "sigillum/sigillumlaw28.StubMasks", spec := "stubMasks", inPlace := ["internal/reflectlite.ValueOf", "(internal/reflectlite.Value).Type", "(internal/reflectlite.Value).IsNil", "internal/reflectlite.TypeOf", "(internal/reflectlite.Value).Elem", "(internal/reflectlite.Value).Set"], unfollowed := true, recurses := true, named := ["errors.errorType"], apart := false, laid := [("errors.errorType", laid_errors_errorType)] }
def StubMasksSaid : Prop := stubMasksRow.holds Tryd.pinned (OpenSpec.ofChange stubMasksSpec)

/-- ITS FALSE NEIGHBOUR: 'it returns false'. Refute it at one input. -/
def stubMasksWrong : ChangeSpec := { name := "stubMasks", fn := fun _ => fun
  | [d1, d2] => { results := [.lit (.bool false)], args := [d1, d2] }
  | _ => none }
def StubMasksWrongFalsely : Prop := stubMasksRow.holds Tryd.pinned (OpenSpec.ofChange stubMasksWrong)

/-- 'sigillumlaw26.DirectoryServes': WHATEVER THE INPUT: true; the input reads as it did. -/
def directoryServesSpec : ChangeSpec := { name := "directoryServes", fn := fun _ => fun
  | [d1, d2, d3] => { results := [.lit (.bool true)], args := [d1, d2, d3] }
  | _ => none }
def directoryServesRow : OpenClaim := { program := "ytekkglhoeaipbaadoor", sum := "04fdbe648a7607801a9aac6ee840e7d935cc34c8565ebc2fbb2094b5bbacb10a", func := "sigillum/sigillumlaw26.DirectoryServes", spec := "directoryServes", inPlace := ["internal/reflectlite.ValueOf", "(internal/reflectlite.Value).Type", "(internal/reflectlite.Value).IsNil", "internal/reflectlite.TypeOf", "(internal/reflectlite.Value).Elem", "(internal/reflectlite.Value).Set"], unfollowed := true, recurses := true, named := ["errors.errorType"], apart := false, laid := [("errors.errorType", laid_errors_errorType)] }
def DirectoryServesSaid : Prop := directoryServesRow.holds Tryd.pinned (OpenSpec.ofChange directoryServesSpec)

/-- ITS FALSE NEIGHBOUR: 'it returns false'. Refute it at one input. -/
def directoryServesWrong : ChangeSpec := { name := "directoryServes", fn := fun _ => fun
  | [d1, d2, d3] => { results := [.lit (.bool false)], args := [d1, d2, d3] }
  | _ => none }
def DirectoryServesWrongFalsely : Prop := directoryServesRow.holds Tryd.pinned (OpenSpec.ofChange directoryServesWrong)

/-- 'sigillumlaw26.DirectoryMask': WHATEVER THE INPUT: true; the input reads as it did. -/
def directoryMaskSpec : ChangeSpec := { name := "directoryMask", fn := fun _ => fun
  | [d1, d2, d3] => { results := [.lit (.bool true)], args := [d1, d2, d3] }
  | _ => none }
def directoryMaskRow : OpenClaim := { program := "ytekkglhoeaipbaadoor", sum := "04fdbe648a7607801a9aac6ee840e7d935cc34c8565ebc2fbb2094b5bbacb10a", func := "sigillum/sigillumlaw26.DirectoryMask", spec := "directoryMask", inPlace := ["internal/reflectlite.ValueOf", "(internal/reflectlite.Value).Type", "(internal/reflectlite.Value).IsNil", "internal/reflectlite.TypeOf", "(internal/reflectlite.Value).Elem", "(internal/reflectlite.Value).Set"], unfollowed := true, recurses := true, named := ["errors.errorType"], apart := false, laid := [("errors.errorType", laid_errors_errorType)] }
def DirectoryMaskSaid : Prop := directoryMaskRow.holds Tryd.pinned (OpenSpec.ofChange directoryMaskSpec)

/-- ITS FALSE NEIGHBOUR: 'it returns false'. Refute it at one input. -/
def directoryMaskWrong : ChangeSpec := { name := "directoryMask", fn := fun _ => fun
  | [d1, d2, d3] => { results := [.lit (.bool false)], args := [d1, d2, d3] }
  | _ => none }
def DirectoryMaskWrongFalsely : Prop := directoryMaskRow.holds Tryd.pinned (OpenSpec.ofChange directoryMaskWrong)

/-- 'sigillumlaw26.DirectoryNames': WHATEVER THE INPUT: true; the input reads as it did. -/
def directoryNamesSpec : ChangeSpec := { name := "directoryNames", fn := fun _ => fun
  | [d] => { results := [.lit (.bool true)], args := [d] }
  | _ => none }
def directoryNamesRow : OpenClaim := { program := "ytekkglhoeaipbaadoor", sum := "04fdbe648a7607801a9aac6ee840e7d935cc34c8565ebc2fbb2094b5bbacb10a", func := "sigillum/sigillumlaw26.DirectoryNames", spec := "directoryNames", inPlace := ["internal/reflectlite.ValueOf", "(internal/reflectlite.Value).Type", "(internal/reflectlite.Value).IsNil", "internal/reflectlite.TypeOf", "(internal/reflectlite.Value).Elem", "(internal/reflectlite.Value).Set"], unfollowed := true, recurses := true, named := ["errors.errorType"], apart := false, laid := [("errors.errorType", laid_errors_errorType)] }
def DirectoryNamesSaid : Prop := directoryNamesRow.holds Tryd.pinned (OpenSpec.ofChange directoryNamesSpec)

/-- ITS FALSE NEIGHBOUR: 'it returns false'. Refute it at one input. -/
def directoryNamesWrong : ChangeSpec := { name := "directoryNames", fn := fun _ => fun
  | [d] => { results := [.lit (.bool false)], args := [d] }
  | _ => none }
def DirectoryNamesWrongFalsely : Prop := directoryNamesRow.holds Tryd.pinned (OpenSpec.ofChange directoryNamesWrong)

/-- 'sigillumlaw26.DirectoryReplaced': WHATEVER THE INPUT: true; the input reads as it did. -/
def directoryReplacedSpec : ChangeSpec := { name := "directoryReplaced", fn := fun _ => fun
  | [d1, d2, d3] => { results := [.lit (.bool true)], args := [d1, d2, d3] }
  | _ => none }
def directoryReplacedRow : OpenClaim := { program := "ytekkglhoeaipbaadoor", sum := "04fdbe648a7607801a9aac6ee840e7d935cc34c8565ebc2fbb2094b5bbacb10a", func := "sigillum/sigillumlaw26.DirectoryReplaced", spec := "directoryReplaced", inPlace := ["internal/reflectlite.ValueOf", "(internal/reflectlite.Value).Type", "(internal/reflectlite.Value).IsNil", "internal/reflectlite.TypeOf", "(internal/reflectlite.Value).Elem", "(internal/reflectlite.Value).Set"], unfollowed := true, recurses := true, named := ["errors.errorType"], apart := false, laid := [("errors.errorType", laid_errors_errorType)] }
def DirectoryReplacedSaid : Prop := directoryReplacedRow.holds Tryd.pinned (OpenSpec.ofChange directoryReplacedSpec)

/-- ITS FALSE NEIGHBOUR: 'it returns false'. Refute it at one input. -/
def directoryReplacedWrong : ChangeSpec := { name := "directoryReplaced", fn := fun _ => fun
  | [d1, d2, d3] => { results := [.lit (.bool false)], args := [d1, d2, d3] }
  | _ => none }
def DirectoryReplacedWrongFalsely : Prop := directoryReplacedRow.holds Tryd.pinned (OpenSpec.ofChange directoryReplacedWrong)

/- THE SECOND FORM. 'bulk': how many values and letters a reading holds, each counted each time it is reached (what is shared counts as often as it is met; a slice's spare places count too). A statement '..UptoSaid' is the law's where the arguments, and the package variables that the reading takes, are together of bulk at most 1048576: NARROWER than '..Said'. Prove '..Said' where nothing that the law and all that it calls make is longer than what came in: it says more and counts as full. Else prove '..UptoSaid'. A law counts once. -/
mutual
def uptoBulk {H : Type} : DataW H → Nat
  | .lit (.string bytes) => bytes.length + 1
  | .lit _ => 1
  | .nil => 1
  | .ptr d => uptoBulk d + 1
  | .slice elems spare => uptoBulkAll elems + uptoBulkAll spare + 1
  | .agg parts => uptoBulkAll parts + 1
  | .iface _ d => uptoBulk d + 1
  | .map entries => uptoBulkEntries entries + 1
  | .held _ => 1
def uptoBulkAll {H : Type} : List (DataW H) → Nat
  | [] => 0
  | d :: r => uptoBulk d + uptoBulkAll r
def uptoBulkEntries {H : Type} : List (Lit × DataW H) → Nat
  | [] => 0
  | x :: r => uptoBulkEntry x + uptoBulkEntries r
def uptoBulkEntry {H : Type} : Lit × DataW H → Nat
  | (.string bytes, d) => bytes.length + uptoBulk d + 1
  | (_, d) => uptoBulk d + 1
 end
def uptoSmall : (H : Type) → List (DataW H) → Bool := fun _ ds => decide (uptoBulkAll ds ≤ 1048576)
def OpenSpec.upto (s : _root_.Go.ChangeSpec) : _root_.Go.OpenSpec := { _root_.Go.OpenSpec.ofChange s with cond := some uptoSmall }

/-- 'sigillumlaw25.MemoryServes', WHERE WHAT IT READS IS OF BULK AT MOST 1048576: true; the input reads as it did. -/
def memoryServesUptoRow : OpenClaim := { program := "ytekkglhoeaipbaadoor", sum := "04fdbe648a7607801a9aac6ee840e7d935cc34c8565ebc2fbb2094b5bbacb10a", func := "sigillum/sigillumlaw25.MemoryServes", spec := "memoryServes", inPlace := ["internal/reflectlite.ValueOf", "(internal/reflectlite.Value).Type", "(internal/reflectlite.Value).IsNil", "internal/reflectlite.TypeOf", "(internal/reflectlite.Value).Elem", "(internal/reflectlite.Value).Set"], unfollowed := true, recurses := true, named := ["errors.errorType"], apart := false, laid := [("errors.errorType", laid_errors_errorType)], narrowed := true }
def MemoryServesUptoSaid : Prop := memoryServesUptoRow.holds Tryd.pinned (OpenSpec.upto memoryServesSpec)

/-- 'sigillumlaw25.MemoryBack', WHERE WHAT IT READS IS OF BULK AT MOST 1048576: true; the input reads as it did. -/
def memoryBackUptoRow : OpenClaim := { program := "ytekkglhoeaipbaadoor", sum := "04fdbe648a7607801a9aac6ee840e7d935cc34c8565ebc2fbb2094b5bbacb10a", func := "sigillum/sigillumlaw25.MemoryBack", spec := "memoryBack", inPlace := ["internal/reflectlite.ValueOf", "(internal/reflectlite.Value).Type", "(internal/reflectlite.Value).IsNil", "internal/reflectlite.TypeOf", "(internal/reflectlite.Value).Elem", "(internal/reflectlite.Value).Set"], unfollowed := true, recurses := true, named := ["errors.errorType"], apart := false, laid := [("errors.errorType", laid_errors_errorType)], narrowed := true }
def MemoryBackUptoSaid : Prop := memoryBackUptoRow.holds Tryd.pinned (OpenSpec.upto memoryBackSpec)

/-- 'sigillumlaw25.MemoryRights', WHERE WHAT IT READS IS OF BULK AT MOST 1048576: true; the input reads as it did. -/
def memoryRightsUptoRow : OpenClaim := { program := "ytekkglhoeaipbaadoor", sum := "04fdbe648a7607801a9aac6ee840e7d935cc34c8565ebc2fbb2094b5bbacb10a", func := "sigillum/sigillumlaw25.MemoryRights", spec := "memoryRights", inPlace := ["internal/reflectlite.ValueOf", "(internal/reflectlite.Value).Type", "(internal/reflectlite.Value).IsNil", "internal/reflectlite.TypeOf", "(internal/reflectlite.Value).Elem", "(internal/reflectlite.Value).Set"], unfollowed := true, recurses := true, named := ["errors.errorType"], apart := false, laid := [("errors.errorType", laid_errors_errorType)], narrowed := true }
def MemoryRightsUptoSaid : Prop := memoryRightsUptoRow.holds Tryd.pinned (OpenSpec.upto memoryRightsSpec)

/-- 'sigillumlaw27.FileStays', WHERE WHAT IT READS IS OF BULK AT MOST 1048576: true; the input reads as it did. -/
def fileStaysUptoRow : OpenClaim := { program := "ytekkglhoeaipbaadoor", sum := "04fdbe648a7607801a9aac6ee840e7d935cc34c8565ebc2fbb2094b5bbacb10a", func := "sigillum/sigillumlaw27.FileStays", spec := "fileStays", inPlace := ["internal/reflectlite.ValueOf", "(internal/reflectlite.Value).Type", "(internal/reflectlite.Value).IsNil", "internal/reflectlite.TypeOf", "(internal/reflectlite.Value).Elem", "(internal/reflectlite.Value).Set"], unfollowed := true, recurses := true, named := ["errors.errorType"], apart := false, laid := [("errors.errorType", laid_errors_errorType)], narrowed := true }
def FileStaysUptoSaid : Prop := fileStaysUptoRow.holds Tryd.pinned (OpenSpec.upto fileStaysSpec)

/-- 'sigillumlaw27.FileRoom', WHERE WHAT IT READS IS OF BULK AT MOST 1048576: true; the input reads as it did. -/
def fileRoomUptoRow : OpenClaim := { program := "ytekkglhoeaipbaadoor", sum := "04fdbe648a7607801a9aac6ee840e7d935cc34c8565ebc2fbb2094b5bbacb10a", func := "sigillum/sigillumlaw27.FileRoom", spec := "fileRoom", inPlace := ["internal/reflectlite.ValueOf", "(internal/reflectlite.Value).Type", "(internal/reflectlite.Value).IsNil", "internal/reflectlite.TypeOf", "(internal/reflectlite.Value).Elem", "(internal/reflectlite.Value).Set"], unfollowed := true, recurses := true, named := ["errors.errorType"], apart := false, laid := [("errors.errorType", laid_errors_errorType)], narrowed := true }
def FileRoomUptoSaid : Prop := fileRoomUptoRow.holds Tryd.pinned (OpenSpec.upto fileRoomSpec)

/-- 'sigillumlaw27.FileRights', WHERE WHAT IT READS IS OF BULK AT MOST 1048576: true; the input reads as it did. -/
def fileRightsUptoRow : OpenClaim := { program := "ytekkglhoeaipbaadoor", sum := "04fdbe648a7607801a9aac6ee840e7d935cc34c8565ebc2fbb2094b5bbacb10a", func := "sigillum/sigillumlaw27.FileRights", spec := "fileRights", inPlace := ["internal/reflectlite.ValueOf", "(internal/reflectlite.Value).Type", "(internal/reflectlite.Value).IsNil", "internal/reflectlite.TypeOf", "(internal/reflectlite.Value).Elem", "(internal/reflectlite.Value).Set"], unfollowed := true, recurses := true, named := ["errors.errorType"], apart := false, laid := [("errors.errorType", laid_errors_errorType)], narrowed := true }
def FileRightsUptoSaid : Prop := fileRightsUptoRow.holds Tryd.pinned (OpenSpec.upto fileRightsSpec)

/-- 'sigillumlaw28.StubMasks', WHERE WHAT IT READS IS OF BULK AT MOST 1048576: true; the input reads as it did. -/
def stubMasksUptoRow : OpenClaim := { program := "ytekkglhoeaipbaadoor", sum := "04fdbe648a7607801a9aac6ee840e7d935cc34c8565ebc2fbb2094b5bbacb10a", func := "sigillum/sigillumlaw28.StubMasks", spec := "stubMasks", inPlace := ["internal/reflectlite.ValueOf", "(internal/reflectlite.Value).Type", "(internal/reflectlite.Value).IsNil", "internal/reflectlite.TypeOf", "(internal/reflectlite.Value).Elem", "(internal/reflectlite.Value).Set"], unfollowed := true, recurses := true, named := ["errors.errorType"], apart := false, laid := [("errors.errorType", laid_errors_errorType)], narrowed := true }
def StubMasksUptoSaid : Prop := stubMasksUptoRow.holds Tryd.pinned (OpenSpec.upto stubMasksSpec)

/-- 'sigillumlaw26.DirectoryServes', WHERE WHAT IT READS IS OF BULK AT MOST 1048576: true; the input reads as it did. -/
def directoryServesUptoRow : OpenClaim := { program := "ytekkglhoeaipbaadoor", sum := "04fdbe648a7607801a9aac6ee840e7d935cc34c8565ebc2fbb2094b5bbacb10a", func := "sigillum/sigillumlaw26.DirectoryServes", spec := "directoryServes", inPlace := ["internal/reflectlite.ValueOf", "(internal/reflectlite.Value).Type", "(internal/reflectlite.Value).IsNil", "internal/reflectlite.TypeOf", "(internal/reflectlite.Value).Elem", "(internal/reflectlite.Value).Set"], unfollowed := true, recurses := true, named := ["errors.errorType"], apart := false, laid := [("errors.errorType", laid_errors_errorType)], narrowed := true }
def DirectoryServesUptoSaid : Prop := directoryServesUptoRow.holds Tryd.pinned (OpenSpec.upto directoryServesSpec)

/-- 'sigillumlaw26.DirectoryMask', WHERE WHAT IT READS IS OF BULK AT MOST 1048576: true; the input reads as it did. -/
def directoryMaskUptoRow : OpenClaim := { program := "ytekkglhoeaipbaadoor", sum := "04fdbe648a7607801a9aac6ee840e7d935cc34c8565ebc2fbb2094b5bbacb10a", func := "sigillum/sigillumlaw26.DirectoryMask", spec := "directoryMask", inPlace := ["internal/reflectlite.ValueOf", "(internal/reflectlite.Value).Type", "(internal/reflectlite.Value).IsNil", "internal/reflectlite.TypeOf", "(internal/reflectlite.Value).Elem", "(internal/reflectlite.Value).Set"], unfollowed := true, recurses := true, named := ["errors.errorType"], apart := false, laid := [("errors.errorType", laid_errors_errorType)], narrowed := true }
def DirectoryMaskUptoSaid : Prop := directoryMaskUptoRow.holds Tryd.pinned (OpenSpec.upto directoryMaskSpec)

/-- 'sigillumlaw26.DirectoryNames', WHERE WHAT IT READS IS OF BULK AT MOST 1048576: true; the input reads as it did. -/
def directoryNamesUptoRow : OpenClaim := { program := "ytekkglhoeaipbaadoor", sum := "04fdbe648a7607801a9aac6ee840e7d935cc34c8565ebc2fbb2094b5bbacb10a", func := "sigillum/sigillumlaw26.DirectoryNames", spec := "directoryNames", inPlace := ["internal/reflectlite.ValueOf", "(internal/reflectlite.Value).Type", "(internal/reflectlite.Value).IsNil", "internal/reflectlite.TypeOf", "(internal/reflectlite.Value).Elem", "(internal/reflectlite.Value).Set"], unfollowed := true, recurses := true, named := ["errors.errorType"], apart := false, laid := [("errors.errorType", laid_errors_errorType)], narrowed := true }
def DirectoryNamesUptoSaid : Prop := directoryNamesUptoRow.holds Tryd.pinned (OpenSpec.upto directoryNamesSpec)

/-- 'sigillumlaw26.DirectoryReplaced', WHERE WHAT IT READS IS OF BULK AT MOST 1048576: true; the input reads as it did. -/
def directoryReplacedUptoRow : OpenClaim := { program := "ytekkglhoeaipbaadoor", sum := "04fdbe648a7607801a9aac6ee840e7d935cc34c8565ebc2fbb2094b5bbacb10a", func := "sigillum/sigillumlaw26.DirectoryReplaced", spec := "directoryReplaced", inPlace := ["internal/reflectlite.ValueOf", "(internal/reflectlite.Value).Type", "(internal/reflectlite.Value).IsNil", "internal/reflectlite.TypeOf", "(internal/reflectlite.Value).Elem", "(internal/reflectlite.Value).Set"], unfollowed := true, recurses := true, named := ["errors.errorType"], apart := false, laid := [("errors.errorType", laid_errors_errorType)], narrowed := true }
def DirectoryReplacedUptoSaid : Prop := directoryReplacedUptoRow.holds Tryd.pinned (OpenSpec.upto directoryReplacedSpec)

end Rows
end Go.Proofs.YtekkglhoeaipbaaDoor
