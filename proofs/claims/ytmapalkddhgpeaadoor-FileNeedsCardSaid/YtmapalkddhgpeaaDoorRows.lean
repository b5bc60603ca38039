/-
  NARROWER THAN 'FOR EVERY INPUT', by the rows' own cells (each row's printed sentence says how): MemoryNeeds: laid · DirectoryNeeds: laid · FileNeeds: laid.
  DERIVED. THE GIVEN ROWS OF THIS SEAT. 3 by the template 'for every input the law returns true; each argument reads behind the call as it read before'; 0 by the template 'total and deterministic' (their statements: YtmapalkddhgpeaaDoorTotals.lean).
  GIVEN WITH THE SEED: the statements are not yours to turn. If you find one false, say at which input.
  Laid BY PROGRAM, IN A SANDBOX (cutbox-rows.mjs): the forced cells as the released guide's own fill.sh prints them over the translation 7b61183a063009f2… (all of the seat's roots in one cut). By AI agents, Wed Nov 11 2026. No macro, syntax, notation, axiom, sorry.
-/
import Derived.Test.YtmapalkddhgpeaaDoorChecked
import GoSem.Claim
import GoSem.ClaimJoined
import GoSem.ClaimMapViews
import Derived.JoinedTies
import Derived.KernelRfl
namespace Go.Proofs.YtmapalkddhgpeaaDoor
/- THE CELL 'sum', in the pinned program and in every row, IS THE sha256 OF THE DUMP (.gsa) THAT YtmapalkddhgpeaaDoorProg.lean LOADS. Nothing in Lean hashes anything: it is a label: what it is worth is what the hold of that sum in a sandbox is worth. -/
noncomputable def Tryd.pinned : Pinned := { name := "ytmapalkddhgpeaadoor", sum := "7b61183a063009f2521a45138f946e034fda8e4db4f5aa2fb69fe51374e7c578", checked := Tryd.checked }
namespace Rows
def none {H : Type} : Left H := { results := [], args := [] }

/- WHAT THE LISTED PACKAGE-LEVEL VARIABLES READ AS WHEN THE CALL BEGINS. Each datum BY PROGRAM (the guide's laid-datum.mjs) off the statement by which the dump's own 'gosem.cut.vars' lays the variable. In a bare row this is a premise. The card (YtmapalkddhgpeaaDoorCards.lean) ties it to the program's text. -/
def laid_errors_errorType {H : Type} : DataW H := .iface "internal/reflectlite.rtype" (.agg [.ptr (.lit (.string [101, 114, 114, 111, 114]))])

/-- 'sigillumlaw25.MemoryNeeds': WHATEVER THE INPUT: true; the input reads as it did. -/
def memoryNeedsSpec : ChangeSpec := { name := "memoryNeeds", fn := fun _ => fun
  | [d] => { results := [.lit (.bool true)], args := [d] }
  | _ => none }
def memoryNeedsRow : OpenClaim := { program := "ytmapalkddhgpeaadoor", sum := "7b61183a063009f2521a45138f946e034fda8e4db4f5aa2fb69fe51374e7c578", func := "sigillum/sigillumlaw25.MemoryNeeds", spec := "memoryNeeds", inPlace := ["internal/reflectlite.ValueOf", "(internal/reflectlite.Value).Type", "(internal/reflectlite.Value).IsNil", "internal/reflectlite.TypeOf", "(internal/reflectlite.Value).Elem", "(internal/reflectlite.Value).Set"], unfollowed := true, recurses := true, named := ["errors.errorType"], apart := false, laid := [("errors.errorType", laid_errors_errorType)] }
def MemoryNeedsSaid : Prop := memoryNeedsRow.holds Tryd.pinned (OpenSpec.ofChange memoryNeedsSpec)

/-- ITS FALSE NEIGHBOUR: 'it returns false'. Refute it at one input. -/
def memoryNeedsWrong : ChangeSpec := { name := "memoryNeeds", fn := fun _ => fun
  | [d] => { results := [.lit (.bool false)], args := [d] }
  | _ => none }
def MemoryNeedsWrongFalsely : Prop := memoryNeedsRow.holds Tryd.pinned (OpenSpec.ofChange memoryNeedsWrong)

/-- 'sigillumlaw26.DirectoryNeeds': WHATEVER THE INPUT: true; the input reads as it did. -/
def directoryNeedsSpec : ChangeSpec := { name := "directoryNeeds", fn := fun _ => fun
  | [d] => { results := [.lit (.bool true)], args := [d] }
  | _ => none }
def directoryNeedsRow : OpenClaim := { program := "ytmapalkddhgpeaadoor", sum := "7b61183a063009f2521a45138f946e034fda8e4db4f5aa2fb69fe51374e7c578", func := "sigillum/sigillumlaw26.DirectoryNeeds", spec := "directoryNeeds", inPlace := ["internal/reflectlite.ValueOf", "(internal/reflectlite.Value).Type", "(internal/reflectlite.Value).IsNil", "internal/reflectlite.TypeOf", "(internal/reflectlite.Value).Elem", "(internal/reflectlite.Value).Set"], unfollowed := true, recurses := true, named := ["errors.errorType"], apart := false, laid := [("errors.errorType", laid_errors_errorType)] }
def DirectoryNeedsSaid : Prop := directoryNeedsRow.holds Tryd.pinned (OpenSpec.ofChange directoryNeedsSpec)

/-- ITS FALSE NEIGHBOUR: 'it returns false'. Refute it at one input. -/
def directoryNeedsWrong : ChangeSpec := { name := "directoryNeeds", fn := fun _ => fun
  | [d] => { results := [.lit (.bool false)], args := [d] }
  | _ => none }
def DirectoryNeedsWrongFalsely : Prop := directoryNeedsRow.holds Tryd.pinned (OpenSpec.ofChange directoryNeedsWrong)

/-- 'sigillumlaw27.FileNeeds': WHATEVER THE INPUT: true; the input reads as it did. -/
def fileNeedsSpec : ChangeSpec := { name := "fileNeeds", fn := fun _ => fun
  | [d] => { results := [.lit (.bool true)], args := [d] }
  | _ => none }
def fileNeedsRow : OpenClaim := { program := "ytmapalkddhgpeaadoor", sum := "7b61183a063009f2521a45138f946e034fda8e4db4f5aa2fb69fe51374e7c578", func := "sigillum/sigillumlaw27.FileNeeds", spec := "fileNeeds", inPlace := ["internal/reflectlite.ValueOf", "(internal/reflectlite.Value).Type", "(internal/reflectlite.Value).IsNil", "internal/reflectlite.TypeOf", "(internal/reflectlite.Value).Elem", "(internal/reflectlite.Value).Set"], unfollowed := true, recurses := true, named := ["errors.errorType"], apart := false, laid := [("errors.errorType", laid_errors_errorType)] }
def FileNeedsSaid : Prop := fileNeedsRow.holds Tryd.pinned (OpenSpec.ofChange fileNeedsSpec)

/-- ITS FALSE NEIGHBOUR: 'it returns false'. Refute it at one input. -/
def fileNeedsWrong : ChangeSpec := { name := "fileNeeds", fn := fun _ => fun
  | [d] => { results := [.lit (.bool false)], args := [d] }
  | _ => none }
def FileNeedsWrongFalsely : Prop := fileNeedsRow.holds Tryd.pinned (OpenSpec.ofChange fileNeedsWrong)

/- THE SECOND FORM. 'bulk': how many values and letters a reading holds, each counted each time it is reached (what is shared counts as often as it is met; a slice's spare places count too). A statement '..UptoSaid' is the law's where the arguments, and the package variables that the reading takes, are together of bulk at most 1048576: NARROWER than '..Said'. Prove '..Said' where nothing that the law and all that it calls make is longer than what came in: it says more and counts as full. Else prove '..UptoSaid'. A law counts once. -/
mutual
def uptoBulk {H : Type} : DataW H → Nat
  | .lit (.string bytes) => bytes.length + 1
  | .lit _ => 1
  | .nil => 1
  | .ptr d => uptoBulk d + 1
  | .slice elems spare => uptoBulkAll elems + uptoBulkAll spare + 1
  | .agg parts => uptoBulkAll parts + 1
  | .iface _ d => uptoBulk d + 1
  | .map entries => uptoBulkEntries entries + 1
  | .held _ => 1
def uptoBulkAll {H : Type} : List (DataW H) → Nat
  | [] => 0
  | d :: r => uptoBulk d + uptoBulkAll r
def uptoBulkEntries {H : Type} : List (Lit × DataW H) → Nat
  | [] => 0
  | x :: r => uptoBulkEntry x + uptoBulkEntries r
def uptoBulkEntry {H : Type} : Lit × DataW H → Nat
  | (.string bytes, d) => bytes.length + uptoBulk d + 1
  | (_, d) => uptoBulk d + 1
 end
def uptoSmall : (H : Type) → List (DataW H) → Bool := fun _ ds => decide (uptoBulkAll ds ≤ 1048576)
def OpenSpec.upto (s : _root_.Go.ChangeSpec) : _root_.Go.OpenSpec := { _root_.Go.OpenSpec.ofChange s with cond := some uptoSmall }

/-- 'sigillumlaw25.MemoryNeeds', WHERE WHAT IT READS IS OF BULK AT MOST 1048576: true; the input reads as it did. -/
def memoryNeedsUptoRow : OpenClaim := { program := "ytmapalkddhgpeaadoor", sum := "7b61183a063009f2521a45138f946e034fda8e4db4f5aa2fb69fe51374e7c578", func := "sigillum/sigillumlaw25.MemoryNeeds", spec := "memoryNeeds", inPlace := ["internal/reflectlite.ValueOf", "(internal/reflectlite.Value).Type", "(internal/reflectlite.Value).IsNil", "internal/reflectlite.TypeOf", "(internal/reflectlite.Value).Elem", "(internal/reflectlite.Value).Set"], unfollowed := true, recurses := true, named := ["errors.errorType"], apart := false, laid := [("errors.errorType", laid_errors_errorType)], narrowed := true }
def MemoryNeedsUptoSaid : Prop := memoryNeedsUptoRow.holds Tryd.pinned (OpenSpec.upto memoryNeedsSpec)

/-- 'sigillumlaw26.DirectoryNeeds', WHERE WHAT IT READS IS OF BULK AT MOST 1048576: true; the input reads as it did. -/
def directoryNeedsUptoRow : OpenClaim := { program := "ytmapalkddhgpeaadoor", sum := "7b61183a063009f2521a45138f946e034fda8e4db4f5aa2fb69fe51374e7c578", func := "sigillum/sigillumlaw26.DirectoryNeeds", spec := "directoryNeeds", inPlace := ["internal/reflectlite.ValueOf", "(internal/reflectlite.Value).Type", "(internal/reflectlite.Value).IsNil", "internal/reflectlite.TypeOf", "(internal/reflectlite.Value).Elem", "(internal/reflectlite.Value).Set"], unfollowed := true, recurses := true, named := ["errors.errorType"], apart := false, laid := [("errors.errorType", laid_errors_errorType)], narrowed := true }
def DirectoryNeedsUptoSaid : Prop := directoryNeedsUptoRow.holds Tryd.pinned (OpenSpec.upto directoryNeedsSpec)

/-- 'sigillumlaw27.FileNeeds', WHERE WHAT IT READS IS OF BULK AT MOST 1048576: true; the input reads as it did. -/
def fileNeedsUptoRow : OpenClaim := { program := "ytmapalkddhgpeaadoor", sum := "7b61183a063009f2521a45138f946e034fda8e4db4f5aa2fb69fe51374e7c578", func := "sigillum/sigillumlaw27.FileNeeds", spec := "fileNeeds", inPlace := ["internal/reflectlite.ValueOf", "(internal/reflectlite.Value).Type", "(internal/reflectlite.Value).IsNil", "internal/reflectlite.TypeOf", "(internal/reflectlite.Value).Elem", "(internal/reflectlite.Value).Set"], unfollowed := true, recurses := true, named := ["errors.errorType"], apart := false, laid := [("errors.errorType", laid_errors_errorType)], narrowed := true }
def FileNeedsUptoSaid : Prop := fileNeedsUptoRow.holds Tryd.pinned (OpenSpec.upto fileNeedsSpec)

end Rows
end Go.Proofs.YtmapalkddhgpeaaDoor
