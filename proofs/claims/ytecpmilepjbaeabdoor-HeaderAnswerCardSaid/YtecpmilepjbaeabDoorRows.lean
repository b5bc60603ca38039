/-
  NARROWER THAN 'FOR EVERY INPUT', by the rows' own cells (each row's printed sentence says how): HeaderAnswer: laid · TokenDraws: laid · TokenOf: laid · TokenGood: laid.
  DERIVED. THE GIVEN ROWS OF THIS SEAT. 4 by the template 'for every input the law returns true; each argument reads behind the call as it read before'; 0 by the template 'total and deterministic' (their statements: YtecpmilepjbaeabDoorTotals.lean).
  GIVEN WITH THE SEED: the statements are not yours to turn. If you find one false, say at which input.
  Laid BY PROGRAM, IN A SANDBOX (cutbox-rows.mjs): the forced cells as the released guide's own fill.sh prints them over the translation 826a637a5989bfd4… (all of the seat's roots in one cut). By AI agents, Wed Nov 11 2026. No macro, syntax, notation, axiom, sorry.
-/
import Derived.Test.YtecpmilepjbaeabDoorChecked
import GoSem.Claim
import GoSem.ClaimJoined
import GoSem.ClaimMapViews
import Derived.JoinedTies
import Derived.KernelRfl
namespace Go.Proofs.YtecpmilepjbaeabDoor
/- THE CELL 'sum', in the pinned program and in every row, IS THE sha256 OF THE DUMP (.gsa) THAT YtecpmilepjbaeabDoorProg.lean LOADS. Nothing in Lean hashes anything: it is a label: what it is worth is what the hold of that sum in a sandbox is worth. -/
noncomputable def Tryd.pinned : Pinned := { name := "ytecpmilepjbaeabdoor", sum := "826a637a5989bfd4935858cd89d6d7865ba957d8541daa79260ca535f132245d", checked := Tryd.checked }
namespace Rows
def none {H : Type} : Left H := { results := [], args := [] }

/- WHAT THE LISTED PACKAGE-LEVEL VARIABLES READ AS WHEN THE CALL BEGINS. Each datum BY PROGRAM (the guide's laid-datum.mjs) off the statement by which the dump's own 'gosem.cut.vars' lays the variable. In a bare row this is a premise. The card (YtecpmilepjbaeabDoorCards.lean) ties it to the program's text. -/
def laid_errors_errorType {H : Type} : DataW H := .iface "internal/reflectlite.rtype" (.agg [.ptr (.lit (.string [101, 114, 114, 111, 114]))])

/-- 'sigillumlaw04.HeaderAnswer': WHATEVER THE INPUT: true; the input reads as it did. -/
def headerAnswerSpec : ChangeSpec := { name := "headerAnswer", fn := fun _ => fun
  | [d1, d2, d3, d4, d5, d6] => { results := [.lit (.bool true)], args := [d1, d2, d3, d4, d5, d6] }
  | _ => none }
def headerAnswerRow : OpenClaim := { program := "ytecpmilepjbaeabdoor", sum := "826a637a5989bfd4935858cd89d6d7865ba957d8541daa79260ca535f132245d", func := "sigillum/sigillumlaw04.HeaderAnswer", spec := "headerAnswer", inPlace := ["internal/reflectlite.TypeOf", "internal/reflectlite.ValueOf", "(internal/reflectlite.Value).Type", "(internal/reflectlite.Value).IsNil", "(internal/reflectlite.Value).Elem", "(internal/reflectlite.Value).Set"], unfollowed := true, recurses := true, named := ["errors.errorType"], apart := false, laid := [("errors.errorType", laid_errors_errorType)] }
def HeaderAnswerSaid : Prop := headerAnswerRow.holds Tryd.pinned (OpenSpec.ofChange headerAnswerSpec)

/-- ITS FALSE NEIGHBOUR: 'it returns false'. Refute it at one input. -/
def headerAnswerWrong : ChangeSpec := { name := "headerAnswer", fn := fun _ => fun
  | [d1, d2, d3, d4, d5, d6] => { results := [.lit (.bool false)], args := [d1, d2, d3, d4, d5, d6] }
  | _ => none }
def HeaderAnswerWrongFalsely : Prop := headerAnswerRow.holds Tryd.pinned (OpenSpec.ofChange headerAnswerWrong)

/-- 'sigillumlaw07.TokenDraws': WHATEVER THE INPUT: true; the input reads as it did. -/
def tokenDrawsSpec : ChangeSpec := { name := "tokenDraws", fn := fun _ => fun
  | [d1, d2, d3] => { results := [.lit (.bool true)], args := [d1, d2, d3] }
  | _ => none }
def tokenDrawsRow : OpenClaim := { program := "ytecpmilepjbaeabdoor", sum := "826a637a5989bfd4935858cd89d6d7865ba957d8541daa79260ca535f132245d", func := "sigillum/sigillumlaw07.TokenDraws", spec := "tokenDraws", inPlace := ["internal/reflectlite.TypeOf", "internal/reflectlite.ValueOf", "(internal/reflectlite.Value).Type", "(internal/reflectlite.Value).IsNil", "(internal/reflectlite.Value).Elem", "(internal/reflectlite.Value).Set"], unfollowed := true, recurses := true, named := ["errors.errorType"], apart := false, laid := [("errors.errorType", laid_errors_errorType)] }
def TokenDrawsSaid : Prop := tokenDrawsRow.holds Tryd.pinned (OpenSpec.ofChange tokenDrawsSpec)

/-- ITS FALSE NEIGHBOUR: 'it returns false'. Refute it at one input. -/
def tokenDrawsWrong : ChangeSpec := { name := "tokenDraws", fn := fun _ => fun
  | [d1, d2, d3] => { results := [.lit (.bool false)], args := [d1, d2, d3] }
  | _ => none }
def TokenDrawsWrongFalsely : Prop := tokenDrawsRow.holds Tryd.pinned (OpenSpec.ofChange tokenDrawsWrong)

/-- 'sigillumlaw07.TokenOf': WHATEVER THE INPUT: true; the input reads as it did. -/
def tokenOfSpec : ChangeSpec := { name := "tokenOf", fn := fun _ => fun
  | [d1, d2, d3, d4] => { results := [.lit (.bool true)], args := [d1, d2, d3, d4] }
  | _ => none }
def tokenOfRow : OpenClaim := { program := "ytecpmilepjbaeabdoor", sum := "826a637a5989bfd4935858cd89d6d7865ba957d8541daa79260ca535f132245d", func := "sigillum/sigillumlaw07.TokenOf", spec := "tokenOf", inPlace := ["internal/reflectlite.TypeOf", "internal/reflectlite.ValueOf", "(internal/reflectlite.Value).Type", "(internal/reflectlite.Value).IsNil", "(internal/reflectlite.Value).Elem", "(internal/reflectlite.Value).Set"], unfollowed := true, recurses := true, named := ["errors.errorType"], apart := false, laid := [("errors.errorType", laid_errors_errorType)] }
def TokenOfSaid : Prop := tokenOfRow.holds Tryd.pinned (OpenSpec.ofChange tokenOfSpec)

/-- ITS FALSE NEIGHBOUR: 'it returns false'. Refute it at one input. -/
def tokenOfWrong : ChangeSpec := { name := "tokenOf", fn := fun _ => fun
  | [d1, d2, d3, d4] => { results := [.lit (.bool false)], args := [d1, d2, d3, d4] }
  | _ => none }
def TokenOfWrongFalsely : Prop := tokenOfRow.holds Tryd.pinned (OpenSpec.ofChange tokenOfWrong)

/-- 'sigillumlaw07.TokenGood': WHATEVER THE INPUT: true; the input reads as it did. -/
def tokenGoodSpec : ChangeSpec := { name := "tokenGood", fn := fun _ => fun
  | [d1, d2, d3, d4] => { results := [.lit (.bool true)], args := [d1, d2, d3, d4] }
  | _ => none }
def tokenGoodRow : OpenClaim := { program := "ytecpmilepjbaeabdoor", sum := "826a637a5989bfd4935858cd89d6d7865ba957d8541daa79260ca535f132245d", func := "sigillum/sigillumlaw07.TokenGood", spec := "tokenGood", inPlace := ["internal/reflectlite.TypeOf", "internal/reflectlite.ValueOf", "(internal/reflectlite.Value).Type", "(internal/reflectlite.Value).IsNil", "(internal/reflectlite.Value).Elem", "(internal/reflectlite.Value).Set"], unfollowed := true, recurses := true, named := ["errors.errorType"], apart := false, laid := [("errors.errorType", laid_errors_errorType)] }
def TokenGoodSaid : Prop := tokenGoodRow.holds Tryd.pinned (OpenSpec.ofChange tokenGoodSpec)

/-- ITS FALSE NEIGHBOUR: 'it returns false'. Refute it at one input. -/
def tokenGoodWrong : ChangeSpec := { name := "tokenGood", fn := fun _ => fun
  | [d1, d2, d3, d4] => { results := [.lit (.bool false)], args := [d1, d2, d3, d4] }
  | _ => none }
def TokenGoodWrongFalsely : Prop := tokenGoodRow.holds Tryd.pinned (OpenSpec.ofChange tokenGoodWrong)

/- THE SECOND FORM. 'bulk': how many values and letters a reading holds, each counted each time it is reached (what is shared counts as often as it is met; a slice's spare places count too). A statement '..UptoSaid' is the law's where the arguments, and the package variables that the reading takes, are together of bulk at most 1048576: NARROWER than '..Said'. Prove '..Said' where nothing that the law and all that it calls make is longer than what came in: it says more and counts as full. Else prove '..UptoSaid'. A law counts once. -/
mutual
def uptoBulk {H : Type} : DataW H → Nat
  | .lit (.string bytes) => bytes.length + 1
  | .lit _ => 1
  | .nil => 1
  | .ptr d => uptoBulk d + 1
  | .slice elems spare => uptoBulkAll elems + uptoBulkAll spare + 1
  | .agg parts => uptoBulkAll parts + 1
  | .iface _ d => uptoBulk d + 1
  | .map entries => uptoBulkEntries entries + 1
  | .held _ => 1
def uptoBulkAll {H : Type} : List (DataW H) → Nat
  | [] => 0
  | d :: r => uptoBulk d + uptoBulkAll r
def uptoBulkEntries {H : Type} : List (Lit × DataW H) → Nat
  | [] => 0
  | x :: r => uptoBulkEntry x + uptoBulkEntries r
def uptoBulkEntry {H : Type} : Lit × DataW H → Nat
  | (.string bytes, d) => bytes.length + uptoBulk d + 1
  | (_, d) => uptoBulk d + 1
 end
def uptoSmall : (H : Type) → List (DataW H) → Bool := fun _ ds => decide (uptoBulkAll ds ≤ 1048576)
def OpenSpec.upto (s : _root_.Go.ChangeSpec) : _root_.Go.OpenSpec := { _root_.Go.OpenSpec.ofChange s with cond := some uptoSmall }

/-- 'sigillumlaw04.HeaderAnswer', WHERE WHAT IT READS IS OF BULK AT MOST 1048576: true; the input reads as it did. -/
def headerAnswerUptoRow : OpenClaim := { program := "ytecpmilepjbaeabdoor", sum := "826a637a5989bfd4935858cd89d6d7865ba957d8541daa79260ca535f132245d", func := "sigillum/sigillumlaw04.HeaderAnswer", spec := "headerAnswer", inPlace := ["internal/reflectlite.TypeOf", "internal/reflectlite.ValueOf", "(internal/reflectlite.Value).Type", "(internal/reflectlite.Value).IsNil", "(internal/reflectlite.Value).Elem", "(internal/reflectlite.Value).Set"], unfollowed := true, recurses := true, named := ["errors.errorType"], apart := false, laid := [("errors.errorType", laid_errors_errorType)], narrowed := true }
def HeaderAnswerUptoSaid : Prop := headerAnswerUptoRow.holds Tryd.pinned (OpenSpec.upto headerAnswerSpec)

/-- 'sigillumlaw07.TokenDraws', WHERE WHAT IT READS IS OF BULK AT MOST 1048576: true; the input reads as it did. -/
def tokenDrawsUptoRow : OpenClaim := { program := "ytecpmilepjbaeabdoor", sum := "826a637a5989bfd4935858cd89d6d7865ba957d8541daa79260ca535f132245d", func := "sigillum/sigillumlaw07.TokenDraws", spec := "tokenDraws", inPlace := ["internal/reflectlite.TypeOf", "internal/reflectlite.ValueOf", "(internal/reflectlite.Value).Type", "(internal/reflectlite.Value).IsNil", "(internal/reflectlite.Value).Elem", "(internal/reflectlite.Value).Set"], unfollowed := true, recurses := true, named := ["errors.errorType"], apart := false, laid := [("errors.errorType", laid_errors_errorType)], narrowed := true }
def TokenDrawsUptoSaid : Prop := tokenDrawsUptoRow.holds Tryd.pinned (OpenSpec.upto tokenDrawsSpec)

/-- 'sigillumlaw07.TokenOf', WHERE WHAT IT READS IS OF BULK AT MOST 1048576: true; the input reads as it did. -/
def tokenOfUptoRow : OpenClaim := { program := "ytecpmilepjbaeabdoor", sum := "826a637a5989bfd4935858cd89d6d7865ba957d8541daa79260ca535f132245d", func := "sigillum/sigillumlaw07.TokenOf", spec := "tokenOf", inPlace := ["internal/reflectlite.TypeOf", "internal/reflectlite.ValueOf", "(internal/reflectlite.Value).Type", "(internal/reflectlite.Value).IsNil", "(internal/reflectlite.Value).Elem", "(internal/reflectlite.Value).Set"], unfollowed := true, recurses := true, named := ["errors.errorType"], apart := false, laid := [("errors.errorType", laid_errors_errorType)], narrowed := true }
def TokenOfUptoSaid : Prop := tokenOfUptoRow.holds Tryd.pinned (OpenSpec.upto tokenOfSpec)

/-- 'sigillumlaw07.TokenGood', WHERE WHAT IT READS IS OF BULK AT MOST 1048576: true; the input reads as it did. -/
def tokenGoodUptoRow : OpenClaim := { program := "ytecpmilepjbaeabdoor", sum := "826a637a5989bfd4935858cd89d6d7865ba957d8541daa79260ca535f132245d", func := "sigillum/sigillumlaw07.TokenGood", spec := "tokenGood", inPlace := ["internal/reflectlite.TypeOf", "internal/reflectlite.ValueOf", "(internal/reflectlite.Value).Type", "(internal/reflectlite.Value).IsNil", "(internal/reflectlite.Value).Elem", "(internal/reflectlite.Value).Set"], unfollowed := true, recurses := true, named := ["errors.errorType"], apart := false, laid := [("errors.errorType", laid_errors_errorType)], narrowed := true }
def TokenGoodUptoSaid : Prop := tokenGoodUptoRow.holds Tryd.pinned (OpenSpec.upto tokenGoodSpec)

end Rows
end Go.Proofs.YtecpmilepjbaeabDoor
