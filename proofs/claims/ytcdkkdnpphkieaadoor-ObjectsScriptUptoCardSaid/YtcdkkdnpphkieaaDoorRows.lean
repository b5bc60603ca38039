/-
  NARROWER THAN 'FOR EVERY INPUT', by the rows' own cells (each row's printed sentence says how): ObjectsForged: laid · ObjectsNarrow: laid · ObjectsRevoke: laid · ObjectsGone: laid · ObjectsScript: laid · SkeletonServes: laid · SkeletonRights: laid · SkeletonNone: laid · SkeletonAge: laid.
  DERIVED. THE GIVEN ROWS OF THIS SEAT. 9 by the template 'for every input the law returns true; each argument reads behind the call as it read before'; 0 by the template 'total and deterministic' (their statements: YtcdkkdnpphkieaaDoorTotals.lean).
  GIVEN WITH THE SEED: the statements are not yours to turn. If you find one false, say at which input.
  Laid BY PROGRAM, IN A SANDBOX (cutbox-rows.mjs): the forced cells as the released guide's own fill.sh prints them over the translation 5d28d43623e4b978… (all of the seat's roots in one cut). By AI agents, Wed Nov 11 2026. No macro, syntax, notation, axiom, sorry.
-/
import Derived.Test.YtcdkkdnpphkieaaDoorChecked
import GoSem.Claim
import GoSem.ClaimJoined
import GoSem.ClaimMapViews
import Derived.JoinedTies
import Derived.KernelRfl
namespace Go.Proofs.YtcdkkdnpphkieaaDoor
/- THE CELL 'sum', in the pinned program and in every row, IS THE sha256 OF THE DUMP (.gsa) THAT YtcdkkdnpphkieaaDoorProg.lean LOADS. Nothing in Lean hashes anything: it is a label: what it is worth is what the hold of that sum in a sandbox is worth. -/
noncomputable def Tryd.pinned : Pinned := { name := "ytcdkkdnpphkieaadoor", sum := "5d28d43623e4b97835e054ff2d3a2f4322aac2fd080450387a6c7d6a677aa51b", checked := Tryd.checked }
namespace Rows
def none {H : Type} : Left H := { results := [], args := [] }

/- WHAT THE LISTED PACKAGE-LEVEL VARIABLES READ AS WHEN THE CALL BEGINS. Each datum BY PROGRAM (the guide's laid-datum.mjs) off the statement by which the dump's own 'gosem.cut.vars' lays the variable. In a bare row this is a premise. The card (YtcdkkdnpphkieaaDoorCards.lean) ties it to the program's text. -/
def laid_errors_errorType {H : Type} : DataW H := .iface "internal/reflectlite.rtype" (.agg [.ptr (.lit (.string [101, 114, 114, 111, 114]))])

/-- 'sigillumlaw23.ObjectsForged': WHATEVER THE INPUT: true; the input reads as it did. -/
def objectsForgedSpec : ChangeSpec := { name := "objectsForged", fn := fun _ => fun
  | [d1, d2, d3, d4] => { results := [.lit (.bool true)], args := [d1, d2, d3, d4] }
  | _ => none }
def objectsForgedRow : OpenClaim := { program := "ytcdkkdnpphkieaadoor", sum := "5d28d43623e4b97835e054ff2d3a2f4322aac2fd080450387a6c7d6a677aa51b", func := "sigillum/sigillumlaw23.ObjectsForged", spec := "objectsForged", inPlace := ["internal/reflectlite.ValueOf", "(internal/reflectlite.Value).Type", "(internal/reflectlite.Value).IsNil", "internal/reflectlite.TypeOf", "(internal/reflectlite.Value).Elem", "(internal/reflectlite.Value).Set"], unfollowed := true, recurses := true, named := ["errors.errorType"], apart := false, laid := [("errors.errorType", laid_errors_errorType)] }
def ObjectsForgedSaid : Prop := objectsForgedRow.holds Tryd.pinned (OpenSpec.ofChange objectsForgedSpec)

/-- ITS FALSE NEIGHBOUR: 'it returns false'. Refute it at one input. -/
def objectsForgedWrong : ChangeSpec := { name := "objectsForged", fn := fun _ => fun
  | [d1, d2, d3, d4] => { results := [.lit (.bool false)], args := [d1, d2, d3, d4] }
  | _ => none }
def ObjectsForgedWrongFalsely : Prop := objectsForgedRow.holds Tryd.pinned (OpenSpec.ofChange objectsForgedWrong)

/-- 'sigillumlaw23.ObjectsNarrow': WHATEVER THE INPUT: true; the input reads as it did. -/
def objectsNarrowSpec : ChangeSpec := { name := "objectsNarrow", fn := fun _ => fun
  | [d1, d2, d3] => { results := [.lit (.bool true)], args := [d1, d2, d3] }
  | _ => none }
def objectsNarrowRow : OpenClaim := { program := "ytcdkkdnpphkieaadoor", sum := "5d28d43623e4b97835e054ff2d3a2f4322aac2fd080450387a6c7d6a677aa51b", func := "sigillum/sigillumlaw23.ObjectsNarrow", spec := "objectsNarrow", inPlace := ["internal/reflectlite.ValueOf", "(internal/reflectlite.Value).Type", "(internal/reflectlite.Value).IsNil", "internal/reflectlite.TypeOf", "(internal/reflectlite.Value).Elem", "(internal/reflectlite.Value).Set"], unfollowed := true, recurses := true, named := ["errors.errorType"], apart := false, laid := [("errors.errorType", laid_errors_errorType)] }
def ObjectsNarrowSaid : Prop := objectsNarrowRow.holds Tryd.pinned (OpenSpec.ofChange objectsNarrowSpec)

/-- ITS FALSE NEIGHBOUR: 'it returns false'. Refute it at one input. -/
def objectsNarrowWrong : ChangeSpec := { name := "objectsNarrow", fn := fun _ => fun
  | [d1, d2, d3] => { results := [.lit (.bool false)], args := [d1, d2, d3] }
  | _ => none }
def ObjectsNarrowWrongFalsely : Prop := objectsNarrowRow.holds Tryd.pinned (OpenSpec.ofChange objectsNarrowWrong)

/-- 'sigillumlaw23.ObjectsRevoke': WHATEVER THE INPUT: true; the input reads as it did. -/
def objectsRevokeSpec : ChangeSpec := { name := "objectsRevoke", fn := fun _ => fun
  | [d1, d2] => { results := [.lit (.bool true)], args := [d1, d2] }
  | _ => none }
def objectsRevokeRow : OpenClaim := { program := "ytcdkkdnpphkieaadoor", sum := "5d28d43623e4b97835e054ff2d3a2f4322aac2fd080450387a6c7d6a677aa51b", func := "sigillum/sigillumlaw23.ObjectsRevoke", spec := "objectsRevoke", inPlace := ["internal/reflectlite.ValueOf", "(internal/reflectlite.Value).Type", "(internal/reflectlite.Value).IsNil", "internal/reflectlite.TypeOf", "(internal/reflectlite.Value).Elem", "(internal/reflectlite.Value).Set"], unfollowed := true, recurses := true, named := ["errors.errorType"], apart := false, laid := [("errors.errorType", laid_errors_errorType)] }
def ObjectsRevokeSaid : Prop := objectsRevokeRow.holds Tryd.pinned (OpenSpec.ofChange objectsRevokeSpec)

/-- ITS FALSE NEIGHBOUR: 'it returns false'. Refute it at one input. -/
def objectsRevokeWrong : ChangeSpec := { name := "objectsRevoke", fn := fun _ => fun
  | [d1, d2] => { results := [.lit (.bool false)], args := [d1, d2] }
  | _ => none }
def ObjectsRevokeWrongFalsely : Prop := objectsRevokeRow.holds Tryd.pinned (OpenSpec.ofChange objectsRevokeWrong)

/-- 'sigillumlaw23.ObjectsGone': WHATEVER THE INPUT: true; the input reads as it did. -/
def objectsGoneSpec : ChangeSpec := { name := "objectsGone", fn := fun _ => fun
  | [d1, d2] => { results := [.lit (.bool true)], args := [d1, d2] }
  | _ => none }
def objectsGoneRow : OpenClaim := { program := "ytcdkkdnpphkieaadoor", sum := "5d28d43623e4b97835e054ff2d3a2f4322aac2fd080450387a6c7d6a677aa51b", func := "sigillum/sigillumlaw23.ObjectsGone", spec := "objectsGone", inPlace := ["internal/reflectlite.ValueOf", "(internal/reflectlite.Value).Type", "(internal/reflectlite.Value).IsNil", "internal/reflectlite.TypeOf", "(internal/reflectlite.Value).Elem", "(internal/reflectlite.Value).Set"], unfollowed := true, recurses := true, named := ["errors.errorType"], apart := false, laid := [("errors.errorType", laid_errors_errorType)] }
def ObjectsGoneSaid : Prop := objectsGoneRow.holds Tryd.pinned (OpenSpec.ofChange objectsGoneSpec)

/-- ITS FALSE NEIGHBOUR: 'it returns false'. Refute it at one input. -/
def objectsGoneWrong : ChangeSpec := { name := "objectsGone", fn := fun _ => fun
  | [d1, d2] => { results := [.lit (.bool false)], args := [d1, d2] }
  | _ => none }
def ObjectsGoneWrongFalsely : Prop := objectsGoneRow.holds Tryd.pinned (OpenSpec.ofChange objectsGoneWrong)

/-- 'sigillumlaw23.ObjectsScript': WHATEVER THE INPUT: true; the input reads as it did. -/
def objectsScriptSpec : ChangeSpec := { name := "objectsScript", fn := fun _ => fun
  | [d1, d2, d3] => { results := [.lit (.bool true)], args := [d1, d2, d3] }
  | _ => none }
def objectsScriptRow : OpenClaim := { program := "ytcdkkdnpphkieaadoor", sum := "5d28d43623e4b97835e054ff2d3a2f4322aac2fd080450387a6c7d6a677aa51b", func := "sigillum/sigillumlaw23.ObjectsScript", spec := "objectsScript", inPlace := ["internal/reflectlite.ValueOf", "(internal/reflectlite.Value).Type", "(internal/reflectlite.Value).IsNil", "internal/reflectlite.TypeOf", "(internal/reflectlite.Value).Elem", "(internal/reflectlite.Value).Set"], unfollowed := true, recurses := true, named := ["errors.errorType"], apart := false, laid := [("errors.errorType", laid_errors_errorType)] }
def ObjectsScriptSaid : Prop := objectsScriptRow.holds Tryd.pinned (OpenSpec.ofChange objectsScriptSpec)

/-- ITS FALSE NEIGHBOUR: 'it returns false'. Refute it at one input. -/
def objectsScriptWrong : ChangeSpec := { name := "objectsScript", fn := fun _ => fun
  | [d1, d2, d3] => { results := [.lit (.bool false)], args := [d1, d2, d3] }
  | _ => none }
def ObjectsScriptWrongFalsely : Prop := objectsScriptRow.holds Tryd.pinned (OpenSpec.ofChange objectsScriptWrong)

/-- 'sigillumlaw24.SkeletonServes': WHATEVER THE INPUT: true; the input reads as it did. -/
def skeletonServesSpec : ChangeSpec := { name := "skeletonServes", fn := fun _ => fun
  | [d1, d2] => { results := [.lit (.bool true)], args := [d1, d2] }
  | _ => none }
def skeletonServesRow : OpenClaim := { program := "ytcdkkdnpphkieaadoor", sum := "5d28d43623e4b97835e054ff2d3a2f4322aac2fd080450387a6c7d6a677aa51b", func := "sigillum/sigillumlaw24.SkeletonServes", spec := "skeletonServes", inPlace := ["internal/reflectlite.ValueOf", "(internal/reflectlite.Value).Type", "(internal/reflectlite.Value).IsNil", "internal/reflectlite.TypeOf", "(internal/reflectlite.Value).Elem", "(internal/reflectlite.Value).Set"], unfollowed := true, recurses := true, named := ["errors.errorType"], apart := false, laid := [("errors.errorType", laid_errors_errorType)] }
def SkeletonServesSaid : Prop := skeletonServesRow.holds Tryd.pinned (OpenSpec.ofChange skeletonServesSpec)

/-- ITS FALSE NEIGHBOUR: 'it returns false'. Refute it at one input. -/
def skeletonServesWrong : ChangeSpec := { name := "skeletonServes", fn := fun _ => fun
  | [d1, d2] => { results := [.lit (.bool false)], args := [d1, d2] }
  | _ => none }
def SkeletonServesWrongFalsely : Prop := skeletonServesRow.holds Tryd.pinned (OpenSpec.ofChange skeletonServesWrong)

/-- 'sigillumlaw24.SkeletonRights': WHATEVER THE INPUT: true; the input reads as it did. -/
def skeletonRightsSpec : ChangeSpec := { name := "skeletonRights", fn := fun _ => fun
  | [d1, d2] => { results := [.lit (.bool true)], args := [d1, d2] }
  | _ => none }
def skeletonRightsRow : OpenClaim := { program := "ytcdkkdnpphkieaadoor", sum := "5d28d43623e4b97835e054ff2d3a2f4322aac2fd080450387a6c7d6a677aa51b", func := "sigillum/sigillumlaw24.SkeletonRights", spec := "skeletonRights", inPlace := ["internal/reflectlite.ValueOf", "(internal/reflectlite.Value).Type", "(internal/reflectlite.Value).IsNil", "internal/reflectlite.TypeOf", "(internal/reflectlite.Value).Elem", "(internal/reflectlite.Value).Set"], unfollowed := true, recurses := true, named := ["errors.errorType"], apart := false, laid := [("errors.errorType", laid_errors_errorType)] }
def SkeletonRightsSaid : Prop := skeletonRightsRow.holds Tryd.pinned (OpenSpec.ofChange skeletonRightsSpec)

/-- ITS FALSE NEIGHBOUR: 'it returns false'. Refute it at one input. -/
def skeletonRightsWrong : ChangeSpec := { name := "skeletonRights", fn := fun _ => fun
  | [d1, d2] => { results := [.lit (.bool false)], args := [d1, d2] }
  | _ => none }
def SkeletonRightsWrongFalsely : Prop := skeletonRightsRow.holds Tryd.pinned (OpenSpec.ofChange skeletonRightsWrong)

/-- 'sigillumlaw24.SkeletonNone': WHATEVER THE INPUT: true; the input reads as it did. -/
def skeletonNoneSpec : ChangeSpec := { name := "skeletonNone", fn := fun _ => fun
  | [d] => { results := [.lit (.bool true)], args := [d] }
  | _ => none }
def skeletonNoneRow : OpenClaim := { program := "ytcdkkdnpphkieaadoor", sum := "5d28d43623e4b97835e054ff2d3a2f4322aac2fd080450387a6c7d6a677aa51b", func := "sigillum/sigillumlaw24.SkeletonNone", spec := "skeletonNone", inPlace := ["internal/reflectlite.ValueOf", "(internal/reflectlite.Value).Type", "(internal/reflectlite.Value).IsNil", "internal/reflectlite.TypeOf", "(internal/reflectlite.Value).Elem", "(internal/reflectlite.Value).Set"], unfollowed := true, recurses := true, named := ["errors.errorType"], apart := false, laid := [("errors.errorType", laid_errors_errorType)] }
def SkeletonNoneSaid : Prop := skeletonNoneRow.holds Tryd.pinned (OpenSpec.ofChange skeletonNoneSpec)

/-- ITS FALSE NEIGHBOUR: 'it returns false'. Refute it at one input. -/
def skeletonNoneWrong : ChangeSpec := { name := "skeletonNone", fn := fun _ => fun
  | [d] => { results := [.lit (.bool false)], args := [d] }
  | _ => none }
def SkeletonNoneWrongFalsely : Prop := skeletonNoneRow.holds Tryd.pinned (OpenSpec.ofChange skeletonNoneWrong)

/-- 'sigillumlaw24.SkeletonAge': WHATEVER THE INPUT: true; the input reads as it did. -/
def skeletonAgeSpec : ChangeSpec := { name := "skeletonAge", fn := fun _ => fun
  | [d1, d2] => { results := [.lit (.bool true)], args := [d1, d2] }
  | _ => none }
def skeletonAgeRow : OpenClaim := { program := "ytcdkkdnpphkieaadoor", sum := "5d28d43623e4b97835e054ff2d3a2f4322aac2fd080450387a6c7d6a677aa51b", func := "sigillum/sigillumlaw24.SkeletonAge", spec := "skeletonAge", inPlace := ["internal/reflectlite.ValueOf", "(internal/reflectlite.Value).Type", "(internal/reflectlite.Value).IsNil", "internal/reflectlite.TypeOf", "(internal/reflectlite.Value).Elem", "(internal/reflectlite.Value).Set"], unfollowed := true, recurses := true, named := ["errors.errorType"], apart := false, laid := [("errors.errorType", laid_errors_errorType)] }
def SkeletonAgeSaid : Prop := skeletonAgeRow.holds Tryd.pinned (OpenSpec.ofChange skeletonAgeSpec)

/-- ITS FALSE NEIGHBOUR: 'it returns false'. Refute it at one input. -/
def skeletonAgeWrong : ChangeSpec := { name := "skeletonAge", fn := fun _ => fun
  | [d1, d2] => { results := [.lit (.bool false)], args := [d1, d2] }
  | _ => none }
def SkeletonAgeWrongFalsely : Prop := skeletonAgeRow.holds Tryd.pinned (OpenSpec.ofChange skeletonAgeWrong)

/- THE SECOND FORM. 'bulk': how many values and letters a reading holds, each counted each time it is reached (what is shared counts as often as it is met; a slice's spare places count too). A statement '..UptoSaid' is the law's where the arguments, and the package variables that the reading takes, are together of bulk at most 1048576: NARROWER than '..Said'. Prove '..Said' where nothing that the law and all that it calls make is longer than what came in: it says more and counts as full. Else prove '..UptoSaid'. A law counts once. -/
mutual
def uptoBulk {H : Type} : DataW H → Nat
  | .lit (.string bytes) => bytes.length + 1
  | .lit _ => 1
  | .nil => 1
  | .ptr d => uptoBulk d + 1
  | .slice elems spare => uptoBulkAll elems + uptoBulkAll spare + 1
  | .agg parts => uptoBulkAll parts + 1
  | .iface _ d => uptoBulk d + 1
  | .map entries => uptoBulkEntries entries + 1
  | .held _ => 1
def uptoBulkAll {H : Type} : List (DataW H) → Nat
  | [] => 0
  | d :: r => uptoBulk d + uptoBulkAll r
def uptoBulkEntries {H : Type} : List (Lit × DataW H) → Nat
  | [] => 0
  | x :: r => uptoBulkEntry x + uptoBulkEntries r
def uptoBulkEntry {H : Type} : Lit × DataW H → Nat
  | (.string bytes, d) => bytes.length + uptoBulk d + 1
  | (_, d) => uptoBulk d + 1
 end
def uptoSmall : (H : Type) → List (DataW H) → Bool := fun _ ds => decide (uptoBulkAll ds ≤ 1048576)
def OpenSpec.upto (s : _root_.Go.ChangeSpec) : _root_.Go.OpenSpec := { _root_.Go.OpenSpec.ofChange s with cond := some uptoSmall }

/-- 'sigillumlaw23.ObjectsForged', WHERE WHAT IT READS IS OF BULK AT MOST 1048576: true; the input reads as it did. -/
def objectsForgedUptoRow : OpenClaim := { program := "ytcdkkdnpphkieaadoor", sum := "5d28d43623e4b97835e054ff2d3a2f4322aac2fd080450387a6c7d6a677aa51b", func := "sigillum/sigillumlaw23.ObjectsForged", spec := "objectsForged", inPlace := ["internal/reflectlite.ValueOf", "(internal/reflectlite.Value).Type", "(internal/reflectlite.Value).IsNil", "internal/reflectlite.TypeOf", "(internal/reflectlite.Value).Elem", "(internal/reflectlite.Value).Set"], unfollowed := true, recurses := true, named := ["errors.errorType"], apart := false, laid := [("errors.errorType", laid_errors_errorType)], narrowed := true }
def ObjectsForgedUptoSaid : Prop := objectsForgedUptoRow.holds Tryd.pinned (OpenSpec.upto objectsForgedSpec)

/-- 'sigillumlaw23.ObjectsNarrow', WHERE WHAT IT READS IS OF BULK AT MOST 1048576: true; the input reads as it did. -/
def objectsNarrowUptoRow : OpenClaim := { program := "ytcdkkdnpphkieaadoor", sum := "5d28d43623e4b97835e054ff2d3a2f4322aac2fd080450387a6c7d6a677aa51b", func := "sigillum/sigillumlaw23.ObjectsNarrow", spec := "objectsNarrow", inPlace := ["internal/reflectlite.ValueOf", "(internal/reflectlite.Value).Type", "(internal/reflectlite.Value).IsNil", "internal/reflectlite.TypeOf", "(internal/reflectlite.Value).Elem", "(internal/reflectlite.Value).Set"], unfollowed := true, recurses := true, named := ["errors.errorType"], apart := false, laid := [("errors.errorType", laid_errors_errorType)], narrowed := true }
def ObjectsNarrowUptoSaid : Prop := objectsNarrowUptoRow.holds Tryd.pinned (OpenSpec.upto objectsNarrowSpec)

/-- 'sigillumlaw23.ObjectsRevoke', WHERE WHAT IT READS IS OF BULK AT MOST 1048576: true; the input reads as it did. -/
def objectsRevokeUptoRow : OpenClaim := { program := "ytcdkkdnpphkieaadoor", sum := "5d28d43623e4b97835e054ff2d3a2f4322aac2fd080450387a6c7d6a677aa51b", func := "sigillum/sigillumlaw23.ObjectsRevoke", spec := "objectsRevoke", inPlace := ["internal/reflectlite.ValueOf", "(internal/reflectlite.Value).Type", "(internal/reflectlite.Value).IsNil", "internal/reflectlite.TypeOf", "(internal/reflectlite.Value).Elem", "(internal/reflectlite.Value).Set"], unfollowed := true, recurses := true, named := ["errors.errorType"], apart := false, laid := [("errors.errorType", laid_errors_errorType)], narrowed := true }
def ObjectsRevokeUptoSaid : Prop := objectsRevokeUptoRow.holds Tryd.pinned (OpenSpec.upto objectsRevokeSpec)

/-- 'sigillumlaw23.ObjectsGone', WHERE WHAT IT READS IS OF BULK AT MOST 1048576: true; the input reads as it did. -/
def objectsGoneUptoRow : OpenClaim := { program := "ytcdkkdnpphkieaadoor", sum := "5d28d43623e4b97835e054ff2d3a2f4322aac2fd080450387a6c7d6a677aa51b", func := "sigillum/sigillumlaw23.ObjectsGone", spec := "objectsGone", inPlace := ["internal/reflectlite.ValueOf", "(internal/reflectlite.Value).Type", "(internal/reflectlite.Value).IsNil", "internal/reflectlite.TypeOf", "(internal/reflectlite.Value).Elem", "(internal/reflectlite.Value).Set"], unfollowed := true, recurses := true, named := ["errors.errorType"], apart := false, laid := [("errors.errorType", laid_errors_errorType)], narrowed := true }
def ObjectsGoneUptoSaid : Prop := objectsGoneUptoRow.holds Tryd.pinned (OpenSpec.upto objectsGoneSpec)

/-- 'sigillumlaw23.ObjectsScript', WHERE WHAT IT READS IS OF BULK AT MOST 1048576: true; the input reads as it did. -/
def objectsScriptUptoRow : OpenClaim := { program := "ytcdkkdnpphkieaadoor", sum := "5d28d43623e4b97835e054ff2d3a2f4322aac2fd080450387a6c7d6a677aa51b", func := "sigillum/sigillumlaw23.ObjectsScript", spec := "objectsScript", inPlace := ["internal/reflectlite.ValueOf", "(internal/reflectlite.Value).Type", "(internal/reflectlite.Value).IsNil", "internal/reflectlite.TypeOf", "(internal/reflectlite.Value).Elem", "(internal/reflectlite.Value).Set"], unfollowed := true, recurses := true, named := ["errors.errorType"], apart := false, laid := [("errors.errorType", laid_errors_errorType)], narrowed := true }
def ObjectsScriptUptoSaid : Prop := objectsScriptUptoRow.holds Tryd.pinned (OpenSpec.upto objectsScriptSpec)

/-- 'sigillumlaw24.SkeletonServes', WHERE WHAT IT READS IS OF BULK AT MOST 1048576: true; the input reads as it did. -/
def skeletonServesUptoRow : OpenClaim := { program := "ytcdkkdnpphkieaadoor", sum := "5d28d43623e4b97835e054ff2d3a2f4322aac2fd080450387a6c7d6a677aa51b", func := "sigillum/sigillumlaw24.SkeletonServes", spec := "skeletonServes", inPlace := ["internal/reflectlite.ValueOf", "(internal/reflectlite.Value).Type", "(internal/reflectlite.Value).IsNil", "internal/reflectlite.TypeOf", "(internal/reflectlite.Value).Elem", "(internal/reflectlite.Value).Set"], unfollowed := true, recurses := true, named := ["errors.errorType"], apart := false, laid := [("errors.errorType", laid_errors_errorType)], narrowed := true }
def SkeletonServesUptoSaid : Prop := skeletonServesUptoRow.holds Tryd.pinned (OpenSpec.upto skeletonServesSpec)

/-- 'sigillumlaw24.SkeletonRights', WHERE WHAT IT READS IS OF BULK AT MOST 1048576: true; the input reads as it did. -/
def skeletonRightsUptoRow : OpenClaim := { program := "ytcdkkdnpphkieaadoor", sum := "5d28d43623e4b97835e054ff2d3a2f4322aac2fd080450387a6c7d6a677aa51b", func := "sigillum/sigillumlaw24.SkeletonRights", spec := "skeletonRights", inPlace := ["internal/reflectlite.ValueOf", "(internal/reflectlite.Value).Type", "(internal/reflectlite.Value).IsNil", "internal/reflectlite.TypeOf", "(internal/reflectlite.Value).Elem", "(internal/reflectlite.Value).Set"], unfollowed := true, recurses := true, named := ["errors.errorType"], apart := false, laid := [("errors.errorType", laid_errors_errorType)], narrowed := true }
def SkeletonRightsUptoSaid : Prop := skeletonRightsUptoRow.holds Tryd.pinned (OpenSpec.upto skeletonRightsSpec)

/-- 'sigillumlaw24.SkeletonNone', WHERE WHAT IT READS IS OF BULK AT MOST 1048576: true; the input reads as it did. -/
def skeletonNoneUptoRow : OpenClaim := { program := "ytcdkkdnpphkieaadoor", sum := "5d28d43623e4b97835e054ff2d3a2f4322aac2fd080450387a6c7d6a677aa51b", func := "sigillum/sigillumlaw24.SkeletonNone", spec := "skeletonNone", inPlace := ["internal/reflectlite.ValueOf", "(internal/reflectlite.Value).Type", "(internal/reflectlite.Value).IsNil", "internal/reflectlite.TypeOf", "(internal/reflectlite.Value).Elem", "(internal/reflectlite.Value).Set"], unfollowed := true, recurses := true, named := ["errors.errorType"], apart := false, laid := [("errors.errorType", laid_errors_errorType)], narrowed := true }
def SkeletonNoneUptoSaid : Prop := skeletonNoneUptoRow.holds Tryd.pinned (OpenSpec.upto skeletonNoneSpec)

/-- 'sigillumlaw24.SkeletonAge', WHERE WHAT IT READS IS OF BULK AT MOST 1048576: true; the input reads as it did. -/
def skeletonAgeUptoRow : OpenClaim := { program := "ytcdkkdnpphkieaadoor", sum := "5d28d43623e4b97835e054ff2d3a2f4322aac2fd080450387a6c7d6a677aa51b", func := "sigillum/sigillumlaw24.SkeletonAge", spec := "skeletonAge", inPlace := ["internal/reflectlite.ValueOf", "(internal/reflectlite.Value).Type", "(internal/reflectlite.Value).IsNil", "internal/reflectlite.TypeOf", "(internal/reflectlite.Value).Elem", "(internal/reflectlite.Value).Set"], unfollowed := true, recurses := true, named := ["errors.errorType"], apart := false, laid := [("errors.errorType", laid_errors_errorType)], narrowed := true }
def SkeletonAgeUptoSaid : Prop := skeletonAgeUptoRow.holds Tryd.pinned (OpenSpec.upto skeletonAgeSpec)

end Rows
end Go.Proofs.YtcdkkdnpphkieaaDoor
