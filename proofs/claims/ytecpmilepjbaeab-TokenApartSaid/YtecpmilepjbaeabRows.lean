/-
  No cell of these rows narrows 'for every input' (looked for: loops, veiled, ifaces, maps, wideKeys, modest, calm, conditions, laid).
  DERIVED. THE GIVEN ROWS OF THIS SEAT. 5 by the template 'for every input the law returns true; each argument reads behind the call as it read before'; 0 by the template 'total and deterministic' (their statements: YtecpmilepjbaeabTotals.lean).
  GIVEN WITH THE SEED: the statements are not yours to turn. If you find one false, say at which input.
  Laid BY PROGRAM, IN A SANDBOX (cutbox-rows.mjs): the forced cells as the released guide's own fill.sh prints them over the translation d2e382431b3a9f19… (all of the seat's roots in one cut). By AI agents, Wed Nov 11 2026. No macro, syntax, notation, axiom, sorry.
-/
import Derived.Test.YtecpmilepjbaeabChecked
import GoSem.Claim
import GoSem.ClaimJoined
import GoSem.ClaimMapViews
import Derived.JoinedTies
import Derived.KernelRfl
namespace Go.Proofs.Ytecpmilepjbaeab
/- THE CELL 'sum', in the pinned program and in every row, IS THE sha256 OF THE DUMP (.gsa) THAT YtecpmilepjbaeabProg.lean LOADS. Nothing in Lean hashes anything: it is a label: what it is worth is what the hold of that sum in a sandbox is worth. -/
noncomputable def Try.pinned : Pinned := { name := "ytecpmilepjbaeab", sum := "d2e382431b3a9f19de306217761999e5f210baee1ecd366bc980613b8a6edeb2", checked := Try.checked }
namespace Rows
def none {H : Type} : Left H := { results := [], args := [] }

/-- 'sigillumlaw04.HeaderBack': WHATEVER THE INPUT: true; the input reads as it did. -/
def headerBackSpec : ChangeSpec := { name := "headerBack", fn := fun _ => fun
  | [d1, d2] => { results := [.lit (.bool true)], args := [d1, d2] }
  | _ => none }
def headerBackRow : OpenClaim := { program := "ytecpmilepjbaeab", sum := "d2e382431b3a9f19de306217761999e5f210baee1ecd366bc980613b8a6edeb2", func := "sigillum/sigillumlaw04.HeaderBack", spec := "headerBack", inPlace := ["internal/reflectlite.TypeOf"], unfollowed := true, recurses := true, apart := false }
def HeaderBackSaid : Prop := headerBackRow.holds Try.pinned (OpenSpec.ofChange headerBackSpec)

/-- ITS FALSE NEIGHBOUR: 'it returns false'. Refute it at one input. -/
def headerBackWrong : ChangeSpec := { name := "headerBack", fn := fun _ => fun
  | [d1, d2] => { results := [.lit (.bool false)], args := [d1, d2] }
  | _ => none }
def HeaderBackWrongFalsely : Prop := headerBackRow.holds Try.pinned (OpenSpec.ofChange headerBackWrong)

/-- 'sigillumlaw04.HeaderTwo': WHATEVER THE INPUT: true; the input reads as it did. -/
def headerTwoSpec : ChangeSpec := { name := "headerTwo", fn := fun _ => fun
  | [d1, d2] => { results := [.lit (.bool true)], args := [d1, d2] }
  | _ => none }
def headerTwoRow : OpenClaim := { program := "ytecpmilepjbaeab", sum := "d2e382431b3a9f19de306217761999e5f210baee1ecd366bc980613b8a6edeb2", func := "sigillum/sigillumlaw04.HeaderTwo", spec := "headerTwo", inPlace := ["internal/reflectlite.TypeOf"], unfollowed := true, recurses := true, apart := false }
def HeaderTwoSaid : Prop := headerTwoRow.holds Try.pinned (OpenSpec.ofChange headerTwoSpec)

/-- ITS FALSE NEIGHBOUR: 'it returns false'. Refute it at one input. -/
def headerTwoWrong : ChangeSpec := { name := "headerTwo", fn := fun _ => fun
  | [d1, d2] => { results := [.lit (.bool false)], args := [d1, d2] }
  | _ => none }
def HeaderTwoWrongFalsely : Prop := headerTwoRow.holds Try.pinned (OpenSpec.ofChange headerTwoWrong)

/-- 'sigillumlaw04.HeaderPlaces': WHATEVER THE INPUT: true; the input reads as it did. -/
def headerPlacesSpec : ChangeSpec := { name := "headerPlaces", fn := fun _ => fun
  | [d] => { results := [.lit (.bool true)], args := [d] }
  | _ => none }
def headerPlacesRow : OpenClaim := { program := "ytecpmilepjbaeab", sum := "d2e382431b3a9f19de306217761999e5f210baee1ecd366bc980613b8a6edeb2", func := "sigillum/sigillumlaw04.HeaderPlaces", spec := "headerPlaces", inPlace := ["internal/reflectlite.TypeOf"], unfollowed := true, recurses := true, apart := false }
def HeaderPlacesSaid : Prop := headerPlacesRow.holds Try.pinned (OpenSpec.ofChange headerPlacesSpec)

/-- ITS FALSE NEIGHBOUR: 'it returns false'. Refute it at one input. -/
def headerPlacesWrong : ChangeSpec := { name := "headerPlaces", fn := fun _ => fun
  | [d] => { results := [.lit (.bool false)], args := [d] }
  | _ => none }
def HeaderPlacesWrongFalsely : Prop := headerPlacesRow.holds Try.pinned (OpenSpec.ofChange headerPlacesWrong)

/-- 'sigillumlaw07.TokenApart': WHATEVER THE INPUT: true; the input reads as it did. -/
def tokenApartSpec : ChangeSpec := { name := "tokenApart", fn := fun _ => fun
  | [d1, d2, d3, d4, d5] => { results := [.lit (.bool true)], args := [d1, d2, d3, d4, d5] }
  | _ => none }
def tokenApartRow : OpenClaim := { program := "ytecpmilepjbaeab", sum := "d2e382431b3a9f19de306217761999e5f210baee1ecd366bc980613b8a6edeb2", func := "sigillum/sigillumlaw07.TokenApart", spec := "tokenApart", inPlace := ["internal/reflectlite.TypeOf"], unfollowed := true, recurses := true, apart := false }
def TokenApartSaid : Prop := tokenApartRow.holds Try.pinned (OpenSpec.ofChange tokenApartSpec)

/-- ITS FALSE NEIGHBOUR: 'it returns false'. Refute it at one input. -/
def tokenApartWrong : ChangeSpec := { name := "tokenApart", fn := fun _ => fun
  | [d1, d2, d3, d4, d5] => { results := [.lit (.bool false)], args := [d1, d2, d3, d4, d5] }
  | _ => none }
def TokenApartWrongFalsely : Prop := tokenApartRow.holds Try.pinned (OpenSpec.ofChange tokenApartWrong)

/-- 'sigillumlaw07.TokenRestrict': WHATEVER THE INPUT: true; the input reads as it did. -/
def tokenRestrictSpec : ChangeSpec := { name := "tokenRestrict", fn := fun _ => fun
  | [d1, d2, d3, d4] => { results := [.lit (.bool true)], args := [d1, d2, d3, d4] }
  | _ => none }
def tokenRestrictRow : OpenClaim := { program := "ytecpmilepjbaeab", sum := "d2e382431b3a9f19de306217761999e5f210baee1ecd366bc980613b8a6edeb2", func := "sigillum/sigillumlaw07.TokenRestrict", spec := "tokenRestrict", inPlace := ["internal/reflectlite.TypeOf"], unfollowed := true, recurses := true, apart := false }
def TokenRestrictSaid : Prop := tokenRestrictRow.holds Try.pinned (OpenSpec.ofChange tokenRestrictSpec)

/-- ITS FALSE NEIGHBOUR: 'it returns false'. Refute it at one input. -/
def tokenRestrictWrong : ChangeSpec := { name := "tokenRestrict", fn := fun _ => fun
  | [d1, d2, d3, d4] => { results := [.lit (.bool false)], args := [d1, d2, d3, d4] }
  | _ => none }
def TokenRestrictWrongFalsely : Prop := tokenRestrictRow.holds Try.pinned (OpenSpec.ofChange tokenRestrictWrong)

/- THE SECOND FORM. 'bulk': how many values and letters a reading holds, each counted each time it is reached (what is shared counts as often as it is met; a slice's spare places count too). A statement '..UptoSaid' is the law's where the arguments, and the package variables that the reading takes, are together of bulk at most 1048576: NARROWER than '..Said'. Prove '..Said' where nothing that the law and all that it calls make is longer than what came in: it says more and counts as full. Else prove '..UptoSaid'. A law counts once. -/
mutual
def uptoBulk {H : Type} : DataW H → Nat
  | .lit (.string bytes) => bytes.length + 1
  | .lit _ => 1
  | .nil => 1
  | .ptr d => uptoBulk d + 1
  | .slice elems spare => uptoBulkAll elems + uptoBulkAll spare + 1
  | .agg parts => uptoBulkAll parts + 1
  | .iface _ d => uptoBulk d + 1
  | .map entries => uptoBulkEntries entries + 1
  | .held _ => 1
def uptoBulkAll {H : Type} : List (DataW H) → Nat
  | [] => 0
  | d :: r => uptoBulk d + uptoBulkAll r
def uptoBulkEntries {H : Type} : List (Lit × DataW H) → Nat
  | [] => 0
  | x :: r => uptoBulkEntry x + uptoBulkEntries r
def uptoBulkEntry {H : Type} : Lit × DataW H → Nat
  | (.string bytes, d) => bytes.length + uptoBulk d + 1
  | (_, d) => uptoBulk d + 1
 end
def uptoSmall : (H : Type) → List (DataW H) → Bool := fun _ ds => decide (uptoBulkAll ds ≤ 1048576)
def OpenSpec.upto (s : _root_.Go.ChangeSpec) : _root_.Go.OpenSpec := { _root_.Go.OpenSpec.ofChange s with cond := some uptoSmall }

/-- 'sigillumlaw04.HeaderBack', WHERE WHAT IT READS IS OF BULK AT MOST 1048576: true; the input reads as it did. -/
def headerBackUptoRow : OpenClaim := { program := "ytecpmilepjbaeab", sum := "d2e382431b3a9f19de306217761999e5f210baee1ecd366bc980613b8a6edeb2", func := "sigillum/sigillumlaw04.HeaderBack", spec := "headerBack", inPlace := ["internal/reflectlite.TypeOf"], unfollowed := true, recurses := true, apart := false, narrowed := true }
def HeaderBackUptoSaid : Prop := headerBackUptoRow.holds Try.pinned (OpenSpec.upto headerBackSpec)

/-- 'sigillumlaw04.HeaderTwo', WHERE WHAT IT READS IS OF BULK AT MOST 1048576: true; the input reads as it did. -/
def headerTwoUptoRow : OpenClaim := { program := "ytecpmilepjbaeab", sum := "d2e382431b3a9f19de306217761999e5f210baee1ecd366bc980613b8a6edeb2", func := "sigillum/sigillumlaw04.HeaderTwo", spec := "headerTwo", inPlace := ["internal/reflectlite.TypeOf"], unfollowed := true, recurses := true, apart := false, narrowed := true }
def HeaderTwoUptoSaid : Prop := headerTwoUptoRow.holds Try.pinned (OpenSpec.upto headerTwoSpec)

/-- 'sigillumlaw04.HeaderPlaces', WHERE WHAT IT READS IS OF BULK AT MOST 1048576: true; the input reads as it did. -/
def headerPlacesUptoRow : OpenClaim := { program := "ytecpmilepjbaeab", sum := "d2e382431b3a9f19de306217761999e5f210baee1ecd366bc980613b8a6edeb2", func := "sigillum/sigillumlaw04.HeaderPlaces", spec := "headerPlaces", inPlace := ["internal/reflectlite.TypeOf"], unfollowed := true, recurses := true, apart := false, narrowed := true }
def HeaderPlacesUptoSaid : Prop := headerPlacesUptoRow.holds Try.pinned (OpenSpec.upto headerPlacesSpec)

/-- 'sigillumlaw07.TokenApart', WHERE WHAT IT READS IS OF BULK AT MOST 1048576: true; the input reads as it did. -/
def tokenApartUptoRow : OpenClaim := { program := "ytecpmilepjbaeab", sum := "d2e382431b3a9f19de306217761999e5f210baee1ecd366bc980613b8a6edeb2", func := "sigillum/sigillumlaw07.TokenApart", spec := "tokenApart", inPlace := ["internal/reflectlite.TypeOf"], unfollowed := true, recurses := true, apart := false, narrowed := true }
def TokenApartUptoSaid : Prop := tokenApartUptoRow.holds Try.pinned (OpenSpec.upto tokenApartSpec)

/-- 'sigillumlaw07.TokenRestrict', WHERE WHAT IT READS IS OF BULK AT MOST 1048576: true; the input reads as it did. -/
def tokenRestrictUptoRow : OpenClaim := { program := "ytecpmilepjbaeab", sum := "d2e382431b3a9f19de306217761999e5f210baee1ecd366bc980613b8a6edeb2", func := "sigillum/sigillumlaw07.TokenRestrict", spec := "tokenRestrict", inPlace := ["internal/reflectlite.TypeOf"], unfollowed := true, recurses := true, apart := false, narrowed := true }
def TokenRestrictUptoSaid : Prop := tokenRestrictUptoRow.holds Try.pinned (OpenSpec.upto tokenRestrictSpec)

end Rows
end Go.Proofs.Ytecpmilepjbaeab
