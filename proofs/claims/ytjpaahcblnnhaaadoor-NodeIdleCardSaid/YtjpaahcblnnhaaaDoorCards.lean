/-
  DERIVED. GIVEN WITH THE SEED: THE CARDS: each row of YtjpaahcblnnhaaaDoorRows.lean that lists a variable, with what it lists TIED to the program's text (the seventh form; the later family's looks); each row that meets fmt, with fmt's text TOLD by the authors' own Lean function (tested against real Go, not proved from fmt's source: count such statements apart). THE CARD IS WHAT COUNTS. Prove the row's statement (the work); the ties are given (YtjpaahcblnnhaaaDoorTie.lean); close each card by the builder's one call (the guide's Derived/Test/ToyasCard.lean, 'card_holds'). Laid BY PROGRAM, IN A SANDBOX (cutbox-door.mjs). By AI agents, Wed Nov 11 2026. No macro, syntax, notation, axiom, sorry.
-/
import Derived.Test.YtjpaahcblnnhaaaDoorRows
import GoSem.ClaimSeven
namespace Go.Proofs.YtjpaahcblnnhaaaDoor
namespace Rows

/-- THE TIED CARD OF 'sigillumlaw29.NodeBoot'. -/
def nodeBootCard : Claim7 := { stood := { row := nodeBootRow, standIns := [], harness := (true, "65881ec8785f9e89ecae771d97531d04e50ac5a4b51c60d853bfabaa557c46e5"), looks := true }, kinds := [], alts := [], laidByText := true, laidKinds := [.handle], laidTests := true, laidLooks := .later }
def NodeBootCardSaid : Prop := Claim7.holds Tryd.pinned (.plain (OpenSpec.ofChange nodeBootSpec)) nodeBootCard

/-- THE TIED CARD OF 'sigillumlaw29.NodeIdle'. -/
def nodeIdleCard : Claim7 := { stood := { row := nodeIdleRow, standIns := [], harness := (true, "65881ec8785f9e89ecae771d97531d04e50ac5a4b51c60d853bfabaa557c46e5"), looks := true }, kinds := [], alts := [], laidByText := true, laidKinds := [.handle], laidTests := true, laidLooks := .later }
def NodeIdleCardSaid : Prop := Claim7.holds Tryd.pinned (.plain (OpenSpec.ofChange nodeIdleSpec)) nodeIdleCard

/-- THE SECOND FORM's CARD OF 'sigillumlaw29.NodeBoot'. -/
def nodeBootUptoCard : Claim7 := { stood := { row := nodeBootUptoRow, standIns := [], harness := (true, "65881ec8785f9e89ecae771d97531d04e50ac5a4b51c60d853bfabaa557c46e5"), looks := true }, kinds := [], alts := [], laidByText := true, laidKinds := [.handle], laidTests := true, laidLooks := .later }
def NodeBootUptoCardSaid : Prop := Claim7.holds Tryd.pinned (.plain (OpenSpec.upto nodeBootSpec)) nodeBootUptoCard

/-- THE SECOND FORM's CARD OF 'sigillumlaw29.NodeIdle'. -/
def nodeIdleUptoCard : Claim7 := { stood := { row := nodeIdleUptoRow, standIns := [], harness := (true, "65881ec8785f9e89ecae771d97531d04e50ac5a4b51c60d853bfabaa557c46e5"), looks := true }, kinds := [], alts := [], laidByText := true, laidKinds := [.handle], laidTests := true, laidLooks := .later }
def NodeIdleUptoCardSaid : Prop := Claim7.holds Tryd.pinned (.plain (OpenSpec.upto nodeIdleSpec)) nodeIdleUptoCard
end Rows
end Go.Proofs.YtjpaahcblnnhaaaDoor
