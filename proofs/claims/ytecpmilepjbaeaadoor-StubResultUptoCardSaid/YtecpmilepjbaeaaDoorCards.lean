/-
  DERIVED. GIVEN WITH THE SEED: THE CARDS: each row of YtecpmilepjbaeaaDoorRows.lean that lists a variable, with what it lists TIED to the program's text (the seventh form; the later family's looks); each row that meets fmt, with fmt's text TOLD by the authors' own Lean function (tested against real Go, not proved from fmt's source: count such statements apart). THE CARD IS WHAT COUNTS. Prove the row's statement (the work); the ties are given (YtecpmilepjbaeaaDoorTie.lean); close each card by the builder's one call (the guide's Derived/Test/ToyasCard.lean, 'card_holds'). Laid BY PROGRAM, IN A SANDBOX (cutbox-door.mjs). By AI agents, Wed Nov 11 2026. No macro, syntax, notation, axiom, sorry.
-/
import Derived.Test.YtecpmilepjbaeaaDoorRows
import GoSem.ClaimSeven
namespace Go.Proofs.YtecpmilepjbaeaaDoor
namespace Rows

/-- THE TIED CARD OF 'sigillumlaw08.PagesLowest'. -/
def pagesLowestCard : Claim7 := { stood := { row := pagesLowestRow, standIns := [], harness := (true, "bd8618a0b9e108711853679ce3fc01ace59bbe7bfca50eec4d52b26b9709088f"), looks := true }, kinds := [], alts := [], laidByText := true, laidKinds := [.handle], laidTests := true, laidLooks := .later }
def PagesLowestCardSaid : Prop := Claim7.holds Tryd.pinned (.plain (OpenSpec.ofChange pagesLowestSpec)) pagesLowestCard

/-- THE TIED CARD OF 'sigillumlaw28.StubResult'. -/
def stubResultCard : Claim7 := { stood := { row := stubResultRow, standIns := [], harness := (true, "bd8618a0b9e108711853679ce3fc01ace59bbe7bfca50eec4d52b26b9709088f"), looks := true }, kinds := [], alts := [], laidByText := true, laidKinds := [.handle], laidTests := true, laidLooks := .later }
def StubResultCardSaid : Prop := Claim7.holds Tryd.pinned (.plain (OpenSpec.ofChange stubResultSpec)) stubResultCard

/-- THE SECOND FORM's CARD OF 'sigillumlaw08.PagesLowest'. -/
def pagesLowestUptoCard : Claim7 := { stood := { row := pagesLowestUptoRow, standIns := [], harness := (true, "bd8618a0b9e108711853679ce3fc01ace59bbe7bfca50eec4d52b26b9709088f"), looks := true }, kinds := [], alts := [], laidByText := true, laidKinds := [.handle], laidTests := true, laidLooks := .later }
def PagesLowestUptoCardSaid : Prop := Claim7.holds Tryd.pinned (.plain (OpenSpec.upto pagesLowestSpec)) pagesLowestUptoCard

/-- THE SECOND FORM's CARD OF 'sigillumlaw28.StubResult'. -/
def stubResultUptoCard : Claim7 := { stood := { row := stubResultUptoRow, standIns := [], harness := (true, "bd8618a0b9e108711853679ce3fc01ace59bbe7bfca50eec4d52b26b9709088f"), looks := true }, kinds := [], alts := [], laidByText := true, laidKinds := [.handle], laidTests := true, laidLooks := .later }
def StubResultUptoCardSaid : Prop := Claim7.holds Tryd.pinned (.plain (OpenSpec.upto stubResultSpec)) stubResultUptoCard
end Rows
end Go.Proofs.YtecpmilepjbaeaaDoor
