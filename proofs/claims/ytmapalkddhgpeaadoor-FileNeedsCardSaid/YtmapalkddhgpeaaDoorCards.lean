/-
  DERIVED. GIVEN WITH THE SEED: THE CARDS: each row of YtmapalkddhgpeaaDoorRows.lean that lists a variable, with what it lists TIED to the program's text (the seventh form; the later family's looks); each row that meets fmt, with fmt's text TOLD by the authors' own Lean function (tested against real Go, not proved from fmt's source: count such statements apart). THE CARD IS WHAT COUNTS. Prove the row's statement (the work); the ties are given (YtmapalkddhgpeaaDoorTie.lean); close each card by the builder's one call (the guide's Derived/Test/ToyasCard.lean, 'card_holds'). Laid BY PROGRAM, IN A SANDBOX (cutbox-door.mjs). By AI agents, Wed Nov 11 2026. No macro, syntax, notation, axiom, sorry.
-/
import Derived.Test.YtmapalkddhgpeaaDoorRows
import GoSem.ClaimSeven
namespace Go.Proofs.YtmapalkddhgpeaaDoor
namespace Rows

/-- THE TIED CARD OF 'sigillumlaw25.MemoryNeeds'. -/
def memoryNeedsCard : Claim7 := { stood := { row := memoryNeedsRow, standIns := [], harness := (true, "6ba88e7f58410b75c231405ba5aaee44104af05f006963081c09de3e381d8c7d"), looks := true }, kinds := [], alts := [], laidByText := true, laidKinds := [.handle], laidTests := true, laidLooks := .later }
def MemoryNeedsCardSaid : Prop := Claim7.holds Tryd.pinned (.plain (OpenSpec.ofChange memoryNeedsSpec)) memoryNeedsCard

/-- THE TIED CARD OF 'sigillumlaw26.DirectoryNeeds'. -/
def directoryNeedsCard : Claim7 := { stood := { row := directoryNeedsRow, standIns := [], harness := (true, "6ba88e7f58410b75c231405ba5aaee44104af05f006963081c09de3e381d8c7d"), looks := true }, kinds := [], alts := [], laidByText := true, laidKinds := [.handle], laidTests := true, laidLooks := .later }
def DirectoryNeedsCardSaid : Prop := Claim7.holds Tryd.pinned (.plain (OpenSpec.ofChange directoryNeedsSpec)) directoryNeedsCard

/-- THE TIED CARD OF 'sigillumlaw27.FileNeeds'. -/
def fileNeedsCard : Claim7 := { stood := { row := fileNeedsRow, standIns := [], harness := (true, "6ba88e7f58410b75c231405ba5aaee44104af05f006963081c09de3e381d8c7d"), looks := true }, kinds := [], alts := [], laidByText := true, laidKinds := [.handle], laidTests := true, laidLooks := .later }
def FileNeedsCardSaid : Prop := Claim7.holds Tryd.pinned (.plain (OpenSpec.ofChange fileNeedsSpec)) fileNeedsCard

/-- THE SECOND FORM's CARD OF 'sigillumlaw25.MemoryNeeds'. -/
def memoryNeedsUptoCard : Claim7 := { stood := { row := memoryNeedsUptoRow, standIns := [], harness := (true, "6ba88e7f58410b75c231405ba5aaee44104af05f006963081c09de3e381d8c7d"), looks := true }, kinds := [], alts := [], laidByText := true, laidKinds := [.handle], laidTests := true, laidLooks := .later }
def MemoryNeedsUptoCardSaid : Prop := Claim7.holds Tryd.pinned (.plain (OpenSpec.upto memoryNeedsSpec)) memoryNeedsUptoCard

/-- THE SECOND FORM's CARD OF 'sigillumlaw26.DirectoryNeeds'. -/
def directoryNeedsUptoCard : Claim7 := { stood := { row := directoryNeedsUptoRow, standIns := [], harness := (true, "6ba88e7f58410b75c231405ba5aaee44104af05f006963081c09de3e381d8c7d"), looks := true }, kinds := [], alts := [], laidByText := true, laidKinds := [.handle], laidTests := true, laidLooks := .later }
def DirectoryNeedsUptoCardSaid : Prop := Claim7.holds Tryd.pinned (.plain (OpenSpec.upto directoryNeedsSpec)) directoryNeedsUptoCard

/-- THE SECOND FORM's CARD OF 'sigillumlaw27.FileNeeds'. -/
def fileNeedsUptoCard : Claim7 := { stood := { row := fileNeedsUptoRow, standIns := [], harness := (true, "6ba88e7f58410b75c231405ba5aaee44104af05f006963081c09de3e381d8c7d"), looks := true }, kinds := [], alts := [], laidByText := true, laidKinds := [.handle], laidTests := true, laidLooks := .later }
def FileNeedsUptoCardSaid : Prop := Claim7.holds Tryd.pinned (.plain (OpenSpec.upto fileNeedsSpec)) fileNeedsUptoCard
end Rows
end Go.Proofs.YtmapalkddhgpeaaDoor
