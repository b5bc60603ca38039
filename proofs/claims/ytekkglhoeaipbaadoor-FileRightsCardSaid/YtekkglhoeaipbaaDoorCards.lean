/-
  DERIVED. GIVEN WITH THE SEED: THE CARDS: each row of YtekkglhoeaipbaaDoorRows.lean that lists a variable, with what it lists TIED to the program's text (the seventh form; the later family's looks); each row that meets fmt, with fmt's text TOLD by the authors' own Lean function (tested against real Go, not proved from fmt's source: count such statements apart). THE CARD IS WHAT COUNTS. Prove the row's statement (the work); the ties are given (YtekkglhoeaipbaaDoorTie.lean); close each card by the builder's one call (the guide's Derived/Test/ToyasCard.lean, 'card_holds'). Laid BY PROGRAM, IN A SANDBOX (cutbox-door.mjs). By AI agents, Wed Nov 11 2026. No macro, syntax, notation, axiom, sorry.
-/
import Derived.Test.YtekkglhoeaipbaaDoorRows
import GoSem.ClaimSeven
namespace Go.Proofs.YtekkglhoeaipbaaDoor
namespace Rows

/-- THE TIED CARD OF 'sigillumlaw25.MemoryServes'. -/
def memoryServesCard : Claim7 := { stood := { row := memoryServesRow, standIns := [], harness := (true, "18e5973f6b50ae5214105a0a769f573d66047859936fffc7b04373b91db84d8c"), looks := true }, kinds := [], alts := [], laidByText := true, laidKinds := [.handle], laidTests := true, laidLooks := .later }
def MemoryServesCardSaid : Prop := Claim7.holds Tryd.pinned (.plain (OpenSpec.ofChange memoryServesSpec)) memoryServesCard

/-- THE TIED CARD OF 'sigillumlaw25.MemoryBack'. -/
def memoryBackCard : Claim7 := { stood := { row := memoryBackRow, standIns := [], harness := (true, "18e5973f6b50ae5214105a0a769f573d66047859936fffc7b04373b91db84d8c"), looks := true }, kinds := [], alts := [], laidByText := true, laidKinds := [.handle], laidTests := true, laidLooks := .later }
def MemoryBackCardSaid : Prop := Claim7.holds Tryd.pinned (.plain (OpenSpec.ofChange memoryBackSpec)) memoryBackCard

/-- THE TIED CARD OF 'sigillumlaw25.MemoryRights'. -/
def memoryRightsCard : Claim7 := { stood := { row := memoryRightsRow, standIns := [], harness := (true, "18e5973f6b50ae5214105a0a769f573d66047859936fffc7b04373b91db84d8c"), looks := true }, kinds := [], alts := [], laidByText := true, laidKinds := [.handle], laidTests := true, laidLooks := .later }
def MemoryRightsCardSaid : Prop := Claim7.holds Tryd.pinned (.plain (OpenSpec.ofChange memoryRightsSpec)) memoryRightsCard

/-- THE TIED CARD OF 'sigillumlaw27.FileStays'. -/
def fileStaysCard : Claim7 := { stood := { row := fileStaysRow, standIns := [], harness := (true, "18e5973f6b50ae5214105a0a769f573d66047859936fffc7b04373b91db84d8c"), looks := true }, kinds := [], alts := [], laidByText := true, laidKinds := [.handle], laidTests := true, laidLooks := .later }
def FileStaysCardSaid : Prop := Claim7.holds Tryd.pinned (.plain (OpenSpec.ofChange fileStaysSpec)) fileStaysCard

/-- THE TIED CARD OF 'sigillumlaw27.FileRoom'. -/
def fileRoomCard : Claim7 := { stood := { row := fileRoomRow, standIns := [], harness := (true, "18e5973f6b50ae5214105a0a769f573d66047859936fffc7b04373b91db84d8c"), looks := true }, kinds := [], alts := [], laidByText := true, laidKinds := [.handle], laidTests := true, laidLooks := .later }
def FileRoomCardSaid : Prop := Claim7.holds Tryd.pinned (.plain (OpenSpec.ofChange fileRoomSpec)) fileRoomCard

/-- THE TIED CARD OF 'sigillumlaw27.FileRights'. -/
def fileRightsCard : Claim7 := { stood := { row := fileRightsRow, standIns := [], harness := (true, "18e5973f6b50ae5214105a0a769f573d66047859936fffc7b04373b91db84d8c"), looks := true }, kinds := [], alts := [], laidByText := true, laidKinds := [.handle], laidTests := true, laidLooks := .later }
def FileRightsCardSaid : Prop := Claim7.holds Tryd.pinned (.plain (OpenSpec.ofChange fileRightsSpec)) fileRightsCard

/-- THE TIED CARD OF 'sigillumlaw28.StubMasks'. -/
def stubMasksCard : Claim7 := { stood := { row := stubMasksRow, standIns := [], harness := (true, "18e5973f6b50ae5214105a0a769f573d66047859936fffc7b04373b91db84d8c"), looks := true }, kinds := [], alts := [], laidByText := true, laidKinds := [.handle], laidTests := true, laidLooks := .later }
def StubMasksCardSaid : Prop := Claim7.holds Tryd.pinned (.plain (OpenSpec.ofChange stubMasksSpec)) stubMasksCard

/-- THE TIED CARD OF 'sigillumlaw26.DirectoryServes'. -/
def directoryServesCard : Claim7 := { stood := { row := directoryServesRow, standIns := [], harness := (true, "18e5973f6b50ae5214105a0a769f573d66047859936fffc7b04373b91db84d8c"), looks := true }, kinds := [], alts := [], laidByText := true, laidKinds := [.handle], laidTests := true, laidLooks := .later }
def DirectoryServesCardSaid : Prop := Claim7.holds Tryd.pinned (.plain (OpenSpec.ofChange directoryServesSpec)) directoryServesCard

/-- THE TIED CARD OF 'sigillumlaw26.DirectoryMask'. -/
def directoryMaskCard : Claim7 := { stood := { row := directoryMaskRow, standIns := [], harness := (true, "18e5973f6b50ae5214105a0a769f573d66047859936fffc7b04373b91db84d8c"), looks := true }, kinds := [], alts := [], laidByText := true, laidKinds := [.handle], laidTests := true, laidLooks := .later }
def DirectoryMaskCardSaid : Prop := Claim7.holds Tryd.pinned (.plain (OpenSpec.ofChange directoryMaskSpec)) directoryMaskCard

/-- THE TIED CARD OF 'sigillumlaw26.DirectoryNames'. -/
def directoryNamesCard : Claim7 := { stood := { row := directoryNamesRow, standIns := [], harness := (true, "18e5973f6b50ae5214105a0a769f573d66047859936fffc7b04373b91db84d8c"), looks := true }, kinds := [], alts := [], laidByText := true, laidKinds := [.handle], laidTests := true, laidLooks := .later }
def DirectoryNamesCardSaid : Prop := Claim7.holds Tryd.pinned (.plain (OpenSpec.ofChange directoryNamesSpec)) directoryNamesCard

/-- THE TIED CARD OF 'sigillumlaw26.DirectoryReplaced'. -/
def directoryReplacedCard : Claim7 := { stood := { row := directoryReplacedRow, standIns := [], harness := (true, "18e5973f6b50ae5214105a0a769f573d66047859936fffc7b04373b91db84d8c"), looks := true }, kinds := [], alts := [], laidByText := true, laidKinds := [.handle], laidTests := true, laidLooks := .later }
def DirectoryReplacedCardSaid : Prop := Claim7.holds Tryd.pinned (.plain (OpenSpec.ofChange directoryReplacedSpec)) directoryReplacedCard

/-- THE SECOND FORM's CARD OF 'sigillumlaw25.MemoryServes'. -/
def memoryServesUptoCard : Claim7 := { stood := { row := memoryServesUptoRow, standIns := [], harness := (true, "18e5973f6b50ae5214105a0a769f573d66047859936fffc7b04373b91db84d8c"), looks := true }, kinds := [], alts := [], laidByText := true, laidKinds := [.handle], laidTests := true, laidLooks := .later }
def MemoryServesUptoCardSaid : Prop := Claim7.holds Tryd.pinned (.plain (OpenSpec.upto memoryServesSpec)) memoryServesUptoCard

/-- THE SECOND FORM's CARD OF 'sigillumlaw25.MemoryBack'. -/
def memoryBackUptoCard : Claim7 := { stood := { row := memoryBackUptoRow, standIns := [], harness := (true, "18e5973f6b50ae5214105a0a769f573d66047859936fffc7b04373b91db84d8c"), looks := true }, kinds := [], alts := [], laidByText := true, laidKinds := [.handle], laidTests := true, laidLooks := .later }
def MemoryBackUptoCardSaid : Prop := Claim7.holds Tryd.pinned (.plain (OpenSpec.upto memoryBackSpec)) memoryBackUptoCard

/-- THE SECOND FORM's CARD OF 'sigillumlaw25.MemoryRights'. -/
def memoryRightsUptoCard : Claim7 := { stood := { row := memoryRightsUptoRow, standIns := [], harness := (true, "18e5973f6b50ae5214105a0a769f573d66047859936fffc7b04373b91db84d8c"), looks := true }, kinds := [], alts := [], laidByText := true, laidKinds := [.handle], laidTests := true, laidLooks := .later }
def MemoryRightsUptoCardSaid : Prop := Claim7.holds Tryd.pinned (.plain (OpenSpec.upto memoryRightsSpec)) memoryRightsUptoCard

/-- THE SECOND FORM's CARD OF 'sigillumlaw27.FileStays'. -/
def fileStaysUptoCard : Claim7 := { stood := { row := fileStaysUptoRow, standIns := [], harness := (true, "18e5973f6b50ae5214105a0a769f573d66047859936fffc7b04373b91db84d8c"), looks := true }, kinds := [], alts := [], laidByText := true, laidKinds := [.handle], laidTests := true, laidLooks := .later }
def FileStaysUptoCardSaid : Prop := Claim7.holds Tryd.pinned (.plain (OpenSpec.upto fileStaysSpec)) fileStaysUptoCard

/-- THE SECOND FORM's CARD OF 'sigillumlaw27.FileRoom'. -/
def fileRoomUptoCard : Claim7 := { stood := { row := fileRoomUptoRow, standIns := [], harness := (true, "18e5973f6b50ae5214105a0a769f573d66047859936fffc7b04373b91db84d8c"), looks := true }, kinds := [], alts := [], laidByText := true, laidKinds := [.handle], laidTests := true, laidLooks := .later }
def FileRoomUptoCardSaid : Prop := Claim7.holds Tryd.pinned (.plain (OpenSpec.upto fileRoomSpec)) fileRoomUptoCard

/-- THE SECOND FORM's CARD OF 'sigillumlaw27.FileRights'. -/
def fileRightsUptoCard : Claim7 := { stood := { row := fileRightsUptoRow, standIns := [], harness := (true, "18e5973f6b50ae5214105a0a769f573d66047859936fffc7b04373b91db84d8c"), looks := true }, kinds := [], alts := [], laidByText := true, laidKinds := [.handle], laidTests := true, laidLooks := .later }
def FileRightsUptoCardSaid : Prop := Claim7.holds Tryd.pinned (.plain (OpenSpec.upto fileRightsSpec)) fileRightsUptoCard

/-- THE SECOND FORM's CARD OF 'sigillumlaw28.StubMasks'. -/
def stubMasksUptoCard : Claim7 := { stood := { row := stubMasksUptoRow, standIns := [], harness := (true, "18e5973f6b50ae5214105a0a769f573d66047859936fffc7b04373b91db84d8c"), looks := true }, kinds := [], alts := [], laidByText := true, laidKinds := [.handle], laidTests := true, laidLooks := .later }
def StubMasksUptoCardSaid : Prop := Claim7.holds Tryd.pinned (.plain (OpenSpec.upto stubMasksSpec)) stubMasksUptoCard

/-- THE SECOND FORM's CARD OF 'sigillumlaw26.DirectoryServes'. -/
def directoryServesUptoCard : Claim7 := { stood := { row := directoryServesUptoRow, standIns := [], harness := (true, "18e5973f6b50ae5214105a0a769f573d66047859936fffc7b04373b91db84d8c"), looks := true }, kinds := [], alts := [], laidByText := true, laidKinds := [.handle], laidTests := true, laidLooks := .later }
def DirectoryServesUptoCardSaid : Prop := Claim7.holds Tryd.pinned (.plain (OpenSpec.upto directoryServesSpec)) directoryServesUptoCard

/-- THE SECOND FORM's CARD OF 'sigillumlaw26.DirectoryMask'. -/
def directoryMaskUptoCard : Claim7 := { stood := { row := directoryMaskUptoRow, standIns := [], harness := (true, "18e5973f6b50ae5214105a0a769f573d66047859936fffc7b04373b91db84d8c"), looks := true }, kinds := [], alts := [], laidByText := true, laidKinds := [.handle], laidTests := true, laidLooks := .later }
def DirectoryMaskUptoCardSaid : Prop := Claim7.holds Tryd.pinned (.plain (OpenSpec.upto directoryMaskSpec)) directoryMaskUptoCard

/-- THE SECOND FORM's CARD OF 'sigillumlaw26.DirectoryNames'. -/
def directoryNamesUptoCard : Claim7 := { stood := { row := directoryNamesUptoRow, standIns := [], harness := (true, "18e5973f6b50ae5214105a0a769f573d66047859936fffc7b04373b91db84d8c"), looks := true }, kinds := [], alts := [], laidByText := true, laidKinds := [.handle], laidTests := true, laidLooks := .later }
def DirectoryNamesUptoCardSaid : Prop := Claim7.holds Tryd.pinned (.plain (OpenSpec.upto directoryNamesSpec)) directoryNamesUptoCard

/-- THE SECOND FORM's CARD OF 'sigillumlaw26.DirectoryReplaced'. -/
def directoryReplacedUptoCard : Claim7 := { stood := { row := directoryReplacedUptoRow, standIns := [], harness := (true, "18e5973f6b50ae5214105a0a769f573d66047859936fffc7b04373b91db84d8c"), looks := true }, kinds := [], alts := [], laidByText := true, laidKinds := [.handle], laidTests := true, laidLooks := .later }
def DirectoryReplacedUptoCardSaid : Prop := Claim7.holds Tryd.pinned (.plain (OpenSpec.upto directoryReplacedSpec)) directoryReplacedUptoCard
end Rows
end Go.Proofs.YtekkglhoeaipbaaDoor
