/-
  DERIVED. GIVEN WITH THE SEED: THE CARDS: each row of YtecpmilepjbaeabDoorRows.lean that lists a variable, with what it lists TIED to the program's text (the seventh form; the later family's looks); each row that meets fmt, with fmt's text TOLD by the authors' own Lean function (tested against real Go, not proved from fmt's source: count such statements apart). THE CARD IS WHAT COUNTS. Prove the row's statement (the work); the ties are given (YtecpmilepjbaeabDoorTie.lean); close each card by the builder's one call (the guide's Derived/Test/ToyasCard.lean, 'card_holds'). Laid BY PROGRAM, IN A SANDBOX (cutbox-door.mjs). By AI agents, Wed Nov 11 2026. No macro, syntax, notation, axiom, sorry.
-/
import Derived.Test.YtecpmilepjbaeabDoorRows
import GoSem.ClaimSeven
namespace Go.Proofs.YtecpmilepjbaeabDoor
namespace Rows

/-- THE TIED CARD OF 'sigillumlaw04.HeaderAnswer'. -/
def headerAnswerCard : Claim7 := { stood := { row := headerAnswerRow, standIns := [], harness := (true, "5a7232ffed26a486637c2275f75e0b0f59d71e753bb557594348301f3dd726ea"), looks := true }, kinds := [], alts := [], laidByText := true, laidKinds := [.handle], laidTests := true, laidLooks := .later }
def HeaderAnswerCardSaid : Prop := Claim7.holds Tryd.pinned (.plain (OpenSpec.ofChange headerAnswerSpec)) headerAnswerCard

/-- THE TIED CARD OF 'sigillumlaw07.TokenDraws'. -/
def tokenDrawsCard : Claim7 := { stood := { row := tokenDrawsRow, standIns := [], harness := (true, "5a7232ffed26a486637c2275f75e0b0f59d71e753bb557594348301f3dd726ea"), looks := true }, kinds := [], alts := [], laidByText := true, laidKinds := [.handle], laidTests := true, laidLooks := .later }
def TokenDrawsCardSaid : Prop := Claim7.holds Tryd.pinned (.plain (OpenSpec.ofChange tokenDrawsSpec)) tokenDrawsCard

/-- THE TIED CARD OF 'sigillumlaw07.TokenOf'. -/
def tokenOfCard : Claim7 := { stood := { row := tokenOfRow, standIns := [], harness := (true, "5a7232ffed26a486637c2275f75e0b0f59d71e753bb557594348301f3dd726ea"), looks := true }, kinds := [], alts := [], laidByText := true, laidKinds := [.handle], laidTests := true, laidLooks := .later }
def TokenOfCardSaid : Prop := Claim7.holds Tryd.pinned (.plain (OpenSpec.ofChange tokenOfSpec)) tokenOfCard

/-- THE TIED CARD OF 'sigillumlaw07.TokenGood'. -/
def tokenGoodCard : Claim7 := { stood := { row := tokenGoodRow, standIns := [], harness := (true, "5a7232ffed26a486637c2275f75e0b0f59d71e753bb557594348301f3dd726ea"), looks := true }, kinds := [], alts := [], laidByText := true, laidKinds := [.handle], laidTests := true, laidLooks := .later }
def TokenGoodCardSaid : Prop := Claim7.holds Tryd.pinned (.plain (OpenSpec.ofChange tokenGoodSpec)) tokenGoodCard

/-- THE SECOND FORM's CARD OF 'sigillumlaw04.HeaderAnswer'. -/
def headerAnswerUptoCard : Claim7 := { stood := { row := headerAnswerUptoRow, standIns := [], harness := (true, "5a7232ffed26a486637c2275f75e0b0f59d71e753bb557594348301f3dd726ea"), looks := true }, kinds := [], alts := [], laidByText := true, laidKinds := [.handle], laidTests := true, laidLooks := .later }
def HeaderAnswerUptoCardSaid : Prop := Claim7.holds Tryd.pinned (.plain (OpenSpec.upto headerAnswerSpec)) headerAnswerUptoCard

/-- THE SECOND FORM's CARD OF 'sigillumlaw07.TokenDraws'. -/
def tokenDrawsUptoCard : Claim7 := { stood := { row := tokenDrawsUptoRow, standIns := [], harness := (true, "5a7232ffed26a486637c2275f75e0b0f59d71e753bb557594348301f3dd726ea"), looks := true }, kinds := [], alts := [], laidByText := true, laidKinds := [.handle], laidTests := true, laidLooks := .later }
def TokenDrawsUptoCardSaid : Prop := Claim7.holds Tryd.pinned (.plain (OpenSpec.upto tokenDrawsSpec)) tokenDrawsUptoCard

/-- THE SECOND FORM's CARD OF 'sigillumlaw07.TokenOf'. -/
def tokenOfUptoCard : Claim7 := { stood := { row := tokenOfUptoRow, standIns := [], harness := (true, "5a7232ffed26a486637c2275f75e0b0f59d71e753bb557594348301f3dd726ea"), looks := true }, kinds := [], alts := [], laidByText := true, laidKinds := [.handle], laidTests := true, laidLooks := .later }
def TokenOfUptoCardSaid : Prop := Claim7.holds Tryd.pinned (.plain (OpenSpec.upto tokenOfSpec)) tokenOfUptoCard

/-- THE SECOND FORM's CARD OF 'sigillumlaw07.TokenGood'. -/
def tokenGoodUptoCard : Claim7 := { stood := { row := tokenGoodUptoRow, standIns := [], harness := (true, "5a7232ffed26a486637c2275f75e0b0f59d71e753bb557594348301f3dd726ea"), looks := true }, kinds := [], alts := [], laidByText := true, laidKinds := [.handle], laidTests := true, laidLooks := .later }
def TokenGoodUptoCardSaid : Prop := Claim7.holds Tryd.pinned (.plain (OpenSpec.upto tokenGoodSpec)) tokenGoodUptoCard
end Rows
end Go.Proofs.YtecpmilepjbaeabDoor
