/-
  DERIVED. GIVEN WITH THE SEED: THE CARDS: each row of YtcdkkdnpphkieaaDoorRows.lean that lists a variable, with what it lists TIED to the program's text (the seventh form; the later family's looks); each row that meets fmt, with fmt's text TOLD by the authors' own Lean function (tested against real Go, not proved from fmt's source: count such statements apart). THE CARD IS WHAT COUNTS. Prove the row's statement (the work); the ties are given (YtcdkkdnpphkieaaDoorTie.lean); close each card by the builder's one call (the guide's Derived/Test/ToyasCard.lean, 'card_holds'). Laid BY PROGRAM, IN A SANDBOX (cutbox-door.mjs). By AI agents, Wed Nov 11 2026. No macro, syntax, notation, axiom, sorry.
-/
import Derived.Test.YtcdkkdnpphkieaaDoorRows
import GoSem.ClaimSeven
namespace Go.Proofs.YtcdkkdnpphkieaaDoor
namespace Rows

/-- THE TIED CARD OF 'sigillumlaw23.ObjectsForged'. -/
def objectsForgedCard : Claim7 := { stood := { row := objectsForgedRow, standIns := [], harness := (true, "2882e61f418fca03b78fd2f03bc88d0a91086bbee6403b4f932731aff94fcbc8"), looks := true }, kinds := [], alts := [], laidByText := true, laidKinds := [.handle], laidTests := true, laidLooks := .later }
def ObjectsForgedCardSaid : Prop := Claim7.holds Tryd.pinned (.plain (OpenSpec.ofChange objectsForgedSpec)) objectsForgedCard

/-- THE TIED CARD OF 'sigillumlaw23.ObjectsNarrow'. -/
def objectsNarrowCard : Claim7 := { stood := { row := objectsNarrowRow, standIns := [], harness := (true, "2882e61f418fca03b78fd2f03bc88d0a91086bbee6403b4f932731aff94fcbc8"), looks := true }, kinds := [], alts := [], laidByText := true, laidKinds := [.handle], laidTests := true, laidLooks := .later }
def ObjectsNarrowCardSaid : Prop := Claim7.holds Tryd.pinned (.plain (OpenSpec.ofChange objectsNarrowSpec)) objectsNarrowCard

/-- THE TIED CARD OF 'sigillumlaw23.ObjectsRevoke'. -/
def objectsRevokeCard : Claim7 := { stood := { row := objectsRevokeRow, standIns := [], harness := (true, "2882e61f418fca03b78fd2f03bc88d0a91086bbee6403b4f932731aff94fcbc8"), looks := true }, kinds := [], alts := [], laidByText := true, laidKinds := [.handle], laidTests := true, laidLooks := .later }
def ObjectsRevokeCardSaid : Prop := Claim7.holds Tryd.pinned (.plain (OpenSpec.ofChange objectsRevokeSpec)) objectsRevokeCard

/-- THE TIED CARD OF 'sigillumlaw23.ObjectsGone'. -/
def objectsGoneCard : Claim7 := { stood := { row := objectsGoneRow, standIns := [], harness := (true, "2882e61f418fca03b78fd2f03bc88d0a91086bbee6403b4f932731aff94fcbc8"), looks := true }, kinds := [], alts := [], laidByText := true, laidKinds := [.handle], laidTests := true, laidLooks := .later }
def ObjectsGoneCardSaid : Prop := Claim7.holds Tryd.pinned (.plain (OpenSpec.ofChange objectsGoneSpec)) objectsGoneCard

/-- THE TIED CARD OF 'sigillumlaw23.ObjectsScript'. -/
def objectsScriptCard : Claim7 := { stood := { row := objectsScriptRow, standIns := [], harness := (true, "2882e61f418fca03b78fd2f03bc88d0a91086bbee6403b4f932731aff94fcbc8"), looks := true }, kinds := [], alts := [], laidByText := true, laidKinds := [.handle], laidTests := true, laidLooks := .later }
def ObjectsScriptCardSaid : Prop := Claim7.holds Tryd.pinned (.plain (OpenSpec.ofChange objectsScriptSpec)) objectsScriptCard

/-- THE TIED CARD OF 'sigillumlaw24.SkeletonServes'. -/
def skeletonServesCard : Claim7 := { stood := { row := skeletonServesRow, standIns := [], harness := (true, "2882e61f418fca03b78fd2f03bc88d0a91086bbee6403b4f932731aff94fcbc8"), looks := true }, kinds := [], alts := [], laidByText := true, laidKinds := [.handle], laidTests := true, laidLooks := .later }
def SkeletonServesCardSaid : Prop := Claim7.holds Tryd.pinned (.plain (OpenSpec.ofChange skeletonServesSpec)) skeletonServesCard

/-- THE TIED CARD OF 'sigillumlaw24.SkeletonRights'. -/
def skeletonRightsCard : Claim7 := { stood := { row := skeletonRightsRow, standIns := [], harness := (true, "2882e61f418fca03b78fd2f03bc88d0a91086bbee6403b4f932731aff94fcbc8"), looks := true }, kinds := [], alts := [], laidByText := true, laidKinds := [.handle], laidTests := true, laidLooks := .later }
def SkeletonRightsCardSaid : Prop := Claim7.holds Tryd.pinned (.plain (OpenSpec.ofChange skeletonRightsSpec)) skeletonRightsCard

/-- THE TIED CARD OF 'sigillumlaw24.SkeletonNone'. -/
def skeletonNoneCard : Claim7 := { stood := { row := skeletonNoneRow, standIns := [], harness := (true, "2882e61f418fca03b78fd2f03bc88d0a91086bbee6403b4f932731aff94fcbc8"), looks := true }, kinds := [], alts := [], laidByText := true, laidKinds := [.handle], laidTests := true, laidLooks := .later }
def SkeletonNoneCardSaid : Prop := Claim7.holds Tryd.pinned (.plain (OpenSpec.ofChange skeletonNoneSpec)) skeletonNoneCard

/-- THE TIED CARD OF 'sigillumlaw24.SkeletonAge'. -/
def skeletonAgeCard : Claim7 := { stood := { row := skeletonAgeRow, standIns := [], harness := (true, "2882e61f418fca03b78fd2f03bc88d0a91086bbee6403b4f932731aff94fcbc8"), looks := true }, kinds := [], alts := [], laidByText := true, laidKinds := [.handle], laidTests := true, laidLooks := .later }
def SkeletonAgeCardSaid : Prop := Claim7.holds Tryd.pinned (.plain (OpenSpec.ofChange skeletonAgeSpec)) skeletonAgeCard

/-- THE SECOND FORM's CARD OF 'sigillumlaw23.ObjectsForged'. -/
def objectsForgedUptoCard : Claim7 := { stood := { row := objectsForgedUptoRow, standIns := [], harness := (true, "2882e61f418fca03b78fd2f03bc88d0a91086bbee6403b4f932731aff94fcbc8"), looks := true }, kinds := [], alts := [], laidByText := true, laidKinds := [.handle], laidTests := true, laidLooks := .later }
def ObjectsForgedUptoCardSaid : Prop := Claim7.holds Tryd.pinned (.plain (OpenSpec.upto objectsForgedSpec)) objectsForgedUptoCard

/-- THE SECOND FORM's CARD OF 'sigillumlaw23.ObjectsNarrow'. -/
def objectsNarrowUptoCard : Claim7 := { stood := { row := objectsNarrowUptoRow, standIns := [], harness := (true, "2882e61f418fca03b78fd2f03bc88d0a91086bbee6403b4f932731aff94fcbc8"), looks := true }, kinds := [], alts := [], laidByText := true, laidKinds := [.handle], laidTests := true, laidLooks := .later }
def ObjectsNarrowUptoCardSaid : Prop := Claim7.holds Tryd.pinned (.plain (OpenSpec.upto objectsNarrowSpec)) objectsNarrowUptoCard

/-- THE SECOND FORM's CARD OF 'sigillumlaw23.ObjectsRevoke'. -/
def objectsRevokeUptoCard : Claim7 := { stood := { row := objectsRevokeUptoRow, standIns := [], harness := (true, "2882e61f418fca03b78fd2f03bc88d0a91086bbee6403b4f932731aff94fcbc8"), looks := true }, kinds := [], alts := [], laidByText := true, laidKinds := [.handle], laidTests := true, laidLooks := .later }
def ObjectsRevokeUptoCardSaid : Prop := Claim7.holds Tryd.pinned (.plain (OpenSpec.upto objectsRevokeSpec)) objectsRevokeUptoCard

/-- THE SECOND FORM's CARD OF 'sigillumlaw23.ObjectsGone'. -/
def objectsGoneUptoCard : Claim7 := { stood := { row := objectsGoneUptoRow, standIns := [], harness := (true, "2882e61f418fca03b78fd2f03bc88d0a91086bbee6403b4f932731aff94fcbc8"), looks := true }, kinds := [], alts := [], laidByText := true, laidKinds := [.handle], laidTests := true, laidLooks := .later }
def ObjectsGoneUptoCardSaid : Prop := Claim7.holds Tryd.pinned (.plain (OpenSpec.upto objectsGoneSpec)) objectsGoneUptoCard

/-- THE SECOND FORM's CARD OF 'sigillumlaw23.ObjectsScript'. -/
def objectsScriptUptoCard : Claim7 := { stood := { row := objectsScriptUptoRow, standIns := [], harness := (true, "2882e61f418fca03b78fd2f03bc88d0a91086bbee6403b4f932731aff94fcbc8"), looks := true }, kinds := [], alts := [], laidByText := true, laidKinds := [.handle], laidTests := true, laidLooks := .later }
def ObjectsScriptUptoCardSaid : Prop := Claim7.holds Tryd.pinned (.plain (OpenSpec.upto objectsScriptSpec)) objectsScriptUptoCard

/-- THE SECOND FORM's CARD OF 'sigillumlaw24.SkeletonServes'. -/
def skeletonServesUptoCard : Claim7 := { stood := { row := skeletonServesUptoRow, standIns := [], harness := (true, "2882e61f418fca03b78fd2f03bc88d0a91086bbee6403b4f932731aff94fcbc8"), looks := true }, kinds := [], alts := [], laidByText := true, laidKinds := [.handle], laidTests := true, laidLooks := .later }
def SkeletonServesUptoCardSaid : Prop := Claim7.holds Tryd.pinned (.plain (OpenSpec.upto skeletonServesSpec)) skeletonServesUptoCard

/-- THE SECOND FORM's CARD OF 'sigillumlaw24.SkeletonRights'. -/
def skeletonRightsUptoCard : Claim7 := { stood := { row := skeletonRightsUptoRow, standIns := [], harness := (true, "2882e61f418fca03b78fd2f03bc88d0a91086bbee6403b4f932731aff94fcbc8"), looks := true }, kinds := [], alts := [], laidByText := true, laidKinds := [.handle], laidTests := true, laidLooks := .later }
def SkeletonRightsUptoCardSaid : Prop := Claim7.holds Tryd.pinned (.plain (OpenSpec.upto skeletonRightsSpec)) skeletonRightsUptoCard

/-- THE SECOND FORM's CARD OF 'sigillumlaw24.SkeletonNone'. -/
def skeletonNoneUptoCard : Claim7 := { stood := { row := skeletonNoneUptoRow, standIns := [], harness := (true, "2882e61f418fca03b78fd2f03bc88d0a91086bbee6403b4f932731aff94fcbc8"), looks := true }, kinds := [], alts := [], laidByText := true, laidKinds := [.handle], laidTests := true, laidLooks := .later }
def SkeletonNoneUptoCardSaid : Prop := Claim7.holds Tryd.pinned (.plain (OpenSpec.upto skeletonNoneSpec)) skeletonNoneUptoCard

/-- THE SECOND FORM's CARD OF 'sigillumlaw24.SkeletonAge'. -/
def skeletonAgeUptoCard : Claim7 := { stood := { row := skeletonAgeUptoRow, standIns := [], harness := (true, "2882e61f418fca03b78fd2f03bc88d0a91086bbee6403b4f932731aff94fcbc8"), looks := true }, kinds := [], alts := [], laidByText := true, laidKinds := [.handle], laidTests := true, laidLooks := .later }
def SkeletonAgeUptoCardSaid : Prop := Claim7.holds Tryd.pinned (.plain (OpenSpec.upto skeletonAgeSpec)) skeletonAgeUptoCard
end Rows
end Go.Proofs.YtcdkkdnpphkieaaDoor
