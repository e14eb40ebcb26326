/-
  DERIVED. GIVEN WITH THE SEED: THE CARDS: each row of YtmloijhdibicdaaDoorRows.lean that lists a variable, with what it lists TIED to the program's text (the seventh form; the later family's looks); each row that meets fmt, with fmt's text TOLD by the authors' own Lean function (tested against real Go, not proved from fmt's source: count such statements apart). THE CARD IS WHAT COUNTS. Prove the row's statement (the work); the ties are given (YtmloijhdibicdaaDoorTie.lean); close each card by the builder's one call (the guide's Derived/Test/ToyasCard.lean, 'card_holds'). Laid BY PROGRAM, IN A SANDBOX (cutbox-door.mjs). By AI agents, Wed Nov 11 2026. No macro, syntax, notation, axiom, sorry.
-/
import Derived.Test.YtmloijhdibicdaaDoorRows
import GoSem.ClaimSeven
namespace Go.Proofs.YtmloijhdibicdaaDoor
namespace Rows

/-- THE TIED CARD OF 'narratorlaw45.ClippingBetween'. -/
def clippingBetweenCard : Claim7 := { stood := { row := clippingBetweenRow, standIns := [], harness := (true, "8e7ac72779964f15137a06a74bf41d9c78d31103f785169d892c57ae785ff336"), looks := false }, kinds := [], alts := [], laidByText := true, laidKinds := [.data, .pinned], laidTests := true, laidLooks := .later }
def ClippingBetweenCardSaid : Prop := Claim7.holds Tryd.pinned (.plain (OpenSpec.ofChange clippingBetweenSpec)) clippingBetweenCard

/-- THE TIED CARD OF 'narratorlaw45.ClippingParts'. -/
def clippingPartsCard : Claim7 := { stood := { row := clippingPartsRow, standIns := [], harness := (true, "8e7ac72779964f15137a06a74bf41d9c78d31103f785169d892c57ae785ff336"), looks := false }, kinds := [], alts := [], laidByText := true, laidKinds := [.data, .pinned], laidTests := true, laidLooks := .later }
def ClippingPartsCardSaid : Prop := Claim7.holds Tryd.pinned (.plain (OpenSpec.ofChange clippingPartsSpec)) clippingPartsCard

/-- THE TIED CARD OF 'narratorlaw45.ClippingOthers'. -/
def clippingOthersCard : Claim7 := { stood := { row := clippingOthersRow, standIns := [], harness := (true, "8e7ac72779964f15137a06a74bf41d9c78d31103f785169d892c57ae785ff336"), looks := false }, kinds := [], alts := [], laidByText := true, laidKinds := [.data, .pinned], laidTests := true, laidLooks := .later }
def ClippingOthersCardSaid : Prop := Claim7.holds Tryd.pinned (.plain (OpenSpec.ofChange clippingOthersSpec)) clippingOthersCard

/-- THE TIED CARD OF 'narratorlaw45.ClippingWords'. -/
def clippingWordsCard : Claim7 := { stood := { row := clippingWordsRow, standIns := [], harness := (true, "8e7ac72779964f15137a06a74bf41d9c78d31103f785169d892c57ae785ff336"), looks := false }, kinds := [], alts := [], laidByText := true, laidKinds := [.data, .pinned], laidTests := true, laidLooks := .later }
def ClippingWordsCardSaid : Prop := Claim7.holds Tryd.pinned (.plain (OpenSpec.ofChange clippingWordsSpec)) clippingWordsCard

/-- THE TIED CARD OF 'narratorlaw45.ClippingConcealed'. -/
def clippingConcealedCard : Claim7 := { stood := { row := clippingConcealedRow, standIns := [], harness := (true, "8e7ac72779964f15137a06a74bf41d9c78d31103f785169d892c57ae785ff336"), looks := false }, kinds := [], alts := [], laidByText := true, laidKinds := [.data, .pinned], laidTests := true, laidLooks := .later }
def ClippingConcealedCardSaid : Prop := Claim7.holds Tryd.pinned (.plain (OpenSpec.ofChange clippingConcealedSpec)) clippingConcealedCard

/-- THE TIED CARD OF 'narratorlaw45.ClippingWhole'. -/
def clippingWholeCard : Claim7 := { stood := { row := clippingWholeRow, standIns := [], harness := (true, "8e7ac72779964f15137a06a74bf41d9c78d31103f785169d892c57ae785ff336"), looks := false }, kinds := [], alts := [], laidByText := true, laidKinds := [.data, .pinned], laidTests := true, laidLooks := .later }
def ClippingWholeCardSaid : Prop := Claim7.holds Tryd.pinned (.plain (OpenSpec.ofChange clippingWholeSpec)) clippingWholeCard

/-- THE TIED CARD OF 'narratorlaw45.ClippingBlock'. -/
def clippingBlockCard : Claim7 := { stood := { row := clippingBlockRow, standIns := [], harness := (true, "8e7ac72779964f15137a06a74bf41d9c78d31103f785169d892c57ae785ff336"), looks := false }, kinds := [], alts := [], laidByText := true, laidKinds := [.data, .pinned], laidTests := true, laidLooks := .later }
def ClippingBlockCardSaid : Prop := Claim7.holds Tryd.pinned (.plain (OpenSpec.ofChange clippingBlockSpec)) clippingBlockCard

/-- THE TIED CARD OF 'narratorlaw45.ClippingFull'. -/
def clippingFullCard : Claim7 := { stood := { row := clippingFullRow, standIns := [], harness := (true, "8e7ac72779964f15137a06a74bf41d9c78d31103f785169d892c57ae785ff336"), looks := false }, kinds := [], alts := [], laidByText := true, laidKinds := [.data, .pinned], laidTests := true, laidLooks := .later }
def ClippingFullCardSaid : Prop := Claim7.holds Tryd.pinned (.plain (OpenSpec.ofChange clippingFullSpec)) clippingFullCard

/-- THE SECOND FORM's CARD OF 'narratorlaw45.ClippingBetween'. -/
def clippingBetweenUptoCard : Claim7 := { stood := { row := clippingBetweenUptoRow, standIns := [], harness := (true, "8e7ac72779964f15137a06a74bf41d9c78d31103f785169d892c57ae785ff336"), looks := false }, kinds := [], alts := [], laidByText := true, laidKinds := [.data, .pinned], laidTests := true, laidLooks := .later }
def ClippingBetweenUptoCardSaid : Prop := Claim7.holds Tryd.pinned (.plain (OpenSpec.upto clippingBetweenSpec)) clippingBetweenUptoCard

/-- THE SECOND FORM's CARD OF 'narratorlaw45.ClippingParts'. -/
def clippingPartsUptoCard : Claim7 := { stood := { row := clippingPartsUptoRow, standIns := [], harness := (true, "8e7ac72779964f15137a06a74bf41d9c78d31103f785169d892c57ae785ff336"), looks := false }, kinds := [], alts := [], laidByText := true, laidKinds := [.data, .pinned], laidTests := true, laidLooks := .later }
def ClippingPartsUptoCardSaid : Prop := Claim7.holds Tryd.pinned (.plain (OpenSpec.upto clippingPartsSpec)) clippingPartsUptoCard

/-- THE SECOND FORM's CARD OF 'narratorlaw45.ClippingOthers'. -/
def clippingOthersUptoCard : Claim7 := { stood := { row := clippingOthersUptoRow, standIns := [], harness := (true, "8e7ac72779964f15137a06a74bf41d9c78d31103f785169d892c57ae785ff336"), looks := false }, kinds := [], alts := [], laidByText := true, laidKinds := [.data, .pinned], laidTests := true, laidLooks := .later }
def ClippingOthersUptoCardSaid : Prop := Claim7.holds Tryd.pinned (.plain (OpenSpec.upto clippingOthersSpec)) clippingOthersUptoCard

/-- THE SECOND FORM's CARD OF 'narratorlaw45.ClippingWords'. -/
def clippingWordsUptoCard : Claim7 := { stood := { row := clippingWordsUptoRow, standIns := [], harness := (true, "8e7ac72779964f15137a06a74bf41d9c78d31103f785169d892c57ae785ff336"), looks := false }, kinds := [], alts := [], laidByText := true, laidKinds := [.data, .pinned], laidTests := true, laidLooks := .later }
def ClippingWordsUptoCardSaid : Prop := Claim7.holds Tryd.pinned (.plain (OpenSpec.upto clippingWordsSpec)) clippingWordsUptoCard

/-- THE SECOND FORM's CARD OF 'narratorlaw45.ClippingConcealed'. -/
def clippingConcealedUptoCard : Claim7 := { stood := { row := clippingConcealedUptoRow, standIns := [], harness := (true, "8e7ac72779964f15137a06a74bf41d9c78d31103f785169d892c57ae785ff336"), looks := false }, kinds := [], alts := [], laidByText := true, laidKinds := [.data, .pinned], laidTests := true, laidLooks := .later }
def ClippingConcealedUptoCardSaid : Prop := Claim7.holds Tryd.pinned (.plain (OpenSpec.upto clippingConcealedSpec)) clippingConcealedUptoCard

/-- THE SECOND FORM's CARD OF 'narratorlaw45.ClippingWhole'. -/
def clippingWholeUptoCard : Claim7 := { stood := { row := clippingWholeUptoRow, standIns := [], harness := (true, "8e7ac72779964f15137a06a74bf41d9c78d31103f785169d892c57ae785ff336"), looks := false }, kinds := [], alts := [], laidByText := true, laidKinds := [.data, .pinned], laidTests := true, laidLooks := .later }
def ClippingWholeUptoCardSaid : Prop := Claim7.holds Tryd.pinned (.plain (OpenSpec.upto clippingWholeSpec)) clippingWholeUptoCard

/-- THE SECOND FORM's CARD OF 'narratorlaw45.ClippingBlock'. -/
def clippingBlockUptoCard : Claim7 := { stood := { row := clippingBlockUptoRow, standIns := [], harness := (true, "8e7ac72779964f15137a06a74bf41d9c78d31103f785169d892c57ae785ff336"), looks := false }, kinds := [], alts := [], laidByText := true, laidKinds := [.data, .pinned], laidTests := true, laidLooks := .later }
def ClippingBlockUptoCardSaid : Prop := Claim7.holds Tryd.pinned (.plain (OpenSpec.upto clippingBlockSpec)) clippingBlockUptoCard

/-- THE SECOND FORM's CARD OF 'narratorlaw45.ClippingFull'. -/
def clippingFullUptoCard : Claim7 := { stood := { row := clippingFullUptoRow, standIns := [], harness := (true, "8e7ac72779964f15137a06a74bf41d9c78d31103f785169d892c57ae785ff336"), looks := false }, kinds := [], alts := [], laidByText := true, laidKinds := [.data, .pinned], laidTests := true, laidLooks := .later }
def ClippingFullUptoCardSaid : Prop := Claim7.holds Tryd.pinned (.plain (OpenSpec.upto clippingFullSpec)) clippingFullUptoCard
end Rows
end Go.Proofs.YtmloijhdibicdaaDoor
