/-
  DERIVED. GIVEN WITH THE SEED: THE CARDS: each row of YtalmbcelkllpjaaDoorRows.lean that lists a variable, with what it lists TIED to the program's text (the seventh form; the later family's looks); each row that meets fmt, with fmt's text TOLD by the authors' own Lean function (tested against real Go, not proved from fmt's source: count such statements apart). THE CARD IS WHAT COUNTS. Prove the row's statement (the work); the ties are given (YtalmbcelkllpjaaDoorTie.lean); close each card by the builder's one call (the guide's Derived/Test/ToyasCard.lean, 'card_holds'). Laid BY PROGRAM, IN A SANDBOX (cutbox-door.mjs). By AI agents, Wed Nov 11 2026. No macro, syntax, notation, axiom, sorry.
-/
import Derived.Test.YtalmbcelkllpjaaDoorRows
import GoSem.ClaimSeven
namespace Go.Proofs.YtalmbcelkllpjaaDoor
namespace Rows

/-- THE TIED CARD OF 'narratorlaw27.ProgressTexts'. -/
def progressTextsCard : Claim7 := { stood := { row := progressTextsRow, standIns := [], harness := (true, "ff5ba7d2b976294fbc919571b59d3636bbe8842e2857252352873aab3aac4d46"), looks := false }, kinds := [], alts := [], laidByText := true, laidKinds := [.data, .data, .data, .data, .pinned], laidTests := true, laidLooks := .later }
def ProgressTextsCardSaid : Prop := Claim7.holds Tryd.pinned (.plain (OpenSpec.ofChange progressTextsSpec)) progressTextsCard

/-- THE TIED CARD OF 'narratorlaw27.ProgressNumbers'. -/
def progressNumbersCard : Claim7 := { stood := { row := progressNumbersRow, standIns := [], harness := (true, "ff5ba7d2b976294fbc919571b59d3636bbe8842e2857252352873aab3aac4d46"), looks := false }, kinds := [], alts := [], laidByText := true, laidKinds := [.data, .data, .data, .data, .pinned], laidTests := true, laidLooks := .later }
def ProgressNumbersCardSaid : Prop := Claim7.holds Tryd.pinned (.plain (OpenSpec.ofChange progressNumbersSpec)) progressNumbersCard

/-- THE TIED CARD OF 'narratorlaw27.ProgressBars'. -/
def progressBarsCard : Claim7 := { stood := { row := progressBarsRow, standIns := [], harness := (true, "ff5ba7d2b976294fbc919571b59d3636bbe8842e2857252352873aab3aac4d46"), looks := false }, kinds := [], alts := [], laidByText := true, laidKinds := [.data, .data, .data, .data, .pinned], laidTests := true, laidLooks := .later }
def ProgressBarsCardSaid : Prop := Claim7.holds Tryd.pinned (.plain (OpenSpec.ofChange progressBarsSpec)) progressBarsCard

/-- THE TIED CARD OF 'narratorlaw27.ProgressFirst'. -/
def progressFirstCard : Claim7 := { stood := { row := progressFirstRow, standIns := [], harness := (true, "ff5ba7d2b976294fbc919571b59d3636bbe8842e2857252352873aab3aac4d46"), looks := false }, kinds := [], alts := [], laidByText := true, laidKinds := [.data, .data, .data, .data, .pinned], laidTests := true, laidLooks := .later }
def ProgressFirstCardSaid : Prop := Claim7.holds Tryd.pinned (.plain (OpenSpec.ofChange progressFirstSpec)) progressFirstCard

/-- THE TIED CARD OF 'narratorlaw27.ProgressExchange'. -/
def progressExchangeCard : Claim7 := { stood := { row := progressExchangeRow, standIns := [], harness := (true, "ff5ba7d2b976294fbc919571b59d3636bbe8842e2857252352873aab3aac4d46"), looks := false }, kinds := [], alts := [], laidByText := true, laidKinds := [.data, .data, .data, .data, .pinned], laidTests := true, laidLooks := .later }
def ProgressExchangeCardSaid : Prop := Claim7.holds Tryd.pinned (.plain (OpenSpec.ofChange progressExchangeSpec)) progressExchangeCard

/-- THE TIED CARD OF 'narratorlaw27.ProgressStyles'. -/
def progressStylesCard : Claim7 := { stood := { row := progressStylesRow, standIns := [], harness := (true, "ff5ba7d2b976294fbc919571b59d3636bbe8842e2857252352873aab3aac4d46"), looks := false }, kinds := [], alts := [], laidByText := true, laidKinds := [.data, .data, .data, .data, .pinned], laidTests := true, laidLooks := .later }
def ProgressStylesCardSaid : Prop := Claim7.holds Tryd.pinned (.plain (OpenSpec.ofChange progressStylesSpec)) progressStylesCard

/-- THE TIED CARD OF 'narratorlaw27.ProgressFind'. -/
def progressFindCard : Claim7 := { stood := { row := progressFindRow, standIns := [], harness := (true, "ff5ba7d2b976294fbc919571b59d3636bbe8842e2857252352873aab3aac4d46"), looks := false }, kinds := [], alts := [], laidByText := true, laidKinds := [.data, .data, .data, .data, .pinned], laidTests := true, laidLooks := .later }
def ProgressFindCardSaid : Prop := Claim7.holds Tryd.pinned (.plain (OpenSpec.ofChange progressFindSpec)) progressFindCard

/-- THE TIED CARD OF 'narratorlaw27.ProgressRegions'. -/
def progressRegionsCard : Claim7 := { stood := { row := progressRegionsRow, standIns := [], harness := (true, "ff5ba7d2b976294fbc919571b59d3636bbe8842e2857252352873aab3aac4d46"), looks := false }, kinds := [], alts := [], laidByText := true, laidKinds := [.data, .data, .data, .data, .pinned], laidTests := true, laidLooks := .later }
def ProgressRegionsCardSaid : Prop := Claim7.holds Tryd.pinned (.plain (OpenSpec.ofChange progressRegionsSpec)) progressRegionsCard

/-- THE SECOND FORM's CARD OF 'narratorlaw27.ProgressTexts'. -/
def progressTextsUptoCard : Claim7 := { stood := { row := progressTextsUptoRow, standIns := [], harness := (true, "ff5ba7d2b976294fbc919571b59d3636bbe8842e2857252352873aab3aac4d46"), looks := false }, kinds := [], alts := [], laidByText := true, laidKinds := [.data, .data, .data, .data, .pinned], laidTests := true, laidLooks := .later }
def ProgressTextsUptoCardSaid : Prop := Claim7.holds Tryd.pinned (.plain (OpenSpec.upto progressTextsSpec)) progressTextsUptoCard

/-- THE SECOND FORM's CARD OF 'narratorlaw27.ProgressNumbers'. -/
def progressNumbersUptoCard : Claim7 := { stood := { row := progressNumbersUptoRow, standIns := [], harness := (true, "ff5ba7d2b976294fbc919571b59d3636bbe8842e2857252352873aab3aac4d46"), looks := false }, kinds := [], alts := [], laidByText := true, laidKinds := [.data, .data, .data, .data, .pinned], laidTests := true, laidLooks := .later }
def ProgressNumbersUptoCardSaid : Prop := Claim7.holds Tryd.pinned (.plain (OpenSpec.upto progressNumbersSpec)) progressNumbersUptoCard

/-- THE SECOND FORM's CARD OF 'narratorlaw27.ProgressBars'. -/
def progressBarsUptoCard : Claim7 := { stood := { row := progressBarsUptoRow, standIns := [], harness := (true, "ff5ba7d2b976294fbc919571b59d3636bbe8842e2857252352873aab3aac4d46"), looks := false }, kinds := [], alts := [], laidByText := true, laidKinds := [.data, .data, .data, .data, .pinned], laidTests := true, laidLooks := .later }
def ProgressBarsUptoCardSaid : Prop := Claim7.holds Tryd.pinned (.plain (OpenSpec.upto progressBarsSpec)) progressBarsUptoCard

/-- THE SECOND FORM's CARD OF 'narratorlaw27.ProgressFirst'. -/
def progressFirstUptoCard : Claim7 := { stood := { row := progressFirstUptoRow, standIns := [], harness := (true, "ff5ba7d2b976294fbc919571b59d3636bbe8842e2857252352873aab3aac4d46"), looks := false }, kinds := [], alts := [], laidByText := true, laidKinds := [.data, .data, .data, .data, .pinned], laidTests := true, laidLooks := .later }
def ProgressFirstUptoCardSaid : Prop := Claim7.holds Tryd.pinned (.plain (OpenSpec.upto progressFirstSpec)) progressFirstUptoCard

/-- THE SECOND FORM's CARD OF 'narratorlaw27.ProgressExchange'. -/
def progressExchangeUptoCard : Claim7 := { stood := { row := progressExchangeUptoRow, standIns := [], harness := (true, "ff5ba7d2b976294fbc919571b59d3636bbe8842e2857252352873aab3aac4d46"), looks := false }, kinds := [], alts := [], laidByText := true, laidKinds := [.data, .data, .data, .data, .pinned], laidTests := true, laidLooks := .later }
def ProgressExchangeUptoCardSaid : Prop := Claim7.holds Tryd.pinned (.plain (OpenSpec.upto progressExchangeSpec)) progressExchangeUptoCard

/-- THE SECOND FORM's CARD OF 'narratorlaw27.ProgressStyles'. -/
def progressStylesUptoCard : Claim7 := { stood := { row := progressStylesUptoRow, standIns := [], harness := (true, "ff5ba7d2b976294fbc919571b59d3636bbe8842e2857252352873aab3aac4d46"), looks := false }, kinds := [], alts := [], laidByText := true, laidKinds := [.data, .data, .data, .data, .pinned], laidTests := true, laidLooks := .later }
def ProgressStylesUptoCardSaid : Prop := Claim7.holds Tryd.pinned (.plain (OpenSpec.upto progressStylesSpec)) progressStylesUptoCard

/-- THE SECOND FORM's CARD OF 'narratorlaw27.ProgressFind'. -/
def progressFindUptoCard : Claim7 := { stood := { row := progressFindUptoRow, standIns := [], harness := (true, "ff5ba7d2b976294fbc919571b59d3636bbe8842e2857252352873aab3aac4d46"), looks := false }, kinds := [], alts := [], laidByText := true, laidKinds := [.data, .data, .data, .data, .pinned], laidTests := true, laidLooks := .later }
def ProgressFindUptoCardSaid : Prop := Claim7.holds Tryd.pinned (.plain (OpenSpec.upto progressFindSpec)) progressFindUptoCard

/-- THE SECOND FORM's CARD OF 'narratorlaw27.ProgressRegions'. -/
def progressRegionsUptoCard : Claim7 := { stood := { row := progressRegionsUptoRow, standIns := [], harness := (true, "ff5ba7d2b976294fbc919571b59d3636bbe8842e2857252352873aab3aac4d46"), looks := false }, kinds := [], alts := [], laidByText := true, laidKinds := [.data, .data, .data, .data, .pinned], laidTests := true, laidLooks := .later }
def ProgressRegionsUptoCardSaid : Prop := Claim7.holds Tryd.pinned (.plain (OpenSpec.upto progressRegionsSpec)) progressRegionsUptoCard
end Rows
end Go.Proofs.YtalmbcelkllpjaaDoor
