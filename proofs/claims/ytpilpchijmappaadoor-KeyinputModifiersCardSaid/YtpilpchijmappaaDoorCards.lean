/-
  DERIVED. GIVEN WITH THE SEED: THE CARDS: each row of YtpilpchijmappaaDoorRows.lean that lists a variable, with what it lists TIED to the program's text (the seventh form; the later family's looks); each row that meets fmt, with fmt's text TOLD by the authors' own Lean function (tested against real Go, not proved from fmt's source: count such statements apart). THE CARD IS WHAT COUNTS. Prove the row's statement (the work); the ties are given (YtpilpchijmappaaDoorTie.lean); close each card by the builder's one call (the guide's Derived/Test/ToyasCard.lean, 'card_holds'). Laid BY PROGRAM, IN A SANDBOX (cutbox-door.mjs). By AI agents, Wed Nov 11 2026. No macro, syntax, notation, axiom, sorry.
-/
import Derived.Test.YtpilpchijmappaaDoorRows
import GoSem.ClaimSeven
namespace Go.Proofs.YtpilpchijmappaaDoor
namespace Rows

/-- THE TIED CARD OF 'narratorlaw14.KeyinputEncode'. -/
def keyinputEncodeCard : Claim7 := { stood := { row := keyinputEncodeRow, standIns := [], harness := (true, "190cd997bf178fedc1ac69721a6c97c95247f7f60806483e026b8616edd9050c"), looks := false }, kinds := [], alts := [], laidByText := true, laidKinds := [.data, .data, .data], laidTests := true, laidLooks := .later }
def KeyinputEncodeCardSaid : Prop := Claim7.holds Tryd.pinned (.plain (OpenSpec.ofChange keyinputEncodeSpec)) keyinputEncodeCard

/-- THE TIED CARD OF 'narratorlaw14.KeyinputDifferent'. -/
def keyinputDifferentCard : Claim7 := { stood := { row := keyinputDifferentRow, standIns := [], harness := (true, "190cd997bf178fedc1ac69721a6c97c95247f7f60806483e026b8616edd9050c"), looks := false }, kinds := [], alts := [], laidByText := true, laidKinds := [.data, .data, .data], laidTests := true, laidLooks := .later }
def KeyinputDifferentCardSaid : Prop := Claim7.holds Tryd.pinned (.plain (OpenSpec.ofChange keyinputDifferentSpec)) keyinputDifferentCard

/-- THE TIED CARD OF 'narratorlaw14.KeyinputModes'. -/
def keyinputModesCard : Claim7 := { stood := { row := keyinputModesRow, standIns := [], harness := (true, "190cd997bf178fedc1ac69721a6c97c95247f7f60806483e026b8616edd9050c"), looks := false }, kinds := [], alts := [], laidByText := true, laidKinds := [.data, .data, .data], laidTests := true, laidLooks := .later }
def KeyinputModesCardSaid : Prop := Claim7.holds Tryd.pinned (.plain (OpenSpec.ofChange keyinputModesSpec)) keyinputModesCard

/-- THE TIED CARD OF 'narratorlaw14.KeyinputModifiers'. -/
def keyinputModifiersCard : Claim7 := { stood := { row := keyinputModifiersRow, standIns := [], harness := (true, "190cd997bf178fedc1ac69721a6c97c95247f7f60806483e026b8616edd9050c"), looks := false }, kinds := [], alts := [], laidByText := true, laidKinds := [.data, .data, .data], laidTests := true, laidLooks := .later }
def KeyinputModifiersCardSaid : Prop := Claim7.holds Tryd.pinned (.plain (OpenSpec.ofChange keyinputModifiersSpec)) keyinputModifiersCard

/-- THE TIED CARD OF 'narratorlaw14.KeyinputDecode'. -/
def keyinputDecodeCard : Claim7 := { stood := { row := keyinputDecodeRow, standIns := [], harness := (true, "190cd997bf178fedc1ac69721a6c97c95247f7f60806483e026b8616edd9050c"), looks := false }, kinds := [], alts := [], laidByText := true, laidKinds := [.data, .data, .data, .data, .pinned], laidTests := true, laidLooks := .later }
def KeyinputDecodeCardSaid : Prop := Claim7.holds Tryd.pinned (.plain (OpenSpec.ofChange keyinputDecodeSpec)) keyinputDecodeCard

/-- THE TIED CARD OF 'narratorlaw14.KeyinputRoundTrip'. -/
def keyinputRoundTripCard : Claim7 := { stood := { row := keyinputRoundTripRow, standIns := [], harness := (true, "190cd997bf178fedc1ac69721a6c97c95247f7f60806483e026b8616edd9050c"), looks := false }, kinds := [], alts := [], laidByText := true, laidKinds := [.data, .data, .data, .data, .pinned], laidTests := true, laidLooks := .later }
def KeyinputRoundTripCardSaid : Prop := Claim7.holds Tryd.pinned (.plain (OpenSpec.ofChange keyinputRoundTripSpec)) keyinputRoundTripCard

/-- THE TIED CARD OF 'narratorlaw14.KeyinputLongest'. -/
def keyinputLongestCard : Claim7 := { stood := { row := keyinputLongestRow, standIns := [], harness := (true, "190cd997bf178fedc1ac69721a6c97c95247f7f60806483e026b8616edd9050c"), looks := false }, kinds := [], alts := [], laidByText := true, laidKinds := [.data, .data, .data, .data, .pinned], laidTests := true, laidLooks := .later }
def KeyinputLongestCardSaid : Prop := Claim7.holds Tryd.pinned (.plain (OpenSpec.ofChange keyinputLongestSpec)) keyinputLongestCard

/-- THE TIED CARD OF 'narratorlaw14.KeyinputSequences'. -/
def keyinputSequencesCard : Claim7 := { stood := { row := keyinputSequencesRow, standIns := [], harness := (true, "190cd997bf178fedc1ac69721a6c97c95247f7f60806483e026b8616edd9050c"), looks := false }, kinds := [], alts := [], laidByText := true, laidKinds := [.data, .data, .data, .data, .pinned], laidTests := true, laidLooks := .later }
def KeyinputSequencesCardSaid : Prop := Claim7.holds Tryd.pinned (.plain (OpenSpec.ofChange keyinputSequencesSpec)) keyinputSequencesCard

/-- THE SECOND FORM's CARD OF 'narratorlaw14.KeyinputEncode'. -/
def keyinputEncodeUptoCard : Claim7 := { stood := { row := keyinputEncodeUptoRow, standIns := [], harness := (true, "190cd997bf178fedc1ac69721a6c97c95247f7f60806483e026b8616edd9050c"), looks := false }, kinds := [], alts := [], laidByText := true, laidKinds := [.data, .data, .data], laidTests := true, laidLooks := .later }
def KeyinputEncodeUptoCardSaid : Prop := Claim7.holds Tryd.pinned (.plain (OpenSpec.upto keyinputEncodeSpec)) keyinputEncodeUptoCard

/-- THE SECOND FORM's CARD OF 'narratorlaw14.KeyinputDifferent'. -/
def keyinputDifferentUptoCard : Claim7 := { stood := { row := keyinputDifferentUptoRow, standIns := [], harness := (true, "190cd997bf178fedc1ac69721a6c97c95247f7f60806483e026b8616edd9050c"), looks := false }, kinds := [], alts := [], laidByText := true, laidKinds := [.data, .data, .data], laidTests := true, laidLooks := .later }
def KeyinputDifferentUptoCardSaid : Prop := Claim7.holds Tryd.pinned (.plain (OpenSpec.upto keyinputDifferentSpec)) keyinputDifferentUptoCard

/-- THE SECOND FORM's CARD OF 'narratorlaw14.KeyinputModes'. -/
def keyinputModesUptoCard : Claim7 := { stood := { row := keyinputModesUptoRow, standIns := [], harness := (true, "190cd997bf178fedc1ac69721a6c97c95247f7f60806483e026b8616edd9050c"), looks := false }, kinds := [], alts := [], laidByText := true, laidKinds := [.data, .data, .data], laidTests := true, laidLooks := .later }
def KeyinputModesUptoCardSaid : Prop := Claim7.holds Tryd.pinned (.plain (OpenSpec.upto keyinputModesSpec)) keyinputModesUptoCard

/-- THE SECOND FORM's CARD OF 'narratorlaw14.KeyinputModifiers'. -/
def keyinputModifiersUptoCard : Claim7 := { stood := { row := keyinputModifiersUptoRow, standIns := [], harness := (true, "190cd997bf178fedc1ac69721a6c97c95247f7f60806483e026b8616edd9050c"), looks := false }, kinds := [], alts := [], laidByText := true, laidKinds := [.data, .data, .data], laidTests := true, laidLooks := .later }
def KeyinputModifiersUptoCardSaid : Prop := Claim7.holds Tryd.pinned (.plain (OpenSpec.upto keyinputModifiersSpec)) keyinputModifiersUptoCard

/-- THE SECOND FORM's CARD OF 'narratorlaw14.KeyinputDecode'. -/
def keyinputDecodeUptoCard : Claim7 := { stood := { row := keyinputDecodeUptoRow, standIns := [], harness := (true, "190cd997bf178fedc1ac69721a6c97c95247f7f60806483e026b8616edd9050c"), looks := false }, kinds := [], alts := [], laidByText := true, laidKinds := [.data, .data, .data, .data, .pinned], laidTests := true, laidLooks := .later }
def KeyinputDecodeUptoCardSaid : Prop := Claim7.holds Tryd.pinned (.plain (OpenSpec.upto keyinputDecodeSpec)) keyinputDecodeUptoCard

/-- THE SECOND FORM's CARD OF 'narratorlaw14.KeyinputRoundTrip'. -/
def keyinputRoundTripUptoCard : Claim7 := { stood := { row := keyinputRoundTripUptoRow, standIns := [], harness := (true, "190cd997bf178fedc1ac69721a6c97c95247f7f60806483e026b8616edd9050c"), looks := false }, kinds := [], alts := [], laidByText := true, laidKinds := [.data, .data, .data, .data, .pinned], laidTests := true, laidLooks := .later }
def KeyinputRoundTripUptoCardSaid : Prop := Claim7.holds Tryd.pinned (.plain (OpenSpec.upto keyinputRoundTripSpec)) keyinputRoundTripUptoCard

/-- THE SECOND FORM's CARD OF 'narratorlaw14.KeyinputLongest'. -/
def keyinputLongestUptoCard : Claim7 := { stood := { row := keyinputLongestUptoRow, standIns := [], harness := (true, "190cd997bf178fedc1ac69721a6c97c95247f7f60806483e026b8616edd9050c"), looks := false }, kinds := [], alts := [], laidByText := true, laidKinds := [.data, .data, .data, .data, .pinned], laidTests := true, laidLooks := .later }
def KeyinputLongestUptoCardSaid : Prop := Claim7.holds Tryd.pinned (.plain (OpenSpec.upto keyinputLongestSpec)) keyinputLongestUptoCard

/-- THE SECOND FORM's CARD OF 'narratorlaw14.KeyinputSequences'. -/
def keyinputSequencesUptoCard : Claim7 := { stood := { row := keyinputSequencesUptoRow, standIns := [], harness := (true, "190cd997bf178fedc1ac69721a6c97c95247f7f60806483e026b8616edd9050c"), looks := false }, kinds := [], alts := [], laidByText := true, laidKinds := [.data, .data, .data, .data, .pinned], laidTests := true, laidLooks := .later }
def KeyinputSequencesUptoCardSaid : Prop := Claim7.holds Tryd.pinned (.plain (OpenSpec.upto keyinputSequencesSpec)) keyinputSequencesUptoCard
end Rows
end Go.Proofs.YtpilpchijmappaaDoor
