/-
  DERIVED. GIVEN WITH THE SEED: THE CARDS: each row of YtjgbflkjbehgaaaDoorRows.lean that lists a variable, with what it lists TIED to the program's text (the seventh form; the later family's looks); each row that meets fmt, with fmt's text TOLD by the authors' own Lean function (tested against real Go, not proved from fmt's source: count such statements apart). THE CARD IS WHAT COUNTS. Prove the row's statement (the work); the ties are given (YtjgbflkjbehgaaaDoorTie.lean); close each card by the builder's one call (the guide's Derived/Test/ToyasCard.lean, 'card_holds'). Laid BY PROGRAM, IN A SANDBOX (cutbox-door.mjs). By AI agents, Wed Nov 11 2026. No macro, syntax, notation, axiom, sorry.
-/
import Derived.Test.YtjgbflkjbehgaaaDoorRows
import GoSem.ClaimSeven
namespace Go.Proofs.YtjgbflkjbehgaaaDoor
namespace Rows

/-- THE TIED CARD OF 'narratorlaw50.DotsValues'. -/
def dotsValuesCard : Claim7 := { stood := { row := dotsValuesRow, standIns := [], harness := (true, "de9d00a48926d37c44748581513120bb8f22c3f17584ca0a0a088b1688cb7557"), looks := false }, kinds := [], alts := [], laidByText := true, laidKinds := [.data, .data, .data, .data, .pinned], laidTests := true, laidLooks := .later }
def DotsValuesCardSaid : Prop := Claim7.holds Tryd.pinned (.plain (OpenSpec.ofChange dotsValuesSpec)) dotsValuesCard

/-- THE TIED CARD OF 'narratorlaw50.DotsRoundTrip'. -/
def dotsRoundTripCard : Claim7 := { stood := { row := dotsRoundTripRow, standIns := [], harness := (true, "de9d00a48926d37c44748581513120bb8f22c3f17584ca0a0a088b1688cb7557"), looks := false }, kinds := [], alts := [], laidByText := true, laidKinds := [.data, .data, .data, .data, .pinned], laidTests := true, laidLooks := .later }
def DotsRoundTripCardSaid : Prop := Claim7.holds Tryd.pinned (.plain (OpenSpec.ofChange dotsRoundTripSpec)) dotsRoundTripCard

/-- THE TIED CARD OF 'narratorlaw50.DotsCanonical'. -/
def dotsCanonicalCard : Claim7 := { stood := { row := dotsCanonicalRow, standIns := [], harness := (true, "de9d00a48926d37c44748581513120bb8f22c3f17584ca0a0a088b1688cb7557"), looks := false }, kinds := [], alts := [], laidByText := true, laidKinds := [.data, .data, .data, .data, .pinned], laidTests := true, laidLooks := .later }
def DotsCanonicalCardSaid : Prop := Claim7.holds Tryd.pinned (.plain (OpenSpec.ofChange dotsCanonicalSpec)) dotsCanonicalCard

/-- THE TIED CARD OF 'narratorlaw50.DotsPairs'. -/
def dotsPairsCard : Claim7 := { stood := { row := dotsPairsRow, standIns := [], harness := (true, "de9d00a48926d37c44748581513120bb8f22c3f17584ca0a0a088b1688cb7557"), looks := false }, kinds := [], alts := [], laidByText := true, laidKinds := [.data, .data, .data, .data, .pinned], laidTests := true, laidLooks := .later }
def DotsPairsCardSaid : Prop := Claim7.holds Tryd.pinned (.plain (OpenSpec.ofChange dotsPairsSpec)) dotsPairsCard

/-- THE TIED CARD OF 'narratorlaw50.DotsRaised'. -/
def dotsRaisedCard : Claim7 := { stood := { row := dotsRaisedRow, standIns := [], harness := (true, "de9d00a48926d37c44748581513120bb8f22c3f17584ca0a0a088b1688cb7557"), looks := false }, kinds := [], alts := [], laidByText := true, laidKinds := [.data, .data, .data, .data, .pinned], laidTests := true, laidLooks := .later }
def DotsRaisedCardSaid : Prop := Claim7.holds Tryd.pinned (.plain (OpenSpec.ofChange dotsRaisedSpec)) dotsRaisedCard

/-- THE TIED CARD OF 'narratorlaw50.DotsUnion'. -/
def dotsUnionCard : Claim7 := { stood := { row := dotsUnionRow, standIns := [], harness := (true, "de9d00a48926d37c44748581513120bb8f22c3f17584ca0a0a088b1688cb7557"), looks := false }, kinds := [], alts := [], laidByText := true, laidKinds := [.data, .data, .data, .data, .pinned], laidTests := true, laidLooks := .later }
def DotsUnionCardSaid : Prop := Claim7.holds Tryd.pinned (.plain (OpenSpec.ofChange dotsUnionSpec)) dotsUnionCard

/-- THE TIED CARD OF 'narratorlaw50.DotsUnicode'. -/
def dotsUnicodeCard : Claim7 := { stood := { row := dotsUnicodeRow, standIns := [], harness := (true, "de9d00a48926d37c44748581513120bb8f22c3f17584ca0a0a088b1688cb7557"), looks := false }, kinds := [], alts := [], laidByText := true, laidKinds := [.data, .data, .data, .data, .pinned], laidTests := true, laidLooks := .later }
def DotsUnicodeCardSaid : Prop := Claim7.holds Tryd.pinned (.plain (OpenSpec.ofChange dotsUnicodeSpec)) dotsUnicodeCard

/-- THE TIED CARD OF 'narratorlaw50.DotsText'. -/
def dotsTextCard : Claim7 := { stood := { row := dotsTextRow, standIns := [], harness := (true, "de9d00a48926d37c44748581513120bb8f22c3f17584ca0a0a088b1688cb7557"), looks := false }, kinds := [], alts := [], laidByText := true, laidKinds := [.data, .data, .data, .data, .pinned], laidTests := true, laidLooks := .later }
def DotsTextCardSaid : Prop := Claim7.holds Tryd.pinned (.plain (OpenSpec.ofChange dotsTextSpec)) dotsTextCard

/-- THE SECOND FORM's CARD OF 'narratorlaw50.DotsValues'. -/
def dotsValuesUptoCard : Claim7 := { stood := { row := dotsValuesUptoRow, standIns := [], harness := (true, "de9d00a48926d37c44748581513120bb8f22c3f17584ca0a0a088b1688cb7557"), looks := false }, kinds := [], alts := [], laidByText := true, laidKinds := [.data, .data, .data, .data, .pinned], laidTests := true, laidLooks := .later }
def DotsValuesUptoCardSaid : Prop := Claim7.holds Tryd.pinned (.plain (OpenSpec.upto dotsValuesSpec)) dotsValuesUptoCard

/-- THE SECOND FORM's CARD OF 'narratorlaw50.DotsRoundTrip'. -/
def dotsRoundTripUptoCard : Claim7 := { stood := { row := dotsRoundTripUptoRow, standIns := [], harness := (true, "de9d00a48926d37c44748581513120bb8f22c3f17584ca0a0a088b1688cb7557"), looks := false }, kinds := [], alts := [], laidByText := true, laidKinds := [.data, .data, .data, .data, .pinned], laidTests := true, laidLooks := .later }
def DotsRoundTripUptoCardSaid : Prop := Claim7.holds Tryd.pinned (.plain (OpenSpec.upto dotsRoundTripSpec)) dotsRoundTripUptoCard

/-- THE SECOND FORM's CARD OF 'narratorlaw50.DotsCanonical'. -/
def dotsCanonicalUptoCard : Claim7 := { stood := { row := dotsCanonicalUptoRow, standIns := [], harness := (true, "de9d00a48926d37c44748581513120bb8f22c3f17584ca0a0a088b1688cb7557"), looks := false }, kinds := [], alts := [], laidByText := true, laidKinds := [.data, .data, .data, .data, .pinned], laidTests := true, laidLooks := .later }
def DotsCanonicalUptoCardSaid : Prop := Claim7.holds Tryd.pinned (.plain (OpenSpec.upto dotsCanonicalSpec)) dotsCanonicalUptoCard

/-- THE SECOND FORM's CARD OF 'narratorlaw50.DotsPairs'. -/
def dotsPairsUptoCard : Claim7 := { stood := { row := dotsPairsUptoRow, standIns := [], harness := (true, "de9d00a48926d37c44748581513120bb8f22c3f17584ca0a0a088b1688cb7557"), looks := false }, kinds := [], alts := [], laidByText := true, laidKinds := [.data, .data, .data, .data, .pinned], laidTests := true, laidLooks := .later }
def DotsPairsUptoCardSaid : Prop := Claim7.holds Tryd.pinned (.plain (OpenSpec.upto dotsPairsSpec)) dotsPairsUptoCard

/-- THE SECOND FORM's CARD OF 'narratorlaw50.DotsRaised'. -/
def dotsRaisedUptoCard : Claim7 := { stood := { row := dotsRaisedUptoRow, standIns := [], harness := (true, "de9d00a48926d37c44748581513120bb8f22c3f17584ca0a0a088b1688cb7557"), looks := false }, kinds := [], alts := [], laidByText := true, laidKinds := [.data, .data, .data, .data, .pinned], laidTests := true, laidLooks := .later }
def DotsRaisedUptoCardSaid : Prop := Claim7.holds Tryd.pinned (.plain (OpenSpec.upto dotsRaisedSpec)) dotsRaisedUptoCard

/-- THE SECOND FORM's CARD OF 'narratorlaw50.DotsUnion'. -/
def dotsUnionUptoCard : Claim7 := { stood := { row := dotsUnionUptoRow, standIns := [], harness := (true, "de9d00a48926d37c44748581513120bb8f22c3f17584ca0a0a088b1688cb7557"), looks := false }, kinds := [], alts := [], laidByText := true, laidKinds := [.data, .data, .data, .data, .pinned], laidTests := true, laidLooks := .later }
def DotsUnionUptoCardSaid : Prop := Claim7.holds Tryd.pinned (.plain (OpenSpec.upto dotsUnionSpec)) dotsUnionUptoCard

/-- THE SECOND FORM's CARD OF 'narratorlaw50.DotsUnicode'. -/
def dotsUnicodeUptoCard : Claim7 := { stood := { row := dotsUnicodeUptoRow, standIns := [], harness := (true, "de9d00a48926d37c44748581513120bb8f22c3f17584ca0a0a088b1688cb7557"), looks := false }, kinds := [], alts := [], laidByText := true, laidKinds := [.data, .data, .data, .data, .pinned], laidTests := true, laidLooks := .later }
def DotsUnicodeUptoCardSaid : Prop := Claim7.holds Tryd.pinned (.plain (OpenSpec.upto dotsUnicodeSpec)) dotsUnicodeUptoCard

/-- THE SECOND FORM's CARD OF 'narratorlaw50.DotsText'. -/
def dotsTextUptoCard : Claim7 := { stood := { row := dotsTextUptoRow, standIns := [], harness := (true, "de9d00a48926d37c44748581513120bb8f22c3f17584ca0a0a088b1688cb7557"), looks := false }, kinds := [], alts := [], laidByText := true, laidKinds := [.data, .data, .data, .data, .pinned], laidTests := true, laidLooks := .later }
def DotsTextUptoCardSaid : Prop := Claim7.holds Tryd.pinned (.plain (OpenSpec.upto dotsTextSpec)) dotsTextUptoCard
end Rows
end Go.Proofs.YtjgbflkjbehgaaaDoor
