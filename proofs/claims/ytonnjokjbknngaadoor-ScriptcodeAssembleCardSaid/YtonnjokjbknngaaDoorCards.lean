/-
  DERIVED. GIVEN WITH THE SEED: THE CARDS: each row of YtonnjokjbknngaaDoorRows.lean that lists a variable, with what it lists TIED to the program's text (the seventh form; the later family's looks); each row that meets fmt, with fmt's text TOLD by the authors' own Lean function (tested against real Go, not proved from fmt's source: count such statements apart). THE CARD IS WHAT COUNTS. Prove the row's statement (the work); the ties are given (YtonnjokjbknngaaDoorTie.lean); close each card by the builder's one call (the guide's Derived/Test/ToyasCard.lean, 'card_holds'). Laid BY PROGRAM, IN A SANDBOX (cutbox-door.mjs). By AI agents, Wed Nov 11 2026. No macro, syntax, notation, axiom, sorry.
-/
import Derived.Test.YtonnjokjbknngaaDoorRows
import GoSem.ClaimSeven
namespace Go.Proofs.YtonnjokjbknngaaDoor
namespace Rows

/-- THE TIED CARD OF 'narratorlaw46.ScriptcodeAssemble'. -/
def scriptcodeAssembleCard : Claim7 := { stood := { row := scriptcodeAssembleRow, standIns := [], harness := (true, "2105859526920603e10dab3419a92deaa269379e30a1e67e2f4b6e3b10fbf4a6"), looks := false }, kinds := [], alts := [], laidByText := true, laidKinds := [.data, .pinned], laidTests := true, laidLooks := .later }
def ScriptcodeAssembleCardSaid : Prop := Claim7.holds Tryd.pinned (.plain (OpenSpec.ofChange scriptcodeAssembleSpec)) scriptcodeAssembleCard

/-- THE TIED CARD OF 'narratorlaw46.ScriptcodeDecode'. -/
def scriptcodeDecodeCard : Claim7 := { stood := { row := scriptcodeDecodeRow, standIns := [], harness := (true, "2105859526920603e10dab3419a92deaa269379e30a1e67e2f4b6e3b10fbf4a6"), looks := false }, kinds := [], alts := [], laidByText := true, laidKinds := [.data, .pinned], laidTests := true, laidLooks := .later }
def ScriptcodeDecodeCardSaid : Prop := Claim7.holds Tryd.pinned (.plain (OpenSpec.ofChange scriptcodeDecodeSpec)) scriptcodeDecodeCard

/-- THE TIED CARD OF 'narratorlaw46.ScriptcodeCanonical'. -/
def scriptcodeCanonicalCard : Claim7 := { stood := { row := scriptcodeCanonicalRow, standIns := [], harness := (true, "2105859526920603e10dab3419a92deaa269379e30a1e67e2f4b6e3b10fbf4a6"), looks := false }, kinds := [], alts := [], laidByText := true, laidKinds := [.data, .pinned], laidTests := true, laidLooks := .later }
def ScriptcodeCanonicalCardSaid : Prop := Claim7.holds Tryd.pinned (.plain (OpenSpec.ofChange scriptcodeCanonicalSpec)) scriptcodeCanonicalCard

/-- THE TIED CARD OF 'narratorlaw46.ScriptcodeLayout'. -/
def scriptcodeLayoutCard : Claim7 := { stood := { row := scriptcodeLayoutRow, standIns := [], harness := (true, "2105859526920603e10dab3419a92deaa269379e30a1e67e2f4b6e3b10fbf4a6"), looks := false }, kinds := [], alts := [], laidByText := true, laidKinds := [.data, .pinned], laidTests := true, laidLooks := .later }
def ScriptcodeLayoutCardSaid : Prop := Claim7.holds Tryd.pinned (.plain (OpenSpec.ofChange scriptcodeLayoutSpec)) scriptcodeLayoutCard

/-- THE TIED CARD OF 'narratorlaw46.ScriptcodeLabels'. -/
def scriptcodeLabelsCard : Claim7 := { stood := { row := scriptcodeLabelsRow, standIns := [], harness := (true, "2105859526920603e10dab3419a92deaa269379e30a1e67e2f4b6e3b10fbf4a6"), looks := false }, kinds := [], alts := [], laidByText := true, laidKinds := [.data, .pinned], laidTests := true, laidLooks := .later }
def ScriptcodeLabelsCardSaid : Prop := Claim7.holds Tryd.pinned (.plain (OpenSpec.ofChange scriptcodeLabelsSpec)) scriptcodeLabelsCard

/-- THE TIED CARD OF 'narratorlaw46.ScriptcodeBackward'. -/
def scriptcodeBackwardCard : Claim7 := { stood := { row := scriptcodeBackwardRow, standIns := [], harness := (true, "2105859526920603e10dab3419a92deaa269379e30a1e67e2f4b6e3b10fbf4a6"), looks := false }, kinds := [], alts := [], laidByText := true, laidKinds := [.data, .pinned], laidTests := true, laidLooks := .later }
def ScriptcodeBackwardCardSaid : Prop := Claim7.holds Tryd.pinned (.plain (OpenSpec.ofChange scriptcodeBackwardSpec)) scriptcodeBackwardCard

/-- THE TIED CARD OF 'narratorlaw46.ScriptcodeRoundTrips'. -/
def scriptcodeRoundTripsCard : Claim7 := { stood := { row := scriptcodeRoundTripsRow, standIns := [], harness := (true, "2105859526920603e10dab3419a92deaa269379e30a1e67e2f4b6e3b10fbf4a6"), looks := false }, kinds := [], alts := [], laidByText := true, laidKinds := [.data, .data, .data, .data, .pinned], laidTests := true, laidLooks := .later }
def ScriptcodeRoundTripsCardSaid : Prop := Claim7.holds Tryd.pinned (.plain (OpenSpec.ofChange scriptcodeRoundTripsSpec)) scriptcodeRoundTripsCard

/-- THE TIED CARD OF 'narratorlaw46.ScriptcodeCheck'. -/
def scriptcodeCheckCard : Claim7 := { stood := { row := scriptcodeCheckRow, standIns := [], harness := (true, "2105859526920603e10dab3419a92deaa269379e30a1e67e2f4b6e3b10fbf4a6"), looks := false }, kinds := [], alts := [], laidByText := true, laidKinds := [.data, .data, .data, .data, .pinned], laidTests := true, laidLooks := .later }
def ScriptcodeCheckCardSaid : Prop := Claim7.holds Tryd.pinned (.plain (OpenSpec.ofChange scriptcodeCheckSpec)) scriptcodeCheckCard

/-- THE SECOND FORM's CARD OF 'narratorlaw46.ScriptcodeAssemble'. -/
def scriptcodeAssembleUptoCard : Claim7 := { stood := { row := scriptcodeAssembleUptoRow, standIns := [], harness := (true, "2105859526920603e10dab3419a92deaa269379e30a1e67e2f4b6e3b10fbf4a6"), looks := false }, kinds := [], alts := [], laidByText := true, laidKinds := [.data, .pinned], laidTests := true, laidLooks := .later }
def ScriptcodeAssembleUptoCardSaid : Prop := Claim7.holds Tryd.pinned (.plain (OpenSpec.upto scriptcodeAssembleSpec)) scriptcodeAssembleUptoCard

/-- THE SECOND FORM's CARD OF 'narratorlaw46.ScriptcodeDecode'. -/
def scriptcodeDecodeUptoCard : Claim7 := { stood := { row := scriptcodeDecodeUptoRow, standIns := [], harness := (true, "2105859526920603e10dab3419a92deaa269379e30a1e67e2f4b6e3b10fbf4a6"), looks := false }, kinds := [], alts := [], laidByText := true, laidKinds := [.data, .pinned], laidTests := true, laidLooks := .later }
def ScriptcodeDecodeUptoCardSaid : Prop := Claim7.holds Tryd.pinned (.plain (OpenSpec.upto scriptcodeDecodeSpec)) scriptcodeDecodeUptoCard

/-- THE SECOND FORM's CARD OF 'narratorlaw46.ScriptcodeCanonical'. -/
def scriptcodeCanonicalUptoCard : Claim7 := { stood := { row := scriptcodeCanonicalUptoRow, standIns := [], harness := (true, "2105859526920603e10dab3419a92deaa269379e30a1e67e2f4b6e3b10fbf4a6"), looks := false }, kinds := [], alts := [], laidByText := true, laidKinds := [.data, .pinned], laidTests := true, laidLooks := .later }
def ScriptcodeCanonicalUptoCardSaid : Prop := Claim7.holds Tryd.pinned (.plain (OpenSpec.upto scriptcodeCanonicalSpec)) scriptcodeCanonicalUptoCard

/-- THE SECOND FORM's CARD OF 'narratorlaw46.ScriptcodeLayout'. -/
def scriptcodeLayoutUptoCard : Claim7 := { stood := { row := scriptcodeLayoutUptoRow, standIns := [], harness := (true, "2105859526920603e10dab3419a92deaa269379e30a1e67e2f4b6e3b10fbf4a6"), looks := false }, kinds := [], alts := [], laidByText := true, laidKinds := [.data, .pinned], laidTests := true, laidLooks := .later }
def ScriptcodeLayoutUptoCardSaid : Prop := Claim7.holds Tryd.pinned (.plain (OpenSpec.upto scriptcodeLayoutSpec)) scriptcodeLayoutUptoCard

/-- THE SECOND FORM's CARD OF 'narratorlaw46.ScriptcodeLabels'. -/
def scriptcodeLabelsUptoCard : Claim7 := { stood := { row := scriptcodeLabelsUptoRow, standIns := [], harness := (true, "2105859526920603e10dab3419a92deaa269379e30a1e67e2f4b6e3b10fbf4a6"), looks := false }, kinds := [], alts := [], laidByText := true, laidKinds := [.data, .pinned], laidTests := true, laidLooks := .later }
def ScriptcodeLabelsUptoCardSaid : Prop := Claim7.holds Tryd.pinned (.plain (OpenSpec.upto scriptcodeLabelsSpec)) scriptcodeLabelsUptoCard

/-- THE SECOND FORM's CARD OF 'narratorlaw46.ScriptcodeBackward'. -/
def scriptcodeBackwardUptoCard : Claim7 := { stood := { row := scriptcodeBackwardUptoRow, standIns := [], harness := (true, "2105859526920603e10dab3419a92deaa269379e30a1e67e2f4b6e3b10fbf4a6"), looks := false }, kinds := [], alts := [], laidByText := true, laidKinds := [.data, .pinned], laidTests := true, laidLooks := .later }
def ScriptcodeBackwardUptoCardSaid : Prop := Claim7.holds Tryd.pinned (.plain (OpenSpec.upto scriptcodeBackwardSpec)) scriptcodeBackwardUptoCard

/-- THE SECOND FORM's CARD OF 'narratorlaw46.ScriptcodeRoundTrips'. -/
def scriptcodeRoundTripsUptoCard : Claim7 := { stood := { row := scriptcodeRoundTripsUptoRow, standIns := [], harness := (true, "2105859526920603e10dab3419a92deaa269379e30a1e67e2f4b6e3b10fbf4a6"), looks := false }, kinds := [], alts := [], laidByText := true, laidKinds := [.data, .data, .data, .data, .pinned], laidTests := true, laidLooks := .later }
def ScriptcodeRoundTripsUptoCardSaid : Prop := Claim7.holds Tryd.pinned (.plain (OpenSpec.upto scriptcodeRoundTripsSpec)) scriptcodeRoundTripsUptoCard

/-- THE SECOND FORM's CARD OF 'narratorlaw46.ScriptcodeCheck'. -/
def scriptcodeCheckUptoCard : Claim7 := { stood := { row := scriptcodeCheckUptoRow, standIns := [], harness := (true, "2105859526920603e10dab3419a92deaa269379e30a1e67e2f4b6e3b10fbf4a6"), looks := false }, kinds := [], alts := [], laidByText := true, laidKinds := [.data, .data, .data, .data, .pinned], laidTests := true, laidLooks := .later }
def ScriptcodeCheckUptoCardSaid : Prop := Claim7.holds Tryd.pinned (.plain (OpenSpec.upto scriptcodeCheckSpec)) scriptcodeCheckUptoCard
end Rows
end Go.Proofs.YtonnjokjbknngaaDoor
