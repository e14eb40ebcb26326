/-
  DERIVED. GIVEN WITH THE SEED: THE CARDS: each row of YtbbhkibbkecojaaDoorRows.lean that lists a variable, with what it lists TIED to the program's text (the seventh form; the later family's looks); each row that meets fmt, with fmt's text TOLD by the authors' own Lean function (tested against real Go, not proved from fmt's source: count such statements apart). THE CARD IS WHAT COUNTS. Prove the row's statement (the work); the ties are given (YtbbhkibbkecojaaDoorTie.lean); close each card by the builder's one call (the guide's Derived/Test/ToyasCard.lean, 'card_holds'). Laid BY PROGRAM, IN A SANDBOX (cutbox-door.mjs). By AI agents, Wed Nov 11 2026. No macro, syntax, notation, axiom, sorry.
-/
import Derived.Test.YtbbhkibbkecojaaDoorRows
import GoSem.ClaimSeven
namespace Go.Proofs.YtbbhkibbkecojaaDoor
namespace Rows

/-- THE TIED CARD OF 'narratorlaw24.TablesCells'. -/
def tablesCellsCard : Claim7 := { stood := { row := tablesCellsRow, standIns := [], harness := (true, "c4e508291e7ee94dc3ab209d25a1306025e5c3605a1de86dd25b42acf24a4199"), looks := false }, kinds := [], alts := [], laidByText := true, laidKinds := [.data, .pinned], laidTests := true, laidLooks := .later }
def TablesCellsCardSaid : Prop := Claim7.holds Tryd.pinned (.plain (OpenSpec.ofChange tablesCellsSpec)) tablesCellsCard

/-- THE TIED CARD OF 'narratorlaw24.TablesForm'. -/
def tablesFormCard : Claim7 := { stood := { row := tablesFormRow, standIns := [], harness := (true, "c4e508291e7ee94dc3ab209d25a1306025e5c3605a1de86dd25b42acf24a4199"), looks := false }, kinds := [], alts := [], laidByText := true, laidKinds := [.data, .pinned], laidTests := true, laidLooks := .later }
def TablesFormCardSaid : Prop := Claim7.holds Tryd.pinned (.plain (OpenSpec.ofChange tablesFormSpec)) tablesFormCard

/-- THE TIED CARD OF 'narratorlaw24.TablesIndependent'. -/
def tablesIndependentCard : Claim7 := { stood := { row := tablesIndependentRow, standIns := [], harness := (true, "c4e508291e7ee94dc3ab209d25a1306025e5c3605a1de86dd25b42acf24a4199"), looks := false }, kinds := [], alts := [], laidByText := true, laidKinds := [.data, .pinned], laidTests := true, laidLooks := .later }
def TablesIndependentCardSaid : Prop := Claim7.holds Tryd.pinned (.plain (OpenSpec.ofChange tablesIndependentSpec)) tablesIndependentCard

/-- THE TIED CARD OF 'narratorlaw24.TablesFind'. -/
def tablesFindCard : Claim7 := { stood := { row := tablesFindRow, standIns := [], harness := (true, "c4e508291e7ee94dc3ab209d25a1306025e5c3605a1de86dd25b42acf24a4199"), looks := false }, kinds := [], alts := [], laidByText := true, laidKinds := [.data, .pinned], laidTests := true, laidLooks := .later }
def TablesFindCardSaid : Prop := Claim7.holds Tryd.pinned (.plain (OpenSpec.ofChange tablesFindSpec)) tablesFindCard

/-- THE TIED CARD OF 'narratorlaw24.TablesGutters'. -/
def tablesGuttersCard : Claim7 := { stood := { row := tablesGuttersRow, standIns := [], harness := (true, "c4e508291e7ee94dc3ab209d25a1306025e5c3605a1de86dd25b42acf24a4199"), looks := false }, kinds := [], alts := [], laidByText := true, laidKinds := [.data, .pinned], laidTests := true, laidLooks := .later }
def TablesGuttersCardSaid : Prop := Claim7.holds Tryd.pinned (.plain (OpenSpec.ofChange tablesGuttersSpec)) tablesGuttersCard

/-- THE TIED CARD OF 'narratorlaw24.TablesComplete'. -/
def tablesCompleteCard : Claim7 := { stood := { row := tablesCompleteRow, standIns := [], harness := (true, "c4e508291e7ee94dc3ab209d25a1306025e5c3605a1de86dd25b42acf24a4199"), looks := false }, kinds := [], alts := [], laidByText := true, laidKinds := [.data, .pinned], laidTests := true, laidLooks := .later }
def TablesCompleteCardSaid : Prop := Claim7.holds Tryd.pinned (.plain (OpenSpec.ofChange tablesCompleteSpec)) tablesCompleteCard

/-- THE TIED CARD OF 'narratorlaw24.TablesRecognized'. -/
def tablesRecognizedCard : Claim7 := { stood := { row := tablesRecognizedRow, standIns := [], harness := (true, "c4e508291e7ee94dc3ab209d25a1306025e5c3605a1de86dd25b42acf24a4199"), looks := false }, kinds := [], alts := [], laidByText := true, laidKinds := [.data, .pinned], laidTests := true, laidLooks := .later }
def TablesRecognizedCardSaid : Prop := Claim7.holds Tryd.pinned (.plain (OpenSpec.ofChange tablesRecognizedSpec)) tablesRecognizedCard

/-- THE SECOND FORM's CARD OF 'narratorlaw24.TablesCells'. -/
def tablesCellsUptoCard : Claim7 := { stood := { row := tablesCellsUptoRow, standIns := [], harness := (true, "c4e508291e7ee94dc3ab209d25a1306025e5c3605a1de86dd25b42acf24a4199"), looks := false }, kinds := [], alts := [], laidByText := true, laidKinds := [.data, .pinned], laidTests := true, laidLooks := .later }
def TablesCellsUptoCardSaid : Prop := Claim7.holds Tryd.pinned (.plain (OpenSpec.upto tablesCellsSpec)) tablesCellsUptoCard

/-- THE SECOND FORM's CARD OF 'narratorlaw24.TablesForm'. -/
def tablesFormUptoCard : Claim7 := { stood := { row := tablesFormUptoRow, standIns := [], harness := (true, "c4e508291e7ee94dc3ab209d25a1306025e5c3605a1de86dd25b42acf24a4199"), looks := false }, kinds := [], alts := [], laidByText := true, laidKinds := [.data, .pinned], laidTests := true, laidLooks := .later }
def TablesFormUptoCardSaid : Prop := Claim7.holds Tryd.pinned (.plain (OpenSpec.upto tablesFormSpec)) tablesFormUptoCard

/-- THE SECOND FORM's CARD OF 'narratorlaw24.TablesIndependent'. -/
def tablesIndependentUptoCard : Claim7 := { stood := { row := tablesIndependentUptoRow, standIns := [], harness := (true, "c4e508291e7ee94dc3ab209d25a1306025e5c3605a1de86dd25b42acf24a4199"), looks := false }, kinds := [], alts := [], laidByText := true, laidKinds := [.data, .pinned], laidTests := true, laidLooks := .later }
def TablesIndependentUptoCardSaid : Prop := Claim7.holds Tryd.pinned (.plain (OpenSpec.upto tablesIndependentSpec)) tablesIndependentUptoCard

/-- THE SECOND FORM's CARD OF 'narratorlaw24.TablesFind'. -/
def tablesFindUptoCard : Claim7 := { stood := { row := tablesFindUptoRow, standIns := [], harness := (true, "c4e508291e7ee94dc3ab209d25a1306025e5c3605a1de86dd25b42acf24a4199"), looks := false }, kinds := [], alts := [], laidByText := true, laidKinds := [.data, .pinned], laidTests := true, laidLooks := .later }
def TablesFindUptoCardSaid : Prop := Claim7.holds Tryd.pinned (.plain (OpenSpec.upto tablesFindSpec)) tablesFindUptoCard

/-- THE SECOND FORM's CARD OF 'narratorlaw24.TablesGutters'. -/
def tablesGuttersUptoCard : Claim7 := { stood := { row := tablesGuttersUptoRow, standIns := [], harness := (true, "c4e508291e7ee94dc3ab209d25a1306025e5c3605a1de86dd25b42acf24a4199"), looks := false }, kinds := [], alts := [], laidByText := true, laidKinds := [.data, .pinned], laidTests := true, laidLooks := .later }
def TablesGuttersUptoCardSaid : Prop := Claim7.holds Tryd.pinned (.plain (OpenSpec.upto tablesGuttersSpec)) tablesGuttersUptoCard

/-- THE SECOND FORM's CARD OF 'narratorlaw24.TablesComplete'. -/
def tablesCompleteUptoCard : Claim7 := { stood := { row := tablesCompleteUptoRow, standIns := [], harness := (true, "c4e508291e7ee94dc3ab209d25a1306025e5c3605a1de86dd25b42acf24a4199"), looks := false }, kinds := [], alts := [], laidByText := true, laidKinds := [.data, .pinned], laidTests := true, laidLooks := .later }
def TablesCompleteUptoCardSaid : Prop := Claim7.holds Tryd.pinned (.plain (OpenSpec.upto tablesCompleteSpec)) tablesCompleteUptoCard

/-- THE SECOND FORM's CARD OF 'narratorlaw24.TablesRecognized'. -/
def tablesRecognizedUptoCard : Claim7 := { stood := { row := tablesRecognizedUptoRow, standIns := [], harness := (true, "c4e508291e7ee94dc3ab209d25a1306025e5c3605a1de86dd25b42acf24a4199"), looks := false }, kinds := [], alts := [], laidByText := true, laidKinds := [.data, .pinned], laidTests := true, laidLooks := .later }
def TablesRecognizedUptoCardSaid : Prop := Claim7.holds Tryd.pinned (.plain (OpenSpec.upto tablesRecognizedSpec)) tablesRecognizedUptoCard
end Rows
end Go.Proofs.YtbbhkibbkecojaaDoor
