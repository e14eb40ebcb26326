/-
  DERIVED. GIVEN WITH THE SEED: THE CARDS: each row of YtmgepckhdgoemaaDoorRows.lean that lists a variable, with what it lists TIED to the program's text (the seventh form; the later family's looks); each row that meets fmt, with fmt's text TOLD by the authors' own Lean function (tested against real Go, not proved from fmt's source: count such statements apart). THE CARD IS WHAT COUNTS. Prove the row's statement (the work); the ties are given (YtmgepckhdgoemaaDoorTie.lean); close each card by the builder's one call (the guide's Derived/Test/ToyasCard.lean, 'card_holds'). Laid BY PROGRAM, IN A SANDBOX (cutbox-door.mjs). By AI agents, Wed Nov 11 2026. No macro, syntax, notation, axiom, sorry.
-/
import Derived.Test.YtmgepckhdgoemaaDoorRows
import GoSem.ClaimSeven
namespace Go.Proofs.YtmgepckhdgoemaaDoor
namespace Rows

/-- THE TIED CARD OF 'narratorlaw24.TablesComplete'. -/
def tablesCompleteCard : Claim7 := { stood := { row := tablesCompleteRow, standIns := [], harness := (true, "b63eb02e895a3bda8bf9de135522729fd8f777080fac22309b5713d0aafff989"), looks := false }, kinds := [], alts := [], laidByText := true, laidKinds := [.data, .pinned], laidTests := true, laidLooks := .later }
def TablesCompleteCardSaid : Prop := Claim7.holds Tryd.pinned (.plain (OpenSpec.ofChange tablesCompleteSpec)) tablesCompleteCard

/-- THE TIED CARD OF 'narratorlaw24.TablesRecognized'. -/
def tablesRecognizedCard : Claim7 := { stood := { row := tablesRecognizedRow, standIns := [], harness := (true, "b63eb02e895a3bda8bf9de135522729fd8f777080fac22309b5713d0aafff989"), looks := false }, kinds := [], alts := [], laidByText := true, laidKinds := [.data, .pinned], laidTests := true, laidLooks := .later }
def TablesRecognizedCardSaid : Prop := Claim7.holds Tryd.pinned (.plain (OpenSpec.ofChange tablesRecognizedSpec)) tablesRecognizedCard

/-- THE SECOND FORM's CARD OF 'narratorlaw24.TablesComplete'. -/
def tablesCompleteUptoCard : Claim7 := { stood := { row := tablesCompleteUptoRow, standIns := [], harness := (true, "b63eb02e895a3bda8bf9de135522729fd8f777080fac22309b5713d0aafff989"), looks := false }, kinds := [], alts := [], laidByText := true, laidKinds := [.data, .pinned], laidTests := true, laidLooks := .later }
def TablesCompleteUptoCardSaid : Prop := Claim7.holds Tryd.pinned (.plain (OpenSpec.upto tablesCompleteSpec)) tablesCompleteUptoCard

/-- THE SECOND FORM's CARD OF 'narratorlaw24.TablesRecognized'. -/
def tablesRecognizedUptoCard : Claim7 := { stood := { row := tablesRecognizedUptoRow, standIns := [], harness := (true, "b63eb02e895a3bda8bf9de135522729fd8f777080fac22309b5713d0aafff989"), looks := false }, kinds := [], alts := [], laidByText := true, laidKinds := [.data, .pinned], laidTests := true, laidLooks := .later }
def TablesRecognizedUptoCardSaid : Prop := Claim7.holds Tryd.pinned (.plain (OpenSpec.upto tablesRecognizedSpec)) tablesRecognizedUptoCard
end Rows
end Go.Proofs.YtmgepckhdgoemaaDoor
