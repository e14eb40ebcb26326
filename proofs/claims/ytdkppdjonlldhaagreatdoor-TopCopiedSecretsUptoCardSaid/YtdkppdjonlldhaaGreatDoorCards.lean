/-
  DERIVED. GIVEN WITH THE SEED: THE CARDS: each row of YtdkppdjonlldhaaGreatDoorRows.lean that lists a variable, with what it lists TIED to the program's text (the seventh form; the later family's looks); each row that meets fmt, with fmt's text TOLD by the authors' own Lean function (tested against real Go, not proved from fmt's source: count such statements apart). THE CARD IS WHAT COUNTS. Prove the row's statement (the work); the ties are given (YtdkppdjonlldhaaGreatDoorTie.lean); close each card by the builder's one call (the guide's Derived/Test/ToyasCard.lean, 'card_holds'). Laid BY PROGRAM, IN A SANDBOX (cutbox-door.mjs). By AI agents, Wed Nov 11 2026. No macro, syntax, notation, axiom, sorry.
-/
import Derived.Test.YtdkppdjonlldhaaGreatDoorRows
import GoSem.ClaimSeven
namespace Go.Proofs.YtdkppdjonlldhaaGreatDoor
namespace Rows

/-- THE TIED CARD OF 'narratortop.TopCopiedLines'. -/
def topCopiedLinesCard : Claim7 := { stood := { row := topCopiedLinesRow, standIns := [], harness := (true, "58785750a926b59374d54d93bc0bf4dc52bf0baaf5ef5969ae5785a7bfe07550"), looks := false }, kinds := [], alts := [], laidByText := true, laidKinds := [.data, .listed, .data, .widerDeep, .pinned, .pinned], laidTests := true, laidLooks := .later }
def TopCopiedLinesCardSaid : Prop := Claim7.holds Tryz.pinned (.plain (OpenSpec.ofChange topCopiedLinesSpec)) topCopiedLinesCard

/-- THE TIED CARD OF 'narratortop.TopCopiedSecrets'. -/
def topCopiedSecretsCard : Claim7 := { stood := { row := topCopiedSecretsRow, standIns := [], harness := (true, "58785750a926b59374d54d93bc0bf4dc52bf0baaf5ef5969ae5785a7bfe07550"), looks := false }, kinds := [], alts := [], laidByText := true, laidKinds := [.data, .listed, .data, .widerDeep, .pinned, .pinned], laidTests := true, laidLooks := .later }
def TopCopiedSecretsCardSaid : Prop := Claim7.holds Tryz.pinned (.plain (OpenSpec.ofChange topCopiedSecretsSpec)) topCopiedSecretsCard

/-- THE SECOND FORM's CARD OF 'narratortop.TopCopiedLines'. -/
def topCopiedLinesUptoCard : Claim7 := { stood := { row := topCopiedLinesUptoRow, standIns := [], harness := (true, "58785750a926b59374d54d93bc0bf4dc52bf0baaf5ef5969ae5785a7bfe07550"), looks := false }, kinds := [], alts := [], laidByText := true, laidKinds := [.data, .listed, .data, .widerDeep, .pinned, .pinned], laidTests := true, laidLooks := .later }
def TopCopiedLinesUptoCardSaid : Prop := Claim7.holds Tryz.pinned (.plain (OpenSpec.upto topCopiedLinesSpec)) topCopiedLinesUptoCard

/-- THE SECOND FORM's CARD OF 'narratortop.TopCopiedSecrets'. -/
def topCopiedSecretsUptoCard : Claim7 := { stood := { row := topCopiedSecretsUptoRow, standIns := [], harness := (true, "58785750a926b59374d54d93bc0bf4dc52bf0baaf5ef5969ae5785a7bfe07550"), looks := false }, kinds := [], alts := [], laidByText := true, laidKinds := [.data, .listed, .data, .widerDeep, .pinned, .pinned], laidTests := true, laidLooks := .later }
def TopCopiedSecretsUptoCardSaid : Prop := Claim7.holds Tryz.pinned (.plain (OpenSpec.upto topCopiedSecretsSpec)) topCopiedSecretsUptoCard
end Rows
end Go.Proofs.YtdkppdjonlldhaaGreatDoor
