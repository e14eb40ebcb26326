/-
  DERIVED. GIVEN WITH THE SEED: THE CARDS: each row of YtbnlnjejdggffaaDoorRows.lean that lists a variable, with what it lists TIED to the program's text (the seventh form; the later family's looks); each row that meets fmt, with fmt's text TOLD by the authors' own Lean function (tested against real Go, not proved from fmt's source: count such statements apart). THE CARD IS WHAT COUNTS. Prove the row's statement (the work); the ties are given (YtbnlnjejdggffaaDoorTie.lean); close each card by the builder's one call (the guide's Derived/Test/ToyasCard.lean, 'card_holds'). Laid BY PROGRAM, IN A SANDBOX (cutbox-door.mjs). By AI agents, Wed Nov 11 2026. No macro, syntax, notation, axiom, sorry.
-/
import Derived.Test.YtbnlnjejdggffaaDoorRows
import GoSem.ClaimSeven
namespace Go.Proofs.YtbnlnjejdggffaaDoor
namespace Rows

/-- THE TIED CARD OF 'narratorlaw45.ClippingParts'. -/
def clippingPartsCard : Claim7 := { stood := { row := clippingPartsRow, standIns := [], harness := (true, "74f12bec4e8a8f44c81b1a840151cdbc1847073ee9a5523bf5fe17cb89354142"), looks := false }, kinds := [], alts := [], laidByText := true, laidKinds := [.data, .pinned], laidTests := true, laidLooks := .later }
def ClippingPartsCardSaid : Prop := Claim7.holds Tryd.pinned (.plain (OpenSpec.ofChange clippingPartsSpec)) clippingPartsCard

/-- THE SECOND FORM's CARD OF 'narratorlaw45.ClippingParts'. -/
def clippingPartsUptoCard : Claim7 := { stood := { row := clippingPartsUptoRow, standIns := [], harness := (true, "74f12bec4e8a8f44c81b1a840151cdbc1847073ee9a5523bf5fe17cb89354142"), looks := false }, kinds := [], alts := [], laidByText := true, laidKinds := [.data, .pinned], laidTests := true, laidLooks := .later }
def ClippingPartsUptoCardSaid : Prop := Claim7.holds Tryd.pinned (.plain (OpenSpec.upto clippingPartsSpec)) clippingPartsUptoCard
end Rows
end Go.Proofs.YtbnlnjejdggffaaDoor
