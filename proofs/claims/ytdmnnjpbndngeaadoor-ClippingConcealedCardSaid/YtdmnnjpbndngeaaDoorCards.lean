/-
  DERIVED. GIVEN WITH THE SEED: THE CARDS: each row of YtdmnnjpbndngeaaDoorRows.lean that lists a variable, with what it lists TIED to the program's text (the seventh form; the later family's looks); each row that meets fmt, with fmt's text TOLD by the authors' own Lean function (tested against real Go, not proved from fmt's source: count such statements apart). THE CARD IS WHAT COUNTS. Prove the row's statement (the work); the ties are given (YtdmnnjpbndngeaaDoorTie.lean); close each card by the builder's one call (the guide's Derived/Test/ToyasCard.lean, 'card_holds'). Laid BY PROGRAM, IN A SANDBOX (cutbox-door.mjs). By AI agents, Wed Nov 11 2026. No macro, syntax, notation, axiom, sorry.
-/
import Derived.Test.YtdmnnjpbndngeaaDoorRows
import GoSem.ClaimSeven
namespace Go.Proofs.YtdmnnjpbndngeaaDoor
namespace Rows

/-- THE TIED CARD OF 'narratorlaw45.ClippingConcealed'. -/
def clippingConcealedCard : Claim7 := { stood := { row := clippingConcealedRow, standIns := [], harness := (true, "85a6bf1f49d19422227103b12572076ab172e846dce3a53962165e1789f591c3"), looks := false }, kinds := [], alts := [], laidByText := true, laidKinds := [.data, .pinned], laidTests := true, laidLooks := .later }
def ClippingConcealedCardSaid : Prop := Claim7.holds Tryd.pinned (.plain (OpenSpec.ofChange clippingConcealedSpec)) clippingConcealedCard

/-- THE SECOND FORM's CARD OF 'narratorlaw45.ClippingConcealed'. -/
def clippingConcealedUptoCard : Claim7 := { stood := { row := clippingConcealedUptoRow, standIns := [], harness := (true, "85a6bf1f49d19422227103b12572076ab172e846dce3a53962165e1789f591c3"), looks := false }, kinds := [], alts := [], laidByText := true, laidKinds := [.data, .pinned], laidTests := true, laidLooks := .later }
def ClippingConcealedUptoCardSaid : Prop := Claim7.holds Tryd.pinned (.plain (OpenSpec.upto clippingConcealedSpec)) clippingConcealedUptoCard
end Rows
end Go.Proofs.YtdmnnjpbndngeaaDoor
