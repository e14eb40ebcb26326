/-
  DERIVED. GIVEN WITH THE SEED: THE CARDS: each row of YtnhcelckgfmljaaDoorRows.lean that lists a variable, with what it lists TIED to the program's text (the seventh form; the later family's looks); each row that meets fmt, with fmt's text TOLD by the authors' own Lean function (tested against real Go, not proved from fmt's source: count such statements apart). THE CARD IS WHAT COUNTS. Prove the row's statement (the work); the ties are given (YtnhcelckgfmljaaDoorTie.lean); close each card by the builder's one call (the guide's Derived/Test/ToyasCard.lean, 'card_holds'). Laid BY PROGRAM, IN A SANDBOX (cutbox-door.mjs). By AI agents, Wed Nov 11 2026. No macro, syntax, notation, axiom, sorry.
-/
import Derived.Test.YtnhcelckgfmljaaDoorRows
import GoSem.ClaimSeven
namespace Go.Proofs.YtnhcelckgfmljaaDoor
namespace Rows

/-- THE TIED CARD OF 'narratorlaw27.ProgressStyles'. -/
def progressStylesCard : Claim7 := { stood := { row := progressStylesRow, standIns := [], harness := (true, "494bcc599ddbe1d88d68060e31cb005cfdb10152ba5e61bb133b92182e107ea9"), looks := false }, kinds := [], alts := [], laidByText := true, laidKinds := [.data, .data, .data, .data, .pinned], laidTests := true, laidLooks := .later }
def ProgressStylesCardSaid : Prop := Claim7.holds Tryd.pinned (.plain (OpenSpec.ofChange progressStylesSpec)) progressStylesCard

/-- THE SECOND FORM's CARD OF 'narratorlaw27.ProgressStyles'. -/
def progressStylesUptoCard : Claim7 := { stood := { row := progressStylesUptoRow, standIns := [], harness := (true, "494bcc599ddbe1d88d68060e31cb005cfdb10152ba5e61bb133b92182e107ea9"), looks := false }, kinds := [], alts := [], laidByText := true, laidKinds := [.data, .data, .data, .data, .pinned], laidTests := true, laidLooks := .later }
def ProgressStylesUptoCardSaid : Prop := Claim7.holds Tryd.pinned (.plain (OpenSpec.upto progressStylesSpec)) progressStylesUptoCard
end Rows
end Go.Proofs.YtnhcelckgfmljaaDoor
