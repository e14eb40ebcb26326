/-
  DERIVED. GIVEN WITH THE SEED: THE CARDS: each row of YtdgmjbcfopkibaaDoorRows.lean that lists a variable, with what it lists TIED to the program's text (the seventh form; the later family's looks); each row that meets fmt, with fmt's text TOLD by the authors' own Lean function (tested against real Go, not proved from fmt's source: count such statements apart). THE CARD IS WHAT COUNTS. Prove the row's statement (the work); the ties are given (YtdgmjbcfopkibaaDoorTie.lean); close each card by the builder's one call (the guide's Derived/Test/ToyasCard.lean, 'card_holds'). Laid BY PROGRAM, IN A SANDBOX (cutbox-door.mjs). By AI agents, Wed Nov 11 2026. No macro, syntax, notation, axiom, sorry.
-/
import Derived.Test.YtdgmjbcfopkibaaDoorRows
import GoSem.ClaimSeven
namespace Go.Proofs.YtdgmjbcfopkibaaDoor
namespace Rows

/-- THE TIED CARD OF 'narratorlaw23.FramesFind'. -/
def framesFindCard : Claim7 := { stood := { row := framesFindRow, standIns := [], harness := (true, "5b956e7ca1bab8ab825867a6c6cff1bd5f3abfcde06e4547dbda7beaba27d0d9"), looks := false }, kinds := [], alts := [], laidByText := true, laidKinds := [.data, .pinned], laidTests := true, laidLooks := .later }
def FramesFindCardSaid : Prop := Claim7.holds Tryd.pinned (.plain (OpenSpec.ofChange framesFindSpec)) framesFindCard

/-- THE TIED CARD OF 'narratorlaw23.FramesArms'. -/
def framesArmsCard : Claim7 := { stood := { row := framesArmsRow, standIns := [], harness := (true, "5b956e7ca1bab8ab825867a6c6cff1bd5f3abfcde06e4547dbda7beaba27d0d9"), looks := false }, kinds := [], alts := [], laidByText := true, laidKinds := [.data, .pinned], laidTests := true, laidLooks := .later }
def FramesArmsCardSaid : Prop := Claim7.holds Tryd.pinned (.plain (OpenSpec.ofChange framesArmsSpec)) framesArmsCard

/-- THE TIED CARD OF 'narratorlaw23.FramesComplete'. -/
def framesCompleteCard : Claim7 := { stood := { row := framesCompleteRow, standIns := [], harness := (true, "5b956e7ca1bab8ab825867a6c6cff1bd5f3abfcde06e4547dbda7beaba27d0d9"), looks := false }, kinds := [], alts := [], laidByText := true, laidKinds := [.data, .pinned], laidTests := true, laidLooks := .later }
def FramesCompleteCardSaid : Prop := Claim7.holds Tryd.pinned (.plain (OpenSpec.ofChange framesCompleteSpec)) framesCompleteCard

/-- THE TIED CARD OF 'narratorlaw23.FramesSound'. -/
def framesSoundCard : Claim7 := { stood := { row := framesSoundRow, standIns := [], harness := (true, "5b956e7ca1bab8ab825867a6c6cff1bd5f3abfcde06e4547dbda7beaba27d0d9"), looks := false }, kinds := [], alts := [], laidByText := true, laidKinds := [.data, .pinned], laidTests := true, laidLooks := .later }
def FramesSoundCardSaid : Prop := Claim7.holds Tryd.pinned (.plain (OpenSpec.ofChange framesSoundSpec)) framesSoundCard

/-- THE SECOND FORM's CARD OF 'narratorlaw23.FramesFind'. -/
def framesFindUptoCard : Claim7 := { stood := { row := framesFindUptoRow, standIns := [], harness := (true, "5b956e7ca1bab8ab825867a6c6cff1bd5f3abfcde06e4547dbda7beaba27d0d9"), looks := false }, kinds := [], alts := [], laidByText := true, laidKinds := [.data, .pinned], laidTests := true, laidLooks := .later }
def FramesFindUptoCardSaid : Prop := Claim7.holds Tryd.pinned (.plain (OpenSpec.upto framesFindSpec)) framesFindUptoCard

/-- THE SECOND FORM's CARD OF 'narratorlaw23.FramesArms'. -/
def framesArmsUptoCard : Claim7 := { stood := { row := framesArmsUptoRow, standIns := [], harness := (true, "5b956e7ca1bab8ab825867a6c6cff1bd5f3abfcde06e4547dbda7beaba27d0d9"), looks := false }, kinds := [], alts := [], laidByText := true, laidKinds := [.data, .pinned], laidTests := true, laidLooks := .later }
def FramesArmsUptoCardSaid : Prop := Claim7.holds Tryd.pinned (.plain (OpenSpec.upto framesArmsSpec)) framesArmsUptoCard

/-- THE SECOND FORM's CARD OF 'narratorlaw23.FramesComplete'. -/
def framesCompleteUptoCard : Claim7 := { stood := { row := framesCompleteUptoRow, standIns := [], harness := (true, "5b956e7ca1bab8ab825867a6c6cff1bd5f3abfcde06e4547dbda7beaba27d0d9"), looks := false }, kinds := [], alts := [], laidByText := true, laidKinds := [.data, .pinned], laidTests := true, laidLooks := .later }
def FramesCompleteUptoCardSaid : Prop := Claim7.holds Tryd.pinned (.plain (OpenSpec.upto framesCompleteSpec)) framesCompleteUptoCard

/-- THE SECOND FORM's CARD OF 'narratorlaw23.FramesSound'. -/
def framesSoundUptoCard : Claim7 := { stood := { row := framesSoundUptoRow, standIns := [], harness := (true, "5b956e7ca1bab8ab825867a6c6cff1bd5f3abfcde06e4547dbda7beaba27d0d9"), looks := false }, kinds := [], alts := [], laidByText := true, laidKinds := [.data, .pinned], laidTests := true, laidLooks := .later }
def FramesSoundUptoCardSaid : Prop := Claim7.holds Tryd.pinned (.plain (OpenSpec.upto framesSoundSpec)) framesSoundUptoCard
end Rows
end Go.Proofs.YtdgmjbcfopkibaaDoor
