/-
  NARROWER THAN 'FOR EVERY INPUT', by the rows' own cells (each row's printed sentence says how): TablesCells: laid · TablesForm: laid · TablesIndependent: laid · TablesFind: laid · TablesGutters: laid · TablesComplete: laid · TablesRecognized: laid.
  DERIVED. THE GIVEN ROWS OF THIS SEAT. 7 by the template 'for every input the law returns true; each argument reads behind the call as it read before'; 0 by the template 'total and deterministic' (their statements: YtbbhkibbkecojaaDoorTotals.lean).
  GIVEN WITH THE SEED: the statements are not yours to turn. If you find one false, say at which input.
  Laid BY PROGRAM, IN A SANDBOX (cutbox-rows.mjs): the forced cells as the released guide's own fill.sh prints them over the translation cbf5ecd4d2638377… (all of the seat's roots in one cut). By AI agents, Wed Nov 11 2026. No macro, syntax, notation, axiom, sorry.
-/
import Derived.Test.YtbbhkibbkecojaaDoorChecked
import GoSem.PinnedTables
import GoSem.Claim
import GoSem.ClaimJoined
import GoSem.ClaimMapViews
import Derived.JoinedTies
import Derived.KernelRfl
namespace Go.Proofs.YtbbhkibbkecojaaDoor
/- THE CELL 'sum', in the pinned program and in every row, IS THE sha256 OF THE DUMP (.gsa) THAT YtbbhkibbkecojaaDoorProg.lean LOADS. Nothing in Lean hashes anything: it is a label: what it is worth is what the hold of that sum in a sandbox is worth. -/
noncomputable def Tryd.pinned : Pinned := { name := "ytbbhkibbkecojaadoor", sum := "cbf5ecd4d263837755f6dd72cb570a1deae8f7e6ed25412fb4eff70b1ac9f9ba", checked := Tryd.checked }
namespace Rows
def none {H : Type} : Left H := { results := [], args := [] }

/- WHAT THE LISTED PACKAGE-LEVEL VARIABLES READ AS WHEN THE CALL BEGINS. Each datum BY PROGRAM (the guide's laid-datum.mjs) off the statement by which the dump's own 'gosem.cut.vars' lays the variable. In a bare row this is a premise. The card (YtbbhkibbkecojaaDoorCards.lean) ties it to the program's text. -/
def laid_unicode_utf8_acceptRanges {H : Type} : DataW H := .agg [.agg [.lit (.int .u8 128), .lit (.int .u8 191)], .agg [.lit (.int .u8 160), .lit (.int .u8 191)], .agg [.lit (.int .u8 128), .lit (.int .u8 159)], .agg [.lit (.int .u8 144), .lit (.int .u8 191)], .agg [.lit (.int .u8 128), .lit (.int .u8 143)], .agg [.lit (.int .u8 0), .lit (.int .u8 0)], .agg [.lit (.int .u8 0), .lit (.int .u8 0)], .agg [.lit (.int .u8 0), .lit (.int .u8 0)], .agg [.lit (.int .u8 0), .lit (.int .u8 0)], .agg [.lit (.int .u8 0), .lit (.int .u8 0)], .agg [.lit (.int .u8 0), .lit (.int .u8 0)], .agg [.lit (.int .u8 0), .lit (.int .u8 0)], .agg [.lit (.int .u8 0), .lit (.int .u8 0)], .agg [.lit (.int .u8 0), .lit (.int .u8 0)], .agg [.lit (.int .u8 0), .lit (.int .u8 0)], .agg [.lit (.int .u8 0), .lit (.int .u8 0)]]
/-- One of Go's own tables, pinned by name: the form's constant. -/
def laid_unicode_utf8_first : DataW Unit := Go.Pinned.utf8First

/-- 'narratorlaw24.TablesCells': WHATEVER THE INPUT: true; the input reads as it did. -/
def tablesCellsSpec : ChangeSpec := { name := "tablesCells", fn := fun _ => fun
  | [d1, d2, d3, d4] => { results := [.lit (.bool true)], args := [d1, d2, d3, d4] }
  | _ => none }
def tablesCellsRow : OpenClaim := { program := "ytbbhkibbkecojaadoor", sum := "cbf5ecd4d263837755f6dd72cb570a1deae8f7e6ed25412fb4eff70b1ac9f9ba", func := "narrator/narratorlaw24.TablesCells", spec := "tablesCells", unfollowed := true, recurses := true, named := ["unicode/utf8.first", "unicode/utf8.acceptRanges"], apart := false, laid := [("unicode/utf8.acceptRanges", laid_unicode_utf8_acceptRanges), ("unicode/utf8.first", laid_unicode_utf8_first)] }
def TablesCellsSaid : Prop := tablesCellsRow.holds Tryd.pinned (OpenSpec.ofChange tablesCellsSpec)

/-- ITS FALSE NEIGHBOUR: 'it returns false'. Refute it at one input. -/
def tablesCellsWrong : ChangeSpec := { name := "tablesCells", fn := fun _ => fun
  | [d1, d2, d3, d4] => { results := [.lit (.bool false)], args := [d1, d2, d3, d4] }
  | _ => none }
def TablesCellsWrongFalsely : Prop := tablesCellsRow.holds Tryd.pinned (OpenSpec.ofChange tablesCellsWrong)

/-- 'narratorlaw24.TablesForm': WHATEVER THE INPUT: true; the input reads as it did. -/
def tablesFormSpec : ChangeSpec := { name := "tablesForm", fn := fun _ => fun
  | [d] => { results := [.lit (.bool true)], args := [d] }
  | _ => none }
def tablesFormRow : OpenClaim := { program := "ytbbhkibbkecojaadoor", sum := "cbf5ecd4d263837755f6dd72cb570a1deae8f7e6ed25412fb4eff70b1ac9f9ba", func := "narrator/narratorlaw24.TablesForm", spec := "tablesForm", unfollowed := true, recurses := true, named := ["unicode/utf8.first", "unicode/utf8.acceptRanges"], apart := false, laid := [("unicode/utf8.acceptRanges", laid_unicode_utf8_acceptRanges), ("unicode/utf8.first", laid_unicode_utf8_first)] }
def TablesFormSaid : Prop := tablesFormRow.holds Tryd.pinned (OpenSpec.ofChange tablesFormSpec)

/-- ITS FALSE NEIGHBOUR: 'it returns false'. Refute it at one input. -/
def tablesFormWrong : ChangeSpec := { name := "tablesForm", fn := fun _ => fun
  | [d] => { results := [.lit (.bool false)], args := [d] }
  | _ => none }
def TablesFormWrongFalsely : Prop := tablesFormRow.holds Tryd.pinned (OpenSpec.ofChange tablesFormWrong)

/-- 'narratorlaw24.TablesIndependent': WHATEVER THE INPUT: true; the input reads as it did. -/
def tablesIndependentSpec : ChangeSpec := { name := "tablesIndependent", fn := fun _ => fun
  | [d1, d2] => { results := [.lit (.bool true)], args := [d1, d2] }
  | _ => none }
def tablesIndependentRow : OpenClaim := { program := "ytbbhkibbkecojaadoor", sum := "cbf5ecd4d263837755f6dd72cb570a1deae8f7e6ed25412fb4eff70b1ac9f9ba", func := "narrator/narratorlaw24.TablesIndependent", spec := "tablesIndependent", unfollowed := true, recurses := true, named := ["unicode/utf8.first", "unicode/utf8.acceptRanges"], apart := false, laid := [("unicode/utf8.acceptRanges", laid_unicode_utf8_acceptRanges), ("unicode/utf8.first", laid_unicode_utf8_first)] }
def TablesIndependentSaid : Prop := tablesIndependentRow.holds Tryd.pinned (OpenSpec.ofChange tablesIndependentSpec)

/-- ITS FALSE NEIGHBOUR: 'it returns false'. Refute it at one input. -/
def tablesIndependentWrong : ChangeSpec := { name := "tablesIndependent", fn := fun _ => fun
  | [d1, d2] => { results := [.lit (.bool false)], args := [d1, d2] }
  | _ => none }
def TablesIndependentWrongFalsely : Prop := tablesIndependentRow.holds Tryd.pinned (OpenSpec.ofChange tablesIndependentWrong)

/-- 'narratorlaw24.TablesFind': WHATEVER THE INPUT: true; the input reads as it did. -/
def tablesFindSpec : ChangeSpec := { name := "tablesFind", fn := fun _ => fun
  | [d1, d2, d3] => { results := [.lit (.bool true)], args := [d1, d2, d3] }
  | _ => none }
def tablesFindRow : OpenClaim := { program := "ytbbhkibbkecojaadoor", sum := "cbf5ecd4d263837755f6dd72cb570a1deae8f7e6ed25412fb4eff70b1ac9f9ba", func := "narrator/narratorlaw24.TablesFind", spec := "tablesFind", unfollowed := true, recurses := true, named := ["unicode/utf8.first", "unicode/utf8.acceptRanges"], apart := false, laid := [("unicode/utf8.acceptRanges", laid_unicode_utf8_acceptRanges), ("unicode/utf8.first", laid_unicode_utf8_first)] }
def TablesFindSaid : Prop := tablesFindRow.holds Tryd.pinned (OpenSpec.ofChange tablesFindSpec)

/-- ITS FALSE NEIGHBOUR: 'it returns false'. Refute it at one input. -/
def tablesFindWrong : ChangeSpec := { name := "tablesFind", fn := fun _ => fun
  | [d1, d2, d3] => { results := [.lit (.bool false)], args := [d1, d2, d3] }
  | _ => none }
def TablesFindWrongFalsely : Prop := tablesFindRow.holds Tryd.pinned (OpenSpec.ofChange tablesFindWrong)

/-- 'narratorlaw24.TablesGutters': WHATEVER THE INPUT: true; the input reads as it did. -/
def tablesGuttersSpec : ChangeSpec := { name := "tablesGutters", fn := fun _ => fun
  | [d1, d2, d3] => { results := [.lit (.bool true)], args := [d1, d2, d3] }
  | _ => none }
def tablesGuttersRow : OpenClaim := { program := "ytbbhkibbkecojaadoor", sum := "cbf5ecd4d263837755f6dd72cb570a1deae8f7e6ed25412fb4eff70b1ac9f9ba", func := "narrator/narratorlaw24.TablesGutters", spec := "tablesGutters", unfollowed := true, recurses := true, named := ["unicode/utf8.first", "unicode/utf8.acceptRanges"], apart := false, laid := [("unicode/utf8.acceptRanges", laid_unicode_utf8_acceptRanges), ("unicode/utf8.first", laid_unicode_utf8_first)] }
def TablesGuttersSaid : Prop := tablesGuttersRow.holds Tryd.pinned (OpenSpec.ofChange tablesGuttersSpec)

/-- ITS FALSE NEIGHBOUR: 'it returns false'. Refute it at one input. -/
def tablesGuttersWrong : ChangeSpec := { name := "tablesGutters", fn := fun _ => fun
  | [d1, d2, d3] => { results := [.lit (.bool false)], args := [d1, d2, d3] }
  | _ => none }
def TablesGuttersWrongFalsely : Prop := tablesGuttersRow.holds Tryd.pinned (OpenSpec.ofChange tablesGuttersWrong)

/-- 'narratorlaw24.TablesComplete': WHATEVER THE INPUT: true; the input reads as it did. -/
def tablesCompleteSpec : ChangeSpec := { name := "tablesComplete", fn := fun _ => fun
  | [d] => { results := [.lit (.bool true)], args := [d] }
  | _ => none }
def tablesCompleteRow : OpenClaim := { program := "ytbbhkibbkecojaadoor", sum := "cbf5ecd4d263837755f6dd72cb570a1deae8f7e6ed25412fb4eff70b1ac9f9ba", func := "narrator/narratorlaw24.TablesComplete", spec := "tablesComplete", inPlace := ["internal/bytealg.IndexByteString", "internal/bytealg.IndexString", "internal/bytealg.CountString", "internal/abi.NoEscape", "internal/bytealg.MakeNoZero"], unfollowed := true, recurses := true, named := ["unicode/utf8.first", "unicode/utf8.acceptRanges", "internal/bytealg.MaxLen"], apart := false, laid := [("unicode/utf8.acceptRanges", laid_unicode_utf8_acceptRanges), ("unicode/utf8.first", laid_unicode_utf8_first)] }
def TablesCompleteSaid : Prop := tablesCompleteRow.holds Tryd.pinned (OpenSpec.ofChange tablesCompleteSpec)

/-- ITS FALSE NEIGHBOUR: 'it returns false'. Refute it at one input. -/
def tablesCompleteWrong : ChangeSpec := { name := "tablesComplete", fn := fun _ => fun
  | [d] => { results := [.lit (.bool false)], args := [d] }
  | _ => none }
def TablesCompleteWrongFalsely : Prop := tablesCompleteRow.holds Tryd.pinned (OpenSpec.ofChange tablesCompleteWrong)

/-- 'narratorlaw24.TablesRecognized': WHATEVER THE INPUT: true; the input reads as it did. -/
def tablesRecognizedSpec : ChangeSpec := { name := "tablesRecognized", fn := fun _ => fun
  | [d1, d2] => { results := [.lit (.bool true)], args := [d1, d2] }
  | _ => none }
def tablesRecognizedRow : OpenClaim := { program := "ytbbhkibbkecojaadoor", sum := "cbf5ecd4d263837755f6dd72cb570a1deae8f7e6ed25412fb4eff70b1ac9f9ba", func := "narrator/narratorlaw24.TablesRecognized", spec := "tablesRecognized", inPlace := ["internal/bytealg.IndexByteString", "internal/bytealg.IndexString", "internal/abi.NoEscape", "internal/bytealg.MakeNoZero"], unfollowed := true, recurses := true, named := ["unicode/utf8.first", "unicode/utf8.acceptRanges", "internal/bytealg.MaxLen"], apart := false, laid := [("unicode/utf8.acceptRanges", laid_unicode_utf8_acceptRanges), ("unicode/utf8.first", laid_unicode_utf8_first)] }
def TablesRecognizedSaid : Prop := tablesRecognizedRow.holds Tryd.pinned (OpenSpec.ofChange tablesRecognizedSpec)

/-- ITS FALSE NEIGHBOUR: 'it returns false'. Refute it at one input. -/
def tablesRecognizedWrong : ChangeSpec := { name := "tablesRecognized", fn := fun _ => fun
  | [d1, d2] => { results := [.lit (.bool false)], args := [d1, d2] }
  | _ => none }
def TablesRecognizedWrongFalsely : Prop := tablesRecognizedRow.holds Tryd.pinned (OpenSpec.ofChange tablesRecognizedWrong)

/- THE SECOND FORM. 'bulk': how many values and letters a reading holds, each counted each time it is reached (what is shared counts as often as it is met; a slice's spare places count too). A statement '..UptoSaid' is the law's where the arguments, and the package variables that the reading takes, are together of bulk at most 1048576: NARROWER than '..Said'. Prove '..Said' where nothing that the law and all that it calls make is longer than what came in: it says more and counts as full. Else prove '..UptoSaid'. A law counts once. -/
mutual
def uptoBulk {H : Type} : DataW H → Nat
  | .lit (.string bytes) => bytes.length + 1
  | .lit _ => 1
  | .nil => 1
  | .ptr d => uptoBulk d + 1
  | .slice elems spare => uptoBulkAll elems + uptoBulkAll spare + 1
  | .agg parts => uptoBulkAll parts + 1
  | .iface _ d => uptoBulk d + 1
  | .map entries => uptoBulkEntries entries + 1
  | .held _ => 1
def uptoBulkAll {H : Type} : List (DataW H) → Nat
  | [] => 0
  | d :: r => uptoBulk d + uptoBulkAll r
def uptoBulkEntries {H : Type} : List (Lit × DataW H) → Nat
  | [] => 0
  | x :: r => uptoBulkEntry x + uptoBulkEntries r
def uptoBulkEntry {H : Type} : Lit × DataW H → Nat
  | (.string bytes, d) => bytes.length + uptoBulk d + 1
  | (_, d) => uptoBulk d + 1
 end
def uptoSmall : (H : Type) → List (DataW H) → Bool := fun _ ds => decide (uptoBulkAll ds ≤ 1048576)
def OpenSpec.upto (s : _root_.Go.ChangeSpec) : _root_.Go.OpenSpec := { _root_.Go.OpenSpec.ofChange s with cond := some uptoSmall }

/-- 'narratorlaw24.TablesCells', WHERE WHAT IT READS IS OF BULK AT MOST 1048576: true; the input reads as it did. -/
def tablesCellsUptoRow : OpenClaim := { program := "ytbbhkibbkecojaadoor", sum := "cbf5ecd4d263837755f6dd72cb570a1deae8f7e6ed25412fb4eff70b1ac9f9ba", func := "narrator/narratorlaw24.TablesCells", spec := "tablesCells", unfollowed := true, recurses := true, named := ["unicode/utf8.first", "unicode/utf8.acceptRanges"], apart := false, laid := [("unicode/utf8.acceptRanges", laid_unicode_utf8_acceptRanges), ("unicode/utf8.first", laid_unicode_utf8_first)], narrowed := true }
def TablesCellsUptoSaid : Prop := tablesCellsUptoRow.holds Tryd.pinned (OpenSpec.upto tablesCellsSpec)

/-- 'narratorlaw24.TablesForm', WHERE WHAT IT READS IS OF BULK AT MOST 1048576: true; the input reads as it did. -/
def tablesFormUptoRow : OpenClaim := { program := "ytbbhkibbkecojaadoor", sum := "cbf5ecd4d263837755f6dd72cb570a1deae8f7e6ed25412fb4eff70b1ac9f9ba", func := "narrator/narratorlaw24.TablesForm", spec := "tablesForm", unfollowed := true, recurses := true, named := ["unicode/utf8.first", "unicode/utf8.acceptRanges"], apart := false, laid := [("unicode/utf8.acceptRanges", laid_unicode_utf8_acceptRanges), ("unicode/utf8.first", laid_unicode_utf8_first)], narrowed := true }
def TablesFormUptoSaid : Prop := tablesFormUptoRow.holds Tryd.pinned (OpenSpec.upto tablesFormSpec)

/-- 'narratorlaw24.TablesIndependent', WHERE WHAT IT READS IS OF BULK AT MOST 1048576: true; the input reads as it did. -/
def tablesIndependentUptoRow : OpenClaim := { program := "ytbbhkibbkecojaadoor", sum := "cbf5ecd4d263837755f6dd72cb570a1deae8f7e6ed25412fb4eff70b1ac9f9ba", func := "narrator/narratorlaw24.TablesIndependent", spec := "tablesIndependent", unfollowed := true, recurses := true, named := ["unicode/utf8.first", "unicode/utf8.acceptRanges"], apart := false, laid := [("unicode/utf8.acceptRanges", laid_unicode_utf8_acceptRanges), ("unicode/utf8.first", laid_unicode_utf8_first)], narrowed := true }
def TablesIndependentUptoSaid : Prop := tablesIndependentUptoRow.holds Tryd.pinned (OpenSpec.upto tablesIndependentSpec)

/-- 'narratorlaw24.TablesFind', WHERE WHAT IT READS IS OF BULK AT MOST 1048576: true; the input reads as it did. -/
def tablesFindUptoRow : OpenClaim := { program := "ytbbhkibbkecojaadoor", sum := "cbf5ecd4d263837755f6dd72cb570a1deae8f7e6ed25412fb4eff70b1ac9f9ba", func := "narrator/narratorlaw24.TablesFind", spec := "tablesFind", unfollowed := true, recurses := true, named := ["unicode/utf8.first", "unicode/utf8.acceptRanges"], apart := false, laid := [("unicode/utf8.acceptRanges", laid_unicode_utf8_acceptRanges), ("unicode/utf8.first", laid_unicode_utf8_first)], narrowed := true }
def TablesFindUptoSaid : Prop := tablesFindUptoRow.holds Tryd.pinned (OpenSpec.upto tablesFindSpec)

/-- 'narratorlaw24.TablesGutters', WHERE WHAT IT READS IS OF BULK AT MOST 1048576: true; the input reads as it did. -/
def tablesGuttersUptoRow : OpenClaim := { program := "ytbbhkibbkecojaadoor", sum := "cbf5ecd4d263837755f6dd72cb570a1deae8f7e6ed25412fb4eff70b1ac9f9ba", func := "narrator/narratorlaw24.TablesGutters", spec := "tablesGutters", unfollowed := true, recurses := true, named := ["unicode/utf8.first", "unicode/utf8.acceptRanges"], apart := false, laid := [("unicode/utf8.acceptRanges", laid_unicode_utf8_acceptRanges), ("unicode/utf8.first", laid_unicode_utf8_first)], narrowed := true }
def TablesGuttersUptoSaid : Prop := tablesGuttersUptoRow.holds Tryd.pinned (OpenSpec.upto tablesGuttersSpec)

/-- 'narratorlaw24.TablesComplete', WHERE WHAT IT READS IS OF BULK AT MOST 1048576: true; the input reads as it did. -/
def tablesCompleteUptoRow : OpenClaim := { program := "ytbbhkibbkecojaadoor", sum := "cbf5ecd4d263837755f6dd72cb570a1deae8f7e6ed25412fb4eff70b1ac9f9ba", func := "narrator/narratorlaw24.TablesComplete", spec := "tablesComplete", inPlace := ["internal/bytealg.IndexByteString", "internal/bytealg.IndexString", "internal/bytealg.CountString", "internal/abi.NoEscape", "internal/bytealg.MakeNoZero"], unfollowed := true, recurses := true, named := ["unicode/utf8.first", "unicode/utf8.acceptRanges", "internal/bytealg.MaxLen"], apart := false, laid := [("unicode/utf8.acceptRanges", laid_unicode_utf8_acceptRanges), ("unicode/utf8.first", laid_unicode_utf8_first)], narrowed := true }
def TablesCompleteUptoSaid : Prop := tablesCompleteUptoRow.holds Tryd.pinned (OpenSpec.upto tablesCompleteSpec)

/-- 'narratorlaw24.TablesRecognized', WHERE WHAT IT READS IS OF BULK AT MOST 1048576: true; the input reads as it did. -/
def tablesRecognizedUptoRow : OpenClaim := { program := "ytbbhkibbkecojaadoor", sum := "cbf5ecd4d263837755f6dd72cb570a1deae8f7e6ed25412fb4eff70b1ac9f9ba", func := "narrator/narratorlaw24.TablesRecognized", spec := "tablesRecognized", inPlace := ["internal/bytealg.IndexByteString", "internal/bytealg.IndexString", "internal/abi.NoEscape", "internal/bytealg.MakeNoZero"], unfollowed := true, recurses := true, named := ["unicode/utf8.first", "unicode/utf8.acceptRanges", "internal/bytealg.MaxLen"], apart := false, laid := [("unicode/utf8.acceptRanges", laid_unicode_utf8_acceptRanges), ("unicode/utf8.first", laid_unicode_utf8_first)], narrowed := true }
def TablesRecognizedUptoSaid : Prop := tablesRecognizedUptoRow.holds Tryd.pinned (OpenSpec.upto tablesRecognizedSpec)

end Rows
end Go.Proofs.YtbbhkibbkecojaaDoor
