/-
  NARROWER THAN 'FOR EVERY INPUT', by the rows' own cells (each row's printed sentence says how): ClippingBetween: laid · ClippingParts: laid · ClippingOthers: laid · ClippingWords: laid · ClippingConcealed: laid · ClippingWhole: laid · ClippingBlock: laid · ClippingFull: laid.
  DERIVED. THE GIVEN ROWS OF THIS SEAT. 8 by the template 'for every input the law returns true; each argument reads behind the call as it read before'; 0 by the template 'total and deterministic' (their statements: YtmloijhdibicdaaDoorTotals.lean).
  GIVEN WITH THE SEED: the statements are not yours to turn. If you find one false, say at which input.
  Laid BY PROGRAM, IN A SANDBOX (cutbox-rows.mjs): the forced cells as the released guide's own fill.sh prints them over the translation 7b5be0689ccd3112… (all of the seat's roots in one cut). By AI agents, Wed Nov 11 2026. No macro, syntax, notation, axiom, sorry.
-/
import Derived.Test.YtmloijhdibicdaaDoorChecked
import GoSem.PinnedTables
import GoSem.Claim
import GoSem.ClaimJoined
import GoSem.ClaimMapViews
import Derived.JoinedTies
import Derived.KernelRfl
namespace Go.Proofs.YtmloijhdibicdaaDoor
/- THE CELL 'sum', in the pinned program and in every row, IS THE sha256 OF THE DUMP (.gsa) THAT YtmloijhdibicdaaDoorProg.lean LOADS. Nothing in Lean hashes anything: it is a label: what it is worth is what the hold of that sum in a sandbox is worth. -/
noncomputable def Tryd.pinned : Pinned := { name := "ytmloijhdibicdaadoor", sum := "7b5be0689ccd3112d0fb66e0810a9f25b55d988ed85bb484415c181901f12703", checked := Tryd.checked }
namespace Rows
def none {H : Type} : Left H := { results := [], args := [] }

/- WHAT THE LISTED PACKAGE-LEVEL VARIABLES READ AS WHEN THE CALL BEGINS. Each datum BY PROGRAM (the guide's laid-datum.mjs) off the statement by which the dump's own 'gosem.cut.vars' lays the variable. In a bare row this is a premise. The card (YtmloijhdibicdaaDoorCards.lean) ties it to the program's text. -/
def laid_unicode_utf8_acceptRanges {H : Type} : DataW H := .agg [.agg [.lit (.int .u8 128), .lit (.int .u8 191)], .agg [.lit (.int .u8 160), .lit (.int .u8 191)], .agg [.lit (.int .u8 128), .lit (.int .u8 159)], .agg [.lit (.int .u8 144), .lit (.int .u8 191)], .agg [.lit (.int .u8 128), .lit (.int .u8 143)], .agg [.lit (.int .u8 0), .lit (.int .u8 0)], .agg [.lit (.int .u8 0), .lit (.int .u8 0)], .agg [.lit (.int .u8 0), .lit (.int .u8 0)], .agg [.lit (.int .u8 0), .lit (.int .u8 0)], .agg [.lit (.int .u8 0), .lit (.int .u8 0)], .agg [.lit (.int .u8 0), .lit (.int .u8 0)], .agg [.lit (.int .u8 0), .lit (.int .u8 0)], .agg [.lit (.int .u8 0), .lit (.int .u8 0)], .agg [.lit (.int .u8 0), .lit (.int .u8 0)], .agg [.lit (.int .u8 0), .lit (.int .u8 0)], .agg [.lit (.int .u8 0), .lit (.int .u8 0)]]
/-- One of Go's own tables, pinned by name: the form's constant. -/
def laid_unicode_utf8_first : DataW Unit := Go.Pinned.utf8First

/-- 'narratorlaw45.ClippingBetween': WHATEVER THE INPUT: true; the input reads as it did. -/
def clippingBetweenSpec : ChangeSpec := { name := "clippingBetween", fn := fun _ => fun
  | [d1, d2, d3] => { results := [.lit (.bool true)], args := [d1, d2, d3] }
  | _ => none }
def clippingBetweenRow : OpenClaim := { program := "ytmloijhdibicdaadoor", sum := "7b5be0689ccd3112d0fb66e0810a9f25b55d988ed85bb484415c181901f12703", func := "narrator/narratorlaw45.ClippingBetween", spec := "clippingBetween", inPlace := ["internal/abi.NoEscape", "internal/bytealg.MakeNoZero"], unfollowed := true, recurses := true, named := ["unicode/utf8.first", "unicode/utf8.acceptRanges"], apart := false, laid := [("unicode/utf8.acceptRanges", laid_unicode_utf8_acceptRanges), ("unicode/utf8.first", laid_unicode_utf8_first)] }
def ClippingBetweenSaid : Prop := clippingBetweenRow.holds Tryd.pinned (OpenSpec.ofChange clippingBetweenSpec)

/-- ITS FALSE NEIGHBOUR: 'it returns false'. Refute it at one input. -/
def clippingBetweenWrong : ChangeSpec := { name := "clippingBetween", fn := fun _ => fun
  | [d1, d2, d3] => { results := [.lit (.bool false)], args := [d1, d2, d3] }
  | _ => none }
def ClippingBetweenWrongFalsely : Prop := clippingBetweenRow.holds Tryd.pinned (OpenSpec.ofChange clippingBetweenWrong)

/-- 'narratorlaw45.ClippingParts': WHATEVER THE INPUT: true; the input reads as it did. -/
def clippingPartsSpec : ChangeSpec := { name := "clippingParts", fn := fun _ => fun
  | [d] => { results := [.lit (.bool true)], args := [d] }
  | _ => none }
def clippingPartsRow : OpenClaim := { program := "ytmloijhdibicdaadoor", sum := "7b5be0689ccd3112d0fb66e0810a9f25b55d988ed85bb484415c181901f12703", func := "narrator/narratorlaw45.ClippingParts", spec := "clippingParts", inPlace := ["internal/abi.NoEscape", "internal/bytealg.MakeNoZero"], unfollowed := true, recurses := true, named := ["unicode/utf8.first", "unicode/utf8.acceptRanges"], apart := false, laid := [("unicode/utf8.acceptRanges", laid_unicode_utf8_acceptRanges), ("unicode/utf8.first", laid_unicode_utf8_first)] }
def ClippingPartsSaid : Prop := clippingPartsRow.holds Tryd.pinned (OpenSpec.ofChange clippingPartsSpec)

/-- ITS FALSE NEIGHBOUR: 'it returns false'. Refute it at one input. -/
def clippingPartsWrong : ChangeSpec := { name := "clippingParts", fn := fun _ => fun
  | [d] => { results := [.lit (.bool false)], args := [d] }
  | _ => none }
def ClippingPartsWrongFalsely : Prop := clippingPartsRow.holds Tryd.pinned (OpenSpec.ofChange clippingPartsWrong)

/-- 'narratorlaw45.ClippingOthers': WHATEVER THE INPUT: true; the input reads as it did. -/
def clippingOthersSpec : ChangeSpec := { name := "clippingOthers", fn := fun _ => fun
  | [d1, d2, d3] => { results := [.lit (.bool true)], args := [d1, d2, d3] }
  | _ => none }
def clippingOthersRow : OpenClaim := { program := "ytmloijhdibicdaadoor", sum := "7b5be0689ccd3112d0fb66e0810a9f25b55d988ed85bb484415c181901f12703", func := "narrator/narratorlaw45.ClippingOthers", spec := "clippingOthers", inPlace := ["internal/abi.NoEscape", "internal/bytealg.MakeNoZero"], unfollowed := true, recurses := true, named := ["unicode/utf8.first", "unicode/utf8.acceptRanges"], apart := false, laid := [("unicode/utf8.acceptRanges", laid_unicode_utf8_acceptRanges), ("unicode/utf8.first", laid_unicode_utf8_first)] }
def ClippingOthersSaid : Prop := clippingOthersRow.holds Tryd.pinned (OpenSpec.ofChange clippingOthersSpec)

/-- ITS FALSE NEIGHBOUR: 'it returns false'. Refute it at one input. -/
def clippingOthersWrong : ChangeSpec := { name := "clippingOthers", fn := fun _ => fun
  | [d1, d2, d3] => { results := [.lit (.bool false)], args := [d1, d2, d3] }
  | _ => none }
def ClippingOthersWrongFalsely : Prop := clippingOthersRow.holds Tryd.pinned (OpenSpec.ofChange clippingOthersWrong)

/-- 'narratorlaw45.ClippingWords': WHATEVER THE INPUT: true; the input reads as it did. -/
def clippingWordsSpec : ChangeSpec := { name := "clippingWords", fn := fun _ => fun
  | [d1, d2, d3] => { results := [.lit (.bool true)], args := [d1, d2, d3] }
  | _ => none }
def clippingWordsRow : OpenClaim := { program := "ytmloijhdibicdaadoor", sum := "7b5be0689ccd3112d0fb66e0810a9f25b55d988ed85bb484415c181901f12703", func := "narrator/narratorlaw45.ClippingWords", spec := "clippingWords", inPlace := ["internal/abi.NoEscape", "internal/bytealg.MakeNoZero", "internal/bytealg.IndexByteString", "internal/bytealg.IndexString"], unfollowed := true, recurses := true, named := ["unicode/utf8.first", "unicode/utf8.acceptRanges", "internal/bytealg.MaxLen"], apart := false, laid := [("unicode/utf8.acceptRanges", laid_unicode_utf8_acceptRanges), ("unicode/utf8.first", laid_unicode_utf8_first)] }
def ClippingWordsSaid : Prop := clippingWordsRow.holds Tryd.pinned (OpenSpec.ofChange clippingWordsSpec)

/-- ITS FALSE NEIGHBOUR: 'it returns false'. Refute it at one input. -/
def clippingWordsWrong : ChangeSpec := { name := "clippingWords", fn := fun _ => fun
  | [d1, d2, d3] => { results := [.lit (.bool false)], args := [d1, d2, d3] }
  | _ => none }
def ClippingWordsWrongFalsely : Prop := clippingWordsRow.holds Tryd.pinned (OpenSpec.ofChange clippingWordsWrong)

/-- 'narratorlaw45.ClippingConcealed': WHATEVER THE INPUT: true; the input reads as it did. -/
def clippingConcealedSpec : ChangeSpec := { name := "clippingConcealed", fn := fun _ => fun
  | [d] => { results := [.lit (.bool true)], args := [d] }
  | _ => none }
def clippingConcealedRow : OpenClaim := { program := "ytmloijhdibicdaadoor", sum := "7b5be0689ccd3112d0fb66e0810a9f25b55d988ed85bb484415c181901f12703", func := "narrator/narratorlaw45.ClippingConcealed", spec := "clippingConcealed", inPlace := ["internal/abi.NoEscape", "internal/bytealg.MakeNoZero"], unfollowed := true, recurses := true, named := ["unicode/utf8.first", "unicode/utf8.acceptRanges"], apart := false, laid := [("unicode/utf8.acceptRanges", laid_unicode_utf8_acceptRanges), ("unicode/utf8.first", laid_unicode_utf8_first)] }
def ClippingConcealedSaid : Prop := clippingConcealedRow.holds Tryd.pinned (OpenSpec.ofChange clippingConcealedSpec)

/-- ITS FALSE NEIGHBOUR: 'it returns false'. Refute it at one input. -/
def clippingConcealedWrong : ChangeSpec := { name := "clippingConcealed", fn := fun _ => fun
  | [d] => { results := [.lit (.bool false)], args := [d] }
  | _ => none }
def ClippingConcealedWrongFalsely : Prop := clippingConcealedRow.holds Tryd.pinned (OpenSpec.ofChange clippingConcealedWrong)

/-- 'narratorlaw45.ClippingWhole': WHATEVER THE INPUT: true; the input reads as it did. -/
def clippingWholeSpec : ChangeSpec := { name := "clippingWhole", fn := fun _ => fun
  | [d] => { results := [.lit (.bool true)], args := [d] }
  | _ => none }
def clippingWholeRow : OpenClaim := { program := "ytmloijhdibicdaadoor", sum := "7b5be0689ccd3112d0fb66e0810a9f25b55d988ed85bb484415c181901f12703", func := "narrator/narratorlaw45.ClippingWhole", spec := "clippingWhole", inPlace := ["internal/abi.NoEscape", "internal/bytealg.MakeNoZero", "internal/bytealg.CountString", "internal/bytealg.IndexByteString", "internal/bytealg.IndexString"], unfollowed := true, recurses := true, named := ["unicode/utf8.first", "unicode/utf8.acceptRanges", "internal/bytealg.MaxLen"], apart := false, laid := [("unicode/utf8.acceptRanges", laid_unicode_utf8_acceptRanges), ("unicode/utf8.first", laid_unicode_utf8_first)] }
def ClippingWholeSaid : Prop := clippingWholeRow.holds Tryd.pinned (OpenSpec.ofChange clippingWholeSpec)

/-- ITS FALSE NEIGHBOUR: 'it returns false'. Refute it at one input. -/
def clippingWholeWrong : ChangeSpec := { name := "clippingWhole", fn := fun _ => fun
  | [d] => { results := [.lit (.bool false)], args := [d] }
  | _ => none }
def ClippingWholeWrongFalsely : Prop := clippingWholeRow.holds Tryd.pinned (OpenSpec.ofChange clippingWholeWrong)

/-- 'narratorlaw45.ClippingBlock': WHATEVER THE INPUT: true; the input reads as it did. -/
def clippingBlockSpec : ChangeSpec := { name := "clippingBlock", fn := fun _ => fun
  | [d1, d2] => { results := [.lit (.bool true)], args := [d1, d2] }
  | _ => none }
def clippingBlockRow : OpenClaim := { program := "ytmloijhdibicdaadoor", sum := "7b5be0689ccd3112d0fb66e0810a9f25b55d988ed85bb484415c181901f12703", func := "narrator/narratorlaw45.ClippingBlock", spec := "clippingBlock", inPlace := ["internal/abi.NoEscape", "internal/bytealg.MakeNoZero", "internal/bytealg.IndexByteString", "internal/bytealg.IndexString"], unfollowed := true, recurses := true, named := ["unicode/utf8.first", "unicode/utf8.acceptRanges", "internal/bytealg.MaxLen"], apart := false, laid := [("unicode/utf8.acceptRanges", laid_unicode_utf8_acceptRanges), ("unicode/utf8.first", laid_unicode_utf8_first)] }
def ClippingBlockSaid : Prop := clippingBlockRow.holds Tryd.pinned (OpenSpec.ofChange clippingBlockSpec)

/-- ITS FALSE NEIGHBOUR: 'it returns false'. Refute it at one input. -/
def clippingBlockWrong : ChangeSpec := { name := "clippingBlock", fn := fun _ => fun
  | [d1, d2] => { results := [.lit (.bool false)], args := [d1, d2] }
  | _ => none }
def ClippingBlockWrongFalsely : Prop := clippingBlockRow.holds Tryd.pinned (OpenSpec.ofChange clippingBlockWrong)

/-- 'narratorlaw45.ClippingFull': WHATEVER THE INPUT: true; the input reads as it did. -/
def clippingFullSpec : ChangeSpec := { name := "clippingFull", fn := fun _ => fun
  | [d1, d2, d3] => { results := [.lit (.bool true)], args := [d1, d2, d3] }
  | _ => none }
def clippingFullRow : OpenClaim := { program := "ytmloijhdibicdaadoor", sum := "7b5be0689ccd3112d0fb66e0810a9f25b55d988ed85bb484415c181901f12703", func := "narrator/narratorlaw45.ClippingFull", spec := "clippingFull", inPlace := ["internal/abi.NoEscape", "internal/bytealg.MakeNoZero", "internal/bytealg.IndexByteString", "internal/bytealg.IndexString"], unfollowed := true, recurses := true, named := ["unicode/utf8.first", "unicode/utf8.acceptRanges", "internal/bytealg.MaxLen"], apart := false, laid := [("unicode/utf8.acceptRanges", laid_unicode_utf8_acceptRanges), ("unicode/utf8.first", laid_unicode_utf8_first)] }
def ClippingFullSaid : Prop := clippingFullRow.holds Tryd.pinned (OpenSpec.ofChange clippingFullSpec)

/-- ITS FALSE NEIGHBOUR: 'it returns false'. Refute it at one input. -/
def clippingFullWrong : ChangeSpec := { name := "clippingFull", fn := fun _ => fun
  | [d1, d2, d3] => { results := [.lit (.bool false)], args := [d1, d2, d3] }
  | _ => none }
def ClippingFullWrongFalsely : Prop := clippingFullRow.holds Tryd.pinned (OpenSpec.ofChange clippingFullWrong)

/- THE SECOND FORM. 'bulk': how many values and letters a reading holds, each counted each time it is reached (what is shared counts as often as it is met; a slice's spare places count too). A statement '..UptoSaid' is the law's where the arguments, and the package variables that the reading takes, are together of bulk at most 1048576: NARROWER than '..Said'. Prove '..Said' where nothing that the law and all that it calls make is longer than what came in: it says more and counts as full. Else prove '..UptoSaid'. A law counts once. -/
mutual
def uptoBulk {H : Type} : DataW H → Nat
  | .lit (.string bytes) => bytes.length + 1
  | .lit _ => 1
  | .nil => 1
  | .ptr d => uptoBulk d + 1
  | .slice elems spare => uptoBulkAll elems + uptoBulkAll spare + 1
  | .agg parts => uptoBulkAll parts + 1
  | .iface _ d => uptoBulk d + 1
  | .map entries => uptoBulkEntries entries + 1
  | .held _ => 1
def uptoBulkAll {H : Type} : List (DataW H) → Nat
  | [] => 0
  | d :: r => uptoBulk d + uptoBulkAll r
def uptoBulkEntries {H : Type} : List (Lit × DataW H) → Nat
  | [] => 0
  | x :: r => uptoBulkEntry x + uptoBulkEntries r
def uptoBulkEntry {H : Type} : Lit × DataW H → Nat
  | (.string bytes, d) => bytes.length + uptoBulk d + 1
  | (_, d) => uptoBulk d + 1
 end
def uptoSmall : (H : Type) → List (DataW H) → Bool := fun _ ds => decide (uptoBulkAll ds ≤ 1048576)
def OpenSpec.upto (s : _root_.Go.ChangeSpec) : _root_.Go.OpenSpec := { _root_.Go.OpenSpec.ofChange s with cond := some uptoSmall }

/-- 'narratorlaw45.ClippingBetween', WHERE WHAT IT READS IS OF BULK AT MOST 1048576: true; the input reads as it did. -/
def clippingBetweenUptoRow : OpenClaim := { program := "ytmloijhdibicdaadoor", sum := "7b5be0689ccd3112d0fb66e0810a9f25b55d988ed85bb484415c181901f12703", func := "narrator/narratorlaw45.ClippingBetween", spec := "clippingBetween", inPlace := ["internal/abi.NoEscape", "internal/bytealg.MakeNoZero"], unfollowed := true, recurses := true, named := ["unicode/utf8.first", "unicode/utf8.acceptRanges"], apart := false, laid := [("unicode/utf8.acceptRanges", laid_unicode_utf8_acceptRanges), ("unicode/utf8.first", laid_unicode_utf8_first)], narrowed := true }
def ClippingBetweenUptoSaid : Prop := clippingBetweenUptoRow.holds Tryd.pinned (OpenSpec.upto clippingBetweenSpec)

/-- 'narratorlaw45.ClippingParts', WHERE WHAT IT READS IS OF BULK AT MOST 1048576: true; the input reads as it did. -/
def clippingPartsUptoRow : OpenClaim := { program := "ytmloijhdibicdaadoor", sum := "7b5be0689ccd3112d0fb66e0810a9f25b55d988ed85bb484415c181901f12703", func := "narrator/narratorlaw45.ClippingParts", spec := "clippingParts", inPlace := ["internal/abi.NoEscape", "internal/bytealg.MakeNoZero"], unfollowed := true, recurses := true, named := ["unicode/utf8.first", "unicode/utf8.acceptRanges"], apart := false, laid := [("unicode/utf8.acceptRanges", laid_unicode_utf8_acceptRanges), ("unicode/utf8.first", laid_unicode_utf8_first)], narrowed := true }
def ClippingPartsUptoSaid : Prop := clippingPartsUptoRow.holds Tryd.pinned (OpenSpec.upto clippingPartsSpec)

/-- 'narratorlaw45.ClippingOthers', WHERE WHAT IT READS IS OF BULK AT MOST 1048576: true; the input reads as it did. -/
def clippingOthersUptoRow : OpenClaim := { program := "ytmloijhdibicdaadoor", sum := "7b5be0689ccd3112d0fb66e0810a9f25b55d988ed85bb484415c181901f12703", func := "narrator/narratorlaw45.ClippingOthers", spec := "clippingOthers", inPlace := ["internal/abi.NoEscape", "internal/bytealg.MakeNoZero"], unfollowed := true, recurses := true, named := ["unicode/utf8.first", "unicode/utf8.acceptRanges"], apart := false, laid := [("unicode/utf8.acceptRanges", laid_unicode_utf8_acceptRanges), ("unicode/utf8.first", laid_unicode_utf8_first)], narrowed := true }
def ClippingOthersUptoSaid : Prop := clippingOthersUptoRow.holds Tryd.pinned (OpenSpec.upto clippingOthersSpec)

/-- 'narratorlaw45.ClippingWords', WHERE WHAT IT READS IS OF BULK AT MOST 1048576: true; the input reads as it did. -/
def clippingWordsUptoRow : OpenClaim := { program := "ytmloijhdibicdaadoor", sum := "7b5be0689ccd3112d0fb66e0810a9f25b55d988ed85bb484415c181901f12703", func := "narrator/narratorlaw45.ClippingWords", spec := "clippingWords", inPlace := ["internal/abi.NoEscape", "internal/bytealg.MakeNoZero", "internal/bytealg.IndexByteString", "internal/bytealg.IndexString"], unfollowed := true, recurses := true, named := ["unicode/utf8.first", "unicode/utf8.acceptRanges", "internal/bytealg.MaxLen"], apart := false, laid := [("unicode/utf8.acceptRanges", laid_unicode_utf8_acceptRanges), ("unicode/utf8.first", laid_unicode_utf8_first)], narrowed := true }
def ClippingWordsUptoSaid : Prop := clippingWordsUptoRow.holds Tryd.pinned (OpenSpec.upto clippingWordsSpec)

/-- 'narratorlaw45.ClippingConcealed', WHERE WHAT IT READS IS OF BULK AT MOST 1048576: true; the input reads as it did. -/
def clippingConcealedUptoRow : OpenClaim := { program := "ytmloijhdibicdaadoor", sum := "7b5be0689ccd3112d0fb66e0810a9f25b55d988ed85bb484415c181901f12703", func := "narrator/narratorlaw45.ClippingConcealed", spec := "clippingConcealed", inPlace := ["internal/abi.NoEscape", "internal/bytealg.MakeNoZero"], unfollowed := true, recurses := true, named := ["unicode/utf8.first", "unicode/utf8.acceptRanges"], apart := false, laid := [("unicode/utf8.acceptRanges", laid_unicode_utf8_acceptRanges), ("unicode/utf8.first", laid_unicode_utf8_first)], narrowed := true }
def ClippingConcealedUptoSaid : Prop := clippingConcealedUptoRow.holds Tryd.pinned (OpenSpec.upto clippingConcealedSpec)

/-- 'narratorlaw45.ClippingWhole', WHERE WHAT IT READS IS OF BULK AT MOST 1048576: true; the input reads as it did. -/
def clippingWholeUptoRow : OpenClaim := { program := "ytmloijhdibicdaadoor", sum := "7b5be0689ccd3112d0fb66e0810a9f25b55d988ed85bb484415c181901f12703", func := "narrator/narratorlaw45.ClippingWhole", spec := "clippingWhole", inPlace := ["internal/abi.NoEscape", "internal/bytealg.MakeNoZero", "internal/bytealg.CountString", "internal/bytealg.IndexByteString", "internal/bytealg.IndexString"], unfollowed := true, recurses := true, named := ["unicode/utf8.first", "unicode/utf8.acceptRanges", "internal/bytealg.MaxLen"], apart := false, laid := [("unicode/utf8.acceptRanges", laid_unicode_utf8_acceptRanges), ("unicode/utf8.first", laid_unicode_utf8_first)], narrowed := true }
def ClippingWholeUptoSaid : Prop := clippingWholeUptoRow.holds Tryd.pinned (OpenSpec.upto clippingWholeSpec)

/-- 'narratorlaw45.ClippingBlock', WHERE WHAT IT READS IS OF BULK AT MOST 1048576: true; the input reads as it did. -/
def clippingBlockUptoRow : OpenClaim := { program := "ytmloijhdibicdaadoor", sum := "7b5be0689ccd3112d0fb66e0810a9f25b55d988ed85bb484415c181901f12703", func := "narrator/narratorlaw45.ClippingBlock", spec := "clippingBlock", inPlace := ["internal/abi.NoEscape", "internal/bytealg.MakeNoZero", "internal/bytealg.IndexByteString", "internal/bytealg.IndexString"], unfollowed := true, recurses := true, named := ["unicode/utf8.first", "unicode/utf8.acceptRanges", "internal/bytealg.MaxLen"], apart := false, laid := [("unicode/utf8.acceptRanges", laid_unicode_utf8_acceptRanges), ("unicode/utf8.first", laid_unicode_utf8_first)], narrowed := true }
def ClippingBlockUptoSaid : Prop := clippingBlockUptoRow.holds Tryd.pinned (OpenSpec.upto clippingBlockSpec)

/-- 'narratorlaw45.ClippingFull', WHERE WHAT IT READS IS OF BULK AT MOST 1048576: true; the input reads as it did. -/
def clippingFullUptoRow : OpenClaim := { program := "ytmloijhdibicdaadoor", sum := "7b5be0689ccd3112d0fb66e0810a9f25b55d988ed85bb484415c181901f12703", func := "narrator/narratorlaw45.ClippingFull", spec := "clippingFull", inPlace := ["internal/abi.NoEscape", "internal/bytealg.MakeNoZero", "internal/bytealg.IndexByteString", "internal/bytealg.IndexString"], unfollowed := true, recurses := true, named := ["unicode/utf8.first", "unicode/utf8.acceptRanges", "internal/bytealg.MaxLen"], apart := false, laid := [("unicode/utf8.acceptRanges", laid_unicode_utf8_acceptRanges), ("unicode/utf8.first", laid_unicode_utf8_first)], narrowed := true }
def ClippingFullUptoSaid : Prop := clippingFullUptoRow.holds Tryd.pinned (OpenSpec.upto clippingFullSpec)

end Rows
end Go.Proofs.YtmloijhdibicdaaDoor
