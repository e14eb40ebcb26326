/-
  NARROWER THAN 'FOR EVERY INPUT', by the rows' own cells (each row's printed sentence says how): KeyinputEncode: laid · KeyinputDifferent: laid · KeyinputModes: laid · KeyinputModifiers: laid · KeyinputDecode: laid · KeyinputRoundTrip: laid · KeyinputLongest: laid · KeyinputSequences: laid.
  DERIVED. THE GIVEN ROWS OF THIS SEAT. 8 by the template 'for every input the law returns true; each argument reads behind the call as it read before'; 0 by the template 'total and deterministic' (their statements: YtpilpchijmappaaDoorTotals.lean).
  GIVEN WITH THE SEED: the statements are not yours to turn. If you find one false, say at which input.
  Laid BY PROGRAM, IN A SANDBOX (cutbox-rows.mjs): the forced cells as the released guide's own fill.sh prints them over the translation d13eb4bd4deec48f… (all of the seat's roots in one cut). By AI agents, Wed Nov 11 2026. No macro, syntax, notation, axiom, sorry.
-/
import Derived.Test.YtpilpchijmappaaDoorChecked
import GoSem.PinnedTables
import GoSem.Claim
import GoSem.ClaimJoined
import GoSem.ClaimMapViews
import Derived.JoinedTies
import Derived.KernelRfl
namespace Go.Proofs.YtpilpchijmappaaDoor
/- THE CELL 'sum', in the pinned program and in every row, IS THE sha256 OF THE DUMP (.gsa) THAT YtpilpchijmappaaDoorProg.lean LOADS. Nothing in Lean hashes anything: it is a label: what it is worth is what the hold of that sum in a sandbox is worth. -/
noncomputable def Tryd.pinned : Pinned := { name := "ytpilpchijmappaadoor", sum := "d13eb4bd4deec48f81e45826096c23ef89e90f15e5e2d09afb86645fd1e7535a", checked := Tryd.checked }
namespace Rows
def none {H : Type} : Left H := { results := [], args := [] }

/- WHAT THE LISTED PACKAGE-LEVEL VARIABLES READ AS WHEN THE CALL BEGINS. Each datum BY PROGRAM (the guide's laid-datum.mjs) off the statement by which the dump's own 'gosem.cut.vars' lays the variable. In a bare row this is a premise. The card (YtpilpchijmappaaDoorCards.lean) ties it to the program's text. -/
def laid_math_bits_deBruijn32tab {H : Type} : DataW H := .agg [.lit (.int .u8 0), .lit (.int .u8 1), .lit (.int .u8 28), .lit (.int .u8 2), .lit (.int .u8 29), .lit (.int .u8 14), .lit (.int .u8 24), .lit (.int .u8 3), .lit (.int .u8 30), .lit (.int .u8 22), .lit (.int .u8 20), .lit (.int .u8 15), .lit (.int .u8 25), .lit (.int .u8 17), .lit (.int .u8 4), .lit (.int .u8 8), .lit (.int .u8 31), .lit (.int .u8 27), .lit (.int .u8 13), .lit (.int .u8 23), .lit (.int .u8 21), .lit (.int .u8 19), .lit (.int .u8 16), .lit (.int .u8 7), .lit (.int .u8 26), .lit (.int .u8 12), .lit (.int .u8 18), .lit (.int .u8 6), .lit (.int .u8 11), .lit (.int .u8 5), .lit (.int .u8 10), .lit (.int .u8 9)]
def laid_math_bits_deBruijn64tab {H : Type} : DataW H := .agg [.lit (.int .u8 0), .lit (.int .u8 1), .lit (.int .u8 56), .lit (.int .u8 2), .lit (.int .u8 57), .lit (.int .u8 49), .lit (.int .u8 28), .lit (.int .u8 3), .lit (.int .u8 61), .lit (.int .u8 58), .lit (.int .u8 42), .lit (.int .u8 50), .lit (.int .u8 38), .lit (.int .u8 29), .lit (.int .u8 17), .lit (.int .u8 4), .lit (.int .u8 62), .lit (.int .u8 47), .lit (.int .u8 59), .lit (.int .u8 36), .lit (.int .u8 45), .lit (.int .u8 43), .lit (.int .u8 51), .lit (.int .u8 22), .lit (.int .u8 53), .lit (.int .u8 39), .lit (.int .u8 33), .lit (.int .u8 30), .lit (.int .u8 24), .lit (.int .u8 18), .lit (.int .u8 12), .lit (.int .u8 5), .lit (.int .u8 63), .lit (.int .u8 55), .lit (.int .u8 48), .lit (.int .u8 27), .lit (.int .u8 60), .lit (.int .u8 41), .lit (.int .u8 37), .lit (.int .u8 16), .lit (.int .u8 46), .lit (.int .u8 35), .lit (.int .u8 44), .lit (.int .u8 21), .lit (.int .u8 52), .lit (.int .u8 32), .lit (.int .u8 23), .lit (.int .u8 11), .lit (.int .u8 54), .lit (.int .u8 26), .lit (.int .u8 40), .lit (.int .u8 15), .lit (.int .u8 34), .lit (.int .u8 20), .lit (.int .u8 31), .lit (.int .u8 10), .lit (.int .u8 25), .lit (.int .u8 14), .lit (.int .u8 19), .lit (.int .u8 9), .lit (.int .u8 13), .lit (.int .u8 8), .lit (.int .u8 7), .lit (.int .u8 6)]
def laid_internal_strconv_uint64pow10 {H : Type} : DataW H := .agg [.lit (.int .u64 1), .lit (.int .u64 10), .lit (.int .u64 100), .lit (.int .u64 1000), .lit (.int .u64 10000), .lit (.int .u64 100000), .lit (.int .u64 1000000), .lit (.int .u64 10000000), .lit (.int .u64 100000000), .lit (.int .u64 1000000000), .lit (.int .u64 10000000000), .lit (.int .u64 100000000000), .lit (.int .u64 1000000000000), .lit (.int .u64 10000000000000), .lit (.int .u64 100000000000000), .lit (.int .u64 1000000000000000), .lit (.int .u64 10000000000000000), .lit (.int .u64 100000000000000000), .lit (.int .u64 1000000000000000000), .lit (.int .u64 10000000000000000000)]
def laid_unicode_utf8_acceptRanges {H : Type} : DataW H := .agg [.agg [.lit (.int .u8 128), .lit (.int .u8 191)], .agg [.lit (.int .u8 160), .lit (.int .u8 191)], .agg [.lit (.int .u8 128), .lit (.int .u8 159)], .agg [.lit (.int .u8 144), .lit (.int .u8 191)], .agg [.lit (.int .u8 128), .lit (.int .u8 143)], .agg [.lit (.int .u8 0), .lit (.int .u8 0)], .agg [.lit (.int .u8 0), .lit (.int .u8 0)], .agg [.lit (.int .u8 0), .lit (.int .u8 0)], .agg [.lit (.int .u8 0), .lit (.int .u8 0)], .agg [.lit (.int .u8 0), .lit (.int .u8 0)], .agg [.lit (.int .u8 0), .lit (.int .u8 0)], .agg [.lit (.int .u8 0), .lit (.int .u8 0)], .agg [.lit (.int .u8 0), .lit (.int .u8 0)], .agg [.lit (.int .u8 0), .lit (.int .u8 0)], .agg [.lit (.int .u8 0), .lit (.int .u8 0)], .agg [.lit (.int .u8 0), .lit (.int .u8 0)]]
/-- One of Go's own tables, pinned by name: the form's constant. -/
def laid_unicode_utf8_first : DataW Unit := Go.Pinned.utf8First

/-- 'narratorlaw14.KeyinputEncode': WHATEVER THE INPUT: true; the input reads as it did. -/
def keyinputEncodeSpec : ChangeSpec := { name := "keyinputEncode", fn := fun _ => fun
  | [d1, d2] => { results := [.lit (.bool true)], args := [d1, d2] }
  | _ => none }
def keyinputEncodeRow : OpenClaim := { program := "ytpilpchijmappaadoor", sum := "d13eb4bd4deec48f81e45826096c23ef89e90f15e5e2d09afb86645fd1e7535a", func := "narrator/narratorlaw14.KeyinputEncode", spec := "keyinputEncode", unfollowed := true, recurses := true, named := ["internal/strconv.uint64pow10", "math/bits.deBruijn32tab", "math/bits.deBruijn64tab"], apart := false, laid := [("math/bits.deBruijn32tab", laid_math_bits_deBruijn32tab), ("math/bits.deBruijn64tab", laid_math_bits_deBruijn64tab), ("internal/strconv.uint64pow10", laid_internal_strconv_uint64pow10)] }
def KeyinputEncodeSaid : Prop := keyinputEncodeRow.holds Tryd.pinned (OpenSpec.ofChange keyinputEncodeSpec)

/-- ITS FALSE NEIGHBOUR: 'it returns false'. Refute it at one input. -/
def keyinputEncodeWrong : ChangeSpec := { name := "keyinputEncode", fn := fun _ => fun
  | [d1, d2] => { results := [.lit (.bool false)], args := [d1, d2] }
  | _ => none }
def KeyinputEncodeWrongFalsely : Prop := keyinputEncodeRow.holds Tryd.pinned (OpenSpec.ofChange keyinputEncodeWrong)

/-- 'narratorlaw14.KeyinputDifferent': WHATEVER THE INPUT: true; the input reads as it did. -/
def keyinputDifferentSpec : ChangeSpec := { name := "keyinputDifferent", fn := fun _ => fun
  | [d1, d2, d3] => { results := [.lit (.bool true)], args := [d1, d2, d3] }
  | _ => none }
def keyinputDifferentRow : OpenClaim := { program := "ytpilpchijmappaadoor", sum := "d13eb4bd4deec48f81e45826096c23ef89e90f15e5e2d09afb86645fd1e7535a", func := "narrator/narratorlaw14.KeyinputDifferent", spec := "keyinputDifferent", unfollowed := true, recurses := true, named := ["internal/strconv.uint64pow10", "math/bits.deBruijn32tab", "math/bits.deBruijn64tab"], apart := false, laid := [("math/bits.deBruijn32tab", laid_math_bits_deBruijn32tab), ("math/bits.deBruijn64tab", laid_math_bits_deBruijn64tab), ("internal/strconv.uint64pow10", laid_internal_strconv_uint64pow10)] }
def KeyinputDifferentSaid : Prop := keyinputDifferentRow.holds Tryd.pinned (OpenSpec.ofChange keyinputDifferentSpec)

/-- ITS FALSE NEIGHBOUR: 'it returns false'. Refute it at one input. -/
def keyinputDifferentWrong : ChangeSpec := { name := "keyinputDifferent", fn := fun _ => fun
  | [d1, d2, d3] => { results := [.lit (.bool false)], args := [d1, d2, d3] }
  | _ => none }
def KeyinputDifferentWrongFalsely : Prop := keyinputDifferentRow.holds Tryd.pinned (OpenSpec.ofChange keyinputDifferentWrong)

/-- 'narratorlaw14.KeyinputModes': WHATEVER THE INPUT: true; the input reads as it did. -/
def keyinputModesSpec : ChangeSpec := { name := "keyinputModes", fn := fun _ => fun
  | [d1, d2] => { results := [.lit (.bool true)], args := [d1, d2] }
  | _ => none }
def keyinputModesRow : OpenClaim := { program := "ytpilpchijmappaadoor", sum := "d13eb4bd4deec48f81e45826096c23ef89e90f15e5e2d09afb86645fd1e7535a", func := "narrator/narratorlaw14.KeyinputModes", spec := "keyinputModes", unfollowed := true, recurses := true, named := ["internal/strconv.uint64pow10", "math/bits.deBruijn32tab", "math/bits.deBruijn64tab"], apart := false, laid := [("math/bits.deBruijn32tab", laid_math_bits_deBruijn32tab), ("math/bits.deBruijn64tab", laid_math_bits_deBruijn64tab), ("internal/strconv.uint64pow10", laid_internal_strconv_uint64pow10)] }
def KeyinputModesSaid : Prop := keyinputModesRow.holds Tryd.pinned (OpenSpec.ofChange keyinputModesSpec)

/-- ITS FALSE NEIGHBOUR: 'it returns false'. Refute it at one input. -/
def keyinputModesWrong : ChangeSpec := { name := "keyinputModes", fn := fun _ => fun
  | [d1, d2] => { results := [.lit (.bool false)], args := [d1, d2] }
  | _ => none }
def KeyinputModesWrongFalsely : Prop := keyinputModesRow.holds Tryd.pinned (OpenSpec.ofChange keyinputModesWrong)

/-- 'narratorlaw14.KeyinputModifiers': WHATEVER THE INPUT: true; the input reads as it did. -/
def keyinputModifiersSpec : ChangeSpec := { name := "keyinputModifiers", fn := fun _ => fun
  | [d1, d2, d3, d4] => { results := [.lit (.bool true)], args := [d1, d2, d3, d4] }
  | _ => none }
def keyinputModifiersRow : OpenClaim := { program := "ytpilpchijmappaadoor", sum := "d13eb4bd4deec48f81e45826096c23ef89e90f15e5e2d09afb86645fd1e7535a", func := "narrator/narratorlaw14.KeyinputModifiers", spec := "keyinputModifiers", unfollowed := true, recurses := true, named := ["internal/strconv.uint64pow10", "math/bits.deBruijn32tab", "math/bits.deBruijn64tab"], apart := false, laid := [("math/bits.deBruijn32tab", laid_math_bits_deBruijn32tab), ("math/bits.deBruijn64tab", laid_math_bits_deBruijn64tab), ("internal/strconv.uint64pow10", laid_internal_strconv_uint64pow10)] }
def KeyinputModifiersSaid : Prop := keyinputModifiersRow.holds Tryd.pinned (OpenSpec.ofChange keyinputModifiersSpec)

/-- ITS FALSE NEIGHBOUR: 'it returns false'. Refute it at one input. -/
def keyinputModifiersWrong : ChangeSpec := { name := "keyinputModifiers", fn := fun _ => fun
  | [d1, d2, d3, d4] => { results := [.lit (.bool false)], args := [d1, d2, d3, d4] }
  | _ => none }
def KeyinputModifiersWrongFalsely : Prop := keyinputModifiersRow.holds Tryd.pinned (OpenSpec.ofChange keyinputModifiersWrong)

/-- 'narratorlaw14.KeyinputDecode': WHATEVER THE INPUT: true; the input reads as it did. -/
def keyinputDecodeSpec : ChangeSpec := { name := "keyinputDecode", fn := fun _ => fun
  | [d1, d2] => { results := [.lit (.bool true)], args := [d1, d2] }
  | _ => none }
def keyinputDecodeRow : OpenClaim := { program := "ytpilpchijmappaadoor", sum := "d13eb4bd4deec48f81e45826096c23ef89e90f15e5e2d09afb86645fd1e7535a", func := "narrator/narratorlaw14.KeyinputDecode", spec := "keyinputDecode", unfollowed := true, recurses := true, named := ["internal/strconv.uint64pow10", "math/bits.deBruijn32tab", "math/bits.deBruijn64tab", "unicode/utf8.first", "unicode/utf8.acceptRanges"], apart := false, laid := [("math/bits.deBruijn32tab", laid_math_bits_deBruijn32tab), ("math/bits.deBruijn64tab", laid_math_bits_deBruijn64tab), ("internal/strconv.uint64pow10", laid_internal_strconv_uint64pow10), ("unicode/utf8.acceptRanges", laid_unicode_utf8_acceptRanges), ("unicode/utf8.first", laid_unicode_utf8_first)] }
def KeyinputDecodeSaid : Prop := keyinputDecodeRow.holds Tryd.pinned (OpenSpec.ofChange keyinputDecodeSpec)

/-- ITS FALSE NEIGHBOUR: 'it returns false'. Refute it at one input. -/
def keyinputDecodeWrong : ChangeSpec := { name := "keyinputDecode", fn := fun _ => fun
  | [d1, d2] => { results := [.lit (.bool false)], args := [d1, d2] }
  | _ => none }
def KeyinputDecodeWrongFalsely : Prop := keyinputDecodeRow.holds Tryd.pinned (OpenSpec.ofChange keyinputDecodeWrong)

/-- 'narratorlaw14.KeyinputRoundTrip': WHATEVER THE INPUT: true; the input reads as it did. -/
def keyinputRoundTripSpec : ChangeSpec := { name := "keyinputRoundTrip", fn := fun _ => fun
  | [d1, d2] => { results := [.lit (.bool true)], args := [d1, d2] }
  | _ => none }
def keyinputRoundTripRow : OpenClaim := { program := "ytpilpchijmappaadoor", sum := "d13eb4bd4deec48f81e45826096c23ef89e90f15e5e2d09afb86645fd1e7535a", func := "narrator/narratorlaw14.KeyinputRoundTrip", spec := "keyinputRoundTrip", unfollowed := true, recurses := true, named := ["internal/strconv.uint64pow10", "math/bits.deBruijn32tab", "math/bits.deBruijn64tab", "unicode/utf8.first", "unicode/utf8.acceptRanges"], apart := false, laid := [("math/bits.deBruijn32tab", laid_math_bits_deBruijn32tab), ("math/bits.deBruijn64tab", laid_math_bits_deBruijn64tab), ("internal/strconv.uint64pow10", laid_internal_strconv_uint64pow10), ("unicode/utf8.acceptRanges", laid_unicode_utf8_acceptRanges), ("unicode/utf8.first", laid_unicode_utf8_first)] }
def KeyinputRoundTripSaid : Prop := keyinputRoundTripRow.holds Tryd.pinned (OpenSpec.ofChange keyinputRoundTripSpec)

/-- ITS FALSE NEIGHBOUR: 'it returns false'. Refute it at one input. -/
def keyinputRoundTripWrong : ChangeSpec := { name := "keyinputRoundTrip", fn := fun _ => fun
  | [d1, d2] => { results := [.lit (.bool false)], args := [d1, d2] }
  | _ => none }
def KeyinputRoundTripWrongFalsely : Prop := keyinputRoundTripRow.holds Tryd.pinned (OpenSpec.ofChange keyinputRoundTripWrong)

/-- 'narratorlaw14.KeyinputLongest': WHATEVER THE INPUT: true; the input reads as it did. -/
def keyinputLongestSpec : ChangeSpec := { name := "keyinputLongest", fn := fun _ => fun
  | [d1, d2, d3] => { results := [.lit (.bool true)], args := [d1, d2, d3] }
  | _ => none }
def keyinputLongestRow : OpenClaim := { program := "ytpilpchijmappaadoor", sum := "d13eb4bd4deec48f81e45826096c23ef89e90f15e5e2d09afb86645fd1e7535a", func := "narrator/narratorlaw14.KeyinputLongest", spec := "keyinputLongest", unfollowed := true, recurses := true, named := ["internal/strconv.uint64pow10", "math/bits.deBruijn32tab", "math/bits.deBruijn64tab", "unicode/utf8.first", "unicode/utf8.acceptRanges"], apart := false, laid := [("math/bits.deBruijn32tab", laid_math_bits_deBruijn32tab), ("math/bits.deBruijn64tab", laid_math_bits_deBruijn64tab), ("internal/strconv.uint64pow10", laid_internal_strconv_uint64pow10), ("unicode/utf8.acceptRanges", laid_unicode_utf8_acceptRanges), ("unicode/utf8.first", laid_unicode_utf8_first)] }
def KeyinputLongestSaid : Prop := keyinputLongestRow.holds Tryd.pinned (OpenSpec.ofChange keyinputLongestSpec)

/-- ITS FALSE NEIGHBOUR: 'it returns false'. Refute it at one input. -/
def keyinputLongestWrong : ChangeSpec := { name := "keyinputLongest", fn := fun _ => fun
  | [d1, d2, d3] => { results := [.lit (.bool false)], args := [d1, d2, d3] }
  | _ => none }
def KeyinputLongestWrongFalsely : Prop := keyinputLongestRow.holds Tryd.pinned (OpenSpec.ofChange keyinputLongestWrong)

/-- 'narratorlaw14.KeyinputSequences': WHATEVER THE INPUT: true; the input reads as it did. -/
def keyinputSequencesSpec : ChangeSpec := { name := "keyinputSequences", fn := fun _ => fun
  | [d1, d2] => { results := [.lit (.bool true)], args := [d1, d2] }
  | _ => none }
def keyinputSequencesRow : OpenClaim := { program := "ytpilpchijmappaadoor", sum := "d13eb4bd4deec48f81e45826096c23ef89e90f15e5e2d09afb86645fd1e7535a", func := "narrator/narratorlaw14.KeyinputSequences", spec := "keyinputSequences", unfollowed := true, recurses := true, named := ["internal/strconv.uint64pow10", "math/bits.deBruijn32tab", "math/bits.deBruijn64tab", "unicode/utf8.first", "unicode/utf8.acceptRanges"], apart := false, laid := [("math/bits.deBruijn32tab", laid_math_bits_deBruijn32tab), ("math/bits.deBruijn64tab", laid_math_bits_deBruijn64tab), ("internal/strconv.uint64pow10", laid_internal_strconv_uint64pow10), ("unicode/utf8.acceptRanges", laid_unicode_utf8_acceptRanges), ("unicode/utf8.first", laid_unicode_utf8_first)] }
def KeyinputSequencesSaid : Prop := keyinputSequencesRow.holds Tryd.pinned (OpenSpec.ofChange keyinputSequencesSpec)

/-- ITS FALSE NEIGHBOUR: 'it returns false'. Refute it at one input. -/
def keyinputSequencesWrong : ChangeSpec := { name := "keyinputSequences", fn := fun _ => fun
  | [d1, d2] => { results := [.lit (.bool false)], args := [d1, d2] }
  | _ => none }
def KeyinputSequencesWrongFalsely : Prop := keyinputSequencesRow.holds Tryd.pinned (OpenSpec.ofChange keyinputSequencesWrong)

/- THE SECOND FORM. 'bulk': how many values and letters a reading holds, each counted each time it is reached (what is shared counts as often as it is met; a slice's spare places count too). A statement '..UptoSaid' is the law's where the arguments, and the package variables that the reading takes, are together of bulk at most 1048576: NARROWER than '..Said'. Prove '..Said' where nothing that the law and all that it calls make is longer than what came in: it says more and counts as full. Else prove '..UptoSaid'. A law counts once. -/
mutual
def uptoBulk {H : Type} : DataW H → Nat
  | .lit (.string bytes) => bytes.length + 1
  | .lit _ => 1
  | .nil => 1
  | .ptr d => uptoBulk d + 1
  | .slice elems spare => uptoBulkAll elems + uptoBulkAll spare + 1
  | .agg parts => uptoBulkAll parts + 1
  | .iface _ d => uptoBulk d + 1
  | .map entries => uptoBulkEntries entries + 1
  | .held _ => 1
def uptoBulkAll {H : Type} : List (DataW H) → Nat
  | [] => 0
  | d :: r => uptoBulk d + uptoBulkAll r
def uptoBulkEntries {H : Type} : List (Lit × DataW H) → Nat
  | [] => 0
  | x :: r => uptoBulkEntry x + uptoBulkEntries r
def uptoBulkEntry {H : Type} : Lit × DataW H → Nat
  | (.string bytes, d) => bytes.length + uptoBulk d + 1
  | (_, d) => uptoBulk d + 1
 end
def uptoSmall : (H : Type) → List (DataW H) → Bool := fun _ ds => decide (uptoBulkAll ds ≤ 1048576)
def OpenSpec.upto (s : _root_.Go.ChangeSpec) : _root_.Go.OpenSpec := { _root_.Go.OpenSpec.ofChange s with cond := some uptoSmall }

/-- 'narratorlaw14.KeyinputEncode', WHERE WHAT IT READS IS OF BULK AT MOST 1048576: true; the input reads as it did. -/
def keyinputEncodeUptoRow : OpenClaim := { program := "ytpilpchijmappaadoor", sum := "d13eb4bd4deec48f81e45826096c23ef89e90f15e5e2d09afb86645fd1e7535a", func := "narrator/narratorlaw14.KeyinputEncode", spec := "keyinputEncode", unfollowed := true, recurses := true, named := ["internal/strconv.uint64pow10", "math/bits.deBruijn32tab", "math/bits.deBruijn64tab"], apart := false, laid := [("math/bits.deBruijn32tab", laid_math_bits_deBruijn32tab), ("math/bits.deBruijn64tab", laid_math_bits_deBruijn64tab), ("internal/strconv.uint64pow10", laid_internal_strconv_uint64pow10)], narrowed := true }
def KeyinputEncodeUptoSaid : Prop := keyinputEncodeUptoRow.holds Tryd.pinned (OpenSpec.upto keyinputEncodeSpec)

/-- 'narratorlaw14.KeyinputDifferent', WHERE WHAT IT READS IS OF BULK AT MOST 1048576: true; the input reads as it did. -/
def keyinputDifferentUptoRow : OpenClaim := { program := "ytpilpchijmappaadoor", sum := "d13eb4bd4deec48f81e45826096c23ef89e90f15e5e2d09afb86645fd1e7535a", func := "narrator/narratorlaw14.KeyinputDifferent", spec := "keyinputDifferent", unfollowed := true, recurses := true, named := ["internal/strconv.uint64pow10", "math/bits.deBruijn32tab", "math/bits.deBruijn64tab"], apart := false, laid := [("math/bits.deBruijn32tab", laid_math_bits_deBruijn32tab), ("math/bits.deBruijn64tab", laid_math_bits_deBruijn64tab), ("internal/strconv.uint64pow10", laid_internal_strconv_uint64pow10)], narrowed := true }
def KeyinputDifferentUptoSaid : Prop := keyinputDifferentUptoRow.holds Tryd.pinned (OpenSpec.upto keyinputDifferentSpec)

/-- 'narratorlaw14.KeyinputModes', WHERE WHAT IT READS IS OF BULK AT MOST 1048576: true; the input reads as it did. -/
def keyinputModesUptoRow : OpenClaim := { program := "ytpilpchijmappaadoor", sum := "d13eb4bd4deec48f81e45826096c23ef89e90f15e5e2d09afb86645fd1e7535a", func := "narrator/narratorlaw14.KeyinputModes", spec := "keyinputModes", unfollowed := true, recurses := true, named := ["internal/strconv.uint64pow10", "math/bits.deBruijn32tab", "math/bits.deBruijn64tab"], apart := false, laid := [("math/bits.deBruijn32tab", laid_math_bits_deBruijn32tab), ("math/bits.deBruijn64tab", laid_math_bits_deBruijn64tab), ("internal/strconv.uint64pow10", laid_internal_strconv_uint64pow10)], narrowed := true }
def KeyinputModesUptoSaid : Prop := keyinputModesUptoRow.holds Tryd.pinned (OpenSpec.upto keyinputModesSpec)

/-- 'narratorlaw14.KeyinputModifiers', WHERE WHAT IT READS IS OF BULK AT MOST 1048576: true; the input reads as it did. -/
def keyinputModifiersUptoRow : OpenClaim := { program := "ytpilpchijmappaadoor", sum := "d13eb4bd4deec48f81e45826096c23ef89e90f15e5e2d09afb86645fd1e7535a", func := "narrator/narratorlaw14.KeyinputModifiers", spec := "keyinputModifiers", unfollowed := true, recurses := true, named := ["internal/strconv.uint64pow10", "math/bits.deBruijn32tab", "math/bits.deBruijn64tab"], apart := false, laid := [("math/bits.deBruijn32tab", laid_math_bits_deBruijn32tab), ("math/bits.deBruijn64tab", laid_math_bits_deBruijn64tab), ("internal/strconv.uint64pow10", laid_internal_strconv_uint64pow10)], narrowed := true }
def KeyinputModifiersUptoSaid : Prop := keyinputModifiersUptoRow.holds Tryd.pinned (OpenSpec.upto keyinputModifiersSpec)

/-- 'narratorlaw14.KeyinputDecode', WHERE WHAT IT READS IS OF BULK AT MOST 1048576: true; the input reads as it did. -/
def keyinputDecodeUptoRow : OpenClaim := { program := "ytpilpchijmappaadoor", sum := "d13eb4bd4deec48f81e45826096c23ef89e90f15e5e2d09afb86645fd1e7535a", func := "narrator/narratorlaw14.KeyinputDecode", spec := "keyinputDecode", unfollowed := true, recurses := true, named := ["internal/strconv.uint64pow10", "math/bits.deBruijn32tab", "math/bits.deBruijn64tab", "unicode/utf8.first", "unicode/utf8.acceptRanges"], apart := false, laid := [("math/bits.deBruijn32tab", laid_math_bits_deBruijn32tab), ("math/bits.deBruijn64tab", laid_math_bits_deBruijn64tab), ("internal/strconv.uint64pow10", laid_internal_strconv_uint64pow10), ("unicode/utf8.acceptRanges", laid_unicode_utf8_acceptRanges), ("unicode/utf8.first", laid_unicode_utf8_first)], narrowed := true }
def KeyinputDecodeUptoSaid : Prop := keyinputDecodeUptoRow.holds Tryd.pinned (OpenSpec.upto keyinputDecodeSpec)

/-- 'narratorlaw14.KeyinputRoundTrip', WHERE WHAT IT READS IS OF BULK AT MOST 1048576: true; the input reads as it did. -/
def keyinputRoundTripUptoRow : OpenClaim := { program := "ytpilpchijmappaadoor", sum := "d13eb4bd4deec48f81e45826096c23ef89e90f15e5e2d09afb86645fd1e7535a", func := "narrator/narratorlaw14.KeyinputRoundTrip", spec := "keyinputRoundTrip", unfollowed := true, recurses := true, named := ["internal/strconv.uint64pow10", "math/bits.deBruijn32tab", "math/bits.deBruijn64tab", "unicode/utf8.first", "unicode/utf8.acceptRanges"], apart := false, laid := [("math/bits.deBruijn32tab", laid_math_bits_deBruijn32tab), ("math/bits.deBruijn64tab", laid_math_bits_deBruijn64tab), ("internal/strconv.uint64pow10", laid_internal_strconv_uint64pow10), ("unicode/utf8.acceptRanges", laid_unicode_utf8_acceptRanges), ("unicode/utf8.first", laid_unicode_utf8_first)], narrowed := true }
def KeyinputRoundTripUptoSaid : Prop := keyinputRoundTripUptoRow.holds Tryd.pinned (OpenSpec.upto keyinputRoundTripSpec)

/-- 'narratorlaw14.KeyinputLongest', WHERE WHAT IT READS IS OF BULK AT MOST 1048576: true; the input reads as it did. -/
def keyinputLongestUptoRow : OpenClaim := { program := "ytpilpchijmappaadoor", sum := "d13eb4bd4deec48f81e45826096c23ef89e90f15e5e2d09afb86645fd1e7535a", func := "narrator/narratorlaw14.KeyinputLongest", spec := "keyinputLongest", unfollowed := true, recurses := true, named := ["internal/strconv.uint64pow10", "math/bits.deBruijn32tab", "math/bits.deBruijn64tab", "unicode/utf8.first", "unicode/utf8.acceptRanges"], apart := false, laid := [("math/bits.deBruijn32tab", laid_math_bits_deBruijn32tab), ("math/bits.deBruijn64tab", laid_math_bits_deBruijn64tab), ("internal/strconv.uint64pow10", laid_internal_strconv_uint64pow10), ("unicode/utf8.acceptRanges", laid_unicode_utf8_acceptRanges), ("unicode/utf8.first", laid_unicode_utf8_first)], narrowed := true }
def KeyinputLongestUptoSaid : Prop := keyinputLongestUptoRow.holds Tryd.pinned (OpenSpec.upto keyinputLongestSpec)

/-- 'narratorlaw14.KeyinputSequences', WHERE WHAT IT READS IS OF BULK AT MOST 1048576: true; the input reads as it did. -/
def keyinputSequencesUptoRow : OpenClaim := { program := "ytpilpchijmappaadoor", sum := "d13eb4bd4deec48f81e45826096c23ef89e90f15e5e2d09afb86645fd1e7535a", func := "narrator/narratorlaw14.KeyinputSequences", spec := "keyinputSequences", unfollowed := true, recurses := true, named := ["internal/strconv.uint64pow10", "math/bits.deBruijn32tab", "math/bits.deBruijn64tab", "unicode/utf8.first", "unicode/utf8.acceptRanges"], apart := false, laid := [("math/bits.deBruijn32tab", laid_math_bits_deBruijn32tab), ("math/bits.deBruijn64tab", laid_math_bits_deBruijn64tab), ("internal/strconv.uint64pow10", laid_internal_strconv_uint64pow10), ("unicode/utf8.acceptRanges", laid_unicode_utf8_acceptRanges), ("unicode/utf8.first", laid_unicode_utf8_first)], narrowed := true }
def KeyinputSequencesUptoSaid : Prop := keyinputSequencesUptoRow.holds Tryd.pinned (OpenSpec.upto keyinputSequencesSpec)

end Rows
end Go.Proofs.YtpilpchijmappaaDoor
